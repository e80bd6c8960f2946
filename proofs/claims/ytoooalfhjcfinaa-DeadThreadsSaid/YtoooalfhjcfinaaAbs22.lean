import Derived.Test.YtoooalfhjcfinaaAbs14
namespace Go.Abs
set_option linter.unusedVariables false
set_option linter.unusedSimpArgs false
variable {P : Program}

/-! ### What was owned is only read from here on -/
mutual
def Cell.fz (id : Nat) (t : Tree) : Cell → Cell
  | .t x => .t x
  | .own i => bif Nat.beq i id then .t t else .own i
  | .ptr i j k => .ptr i j k
  | .rop c => .rop c
  | .clo g caps => .clo g (fzL id t caps)
def fzL (id : Nat) (t : Tree) : List Cell → List Cell
  | [] => []
  | c :: r => c.fz id t :: fzL id t r
end

theorem fzL_len (id : Nat) (t : Tree) : ∀ l : List Cell, (fzL id t l).length = l.length
  | [] => rfl
  | _ :: r => by simp [fzL, fzL_len id t r]

theorem fzL_get (id : Nat) (t : Tree) : ∀ (l : List Cell) (k : Nat) (c : Cell), (fzL id t l)[k]? = some c → ∃ d, l[k]? = some d ∧ c = d.fz id t
  | [], k, c, h => by simp [fzL] at h
  | x :: r, 0, c, h => by simp [fzL] at h; exact ⟨x, rfl, h.symm⟩
  | x :: r, k + 1, c, h => by simp [fzL] at h; obtain ⟨d, hd, he⟩ := fzL_get id t r k c h; exact ⟨d, by simpa using hd, he⟩

def AT.fz (id : Nat) (t : Tree) : AT → AT
  | .v b cs => .v b (fzL id t cs)
  | .tp xs => .tp (xs.map fun x => (x.1, fzL id t x.2))

def Obj.fz (id : Nat) (t : Tree) : Obj → Obj
  | .box ty cells => .box ty (fzL id t cells)
  | .rows ty es enc z xs => .rows ty es enc z xs
  | .ghost vs cells => .ghost vs (fzL id t cells)

theorem Obj.fz_es (id : Nat) (t : Tree) (o : Obj) : (o.fz id t).es = o.es := by cases o <;> rfl

def heapFz (id : Nat) (t : Tree) (H : List (Nat × Obj)) : List (Nat × Obj) := (del id H).map fun x => (x.1, x.2.fz id t)

theorem look_map {α β : Type 1} (f : α → β) (k : Nat) (l : List (Nat × α)) : look k (l.map fun x => (x.1, f x.2)) = (look k l).map f := by
  induction l with
  | nil => rfl
  | cons y r ih =>
    obtain ⟨u, x⟩ := y
    simp only [List.map_cons, look]
    cases Nat.beq u k with
    | true => rfl
    | false => simpa using ih

theorem look_heapFz (id : Nat) (t : Tree) (k : Nat) (H : List (Nat × Obj)) : look k (heapFz id t H) = if k = id then none else (look k H).map (·.fz id t) := by
  unfold heapFz
  rw [look_map (Obj.fz id t), look_del]
  split <;> rfl

def roOf : Obj → Option Tree
  | .rows _ es enc z xs => some (.ro es enc z xs)
  | _ => none

section
variable {O O' A : Nat → Prop} {ρ : Nat → Value} {w : World} {H : List (Nat × Obj)}

theorem CR.fz {id : Nat} {t : Tree} {o : Obj} (ho : look id H = some o) (ht : TR O' w (ρ id) t) (hO : ∀ b, b < w.heap.size → O' b → O b) {v : Value} {c : Cell} (h : CR O ρ (look · H) w v c) :
    CR O' ρ (look · (heapFz id t H)) w v (c.fz id t) := by
  induction h with
  | t h => exact .t (h.mono (fun _ _ _ => rfl) hO)
  | @own i o' h h1 =>
    simp only [Cell.fz]
    cases hb : Nat.beq i id with
    | true => have := Nat.eq_of_beq_eq_true hb; subst this; exact .t ht
    | false =>
      have hne : i ≠ id := fun e => by subst e; rw [Nat.beq_refl] at hb; cases hb
      exact .own (o := o'.fz id t) (by simp only [look_heapFz, hne, if_false]; rw [show look i H = some o' from h]; rfl) h1
  | @ownj i v h h1 =>
    simp only [Cell.fz]
    cases hb : Nat.beq i id with
    | true => have := Nat.eq_of_beq_eq_true hb; subst this; rw [ho] at h; cases h
    | false =>
      have hne : i ≠ id := fun e => by subst e; rw [Nat.beq_refl] at hb; cases hb
      exact .ownj (by simp only [look_heapFz, hne, if_false]; rw [show look i H = none from h]; rfl) h1
  | @ptr i j k g o' h hb =>
    simp only [Cell.fz]
    by_cases hi : i = id
    · exact .ptrj (by simp [look_heapFz, hi]) rfl
    · rw [← Obj.fz_es id t o']
      exact .ptr (o := o'.fz id t) (by simp only [look_heapFz, hi, if_false]; rw [show look i H = some o' from h]; rfl) hb
  | @ptrj i j k v h h1 =>
    simp only [Cell.fz]
    by_cases hi : i = id
    · exact .ptrj (by simp [look_heapFz, hi]) h1
    · exact .ptrj (by simp only [look_heapFz, hi, if_false]; rw [show look i H = none from h]; rfl) h1
  | rop a vals hlen hcell hO1 hrel =>
    have := CR.mono (O' := O') (ρ' := ρ) (H' := (look · (heapFz id t H))) (w' := w) (.rop (ρ := ρ) (H := (look · H)) a vals hlen hcell hO1 hrel) (fun _ _ _ => rfl) hO (fun id o' hh => by simp [Cell.has] at hh)
    exact this
  | @clo g caps vals hlen hrel ih =>
    simp only [Cell.fz]
    refine .clo vals (by rw [fzL_len]; exact hlen) fun k v c hv hc => ?_
    obtain ⟨d, hd, rfl⟩ := fzL_get id t caps k c hc
    exact ih k v d hv hd

theorem CRs.fz {id : Nat} {t : Tree} {o : Obj} (ho : look id H = some o) (ht : TR O' w (ρ id) t) (hO : ∀ b, b < w.heap.size → O' b → O b) {vs : List Value} {cs : List Cell} (h : CRs O ρ (look · H) w vs cs) :
    CRs O' ρ (look · (heapFz id t H)) w vs (fzL id t cs) := by
  refine ⟨by rw [fzL_len]; exact h.1, fun k v c hv hc => ?_⟩
  obtain ⟨d, hd, rfl⟩ := fzL_get id t cs k c hc
  exact (h.2 k v d hv hd).fz ho ht hO

theorem AR.fz {id : Nat} {t : Tree} {o : Obj} (ho : look id H = some o) (ht : TR O' w (ρ id) t) (hO : ∀ b, b < w.heap.size → O' b → O b) {v : Value} {x : AT} (h : AR O ρ (look · H) w v x) :
    AR O' ρ (look · (heapFz id t H)) w v (x.fz id t) := by
  have one : ∀ {v : Value} {b : Bool} {cs : List Cell}, VR O ρ (look · H) w v b cs → VR O' ρ (look · (heapFz id t H)) w v b (fzL id t cs) := by
    intro v b cs h
    cases b with
    | true => obtain ⟨vs, rfl, h⟩ := h; exact ⟨vs, rfl, h.fz ho ht hO⟩
    | false => obtain ⟨c, rfl, h⟩ := h; exact ⟨c.fz id t, rfl, h.fz ho ht hO⟩
  cases x with
  | v agg cells => exact one h
  | tp xs =>
    obtain ⟨vs, rfl, hl, h⟩ := h
    refine ⟨vs, rfl, by simpa using hl, fun k u x hu hx => ?_⟩
    simp only [List.getElem?_map, Option.map_eq_some_iff] at hx
    obtain ⟨y, hy, rfl⟩ := hx
    exact one (h k u y hu hy)

theorem owned_fz {id : Nat} {t : Tree} {b : Nat} (h : owned ρ (look · (heapFz id t H)) b) : ∃ k o, k ≠ id ∧ look k H = some o ∧ blk (ρ k) = some b := by
  obtain ⟨k, o, hk, hb⟩ := h
  simp only [look_heapFz] at hk
  split at hk
  · cases hk
  · rename_i hne
    simp only [Option.map_eq_some_iff] at hk
    obtain ⟨o', ho', _⟩ := hk
    exact ⟨k, o', hne, ho', hb⟩

/-- The slice, as it reads from here on. -/
theorem MR.fzT (h : MR A ρ (look · H) w) {id : Nat} {o : Obj} {t : Tree} (ho : look id H = some o) (ht : roOf o = some t) : TR (fun b => A b ∨ owned ρ (look · (heapFz id t H)) b) w (ρ id) t := by
  cases o with
  | box => cases ht
  | ghost => cases ht
  | rows ty es enc z xs =>
    injection ht with ht; subst ht
    obtain ⟨vs, hown, hes, hct⟩ := h.obj _ _ ho
    have hct2 := hct.mono (w' := w) (O' := fun b => A b ∨ owned ρ (look · (heapFz id (.ro es enc z xs) H)) b) (fun _ _ _ => rfl) (by
      rintro b _ (hA | hb)
      · exact .inl hA
      · obtain ⟨k, o, _, h1, h2⟩ := owned_fz hb
        exact .inr ⟨k, o, h1, h2⟩)
    rcases hown.2 with ⟨e0, hx0⟩ | ⟨g, cap, cur, e0, _, hg, hle, hcm, hsz, htk⟩
    · have : xs = [] := List.length_eq_zero_iff.1 hx0
      subst this
      rw [e0]; exact .nil ..
    · have hbl : blk (ρ id) = some g := by rw [e0]; rfl
      rw [e0]
      refine TR.ro ⟨g, 0, none⟩ cap vs hle hcm hes hct.1 (hown.cells (g := g) (by rw [e0]; rfl)) (.inr ?_) hct2.2
      rintro (hA | hb)
      · exact h.av id _ g ho hbl hA
      · obtain ⟨k, o, hne, h1, h2⟩ := owned_fz hb
        exact hne (h.disj k id o _ g h1 ho h2 hbl)

theorem MR.fz (h : MR A ρ (look · H) w) {id : Nat} {o : Obj} {t : Tree} (ho : look id H = some o) (ht : roOf o = some t) : MR A ρ (look · (heapFz id t H)) w := by
  have hT := h.fzT ho ht
  have hO : ∀ b, b < w.heap.size → (A b ∨ owned ρ (look · (heapFz id t H)) b) → (A b ∨ owned ρ (look · H) b) := by
    rintro b _ (hA | hb)
    · exact .inl hA
    · obtain ⟨k, o, _, h1, h2⟩ := owned_fz hb
      exact .inr ⟨k, o, h1, h2⟩
  have hk : ∀ {k o'}, look k (heapFz id t H) = some o' → ∃ o2, look k H = some o2 ∧ o' = o2.fz id t := by
    intro k o' hk
    rw [look_heapFz] at hk
    split at hk
    · cases hk
    · simp only [Option.map_eq_some_iff] at hk
      obtain ⟨o2, h2, rfl⟩ := hk
      exact ⟨o2, h2, rfl⟩
  refine ⟨fun k o' hko => ?_, fun i j a b g hi hj => ?_, fun k o' g hko => ?_⟩
  · obtain ⟨o2, h2, rfl⟩ := hk hko
    have hor := h.obj k o2 h2
    cases o2 with
    | box ty cells => obtain ⟨g, vs, h1, h3, h4⟩ := hor; exact ⟨g, vs, h1, h3, h4.fz ho hT hO⟩
    | rows ty es enc z xs => obtain ⟨vs, h1, h3, h4⟩ := hor; exact ⟨vs, h1, h3, h4.mono (fun _ _ _ => rfl) hO⟩
    | ghost vs cells => exact ⟨hor.1, hor.2.fz ho hT hO⟩
  · obtain ⟨o2, h2, _⟩ := hk hi
    obtain ⟨o3, h3, _⟩ := hk hj
    exact h.disj i j o2 o3 g h2 h3
  · obtain ⟨o2, h2, _⟩ := hk hko
    exact h.av k o2 g h2
end

/-- The slice id is only read from here on. -/
def St.fz (id : Nat) (s : St) : Option St :=
  match s.H id with
  | some o => match roOf o with
    | some t => some ⟨s.env.map fun x => (x.1, x.2.1, x.2.2.fz id t), heapFz id t s.heap, s.n⟩
    | none => none
  | none => none

section
variable {W : World} {A K : Nat → Prop} {s s' : St} {a : Act} {w : World} {ρ : Nat → Value}

theorem Rel.fz (h : Rel W A K s a w ρ) {id : Nat} (hs : s.fz id = some s') : Rel W A K s' a w ρ := by
  unfold St.fz at hs
  split at hs
  · rename_i o ho
    split at hs
    · rename_i t ht
      injection hs with hs; subst hs
      have hT := h.mr.fzT ho ht
      refine ⟨h.ext, h.kl, h.al, h.mr.fz ho ht, fun k o' g hk hb => ?_, fun u g x hl => ?_, h.defers, h.size⟩
      · simp only [St.H, look_heapFz] at hk
        split at hk
        · cases hk
        · simp only [Option.map_eq_some_iff] at hk
          obtain ⟨o2, h2, _⟩ := hk
          exact h.low k o2 g h2 hb
      · have hm : look u (s.env.map fun x => (x.1, ((fun y : Gd × AT => (y.1, y.2.fz id t)) x.2))) = some (g, x) := hl
        rw [look_map (fun y : Gd × AT => (y.1, y.2.fz id t))] at hm
        simp only [Option.map_eq_some_iff] at hm
        obtain ⟨⟨g', x'⟩, hl', he⟩ := hm
        injection he with e1 e2; subst e1; subst e2
        obtain ⟨v, hv, h1, h2⟩ := h.env u g' x' hl'
        refine ⟨v, hv, fun hp => (h1 hp).fz ho hT ?_, h2⟩
        rintro b _ (hA | hb)
        · exact .inl hA
        · obtain ⟨k, o, _, q1, q2⟩ := owned_fz hb
          exact .inr ⟨k, o, q1, q2⟩
    · cases hs
  · cases hs
end

theorem map_same {α : Type 1} {f : α → α} : ∀ (l : List α), (∀ x ∈ l, f x = x) → l.map f = l
  | [], _ => rfl
  | x :: r, h => by simp only [List.map_cons]; rw [h x (by simp), map_same r fun y hy => h y (by simp [hy])]

mutual
theorem Cell.fz_id {id : Nat} {t : Tree} : ∀ (c : Cell), c.has id = false → c.fz id t = c
  | .t _, _ => rfl
  | .own i, h => by simp only [Cell.has] at h; simp only [Cell.fz, h, cond_false]
  | .ptr _ _ _, _ => rfl
  | .rop _, _ => rfl
  | .clo g caps, h => by simp only [Cell.has] at h; simp only [Cell.fz, fzL_id caps h]
theorem fzL_id {id : Nat} {t : Tree} : ∀ (l : List Cell), hasL id l = false → fzL id t l = l
  | [], _ => rfl
  | c :: r, h => by
    simp only [hasL, Bool.or_eq_false_iff] at h
    simp only [fzL, c.fz_id h.1, fzL_id r h.2]
end

theorem AT.fz_id {id : Nat} {t : Tree} {x : AT} (h : x.has id = false) : x.fz id t = x := by
  cases x with
  | v b cs => simp only [AT.fz, fzL_id cs h]
  | tp xs =>
    simp only [AT.has, List.any_eq_false] at h
    simp only [AT.fz]
    congr 1
    have : ∀ x ∈ xs, (fun x : Bool × List Cell => (x.1, fzL id t x.2)) x = x := fun x hx => by
      have := h x hx
      have h2 : hasL id x.2 = false := by cases hb : hasL id x.2 with | false => rfl | true => exact absurd hb this
      simp only [fzL_id x.2 h2]
    exact map_same xs this

/-- What is made new is only read from here on. -/
def fzR (s : St) (g : Gd) (dst : Option Nat) (r : R) : Option R :=
  match g, dst, r.val with
  | .yes, some d, .v false [.own i] =>
    bif Nat.beq i d && !s.has d then
      match look d r.heap with
      | some o => (roOf o).map fun t => ⟨.v false [.t t], heapFz d t r.heap, r.conds⟩
      | none => none
    else none
  | _, _, _ => none

section
variable {W : World} {A K : Nat → Prop} {s s' : St} {a : Act} {w : World} {ρ : Nat → Value}

theorem fzR_conds {g : Gd} {dst : Option Nat} {r r' : R} (h : fzR s g dst r = some r') : r'.conds = r.conds := by
  unfold fzR at h
  split at h
  · cases hb : (Nat.beq _ _ && !s.has _) with
    | false => rw [hb] at h; cases h
    | true =>
      rw [hb] at h
      simp only [cond_true] at h
      split at h
      · simp only [Option.map_eq_some_iff] at h
        obtain ⟨t, _, h⟩ := h
        subst h; rfl
      · cases h
  · cases h

theorem fzR_goes {o : Oper} {g : Gd} {dst : Option Nat} {r r' : R} (h : Goes P W A K s a w o r) (hr : fzR s g dst r = some r') : Goes P W A K s a w o r' := by
  unfold fzR at hr
  split at hr
  · rename_i d i hval
    cases hb : (Nat.beq i d && !s.has d) with
    | false => rw [hb] at hr; cases hr
    | true =>
      rw [hb] at hr
      simp only [cond_true] at hr
      simp only [Bool.and_eq_true, Bool.not_eq_true'] at hb
      obtain ⟨hi, hd⟩ := hb
      have hi := Nat.eq_of_beq_eq_true hi
      subst hi
      split at hr
      · rename_i ob ho
        simp only [Option.map_eq_some_iff] at hr
        obtain ⟨t, ht, hr⟩ := hr
        subst hr
        intro next Q hn
        refine h next Q fun v w' ρ' hrel hv => hn v w' ρ' ?_ ?_
        · have hfz : St.fz i { s with heap := r.heap } = some { s with heap := heapFz i t r.heap } := by
            unfold St.fz
            simp only [St.H, ho, ht]
            have : s.env.map (fun x => (x.1, x.2.1, x.2.2.fz i t)) = s.env := by
              have h1 : ∀ x ∈ s.env, (fun x : Nat × Gd × AT => (x.1, x.2.1, x.2.2.fz i t)) x = x := fun x hx => by
                simp only [St.has, Bool.or_eq_false_iff, List.any_eq_false] at hd
                have := hd.1 x hx
                have h2 : x.2.2.has i = false := by cases hb : x.2.2.has i with | false => rfl | true => exact absurd hb this
                simp only [AT.fz_id h2]
              exact map_same s.env h1
            rw [this]
          exact hrel.fz hfz
        · rw [hval] at hv
          have hT := hrel.mr.fzT ho ht
          have := hv.fz ho hT (by
            rintro b _ (hA | hb)
            · exact .inl hA
            · obtain ⟨k, o, _, q1, q2⟩ := owned_fz hb
              exact .inr ⟨k, o, q1, q2⟩)
          simpa [AT.fz, fzL, Cell.fz, Nat.beq_refl] using this
      · cases hr
  · cases hr
end

/-- A contract whose answer is only read. -/
theorem AC.fz {f : FuncId} {H : List (Nat × Obj)} {args : List AT} {H' : List (Nat × Obj)} {res : AT} (h : AC P f H args H' res) (id : Nat) {o : Obj} {t : Tree} (ho : look id H' = some o) (ht : roOf o = some t) :
    AC P f H args (heapFz id t H') (res.fz id t) := by
  intro W A ρ vs hA hmr hlow hargs
  refine (h W A ρ vs hA hmr hlow hargs).mono fun e w' => ?_
  rintro ⟨ρ', v, he, hext, hmr', hpl, hv⟩
  have hT := hmr'.fzT ho ht
  refine ⟨ρ', v, he, hext, hmr'.fz ho ht, fun k o' g hk hb => ?_, hv.fz ho hT ?_⟩
  · rw [look_heapFz] at hk
    split at hk
    · cases hk
    · simp only [Option.map_eq_some_iff] at hk
      obtain ⟨o2, h2, _⟩ := hk
      exact hpl k o2 g h2 hb
  · rintro b _ (hA | hb)
    · exact .inl hA
    · obtain ⟨k, o, _, q1, q2⟩ := owned_fz hb
      exact .inr ⟨k, o, q1, q2⟩
end Go.Abs
