import Derived.Test.YtoooalfhjcfinaaAbs21
namespace Go.Abs
set_option linter.unusedVariables false
set_option linter.unusedSimpArgs false
variable {P : Program}

/-! ### A state told in other words -/
def St.ids (s : St) : List Nat := s.env.flatMap (fun x => x.2.2.ids) ++ s.heap.flatMap fun x => x.2.ids

/-- Names may be turned so: those of memory that is told stay apart, and no other one becomes one of those. -/
def renOk (f : Nat → Nat) (s : St) : Bool :=
  distinctL (s.heap.map fun x => f x.1) && s.ids.all fun id => (s.heap.any fun x => Nat.beq x.1 id) || !(s.heap.any fun x => Nat.beq (f x.1) (f id))

def St.renS (f : Nat → Nat) (s : St) : Option St :=
  bif renOk f s then some ⟨s.env.map fun x => (x.1, x.2.1, x.2.2.ren f), heapRen f s.heap, s.n⟩ else none

theorem look_any {α : Type 1} {k : Nat} {l : List (Nat × α)} (h : l.any (fun x => Nat.beq x.1 k) = true) : ∃ o, look k l = some o := by
  induction l with
  | nil => simp at h
  | cons y r ih =>
    obtain ⟨u, x⟩ := y
    simp only [List.any_cons, Bool.or_eq_true] at h
    simp only [look]
    cases hb : Nat.beq u k with
    | true => exact ⟨x, rfl⟩
    | false => rw [hb] at h; simp at h; obtain ⟨o, ho⟩ := ih (by simpa using h); exact ⟨o, by simpa using ho⟩

section
variable {W : World} {A K : Nat → Prop} {s s' : St} {a : Act} {w : World} {ρ : Nat → Value}

theorem Rel.renS (h : Rel W A K s a w ρ) {f : Nat → Nat} (hs : s.renS f = some s') : ∃ ρ', Rel W A K s' a w ρ' := by
  unfold St.renS at hs
  cases hok : renOk f s with
  | false => rw [hok] at hs; cases hs
  | true =>
  rw [hok] at hs
  simp only [cond_true, Option.some.injEq] at hs
  subst hs
  simp only [renOk, Bool.and_eq_true, List.all_eq_true] at hok
  obtain ⟨hdis, hids⟩ := hok
  generalize hρ : (fun k => match srcOf f k s.heap with | some i => ρ i | none => ρ k) = ρ'
  have hρs : ∀ {k i}, srcOf f k s.heap = some i → ρ' k = ρ i := fun hk => by rw [← hρ]; simp [hk]
  have hin : ∀ {k o'}, look k (heapRen f s.heap) = some o' → ∃ i o, srcOf f k s.heap = some i ∧ f i = k ∧ look i s.heap = some o ∧ o' = o.ren f := by
    intro k o' hk
    cases hq : srcOf f k s.heap with
    | none => rw [src_none hq] at hk; cases hk
    | some i =>
      obtain ⟨h1, o, h2, h3⟩ := src_some hq
      rw [h3] at hk; injection hk with hk
      exact ⟨i, o, rfl, h1, h2, hk.symm⟩
  have hid : ∀ id o', id ∈ s.ids → look (f id) (heapRen f s.heap) = some o' → ∃ o, s.H id = some o ∧ o.es = o'.es ∧ ρ' (f id) = ρ id := by
    intro id o' hm hk
    have h1 := hids id hm
    simp only [Bool.or_eq_true, Bool.not_eq_true'] at h1
    rcases h1 with h1 | h1
    · obtain ⟨o, ho⟩ := look_any h1
      have hs := src_key hdis ho
      obtain ⟨i, o2, h2, h3, h4, h5⟩ := hin hk
      rw [hs] at h2; injection h2 with h2; subst h2
      rw [ho] at h4; injection h4 with h4; subst h4
      exact ⟨o, ho, by rw [h5, Obj.ren_es], hρs hs⟩
    · obtain ⟨i, o2, h2, h3, h4, h5⟩ := hin hk
      have : s.heap.any (fun x => Nat.beq (f x.1) (f id)) = true := by
        rw [List.any_eq_true]
        exact ⟨(i, o2), look_mem h4, by simp only [h3]; exact Nat.beq_refl _⟩
      rw [this] at h1; cases h1
  have hOO : ∀ b, b < w.heap.size → (A b ∨ owned ρ' (look · (heapRen f s.heap)) b) → s.O A ρ b := by
    rintro b _ (hA | ⟨k, o, hk, hb⟩)
    · exact .inl hA
    · obtain ⟨i, o2, h2, h3, h4, h5⟩ := hin hk
      rw [hρs h2] at hb
      exact .inr ⟨i, o2, h4, hb⟩
  refine ⟨ρ', h.ext, h.kl, h.al, ⟨fun k o' hk => ?_, fun i j x y g hi hj hbi hbj => ?_, fun k o' g hk hb => ?_⟩, fun k o' g hk hb => ?_, fun t g x hl => ?_, h.defers, h.size⟩
  · obtain ⟨i, o, h2, h3, h4, h5⟩ := hin hk
    subst h5
    have hor := h.mr.obj i o h4
    cases o with
    | box ty cells =>
      obtain ⟨g, vs, hp, hg, hc⟩ := hor
      refine ⟨g, vs, (hρs h2).trans hp, hg, hc.rename hOO fun id o' hh hk => hid id o' ?_ hk⟩
      exact List.mem_append_right _ (List.mem_flatMap.2 ⟨_, look_mem h4, Obj.ids_has hh⟩)
    | rows ty es enc z xs =>
      obtain ⟨vs, hown, hes, hc⟩ := hor
      exact ⟨vs, by rw [hρs h2]; exact hown, hes, hc.mono (fun _ _ _ => rfl) hOO⟩
    | ghost vs cells =>
      refine ⟨by rw [hρs h2]; exact hor.1, hor.2.rename hOO fun id o' hh hk => hid id o' ?_ hk⟩
      exact List.mem_append_right _ (List.mem_flatMap.2 ⟨_, look_mem h4, Obj.ids_has hh⟩)
  · obtain ⟨i1, o1, h2, h3, h4, h5⟩ := hin hi
    obtain ⟨i2, o2, q2, q3, q4, q5⟩ := hin hj
    rw [hρs h2] at hbi; rw [hρs q2] at hbj
    have := h.mr.disj i1 i2 o1 o2 g h4 q4 hbi hbj
    subst this
    exact h3.symm.trans q3
  · obtain ⟨i, o, h2, h3, h4, h5⟩ := hin hk
    rw [hρs h2] at hb
    exact h.mr.av i o g h4 hb
  · obtain ⟨i, o, h2, h3, h4, h5⟩ := hin hk
    rw [hρs h2] at hb
    exact h.low i o g h4 hb
  · have hm : look t (s.env.map fun x => (x.1, ((fun y : Gd × AT => (y.1, y.2.ren f)) x.2))) = some (g, x) := hl
    rw [look_map (fun y : Gd × AT => (y.1, y.2.ren f))] at hm
    simp only [Option.map_eq_some_iff] at hm
    obtain ⟨⟨g', x'⟩, hl', he⟩ := hm
    injection he with e1 e2; subst e1; subst e2
    obtain ⟨v, hv, h1, h2⟩ := h.env t g' x' hl'
    refine ⟨v, hv, fun hp => (h1 hp).rename hOO fun id o' hh hk => hid id o' ?_ hk, h2⟩
    exact List.mem_append_left _ (List.mem_flatMap.2 ⟨_, look_mem hl', AT.ids_has hh⟩)

/-- A cell in a slot or in a variable, told otherwise. -/
inductive Place where
  | slot (t k : Nat)
  | box (id k : Nat)

def cellAt (s : St) : Place → Option Cell
  | .slot t k => match look t s.env with
    | some (_, .v _ cs) => cs[k]?
    | _ => none
  | .box id k => match s.H id with
    | some (.box _ cs) => cs[k]?
    | _ => none

def setAt (s : St) (c : Cell) : Place → St
  | .slot t k => match look t s.env with
    | some (g, .v ag cs) => { s with env := (t, g, .v ag (cs.set k c)) :: s.env }
    | _ => s
  | .box id k => match s.H id with
    | some (.box ty cs) => { s with heap := hset id (.box ty (cs.set k c)) s.heap }
    | _ => s

theorem CRs.set {O : Nat → Prop} {H : Nat → Option Obj} {vs : List Value} {cs : List Cell} (h : CRs O ρ H w vs cs) {k : Nat} {c c' : Cell} (hk : cs[k]? = some c) (hc : ∀ v, CR O ρ H w v c → CR O ρ H w v c') : CRs O ρ H w vs (cs.set k c') := by
  refine ⟨by simpa using h.1, fun j v d hv hd => ?_⟩
  by_cases hj : k = j
  · subst hj
    have hlt := (List.getElem?_eq_some_iff.1 hk).1
    simp [hlt] at hd
    subst hd
    exact hc v (h.2 k v c hv hk)
  · rw [List.getElem?_set_ne hj] at hd
    exact h.2 j v d hv hd

theorem Rel.setAt (h : Rel W A K s a w ρ) {p : Place} {c c' : Cell} (hp : cellAt s p = some c) (hc : ∀ v, CR (s.O A ρ) ρ s.H w v c → CR (s.O A ρ) ρ s.H w v c') : Rel W A K (setAt s c' p) a w ρ := by
  cases p with
  | slot t k =>
    simp only [cellAt] at hp
    split at hp
    · rename_i g ag cs hl
      simp only [Abs.setAt, hl]
      refine ⟨h.ext, h.kl, h.al, h.mr, h.low, fun u q y hu => ?_, h.defers, h.size⟩
      simp only [look] at hu
      cases hb : Nat.beq t u with
      | true =>
        rw [hb] at hu; simp at hu
        obtain ⟨rfl, rfl⟩ := hu
        have := Nat.eq_of_beq_eq_true hb; subst this
        obtain ⟨v, hv, h1, h2⟩ := h.env _ _ _ hl
        refine ⟨v, hv, fun hg => ?_, h2⟩
        have := h1 hg
        cases ag with
        | true => obtain ⟨vs, e, hcs⟩ := this; exact ⟨vs, e, hcs.set hp hc⟩
        | false =>
          obtain ⟨d, e, hcs⟩ := this
          subst e
          cases k with
          | zero => simp at hp; subst hp; exact ⟨c', rfl, hc v hcs⟩
          | succ k => simp at hp
      | false => rw [hb] at hu; exact h.env u q y hu
    · cases hp
  | box b k =>
    simp only [cellAt] at hp
    split at hp
    · rename_i ty cs hb
      simp only [Abs.setAt, hb]
      have hH : ∀ k', ({ s with heap := hset b (.box ty (cs.set k c')) s.heap } : St).H k' = if k' = b then some (.box ty (cs.set k c')) else s.H k' := fun k' => look_hset b k' _ s.heap
      have T : Turn s { s with heap := hset b (.box ty (cs.set k c')) s.heap } w w ρ ρ (· = b) := by
        refine ⟨rfl, rfl, rfl, Nat.le_refl _, fun _ _ _ => rfl, ?_, ?_, ?_, ?_⟩
        · intro id hid; rw [hH, if_neg hid]; exact ⟨rfl, rfl⟩
        · rintro id o g rfl hk hbk
          exact ⟨(h.low id _ g hb hbk).2, .inr ⟨id, _, rfl, hb, hbk⟩⟩
        · rintro i j x y g rfl rfl _ _ _ _; rfl
        · rintro id o' rfl hk
          rw [hH, if_pos rfl] at hk; injection hk with hk; subst hk
          exact .inr ⟨_, hb, rfl, rfl⟩
      refine h.turn T rfl rfl ?_
      rintro id o rfl hk
      rw [hH, if_pos rfl] at hk; injection hk with hk; subst hk
      obtain ⟨g, vs, h1, h2, h3⟩ := h.mr.obj _ _ hb
      refine ⟨g, vs, h1, h2, (h3.set hp hc).mono T.hw T.hO fun i o' _ ho => ?_⟩
      by_cases hi : i = id
      · subst hi
        rw [hH, if_pos rfl] at ho; injection ho with ho; subst ho
        exact ⟨_, hb, rfl, rfl⟩
      · obtain ⟨e1, e2⟩ := T.same i hi
        exact ⟨o', e1 ▸ ho, rfl, e2⟩
    · cases hp

inductive Chg : Type 1
  | keep (ts ids : List Nat)
  | fz (id : Nat)
  | ren (names : List (Nat × Nat))
  | ro (p : Place) (x : Tree)
  | own (p : Place) (d : Nat) (o : Obj)

def isNil : Option Cell → Bool
  | some (.t (.lit (.slice none 0 0))) => true
  | _ => false

def Chg.app (s : St) : Chg → Option St
  | .keep ts ids => some (s.keep ts ids)
  | .fz id => s.fz id
  | .ren names => s.renS (nameOf names)
  | .ro p x => match x with
    | .ro _ _ _ [] => bif isNil (cellAt s p) then some (setAt s (.t x) p) else none
    | _ => none
  | .own p d o => match o with
    | .rows _ _ _ _ [] => bif isNil (cellAt s p) && !s.has d then some (setAt { s with heap := hset d o s.heap } (.own d) p) else none
    | _ => none

theorem isNil_spec {x : Option Cell} (h : isNil x = true) : x = some (.t (.lit (.slice none 0 0))) := by
  unfold isNil at h
  split at h
  · rfl
  · cases h

theorem cellAt_hset {p : Place} {d : Nat} {o : Obj} {c : Cell} (hd : s.has d = false) (h : cellAt s p = some c) (hb : ∀ k, p ≠ .box d k) : cellAt { s with heap := hset d o s.heap } p = some c := by
  cases p with
  | slot t k => exact h
  | box b k =>
    have : b ≠ d := fun e => hb k (by rw [e])
    simp only [cellAt, St.H, look_hset, if_neg this]
    exact h

theorem Rel.chg (h : Rel W A K s a w ρ) {c : Chg} (hs : c.app s = some s') : ∃ ρ', Rel W A K s' a w ρ' := by
  cases c with
  | keep ts ids =>
    simp only [Chg.app, Option.some.injEq] at hs; subst hs
    exact ⟨ρ, h.weaken (fun t x hl => look_pick ts _ hl) (fun t x hl => look_pick ids _ hl) rfl⟩
  | fz id => exact ⟨ρ, h.fz hs⟩
  | ren names => exact h.renS hs
  | ro p x =>
    simp only [Chg.app] at hs
    split at hs
    · rename_i T es enc z
      cases hn : isNil (cellAt s p) with
      | false => rw [hn] at hs; cases hs
      | true =>
        rw [hn] at hs; simp only [cond_true, Option.some.injEq] at hs; subst hs
        refine ⟨ρ, h.setAt (isNil_spec hn) (fun v hv => ?_)⟩
        have := hv.tr
        cases this with
        | lit => exact .t (.nil ..)
    · cases hs
  | own p d o =>
    simp only [Chg.app] at hs
    split at hs
    · rename_i T ty es enc z
      cases hn : (isNil (cellAt s p) && !s.has d) with
      | false => rw [hn] at hs; cases hs
      | true =>
        rw [hn] at hs; simp only [cond_true, Option.some.injEq] at hs; subst hs
        simp only [Bool.and_eq_true, Bool.not_eq_true'] at hn
        obtain ⟨hn, hd⟩ := hn
        have hrel := new_nil h hd ty es enc z
        by_cases hb : ∃ k, p = .box d k
        · obtain ⟨k, rfl⟩ := hb
          have h0 := isNil_spec hn
          simp only [cellAt] at h0
          split at h0
          · rename_i ty' cs hbx
            have : Abs.setAt { s with heap := hset d (.rows ty es enc z []) s.heap } (.own d) (.box d k) = { s with heap := hset d (.rows ty es enc z []) s.heap } := by
              simp only [Abs.setAt, St.H, look_hset, if_pos]
            rw [this]
            exact ⟨_, hrel⟩
          · cases h0
        · refine ⟨_, Rel.setAt (s := { s with heap := hset d (.rows ty es enc z []) s.heap }) hrel (cellAt_hset hd (isNil_spec hn) fun k e => hb ⟨k, e⟩) (fun v hv => ?_)⟩
          have := hv.tr
          cases this with
          | lit =>
            have h1 : (upd ρ d (.slice none 0 0)) d = .slice none 0 0 := by simp [upd]
            have := CR.own (O := St.O { s with heap := hset d (.rows ty es enc z []) s.heap } A (upd ρ d (.slice none 0 0))) (ρ := upd ρ d (.slice none 0 0)) (H := St.H { s with heap := hset d (.rows ty es enc z []) s.heap }) (w := w) (id := d) (o := .rows ty es enc z []) (by simp only [St.H, look_hset, if_pos]) (by rw [h1]; rfl)
            rw [h1] at this
            exact this
    · cases hs

def chgs : List Chg → St → Option St
  | [], s => some s
  | c :: r, s => (c.app s).bind (chgs r)

theorem Rel.chgs : ∀ {l : List Chg} {s s' : St} {ρ : Nat → Value}, Rel W A K s a w ρ → Abs.chgs l s = some s' → ∃ ρ', Rel W A K s' a w ρ'
  | [], s, s', ρ, h, hs => by simp [Abs.chgs] at hs; subst hs; exact ⟨ρ, h⟩
  | c :: r, s, s', ρ, h, hs => by
    simp only [Abs.chgs, Option.bind_eq_some_iff] at hs
    obtain ⟨s1, h1, hs⟩ := hs
    obtain ⟨ρ1, hr⟩ := h.chg h1
    exact Rel.chgs hr hs
end
end Go.Abs
