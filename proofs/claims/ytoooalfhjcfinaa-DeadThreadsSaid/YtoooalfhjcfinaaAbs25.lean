import Derived.Test.YtoooalfhjcfinaaAbs22
namespace Go.Abs
set_option linter.unusedVariables false
set_option linter.unusedSimpArgs false
variable {P : Program}

/-! ### Calls that are handed what the caller owns -/
def memL (k : Nat) : List Nat → Bool
  | [] => false
  | i :: r => Nat.beq i k || memL k r

/-- What a state keeps of slots and memory. -/
def pick {α : Type 1} (ts : List Nat) (l : List (Nat × α)) : List (Nat × α) :=
  ts.filterMap fun t => (look t l).map fun x => (t, x)

def dels (ids : List Nat) (H : List (Nat × Obj)) : List (Nat × Obj) := H.filter fun x => !memL x.1 ids

theorem look_dels (ids : List Nat) (k : Nat) : ∀ (H : List (Nat × Obj)), look k (dels ids H) = bif memL k ids then none else look k H
  | [] => by cases memL k ids <;> rfl
  | (j, o) :: r => by
    simp only [dels, List.filter_cons]
    have ih := look_dels ids k r
    simp only [dels] at ih
    cases hj : memL j ids with
    | true =>
      simp only [Bool.not_true, Bool.false_eq_true, if_false]
      rw [ih]
      cases hb : Nat.beq j k with
      | true => have := Nat.eq_of_beq_eq_true hb; subst this; rw [hj]; rfl
      | false => simp only [look, hb, cond_false]
    | false =>
      simp only [Bool.not_false, if_true, look]
      cases hb : Nat.beq j k with
      | true => have := Nat.eq_of_beq_eq_true hb; subst this; rw [hj]; rfl
      | false => simp only [cond_false]; exact ih

theorem look_pickB (k : Nat) (l : List (Nat × Obj)) : ∀ (ts : List Nat), look k (pick ts l) = bif memL k ts then look k l else none
  | [] => rfl
  | u :: r => by
    have ih := look_pickB k l r
    unfold pick at ih ⊢
    simp only [List.filterMap_cons]
    cases hu : look u l with
    | none =>
      simp only [Option.map_none]
      rw [ih]
      simp only [memL]
      cases hb : Nat.beq u k with
      | true => have := Nat.eq_of_beq_eq_true hb; subst this; rw [hu]; simp
      | false => simp
    | some y =>
      simp only [Option.map_some, look, memL]
      cases hb : Nat.beq u k with
      | true => have := Nat.eq_of_beq_eq_true hb; subst this; simp [hu]
      | false => simpa using ih

theorem look_app (k : Nat) (l m : List (Nat × Obj)) : look k (l ++ m) = match look k l with | some o => some o | none => look k m := by
  induction l with
  | nil => rfl
  | cons y r ih =>
    obtain ⟨u, x⟩ := y
    simp only [List.cons_append, look]
    cases Nat.beq u k <;> simp [ih]

def isPtrTo (id : Nat) : Cell → Bool
  | .ptr i _ _ => Nat.beq i id
  | _ => false
def isOwn (id : Nat) : Cell → Bool
  | .own i => Nat.beq i id
  | _ => false

/-- What is handed over under this name comes back at the same place. -/
def keptOk (H H' : List (Nat × Obj)) (args : List Cell) (id : Nat) : Bool :=
  match look id H, look id H' with
  | some (.box ..), some (.box ..) => args.any (isPtrTo id)
  | some (.rows _ es _ _ _), some (.rows _ es' _ _ _) => Nat.beq es es' && args.any (isOwn id)
  | _, _ => false

def freshM (names : List (Nat × Nat)) (kept : List Nat) (H H' : List (Nat × Obj)) (args : List Cell) (s : St) : Bool :=
  H'.all fun x => bif memL x.1 kept then Nat.beq (nameOf names x.1) x.1 && keptOk H H' args x.1 else !s.has (nameOf names x.1)

def callStepM (P : Program) (tb : Tab) (ids kept : List Nat) (names : List (Nat × Nat)) (H' : List (Nat × Obj)) (res : AT) (s : St) (g : Gd) (o : Op) : Option R :=
  match g, o with
  | .yes, .call c =>
    match c.callee with
    | .value fo =>
      match opT s fo, capsA s .yes c.args.toList with
      | some (gf, .v false [.clo f caps]), some (xs, q) =>
        if (tb.fns.any fun k => Nat.beq k f) && freshM names kept (pick ids s.heap) H' (xs ++ caps) s && closedB H' res && distinctL (H'.map fun x => nameOf names x.1) then
          some ⟨res.ren (nameOf names), heapRen (nameOf names) H' ++ dels ids s.heap, needs .yes gf ++ q ++ [AC2 P f (pick ids s.heap) (xs ++ caps) H' res]⟩
        else none
      | _, _ => none
    | _ => none
  | _, _ => none

section
variable {W : World} {A K : Nat → Prop} {s : St} {a : Act} {w : World} {ρ : Nat → Value}

theorem ptr_inv {O : Nat → Prop} {H : Nat → Option Obj} {v : Value} {id i j : Nat} {o : Obj} (h : CR O ρ H w v (.ptr id i j)) (ho : H id = some o) : ∃ g, v = .pointer (some ⟨g, i * o.es + j, none⟩) ∧ blk (ρ id) = some g := by
  cases h with
  | ptr h hb => rw [ho] at h; injection h with h; subst h; exact ⟨_, rfl, hb⟩
  | ptrj hn => rw [ho] at hn; cases hn

theorem kept_place {O O' : Nat → Prop} {H H' : List (Nat × Obj)} {args : List Cell} {id : Nat} {ρ' : Nat → Value} {w' : World} {vs : List Value} {A' : Nat → Prop} (hk : keptOk H H' args id = true) (hm : MR A ρ (look · H) w) (hm' : MR A' ρ' (look · H') w')
    (h : CRs O ρ (look · H) w vs args) (h' : CRs O' ρ' (look · H') w' vs args) : ∃ o o', look id H = some o ∧ look id H' = some o' ∧ o.es = o'.es ∧ ρ' id = ρ id := by
  unfold keptOk at hk
  split at hk
  · rename_i ty cs ty' cs' h1 h2
    rw [List.any_eq_true] at hk
    obtain ⟨c, hc, hi⟩ := hk
    obtain ⟨k, hk⟩ := List.getElem?_of_mem hc
    cases c with
    | ptr i x y =>
      have : i = id := Nat.eq_of_beq_eq_true hi
      subst this
      have hlt : k < vs.length := by rw [h.1]; exact (List.getElem?_eq_some_iff.1 hk).1
      have e1 := h.2 k vs[k] _ (List.getElem?_eq_getElem hlt) hk
      have e2 := h'.2 k vs[k] _ (List.getElem?_eq_getElem hlt) hk
      obtain ⟨g, us, hp, _⟩ := hm.obj _ _ h1
      obtain ⟨g', us', hp', _⟩ := hm'.obj _ _ h2
      refine ⟨_, _, h1, h2, rfl, ?_⟩
      generalize vs[k] = v at e1 e2
      obtain ⟨g1, he1, hb1⟩ := ptr_inv e1 h1
      obtain ⟨g2, he2, hb2⟩ := ptr_inv e2 h2
      rw [he1] at he2
      simp only [Value.pointer.injEq, Option.some.injEq, Addr.mk.injEq] at he2
      rw [hp] at hb1; rw [hp'] at hb2
      simp [blk] at hb1 hb2
      rw [hp, hp', hb1, hb2, he2.1]
    | _ => simp [isPtrTo] at hi
  · rename_i T ty es enc z xs T' ty' es' enc' z' xs' h1 h2
    simp only [Bool.and_eq_true] at hk
    obtain ⟨he, hk⟩ := hk
    rw [List.any_eq_true] at hk
    obtain ⟨c, hc, hi⟩ := hk
    obtain ⟨k, hk⟩ := List.getElem?_of_mem hc
    cases c with
    | own i =>
      have : i = id := Nat.eq_of_beq_eq_true hi
      subst this
      have hlt : k < vs.length := by rw [h.1]; exact (List.getElem?_eq_some_iff.1 hk).1
      have e1 := h.2 k vs[k] _ (List.getElem?_eq_getElem hlt) hk
      have e2 := h'.2 k vs[k] _ (List.getElem?_eq_getElem hlt) hk
      refine ⟨_, _, h1, h2, Nat.eq_of_beq_eq_true he, ?_⟩
      generalize hv : vs[k] = v at e1 e2
      cases e1 with
      | ownj hn => rw [h1] at hn; cases hn
      | own hh hb =>
        generalize hw : ρ i = u at e2
        cases e2 with
        | own hh2 hb2 => rfl
        | ownj hn => rw [h2] at hn; cases hn
    | _ => simp [isOwn] at hi
  · cases hk

/-- What the callee is handed: what it owns, and what it doesn't. -/
def Rest (A : Nat → Prop) (ρ : Nat → Value) (s : St) (ids : List Nat) (b : Nat) : Prop := A b ∨ ∃ k o, memL k ids = false ∧ s.H k = some o ∧ blk (ρ k) = some b

theorem rest_O {ids : List Nat} {b : Nat} (h : Rest A ρ s ids b ∨ owned ρ (look · (pick ids s.heap)) b) : s.O A ρ b := by
  rcases h with (hA | ⟨k, o, _, h1, h2⟩) | ⟨k, o, h1, h2⟩
  · exact .inl hA
  · exact .inr ⟨k, o, h1, h2⟩
  · simp only [look_pickB] at h1
    cases hm : memL k ids with
    | false => rw [hm] at h1; cases h1
    | true => rw [hm] at h1; exact .inr ⟨k, o, h1, h2⟩

theorem picked {ids : List Nat} {k : Nat} {o : Obj} (h : look k (pick ids s.heap) = some o) : memL k ids = true ∧ s.H k = some o := by
  rw [look_pickB] at h
  cases hm : memL k ids with
  | false => rw [hm] at h; cases h
  | true => rw [hm] at h; exact ⟨rfl, h⟩

theorem Rel.handed (h : Rel W A K s a w ρ) (ids : List Nat) : MR (Rest A ρ s ids) ρ (look · (pick ids s.heap)) w ∧ (∀ id o g, look id (pick ids s.heap) = some o → blk (ρ id) = some g → g < w.heap.size) ∧
    (∀ b, Rest A ρ s ids b → b < w.heap.size) ∧ ∀ {vs cs}, CRs (s.O A ρ) ρ s.H w vs cs → CRs (fun b => Rest A ρ s ids b ∨ owned ρ (look · (pick ids s.heap)) b) ρ (look · (pick ids s.heap)) w vs cs := by
  have hO : ∀ b, b < w.heap.size → (Rest A ρ s ids b ∨ owned ρ (look · (pick ids s.heap)) b) → s.O A ρ b := fun b _ hb => rest_O hb
  have hid : ∀ id o', look id (pick ids s.heap) = some o' → ∃ o, s.H id = some o ∧ o.es = o'.es ∧ ρ id = ρ id := fun id o' ho => ⟨o', (picked ho).2, rfl, rfl⟩
  refine ⟨⟨fun id o ho => ?_, fun i j x y g hi hj => h.mr.disj i j x y g (picked hi).2 (picked hj).2, fun id o g ho hb => ?_⟩, fun id o g ho hb => (h.low id o g (picked ho).2 hb).2, ?_, fun hc => hc.mono (fun _ _ _ => rfl) hO fun id o' _ ho => hid id o' ho⟩
  · have hor := h.mr.obj id o (picked ho).2
    cases o with
    | box ty cells => obtain ⟨g, vs, h1, h2, h3⟩ := hor; exact ⟨g, vs, h1, h2, h3.mono (fun _ _ _ => rfl) hO fun id o' _ ho => hid id o' ho⟩
    | rows ty es enc z xs => obtain ⟨vs, h1, h2, h3⟩ := hor; exact ⟨vs, h1, h2, h3.mono (fun _ _ _ => rfl) hO⟩
    | ghost vs cells => exact ⟨hor.1, hor.2.mono (fun _ _ _ => rfl) hO fun id o' _ ho => hid id o' ho⟩
  · rintro (hA | ⟨k, o2, hk, h1, h2⟩)
    · exact h.mr.av id o g (picked ho).2 hb hA
    · have := h.mr.disj id k o o2 g (picked ho).2 h1 hb h2
      subst this
      rw [(picked ho).1] at hk; cases hk
  · rintro b (hA | ⟨k, o, _, h1, h2⟩)
    · exact Nat.lt_of_lt_of_le (h.al b hA) h.ext.size
    · exact (h.low k o b h1 h2).2

theorem call_backM (h : Rel W A K s a w ρ) {ids kept : List Nat} {f : Nat → Nat} {H' : List (Nat × Obj)} {res : AT} {ρ' : Nat → Value} {w' : World} {v : Value}
    (hfr : ∀ x ∈ H', s.has (f x.1) = false ∨ (f x.1 = x.1 ∧ ∃ o o', look x.1 (pick ids s.heap) = some o ∧ look x.1 H' = some o' ∧ o.es = o'.es ∧ ρ' x.1 = ρ x.1))
    (hdis : distinctL (H'.map fun x => f x.1) = true) (hcl : closedIn H' res)
    (hext : Ext (fun b => b < w.heap.size ∧ ¬ owned ρ (look · (pick ids s.heap)) b) w w') (hmr : MR (Rest A ρ s ids) ρ' (look · H') w')
    (hpl : ∀ id o g, look id H' = some o → blk (ρ' id) = some g → g < w'.heap.size ∧ (owned ρ (look · (pick ids s.heap)) g ∨ w.heap.size ≤ g))
    (hv : AR (fun b => Rest A ρ s ids b ∨ owned ρ' (look · H') b) ρ' (look · H') w' v res) :
    ∃ ρ'', Rel W A K { s with heap := heapRen f H' ++ dels ids s.heap } a w' ρ'' ∧ AR (St.O { s with heap := heapRen f H' ++ dels ids s.heap } A ρ'') ρ'' (St.H { s with heap := heapRen f H' ++ dels ids s.heap }) w' v (res.ren f) := by
  generalize hρ : (fun k => match srcOf f k H' with | some i => ρ' i | none => ρ k) = ρ''
  have hρs : ∀ {k i}, srcOf f k H' = some i → ρ'' k = ρ' i := fun hk => by rw [← hρ]; simp [hk]
  have hρn : ∀ {k}, srcOf f k H' = none → ρ'' k = ρ k := fun hk => by rw [← hρ]; simp [hk]
  have hHs : ∀ {k i}, srcOf f k H' = some i → ∃ o, look i H' = some o ∧ St.H { s with heap := heapRen f H' ++ dels ids s.heap } k = some (o.ren f) := fun hk => by
    obtain ⟨_, o, h1, h2⟩ := src_some hk
    exact ⟨o, h1, by simp only [St.H, look_app, h2]⟩
  have hHn : ∀ {k}, srcOf f k H' = none → St.H { s with heap := heapRen f H' ++ dels ids s.heap } k = bif memL k ids then none else s.H k := fun hk => by simp only [St.H, look_app, src_none hk, look_dels]
  have hown : ∀ {g}, owned ρ (look · (pick ids s.heap)) g → ∃ k o, memL k ids = true ∧ s.H k = some o ∧ blk (ρ k) = some g := by
    rintro g ⟨k, o, h1, h2⟩
    obtain ⟨q1, q2⟩ := picked h1
    exact ⟨k, o, q1, q2, h2⟩
  have T : Turn s { s with heap := heapRen f H' ++ dels ids s.heap } w w' ρ ρ'' (fun k => memL k ids = true ∨ (srcOf f k H').isSome = true) := by
    refine ⟨hext.os, hext.tape, hext.output, hext.size, fun b hl hb => hext.block b ⟨hl, fun ho => ?_⟩, ?_, ?_, ?_, ?_⟩
    · obtain ⟨k, o, q1, q2, q3⟩ := hown ho
      exact hb k o (.inl q1) q2 q3
    · intro k hk
      have hn : srcOf f k H' = none := by
        cases hq : srcOf f k H' with
        | none => rfl
        | some i => exact absurd (.inr (by rw [hq]; rfl)) hk
      have hm : memL k ids = false := by
        cases hq : memL k ids with
        | false => rfl
        | true => exact absurd (.inl hq) hk
      exact ⟨by rw [hHn hn, hm]; rfl, hρn hn⟩
    · intro k o g hk hko hb
      cases hq : srcOf f k H' with
      | none =>
        rw [hHn hq] at hko
        have hm : memL k ids = true := by
          rcases hk with hk | hk
          · exact hk
          · rw [hq] at hk; cases hk
        rw [hm] at hko; cases hko
      | some i =>
        rw [hρs hq] at hb
        obtain ⟨o1, h1, _⟩ := hHs hq
        obtain ⟨q1, q2⟩ := hpl i o1 g h1 hb
        refine ⟨q1, q2.symm.imp (fun x => x) fun hx => ?_⟩
        obtain ⟨k2, o2, r1, r2, r3⟩ := hown hx
        exact ⟨k2, o2, .inl r1, r2, r3⟩
    · have src : ∀ k x, (memL k ids = true ∨ (srcOf f k H').isSome = true) → St.H { s with heap := heapRen f H' ++ dels ids s.heap } k = some x → ∃ i, srcOf f k H' = some i := by
        intro k x hk hx
        cases hq : srcOf f k H' with
        | some i => exact ⟨i, rfl⟩
        | none =>
          rw [hHn hq] at hx
          rcases hk with hk | hk
          · rw [hk] at hx; cases hx
          · rw [hq] at hk; cases hk
      intro k l x y g hk hl hkx hly hbk hbl
      obtain ⟨i, hi⟩ := src k x hk hkx
      obtain ⟨j, hj⟩ := src l y hl hly
      rw [hρs hi] at hbk; rw [hρs hj] at hbl
      obtain ⟨o1, h1, _⟩ := hHs hi
      obtain ⟨o2, h2, _⟩ := hHs hj
      have := hmr.disj i j o1 o2 g h1 h2 hbk hbl
      subst this
      exact (src_some hi).1.symm.trans (src_some hj).1
    · intro k o' hk hko
      cases hq : srcOf f k H' with
      | none =>
        rw [hHn hq] at hko
        rcases hk with hk | hk
        · rw [hk] at hko; cases hko
        · rw [hq] at hk; cases hk
      | some i =>
        obtain ⟨e, o1, h1, h2⟩ := src_some hq
        rcases hfr _ (look_mem h1) with hf | ⟨e2, o, o2, q1, q2, q3, q4⟩
        · exact .inl (by rw [← e]; exact hf)
        · simp only at e2 q1 q2 q4
          refine .inr ⟨o, ?_, ?_, ?_⟩
          · rw [← e, e2]; exact (picked q1).2
          · obtain ⟨o3, h3, h4⟩ := hHs hq
            rw [q2] at h3; injection h3 with h3; subst h3
            rw [h4] at hko; injection hko with hko
            rw [← hko, Obj.ren_es]; exact q3
          · rw [hρs hq, ← e, e2]; exact q4
  have hO2 : ∀ b, b < w'.heap.size → St.O { s with heap := heapRen f H' ++ dels ids s.heap } A ρ'' b → Rest A ρ s ids b ∨ owned ρ' (look · H') b := by
    rintro b hb (hA | ⟨k, o, hk, hbk⟩)
    · exact .inl (.inl hA)
    · cases hq : srcOf f k H' with
      | none =>
        rw [hHn hq] at hk; rw [hρn hq] at hbk
        cases hm : memL k ids with
        | true => rw [hm] at hk; cases hk
        | false => rw [hm] at hk; exact .inl (.inr ⟨k, o, hm, hk, hbk⟩)
      | some i =>
        rw [hρs hq] at hbk
        obtain ⟨o1, h1, _⟩ := hHs hq
        exact .inr ⟨i, o1, h1, hbk⟩
  have hid : ∀ id o', (∃ o, look id H' = some o) → St.H { s with heap := heapRen f H' ++ dels ids s.heap } (f id) = some o' → ∃ o, look id H' = some o ∧ o.es = o'.es ∧ ρ'' (f id) = ρ' id := by
    rintro id o' ⟨o, ho⟩ hk
    have hs := src_key hdis ho
    obtain ⟨o1, h1, h2⟩ := hHs hs
    have e1 : o1 = o := by have := h1.symm.trans ho; simpa using this
    subst e1
    have e2 : o1.ren f = o' := by have := h2.symm.trans hk; simpa using this
    exact ⟨o1, ho, by rw [← e2, Obj.ren_es], hρs hs⟩
  refine ⟨ρ'', h.turn T rfl rfl ?_, hv.rename hO2 fun id o' hh hk => hid id o' (hcl id (.inl hh)) hk⟩
  intro k o hk hko
  cases hi : srcOf f k H' with
  | none =>
    rw [hHn hi] at hko
    rcases hk with hk | hk
    · rw [hk] at hko; cases hko
    · rw [hi] at hk; cases hk
  | some i =>
    obtain ⟨o1, h1, h2⟩ := hHs hi
    have e : o1.ren f = o := by have := h2.symm.trans hko; simpa using this
    subst e
    have hor := hmr.obj i o1 h1
    cases o1 with
    | box ty cells =>
      obtain ⟨g, vs, hp, hg, hc⟩ := hor
      exact ⟨g, vs, (hρs hi).trans hp, hg, hc.rename hO2 fun id o' hh hk => hid id o' (hcl id (.inr ⟨_, look_mem h1, hh⟩)) hk⟩
    | rows ty es enc z xs =>
      obtain ⟨vs, hown, hes, hc⟩ := hor
      exact ⟨vs, by rw [hρs hi]; exact hown, hes, hc.mono (fun _ _ _ => rfl) hO2⟩
    | ghost vs cells => exact ⟨by rw [hρs hi]; exact hor.1, hor.2.rename hO2 fun id o' hh hk => hid id o' (hcl id (.inr ⟨_, look_mem h1, hh⟩)) hk⟩

theorem CRs.get1 {O : Nat → Prop} {H : Nat → Option Obj} {v : Value} {c : Cell} (h : AR O ρ H w v (.v false [c])) : CR O ρ H w v c := by
  obtain ⟨d, hd, h⟩ := h
  simp at hd; subst hd; exact h

theorem callM_goes (h : Rel W A K s a w ρ) {o : Oper} {g : Gd} {tb : Tab} (hT : TabOk P tb) {ids kept : List Nat} {names : List (Nat × Nat)} {H' : List (Nat × Obj)} {res : AT} {r : R} (hs : callStepM P tb ids kept names H' res s g o.op = some r) (hc : AllC r.conds) : Goes P W A K s a w o r := by
  unfold callStepM at hs
  split at hs
  · rename_i _ c hop
    split at hs
    · rename_i fo hcal
      split at hs
      · rename_i gf f caps xs q hfo hxs
        split at hs
        · rename_i hcond
          injection hs with hs; subst hs
          simp only [Bool.and_eq_true] at hcond
          obtain ⟨⟨⟨hfn, hfr⟩, hclo⟩, hdis⟩ := hcond
          have hclosed := closedB_in hclo
          obtain ⟨hc12, hc3⟩ := AllC_append.1 hc
          obtain ⟨hc1, hc2⟩ := AllC_append.1 hc12
          have hf := CRs.get1 (opT_sound h hfo (needs_of rfl hc1))
          have hargs := capsA_run h rfl hxs hc2
          obtain ⟨hac, _⟩ := hc3
          generalize hfe : a.eval fo = fv at hf
          cases hf with
          | clo vals hlen hrel =>
          have hall : CRs (s.O A ρ) ρ s.H w (c.args.toList.map a.eval ++ vals) (xs ++ caps) := hargs.append ⟨hlen, hrel⟩
          have hent : entered P f = true := by
            simp only [List.any_eq_true] at hfn
            obtain ⟨k, hk, hkf⟩ := hfn
            have := Nat.eq_of_beq_eq_true hkf; subst this
            exact hT.fns hk
          have hrun : (execOp a.eval o).run P w = .ok (.enter f (c.args.toList.map a.eval ++ vals).toArray) w := by
            unfold entered at hent
            split at hent
            · rename_i fn hfn2
              simp only [Bool.and_eq_true, Bool.not_eq_true'] at hent
              have n1 : ¬ (fn.name == "runtime.NumGoroutine") = true := by rw [hent.1]; simp
              have n2 : ¬ fn.body.isNone = true := by rw [hent.2]; simp
              simp only [execOp, hop, resolve, hcal, hfe, Deferred.ofValue, Sem.run_bind, Sem.run_pure, Result.andThen_ok, invoke, callFunc, run_program, hfn2, n1, n2, if_false]
              simp only [Bool.false_eq_true, if_false, Sem.run_pure]
              congr 2
              apply Array.ext'
              simp
            · cases hent
          obtain ⟨hm, hl, hA, harg⟩ := h.handed ids
          intro next Q hn
          unfold Oper.wp
          rw [hrun]
          show Calls P f _ w _
          refine (hac w _ ρ _ hA hm hl (harg hall)).mono ?_
          rintro e w' ⟨ρ', v, rfl, hext, hmr, hpl, hv, hback⟩
          have hfr' : ∀ x ∈ H', s.has (nameOf names x.1) = false ∨ (nameOf names x.1 = x.1 ∧ ∃ o o', look x.1 (pick ids s.heap) = some o ∧ look x.1 H' = some o' ∧ o.es = o'.es ∧ ρ' x.1 = ρ x.1) := by
            intro x hx
            simp only [freshM, List.all_eq_true] at hfr
            have hx2 := hfr x hx
            cases hk : memL x.1 kept with
            | false => rw [hk] at hx2; exact .inl (by simpa using hx2)
            | true =>
              rw [hk] at hx2
              simp only [cond_true, Bool.and_eq_true] at hx2
              exact .inr ⟨Nat.eq_of_beq_eq_true hx2.1, kept_place hx2.2 hm hmr (harg hall) hback⟩
          obtain ⟨ρ'', hrel', har⟩ := call_backM h (ids := ids) (kept := kept) (f := nameOf names) (ρ' := ρ') (w' := w') (v := v) hfr' hdis hclosed hext hmr hpl hv
          exact hn v w' ρ'' hrel' har
        · cases hs
      · cases hs
    · cases hs
  · cases hs

end
end Go.Abs
