/- A part of the proofs of this seat: what functions of the program compute, and what follows from it; without conditions. -/
import Derived.Test.YtoooalfhjcfinaaA2

namespace Go.Abs
set_option linter.unusedVariables false
set_option linter.unusedSimpArgs false
variable {P : Program}

/-! ### Names turned -/
mutual
def Cell.ren (f : Nat → Nat) : Cell → Cell
  | .t x => .t x
  | .own id => .own (f id)
  | .ptr id i j => .ptr (f id) i j
  | .rop c => .rop c
  | .clo g caps => .clo g (renL f caps)
def renL (f : Nat → Nat) : List Cell → List Cell
  | [] => []
  | c :: r => c.ren f :: renL f r
end

theorem renL_len (f : Nat → Nat) : ∀ l : List Cell, (renL f l).length = l.length
  | [] => rfl
  | _ :: r => by simp [renL, renL_len f r]

theorem renL_get (f : Nat → Nat) : ∀ (l : List Cell) (k : Nat) (c : Cell), (renL f l)[k]? = some c → ∃ d, l[k]? = some d ∧ c = d.ren f
  | [], k, c, h => by simp [renL] at h
  | x :: r, 0, c, h => by simp [renL] at h; exact ⟨x, rfl, h.symm⟩
  | x :: r, k + 1, c, h => by simp [renL] at h; obtain ⟨d, hd, he⟩ := renL_get f r k c h; exact ⟨d, by simpa using hd, he⟩

def AT.ren (f : Nat → Nat) : AT → AT
  | .v b cs => .v b (renL f cs)
  | .tp xs => .tp (xs.map fun x => (x.1, renL f x.2))

def Obj.ren (f : Nat → Nat) : Obj → Obj
  | .box ty cells => .box ty (renL f cells)
  | .rows ty es enc z xs => .rows ty es enc z xs
  | .ghost vs cells => .ghost vs (renL f cells)

theorem Obj.ren_es (f : Nat → Nat) (o : Obj) : (o.ren f).es = o.es := by cases o <;> rfl

def heapRen (f : Nat → Nat) (H : List (Nat × Obj)) : List (Nat × Obj) := H.map fun x => (f x.1, x.2.ren f)

def srcOf (f : Nat → Nat) (k : Nat) : List (Nat × Obj) → Option Nat
  | [] => none
  | (i, _) :: r => bif Nat.beq (f i) k then some i else srcOf f k r

theorem src_some {f : Nat → Nat} {k i : Nat} : ∀ {H : List (Nat × Obj)}, srcOf f k H = some i → f i = k ∧ ∃ o, look i H = some o ∧ look k (heapRen f H) = some (o.ren f)
  | [], h => by simp [srcOf] at h
  | (j, o) :: r, h => by
    simp only [srcOf] at h
    cases hb : Nat.beq (f j) k with
    | true =>
      rw [hb] at h; simp at h; subst h
      exact ⟨Nat.eq_of_beq_eq_true hb, o, by simp [look, Nat.beq_refl], by simp [heapRen, look, hb]⟩
    | false =>
      rw [hb] at h; simp at h
      obtain ⟨hk, o', h1, h2⟩ := src_some h
      have hji : Nat.beq j i = false := by
        cases hq : Nat.beq j i with
        | true => have := Nat.eq_of_beq_eq_true hq; subst this; rw [hk, Nat.beq_refl] at hb; cases hb
        | false => rfl
      refine ⟨hk, o', by simp [look, hji, h1], ?_⟩
      simp only [heapRen, List.map_cons, look, hb, cond_false] at h2 ⊢
      exact h2

theorem src_none {f : Nat → Nat} {k : Nat} : ∀ {H : List (Nat × Obj)}, srcOf f k H = none → look k (heapRen f H) = none
  | [], _ => rfl
  | (j, o) :: r, h => by
    simp only [srcOf] at h
    cases hb : Nat.beq (f j) k with
    | true => rw [hb] at h; simp at h
    | false =>
      rw [hb] at h; simp at h
      simp only [heapRen, List.map_cons, look, hb, cond_false]
      exact src_none h

def distinctL : List Nat → Bool
  | [] => true
  | x :: r => !(r.any fun y => Nat.beq x y) && distinctL r

theorem src_key {f : Nat → Nat} {i : Nat} {o : Obj} : ∀ {H : List (Nat × Obj)}, distinctL (H.map fun x => f x.1) = true → look i H = some o → srcOf f (f i) H = some i
  | [], _, h => by simp [look] at h
  | (j, o') :: r, hd, h => by
    simp only [List.map_cons, distinctL, Bool.and_eq_true, Bool.not_eq_true', List.any_eq_false] at hd
    simp only [look] at h
    simp only [srcOf]
    cases hb : Nat.beq j i with
    | true =>
      have := Nat.eq_of_beq_eq_true hb; subst this
      simp [Nat.beq_refl]
    | false =>
      rw [hb] at h; simp at h
      have hm := look_mem h
      have : Nat.beq (f j) (f i) = false := by
        have := hd.1 (f i) (List.mem_map.2 ⟨_, hm, rfl⟩)
        cases hq : Nat.beq (f j) (f i) with
        | true => exact absurd hq this
        | false => rfl
      rw [this]; simp
      exact src_key hd.2 h

theorem CR.rename {O O' : Nat → Prop} {ρ ρ' : Nat → Value} {H H' : Nat → Option Obj} {w : World} {f : Nat → Nat} {v : Value} {c : Cell} (h : CR O ρ H w v c)
    (hO : ∀ b, b < w.heap.size → O' b → O b)
    (hid : ∀ id o', c.has id = true → H' (f id) = some o' → ∃ o, H id = some o ∧ o.es = o'.es ∧ ρ' (f id) = ρ id) : CR O' ρ' H' w v (c.ren f) := by
  induction h with
  | t h => exact .t (h.mono (fun _ _ _ => rfl) hO)
  | @own id o h h1 =>
    simp only [Cell.ren]
    cases hH : H' (f id) with
    | none => exact .ownj hH h1
    | some o' =>
      obtain ⟨o2, _, _, hr⟩ := hid id o' (by simp [Cell.has, Nat.beq_refl]) hH
      rw [← hr]
      exact .own hH (by rw [hr]; exact h1)
  | @ownj id v h h1 =>
    simp only [Cell.ren]
    cases hH : H' (f id) with
    | none => exact .ownj hH h1
    | some o' =>
      obtain ⟨o2, h2, _, _⟩ := hid id o' (by simp [Cell.has, Nat.beq_refl]) hH
      rw [h] at h2; cases h2
  | @ptr id i j g o h hb =>
    simp only [Cell.ren]
    cases hH : H' (f id) with
    | none => exact .ptrj hH rfl
    | some o' =>
      obtain ⟨o2, h2, he, hr⟩ := hid id o' (by simp [Cell.has, Nat.beq_refl]) hH
      rw [h] at h2; cases h2
      rw [he]
      exact .ptr hH (by rw [hr]; exact hb)
  | @ptrj id i j v h h1 =>
    simp only [Cell.ren]
    cases hH : H' (f id) with
    | none => exact .ptrj hH h1
    | some o' =>
      obtain ⟨o2, h2, _, _⟩ := hid id o' (by simp [Cell.has, Nat.beq_refl]) hH
      rw [h] at h2; cases h2
  | rop a vals hlen hcell hO1 hrel =>
    have := CR.mono (O' := O') (ρ' := ρ') (H' := H') (w' := w) (.rop (ρ := ρ) (H := H) a vals hlen hcell hO1 hrel) (fun _ _ _ => rfl) hO (fun id o' hh => by simp [Cell.has] at hh)
    exact this
  | @clo g caps vals hlen hrel ih =>
    simp only [Cell.ren]
    refine .clo vals (by rw [renL_len]; exact hlen) fun k v c hv hc => ?_
    obtain ⟨d, hd, rfl⟩ := renL_get f caps k c hc
    refine ih k v d hv hd fun id o' hh => hid id o' ?_
    simp only [Cell.has]
    exact hasL_of_mem (List.mem_of_getElem? hd) hh

theorem CRs.rename {O O' : Nat → Prop} {ρ ρ' : Nat → Value} {H H' : Nat → Option Obj} {w : World} {f : Nat → Nat} {vs : List Value} {cs : List Cell} (h : CRs O ρ H w vs cs)
    (hO : ∀ b, b < w.heap.size → O' b → O b)
    (hid : ∀ id o', hasL id cs = true → H' (f id) = some o' → ∃ o, H id = some o ∧ o.es = o'.es ∧ ρ' (f id) = ρ id) : CRs O' ρ' H' w vs (renL f cs) := by
  refine ⟨by rw [renL_len]; exact h.1, fun k v c hv hc => ?_⟩
  obtain ⟨d, hd, rfl⟩ := renL_get f cs k c hc
  exact (h.2 k v d hv hd).rename hO fun id o' hh => hid id o' (hasL_of_mem (List.mem_of_getElem? hd) hh)

theorem AR.rename {O O' : Nat → Prop} {ρ ρ' : Nat → Value} {H H' : Nat → Option Obj} {w : World} {f : Nat → Nat} {v : Value} {x : AT} (h : AR O ρ H w v x)
    (hO : ∀ b, b < w.heap.size → O' b → O b)
    (hid : ∀ id o', x.has id = true → H' (f id) = some o' → ∃ o, H id = some o ∧ o.es = o'.es ∧ ρ' (f id) = ρ id) : AR O' ρ' H' w v (x.ren f) := by
  have one : ∀ {v : Value} {b : Bool} {cs : List Cell}, VR O ρ H w v b cs → (∀ id o', hasL id cs = true → H' (f id) = some o' → ∃ o, H id = some o ∧ o.es = o'.es ∧ ρ' (f id) = ρ id) → VR O' ρ' H' w v b (renL f cs) := by
    intro v b cs h hid
    cases b with
    | true => obtain ⟨vs, rfl, h⟩ := h; exact ⟨vs, rfl, h.rename hO hid⟩
    | false => obtain ⟨c, rfl, h⟩ := h; exact ⟨c.ren f, rfl, h.rename hO fun id o' hh => hid id o' (by simp [hasL, hh])⟩
  cases x with
  | v agg cells => exact one h hid
  | tp xs =>
    obtain ⟨vs, rfl, hl, h⟩ := h
    refine ⟨vs, rfl, by simpa using hl, fun k u x hu hx => ?_⟩
    simp only [List.getElem?_map, Option.map_eq_some_iff] at hx
    obtain ⟨y, hy, rfl⟩ := hx
    refine one (h k u y hu hy) fun id o' hh => hid id o' ?_
    simp only [AT.has, List.any_eq_true]
    exact ⟨y, List.mem_of_getElem? hy, hh⟩

/-! ### Contracts -/
def ARs (O : Nat → Prop) (ρ : Nat → Value) (H : Nat → Option Obj) (w : World) (vs : List Value) (xs : List AT) : Prop :=
  vs.length = xs.length ∧ ∀ (k : Nat) v x, vs[k]? = some v → xs[k]? = some x → AR O ρ H w v x

/-- A call of f, that owns H, with these arguments, comes to this, and owns H' then; nothing else is touched. -/
def AC (P : Program) (f : FuncId) (H : List (Nat × Obj)) (args : List AT) (H' : List (Nat × Obj)) (res : AT) : Prop :=
  ∀ (W : World) (A : Nat → Prop) (ρ : Nat → Value) (vs : List Value), (∀ b, A b → b < W.heap.size) → MR A ρ (look · H) W → (∀ id o g, look id H = some o → blk (ρ id) = some g → g < W.heap.size) →
    ARs (fun b => A b ∨ owned ρ (look · H) b) ρ (look · H) W vs args →
    Calls P f vs.toArray W fun e w' => ∃ ρ' v, e = .returned v ∧ Ext (fun b => b < W.heap.size ∧ ¬ owned ρ (look · H) b) W w' ∧ MR A ρ' (look · H') w' ∧
      (∀ id o g, look id H' = some o → blk (ρ' id) = some g → g < w'.heap.size ∧ (owned ρ (look · H) g ∨ W.heap.size ≤ g)) ∧ AR (fun b => A b ∨ owned ρ' (look · H') b) ρ' (look · H') w' v res

/-- A call of f, that is handed H, with these arguments: it comes to this, and owns H' then; the arguments are still told so. -/
def AC2 (P : Program) (f : FuncId) (H : List (Nat × Obj)) (args : List Cell) (H' : List (Nat × Obj)) (res : AT) : Prop :=
  ∀ (W : World) (A : Nat → Prop) (ρ : Nat → Value) (vs : List Value), (∀ b, A b → b < W.heap.size) → MR A ρ (look · H) W → (∀ id o g, look id H = some o → blk (ρ id) = some g → g < W.heap.size) →
    CRs (fun b => A b ∨ owned ρ (look · H) b) ρ (look · H) W vs args →
    Calls P f vs.toArray W fun e w' => ∃ ρ' v, e = .returned v ∧ Ext (fun b => b < W.heap.size ∧ ¬ owned ρ (look · H) b) W w' ∧ MR A ρ' (look · H') w' ∧
      (∀ id o g, look id H' = some o → blk (ρ' id) = some g → g < w'.heap.size ∧ (owned ρ (look · H) g ∨ W.heap.size ≤ g)) ∧ AR (fun b => A b ∨ owned ρ' (look · H') b) ρ' (look · H') w' v res ∧
      CRs (fun b => A b ∨ owned ρ' (look · H') b) ρ' (look · H') w' vs args

/-- Whoever is named is owned. -/
def closedIn (H : List (Nat × Obj)) (x : AT) : Prop := ∀ id, x.has id = true ∨ (∃ o ∈ H, o.2.has id = true) → ∃ o, look id H = some o

mutual
def Cell.ids : Cell → List Nat
  | .t _ => []
  | .own i => [i]
  | .ptr i _ _ => [i]
  | .rop _ => []
  | .clo _ caps => idsL caps
def idsL : List Cell → List Nat
  | [] => []
  | c :: r => c.ids ++ idsL r
end

mutual
theorem Cell.ids_has {id : Nat} : ∀ (c : Cell), c.has id = true → id ∈ c.ids
  | .t _, h => by simp [Cell.has] at h
  | .own i, h => by simp only [Cell.has] at h; have := Nat.eq_of_beq_eq_true h; simp [Cell.ids, this]
  | .ptr i _ _, h => by simp only [Cell.has] at h; have := Nat.eq_of_beq_eq_true h; simp [Cell.ids, this]
  | .rop _, h => by simp [Cell.has] at h
  | .clo _ caps, h => by simp only [Cell.has] at h; simp only [Cell.ids]; exact idsL_has caps h
theorem idsL_has {id : Nat} : ∀ (l : List Cell), hasL id l = true → id ∈ idsL l
  | [], h => by simp [hasL] at h
  | c :: r, h => by
    simp only [hasL, Bool.or_eq_true] at h
    simp only [idsL, List.mem_append]
    rcases h with h | h
    · exact .inl (c.ids_has h)
    · exact .inr (idsL_has r h)
end

def AT.ids : AT → List Nat
  | .v _ cs => idsL cs
  | .tp xs => xs.flatMap fun x => idsL x.2

theorem AT.ids_has {id : Nat} {x : AT} (h : x.has id = true) : id ∈ x.ids := by
  cases x with
  | v b cs => exact idsL_has cs h
  | tp xs =>
    simp only [AT.has, List.any_eq_true] at h
    obtain ⟨y, hy, h⟩ := h
    exact List.mem_flatMap.2 ⟨y, hy, idsL_has _ h⟩

def Obj.ids : Obj → List Nat
  | .box _ cs => idsL cs
  | .rows .. => []
  | .ghost _ cs => idsL cs

theorem Obj.ids_has {id : Nat} {x : Obj} (h : x.has id = true) : id ∈ x.ids := by
  cases x with
  | box ty cs => exact idsL_has cs h
  | rows => simp [Obj.has] at h
  | ghost vs cs => exact idsL_has cs h


def closedB (H : List (Nat × Obj)) (x : AT) : Bool := (x.ids ++ H.flatMap fun y => y.2.ids).all fun id => (look id H).isSome

theorem closedB_in {H : List (Nat × Obj)} {x : AT} (h : closedB H x = true) : closedIn H x := by
  intro id hh
  simp only [closedB, List.all_eq_true] at h
  refine Option.isSome_iff_exists.1 (h id ?_)
  rcases hh with hh | ⟨o, ho, hh⟩
  · exact List.mem_append_left _ (AT.ids_has hh)
  · exact List.mem_append_right _ (List.mem_flatMap.2 ⟨o, ho, Obj.ids_has hh⟩)

section
variable {W : World} {A K : Nat → Prop} {s : St} {a : Act} {w : World} {ρ : Nat → Value}

/-- What a call that owns nothing leaves with its caller. -/
theorem call_back (h : Rel W A K s a w ρ) {f : Nat → Nat} {H' : List (Nat × Obj)} {res : AT} {ρ' : Nat → Value} {w' : World} {v : Value} {Ac : Nat → Prop}
    (hfr : ∀ x ∈ H', s.has (f x.1) = false) (hdis : distinctL (H'.map fun x => f x.1) = true) (hcl : closedIn H' res)
    (hext : Ext (fun b => b < w.heap.size) w w') (hmr : MR Ac ρ' (look · H') w') (hpl : ∀ id o g, look id H' = some o → blk (ρ' id) = some g → g < w'.heap.size ∧ w.heap.size ≤ g)
    (hAc : ∀ b, b < w'.heap.size → s.O A ρ b → Ac b) (hv : AR (fun b => Ac b ∨ owned ρ' (look · H') b) ρ' (look · H') w' v res) :
    ∃ ρ'', Rel W A K { s with heap := heapRen f H' ++ s.heap } a w' ρ'' ∧ AR (St.O { s with heap := heapRen f H' ++ s.heap } A ρ'') ρ'' (St.H { s with heap := heapRen f H' ++ s.heap }) w' v (res.ren f) := by
  generalize hρ : (fun k => match srcOf f k H' with | some i => ρ' i | none => ρ k) = ρ''
  have hρs : ∀ {k i}, srcOf f k H' = some i → ρ'' k = ρ' i := fun hk => by rw [← hρ]; simp [hk]
  have hρn : ∀ {k}, srcOf f k H' = none → ρ'' k = ρ k := fun hk => by rw [← hρ]; simp [hk]
  have happ : ∀ (k : Nat) (l m : List (Nat × Obj)), look k (l ++ m) = match look k l with | some o => some o | none => look k m := by
    intro k l m
    induction l with
    | nil => rfl
    | cons y r ih =>
      obtain ⟨u, x⟩ := y
      simp only [List.cons_append, look]
      cases Nat.beq u k <;> simp [ih]
  have hHs : ∀ {k i}, srcOf f k H' = some i → ∃ o, look i H' = some o ∧ St.H { s with heap := heapRen f H' ++ s.heap } k = some (o.ren f) := fun hk => by
    obtain ⟨_, o, h1, h2⟩ := src_some hk
    exact ⟨o, h1, by simp only [St.H, happ, h2]⟩
  have hHn : ∀ {k}, srcOf f k H' = none → St.H { s with heap := heapRen f H' ++ s.heap } k = s.H k := fun hk => by simp only [St.H, happ, src_none hk]
  have hfr2 : ∀ {k i}, srcOf f k H' = some i → s.has k = false := fun hk => by
    obtain ⟨e, o, h1, _⟩ := src_some hk
    rw [← e]; exact hfr _ (look_mem h1)
  have T : Turn s { s with heap := heapRen f H' ++ s.heap } w w' ρ ρ'' (fun k => (srcOf f k H').isSome = true) := by
    refine ⟨hext.os, hext.tape, hext.output, hext.size, fun b hl _ => hext.block b hl, ?_, ?_, ?_, ?_⟩
    · intro k hk
      have hn : srcOf f k H' = none := by simpa using hk
      exact ⟨hHn hn, hρn hn⟩
    · intro k o g hk hko hb
      obtain ⟨i, hi⟩ := Option.isSome_iff_exists.1 hk
      rw [hρs hi] at hb
      obtain ⟨o1, h1, _⟩ := hHs hi
      obtain ⟨q1, q2⟩ := hpl i o1 g h1 hb
      exact ⟨q1, .inl q2⟩
    · intro k l x y g hk hl hkx hly hbk hbl
      obtain ⟨i, hi⟩ := Option.isSome_iff_exists.1 hk
      obtain ⟨j, hj⟩ := Option.isSome_iff_exists.1 hl
      rw [hρs hi] at hbk; rw [hρs hj] at hbl
      obtain ⟨o1, h1, _⟩ := hHs hi
      obtain ⟨o2, h2, _⟩ := hHs hj
      have := hmr.disj i j o1 o2 g h1 h2 hbk hbl
      subst this
      exact (src_some hi).1.symm.trans (src_some hj).1
    · intro k o' hk _
      obtain ⟨i, hi⟩ := Option.isSome_iff_exists.1 hk
      exact .inl (hfr2 hi)
  have hO2 : ∀ b, b < w'.heap.size → St.O { s with heap := heapRen f H' ++ s.heap } A ρ'' b → Ac b ∨ owned ρ' (look · H') b := by
    rintro b hb (hA | ⟨k, o, hk, hbk⟩)
    · exact .inl (hAc b hb (.inl hA))
    · cases hq : srcOf f k H' with
      | none => rw [hHn hq] at hk; rw [hρn hq] at hbk; exact .inl (hAc b hb (.inr ⟨k, o, hk, hbk⟩))
      | some i =>
        rw [hρs hq] at hbk
        obtain ⟨o1, h1, _⟩ := hHs hq
        exact .inr ⟨i, o1, h1, hbk⟩
  have hid : ∀ id o', (∃ o, look id H' = some o) → St.H { s with heap := heapRen f H' ++ s.heap } (f id) = some o' → ∃ o, look id H' = some o ∧ o.es = o'.es ∧ ρ'' (f id) = ρ' id := by
    rintro id o' ⟨o, ho⟩ hk
    have hs := src_key hdis ho
    obtain ⟨o1, h1, h2⟩ := hHs hs
    have e1 : o1 = o := by have := h1.symm.trans ho; simpa using this
    subst e1
    have e2 : o1.ren f = o' := by have := h2.symm.trans hk; simpa using this
    exact ⟨o1, ho, by rw [← e2, Obj.ren_es], hρs hs⟩
  refine ⟨ρ'', h.turn T rfl rfl ?_, hv.rename hO2 fun id o' hh hk => hid id o' (hcl id (.inl hh)) hk⟩
  intro k o hk hko
  obtain ⟨i, hi⟩ := Option.isSome_iff_exists.1 hk
  obtain ⟨o1, h1, h2⟩ := hHs hi
  have e : o1.ren f = o := by have := h2.symm.trans hko; simpa using this
  subst e
  have hor := hmr.obj i o1 h1
  cases o1 with
  | box ty cells =>
    obtain ⟨g, vs, hp, hg, hc⟩ := hor
    exact ⟨g, vs, (hρs hi).trans hp, hg, hc.rename hO2 fun id o' hh hk => hid id o' (hcl id (.inr ⟨_, look_mem h1, hh⟩)) hk⟩
  | rows ty es enc z xs =>
    obtain ⟨vs, hown, hes, hc⟩ := hor
    exact ⟨vs, by rw [hρs hi]; exact hown, hes, hc.mono (fun _ _ _ => rfl) hO2⟩
  | ghost vs cells => exact ⟨by rw [hρs hi]; exact hor.1, hor.2.rename hO2 fun id o' hh hk => hid id o' (hcl id (.inr ⟨_, look_mem h1, hh⟩)) hk⟩

end
end Go.Abs

namespace Go.Abs
set_option linter.unusedVariables false
set_option linter.unusedSimpArgs false
variable {P : Program}

/-! ### Calls of Go functions -/
def Tree.isLit : Tree → Bool
  | .lit _ => true
  | .ro .. => false

def plainC : Cell → Bool
  | .t x => x.isLit
  | .own _ => true
  | .ptr .. => true
  | _ => false

def PlainO : Obj → Prop
  | .box _ cells => cells.all plainC = true
  | .rows _ _ enc _ xs => ∀ x ∈ xs, ∀ t ∈ enc x, t.isLit = true
  | .ghost _ cells => cells.all plainC = true

def plainA : AT → Bool
  | .v _ cells => cells.all plainC
  | .tp xs => xs.all fun x => x.2.all plainC

/-- Nothing but values and what is owned. -/
def Plain (H' : List (Nat × Obj)) (res : AT) : Prop := plainA res = true ∧ ∀ x ∈ H', PlainO x.2

/-- A cell as a callee reads it: an owned slice as one that is only read. -/
def viewC (s : St) : Cell → Option (Bool × Cell)
  | .t x => some (false, .t x)
  | .own id => match s.H id with
    | some (.rows _ es enc z xs) => some (true, .t (.ro es enc z xs))
    | _ => none
  | .clo f [] => some (false, .clo f [])
  | _ => none

def viewL (s : St) : List Cell → Option (Bool × List Cell)
  | [] => some (false, [])
  | c :: r => match viewC s c, viewL s r with
    | some (b, c'), some (b', r') => some (b || b', c' :: r')
    | _, _ => none

def argsV (s : St) (g : Gd) : List Operand → Option (Bool × List AT × List Prop)
  | [] => some (false, [], [])
  | x :: r => match opT s x, argsV s g r with
    | some (gx, .v ag cs), some (b, xs, q) => (viewL s cs).map fun y => (y.1 || b, .v ag y.2 :: xs, needs g gx ++ q)
    | _, _ => none

def nameOf : List (Nat × Nat) → Nat → Nat
  | [], k => k
  | (i, j) :: r, k => bif Nat.beq i k then j else nameOf r k

def freshB (names : List (Nat × Nat)) (H' : List (Nat × Obj)) (s : St) : Bool := (H'.all fun x => !s.has (nameOf names x.1)) && distinctL (H'.map fun x => nameOf names x.1)

def gdEmpty : Gd → Bool → Bool
  | .yes, _ => true
  | .on _, b => b

def plainIf (H' : List (Nat × Obj)) (res : AT) : Bool → List Prop
  | true => [Plain H' res]
  | false => []

def callStep (P : Program) (tb : Tab) (names : List (Nat × Nat)) (H' : List (Nat × Obj)) (res : AT) (s : St) (g : Gd) (o : Op) : Option R :=
  match o with
  | .call c =>
    match c.callee with
    | .value fo =>
      match opT s fo, argsV s g c.args.toList with
      | some (gf, .v false [.clo f []]), some (b, xs, q) =>
        if (tb.fns.any fun k => Nat.beq k f) && freshB names H' s && gdEmpty g H'.isEmpty && closedB H' res then
          some ⟨res.ren (nameOf names), heapRen (nameOf names) H' ++ s.heap, needs g gf ++ q ++ [g.val = true → AC P f [] xs H' res] ++ plainIf H' res b⟩
        else none
      | _, _ => none
    | _ => none
  | _ => none

section
variable {W : World} {A K : Nat → Prop} {s : St} {a : Act} {w : World} {ρ : Nat → Value}

theorem TR.of_lit {O O' : Nat → Prop} {w w' : World} {v : Value} {t : Tree} (h : TR O w v t) (ht : t.isLit = true) : TR O' w' v t := by
  cases h with
  | lit v h1 => exact .lit v h1
  | nil => simp [Tree.isLit] at ht
  | ro => simp [Tree.isLit] at ht

theorem CR.plain {O O' : Nat → Prop} {ρ : Nat → Value} {H : Nat → Option Obj} {v : Value} {c : Cell} (h : CR O ρ H w v c) (hp : plainC c = true) : CR O' ρ H w v c := by
  cases h with
  | t h => exact .t (h.of_lit hp)
  | own h h1 => exact .own h h1
  | ownj h h1 => exact .ownj h h1
  | ptr h h1 => exact .ptr h h1
  | ptrj h h1 => exact .ptrj h h1
  | rop => simp [plainC] at hp
  | clo => simp [plainC] at hp

theorem CRs.plain {O O' : Nat → Prop} {ρ : Nat → Value} {H : Nat → Option Obj} {vs : List Value} {cs : List Cell} (h : CRs O ρ H w vs cs) (hp : cs.all plainC = true) : CRs O' ρ H w vs cs :=
  ⟨h.1, fun k v c hv hc => (h.2 k v c hv hc).plain (List.all_eq_true.1 hp c (List.mem_of_getElem? hc))⟩

theorem AR.plain {O O' : Nat → Prop} {ρ : Nat → Value} {H : Nat → Option Obj} {v : Value} {x : AT} (h : AR O ρ H w v x) (hp : plainA x = true) : AR O' ρ H w v x := by
  have one : ∀ {v : Value} {b : Bool} {cs : List Cell}, VR O ρ H w v b cs → cs.all plainC = true → VR O' ρ H w v b cs := by
    intro v b cs h hp
    cases b with
    | true => obtain ⟨vs, rfl, h⟩ := h; exact ⟨vs, rfl, h.plain hp⟩
    | false => obtain ⟨c, rfl, h⟩ := h; exact ⟨c, rfl, h.plain (by simpa using hp)⟩
  cases x with
  | v => exact one h hp
  | tp xs =>
    obtain ⟨vs, rfl, hl, h⟩ := h
    simp only [plainA, List.all_eq_true] at hp
    exact ⟨vs, rfl, hl, fun k u x hu hx => one (h k u x hu hx) (List.all_eq_true.2 (hp x (List.mem_of_getElem? hx)))⟩

theorem MR.plain {Ac Ac' : Nat → Prop} {ρ : Nat → Value} {H' : List (Nat × Obj)} (h : MR Ac ρ (look · H') w) (hp : ∀ x ∈ H', PlainO x.2) (hav : ∀ id o g, look id H' = some o → blk (ρ id) = some g → ¬ Ac' g) : MR Ac' ρ (look · H') w := by
  refine ⟨fun id o ho => ?_, h.disj, hav⟩
  have hor := h.obj id o ho
  have hpo := hp _ (look_mem ho)
  cases o with
  | box ty cells => obtain ⟨g, vs, h1, h2, h3⟩ := hor; exact ⟨g, vs, h1, h2, h3.plain hpo⟩
  | rows ty es enc z xs =>
    obtain ⟨vs, h1, h2, h3⟩ := hor
    refine ⟨vs, h1, h2, ⟨h3.1, fun k v t hv ht => (h3.2 k v t hv ht).of_lit ?_⟩⟩
    have hm := List.mem_of_getElem? ht
    simp only [List.mem_flatMap] at hm
    obtain ⟨x, hx, ht⟩ := hm
    exact hpo x hx t ht
  | ghost vs cells => exact ⟨hor.1, hor.2.plain hpo⟩

/-- What a callee that borrows reads: what its caller owns, too. -/
theorem viewC_cr (h : Rel W A K s a w ρ) {c c' : Cell} {b : Bool} (hv : viewC s c = some (b, c')) {v : Value} (hc : CR (s.O A ρ) ρ s.H w v c) :
    (∀ ρ0, CR (fun _ => False) ρ0 (fun _ => none) w v c') ∧ (b = false → ∀ ρ0, CR (s.O A ρ) ρ0 (fun _ => none) w v c') := by
  unfold viewC at hv
  split at hv
  · injection hv with hv; injection hv with h1 h2; subst h1; subst h2
    exact ⟨fun _ => .t (hc.tr.mono (fun _ _ _ => rfl) (fun _ _ hf => hf.elim)), fun _ _ => .t hc.tr⟩
  · rename_i id0
    split at hv
    · rename_i T ty es enc z xs hid
      injection hv with hv; injection hv with h1 h2; subst h1; subst h2
      refine ⟨fun _ => .t ?_, fun hb => by cases hb⟩
      obtain ⟨vs, hown, hes, hct⟩ := h.mr.obj _ _ hid
      have hvr : v = ρ id0 := by
        cases hc with
        | own => rfl
        | ownj h' => rw [hid] at h'; cases h'
      subst hvr
      have hct2 : TRs (fun _ => False) w vs (xs.flatMap enc) := hct.mono (w' := w) (O' := fun _ => False) (fun _ _ _ => rfl) (fun _ _ hf => hf.elim)
      rcases hown.2 with ⟨e0, hx0⟩ | ⟨g, cap, cur, e0, _, hg, hle, hcm, hsz, htk⟩
      · have : xs = [] := List.length_eq_zero_iff.1 hx0
        subst this
        rw [e0]; exact .nil ..
      · rw [e0]
        exact TR.ro (O := fun _ => False) ⟨g, 0, none⟩ cap vs hle hcm hes hct.1 (hown.cells (g := g) (by rw [e0]; rfl)) (.inr (fun h => h)) hct2.2
    · cases hv
  · rename_i f0
    injection hv with hv; injection hv with h1 h2; subst h1; subst h2
    have : ∀ {O : Nat → Prop} {ρ0 : Nat → Value}, CR O ρ0 (fun _ => none) w v (.clo f0 []) := by
      intro O ρ0
      cases hc with
      | clo vals hl hr =>
        have : vals = [] := List.length_eq_zero_iff.1 (by simpa using hl)
        subst this
        exact .clo [] rfl (by simp)
    exact ⟨fun _ => this, fun _ _ => this⟩
  · cases hv

theorem viewL_cr (h : Rel W A K s a w ρ) : ∀ {cs cs' : List Cell} {b : Bool} {vs : List Value}, viewL s cs = some (b, cs') → CRs (s.O A ρ) ρ s.H w vs cs →
    (∀ ρ0, CRs (fun _ => False) ρ0 (fun _ => none) w vs cs') ∧ (b = false → ∀ ρ0, CRs (s.O A ρ) ρ0 (fun _ => none) w vs cs')
  | [], cs', b, vs, hv, hc => by
    simp [viewL] at hv
    obtain ⟨rfl, rfl⟩ := hv
    have : vs = [] := List.length_eq_zero_iff.1 hc.1
    subst this
    exact ⟨fun _ => CRs.nil, fun _ _ => CRs.nil⟩
  | c :: r, cs', b, [], hv, hc => by have := hc.1; simp at this
  | c :: r, cs', b, v :: vs, hv, hc => by
    simp only [viewL] at hv
    split at hv
    · rename_i b1 c1 b2 r1 h1 h2
      injection hv with hv; injection hv with e1 e2; subst e1; subst e2
      have hc1 := viewC_cr h h1 (hc.2 0 v c rfl rfl)
      have hc2 := viewL_cr h h2 (vs := vs) ⟨by have := hc.1; simpa using this, fun k u d hu hd => hc.2 (k + 1) u d (by simpa using hu) (by simpa using hd)⟩
      refine ⟨fun ρ0 => CRs.cons (hc1.1 ρ0) (hc2.1 ρ0), fun hb ρ0 => ?_⟩
      simp only [Bool.or_eq_false_iff] at hb
      exact CRs.cons (hc1.2 hb.1 ρ0) (hc2.2 hb.2 ρ0)
    · cases hv

theorem argsV_ar (h : Rel W A K s a w ρ) {g : Gd} (hg : g.val = true) : ∀ {l : List Operand} {b : Bool} {xs : List AT} {q : List Prop}, argsV s g l = some (b, xs, q) → AllC q →
    (∀ ρ0, ARs (fun _ => False) ρ0 (fun _ => none) w (l.map a.eval) xs) ∧ (b = false → ∀ ρ0, ARs (s.O A ρ) ρ0 (fun _ => none) w (l.map a.eval) xs)
  | [], b, xs, q, hs, _ => by simp [argsV] at hs; obtain ⟨rfl, rfl, rfl⟩ := hs; exact ⟨fun _ => ⟨rfl, by simp⟩, fun _ _ => ⟨rfl, by simp⟩⟩
  | x :: r, b, xs, q, hs, hc => by
    simp only [argsV] at hs
    split at hs
    · rename_i gx ag cs b2 xs2 q2 hx hr
      simp only [Option.map_eq_some_iff] at hs
      obtain ⟨⟨b1, cs'⟩, hv, hs⟩ := hs
      injection hs with e1 hs; injection hs with e2 e3; subst e1; subst e2; subst e3
      obtain ⟨hc1, hc2⟩ := AllC_append.1 hc
      have hx2 := opT_sound h hx (needs_of hg hc1)
      have hrest := argsV_ar h hg hr hc2
      have cons : ∀ {O : Nat → Prop} {ρ0 : Nat → Value} {H0 : Nat → Option Obj} {v : Value} {y : AT} {vs : List Value} {ys : List AT}, AR O ρ0 H0 w v y → ARs O ρ0 H0 w vs ys → ARs O ρ0 H0 w (v :: vs) (y :: ys) := by
        intro O ρ0 H0 v y vs ys h1 h2
        refine ⟨by simp [h2.1], fun k u z hu hz => ?_⟩
        cases k with
        | zero => simp at hu hz; subst hu; subst hz; exact h1
        | succ k => simp at hu hz; exact h2.2 k u z hu hz
      have one : (∀ ρ0, AR (fun _ => False) ρ0 (fun _ => none) w (a.eval x) (.v ag cs')) ∧ (b1 = false → ∀ ρ0, AR (s.O A ρ) ρ0 (fun _ => none) w (a.eval x) (.v ag cs')) := by
        cases ag with
        | true =>
          obtain ⟨vs, hvv, hcs⟩ := hx2
          have hl := viewL_cr h hv hcs
          exact ⟨fun ρ0 => ⟨vs, hvv, hl.1 ρ0⟩, fun hb ρ0 => ⟨vs, hvv, hl.2 hb ρ0⟩⟩
        | false =>
          obtain ⟨c, rfl, hcs⟩ := hx2
          have hl := viewL_cr h hv (CRs.cons hcs CRs.nil)
          simp only [viewL] at hv
          split at hv
          · rename_i b3 c3 b4 r4 h3 h4
            simp at h4
            obtain ⟨rfl, rfl⟩ := h4
            injection hv with hv; injection hv with e1 e2; subst e1; subst e2
            exact ⟨fun ρ0 => ⟨c3, rfl, (hl.1 ρ0).2 0 _ _ rfl rfl⟩, fun hb ρ0 => ⟨c3, rfl, (hl.2 hb ρ0).2 0 _ _ rfl rfl⟩⟩
          · cases hv
      refine ⟨fun ρ0 => cons (one.1 ρ0) (hrest.1 ρ0), fun hb ρ0 => ?_⟩
      simp only [Bool.or_eq_false_iff] at hb
      exact cons (one.2 hb.1 ρ0) (hrest.2 hb.2 ρ0)
    · cases hs

/-- What an operation is worth, as the walk asks it. -/
def Goes (P : Program) (W : World) (A K : Nat → Prop) (s : St) (a : Act) (w : World) (o : Oper) (r : R) : Prop :=
  ∀ (next : Act → World → Prop) (Q : Exit → Act → World → Prop),
    (∀ v w' ρ', Rel W A K { s with heap := r.heap } a w' ρ' → AR (St.O { s with heap := r.heap } A ρ') ρ' (St.H { s with heap := r.heap }) w' v r.val → next (a.put o.dst v) w') → o.wp P a w next Q

theorem Does.goes {o : Oper} {r : R} (h : Does P W A K s a w o r) : Goes P W A K s a w o r := by
  intro next Q hn
  obtain ⟨v, w', ρ', hrun, h1, h2⟩ := h
  unfold Oper.wp
  rcases hrun with hrun | ⟨hrun, rfl⟩
  · rw [hrun]; exact hn v w' ρ' h1 h2
  · rw [hrun]; exact hn undef w' ρ' h1 h2

theorem call_goes (h : Rel W A K s a w ρ) {o : Oper} {g : Gd} (hg : g.val = true) {tb : Tab} (hT : TabOk P tb) {names : List (Nat × Nat)} {H' : List (Nat × Obj)} {res : AT} {r : R} (hs : callStep P tb names H' res s g o.op = some r) (hc : AllC r.conds) : Goes P W A K s a w o r := by
  unfold callStep at hs
  split at hs
  · rename_i c hop
    split at hs
    · rename_i fo hcal
      split at hs
      · rename_i gf f b xs q hfo hxs
        split at hs
        · rename_i hcond
          injection hs with hs; subst hs
          simp only [Bool.and_eq_true] at hcond
          obtain ⟨⟨⟨hfn, hfr⟩, _⟩, hclo⟩ := hcond
          have hclosed := closedB_in hclo
          obtain ⟨hc123, hc4⟩ := AllC_append.1 hc
          obtain ⟨hc12, hc3⟩ := AllC_append.1 hc123
          obtain ⟨hc1, hc2⟩ := AllC_append.1 hc12
          have hf := opT_sound h hfo (needs_of hg hc1)
          have hfv : a.eval fo = .func (.func f) #[] #[] := by
            obtain ⟨c1, hcc, hf⟩ := hf
            simp at hcc; subst hcc
            generalize a.eval fo = v at hf
            cases hf with
            | clo vals hl hr =>
              have : vals = [] := List.length_eq_zero_iff.1 (by simpa using hl)
              subst this; rfl
          have hargs := argsV_ar h hg hxs hc2
          obtain ⟨hac, _⟩ := hc3
          have hac := hac hg
          simp only [freshB, Bool.and_eq_true, List.all_eq_true, Bool.not_eq_true'] at hfr
          obtain ⟨hfr1, hfr2⟩ := hfr
          have hent : entered P f = true := by
            simp only [List.any_eq_true] at hfn
            obtain ⟨k, hk, hkf⟩ := hfn
            have := Nat.eq_of_beq_eq_true hkf; subst this
            exact hT.fns hk
          have hrun : (execOp a.eval o).run P w = .ok (.enter f (c.args.toList.map a.eval).toArray) w := by
            unfold entered at hent
            split at hent
            · rename_i fn hfn2
              simp only [Bool.and_eq_true, Bool.not_eq_true'] at hent
              have e2 : c.args.map a.eval = (c.args.toList.map a.eval).toArray := by apply Array.ext'; simp
              have n1 : ¬ (fn.name == "runtime.NumGoroutine") = true := by rw [hent.1]; simp
              have n2 : ¬ fn.body.isNone = true := by rw [hent.2]; simp
              simp only [execOp, hop, resolve, hcal, hfv, Deferred.ofValue, Sem.run_bind, Sem.run_pure, Result.andThen_ok, invoke, callFunc, run_program, hfn2, n1, n2, if_false]
              simp [e2]
            · cases hent
          have hlt : ∀ b, s.O A ρ b → b < w.heap.size := by
            rintro b (hb | hb)
            · exact Nat.lt_of_lt_of_le (h.al b hb) h.ext.size
            · exact h.owned_lt hb
          have hmr0 : ∀ Ac : Nat → Prop, MR Ac ρ (look · ([] : List (Nat × Obj))) w := fun Ac => ⟨fun id o ho => by simp [look] at ho, fun i j a b g hi => by simp [look] at hi, fun id o g ho => by simp [look] at ho⟩
          have hown0 : ∀ b, ¬ owned ρ (look · ([] : List (Nat × Obj))) b := by rintro b ⟨id, o, ho, _⟩; simp [look] at ho
          intro next Q hn
          unfold Oper.wp
          rw [hrun]
          show Calls P f _ w _
          have back : ∀ (Ac : Nat → Prop) (e : Ending) (w' : World), (∃ ρ' v, e = .returned v ∧ Ext (fun b => b < w.heap.size ∧ ¬ owned ρ (look · ([] : List (Nat × Obj))) b) w w' ∧ MR Ac ρ' (look · H') w' ∧
              (∀ id o g, look id H' = some o → blk (ρ' id) = some g → g < w'.heap.size ∧ (owned ρ (look · ([] : List (Nat × Obj))) g ∨ w.heap.size ≤ g)) ∧ AR (fun b => Ac b ∨ owned ρ' (look · H') b) ρ' (look · H') w' v res) →
              (∀ b, b < w'.heap.size → s.O A ρ b → Ac b) → (match e, w' with | .returned v, w'' => next (a.put o.dst v) w'' | .panicked chain, w'' => Q (.panic chain) a w'' | .outgrown, _ => LetsOut Q) := by
            rintro Ac e w' ⟨ρ', v, rfl, hext, hmr, hpl, hv⟩ hAc
            obtain ⟨ρ'', hrel, har⟩ := call_back h hfr1 hfr2 hclosed ⟨hext.os, hext.tape, hext.output, hext.size, fun b hb => hext.block b ⟨hb, hown0 b⟩⟩ hmr
              (fun id o g ho hb => by obtain ⟨q1, q2⟩ := hpl id o g ho hb; exact ⟨q1, q2.resolve_left (hown0 g)⟩) hAc hv
            exact hn v w' ρ'' hrel har
          cases b with
          | false =>
            refine (hac w (s.O A ρ) ρ _ hlt (hmr0 _) (fun id o g ho => by simp [look] at ho) ?_).mono fun e w' hp => back (s.O A ρ) e w' hp (fun b _ hb => hb)
            have := hargs.2 rfl ρ
            refine ⟨this.1, fun k v x hv hx => (this.2 k v x hv hx).mono (fun _ _ _ => rfl) (fun b _ hb => hb.resolve_right (hown0 b)) (fun id o' _ ho => by simp [look] at ho)⟩
          | true =>
            have hplain : Plain H' res := hc4.1
            refine (hac w (fun _ => False) ρ _ (fun _ hf => hf.elim) (hmr0 _) (fun id o g ho => by simp [look] at ho) ?_).mono fun e w' hp => back (s.O A ρ) e w' ?_ (fun b _ hb => hb)
            · have := hargs.1 ρ
              refine ⟨this.1, fun k v x hv hx => (this.2 k v x hv hx).mono (fun _ _ _ => rfl) (fun b _ hb => (hown0 b (hb.resolve_left fun hf => hf)).elim) (fun id o' _ ho => by simp [look] at ho)⟩
            · obtain ⟨ρ', v, rfl, hext, hmr, hpl, hv⟩ := hp
              refine ⟨ρ', v, rfl, hext, hmr.plain hplain.2 (fun id o g ho hb hO => ?_), hpl, hv.plain hplain.1⟩
              have := (hpl id o g ho hb).2.resolve_left (hown0 g)
              have := hlt g hO
              omega
        · cases hs
      · cases hs
    · cases hs
  · cases hs

end
end Go.Abs

namespace Go.Abs
set_option linter.unusedVariables false
set_option linter.unusedSimpArgs false
variable {P : Program}

/-! ### What was owned is only read from here on -/
mutual
def Cell.fz (id : Nat) (t : Tree) : Cell → Cell
  | .t x => .t x
  | .own i => bif Nat.beq i id then .t t else .own i
  | .ptr i j k => .ptr i j k
  | .rop c => .rop c
  | .clo g caps => .clo g (fzL id t caps)
def fzL (id : Nat) (t : Tree) : List Cell → List Cell
  | [] => []
  | c :: r => c.fz id t :: fzL id t r
end

theorem fzL_len (id : Nat) (t : Tree) : ∀ l : List Cell, (fzL id t l).length = l.length
  | [] => rfl
  | _ :: r => by simp [fzL, fzL_len id t r]

theorem fzL_get (id : Nat) (t : Tree) : ∀ (l : List Cell) (k : Nat) (c : Cell), (fzL id t l)[k]? = some c → ∃ d, l[k]? = some d ∧ c = d.fz id t
  | [], k, c, h => by simp [fzL] at h
  | x :: r, 0, c, h => by simp [fzL] at h; exact ⟨x, rfl, h.symm⟩
  | x :: r, k + 1, c, h => by simp [fzL] at h; obtain ⟨d, hd, he⟩ := fzL_get id t r k c h; exact ⟨d, by simpa using hd, he⟩

def AT.fz (id : Nat) (t : Tree) : AT → AT
  | .v b cs => .v b (fzL id t cs)
  | .tp xs => .tp (xs.map fun x => (x.1, fzL id t x.2))

def Obj.fz (id : Nat) (t : Tree) : Obj → Obj
  | .box ty cells => .box ty (fzL id t cells)
  | .rows ty es enc z xs => .rows ty es enc z xs
  | .ghost vs cells => .ghost vs (fzL id t cells)

theorem Obj.fz_es (id : Nat) (t : Tree) (o : Obj) : (o.fz id t).es = o.es := by cases o <;> rfl

def heapFz (id : Nat) (t : Tree) (H : List (Nat × Obj)) : List (Nat × Obj) := (del id H).map fun x => (x.1, x.2.fz id t)

theorem look_map {α β : Type 1} (f : α → β) (k : Nat) (l : List (Nat × α)) : look k (l.map fun x => (x.1, f x.2)) = (look k l).map f := by
  induction l with
  | nil => rfl
  | cons y r ih =>
    obtain ⟨u, x⟩ := y
    simp only [List.map_cons, look]
    cases Nat.beq u k with
    | true => rfl
    | false => simpa using ih

theorem look_heapFz (id : Nat) (t : Tree) (k : Nat) (H : List (Nat × Obj)) : look k (heapFz id t H) = if k = id then none else (look k H).map (·.fz id t) := by
  unfold heapFz
  rw [look_map (Obj.fz id t), look_del]
  split <;> rfl

def roOf : Obj → Option Tree
  | .rows _ es enc z xs => some (.ro es enc z xs)
  | _ => none

section
variable {O O' A : Nat → Prop} {ρ : Nat → Value} {w : World} {H : List (Nat × Obj)}

theorem CR.fz {id : Nat} {t : Tree} {o : Obj} (ho : look id H = some o) (ht : TR O' w (ρ id) t) (hO : ∀ b, b < w.heap.size → O' b → O b) {v : Value} {c : Cell} (h : CR O ρ (look · H) w v c) :
    CR O' ρ (look · (heapFz id t H)) w v (c.fz id t) := by
  induction h with
  | t h => exact .t (h.mono (fun _ _ _ => rfl) hO)
  | @own i o' h h1 =>
    simp only [Cell.fz]
    cases hb : Nat.beq i id with
    | true => have := Nat.eq_of_beq_eq_true hb; subst this; exact .t ht
    | false =>
      have hne : i ≠ id := fun e => by subst e; rw [Nat.beq_refl] at hb; cases hb
      exact .own (o := o'.fz id t) (by simp only [look_heapFz, hne, if_false]; rw [show look i H = some o' from h]; rfl) h1
  | @ownj i v h h1 =>
    simp only [Cell.fz]
    cases hb : Nat.beq i id with
    | true => have := Nat.eq_of_beq_eq_true hb; subst this; rw [ho] at h; cases h
    | false =>
      have hne : i ≠ id := fun e => by subst e; rw [Nat.beq_refl] at hb; cases hb
      exact .ownj (by simp only [look_heapFz, hne, if_false]; rw [show look i H = none from h]; rfl) h1
  | @ptr i j k g o' h hb =>
    simp only [Cell.fz]
    by_cases hi : i = id
    · exact .ptrj (by simp [look_heapFz, hi]) rfl
    · rw [← Obj.fz_es id t o']
      exact .ptr (o := o'.fz id t) (by simp only [look_heapFz, hi, if_false]; rw [show look i H = some o' from h]; rfl) hb
  | @ptrj i j k v h h1 =>
    simp only [Cell.fz]
    by_cases hi : i = id
    · exact .ptrj (by simp [look_heapFz, hi]) h1
    · exact .ptrj (by simp only [look_heapFz, hi, if_false]; rw [show look i H = none from h]; rfl) h1
  | rop a vals hlen hcell hO1 hrel =>
    have := CR.mono (O' := O') (ρ' := ρ) (H' := (look · (heapFz id t H))) (w' := w) (.rop (ρ := ρ) (H := (look · H)) a vals hlen hcell hO1 hrel) (fun _ _ _ => rfl) hO (fun id o' hh => by simp [Cell.has] at hh)
    exact this
  | @clo g caps vals hlen hrel ih =>
    simp only [Cell.fz]
    refine .clo vals (by rw [fzL_len]; exact hlen) fun k v c hv hc => ?_
    obtain ⟨d, hd, rfl⟩ := fzL_get id t caps k c hc
    exact ih k v d hv hd

theorem CRs.fz {id : Nat} {t : Tree} {o : Obj} (ho : look id H = some o) (ht : TR O' w (ρ id) t) (hO : ∀ b, b < w.heap.size → O' b → O b) {vs : List Value} {cs : List Cell} (h : CRs O ρ (look · H) w vs cs) :
    CRs O' ρ (look · (heapFz id t H)) w vs (fzL id t cs) := by
  refine ⟨by rw [fzL_len]; exact h.1, fun k v c hv hc => ?_⟩
  obtain ⟨d, hd, rfl⟩ := fzL_get id t cs k c hc
  exact (h.2 k v d hv hd).fz ho ht hO

theorem AR.fz {id : Nat} {t : Tree} {o : Obj} (ho : look id H = some o) (ht : TR O' w (ρ id) t) (hO : ∀ b, b < w.heap.size → O' b → O b) {v : Value} {x : AT} (h : AR O ρ (look · H) w v x) :
    AR O' ρ (look · (heapFz id t H)) w v (x.fz id t) := by
  have one : ∀ {v : Value} {b : Bool} {cs : List Cell}, VR O ρ (look · H) w v b cs → VR O' ρ (look · (heapFz id t H)) w v b (fzL id t cs) := by
    intro v b cs h
    cases b with
    | true => obtain ⟨vs, rfl, h⟩ := h; exact ⟨vs, rfl, h.fz ho ht hO⟩
    | false => obtain ⟨c, rfl, h⟩ := h; exact ⟨c.fz id t, rfl, h.fz ho ht hO⟩
  cases x with
  | v agg cells => exact one h
  | tp xs =>
    obtain ⟨vs, rfl, hl, h⟩ := h
    refine ⟨vs, rfl, by simpa using hl, fun k u x hu hx => ?_⟩
    simp only [List.getElem?_map, Option.map_eq_some_iff] at hx
    obtain ⟨y, hy, rfl⟩ := hx
    exact one (h k u y hu hy)

theorem owned_fz {id : Nat} {t : Tree} {b : Nat} (h : owned ρ (look · (heapFz id t H)) b) : ∃ k o, k ≠ id ∧ look k H = some o ∧ blk (ρ k) = some b := by
  obtain ⟨k, o, hk, hb⟩ := h
  simp only [look_heapFz] at hk
  split at hk
  · cases hk
  · rename_i hne
    simp only [Option.map_eq_some_iff] at hk
    obtain ⟨o', ho', _⟩ := hk
    exact ⟨k, o', hne, ho', hb⟩

/-- The slice, as it reads from here on. -/
theorem MR.fzT (h : MR A ρ (look · H) w) {id : Nat} {o : Obj} {t : Tree} (ho : look id H = some o) (ht : roOf o = some t) : TR (fun b => A b ∨ owned ρ (look · (heapFz id t H)) b) w (ρ id) t := by
  cases o with
  | box => cases ht
  | ghost => cases ht
  | rows ty es enc z xs =>
    injection ht with ht; subst ht
    obtain ⟨vs, hown, hes, hct⟩ := h.obj _ _ ho
    have hct2 := hct.mono (w' := w) (O' := fun b => A b ∨ owned ρ (look · (heapFz id (.ro es enc z xs) H)) b) (fun _ _ _ => rfl) (by
      rintro b _ (hA | hb)
      · exact .inl hA
      · obtain ⟨k, o, _, h1, h2⟩ := owned_fz hb
        exact .inr ⟨k, o, h1, h2⟩)
    rcases hown.2 with ⟨e0, hx0⟩ | ⟨g, cap, cur, e0, _, hg, hle, hcm, hsz, htk⟩
    · have : xs = [] := List.length_eq_zero_iff.1 hx0
      subst this
      rw [e0]; exact .nil ..
    · have hbl : blk (ρ id) = some g := by rw [e0]; rfl
      rw [e0]
      refine TR.ro ⟨g, 0, none⟩ cap vs hle hcm hes hct.1 (hown.cells (g := g) (by rw [e0]; rfl)) (.inr ?_) hct2.2
      rintro (hA | hb)
      · exact h.av id _ g ho hbl hA
      · obtain ⟨k, o, hne, h1, h2⟩ := owned_fz hb
        exact hne (h.disj k id o _ g h1 ho h2 hbl)

theorem MR.fz (h : MR A ρ (look · H) w) {id : Nat} {o : Obj} {t : Tree} (ho : look id H = some o) (ht : roOf o = some t) : MR A ρ (look · (heapFz id t H)) w := by
  have hT := h.fzT ho ht
  have hO : ∀ b, b < w.heap.size → (A b ∨ owned ρ (look · (heapFz id t H)) b) → (A b ∨ owned ρ (look · H) b) := by
    rintro b _ (hA | hb)
    · exact .inl hA
    · obtain ⟨k, o, _, h1, h2⟩ := owned_fz hb
      exact .inr ⟨k, o, h1, h2⟩
  have hk : ∀ {k o'}, look k (heapFz id t H) = some o' → ∃ o2, look k H = some o2 ∧ o' = o2.fz id t := by
    intro k o' hk
    rw [look_heapFz] at hk
    split at hk
    · cases hk
    · simp only [Option.map_eq_some_iff] at hk
      obtain ⟨o2, h2, rfl⟩ := hk
      exact ⟨o2, h2, rfl⟩
  refine ⟨fun k o' hko => ?_, fun i j a b g hi hj => ?_, fun k o' g hko => ?_⟩
  · obtain ⟨o2, h2, rfl⟩ := hk hko
    have hor := h.obj k o2 h2
    cases o2 with
    | box ty cells => obtain ⟨g, vs, h1, h3, h4⟩ := hor; exact ⟨g, vs, h1, h3, h4.fz ho hT hO⟩
    | rows ty es enc z xs => obtain ⟨vs, h1, h3, h4⟩ := hor; exact ⟨vs, h1, h3, h4.mono (fun _ _ _ => rfl) hO⟩
    | ghost vs cells => exact ⟨hor.1, hor.2.fz ho hT hO⟩
  · obtain ⟨o2, h2, _⟩ := hk hi
    obtain ⟨o3, h3, _⟩ := hk hj
    exact h.disj i j o2 o3 g h2 h3
  · obtain ⟨o2, h2, _⟩ := hk hko
    exact h.av k o2 g h2
end

/-- The slice id is only read from here on. -/
def St.fz (id : Nat) (s : St) : Option St :=
  match s.H id with
  | some o => match roOf o with
    | some t => some ⟨s.env.map fun x => (x.1, x.2.1, x.2.2.fz id t), heapFz id t s.heap, s.n⟩
    | none => none
  | none => none

section
variable {W : World} {A K : Nat → Prop} {s s' : St} {a : Act} {w : World} {ρ : Nat → Value}

theorem Rel.fz (h : Rel W A K s a w ρ) {id : Nat} (hs : s.fz id = some s') : Rel W A K s' a w ρ := by
  unfold St.fz at hs
  split at hs
  · rename_i o ho
    split at hs
    · rename_i t ht
      injection hs with hs; subst hs
      have hT := h.mr.fzT ho ht
      refine ⟨h.ext, h.kl, h.al, h.mr.fz ho ht, fun k o' g hk hb => ?_, fun u g x hl => ?_, h.defers, h.size⟩
      · simp only [St.H, look_heapFz] at hk
        split at hk
        · cases hk
        · simp only [Option.map_eq_some_iff] at hk
          obtain ⟨o2, h2, _⟩ := hk
          exact h.low k o2 g h2 hb
      · have hm : look u (s.env.map fun x => (x.1, ((fun y : Gd × AT => (y.1, y.2.fz id t)) x.2))) = some (g, x) := hl
        rw [look_map (fun y : Gd × AT => (y.1, y.2.fz id t))] at hm
        simp only [Option.map_eq_some_iff] at hm
        obtain ⟨⟨g', x'⟩, hl', he⟩ := hm
        injection he with e1 e2; subst e1; subst e2
        obtain ⟨v, hv, h1, h2⟩ := h.env u g' x' hl'
        refine ⟨v, hv, fun hp => (h1 hp).fz ho hT ?_, h2⟩
        rintro b _ (hA | hb)
        · exact .inl hA
        · obtain ⟨k, o, _, q1, q2⟩ := owned_fz hb
          exact .inr ⟨k, o, q1, q2⟩
    · cases hs
  · cases hs
end

theorem map_same {α : Type 1} {f : α → α} : ∀ (l : List α), (∀ x ∈ l, f x = x) → l.map f = l
  | [], _ => rfl
  | x :: r, h => by simp only [List.map_cons]; rw [h x (by simp), map_same r fun y hy => h y (by simp [hy])]

mutual
theorem Cell.fz_id {id : Nat} {t : Tree} : ∀ (c : Cell), c.has id = false → c.fz id t = c
  | .t _, _ => rfl
  | .own i, h => by simp only [Cell.has] at h; simp only [Cell.fz, h, cond_false]
  | .ptr _ _ _, _ => rfl
  | .rop _, _ => rfl
  | .clo g caps, h => by simp only [Cell.has] at h; simp only [Cell.fz, fzL_id caps h]
theorem fzL_id {id : Nat} {t : Tree} : ∀ (l : List Cell), hasL id l = false → fzL id t l = l
  | [], _ => rfl
  | c :: r, h => by
    simp only [hasL, Bool.or_eq_false_iff] at h
    simp only [fzL, c.fz_id h.1, fzL_id r h.2]
end

theorem AT.fz_id {id : Nat} {t : Tree} {x : AT} (h : x.has id = false) : x.fz id t = x := by
  cases x with
  | v b cs => simp only [AT.fz, fzL_id cs h]
  | tp xs =>
    simp only [AT.has, List.any_eq_false] at h
    simp only [AT.fz]
    congr 1
    have : ∀ x ∈ xs, (fun x : Bool × List Cell => (x.1, fzL id t x.2)) x = x := fun x hx => by
      have := h x hx
      have h2 : hasL id x.2 = false := by cases hb : hasL id x.2 with | false => rfl | true => exact absurd hb this
      simp only [fzL_id x.2 h2]
    exact map_same xs this

/-- What is made new is only read from here on. -/
def fzR (s : St) (g : Gd) (dst : Option Nat) (r : R) : Option R :=
  match g, dst, r.val with
  | .yes, some d, .v false [.own i] =>
    bif Nat.beq i d && !s.has d then
      match look d r.heap with
      | some o => (roOf o).map fun t => ⟨.v false [.t t], heapFz d t r.heap, r.conds⟩
      | none => none
    else none
  | _, _, _ => none

section
variable {W : World} {A K : Nat → Prop} {s s' : St} {a : Act} {w : World} {ρ : Nat → Value}

theorem fzR_conds {g : Gd} {dst : Option Nat} {r r' : R} (h : fzR s g dst r = some r') : r'.conds = r.conds := by
  unfold fzR at h
  split at h
  · cases hb : (Nat.beq _ _ && !s.has _) with
    | false => rw [hb] at h; cases h
    | true =>
      rw [hb] at h
      simp only [cond_true] at h
      split at h
      · simp only [Option.map_eq_some_iff] at h
        obtain ⟨t, _, h⟩ := h
        subst h; rfl
      · cases h
  · cases h

theorem fzR_goes {o : Oper} {g : Gd} {dst : Option Nat} {r r' : R} (h : Goes P W A K s a w o r) (hr : fzR s g dst r = some r') : Goes P W A K s a w o r' := by
  unfold fzR at hr
  split at hr
  · rename_i d i hval
    cases hb : (Nat.beq i d && !s.has d) with
    | false => rw [hb] at hr; cases hr
    | true =>
      rw [hb] at hr
      simp only [cond_true] at hr
      simp only [Bool.and_eq_true, Bool.not_eq_true'] at hb
      obtain ⟨hi, hd⟩ := hb
      have hi := Nat.eq_of_beq_eq_true hi
      subst hi
      split at hr
      · rename_i ob ho
        simp only [Option.map_eq_some_iff] at hr
        obtain ⟨t, ht, hr⟩ := hr
        subst hr
        intro next Q hn
        refine h next Q fun v w' ρ' hrel hv => hn v w' ρ' ?_ ?_
        · have hfz : St.fz i { s with heap := r.heap } = some { s with heap := heapFz i t r.heap } := by
            unfold St.fz
            simp only [St.H, ho, ht]
            have : s.env.map (fun x => (x.1, x.2.1, x.2.2.fz i t)) = s.env := by
              have h1 : ∀ x ∈ s.env, (fun x : Nat × Gd × AT => (x.1, x.2.1, x.2.2.fz i t)) x = x := fun x hx => by
                simp only [St.has, Bool.or_eq_false_iff, List.any_eq_false] at hd
                have := hd.1 x hx
                have h2 : x.2.2.has i = false := by cases hb : x.2.2.has i with | false => rfl | true => exact absurd hb this
                simp only [AT.fz_id h2]
              exact map_same s.env h1
            rw [this]
          exact hrel.fz hfz
        · rw [hval] at hv
          have hT := hrel.mr.fzT ho ht
          have := hv.fz ho hT (by
            rintro b _ (hA | hb)
            · exact .inl hA
            · obtain ⟨k, o, _, q1, q2⟩ := owned_fz hb
              exact .inr ⟨k, o, q1, q2⟩)
          simpa [AT.fz, fzL, Cell.fz, Nat.beq_refl] using this
      · cases hr
  · cases hr
end

/-- A contract whose answer is only read. -/
theorem AC.fz {f : FuncId} {H : List (Nat × Obj)} {args : List AT} {H' : List (Nat × Obj)} {res : AT} (h : AC P f H args H' res) (id : Nat) {o : Obj} {t : Tree} (ho : look id H' = some o) (ht : roOf o = some t) :
    AC P f H args (heapFz id t H') (res.fz id t) := by
  intro W A ρ vs hA hmr hlow hargs
  refine (h W A ρ vs hA hmr hlow hargs).mono fun e w' => ?_
  rintro ⟨ρ', v, he, hext, hmr', hpl, hv⟩
  have hT := hmr'.fzT ho ht
  refine ⟨ρ', v, he, hext, hmr'.fz ho ht, fun k o' g hk hb => ?_, hv.fz ho hT ?_⟩
  · rw [look_heapFz] at hk
    split at hk
    · cases hk
    · simp only [Option.map_eq_some_iff] at hk
      obtain ⟨o2, h2, _⟩ := hk
      exact hpl k o2 g h2 hb
  · rintro b _ (hA | hb)
    · exact .inl hA
    · obtain ⟨k, o, _, q1, q2⟩ := owned_fz hb
      exact .inr ⟨k, o, q1, q2⟩
end Go.Abs

namespace Go.Abs
set_option linter.unusedVariables false
set_option linter.unusedSimpArgs false
variable {P : Program}

/-! ### Calls that are handed what the caller owns -/
def memL (k : Nat) : List Nat → Bool
  | [] => false
  | i :: r => Nat.beq i k || memL k r

/-- What a state keeps of slots and memory. -/
def pick {α : Type 1} (ts : List Nat) (l : List (Nat × α)) : List (Nat × α) :=
  ts.filterMap fun t => (look t l).map fun x => (t, x)

def dels (ids : List Nat) (H : List (Nat × Obj)) : List (Nat × Obj) := H.filter fun x => !memL x.1 ids

theorem look_dels (ids : List Nat) (k : Nat) : ∀ (H : List (Nat × Obj)), look k (dels ids H) = bif memL k ids then none else look k H
  | [] => by cases memL k ids <;> rfl
  | (j, o) :: r => by
    simp only [dels, List.filter_cons]
    have ih := look_dels ids k r
    simp only [dels] at ih
    cases hj : memL j ids with
    | true =>
      simp only [Bool.not_true, Bool.false_eq_true, if_false]
      rw [ih]
      cases hb : Nat.beq j k with
      | true => have := Nat.eq_of_beq_eq_true hb; subst this; rw [hj]; rfl
      | false => simp only [look, hb, cond_false]
    | false =>
      simp only [Bool.not_false, if_true, look]
      cases hb : Nat.beq j k with
      | true => have := Nat.eq_of_beq_eq_true hb; subst this; rw [hj]; rfl
      | false => simp only [cond_false]; exact ih

theorem look_pickB (k : Nat) (l : List (Nat × Obj)) : ∀ (ts : List Nat), look k (pick ts l) = bif memL k ts then look k l else none
  | [] => rfl
  | u :: r => by
    have ih := look_pickB k l r
    unfold pick at ih ⊢
    simp only [List.filterMap_cons]
    cases hu : look u l with
    | none =>
      simp only [Option.map_none]
      rw [ih]
      simp only [memL]
      cases hb : Nat.beq u k with
      | true => have := Nat.eq_of_beq_eq_true hb; subst this; rw [hu]; simp
      | false => simp
    | some y =>
      simp only [Option.map_some, look, memL]
      cases hb : Nat.beq u k with
      | true => have := Nat.eq_of_beq_eq_true hb; subst this; simp [hu]
      | false => simpa using ih

theorem look_app (k : Nat) (l m : List (Nat × Obj)) : look k (l ++ m) = match look k l with | some o => some o | none => look k m := by
  induction l with
  | nil => rfl
  | cons y r ih =>
    obtain ⟨u, x⟩ := y
    simp only [List.cons_append, look]
    cases Nat.beq u k <;> simp [ih]

def isPtrTo (id : Nat) : Cell → Bool
  | .ptr i _ _ => Nat.beq i id
  | _ => false
def isOwn (id : Nat) : Cell → Bool
  | .own i => Nat.beq i id
  | _ => false

/-- What is handed over under this name comes back at the same place. -/
def keptOk (H H' : List (Nat × Obj)) (args : List Cell) (id : Nat) : Bool :=
  match look id H, look id H' with
  | some (.box ..), some (.box ..) => args.any (isPtrTo id)
  | some (.rows _ es _ _ _), some (.rows _ es' _ _ _) => Nat.beq es es' && args.any (isOwn id)
  | _, _ => false

def freshM (names : List (Nat × Nat)) (kept : List Nat) (H H' : List (Nat × Obj)) (args : List Cell) (s : St) : Bool :=
  H'.all fun x => bif memL x.1 kept then Nat.beq (nameOf names x.1) x.1 && keptOk H H' args x.1 else !s.has (nameOf names x.1)

def callStepM (P : Program) (tb : Tab) (ids kept : List Nat) (names : List (Nat × Nat)) (H' : List (Nat × Obj)) (res : AT) (s : St) (g : Gd) (o : Op) : Option R :=
  match g, o with
  | .yes, .call c =>
    match c.callee with
    | .value fo =>
      match opT s fo, capsA s .yes c.args.toList with
      | some (gf, .v false [.clo f caps]), some (xs, q) =>
        if (tb.fns.any fun k => Nat.beq k f) && freshM names kept (pick ids s.heap) H' (xs ++ caps) s && closedB H' res && distinctL (H'.map fun x => nameOf names x.1) then
          some ⟨res.ren (nameOf names), heapRen (nameOf names) H' ++ dels ids s.heap, needs .yes gf ++ q ++ [AC2 P f (pick ids s.heap) (xs ++ caps) H' res]⟩
        else none
      | _, _ => none
    | _ => none
  | _, _ => none

section
variable {W : World} {A K : Nat → Prop} {s : St} {a : Act} {w : World} {ρ : Nat → Value}

theorem ptr_inv {O : Nat → Prop} {H : Nat → Option Obj} {v : Value} {id i j : Nat} {o : Obj} (h : CR O ρ H w v (.ptr id i j)) (ho : H id = some o) : ∃ g, v = .pointer (some ⟨g, i * o.es + j, none⟩) ∧ blk (ρ id) = some g := by
  cases h with
  | ptr h hb => rw [ho] at h; injection h with h; subst h; exact ⟨_, rfl, hb⟩
  | ptrj hn => rw [ho] at hn; cases hn

theorem kept_place {O O' : Nat → Prop} {H H' : List (Nat × Obj)} {args : List Cell} {id : Nat} {ρ' : Nat → Value} {w' : World} {vs : List Value} {A' : Nat → Prop} (hk : keptOk H H' args id = true) (hm : MR A ρ (look · H) w) (hm' : MR A' ρ' (look · H') w')
    (h : CRs O ρ (look · H) w vs args) (h' : CRs O' ρ' (look · H') w' vs args) : ∃ o o', look id H = some o ∧ look id H' = some o' ∧ o.es = o'.es ∧ ρ' id = ρ id := by
  unfold keptOk at hk
  split at hk
  · rename_i ty cs ty' cs' h1 h2
    rw [List.any_eq_true] at hk
    obtain ⟨c, hc, hi⟩ := hk
    obtain ⟨k, hk⟩ := List.getElem?_of_mem hc
    cases c with
    | ptr i x y =>
      have : i = id := Nat.eq_of_beq_eq_true hi
      subst this
      have hlt : k < vs.length := by rw [h.1]; exact (List.getElem?_eq_some_iff.1 hk).1
      have e1 := h.2 k vs[k] _ (List.getElem?_eq_getElem hlt) hk
      have e2 := h'.2 k vs[k] _ (List.getElem?_eq_getElem hlt) hk
      obtain ⟨g, us, hp, _⟩ := hm.obj _ _ h1
      obtain ⟨g', us', hp', _⟩ := hm'.obj _ _ h2
      refine ⟨_, _, h1, h2, rfl, ?_⟩
      generalize vs[k] = v at e1 e2
      obtain ⟨g1, he1, hb1⟩ := ptr_inv e1 h1
      obtain ⟨g2, he2, hb2⟩ := ptr_inv e2 h2
      rw [he1] at he2
      simp only [Value.pointer.injEq, Option.some.injEq, Addr.mk.injEq] at he2
      rw [hp] at hb1; rw [hp'] at hb2
      simp [blk] at hb1 hb2
      rw [hp, hp', hb1, hb2, he2.1]
    | _ => simp [isPtrTo] at hi
  · rename_i T ty es enc z xs T' ty' es' enc' z' xs' h1 h2
    simp only [Bool.and_eq_true] at hk
    obtain ⟨he, hk⟩ := hk
    rw [List.any_eq_true] at hk
    obtain ⟨c, hc, hi⟩ := hk
    obtain ⟨k, hk⟩ := List.getElem?_of_mem hc
    cases c with
    | own i =>
      have : i = id := Nat.eq_of_beq_eq_true hi
      subst this
      have hlt : k < vs.length := by rw [h.1]; exact (List.getElem?_eq_some_iff.1 hk).1
      have e1 := h.2 k vs[k] _ (List.getElem?_eq_getElem hlt) hk
      have e2 := h'.2 k vs[k] _ (List.getElem?_eq_getElem hlt) hk
      refine ⟨_, _, h1, h2, Nat.eq_of_beq_eq_true he, ?_⟩
      generalize hv : vs[k] = v at e1 e2
      cases e1 with
      | ownj hn => rw [h1] at hn; cases hn
      | own hh hb =>
        generalize hw : ρ i = u at e2
        cases e2 with
        | own hh2 hb2 => rfl
        | ownj hn => rw [h2] at hn; cases hn
    | _ => simp [isOwn] at hi
  · cases hk

/-- What the callee is handed: what it owns, and what it doesn't. -/
def Rest (A : Nat → Prop) (ρ : Nat → Value) (s : St) (ids : List Nat) (b : Nat) : Prop := A b ∨ ∃ k o, memL k ids = false ∧ s.H k = some o ∧ blk (ρ k) = some b

theorem rest_O {ids : List Nat} {b : Nat} (h : Rest A ρ s ids b ∨ owned ρ (look · (pick ids s.heap)) b) : s.O A ρ b := by
  rcases h with (hA | ⟨k, o, _, h1, h2⟩) | ⟨k, o, h1, h2⟩
  · exact .inl hA
  · exact .inr ⟨k, o, h1, h2⟩
  · simp only [look_pickB] at h1
    cases hm : memL k ids with
    | false => rw [hm] at h1; cases h1
    | true => rw [hm] at h1; exact .inr ⟨k, o, h1, h2⟩

theorem picked {ids : List Nat} {k : Nat} {o : Obj} (h : look k (pick ids s.heap) = some o) : memL k ids = true ∧ s.H k = some o := by
  rw [look_pickB] at h
  cases hm : memL k ids with
  | false => rw [hm] at h; cases h
  | true => rw [hm] at h; exact ⟨rfl, h⟩

theorem Rel.handed (h : Rel W A K s a w ρ) (ids : List Nat) : MR (Rest A ρ s ids) ρ (look · (pick ids s.heap)) w ∧ (∀ id o g, look id (pick ids s.heap) = some o → blk (ρ id) = some g → g < w.heap.size) ∧
    (∀ b, Rest A ρ s ids b → b < w.heap.size) ∧ ∀ {vs cs}, CRs (s.O A ρ) ρ s.H w vs cs → CRs (fun b => Rest A ρ s ids b ∨ owned ρ (look · (pick ids s.heap)) b) ρ (look · (pick ids s.heap)) w vs cs := by
  have hO : ∀ b, b < w.heap.size → (Rest A ρ s ids b ∨ owned ρ (look · (pick ids s.heap)) b) → s.O A ρ b := fun b _ hb => rest_O hb
  have hid : ∀ id o', look id (pick ids s.heap) = some o' → ∃ o, s.H id = some o ∧ o.es = o'.es ∧ ρ id = ρ id := fun id o' ho => ⟨o', (picked ho).2, rfl, rfl⟩
  refine ⟨⟨fun id o ho => ?_, fun i j x y g hi hj => h.mr.disj i j x y g (picked hi).2 (picked hj).2, fun id o g ho hb => ?_⟩, fun id o g ho hb => (h.low id o g (picked ho).2 hb).2, ?_, fun hc => hc.mono (fun _ _ _ => rfl) hO fun id o' _ ho => hid id o' ho⟩
  · have hor := h.mr.obj id o (picked ho).2
    cases o with
    | box ty cells => obtain ⟨g, vs, h1, h2, h3⟩ := hor; exact ⟨g, vs, h1, h2, h3.mono (fun _ _ _ => rfl) hO fun id o' _ ho => hid id o' ho⟩
    | rows ty es enc z xs => obtain ⟨vs, h1, h2, h3⟩ := hor; exact ⟨vs, h1, h2, h3.mono (fun _ _ _ => rfl) hO⟩
    | ghost vs cells => exact ⟨hor.1, hor.2.mono (fun _ _ _ => rfl) hO fun id o' _ ho => hid id o' ho⟩
  · rintro (hA | ⟨k, o2, hk, h1, h2⟩)
    · exact h.mr.av id o g (picked ho).2 hb hA
    · have := h.mr.disj id k o o2 g (picked ho).2 h1 hb h2
      subst this
      rw [(picked ho).1] at hk; cases hk
  · rintro b (hA | ⟨k, o, _, h1, h2⟩)
    · exact Nat.lt_of_lt_of_le (h.al b hA) h.ext.size
    · exact (h.low k o b h1 h2).2

theorem call_backM (h : Rel W A K s a w ρ) {ids kept : List Nat} {f : Nat → Nat} {H' : List (Nat × Obj)} {res : AT} {ρ' : Nat → Value} {w' : World} {v : Value}
    (hfr : ∀ x ∈ H', s.has (f x.1) = false ∨ (f x.1 = x.1 ∧ ∃ o o', look x.1 (pick ids s.heap) = some o ∧ look x.1 H' = some o' ∧ o.es = o'.es ∧ ρ' x.1 = ρ x.1))
    (hdis : distinctL (H'.map fun x => f x.1) = true) (hcl : closedIn H' res)
    (hext : Ext (fun b => b < w.heap.size ∧ ¬ owned ρ (look · (pick ids s.heap)) b) w w') (hmr : MR (Rest A ρ s ids) ρ' (look · H') w')
    (hpl : ∀ id o g, look id H' = some o → blk (ρ' id) = some g → g < w'.heap.size ∧ (owned ρ (look · (pick ids s.heap)) g ∨ w.heap.size ≤ g))
    (hv : AR (fun b => Rest A ρ s ids b ∨ owned ρ' (look · H') b) ρ' (look · H') w' v res) :
    ∃ ρ'', Rel W A K { s with heap := heapRen f H' ++ dels ids s.heap } a w' ρ'' ∧ AR (St.O { s with heap := heapRen f H' ++ dels ids s.heap } A ρ'') ρ'' (St.H { s with heap := heapRen f H' ++ dels ids s.heap }) w' v (res.ren f) := by
  generalize hρ : (fun k => match srcOf f k H' with | some i => ρ' i | none => ρ k) = ρ''
  have hρs : ∀ {k i}, srcOf f k H' = some i → ρ'' k = ρ' i := fun hk => by rw [← hρ]; simp [hk]
  have hρn : ∀ {k}, srcOf f k H' = none → ρ'' k = ρ k := fun hk => by rw [← hρ]; simp [hk]
  have hHs : ∀ {k i}, srcOf f k H' = some i → ∃ o, look i H' = some o ∧ St.H { s with heap := heapRen f H' ++ dels ids s.heap } k = some (o.ren f) := fun hk => by
    obtain ⟨_, o, h1, h2⟩ := src_some hk
    exact ⟨o, h1, by simp only [St.H, look_app, h2]⟩
  have hHn : ∀ {k}, srcOf f k H' = none → St.H { s with heap := heapRen f H' ++ dels ids s.heap } k = bif memL k ids then none else s.H k := fun hk => by simp only [St.H, look_app, src_none hk, look_dels]
  have hown : ∀ {g}, owned ρ (look · (pick ids s.heap)) g → ∃ k o, memL k ids = true ∧ s.H k = some o ∧ blk (ρ k) = some g := by
    rintro g ⟨k, o, h1, h2⟩
    obtain ⟨q1, q2⟩ := picked h1
    exact ⟨k, o, q1, q2, h2⟩
  have T : Turn s { s with heap := heapRen f H' ++ dels ids s.heap } w w' ρ ρ'' (fun k => memL k ids = true ∨ (srcOf f k H').isSome = true) := by
    refine ⟨hext.os, hext.tape, hext.output, hext.size, fun b hl hb => hext.block b ⟨hl, fun ho => ?_⟩, ?_, ?_, ?_, ?_⟩
    · obtain ⟨k, o, q1, q2, q3⟩ := hown ho
      exact hb k o (.inl q1) q2 q3
    · intro k hk
      have hn : srcOf f k H' = none := by
        cases hq : srcOf f k H' with
        | none => rfl
        | some i => exact absurd (.inr (by rw [hq]; rfl)) hk
      have hm : memL k ids = false := by
        cases hq : memL k ids with
        | false => rfl
        | true => exact absurd (.inl hq) hk
      exact ⟨by rw [hHn hn, hm]; rfl, hρn hn⟩
    · intro k o g hk hko hb
      cases hq : srcOf f k H' with
      | none =>
        rw [hHn hq] at hko
        have hm : memL k ids = true := by
          rcases hk with hk | hk
          · exact hk
          · rw [hq] at hk; cases hk
        rw [hm] at hko; cases hko
      | some i =>
        rw [hρs hq] at hb
        obtain ⟨o1, h1, _⟩ := hHs hq
        obtain ⟨q1, q2⟩ := hpl i o1 g h1 hb
        refine ⟨q1, q2.symm.imp (fun x => x) fun hx => ?_⟩
        obtain ⟨k2, o2, r1, r2, r3⟩ := hown hx
        exact ⟨k2, o2, .inl r1, r2, r3⟩
    · have src : ∀ k x, (memL k ids = true ∨ (srcOf f k H').isSome = true) → St.H { s with heap := heapRen f H' ++ dels ids s.heap } k = some x → ∃ i, srcOf f k H' = some i := by
        intro k x hk hx
        cases hq : srcOf f k H' with
        | some i => exact ⟨i, rfl⟩
        | none =>
          rw [hHn hq] at hx
          rcases hk with hk | hk
          · rw [hk] at hx; cases hx
          · rw [hq] at hk; cases hk
      intro k l x y g hk hl hkx hly hbk hbl
      obtain ⟨i, hi⟩ := src k x hk hkx
      obtain ⟨j, hj⟩ := src l y hl hly
      rw [hρs hi] at hbk; rw [hρs hj] at hbl
      obtain ⟨o1, h1, _⟩ := hHs hi
      obtain ⟨o2, h2, _⟩ := hHs hj
      have := hmr.disj i j o1 o2 g h1 h2 hbk hbl
      subst this
      exact (src_some hi).1.symm.trans (src_some hj).1
    · intro k o' hk hko
      cases hq : srcOf f k H' with
      | none =>
        rw [hHn hq] at hko
        rcases hk with hk | hk
        · rw [hk] at hko; cases hko
        · rw [hq] at hk; cases hk
      | some i =>
        obtain ⟨e, o1, h1, h2⟩ := src_some hq
        rcases hfr _ (look_mem h1) with hf | ⟨e2, o, o2, q1, q2, q3, q4⟩
        · exact .inl (by rw [← e]; exact hf)
        · simp only at e2 q1 q2 q4
          refine .inr ⟨o, ?_, ?_, ?_⟩
          · rw [← e, e2]; exact (picked q1).2
          · obtain ⟨o3, h3, h4⟩ := hHs hq
            rw [q2] at h3; injection h3 with h3; subst h3
            rw [h4] at hko; injection hko with hko
            rw [← hko, Obj.ren_es]; exact q3
          · rw [hρs hq, ← e, e2]; exact q4
  have hO2 : ∀ b, b < w'.heap.size → St.O { s with heap := heapRen f H' ++ dels ids s.heap } A ρ'' b → Rest A ρ s ids b ∨ owned ρ' (look · H') b := by
    rintro b hb (hA | ⟨k, o, hk, hbk⟩)
    · exact .inl (.inl hA)
    · cases hq : srcOf f k H' with
      | none =>
        rw [hHn hq] at hk; rw [hρn hq] at hbk
        cases hm : memL k ids with
        | true => rw [hm] at hk; cases hk
        | false => rw [hm] at hk; exact .inl (.inr ⟨k, o, hm, hk, hbk⟩)
      | some i =>
        rw [hρs hq] at hbk
        obtain ⟨o1, h1, _⟩ := hHs hq
        exact .inr ⟨i, o1, h1, hbk⟩
  have hid : ∀ id o', (∃ o, look id H' = some o) → St.H { s with heap := heapRen f H' ++ dels ids s.heap } (f id) = some o' → ∃ o, look id H' = some o ∧ o.es = o'.es ∧ ρ'' (f id) = ρ' id := by
    rintro id o' ⟨o, ho⟩ hk
    have hs := src_key hdis ho
    obtain ⟨o1, h1, h2⟩ := hHs hs
    have e1 : o1 = o := by have := h1.symm.trans ho; simpa using this
    subst e1
    have e2 : o1.ren f = o' := by have := h2.symm.trans hk; simpa using this
    exact ⟨o1, ho, by rw [← e2, Obj.ren_es], hρs hs⟩
  refine ⟨ρ'', h.turn T rfl rfl ?_, hv.rename hO2 fun id o' hh hk => hid id o' (hcl id (.inl hh)) hk⟩
  intro k o hk hko
  cases hi : srcOf f k H' with
  | none =>
    rw [hHn hi] at hko
    rcases hk with hk | hk
    · rw [hk] at hko; cases hko
    · rw [hi] at hk; cases hk
  | some i =>
    obtain ⟨o1, h1, h2⟩ := hHs hi
    have e : o1.ren f = o := by have := h2.symm.trans hko; simpa using this
    subst e
    have hor := hmr.obj i o1 h1
    cases o1 with
    | box ty cells =>
      obtain ⟨g, vs, hp, hg, hc⟩ := hor
      exact ⟨g, vs, (hρs hi).trans hp, hg, hc.rename hO2 fun id o' hh hk => hid id o' (hcl id (.inr ⟨_, look_mem h1, hh⟩)) hk⟩
    | rows ty es enc z xs =>
      obtain ⟨vs, hown, hes, hc⟩ := hor
      exact ⟨vs, by rw [hρs hi]; exact hown, hes, hc.mono (fun _ _ _ => rfl) hO2⟩
    | ghost vs cells => exact ⟨by rw [hρs hi]; exact hor.1, hor.2.rename hO2 fun id o' hh hk => hid id o' (hcl id (.inr ⟨_, look_mem h1, hh⟩)) hk⟩

theorem CRs.get1 {O : Nat → Prop} {H : Nat → Option Obj} {v : Value} {c : Cell} (h : AR O ρ H w v (.v false [c])) : CR O ρ H w v c := by
  obtain ⟨d, hd, h⟩ := h
  simp at hd; subst hd; exact h

theorem callM_goes (h : Rel W A K s a w ρ) {o : Oper} {g : Gd} {tb : Tab} (hT : TabOk P tb) {ids kept : List Nat} {names : List (Nat × Nat)} {H' : List (Nat × Obj)} {res : AT} {r : R} (hs : callStepM P tb ids kept names H' res s g o.op = some r) (hc : AllC r.conds) : Goes P W A K s a w o r := by
  unfold callStepM at hs
  split at hs
  · rename_i _ c hop
    split at hs
    · rename_i fo hcal
      split at hs
      · rename_i gf f caps xs q hfo hxs
        split at hs
        · rename_i hcond
          injection hs with hs; subst hs
          simp only [Bool.and_eq_true] at hcond
          obtain ⟨⟨⟨hfn, hfr⟩, hclo⟩, hdis⟩ := hcond
          have hclosed := closedB_in hclo
          obtain ⟨hc12, hc3⟩ := AllC_append.1 hc
          obtain ⟨hc1, hc2⟩ := AllC_append.1 hc12
          have hf := CRs.get1 (opT_sound h hfo (needs_of rfl hc1))
          have hargs := capsA_run h rfl hxs hc2
          obtain ⟨hac, _⟩ := hc3
          generalize hfe : a.eval fo = fv at hf
          cases hf with
          | clo vals hlen hrel =>
          have hall : CRs (s.O A ρ) ρ s.H w (c.args.toList.map a.eval ++ vals) (xs ++ caps) := hargs.append ⟨hlen, hrel⟩
          have hent : entered P f = true := by
            simp only [List.any_eq_true] at hfn
            obtain ⟨k, hk, hkf⟩ := hfn
            have := Nat.eq_of_beq_eq_true hkf; subst this
            exact hT.fns hk
          have hrun : (execOp a.eval o).run P w = .ok (.enter f (c.args.toList.map a.eval ++ vals).toArray) w := by
            unfold entered at hent
            split at hent
            · rename_i fn hfn2
              simp only [Bool.and_eq_true, Bool.not_eq_true'] at hent
              have n1 : ¬ (fn.name == "runtime.NumGoroutine") = true := by rw [hent.1]; simp
              have n2 : ¬ fn.body.isNone = true := by rw [hent.2]; simp
              simp only [execOp, hop, resolve, hcal, hfe, Deferred.ofValue, Sem.run_bind, Sem.run_pure, Result.andThen_ok, invoke, callFunc, run_program, hfn2, n1, n2, if_false]
              simp only [Bool.false_eq_true, if_false, Sem.run_pure]
              congr 2
              apply Array.ext'
              simp
            · cases hent
          obtain ⟨hm, hl, hA, harg⟩ := h.handed ids
          intro next Q hn
          unfold Oper.wp
          rw [hrun]
          show Calls P f _ w _
          refine (hac w _ ρ _ hA hm hl (harg hall)).mono ?_
          rintro e w' ⟨ρ', v, rfl, hext, hmr, hpl, hv, hback⟩
          have hfr' : ∀ x ∈ H', s.has (nameOf names x.1) = false ∨ (nameOf names x.1 = x.1 ∧ ∃ o o', look x.1 (pick ids s.heap) = some o ∧ look x.1 H' = some o' ∧ o.es = o'.es ∧ ρ' x.1 = ρ x.1) := by
            intro x hx
            simp only [freshM, List.all_eq_true] at hfr
            have hx2 := hfr x hx
            cases hk : memL x.1 kept with
            | false => rw [hk] at hx2; exact .inl (by simpa using hx2)
            | true =>
              rw [hk] at hx2
              simp only [cond_true, Bool.and_eq_true] at hx2
              exact .inr ⟨Nat.eq_of_beq_eq_true hx2.1, kept_place hx2.2 hm hmr (harg hall) hback⟩
          obtain ⟨ρ'', hrel', har⟩ := call_backM h (ids := ids) (kept := kept) (f := nameOf names) (ρ' := ρ') (w' := w') (v := v) hfr' hdis hclosed hext hmr hpl hv
          exact hn v w' ρ'' hrel' har
        · cases hs
      · cases hs
    · cases hs
  · cases hs

end
end Go.Abs

namespace Go.Abs
set_option linter.unusedVariables false
set_option linter.unusedSimpArgs false
variable {P : Program}

/-! ### A contract under other names -/
section
variable {O O' A : Nat → Prop} {ρ : Nat → Value} {w : World} {H : List (Nat × Obj)} {g : Nat → Nat}

theorem look_ren (hg : ∀ a b, g a = g b → a = b) (id : Nat) : ∀ (H : List (Nat × Obj)), look (g id) (heapRen g H) = (look id H).map (·.ren g)
  | [] => rfl
  | (k, o) :: r => by
    simp only [heapRen, List.map_cons, look]
    cases hb : Nat.beq k id with
    | true => have := Nat.eq_of_beq_eq_true hb; subst this; simp [Nat.beq_refl]
    | false =>
      have : Nat.beq (g k) (g id) = false := by
        cases hq : Nat.beq (g k) (g id) with
        | false => rfl
        | true => have := hg _ _ (Nat.eq_of_beq_eq_true hq); subst this; rw [Nat.beq_refl] at hb; cases hb
      rw [this]
      simp only [cond_false]
      exact look_ren hg id r

theorem look_ren_inv (H : List (Nat × Obj)) {k : Nat} {o' : Obj} (h : look k (heapRen g H) = some o') : ∃ id, g id = k := by
  have := look_mem h
  simp only [heapRen, List.mem_map] at this
  obtain ⟨x, _, hx⟩ := this
  injection hx with h1 _
  exact ⟨x.1, h1⟩

mutual
theorem CR.unren (hg : ∀ a b, g a = g b → a = b) (hO : ∀ b, b < w.heap.size → O' b → O b) : ∀ (c : Cell) {v : Value}, CR O ρ (look · (heapRen g H)) w v (c.ren g) → CR O' (ρ ∘ g) (look · H) w v c
  | .t x, v, h => .t (h.tr.mono (fun _ _ _ => rfl) hO)
  | .own id, v, h => by
    simp only [Cell.ren] at h
    cases h with
    | own h h1 =>
      rw [look_ren hg] at h
      simp only [Option.map_eq_some_iff] at h
      obtain ⟨o, ho, _⟩ := h
      exact CR.own (ρ := ρ ∘ g) ho h1
    | ownj h h1 =>
      rw [look_ren hg] at h
      exact .ownj (by simpa using h) h1
  | .ptr id i j, v, h => by
    simp only [Cell.ren] at h
    cases h with
    | ptr h hb =>
      rw [look_ren hg] at h
      simp only [Option.map_eq_some_iff] at h
      obtain ⟨o, ho, rfl⟩ := h
      rw [Obj.ren_es]
      exact CR.ptr (ρ := ρ ∘ g) ho hb
    | ptrj h h1 =>
      rw [look_ren hg] at h
      exact .ptrj (by simpa using h) h1
  | .rop cells, v, h => by
    simp only [Cell.ren] at h
    exact h.mono (fun _ _ _ => rfl) hO (fun id o' hh => by simp [Cell.has] at hh)
  | .clo f caps, v, h => by
    simp only [Cell.ren] at h
    cases h with
    | clo vals hlen hrel =>
      have := CRs.unren hg hO caps (vs := vals) ⟨hlen, hrel⟩
      exact .clo vals this.1 this.2
theorem CRs.unren (hg : ∀ a b, g a = g b → a = b) (hO : ∀ b, b < w.heap.size → O' b → O b) : ∀ (cs : List Cell) {vs : List Value}, CRs O ρ (look · (heapRen g H)) w vs (renL g cs) → CRs O' (ρ ∘ g) (look · H) w vs cs
  | [], vs, h => by
    have : vs = [] := List.length_eq_zero_iff.1 (by simpa [renL] using h.1)
    subst this; exact CRs.nil
  | c :: r, [], h => by have := h.1; simp [renL] at this
  | c :: r, v :: vs, h => by
    simp only [renL] at h
    refine CRs.cons (CR.unren hg hO c (h.2 0 v _ rfl rfl)) (CRs.unren hg hO r ⟨by have := h.1; simpa using this, fun k u d hu hd => h.2 (k + 1) u d (by simpa using hu) (by simpa using hd)⟩)
end

theorem AR.unren (hg : ∀ a b, g a = g b → a = b) (hO : ∀ b, b < w.heap.size → O' b → O b) {x : AT} {v : Value} (h : AR O ρ (look · (heapRen g H)) w v (x.ren g)) : AR O' (ρ ∘ g) (look · H) w v x := by
  have one : ∀ {v : Value} {b : Bool} {cs : List Cell}, VR O ρ (look · (heapRen g H)) w v b (renL g cs) → VR O' (ρ ∘ g) (look · H) w v b cs := by
    intro v b cs h
    cases b with
    | true => obtain ⟨vs, rfl, h⟩ := h; exact ⟨vs, rfl, CRs.unren hg hO cs h⟩
    | false =>
      obtain ⟨c, hc, h⟩ := h
      match cs with
      | [] => simp [renL] at hc
      | [d] => simp [renL] at hc; subst hc; exact ⟨d, rfl, CR.unren hg hO d h⟩
      | _ :: _ :: _ => simp [renL] at hc
  cases x with
  | v agg cells => exact one h
  | tp xs =>
    obtain ⟨vs, rfl, hl, h⟩ := h
    refine ⟨vs, rfl, by simpa using hl, fun k u x hu hx => one (h k u (x.1, renL g x.2) hu (by simp [hx]))⟩

theorem owned_ren (hg : ∀ a b, g a = g b → a = b) {b : Nat} : owned ρ (look · (heapRen g H)) b ↔ owned (ρ ∘ g) (look · H) b := by
  constructor
  · rintro ⟨k, o, hk, hb⟩
    obtain ⟨id, rfl⟩ := look_ren_inv H hk
    simp only [look_ren hg, Option.map_eq_some_iff] at hk
    obtain ⟨o2, h2, _⟩ := hk
    exact ⟨id, o2, h2, hb⟩
  · rintro ⟨id, o, ho, hb⟩
    exact ⟨g id, o.ren g, by simp only [look_ren hg, ho]; rfl, hb⟩

theorem MR.unren (hg : ∀ a b, g a = g b → a = b) (h : MR A ρ (look · (heapRen g H)) w) : MR A (ρ ∘ g) (look · H) w := by
  have hO : ∀ b, b < w.heap.size → (A b ∨ owned (ρ ∘ g) (look · H) b) → (A b ∨ owned ρ (look · (heapRen g H)) b) := fun b _ hb => hb.imp (fun x => x) fun x => (owned_ren hg).2 x
  have hl : ∀ {id o}, look id H = some o → look (g id) (heapRen g H) = some (o.ren g) := fun ho => by rw [look_ren hg, ho]; rfl
  refine ⟨fun id o ho => ?_, fun i j a b k hi hj hbi hbj => hg _ _ (h.disj (g i) (g j) (a.ren g) (b.ren g) k (hl hi) (hl hj) hbi hbj), fun id o k ho hb => h.av (g id) (o.ren g) k (hl ho) hb⟩
  have hor := h.obj (g id) (o.ren g) (hl ho)
  cases o with
  | box ty cells => obtain ⟨k, vs, h1, h2, h3⟩ := hor; exact ⟨k, vs, h1, h2, CRs.unren hg hO cells h3⟩
  | rows ty es enc z xs => obtain ⟨vs, h1, h2, h3⟩ := hor; exact ⟨vs, h1, h2, h3.mono (fun _ _ _ => rfl) hO⟩
  | ghost vs cells => exact ⟨hor.1, CRs.unren hg hO cells hor.2⟩

end

/-- A contract, with other names. -/
theorem AC.ren {f : FuncId} {H : List (Nat × Obj)} {args : List AT} {H' : List (Nat × Obj)} {res : AT} (h : AC P f H args H' res) {g : Nat → Nat} (hg : ∀ a b, g a = g b → a = b) :
    AC P f (heapRen g H) (args.map (·.ren g)) (heapRen g H') (res.ren g) := by
  intro W A ρ vs hA hmr hlow hargs
  have hl : ∀ {id o}, look id H = some o → look (g id) (heapRen g H) = some (o.ren g) := fun ho => by rw [look_ren hg, ho]; rfl
  have hO : ∀ b, b < W.heap.size → (A b ∨ owned (ρ ∘ g) (look · H) b) → (A b ∨ owned ρ (look · (heapRen g H)) b) := fun b _ hb => hb.imp (fun x => x) fun x => (owned_ren hg).2 x
  refine (h W A (ρ ∘ g) vs hA (hmr.unren hg) (fun id o k ho hb => hlow (g id) (o.ren g) k (hl ho) hb) ⟨by simpa using hargs.1, fun k v x hv hx => AR.unren hg hO (hargs.2 k v (x.ren g) hv (by simp [hx]))⟩).mono fun e w' => ?_
  rintro ⟨ρ', v, he, hext, hmr', hpl, hv⟩
  classical
  generalize hρ : (fun k => if hk : ∃ id, g id = k then ρ' (Classical.choose hk) else undef) = ρ''
  have hρg : ∀ id, ρ'' (g id) = ρ' id := fun id => by
    have hk : ∃ i, g i = g id := ⟨id, rfl⟩
    rw [← hρ]
    simp only [hk, dif_pos]
    rw [hg _ _ (Classical.choose_spec hk)]
  have hcomp : ρ'' ∘ g = ρ' := funext hρg
  have hl' : ∀ {k o'}, look k (heapRen g H') = some o' → ∃ id o, g id = k ∧ look id H' = some o ∧ o' = o.ren g := by
    intro k o' hk
    obtain ⟨id, rfl⟩ := look_ren_inv H' hk
    rw [look_ren hg] at hk
    simp only [Option.map_eq_some_iff] at hk
    obtain ⟨o, ho, rfl⟩ := hk
    exact ⟨id, o, rfl, ho, rfl⟩
  have hown : ∀ b, owned ρ'' (look · (heapRen g H')) b ↔ owned ρ' (look · H') b := fun b => by rw [owned_ren hg, hcomp]
  have hO' : ∀ b, b < w'.heap.size → (A b ∨ owned ρ'' (look · (heapRen g H')) b) → (A b ∨ owned ρ' (look · H') b) := fun b _ hb => hb.imp (fun x => x) fun x => (hown b).1 x
  have hid : ∀ id o', look (g id) (heapRen g H') = some o' → ∃ o, look id H' = some o ∧ o.es = o'.es ∧ ρ'' (g id) = ρ' id := by
    intro id o' hk
    rw [look_ren hg] at hk
    simp only [Option.map_eq_some_iff] at hk
    obtain ⟨o, ho, rfl⟩ := hk
    exact ⟨o, ho, (Obj.ren_es g o).symm, hρg id⟩
  refine ⟨ρ'', v, he, ⟨hext.os, hext.tape, hext.output, hext.size, fun b hb => hext.block b ⟨hb.1, fun ho => hb.2 ((owned_ren hg).2 ho)⟩⟩, ⟨fun k o' hk => ?_, fun i j a b k hi hj hbi hbj => ?_, fun k o' q hk hb => ?_⟩, fun k o' q hk hb => ?_, hv.rename hO' fun id o' _ hk => hid id o' hk⟩
  · obtain ⟨id, o, rfl, ho, rfl⟩ := hl' hk
    have hor := hmr'.obj id o ho
    cases o with
    | box ty cells => obtain ⟨q, us, h1, h2, h3⟩ := hor; exact ⟨q, us, (hρg id).trans h1, h2, h3.rename hO' fun id o' _ hk => hid id o' hk⟩
    | rows ty es enc z xs => obtain ⟨us, h1, h2, h3⟩ := hor; exact ⟨us, by rw [hρg id]; exact h1, h2, h3.mono (fun _ _ _ => rfl) hO'⟩
    | ghost us cells => exact ⟨by rw [hρg id]; exact hor.1, hor.2.rename hO' fun id o' _ hk => hid id o' hk⟩
  · obtain ⟨i, a, rfl, ha, rfl⟩ := hl' hi
    obtain ⟨j, b, rfl, hb, rfl⟩ := hl' hj
    rw [hρg] at hbi hbj
    rw [hmr'.disj i j a b k ha hb hbi hbj]
  · obtain ⟨id, o, rfl, ho, rfl⟩ := hl' hk
    rw [hρg] at hb
    exact hmr'.av id o q ho hb
  · obtain ⟨id, o, rfl, ho, rfl⟩ := hl' hk
    rw [hρg] at hb
    obtain ⟨q1, q2⟩ := hpl id o q ho hb
    exact ⟨q1, q2.imp (fun x => (owned_ren hg).2 x) (fun x => x)⟩

/-- A contract of a function that is handed memory, with other names. -/
theorem AC2.ren {f : FuncId} {H : List (Nat × Obj)} {args : List Cell} {H' : List (Nat × Obj)} {res : AT} (h : AC2 P f H args H' res) {g : Nat → Nat} (hg : ∀ a b, g a = g b → a = b) :
    AC2 P f (heapRen g H) (renL g args) (heapRen g H') (res.ren g) := by
  intro W A ρ vs hA hmr hlow hargs
  have hl : ∀ {id o}, look id H = some o → look (g id) (heapRen g H) = some (o.ren g) := fun ho => by rw [look_ren hg, ho]; rfl
  have hO : ∀ b, b < W.heap.size → (A b ∨ owned (ρ ∘ g) (look · H) b) → (A b ∨ owned ρ (look · (heapRen g H)) b) := fun b _ hb => hb.imp (fun x => x) fun x => (owned_ren hg).2 x
  refine (h W A (ρ ∘ g) vs hA (hmr.unren hg) (fun id o k ho hb => hlow (g id) (o.ren g) k (hl ho) hb) (CRs.unren hg hO args hargs)).mono fun e w' => ?_
  rintro ⟨ρ', v, he, hext, hmr', hpl, hv, hback⟩
  classical
  generalize hρ : (fun k => if hk : ∃ id, g id = k then ρ' (Classical.choose hk) else undef) = ρ''
  have hρg : ∀ id, ρ'' (g id) = ρ' id := fun id => by
    have hk : ∃ i, g i = g id := ⟨id, rfl⟩
    rw [← hρ]
    simp only [hk, dif_pos]
    rw [hg _ _ (Classical.choose_spec hk)]
  have hcomp : ρ'' ∘ g = ρ' := funext hρg
  have hl' : ∀ {k o'}, look k (heapRen g H') = some o' → ∃ id o, g id = k ∧ look id H' = some o ∧ o' = o.ren g := by
    intro k o' hk
    obtain ⟨id, rfl⟩ := look_ren_inv H' hk
    rw [look_ren hg] at hk
    simp only [Option.map_eq_some_iff] at hk
    obtain ⟨o, ho, rfl⟩ := hk
    exact ⟨id, o, rfl, ho, rfl⟩
  have hown : ∀ b, owned ρ'' (look · (heapRen g H')) b ↔ owned ρ' (look · H') b := fun b => by rw [owned_ren hg, hcomp]
  have hO' : ∀ b, b < w'.heap.size → (A b ∨ owned ρ'' (look · (heapRen g H')) b) → (A b ∨ owned ρ' (look · H') b) := fun b _ hb => hb.imp (fun x => x) fun x => (hown b).1 x
  have hid : ∀ id o', look (g id) (heapRen g H') = some o' → ∃ o, look id H' = some o ∧ o.es = o'.es ∧ ρ'' (g id) = ρ' id := by
    intro id o' hk
    rw [look_ren hg] at hk
    simp only [Option.map_eq_some_iff] at hk
    obtain ⟨o, ho, rfl⟩ := hk
    exact ⟨o, ho, (Obj.ren_es g o).symm, hρg id⟩
  refine ⟨ρ'', v, he, ⟨hext.os, hext.tape, hext.output, hext.size, fun b hb => hext.block b ⟨hb.1, fun ho => hb.2 ((owned_ren hg).2 ho)⟩⟩, ⟨fun k o' hk => ?_, fun i j a b k hi hj hbi hbj => ?_, fun k o' q hk hb => ?_⟩, fun k o' q hk hb => ?_, hv.rename hO' fun id o' _ hk => hid id o' hk, hback.rename hO' fun id o' _ hk => hid id o' hk⟩
  · obtain ⟨id, o, rfl, ho, rfl⟩ := hl' hk
    have hor := hmr'.obj id o ho
    cases o with
    | box ty cells => obtain ⟨q, us, h1, h2, h3⟩ := hor; exact ⟨q, us, (hρg id).trans h1, h2, h3.rename hO' fun id o' _ hk => hid id o' hk⟩
    | rows ty es enc z xs => obtain ⟨us, h1, h2, h3⟩ := hor; exact ⟨us, by rw [hρg id]; exact h1, h2, h3.mono (fun _ _ _ => rfl) hO'⟩
    | ghost us cells => exact ⟨by rw [hρg id]; exact hor.1, hor.2.rename hO' fun id o' _ hk => hid id o' hk⟩
  · obtain ⟨i, a, rfl, ha, rfl⟩ := hl' hi
    obtain ⟨j, b, rfl, hb, rfl⟩ := hl' hj
    rw [hρg] at hbi hbj
    rw [hmr'.disj i j a b k ha hb hbi hbj]
  · obtain ⟨id, o, rfl, ho, rfl⟩ := hl' hk
    rw [hρg] at hb
    exact hmr'.av id o q ho hb
  · obtain ⟨id, o, rfl, ho, rfl⟩ := hl' hk
    rw [hρg] at hb
    obtain ⟨q1, q2⟩ := hpl id o q ho hb
    exact ⟨q1, q2.imp (fun x => (owned_ren hg).2 x) (fun x => x)⟩

/-- Two names exchanged. -/
def swapN (i j k : Nat) : Nat := bif Nat.beq k i then j else bif Nat.beq k j then i else k
theorem swapN_inj (i j : Nat) : ∀ a b, swapN i j a = swapN i j b → a = b := by
  intro a b h
  unfold swapN at h
  have e : ∀ x y : Nat, Nat.beq x y = decide (x = y) := fun x y => by
    cases hb : Nat.beq x y with
    | true => simp [Nat.eq_of_beq_eq_true hb]
    | false =>
      have : x ≠ y := fun e => by subst e; rw [Nat.beq_refl] at hb; cases hb
      simp [this]
  simp only [e, Bool.cond_decide] at h
  split at h <;> split at h <;> (try split at h) <;> (try split at h) <;> omega
end Go.Abs
