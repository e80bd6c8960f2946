import Derived.Test.YtoooalfhjcfinaaAbs12
namespace Go.Abs
set_option linter.unusedVariables false
set_option linter.unusedSimpArgs false
variable {P : Program}

/-! ### Names turned -/
mutual
def Cell.ren (f : Nat → Nat) : Cell → Cell
  | .t x => .t x
  | .own id => .own (f id)
  | .ptr id i j => .ptr (f id) i j
  | .rop c => .rop c
  | .clo g caps => .clo g (renL f caps)
def renL (f : Nat → Nat) : List Cell → List Cell
  | [] => []
  | c :: r => c.ren f :: renL f r
end

theorem renL_len (f : Nat → Nat) : ∀ l : List Cell, (renL f l).length = l.length
  | [] => rfl
  | _ :: r => by simp [renL, renL_len f r]

theorem renL_get (f : Nat → Nat) : ∀ (l : List Cell) (k : Nat) (c : Cell), (renL f l)[k]? = some c → ∃ d, l[k]? = some d ∧ c = d.ren f
  | [], k, c, h => by simp [renL] at h
  | x :: r, 0, c, h => by simp [renL] at h; exact ⟨x, rfl, h.symm⟩
  | x :: r, k + 1, c, h => by simp [renL] at h; obtain ⟨d, hd, he⟩ := renL_get f r k c h; exact ⟨d, by simpa using hd, he⟩

def AT.ren (f : Nat → Nat) : AT → AT
  | .v b cs => .v b (renL f cs)
  | .tp xs => .tp (xs.map fun x => (x.1, renL f x.2))

def Obj.ren (f : Nat → Nat) : Obj → Obj
  | .box ty cells => .box ty (renL f cells)
  | .rows ty es enc z xs => .rows ty es enc z xs
  | .ghost vs cells => .ghost vs (renL f cells)

theorem Obj.ren_es (f : Nat → Nat) (o : Obj) : (o.ren f).es = o.es := by cases o <;> rfl

def heapRen (f : Nat → Nat) (H : List (Nat × Obj)) : List (Nat × Obj) := H.map fun x => (f x.1, x.2.ren f)

def srcOf (f : Nat → Nat) (k : Nat) : List (Nat × Obj) → Option Nat
  | [] => none
  | (i, _) :: r => bif Nat.beq (f i) k then some i else srcOf f k r

theorem src_some {f : Nat → Nat} {k i : Nat} : ∀ {H : List (Nat × Obj)}, srcOf f k H = some i → f i = k ∧ ∃ o, look i H = some o ∧ look k (heapRen f H) = some (o.ren f)
  | [], h => by simp [srcOf] at h
  | (j, o) :: r, h => by
    simp only [srcOf] at h
    cases hb : Nat.beq (f j) k with
    | true =>
      rw [hb] at h; simp at h; subst h
      exact ⟨Nat.eq_of_beq_eq_true hb, o, by simp [look, Nat.beq_refl], by simp [heapRen, look, hb]⟩
    | false =>
      rw [hb] at h; simp at h
      obtain ⟨hk, o', h1, h2⟩ := src_some h
      have hji : Nat.beq j i = false := by
        cases hq : Nat.beq j i with
        | true => have := Nat.eq_of_beq_eq_true hq; subst this; rw [hk, Nat.beq_refl] at hb; cases hb
        | false => rfl
      refine ⟨hk, o', by simp [look, hji, h1], ?_⟩
      simp only [heapRen, List.map_cons, look, hb, cond_false] at h2 ⊢
      exact h2

theorem src_none {f : Nat → Nat} {k : Nat} : ∀ {H : List (Nat × Obj)}, srcOf f k H = none → look k (heapRen f H) = none
  | [], _ => rfl
  | (j, o) :: r, h => by
    simp only [srcOf] at h
    cases hb : Nat.beq (f j) k with
    | true => rw [hb] at h; simp at h
    | false =>
      rw [hb] at h; simp at h
      simp only [heapRen, List.map_cons, look, hb, cond_false]
      exact src_none h

def distinctL : List Nat → Bool
  | [] => true
  | x :: r => !(r.any fun y => Nat.beq x y) && distinctL r

theorem src_key {f : Nat → Nat} {i : Nat} {o : Obj} : ∀ {H : List (Nat × Obj)}, distinctL (H.map fun x => f x.1) = true → look i H = some o → srcOf f (f i) H = some i
  | [], _, h => by simp [look] at h
  | (j, o') :: r, hd, h => by
    simp only [List.map_cons, distinctL, Bool.and_eq_true, Bool.not_eq_true', List.any_eq_false] at hd
    simp only [look] at h
    simp only [srcOf]
    cases hb : Nat.beq j i with
    | true =>
      have := Nat.eq_of_beq_eq_true hb; subst this
      simp [Nat.beq_refl]
    | false =>
      rw [hb] at h; simp at h
      have hm := look_mem h
      have : Nat.beq (f j) (f i) = false := by
        have := hd.1 (f i) (List.mem_map.2 ⟨_, hm, rfl⟩)
        cases hq : Nat.beq (f j) (f i) with
        | true => exact absurd hq this
        | false => rfl
      rw [this]; simp
      exact src_key hd.2 h

theorem CR.rename {O O' : Nat → Prop} {ρ ρ' : Nat → Value} {H H' : Nat → Option Obj} {w : World} {f : Nat → Nat} {v : Value} {c : Cell} (h : CR O ρ H w v c)
    (hO : ∀ b, b < w.heap.size → O' b → O b)
    (hid : ∀ id o', c.has id = true → H' (f id) = some o' → ∃ o, H id = some o ∧ o.es = o'.es ∧ ρ' (f id) = ρ id) : CR O' ρ' H' w v (c.ren f) := by
  induction h with
  | t h => exact .t (h.mono (fun _ _ _ => rfl) hO)
  | @own id o h h1 =>
    simp only [Cell.ren]
    cases hH : H' (f id) with
    | none => exact .ownj hH h1
    | some o' =>
      obtain ⟨o2, _, _, hr⟩ := hid id o' (by simp [Cell.has, Nat.beq_refl]) hH
      rw [← hr]
      exact .own hH (by rw [hr]; exact h1)
  | @ownj id v h h1 =>
    simp only [Cell.ren]
    cases hH : H' (f id) with
    | none => exact .ownj hH h1
    | some o' =>
      obtain ⟨o2, h2, _, _⟩ := hid id o' (by simp [Cell.has, Nat.beq_refl]) hH
      rw [h] at h2; cases h2
  | @ptr id i j g o h hb =>
    simp only [Cell.ren]
    cases hH : H' (f id) with
    | none => exact .ptrj hH rfl
    | some o' =>
      obtain ⟨o2, h2, he, hr⟩ := hid id o' (by simp [Cell.has, Nat.beq_refl]) hH
      rw [h] at h2; cases h2
      rw [he]
      exact .ptr hH (by rw [hr]; exact hb)
  | @ptrj id i j v h h1 =>
    simp only [Cell.ren]
    cases hH : H' (f id) with
    | none => exact .ptrj hH h1
    | some o' =>
      obtain ⟨o2, h2, _, _⟩ := hid id o' (by simp [Cell.has, Nat.beq_refl]) hH
      rw [h] at h2; cases h2
  | rop a vals hlen hcell hO1 hrel =>
    have := CR.mono (O' := O') (ρ' := ρ') (H' := H') (w' := w) (.rop (ρ := ρ) (H := H) a vals hlen hcell hO1 hrel) (fun _ _ _ => rfl) hO (fun id o' hh => by simp [Cell.has] at hh)
    exact this
  | @clo g caps vals hlen hrel ih =>
    simp only [Cell.ren]
    refine .clo vals (by rw [renL_len]; exact hlen) fun k v c hv hc => ?_
    obtain ⟨d, hd, rfl⟩ := renL_get f caps k c hc
    refine ih k v d hv hd fun id o' hh => hid id o' ?_
    simp only [Cell.has]
    exact hasL_of_mem (List.mem_of_getElem? hd) hh

theorem CRs.rename {O O' : Nat → Prop} {ρ ρ' : Nat → Value} {H H' : Nat → Option Obj} {w : World} {f : Nat → Nat} {vs : List Value} {cs : List Cell} (h : CRs O ρ H w vs cs)
    (hO : ∀ b, b < w.heap.size → O' b → O b)
    (hid : ∀ id o', hasL id cs = true → H' (f id) = some o' → ∃ o, H id = some o ∧ o.es = o'.es ∧ ρ' (f id) = ρ id) : CRs O' ρ' H' w vs (renL f cs) := by
  refine ⟨by rw [renL_len]; exact h.1, fun k v c hv hc => ?_⟩
  obtain ⟨d, hd, rfl⟩ := renL_get f cs k c hc
  exact (h.2 k v d hv hd).rename hO fun id o' hh => hid id o' (hasL_of_mem (List.mem_of_getElem? hd) hh)

theorem AR.rename {O O' : Nat → Prop} {ρ ρ' : Nat → Value} {H H' : Nat → Option Obj} {w : World} {f : Nat → Nat} {v : Value} {x : AT} (h : AR O ρ H w v x)
    (hO : ∀ b, b < w.heap.size → O' b → O b)
    (hid : ∀ id o', x.has id = true → H' (f id) = some o' → ∃ o, H id = some o ∧ o.es = o'.es ∧ ρ' (f id) = ρ id) : AR O' ρ' H' w v (x.ren f) := by
  have one : ∀ {v : Value} {b : Bool} {cs : List Cell}, VR O ρ H w v b cs → (∀ id o', hasL id cs = true → H' (f id) = some o' → ∃ o, H id = some o ∧ o.es = o'.es ∧ ρ' (f id) = ρ id) → VR O' ρ' H' w v b (renL f cs) := by
    intro v b cs h hid
    cases b with
    | true => obtain ⟨vs, rfl, h⟩ := h; exact ⟨vs, rfl, h.rename hO hid⟩
    | false => obtain ⟨c, rfl, h⟩ := h; exact ⟨c.ren f, rfl, h.rename hO fun id o' hh => hid id o' (by simp [hasL, hh])⟩
  cases x with
  | v agg cells => exact one h hid
  | tp xs =>
    obtain ⟨vs, rfl, hl, h⟩ := h
    refine ⟨vs, rfl, by simpa using hl, fun k u x hu hx => ?_⟩
    simp only [List.getElem?_map, Option.map_eq_some_iff] at hx
    obtain ⟨y, hy, rfl⟩ := hx
    refine one (h k u y hu hy) fun id o' hh => hid id o' ?_
    simp only [AT.has, List.any_eq_true]
    exact ⟨y, List.mem_of_getElem? hy, hh⟩

/-! ### Contracts -/
def ARs (O : Nat → Prop) (ρ : Nat → Value) (H : Nat → Option Obj) (w : World) (vs : List Value) (xs : List AT) : Prop :=
  vs.length = xs.length ∧ ∀ (k : Nat) v x, vs[k]? = some v → xs[k]? = some x → AR O ρ H w v x

/-- A call of f, that owns H, with these arguments, comes to this, and owns H' then; nothing else is touched. -/
def AC (P : Program) (f : FuncId) (H : List (Nat × Obj)) (args : List AT) (H' : List (Nat × Obj)) (res : AT) : Prop :=
  ∀ (W : World) (A : Nat → Prop) (ρ : Nat → Value) (vs : List Value), (∀ b, A b → b < W.heap.size) → MR A ρ (look · H) W → (∀ id o g, look id H = some o → blk (ρ id) = some g → g < W.heap.size) →
    ARs (fun b => A b ∨ owned ρ (look · H) b) ρ (look · H) W vs args →
    Calls P f vs.toArray W fun e w' => ∃ ρ' v, e = .returned v ∧ Ext (fun b => b < W.heap.size ∧ ¬ owned ρ (look · H) b) W w' ∧ MR A ρ' (look · H') w' ∧
      (∀ id o g, look id H' = some o → blk (ρ' id) = some g → g < w'.heap.size ∧ (owned ρ (look · H) g ∨ W.heap.size ≤ g)) ∧ AR (fun b => A b ∨ owned ρ' (look · H') b) ρ' (look · H') w' v res

/-- A call of f, that is handed H, with these arguments: it comes to this, and owns H' then; the arguments are still told so. -/
def AC2 (P : Program) (f : FuncId) (H : List (Nat × Obj)) (args : List Cell) (H' : List (Nat × Obj)) (res : AT) : Prop :=
  ∀ (W : World) (A : Nat → Prop) (ρ : Nat → Value) (vs : List Value), (∀ b, A b → b < W.heap.size) → MR A ρ (look · H) W → (∀ id o g, look id H = some o → blk (ρ id) = some g → g < W.heap.size) →
    CRs (fun b => A b ∨ owned ρ (look · H) b) ρ (look · H) W vs args →
    Calls P f vs.toArray W fun e w' => ∃ ρ' v, e = .returned v ∧ Ext (fun b => b < W.heap.size ∧ ¬ owned ρ (look · H) b) W w' ∧ MR A ρ' (look · H') w' ∧
      (∀ id o g, look id H' = some o → blk (ρ' id) = some g → g < w'.heap.size ∧ (owned ρ (look · H) g ∨ W.heap.size ≤ g)) ∧ AR (fun b => A b ∨ owned ρ' (look · H') b) ρ' (look · H') w' v res ∧
      CRs (fun b => A b ∨ owned ρ' (look · H') b) ρ' (look · H') w' vs args

/-- Whoever is named is owned. -/
def closedIn (H : List (Nat × Obj)) (x : AT) : Prop := ∀ id, x.has id = true ∨ (∃ o ∈ H, o.2.has id = true) → ∃ o, look id H = some o

mutual
def Cell.ids : Cell → List Nat
  | .t _ => []
  | .own i => [i]
  | .ptr i _ _ => [i]
  | .rop _ => []
  | .clo _ caps => idsL caps
def idsL : List Cell → List Nat
  | [] => []
  | c :: r => c.ids ++ idsL r
end

mutual
theorem Cell.ids_has {id : Nat} : ∀ (c : Cell), c.has id = true → id ∈ c.ids
  | .t _, h => by simp [Cell.has] at h
  | .own i, h => by simp only [Cell.has] at h; have := Nat.eq_of_beq_eq_true h; simp [Cell.ids, this]
  | .ptr i _ _, h => by simp only [Cell.has] at h; have := Nat.eq_of_beq_eq_true h; simp [Cell.ids, this]
  | .rop _, h => by simp [Cell.has] at h
  | .clo _ caps, h => by simp only [Cell.has] at h; simp only [Cell.ids]; exact idsL_has caps h
theorem idsL_has {id : Nat} : ∀ (l : List Cell), hasL id l = true → id ∈ idsL l
  | [], h => by simp [hasL] at h
  | c :: r, h => by
    simp only [hasL, Bool.or_eq_true] at h
    simp only [idsL, List.mem_append]
    rcases h with h | h
    · exact .inl (c.ids_has h)
    · exact .inr (idsL_has r h)
end

def AT.ids : AT → List Nat
  | .v _ cs => idsL cs
  | .tp xs => xs.flatMap fun x => idsL x.2

theorem AT.ids_has {id : Nat} {x : AT} (h : x.has id = true) : id ∈ x.ids := by
  cases x with
  | v b cs => exact idsL_has cs h
  | tp xs =>
    simp only [AT.has, List.any_eq_true] at h
    obtain ⟨y, hy, h⟩ := h
    exact List.mem_flatMap.2 ⟨y, hy, idsL_has _ h⟩

def Obj.ids : Obj → List Nat
  | .box _ cs => idsL cs
  | .rows .. => []
  | .ghost _ cs => idsL cs

theorem Obj.ids_has {id : Nat} {x : Obj} (h : x.has id = true) : id ∈ x.ids := by
  cases x with
  | box ty cs => exact idsL_has cs h
  | rows => simp [Obj.has] at h
  | ghost vs cs => exact idsL_has cs h


def closedB (H : List (Nat × Obj)) (x : AT) : Bool := (x.ids ++ H.flatMap fun y => y.2.ids).all fun id => (look id H).isSome

theorem closedB_in {H : List (Nat × Obj)} {x : AT} (h : closedB H x = true) : closedIn H x := by
  intro id hh
  simp only [closedB, List.all_eq_true] at h
  refine Option.isSome_iff_exists.1 (h id ?_)
  rcases hh with hh | ⟨o, ho, hh⟩
  · exact List.mem_append_left _ (AT.ids_has hh)
  · exact List.mem_append_right _ (List.mem_flatMap.2 ⟨o, ho, Obj.ids_has hh⟩)

section
variable {W : World} {A K : Nat → Prop} {s : St} {a : Act} {w : World} {ρ : Nat → Value}

/-- What a call that owns nothing leaves with its caller. -/
theorem call_back (h : Rel W A K s a w ρ) {f : Nat → Nat} {H' : List (Nat × Obj)} {res : AT} {ρ' : Nat → Value} {w' : World} {v : Value} {Ac : Nat → Prop}
    (hfr : ∀ x ∈ H', s.has (f x.1) = false) (hdis : distinctL (H'.map fun x => f x.1) = true) (hcl : closedIn H' res)
    (hext : Ext (fun b => b < w.heap.size) w w') (hmr : MR Ac ρ' (look · H') w') (hpl : ∀ id o g, look id H' = some o → blk (ρ' id) = some g → g < w'.heap.size ∧ w.heap.size ≤ g)
    (hAc : ∀ b, b < w'.heap.size → s.O A ρ b → Ac b) (hv : AR (fun b => Ac b ∨ owned ρ' (look · H') b) ρ' (look · H') w' v res) :
    ∃ ρ'', Rel W A K { s with heap := heapRen f H' ++ s.heap } a w' ρ'' ∧ AR (St.O { s with heap := heapRen f H' ++ s.heap } A ρ'') ρ'' (St.H { s with heap := heapRen f H' ++ s.heap }) w' v (res.ren f) := by
  generalize hρ : (fun k => match srcOf f k H' with | some i => ρ' i | none => ρ k) = ρ''
  have hρs : ∀ {k i}, srcOf f k H' = some i → ρ'' k = ρ' i := fun hk => by rw [← hρ]; simp [hk]
  have hρn : ∀ {k}, srcOf f k H' = none → ρ'' k = ρ k := fun hk => by rw [← hρ]; simp [hk]
  have happ : ∀ (k : Nat) (l m : List (Nat × Obj)), look k (l ++ m) = match look k l with | some o => some o | none => look k m := by
    intro k l m
    induction l with
    | nil => rfl
    | cons y r ih =>
      obtain ⟨u, x⟩ := y
      simp only [List.cons_append, look]
      cases Nat.beq u k <;> simp [ih]
  have hHs : ∀ {k i}, srcOf f k H' = some i → ∃ o, look i H' = some o ∧ St.H { s with heap := heapRen f H' ++ s.heap } k = some (o.ren f) := fun hk => by
    obtain ⟨_, o, h1, h2⟩ := src_some hk
    exact ⟨o, h1, by simp only [St.H, happ, h2]⟩
  have hHn : ∀ {k}, srcOf f k H' = none → St.H { s with heap := heapRen f H' ++ s.heap } k = s.H k := fun hk => by simp only [St.H, happ, src_none hk]
  have hfr2 : ∀ {k i}, srcOf f k H' = some i → s.has k = false := fun hk => by
    obtain ⟨e, o, h1, _⟩ := src_some hk
    rw [← e]; exact hfr _ (look_mem h1)
  have T : Turn s { s with heap := heapRen f H' ++ s.heap } w w' ρ ρ'' (fun k => (srcOf f k H').isSome = true) := by
    refine ⟨hext.os, hext.tape, hext.output, hext.size, fun b hl _ => hext.block b hl, ?_, ?_, ?_, ?_⟩
    · intro k hk
      have hn : srcOf f k H' = none := by simpa using hk
      exact ⟨hHn hn, hρn hn⟩
    · intro k o g hk hko hb
      obtain ⟨i, hi⟩ := Option.isSome_iff_exists.1 hk
      rw [hρs hi] at hb
      obtain ⟨o1, h1, _⟩ := hHs hi
      obtain ⟨q1, q2⟩ := hpl i o1 g h1 hb
      exact ⟨q1, .inl q2⟩
    · intro k l x y g hk hl hkx hly hbk hbl
      obtain ⟨i, hi⟩ := Option.isSome_iff_exists.1 hk
      obtain ⟨j, hj⟩ := Option.isSome_iff_exists.1 hl
      rw [hρs hi] at hbk; rw [hρs hj] at hbl
      obtain ⟨o1, h1, _⟩ := hHs hi
      obtain ⟨o2, h2, _⟩ := hHs hj
      have := hmr.disj i j o1 o2 g h1 h2 hbk hbl
      subst this
      exact (src_some hi).1.symm.trans (src_some hj).1
    · intro k o' hk _
      obtain ⟨i, hi⟩ := Option.isSome_iff_exists.1 hk
      exact .inl (hfr2 hi)
  have hO2 : ∀ b, b < w'.heap.size → St.O { s with heap := heapRen f H' ++ s.heap } A ρ'' b → Ac b ∨ owned ρ' (look · H') b := by
    rintro b hb (hA | ⟨k, o, hk, hbk⟩)
    · exact .inl (hAc b hb (.inl hA))
    · cases hq : srcOf f k H' with
      | none => rw [hHn hq] at hk; rw [hρn hq] at hbk; exact .inl (hAc b hb (.inr ⟨k, o, hk, hbk⟩))
      | some i =>
        rw [hρs hq] at hbk
        obtain ⟨o1, h1, _⟩ := hHs hq
        exact .inr ⟨i, o1, h1, hbk⟩
  have hid : ∀ id o', (∃ o, look id H' = some o) → St.H { s with heap := heapRen f H' ++ s.heap } (f id) = some o' → ∃ o, look id H' = some o ∧ o.es = o'.es ∧ ρ'' (f id) = ρ' id := by
    rintro id o' ⟨o, ho⟩ hk
    have hs := src_key hdis ho
    obtain ⟨o1, h1, h2⟩ := hHs hs
    have e1 : o1 = o := by have := h1.symm.trans ho; simpa using this
    subst e1
    have e2 : o1.ren f = o' := by have := h2.symm.trans hk; simpa using this
    exact ⟨o1, ho, by rw [← e2, Obj.ren_es], hρs hs⟩
  refine ⟨ρ'', h.turn T rfl rfl ?_, hv.rename hO2 fun id o' hh hk => hid id o' (hcl id (.inl hh)) hk⟩
  intro k o hk hko
  obtain ⟨i, hi⟩ := Option.isSome_iff_exists.1 hk
  obtain ⟨o1, h1, h2⟩ := hHs hi
  have e : o1.ren f = o := by have := h2.symm.trans hko; simpa using this
  subst e
  have hor := hmr.obj i o1 h1
  cases o1 with
  | box ty cells =>
    obtain ⟨g, vs, hp, hg, hc⟩ := hor
    exact ⟨g, vs, (hρs hi).trans hp, hg, hc.rename hO2 fun id o' hh hk => hid id o' (hcl id (.inr ⟨_, look_mem h1, hh⟩)) hk⟩
  | rows ty es enc z xs =>
    obtain ⟨vs, hown, hes, hc⟩ := hor
    exact ⟨vs, by rw [hρs hi]; exact hown, hes, hc.mono (fun _ _ _ => rfl) hO2⟩
  | ghost vs cells => exact ⟨by rw [hρs hi]; exact hor.1, hor.2.rename hO2 fun id o' hh hk => hid id o' (hcl id (.inr ⟨_, look_mem h1, hh⟩)) hk⟩

end
end Go.Abs
