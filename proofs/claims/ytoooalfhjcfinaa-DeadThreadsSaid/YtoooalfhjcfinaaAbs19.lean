import Derived.Test.YtoooalfhjcfinaaAbs18
namespace Go.Abs
set_option linter.unusedVariables false
set_option linter.unusedSimpArgs false
variable {P : Program}

/-! ### What is before what -/
def bits (acc : List Nat) : List Edge → Nat
  | [] => 0
  | e :: r => bif Region.binds .any e then Nat.lor (Nat.lor (bits acc r) (2 ^ e.on)) (acc.getD e.on 0) else bits acc r

def ancs : List Oper → List Nat → List Nat
  | [], acc => acc
  | o :: r, acc => ancs r (acc ++ [bits acc o.after.toList])

def bef (A : List Nat) (i j : Nat) : Bool := Nat.testBit (A.getD i 0) j

def Closed (ops : Array Oper) (D : Nat → Bool) : Prop := ∀ j o, ops[j]? = some o → D j = true → ∀ e ∈ o.after, Region.binds .any e = true → D e.on = true

theorem bits_spec {acc : List Nat} {j : Nat} : ∀ (es : List Edge), Nat.testBit (bits acc es) j = true → ∃ e ∈ es, Region.binds .any e = true ∧ (e.on = j ∨ Nat.testBit (acc.getD e.on 0) j = true)
  | [], h => by simp [bits] at h
  | e :: r, h => by
    simp only [bits] at h
    cases hb : Region.binds .any e with
    | false =>
      rw [hb] at h
      obtain ⟨e', h1, h2⟩ := bits_spec r h
      exact ⟨e', by simp [h1], h2⟩
    | true =>
      rw [hb] at h
      simp only [cond_true] at h
      have h' : Nat.testBit ((bits acc r ||| 2 ^ e.on) ||| acc.getD e.on 0) j = true := h
      rw [Nat.testBit_or, Nat.testBit_or, Nat.testBit_two_pow] at h'
      simp only [Bool.or_eq_true, decide_eq_true_eq] at h'
      rcases h' with (h' | h') | h'
      · obtain ⟨e', h1, h2⟩ := bits_spec r h'
        exact ⟨e', by simp [h1], h2⟩
      · exact ⟨e, by simp, hb, .inl h'⟩
      · exact ⟨e, by simp, hb, .inr h'⟩

theorem ancs_spec {ops : Array Oper} : ∀ (os : List Oper) (acc : List Nat), (∀ k o, os[k]? = some o → ops[acc.length + k]? = some o) →
    (∀ i j, bef acc i j = true → ∀ D, Closed ops D → (∀ o, ops[i]? = some o → ∀ e ∈ o.after, Region.binds .any e = true → D e.on = true) → D j = true) →
    (∀ i j, bef (ancs os acc) i j = true → ∀ D, Closed ops D → (∀ o, ops[i]? = some o → ∀ e ∈ o.after, Region.binds .any e = true → D e.on = true) → D j = true)
  | [], acc, _, h => h
  | o :: r, acc, hos, h => by
    simp only [ancs]
    refine ancs_spec r _ (fun k o' hk => ?_) fun i j hb D hD hi => ?_
    · have := hos (k + 1) o' (by simpa using hk)
      simpa [Nat.add_assoc, Nat.add_comm 1] using this
    · by_cases hlt : i < acc.length
      · refine h i j ?_ D hD hi
        unfold bef at hb ⊢
        rwa [List.getD_eq_getElem?_getD, List.getElem?_append_left hlt, ← List.getD_eq_getElem?_getD] at hb
      · by_cases heq : i = acc.length
        · subst heq
          have : (acc ++ [bits acc o.after.toList]).getD acc.length 0 = bits acc o.after.toList := by simp [List.getD_eq_getElem?_getD]
          unfold bef at hb
          rw [this] at hb
          obtain ⟨e, he, hbd, hj⟩ := bits_spec _ hb
          have h0 := hos 0 o (by simp)
          have hDe := hi o (by simpa using h0) e (by simpa using he) hbd
          rcases hj with rfl | hj
          · exact hDe
          · exact h e.on j hj D hD fun o' ho' e' he' hb' => hD e.on o' ho' hDe e' he' hb'
        · unfold bef at hb
          have : (acc ++ [bits acc o.after.toList]).getD i 0 = 0 := by
            rw [List.getD_eq_getElem?_getD, List.getElem?_eq_none (by simp; omega)]; rfl
          rw [this] at hb
          simp at hb

/-! ### The check -/
abbrev EQ := (AT × List Prop) × (AT × List Prop)

def withIdx {α : Type 1} : Nat → List α → List (Nat × α)
  | _, [] => []
  | i, x :: l => (i, x) :: withIdx (i + 1) l

theorem withIdx_mem {α : Type 1} {l : List α} {k : Nat} {x : α} {i : Nat} (h : l[k]? = some x) : (i + k, x) ∈ withIdx i l := by
  induction l generalizing i k with
  | nil => simp at h
  | cons y r ih =>
    cases k with
    | zero => simp at h; subst h; simp [withIdx]
    | succ k =>
      simp only [withIdx, List.mem_cons]
      right
      have := ih (i := i + 1) (k := k) (by simpa using h)
      rwa [show i + 1 + k = i + (k + 1) by omega] at this

theorem withIdx_inv {α : Type 1} {l : List α} {k : Nat} {x : α} {i : Nat} (h : (k, x) ∈ withIdx i l) : i ≤ k ∧ l[k - i]? = some x := by
  induction l generalizing i with
  | nil => simp [withIdx] at h
  | cons y r ih =>
    simp only [withIdx, List.mem_cons, Prod.mk.injEq] at h
    rcases h with ⟨rfl, rfl⟩ | h
    · simp
    · obtain ⟨h1, h2⟩ := ih h
      refine ⟨by omega, ?_⟩
      rw [show k - i = (k - (i + 1)) + 1 by omega]
      simpa using h2

def ordB (A : List Nat) (i j : Nat) : Bool := bif Nat.blt j i then bef A i j else bef A j i

/-- Of operation i, x, and any other one, j, y. -/
def pairB (ops : Array Oper) (A : List Nat) (i : Nat) (x : Rec) (j : Nat) (y : Rec) : Bool :=
  Nat.beq i j ||
  ((match y.o.dst with
    | some t => (!((x.o.looksAt ops).contains t || x.o.dst == some t)) || ordB A i j
    | none => true) &&
   (x.q || (newIds x.hi x.o.dst).all fun d => !y.r.val.has d || bef A j i))

def edgesB (i : Nat) (x : Rec) : Bool := x.o.after.toList.all fun e => !Region.binds .any e || Nat.blt e.on i

/-- Memory as it may stand when operation i comes: behind the effect c - 1, or at the beginning. -/
def skipB (A : List Nat) (effs : List Nat) (i c : Nat) : Bool :=
  (Nat.blt 0 c && (Nat.beq (c - 1) i || bef A (c - 1) i)) || effs.any fun k => Nat.ble c k && bef A i k

def curB (effs : List Nat) (i c : Nat) : Bool := Nat.ble c i && effs.all fun k => !(Nat.ble c k && Nat.blt k i)

def eqOne (P : Program) (tb : Tab) (A : List Nat) (effs : List Nat) (i : Nat) (x : Rec) (c : Nat) (h : List (Nat × Obj)) : Option (List EQ) :=
  bif skipB A effs i c || curB effs i c then some [] else
  bif x.q then (opRes P tb x.hi ⟨x.s.env, h, x.s.n⟩ x.g x.o).map fun r => [((r.val, r.conds), (x.r.val, x.r.conds))] else none

def catO {α : Type 1} : List (Option (List α)) → Option (List α)
  | [] => some []
  | x :: r => match x, catO r with
    | some a, some b => some (a ++ b)
    | _, _ => none

theorem catO_mem {α : Type 1} : ∀ {l : List (Option (List α))} {q : List α}, catO l = some q → ∀ x ∈ l, ∃ a, x = some a ∧ ∀ y ∈ a, y ∈ q
  | [], q, h, x, hx => by simp at hx
  | z :: r, q, h, x, hx => by
    simp only [catO] at h
    split at h
    · rename_i a b hb
      injection h with h; subst h
      simp only [List.mem_cons] at hx
      rcases hx with rfl | hx
      · exact ⟨a, rfl, fun y hy => by simp [hy]⟩
      · obtain ⟨a', h1, h2⟩ := catO_mem hb x hx
        exact ⟨a', h1, fun y hy => by simp [h2 y hy]⟩
    · cases h

def effsOf (l : List (Nat × Rec)) : List Nat := l.filterMap fun x => bif x.2.q then none else some x.1
def candsOf (h : List (Nat × Obj)) (l : List (Nat × Rec)) : List (Nat × List (Nat × Obj)) := (0, h) :: l.filterMap fun x => bif x.2.q then none else some (x.1 + 1, x.2.r.heap)

def anyEqs (P : Program) (tb : Tab) (ops : Array Oper) (A : List Nat) (l : List (Nat × Rec)) (h : List (Nat × Obj)) : Option (List EQ) :=
  bif l.all fun x => edgesB x.1 x.2 && l.all fun y => pairB ops A x.1 x.2 y.1 y.2 then
    catO (l.flatMap fun x => (candsOf h l).map fun c => eqOne P tb A (effsOf l) x.1 x.2 c.1 c.2)
  else none

def anyRun (P : Program) (tb : Tab) (ops : Array Oper) (hs : List (Nat × Hint)) (s : St) : Option (St × List Prop × List EQ) :=
  match trace P tb ops hs 0 ops.toList s with
  | some l => (anyEqs P tb ops (ancs ops.toList []) (withIdx 0 l) s.heap).map fun q =>
      (⟨envD l 0 (fun _ => true) s.env, hpD l 0 (fun _ => true) s.heap, s.n⟩, l.flatMap (·.r.conds), q)
  | none => none

end Go.Abs
