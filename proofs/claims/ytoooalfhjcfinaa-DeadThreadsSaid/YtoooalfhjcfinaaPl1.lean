import Derived.Test.YtoooalfhjcfinaaU7
namespace Go.Proofs.Ytoooalfhjcfinaa.T
open Go.Abs
set_option linter.unusedVariables false
set_option linter.unusedSimpArgs false

theorem wi {n : Int} (h : -9223372036854775808 ≤ n) (h' : n ≤ 9223372036854775807) : IntKind.i64.wrap n = n := by
  rw [IntKind.wrap_i64]; omega
theorem wsucc {n m : Nat} (h : n < m) (hm : m ≤ 4611686018427387904) : IntKind.i64.wrap ((n : Int) + 1) = ((n + 1 : Nat) : Int) := by
  rw [wi (by omega) (by omega)]; omega
theorem gd_t {α : Type} {p : Prop} [Decidable p] {x : Option α} (h : p) : gd p x = x := by unfold gd; rw [if_pos h]
theorem dt {p : Prop} [Decidable p] (h : p) : decide p = true := decide_eq_true h
theorem df {p : Prop} [Decidable p] (h : ¬ p) : decide p = false := decide_eq_false h

/-- What is said of a right instruction. -/
structure InsOk (i : Ins) : Prop where
  lo : 0 ≤ i.Op
  hi : i.Op ≤ 25

theorem cond_some {α : Type} {c : Bool} {x y : α} : (bif c then some x else some y) = some (bif c then x else y) := by cases c <;> rfl

theorem right_ok (K : Nat) (i : Ins) : ∃ b, g41_ref02_Right K i = some b ∧ (b = true → InsOk i) := by
  simp only [g41_ref02_Right, g48_ref02_three, g49_ref02_reg, g50_ref02_near, g51_ref02_branch, g52_ref02_one, g53_ref02_far, Option.bind_some, cond_some]
  refine ⟨_, rfl, fun h => ?_⟩
  simp only [Bool.cond_eq_ite] at h
  constructor <;> grind (splits := 60)

def kinds : List Int := [5, 0, 0, 0, 0, 0, 0, 0, 0, 0, 0, 1, 1, 1, 1, 2, 2, 2, 2, 3, 4, 5, 1, 1, 0, 5]
theorem kind_ok (K : Nat) {i : Ins} (h : InsOk i) : g39_ref03_Kind K i = some (kinds.getD i.Op.toNat 0) := by
  have := h.lo; have := h.hi
  unfold g39_ref03_Kind
  rw [gd_t (by simp; omega)]
  rfl

theorem op_ok (K : Nat) (o : Op') (a1 a2 : Int) : ∃ b, g30_ref16_op K o a1 a2 = some b ∧ (b = true → InsOk o.Ins) := by
  obtain ⟨b1, h1, f1⟩ := right_ok K o.Ins
  unfold g30_ref16_op
  rw [h1]
  simp only [Option.bind_some]
  cases b1 with
  | false => exact ⟨false, rfl, fun h => by cases h⟩
  | true =>
    have f := f1 rfl
    rw [kind_ok K f]
    simp only [Option.bind_some, Bool.not_true, cond_false, cond_some]
    exact ⟨_, rfl, fun _ => f⟩

/-- What is said of an end. -/
structure TermOk (t : Term) (n : Nat) : Prop where
  to1 : t.Kind = 1 → 0 ≤ t.To ∧ t.To < n
  to2 : t.Kind = 2 → 0 ≤ t.To ∧ t.To < n ∧ 0 ≤ t.Else ∧ t.Else < n

theorem term_ok (K : Nat) (t : Term) (n : Nat) (a2 : Int) : ∃ b, g31_ref16_term K t (n : Int) a2 = some b ∧ (b = true → TermOk t n) := by
  unfold g31_ref16_term
  obtain ⟨b1, h1, f1⟩ := right_ok K t.Ins
  simp only [h1, cond_some, Option.bind_some]
  cases b1 with
  | false =>
    simp only [Option.bind_some, cond_some, cond_false, Bool.cond_false_right, Bool.and_false, cond_some]
    refine ⟨_, rfl, fun h => ?_⟩
    simp only [Bool.cond_eq_ite] at h
    constructor <;> grind (splits := 60)
  | true =>
    rw [kind_ok K (f1 rfl)]
    simp only [Option.bind_some, cond_some]
    refine ⟨_, rfl, fun h => ?_⟩
    simp only [Bool.cond_eq_ite] at h
    constructor <;> grind (splits := 60)
end Go.Proofs.Ytoooalfhjcfinaa.T
