/- DeadSteps of the dead layer, for every graph, place and number: the law answers true, and what is handed in stays; there are no conditions. -/
import Derived.Test.YtoooalfhjcfinaaLaw5
import Derived.Test.YtoooalfhjcfinaaPlSteps

namespace Go.Proofs.Ytoooalfhjcfinaa
theorem u8_in {n : Int} (h : (Lit.int .u8 n).wf = true) : 0 ≤ n ∧ n < 256 := by
  simp only [Lit.wf, Bool.and_eq_true] at h
  have h1 := of_decide_eq_true h.1
  have h2 := of_decide_eq_true h.2
  have e1 : IntKind.u8.min = 0 := rfl
  have e2 : IntKind.u8.max = 255 := rfl
  omega
/-- The row, for the claim. -/
theorem deadSteps_holds : Rows.DeadStepsSaid :=
  deadStepsRow.said fun g a b hq ha hb => ⟨1000, T.law5 g a b hq.2.2.2.1 (u8_in ha).1 (u8_in ha).2 (u8_in hb).1 (u8_in hb).2⟩
#print axioms deadSteps_holds
end Go.Proofs.Ytoooalfhjcfinaa
