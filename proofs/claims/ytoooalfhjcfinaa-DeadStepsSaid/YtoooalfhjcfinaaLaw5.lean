/- A part of the proofs of this seat: what functions of the program compute, and what follows from it; without conditions. -/
import Derived.Test.YtoooalfhjcfinaaRows
import Derived.Test.YtoooalfhjcfinaaR1
import Derived.Test.YtoooalfhjcfinaaV2
import Derived.WalkKit
import Derived.ProofKit
import Derived.OpenShut
import Derived.ShutString
import Derived.ChangeOld
import Derived.Below
import Derived.SizedLaws

set_option linter.unusedVariables false
set_option maxRecDepth 100000
namespace Go.Proofs.Ytoooalfhjcfinaa.deadStepsRow
open Go.ChangeShapes Go.WideShapes Go.ChangeAt Go.RowKit Go.Abs Go.Proofs.Ytoooalfhjcfinaa.T
open Go.ChangeMaps (open_string shut_string)
/-- The plain law: what the printed function answers. -/
def Law : Prop := ∀ (a0 : Graph) (a1 : Int) (a2 : Int), qGraph a0 → (Lit.int .u8 a1).wf = true → (Lit.int .u8 a2).wf = true → ∃ K, g5_law22_DeadSteps K a0 a1 a2 = some true
theorem own : ownKnob Try.prog.godebug = none := by kernel_rfl
theorem laidOut : laidOutB Try.prog = true := by kernel_rfl
theorem lifted (law : Law) (os : Os) (started : os.Started) (H : Type) (enc : TypeId × Value → H) :
    ReturnsInHanded {} Try.checked os 5 .any (Rows.deadStepsSpec.pre6 enc Try.prog Try.f5 Rows.deadStepsRow.domain false) (Rows.deadStepsSpec.post enc Try.prog Try.f5 false true false false) := by
  refine returnsInHanded_of_change_sized (C := Try.checked) own started (by kernel_rfl) Try.func5
    (ChangeSpec.witness6 (enc := enc) (C := Try.checked) false ⟨#[], #[.agg #[.string ByteArray.empty, .bool false, .bool false, .slice none 0 0], .int .u8 0, .int .u8 0], []⟩ 8 (by kernel_rfl) (by kernel_rfl) (by kernel_rfl) (by kernel_rfl)) ?_
  intro W base args ds gs before hval0 hW hcnd hsz0 _
  have hval : ∀ (j : Nat) t v, Try.f5.params[j]? = some t → args[j]? = some v → Value.okWide Try.prog W .any base t v := hval0
  have hW' := hW
  obtain ⟨p, q, hA0, hV, rfl, hfz, hnd⟩ := hW
  have hA : DataW.TrodAll enc Try.prog W 0 (fun _ => true) true Try.f5.params.toList args.toList ds p := hA0
  rw [Try.params5] at hA hval
  obtain ⟨v0, vs0, d0, ds0, p0, q0, hargs, rfl, rfl, h0, r0⟩ := trodAll_cons hA
  obtain ⟨v1, vs1, d1, ds1, p1, q1, rfl, rfl, rfl, h1, r1⟩ := trodAll_cons r0
  obtain ⟨v2, vs2, d2, ds2, p2, q2, rfl, rfl, rfl, h2, r2⟩ := trodAll_cons r1
  obtain ⟨rfl, rfl, rfl⟩ := trodAll_nil r2
  obtain rfl : args = #[v0, v1, v2] := by cases args; simp_all
  obtain ⟨rfl, rfl⟩ := trodVars_none hV
  obtain ⟨cs0, rfl, hsz0⟩ := okWide_struct Try.underlying24 (hval 0 24 v0 rfl rfl)
  have k0 := h0
  have lt0 : ∀ x ∈ p0, x.block < W.heap.size := by obtain ⟨m, hm⟩ := k0; exact DataW.trod_lt m _ _ _ hm
  obtain ⟨fuel0, hf0⟩ := h0
  obtain ⟨a0, t0, w0⟩ := rd24 fuel0 _ _ hf0
  obtain ⟨a1, rfl, rfl, rfl, w1⟩ := open_int Try.underlying5 (hval 1 5 v1 rfl rfl) h1
  obtain ⟨a2, rfl, rfl, rfl, w2⟩ := open_int Try.underlying5 (hval 2 5 v2 rfl rfl) h2
  clear hA0 hval0 hsz0
  obtain ⟨K, hK⟩ := law a0 a1 a2 w0 w1 w2
  have hc := (g5_law22_DeadSteps_ok K a0 a1 a2 true hK).law (W := W) (vs := [.agg cs0, .int .u8 a1, .int .u8 a2]) ⟨rfl, fun k v x hv hx => ?_⟩
  · refine hc.mono fun e W' ⟨he, bel⟩ => ?_
    subst he
    exact ⟨_, rfl, _, _, _, [], _, [], hW', trodAll_mk1 (shut_bool Try.underlying4 _), (trodAll_cons_mk (Below.trod laidOut (by kernel_rfl) (of_decide_eq_true (by kernel_rfl)) k0 bel lt0) (trodAll_cons_mk (shut_int Try.underlying5 w1) (trodAll_cons_mk (shut_int Try.underlying5 w2) trodAll_mk0))), rfl, bel.frame _, fun h => by cases h⟩
  · match k, hv, hx with
    | 0, hv, hx => simp at hv hx; subst hv; subst hx; exact (TRs.ars (fun _ h => h) t0)
    | 1, hv, hx => simp at hv hx; subst hv; subst hx; exact ⟨_, rfl, .t (.lit _ rfl)⟩
    | 2, hv, hx => simp at hv hx; subst hv; subst hx; exact ⟨_, rfl, .t (.lit _ rfl)⟩
    | k + 3, hv, hx => simp at hv
theorem over (law : Law) : Rows.deadStepsRow.holds Try.pinned (OpenSpec.ofChange Rows.deadStepsSpec) :=
  OpenClaim.holds_of_wide 5 Try.f5 rfl rfl rfl rfl rfl rfl rfl ⟨rfl, rfl, rfl, rfl, rfl⟩ rfl rfl rfl rfl rfl (by kernel_rfl) Try.func5 (by kernel_rfl)
    (of_decide_eq_true (by kernel_rfl)) (by unfold Func.isWrapper; first | (rw [if_pos (by decide +kernel)]; kernel_rfl) | (rw [if_neg (by decide +kernel)]; exact ⟨rfl, rfl⟩))
    (fun os started H enc _ => lifted law os started H enc)
theorem said (law : Law) : Rows.DeadStepsSaid := over law
end Go.Proofs.Ytoooalfhjcfinaa.deadStepsRow
