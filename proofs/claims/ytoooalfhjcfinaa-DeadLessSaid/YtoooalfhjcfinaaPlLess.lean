/- A part of the proofs of this seat: what functions of the program compute, and what follows from it; without conditions. -/
import Derived.Test.YtoooalfhjcfinaaP5

namespace Go.Proofs.Ytoooalfhjcfinaa.T
open Go.Abs
set_option linter.unusedVariables false
set_option linter.unusedSimpArgs false

theorem opsG_ok {g : Graph} (hG : Good g) : g20_ref22_Ops 1000 g = some ((count g.Blocks : Nat) : Int) := by
  have h0 := hG.len; have h2 := hG.ops
  have h1 := ops_l0 1000 g (by omega) (by omega) 1000 0 (by omega) (by omega)
  have h1 : g20_ref22_Ops.l0 1000 g 1000 0 0 = some ((count g.Blocks : Nat) : Int) := h1
  simp only [g20_ref22_Ops, h1, Option.bind_some]

theorem law4 (g : Graph) (hn : g.Blocks.length ≤ maxLen) : g4_law22_DeadLess 1000 g = some true := by
  obtain ⟨b, hb, fb⟩ := fine_good g hn
  simp only [g4_law22_DeadLess, awake_ok, Option.bind_some, Bool.not_true, Bool.not_false, cond_true, hb]
  cases b with
  | false => rfl
  | true =>
    obtain ⟨hF, hG⟩ := fb rfl
    obtain ⟨h, h1, h2, h3, h4, h5, h6, h7⟩ := graph_ok hG
    obtain ⟨r, r1, r2⟩ := right_iff h h2.fine.small
    have hr : r = true := r2.2 h2.right
    subst hr
    simp only [Bool.not_true, cond_false, h1, r1, Option.bind_some]
    rw [df (show ¬ (h.Blocks.length : Int) > (g.Blocks.length : Int) by omega)]
    simp only [Bool.not_false, cond_true, cond_false, opsG_ok h2, opsG_ok hG, Option.bind_some]
    rw [df (show ¬ ((count h.Blocks : Nat) : Int) > ((count g.Blocks : Nat) : Int) by omega), h5]
    simp only [beq_self_eq_true, Bool.not_true, Bool.not_false, cond_false, Bool.true_and]
    cases hk : g.Keep with
    | true =>
      have he := h6 hk
      subst he
      simp only [cond_true, same_ok hG.fine.small, Option.bind_some, Bool.not_true, cond_false]
    | false =>
      simp only [cond_false, Option.bind_some, Bool.not_false, cond_true, h7 hk, same_ok h2.fine.small]
end Go.Proofs.Ytoooalfhjcfinaa.T
