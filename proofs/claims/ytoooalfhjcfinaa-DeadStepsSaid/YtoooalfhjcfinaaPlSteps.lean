/- A part of the proofs of this seat: what functions of the program compute, and what follows from it; without conditions. -/
import Derived.Test.YtoooalfhjcfinaaPl16

namespace Go.Proofs.Ytoooalfhjcfinaa.T
open Go.Abs
set_option linter.unusedVariables false
set_option linter.unusedSimpArgs false

/-! ### Instructions that do nothing, put in -/
def oNone : Op' := ⟨⟨24, 0, 0, 0, 0⟩, false, 0, 0, 0⟩
def oAddi (n : Int) : Op' := ⟨⟨8, 0, 1 + n, 0, n⟩, false, 0, 0, 0⟩
def put2 (g : Graph) (k : Nat) (n : Int) : Graph := withOps g k (oNone :: oAddi n :: opsAt g k)
def puts (g : Graph) (k : Nat) : Nat → Graph
  | 0 => g
  | n + 1 => put2 (puts g k n) k n

theorem none_op : OpR oNone := by unfold OpR; kernel_rfl
theorem addi_op {n : Nat} (h : n < 8) : OpR (oAddi n) := by
  have : n = 0 ∨ n = 1 ∨ n = 2 ∨ n = 3 ∨ n = 4 ∨ n = 5 ∨ n = 6 ∨ n = 7 := by omega
  rcases this with h | h | h | h | h | h | h | h <;> subst h
  all_goals (show g30_ref16_op 1000 _ 1000 1000 = some true; kernel_rfl)

theorem idle_none (X : Nat → Bool) : idleB oNone.Ins X = true := by
  unfold idleB
  rw [dt (show kind oNone.Ins = 0 by decide), dt (show wr oNone.Ins < 0 by decide)]
  rfl
theorem idle_addi (n : Int) (X : Nat → Bool) : idleB (oAddi n).Ins X = true := by
  unfold idleB
  have h1 : kind (oAddi n).Ins = 0 := rfl
  have h2 : wr (oAddi n).Ins < 0 := by unfold wr oAddi; simp
  rw [dt h1, dt h2]
  rfl

theorem put2_good {g : Graph} (hR : RightP g) {k : Nat} (hk : k < g.Blocks.length) {n : Nat} (hn : n < 8) : RightP (put2 g k n) := by
  refine ⟨by rw [put2, with_len]; exact hR.pos, fun j hj => ?_, fun j hj m hm => ?_⟩
  · rw [put2, with_len] at hj ⊢; rw [with_end hk]; exact hR.term j hj
  · rw [put2, with_len] at hj
    have h1 := with_ops hk (oNone :: oAddi n :: opsAt g k) j
    unfold put2 at hm ⊢
    simp only [opsAt] at h1 hm ⊢
    rw [h1] at hm ⊢
    split
    · rename_i e; rw [if_pos e] at hm
      match m, hm with
      | 0, _ => exact none_op
      | 1, _ => exact addi_op hn
      | m + 2, hm => exact hR.op k hk m (by simpa using hm)
    · rename_i e; rw [if_neg e] at hm
      exact hR.op j hj m hm

theorem put2_steps {g : Graph} {k : Nat} (hk : k < g.Blocks.length) (n : Int) : Steps (put2 g k n) g := by
  have hl : (put2 g k n).Blocks.length = g.Blocks.length := with_len _ _ _
  have ho : opsAt (put2 g k n) k = oNone :: oAddi n :: opsAt g k := by unfold put2; rw [with_ops hk, if_pos rfl]
  have h0 : idle (put2 g k n) k 0 = true := by
    unfold idle
    rw [show ((put2 g k n).Blocks.getD k zBlock).Ops = oNone :: oAddi n :: opsAt g k from ho]
    exact idle_none _
  have ho1 : opsAt (rm (put2 g k n) k 0) k = oAddi n :: opsAt g k := by
    rw [rm_ops (by rw [hl]; exact hk), if_pos rfl, ho]; rfl
  have h1 : idle (rm (put2 g k n) k 0) k 0 = true := by
    unfold idle
    rw [show ((rm (put2 g k n) k 0).Blocks.getD k zBlock).Ops = oAddi n :: opsAt g k from ho1]
    exact idle_addi _ _
  have he : rm (rm (put2 g k n) k 0) k 0 = g := by
    rw [rm_rm_same (by rw [hl]; exact hk), ho]
    show withOps (put2 g k n) k (opsAt g k) = g
    conv => rhs; rw [← with_self hk]
    unfold put2 withOps
    have := with_end hk (oNone :: oAddi n :: opsAt g k) k
    unfold withOps at this
    simp only [List.set_set]
    rw [this]
  refine .step ⟨k, 0, by rw [hl]; exact hk, by rw [ho]; simp, h0, rfl⟩ (.step ⟨k, 0, by rw [rm_len, hl]; exact hk, by rw [ho1]; simp, h1, rfl⟩ ?_)
  rw [he]
  exact .refl _

theorem put2_count {g : Graph} {k : Nat} (hk : k < g.Blocks.length) (n : Int) : count (put2 g k n).Blocks = count g.Blocks + 2 := by
  have := with_count hk (oNone :: oAddi n :: opsAt g k)
  simp only [List.length_cons] at this
  unfold put2; omega

theorem puts_ok {g : Graph} (hG : Good g) (hc : count g.Blocks ≤ 60) {k : Nat} (hk : k < g.Blocks.length) : ∀ n, n ≤ 8 → Good (puts g k n) ∧ (puts g k n).Blocks.length = g.Blocks.length ∧ Steps (puts g k n) g ∧ Like g (puts g k n) ∧ count (puts g k n).Blocks = count g.Blocks + 2 * n
  | 0, _ => ⟨hG, rfl, .refl _, ⟨rfl, rfl, rfl⟩, rfl⟩
  | n + 1, h => by
    obtain ⟨h1, h2, h3, h4, h5⟩ := puts_ok hG hc hk n (by omega)
    have hk' : k < (puts g k n).Blocks.length := by rw [h2]; exact hk
    have hl : (puts g k (n + 1)).Blocks.length = (puts g k n).Blocks.length := with_len _ _ _
    have hcc : count (puts g k (n + 1)).Blocks = count (puts g k n).Blocks + 2 := put2_count hk' _
    refine ⟨⟨put2_good h1.right hk' (by omega), by rw [hl, h2]; exact hG.len, by omega⟩, by rw [hl, h2], (put2_steps hk' _).trans h3, ⟨h4.name, h4.keep, h4.leaf⟩, by omega⟩

theorem steps_l0 {g : Graph} (hG : Good g) (hc : count g.Blocks ≤ 60) (r6 : Graph) {a1 a2 : Int} (h1 : 0 ≤ a1) (h1' : a1 < 256) (h2 : 0 ≤ a2) (h2' : a2 < 256) : ∀ (k i : Nat), 8 < k + i → i ≤ (a2 % 8).toNat →
    g5_law22_DeadSteps.l0 1000 a1 a2 r6 g k (puts g (a1 % g.Blocks.length).toNat i).Blocks (i : Int) = some (puts g (a1 % g.Blocks.length).toNat (a2 % 8).toNat).Blocks
  | 0, i, h, hi => by omega
  | k + 1, i, h, hi => by
    have hlen := hG.len
    have hpos := hG.right.pos
    have hw1 : IntKind.i64.wrap a1 = a1 := wi (by omega) (by omega)
    have ht1 : Int.tmod a1 (g.Blocks.length : Int) = a1 % g.Blocks.length := Int.tmod_eq_emod_of_nonneg h1
    have ht2 : Int.tmod a2 8 = a2 % 8 := Int.tmod_eq_emod_of_nonneg h2
    have hm1 := Int.emod_nonneg a1 (show (g.Blocks.length : Int) ≠ 0 by omega)
    have hm2 := Int.emod_lt_of_pos a1 (show (0 : Int) < g.Blocks.length by omega)
    have hw2 : IntKind.i64.wrap (a2 % 8) = a2 % 8 := wi (by omega) (by omega)
    have hkb : (a1 % g.Blocks.length).toNat < g.Blocks.length := by omega
    obtain ⟨p1, p2, _⟩ := puts_ok hG hc hkb i (by omega)
    simp only [g5_law22_DeadSteps.l0, hw1, ht1, ht2, hw2]
    rw [gd_t (by decide)]
    by_cases hlt : i < (a2 % 8).toNat
    · have hI : 0 ≤ a1 % (g.Blocks.length : Int) ∧ a1 % (g.Blocks.length : Int) < ((puts g (a1 % g.Blocks.length).toNat i).Blocks.length : Int) := by rw [p2]; omega
      have hsm := p1.fine.small.ops (a1 % g.Blocks.length).toNat (by rw [p2]; exact hkb)
      have hw3 : IntKind.i64.wrap (1 + (i : Int)) = 1 + (i : Int) := wi (by omega) (by omega)
      rw [dt (show (i : Int) < a2 % 8 by omega), cond_true, gd_t hI, gd_t (by simp only [List.length_cons, List.length_nil]; omega), gd_t hI, wsucc (show i < 8 by omega) (by omega), hw3]
      exact steps_l0 hG hc r6 h1 h1' h2 h2' k (i + 1) (by omega) (by omega)
    · rw [df (show ¬ (i : Int) < a2 % 8 by omega), cond_false]
      have : i = (a2 % 8).toNat := by omega
      rw [this]

theorem law5 (g : Graph) (a1 a2 : Int) (hn : g.Blocks.length ≤ maxLen) (h1 : 0 ≤ a1) (h1' : a1 < 256) (h2 : 0 ≤ a2) (h2' : a2 < 256) : g5_law22_DeadSteps 1000 g a1 a2 = some true := by
  obtain ⟨b, hb, fb⟩ := fine_good g hn
  simp only [g5_law22_DeadSteps, awake_ok, Option.bind_some, Bool.not_true, Bool.not_false, cond_true, hb]
  cases b with
  | false => rfl
  | true =>
    obtain ⟨hF, hG, h60⟩ := fb rfl
    obtain ⟨N, n1, n2, n3⟩ := sweep_ok hG
    have hN := n2.kept.good hG
    have hc : count N.Blocks ≤ 60 := Nat.le_trans n2.kept.cnt h60
    have hpos := hN.right.pos
    have hm1 := Int.emod_nonneg a1 (show (N.Blocks.length : Int) ≠ 0 by omega)
    have hm2 := Int.emod_lt_of_pos a1 (show (0 : Int) < N.Blocks.length by omega)
    have hkb : (a1 % N.Blocks.length).toNat < N.Blocks.length := by omega
    obtain ⟨p1, p2, p3, p4, _⟩ := puts_ok hN hc hkb (a2 % 8).toNat (by omega)
    have hl := steps_l0 hN hc N h1 h1' h2 h2' 1000 0 (by omega) (Nat.zero_le _)
    have hl : g5_law22_DeadSteps.l0 1000 a1 a2 N N 1000 N.Blocks 0 = some (puts N (a1 % N.Blocks.length).toNat (a2 % 8).toNat).Blocks := hl
    obtain ⟨M, m1, m2, m3⟩ := sweep_ok p1
    have hMN : M = N := m2.unique m3 p3 n3
    subst hMN
    simp only [Bool.not_true, cond_false, n1, copy_ok (show 200 < 1000 by omega) hN.fine.small, Option.bind_some]
    rw [gd_t (by omega), hl]
    simp only [Option.bind_some, p4.eq, m1, same_ok hN.fine.small]
end Go.Proofs.Ytoooalfhjcfinaa.T
