/- A part of the proofs of this seat: what functions of the program compute, and what follows from it; without conditions. -/
import Derived.Test.YtoooalfhjcfinaaP1
import Derived.Laws.BitsAllLaws

namespace Go.Proofs.Ytoooalfhjcfinaa.T
open Go.Abs
set_option linter.unusedVariables false
set_option linter.unusedSimpArgs false

/-! ### Right graphs, exactly -/
def RightI (i : Ins) : Prop := g41_ref02_Right 1000 i = some true
def OpR (o : Op') : Prop := g30_ref16_op 1000 o 1000 1000 = some true
def insZ (i : Ins) : Prop := i.Op = 0 ∧ i.A = 0 ∧ i.B = 0 ∧ i.C = 0 ∧ i.Imm = 0
def TermR (t : Term) (n : Nat) : Prop :=
  (t.Kind = 1 ∧ t.Op = 0 ∧ t.A = 0 ∧ t.B = 0 ∧ t.Else = 0 ∧ insZ t.Ins ∧ 0 ≤ t.To ∧ t.To < n) ∨
  (t.Kind = 4 ∧ t.Op = 0 ∧ t.A = 0 ∧ t.B = 0 ∧ t.Else = 0 ∧ insZ t.Ins ∧ 0 ≤ t.To ∧ t.To < 1000) ∨
  (t.Kind = 3 ∧ t.Op = 0 ∧ t.A = 0 ∧ t.B = 0 ∧ t.Else = 0 ∧ t.To = 0 ∧ RightI t.Ins ∧ kinds.getD t.Ins.Op.toNat 0 = 5) ∨
  (t.Kind = 2 ∧ insZ t.Ins ∧ 15 ≤ t.Op ∧ t.Op ≤ 18 ∧ 0 ≤ t.A ∧ t.A < 16 ∧ 0 ≤ t.B ∧ t.B < 16 ∧ 0 ≤ t.To ∧ t.To < n ∧ 0 ≤ t.Else ∧ t.Else < n)

theorem RightI.ok {i : Ins} (h : RightI i) : InsOk i := by
  obtain ⟨b, hb, f⟩ := right_ok 1000 i
  rw [RightI, hb] at h
  injection h with h
  exact f h
theorem OpR.ok {o : Op'} (h : OpR o) : InsOk o.Ins := by
  obtain ⟨b, hb, f⟩ := op_ok 1000 o 1000 1000
  rw [OpR, hb] at h
  injection h with h
  exact f h

set_option maxHeartbeats 4000000 in
theorem term_iff (t : Term) (n : Nat) : ∃ b, g31_ref16_term 1000 t (n : Int) 1000 = some b ∧ (b = true ↔ TermR t n) := by
  unfold g31_ref16_term
  obtain ⟨b1, h1, f1⟩ := right_ok 1000 t.Ins
  have hR : RightI t.Ins ↔ b1 = true := by rw [RightI, h1]; exact ⟨fun h => by injection h, fun h => by rw [h]⟩
  unfold TermR insZ
  rw [hR]
  simp only [h1, cond_some, Option.bind_some]
  cases b1 with
  | false =>
    simp only [Option.bind_some, cond_some, cond_false, Bool.cond_false_right, Bool.and_false, cond_some]
    refine ⟨_, rfl, ?_⟩
    simp only [Bool.cond_eq_ite]
    constructor <;> grind (splits := 80)
  | true =>
    rw [kind_ok 1000 (f1 rfl)]
    simp only [Option.bind_some, cond_some]
    refine ⟨_, rfl, ?_⟩
    simp only [Bool.cond_eq_ite]
    constructor <;> grind (splits := 80)

structure RightP (g : Graph) : Prop where
  pos : 0 < g.Blocks.length
  term : ∀ i, i < g.Blocks.length → TermR (g.Blocks.getD i zBlock).End g.Blocks.length
  op : ∀ i, i < g.Blocks.length → ∀ m, m < (g.Blocks.getD i zBlock).Ops.length → OpR ((g.Blocks.getD i zBlock).Ops.getD m zOp)

theorem rightI_l1 (g : Graph) {i : Nat} (hi : i < g.Blocks.length) (hm : (g.Blocks.getD i zBlock).Ops.length ≤ 300) : ∀ (k j : Nat), (g.Blocks.getD i zBlock).Ops.length < k + j → j ≤ (g.Blocks.getD i zBlock).Ops.length →
    ∃ o, g19_ref16_Right.l1 1000 g 1000 1000 (i : Int) k (j : Int) = some o ∧ (o = .inr () ↔ ∀ m, j ≤ m → m < (g.Blocks.getD i zBlock).Ops.length → OpR ((g.Blocks.getD i zBlock).Ops.getD m zOp))
  | 0, j, h, hl => by omega
  | k + 1, j, h, hl => by
    have hI : 0 ≤ (i : Int) ∧ (i : Int) < (g.Blocks.length : Int) := by omega
    simp only [g19_ref16_Right.l1, gd_t hI, Int.toNat_natCast]
    by_cases hj : j < (g.Blocks.getD i zBlock).Ops.length
    · have hJ : 0 ≤ (j : Int) ∧ (j : Int) < ((g.Blocks.getD i zBlock).Ops.length : Int) := by omega
      obtain ⟨b, hb, fb⟩ := op_ok 1000 ((g.Blocks.getD i zBlock).Ops.getD j zOp) 1000 1000
      rw [dt (by omega), cond_true, gd_t hJ, hb]
      simp only [Option.bind_some]
      cases b with
      | false => exact ⟨_, rfl, ⟨fun h => (by cases h), fun h => by have := h j (Nat.le_refl _) hj; rw [OpR, hb] at this; cases this⟩⟩
      | true =>
        simp only [Bool.not_true, cond_false]
        rw [wsucc hj (by omega)]
        obtain ⟨o, ho, fo⟩ := rightI_l1 g hi hm k (j + 1) (by omega) (by omega)
        refine ⟨o, ho, ⟨fun h m h1 h2 => ?_, fun h => fo.2 fun m h1 h2 => h m (by omega) h2⟩⟩
        rcases Nat.lt_or_ge j m with h3 | h3
        · exact fo.1 h m h3 h2
        · have : m = j := by omega
          subst this; exact hb
    · rw [df (by omega), cond_false]
      exact ⟨_, rfl, ⟨fun _ m h1 h2 => by omega, fun _ => rfl⟩⟩

theorem rightI_l0 (g : Graph) (hS : Small g) : ∀ (k i : Nat), g.Blocks.length < k + i → i ≤ g.Blocks.length →
    ∃ o, g19_ref16_Right.l0 1000 g 1000 1000 k (i : Int) = some o ∧ (o = .inr () ↔ ∀ j, i ≤ j → j < g.Blocks.length → TermR (g.Blocks.getD j zBlock).End g.Blocks.length ∧ ∀ m, m < (g.Blocks.getD j zBlock).Ops.length → OpR ((g.Blocks.getD j zBlock).Ops.getD m zOp))
  | 0, i, h, hl => by omega
  | k + 1, i, h, hl => by
    have hlen := hS.len
    simp only [g19_ref16_Right.l0, Int.toNat_natCast]
    by_cases hi : i < g.Blocks.length
    · have hI : 0 ≤ (i : Int) ∧ (i : Int) < (g.Blocks.length : Int) := by omega
      have hops := hS.ops i hi
      obtain ⟨o1, ho1, f1⟩ := rightI_l1 g hi hops 1000 0 (by omega) (by omega)
      have ho1 : g19_ref16_Right.l1 1000 g 1000 1000 (i : Int) 1000 0 = some o1 := ho1
      rw [dt (by omega), cond_true, ho1]
      simp only [Option.bind_some]
      cases o1 with
      | inl u => exact ⟨_, rfl, ⟨fun h => (by cases h), fun h => by have := f1.2 (fun m _ hm => (h i (Nat.le_refl _) hi).2 m hm); cases this⟩⟩
      | inr u =>
        obtain ⟨b, hb, fb⟩ := term_iff (g.Blocks.getD i zBlock).End g.Blocks.length
        simp only [gd_t hI, hb, Option.bind_some]
        cases b with
        | false => exact ⟨_, rfl, ⟨fun h => (by cases h), fun h => by have := fb.2 (h i (Nat.le_refl _) hi).1; cases this⟩⟩
        | true =>
          simp only [Bool.not_true, cond_false]
          rw [wsucc hi (by omega)]
          obtain ⟨o, ho, fo⟩ := rightI_l0 g hS k (i + 1) (by omega) (by omega)
          refine ⟨o, ho, ⟨fun h j h1 h2 => ?_, fun h => fo.2 fun j h1 h2 => h j (by omega) h2⟩⟩
          rcases Nat.lt_or_ge i j with h3 | h3
          · exact fo.1 h j h3 h2
          · have : j = i := by omega
            subst this
            exact ⟨fb.1 rfl, fun m hm => f1.1 rfl m (by omega) hm⟩
    · rw [df (by omega), cond_false]
      exact ⟨_, rfl, ⟨fun _ m h1 h2 => by omega, fun _ => rfl⟩⟩

theorem right_iff (g : Graph) (hS : Small g) : ∃ b, g19_ref16_Right 1000 g 1000 1000 = some b ∧ (b = true ↔ RightP g) := by
  have hlen := hS.len
  obtain ⟨o, ho, fo⟩ := rightI_l0 g hS 1000 0 (by omega) (by omega)
  have ho : g19_ref16_Right.l0 1000 g 1000 1000 1000 0 = some o := ho
  unfold g19_ref16_Right
  rw [ho]
  simp only [Option.bind_some]
  cases o with
  | inl u => exact ⟨false, rfl, ⟨fun h => (by cases h), fun h => by have := fo.2 (fun j _ hj => ⟨h.term j hj, h.op j hj⟩); cases this⟩⟩
  | inr u =>
    refine ⟨_, rfl, ⟨fun h => ?_, fun h => ?_⟩⟩
    · have := of_decide_eq_true h
      exact ⟨by omega, fun i hi => (fo.1 rfl i (by omega) hi).1, fun i hi => (fo.1 rfl i (by omega) hi).2⟩
    · have := h.pos
      exact decide_eq_true (by omega)

theorem TermR.ok {t : Term} {n : Nat} (h : TermR t n) : TermOk t n := by
  unfold TermR insZ at h
  constructor <;> grind

/-- A right graph, few blocks and instructions. -/
structure Good (g : Graph) : Prop where
  right : RightP g
  len : g.Blocks.length ≤ 30
  ops : count g.Blocks ≤ 100

theorem fine_good (g : Graph) (hn : g.Blocks.length ≤ maxLen) : ∃ b, g9_law22_fine 1000 g = some b ∧ (b = true → Fine g ∧ Good g ∧ count g.Blocks ≤ 60) := by
  obtain ⟨b, hb, fb⟩ := fine_ok g hn
  refine ⟨b, hb, fun h => ?_⟩
  obtain ⟨hF, h60⟩ := fb h
  refine ⟨hF, ⟨?_, hF.len, hF.ops⟩, h60⟩
  subst h
  obtain ⟨b2, hb2, f2⟩ := right_iff g hF.small
  unfold g9_law22_fine at hb
  simp only [Option.bind_eq_some_iff] at hb
  obtain ⟨r1, h1, r4, h4, r7, h7, h8⟩ := hb
  cases r1 with
  | false => simp at h8
  | true =>
    have e30 : decide ((g.Blocks.length : Int) ≤ 30) = true := decide_eq_true (by have := hF.len; omega)
    simp only [e30, cond_true] at h4 h7 h8
    cases h61 : decide (r4 ≤ 60) with
    | false => rw [h61] at h8; simp at h8
    | true =>
      rw [h61] at h7 h8
      simp only [cond_true] at h7 h8
      injection h8 with h8; subst h8
      rw [hb2] at h7; injection h7 with h7
      exact f2.1 h7
theorem Good.fine {g : Graph} (h : Good g) : Fine g := ⟨h.right.pos, h.len, h.ops, fun i hi => (h.right.term i hi).ok, fun i hi m hm => (h.right.op i hi m hm).ok⟩
end Go.Proofs.Ytoooalfhjcfinaa.T

namespace Go.Proofs.Ytoooalfhjcfinaa.T
open Go.Abs
set_option linter.unusedVariables false
set_option linter.unusedSimpArgs false

/-! ### Sets of registers -/
def bt (n : Int) (r : Nat) : Bool := n.toNat.testBit r
def U (n : Int) : Prop := 0 ≤ n ∧ n < 65536

theorem bt_hi {n : Int} (h : U n) {r : Nat} (hr : 16 ≤ r) : bt n r = false := by
  unfold bt
  apply Nat.testBit_lt_two_pow
  have : n.toNat < 2 ^ 16 := by have := h.1; have := h.2; omega
  exact Nat.lt_of_lt_of_le this (Nat.pow_le_pow_right (by decide) hr)

theorem bt_ext {a b : Int} (ha : U a) (hb : U b) (h : ∀ r, r < 16 → bt a r = bt b r) : a = b := by
  have : a.toNat = b.toNat := by
    apply Nat.eq_of_testBit_eq
    intro r
    rcases Nat.lt_or_ge r 16 with hr | hr
    · exact h r hr
    · have h1 := bt_hi ha hr; have h2 := bt_hi hb hr
      unfold bt at h1 h2; rw [h1, h2]
  have := ha.1; have := hb.1
  omega

theorem or_bt {a b : Int} (ha : U a) (hb : U b) : U (bits .or .u16 a b) ∧ ∀ r, bt (bits .or .u16 a b) r = (bt a r || bt b r) := by
  rw [u16_or a b ha.1 ha.2 hb.1 hb.2]
  have h1 : a.toNat < 2 ^ 16 := by have := ha.1; have := ha.2; omega
  have h2 : b.toNat < 2 ^ 16 := by have := hb.1; have := hb.2; omega
  have h3 := Nat.or_lt_two_pow h1 h2
  refine ⟨⟨by omega, by omega⟩, fun r => ?_⟩
  simp [bt, Nat.testBit_or]

theorem andNot_bt {a : Int} (ha : U a) {k : Nat} (hk : k < 16) : U (bits .andNot .u16 a ((2 ^ k : Nat) : Int)) ∧ ∀ r, bt (bits .andNot .u16 a ((2 ^ k : Nat) : Int)) r = (bt a r && decide (r ≠ k)) := by
  have hp : 2 ^ k < 65536 := Nat.lt_of_le_of_lt (Nat.pow_le_pow_right (by decide) (show k ≤ 15 by omega)) (by decide)
  rw [u16_andNot a _ ha.1 ha.2 (Int.natCast_nonneg _) (Int.ofNat_lt.2 hp)]
  have h1 : a.toNat < 2 ^ 16 := by have := ha.1; have := ha.2; omega
  have h3 : a.toNat &&& (65535 - (((2 ^ k : Nat) : Int)).toNat) ≤ a.toNat := Nat.and_le_left
  refine ⟨⟨by omega, by omega⟩, fun r => ?_⟩
  simp only [bt, Int.toNat_natCast, Nat.testBit_and]
  rcases Nat.lt_or_ge r 16 with hr | hr
  · congr 1
    rw [show 65535 - 2 ^ k = 2 ^ 16 - (2 ^ k + 1) by omega, Nat.testBit_two_pow_sub_succ (by omega), Nat.testBit_two_pow]
    by_cases h : r = k
    · subst h; simp [hr]
    · simp [hr, h, Ne.symm h]
  · rw [show a.toNat.testBit r = false from bt_hi ha hr]; simp

theorem shift_eq {r : Int} (h0 : 0 ≤ r) (h1 : r ≤ 15) : IntKind.u16.wrap ((1 : Int) * 2 ^ min r.toNat (IntKind.bits .u16)) = ((2 ^ r.toNat : Nat) : Int) := by
  have : r = 0 ∨ r = 1 ∨ r = 2 ∨ r = 3 ∨ r = 4 ∨ r = 5 ∨ r = 6 ∨ r = 7 ∨ r = 8 ∨ r = 9 ∨ r = 10 ∨ r = 11 ∨ r = 12 ∨ r = 13 ∨ r = 14 ∨ r = 15 := by omega
  rcases this with h | h | h | h | h | h | h | h | h | h | h | h | h | h | h | h <;> subst h <;> rfl

theorem pow_bt {k : Nat} (hk : k < 16) : U ((2 ^ k : Nat) : Int) ∧ ∀ r, bt ((2 ^ k : Nat) : Int) r = decide (r = k) := by
  have hp : 2 ^ k < 65536 := Nat.lt_of_le_of_lt (Nat.pow_le_pow_right (by decide) (show k ≤ 15 by omega)) (by decide)
  refine ⟨⟨Int.natCast_nonneg _, Int.ofNat_lt.2 hp⟩, fun r => ?_⟩
  simp only [bt, Int.toNat_natCast, Nat.testBit_two_pow]
  by_cases h : r = k
  · simp [h]
  · simp [h, Ne.symm h]

/-- Is register k in the set? As the program asks. -/
theorem ask_bt {a : Int} (ha : U a) {w : Int} (h0 : 0 ≤ w) (h1 : w ≤ 15) : (bits .and .u16 (Int.fdiv a (2 ^ min w.toNat (IntKind.bits .u16))) (1 : Int) == (0 : Int)) = !bt a w.toNat := by
  have hm : min w.toNat (IntKind.bits .u16) = w.toNat := by simp [IntKind.bits]; omega
  rw [hm]
  have e1 : Int.fdiv a (2 ^ w.toNat) = ((a.toNat / 2 ^ w.toNat : Nat) : Int) := by
    obtain ⟨n, rfl⟩ := Int.eq_ofNat_of_zero_le ha.1
    rw [Int.fdiv_eq_ediv_of_nonneg _ (by exact Int.le_of_lt (Int.pow_pos (by decide)))]
    simp
  have hle : a.toNat / 2 ^ w.toNat ≤ a.toNat := Nat.div_le_self _ _
  simp only [bt, Nat.testBit_eq_decide_div_mod_eq]
  rw [e1]
  generalize a.toNat / 2 ^ w.toNat = q at hle
  rw [u16_and _ 1 (by omega) (by have := ha.1; have := ha.2; omega) (by decide) (by decide)]
  simp only [Int.toNat_natCast, show (1 : Int).toNat = 1 from rfl, Nat.and_one_is_mod]
  by_cases h : q % 2 = 1
  · simp [h]
  · have : q % 2 = 0 := by omega
    simp [this]

/-! ### Single instructions -/
def wr (i : Ins) : Int := if (1 ≤ i.Op ∧ i.Op ≤ 11 ∨ i.Op = 13 ∨ i.Op = 22) ∧ 0 < i.A then i.A else -1
def rd (i : Ins) (r : Int) : Bool :=
  decide (r ≠ 0) && (decide ((i.Op = 0 ∨ i.Op = 12 ∨ 14 ≤ i.Op ∧ i.Op ≤ 18 ∨ i.Op = 23) ∧ i.A = r) || decide ((1 ≤ i.Op ∧ i.Op ≤ 8 ∨ 10 ≤ i.Op ∧ i.Op ≤ 18) ∧ i.B = r) || decide ((1 ≤ i.Op ∧ i.Op ≤ 7) ∧ i.C = r))
def kind (i : Ins) : Int := kinds.getD i.Op.toNat 0

theorem op26 {i : Ins} (h : InsOk i) : i.Op = 0 ∨ i.Op = 1 ∨ i.Op = 2 ∨ i.Op = 3 ∨ i.Op = 4 ∨ i.Op = 5 ∨ i.Op = 6 ∨ i.Op = 7 ∨ i.Op = 8 ∨ i.Op = 9 ∨ i.Op = 10 ∨ i.Op = 11 ∨ i.Op = 12 ∨ i.Op = 13 ∨ i.Op = 14 ∨ i.Op = 15 ∨ i.Op = 16 ∨ i.Op = 17 ∨ i.Op = 18 ∨ i.Op = 19 ∨ i.Op = 20 ∨ i.Op = 21 ∨ i.Op = 22 ∨ i.Op = 23 ∨ i.Op = 24 ∨ i.Op = 25 := by
  have := h.lo; have := h.hi; omega

theorem fkind_ok (K : Nat) {i : Ins} (h : InsOk i) : g37_flow_Kind K i = some (kind i) := by
  unfold g37_flow_Kind kind
  rcases op26 h with e | e | e | e | e | e | e | e | e | e | e | e | e | e | e | e | e | e | e | e | e | e | e | e | e | e <;> rw [e] <;> rfl
theorem rkind_ok (K : Nat) {i : Ins} (h : InsOk i) : g39_ref03_Kind K i = some (kind i) := kind_ok K h

theorem fwrites_ok (K : Nat) {i : Ins} (h : InsOk i) : g36_flow_Writes K i = some (wr i) := by
  have := h.a0
  unfold g36_flow_Writes wr
  simp only [Bool.cond_eq_ite]
  grind
theorem rwrites_ok (K : Nat) (i : Ins) : g38_ref03_Writes K i = some (wr i) := by
  unfold g38_ref03_Writes wr
  simp only [Bool.cond_eq_ite]
  grind
theorem rreads_ok (K : Nat) (i : Ins) (r : Int) : g58_ref03_Reads K i r = some (rd i r) := by
  unfold g58_ref03_Reads rd
  simp only [Bool.cond_eq_ite]
  grind (splits := 40)
theorem wr_in {i : Ins} (h : InsOk i) : -1 ≤ wr i ∧ wr i ≤ 15 ∧ wr i ≠ 0 := by
  have := h.a1
  unfold wr
  split <;> omega

/-- The registers that are read, as the program first lists them. -/
def regs (i : Ins) : List Int :=
  if 1 ≤ i.Op ∧ i.Op ≤ 7 then [i.C, i.B] else if i.Op = 8 ∨ i.Op = 10 ∨ i.Op = 11 ∨ i.Op = 13 then [i.B]
  else if i.Op = 12 ∨ i.Op = 14 ∨ 15 ≤ i.Op ∧ i.Op ≤ 18 then [i.B, i.A] else if i.Op = 0 ∨ i.Op = 23 then [i.A] else []

theorem regs_ok (K : Nat) {i : Ins} (h : InsOk i) : g43_flow_Reads.b0 K i = some (regs i) := by
  unfold g43_flow_Reads.b0 regs
  rcases op26 h with e | e | e | e | e | e | e | e | e | e | e | e | e | e | e | e | e | e | e | e | e | e | e | e | e | e <;> rw [e] <;> rfl
end Go.Proofs.Ytoooalfhjcfinaa.T

namespace Go.Proofs.Ytoooalfhjcfinaa.T
open Go.Abs
set_option linter.unusedVariables false
set_option linter.unusedSimpArgs false

theorem setOf_l0 (l : List Int) (hl : l.length ≤ 100) (hr : ∀ x ∈ l, 0 ≤ x ∧ x ≤ 15) : ∀ (k i : Nat) (acc : Int), l.length < k + i → i ≤ l.length → U acc → (∀ r : Nat, bt acc r = true ↔ (r : Int) ∈ l.take i) →
    ∃ n, g42_live_set.l0 1000 l k acc (i : Int) = some n ∧ U n ∧ ∀ r : Nat, bt n r = true ↔ (r : Int) ∈ l
  | 0, i, acc, h, hl', hu, hb => by omega
  | k + 1, i, acc, h, hl', hu, hb => by
    simp only [g42_live_set.l0, Int.toNat_natCast]
    by_cases hi : i < l.length
    · have hx := hr (l.getD i 0) (by simp [List.getD, hi])
      have hI : 0 ≤ (i : Int) ∧ (i : Int) < (l.length : Int) := by omega
      rw [dt (by omega), cond_true, gd_t hI, gd_t hx.1, shift_eq hx.1 hx.2, wsucc hi (by omega)]
      have hk : (l.getD i 0).toNat < 16 := by omega
      obtain ⟨p1, p2⟩ := pow_bt hk
      obtain ⟨o1, o2⟩ := or_bt hu p1
      refine setOf_l0 l hl hr k (i + 1) _ (by omega) (by omega) o1 fun r => ?_
      rw [o2, p2, Bool.or_eq_true, hb, List.take_add_one, List.mem_append, decide_eq_true_eq]
      simp only [List.getElem?_eq_getElem hi, Option.toList_some, List.mem_singleton]
      have : l.getD i 0 = l[i] := by simp [List.getD, hi]
      rw [this] at hx hk ⊢
      exact or_congr Iff.rfl ⟨fun e => by omega, fun e => by omega⟩
    · rw [df (by omega), cond_false]
      have : i = l.length := by omega
      subst this
      exact ⟨acc, rfl, hu, fun r => by rw [hb, List.take_length]⟩

theorem setOf_ok (l : List Int) (hl : l.length ≤ 100) (hr : ∀ x ∈ l, 0 ≤ x ∧ x ≤ 15) : ∃ n, g42_live_set 1000 l = some n ∧ U n ∧ ∀ r : Nat, bt n r = true ↔ (r : Int) ∈ l := by
  obtain ⟨n, h1, h2⟩ := setOf_l0 l hl hr 1000 0 0 (by omega) (by omega) ⟨by decide, by decide⟩ (fun r => by simp [bt])
  have h1 : g42_live_set.l0 1000 l 1000 0 0 = some n := h1
  exact ⟨n, by simp only [g42_live_set, h1, Option.bind_some], h2⟩

theorem mem_compact {zs : List Int} (h : zs.length ≤ 2) (x : Int) : x ∈ compactI zs ↔ x ∈ zs := by
  match zs, h with
  | [], _ => simp [compactI, Lib.compact, Lib.compactUpTo]
  | [a], _ => simp [compactI, Lib.compact, Lib.compactUpTo, Lib.keeps, List.range_succ]
  | [a, b], _ =>
    by_cases h : b = a
    · subst h; simp [compactI, Lib.compact, Lib.compactUpTo, Lib.keeps, List.range_succ, List.filter_cons]
    · simp [compactI, Lib.compact, Lib.compactUpTo, Lib.keeps, List.range_succ, List.filter_cons, h]

theorem regs_len (i : Ins) : (regs i).length ≤ 2 := by unfold regs; repeat' split
                                                       all_goals simp

theorem mem_regs (i : Ins) (r : Int) : (r ∈ regs i ∧ r ≠ 0) ↔ rd i r = true := by
  unfold regs rd
  repeat' split
  all_goals simp only [List.mem_cons, List.not_mem_nil, or_false, Bool.and_eq_true, Bool.or_eq_true, decide_eq_true_eq]
  all_goals grind

theorem regs_in {i : Ins} (h : InsOk i) : ∀ x ∈ regs i, 0 ≤ x ∧ x ≤ 15 := by
  have := h.a0; have := h.a1; have := h.b0; have := h.b1; have := h.c0; have := h.c1
  unfold regs
  repeat' split
  all_goals simp
  all_goals omega

/-- The set of what an instruction reads. -/
theorem reads_ok {i : Ins} (h : InsOk i) : ∃ l n, g43_flow_Reads 1000 i = some l ∧ g42_live_set 1000 l = some n ∧ U n ∧ ∀ r : Nat, bt n r = rd i r := by
  have h1 := regs_len i
  have h2 : (sortI (regs i)).length = (regs i).length := by simp [sortI]
  have h3 := compact_len (sortI (regs i))
  have h4 : (nonzero (compactI (sortI (regs i)))).length ≤ (compactI (sortI (regs i))).length := List.length_filter_le _ _
  have hm : ∀ x, x ∈ nonzero (compactI (sortI (regs i))) ↔ x ∈ regs i ∧ x ≠ 0 := by
    intro x
    simp only [nonzero, List.mem_filter, mem_compact (zs := sortI (regs i)) (by omega)]
    simp [sortI]
  obtain ⟨n, n1, n2, n3⟩ := setOf_ok (nonzero (compactI (sortI (regs i)))) (by omega) (fun x hx => regs_in h x ((hm x).1 hx).1)
  refine ⟨_, n, ?_, n1, n2, fun r => ?_⟩
  · simp only [g43_flow_Reads, regs_ok 1000 h, Option.bind_some]
    rw [gd_t (by omega), gd_t (by omega), gd_t (by omega)]
  · rw [Bool.eq_iff_iff, n3, hm, mem_regs]

theorem all_bt : U 65534 ∧ ∀ r : Nat, bt 65534 r = decide (1 ≤ r ∧ r < 16) := by
  refine ⟨⟨by decide, by decide⟩, fun r => ?_⟩
  rcases Nat.lt_or_ge r 16 with hr | hr
  · have : r = 0 ∨ r = 1 ∨ r = 2 ∨ r = 3 ∨ r = 4 ∨ r = 5 ∨ r = 6 ∨ r = 7 ∨ r = 8 ∨ r = 9 ∨ r = 10 ∨ r = 11 ∨ r = 12 ∨ r = 13 ∨ r = 14 ∨ r = 15 := by omega
    rcases this with h | h | h | h | h | h | h | h | h | h | h | h | h | h | h | h <;> subst h <;> rfl
  · rw [bt_hi ⟨by decide, by decide⟩ hr]
    simp; omega

/-- Is register r live ahead of an instruction, if it is (or isn't) behind it? -/
def bef (i : Ins) (r : Nat) (x : Bool) : Bool := if kind i = 4 then decide (1 ≤ r ∧ r < 16) else (x && decide ((r : Int) ≠ wr i)) || rd i r

theorem kind4 {i : Ins} (h : InsOk i) : kind i = 4 ↔ i.Op = 20 := by
  unfold kind
  rcases op26 h with e | e | e | e | e | e | e | e | e | e | e | e | e | e | e | e | e | e | e | e | e | e | e | e | e | e <;> rw [e] <;> decide

theorem fbefore_ok {o : Op'} (h : InsOk o.Ins) {a : Int} (ha : U a) : ∃ n, g35_live_Before 1000 o a = some n ∧ U n ∧ ∀ r : Nat, bt n r = bef o.Ins r (bt a r) := by
  obtain ⟨l, s, l1, l2, l3, l4⟩ := reads_ok h
  obtain ⟨w1, w2, w3⟩ := wr_in h
  unfold g35_live_Before
  simp only [fkind_ok 1000 h, Option.bind_some]
  by_cases hk : kind o.Ins = 4
  · have e : (kind o.Ins == 4) = true := by rw [hk]; rfl
    rw [e, cond_true]
    exact ⟨_, rfl, all_bt.1, fun r => by rw [all_bt.2, bef, if_pos hk]⟩
  · have e : (kind o.Ins == 4) = false := by simp [hk]
    rw [e, cond_false]
    simp only [fwrites_ok 1000 h, Option.bind_some, l1, l2]
    by_cases hw : 0 < wr o.Ins
    · rw [dt (show wr o.Ins > 0 from hw), cond_true, gd_t (by omega), shift_eq (by omega) w2]
      have hk16 : (wr o.Ins).toNat < 16 := by omega
      obtain ⟨q1, q2⟩ := andNot_bt ha hk16
      obtain ⟨p1, p2⟩ := or_bt q1 l3
      refine ⟨_, rfl, p1, fun r => ?_⟩
      rw [p2, q2, l4, bef, if_neg hk]
      congr 2
      rw [decide_eq_decide]
      omega
    · rw [df (show ¬ wr o.Ins > 0 from hw), cond_false]
      obtain ⟨p1, p2⟩ := or_bt ha l3
      refine ⟨_, rfl, p1, fun r => ?_⟩
      rw [p2, l4, bef, if_neg hk, dt (show (r : Int) ≠ wr o.Ins by omega), Bool.and_true]

theorem rbefore_ok (K : Nat) {o : Op'} (h : InsOk o.Ins) {r : Nat} (h1 : 1 ≤ r) (h2 : r < 16) (x : Bool) : g47_ref19_before K o (r : Int) x = some (bef o.Ins r x) := by
  unfold g47_ref19_before
  simp only [rreads_ok, rwrites_ok, Option.bind_some, cond_some]
  unfold bef
  by_cases hk : o.Ins.Op = 20
  · rw [if_pos ((kind4 h).2 hk), hk, dt ⟨h1, h2⟩]; rfl
  · have e : (o.Ins.Op == 20) = false := by simp [hk]
    rw [if_neg (fun x => hk ((kind4 h).1 x)), e]
    simp only [cond_false]
    cases hr : rd o.Ins (r : Int) <;> cases x
    · rfl
    · simp only [Bool.not_false, Bool.true_and, cond_true, Option.bind_some, cond_false, Bool.or_false]
      congr 1
      by_cases e : wr o.Ins = (r : Int)
      · rw [e]; simp
      · rw [bne_iff_ne.2 e, dt (Ne.symm e)]
    · rfl
    · simp

/-- Is register r live ahead of an end, with X at the blocks' beginnings? -/
def endB (t : Term) (r : Nat) (X : Nat → Bool) : Bool :=
  if t.Kind = 1 then X t.To.toNat
  else if t.Kind = 2 then X t.To.toNat || X t.Else.toNat || rd ⟨t.Op, t.A, t.B, 0, 0⟩ r
  else if t.Kind = 3 ∧ t.Ins.Op ≠ 21 then rd t.Ins r else decide (1 ≤ r ∧ r < 16)

theorem fend_ok {t : Term} {X : List Int} (h : TermR t X.length) (hX : ∀ j, j < X.length → U (X.getD j 0)) : ∃ n, g33_live_end 1000 t X = some n ∧ U n ∧ ∀ r : Nat, bt n r = endB t r (fun j => bt (X.getD j 0) r) := by
  unfold g33_live_end
  simp only [TermR] at h
  rcases h with h | h | h | h
  · obtain ⟨hk, _, _, _, _, _, h1, h2⟩ := h
    have e : (t.Kind == 1) = true := by rw [hk]; rfl
    rw [e, cond_true, gd_t ⟨h1, h2⟩]
    exact ⟨_, rfl, hX _ (by omega), fun r => by rw [endB, if_pos hk]⟩
  · obtain ⟨hk, _⟩ := h
    simp only [hk, endB]
    exact ⟨_, rfl, all_bt.1, fun r => by rw [all_bt.2]; rfl⟩
  · obtain ⟨hk, _, _, _, _, _, hR, _⟩ := h
    obtain ⟨l, s, l1, l2, l3, l4⟩ := reads_ok hR.ok
    simp only [hk, endB]
    by_cases h21 : t.Ins.Op = 21
    · have e : (t.Ins.Op != 21) = false := by rw [h21]; rfl
      simp only [e]
      exact ⟨_, rfl, all_bt.1, fun r => by rw [all_bt.2, if_neg (by decide), if_neg (by decide), if_neg (fun h => h.2 h21)]⟩
    · have e : (t.Ins.Op != 21) = true := bne_iff_ne.2 h21
      simp only [e, l1, l2, Option.bind_some]
      exact ⟨_, rfl, l3, fun r => by rw [l4, if_neg (by decide), if_neg (by decide), if_pos ⟨trivial, h21⟩]⟩
  · obtain ⟨hk, _, o1, o2, a1, a2, b1, b2, h1, h2, h3, h4⟩ := h
    have hi : InsOk ⟨t.Op, t.A, t.B, 0, 0⟩ := ⟨by simp only; omega, by simp only; omega, a1, by simp only; omega, b1, by simp only; omega, by simp, by simp⟩
    obtain ⟨l, s, l1, l2, l3, l4⟩ := reads_ok hi
    have e1 : (t.Kind == 1) = false := by rw [hk]; rfl
    have e2 : (t.Kind == 2) = true := by rw [hk]; rfl
    rw [e1, e2]
    simp only [cond_false, cond_true]
    rw [gd_t ⟨h1, h2⟩, gd_t ⟨h3, h4⟩]
    simp only [l1, l2, Option.bind_some]
    obtain ⟨p1, p2⟩ := or_bt (hX t.To.toNat (by omega)) (hX t.Else.toNat (by omega))
    obtain ⟨q1, q2⟩ := or_bt p1 l3
    exact ⟨_, rfl, q1, fun r => by rw [q2, p2, l4, endB, if_neg (by omega), if_pos hk]⟩

theorem rend_ok (K : Nat) {t : Term} {X : List Bool} (h : TermR t X.length) {r : Nat} (hr1 : 1 ≤ r) (hr2 : r < 16) : g45_ref19_end K t (r : Int) X = some (endB t r (fun j => X.getD j false)) := by
  unfold g45_ref19_end
  simp only [TermR] at h
  rcases h with h | h | h | h
  · obtain ⟨hk, _, _, _, _, _, h1, h2⟩ := h
    have e : (t.Kind == 1) = true := by rw [hk]; rfl
    rw [e, cond_true, gd_t ⟨h1, h2⟩, endB, if_pos hk]
  · obtain ⟨hk, _⟩ := h
    simp only [hk, endB]
    rw [if_neg (by decide), if_neg (by decide), if_neg (fun h => by cases h.1), dt ⟨hr1, hr2⟩]
    rfl
  · obtain ⟨hk, _, _, _, _, _, hR, _⟩ := h
    simp only [hk, endB]
    by_cases h21 : t.Ins.Op = 21
    · have e : (t.Ins.Op != 21) = false := by rw [h21]; rfl
      rw [e, if_neg (by decide), if_neg (by decide), if_neg (fun h => h.2 h21), dt ⟨hr1, hr2⟩]
      rfl
    · have e : (t.Ins.Op != 21) = true := bne_iff_ne.2 h21
      rw [e, if_neg (by decide), if_neg (by decide), if_pos ⟨trivial, h21⟩]
      simp only [rreads_ok, Option.bind_some]
      rfl
  · obtain ⟨hk, _, o1, o2, a1, a2, b1, b2, h1, h2, h3, h4⟩ := h
    have e1 : (t.Kind == 1) = false := by rw [hk]; rfl
    have e2 : (t.Kind == 2) = true := by rw [hk]; rfl
    rw [e1, e2]
    simp only [cond_false, cond_true]
    rw [gd_t ⟨h1, h2⟩, gd_t (fun _ => ⟨h3, h4⟩), endB, if_neg (by omega), if_pos hk]
    congr 1
    have : rd ⟨t.Op, t.A, t.B, 0, 0⟩ (r : Int) = (t.A == (r : Int) || t.B == (r : Int)) := by
      unfold rd
      simp only
      grind
    rw [this]
    cases X.getD t.To.toNat false <;> cases X.getD t.Else.toNat false <;> cases (t.A == (r : Int)) <;> cases (t.B == (r : Int)) <;> rfl
end Go.Proofs.Ytoooalfhjcfinaa.T
