/- A part of the proofs of this seat: what functions of the program compute, and what follows from it; without conditions. -/
import Derived.Test.YtoooalfhjcfinaaV2

namespace Go.Proofs.Ytoooalfhjcfinaa.T
open Go.Abs
set_option linter.unusedVariables false
set_option linter.unusedSimpArgs false

theorem wi {n : Int} (h : -9223372036854775808 ≤ n) (h' : n ≤ 9223372036854775807) : IntKind.i64.wrap n = n := by
  rw [IntKind.wrap_i64]; omega
theorem wsucc {n m : Nat} (h : n < m) (hm : m ≤ 4611686018427387904) : IntKind.i64.wrap ((n : Int) + 1) = ((n + 1 : Nat) : Int) := by
  rw [wi (by omega) (by omega)]; omega
theorem gd_t {α : Type} {p : Prop} [Decidable p] {x : Option α} (h : p) : gd p x = x := by unfold gd; rw [if_pos h]
theorem dt {p : Prop} [Decidable p] (h : p) : decide p = true := decide_eq_true h
theorem df {p : Prop} [Decidable p] (h : ¬ p) : decide p = false := decide_eq_false h

/-- What is said of a right instruction. -/
structure InsOk (i : Ins) : Prop where
  lo : 0 ≤ i.Op
  hi : i.Op ≤ 25
  a0 : 0 ≤ i.A
  a1 : i.A ≤ 15
  b0 : 0 ≤ i.B
  b1 : i.B ≤ 15
  c0 : 0 ≤ i.C
  c1 : i.C ≤ 15

theorem cond_some {α : Type} {c : Bool} {x y : α} : (bif c then some x else some y) = some (bif c then x else y) := by cases c <;> rfl

theorem right_ok (K : Nat) (i : Ins) : ∃ b, g41_ref02_Right K i = some b ∧ (b = true → InsOk i) := by
  simp only [g41_ref02_Right, g48_ref02_three, g49_ref02_reg, g50_ref02_near, g51_ref02_branch, g52_ref02_one, g53_ref02_far, Option.bind_some, cond_some]
  refine ⟨_, rfl, fun h => ?_⟩
  simp only [Bool.cond_eq_ite] at h
  constructor <;> grind (splits := 60)

def kinds : List Int := [5, 0, 0, 0, 0, 0, 0, 0, 0, 0, 0, 1, 1, 1, 1, 2, 2, 2, 2, 3, 4, 5, 1, 1, 0, 5]
theorem kind_ok (K : Nat) {i : Ins} (h : InsOk i) : g39_ref03_Kind K i = some (kinds.getD i.Op.toNat 0) := by
  have := h.lo; have := h.hi
  unfold g39_ref03_Kind
  rw [gd_t (by simp; omega)]
  rfl

theorem op_ok (K : Nat) (o : Op') (a1 a2 : Int) : ∃ b, g30_ref16_op K o a1 a2 = some b ∧ (b = true → InsOk o.Ins) := by
  obtain ⟨b1, h1, f1⟩ := right_ok K o.Ins
  unfold g30_ref16_op
  rw [h1]
  simp only [Option.bind_some]
  cases b1 with
  | false => exact ⟨false, rfl, fun h => by cases h⟩
  | true =>
    have f := f1 rfl
    rw [kind_ok K f]
    simp only [Option.bind_some, Bool.not_true, cond_false, cond_some]
    exact ⟨_, rfl, fun _ => f⟩

/-- What is said of an end. -/
structure TermOk (t : Term) (n : Nat) : Prop where
  to1 : t.Kind = 1 → 0 ≤ t.To ∧ t.To < n
  to2 : t.Kind = 2 → 0 ≤ t.To ∧ t.To < n ∧ 0 ≤ t.Else ∧ t.Else < n

theorem term_ok (K : Nat) (t : Term) (n : Nat) (a2 : Int) : ∃ b, g31_ref16_term K t (n : Int) a2 = some b ∧ (b = true → TermOk t n) := by
  unfold g31_ref16_term
  obtain ⟨b1, h1, f1⟩ := right_ok K t.Ins
  simp only [h1, cond_some, Option.bind_some]
  cases b1 with
  | false =>
    simp only [Option.bind_some, cond_some, cond_false, Bool.cond_false_right, Bool.and_false, cond_some]
    refine ⟨_, rfl, fun h => ?_⟩
    simp only [Bool.cond_eq_ite] at h
    constructor <;> grind (splits := 60)
  | true =>
    rw [kind_ok K (f1 rfl)]
    simp only [Option.bind_some, cond_some]
    refine ⟨_, rfl, fun h => ?_⟩
    simp only [Bool.cond_eq_ite] at h
    constructor <;> grind (splits := 60)
end Go.Proofs.Ytoooalfhjcfinaa.T

namespace Go.Proofs.Ytoooalfhjcfinaa.T
open Go.Abs
set_option linter.unusedVariables false
set_option linter.unusedSimpArgs false

theorem right_l1 (K : Nat) (g : Graph) (a1 a2 : Int) {i : Nat} (hi : i < g.Blocks.length) (hm : (g.Blocks.getD i zBlock).Ops.length ≤ 4611686018427387904) : ∀ (k j : Nat), (g.Blocks.getD i zBlock).Ops.length < k + j → j ≤ (g.Blocks.getD i zBlock).Ops.length →
    ∃ o, g19_ref16_Right.l1 K g a1 a2 (i : Int) k (j : Int) = some o ∧ (o = .inr () → ∀ m, j ≤ m → m < (g.Blocks.getD i zBlock).Ops.length → InsOk ((g.Blocks.getD i zBlock).Ops.getD m zOp).Ins)
  | 0, j, h, hl => by omega
  | k + 1, j, h, hl => by
    have hI : 0 ≤ (i : Int) ∧ (i : Int) < (g.Blocks.length : Int) := by omega
    simp only [g19_ref16_Right.l1, gd_t hI, Int.toNat_natCast]
    by_cases hj : j < (g.Blocks.getD i zBlock).Ops.length
    · have hJ : 0 ≤ (j : Int) ∧ (j : Int) < ((g.Blocks.getD i zBlock).Ops.length : Int) := by omega
      obtain ⟨b, hb, fb⟩ := op_ok K ((g.Blocks.getD i zBlock).Ops.getD j zOp) a1 a2
      rw [dt (by omega), cond_true, gd_t hJ, hb]
      simp only [Option.bind_some]
      cases b with
      | false => exact ⟨_, rfl, fun h => by cases h⟩
      | true =>
        simp only [Bool.not_true, cond_false]
        rw [wsucc hj hm]
        obtain ⟨o, ho, fo⟩ := right_l1 K g a1 a2 hi hm k (j + 1) (by omega) (by omega)
        refine ⟨o, ho, fun h m h1 h2 => ?_⟩
        rcases Nat.lt_or_ge j m with h3 | h3
        · exact fo h m h3 h2
        · have : m = j := by omega
          subst this; exact fb rfl
    · rw [df (by omega), cond_false]
      exact ⟨_, rfl, fun _ m h1 h2 => by omega⟩

theorem right_l0 (K : Nat) (g : Graph) (a1 a2 : Int) (hn : g.Blocks.length ≤ 4611686018427387904) (hm : ∀ i, i < g.Blocks.length → (g.Blocks.getD i zBlock).Ops.length < K ∧ (g.Blocks.getD i zBlock).Ops.length ≤ 4611686018427387904) : ∀ (k i : Nat), g.Blocks.length < k + i → i ≤ g.Blocks.length →
    ∃ o, g19_ref16_Right.l0 K g a1 a2 k (i : Int) = some o ∧ (o = .inr () → ∀ j, i ≤ j → j < g.Blocks.length → TermOk (g.Blocks.getD j zBlock).End g.Blocks.length ∧ ∀ m, m < (g.Blocks.getD j zBlock).Ops.length → InsOk ((g.Blocks.getD j zBlock).Ops.getD m zOp).Ins)
  | 0, i, h, hl => by omega
  | k + 1, i, h, hl => by
    simp only [g19_ref16_Right.l0, Int.toNat_natCast]
    by_cases hi : i < g.Blocks.length
    · have hI : 0 ≤ (i : Int) ∧ (i : Int) < (g.Blocks.length : Int) := by omega
      obtain ⟨o1, ho1, f1⟩ := right_l1 K g a1 a2 hi (hm i hi).2 K 0 (by have := (hm i hi).1; omega) (by omega)
      have ho1 : g19_ref16_Right.l1 K g a1 a2 (i : Int) K 0 = some o1 := ho1
      rw [dt (by omega), cond_true, ho1]
      simp only [Option.bind_some]
      cases o1 with
      | inl u => exact ⟨_, rfl, fun h => by cases h⟩
      | inr u =>
        obtain ⟨b, hb, fb⟩ := term_ok K (g.Blocks.getD i zBlock).End g.Blocks.length a1
        simp only [gd_t hI, hb, Option.bind_some]
        cases b with
        | false => exact ⟨_, rfl, fun h => by cases h⟩
        | true =>
          simp only [Bool.not_true, cond_false]
          rw [wsucc hi hn]
          obtain ⟨o, ho, fo⟩ := right_l0 K g a1 a2 hn hm k (i + 1) (by omega) (by omega)
          refine ⟨o, ho, fun h j h1 h2 => ?_⟩
          rcases Nat.lt_or_ge i j with h3 | h3
          · exact fo h j h3 h2
          · have : j = i := by omega
            subst this
            exact ⟨fb rfl, fun m hm => f1 rfl m (by omega) hm⟩
    · rw [df (by omega), cond_false]
      exact ⟨_, rfl, fun _ m h1 h2 => by omega⟩

theorem few_l0 (K : Nat) (g : Graph) : ∀ (k i : Nat), 300 < k + i → i ≤ 300 → i ≤ g.Blocks.length →
    ∃ o, g22_ref16_Few.l0 K g k (i : Int) = some o ∧ (o = .inr () → ∀ j, i ≤ j → j < g.Blocks.length → j < 300 → (g.Blocks.getD j zBlock).Ops.length ≤ 300)
  | 0, i, h, h3, hl => by omega
  | k + 1, i, h, h3, hl => by
    simp only [g22_ref16_Few.l0, Int.toNat_natCast]
    by_cases hi : i < g.Blocks.length ∧ i < 300
    · have hI : 0 ≤ (i : Int) ∧ (i : Int) < (g.Blocks.length : Int) := by omega
      rw [dt (by omega), dt (by omega), cond_true, cond_true, gd_t hI]
      by_cases hb : (g.Blocks.getD i zBlock).Ops.length > 300
      · rw [dt (by omega), cond_true]; exact ⟨_, rfl, fun h => by cases h⟩
      · rw [df (by omega), cond_false, wsucc hi.2 (by omega)]
        obtain ⟨o, ho, fo⟩ := few_l0 K g k (i + 1) (by omega) (by omega) (by omega)
        refine ⟨o, ho, fun h j h1 h2 h4 => ?_⟩
        rcases Nat.lt_or_ge i j with h5 | h5
        · exact fo h j h5 h2 h4
        · have : j = i := by omega
          subst this; omega
    · have : (bif decide ((i : Int) < (g.Blocks.length : Int)) then decide ((i : Int) < (300 : Int)) else false) = false := by
        by_cases h1 : i < g.Blocks.length
        · rw [dt (by omega), df (by omega)]; rfl
        · rw [df (by omega)]; rfl
      rw [this, cond_false]
      exact ⟨_, rfl, fun _ j h1 h2 h4 => by omega⟩

/-- How many instructions a graph has. -/
def count (l : List Block) : Nat := (l.map fun b => b.Ops.length).sum

theorem ops_l0 (K : Nat) (g : Graph) (hc : count g.Blocks ≤ 4611686018427387904) (hn : g.Blocks.length ≤ 4611686018427387904) : ∀ (k i : Nat), g.Blocks.length < k + i → i ≤ g.Blocks.length →
    g20_ref22_Ops.l0 K g k (count (g.Blocks.take i) : Int) (i : Int) = some ((count g.Blocks : Nat) : Int)
  | 0, i, h, hl => by omega
  | k + 1, i, h, hl => by
    simp only [g20_ref22_Ops.l0, Int.toNat_natCast]
    by_cases hi : i < g.Blocks.length
    · have hI : 0 ≤ (i : Int) ∧ (i : Int) < (g.Blocks.length : Int) := by omega
      have hs : count (g.Blocks.take (i + 1)) = count (g.Blocks.take i) + (g.Blocks.getD i zBlock).Ops.length := by
        simp only [count, List.take_add_one, List.map_append, List.sum_append]
        simp [List.getD, hi]
      have hle : count (g.Blocks.take (i + 1)) ≤ count g.Blocks := by
        have : count g.Blocks = count (g.Blocks.take (i + 1)) + count (g.Blocks.drop (i + 1)) := by
          simp only [count]
          rw [← List.sum_append, ← List.map_append, List.take_append_drop]
        omega
      rw [dt (by omega), cond_true, gd_t hI, wi (by omega) (by omega), wsucc hi hn]
      have := ops_l0 K g hc hn k (i + 1) (by omega) (by omega)
      rw [hs] at this
      rw [← this]
      congr 1
    · rw [df (by omega), cond_false]
      have : i = g.Blocks.length := by omega
      rw [this, List.take_length]

/-- What is said of a graph that the laws let in. -/
structure Fine (g : Graph) : Prop where
  pos : 0 < g.Blocks.length
  len : g.Blocks.length ≤ 30
  ops : count g.Blocks ≤ 100
  term : ∀ i, i < g.Blocks.length → TermOk (g.Blocks.getD i zBlock).End g.Blocks.length
  ins : ∀ i, i < g.Blocks.length → ∀ m, m < (g.Blocks.getD i zBlock).Ops.length → InsOk ((g.Blocks.getD i zBlock).Ops.getD m zOp).Ins

theorem count_le (l : List Block) {i : Nat} (h : i < l.length) : (l.getD i zBlock).Ops.length ≤ count l := by
  induction l generalizing i with
  | nil => simp at h
  | cons b r ih =>
    simp only [count, List.map_cons, List.sum_cons] at ih ⊢
    cases i with
    | zero => simp
    | succ i =>
      have := ih (i := i) (by simpa using h)
      simp only [List.getD_cons_succ]
      omega

theorem count_few (l : List Block) (n : Nat) (h : ∀ i, i < l.length → (l.getD i zBlock).Ops.length ≤ n) : count l ≤ l.length * n := by
  induction l with
  | nil => simp [count]
  | cons b r ih =>
    have h0 := h 0 (by simp)
    have h1 := ih fun i hi => by have := h (i + 1) (by simpa using hi); simpa using this
    simp only [count, List.map_cons, List.sum_cons, List.length_cons] at h1 ⊢
    rw [Nat.succ_mul]
    simp at h0
    omega

theorem fine_ok (g : Graph) (hn : g.Blocks.length ≤ maxLen) : ∃ b, g9_law22_fine 1000 g = some b ∧ (b = true → Fine g ∧ count g.Blocks ≤ 60) := by
  simp only [maxLen] at hn
  unfold g9_law22_fine g22_ref16_Few
  obtain ⟨o, ho, fo⟩ := few_l0 1000 g 1000 0 (by omega) (by omega) (by omega)
  have ho : g22_ref16_Few.l0 1000 g 1000 0 = some o := ho
  rw [ho]
  simp only [Option.bind_some]
  cases o with
  | inl u => exact ⟨false, rfl, fun h => by cases h⟩
  | inr u =>
    simp only [Option.bind_some]
    by_cases h30 : g.Blocks.length ≤ 30
    · have hf := fo rfl
      have hops : ∀ i, i < g.Blocks.length → (g.Blocks.getD i zBlock).Ops.length ≤ 300 := fun i hi => hf i (by omega) hi (by omega)
      have hcnt := count_few g.Blocks 300 hops
      have hcnt2 : count g.Blocks ≤ 9000 := by omega
      have h1 := ops_l0 1000 g (by omega) (by omega) 1000 0 (by omega) (by omega)
      have h1 : g20_ref22_Ops.l0 1000 g 1000 0 0 = some ((count g.Blocks : Nat) : Int) := h1
      rw [dt (by omega), dt (by omega)]
      simp only [cond_true, g20_ref22_Ops, h1, Option.bind_some]
      by_cases h60 : count g.Blocks ≤ 60
      · rw [dt (by omega)]
        simp only [cond_true]
        obtain ⟨o2, ho2, f2⟩ := right_l0 1000 g 1000 1000 (by omega) (fun i hi => by have := hops i hi; omega) 1000 0 (by omega) (by omega)
        have ho2 : g19_ref16_Right.l0 1000 g 1000 1000 1000 0 = some o2 := ho2
        unfold g19_ref16_Right
        rw [ho2]
        simp only [Option.bind_some]
        cases o2 with
        | inl u => exact ⟨false, rfl, fun h => by cases h⟩
        | inr u =>
          simp only [Option.bind_some]
          refine ⟨_, rfl, fun h => ?_⟩
          have hp : 0 < g.Blocks.length := by
            have := of_decide_eq_true h
            omega
          exact ⟨⟨hp, h30, by omega, fun i hi => (f2 rfl i (by omega) hi).1, fun i hi => (f2 rfl i (by omega) hi).2⟩, h60⟩
      · rw [df (by omega)]
        exact ⟨false, rfl, fun h => by cases h⟩
    · rw [df (show ¬ (g.Blocks.length : Int) ≤ 30 by omega)]
      refine ⟨false, ?_, fun h => by cases h⟩
      cases decide ((g.Blocks.length : Int) ≤ 200) <;> rfl

theorem awake_ok : g8_law22_awake 1000 = some true := by kernel_rfl
end Go.Proofs.Ytoooalfhjcfinaa.T

namespace Go.Proofs.Ytoooalfhjcfinaa.T
open Go.Abs
set_option linter.unusedVariables false
set_option linter.unusedSimpArgs false

/-- Where a block leads on from, in n steps. -/
def thr (g : Graph) : Nat → Int → Int
  | 0, b => b
  | n + 1, b => if 0 < (g.Blocks.getD b.toNat zBlock).Ops.length ∨ (g.Blocks.getD b.toNat zBlock).End.Kind ≠ 1 then b else thr g n (g.Blocks.getD b.toNat zBlock).End.To

theorem thr_in {g : Graph} (hF : Fine g) : ∀ (n : Nat) (b : Int), 0 ≤ b ∧ b < g.Blocks.length → 0 ≤ thr g n b ∧ thr g n b < g.Blocks.length
  | 0, b, h => h
  | n + 1, b, h => by
    simp only [thr]
    split
    · exact h
    · rename_i hc
      have hk : (g.Blocks.getD b.toNat zBlock).End.Kind = 1 := by
        refine Classical.byContradiction fun h => hc (.inr h)
      exact thr_in hF n _ ((hF.term b.toNat (by omega)).to1 hk)

theorem through_l0 (K : Nat) {g : Graph} (hF : Fine g) : ∀ (k x : Nat) (b : Int), 0 ≤ b ∧ b < g.Blocks.length → g.Blocks.length < k + x → x ≤ g.Blocks.length →
    g24_dead_through.l0 K g k b (x : Int) = some (thr g (g.Blocks.length - x) b)
  | 0, x, b, hb, h, hl => by omega
  | k + 1, x, b, hb, h, hl => by
    have hlen := hF.len
    simp only [g24_dead_through.l0]
    by_cases hx : x < g.Blocks.length
    · rw [dt (by omega), cond_true, gd_t hb, show g.Blocks.length - x = (g.Blocks.length - (x + 1)) + 1 by omega]
      simp only [thr]
      by_cases ho : 0 < (g.Blocks.getD b.toNat zBlock).Ops.length
      · rw [dt (show ((g.Blocks.getD b.toNat zBlock).Ops.length : Int) > 0 by omega), cond_true, cond_true, if_pos (.inl ho)]
      · rw [df (show ¬ ((g.Blocks.getD b.toNat zBlock).Ops.length : Int) > 0 by omega), cond_false]
        by_cases hk : (g.Blocks.getD b.toNat zBlock).End.Kind = 1
        · have e : ((g.Blocks.getD b.toNat zBlock).End.Kind != 1) = false := by rw [hk]; rfl
          rw [e, cond_false, wsucc hx (by omega), if_neg (by rintro (h | h); exact ho h; exact h hk)]
          exact through_l0 K hF k (x + 1) _ ((hF.term b.toNat (by omega)).to1 hk) (by omega) (by omega)
        · have e : ((g.Blocks.getD b.toNat zBlock).End.Kind != 1) = true := bne_iff_ne.2 hk
          rw [e, cond_true, if_pos (.inr hk)]
    · rw [df (by omega), cond_false]
      have : x = g.Blocks.length := by omega
      subst this
      simp [thr]

theorem through_ok {K : Nat} (hK : 30 < K) {g : Graph} (hF : Fine g) {b : Int} (hb : 0 ≤ b ∧ b < g.Blocks.length) : g24_dead_through K g b = some (thr g g.Blocks.length b) := by
  have hlen := hF.len
  have := through_l0 K hF K 0 b hb (by omega) (by omega)
  have : g24_dead_through.l0 K g K b 0 = some (thr g g.Blocks.length b) := this
  simp only [g24_dead_through, this, Option.bind_some]

theorem take_getD (l : List Block) {i : Nat} (h : i < l.length) : l.take (i + 1) = l.take i ++ [l.getD i zBlock] := by
  rw [List.take_add_one]
  simp [List.getD, h]

/-- A graph with few blocks, and few instructions. -/
structure Small (g : Graph) : Prop where
  len : g.Blocks.length ≤ 200
  ops : ∀ i, i < g.Blocks.length → (g.Blocks.getD i zBlock).Ops.length ≤ 300
theorem Fine.small {g : Graph} (h : Fine g) : Small g := ⟨by have := h.len; omega, fun i hi => by have := count_le g.Blocks hi; have := h.ops; omega⟩

theorem copied_l0 (K : Nat) {g : Graph} (hF : Small g) : ∀ (k i : Nat), g.Blocks.length < k + i → i ≤ g.Blocks.length →
    g23_dead_copied.l0 K g k (g.Blocks.take i) (i : Int) = some (ByteArray.empty, g.Blocks)
  | 0, i, h, hl => by omega
  | k + 1, i, h, hl => by
    have hlen := hF.len
    simp only [g23_dead_copied.l0, Int.toNat_natCast]
    by_cases hi : i < g.Blocks.length
    · have hI : 0 ≤ (i : Int) ∧ (i : Int) < (g.Blocks.length : Int) := by omega
      have hops := hF.ops i hi
      rw [dt (by omega), cond_true, gd_t hI]
      unfold g32_slices_Clone
      rw [gd_t (by omega)]
      simp only [Option.bind_some]
      rw [gd_t (by simp; omega), wsucc hi (by omega)]
      have := copied_l0 K hF k (i + 1) (by omega) (by omega)
      rw [take_getD _ hi] at this
      exact this
    · rw [df (by omega), cond_false]
      have : i = g.Blocks.length := by omega
      rw [this, List.take_length]

theorem copied_ok {K : Nat} (hK : 200 < K) {g : Graph} (hF : Small g) : g23_dead_copied K g = some g := by
  have hlen := hF.len
  have := copied_l0 K hF K 0 (by omega) (by omega)
  have : g23_dead_copied.l0 K g K [] 0 = some (ByteArray.empty, g.Blocks) := this
  simp only [g23_dead_copied, this, Option.bind_some]

/-- A block, threaded. -/
def thrB (g : Graph) (b : Block) : Block :=
  if b.End.Kind = 2 then
    if thr g g.Blocks.length b.End.To = thr g g.Blocks.length b.End.Else then ⟨b.Ops, ⟨1, 0, 0, 0, thr g g.Blocks.length b.End.To, 0, zIns⟩⟩
    else ⟨b.Ops, ⟨b.End.Kind, b.End.Op, b.End.A, b.End.B, thr g g.Blocks.length b.End.To, thr g g.Blocks.length b.End.Else, b.End.Ins⟩⟩
  else if b.End.Kind = 1 then ⟨b.Ops, ⟨b.End.Kind, b.End.Op, b.End.A, b.End.B, thr g g.Blocks.length b.End.To, b.End.Else, b.End.Ins⟩⟩
  else b

theorem getD_set (l : List Block) {i : Nat} (h : i < l.length) (b : Block) : (l.set i b).getD i zBlock = b := by simp [List.getD, h]

theorem thread_step {g : Graph} {i : Nat} (h : i < g.Blocks.length) :
    ((g.Blocks.take i).map (thrB g) ++ g.Blocks.drop i).length = g.Blocks.length ∧ ((g.Blocks.take i).map (thrB g) ++ g.Blocks.drop i).getD i zBlock = g.Blocks.getD i zBlock ∧
    ((g.Blocks.take i).map (thrB g) ++ g.Blocks.drop i).set i (thrB g (g.Blocks.getD i zBlock)) = (g.Blocks.take (i + 1)).map (thrB g) ++ g.Blocks.drop (i + 1) := by
  have hl : ((g.Blocks.take i).map (thrB g)).length = i := by simp; omega
  refine ⟨by simp; omega, ?_, ?_⟩
  · simp only [List.getD]
    rw [List.getElem?_append_right (by omega), hl]
    simp
  · rw [take_getD _ h, List.map_append, List.set_append, if_neg (by omega), hl, Nat.sub_self, List.append_assoc]
    congr 1
    rw [List.drop_eq_getElem_cons h]
    simp only [List.set_cons_zero, List.map_cons, List.map_nil, List.singleton_append]
    try simp [List.getD, h]

theorem thread_l0 {K : Nat} (hK : 200 < K) {g : Graph} (hF : Fine g) : ∀ (k i : Nat), g.Blocks.length < k + i → i ≤ g.Blocks.length →
    g11_dead_Thread.l0 K g g k ((g.Blocks.take i).map (thrB g) ++ g.Blocks.drop i) (i : Int) = some (ByteArray.empty, g.Blocks.map (thrB g))
  | 0, i, h, hl => by omega
  | k + 1, i, h, hl => by
    have hlen := hF.len
    simp only [g11_dead_Thread.l0, Int.toNat_natCast]
    by_cases hi : i < g.Blocks.length
    · obtain ⟨s1, s2, s3⟩ := thread_step hi
      have ih := thread_l0 hK hF k (i + 1) (by omega) (by omega)
      rw [← s3] at ih
      generalize (g.Blocks.take i).map (thrB g) ++ g.Blocks.drop i = x at s1 s2 ih
      have hI : 0 ≤ (i : Int) ∧ (i : Int) < (x.length : Int) := by omega
      have hx : i < x.length := by omega
      have ht := hF.term i hi
      rw [dt (by omega), cond_true, gd_t hI, wsucc hi (by omega)]
      generalize hb : g.Blocks.getD i zBlock = b at s2 ih ht
      simp only [s2, getD_set _ hx, List.set_set, List.length_set, gd_t hx]
      by_cases h2 : b.End.Kind = 2
      · obtain ⟨t1, t2, t3, t4⟩ := ht.to2 h2
        have e : (b.End.Kind == 2) = true := by simp [h2]
        simp only [e, cond_true, through_ok (show 30 < K by omega) hF ⟨t3, t4⟩, through_ok (show 30 < K by omega) hF ⟨t1, t2⟩, Option.bind_some]
        rw [gd_t (fun _ => hx), gd_t (fun _ => hx)]
        simp only [thrB, h2, if_true] at ih
        by_cases hq : thr g g.Blocks.length b.End.To = thr g g.Blocks.length b.End.Else
        · have e2 : (thr g g.Blocks.length b.End.To == thr g g.Blocks.length b.End.Else) = true := by simp [hq]
          rw [if_pos hq] at ih
          rw [e2, cond_true]
          exact ih
        · have e2 : (thr g g.Blocks.length b.End.To == thr g g.Blocks.length b.End.Else) = false := by simp [hq]
          rw [if_neg hq] at ih
          rw [e2, cond_false, h2]
          exact ih
      · have e : (b.End.Kind == 2) = false := by simp [h2]
        simp only [e, cond_false]
        by_cases h1 : b.End.Kind = 1
        · obtain ⟨t1, t2⟩ := ht.to1 h1
          have e1 : (b.End.Kind == 1) = true := by simp [h1]
          simp only [e1, cond_true, through_ok (show 30 < K by omega) hF ⟨t1, t2⟩, Option.bind_some]
          rw [gd_t (fun h => by cases h), gd_t (fun h => by cases h)]
          simp only [thrB, h1] at ih
          rw [h1]
          exact ih
        · have e1 : (b.End.Kind == 1) = false := by simp [h1]
          simp only [e1, cond_false]
          rw [gd_t (fun h => by cases h), gd_t (fun h => by cases h)]
          have et : thrB g b = b := by simp [thrB, h2, h1]
          have es : x.set i b = x := by
            rw [← s2]
            apply List.ext_getElem (by simp)
            intro j q1 q2
            by_cases hj : i = j
            · subst hj; simp [List.getD, hx]
            · simp [hj]
          rw [et, es] at ih
          exact ih
    · rw [df (by omega), cond_false]
      have : i = g.Blocks.length := by omega
      subst this
      simp

/-- A graph, threaded. -/
def threaded (g : Graph) : Graph := ⟨g.Name, g.Keep, g.Leaf, g.Blocks.map (thrB g)⟩

theorem thread_ok {K : Nat} (hK : 200 < K) {g : Graph} (hF : Fine g) : g11_dead_Thread K g = some (threaded g) := by
  have hlen := hF.len
  have := thread_l0 hK hF K 0 (by omega) (by omega)
  have : g11_dead_Thread.l0 K g g K g.Blocks 0 = some (ByteArray.empty, g.Blocks.map (thrB g)) := by simpa using this
  simp only [g11_dead_Thread, copied_ok hK hF.small, Option.bind_some, this]
  rfl
end Go.Proofs.Ytoooalfhjcfinaa.T
