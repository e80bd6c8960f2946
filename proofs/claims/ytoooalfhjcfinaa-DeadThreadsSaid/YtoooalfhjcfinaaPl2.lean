import Derived.Test.YtoooalfhjcfinaaPl1
namespace Go.Proofs.Ytoooalfhjcfinaa.T
open Go.Abs
set_option linter.unusedVariables false
set_option linter.unusedSimpArgs false

theorem right_l1 (K : Nat) (g : Graph) (a1 a2 : Int) {i : Nat} (hi : i < g.Blocks.length) (hm : (g.Blocks.getD i zBlock).Ops.length ≤ 4611686018427387904) : ∀ (k j : Nat), (g.Blocks.getD i zBlock).Ops.length < k + j → j ≤ (g.Blocks.getD i zBlock).Ops.length →
    ∃ o, g19_ref16_Right.l1 K g a1 a2 (i : Int) k (j : Int) = some o ∧ (o = .inr () → ∀ m, j ≤ m → m < (g.Blocks.getD i zBlock).Ops.length → InsOk ((g.Blocks.getD i zBlock).Ops.getD m zOp).Ins)
  | 0, j, h, hl => by omega
  | k + 1, j, h, hl => by
    have hI : 0 ≤ (i : Int) ∧ (i : Int) < (g.Blocks.length : Int) := by omega
    simp only [g19_ref16_Right.l1, gd_t hI, Int.toNat_natCast]
    by_cases hj : j < (g.Blocks.getD i zBlock).Ops.length
    · have hJ : 0 ≤ (j : Int) ∧ (j : Int) < ((g.Blocks.getD i zBlock).Ops.length : Int) := by omega
      obtain ⟨b, hb, fb⟩ := op_ok K ((g.Blocks.getD i zBlock).Ops.getD j zOp) a1 a2
      rw [dt (by omega), cond_true, gd_t hJ, hb]
      simp only [Option.bind_some]
      cases b with
      | false => exact ⟨_, rfl, fun h => by cases h⟩
      | true =>
        simp only [Bool.not_true, cond_false]
        rw [wsucc hj hm]
        obtain ⟨o, ho, fo⟩ := right_l1 K g a1 a2 hi hm k (j + 1) (by omega) (by omega)
        refine ⟨o, ho, fun h m h1 h2 => ?_⟩
        rcases Nat.lt_or_ge j m with h3 | h3
        · exact fo h m h3 h2
        · have : m = j := by omega
          subst this; exact fb rfl
    · rw [df (by omega), cond_false]
      exact ⟨_, rfl, fun _ m h1 h2 => by omega⟩

theorem right_l0 (K : Nat) (g : Graph) (a1 a2 : Int) (hn : g.Blocks.length ≤ 4611686018427387904) (hm : ∀ i, i < g.Blocks.length → (g.Blocks.getD i zBlock).Ops.length < K ∧ (g.Blocks.getD i zBlock).Ops.length ≤ 4611686018427387904) : ∀ (k i : Nat), g.Blocks.length < k + i → i ≤ g.Blocks.length →
    ∃ o, g19_ref16_Right.l0 K g a1 a2 k (i : Int) = some o ∧ (o = .inr () → ∀ j, i ≤ j → j < g.Blocks.length → TermOk (g.Blocks.getD j zBlock).End g.Blocks.length ∧ ∀ m, m < (g.Blocks.getD j zBlock).Ops.length → InsOk ((g.Blocks.getD j zBlock).Ops.getD m zOp).Ins)
  | 0, i, h, hl => by omega
  | k + 1, i, h, hl => by
    simp only [g19_ref16_Right.l0, Int.toNat_natCast]
    by_cases hi : i < g.Blocks.length
    · have hI : 0 ≤ (i : Int) ∧ (i : Int) < (g.Blocks.length : Int) := by omega
      obtain ⟨o1, ho1, f1⟩ := right_l1 K g a1 a2 hi (hm i hi).2 K 0 (by have := (hm i hi).1; omega) (by omega)
      have ho1 : g19_ref16_Right.l1 K g a1 a2 (i : Int) K 0 = some o1 := ho1
      rw [dt (by omega), cond_true, ho1]
      simp only [Option.bind_some]
      cases o1 with
      | inl u => exact ⟨_, rfl, fun h => by cases h⟩
      | inr u =>
        obtain ⟨b, hb, fb⟩ := term_ok K (g.Blocks.getD i zBlock).End g.Blocks.length a1
        simp only [gd_t hI, hb, Option.bind_some]
        cases b with
        | false => exact ⟨_, rfl, fun h => by cases h⟩
        | true =>
          simp only [Bool.not_true, cond_false]
          rw [wsucc hi hn]
          obtain ⟨o, ho, fo⟩ := right_l0 K g a1 a2 hn hm k (i + 1) (by omega) (by omega)
          refine ⟨o, ho, fun h j h1 h2 => ?_⟩
          rcases Nat.lt_or_ge i j with h3 | h3
          · exact fo h j h3 h2
          · have : j = i := by omega
            subst this
            exact ⟨fb rfl, fun m hm => f1 rfl m (by omega) hm⟩
    · rw [df (by omega), cond_false]
      exact ⟨_, rfl, fun _ m h1 h2 => by omega⟩

theorem few_l0 (K : Nat) (g : Graph) : ∀ (k i : Nat), 300 < k + i → i ≤ 300 → i ≤ g.Blocks.length →
    ∃ o, g22_ref16_Few.l0 K g k (i : Int) = some o ∧ (o = .inr () → ∀ j, i ≤ j → j < g.Blocks.length → j < 300 → (g.Blocks.getD j zBlock).Ops.length ≤ 300)
  | 0, i, h, h3, hl => by omega
  | k + 1, i, h, h3, hl => by
    simp only [g22_ref16_Few.l0, Int.toNat_natCast]
    by_cases hi : i < g.Blocks.length ∧ i < 300
    · have hI : 0 ≤ (i : Int) ∧ (i : Int) < (g.Blocks.length : Int) := by omega
      rw [dt (by omega), dt (by omega), cond_true, cond_true, gd_t hI]
      by_cases hb : (g.Blocks.getD i zBlock).Ops.length > 300
      · rw [dt (by omega), cond_true]; exact ⟨_, rfl, fun h => by cases h⟩
      · rw [df (by omega), cond_false, wsucc hi.2 (by omega)]
        obtain ⟨o, ho, fo⟩ := few_l0 K g k (i + 1) (by omega) (by omega) (by omega)
        refine ⟨o, ho, fun h j h1 h2 h4 => ?_⟩
        rcases Nat.lt_or_ge i j with h5 | h5
        · exact fo h j h5 h2 h4
        · have : j = i := by omega
          subst this; omega
    · have : (bif decide ((i : Int) < (g.Blocks.length : Int)) then decide ((i : Int) < (300 : Int)) else false) = false := by
        by_cases h1 : i < g.Blocks.length
        · rw [dt (by omega), df (by omega)]; rfl
        · rw [df (by omega)]; rfl
      rw [this, cond_false]
      exact ⟨_, rfl, fun _ j h1 h2 h4 => by omega⟩

/-- How many instructions a graph has. -/
def count (l : List Block) : Nat := (l.map fun b => b.Ops.length).sum

theorem ops_l0 (K : Nat) (g : Graph) (hc : count g.Blocks ≤ 4611686018427387904) (hn : g.Blocks.length ≤ 4611686018427387904) : ∀ (k i : Nat), g.Blocks.length < k + i → i ≤ g.Blocks.length →
    g20_ref22_Ops.l0 K g k (count (g.Blocks.take i) : Int) (i : Int) = some ((count g.Blocks : Nat) : Int)
  | 0, i, h, hl => by omega
  | k + 1, i, h, hl => by
    simp only [g20_ref22_Ops.l0, Int.toNat_natCast]
    by_cases hi : i < g.Blocks.length
    · have hI : 0 ≤ (i : Int) ∧ (i : Int) < (g.Blocks.length : Int) := by omega
      have hs : count (g.Blocks.take (i + 1)) = count (g.Blocks.take i) + (g.Blocks.getD i zBlock).Ops.length := by
        simp only [count, List.take_add_one, List.map_append, List.sum_append]
        simp [List.getD, hi]
      have hle : count (g.Blocks.take (i + 1)) ≤ count g.Blocks := by
        have : count g.Blocks = count (g.Blocks.take (i + 1)) + count (g.Blocks.drop (i + 1)) := by
          simp only [count]
          rw [← List.sum_append, ← List.map_append, List.take_append_drop]
        omega
      rw [dt (by omega), cond_true, gd_t hI, wi (by omega) (by omega), wsucc hi hn]
      have := ops_l0 K g hc hn k (i + 1) (by omega) (by omega)
      rw [hs] at this
      rw [← this]
      congr 1
    · rw [df (by omega), cond_false]
      have : i = g.Blocks.length := by omega
      rw [this, List.take_length]

/-- What is said of a graph that the laws let in. -/
structure Fine (g : Graph) : Prop where
  pos : 0 < g.Blocks.length
  len : g.Blocks.length ≤ 30
  ops : count g.Blocks ≤ 60
  term : ∀ i, i < g.Blocks.length → TermOk (g.Blocks.getD i zBlock).End g.Blocks.length
  ins : ∀ i, i < g.Blocks.length → ∀ m, m < (g.Blocks.getD i zBlock).Ops.length → InsOk ((g.Blocks.getD i zBlock).Ops.getD m zOp).Ins

theorem count_le (l : List Block) {i : Nat} (h : i < l.length) : (l.getD i zBlock).Ops.length ≤ count l := by
  induction l generalizing i with
  | nil => simp at h
  | cons b r ih =>
    simp only [count, List.map_cons, List.sum_cons] at ih ⊢
    cases i with
    | zero => simp
    | succ i =>
      have := ih (i := i) (by simpa using h)
      simp only [List.getD_cons_succ]
      omega

theorem count_few (l : List Block) (n : Nat) (h : ∀ i, i < l.length → (l.getD i zBlock).Ops.length ≤ n) : count l ≤ l.length * n := by
  induction l with
  | nil => simp [count]
  | cons b r ih =>
    have h0 := h 0 (by simp)
    have h1 := ih fun i hi => by have := h (i + 1) (by simpa using hi); simpa using this
    simp only [count, List.map_cons, List.sum_cons, List.length_cons] at h1 ⊢
    rw [Nat.succ_mul]
    simp at h0
    omega

theorem fine_ok (g : Graph) (hn : g.Blocks.length ≤ maxLen) : ∃ b, g9_law22_fine 1000 g = some b ∧ (b = true → Fine g) := by
  simp only [maxLen] at hn
  unfold g9_law22_fine g22_ref16_Few
  obtain ⟨o, ho, fo⟩ := few_l0 1000 g 1000 0 (by omega) (by omega) (by omega)
  have ho : g22_ref16_Few.l0 1000 g 1000 0 = some o := ho
  rw [ho]
  simp only [Option.bind_some]
  cases o with
  | inl u => exact ⟨false, rfl, fun h => by cases h⟩
  | inr u =>
    simp only [Option.bind_some]
    by_cases h30 : g.Blocks.length ≤ 30
    · have hf := fo rfl
      have hops : ∀ i, i < g.Blocks.length → (g.Blocks.getD i zBlock).Ops.length ≤ 300 := fun i hi => hf i (by omega) hi (by omega)
      have hcnt := count_few g.Blocks 300 hops
      have hcnt2 : count g.Blocks ≤ 9000 := by omega
      have h1 := ops_l0 1000 g (by omega) (by omega) 1000 0 (by omega) (by omega)
      have h1 : g20_ref22_Ops.l0 1000 g 1000 0 0 = some ((count g.Blocks : Nat) : Int) := h1
      rw [dt (by omega), dt (by omega)]
      simp only [cond_true, g20_ref22_Ops, h1, Option.bind_some]
      by_cases h60 : count g.Blocks ≤ 60
      · rw [dt (by omega)]
        simp only [cond_true]
        obtain ⟨o2, ho2, f2⟩ := right_l0 1000 g 1000 1000 (by omega) (fun i hi => by have := hops i hi; omega) 1000 0 (by omega) (by omega)
        have ho2 : g19_ref16_Right.l0 1000 g 1000 1000 1000 0 = some o2 := ho2
        unfold g19_ref16_Right
        rw [ho2]
        simp only [Option.bind_some]
        cases o2 with
        | inl u => exact ⟨false, rfl, fun h => by cases h⟩
        | inr u =>
          simp only [Option.bind_some]
          refine ⟨_, rfl, fun h => ?_⟩
          have hp : 0 < g.Blocks.length := by
            have := of_decide_eq_true h
            omega
          exact ⟨hp, h30, h60, fun i hi => (f2 rfl i (by omega) hi).1, fun i hi => (f2 rfl i (by omega) hi).2⟩
      · rw [df (by omega)]
        exact ⟨false, rfl, fun h => by cases h⟩
    · rw [df (show ¬ (g.Blocks.length : Int) ≤ 30 by omega)]
      refine ⟨false, ?_, fun h => by cases h⟩
      cases decide ((g.Blocks.length : Int) ≤ 200) <;> rfl

theorem awake_ok : g8_law22_awake 1000 = some true := by kernel_rfl
end Go.Proofs.Ytoooalfhjcfinaa.T
