import Derived.Test.YtoooalfhjcfinaaPl3
namespace Go.Proofs.Ytoooalfhjcfinaa.T
open Go.Abs
set_option linter.unusedVariables false
set_option linter.unusedSimpArgs false

theorem pigeon : ∀ (n : Nat) (f : Nat → Nat), (∀ k, k ≤ n → f k < n) → ∃ i j, i < j ∧ j ≤ n ∧ f i = f j
  | 0, f, h => absurd (h 0 (Nat.le_refl _)) (Nat.not_lt_zero _)
  | n + 1, f, h => by
    by_cases he : ∃ i, i ≤ n ∧ f i = f (n + 1)
    · obtain ⟨i, hi, e⟩ := he
      exact ⟨i, n + 1, by omega, by omega, e⟩
    · have hne : ∀ i, i ≤ n → f i ≠ f (n + 1) := fun i hi e => he ⟨i, hi, e⟩
      obtain ⟨i, j, hij, hj, e⟩ := pigeon n (fun k => if f k = n then f (n + 1) else f k) (fun k hk => by
        have h1 := h k (by omega)
        have h2 := h (n + 1) (by omega)
        have h3 := hne k hk
        split <;> omega)
      refine ⟨i, j, hij, by omega, ?_⟩
      have h1 := hne i (by omega)
      have h2 := hne j (by omega)
      split at e <;> split at e <;> omega

/-- Does a block lead on, and nothing else? -/
def Lead (g : Graph) (b : Int) : Prop := ¬ 0 < (g.Blocks.getD b.toNat zBlock).Ops.length ∧ (g.Blocks.getD b.toNat zBlock).End.Kind = 1
def step (g : Graph) (b : Int) : Int := (g.Blocks.getD b.toNat zBlock).End.To
def iter (g : Graph) : Nat → Int → Int
  | 0, b => b
  | n + 1, b => iter g n (step g b)

theorem iter_add (g : Graph) : ∀ (n m : Nat) (b : Int), iter g (n + m) b = iter g m (iter g n b)
  | 0, m, b => by simp [iter]
  | n + 1, m, b => by rw [show n + 1 + m = (n + m) + 1 by omega]; exact iter_add g n m _

theorem thr_lead (g : Graph) : ∀ (n : Nat) (b : Int), Lead g (thr g n b) → (∀ j, j ≤ n → Lead g (iter g j b)) ∧ thr g n b = iter g n b
  | 0, b, h => ⟨fun j hj => by have : j = 0 := by omega
                               subst this; exact h, rfl⟩
  | n + 1, b, h => by
    simp only [thr] at h ⊢
    split at h
    · rename_i hc
      exfalso
      rcases hc with hc | hc
      · exact h.1 hc
      · exact hc h.2
    · rename_i hc
      rw [if_neg hc]
      obtain ⟨h1, h2⟩ := thr_lead g n _ h
      have hb : Lead g b := ⟨fun x => hc (.inl x), Classical.byContradiction fun x => hc (.inr x)⟩
      refine ⟨fun j hj => ?_, h2⟩
      cases j with
      | zero => exact hb
      | succ j => exact h1 j (by omega)

theorem iter_in {g : Graph} (hF : Fine g) : ∀ (n : Nat) (b : Int), 0 ≤ b ∧ b < g.Blocks.length → (∀ j, j < n → Lead g (iter g j b)) → 0 ≤ iter g n b ∧ iter g n b < g.Blocks.length
  | 0, b, hb, _ => hb
  | n + 1, b, hb, h => iter_in hF n _ ((hF.term b.toNat (by omega)).to1 (h 0 (by omega)).2) fun j hj => h (j + 1) (by omega)

/-- Where threading comes to a block that just leads on, one goes round and round. -/
theorem round {g : Graph} (hF : Fine g) {b : Int} (hb : 0 ≤ b ∧ b < g.Blocks.length) (h : Lead g (thr g g.Blocks.length b)) : ∀ m, Lead g (iter g m (thr g g.Blocks.length b)) := by
  obtain ⟨h1, h2⟩ := thr_lead g _ b h
  have hin : ∀ k, k ≤ g.Blocks.length → 0 ≤ iter g k b ∧ iter g k b < g.Blocks.length := fun k hk => iter_in hF k b hb fun j hj => h1 j (by omega)
  obtain ⟨i, j, hij, hj, e⟩ := pigeon g.Blocks.length (fun k => (iter g k b).toNat) (fun k hk => by have := hin k hk; omega)
  have e : iter g i b = iter g j b := by
    have := hin i (by omega); have := hin j (by omega)
    omega
  have all : ∀ m, Lead g (iter g m b) := by
    intro m
    induction m using Nat.strongRecOn with
    | ind m ih =>
      rcases Nat.lt_or_ge g.Blocks.length m with hm | hm
      · have := ih (i + (m - j)) (by omega)
        rw [iter_add, e, ← iter_add, show j + (m - j) = m by omega] at this
        exact this
      · exact h1 m hm
  intro m
  rw [h2, ← iter_add]
  exact all _

theorem law7_l1 (K : Nat) {g : Graph} (hF : Fine g) (r : Graph) (x : Int) : ∀ (k n : Nat) (b : Int), 0 ≤ b ∧ b < g.Blocks.length → (∀ m, Lead g (iter g m b)) → g.Blocks.length < k + n → n ≤ g.Blocks.length →
    g7_law22_DeadThreads.l1 K g r x k b (n : Int) = some (.inr ())
  | 0, n, b, hb, h, hl, hn => by omega
  | k + 1, n, b, hb, h, hl, hn => by
    have hlen := hF.len
    simp only [g7_law22_DeadThreads.l1]
    by_cases hx : n < g.Blocks.length
    · have hto := (hF.term b.toNat (by omega)).to1 (h 0).2
      have h1 : Lead g (step g b) := h 1
      have ih := law7_l1 K hF r x k (n + 1) (step g b) hto (fun m => h (m + 1)) (by omega) (by omega)
      unfold Lead at h1
      simp only [step] at ih h1
      rw [dt (by omega), cond_true, gd_t hb, gd_t hto, df (show ¬ ((g.Blocks.getD ((g.Blocks.getD b.toNat zBlock).End.To).toNat zBlock).Ops.length : Int) > 0 by omega), gd_t (fun _ => hto), h1.2, wsucc hx (by omega)]
      exact ih
    · rw [df (by omega), cond_false]

theorem law7_l0 {g : Graph} (hF : Fine g) : ∀ (k i : Nat), g.Blocks.length < k + i → i ≤ g.Blocks.length → g7_law22_DeadThreads.l0 1000 g (threaded g) k (i : Int) = some (.inr ())
  | 0, i, h, hl => by omega
  | k + 1, i, h, hl => by
    have hlen := hF.len
    have hl' : (threaded g).Blocks.length = g.Blocks.length := by simp [threaded]
    simp only [g7_law22_DeadThreads.l0, Int.toNat_natCast, hl']
    by_cases hi : i < g.Blocks.length
    · have hI : 0 ≤ (i : Int) ∧ (i : Int) < (g.Blocks.length : Int) := by omega
      have hg : (threaded g).Blocks.getD i zBlock = thrB g (g.Blocks.getD i zBlock) := by simp [threaded, List.getD, hi]
      have ih := law7_l0 hF k (i + 1) (by omega) (by omega)
      have ht := hF.term i hi
      rw [dt (by omega), cond_true, gd_t hI, wsucc hi (by omega)]
      simp only [hg]
      generalize g.Blocks.getD i zBlock = b at ht
      have key : ∀ to : Int, 0 ≤ to ∧ to < g.Blocks.length → 
          (gd (0 ≤ thr g g.Blocks.length to ∧ thr g g.Blocks.length to < (g.Blocks.length : Int)) <|
            bif (bif decide (((g.Blocks.getD (thr g g.Blocks.length to).toNat zBlock).Ops.length : Int) > 0) then true else ((g.Blocks.getD (thr g g.Blocks.length to).toNat zBlock).End.Kind != 1)) then
              g7_law22_DeadThreads.l0 1000 g (threaded g) k ((i + 1 : Nat) : Int)
            else (g7_law22_DeadThreads.l1 1000 g (threaded g) (i : Int) 1000 (thr g g.Blocks.length to) 0).bind fun o => match o with
              | .inl o => some (.inl ())
              | .inr o => g7_law22_DeadThreads.l0 1000 g (threaded g) k ((i + 1 : Nat) : Int)) = some (.inr ()) := by
        intro to hto
        have hin := thr_in hF g.Blocks.length to hto
        rw [gd_t hin]
        by_cases hL : Lead g (thr g g.Blocks.length to)
        · have hr := round hF hto hL
          have h1 := law7_l1 1000 hF (threaded g) (i : Int) 1000 0 _ hin hr (by omega) (by omega)
          have h1 : g7_law22_DeadThreads.l1 1000 g (threaded g) (i : Int) 1000 (thr g g.Blocks.length to) 0 = some (.inr ()) := h1
          obtain ⟨q1, q2⟩ := hL
          rw [df (by omega), q2]
          simp only [cond_false, bne_self_eq_false, h1, Option.bind_some]
          exact ih
        · have : (bif decide (((g.Blocks.getD (thr g g.Blocks.length to).toNat zBlock).Ops.length : Int) > 0) then true else ((g.Blocks.getD (thr g g.Blocks.length to).toNat zBlock).End.Kind != 1)) = true := by
            by_cases ho : 0 < (g.Blocks.getD (thr g g.Blocks.length to).toNat zBlock).Ops.length
            · rw [dt (by omega)]; rfl
            · rw [df (by omega), cond_false]
              exact bne_iff_ne.2 fun hk => hL ⟨ho, hk⟩
          rw [this, cond_true]
          exact ih
      unfold thrB
      by_cases h2 : b.End.Kind = 2
      · obtain ⟨t1, t2, t3, t4⟩ := ht.to2 h2
        rw [if_pos h2]
        by_cases hq : thr g g.Blocks.length b.End.To = thr g g.Blocks.length b.End.Else
        · rw [if_pos hq]
          exact key _ ⟨t1, t2⟩
        · rw [if_neg hq]
          have e : (thr g g.Blocks.length b.End.To == thr g g.Blocks.length b.End.Else) = false := by simp [hq]
          simp only [h2, e]
          exact ih
      · rw [if_neg h2]
        by_cases h1 : b.End.Kind = 1
        · rw [if_pos h1]
          simp only [h1]
          exact key _ (ht.to1 h1)
        · rw [if_neg h1]
          have e2 : (b.End.Kind == 2) = false := by simp [h2]
          have e1 : (b.End.Kind != 1) = true := bne_iff_ne.2 h1
          simp only [e2, e1]
          exact ih
    · rw [df (by omega), cond_false]

theorem count_thr (g : Graph) : ∀ (l : List Block), count (l.map (thrB g)) = count l
  | [] => rfl
  | b :: r => by
    have ih := count_thr g r
    simp only [count, List.map_cons, List.sum_cons] at ih ⊢
    have : (thrB g b).Ops = b.Ops := by unfold thrB; repeat' split
                                        all_goals rfl
    rw [this, ih]

theorem ops_ok (g : Graph) (hn : g.Blocks.length ≤ 200) (hc : count g.Blocks ≤ 100000) : g20_ref22_Ops 1000 g = some ((count g.Blocks : Nat) : Int) := by
  have h1 := ops_l0 1000 g (by omega) (by omega) 1000 0 (by omega) (by omega)
  have h1 : g20_ref22_Ops.l0 1000 g 1000 0 0 = some ((count g.Blocks : Nat) : Int) := h1
  simp only [g20_ref22_Ops, h1, Option.bind_some]

theorem law7 (g : Graph) (hn : g.Blocks.length ≤ maxLen) : g7_law22_DeadThreads 1000 g = some true := by
  obtain ⟨b, hb, fb⟩ := fine_ok g hn
  simp only [g7_law22_DeadThreads, awake_ok, Option.bind_some, Bool.not_true, Bool.not_false, cond_true, hb]
  cases b with
  | false => rfl
  | true =>
    have hF := fb rfl
    have hlen := hF.len
    have hops := hF.ops
    have hl' : (threaded g).Blocks.length = g.Blocks.length := by simp [threaded]
    have hc' : count (threaded g).Blocks = count g.Blocks := count_thr g g.Blocks
    have h0 := law7_l0 hF 1000 0 (by omega) (by omega)
    have h0 : g7_law22_DeadThreads.l0 1000 g (threaded g) 1000 0 = some (.inr ()) := h0
    simp only [Bool.not_true, cond_false, thread_ok (show 200 < 1000 by omega) hF, Option.bind_some, hl', bne_self_eq_false, Bool.not_false, cond_true, ops_ok (threaded g) (by omega) (by omega), ops_ok g (by omega) (by omega), hc', h0]
end Go.Proofs.Ytoooalfhjcfinaa.T
