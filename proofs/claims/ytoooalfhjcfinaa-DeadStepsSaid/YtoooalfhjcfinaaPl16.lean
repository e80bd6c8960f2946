/- A part of the proofs of this seat: what functions of the program compute, and what follows from it; without conditions. -/
import Derived.Test.YtoooalfhjcfinaaP5

namespace Go.Proofs.Ytoooalfhjcfinaa.T
open Go.Abs
set_option linter.unusedVariables false
set_option linter.unusedSimpArgs false

/-! ### The reference's Trim -/
theorem rtrim_l1 {g : Graph} (hF : Fine g) (xa : ByteArray) (xn : Int) : ∀ (k i : Nat) (S : List Bool), g.Blocks.length < k + i → i ≤ g.Blocks.length → S.length = g.Blocks.length → (∀ j, sg S j = true → Reach g j) →
    ∃ S', g14_ref22_Trim.l1 1000 g xa xn k S (i : Int) = some S' ∧ S'.length = g.Blocks.length ∧ (∀ j, sg S' j = true → Reach g j) ∧ (∀ j, sg S j = true → sg S' j = true) ∧
      (S' = S → ∀ j, i ≤ j → j < g.Blocks.length → sg S j = true → ∀ m, nx (g.Blocks.getD j zBlock).End m → sg S m = true)
  | 0, i, S, h, hi, hS, hR => by omega
  | k + 1, i, S, h, hi, hS, hR => by
    have hlen := hF.len
    simp only [g14_ref22_Trim.l1, Int.toNat_natCast]
    by_cases hlt : i < g.Blocks.length
    · have hI : 0 ≤ (i : Int) ∧ (i : Int) < (g.Blocks.length : Int) := by omega
      have hI2 : 0 ≤ (i : Int) ∧ (i : Int) < (S.length : Int) := by omega
      rw [dt hI2.2, cond_true, gd_t hI, gd_t hI2, wsucc hlt (by omega)]
      have ht := hF.term i hlt
      -- one step to S1, which is S where nothing is new
      have fin : ∀ S1 : List Bool, S1.length = g.Blocks.length → (∀ j, sg S1 j = true → Reach g j) → (∀ j, sg S j = true → sg S1 j = true) →
          (S1 = S → sg S i = true → ∀ m, nx (g.Blocks.getD i zBlock).End m → sg S m = true) →
          ∃ S', g14_ref22_Trim.l1 1000 g xa xn k S1 ((i + 1 : Nat) : Int) = some S' ∧ S'.length = g.Blocks.length ∧ (∀ j, sg S' j = true → Reach g j) ∧ (∀ j, sg S j = true → sg S' j = true) ∧
            (S' = S → ∀ j, i ≤ j → j < g.Blocks.length → sg S j = true → ∀ m, nx (g.Blocks.getD j zBlock).End m → sg S m = true) := by
        intro S1 h1 h2 h3 h4
        obtain ⟨S', x1, x2, x3, x4, x5⟩ := rtrim_l1 hF xa xn k (i + 1) S1 (by omega) (by omega) h1 h2
        refine ⟨S', x1, x2, x3, fun j hj => x4 j (h3 j hj), fun he j q1 q2 q3 m hm => ?_⟩
        have hS1 : S1 = S := by
          apply List.ext_getElem (by omega)
          intro a b1 b2
          have : sg S1 a = sg S a := by
            rw [Bool.eq_iff_iff]
            exact ⟨fun hh => by rw [← he]; exact x4 a hh, h3 a⟩
          simpa [sg, List.getD, b1, b2] using this
        rcases Nat.lt_or_ge i j with h6 | h6
        · have := x5 (by rw [he, hS1]) j h6 q2 (by rw [hS1]; exact q3) m hm
          rwa [hS1] at this
        · have : j = i := by omega
          subst this
          exact h4 hS1 q3 m hm
      have setR : ∀ (T : List Bool) (b : Nat), b < T.length → (∀ j, sg T j = true → Reach g j) → Reach g b → ∀ j, sg (T.set b true) j = true → Reach g j := by
        intro T b hb hT hRb j hj
        simp only [sg] at hj
        rw [getD_setBo T hb true] at hj
        split at hj
        · rename_i e; subst e; exact hRb
        · exact hT j hj
      have setM : ∀ (T : List Bool) (b : Nat), b < T.length → ∀ j, sg T j = true → sg (T.set b true) j = true := by
        intro T b hb j hj
        simp only [sg] at hj ⊢
        rw [getD_setBo T hb true]
        split
        · rfl
        · exact hj
      have setT : ∀ (T : List Bool) (b : Nat), b < T.length → sg (T.set b true) b = true := by
        intro T b hb
        simp only [sg]
        rw [getD_setBo T hb true, if_pos rfl]
      cases hsi : S.getD i false with
      | false =>
        simp only [cond_false]
        rw [gd_t hI2]
        exact fin S hS hR (fun _ h => h) (fun _ h => by simp only [sg] at h; rw [hsi] at h; cases h)
      | true =>
        have hRi := hR i hsi
        by_cases h2 : (g.Blocks.getD i zBlock).End.Kind = 2
        · obtain ⟨t1, t2, t3, t4⟩ := ht.to2 h2
          have e1 : ((g.Blocks.getD i zBlock).End.Kind == 1) = false := by rw [h2]; rfl
          have e2 : ((g.Blocks.getD i zBlock).End.Kind == 2) = true := by rw [h2]; rfl
          rw [e1, e2]
          simp only [cond_true, cond_false]
          have hb1 : (g.Blocks.getD i zBlock).End.To.toNat < S.length := by omega
          have hb2 : (g.Blocks.getD i zBlock).End.Else.toNat < (S.set (g.Blocks.getD i zBlock).End.To.toNat true).length := by rw [List.length_set]; omega
          have hy : (S.set (g.Blocks.getD i zBlock).End.To.toNat true).getD i false = true := setM S _ hb1 i hsi
          rw [gd_t (by omega), gd_t (by rw [List.length_set]; omega), hy]
          simp only [cond_true]
          rw [gd_t (by rw [List.length_set]; omega)]
          refine fin _ (by simp [hS]) (setR _ _ hb2 (setR S _ hb1 hR (.step hRi (.inl ⟨.inr h2, rfl⟩))) (.step hRi (.inr ⟨h2, rfl⟩))) (fun j hj => setM _ _ hb2 j (setM S _ hb1 j hj)) (fun he _ m hm => ?_)
          rw [← he]
          rcases hm with ⟨_, rfl⟩ | ⟨_, rfl⟩
          · exact setM _ _ hb2 _ (setT S _ hb1)
          · exact setT _ _ hb2
        · have e2 : ((g.Blocks.getD i zBlock).End.Kind == 2) = false := beq_eq_false_iff_ne.2 h2
          by_cases h1 : (g.Blocks.getD i zBlock).End.Kind = 1
          · obtain ⟨t1, t2⟩ := ht.to1 h1
            have e1 : ((g.Blocks.getD i zBlock).End.Kind == 1) = true := by rw [h1]; rfl
            rw [e1, e2]
            simp only [cond_true]
            have hb1 : (g.Blocks.getD i zBlock).End.To.toNat < S.length := by omega
            have hy : (S.set (g.Blocks.getD i zBlock).End.To.toNat true).getD i false = true := setM S _ hb1 i hsi
            rw [gd_t (by omega), gd_t (by rw [List.length_set]; omega), hy]
            simp only [cond_true, cond_false]
            refine fin _ (by simp [hS]) (setR S _ hb1 hR (.step hRi (.inl ⟨.inl h1, rfl⟩))) (setM S _ hb1) (fun he _ m hm => ?_)
            rw [← he]
            rcases hm with ⟨_, rfl⟩ | ⟨hk, _⟩
            · exact setT S _ hb1
            · exact absurd hk h2
          · have e1 : ((g.Blocks.getD i zBlock).End.Kind == 1) = false := beq_eq_false_iff_ne.2 h1
            rw [e1, e2]
            simp only [cond_true, cond_false]
            rw [gd_t hI2]
            refine fin S hS hR (fun _ h => h) (fun _ _ m hm => ?_)
            rcases hm with ⟨hk, _⟩ | ⟨hk, _⟩
            · rcases hk with hk | hk
              · exact absurd hk h1
              · exact absurd hk h2
            · exact absurd hk h2
    · rw [df (show ¬ (i : Int) < (S.length : Int) by omega), cond_false]
      exact ⟨S, rfl, hS, hR, fun _ h => h, fun _ j h1 h2 => by omega⟩

theorem rtrim_l0 {g : Graph} (hF : Fine g) (xa : ByteArray) : ∀ (k n : Nat) (S : List Bool), g.Blocks.length < k + n → n ≤ g.Blocks.length → S.length = g.Blocks.length → sg S 0 = true → (∀ j, sg S j = true → Reach g j) →
    ((∀ j, j < g.Blocks.length → sg S j = true → ∀ m, nx (g.Blocks.getD j zBlock).End m → sg S m = true) ∨ n + 1 ≤ wt g.Blocks.length (sg S)) →
    ∃ S', g14_ref22_Trim.l0 1000 g k xa S (n : Int) = some (xa, S') ∧ Seen g S'
  | 0, n, S, h, hn, hS, h0, hR, hd => by omega
  | k + 1, n, S, h, hn, hS, h0, hR, hd => by
    have hlen := hF.len
    have hw := wt_le g.Blocks.length (sg S)
    simp only [g14_ref22_Trim.l0]
    have closed : (∀ j, j < g.Blocks.length → sg S j = true → ∀ m, nx (g.Blocks.getD j zBlock).End m → sg S m = true) → ∀ v, Reach g v → sg S v = true := by
      intro hc v hv
      induction hv with
      | zero => exact h0
      | step hi hm ih => exact hc _ (reach_in hF hi) ih _ hm
    by_cases hlt : n < g.Blocks.length
    · obtain ⟨S', x1, x2, x3, x4, x5⟩ := rtrim_l1 hF xa (n : Int) 1000 0 S (by omega) (by omega) hS hR
      have x1 : g14_ref22_Trim.l1 1000 g xa (n : Int) 1000 S 0 = some S' := x1
      rw [dt (show (n : Int) < (S.length : Int) by omega), cond_true, x1]
      simp only [Option.bind_some]
      rw [wsucc hlt (by omega)]
      refine rtrim_l0 hF xa k (n + 1) S' (by omega) (by omega) x2 (x4 0 h0) x3 ?_
      have hm := wt_mono (n := g.Blocks.length) (p := sg S) (q := sg S') (fun j _ hj => x4 j hj)
      by_cases he : wt g.Blocks.length (sg S) = wt g.Blocks.length (sg S')
      · left
        have hq := wt_eq (n := g.Blocks.length) (p := sg S) (q := sg S') (fun j _ hj => x4 j hj) he
        have hXX : S' = S := by
          apply List.ext_getElem (by omega)
          intro m q1 q2
          have := hq m (by omega)
          simpa [sg, List.getD, q1, q2] using this.symm
        rw [hXX]
        exact fun j hj => x5 hXX j (Nat.zero_le _) hj
      · rcases hd with hd | hd
        · exfalso; apply he
          unfold wt
          congr 1
          refine List.filter_congr fun j hj => ?_
          rw [Bool.eq_iff_iff]
          exact ⟨x4 j, fun hh => closed hd j (x3 j hh)⟩
        · right; omega
    · rw [df (show ¬ (n : Int) < (S.length : Int) by omega), cond_false]
      refine ⟨S, rfl, hS, fun v hv => ⟨hR v, fun hr => ?_⟩⟩
      rcases hd with hd | hd
      · exact closed hd v hr
      · omega

theorem rtrim_l3 (g : Graph) (o : ByteArray × List Bool) {S : List Bool} (ho : o.2 = S) (hl : S.length ≤ 200) {i : Nat} (hi : i < S.length) : ∀ (k j : Nat) (A : List Int), i < k + j → j ≤ i → A.length = S.length → A.getD i 0 = (wt j (sg S) : Int) →
    ∃ A', g14_ref22_Trim.l3 1000 g o (i : Int) k A (j : Int) = some A' ∧ A'.length = S.length ∧ A'.getD i 0 = (wt i (sg S) : Int) ∧ ∀ q, q ≠ i → A'.getD q 0 = A.getD q 0
  | 0, j, A, h, hj, hA, hv => by omega
  | k + 1, j, A, h, hj, hA, hv => by
    simp only [g14_ref22_Trim.l3, Int.toNat_natCast, ho]
    by_cases hlt : j < i
    · have hJ : 0 ≤ (j : Int) ∧ (j : Int) < (S.length : Int) := by omega
      have hIA : 0 ≤ (i : Int) ∧ (i : Int) < (A.length : Int) := by omega
      have hw := wt_le j (sg S)
      have hs := wt_succ j (sg S)
      rw [dt (show (j : Int) < (i : Int) by omega), cond_true, gd_t hJ, wsucc hlt (by omega)]
      cases hb : S.getD j false with
      | true =>
        rw [show sg S j = true from hb, if_pos rfl] at hs
        simp only [cond_true]
        rw [gd_t hIA, gd_t hIA, hv, wi (by omega) (by omega)]
        have hget := getD_setI A (show i < A.length by omega) ((wt j (sg S) : Int) + 1)
        obtain ⟨A', a1, a2, a3, a4⟩ := rtrim_l3 g o ho hl hi k (j + 1) (A.set i ((wt j (sg S) : Int) + 1)) (by omega) (by omega) (by simp [hA]) (by rw [hget, if_pos rfl, hs]; omega)
        exact ⟨A', a1, a2, a3, fun q hq => by rw [a4 q hq, hget, if_neg hq]⟩
      | false =>
        rw [show sg S j = false from hb, if_neg (by decide)] at hs
        simp only [cond_false]
        exact rtrim_l3 g o ho hl hi k (j + 1) A (by omega) (by omega) hA (by rw [hv, hs]; rfl)
    · rw [df (show ¬ (j : Int) < (i : Int) by omega), cond_false]
      have : j = i := by omega
      subst this
      exact ⟨A, rfl, hA, hv, fun _ _ => rfl⟩

theorem rtrim_l2 (g : Graph) (o : ByteArray × List Bool) {S : List Bool} (ho : o.2 = S) (hl : S.length ≤ 200) : ∀ (k i : Nat) (A : List Int), S.length < k + i → i ≤ S.length → A.length = S.length → (∀ j, j < i → A.getD j 0 = (wt j (sg S) : Int)) → (∀ j, i ≤ j → A.getD j 0 = 0) →
    ∃ A', g14_ref22_Trim.l2 1000 g o k A (i : Int) = some A' ∧ A'.length = S.length ∧ ∀ j, j < S.length → A'.getD j 0 = (wt j (sg S) : Int)
  | 0, i, A, h, hi, hA, h1, h2 => by omega
  | k + 1, i, A, h, hi, hA, h1, h2 => by
    simp only [g14_ref22_Trim.l2, ho]
    by_cases hlt : i < S.length
    · obtain ⟨A', a1, a2, a3, a4⟩ := rtrim_l3 g o ho hl hlt 1000 0 A (by omega) (by omega) hA (by rw [h2 i (Nat.le_refl _)]; simp [wt])
      have a1 : g14_ref22_Trim.l3 1000 g o (i : Int) 1000 A 0 = some A' := a1
      rw [dt (show (i : Int) < (S.length : Int) by omega), cond_true, a1]
      simp only [Option.bind_some]
      rw [wsucc hlt (by omega)]
      exact rtrim_l2 g o ho hl k (i + 1) A' (by omega) (by omega) a2 (fun j hj => by
        by_cases e : j = i
        · subst e; exact a3
        · rw [a4 j e]; exact h1 j (by omega)) (fun j hj => by rw [a4 j (by omega)]; exact h2 j (by omega))
    · rw [df (show ¬ (i : Int) < (S.length : Int) by omega), cond_false]
      exact ⟨A, rfl, hA, fun j hj => h1 j (by omega)⟩

theorem rtrim_l4 {g : Graph} (hF : Fine g) {o : ByteArray × List Bool} {S : List Bool} (ho : o.2 = S) (hS : S.length = g.Blocks.length) {A : List Int} (hA : A.length = g.Blocks.length) (hA2 : ∀ j, j < g.Blocks.length → A.getD j 0 = (wt j (sg S) : Int)) (r : Graph) :
    ∀ (k i : Nat) (acc : List Block), g.Blocks.length < k + i → i ≤ g.Blocks.length → acc.length ≤ i → g14_ref22_Trim.l4 1000 g o A r k acc (i : Int) = some (acc ++ trimL g (sg S) (fun j => wt j (sg S)) (g.Blocks.length - i) i)
  | 0, i, acc, h, hi, ha => by omega
  | k + 1, i, acc, h, hi, ha => by
    have hlen := hF.len
    simp only [g14_ref22_Trim.l4, Int.toNat_natCast, ho]
    by_cases hlt : i < g.Blocks.length
    · have hI : 0 ≤ (i : Int) ∧ (i : Int) < (g.Blocks.length : Int) := by omega
      have hI2 : 0 ≤ (i : Int) ∧ (i : Int) < (S.length : Int) := by omega
      have hsm := hF.small.ops i hlt
      rw [dt hI2.2, cond_true, gd_t hI2, wsucc hlt (by omega), show g.Blocks.length - i = (g.Blocks.length - (i + 1)) + 1 by omega]
      simp only [trimL]
      have ht := hF.term i hlt
      cases hb : S.getD i false with
      | false =>
        simp only [cond_false, show sg S i = false from hb, Bool.false_eq_true, if_false]
        exact rtrim_l4 hF ho hS hA hA2 r k (i + 1) acc (by omega) (by omega) (by omega)
      | true =>
        simp only [cond_true, show sg S i = true from hb, if_true, List.nil_append]
        have ih := fun b => rtrim_l4 hF ho hS hA hA2 r k (i + 1) (acc ++ [b]) (by omega) (by omega) (by simp; omega)
        have hg : ∀ x : Block, acc.length + ([x] : List Block).length ≤ 1073741824 := fun x => by simp; omega
        have hg2 : ([] : List Op').length + (g.Blocks.getD i zBlock).Ops.length ≤ 1073741824 := by simp only [List.length_nil]; omega
        rw [gd_t hI]
        unfold rel
        by_cases h2 : (g.Blocks.getD i zBlock).End.Kind = 2
        · obtain ⟨t1, t2, t3, t4⟩ := ht.to2 h2
          have e1 : ((g.Blocks.getD i zBlock).End.Kind == 1) = false := by rw [h2]; rfl
          have e2 : ((g.Blocks.getD i zBlock).End.Kind == 2) = true := by rw [h2]; rfl
          rw [e1, e2]
          simp only [cond_true, cond_false]
          rw [gd_t (by omega), gd_t (by omega), gd_t hI, gd_t hg2, gd_t (hg _), if_pos h2, hA2 _ (by omega), hA2 _ (by omega), ih, List.append_assoc]
          rfl
        · have e2 : ((g.Blocks.getD i zBlock).End.Kind == 2) = false := beq_eq_false_iff_ne.2 h2
          rw [e2, if_neg h2]
          by_cases h1 : (g.Blocks.getD i zBlock).End.Kind = 1
          · obtain ⟨t1, t2⟩ := ht.to1 h1
            have e1 : ((g.Blocks.getD i zBlock).End.Kind == 1) = true := by rw [h1]; rfl
            rw [e1]
            simp only [cond_true, cond_false]
            rw [gd_t (by omega), gd_t hI, gd_t hg2, gd_t (hg _), if_pos h1, hA2 _ (by omega), ih, List.append_assoc]
            rfl
          · have e1 : ((g.Blocks.getD i zBlock).End.Kind == 1) = false := beq_eq_false_iff_ne.2 h1
            rw [e1]
            simp only [cond_false]
            rw [gd_t hI, gd_t hg2, gd_t (hg _), if_neg h1, ih, List.append_assoc]
            rfl
    · rw [df (show ¬ (i : Int) < (S.length : Int) by omega), cond_false, show g.Blocks.length - i = 0 by omega]
      simp [trimL]

theorem rtrim_ok {g : Graph} (hF : Fine g) : ∃ S, Seen g S ∧ g14_ref22_Trim 1000 g = some (trimmed g S) := by
  have hlen := hF.len
  have hpos := hF.pos
  have hget := getD_setBo (List.replicate g.Blocks.length false) (i := 0) (by simp; omega) true
  have h0 : sg ((List.replicate g.Blocks.length false).set 0 true) 0 = true := by simp only [sg]; rw [hget, if_pos rfl]
  have hw : 1 ≤ wt g.Blocks.length (sg ((List.replicate g.Blocks.length false).set 0 true)) := by
    have h1 : wt 1 (sg ((List.replicate g.Blocks.length false).set 0 true)) = wt 0 (sg ((List.replicate g.Blocks.length false).set 0 true)) + (if sg ((List.replicate g.Blocks.length false).set 0 true) 0 then 1 else 0) := wt_succ 0 _
    rw [h0, if_pos rfl] at h1
    have := wt_step_mono (sg ((List.replicate g.Blocks.length false).set 0 true)) (show 1 ≤ g.Blocks.length from hpos)
    omega
  obtain ⟨S, s1, s2⟩ := rtrim_l0 hF ByteArray.empty 1000 0 ((List.replicate g.Blocks.length false).set 0 true) (by omega) (by omega) (by simp) h0 (fun j hj => by
    simp only [sg] at hj
    rw [hget] at hj
    split at hj
    · rename_i e; subst e; exact .zero
    · rw [rep_false] at hj; cases hj) (.inr hw)
  have s1 : g14_ref22_Trim.l0 1000 g 1000 ByteArray.empty ((List.replicate g.Blocks.length false).set 0 true) 0 = some (ByteArray.empty, S) := s1
  have hSl := s2.len
  obtain ⟨A, a1, a2, a3⟩ := rtrim_l2 g (ByteArray.empty, S) (S := S) rfl (by omega) 1000 0 (List.replicate S.length 0) (by omega) (by omega) (by simp) (fun j hj => by omega) (fun j _ => by simp only [List.getD, List.getElem?_replicate]; split <;> rfl)
  have a1 : g14_ref22_Trim.l2 1000 g (ByteArray.empty, S) 1000 (List.replicate S.length 0) 0 = some A := a1
  have hl4 := rtrim_l4 hF (o := (ByteArray.empty, S)) rfl hSl (by rw [a2, hSl]) (fun j hj => a3 j (by omega)) g 1000 0 [] (by omega) (by omega) (by simp)
  have hl4 : g14_ref22_Trim.l4 1000 g (ByteArray.empty, S) A g 1000 [] 0 = some (trimL g (sg S) (fun j => wt j (sg S)) g.Blocks.length 0) := hl4
  refine ⟨S, s2, ?_⟩
  unfold g14_ref22_Trim
  simp only [Int.toNat_natCast, show (0 : Int).toNat = 0 from rfl]
  rw [gd_t (by omega), gd_t (by simp; omega), s1]
  simp only [Option.bind_some]
  rw [gd_t (by omega), a1]
  simp only [Option.bind_some, copy_ok (show 200 < 1000 by omega) hF.small, hl4]
  rfl

/-- Both trim alike. -/
theorem trims {g : Graph} (hG : Good g) : ∃ h, g13_dead_Trim 1000 g = some h ∧ g14_ref22_Trim 1000 g = some h ∧ Good h := by
  obtain ⟨S, s1, e1⟩ := trim_ok hG.fine
  obtain ⟨T, t1, e2⟩ := rtrim_ok hG.fine
  have := s1.unique t1
  subst this
  exact ⟨_, e1, e2, trim_good hG s1⟩

theorem graphs {g : Graph} (hG : Good g) : ∃ h, g17_dead_Graph 1000 g = some h ∧ g18_ref22_Graph 1000 g = some h ∧ Good h := by
  unfold g17_dead_Graph g18_ref22_Graph
  cases hk : g.Keep with
  | true =>
    simp only [cond_true, copied_ok (show 200 < 1000 by omega) hG.fine.small, copy_ok (show 200 < 1000 by omega) hG.fine.small, Option.bind_some]
    exact ⟨g, rfl, rfl, hG⟩
  | false =>
    obtain ⟨a, a1, a2, a3⟩ := trims (thread_good hG)
    obtain ⟨b, b1, b2, b3, _⟩ := sweeps a3
    have b4 := b3.kept.good a3
    obtain ⟨c, c1, c2, c3⟩ := trims (thread_good b4)
    simp only [cond_false, thread_ok (show 200 < 1000 by omega) hG.fine, rthread_ok (show 200 < 1000 by omega) hG.fine, a1, a2, b1, b2, thread_ok (show 200 < 1000 by omega) b4.fine, rthread_ok (show 200 < 1000 by omega) b4.fine, c1, c2, Option.bind_some]
    exact ⟨c, rfl, rfl, c3⟩

theorem law3 (g : Graph) (hn : g.Blocks.length ≤ maxLen) : g3_law22_DeadGraphs 1000 g = some true := by
  obtain ⟨b, hb, fb⟩ := fine_good g hn
  simp only [g3_law22_DeadGraphs, awake_ok, Option.bind_some, Bool.not_true, Bool.not_false, cond_true, hb]
  cases b with
  | false => rfl
  | true =>
    obtain ⟨hF, hG, _⟩ := fb rfl
    have k1 := thread_good hG
    obtain ⟨x, x1, x2, x3⟩ := trims hG
    obtain ⟨y, y1, y2, y3, _⟩ := sweeps hG
    have y4 := y3.kept.good hG
    obtain ⟨z, z1, z2, z3⟩ := graphs hG
    simp only [Bool.not_true, cond_false, thread_ok (show 200 < 1000 by omega) hF, rthread_ok (show 200 < 1000 by omega) hF, same_ok k1.fine.small, Option.bind_some, cond_true, x1, x2, same_ok x3.fine.small, y1, y2, same_ok y4.fine.small, z1, z2, same_ok z3.fine.small]
end Go.Proofs.Ytoooalfhjcfinaa.T
