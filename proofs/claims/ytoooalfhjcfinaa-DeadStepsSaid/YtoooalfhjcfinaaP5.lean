/- A part of the proofs of this seat: what functions of the program compute, and what follows from it; without conditions. -/
import Derived.Test.YtoooalfhjcfinaaP4

namespace Go.Proofs.Ytoooalfhjcfinaa.T
open Go.Abs
set_option linter.unusedVariables false
set_option linter.unusedSimpArgs false

/-! ### Where one comes to -/
def nx (t : Term) (j : Nat) : Prop := ((t.Kind = 1 ∨ t.Kind = 2) ∧ j = t.To.toNat) ∨ (t.Kind = 2 ∧ j = t.Else.toNat)
inductive Reach (g : Graph) : Nat → Prop
  | zero : Reach g 0
  | step {i j : Nat} (h : Reach g i) (hn : nx (g.Blocks.getD i zBlock).End j) : Reach g j

theorem nx_in {t : Term} {n j : Nat} (h : TermOk t n) (hn : nx t j) : j < n := by
  rcases hn with ⟨hk, rfl⟩ | ⟨hk, rfl⟩
  · rcases hk with hk | hk
    · have := h.to1 hk; omega
    · have := h.to2 hk; omega
  · have := h.to2 hk; omega

theorem reach_in {g : Graph} (hF : Fine g) : ∀ {i : Nat}, Reach g i → i < g.Blocks.length := by
  intro i h
  induction h with
  | zero => exact hF.pos
  | step _ hn ih => exact nx_in (hF.term _ ih) hn

abbrev sg (S : List Bool) (i : Nat) : Bool := S.getD i false

theorem visit_ok {g : Graph} (hF : Fine g) : ∀ (K : Nat) (S : List Bool) (b : Int), 0 ≤ b ∧ b < g.Blocks.length → S.length = g.Blocks.length → g.Blocks.length - wt g.Blocks.length (sg S) < K →
    ∃ S', g26_dead_Trim_1 g K S b = some S' ∧ S'.length = g.Blocks.length ∧ (∀ j, sg S j = true → sg S' j = true) ∧ sg S' b.toNat = true ∧
      (∀ v, sg S' v = true → sg S v = false → ∀ j, nx (g.Blocks.getD v zBlock).End j → sg S' j = true) ∧
      (∀ P : Nat → Prop, (∀ i j, P i → nx (g.Blocks.getD i zBlock).End j → P j) → P b.toNat → ∀ v, sg S' v = true → sg S v = true ∨ P v)
  | 0, S, b, hb, hS, h => by omega
  | K + 1, S, b, hb, hS, h => by
    have hbS : 0 ≤ b ∧ b < (S.length : Int) := by omega
    simp only [g26_dead_Trim_1]
    rw [gd_t hbS, gd_t hbS, gd_t hb]
    cases hsb : S.getD b.toNat false with
    | true => exact ⟨S, rfl, hS, fun _ h => h, hsb, fun v h1 h2 => (by rw [h1] at h2; cases h2), fun P _ _ v hv => .inl hv⟩
    | false =>
      simp only [cond_false]
      have hbl : b.toNat < S.length := by omega
      have hget := getD_setBo S hbl true
      have hmono : ∀ j, sg S j = true → sg (S.set b.toNat true) j = true := fun j hj => by
        simp only [sg] at hj ⊢; rw [hget]; split
        · rfl
        · exact hj
      have hwlt := wt_lt (n := g.Blocks.length) (p := sg S) (q := sg (S.set b.toNat true)) (fun j _ hj => hmono j hj) ⟨b.toNat, by omega, hsb, by simp only [sg]; rw [hget, if_pos rfl]⟩
      have hwle := wt_le g.Blocks.length (sg (S.set b.toNat true))
      have hb1 : sg (S.set b.toNat true) b.toNat = true := by simp only [sg]; rw [hget, if_pos rfl]
      have hnew : ∀ v, sg (S.set b.toNat true) v = true → sg S v = true ∨ v = b.toNat := fun v hv => by
        simp only [sg] at hv ⊢; rw [hget] at hv; split at hv
        · rename_i e; exact .inr e
        · exact .inl hv
      have ht := hF.term b.toNat (by omega)
      by_cases h2 : (g.Blocks.getD b.toNat zBlock).End.Kind = 2
      · obtain ⟨t1, t2, t3, t4⟩ := ht.to2 h2
        have e2 : ((g.Blocks.getD b.toNat zBlock).End.Kind == 2) = true := by rw [h2]; rfl
        obtain ⟨S1, a1, a2, a3, a4, a5, a6⟩ := visit_ok hF K (S.set b.toNat true) (g.Blocks.getD b.toNat zBlock).End.Else ⟨t3, t4⟩ (by simp [hS]) (by omega)
        have hw1 := wt_mono (n := g.Blocks.length) (p := sg (S.set b.toNat true)) (q := sg S1) (fun j _ hj => a3 j hj)
        have hw2 := wt_le g.Blocks.length (sg S1)
        obtain ⟨S2, b1, b2, b3, b4, b5, b6⟩ := visit_ok hF K S1 (g.Blocks.getD b.toNat zBlock).End.To ⟨t1, t2⟩ a2 (by omega)
        rw [e2, cond_true]
        simp only [a1, b1, Option.bind_some]
        refine ⟨S2, rfl, b2, fun j hj => b3 j (a3 j (hmono j hj)), b3 _ (a3 _ hb1), fun v hv hv0 j hj => ?_, fun P hP hPb v hv => ?_⟩
        · by_cases hvb : v = b.toNat
          · subst hvb
            rcases hj with ⟨_, rfl⟩ | ⟨_, rfl⟩
            · exact b4
            · exact b3 _ a4
          · cases h1 : sg S1 v with
            | true =>
              have hv1 : sg (S.set b.toNat true) v = false := by
                cases hq : sg (S.set b.toNat true) v with
                | false => rfl
                | true => rcases hnew v hq with h5 | h5
                          · rw [hv0] at h5; cases h5
                          · exact absurd h5 hvb
              exact b3 _ (a5 v h1 hv1 j hj)
            | false => exact b5 v hv h1 j hj
        · rcases b6 P hP (hP _ _ hPb (.inl ⟨.inr h2, rfl⟩)) v hv with h5 | h5
          · rcases a6 P hP (hP _ _ hPb (.inr ⟨h2, rfl⟩)) v h5 with h6 | h6
            · rcases hnew v h6 with h7 | h7
              · exact .inl h7
              · subst h7; exact .inr hPb
            · exact .inr h6
          · exact .inr h5
      · have e2 : ((g.Blocks.getD b.toNat zBlock).End.Kind == 2) = false := by simp only [beq_eq_false_iff_ne]; exact h2
        rw [e2, cond_false]
        by_cases h1 : (g.Blocks.getD b.toNat zBlock).End.Kind = 1
        · have e1 : ((g.Blocks.getD b.toNat zBlock).End.Kind == 1) = true := by rw [h1]; rfl
          obtain ⟨S1, a1, a2, a3, a4, a5, a6⟩ := visit_ok hF K (S.set b.toNat true) (g.Blocks.getD b.toNat zBlock).End.To (ht.to1 h1) (by simp [hS]) (by omega)
          rw [e1, cond_true]
          simp only [a1, Option.bind_some]
          refine ⟨S1, rfl, a2, fun j hj => a3 j (hmono j hj), a3 _ hb1, fun v hv hv0 j hj => ?_, fun P hP hPb v hv => ?_⟩
          · by_cases hvb : v = b.toNat
            · subst hvb
              rcases hj with ⟨_, rfl⟩ | ⟨hk, _⟩
              · exact a4
              · exact absurd hk h2
            · have hv1 : sg (S.set b.toNat true) v = false := by
                cases hq : sg (S.set b.toNat true) v with
                | false => rfl
                | true => rcases hnew v hq with h5 | h5
                          · rw [hv0] at h5; cases h5
                          · exact absurd h5 hvb
              exact a5 v hv hv1 j hj
          · rcases a6 P hP (hP _ _ hPb (.inl ⟨.inl h1, rfl⟩)) v hv with h6 | h6
            · rcases hnew v h6 with h7 | h7
              · exact .inl h7
              · subst h7; exact .inr hPb
            · exact .inr h6
        · have e1 : ((g.Blocks.getD b.toNat zBlock).End.Kind == 1) = false := by simp only [beq_eq_false_iff_ne]; exact h1
          rw [e1, cond_false]
          refine ⟨_, rfl, by simp [hS], hmono, hb1, fun v hv hv0 j hj => ?_, fun P hP hPb v hv => ?_⟩
          · rcases hnew v hv with h5 | h5
            · rw [hv0] at h5; cases h5
            · subst h5
              rcases hj with ⟨hk, _⟩ | ⟨hk, _⟩
              · rcases hk with hk | hk
                · exact absurd hk h1
                · exact absurd hk h2
              · exact absurd hk h2
          · rcases hnew v hv with h5 | h5
            · exact .inl h5
            · subst h5; exact .inr hPb

/-- The blocks that one comes to, and no others. -/
structure Seen (g : Graph) (S : List Bool) : Prop where
  len : S.length = g.Blocks.length
  iff : ∀ v, v < g.Blocks.length → (sg S v = true ↔ Reach g v)

theorem rep_false (n j : Nat) : (List.replicate n false).getD j false = false := by
  simp only [List.getD, List.getElem?_replicate]; split <;> rfl

theorem seen_ok {g : Graph} (hF : Fine g) : ∃ S, g26_dead_Trim_1 g 1000 (List.replicate g.Blocks.length false) 0 = some S ∧ Seen g S := by
  have hlen := hF.len
  have hpos := hF.pos
  obtain ⟨S, a1, a2, a3, a4, a5, a6⟩ := visit_ok hF 1000 (List.replicate g.Blocks.length false) 0 (by omega) (by simp) (by omega)
  refine ⟨S, a1, a2, fun v hv => ⟨fun h => ?_, fun h => ?_⟩⟩
  · rcases a6 (Reach g) (fun i j hi hj => .step hi hj) .zero v h with h1 | h1
    · simp only [sg, rep_false] at h1; cases h1
    · exact h1
  · have : ∀ v, Reach g v → sg S v = true := by
      intro v hr
      induction hr with
      | zero => exact a4
      | step hi hn ih => exact a5 _ ih (by simp only [sg, rep_false]) _ hn
    exact this v h

theorem Seen.unique {g : Graph} {S T : List Bool} (hS : Seen g S) (hT : Seen g T) : S = T := by
  apply List.ext_getElem (by rw [hS.len, hT.len])
  intro j h1 h2
  have hj : j < g.Blocks.length := by rw [← hS.len]; exact h1
  have : sg S j = sg T j := by rw [Bool.eq_iff_iff, hS.iff j hj, hT.iff j hj]
  simpa [sg, List.getD, h1, h2] using this

/-! ### New numbers -/
theorem trim_l0 {g : Graph} (K : Nat) {S : List Bool} (hl : S.length ≤ 200) : ∀ (k i : Nat) (A : List Int), S.length < k + i → i ≤ S.length → A.length = S.length → (∀ j, j < i → A.getD j 0 = (wt j (sg S) : Int)) →
    ∃ A', g13_dead_Trim.l0 K g S k A (wt i (sg S) : Int) (i : Int) = some (ByteArray.empty, A') ∧ A'.length = S.length ∧ ∀ j, j < S.length → A'.getD j 0 = (wt j (sg S) : Int)
  | 0, i, A, h, hi, hA, hj => by omega
  | k + 1, i, A, h, hi, hA, hj => by
    simp only [g13_dead_Trim.l0, Int.toNat_natCast]
    by_cases hlt : i < S.length
    · have hI : 0 ≤ (i : Int) ∧ (i : Int) < (S.length : Int) := by omega
      have hI2 : 0 ≤ (i : Int) ∧ (i : Int) < (A.length : Int) := by omega
      have hw := wt_le i (sg S)
      have hget := getD_setI A (show i < A.length by omega) (wt i (sg S) : Int)
      have hnext : ∀ j, j < i + 1 → (A.set i (wt i (sg S) : Int)).getD j 0 = (wt j (sg S) : Int) := fun j h1 => by
        rw [hget]; split
        · rename_i e; rw [e]
        · exact hj j (by omega)
      rw [dt (by omega), cond_true, gd_t hI, gd_t hI2, wsucc hlt (by omega), wi (by omega) (by omega)]
      have hs := wt_succ i (sg S)
      cases hb : S.getD i false with
      | true =>
        rw [show sg S i = true from hb, if_pos rfl] at hs
        have := trim_l0 (g := g) K hl k (i + 1) (A.set i (wt i (sg S) : Int)) (by omega) (by omega) (by simp [hA]) hnext
        rw [hs] at this
        exact this
      | false =>
        rw [show sg S i = false from hb, if_neg (by decide)] at hs
        have := trim_l0 (g := g) K hl k (i + 1) (A.set i (wt i (sg S) : Int)) (by omega) (by omega) (by simp [hA]) hnext
        rw [hs] at this
        exact this
    · rw [df (by omega), cond_false]
      have : i = S.length := by omega
      exact ⟨A, rfl, hA, fun j h1 => hj j (by omega)⟩

/-- A block whose end leads to new numbers. -/
def rel (f : Nat → Nat) (b : Block) : Block :=
  if b.End.Kind = 2 then ⟨b.Ops, ⟨b.End.Kind, b.End.Op, b.End.A, b.End.B, (f b.End.To.toNat : Int), (f b.End.Else.toNat : Int), b.End.Ins⟩⟩
  else if b.End.Kind = 1 then ⟨b.Ops, ⟨b.End.Kind, b.End.Op, b.End.A, b.End.B, (f b.End.To.toNat : Int), b.End.Else, b.End.Ins⟩⟩
  else b
def trimL (g : Graph) (S : Nat → Bool) (f : Nat → Nat) : Nat → Nat → List Block
  | 0, _ => []
  | n + 1, i => if S i then rel f (g.Blocks.getD i zBlock) :: trimL g S f n (i + 1) else trimL g S f n (i + 1)

theorem trim_l1 {g : Graph} (hF : Fine g) {S : List Bool} (hS : S.length = g.Blocks.length) {A : ByteArray × List Int} (hA : A.2.length = g.Blocks.length) (hA2 : ∀ j, j < g.Blocks.length → A.2.getD j 0 = (wt j (sg S) : Int)) :
    ∀ (k i : Nat) (acc : List Block), g.Blocks.length < k + i → i ≤ g.Blocks.length → acc.length ≤ i → g13_dead_Trim.l1 1000 g S A g k (i : Int) acc = some (acc ++ trimL g (sg S) (fun j => wt j (sg S)) (g.Blocks.length - i) i)
  | 0, i, acc, h, hi, ha => by omega
  | k + 1, i, acc, h, hi, ha => by
    have hlen := hF.len
    simp only [g13_dead_Trim.l1, Int.toNat_natCast]
    by_cases hlt : i < g.Blocks.length
    · have hI : 0 ≤ (i : Int) ∧ (i : Int) < (g.Blocks.length : Int) := by omega
      have hI2 : 0 ≤ (i : Int) ∧ (i : Int) < (S.length : Int) := by omega
      rw [dt (by omega), cond_true, gd_t hI, gd_t hI2, wsucc hlt (by omega), show g.Blocks.length - i = (g.Blocks.length - (i + 1)) + 1 by omega]
      simp only [trimL]
      have ht := hF.term i hlt
      cases hb : S.getD i false with
      | false =>
        simp only [Bool.not_false, cond_true, show sg S i = false from hb, Bool.false_eq_true, if_false]
        exact trim_l1 hF hS hA hA2 k (i + 1) acc (by omega) (by omega) (by omega)
      | true =>
        simp only [Bool.not_true, cond_false, show sg S i = true from hb, if_true]
        have ih := fun b => trim_l1 hF hS hA hA2 k (i + 1) (acc ++ [b]) (by omega) (by omega) (by simp; omega)
        have hg : ∀ x : Block, acc.length + ([x] : List Block).length ≤ 1073741824 := fun x => by simp; omega
        unfold rel
        by_cases h2 : (g.Blocks.getD i zBlock).End.Kind = 2
        · obtain ⟨t1, t2, t3, t4⟩ := ht.to2 h2
          have e2 : ((g.Blocks.getD i zBlock).End.Kind == 2) = true := by rw [h2]; rfl
          rw [e2, cond_true, gd_t (by omega), gd_t (by omega), gd_t (hg _), if_pos h2, hA2 _ (by omega), hA2 _ (by omega), ih, List.append_assoc]
          rfl
        · have e2 : ((g.Blocks.getD i zBlock).End.Kind == 2) = false := beq_eq_false_iff_ne.2 h2
          rw [e2, cond_false, if_neg h2]
          by_cases h1 : (g.Blocks.getD i zBlock).End.Kind = 1
          · obtain ⟨t1, t2⟩ := ht.to1 h1
            have e1 : ((g.Blocks.getD i zBlock).End.Kind == 1) = true := by rw [h1]; rfl
            rw [e1, cond_true, gd_t (by omega), gd_t (hg _), if_pos h1, hA2 _ (by omega), ih, List.append_assoc]
            rfl
          · have e1 : ((g.Blocks.getD i zBlock).End.Kind == 1) = false := beq_eq_false_iff_ne.2 h1
            rw [e1, cond_false, gd_t (hg _), if_neg h1, ih, List.append_assoc]
            rfl
    · rw [df (by omega), cond_false, show g.Blocks.length - i = 0 by omega]
      simp [trimL]

/-- A graph, trimmed. -/
def trimmed (g : Graph) (S : List Bool) : Graph := ⟨g.Name, g.Keep, g.Leaf, trimL g (sg S) (fun j => wt j (sg S)) g.Blocks.length 0⟩

theorem trim_ok {g : Graph} (hF : Fine g) : ∃ S, Seen g S ∧ g13_dead_Trim 1000 g = some (trimmed g S) := by
  have hlen := hF.len
  obtain ⟨S, s1, s2⟩ := seen_ok hF
  obtain ⟨A, a1, a2, a3⟩ := trim_l0 (g := g) 1000 (S := S) (by rw [s2.len]; omega) 1000 0 (List.replicate S.length 0) (by rw [s2.len]; omega) (by omega) (by simp) (fun j hj => by omega)
  have a1 : g13_dead_Trim.l0 1000 g S 1000 (List.replicate S.length 0) 0 0 = some (ByteArray.empty, A) := a1
  have hl1 := trim_l1 hF s2.len (A := (ByteArray.empty, A)) (by rw [← s2.len]; exact a2) (fun j hj => a3 j (by rw [s2.len]; exact hj)) 1000 0 [] (by omega) (by omega) (by simp)
  have hl1 : g13_dead_Trim.l1 1000 g S (ByteArray.empty, A) g 1000 0 [] = some (trimL g (sg S) (fun j => wt j (sg S)) g.Blocks.length 0) := hl1
  refine ⟨S, s2, ?_⟩
  unfold g13_dead_Trim
  simp only [Int.toNat_natCast]
  rw [gd_t (by omega), s1]
  simp only [Option.bind_some]
  rw [gd_t (by rw [s2.len]; omega), a1]
  simp only [Option.bind_some, copied_ok (show 200 < 1000 by omega) hF.small, hl1]
  rfl
end Go.Proofs.Ytoooalfhjcfinaa.T

namespace Go.Proofs.Ytoooalfhjcfinaa.T
open Go.Abs
set_option linter.unusedVariables false
set_option linter.unusedSimpArgs false

theorem wt_step_mono (p : Nat → Bool) {i j : Nat} (h : i ≤ j) : wt i p ≤ wt j p := by
  induction h with
  | refl => exact Nat.le_refl _
  | step _ ih => rw [wt_succ]; omega

theorem trimL_get (g : Graph) (S : Nat → Bool) (f : Nat → Nat) : ∀ (n i : Nat), (trimL g S f n i).length = wt (i + n) S - wt i S ∧
    ∀ v, i ≤ v → v < i + n → S v = true → (trimL g S f n i).getD (wt v S - wt i S) zBlock = rel f (g.Blocks.getD v zBlock)
  | 0, i => ⟨by simp [trimL], fun v h1 h2 => by omega⟩
  | n + 1, i => by
    obtain ⟨h1, h2⟩ := trimL_get g S f n (i + 1)
    have hm := wt_step_mono S (show i + 1 ≤ i + 1 + n by omega)
    have hs := wt_succ i S
    rw [show i + (n + 1) = i + 1 + n by omega]
    simp only [trimL]
    cases hb : S i with
    | true =>
      rw [hb, if_pos rfl] at hs
      simp only [if_true]
      refine ⟨by rw [List.length_cons, h1]; omega, fun v h3 h4 h5 => ?_⟩
      rcases Nat.lt_or_ge i v with h6 | h6
      · have hv := wt_step_mono S (show i + 1 ≤ v by omega)
        have := h2 v (by omega) h4 h5
        rw [show wt v S - wt i S = (wt v S - wt (i + 1) S) + 1 by omega, List.getD_cons_succ]
        exact this
      · have : v = i := by omega
        subst this
        simp
    | false =>
      rw [hb, if_neg (by decide)] at hs
      simp only [Bool.false_eq_true, if_false]
      rw [← show wt (i + 1) S = wt i S by omega]
      refine ⟨h1, fun v h3 h4 h5 => ?_⟩
      rcases Nat.lt_or_ge i v with h6 | h6
      · exact h2 v (by omega) h4 h5
      · have : v = i := by omega
        subst this
        rw [hb] at h5; cases h5

theorem wt_onto (p : Nat → Bool) : ∀ (n m : Nat), m < wt n p → ∃ v, v < n ∧ p v = true ∧ wt v p = m
  | 0, m, h => by simp [wt] at h
  | n + 1, m, h => by
    rw [wt_succ] at h
    by_cases hm : m < wt n p
    · obtain ⟨v, h1, h2⟩ := wt_onto p n m hm
      exact ⟨v, by omega, h2⟩
    · cases hp : p n with
      | true => rw [hp, if_pos rfl] at h; exact ⟨n, by omega, hp, by omega⟩
      | false => rw [hp, if_neg (by decide)] at h; omega

section
variable {g : Graph} {S : List Bool}

theorem trim_len (g : Graph) (S : List Bool) : (trimmed g S).Blocks.length = wt g.Blocks.length (sg S) := by
  have := (trimL_get g (sg S) (fun j => wt j (sg S)) g.Blocks.length 0).1
  simp only [Nat.zero_add] at this
  show (trimL g (sg S) _ g.Blocks.length 0).length = _
  rw [this]; simp [wt]
theorem trim_get {v : Nat} (hv : v < g.Blocks.length) (h : sg S v = true) : (trimmed g S).Blocks.getD (wt v (sg S)) zBlock = rel (fun j => wt j (sg S)) (g.Blocks.getD v zBlock) := by
  have := (trimL_get g (sg S) (fun j => wt j (sg S)) g.Blocks.length 0).2 v (Nat.zero_le _) (by omega) h
  have h0 : wt 0 (sg S) = 0 := by simp [wt]
  rw [h0, Nat.sub_zero] at this
  exact this

theorem rel_ops (f : Nat → Nat) (b : Block) : (rel f b).Ops = b.Ops := by
  unfold rel; repeat' split
  all_goals rfl

theorem trim_num (hF : Fine g) (hS : Seen g S) {v j : Nat} (hv : v < g.Blocks.length) (h : sg S v = true) (hn : nx (g.Blocks.getD v zBlock).End j) : sg S j = true ∧ wt j (sg S) < wt g.Blocks.length (sg S) := by
  have hr := (hS.iff v hv).1 h
  have hj := reach_in hF (.step hr hn)
  have hs := (hS.iff j hj).2 (.step hr hn)
  refine ⟨hs, ?_⟩
  have h1 := wt_succ j (sg S)
  rw [hs, if_pos rfl] at h1
  have := wt_step_mono (sg S) (show j + 1 ≤ g.Blocks.length by omega)
  omega

theorem count_trim (g : Graph) (S : Nat → Bool) (f : Nat → Nat) : ∀ (n i : Nat), i + n ≤ g.Blocks.length → count (trimL g S f n i) ≤ count ((g.Blocks.drop i).take n)
  | 0, i, h => by simp [trimL, count]
  | n + 1, i, h => by
    have ih := count_trim g S f n (i + 1) (by omega)
    have hd : (g.Blocks.drop i).take (n + 1) = g.Blocks.getD i zBlock :: (g.Blocks.drop (i + 1)).take n := by
      rw [List.drop_eq_getElem_cons (by omega), List.take_succ_cons]; simp [List.getD, show i < g.Blocks.length by omega]
    rw [hd]
    simp only [trimL]
    split
    · simp only [count, List.map_cons, List.sum_cons, rel_ops] at ih ⊢; omega
    · simp only [count, List.map_cons, List.sum_cons] at ih ⊢; omega

theorem trim_good (hG : Good g) (hS : Seen g S) : Good (trimmed g S) := by
  have hF := hG.fine
  have hlen := hG.len
  have hl := trim_len g S
  have hw := wt_le g.Blocks.length (sg S)
  have hsrc : ∀ i, i < (trimmed g S).Blocks.length → ∃ v, v < g.Blocks.length ∧ sg S v = true ∧ wt v (sg S) = i := fun i hi => wt_onto _ _ _ (by rw [← hl]; exact hi)
  refine ⟨⟨?_, fun i hi => ?_, fun i hi m hm => ?_⟩, by omega, ?_⟩
  · rw [hl]
    have h0 := (hS.iff 0 hF.pos).2 .zero
    have h1 : wt 1 (sg S) = wt 0 (sg S) + (if sg S 0 then 1 else 0) := wt_succ 0 (sg S)
    rw [h0, if_pos rfl] at h1
    have := wt_step_mono (sg S) (show 1 ≤ g.Blocks.length from hF.pos)
    omega
  · obtain ⟨v, v1, v2, rfl⟩ := hsrc i hi
    rw [trim_get v1 v2, hl]
    have ht := hG.right.term v v1
    have hnum := fun j => trim_num hF hS v1 v2 (j := j)
    generalize g.Blocks.getD v zBlock = b at ht hnum
    unfold rel
    split
    · rename_i hk
      have q1 := (hnum _ (.inl ⟨.inr hk, rfl⟩)).2
      have q2 := (hnum _ (.inr ⟨hk, rfl⟩)).2
      unfold TermR at ht ⊢
      rcases ht with h | h | h | h
      · omega
      · omega
      · omega
      · right; right; right
        exact ⟨h.1, h.2.1, h.2.2.1, h.2.2.2.1, h.2.2.2.2.1, h.2.2.2.2.2.1, h.2.2.2.2.2.2.1, h.2.2.2.2.2.2.2.1, by simp only; omega, by simp only; omega, by simp only; omega, by simp only; omega⟩
    · split
      · rename_i hk
        have q1 := (hnum _ (.inl ⟨.inl hk, rfl⟩)).2
        unfold TermR at ht ⊢
        rcases ht with h | h | h | h
        · left
          exact ⟨h.1, h.2.1, h.2.2.1, h.2.2.2.1, h.2.2.2.2.1, h.2.2.2.2.2.1, by simp only; omega, by simp only; omega⟩
        · omega
        · omega
        · omega
      · rename_i h2 h1
        unfold TermR at ht ⊢
        rcases ht with h | h | h | h
        · exact absurd h.1 h1
        · exact .inr (.inl h)
        · exact .inr (.inr (.inl h))
        · exact absurd h.1 h2
  · obtain ⟨v, v1, v2, rfl⟩ := hsrc i hi
    rw [trim_get v1 v2, rel_ops] at hm ⊢
    exact hG.right.op v v1 m hm
  · have := count_trim g (sg S) (fun j => wt j (sg S)) g.Blocks.length 0 (by omega)
    rw [List.drop_zero, List.take_length] at this
    have h2 := hG.ops
    exact Nat.le_trans this h2

theorem trim_count (g : Graph) (S : List Bool) : count (trimmed g S).Blocks ≤ count g.Blocks := by
  have := count_trim g (sg S) (fun j => wt j (sg S)) g.Blocks.length 0 (by omega)
  rwa [List.drop_zero, List.take_length] at this

/-- In a trimmed graph one comes to all blocks. -/
theorem trim_reach (hF : Fine g) (hS : Seen g S) : ∀ {v : Nat}, Reach g v → Reach (trimmed g S) (wt v (sg S)) := by
  intro v h
  induction h with
  | zero => exact .zero
  | @step i j hi hn ih =>
    have hil := reach_in hF hi
    have hsi := (hS.iff i hil).2 hi
    refine .step ih ?_
    rw [trim_get hil hsi]
    unfold rel
    rcases hn with ⟨hk, rfl⟩ | ⟨hk, rfl⟩
    · left
      rcases hk with hk | hk
      · rw [if_neg (by omega), if_pos hk]
        exact ⟨.inl hk, by simp⟩
      · rw [if_pos hk]
        exact ⟨.inr hk, by simp⟩
    · right
      rw [if_pos hk]
      exact ⟨hk, by simp⟩

theorem wt_all {p : Nat → Bool} : ∀ {n : Nat}, (∀ i, i < n → p i = true) → wt n p = n
  | 0, _ => rfl
  | n + 1, h => by rw [wt_succ, wt_all fun i hi => h i (by omega), h n (by omega), if_pos rfl]

/-- Trimmed again it stays. -/
theorem trim_again (hF : Fine g) (hS : Seen g S) {T : List Bool} (hG2 : Good (trimmed g S)) (hT : Seen (trimmed g S) T) : trimmed (trimmed g S) T = trimmed g S := by
  have hl := trim_len g S
  have hall : ∀ i, i < (trimmed g S).Blocks.length → sg T i = true := fun i hi => by
    obtain ⟨v, v1, v2, rfl⟩ := wt_onto (sg S) g.Blocks.length i (by rw [← hl]; exact hi)
    exact (hT.iff _ hi).2 (trim_reach hF hS ((hS.iff v v1).1 v2))
  generalize trimmed g S = h at hall hT hG2
  have hlen : (trimmed h T).Blocks.length = h.Blocks.length := by rw [trim_len, wt_all hall]
  have : (trimmed h T).Blocks = h.Blocks := by
    apply List.ext_getElem hlen
    intro i h1 h2
    have hw : wt i (sg T) = i := wt_all fun j hj => hall j (by omega)
    have := trim_get (g := h) (S := T) h2 (hall i h2)
    rw [hw] at this
    have ht := (hG2.right.term i h2).ok
    have hrel : rel (fun j => wt j (sg T)) (h.Blocks.getD i zBlock) = h.Blocks.getD i zBlock := by
      have hid : ∀ t : Int, 0 ≤ t ∧ t < h.Blocks.length → ((wt t.toNat (sg T) : Nat) : Int) = t := fun t ht => by
        rw [wt_all fun j hj => hall j (by omega)]; omega
      generalize h.Blocks.getD i zBlock = b at ht
      unfold rel
      split
      · rename_i hk
        obtain ⟨t1, t2, t3, t4⟩ := ht.to2 hk
        rw [hid _ ⟨t1, t2⟩, hid _ ⟨t3, t4⟩]
      · split
        · rename_i hk
          rw [hid _ (ht.to1 hk)]
        · rfl
    rw [hrel] at this
    simpa [List.getD, h1, h2] using this
  obtain ⟨nm, kp, lf, bl⟩ := h
  unfold trimmed at this ⊢
  simp only at this ⊢
  rw [this]
end

/-! ### The same graphs -/
theorem same_l1 (g : Graph) (hS : Small g) {i : Nat} (hi : i < g.Blocks.length) : ∀ (k j : Nat), (g.Blocks.getD i zBlock).Ops.length < k + j → j ≤ (g.Blocks.getD i zBlock).Ops.length → g10_ref16_Same.l1 1000 g g (i : Int) k (j : Int) = some (.inr ())
  | 0, j, h, hj => by omega
  | k + 1, j, h, hj => by
    have hI : 0 ≤ (i : Int) ∧ (i : Int) < (g.Blocks.length : Int) := by omega
    have hops := hS.ops i hi
    simp only [g10_ref16_Same.l1, Int.toNat_natCast]
    rw [gd_t hI]
    by_cases hlt : j < (g.Blocks.getD i zBlock).Ops.length
    · have hJ : 0 ≤ (j : Int) ∧ (j : Int) < ((g.Blocks.getD i zBlock).Ops.length : Int) := by omega
      rw [dt hJ.2, cond_true, gd_t hI, gd_t hJ, gd_t hI, gd_t hJ]
      simp only [beq_self_eq_true, Bool.and_self, Bool.not_true, cond_false]
      rw [wsucc hlt (by omega)]
      exact same_l1 g hS hi k (j + 1) (by omega) (by omega)
    · rw [df (by omega), cond_false]

theorem same_l0 (g : Graph) (hS : Small g) : ∀ (k i : Nat), g.Blocks.length < k + i → i ≤ g.Blocks.length → g10_ref16_Same.l0 1000 g g k (i : Int) = some (.inr ())
  | 0, i, h, hi => by omega
  | k + 1, i, h, hi => by
    have hlen := hS.len
    simp only [g10_ref16_Same.l0, Int.toNat_natCast]
    by_cases hlt : i < g.Blocks.length
    · have hI : 0 ≤ (i : Int) ∧ (i : Int) < (g.Blocks.length : Int) := by omega
      have hops := hS.ops i hlt
      have h1 := same_l1 g hS hlt 1000 0 (by omega) (by omega)
      have h1 : g10_ref16_Same.l1 1000 g g (i : Int) 1000 0 = some (.inr ()) := h1
      rw [dt hI.2, cond_true, gd_t hI, gd_t hI]
      simp only [beq_self_eq_true, Bool.and_self, Bool.not_true, bne_self_eq_false, cond_false]
      rw [gd_t (fun _ => hI), gd_t (fun _ => hI), h1]
      simp only [Option.bind_some]
      rw [wsucc hlt (by omega)]
      exact same_l0 g hS k (i + 1) (by omega) (by omega)
    · rw [df (by omega), cond_false]

theorem same_ok {g : Graph} (hS : Small g) : g10_ref16_Same 1000 g g = some true := by
  have hlen := hS.len
  have h0 := same_l0 g hS 1000 0 (by omega) (by omega)
  have h0 : g10_ref16_Same.l0 1000 g g 1000 0 = some (.inr ()) := h0
  unfold g10_ref16_Same
  simp only [beq_self_eq_true, Bool.not_true, cond_false, bne_self_eq_false, h0, Option.bind_some]

/-- A graph, made better. -/
theorem graph_ok {g : Graph} (hG : Good g) : ∃ h, g17_dead_Graph 1000 g = some h ∧ Good h ∧ h.Blocks.length ≤ g.Blocks.length ∧ count h.Blocks ≤ count g.Blocks ∧ h.Name = g.Name ∧ (g.Keep = true → h = g) ∧ (g.Keep = false → g13_dead_Trim 1000 h = some h) := by
  unfold g17_dead_Graph
  cases hk : g.Keep with
  | true =>
    simp only [cond_true, copied_ok (show 200 < 1000 by omega) hG.fine.small, Option.bind_some]
    exact ⟨g, rfl, hG, Nat.le_refl _, Nat.le_refl _, rfl, fun _ => rfl, fun h => by cases h⟩
  | false =>
    have hcount : ∀ x : Graph, count (threaded x).Blocks = count x.Blocks := by
      intro x
      show count (x.Blocks.map (thrB x)) = _
      generalize x.Blocks = l
      induction l with
      | nil => rfl
      | cons b r ih =>
        simp only [count, List.map_cons, List.sum_cons] at ih ⊢
        rw [ih]
        congr 1
        unfold thrB; repeat' split
        all_goals rfl
    have hlent : ∀ x : Graph, (threaded x).Blocks.length = x.Blocks.length := fun x => by simp [threaded]
    have g1 := thread_good hG
    obtain ⟨S1, s1, e1⟩ := trim_ok g1.fine
    have g2 := trim_good g1 s1
    obtain ⟨N, n1, n2, n3⟩ := sweep_ok g2
    have g3 := n2.kept.good g2
    have g4 := thread_good g3
    obtain ⟨S2, s2, e2⟩ := trim_ok g4.fine
    have g5 := trim_good g4 s2
    obtain ⟨S3, s3, e3⟩ := trim_ok g5.fine
    rw [trim_again g4.fine s2 g5 s3] at e3
    simp only [cond_false, thread_ok (show 200 < 1000 by omega) hG.fine, e1, n1, thread_ok (show 200 < 1000 by omega) g3.fine, e2, Option.bind_some]
    have k1 := n2.kept.len; have k2 := n2.kept.cnt; have k3 := n2.kept.name
    have l1 := trim_len (threaded g) S1; have l2 := trim_len (threaded N) S2
    have w1 := wt_le (threaded g).Blocks.length (sg S1); have w2 := wt_le (threaded N).Blocks.length (sg S2)
    have c1 := trim_count (threaded g) S1; have c2 := trim_count (threaded N) S2
    have := hlent g; have := hlent N; have := hcount g; have := hcount N
    exact ⟨_, rfl, g5, by omega, by omega, k3, fun h => (by cases h), fun _ => e3⟩
end Go.Proofs.Ytoooalfhjcfinaa.T
