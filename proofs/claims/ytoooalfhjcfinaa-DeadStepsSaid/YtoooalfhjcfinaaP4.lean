/- A part of the proofs of this seat: what functions of the program compute, and what follows from it; without conditions. -/
import Derived.Test.YtoooalfhjcfinaaP3

namespace Go.Proofs.Ytoooalfhjcfinaa.T
open Go.Abs
set_option linter.unusedVariables false
set_option linter.unusedSimpArgs false

theorem with_self {g : Graph} {i : Nat} (hi : i < g.Blocks.length) : withOps g i (opsAt g i) = g := by
  obtain ⟨nm, kp, lf, bl⟩ := g
  unfold withOps opsAt
  congr 1
  apply List.ext_getElem?
  intro m
  rw [List.getElem?_set]
  split
  · rename_i e; subst e
    simp only at hi
    simp [List.getD, hi]
  · rfl

theorem doing_all {g : Graph} {i : Nat} : ∀ (n j : Nat), (opsAt g i).length - j = n → (∀ q, j ≤ q → q < (opsAt g i).length → idle g i q = false) → doing g i j = (opsAt g i).drop j
  | 0, j, h, hd => by rw [doing_end (by omega), List.drop_of_length_le (by omega)]
  | n + 1, j, h, hd => by
    rw [doing_step (by omega), hd j (Nat.le_refl _) (by omega), doing_all n (j + 1) (by omega) (fun q h1 h2 => hd q (by omega) h2)]
    rw [List.drop_eq_getElem_cons (show j < (opsAt g i).length by omega)]
    simp [List.getD, show j < (opsAt g i).length by omega]

structure Like (r g : Graph) : Prop where
  name : g.Name = r.Name
  keep : g.Keep = r.Keep
  leaf : g.Leaf = r.Leaf
theorem Like.eq {r g : Graph} (h : Like r g) : (⟨r.Name, r.Keep, r.Leaf, g.Blocks⟩ : Graph) = g := by
  obtain ⟨a, b, c⟩ := h
  rw [← a, ← b, ← c]
theorem Like.kept {r g h : Graph} (hl : Like r g) (hk : Kept g h) : Like r h := ⟨hk.name.trans hl.name, hk.keep.trans hl.keep, hk.leaf.trans hl.leaf⟩

theorem sweep_l1 (r1 : Graph) (xa : ByteArray) (xb : List Block) : ∀ (k i : Nat) (h : Graph) (ch : Bool), h.Blocks.length < k + i → i ≤ h.Blocks.length → xb.length = h.Blocks.length → Good h → Like r1 h →
    ∃ h' ch', g15_dead_Sweep.l1 1000 r1 xa xb k h.Blocks ch (i : Int) = some (ch', h'.Blocks) ∧ Steps h h' ∧ (ch = true → ch' = true) ∧
      (ch' = false → h' = h ∧ ∀ j, i ≤ j → j < h.Blocks.length → ∀ q, q < (opsAt h j).length → idle h j q = false) ∧ (ch = false → ch' = true → count h'.Blocks < count h.Blocks)
  | 0, i, h, ch, hk, hi, hx, hG, hL => by omega
  | k + 1, i, h, ch, hk, hi, hx, hG, hL => by
    have hlen := hG.len
    simp only [g15_dead_Sweep.l1, Int.toNat_natCast]
    by_cases hlt : i < h.Blocks.length
    · have hI : 0 ≤ (i : Int) ∧ (i : Int) < (h.Blocks.length : Int) := by omega
      obtain ⟨A, a1, a2, a3⟩ := after_ok hG hlt
      have hsm : (opsAt h i).length ≤ 300 := hG.fine.small.ops i hlt
      have hl2 := sweep_l2 r1 xa xb ch hG hlt a2 a3 1000 0 [] (by omega) (by omega) (by simp)
      have hl2 : g15_dead_Sweep.l2 1000 r1 xa xb h.Blocks ch (i : Int) A 1000 [] 0 = some (doing h i 0) := hl2
      rw [dt (show (i : Int) < (xb.length : Int) by omega), cond_true, hL.eq, a1]
      simp only [Option.bind_some]
      rw [gd_t hI, hl2]
      simp only [Option.bind_some]
      rw [gd_t hI, wsucc hlt (by omega), a2]
      obtain ⟨d1, d2⟩ := doing_len (g := h) (i := i) _ 0 rfl
      rw [Nat.sub_zero] at d1 d2
      obtain ⟨s1, _⟩ := doing_steps hlt _ 0 rfl (Nat.zero_le _)
      rw [List.take_zero, List.nil_append] at s1
      have hb : h.Blocks.set i ⟨doing h i 0, (h.Blocks.getD i zBlock).End⟩ = (withOps h i (doing h i 0)).Blocks := rfl
      rw [hb]
      have hkp := s1.kept
      have hwc := with_count hlt (doing h i 0)
      by_cases hd : (doing h i 0).length < (opsAt h i).length
      · have e : (bif ch then true else decide (((doing h i 0).length : Int) < ((opsAt h i).length : Int))) = true := by
          rw [dt (by omega)]; cases ch <;> rfl
        rw [e]
        obtain ⟨h', ch', x1, x2, x3, x4, x5⟩ := sweep_l1 r1 xa xb k (i + 1) (withOps h i (doing h i 0)) true (by rw [with_len]; omega) (by rw [with_len]; omega) (by rw [with_len]; exact hx) (hkp.good hG) (hL.kept hkp)
        have hc := x3 rfl
        refine ⟨h', ch', x1, s1.trans x2, fun _ => hc, fun hf => (by rw [hc] at hf; cases hf), fun _ _ => ?_⟩
        have := x2.kept.cnt
        omega
      · have hno := d2 (by omega)
        have he : withOps h i (doing h i 0) = h := by
          rw [doing_all _ 0 rfl (fun q _ h2 => hno q (Nat.zero_le _) h2), List.drop_zero, with_self hlt]
        have e : (bif ch then true else decide (((doing h i 0).length : Int) < ((opsAt h i).length : Int))) = ch := by
          rw [df (by omega)]; cases ch <;> rfl
        rw [e, he]
        obtain ⟨h', ch', x1, x2, x3, x4, x5⟩ := sweep_l1 r1 xa xb k (i + 1) h ch (by omega) (by omega) hx hG hL
        refine ⟨h', ch', x1, x2, x3, fun hf => ?_, x5⟩
        obtain ⟨y1, y2⟩ := x4 hf
        refine ⟨y1, fun j h1 h2 q h3 => ?_⟩
        rcases Nat.lt_or_ge i j with h4 | h4
        · exact y2 j h4 h2 q h3
        · have : j = i := by omega
          subst this; exact hno q (Nat.zero_le _) h3
    · rw [df (show ¬ (i : Int) < (xb.length : Int) by omega), cond_false]
      exact ⟨h, ch, rfl, .refl _, fun h => h, fun _ => ⟨rfl, fun j h1 h2 => by omega⟩, fun h1 h2 => by rw [h1] at h2; cases h2⟩

theorem sweep_l0 (r1 : Graph) (xa : ByteArray) : ∀ (k : Nat) (h : Graph), count h.Blocks + 1 < k → Good h → Like r1 h →
    ∃ N, g15_dead_Sweep.l0 1000 r1 k xa h.Blocks true = some (xa, N.Blocks) ∧ Steps h N ∧ Normal N
  | 0, h, hk, hG, hL => by omega
  | k + 1, h, hk, hG, hL => by
    have hlen := hG.len
    simp only [g15_dead_Sweep.l0, cond_true]
    obtain ⟨h', ch', x1, x2, x3, x4, x5⟩ := sweep_l1 r1 xa h.Blocks 1000 0 h false (by omega) (by omega) rfl hG hL
    have x1 : g15_dead_Sweep.l1 1000 r1 xa h.Blocks 1000 h.Blocks false 0 = some (ch', h'.Blocks) := x1
    rw [x1]
    simp only [Option.bind_some]
    cases ch' with
    | true =>
      have := x5 rfl rfl
      have hkp := x2.kept
      obtain ⟨N, n1, n2, n3⟩ := sweep_l0 r1 xa k h' (by omega) (hkp.good hG) (hL.kept hkp)
      exact ⟨N, n1, x2.trans n2, n3⟩
    | false =>
      obtain ⟨y1, y2⟩ := x4 rfl
      subst y1
      cases k with
      | zero => omega
      | succ k => exact ⟨h', rfl, .refl _, fun j q h1 h2 => y2 j (Nat.zero_le _) h1 q h2⟩

theorem sweep_ok {g : Graph} (hG : Good g) : ∃ N, g15_dead_Sweep 1000 g = some N ∧ Steps g N ∧ Normal N := by
  have := hG.ops
  obtain ⟨N, n1, n2, n3⟩ := sweep_l0 g ByteArray.empty 1000 g (by omega) hG ⟨rfl, rfl, rfl⟩
  refine ⟨N, ?_, n2, n3⟩
  simp only [g15_dead_Sweep, copied_ok (show 200 < 1000 by omega) hG.fine.small, Option.bind_some, n1]
  have hL : Like g N := Like.kept ⟨rfl, rfl, rfl⟩ n2.kept
  rw [hL.eq]

/-! ### The reference's Sweep -/
theorem rin_l2 (g : Graph) (x95 : Int) (xs : List Bool) {i r : Nat} (hi : i < g.Blocks.length) (hr1 : 1 ≤ r) (hr2 : r < 16) (hm : (opsAt g i).length ≤ 300) (ho : ∀ m, m < (opsAt g i).length → InsOk ((opsAt g i).getD m zOp).Ins) : ∀ (k j : Nat) (x : Bool), j < k → j ≤ (opsAt g i).length →
    g46_ref19_In.l2 1000 g (r : Int) x95 xs (i : Int) k x ((j : Int) - 1) = some (foldB ((opsAt g i).take j) r x)
  | 0, j, x, h, hj => by omega
  | k + 1, j, x, h, hj => by
    simp only [g46_ref19_In.l2, Int.toNat_natCast]
    cases j with
    | zero => rfl
    | succ j =>
      have e1 : (((j + 1 : Nat) : Int) - 1).toNat = j := by omega
      have hI : 0 ≤ (i : Int) ∧ (i : Int) < (g.Blocks.length : Int) := by omega
      have g2 : 0 ≤ ((j + 1 : Nat) : Int) - 1 ∧ ((j + 1 : Nat) : Int) - 1 < ((g.Blocks.getD i zBlock).Ops.length : Int) := by unfold opsAt at hj; omega
      have hb := rbefore_ok 1000 (ho j (by omega)) hr1 hr2 x
      have hb : g47_ref19_before 1000 ((g.Blocks.getD i zBlock).Ops.getD j zOp) (r : Int) x = some (bef ((opsAt g i).getD j zOp).Ins r x) := hb
      rw [dt (show ((j + 1 : Nat) : Int) - 1 ≥ 0 by omega), cond_true, gd_t hI, gd_t g2, wpred (by omega)]
      simp only [e1, hb, Option.bind_some]
      rw [rin_l2 g x95 xs hi hr1 hr2 hm ho k j _ (by omega) (by omega), take_opD _ (by omega)]
      simp [foldB]

theorem getD_setBo (X : List Bool) {i : Nat} (h : i < X.length) (n : Bool) (j : Nat) : (X.set i n).getD j false = if j = i then n else X.getD j false := by
  by_cases e : j = i
  · subst e; simp [List.getD, h]
  · rw [if_neg e]; simp [List.getD, List.getElem?_set_ne (Ne.symm e)]

theorem rin_l1 {g : Graph} (hG : Good g) {r : Nat} (hr1 : 1 ≤ r) (hr2 : r < 16) (x95 : Int) : ∀ (k i : Nat) (X : List Bool), g.Blocks.length < k + i → i ≤ g.Blocks.length → X.length = g.Blocks.length → (∀ j, X.getD j false = true → Lv g r j) →
    ∃ X', g46_ref19_In.l1 1000 g (r : Int) x95 k X (i : Int) = some X' ∧ X'.length = g.Blocks.length ∧ (∀ j, X'.getD j false = true → Lv g r j) ∧ (∀ j, X.getD j false = true → X'.getD j false = true) ∧
      (X' = X → ∀ j, i ≤ j → j < g.Blocks.length → ahd (g.Blocks.getD j zBlock) r (fun m => X.getD m false) = true → X.getD j false = true)
  | 0, i, X, h, hi, hX, hL => by omega
  | k + 1, i, X, h, hi, hX, hL => by
    have hlen := hG.len
    simp only [g46_ref19_In.l1, Int.toNat_natCast]
    by_cases hlt : i < g.Blocks.length
    · have hI : 0 ≤ (i : Int) ∧ (i : Int) < (g.Blocks.length : Int) := by omega
      have hI2 : 0 ≤ (i : Int) ∧ (i : Int) < (X.length : Int) := by omega
      have hsm : (opsAt g i).length ≤ 300 := hG.fine.small.ops i hlt
      have he := rend_ok 1000 (t := (g.Blocks.getD i zBlock).End) (X := X) (by rw [hX]; exact hG.right.term i hlt) hr1 hr2
      have hl2 := rin_l2 g x95 X hlt hr1 hr2 hsm (fun m hm => (hG.right.op i hlt m hm).ok) 1000 (opsAt g i).length (endB (g.Blocks.getD i zBlock).End r (fun j => X.getD j false)) (by omega) (Nat.le_refl _)
      rw [List.take_length] at hl2
      have hl3 : g46_ref19_In.l2 1000 g (r : Int) x95 X (i : Int) 1000 (endB (g.Blocks.getD i zBlock).End r (fun j => X.getD j false)) (((g.Blocks.getD i zBlock).Ops.length : Int) - 1) = some (ahd (g.Blocks.getD i zBlock) r (fun j => X.getD j false)) := hl2
      rw [dt hI2.2, cond_true, gd_t hI, he]
      simp only [Option.bind_some]
      rw [gd_t hI, wi (by unfold opsAt at hsm; omega) (by unfold opsAt at hsm; omega), hl3]
      simp only [Option.bind_some]
      rw [gd_t hI2, gd_t hI2, wsucc hlt (by omega)]
      generalize hv : (bif X.getD i false then true else ahd (g.Blocks.getD i zBlock) r fun j => X.getD j false) = v
      have hget := getD_setBo X (show i < X.length by omega) v
      have hvl : v = true → Lv g r i := by
        intro hvt
        rw [← hv] at hvt
        cases hxi : X.getD i false with
        | true => exact hL i hxi
        | false =>
          rw [hxi] at hvt
          exact lv_fix.2 (ahd_mono (fun m hm => lvB_iff.2 (hL m hm)) hvt)
      have hxv : X.getD i false = true → v = true := fun hx => by rw [← hv, hx]; rfl
      obtain ⟨X', x1, x2, x3, x4, x5⟩ := rin_l1 hG hr1 hr2 x95 k (i + 1) (X.set i v) (by omega) (by omega) (by simp [hX]) (fun j hj => by
        rw [hget] at hj; split at hj
        · rename_i e; subst e; exact hvl hj
        · exact hL j hj)
      have hmono : ∀ j, X.getD j false = true → (X.set i v).getD j false = true := fun j hj => by
        rw [hget]; split
        · rename_i e; subst e; exact hxv hj
        · exact hj
      refine ⟨X', x1, x2, x3, fun j hj => x4 j (hmono j hj), fun he j h1 h2 h3 => ?_⟩
      have hse : X.set i v = X := by
        apply List.ext_getElem (by simp)
        intro m q1 q2
        have hq : (X.set i v).getD m false = X.getD m false := by
          rw [Bool.eq_iff_iff]
          exact ⟨fun hh => by rw [← he]; exact x4 m hh, hmono m⟩
        simp only [List.getD, List.getElem?_eq_getElem q1, List.getElem?_eq_getElem q2, Option.getD_some] at hq
        exact hq
      rcases Nat.lt_or_ge i j with h4 | h4
      · have := x5 (by rw [he, hse]) j h4 h2
        rw [hse] at this
        exact this h3
      · have : j = i := by omega
        subst this
        have hvj : v = X.getD j false := by
          have := hget j
          rw [if_pos rfl, hse] at this; exact this.symm
        rw [← hvj, ← hv, h3]
        cases X.getD j false <;> rfl
    · rw [df (show ¬ (i : Int) < (X.length : Int) by omega), cond_false]
      exact ⟨X, rfl, hX, hL, fun _ h => h, fun _ j h1 h2 => by omega⟩

theorem wt_eq {p q : Nat → Bool} {n : Nat} (h : ∀ i, i < n → p i = true → q i = true) (he : wt n p = wt n q) : ∀ i, i < n → p i = q i := by
  intro i hi
  cases hp : p i with
  | true => exact (h i hi hp).symm
  | false =>
    cases hq : q i with
    | false => rfl
    | true => exact absurd (wt_lt h ⟨i, hi, hp, hq⟩) (by omega)

theorem rin_l0 {g : Graph} (hG : Good g) {r : Nat} (hr1 : 1 ≤ r) (hr2 : r < 16) : ∀ (k n : Nat) (X : List Bool), g.Blocks.length + 1 < k + n → n ≤ g.Blocks.length + 1 → X.length = g.Blocks.length → (∀ j, X.getD j false = true → Lv g r j) →
    ((∀ j, j < g.Blocks.length → ahd (g.Blocks.getD j zBlock) r (fun m => X.getD m false) = true → X.getD j false = true) ∨ n ≤ wt g.Blocks.length fun j => X.getD j false) →
    ∃ X', g46_ref19_In.l0 1000 g (r : Int) k X (n : Int) = some X' ∧ X'.length = g.Blocks.length ∧ ∀ j, j < g.Blocks.length → (X'.getD j false = true ↔ Lv g r j)
  | 0, n, X, h, hn, hX, hL, hd => by omega
  | k + 1, n, X, h, hn, hX, hL, hd => by
    have hlen := hG.len
    simp only [g46_ref19_In.l0]
    have hw := wt_le g.Blocks.length fun j => X.getD j false
    by_cases hlt : n ≤ g.Blocks.length
    · obtain ⟨X', x1, x2, x3, x4, x5⟩ := rin_l1 hG hr1 hr2 (n : Int) 1000 0 X (by omega) (by omega) hX hL
      have x1 : g46_ref19_In.l1 1000 g (r : Int) (n : Int) 1000 X 0 = some X' := x1
      rw [dt (show (n : Int) ≤ (X.length : Int) by omega), cond_true, x1]
      simp only [Option.bind_some]
      rw [wi (by omega) (by omega), show (n : Int) + 1 = ((n + 1 : Nat) : Int) by omega]
      refine rin_l0 hG hr1 hr2 k (n + 1) X' (by omega) (by omega) x2 x3 ?_
      have hm := wt_mono (n := g.Blocks.length) (p := fun j => X.getD j false) (q := fun j => X'.getD j false) (fun j _ hj => x4 j hj)
      by_cases he : wt g.Blocks.length (fun j => X.getD j false) = wt g.Blocks.length fun j => X'.getD j false
      · left
        have hq := wt_eq (n := g.Blocks.length) (p := fun j => X.getD j false) (q := fun j => X'.getD j false) (fun j _ hj => x4 j hj) he
        have hXX : X' = X := by
          apply List.ext_getElem (by omega)
          intro m q1 q2
          have := hq m (by omega)
          simp only [List.getD, List.getElem?_eq_getElem q1, List.getElem?_eq_getElem q2, Option.getD_some] at this
          exact this.symm
        rw [hXX]
        exact fun j hj ha => x5 hXX j (Nat.zero_le _) hj ha
      · rcases hd with hd | hd
        · have hXX : ∀ j, j < g.Blocks.length → X'.getD j false = X.getD j false := by
            intro j hj
            rw [Bool.eq_iff_iff]
            exact ⟨fun hh => lv_least_in hG.right (X := fun m => X.getD m false) hd j hj (x3 j hh), x4 j⟩
          exfalso; apply he
          unfold wt
          congr 1
          refine List.filter_congr fun j hj => (hXX j (List.mem_range.1 hj)).symm
        · right; omega
    · rw [df (show ¬ (n : Int) ≤ (X.length : Int) by omega), cond_false]
      refine ⟨X, rfl, hX, fun j hj => ⟨hL j, fun hl => ?_⟩⟩
      rcases hd with hd | hd
      · exact lv_least_in hG.right (X := fun m => X.getD m false) hd j hj hl
      · omega

theorem rin_ok {g : Graph} (hG : Good g) {r : Nat} (hr1 : 1 ≤ r) (hr2 : r < 16) : ∃ X, g46_ref19_In 1000 g (r : Int) = some X ∧ X.length = g.Blocks.length ∧ ∀ j, j < g.Blocks.length → (X.getD j false = true ↔ Lv g r j) := by
  have hlen := hG.len
  have h0 : ∀ j, (List.replicate g.Blocks.length false).getD j false = false := by
    intro j; simp only [List.getD, List.getElem?_replicate]; split <;> rfl
  obtain ⟨X, x1, x2⟩ := rin_l0 hG hr1 hr2 1000 0 (List.replicate g.Blocks.length false) (by omega) (by omega) (by simp) (fun j hj => by rw [h0] at hj; cases hj) (.inr (Nat.zero_le _))
  have x1 : g46_ref19_In.l0 1000 g (r : Int) 1000 (List.replicate g.Blocks.length false) 0 = some X := x1
  refine ⟨X, ?_, x2⟩
  simp only [g46_ref19_In, Int.toNat_natCast]
  rw [gd_t (by omega), x1]
  rfl
end Go.Proofs.Ytoooalfhjcfinaa.T

namespace Go.Proofs.Ytoooalfhjcfinaa.T
open Go.Abs
set_option linter.unusedVariables false
set_option linter.unusedSimpArgs false

theorem rafter_l0 {g : Graph} {i r : Nat} (hi : i < g.Blocks.length) (hr1 : 1 ≤ r) (hr2 : r < 16) (hm : (opsAt g i).length ≤ 300) (ho : ∀ m, m < (opsAt g i).length → InsOk ((opsAt g i).getD m zOp).Ins) (e : Bool) : ∀ (k j : Nat) (out : List Bool) (now : Bool), j < k → j ≤ (opsAt g i).length → out.length = (opsAt g i).length →
    now = foldB ((opsAt g i).drop j) r e →
    ∃ A, g40_ref19_After.l0 1000 g (i : Int) (r : Int) k out now ((j : Int) - 1) = some A ∧ A.length = (opsAt g i).length ∧ (∀ q, q < j → A.getD q false = foldB ((opsAt g i).drop (q + 1)) r e) ∧ ∀ q, j ≤ q → A.getD q false = out.getD q false
  | 0, j, out, now, h, hj, hl, hn => by omega
  | k + 1, j, out, now, h, hj, hl, hn => by
    simp only [g40_ref19_After.l0, Int.toNat_natCast]
    cases j with
    | zero => exact ⟨out, rfl, hl, fun q hq => by omega, fun q _ => rfl⟩
    | succ j =>
      have e1 : (((j + 1 : Nat) : Int) - 1).toNat = j := by omega
      have hb := rbefore_ok 1000 (ho j (by omega)) hr1 hr2 now
      have hb : g47_ref19_before 1000 ((g.Blocks.getD i zBlock).Ops.getD j zOp) (r : Int) now = some (bef ((opsAt g i).getD j zOp).Ins r now) := hb
      have g1 : 0 ≤ ((j + 1 : Nat) : Int) - 1 ∧ ((j + 1 : Nat) : Int) - 1 < (out.length : Int) := by omega
      have g2 : 0 ≤ ((j + 1 : Nat) : Int) - 1 ∧ ((j + 1 : Nat) : Int) - 1 < ((g.Blocks.getD i zBlock).Ops.length : Int) := by
        unfold opsAt at hj; omega
      rw [dt (show ((j + 1 : Nat) : Int) - 1 ≥ 0 by omega), cond_true, gd_t g1, gd_t g2, wpred (by omega)]
      simp only [e1, hb, Option.bind_some]
      have hd : (opsAt g i).drop j = (opsAt g i).getD j zOp :: (opsAt g i).drop (j + 1) := by
        rw [List.drop_eq_getElem_cons (by omega)]; simp [List.getD, show j < (opsAt g i).length by omega]
      obtain ⟨A, a1, a2, a3, a4⟩ := rafter_l0 hi hr1 hr2 hm ho e k j (out.set j now) (bef ((opsAt g i).getD j zOp).Ins r now) (by omega) (by omega) (by simp [hl]) (by rw [hn, hd]; rfl)
      refine ⟨A, a1, a2, fun q hq => ?_, fun q hq => ?_⟩
      · rcases Nat.lt_or_ge q j with h1 | h1
        · exact a3 q h1
        · have : q = j := by omega
          subst this
          rw [a4 q (Nat.le_refl _), getD_setBo out (by omega), if_pos rfl]
          exact hn
      · rw [a4 q (by omega), getD_setBo out (by omega), if_neg (by omega)]

theorem rafter_ok {g : Graph} (hG : Good g) {i r : Nat} (hi : i < g.Blocks.length) (hr1 : 1 ≤ r) (hr2 : r < 16) : ∃ A, g40_ref19_After 1000 g (i : Int) (r : Int) = some A ∧ A.length = (opsAt g i).length ∧ ∀ q, q < (opsAt g i).length → A.getD q false = aft g i q r := by
  have hlen := hG.len
  have hm : (opsAt g i).length ≤ 300 := hG.fine.small.ops i hi
  obtain ⟨X, x1, x2, x3⟩ := rin_ok hG hr1 hr2
  have ht := hG.right.term i hi
  have he := rend_ok 1000 (t := (g.Blocks.getD i zBlock).End) (X := X) (by rw [x2]; exact ht) hr1 hr2
  have hee : endB (g.Blocks.getD i zBlock).End r (fun j => X.getD j false) = endB (g.Blocks.getD i zBlock).End r (lvB g r) :=
    endB_congr ht.ok fun j hj => by rw [Bool.eq_iff_iff, x3 j hj, lvB_iff]
  obtain ⟨A, a1, a2, a3, _⟩ := rafter_l0 hi hr1 hr2 hm (fun m hm => (hG.right.op i hi m hm).ok) (endB (g.Blocks.getD i zBlock).End r (lvB g r)) 1000 (opsAt g i).length (List.replicate (opsAt g i).length false) _ (by omega) (Nat.le_refl _) (by simp) rfl
  rw [List.drop_length] at a1
  refine ⟨A, ?_, a2, a3⟩
  unfold g40_ref19_After
  have hI : 0 ≤ (i : Int) ∧ (i : Int) < (g.Blocks.length : Int) := by omega
  simp only [Int.toNat_natCast]
  rw [gd_t hI, gd_t (by unfold opsAt at hm; omega), gd_t hI, x1]
  simp only [Option.bind_some, he, hee]
  rw [wi (by omega) (by unfold opsAt at hm; omega)]
  have a1 : g40_ref19_After.l0 1000 g (i : Int) (r : Int) 1000 (List.replicate (g.Blocks.getD i zBlock).Ops.length false) (endB (g.Blocks.getD i zBlock).End r (lvB g r)) (((g.Blocks.getD i zBlock).Ops.length : Int) - 1) = some A := a1
  rw [a1]
  rfl

theorem ridle_ok {g : Graph} (hG : Good g) {i k : Nat} (hi : i < g.Blocks.length) (hk : k < (opsAt g i).length) : g29_ref22_idle 1000 g (i : Int) (k : Int) = some (idle g i k) := by
  have hI : 0 ≤ (i : Int) ∧ (i : Int) < (g.Blocks.length : Int) := by omega
  have hK : 0 ≤ (k : Int) ∧ (k : Int) < ((g.Blocks.getD i zBlock).Ops.length : Int) := by unfold opsAt at hk; omega
  have hok := (hG.right.op i hi k hk).ok
  obtain ⟨w1, w2, w3⟩ := wr_in hok
  unfold g29_ref22_idle
  rw [gd_t hI]
  simp only [Int.toNat_natCast]
  rw [gd_t hK]
  simp only [rwrites_ok, rkind_ok 1000 hok, Option.bind_some]
  unfold idle idleB
  generalize ho : ((g.Blocks.getD i zBlock).Ops.getD k zOp).Ins = o at hok w1 w2 w3
  by_cases hkd : kind o = 0
  · have e : (kind o == 0) = true := by rw [hkd]; rfl
    by_cases hw : wr o < 0
    · rw [e, dt hw, dt hkd]
      simp only [Bool.not_true, Bool.and_false, cond_false, Option.bind_some]
      rw [gd_t (by intro h; cases h)]
      rfl
    · obtain ⟨A, a1, a2, a3⟩ := rafter_ok hG (r := (wr o).toNat) hi (by omega) (by omega)
      have hcast : (((wr o).toNat : Nat) : Int) = wr o := by omega
      rw [hcast] at a1
      rw [e, df hw, dt hkd]
      simp only [Bool.not_false, Bool.and_true, cond_true, a1, Option.bind_some]
      rw [gd_t (by intro _; omega), a3 k hk]
      simp
  · have e : (kind o == 0) = false := by simp [hkd]
    rw [e, df hkd]
    simp only [Bool.false_and, cond_false, Option.bind_some]
    rw [gd_t (by intro h; cases h)]

theorem erase_take (l : List Op') {k : Nat} (h : k < l.length) : l.take k ++ l.drop (k + 1) = l.eraseIdx k := by
  rw [List.eraseIdx_eq_take_drop_succ]

theorem rsweep_l2 (r1 : Graph) (xa : ByteArray) {h : Graph} (hG : Good h) (hL : Like r1 h) {i : Nat} (hi : i < h.Blocks.length) : ∀ (k j : Nat), (opsAt h i).length + 1 < k + j → j ≤ (opsAt h i).length →
    (∃ q, q < (opsAt h i).length ∧ idle h i q = true ∧ g16_ref22_Sweep.l2 1000 r1 xa (i : Int) k h.Blocks false (j : Int) = some (true, (rm h i q).Blocks)) ∨
    (g16_ref22_Sweep.l2 1000 r1 xa (i : Int) k h.Blocks false (j : Int) = some (false, h.Blocks) ∧ ∀ q, j ≤ q → q < (opsAt h i).length → idle h i q = false)
  | 0, j, hk, hj => by omega
  | k + 1, j, hk, hj => by
    have hsm : (opsAt h i).length ≤ 300 := hG.fine.small.ops i hi
    have hI : 0 ≤ (i : Int) ∧ (i : Int) < (h.Blocks.length : Int) := by omega
    simp only [g16_ref22_Sweep.l2, Int.toNat_natCast]
    rw [gd_t hI]
    by_cases hlt : j < (opsAt h i).length
    · have hJ : (j : Int) < ((h.Blocks.getD i zBlock).Ops.length : Int) := by unfold opsAt at hlt; omega
      rw [dt hJ]
      simp only [Bool.not_false, cond_true, hL.eq, ridle_ok hG hi hlt, Option.bind_some]
      cases hid : idle h i j with
      | true =>
        left
        refine ⟨j, hlt, hid, ?_⟩
        simp only [cond_true]
        have hw : IntKind.i64.wrap ((j : Int) + 1) = ((j + 1 : Nat) : Int) := wsucc hlt (by omega)
        rw [gd_t hI, gd_t (by omega), gd_t (by simp; omega), hw, gd_t (by omega)]
        simp only [Int.toNat_natCast, List.nil_append]
        rw [gd_t (by simp only [List.length_take, List.length_drop]; unfold opsAt at hsm; omega), gd_t hI]
        have he := erase_take (h.Blocks.getD i zBlock).Ops (k := j) hlt
        rw [he]
        have hb : h.Blocks.set i ⟨(h.Blocks.getD i zBlock).Ops.eraseIdx j, (h.Blocks.getD i zBlock).End⟩ = (rm h i j).Blocks := rfl
        rw [hb]
        cases k with
        | zero => omega
        | succ k =>
          simp only [g16_ref22_Sweep.l2]
          rw [gd_t (by rw [rm_len]; exact hI)]
          simp only [Bool.not_true]
          cases decide (((j + 1 : Nat) : Int) < (((rm h i j).Blocks.getD ((i : Int)).toNat zBlock).Ops.length : Int)) <;> rfl
      | false =>
        simp only [cond_false]
        rw [wsucc hlt (by omega)]
        rcases rsweep_l2 r1 xa hG hL hi k (j + 1) (by omega) (by omega) with h1 | ⟨h1, h2⟩
        · exact .inl h1
        · refine .inr ⟨h1, fun q h3 h4 => ?_⟩
          rcases Nat.lt_or_ge j q with h5 | h5
          · exact h2 q h5 h4
          · have : q = j := by omega
            subst this; exact hid
    · have hJ : ¬ (j : Int) < ((h.Blocks.getD i zBlock).Ops.length : Int) := by unfold opsAt at hlt; omega
      right
      rw [df hJ]
      exact ⟨rfl, fun q h1 h2 => by omega⟩

theorem rsweep_l1 (r1 : Graph) (xa : ByteArray) {h : Graph} (hG : Good h) (hL : Like r1 h) : ∀ (k i : Nat), h.Blocks.length + 1 < k + i → i ≤ h.Blocks.length →
    (∃ h', Step h h' ∧ g16_ref22_Sweep.l1 1000 r1 xa k h.Blocks false (i : Int) = some (true, h'.Blocks)) ∨
    (g16_ref22_Sweep.l1 1000 r1 xa k h.Blocks false (i : Int) = some (false, h.Blocks) ∧ ∀ j, i ≤ j → j < h.Blocks.length → ∀ q, q < (opsAt h j).length → idle h j q = false)
  | 0, i, hk, hi => by omega
  | k + 1, i, hk, hi => by
    have hlen := hG.len
    simp only [g16_ref22_Sweep.l1]
    by_cases hlt : i < h.Blocks.length
    · have hsm : (opsAt h i).length ≤ 300 := hG.fine.small.ops i hlt
      rw [dt (show (i : Int) < (h.Blocks.length : Int) by omega)]
      simp only [Bool.not_false, cond_true]
      rw [wsucc hlt (by omega)]
      rcases rsweep_l2 r1 xa hG hL hlt 1000 0 (by omega) (by omega) with ⟨q, q1, q2, q3⟩ | ⟨q3, q4⟩
      · left
        have q3 : g16_ref22_Sweep.l2 1000 r1 xa (i : Int) 1000 h.Blocks false 0 = some (true, (rm h i q).Blocks) := q3
        refine ⟨rm h i q, ⟨i, q, hlt, q1, q2, rfl⟩, ?_⟩
        rw [q3]
        simp only [Option.bind_some]
        cases k with
        | zero => omega
        | succ k =>
          simp only [g16_ref22_Sweep.l1, Bool.not_true]
          cases decide (((i + 1 : Nat) : Int) < ((rm h i q).Blocks.length : Int)) <;> rfl
      · have q3 : g16_ref22_Sweep.l2 1000 r1 xa (i : Int) 1000 h.Blocks false 0 = some (false, h.Blocks) := q3
        rw [q3]
        simp only [Option.bind_some]
        rcases rsweep_l1 r1 xa hG hL k (i + 1) (by omega) (by omega) with h1 | ⟨h1, h2⟩
        · exact .inl h1
        · refine .inr ⟨h1, fun j h3 h4 q h5 => ?_⟩
          rcases Nat.lt_or_ge i j with h6 | h6
          · exact h2 j h6 h4 q h5
          · have : j = i := by omega
            subst this; exact q4 q (Nat.zero_le _) h5
    · right
      rw [df (show ¬ (i : Int) < (h.Blocks.length : Int) by omega)]
      exact ⟨rfl, fun j h1 h2 => by omega⟩

theorem Step.cnt {g h : Graph} (hs : Step g h) : count h.Blocks < count g.Blocks := by
  obtain ⟨i, k, hi, hk, _, rfl⟩ := hs
  have := with_count hi ((opsAt g i).eraseIdx k)
  rw [List.length_eraseIdx_of_lt hk] at this
  unfold rm; omega

theorem rsweep_l0 (r1 : Graph) (xa : ByteArray) : ∀ (k : Nat) (h : Graph), count h.Blocks < k → Good h → Like r1 h →
    ∃ N, g16_ref22_Sweep.l0 1000 r1 k xa h.Blocks = some N.Blocks ∧ Steps h N ∧ Normal N
  | 0, h, hk, hG, hL => by omega
  | k + 1, h, hk, hG, hL => by
    have hlen := hG.len
    simp only [g16_ref22_Sweep.l0]
    rcases rsweep_l1 r1 xa hG hL 1000 0 (by omega) (by omega) with ⟨h', s, h1⟩ | ⟨h1, h2⟩
    · have h1 : g16_ref22_Sweep.l1 1000 r1 xa 1000 h.Blocks false 0 = some (true, h'.Blocks) := h1
      rw [h1]
      simp only [Option.bind_some, Bool.not_true, cond_false]
      have := s.cnt
      obtain ⟨N, n1, n2, n3⟩ := rsweep_l0 r1 xa k h' (by omega) (s.kept.good hG) (hL.kept s.kept)
      exact ⟨N, n1, .step s n2, n3⟩
    · have h1 : g16_ref22_Sweep.l1 1000 r1 xa 1000 h.Blocks false 0 = some (false, h.Blocks) := h1
      rw [h1]
      exact ⟨h, rfl, .refl _, fun j q h3 h4 => h2 j (Nat.zero_le _) h3 q h4⟩

theorem copy_l0 (K : Nat) {g : Graph} (hF : Small g) : ∀ (k i : Nat), g.Blocks.length < k + i → i ≤ g.Blocks.length →
    g21_ref16_Copy.l0 K g k (g.Blocks.take i) (i : Int) = some (ByteArray.empty, g.Blocks)
  | 0, i, h, hl => by omega
  | k + 1, i, h, hl => by
    have hlen := hF.len
    simp only [g21_ref16_Copy.l0, Int.toNat_natCast]
    by_cases hi : i < g.Blocks.length
    · have hI : 0 ≤ (i : Int) ∧ (i : Int) < (g.Blocks.length : Int) := by omega
      have hops := hF.ops i hi
      rw [dt (by omega), cond_true, gd_t hI, gd_t (by simp; simp at hops; omega), gd_t hI, gd_t (by simp; omega), wsucc hi (by omega)]
      have := copy_l0 K hF k (i + 1) (by omega) (by omega)
      rw [take_getD _ hi] at this
      rw [List.nil_append]
      exact this
    · rw [df (by omega), cond_false]
      have : i = g.Blocks.length := by omega
      rw [this, List.take_length]

theorem copy_ok {K : Nat} (hK : 200 < K) {g : Graph} (hF : Small g) : g21_ref16_Copy K g = some g := by
  have hlen := hF.len
  have := copy_l0 K hF K 0 (by omega) (by omega)
  have : g21_ref16_Copy.l0 K g K [] 0 = some (ByteArray.empty, g.Blocks) := this
  simp only [g21_ref16_Copy, this, Option.bind_some]

theorem rsweep_ok {g : Graph} (hG : Good g) : ∃ N, g16_ref22_Sweep 1000 g = some N ∧ Steps g N ∧ Normal N := by
  have := hG.ops
  obtain ⟨N, n1, n2, n3⟩ := rsweep_l0 g ByteArray.empty 1000 g (by omega) hG ⟨rfl, rfl, rfl⟩
  refine ⟨N, ?_, n2, n3⟩
  simp only [g16_ref22_Sweep, copy_ok (show 200 < 1000 by omega) hG.fine.small, Option.bind_some, n1]
  have hL : Like g N := Like.kept ⟨rfl, rfl, rfl⟩ n2.kept
  rw [hL.eq]

/-- Both sweep alike. -/
theorem sweeps {g : Graph} (hG : Good g) : ∃ N, g15_dead_Sweep 1000 g = some N ∧ g16_ref22_Sweep 1000 g = some N ∧ Steps g N ∧ Normal N := by
  obtain ⟨N, n1, n2, n3⟩ := sweep_ok hG
  obtain ⟨M, m1, m2, m3⟩ := rsweep_ok hG
  have : N = M := n2.unique n3 m2 m3
  subst this
  exact ⟨N, n1, m1, n2, n3⟩
end Go.Proofs.Ytoooalfhjcfinaa.T

namespace Go.Proofs.Ytoooalfhjcfinaa.T
open Go.Abs
set_option linter.unusedVariables false
set_option linter.unusedSimpArgs false

theorem thr_stay {g : Graph} : ∀ (n : Nat) (b : Int), (0 < (g.Blocks.getD b.toNat zBlock).Ops.length ∨ (g.Blocks.getD b.toNat zBlock).End.Kind ≠ 1) → thr g n b = b
  | 0, b, h => rfl
  | n + 1, b, h => by simp only [thr]; rw [if_pos h]

theorem rthrough_l0 (K : Nat) {g : Graph} (hF : Fine g) : ∀ (k x : Nat) (b : Int), 0 ≤ b ∧ b < g.Blocks.length → g.Blocks.length < k + x → x ≤ g.Blocks.length →
    g25_ref22_through.l0 K g k b (x : Int) = some (thr g (g.Blocks.length - x) b)
  | 0, x, b, hb, h, hl => by omega
  | k + 1, x, b, hb, h, hl => by
    have hlen := hF.len
    simp only [g25_ref22_through.l0]
    by_cases hx : x < g.Blocks.length
    · rw [dt (by omega), cond_true, gd_t hb, show g.Blocks.length - x = (g.Blocks.length - (x + 1)) + 1 by omega, gd_t (fun _ => hb), wsucc hx (by omega)]
      simp only [thr]
      by_cases ho : 0 < (g.Blocks.getD b.toNat zBlock).Ops.length
      · have e : (((g.Blocks.getD b.toNat zBlock).Ops.length : Int) == 0) = false := by
          rw [beq_eq_false_iff_ne]; omega
        rw [e, cond_false, cond_false, if_pos (.inl ho), rthrough_l0 K hF k (x + 1) b hb (by omega) (by omega), thr_stay _ _ (.inl ho)]
      · have e : (((g.Blocks.getD b.toNat zBlock).Ops.length : Int) == 0) = true := by
          rw [beq_iff_eq]; omega
        rw [e, cond_true]
        by_cases hk : (g.Blocks.getD b.toNat zBlock).End.Kind = 1
        · have e2 : ((g.Blocks.getD b.toNat zBlock).End.Kind == 1) = true := by rw [hk]; rfl
          rw [e2, cond_true, gd_t hb, if_neg (by rintro (h | h); exact ho h; exact h hk)]
          exact rthrough_l0 K hF k (x + 1) _ ((hF.term b.toNat (by omega)).to1 hk) (by omega) (by omega)
        · have e2 : ((g.Blocks.getD b.toNat zBlock).End.Kind == 1) = false := beq_eq_false_iff_ne.2 hk
          rw [e2, cond_false, if_pos (.inr hk), rthrough_l0 K hF k (x + 1) b hb (by omega) (by omega), thr_stay _ _ (.inr hk)]
    · rw [df (by omega), cond_false]
      have : x = g.Blocks.length := by omega
      subst this
      simp [thr]

theorem rthrough_ok {K : Nat} (hK : 30 < K) {g : Graph} (hF : Fine g) {b : Int} (hb : 0 ≤ b ∧ b < g.Blocks.length) : g25_ref22_through K g b = some (thr g g.Blocks.length b) := by
  have hlen := hF.len
  have := rthrough_l0 K hF K 0 b hb (by omega) (by omega)
  have : g25_ref22_through.l0 K g K b 0 = some (thr g g.Blocks.length b) := this
  simp only [g25_ref22_through, this, Option.bind_some]

theorem rthread_l0 {K : Nat} (hK : 200 < K) {g : Graph} (hF : Fine g) : ∀ (k i : Nat), g.Blocks.length < k + i → i ≤ g.Blocks.length →
    g12_ref22_Thread.l0 K g g k ((g.Blocks.take i).map (thrB g) ++ g.Blocks.drop i) (i : Int) = some (ByteArray.empty, g.Blocks.map (thrB g))
  | 0, i, h, hl => by omega
  | k + 1, i, h, hl => by
    have hlen := hF.len
    simp only [g12_ref22_Thread.l0, Int.toNat_natCast]
    by_cases hi : i < g.Blocks.length
    · obtain ⟨s1, s2, s3⟩ := thread_step hi
      have ih := rthread_l0 hK hF k (i + 1) (by omega) (by omega)
      rw [← s3] at ih
      generalize (g.Blocks.take i).map (thrB g) ++ g.Blocks.drop i = x at s1 s2 ih
      have hI : 0 ≤ (i : Int) ∧ (i : Int) < (x.length : Int) := by omega
      have hI2 : 0 ≤ (i : Int) ∧ (i : Int) < (g.Blocks.length : Int) := by omega
      have hx : i < x.length := by omega
      have ht := hF.term i hi
      rw [dt (by omega), cond_true, gd_t hI2, wsucc hi (by omega)]
      generalize hb : g.Blocks.getD i zBlock = b at s2 ih ht
      simp only [s2, gd_t hI]
      by_cases h2 : b.End.Kind = 2
      · obtain ⟨t1, t2, t3, t4⟩ := ht.to2 h2
        have e1 : (b.End.Kind == 1) = false := by rw [h2]; rfl
        have e : (b.End.Kind == 2) = true := by rw [h2]; rfl
        simp only [e1, e, cond_true, cond_false, rthrough_ok (show 30 < K by omega) hF ⟨t3, t4⟩, rthrough_ok (show 30 < K by omega) hF ⟨t1, t2⟩, Option.bind_some]
        simp only [thrB, h2, if_true] at ih
        by_cases hq : thr g g.Blocks.length b.End.To = thr g g.Blocks.length b.End.Else
        · have e2 : (thr g g.Blocks.length b.End.Else == thr g g.Blocks.length b.End.To) = true := by simp [hq]
          rw [if_pos hq] at ih
          rw [e2, cond_true]
          exact ih
        · have e2 : (thr g g.Blocks.length b.End.Else == thr g g.Blocks.length b.End.To) = false := by rw [beq_eq_false_iff_ne]; exact fun h => hq h.symm
          rw [if_neg hq] at ih
          rw [e2, cond_false, h2]
          exact ih
      · have e : (b.End.Kind == 2) = false := by simp [h2]
        by_cases h1 : b.End.Kind = 1
        · obtain ⟨t1, t2⟩ := ht.to1 h1
          have e1 : (b.End.Kind == 1) = true := by rw [h1]; rfl
          simp only [e, e1, cond_true, cond_false, rthrough_ok (show 30 < K by omega) hF ⟨t1, t2⟩, Option.bind_some]
          simp only [thrB, h1] at ih
          rw [h1]
          exact ih
        · have e1 : (b.End.Kind == 1) = false := by simp [h1]
          simp only [e, e1, cond_false]
          have et : thrB g b = b := by simp [thrB, h2, h1]
          rw [et] at ih
          exact ih
    · have hl2 : ((g.Blocks.take i).map (thrB g) ++ g.Blocks.drop i).length = g.Blocks.length := by simp; omega
      rw [df (by omega), cond_false]
      have : i = g.Blocks.length := by omega
      subst this
      simp

theorem rthread_ok {K : Nat} (hK : 200 < K) {g : Graph} (hF : Fine g) : g12_ref22_Thread K g = some (threaded g) := by
  have hlen := hF.len
  have := rthread_l0 hK hF K 0 (by omega) (by omega)
  have : g12_ref22_Thread.l0 K g g K g.Blocks 0 = some (ByteArray.empty, g.Blocks.map (thrB g)) := by simpa using this
  simp only [g12_ref22_Thread, copy_ok hK hF.small, Option.bind_some, this]
  rfl

/-- What is threaded is right, and as big. -/
theorem thread_good {g : Graph} (hG : Good g) : Good (threaded g) := by
  have hF := hG.fine
  have hl : (threaded g).Blocks.length = g.Blocks.length := by simp [threaded]
  have hb : ∀ i, i < g.Blocks.length → (threaded g).Blocks.getD i zBlock = thrB g (g.Blocks.getD i zBlock) := fun i hi => by simp [threaded, List.getD, hi]
  have hops : ∀ b, (thrB g b).Ops = b.Ops := fun b => by unfold thrB; repeat' split
                                                         all_goals rfl
  have hcnt : ∀ l : List Block, count (l.map (thrB g)) = count l := by
    intro l
    induction l with
    | nil => rfl
    | cons b r ih => simp only [count, List.map_cons, List.sum_cons] at ih ⊢; rw [hops, ih]
  refine ⟨⟨by rw [hl]; exact hG.right.pos, fun i hi => ?_, fun i hi m hm => ?_⟩, by rw [hl]; exact hG.len, by show count (g.Blocks.map (thrB g)) ≤ 100; rw [hcnt]; exact hG.ops⟩
  · rw [hl] at hi ⊢
    rw [hb i hi]
    have ht := hG.right.term i hi
    have hok := ht.ok
    generalize g.Blocks.getD i zBlock = b at ht hok
    unfold thrB
    split
    · rename_i hk
      obtain ⟨t1, t2, t3, t4⟩ := hok.to2 hk
      have q1 := thr_in hF g.Blocks.length _ ⟨t1, t2⟩
      have q2 := thr_in hF g.Blocks.length _ ⟨t3, t4⟩
      split
      · left; exact ⟨rfl, rfl, rfl, rfl, rfl, ⟨rfl, rfl, rfl, rfl, rfl⟩, q1.1, q1.2⟩
      · unfold TermR at ht ⊢
        rcases ht with h | h | h | h
        · omega
        · omega
        · omega
        · right; right; right
          exact ⟨h.1, h.2.1, h.2.2.1, h.2.2.2.1, h.2.2.2.2.1, h.2.2.2.2.2.1, h.2.2.2.2.2.2.1, h.2.2.2.2.2.2.2.1, q1.1, q1.2, q2.1, q2.2⟩
    · split
      · rename_i hk
        have q1 := thr_in hF g.Blocks.length _ (hok.to1 hk)
        unfold TermR at ht ⊢
        rcases ht with h | h | h | h
        · left
          exact ⟨h.1, h.2.1, h.2.2.1, h.2.2.2.1, h.2.2.2.2.1, h.2.2.2.2.2.1, q1.1, q1.2⟩
        · omega
        · omega
        · omega
      · exact ht
  · rw [hl] at hi
    rw [hb i hi] at hm ⊢
    rw [hops] at hm ⊢
    exact hG.right.op i hi m hm
end Go.Proofs.Ytoooalfhjcfinaa.T
