/- A part of the proofs of this seat: what functions of the program compute, and what follows from it; without conditions. -/
import Derived.Test.YtoooalfhjcfinaaP2

namespace Go.Proofs.Ytoooalfhjcfinaa.T
open Go.Abs
set_option linter.unusedVariables false
set_option linter.unusedSimpArgs false

/-! ### What is live -/
def foldB (ops : List Op') (r : Nat) (x : Bool) : Bool := ops.foldr (fun o x => bef o.Ins r x) x
def ahd (b : Block) (r : Nat) (X : Nat → Bool) : Bool := foldB b.Ops r (endB b.End r X)
def le (X Y : Nat → Bool) : Prop := ∀ i, X i = true → Y i = true

theorem bef_mono {i : Ins} {r : Nat} {x y : Bool} (h : x = true → y = true) : bef i r x = true → bef i r y = true := by
  unfold bef
  split
  · exact fun h => h
  · simp only [Bool.or_eq_true, Bool.and_eq_true]
    exact Or.imp_left fun ⟨a, b⟩ => ⟨h a, b⟩
theorem foldB_mono {r : Nat} : ∀ {ops : List Op'} {x y : Bool}, (x = true → y = true) → foldB ops r x = true → foldB ops r y = true
  | [], x, y, h => h
  | o :: l, x, y, h => bef_mono (foldB_mono (ops := l) h)
theorem endB_mono {t : Term} {r : Nat} {X Y : Nat → Bool} (h : le X Y) : endB t r X = true → endB t r Y = true := by
  unfold endB
  split
  · exact h _
  · split
    · simp only [Bool.or_eq_true]
      exact Or.imp_left (Or.imp (h _) (h _))
    · exact fun h => h
theorem ahd_mono {b : Block} {r : Nat} {X Y : Nat → Bool} (h : le X Y) : ahd b r X = true → ahd b r Y = true := foldB_mono (endB_mono h)

def it (g : Graph) (r : Nat) : Nat → Nat → Bool
  | 0, _ => false
  | n + 1, i => ahd (g.Blocks.getD i zBlock) r (it g r n)
def Lv (g : Graph) (r : Nat) (i : Nat) : Prop := ∃ n, it g r n i = true
noncomputable def lvB (g : Graph) (r : Nat) (i : Nat) : Bool := @decide (Lv g r i) (Classical.propDecidable _)
theorem lvB_iff {g : Graph} {r i : Nat} : lvB g r i = true ↔ Lv g r i := by simp [lvB]

theorem it_le {g : Graph} {r : Nat} : ∀ n, le (it g r n) (it g r (n + 1))
  | 0 => fun i h => by cases h
  | n + 1 => fun i h => ahd_mono (it_le n) h
theorem it_mono {g : Graph} {r : Nat} {n m : Nat} (h : n ≤ m) : le (it g r n) (it g r m) := by
  induction h with
  | refl => exact fun i h => h
  | step _ ih => exact fun i hi => it_le _ i (ih i hi)

theorem end_some {g : Graph} {r : Nat} {t : Term} (h : endB t r (lvB g r) = true) : ∃ n, endB t r (it g r n) = true := by
  unfold endB at h ⊢
  split at h
  · rename_i hk
    obtain ⟨n, hn⟩ := lvB_iff.1 h
    exact ⟨n, by rw [if_pos hk]; exact hn⟩
  · rename_i hk
    split at h
    · rename_i hk2
      simp only [Bool.or_eq_true] at h
      rcases h with (h | h) | h
      · obtain ⟨n, hn⟩ := lvB_iff.1 h
        exact ⟨n, by rw [if_neg hk, if_pos hk2, hn]; rfl⟩
      · obtain ⟨n, hn⟩ := lvB_iff.1 h
        exact ⟨n, by rw [if_neg hk, if_pos hk2, hn]; simp⟩
      · exact ⟨0, by rw [if_neg hk, if_pos hk2, h]; simp⟩
    · rename_i hk2
      exact ⟨0, by rw [if_neg hk, if_neg hk2]; exact h⟩

/-- What is live, is so by one round more. -/
theorem lv_fix {g : Graph} {r i : Nat} : Lv g r i ↔ ahd (g.Blocks.getD i zBlock) r (lvB g r) = true := by
  constructor
  · rintro ⟨n, h⟩
    cases n with
    | zero => cases h
    | succ n => exact ahd_mono (fun j hj => lvB_iff.2 ⟨n, hj⟩) h
  · intro h
    unfold ahd at h
    cases he : endB (g.Blocks.getD i zBlock).End r (lvB g r) with
    | true =>
      obtain ⟨n, hn⟩ := end_some he
      refine ⟨n + 1, ?_⟩
      show foldB _ r (endB _ r (it g r n)) = true
      rw [hn]; rw [he] at h; exact h
    | false =>
      rw [he] at h
      exact ⟨1, foldB_mono (fun x => by cases x) h⟩

theorem lv_least {g : Graph} {r : Nat} {X : Nat → Bool} (h : ∀ i, ahd (g.Blocks.getD i zBlock) r X = true → X i = true) : ∀ i, Lv g r i → X i = true := by
  have key : ∀ n, le (it g r n) X := by
    intro n
    induction n with
    | zero => exact fun i h => by cases h
    | succ n ih => exact fun i hi => h i (ahd_mono ih hi)
  rintro i ⟨n, hn⟩
  exact key n i hn

theorem endB_congr {t : Term} {n r : Nat} {X Y : Nat → Bool} (h : TermOk t n) (hXY : ∀ j, j < n → X j = Y j) : endB t r X = endB t r Y := by
  unfold endB
  split
  · rename_i hk
    have := h.to1 hk
    exact hXY _ (by omega)
  · split
    · rename_i hk
      obtain ⟨t1, t2, t3, t4⟩ := h.to2 hk
      rw [hXY _ (by omega), hXY _ (by omega)]
    · rfl

theorem lv_least_in {g : Graph} (hR : RightP g) {r : Nat} {X : Nat → Bool} (h : ∀ i, i < g.Blocks.length → ahd (g.Blocks.getD i zBlock) r X = true → X i = true) : ∀ i, i < g.Blocks.length → Lv g r i → X i = true := by
  intro i hi hl
  have h2 := lv_least (X := fun j => X j || decide (g.Blocks.length ≤ j)) (fun j hj => ?_) i hl
  · simpa [Nat.not_le.2 hi] using h2
  · rcases Nat.lt_or_ge j g.Blocks.length with h1 | h1
    · rw [Bool.or_eq_true]
      left
      refine h j h1 ?_
      unfold ahd at hj ⊢
      rwa [endB_congr (Y := X) (hR.term j h1).ok (fun m hm => by simp [Nat.not_le.2 hm])] at hj
    · simp [h1]

theorem wpred {j : Nat} (h : j ≤ 1000000) : IntKind.i64.wrap (((j + 1 : Nat) : Int) - 1 - 1) = (j : Int) - 1 := by
  rw [wi (by omega) (by omega)]; omega

theorem take_opD (l : List Op') {i : Nat} (h : i < l.length) : l.take (i + 1) = l.take i ++ [l.getD i zOp] := by
  rw [List.take_add_one]
  simp [List.getD, h]

theorem ahead_l0 (b : Block) (hl : b.Ops.length ≤ 300) (ho : ∀ m, m < b.Ops.length → InsOk (b.Ops.getD m zOp).Ins) : ∀ (k j : Nat) (a : Int), j < k → j ≤ b.Ops.length → U a →
    ∃ n, g44_live_ahead.l0 1000 b k a ((j : Int) - 1) = some n ∧ U n ∧ ∀ r : Nat, bt n r = foldB (b.Ops.take j) r (bt a r)
  | 0, j, a, h, hj, hu => by omega
  | k + 1, j, a, h, hj, hu => by
    simp only [g44_live_ahead.l0]
    cases j with
    | zero => exact ⟨a, rfl, hu, fun r => rfl⟩
    | succ j =>
      have e : (((j + 1 : Nat) : Int) - 1).toNat = j := by omega
      obtain ⟨n, n1, n2, n3⟩ := fbefore_ok (ho j (by omega)) hu
      rw [dt (show ((j + 1 : Nat) : Int) - 1 ≥ 0 by omega), cond_true, gd_t (by omega), wpred (by omega)]
      simp only [e, n1, Option.bind_some]
      obtain ⟨m, m1, m2, m3⟩ := ahead_l0 b hl ho k j n (by omega) (by omega) n2
      refine ⟨m, m1, m2, fun r => ?_⟩
      rw [m3, n3, take_opD _ (by omega)]
      simp [foldB]

theorem ahead_ok (b : Block) {X : List Int} (hl : b.Ops.length ≤ 300) (ho : ∀ m, m < b.Ops.length → InsOk (b.Ops.getD m zOp).Ins) (ht : TermR b.End X.length) (hX : ∀ j, j < X.length → U (X.getD j 0)) :
    ∃ n, g44_live_ahead 1000 b X = some n ∧ U n ∧ ∀ r : Nat, bt n r = ahd b r (fun j => bt (X.getD j 0) r) := by
  obtain ⟨e, e1, e2, e3⟩ := fend_ok ht hX
  obtain ⟨n, n1, n2, n3⟩ := ahead_l0 b hl ho 1000 b.Ops.length e (by omega) (by omega) e2
  refine ⟨n, ?_, n2, fun r => by rw [n3, e3, List.take_length]; rfl⟩
  simp only [g44_live_ahead, e1, Option.bind_some]
  rw [wi (by omega) (by omega), n1]
  rfl

/-! ### How many bits a list of sets has -/
def bq (X : List Int) (q : Nat) : Bool := bt (X.getD (q / 16) 0) (q % 16)
def wt (n : Nat) (p : Nat → Bool) : Nat := ((List.range n).filter p).length

theorem wt_succ (n : Nat) (p : Nat → Bool) : wt (n + 1) p = wt n p + (if p n then 1 else 0) := by
  unfold wt
  rw [List.range_succ, List.filter_append, List.length_append]
  by_cases h : p n = true
  · simp [h]
  · simp [h]
theorem wt_le (n : Nat) (p : Nat → Bool) : wt n p ≤ n := by
  have := List.length_filter_le p (List.range n)
  simpa [wt] using this
theorem wt_mono {p q : Nat → Bool} : ∀ {n : Nat}, (∀ i, i < n → p i = true → q i = true) → wt n p ≤ wt n q
  | 0, _ => Nat.le_refl _
  | n + 1, h => by
    have ih := wt_mono (n := n) fun i hi => h i (by omega)
    have hn := h n (by omega)
    rw [wt_succ, wt_succ]
    by_cases hp : p n = true
    · rw [if_pos hp, if_pos (hn hp)]; omega
    · rw [if_neg hp]; split <;> omega
theorem wt_lt {p q : Nat → Bool} : ∀ {n : Nat}, (∀ i, i < n → p i = true → q i = true) → (∃ i, i < n ∧ p i = false ∧ q i = true) → wt n p < wt n q
  | 0, _, h => by obtain ⟨i, hi, _⟩ := h; omega
  | n + 1, h, hex => by
    obtain ⟨i, hi, h1, h2⟩ := hex
    have hle := wt_mono (n := n) (p := p) (q := q) fun i hi => h i (by omega)
    rw [wt_succ, wt_succ]
    by_cases hin : i = n
    · subst hin
      rw [if_neg (by rw [h1]; decide), if_pos h2]; omega
    · have ih := wt_lt (n := n) (p := p) (q := q) (fun i hi => h i (by omega)) ⟨i, by omega, h1, h2⟩
      have hn := h n (by omega)
      by_cases hp : p n = true
      · rw [if_pos hp, if_pos (hn hp)]; omega
      · rw [if_neg hp]; split <;> omega

/-- All that is asked of a list of sets at blocks' beginnings. -/
structure Sets (g : Graph) (X : List Int) : Prop where
  len : X.length = g.Blocks.length
  u : ∀ j, j < X.length → U (X.getD j 0)
  low : ∀ r i, bt (X.getD i 0) r = true → Lv g r i
  inc : ∀ r i, bt (X.getD i 0) r = true → ahd (g.Blocks.getD i zBlock) r (fun j => bt (X.getD j 0) r) = true

theorem getD_setI (X : List Int) {i : Nat} (h : i < X.length) (n : Int) (j : Nat) : (X.set i n).getD j 0 = if j = i then n else X.getD j 0 := by
  by_cases e : j = i
  · subst e; simp [List.getD, h]
  · rw [if_neg e]; simp [List.getD, List.getElem?_set_ne (Ne.symm e)]

theorem in_l1 {g : Graph} (hG : Good g) : ∀ (k j : Nat) (X : List Int) (ch : Bool), j < k → j ≤ g.Blocks.length → Sets g X →
    ∃ X' ch', g34_live_In.l1 1000 g k X ch ((j : Int) - 1) = some (ch', X') ∧ Sets g X' ∧ (ch = true → ch' = true) ∧
      (ch' = false → X' = X ∧ ∀ i, i < j → ∀ r, ahd (g.Blocks.getD i zBlock) r (fun j => bt (X.getD j 0) r) = bt (X.getD i 0) r) ∧
      (∀ q, q < g.Blocks.length * 16 → bq X q = true → bq X' q = true) ∧ (ch = false → ch' = true → ∃ q, q < g.Blocks.length * 16 ∧ bq X q = false ∧ bq X' q = true)
  | 0, j, X, ch, h, hj, hS => by omega
  | k + 1, j, X, ch, h, hj, hS => by
    have hlen := hG.len
    simp only [g34_live_In.l1]
    cases j with
    | zero => exact ⟨X, ch, rfl, hS, fun h => h, fun _ => ⟨rfl, fun i hi => by omega⟩, fun q _ h => h, fun h1 h2 => by rw [h1] at h2; cases h2⟩
    | succ j =>
      have hjl : j < g.Blocks.length := by omega
      have e : (((j + 1 : Nat) : Int) - 1).toNat = j := by omega
      have hsm := hG.fine.small.ops j hjl
      obtain ⟨n, n1, n2, n3⟩ := ahead_ok (g.Blocks.getD j zBlock) (X := X) hsm (fun m hm => (hG.right.op j hjl m hm).ok) (by rw [hS.len]; exact hG.right.term j hjl) hS.u
      have hg1 : 0 ≤ ((j + 1 : Nat) : Int) - 1 ∧ ((j + 1 : Nat) : Int) - 1 < (g.Blocks.length : Int) := by omega
      have hg2 : 0 ≤ ((j + 1 : Nat) : Int) - 1 ∧ ((j + 1 : Nat) : Int) - 1 < (X.length : Int) := by rw [hS.len]; exact hg1
      rw [dt (show ((j + 1 : Nat) : Int) - 1 ≥ 0 by omega), cond_true, gd_t hg1, wpred (by omega)]
      simp only [e, n1, Option.bind_some]
      rw [gd_t hg2]
      have hXj : j < X.length := by rw [hS.len]; exact hjl
      by_cases hq : n = X.getD j 0
      · have e2 : (n != X.getD j 0) = false := by rw [hq]; simp
        rw [e2, cond_false]
        obtain ⟨X', ch', x1, x2, x3, x4, x5, x6⟩ := in_l1 hG k j X ch (by omega) (by omega) hS
        refine ⟨X', ch', x1, x2, x3, fun h => ?_, x5, x6⟩
        obtain ⟨y1, y2⟩ := x4 h
        refine ⟨y1, fun i hi r => ?_⟩
        rcases Nat.lt_or_ge i j with h1 | h1
        · exact y2 i h1 r
        · have : i = j := by omega
          subst this
          rw [← n3, hq]
      · have e2 : (n != X.getD j 0) = true := bne_iff_ne.2 hq
        rw [e2, cond_true, gd_t hg2]
        have hget := getD_setI X hXj n
        have hle : ∀ r, le (fun i => bt (X.getD i 0) r) (fun i => bt ((X.set j n).getD i 0) r) := by
          intro r i hi
          simp only at hi ⊢
          rw [hget]
          split
          · rename_i he; subst he
            rw [n3]; exact hS.inc r i hi
          · exact hi
        have hS' : Sets g (X.set j n) := by
          refine ⟨by simp [hS.len], fun i hi => ?_, fun r i hi => ?_, fun r i hi => ?_⟩
          · rw [hget]; split
            · exact n2
            · exact hS.u i (by simpa using hi)
          · rw [hget] at hi
            split at hi
            · rename_i he; subst he
              rw [n3] at hi
              exact lv_fix.2 (ahd_mono (fun m hm => lvB_iff.2 (hS.low r m hm)) hi)
            · exact hS.low r i hi
          · rw [hget] at hi
            split at hi
            · rename_i he; subst he
              rw [n3] at hi
              exact ahd_mono (hle r) hi
            · exact ahd_mono (hle r) (hS.inc r i hi)
        obtain ⟨X', ch', x1, x2, x3, x4, x5, x6⟩ := in_l1 hG k j (X.set j n) true (by omega) (by omega) hS'
        have hch : ch' = true := x3 rfl
        refine ⟨X', ch', x1, x2, fun _ => hch, fun h => (by rw [hch] at h; cases h), fun q hq1 hq2 => x5 q hq1 (hle _ _ hq2), fun _ _ => ?_⟩
        have hex : ∃ r, r < 16 ∧ bt (X.getD j 0) r ≠ bt n r := by
          refine Classical.byContradiction fun hc => hq (bt_ext n2 (hS.u j hXj) fun r hr => ?_)
          exact Classical.byContradiction fun hb => hc ⟨r, hr, fun e => hb e.symm⟩
        obtain ⟨r, hr, hne⟩ := hex
        have hb0 : bt (X.getD j 0) r = false := by
          cases hb : bt (X.getD j 0) r with
          | false => rfl
          | true =>
            exfalso; apply hne; rw [hb, n3]; exact (hS.inc r j hb).symm
        have hb1 : bt n r = true := by
          cases hb : bt n r with
          | true => rfl
          | false => exfalso; apply hne; rw [hb0, hb]
        have hqb : j * 16 + r < g.Blocks.length * 16 := by omega
        have hd : (j * 16 + r) / 16 = j := by omega
        have hm : (j * 16 + r) % 16 = r := by omega
        refine ⟨j * 16 + r, hqb, by simp only [bq, hd, hm]; exact hb0, x5 _ hqb ?_⟩
        simp only [bq, hd, hm, hget, if_pos]
        exact hb1

theorem in_l0 {g : Graph} (hG : Good g) : ∀ (k : Nat) (X : List Int), g.Blocks.length * 16 + 1 < k + wt (g.Blocks.length * 16) (bq X) → Sets g X →
    ∃ X', g34_live_In.l0 1000 g k X true = some X' ∧ X'.length = g.Blocks.length ∧ (∀ j, j < X'.length → U (X'.getD j 0)) ∧ ∀ i, i < g.Blocks.length → ∀ r, bt (X'.getD i 0) r = true ↔ Lv g r i
  | 0, X, h, hS => by have := wt_le (g.Blocks.length * 16) (bq X); omega
  | k + 1, X, h, hS => by
    have hlen := hG.len
    have hw := wt_le (g.Blocks.length * 16) (bq X)
    simp only [g34_live_In.l0, cond_true]
    obtain ⟨X', ch', x1, x2, x3, x4, x5, x6⟩ := in_l1 hG 1000 g.Blocks.length X false (by omega) (by omega) hS
    rw [hS.len, wi (by omega) (by omega), x1]
    simp only [Option.bind_some]
    cases ch' with
    | true =>
      have hlt := wt_lt (p := bq X) (q := bq X') x5 (x6 rfl rfl)
      exact in_l0 hG k X' (by omega) x2
    | false =>
      obtain ⟨y1, y2⟩ := x4 rfl
      subst y1
      cases k with
      | zero => omega
      | succ k =>
        refine ⟨X', rfl, hS.len, hS.u, fun i hi r => ⟨fun h => hS.low r i h, fun h => ?_⟩⟩
        exact lv_least_in hG.right (X := fun j => bt (X'.getD j 0) r) (fun i hi2 h2 => by rw [← y2 i hi2 r]; exact h2) i hi h

/-- What is live at blocks' beginnings. -/
theorem in_ok {g : Graph} (hG : Good g) : ∃ X, g34_live_In 1000 g = some X ∧ X.length = g.Blocks.length ∧ (∀ j, j < X.length → U (X.getD j 0)) ∧ ∀ i, i < g.Blocks.length → ∀ r, bt (X.getD i 0) r = true ↔ Lv g r i := by
  have hlen := hG.len
  have h0 : ∀ i, (List.replicate g.Blocks.length (0 : Int)).getD i 0 = 0 := by
    intro i; simp only [List.getD, List.getElem?_replicate]; split <;> rfl
  have hb0 : ∀ r, bt 0 r = false := fun r => by simp [bt]
  have hS : Sets g (List.replicate g.Blocks.length (0 : Int)) := by
    refine ⟨by simp, fun j _ => ?_, fun r i h => ?_, fun r i h => ?_⟩
    · rw [h0]; exact ⟨by decide, by decide⟩
    · rw [h0, hb0] at h; cases h
    · rw [h0, hb0] at h; cases h
  obtain ⟨X, x1, x2⟩ := in_l0 hG 1000 _ (by omega) hS
  refine ⟨X, ?_, x2⟩
  simp only [g34_live_In, Int.toNat_natCast]
  rw [gd_t (by omega), x1]
  rfl
end Go.Proofs.Ytoooalfhjcfinaa.T

namespace Go.Proofs.Ytoooalfhjcfinaa.T
open Go.Abs
set_option linter.unusedVariables false
set_option linter.unusedSimpArgs false

/-! ### Instructions that do nothing, taken out one by one -/
noncomputable def aft (g : Graph) (i k r : Nat) : Bool := foldB ((g.Blocks.getD i zBlock).Ops.drop (k + 1)) r (endB (g.Blocks.getD i zBlock).End r (lvB g r))
def idleB (i : Ins) (X : Nat → Bool) : Bool := decide (kind i = 0) && (decide (wr i < 0) || !X (wr i).toNat)
noncomputable def idle (g : Graph) (i k : Nat) : Bool := idleB ((g.Blocks.getD i zBlock).Ops.getD k zOp).Ins (aft g i k)
def opsAt (g : Graph) (i : Nat) : List Op' := (g.Blocks.getD i zBlock).Ops
def withOps (g : Graph) (i : Nat) (l : List Op') : Graph := ⟨g.Name, g.Keep, g.Leaf, g.Blocks.set i ⟨l, (g.Blocks.getD i zBlock).End⟩⟩
def rm (g : Graph) (i k : Nat) : Graph := withOps g i ((opsAt g i).eraseIdx k)
def Step (g g' : Graph) : Prop := ∃ i k, i < g.Blocks.length ∧ k < (opsAt g i).length ∧ idle g i k = true ∧ g' = rm g i k
def Normal (g : Graph) : Prop := ∀ i k, i < g.Blocks.length → k < (opsAt g i).length → idle g i k = false
inductive Steps : Graph → Graph → Prop
  | refl (g : Graph) : Steps g g
  | step {a b c : Graph} (h : Step a b) (hs : Steps b c) : Steps a c
theorem Steps.trans {a b c : Graph} (h : Steps a b) (h' : Steps b c) : Steps a c := by
  induction h with
  | refl => exact h'
  | step s _ ih => exact .step s (ih h')

theorem getD_setB (l : List Block) {i : Nat} (h : i < l.length) (b : Block) (j : Nat) : (l.set i b).getD j zBlock = if j = i then b else l.getD j zBlock := by
  by_cases e : j = i
  · subst e; simp [List.getD, h]
  · rw [if_neg e]; simp [List.getD, List.getElem?_set_ne (Ne.symm e)]

theorem with_len (g : Graph) (i : Nat) (l : List Op') : (withOps g i l).Blocks.length = g.Blocks.length := by simp [withOps]
theorem with_blk {g : Graph} {i : Nat} (h : i < g.Blocks.length) (l : List Op') (j : Nat) : (withOps g i l).Blocks.getD j zBlock = if j = i then ⟨l, (g.Blocks.getD i zBlock).End⟩ else g.Blocks.getD j zBlock := getD_setB _ h _ j
theorem with_ops {g : Graph} {i : Nat} (h : i < g.Blocks.length) (l : List Op') (j : Nat) : opsAt (withOps g i l) j = if j = i then l else opsAt g j := by
  unfold opsAt; rw [with_blk h]; split <;> rfl
theorem with_end {g : Graph} {i : Nat} (h : i < g.Blocks.length) (l : List Op') (j : Nat) : ((withOps g i l).Blocks.getD j zBlock).End = (g.Blocks.getD j zBlock).End := by
  rw [with_blk h]; split
  · rename_i e; rw [e]
  · rfl

theorem foldB_erase {r : Nat} : ∀ {l : List Op'} {q : Nat} {e e' : Bool}, q < l.length → (e' = true → e = true) →
    (foldB (l.drop (q + 1)) r e = true → bef (l.getD q zOp).Ins r (foldB (l.drop (q + 1)) r e) = true) → foldB (l.eraseIdx q) r e' = true → foldB l r e = true
  | [], q, e, e', hq, he, hb, h => by simp at hq
  | o :: l, 0, e, e', hq, he, hb, h => by
    simp only [List.eraseIdx_cons_zero] at h
    have h1 := foldB_mono he h
    simp only [Nat.zero_add, List.drop_succ_cons, List.drop_zero, List.getD_cons_zero] at hb
    exact hb h1
  | o :: l, q + 1, e, e', hq, he, hb, h => by
    simp only [List.eraseIdx_cons_succ] at h
    simp only [List.drop_succ_cons, List.getD_cons_succ] at hb
    exact bef_mono (fun hx => foldB_erase (by simpa using hq) he hb hx) h

/-- What does nothing leaves what is live behind it. -/
theorem idle_bef {i : Ins} {X : Nat → Bool} (h : idleB i X = true) (r : Nat) : X r = true → bef i r (X r) = true := by
  intro hx
  simp only [idleB, Bool.and_eq_true, decide_eq_true_eq, Bool.or_eq_true, Bool.not_eq_true'] at h
  obtain ⟨h1, h2⟩ := h
  unfold bef
  rw [if_neg (by omega), hx]
  have : (r : Int) ≠ wr i := by
    intro e
    rcases h2 with h2 | h2
    · omega
    · rw [← e] at h2
      simp at h2
      rw [hx] at h2; cases h2
  rw [dt this]; rfl

theorem rm_lv {g : Graph} {i k : Nat} (hi : i < g.Blocks.length) (hk : k < (opsAt g i).length) (h : idle g i k = true) {r j : Nat} (hl : Lv (rm g i k) r j) : Lv g r j := by
  rw [← lvB_iff]
  refine lv_least (g := rm g i k) (X := lvB g r) (fun j hj => ?_) j hl
  rw [lvB_iff, lv_fix]
  unfold rm at hj
  rw [with_blk hi] at hj
  split at hj
  · rename_i e; subst e
    unfold ahd at hj ⊢
    exact foldB_erase hk (fun x => x) (idle_bef h r) hj
  · exact hj

theorem aft_rm {g : Graph} {i k : Nat} (hi : i < g.Blocks.length) (hk : k < (opsAt g i).length) (h : idle g i k = true) {j : Nat} (r : Nat) :
    endB ((rm g i k).Blocks.getD j zBlock).End r (lvB (rm g i k) r) = true → endB (g.Blocks.getD j zBlock).End r (lvB g r) = true := by
  unfold rm
  rw [with_end hi]
  exact endB_mono fun m hm => lvB_iff.2 (rm_lv hi hk h (lvB_iff.1 hm))

theorem idleB_mono {i : Ins} {X Y : Nat → Bool} (h : le Y X) : idleB i X = true → idleB i Y = true := by
  simp only [idleB, Bool.and_eq_true, decide_eq_true_eq, Bool.or_eq_true, Bool.not_eq_true']
  refine And.imp_right (Or.imp_right fun hx => ?_)
  cases hy : Y (wr i).toNat with
  | false => rfl
  | true => rw [h _ hy] at hx; cases hx

/-- Others that do nothing still do nothing. -/
theorem persist_other {g : Graph} {i k j q : Nat} (hi : i < g.Blocks.length) (hk : k < (opsAt g i).length) (h : idle g i k = true) (hne : j ≠ i) (hq : idle g j q = true) : idle (rm g i k) j q = true := by
  have hb : (rm g i k).Blocks.getD j zBlock = g.Blocks.getD j zBlock := by unfold rm; rw [with_blk hi, if_neg hne]
  unfold idle at hq ⊢
  rw [hb]
  refine idleB_mono (fun r hr => ?_) hq
  unfold aft at hr ⊢
  rw [hb] at hr
  exact foldB_mono (fun he => by have := aft_rm hi hk h (j := j) r; rw [hb] at this; exact this he) hr

theorem getD_erase_lt (l : List Op') {k q : Nat} (h : q < k) : (l.eraseIdx k).getD q zOp = l.getD q zOp := by
  simp [List.getD, List.getElem?_eraseIdx, h]
theorem getD_erase_ge (l : List Op') {k q : Nat} (h : k ≤ q) : (l.eraseIdx k).getD q zOp = l.getD (q + 1) zOp := by
  simp [List.getD, List.getElem?_eraseIdx, Nat.not_lt.2 h]
theorem drop_erase_ge (l : List Op') {k n : Nat} (h : k ≤ n) : (l.eraseIdx k).drop n = l.drop (n + 1) := by
  apply List.ext_getElem?
  intro m
  rw [List.getElem?_drop, List.getElem?_drop, List.getElem?_eraseIdx, if_neg (by omega)]
  congr 1; omega
theorem drop_erase_lt (l : List Op') {k n : Nat} (h : n ≤ k) : (l.eraseIdx k).drop n = (l.drop n).eraseIdx (k - n) := by
  apply List.ext_getElem?
  intro m
  rw [List.getElem?_drop, List.getElem?_eraseIdx, List.getElem?_eraseIdx, List.getElem?_drop, List.getElem?_drop]
  by_cases h1 : n + m < k
  · rw [if_pos h1, if_pos (by omega)]
  · rw [if_neg h1, if_neg (by omega)]
    congr 1

theorem rm_blk {g : Graph} {i : Nat} (hi : i < g.Blocks.length) (k : Nat) : (rm g i k).Blocks.getD i zBlock = ⟨(opsAt g i).eraseIdx k, (g.Blocks.getD i zBlock).End⟩ := by
  unfold rm; rw [with_blk hi, if_pos rfl]

theorem persist_lt {g : Graph} {i k q : Nat} (hi : i < g.Blocks.length) (hk : k < (opsAt g i).length) (h : idle g i k = true) (hlt : q < k) (hq : idle g i q = true) : idle (rm g i k) i q = true := by
  unfold idle at hq ⊢
  have hb := rm_blk hi k
  rw [hb]
  simp only [getD_erase_lt _ hlt]
  refine idleB_mono (fun r hr => ?_) hq
  unfold aft at hr ⊢
  rw [hb] at hr
  simp only [drop_erase_lt (opsAt g i) (show q + 1 ≤ k by omega)] at hr
  refine foldB_erase (q := k - (q + 1)) (by simp only [List.length_drop]; unfold opsAt at hk; omega) (fun he => ?_) ?_ hr
  · have := aft_rm hi hk h (j := i) r; rw [hb] at this; exact this he
  · have e1 : ((g.Blocks.getD i zBlock).Ops.drop (q + 1)).drop (k - (q + 1) + 1) = (g.Blocks.getD i zBlock).Ops.drop (k + 1) := by
      rw [List.drop_drop]; congr 1; omega
    have e2 : ((g.Blocks.getD i zBlock).Ops.drop (q + 1)).getD (k - (q + 1)) zOp = (g.Blocks.getD i zBlock).Ops.getD k zOp := by
      simp only [List.getD, List.getElem?_drop]; congr 2; omega
    rw [e1, e2]
    exact idle_bef h r

theorem persist_gt {g : Graph} {i k q : Nat} (hi : i < g.Blocks.length) (hk : k < (opsAt g i).length) (h : idle g i k = true) (hlt : k < q) (hq : idle g i q = true) : idle (rm g i k) i (q - 1) = true := by
  unfold idle at hq ⊢
  have hb := rm_blk hi k
  rw [hb]
  simp only [getD_erase_ge _ (show k ≤ q - 1 by omega), show q - 1 + 1 = q by omega]
  refine idleB_mono (fun r hr => ?_) hq
  unfold aft at hr ⊢
  rw [hb] at hr
  simp only [show q - 1 + 1 = q by omega, drop_erase_ge (opsAt g i) (show k ≤ q by omega)] at hr
  exact foldB_mono (fun he => by have := aft_rm hi hk h (j := i) r; rw [hb] at this; exact this he) hr

theorem erase_comm (l : List Op') {k q : Nat} (h : k < q) : (l.eraseIdx k).eraseIdx (q - 1) = (l.eraseIdx q).eraseIdx k := by
  apply List.ext_getElem?
  intro m
  simp only [List.getElem?_eraseIdx]
  by_cases h1 : m < k
  · simp [h1, show m < q - 1 by omega, show m < q by omega]
  · by_cases h2 : m < q - 1
    · simp [h1, h2, show m + 1 < q by omega]
    · simp [h1, h2, show ¬ m + 1 < q by omega, show ¬ m + 1 < k by omega]

theorem rm_len (g : Graph) (i k : Nat) : (rm g i k).Blocks.length = g.Blocks.length := with_len _ _ _
theorem rm_ops {g : Graph} {i : Nat} (hi : i < g.Blocks.length) (k j : Nat) : opsAt (rm g i k) j = if j = i then (opsAt g i).eraseIdx k else opsAt g j := with_ops hi _ j

theorem rm_rm_same {g : Graph} {i : Nat} (hi : i < g.Blocks.length) (k q : Nat) : rm (rm g i k) i q = withOps g i (((opsAt g i).eraseIdx k).eraseIdx q) := by
  have h1 := rm_blk hi k
  have h2 := rm_ops hi k i
  rw [if_pos rfl] at h2
  unfold rm at *
  simp only [withOps] at *
  rw [h2, h1]
  simp

theorem rm_rm_other {g : Graph} {i j : Nat} (hi : i < g.Blocks.length) (hj : j < g.Blocks.length) (hne : i ≠ j) (k q : Nat) : rm (rm g i k) j q = rm (rm g j q) i k := by
  have a1 := rm_ops hi k j; have a2 := rm_ops hj q i
  rw [if_neg (Ne.symm hne)] at a1; rw [if_neg hne] at a2
  have b1 : ((rm g i k).Blocks.getD j zBlock).End = (g.Blocks.getD j zBlock).End := with_end hi _ j
  have b2 : ((rm g j q).Blocks.getD i zBlock).End = (g.Blocks.getD i zBlock).End := with_end hj _ i
  show withOps (rm g i k) j ((opsAt (rm g i k) j).eraseIdx q) = withOps (rm g j q) i ((opsAt (rm g j q) i).eraseIdx k)
  rw [a1, a2]
  unfold withOps
  rw [b1, b2]
  simp only [rm, withOps]
  rw [List.set_comm _ _ hne]

/-- Two that do nothing: whichever goes first. -/
theorem diamond {g a b : Graph} (ha : Step g a) (hb : Step g b) : a = b ∨ ∃ c, Step a c ∧ Step b c := by
  obtain ⟨i, k, hi, hk, h1, rfl⟩ := ha
  obtain ⟨j, q, hj, hq, h2, rfl⟩ := hb
  by_cases hij : i = j
  · subst hij
    rcases Nat.lt_trichotomy k q with hlt | he | hlt
    · right
      refine ⟨rm (rm g i k) i (q - 1), ⟨i, q - 1, by rw [rm_len]; exact hi, ?_, persist_gt hi hk h1 hlt h2, rfl⟩, ⟨i, k, by rw [rm_len]; exact hi, ?_, persist_lt hi hq h2 hlt h1, ?_⟩⟩
      · rw [rm_ops hi, if_pos rfl, List.length_eraseIdx_of_lt hk]; omega
      · rw [rm_ops hi, if_pos rfl, List.length_eraseIdx_of_lt hq]; omega
      · rw [rm_rm_same hi, rm_rm_same hi, erase_comm _ hlt]
    · subst he; exact .inl rfl
    · right
      refine ⟨rm (rm g i q) i (k - 1), ⟨i, q, by rw [rm_len]; exact hi, ?_, persist_lt hi hk h1 hlt h2, ?_⟩, ⟨i, k - 1, by rw [rm_len]; exact hi, ?_, persist_gt hi hq h2 hlt h1, rfl⟩⟩
      · rw [rm_ops hi, if_pos rfl, List.length_eraseIdx_of_lt hk]; omega
      · rw [rm_rm_same hi, rm_rm_same hi, erase_comm _ hlt]
      · rw [rm_ops hi, if_pos rfl, List.length_eraseIdx_of_lt hq]; omega
  · right
    refine ⟨rm (rm g i k) j q, ⟨j, q, by rw [rm_len]; exact hj, by rw [rm_ops hi, if_neg (Ne.symm hij)]; exact hq, persist_other hi hk h1 (Ne.symm hij) h2, rfl⟩, ⟨i, k, by rw [rm_len]; exact hi, by rw [rm_ops hj, if_neg hij]; exact hk, persist_other hj hq h2 hij h1, rm_rm_other hi hj hij k q⟩⟩

theorem Normal.nostep {g a : Graph} (h : Normal g) (hs : Step g a) : False := by
  obtain ⟨i, k, hi, hk, h1, _⟩ := hs
  rw [h i k hi hk] at h1; cases h1

theorem Steps.strip {g n : Graph} (h : Steps g n) (hn : Normal n) : ∀ {a : Graph}, Step g a → Steps a n := by
  induction h with
  | refl g => exact fun ha => (hn.nostep ha).elim
  | @step x y z hs _ ih =>
    intro a ha
    rcases diamond ha hs with rfl | ⟨c, h1, h2⟩
    · assumption
    · exact .step h1 (ih hn h2)

/-- One end only. -/
theorem Steps.unique {g a b : Graph} (ha : Steps g a) (hna : Normal a) (hb : Steps g b) (hnb : Normal b) : a = b := by
  induction ha with
  | refl g =>
    cases hb with
    | refl => rfl
    | step s _ => exact (hna.nostep s).elim
  | step s _ ih => exact ih hna (hb.strip hnb s)
end Go.Proofs.Ytoooalfhjcfinaa.T

namespace Go.Proofs.Ytoooalfhjcfinaa.T
open Go.Abs
set_option linter.unusedVariables false
set_option linter.unusedSimpArgs false

theorem getD_mem (l : List Op') {m : Nat} (h : m < l.length) : l.getD m zOp ∈ l := by simp [List.getD, h]
theorem mem_getD {l : List Op'} {o : Op'} (h : o ∈ l) : ∃ m, m < l.length ∧ l.getD m zOp = o := by
  obtain ⟨m, hm, e⟩ := List.getElem_of_mem h
  exact ⟨m, hm, by simp [List.getD, hm, e]⟩

theorem withOps_right {g : Graph} (hR : RightP g) {i : Nat} (hi : i < g.Blocks.length) {l : List Op'} (hl : ∀ o ∈ l, o ∈ opsAt g i) : RightP (withOps g i l) := by
  refine ⟨by rw [with_len]; exact hR.pos, fun j hj => ?_, fun j hj m hm => ?_⟩
  · rw [with_len] at hj ⊢; rw [with_end hi]; exact hR.term j hj
  · rw [with_len] at hj
    have h1 := with_ops hi l j
    unfold opsAt at h1
    rw [h1] at hm ⊢
    split
    · rename_i e; rw [if_pos e] at hm
      obtain ⟨q, hq, e2⟩ := mem_getD (hl _ (getD_mem l hm))
      rw [← e2]
      exact hR.op i hi q hq
    · rename_i e; rw [if_neg e] at hm
      exact hR.op j hj m hm

theorem count_set : ∀ (l : List Block) {i : Nat} (h : i < l.length) (b : Block), count (l.set i b) + (l.getD i zBlock).Ops.length = count l + b.Ops.length
  | x :: r, 0, h, b => by simp [count]; omega
  | x :: r, i + 1, h, b => by
    have ih := count_set r (i := i) (by simpa using h) b
    simp only [count, List.set_cons_succ, List.map_cons, List.sum_cons, List.getD_cons_succ] at ih ⊢
    omega

theorem with_count {g : Graph} {i : Nat} (hi : i < g.Blocks.length) (l : List Op') : count (withOps g i l).Blocks + (opsAt g i).length = count g.Blocks + l.length := count_set _ hi _

theorem withOps_good {g : Graph} (hG : Good g) {i : Nat} (hi : i < g.Blocks.length) {l : List Op'} (hl : ∀ o ∈ l, o ∈ opsAt g i) (hn : l.length ≤ (opsAt g i).length) : Good (withOps g i l) := by
  have := with_count hi l
  exact ⟨withOps_right hG.right hi hl, by rw [with_len]; exact hG.len, by have := hG.ops; omega⟩

theorem rm_good {g : Graph} (hG : Good g) {i k : Nat} (hi : i < g.Blocks.length) (hk : k < (opsAt g i).length) : Good (rm g i k) :=
  withOps_good hG hi (fun o ho => List.mem_of_mem_eraseIdx ho) (by rw [List.length_eraseIdx_of_lt hk]; omega)

/-- What stays of a graph whose instructions are taken out. -/
structure Kept (g h : Graph) : Prop where
  good : Good g → Good h
  name : h.Name = g.Name
  keep : h.Keep = g.Keep
  leaf : h.Leaf = g.Leaf
  len : h.Blocks.length = g.Blocks.length
  term : ∀ i, (h.Blocks.getD i zBlock).End = (g.Blocks.getD i zBlock).End
  cnt : count h.Blocks ≤ count g.Blocks
theorem Kept.refl (g : Graph) : Kept g g := ⟨fun h => h, rfl, rfl, rfl, rfl, fun _ => rfl, Nat.le_refl _⟩
theorem Kept.trans {a b c : Graph} (h : Kept a b) (h' : Kept b c) : Kept a c :=
  ⟨fun x => h'.good (h.good x), h'.name.trans h.name, h'.keep.trans h.keep, h'.leaf.trans h.leaf, h'.len.trans h.len, fun i => (h'.term i).trans (h.term i), Nat.le_trans h'.cnt h.cnt⟩
theorem Step.kept {g h : Graph} (hs : Step g h) : Kept g h := by
  obtain ⟨i, k, hi, hk, _, rfl⟩ := hs
  have := with_count hi ((opsAt g i).eraseIdx k)
  rw [List.length_eraseIdx_of_lt hk] at this
  exact ⟨fun hG => rm_good hG hi hk, rfl, rfl, rfl, rm_len _ _ _, fun j => with_end hi _ j, by unfold rm; omega⟩
theorem Steps.kept {g h : Graph} (hs : Steps g h) : Kept g h := by
  induction hs with
  | refl => exact .refl _
  | step s _ ih => exact s.kept.trans ih

/-! ### live.After -/
theorem after_l0 {g : Graph} {i : Nat} (hi : i < g.Blocks.length) (hm : (opsAt g i).length ≤ 300) (ho : ∀ m, m < (opsAt g i).length → InsOk ((opsAt g i).getD m zOp).Ins) (e : Nat → Bool) : ∀ (k j : Nat) (out : List Int) (now : Int), j < k → j ≤ (opsAt g i).length → out.length = (opsAt g i).length → U now →
    (∀ r, bt now r = foldB ((opsAt g i).drop j) r (e r)) →
    ∃ A, g27_live_After.l0 1000 g (i : Int) k out now ((j : Int) - 1) = some A ∧ A.length = (opsAt g i).length ∧ (∀ q, q < j → U (A.getD q 0) ∧ ∀ r, bt (A.getD q 0) r = foldB ((opsAt g i).drop (q + 1)) r (e r)) ∧ ∀ q, j ≤ q → A.getD q 0 = out.getD q 0
  | 0, j, out, now, h, hj, hl, hu, hn => by omega
  | k + 1, j, out, now, h, hj, hl, hu, hn => by
    simp only [g27_live_After.l0, Int.toNat_natCast]
    cases j with
    | zero => exact ⟨out, rfl, hl, fun q hq => by omega, fun q _ => rfl⟩
    | succ j =>
      have e1 : (((j + 1 : Nat) : Int) - 1).toNat = j := by omega
      obtain ⟨n, n1, n2, n3⟩ := fbefore_ok (ho j (by omega)) hu
      have n1 : g35_live_Before 1000 ((g.Blocks.getD i zBlock).Ops.getD j zOp) now = some n := n1
      have g1 : 0 ≤ ((j + 1 : Nat) : Int) - 1 ∧ ((j + 1 : Nat) : Int) - 1 < (out.length : Int) := by omega
      have g2 : 0 ≤ ((j + 1 : Nat) : Int) - 1 ∧ ((j + 1 : Nat) : Int) - 1 < ((g.Blocks.getD i zBlock).Ops.length : Int) := by
        unfold opsAt at hj; omega
      rw [dt (show ((j + 1 : Nat) : Int) - 1 ≥ 0 by omega), cond_true, gd_t g1, gd_t g2, wpred (by omega)]
      simp only [e1, n1, Option.bind_some]
      have hd : (opsAt g i).drop j = (opsAt g i).getD j zOp :: (opsAt g i).drop (j + 1) := by
        rw [List.drop_eq_getElem_cons (by omega)]; simp [List.getD, show j < (opsAt g i).length by omega]
      obtain ⟨A, a1, a2, a3, a4⟩ := after_l0 hi hm ho e k j (out.set j now) n (by omega) (by omega) (by simp [hl]) n2 (fun r => by rw [n3, hn, hd]; rfl)
      refine ⟨A, a1, a2, fun q hq => ?_, fun q hq => ?_⟩
      · rcases Nat.lt_or_ge q j with h1 | h1
        · exact a3 q h1
        · have : q = j := by omega
          subst this
          rw [a4 q (Nat.le_refl _), getD_setI out (by omega), if_pos rfl]
          exact ⟨hu, hn⟩
      · rw [a4 q (by omega), getD_setI out (by omega), if_neg (by omega)]

theorem lvB_in {g : Graph} {X : List Int} (hX : ∀ i, i < g.Blocks.length → ∀ r, bt (X.getD i 0) r = true ↔ Lv g r i) {r j : Nat} (hj : j < g.Blocks.length) : bt (X.getD j 0) r = lvB g r j := by
  rw [Bool.eq_iff_iff, hX j hj, lvB_iff]

theorem after_ok {g : Graph} (hG : Good g) {i : Nat} (hi : i < g.Blocks.length) : ∃ A, g27_live_After 1000 g (i : Int) = some A ∧ A.length = (opsAt g i).length ∧ ∀ q, q < (opsAt g i).length → U (A.getD q 0) ∧ ∀ r, bt (A.getD q 0) r = aft g i q r := by
  have hlen := hG.len
  have hsm := hG.fine.small.ops i hi
  obtain ⟨X, x1, x2, x3, x4⟩ := in_ok hG
  have ht := hG.right.term i hi
  obtain ⟨n, n1, n2, n3⟩ := fend_ok (t := (g.Blocks.getD i zBlock).End) (X := X) (by rw [x2]; exact ht) x3
  have hm : (opsAt g i).length ≤ 300 := hsm
  obtain ⟨A, a1, a2, a3, _⟩ := after_l0 hi hm (fun m hm => (hG.right.op i hi m hm).ok) (fun r => endB (g.Blocks.getD i zBlock).End r (lvB g r)) 1000 (opsAt g i).length (List.replicate (opsAt g i).length 0) n (by omega) (Nat.le_refl _) (by simp) n2 (fun r => by
    rw [n3, List.drop_length]
    exact endB_congr ht.ok fun j hj => lvB_in x4 hj)
  refine ⟨A, ?_, a2, fun q hq => ⟨(a3 q hq).1, (a3 q hq).2⟩⟩
  unfold g27_live_After
  have hI : 0 ≤ (i : Int) ∧ (i : Int) < (g.Blocks.length : Int) := by omega
  simp only [Int.toNat_natCast]
  rw [gd_t hI, gd_t (by omega), gd_t hI, x1]
  simp only [Option.bind_some, n1]
  rw [wi (by omega) (by omega)]
  have : ((opsAt g i).length : Int) = ((g.Blocks.getD i zBlock).Ops.length : Int) := rfl
  rw [← this, show ((g.Blocks.getD i zBlock).Ops.length : Nat) = (opsAt g i).length from rfl, a1]
  rfl

theorem fidle_ok {o : Op'} (h : InsOk o.Ins) {a : Int} (ha : U a) : g28_dead_idle 1000 o a = some (idleB o.Ins (bt a)) := by
  obtain ⟨w1, w2, w3⟩ := wr_in h
  unfold g28_dead_idle
  simp only [fwrites_ok 1000 h, fkind_ok 1000 h, Option.bind_some]
  rw [gd_t (by intro hc; simp only [Bool.and_eq_true, Bool.not_eq_true', decide_eq_false_iff_not] at hc; omega)]
  unfold idleB
  by_cases hw : wr o.Ins < 0
  · rw [dt hw]
    by_cases hk : kind o.Ins = 0
    · simp [hk]
    · simp [hk]
  · rw [df hw, ask_bt ha (by omega) w2]
    by_cases hk : kind o.Ins = 0
    · simp [hk]
    · simp [hk]

/-! ### dead.Sweep -/
/-- The instructions of block i from place j on that do something. -/
noncomputable def doing (g : Graph) (i j : Nat) : List Op' := ((List.range ((opsAt g i).length - j)).filter fun q => !idle g i (j + q)).map fun q => (opsAt g i).getD (j + q) zOp

theorem doing_end {g : Graph} {i j : Nat} (h : (opsAt g i).length ≤ j) : doing g i j = [] := by
  unfold doing; rw [Nat.sub_eq_zero_of_le h]; rfl
theorem doing_step {g : Graph} {i j : Nat} (h : j < (opsAt g i).length) : doing g i j = if idle g i j then doing g i (j + 1) else (opsAt g i).getD j zOp :: doing g i (j + 1) := by
  unfold doing
  rw [show (opsAt g i).length - j = ((opsAt g i).length - (j + 1)) + 1 by omega, List.range_succ_eq_map, List.filter_cons, List.filter_map]
  have e : ((fun q => (opsAt g i).getD (j + q) zOp) ∘ Nat.succ) = fun q => (opsAt g i).getD (j + 1 + q) zOp := by funext q; simp only [Function.comp]; congr 1; omega
  have e2 : ((fun q => !idle g i (j + q)) ∘ Nat.succ) = fun q => !idle g i (j + 1 + q) := by funext q; simp only [Function.comp]; congr 2; omega
  rw [e2, Nat.add_zero]
  cases h1 : idle g i j with
  | true => simp only [Bool.not_true, Bool.false_eq_true, if_false, if_true, List.map_map, e]
  | false => simp only [Bool.not_false, Bool.false_eq_true, if_false, if_true, List.map_cons, List.map_map, e, Nat.add_zero]
theorem doing_len {g : Graph} {i : Nat} : ∀ (n j : Nat), (opsAt g i).length - j = n → (doing g i j).length ≤ n ∧ ((doing g i j).length = n → ∀ q, j ≤ q → q < (opsAt g i).length → idle g i q = false)
  | 0, j, h => by
    rw [doing_end (by omega)]
    exact ⟨Nat.le_refl _, fun _ q h1 h2 => by omega⟩
  | n + 1, j, h => by
    obtain ⟨h1, h2⟩ := doing_len (g := g) (i := i) n (j + 1) (by omega)
    rw [doing_step (by omega)]
    cases hi : idle g i j with
    | true => simp only [if_true]; exact ⟨by omega, fun h => by omega⟩
    | false =>
      simp only [Bool.false_eq_true, if_false, List.length_cons]
      refine ⟨by omega, fun h3 q h4 h5 => ?_⟩
      rcases Nat.lt_or_ge j q with h6 | h6
      · exact h2 (by omega) q h6 h5
      · have : q = j := by omega
        subst this; exact hi
theorem doing_mem {g : Graph} {i j : Nat} {o : Op'} (h : o ∈ doing g i j) : o ∈ opsAt g i := by
  simp only [doing, List.mem_map, List.mem_filter, List.mem_range] at h
  obtain ⟨q, ⟨h1, _⟩, rfl⟩ := h
  exact getD_mem _ (by omega)

theorem sweep_l2 (r1 : Graph) (xa : ByteArray) (xb : List Block) (c : Bool) {g : Graph} (hG : Good g) {i : Nat} (hi : i < g.Blocks.length) {A : List Int} (hA : A.length = (opsAt g i).length) (hA2 : ∀ q, q < (opsAt g i).length → U (A.getD q 0) ∧ ∀ r, bt (A.getD q 0) r = aft g i q r) :
    ∀ (k j : Nat) (acc : List Op'), (opsAt g i).length < k + j → j ≤ (opsAt g i).length → acc.length ≤ j → g15_dead_Sweep.l2 1000 r1 xa xb g.Blocks c (i : Int) A k acc (j : Int) = some (acc ++ doing g i j)
  | 0, j, acc, h, hj, ha => by omega
  | k + 1, j, acc, h, hj, ha => by
    have hsm : (opsAt g i).length ≤ 300 := hG.fine.small.ops i hi
    simp only [g15_dead_Sweep.l2, Int.toNat_natCast]
    by_cases hlt : j < (opsAt g i).length
    · have g1 : 0 ≤ (j : Int) ∧ (j : Int) < ((g.Blocks.getD i zBlock).Ops.length : Int) := by unfold opsAt at hlt; omega
      have g2 : 0 ≤ (j : Int) ∧ (j : Int) < (A.length : Int) := by omega
      obtain ⟨u1, u2⟩ := hA2 j hlt
      have hid := fidle_ok (hG.right.op i hi j hlt).ok u1
      have hbt : bt (A.getD j 0) = aft g i j := funext u2
      rw [hbt] at hid
      rw [dt g1.2, cond_true, gd_t g1, gd_t g2, hid]
      simp only [Option.bind_some]
      rw [doing_step hlt, show idleB ((g.Blocks.getD i zBlock).Ops.getD j zOp).Ins (aft g i j) = idle g i j from rfl, wsucc hlt (by omega)]
      cases hq : idle g i j with
      | true =>
        simp only [Bool.not_true, cond_false, if_true]
        exact sweep_l2 r1 xa xb c hG hi hA hA2 k (j + 1) acc (by omega) (by omega) (by omega)
      | false =>
        simp only [Bool.not_false, cond_true, Bool.false_eq_true, if_false]
        rw [gd_t (by simp; omega)]
        rw [sweep_l2 r1 xa xb c hG hi hA hA2 k (j + 1) _ (by omega) (by omega) (by simp; omega), List.append_assoc]
        rfl
    · rw [df (show ¬ (j : Int) < ((g.Blocks.getD i zBlock).Ops.length : Int) by unfold opsAt at hlt; omega), cond_false, doing_end (by omega), List.append_nil]

/-- All that does nothing, out of one block. -/
theorem doing_steps {g : Graph} {i : Nat} (hi : i < g.Blocks.length) : ∀ (n j : Nat), (opsAt g i).length - j = n → j ≤ (opsAt g i).length →
    Steps g (withOps g i ((opsAt g i).take j ++ doing g i j)) ∧ ∀ q, q < j → idle g i q = true → idle (withOps g i ((opsAt g i).take j ++ doing g i j)) i q = true
  | 0, j, h, hj => by
    have : withOps g i ((opsAt g i).take j ++ doing g i j) = g := by
      rw [doing_end (by omega), List.append_nil, List.take_of_length_le (by omega)]
      obtain ⟨nm, kp, lf, bl⟩ := g
      unfold withOps opsAt
      congr 1
      apply List.ext_getElem?
      intro m
      rw [List.getElem?_set]
      split
      · rename_i e; subst e
        simp only at hi
        simp [List.getD, hi]
      · rfl
    rw [this]
    exact ⟨.refl _, fun q _ h => h⟩
  | n + 1, j, h, hj => by
    obtain ⟨s1, s2⟩ := doing_steps hi n (j + 1) (by omega) (by omega)
    have hj : j < (opsAt g i).length := by omega
    rw [doing_step hj]
    cases hq : idle g i j with
    | false =>
      simp only [Bool.false_eq_true, if_false]
      have e : (opsAt g i).take j ++ (opsAt g i).getD j zOp :: doing g i (j + 1) = (opsAt g i).take (j + 1) ++ doing g i (j + 1) := by
        rw [take_opD _ hj, List.append_assoc]; rfl
      rw [e]
      exact ⟨s1, fun q h1 h2 => s2 q (by omega) h2⟩
    | true =>
      simp only [if_true]
      have hidle := s2 j (by omega) hq
      generalize hh : withOps g i ((opsAt g i).take (j + 1) ++ doing g i (j + 1)) = h at s1 s2 hidle
      have hlen : h.Blocks.length = g.Blocks.length := by rw [← hh]; exact with_len _ _ _
      have hops : opsAt h i = (opsAt g i).take (j + 1) ++ doing g i (j + 1) := by rw [← hh, with_ops hi, if_pos rfl]
      have hjh : j < (opsAt h i).length := by rw [hops]; simp; omega
      have he : rm h i j = withOps g i ((opsAt g i).take j ++ doing g i (j + 1)) := by
        unfold rm
        rw [hops, take_opD _ hj, List.append_assoc]
        have : ((opsAt g i).take j ++ ([(opsAt g i).getD j zOp] ++ doing g i (j + 1))).eraseIdx j = (opsAt g i).take j ++ doing g i (j + 1) := by
          rw [List.eraseIdx_append_of_length_le (by simp; omega)]
          simp [Nat.min_eq_left (Nat.le_of_lt hj)]
        rw [this, ← hh]
        unfold withOps
        simp only [List.set_set]
        congr 2
        have := with_end hi ((opsAt g i).take (j + 1) ++ doing g i (j + 1)) i
        unfold withOps at this
        rw [this]
      rw [← he]
      exact ⟨s1.trans (.step ⟨i, j, by rw [hlen]; exact hi, hjh, hidle, rfl⟩ (.refl _)), fun q h1 h2 => persist_lt (by rw [hlen]; exact hi) hjh hidle h1 (s2 q (by omega) h2)⟩
end Go.Proofs.Ytoooalfhjcfinaa.T
