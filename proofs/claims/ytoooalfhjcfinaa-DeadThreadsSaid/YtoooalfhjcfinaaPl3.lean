import Derived.Test.YtoooalfhjcfinaaPl2
namespace Go.Proofs.Ytoooalfhjcfinaa.T
open Go.Abs
set_option linter.unusedVariables false
set_option linter.unusedSimpArgs false

/-- Where a block leads on from, in n steps. -/
def thr (g : Graph) : Nat → Int → Int
  | 0, b => b
  | n + 1, b => if 0 < (g.Blocks.getD b.toNat zBlock).Ops.length ∨ (g.Blocks.getD b.toNat zBlock).End.Kind ≠ 1 then b else thr g n (g.Blocks.getD b.toNat zBlock).End.To

theorem thr_in {g : Graph} (hF : Fine g) : ∀ (n : Nat) (b : Int), 0 ≤ b ∧ b < g.Blocks.length → 0 ≤ thr g n b ∧ thr g n b < g.Blocks.length
  | 0, b, h => h
  | n + 1, b, h => by
    simp only [thr]
    split
    · exact h
    · rename_i hc
      have hk : (g.Blocks.getD b.toNat zBlock).End.Kind = 1 := by
        refine Classical.byContradiction fun h => hc (.inr h)
      exact thr_in hF n _ ((hF.term b.toNat (by omega)).to1 hk)

theorem through_l0 (K : Nat) {g : Graph} (hF : Fine g) : ∀ (k x : Nat) (b : Int), 0 ≤ b ∧ b < g.Blocks.length → g.Blocks.length < k + x → x ≤ g.Blocks.length →
    g24_dead_through.l0 K g k b (x : Int) = some (thr g (g.Blocks.length - x) b)
  | 0, x, b, hb, h, hl => by omega
  | k + 1, x, b, hb, h, hl => by
    have hlen := hF.len
    simp only [g24_dead_through.l0]
    by_cases hx : x < g.Blocks.length
    · rw [dt (by omega), cond_true, gd_t hb, show g.Blocks.length - x = (g.Blocks.length - (x + 1)) + 1 by omega]
      simp only [thr]
      by_cases ho : 0 < (g.Blocks.getD b.toNat zBlock).Ops.length
      · rw [dt (show ((g.Blocks.getD b.toNat zBlock).Ops.length : Int) > 0 by omega), cond_true, cond_true, if_pos (.inl ho)]
      · rw [df (show ¬ ((g.Blocks.getD b.toNat zBlock).Ops.length : Int) > 0 by omega), cond_false]
        by_cases hk : (g.Blocks.getD b.toNat zBlock).End.Kind = 1
        · have e : ((g.Blocks.getD b.toNat zBlock).End.Kind != 1) = false := by rw [hk]; rfl
          rw [e, cond_false, wsucc hx (by omega), if_neg (by rintro (h | h); exact ho h; exact h hk)]
          exact through_l0 K hF k (x + 1) _ ((hF.term b.toNat (by omega)).to1 hk) (by omega) (by omega)
        · have e : ((g.Blocks.getD b.toNat zBlock).End.Kind != 1) = true := bne_iff_ne.2 hk
          rw [e, cond_true, if_pos (.inr hk)]
    · rw [df (by omega), cond_false]
      have : x = g.Blocks.length := by omega
      subst this
      simp [thr]

theorem through_ok {K : Nat} (hK : 30 < K) {g : Graph} (hF : Fine g) {b : Int} (hb : 0 ≤ b ∧ b < g.Blocks.length) : g24_dead_through K g b = some (thr g g.Blocks.length b) := by
  have hlen := hF.len
  have := through_l0 K hF K 0 b hb (by omega) (by omega)
  have : g24_dead_through.l0 K g K b 0 = some (thr g g.Blocks.length b) := this
  simp only [g24_dead_through, this, Option.bind_some]

theorem take_getD (l : List Block) {i : Nat} (h : i < l.length) : l.take (i + 1) = l.take i ++ [l.getD i zBlock] := by
  rw [List.take_add_one]
  simp [List.getD, h]

/-- A graph with few blocks, and few instructions. -/
structure Small (g : Graph) : Prop where
  len : g.Blocks.length ≤ 200
  ops : ∀ i, i < g.Blocks.length → (g.Blocks.getD i zBlock).Ops.length ≤ 300
theorem Fine.small {g : Graph} (h : Fine g) : Small g := ⟨by have := h.len; omega, fun i hi => by have := count_le g.Blocks hi; have := h.ops; omega⟩

theorem copied_l0 (K : Nat) {g : Graph} (hF : Small g) : ∀ (k i : Nat), g.Blocks.length < k + i → i ≤ g.Blocks.length →
    g23_dead_copied.l0 K g k (g.Blocks.take i) (i : Int) = some (ByteArray.empty, g.Blocks)
  | 0, i, h, hl => by omega
  | k + 1, i, h, hl => by
    have hlen := hF.len
    simp only [g23_dead_copied.l0, Int.toNat_natCast]
    by_cases hi : i < g.Blocks.length
    · have hI : 0 ≤ (i : Int) ∧ (i : Int) < (g.Blocks.length : Int) := by omega
      have hops := hF.ops i hi
      rw [dt (by omega), cond_true, gd_t hI]
      unfold g32_slices_Clone
      rw [gd_t (by omega)]
      simp only [Option.bind_some]
      rw [gd_t (by simp; omega), wsucc hi (by omega)]
      have := copied_l0 K hF k (i + 1) (by omega) (by omega)
      rw [take_getD _ hi] at this
      exact this
    · rw [df (by omega), cond_false]
      have : i = g.Blocks.length := by omega
      rw [this, List.take_length]

theorem copied_ok {K : Nat} (hK : 200 < K) {g : Graph} (hF : Small g) : g23_dead_copied K g = some g := by
  have hlen := hF.len
  have := copied_l0 K hF K 0 (by omega) (by omega)
  have : g23_dead_copied.l0 K g K [] 0 = some (ByteArray.empty, g.Blocks) := this
  simp only [g23_dead_copied, this, Option.bind_some]

/-- A block, threaded. -/
def thrB (g : Graph) (b : Block) : Block :=
  if b.End.Kind = 2 then
    if thr g g.Blocks.length b.End.To = thr g g.Blocks.length b.End.Else then ⟨b.Ops, ⟨1, 0, 0, 0, thr g g.Blocks.length b.End.To, 0, zIns⟩⟩
    else ⟨b.Ops, ⟨b.End.Kind, b.End.Op, b.End.A, b.End.B, thr g g.Blocks.length b.End.To, thr g g.Blocks.length b.End.Else, b.End.Ins⟩⟩
  else if b.End.Kind = 1 then ⟨b.Ops, ⟨b.End.Kind, b.End.Op, b.End.A, b.End.B, thr g g.Blocks.length b.End.To, b.End.Else, b.End.Ins⟩⟩
  else b

theorem getD_set (l : List Block) {i : Nat} (h : i < l.length) (b : Block) : (l.set i b).getD i zBlock = b := by simp [List.getD, h]

theorem thread_step {g : Graph} {i : Nat} (h : i < g.Blocks.length) :
    ((g.Blocks.take i).map (thrB g) ++ g.Blocks.drop i).length = g.Blocks.length ∧ ((g.Blocks.take i).map (thrB g) ++ g.Blocks.drop i).getD i zBlock = g.Blocks.getD i zBlock ∧
    ((g.Blocks.take i).map (thrB g) ++ g.Blocks.drop i).set i (thrB g (g.Blocks.getD i zBlock)) = (g.Blocks.take (i + 1)).map (thrB g) ++ g.Blocks.drop (i + 1) := by
  have hl : ((g.Blocks.take i).map (thrB g)).length = i := by simp; omega
  refine ⟨by simp; omega, ?_, ?_⟩
  · simp only [List.getD]
    rw [List.getElem?_append_right (by omega), hl]
    simp
  · rw [take_getD _ h, List.map_append, List.set_append, if_neg (by omega), hl, Nat.sub_self, List.append_assoc]
    congr 1
    rw [List.drop_eq_getElem_cons h]
    simp only [List.set_cons_zero, List.map_cons, List.map_nil, List.singleton_append]
    try simp [List.getD, h]

theorem thread_l0 {K : Nat} (hK : 200 < K) {g : Graph} (hF : Fine g) : ∀ (k i : Nat), g.Blocks.length < k + i → i ≤ g.Blocks.length →
    g11_dead_Thread.l0 K g g k ((g.Blocks.take i).map (thrB g) ++ g.Blocks.drop i) (i : Int) = some (ByteArray.empty, g.Blocks.map (thrB g))
  | 0, i, h, hl => by omega
  | k + 1, i, h, hl => by
    have hlen := hF.len
    simp only [g11_dead_Thread.l0, Int.toNat_natCast]
    by_cases hi : i < g.Blocks.length
    · obtain ⟨s1, s2, s3⟩ := thread_step hi
      have ih := thread_l0 hK hF k (i + 1) (by omega) (by omega)
      rw [← s3] at ih
      generalize (g.Blocks.take i).map (thrB g) ++ g.Blocks.drop i = x at s1 s2 ih
      have hI : 0 ≤ (i : Int) ∧ (i : Int) < (x.length : Int) := by omega
      have hx : i < x.length := by omega
      have ht := hF.term i hi
      rw [dt (by omega), cond_true, gd_t hI, wsucc hi (by omega)]
      generalize hb : g.Blocks.getD i zBlock = b at s2 ih ht
      simp only [s2, getD_set _ hx, List.set_set, List.length_set, gd_t hx]
      by_cases h2 : b.End.Kind = 2
      · obtain ⟨t1, t2, t3, t4⟩ := ht.to2 h2
        have e : (b.End.Kind == 2) = true := by simp [h2]
        simp only [e, cond_true, through_ok (show 30 < K by omega) hF ⟨t3, t4⟩, through_ok (show 30 < K by omega) hF ⟨t1, t2⟩, Option.bind_some]
        rw [gd_t (fun _ => hx), gd_t (fun _ => hx)]
        simp only [thrB, h2, if_true] at ih
        by_cases hq : thr g g.Blocks.length b.End.To = thr g g.Blocks.length b.End.Else
        · have e2 : (thr g g.Blocks.length b.End.To == thr g g.Blocks.length b.End.Else) = true := by simp [hq]
          rw [if_pos hq] at ih
          rw [e2, cond_true]
          exact ih
        · have e2 : (thr g g.Blocks.length b.End.To == thr g g.Blocks.length b.End.Else) = false := by simp [hq]
          rw [if_neg hq] at ih
          rw [e2, cond_false, h2]
          exact ih
      · have e : (b.End.Kind == 2) = false := by simp [h2]
        simp only [e, cond_false]
        by_cases h1 : b.End.Kind = 1
        · obtain ⟨t1, t2⟩ := ht.to1 h1
          have e1 : (b.End.Kind == 1) = true := by simp [h1]
          simp only [e1, cond_true, through_ok (show 30 < K by omega) hF ⟨t1, t2⟩, Option.bind_some]
          rw [gd_t (fun h => by cases h), gd_t (fun h => by cases h)]
          simp only [thrB, h1] at ih
          rw [h1]
          exact ih
        · have e1 : (b.End.Kind == 1) = false := by simp [h1]
          simp only [e1, cond_false]
          rw [gd_t (fun h => by cases h), gd_t (fun h => by cases h)]
          have et : thrB g b = b := by simp [thrB, h2, h1]
          have es : x.set i b = x := by
            rw [← s2]
            apply List.ext_getElem (by simp)
            intro j q1 q2
            by_cases hj : i = j
            · subst hj; simp [List.getD, hx]
            · simp [hj]
          rw [et, es] at ih
          exact ih
    · rw [df (by omega), cond_false]
      have : i = g.Blocks.length := by omega
      subst this
      simp

/-- A graph, threaded. -/
def threaded (g : Graph) : Graph := ⟨g.Name, g.Keep, g.Leaf, g.Blocks.map (thrB g)⟩

theorem thread_ok {K : Nat} (hK : 200 < K) {g : Graph} (hF : Fine g) : g11_dead_Thread K g = some (threaded g) := by
  have hlen := hF.len
  have := thread_l0 hK hF K 0 (by omega) (by omega)
  have : g11_dead_Thread.l0 K g g K g.Blocks 0 = some (ByteArray.empty, g.Blocks.map (thrB g)) := by simpa using this
  simp only [g11_dead_Thread, copied_ok hK hF.small, Option.bind_some, this]
  rfl
end Go.Proofs.Ytoooalfhjcfinaa.T
