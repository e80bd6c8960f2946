import Derived.Test.YtoooalfhjcfinaaAbs2
namespace Go.Abs
set_option linter.unusedVariables false
set_option linter.unusedSimpArgs false
variable {P : Program}

section
variable {W : World} {A K : Nat → Prop} {s : St} {a : Act} {w : World} {ρ : Nat → Value}

/-- Every owned block is there already. -/
theorem Rel.owned_lt (h : Rel W A K s a w ρ) {b : Nat} (hb : owned ρ s.H b) : b < w.heap.size := by
  obtain ⟨id, o, ho, hk⟩ := hb
  exact (h.low id o b ho hk).2

/-- A new block under a new name. -/
theorem turn_new (h : Rel W A K s a w ρ) {d : Nat} (hd : s.has d = false) {w' : World} (o : Obj) (v : Value) (ho : w'.os = w.os) (ht : w'.tape = w.tape) (hu : w'.output = w.output)
    (hs : w.heap.size < w'.heap.size) (hb : ∀ b, b < w.heap.size → w'.heap[b]? = w.heap[b]?) (hv : ∀ g, blk v = some g → g = w.heap.size) :
    Turn s (s.setH d o) w w' ρ (upd ρ d v) (· = d) := by
  refine ⟨ho, ht, hu, Nat.le_of_lt hs, fun b hl _ => hb b hl, ?_, ?_, ?_, ?_⟩
  · intro k hk; simp [hk, upd]
  · rintro k o k2 rfl hk hb2
    simp [upd] at hb2
    have := hv k2 hb2
    exact ⟨by omega, .inl (by omega)⟩
  · rintro i j a b g rfl rfl _ _ _ _; rfl
  · rintro k o rfl _
    exact .inl hd

theorem new_box (h : Rel W A K s a w ρ) {d : Nat} (hd : s.has d = false) (ty : Nat) {vs : List Value} {cs : List Cell} (hc : CRs (s.O A ρ) ρ s.H w vs cs) (hcs : ∀ k, hasL k cs = true → s.has k = true) :
    Rel W A K (s.setH d (.box ty cs)) a (w.alloc (.cells vs.toArray ty)) (upd ρ d (.pointer (some ⟨w.heap.size, 0, none⟩))) := by
  have T := turn_new h hd (w' := w.alloc (.cells vs.toArray ty)) (.box ty cs) (.pointer (some ⟨w.heap.size, 0, none⟩)) rfl rfl rfl (by simp) (fun b hl => heap_alloc_old w _ hl) (by simp [blk])
  refine h.turn T rfl rfl ?_
  rintro k o rfl hk
  rw [St.setH_H, if_pos rfl] at hk; injection hk with hk; subst hk
  exact ⟨w.heap.size, vs, by simp [upd], heap_alloc_new w _, T.crs hcs hc⟩

theorem new_ptr {d ty : Nat} {cs : List Cell} {O : Nat → Prop} {w' : World} {g : Nat} {H : Nat → Option Obj} (hH : H d = some (.box ty cs)) : CR O (upd ρ d (.pointer (some ⟨g, 0, none⟩))) H w' (.pointer (some ⟨g, 0, none⟩)) (.ptr d 0 0) := by
  have := CR.ptr (O := O) (ρ := upd ρ d (.pointer (some ⟨g, 0, none⟩))) (H := H) (w := w') (id := d) (i := 0) (j := 0) (g := g) hH (by simp [upd, blk])
  simpa using this

/-- A new slice of the call's own. -/
theorem new_rows (h : Rel W A K s a w ρ) {d : Nat} (hd : s.has d = false) {ty es : Nat} {T : Type} {enc : T → List Tree} {z : T} {xs : List T} {w' : World} {cap : Nat} {vs : List Value}
    (hg : w.grownBy w' none) (hs : w.heap.size < w'.heap.size) (hown : w'.ownsRow 0 ty es (.slice (some ⟨w.heap.size, 0, none⟩) xs.length cap) xs.length vs) (hes : ∀ x ∈ xs, (enc x).length = es) (hc : TRs (s.O A ρ) w vs (xs.flatMap enc)) :
    Rel W A K (s.setH d (.rows ty es enc z xs)) a w' (upd ρ d (.slice (some ⟨w.heap.size, 0, none⟩) xs.length cap)) := by
  have T := turn_new h hd (w' := w') (.rows ty es enc z xs) (.slice (some ⟨w.heap.size, 0, none⟩) xs.length cap) hg.os hg.tape hg.output hs (fun b hl => hg.block b hl (by simp)) (by simp [blk])
  refine h.turn T rfl rfl ?_
  rintro k o rfl hk
  rw [St.setH_H, if_pos rfl] at hk; injection hk with hk; subst hk
  exact ⟨vs, by simpa [upd] using hown, hes, T.trs hc⟩

/-- A nil slice, taken for one of the call's own. -/
theorem new_nil (h : Rel W A K s a w ρ) {d : Nat} (hd : s.has d = false) (ty es : Nat) {T : Type} (enc : T → List Tree) (z : T) :
    Rel W A K (s.setH d (.rows ty es enc z [])) a w (upd ρ d (.slice none 0 0)) := by
  have T : Turn s (s.setH d (.rows ty es enc z [])) w w ρ (upd ρ d (.slice none 0 0)) (· = d) := by
    refine ⟨rfl, rfl, rfl, Nat.le_refl _, fun _ _ _ => rfl, ?_, ?_, ?_, ?_⟩
    · intro k hk; simp [hk, upd]
    · rintro k o k2 rfl _ hb2
      simp [upd, blk] at hb2
    · rintro i j a b g rfl rfl _ _ _ _; rfl
    · rintro k o rfl _
      exact .inl hd
  refine h.turn T rfl rfl ?_
  rintro k o rfl hk
  rw [St.setH_H, if_pos rfl] at hk; injection hk with hk; subst hk
  exact ⟨[], by simpa [upd] using World.ownsRow_nil w 0 ty es, by simp, ⟨rfl, by simp⟩⟩

theorem grow_fits {need cap bytes : Nat} (h : cap < need) (hb : need * bytes ≤ 140737488355328) : Builtin.nextslicecap need cap * bytes ≤ 281474976710656 := growslice_fits h hb

/-- append: what the call owns under id goes on under d. -/
theorem append_rows (h : Rel W A K s a w ρ) {t e ety : TypeId} {i : TypeInfo} {zv : Value} {es by_ : Nat} (ht : P.underlying t = some (.slice e)) (hi : P.info? e = some i) (hz : i.zero = some zv) (hsize : i.size = es) (hby : i.bytes = by_)
    (hzs : zv.cells.size = es) (hpos : 0 < es) {id d : Nat} {T : Type} {enc : T → List Tree} {z : T} {xs ys : List T} (ho : s.H id = some (.rows e es enc z xs)) (hd : s.has d = false) (hne : d ≠ id)
    {sv : Value} {news : List Value} (hsv : (sv = .slice none 0 0 ∧ ys = []) ∨ ∃ ad c, sv = .slice (some ad) ys.length c ∧ ∀ (j : Nat) u, news[j]? = some u → w.cell? (ad.add j) = some u)
    (hes : ∀ y ∈ ys, (enc y).length = es) (hn : TRs (s.O A ρ) w news (ys.flatMap enc)) (h63 : xs.length + ys.length ≤ maxLen) (hbytes : (xs.length + ys.length) * by_ ≤ 140737488355328) :
    ∃ v' w' ρ', (Builtin.append_ #[t, t] ety #[ρ id, sv]).run P w = .ok v' w' ∧ ρ' d = v' ∧ (∀ k, k ≠ d → ρ' k = ρ k) ∧ v'.oneCell' = true ∧
      Rel W A K { s with heap := (d, .rows e es enc z (xs ++ ys)) :: del id s.heap } a w' ρ' := by
  obtain ⟨vs, hown, hesx, hc⟩ := h.mr.obj id _ ho
  have hH : ∀ k, ({ s with heap := (d, Obj.rows e es enc z (xs ++ ys)) :: del id s.heap } : St).H k = if k = d then some (.rows e es enc z (xs ++ ys)) else if k = id then none else s.H k := by
    intro k
    simp only [St.H, look]
    cases hb : Nat.beq d k with
    | true => have := Nat.eq_of_beq_eq_true hb; simp [this]
    | false =>
      have hne : k ≠ d := fun e => by subst e; rw [Nat.beq_refl] at hb; cases hb
      simp [hne, look_del]
  have hall : ∀ y ∈ xs ++ ys, (enc y).length = es := fun y hy => by
    rcases List.mem_append.1 hy with hy | hy
    · exact hesx y hy
    · exact hes y hy
  -- what any way comes to
  have fin : ∀ (v' : Value) (w' : World), (Builtin.append_ #[t, t] ety #[ρ id, sv]).run P w = .ok v' w' → w'.os = w.os → w'.tape = w.tape → w'.output = w.output → w.heap.size ≤ w'.heap.size →
      (∀ b, b < w.heap.size → blk (ρ id) ≠ some b → w'.heap[b]? = w.heap[b]?) → (∀ g, blk v' = some g → g < w'.heap.size ∧ (w.heap.size ≤ g ∨ blk (ρ id) = some g)) →
      v'.oneCell' = true → w'.ownsRow 0 e es v' (xs ++ ys).length (vs ++ news) →
      ∃ v' w' ρ', (Builtin.append_ #[t, t] ety #[ρ id, sv]).run P w = .ok v' w' ∧ ρ' d = v' ∧ (∀ k, k ≠ d → ρ' k = ρ k) ∧ v'.oneCell' = true ∧
        Rel W A K { s with heap := (d, .rows e es enc z (xs ++ ys)) :: del id s.heap } a w' ρ' := by
    intro v' w' hrun h1 h2 h3 h4 h5 h6 h7 h8
    refine ⟨v', w', upd ρ d v', hrun, by simp [upd], fun k hk => by simp [upd, hk], h7, ?_⟩
    have T : Turn s { s with heap := (d, .rows e es enc z (xs ++ ys)) :: del id s.heap } w w' ρ (upd ρ d v') (fun k => k = id ∨ k = d) := by
      refine ⟨h1, h2, h3, h4, fun b hl hb => h5 b hl (hb id _ (.inl rfl) ho), ?_, ?_, ?_, ?_⟩
      · intro k hk
        have n1 : k ≠ id := fun e => hk (.inl e)
        have n2 : k ≠ d := fun e => hk (.inr e)
        rw [hH]; simp [n1, n2, upd]
      · rintro k o g hk hko hb
        rw [hH] at hko
        rcases hk with rfl | rfl
        · rw [if_neg (Ne.symm hne), if_pos rfl] at hko; cases hko
        · simp [upd] at hb
          obtain ⟨q1, q2⟩ := h6 g hb
          exact ⟨q1, q2.imp (fun x => x) fun q2 => ⟨id, _, .inl rfl, ho, q2⟩⟩
      · intro i j a b g hi hj hia hjb hbi hbj
        rw [hH] at hia hjb
        rcases hi with rfl | rfl <;> rcases hj with rfl | rfl
        · rfl
        · rw [if_neg (Ne.symm hne), if_pos rfl] at hia; cases hia
        · rw [if_neg (Ne.symm hne), if_pos rfl] at hjb; cases hjb
        · rfl
      · intro k o' hk hko
        rw [hH] at hko
        rcases hk with rfl | rfl
        · rw [if_neg (Ne.symm hne), if_pos rfl] at hko; cases hko
        · exact .inl hd
    refine h.turn T rfl rfl ?_
    intro k o hk hko
    rw [hH] at hko
    rcases hk with rfl | rfl
    · rw [if_neg (Ne.symm hne), if_pos rfl] at hko; cases hko
    · rw [if_pos rfl] at hko; injection hko with hko; subst hko
      refine ⟨vs ++ news, by simpa [upd] using h8, hall, ?_⟩
      rw [List.flatMap_append]
      exact CRs.trs (ρ := ρ) (H := s.H) (by rw [List.map_append]; exact (T.trs hc).crs.append (T.trs hn).crs)
  have hvl : vs.length = xs.length * es := hown.1
  have hnl : news.length = ys.length * es := by rw [hn.1]; exact flat_len hes
  have h1 : ∀ u ∈ news, u.oneCell' = true := (hn.crs (ρ := ρ) (H := s.H)).oneCell
  subst hsize
  rcases hsv with ⟨rfl, rfl⟩ | ⟨ad, c, rfl, hcell⟩
  · have hnn : news = [] := by simpa using hnl
    subst hnn
    have hrun := run_append_owned_none (P := P) (w := w) 0 t ety e i i.size ht hi (ρ id) xs.length vs hown
    refine fin (ρ id) w hrun rfl rfl rfl (Nat.le_refl _) (fun _ _ _ => rfl) (fun g hg => ⟨(h.low id _ g ho hg).2, .inr hg⟩) ?_ (by simpa using hown)
    rcases hown.2 with ⟨e, _⟩ | ⟨g, cap, cur, e, _⟩ <;> rw [e] <;> rfl
  · rcases hown.2 with ⟨e0, hx0⟩ | ⟨g, cap, cur, e0, _, hg, hle, hcm, hsz, htk⟩
    · -- from nil
      have hxs : xs = [] := List.length_eq_zero_iff.1 hx0
      subst hxs
      have hvn : vs = [] := by simpa using hvl
      subst hvn
      by_cases hm : ys.length = 0
      · have hys : ys = [] := List.length_eq_zero_iff.1 hm
        subst hys
        have hnn : news = [] := by simpa using hnl
        subst hnn
        have hrun : (Builtin.append_ #[t, t] ety #[ρ id, .slice (some ad) ([] : List T).length c]).run P w = .ok (.slice none 0 0) w := by
          rw [e0]
          simp [Builtin.append_, run_underlying ht, sizeOf, typeInfo, hi, Builtin.lenOf, Builtin.firstCells, loadCells, loadCellsFrom]
        exact fin _ w hrun rfl rfl rfl (Nat.le_refl _) (fun _ _ _ => rfl) (fun g hg => by simp [blk] at hg) rfl (by simpa using World.ownsRow_nil w 0 e i.size)
      · have hrun := run_append_nil (P := P) w t ety e i zv ht hi hz ad ys.length c news hnl hcell (by omega) (by simp [maxLen] at h63; omega) (by rw [hby]; simp at hbytes; omega)
        rw [← e0] at hrun
        have hcap := grownCap_ge w ys.length 0 e
        refine fin _ _ hrun rfl rfl rfl (by simp) (fun b hl _ => heap_alloc_old w.drew _ hl) (fun g hg => ?_) rfl ?_
        · simp [blk] at hg; subst hg; exact ⟨by simp, .inl (Nat.le_refl _)⟩
        · refine ⟨by simp [hnl], .inr ⟨w.heap.size, grownCap w ys.length 0 e, _, by simp, Nat.zero_le _, heap_alloc_new w.drew _, by simpa using hcap, grownCap_le_maxLen w _ _ e (by simp at h63; omega), ?_, ?_⟩⟩
          · simp only [Array.size_append, List.size_toArray, size_zeroCells, hzs, hnl]
            rw [← Nat.add_mul]; congr 1; omega
          · simp [hnl, List.take_append]
    · have hcells : ∀ (j : Nat) u, vs[j]? = some u → w.cell? ((⟨g, 0, none⟩ : Addr).add j) = some u := hown.cells (g := g) (by rw [e0]; rfl)
      by_cases hroom : xs.length + ys.length ≤ cap
      · have hfit : xs.length * i.size + news.length ≤ cur.size := by rw [hnl, hsz, ← Nat.add_mul]; exact Nat.mul_le_mul_right _ hroom
        have hrun := run_append_room (P := P) w t ety e i ht hi g xs.length cap cur hg ad ys.length c news hnl hcell h1 hroom hfit
        rw [← e0] at hrun
        refine fin _ _ hrun rfl rfl rfl (by simp) (fun b hl hb => setRow_other w g b _ fun e => hb (by rw [e0, e]; rfl)) (fun g' hg' => ?_) rfl ?_
        · simp [blk] at hg'; subst hg'
          exact ⟨by simp; exact (Array.getElem?_eq_some_iff.1 hg).1, .inr (by rw [e0]; rfl)⟩
        · have hcl : cur.toList.length = cur.size := Array.length_toList
          refine ⟨by simp [hvl, hnl, Nat.add_mul], .inr ⟨g, cap, _, by simp, Nat.zero_le _, setRow_heap w g cur _ e _ hg, by simpa using hroom, hcm, ?_, ?_⟩⟩
          · simp only [List.size_toArray, List.length_append, List.length_take, List.length_drop, hcl]
            omega
          · have e1 : (xs ++ ys).length * i.size = (vs ++ news).length := by simp [hvl, hnl, Nat.add_mul]
            rw [e1, htk]
            exact List.take_left
      · have hrun := run_append_grow (P := P) w t ety e i zv ht hi hz ⟨g, 0, none⟩ xs.length cap vs hown.1 hcells ad ys.length c news hnl hcell (by omega) (by simp [maxLen] at h63; omega) (grow_fits (by omega) (by rw [hby]; exact hbytes))
        rw [← e0] at hrun
        have hcap := grownCap_ge w (xs.length + ys.length) cap e
        refine fin _ _ hrun rfl rfl rfl (by simp) (fun b hl _ => heap_alloc_old w.drew _ hl) (fun g hg => ?_) rfl ?_
        · simp [blk] at hg; subst hg; exact ⟨by simp, .inl (Nat.le_refl _)⟩
        · refine ⟨by simp [hvl, hnl, Nat.add_mul], .inr ⟨w.heap.size, grownCap w (xs.length + ys.length) cap e, _, by simp, Nat.zero_le _, heap_alloc_new w.drew _, by simpa using hcap, grownCap_le_maxLen w _ _ e h63, ?_, ?_⟩⟩
          · simp only [Array.size_append, List.size_toArray, size_zeroCells, hzs, hvl, hnl]
            rw [← Nat.add_mul, ← Nat.add_mul]; congr 1; omega
          · have e1 : (xs ++ ys).length * i.size = (vs ++ news).length := by simp [hvl, hnl, Nat.add_mul]
            rw [e1]
            simp only [Array.toList_append, List.toList_toArray]
            exact List.take_left

end
end Go.Abs
