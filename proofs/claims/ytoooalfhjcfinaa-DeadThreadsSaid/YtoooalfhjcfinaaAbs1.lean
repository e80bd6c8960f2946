import Derived.Test.YtoooalfhjcfinaaAbs0
namespace Go.Abs
set_option linter.unusedVariables false
set_option linter.unusedSimpArgs false
variable {P : Program}

/-- A type's size in cells, and whether it is a struct or an array. -/
def lay (P : Program) (t : TypeId) : Option (Nat × Bool) :=
  match P.info? t, P.underlying t with
  | some i, some d => some (i.size, d.isRow)
  | _, _ => none

theorem lay_spec {t : TypeId} {n : Nat} {b : Bool} (h : lay P t = some (n, b)) : ∃ i d, P.info? t = some i ∧ P.underlying t = some d ∧ i.size = n ∧ d.isRow = b := by
  unfold lay at h
  split at h
  · rename_i i d hi hd
    simp only [Option.some.injEq, Prod.mk.injEq] at h
    exact ⟨i, d, hi, hd, h.1, h.2⟩
  · cases h

theorem run_isAgg {t : TypeId} {d : TypeDesc} (hu : P.underlying t = some d) (w : World) : (isAgg t).run P w = .ok d.isRow w := by
  unfold isAgg
  rw [Sem.run_bind, run_underlying hu w]
  cases d <;> rfl

/-- What stands from an address on, read by a type's size. -/
theorem run_loadAt {t : TypeId} {n : Nat} {b : Bool} (h : lay P t = some (n, b)) (w : World) (a : Addr) (vs : List Value) (hl : vs.length = n) (h1 : b = false → n = 1)
    (hc : ∀ (k : Nat) v, vs[k]? = some v → w.cell? (a.add k) = some v) :
    ∃ v, (Instr.loadAt t (.pointer (some a))).run P w = .ok v w ∧ (match b with | true => v = .agg vs.toArray | false => vs = [v]) := by
  obtain ⟨i, d, hi, hd, hs, hb⟩ := lay_spec h
  have hag := run_isAgg hd w
  cases b with
  | true =>
    have hlc := run_loadCells_list (P := P) w a vs hc
    refine ⟨.agg vs.toArray, ?_, rfl⟩
    simp [Instr.loadAt, Instr.sureAddr, loadVar, hag, hb, sizeOf, typeInfo, hi, hs, ← hl, hlc]
  | false =>
    have hn := h1 rfl
    match vs, hl.trans hn with
    | [v], _ =>
      refine ⟨v, ?_, rfl⟩
      have hv := hc 0 v rfl
      rw [Addr.add_zero'] at hv
      simp [Instr.loadAt, Instr.sureAddr, loadVar, hag, hb, hv]

theorem getD_mem {T : Type} {xs : List T} {i : Nat} {z : T} (hi : i < xs.length) : xs.getD i z ∈ xs := by
  simp [List.getD, List.getElem?_eq_getElem hi]

theorem flat_get {T : Type} {es : Nat} {enc : T → List Tree} {z : T} : ∀ {xs : List T}, (∀ x ∈ xs, (enc x).length = es) → ∀ (i j : Nat), i < xs.length → j < es →
    (xs.flatMap enc)[i * es + j]? = (enc (xs.getD i z))[j]?
  | [], _, _, _, h, _ => by cases h
  | x :: r, hes, 0, j, _, hj => by
    have := hes x (by simp)
    simp only [List.flatMap_cons, Nat.zero_mul, Nat.zero_add, List.getD_cons_zero]
    rw [List.getElem?_append_left (by omega)]
  | x :: r, hes, i + 1, j, hi, hj => by
    have hx := hes x (by simp)
    simp only [List.flatMap_cons, List.getD_cons_succ]
    rw [List.getElem?_append_right (by rw [hx, Nat.succ_mul]; omega), hx, show (i + 1) * es + j - es = i * es + j by rw [Nat.succ_mul]; omega]
    exact flat_get (fun y hy => hes y (by simp [hy])) i j (by simpa using hi) hj

theorem flat_len {T : Type} {es : Nat} {enc : T → List Tree} : ∀ {xs : List T}, (∀ x ∈ xs, (enc x).length = es) → (xs.flatMap enc).length = xs.length * es
  | [], _ => by simp
  | x :: r, hes => by
    rw [List.flatMap_cons, List.length_append, hes x (by simp), flat_len (fun y hy => hes y (by simp [hy])), List.length_cons, Nat.succ_mul, Nat.add_comm]

theorem flat_seg {T : Type} {es : Nat} {enc : T → List Tree} {z : T} {xs : List T} (hes : ∀ x ∈ xs, (enc x).length = es) {i : Nat} (hi : i < xs.length) (j : Nat) :
    ((xs.flatMap enc).drop (i * es + j)).take (es - j) = (enc (xs.getD i z)).drop j := by
  have hx : (enc (xs.getD i z)).length = es := hes _ (getD_mem hi)
  apply List.ext_getElem?
  intro k
  rw [List.getElem?_take, List.getElem?_drop, List.getElem?_drop]
  split
  · rename_i hk
    rw [Nat.add_assoc, flat_get hes i (j + k) hi (by omega)]
  · rename_i hk
    rw [List.getElem?_eq_none (by omega)]

section
variable {W : World} {A K : Nat → Prop} {s : St} {a : Act} {w : World} {ρ : Nat → Value}

/-- A box's cells, from some place on. -/
theorem box_at (h : Rel W A K s a w ρ) {id ty : Nat} {cells : List Cell} (ho : s.H id = some (.box ty cells)) {v : Value} {i j : Nat} (hv : CR (s.O A ρ) ρ s.H w v (.ptr id i j)) (hi : i * 0 = 0 := by rfl) :
    ∃ g vs, v = .pointer (some ⟨g, j, none⟩) ∧ ρ id = .pointer (some ⟨g, 0, none⟩) ∧ w.heap[g]? = some (.cells vs.toArray ty (0, 0)) ∧ CRs (s.O A ρ) ρ s.H w vs cells := by
  obtain ⟨g, vs, hp, hg, hc⟩ := h.mr.obj id _ ho
  cases hv with
  | @ptr _ _ _ g' o' h' hb =>
    have : o' = .box ty cells := by have := h'.symm.trans ho; simpa using this
    subst this
    rw [hp] at hb
    simp [blk] at hb
    subst hb
    exact ⟨g, vs, by simp [Obj.es], hp, hg, hc⟩
  | ptrj h' => have := h'.symm.trans ho; simp at this

theorem cell_box {w : World} {g ty : Nat} {vs : List Value} (hg : w.heap[g]? = some (.cells vs.toArray ty (0, 0))) (j : Nat) : w.cell? ⟨g, j, none⟩ = vs[j]? := by
  simp [World.cell?, hg]

theorem load_box (h : Rel W A K s a w ρ) {t : TypeId} {n : Nat} {b : Bool} (hl : lay P t = some (n, b)) {id ty : Nat} {cells : List Cell} (ho : s.H id = some (.box ty cells)) {v : Value} {i j : Nat}
    (hv : CR (s.O A ρ) ρ s.H w v (.ptr id i j)) (hn : ((cells.drop j).take n).length = n) (h1 : b = false → n = 1) :
    ∃ u, (Instr.loadAt t v).run P w = .ok u w ∧ VR (s.O A ρ) ρ s.H w u b ((cells.drop j).take n) := by
  obtain ⟨g, vs, rfl, hp, hg, hc⟩ := box_at h ho hv
  have hseg := (hc.drop j).take n
  obtain ⟨u, hu, hm⟩ := run_loadAt hl w ⟨g, j, none⟩ ((vs.drop j).take n) (by rw [hseg.1]; exact hn) h1 (by
    intro k x hk
    rw [Addr.add_mid, cell_box hg]
    rw [List.getElem?_take] at hk
    split at hk
    · simpa using hk
    · cases hk)
  refine ⟨u, hu, ?_⟩
  cases b with
  | true => simp only at hm; subst hm; exact ⟨_, rfl, hseg⟩
  | false =>
    simp only at hm
    rw [hm] at hseg
    match hcs : (cells.drop j).take n, hseg with
    | [c], hseg => exact ⟨c, rfl, hseg.2 0 u c rfl rfl⟩
    | [], hseg => have := hseg.1; simp at this
    | _ :: _ :: _, hseg => have := hseg.1; simp at this

/-- A row's cells, from some place on. -/
theorem rows_at (h : Rel W A K s a w ρ) {id ty es : Nat} {T : Type} {enc : T → List Tree} {z : T} {xs : List T} (ho : s.H id = some (.rows ty es enc z xs)) {v : Value} {i j : Nat} (hv : CR (s.O A ρ) ρ s.H w v (.ptr id i j)) :
    ∃ g cap cur, v = .pointer (some ⟨g, i * es + j, none⟩) ∧ ρ id = .slice (some ⟨g, 0, none⟩) xs.length cap ∧ w.heap[g]? = some (.cells cur ty (0, 0)) ∧ xs.length ≤ cap ∧ cap ≤ maxLen ∧ cur.size = cap * es ∧ (∀ x ∈ xs, (enc x).length = es) ∧
      TRs (s.O A ρ) w (cur.toList.take (xs.length * es)) (xs.flatMap enc) := by
  obtain ⟨vs, ⟨hl, hown⟩, hes, hc⟩ := h.mr.obj id _ ho
  cases hv with
  | @ptr _ _ _ g' o' h' hb =>
    have : o' = .rows ty es enc z xs := by have := h'.symm.trans ho; simpa using this
    subst this
    rcases hown with ⟨hn, _⟩ | ⟨g, cap, cur, hr, _, hg, h1, h2, h3, h4⟩
    · rw [hn] at hb; simp [blk] at hb
    · rw [hr] at hb
      simp [blk] at hb
      subst hb
      exact ⟨g, cap, cur, rfl, hr, hg, h1, h2, h3, hes, by rw [h4]; exact hc⟩
  | ptrj h' => have := h'.symm.trans ho; simp at this

theorem load_rows (h : Rel W A K s a w ρ) {t : TypeId} {n : Nat} {b : Bool} (hl : lay P t = some (n, b)) {id ty es : Nat} {T : Type} {enc : T → List Tree} {z : T} {xs : List T} (ho : s.H id = some (.rows ty es enc z xs)) {v : Value} {i j : Nat}
    (hv : CR (s.O A ρ) ρ s.H w v (.ptr id i j)) (hi : i < xs.length) (hn : (((enc (xs.getD i z)).drop j).take n).length = n) (h1 : b = false → n = 1) :
    ∃ u, (Instr.loadAt t v).run P w = .ok u w ∧ VR (s.O A ρ) ρ s.H w u b ((((enc (xs.getD i z)).drop j).take n).map .t) := by
  obtain ⟨g, cap, cur, rfl, hr, hg, hcl, hcm, hsz, hes, hc⟩ := rows_at h ho hv
  have hx : (enc (xs.getD i z)).length = es := hes _ (getD_mem hi)
  have hnj : n ≤ es - j := by simp only [List.length_take, List.length_drop] at hn; omega
  have hseg : TRs (s.O A ρ) w (((cur.toList.take (xs.length * es)).drop (i * es + j)).take n) (((enc (xs.getD i z)).drop j).take n) := by
    rw [← flat_seg hes hi j, List.take_take, Nat.min_eq_left hnj]
    refine ⟨by simp [hc.1], fun k x t hk ht => ?_⟩
    rw [List.getElem?_take] at hk ht
    split at hk
    · rename_i hkn; simp only [hkn, if_true] at ht
      rw [List.getElem?_drop] at hk ht
      exact hc.2 _ _ _ hk ht
    · cases hk
  obtain ⟨u, hu, hm⟩ := run_loadAt hl w ⟨g, i * es + j, none⟩ (((cur.toList.take (xs.length * es)).drop (i * es + j)).take n) (by rw [hseg.1]; exact hn) h1 (by
    intro k x hk
    rw [Addr.add_mid]
    rw [List.getElem?_take] at hk
    split at hk
    · rw [List.getElem?_drop, List.getElem?_take] at hk
      split at hk
      · simp [World.cell?, hg]; simpa using hk
      · cases hk
    · cases hk)
  refine ⟨u, hu, ?_⟩
  have hseg' := hseg.crs (ρ := ρ) (H := s.H)
  cases b with
  | true => simp only at hm; subst hm; exact ⟨_, rfl, hseg'⟩
  | false =>
    simp only at hm
    rw [hm] at hseg'
    match hcs : (((enc (xs.getD i z)).drop j).take n).map Cell.t, hseg' with
    | [c], hseg' => exact ⟨c, rfl, hseg'.2 0 u c rfl rfl⟩
    | [], hseg' => have := hseg'.1; simp at this
    | _ :: _ :: _, hseg' => have := hseg'.1; simp at this

theorem load_rop {O : Nat → Prop} {H : Nat → Option Obj} {t : TypeId} {n : Nat} {b : Bool} (hl : lay P t = some (n, b)) {cells : List Tree} {v : Value}
    (hv : CR O ρ H w v (.rop cells)) (hn : (cells.take n).length = n) (h1 : b = false → n = 1) :
    ∃ u, (Instr.loadAt t v).run P w = .ok u w ∧ VR O ρ H w u b ((cells.take n).map .t) := by
  cases hv with
  | rop ad vals hlen hcell hO hrel =>
    have hseg : TRs O w (vals.take n) (cells.take n) := by
      refine ⟨by simp [hlen], fun k x t hk ht => ?_⟩
      rw [List.getElem?_take] at hk ht
      split at hk
      · rename_i hkn; simp only [hkn, if_true] at ht; exact hrel k x t hk ht
      · cases hk
    obtain ⟨u, hu, hm⟩ := run_loadAt hl w ad (vals.take n) (by rw [hseg.1]; exact hn) h1 (by
      intro k x hk
      rw [List.getElem?_take] at hk
      split at hk
      · exact hcell k x hk
      · cases hk)
    refine ⟨u, hu, ?_⟩
    have hseg' := hseg.crs (ρ := ρ) (H := H)
    cases b with
    | true => simp only at hm; subst hm; exact ⟨_, rfl, hseg'⟩
    | false =>
      simp only at hm
      rw [hm] at hseg'
      match hcs : (cells.take n).map Cell.t, hseg' with
      | [c], hseg' => exact ⟨c, rfl, hseg'.2 0 u c rfl rfl⟩
      | [], hseg' => have := hseg'.1; simp at this
      | _ :: _ :: _, hseg' => have := hseg'.1; simp at this

end
end Go.Abs
