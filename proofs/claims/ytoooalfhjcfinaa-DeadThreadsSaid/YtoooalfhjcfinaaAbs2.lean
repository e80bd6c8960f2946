import Derived.Test.YtoooalfhjcfinaaAbs1
namespace Go.Abs
set_option linter.unusedVariables false
set_option linter.unusedSimpArgs false
variable {P : Program}

universe u
def del {α : Type u} (id : Nat) (l : List (Nat × α)) : List (Nat × α) := l.filter fun x => !Nat.beq x.1 id

theorem look_del {α : Type u} (id k : Nat) (l : List (Nat × α)) : look k (del id l) = if k = id then none else look k l := by
  induction l with
  | nil => simp [del, look]
  | cons y r ih =>
    obtain ⟨u, x⟩ := y
    unfold del at ih ⊢
    simp only [List.filter_cons]
    cases hb : Nat.beq u id with
    | true =>
      have := Nat.eq_of_beq_eq_true hb; subst this
      simp only [Bool.not_true, Bool.false_eq_true, if_false, ih]
      split
      · rfl
      · rename_i hne
        have : Nat.beq u k = false := by
          cases h2 : Nat.beq u k with
          | true => exact absurd (Nat.eq_of_beq_eq_true h2).symm hne
          | false => rfl
        simp [look, this]
    | false =>
      simp only [Bool.not_false, if_true, look, ih]
      cases h2 : Nat.beq u k with
      | true =>
        have := Nat.eq_of_beq_eq_true h2; subst this
        have hne : u ≠ id := fun e => by subst e; rw [Nat.beq_refl] at hb; cases hb
        simp [hne]
      | false => simp

def hset (id : Nat) (o : Obj) (l : List (Nat × Obj)) : List (Nat × Obj) := (id, o) :: del id l

theorem look_hset (id k : Nat) (o : Obj) (l : List (Nat × Obj)) : look k (hset id o l) = if k = id then some o else look k l := by
  simp only [hset, look, look_del]
  cases hb : Nat.beq id k with
  | true => have := Nat.eq_of_beq_eq_true hb; simp [this]
  | false =>
    have hne : k ≠ id := fun e => by subst e; rw [Nat.beq_refl] at hb; cases hb
    simp [hne]

def St.setH (s : St) (id : Nat) (o : Obj) : St := { s with heap := hset id o s.heap }

@[simp] theorem St.setH_H (s : St) (id k : Nat) (o : Obj) : (s.setH id o).H k = if k = id then some o else s.H k := look_hset id k o s.heap

def upd (ρ : Nat → Value) (d : Nat) (v : Value) (k : Nat) : Value := if k = d then v else ρ k

theorem VR.cells {O : Nat → Prop} {ρ : Nat → Value} {H : Nat → Option Obj} {w : World} {v : Value} {b : Bool} {cs : List Cell} (h : VR O ρ H w v b cs) : ∃ vs : List Value, v.cells = vs.toArray ∧ CRs O ρ H w vs cs := by
  cases b with
  | true => obtain ⟨vs, rfl, h⟩ := h; exact ⟨vs, rfl, h⟩
  | false =>
    obtain ⟨c, rfl, h⟩ := h
    refine ⟨[v], ?_, CRs.cons h CRs.nil⟩
    have h1 := h.oneCell
    cases v <;> first | rfl | (simp [Value.oneCell'] at h1)

section
variable {W : World} {A K : Nat → Prop} {s : St} {a : Act} {w : World} {ρ : Nat → Value}

theorem run_storeAt {t : TypeId} {n : Nat} {b : Bool} (h : lay P t = some (n, b)) (w : World) (g o ty : Nat) (cur : Array Value) (hg : w.heap[g]? = some (.cells cur ty (0, 0))) (u : Value) (vs : List Value) (hu : u.cells = vs.toArray)
    (hl : vs.length = n) (h1 : ∀ v ∈ vs, v.oneCell' = true) (hfit : o + n ≤ cur.size) :
    (Instr.storeAt t (.pointer (some ⟨g, o, none⟩)) u).run P w = .ok () (w.setRow g (cur.toList.take o ++ vs ++ cur.toList.drop (o + n)).toArray) := by
  obtain ⟨i, d, hi, hd, hs, hb⟩ := lay_spec h
  have hst := run_storeCells_at P g o ty vs 0 cur w hg (by omega) h1
  subst hl
  simp only [Nat.add_zero] at hst
  simp [Instr.storeAt, Instr.sureAddr, storeVar, hu, sizeOf, typeInfo, hi, hs, hst]

theorem store_box (h : Rel W A K s a w ρ) {t : TypeId} {n : Nat} {b b' : Bool} (hl : lay P t = some (n, b)) {id ty : Nat} {cells : List Cell} (ho : s.H id = some (.box ty cells)) {v : Value} {i j : Nat}
    (hv : CR (s.O A ρ) ρ s.H w v (.ptr id i j)) {u : Value} {cs : List Cell} (hu : VR (s.O A ρ) ρ s.H w u b' cs) (hcs : ∀ k, hasL k cs = true → s.has k = true) (hn : cs.length = n) (hj : j + n ≤ cells.length) :
    ∃ w', (Instr.storeAt t v u).run P w = .ok () w' ∧ Rel W A K (s.setH id (.box ty (cells.take j ++ cs ++ cells.drop (j + n)))) a w' ρ := by
  obtain ⟨g, vs, rfl, hp, hg, hc⟩ := box_at h ho hv
  obtain ⟨us, hus, hcu⟩ := hu.cells
  have hrun := run_storeAt hl w g j ty vs.toArray hg u us hus (by rw [hcu.1, hn]) hcu.oneCell (by simpa [hc.1] using hj)
  refine ⟨_, hrun, ?_⟩
  have hbk : blk (ρ id) = some g := by rw [hp]; rfl
  have T : Turn s (s.setH id (.box ty (cells.take j ++ cs ++ cells.drop (j + n)))) w (w.setRow g (vs.toArray.toList.take j ++ us ++ vs.toArray.toList.drop (j + n)).toArray) ρ ρ (· = id) := by
    refine ⟨rfl, rfl, rfl, by simp, ?_, ?_, ?_, ?_, ?_⟩
    · intro b _ hb
      exact setRow_other w g b _ fun e => hb id _ rfl ho (e ▸ hbk)
    · intro k hk; simp [hk]
    · rintro k o k2 rfl hk hb
      exact ⟨by simp; exact (h.low k _ k2 ho hb).2, .inr ⟨k, _, rfl, ho, hb⟩⟩
    · rintro i j a b g rfl rfl _ _ _ _; rfl
    · rintro k o rfl hk
      simp at hk; subst hk
      exact .inr ⟨_, ho, rfl, rfl⟩
  refine h.turn T rfl rfl ?_
  rintro k o rfl hk
  rw [St.setH_H, if_pos rfl] at hk; injection hk with hk; subst hk
  have hc' := T.crs (fun i hi => St.has_heap ho (by simpa [Obj.has] using hi)) hc
  have hcu' := T.crs hcs hcu
  exact ⟨g, vs.take j ++ us ++ vs.drop (j + n), hp, setRow_heap w g vs.toArray _ ty (0, 0) hg, (hc'.take j).append hcu' |>.append (hc'.drop (j + n))⟩

theorem setRow_owns {w : World} {g cap e sz n : Nat} {cur : Array Value} {vs vs' : List Value} (h : w.ownsRow 0 e sz (.slice (some ⟨g, 0, none⟩) n cap) n vs) (hg : w.heap[g]? = some (.cells cur e (0, 0))) (cur' : Array Value)
    (hs : cur'.size = cur.size) (hl : vs'.length = vs.length) (ht : cur'.toList.take (n * sz) = vs') : (w.setRow g cur').ownsRow 0 e sz (.slice (some ⟨g, 0, none⟩) n cap) n vs' := by
  obtain ⟨h1, h2⟩ := h
  refine ⟨hl.trans h1, ?_⟩
  rcases h2 with ⟨h2, _⟩ | ⟨g', cap', cur2, he, _, hh, r1, r2, r3, _⟩
  · cases h2
  · simp at he
    obtain ⟨rfl, rfl⟩ := he
    have : cur2 = cur := by have := hh.symm.trans hg; simpa using this
    subst this
    exact .inr ⟨g, cap, cur', rfl, Nat.zero_le _, setRow_heap w g cur2 _ e (0, 0) hg, r1, r2, hs.trans r3, ht⟩

theorem flat_take {T : Type} {es : Nat} {enc : T → List Tree} {xs : List T} (hes : ∀ y ∈ xs, (enc y).length = es) (i : Nat) (hi : i ≤ xs.length) :
    (xs.flatMap enc).take (i * es) = (xs.take i).flatMap enc ∧ (xs.flatMap enc).drop (i * es) = (xs.drop i).flatMap enc := by
  have h1 : ((xs.take i).flatMap enc).length = i * es := by
    rw [flat_len (fun y hy => hes y (List.mem_of_mem_take hy)), List.length_take, Nat.min_eq_left hi]
  have h2 : xs.flatMap enc = (xs.take i).flatMap enc ++ (xs.drop i).flatMap enc := by rw [← List.flatMap_append, List.take_append_drop]
  rw [h2]
  exact ⟨by rw [← h1, List.take_left], by rw [← h1, List.drop_left]⟩

theorem flat_set {T : Type} {es : Nat} {enc : T → List Tree} {x : T} {xs : List T} {i : Nat} (hes : ∀ y ∈ xs, (enc y).length = es) (hx : (enc x).length = es) (hi : i < xs.length) :
    (xs.set i x).flatMap enc = (xs.flatMap enc).take (i * es) ++ enc x ++ (xs.flatMap enc).drop (i * es + es) := by
  rw [show i * es + es = (i + 1) * es from (Nat.succ_mul i es).symm, (flat_take hes i (by omega)).1, (flat_take hes (i + 1) (by omega)).2, List.set_eq_take_append_cons_drop, if_pos hi, List.flatMap_append, List.flatMap_cons, List.append_assoc]

theorem splice_list {α : Type} (L us : List α) (p j n es m : Nat) (hus : us.length = n) (hj : j + n ≤ es) (hp : p + es ≤ m) (hm : m ≤ L.length) :
    (L.take (p + j) ++ us ++ L.drop (p + j + n)).take m =
      (L.take m).take p ++ ((((L.take m).drop p).take es).take j ++ us ++ (((L.take m).drop p).take es).drop (j + n)) ++ (L.take m).drop (p + es) := by
  apply List.ext_getElem?
  intro q
  simp only [List.getElem?_take, List.getElem?_append, List.getElem?_drop, List.length_append, List.length_take, List.length_drop, hus]
  by_cases h1 : q < p
  · have a1 : q < m := by omega
    have a2 : q < min (p + j) L.length := by omega
    have a3 : q < min (p + j) L.length + n := by omega
    have a4 : q < p + j := by omega
    have a5 : q < min p (min m L.length) := by omega
    have a6 : q < min p (min m L.length) + (min j (min es (min m L.length - p)) + n + (min es (min m L.length - p) - (j + n))) := by omega
    simp [a1, a2, a3, a4, a5, a6, h1]
  · by_cases h2 : q < p + es
    · have e0 : min p (min m L.length) = p := by omega
      have e1 : min es (min m L.length - p) = es := by omega
      have e2 : min j es = j := by omega
      have e3 : min (p + j) L.length = p + j := by omega
      have a1 : q < m := by omega
      have a6 : q < p + (j + n + (es - (j + n))) := by omega
      simp only [e0, e1, e2, e3, a1, a6, h1, if_true, if_false]
      by_cases h3 : q < p + j
      · have b1 : q < p + j + n := by omega
        have b2 : q - p < j + n := by omega
        have b3 : q - p < j := by omega
        have b4 : q - p < es := by omega
        have b5 : p + (q - p) = q := by omega
        simp [h3, b1, b2, b3, b4, b5, a1]
      · by_cases h4 : q < p + j + n
        · have b2 : q - p < j + n := by omega
          have b3 : ¬ q - p < j := by omega
          have b5 : q - (p + j) = q - p - j := by omega
          simp [h3, h4, b2, b3, b5]
        · have b2 : ¬ q - p < j + n := by omega
          have b4 : j + n + (q - p - (j + n)) < es := by omega
          have b5 : p + (j + n + (q - p - (j + n))) = q := by omega
          have b6 : p + j + n + (q - (p + j + n)) = q := by omega
          simp only [h3, h4, b2, b4, b5, b6, if_true, if_false, a1]
    · have e0 : min p (min m L.length) = p := by omega
      have e1 : min es (min m L.length - p) = es := by omega
      have e2 : min j es = j := by omega
      have e3 : min (p + j) L.length = p + j := by omega
      have a6 : ¬ q < p + (j + n + (es - (j + n))) := by omega
      have b1 : ¬ q < p + j + n := by omega
      have b6 : p + j + n + (q - (p + j + n)) = q := by omega
      have b7 : p + es + (q - (p + (j + n + (es - (j + n))))) = q := by omega
      simp only [e0, e1, e2, e3, a6, b1, b6, b7, if_false]

theorem hasL_map_t (id : Nat) (l : List Tree) : hasL id (l.map Cell.t) = false := by
  induction l with
  | nil => rfl
  | cons c r ih => simp [hasL, Cell.has, ih]

theorem hasL_append (id : Nat) (l r : List Cell) : hasL id (l ++ r) = (hasL id l || hasL id r) := by
  induction l with
  | nil => simp [hasL]
  | cons c l ih => simp [hasL, ih, Bool.or_assoc]

theorem store_rows (h : Rel W A K s a w ρ) {t : TypeId} {n : Nat} {b b' : Bool} (hl : lay P t = some (n, b)) {id ty es : Nat} {T : Type} {enc : T → List Tree} {z : T} {xs : List T} (ho : s.H id = some (.rows ty es enc z xs)) {v : Value} {i j : Nat}
    (hv : CR (s.O A ρ) ρ s.H w v (.ptr id i j)) {u : Value} {cs : List Cell} (hu : VR (s.O A ρ) ρ s.H w u b' cs) (hn : cs.length = n) (hi : i < xs.length) (x : T) (hjn : j + n ≤ es) (hxl : (enc x).length = es)
    (hx : (enc x).map Cell.t = ((enc (xs.getD i z)).map Cell.t).take j ++ cs ++ ((enc (xs.getD i z)).map Cell.t).drop (j + n)) :
    ∃ w', (Instr.storeAt t v u).run P w = .ok () w' ∧ Rel W A K (s.setH id (.rows ty es enc z (xs.set i x))) a w' ρ := by
  obtain ⟨g, cap, cur, rfl, hr, hg, hcl, hcm, hsz, hes, hc⟩ := rows_at h ho hv
  obtain ⟨us, hus, hcu⟩ := hu.cells
  have hul : us.length = n := by rw [hcu.1, hn]
  have hle : i * es + es ≤ xs.length * es := by rw [← Nat.succ_mul]; exact Nat.mul_le_mul_right es hi
  have hle2 : xs.length * es ≤ cap * es := Nat.mul_le_mul_right es hcl
  have hcur : cur.toList.length = cur.size := Array.length_toList
  have hrun := run_storeAt hl w g (i * es + j) ty cur hg u us hus hul hcu.oneCell (by omega)
  refine ⟨_, hrun, ?_⟩
  have hbk : blk (ρ id) = some g := by rw [hr]; rfl
  obtain ⟨vs0, hown0, _, hc0⟩ := h.mr.obj id _ ho
  have hown : w.ownsRow 0 ty es (.slice (some ⟨g, 0, none⟩) xs.length cap) xs.length (cur.toList.take (xs.length * es)) := by
    rw [hr] at hown0
    obtain ⟨q1, q2⟩ := hown0
    rcases q2 with ⟨q2, _⟩ | ⟨g', cap', cur2, he, q0, hh, r1, r2, r3, r4⟩
    · cases q2
    · simp at he
      obtain ⟨rfl, rfl⟩ := he
      have : cur2 = cur := by have := hh.symm.trans hg; simpa using this
      subst this
      exact ⟨by rw [List.length_take]; omega, .inr ⟨g, cap, cur2, rfl, q0, hh, r1, r2, r3, rfl⟩⟩
  generalize hs' : s.setH id (.rows ty es enc z (xs.set i x)) = s'
  generalize hw' : w.setRow g (cur.toList.take (i * es + j) ++ us ++ cur.toList.drop (i * es + j + n)).toArray = w'
  have hH : ∀ k, s'.H k = if k = id then some (.rows ty es enc z (xs.set i x)) else s.H k := fun k => by rw [← hs']; exact St.setH_H s id k _
  have T : Turn s s' w w' ρ ρ (· = id) := by
    refine ⟨by rw [← hw']; rfl, by rw [← hw']; rfl, by rw [← hw']; rfl, by rw [← hw']; simp, ?_, ?_, ?_, ?_, ?_⟩
    · intro b _ hb
      rw [← hw']
      exact setRow_other w g b _ fun e => hb id _ rfl ho (e ▸ hbk)
    · intro k hk; rw [hH, if_neg hk]; exact ⟨rfl, rfl⟩
    · rintro k o k2 rfl hk hb
      exact ⟨by rw [← hw']; simp; exact (h.low k _ k2 ho hb).2, .inr ⟨k, _, rfl, ho, hb⟩⟩
    · rintro i j a b g rfl rfl _ _ _ _; rfl
    · rintro k o rfl hk
      rw [hH, if_pos rfl] at hk; injection hk with hk; subst hk
      exact .inr ⟨_, ho, rfl, rfl⟩
  refine h.turn T (by rw [← hs']; rfl) (by rw [← hs']; rfl) ?_
  rintro k o rfl hk
  rw [hH, if_pos rfl] at hk; injection hk with hk; subst hk
  have hflat := flat_set (xs := xs) (i := i) hes hxl hi
  have hnew := splice_list cur.toList us (i * es) j n es (xs.length * es) hul hjn hle (by omega)
  refine ⟨(cur.toList.take (i * es + j) ++ us ++ cur.toList.drop (i * es + j + n)).take (xs.length * es), ?_, fun y hy => ?_, ?_⟩
  · rw [hr, List.length_set, ← hw']
    refine setRow_owns hown hg _ ?_ ?_ rfl
    · simp only [List.size_toArray, List.length_append, List.length_take, List.length_drop, hul]; omega
    · simp only [List.length_append, List.length_take, List.length_drop, hul]; omega
  · rcases List.mem_or_eq_of_mem_set hy with hm | rfl
    · exact hes y hm
    · exact hxl
  · have hc' := T.trs hc
    have hcu' : CRs (s'.O A ρ) ρ s'.H w' us cs := by
      refine hcu.mono T.hw T.hO fun id o' hh _ => ?_
      have h1 := hasL_map_t id (enc x)
      rw [hx, hasL_append, hasL_append, hh] at h1
      simp at h1
    have e1 : ((enc (xs.getD i z)).map Cell.t) = (((xs.flatMap enc).drop (i * es)).take es).map Cell.t := by
      have := flat_seg (z := z) hes hi 0
      simp only [Nat.add_zero, Nat.sub_zero, List.drop_zero] at this
      rw [this]
    rw [hnew, hflat]
    have hq := (hc'.crs (ρ := ρ) (H := s'.H))
    have hseg : CRs (s'.O A ρ) ρ s'.H w' ((((cur.toList.take (xs.length * es)).drop (i * es)).take es).take j ++ us ++ (((cur.toList.take (xs.length * es)).drop (i * es)).take es).drop (j + n)) ((enc x).map Cell.t) := by
      rw [hx, e1]
      have hq2 := (hq.drop (i * es)).take es
      simp only [List.map_take, List.map_drop] at hq2 ⊢
      exact ((hq2.take j).append hcu').append (hq2.drop (j + n))
    apply CRs.trs (ρ := ρ) (H := s'.H)
    simp only [List.map_append, List.map_take, List.map_drop]
    exact ((hq.take (i * es)).append hseg).append (hq.drop (i * es + es))

end
end Go.Abs
