import Derived.Test.YtoooalfhjcfinaaAbs10
namespace Go.Abs
set_option linter.unusedVariables false
set_option linter.unusedSimpArgs false
variable {P : Program}

theorem foldl_set (off : Nat) : ∀ (l : List Value) (k : Nat) (cells : Array Value), off + k + l.length ≤ cells.size →
    ((l.zipIdx k).foldl (fun (cs : Array Value) (x : Value × Nat) => cs.setIfInBounds (off + x.2) x.1) cells).toList = cells.toList.take (off + k) ++ l ++ cells.toList.drop (off + k + l.length)
  | [], k, cells, h => by simp
  | v :: l, k, cells, h => by
    simp only [List.zipIdx_cons, List.foldl_cons]
    rw [foldl_set off l (k + 1) _ (by simp at h ⊢; omega)]
    have e := list_seg_step cells.toList (off + k) v l (by simp at h ⊢; omega)
    simpa [Array.toList_setIfInBounds, Nat.add_assoc] using e

theorem fill_cons (place : Nat → Option (Nat × Nat)) (vs : List Value) (i off n : Nat) (v : Value) (us : List Value) (rest : List (Nat × Value)) (hp : place i = some (off, n)) (hv : v.cells = us.toArray) (hn : us.length = n) (hfit : off + n ≤ vs.length) :
    Instr.fill place vs.toArray ((i, v) :: rest) = Instr.fill place (vs.take off ++ us ++ vs.drop (off + n)).toArray rest := by
  have h1 : ¬ (v.cells.size ≠ n ∨ off + v.cells.size > vs.toArray.size) := by rw [hv]; simp; omega
  have e : (Array.foldl (fun cs (x : Value × Nat) => cs.setIfInBounds (off + x.2) x.1) vs.toArray v.cells.zipIdx) = (vs.take off ++ us ++ vs.drop (off + n)).toArray := by
    apply Array.ext'
    rw [hv]
    have := foldl_set off us 0 vs.toArray (by simp; omega)
    simp only [Nat.add_zero] at this
    rw [← hn]
    simpa using this
  simp only [Instr.fill, hp]
  rw [if_neg (by simpa using h1)]
  rw [← e]

theorem hasL_splice {id : Nat} {cs ps : List Cell} {off : Nat} (h : hasL id (splice cs ps off) = true) : hasL id cs = true ∨ hasL id ps = true := by
  unfold splice at h
  rw [hasL_append, hasL_append] at h
  simp only [Bool.or_eq_true] at h
  have sub : ∀ {l m : List Cell}, (∀ c ∈ l, c ∈ m) → hasL id l = true → hasL id m = true := by
    intro l m hs hl
    cases hm : hasL id m with
    | true => rfl
    | false =>
      exfalso
      have : hasL id l = false := by
        clear hl
        induction l with
        | nil => rfl
        | cons c r ih => simp [hasL, hasL_false hm c (hs c (by simp)), ih fun c hc => hs c (by simp [hc])]
      rw [this] at hl; cases hl
  rcases h with (h | h) | h
  · exact .inl (sub (fun c hc => List.mem_of_mem_take hc) h)
  · exact .inr h
  · exact .inl (sub (fun c hc => List.mem_of_mem_drop hc) h)

section
variable {W : World} {A K : Nat → Prop} {s : St} {a : Act} {w : World} {ρ : Nat → Value}

theorem fillA_run (h : Rel W A K s a w ρ) {g : Gd} (hg : g.val = true) {fs : List (Nat × Nat × Bool)} {place : Nat → Option (Nat × Nat)} (hp : ∀ (k off n : Nat) (b : Bool), fs[k]? = some (off, n, b) → place k = some (off, n)) :
    ∀ (parts : List (Nat × Operand)) (cs cs' : List Cell) (q : List Prop) (vs : List Value), fillA fs s g parts cs = some (cs', q) → AllC q → CRs (s.O A ρ) ρ s.H w vs cs →
      ∃ vs' : List Value, Instr.fill place vs.toArray (parts.map fun x => (x.1, a.eval x.2)) = some vs'.toArray ∧ CRs (s.O A ρ) ρ s.H w vs' cs'
  | [], cs, cs', q, vs, hs, _, hv => by simp [fillA] at hs; obtain ⟨rfl, _⟩ := hs; exact ⟨vs, rfl, hv⟩
  | (k, x) :: r, cs, cs', q, vs, hs, hc, hv => by
    simp only [fillA] at hs
    split at hs
    · rename_i off n b gx bb ps hk hx
      split at hs
      · rename_i hcond
        simp only [Option.map_eq_some_iff] at hs
        obtain ⟨⟨cs2, q2⟩, hr, hs⟩ := hs
        injection hs with h1 h2; subst h1; subst h2
        obtain ⟨hc1, hc2⟩ := AllC_append.1 hc
        have hx2 := opT_sound h hx (needs_of hg hc1)
        obtain ⟨us, hus, hcu⟩ := VR.cells hx2
        have hul : us.length = n := by rw [hcu.1]; exact hcond.1
        simp only [List.map_cons]
        rw [fill_cons place vs k off n _ us _ (hp k off n b hk) hus hul (by rw [hv.1]; exact hcond.2)]
        have hv2 : CRs (s.O A ρ) ρ s.H w (vs.take off ++ us ++ vs.drop (off + n)) (splice cs ps off) := by
          unfold splice
          rw [hcond.1]
          exact ((hv.take off).append hcu).append (hv.drop (off + n))
        exact fillA_run h hg hp r _ cs2 q2 _ hr hc2 hv2
      · cases hs
    · cases hs

theorem places_of {t : Nat} {fs : List (Nat × Nat × Bool)} (h : fieldsAt P t = some fs) {F : Array Field} (hu : P.underlying t = some (.struct F)) :
    F.toList.mapM (fun f => (P.info? f.type).map fun i => (f.offset, i.size)) = some (fs.map fun x => (x.1, x.2.1)) := by
  unfold fieldsAt at h
  rw [hu] at h
  simp only at h
  generalize F.toList = l at h
  clear hu
  induction l generalizing fs with
  | nil => simp at h; subst h; simp
  | cons f r ih =>
    simp only [List.mapM_cons, Option.bind_eq_bind, Option.pure_def, Option.bind_eq_some_iff] at h
    obtain ⟨y, ⟨x, hx, hy⟩, ys, hys, h⟩ := h
    injection h with h; subst h
    split at hy
    · cases hy
    injection hy with hy; subst hy
    obtain ⟨n, b⟩ := x
    obtain ⟨i, d, hi, hd, hs, hb⟩ := lay_spec hx
    simp only [List.mapM_cons, Option.bind_eq_bind, Option.pure_def, ih hys, hi, Option.map_some, Option.bind_some, hs, List.map_cons]

theorem step_build (h : Rel W A K s a w ρ) {o : Oper} {g : Gd} (hg : g.val = true) {t : TypeId} {parts : Array (Nat × Operand)} (ho : o.op = .build t parts) {tb : Tab} (hT : TabOk P tb) {hi : Hint} {r : R} (hs : step tb hi s g o.dst o.op = some r) (hc : AllC r.conds) : Does P W A K s a w o r := by
  rw [ho] at hs
  simp only [step] at hs
  split at hs
  · rename_i zs fs hz hfs
    simp only [Option.map_eq_some_iff] at hs
    obtain ⟨⟨cs, q⟩, hf, hs⟩ := hs
    subst hs
    obtain ⟨F, hu, hlen, hF⟩ := fld_spec (hT.fld hfs)
    have hpl := places_of (hT.fld hfs) hu
    have hzz := hT.zero hz
    unfold zeroAt at hzz
    split at hzz
    · rename_i i hi2
      split at hzz
      · rename_i z hzv
        have hz0 : CRs (s.O A ρ) ρ s.H w z.cells.toList (zs.map Cell.t) := (zeroChk_trs hzz).crs
        obtain ⟨vs', hfill, hcr⟩ := fillA_run (place := fun k => ((fs.map fun x => (x.1, x.2.1)).toArray)[k]?) h hg (fun k off n b hk => by simp [hk]) parts.toList _ cs q _ hf hc hz0
        have hb : P.built t (parts.map fun (i, x) => (i, a.eval x)).toList = some vs'.toArray := by
          simp only [Program.built, hi2, hu, hzv, hpl]
          simpa using hfill
        refine does_pure h rfl (v := .agg vs'.toArray) ?_ ⟨vs', rfl, hcr⟩
        simp only [execOp, ho, Sem.run_bind, run_build w t _ _ hb, Result.andThen_ok]
        rfl
      · cases hzz
    · cases hzz
  · cases hs

theorem elemsA_run (h : Rel W A K s a w ρ) {g : Gd} (hg : g.val = true) {es : Nat} : ∀ (parts : List (Nat × Operand)) (i : Nat) (css : List (List Cell)) (q : List Prop) (vs : List Value), elemsA s g es i parts = some (css, q) → AllC q → (i + parts.length) * es ≤ vs.length →
      ∃ us : List Value, Instr.fill (fun i => some (i * es, es)) vs.toArray (parts.map fun x => (x.1, a.eval x.2)) = some (vs.take (i * es) ++ us ++ vs.drop ((i + parts.length) * es)).toArray ∧ CRs (s.O A ρ) ρ s.H w us css.flatten ∧ css.length = parts.length ∧ us.length = parts.length * es
  | [], i, css, q, vs, hs, _, _ => by simp [elemsA] at hs; obtain ⟨rfl, _⟩ := hs; exact ⟨[], by simp [Instr.fill], CRs.nil, rfl, by simp⟩
  | (k, x) :: r, i, css, q, vs, hs, hc, hfit => by
    simp only [elemsA] at hs
    split at hs
    · rename_i gx bb ps hx
      split at hs
      · rename_i hcond
        simp only [Option.map_eq_some_iff] at hs
        obtain ⟨⟨css2, q2⟩, hr, hs⟩ := hs
        injection hs with h1 h2; subst h1; subst h2
        obtain ⟨hc1, hc2⟩ := AllC_append.1 hc
        have hx2 := opT_sound h hx (needs_of hg hc1)
        obtain ⟨us, hus, hcu⟩ := VR.cells hx2
        have hul : us.length = es := by rw [hcu.1]; exact hcond.2
        obtain ⟨rfl, _⟩ := hcond
        simp only [List.length_cons] at hfit
        have e1 : (k + (r.length + 1)) * es = k * es + es + r.length * es := by rw [Nat.add_mul, Nat.succ_mul]; omega
        have e2 : (k + 1) * es = k * es + es := Nat.succ_mul k es
        have e3 : (k + 1 + r.length) * es = k * es + es + r.length * es := by rw [Nat.add_mul, e2]
        simp only [List.map_cons]
        rw [fill_cons (fun i => some (i * es, es)) vs k (k * es) es _ us _ rfl hus hul (by omega)]
        have hl2 : (vs.take (k * es) ++ us ++ vs.drop (k * es + es)).length = vs.length := by simp [hul]; omega
        obtain ⟨us2, hf, hcr, hlen, hul2⟩ := elemsA_run h hg r (k + 1) css2 q2 (vs.take (k * es) ++ us ++ vs.drop (k * es + es)) hr hc2 (by rw [hl2]; omega)
        refine ⟨us ++ us2, ?_, by simpa using hcu.append hcr, by simp [hlen], by simp [hul, hul2, Nat.succ_mul]; omega⟩
        rw [hf, e2, e3]
        congr 2
        have t1 : (vs.take (k * es) ++ us ++ vs.drop (k * es + es)).take (k * es + es) = vs.take (k * es) ++ us := by
          rw [List.take_append_of_le_length (by simp [hul]; omega), List.take_of_length_le (by simp [hul]; omega)]
        have t2 : (vs.take (k * es) ++ us ++ vs.drop (k * es + es)).drop (k * es + es + r.length * es) = vs.drop (k * es + es + r.length * es) := by
          rw [List.drop_append]
          have : (vs.take (k * es) ++ us).length = k * es + es := by simp [hul]; omega
          rw [this, List.drop_of_length_le (by omega), List.drop_drop]
          simp
        rw [t1, t2, List.length_cons, e1]
        simp
      · cases hs
    · cases hs

theorem step_buildSlice (h : Rel W A K s a w ρ) {o : Oper} {g : Gd} (hg : g.val = true) {t : TypeId} {len : Nat} {parts : Array (Nat × Operand)} (ho : o.op = .buildSlice t len parts) {tb : Tab} (hT : TabOk P tb) {hi : Hint} {r : R} (hs : step tb hi s g o.dst o.op = some r) (hc : AllC r.conds) : Does P W A K s a w o r := by
  rw [ho] at hs
  simp only [step] at hs
  split at hs
  · rename_i d e es by_ ob hd hsl
    obtain ⟨inf, zv, hu, hi2, hzv, hsz, hby, hzs, hpos⟩ := slc_spec (hT.slc hsl)
    split at hs
    · rename_i css q hel
      split at hs
      · cases hs
      rename_i hcond
      injection hs with hs; subst hs
      have hn : s.has d = false := by
        cases hb : s.has d with
        | true => exact absurd (.inl hb) hcond
        | false => rfl
      have hlen : css.length = len := Classical.byContradiction fun e => hcond (.inr e)
      obtain ⟨hc1, hc2⟩ := AllC_append.1 hc
      have hbu := hc2.1
      cases hbu with
      | @mk T _ _ enc z xs hl hm =>
        have hxl : xs.length = len := by simpa using hlen
        generalize hcells : ((Array.range (len * es)).map (zv.cells[· % zv.cells.size]!)) = cells0
        have hsz0 : cells0.toList.length = len * es := by rw [← hcells]; simp
        have hpl : parts.toList.length = len := by
          have := elemsA_run h hg parts.toList 0 _ q (List.replicate (parts.toList.length * es) undef) hel hc1 (by simp)
          obtain ⟨_, _, _, h3, _⟩ := this
          rw [← h3]; exact hlen
        obtain ⟨us, hfill, hcr, _, hul⟩ := elemsA_run h hg parts.toList 0 _ q cells0.toList hel hc1 (by rw [hsz0, hpl]; simp)
        rw [hpl] at hfill hul
        simp only [Nat.zero_mul, List.take_zero, List.nil_append, Nat.zero_add] at hfill
        rw [List.drop_of_length_le (by omega), List.append_nil] at hfill
        have hcr2 : TRs (s.O A ρ) w us (xs.flatMap enc) := by
          apply CRs.trs (ρ := ρ) (H := s.H)
          have : (xs.map fun x => (enc x).map Cell.t).flatten = (xs.flatMap enc).map Cell.t := by
            rw [List.map_flatMap, ← List.flatMap_def]
          rw [← this]; exact hcr
        have hle : len * es ≤ 16777216 := by rw [← hxl]; exact hm
        have hrun : (Instr.buildSlice t len (parts.map fun (i, x) => (i, a.eval x))).run P w = .ok (.slice (some ⟨w.heap.size, 0, none⟩) len len) (w.alloc (.cells us.toArray e)) := by
          have hf2 : Instr.fill (fun i => some (i * es, es)) cells0 (parts.map fun (i, x) => (i, a.eval x)).toList = some us.toArray := by
            simpa using hfill
          have h24 : ¬ (len * es > 2 ^ 24) := by omega
          by_cases h0 : len * es = 0
          · have hc0 : (Array.range (len * es)).map (fun x => (#[] : Array Value)[x % (#[] : Array Value).size]!) = cells0 := by
              rw [← hcells, h0]; simp
            simp only [Instr.buildSlice, Sem.run_bind, run_underlying hu, Result.andThen_ok, sizeOf, typeInfo, run_program, hi2, hsz]
            simp only [Sem.run_pure, Result.andThen_ok, hsz, h24, if_false, h0, if_true, Sem.run_bind]
            have hf3 : Instr.fill (fun i => some (i * es, es)) #[] (parts.map fun (i, x) => (i, a.eval x)).toList = some us.toArray := by
              rw [show (#[] : Array Value) = cells0 from by rw [← hc0, h0]; simp]; exact hf2
            simp only [Array.range_zero', Array.map_empty, hf3]
            simp [newRow]
          · have hc0 : (Array.range (len * es)).map (fun x => zv.cells[x % zv.cells.size]!) = cells0 := hcells
            simp only [Instr.buildSlice, Sem.run_bind, run_underlying hu, Result.andThen_ok, sizeOf, typeInfo, run_program, hi2, hsz]
            simp only [Sem.run_pure, Result.andThen_ok, hsz, h24, if_false, h0, Sem.run_bind, zeroValue, typeInfo, run_program, hi2, hzv, hc0, hf2]
            simp [newRow]
        have hown : (w.alloc (.cells us.toArray e)).ownsRow 0 e es (.slice (some ⟨w.heap.size, 0, none⟩) xs.length len) xs.length us :=
          ⟨by rw [hxl]; exact hul, .inr ⟨w.heap.size, len, us.toArray, rfl, Nat.zero_le _, heap_alloc_new w _, by omega, by
            have : len ≤ len * es := Nat.le_mul_of_pos_right _ hpos
            simp only [maxLen]; omega, by simpa using hul, by rw [hxl]; simp only [List.toList_toArray]; rw [List.take_of_length_le (by omega)]⟩⟩
        have hne := new_rows h (d := d) hn (ty := e) (es := es) (enc := enc) (z := z) (xs := xs) (cap := len) (World.grownBy_alloc w _ none) (by simp) hown hl hcr2
        have hp : St.H { s with heap := hset d (.rows e es enc z xs) s.heap } d = some (.rows e es enc z xs) := by simp [St.H, look_hset]
        refine ⟨.slice (some ⟨w.heap.size, 0, none⟩) len len, _, _, .inl ?_, hne, ⟨_, rfl, ?_⟩⟩
        · simp only [execOp, ho, Sem.run_bind, hrun, Result.andThen_ok]; rfl
        · have := CR.own (O := St.O { s with heap := hset d (.rows e es enc z xs) s.heap } A (upd ρ d (.slice (some ⟨w.heap.size, 0, none⟩) xs.length len))) (ρ := upd ρ d (.slice (some ⟨w.heap.size, 0, none⟩) xs.length len)) (w := w.alloc (.cells us.toArray e)) hp (by simp [upd, Value.oneCell'])
          rw [show upd ρ d (.slice (some ⟨w.heap.size, 0, none⟩) xs.length len) d = .slice (some ⟨w.heap.size, 0, none⟩) len len from by simp [upd, hxl]] at this
          exact this
    · cases hs
  · cases hs

end
end Go.Abs
