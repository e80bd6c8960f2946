import Derived.Test.YtoooalfhjcfinaaAbs11
namespace Go.Abs
set_option linter.unusedVariables false
set_option linter.unusedSimpArgs false
variable {P : Program}

section
variable {W : World} {A K : Nat → Prop} {s : St} {a : Act} {w : World} {ρ : Nat → Value}

theorem array1 {α : Type} {x : Array α} {y : α} (h : x.toList = [y]) : x = #[y] := by apply Array.ext'; simpa using h
theorem array2 {α : Type} {x : Array α} {y z : α} (h : x.toList = [y, z]) : x = #[y, z] := by apply Array.ext'; simpa using h

theorem lenA_run (h : Rel W A K s a w ρ) {tb : Tab} {t e : Nat} (hu : P.underlying t = some (.slice e)) {v : AT} {n : Int} (hl : lenA s tb t v = some n) {x : Value} (hx : AR (s.O A ρ) ρ s.H w x v) (ats : Array Nat) (ht : ats[0]? = some t) (ty : Nat) :
    (Builtin.len_ ats ty #[x]).run P w = .ok (.int .i64 n) w := by
  have key : ∀ (ad : Option Addr) (n c : Nat), (Builtin.len_ ats ty #[.slice ad n c]).run P w = .ok (.int .i64 n) w := fun ad n c => by
    simp [Builtin.len_, ht, run_underlying hu, goInt]
  unfold lenA at hl
  split at hl
  · rename_i id
    obtain ⟨c, hcc, hx⟩ := hx
    simp at hcc; subst hcc
    split at hl
    · rename_i hid
      injection hl with hl; subst hl
      obtain ⟨vs, hown, _⟩ := h.mr.obj _ _ hid
      have hvr : x = ρ id := by
        cases hx with
        | own => rfl
        | ownj h' => rw [hid] at h'; cases h'
      subst hvr
      rcases hown.2 with ⟨e0, hx0⟩ | ⟨g, cap, cur, e0, _⟩
      · rw [e0, key]; simp [hx0]
      · rw [e0, key]
    · cases hl
  · injection hl with hl; subst hl
    obtain ⟨c, hcc, hx⟩ := hx
    simp at hcc; subst hcc
    obtain ⟨ad, cap, hv⟩ := tr_len hx.tr
    rw [hv, key]
  · injection hl with hl; subst hl
    have := lit_inv hx; subst this
    rw [key]; rfl
  · cases hl

theorem step_call (h : Rel W A K s a w ρ) {o : Oper} {g : Gd} (hg : g.val = true) {c : Call} (ho : o.op = .call c) {tb : Tab} (hT : TabOk P tb) {hi : Hint} {r : R} (hs : step tb hi s g o.dst o.op = some r) (hc : AllC r.conds) : Does P W A K s a w o r := by
  rw [ho] at hs
  simp only [step] at hs
  split at hs
  · rename_i x t tl hcal hargs hats
    have hax := array1 hargs
    have ht0 : c.argTypes[0]? = some t := by rw [← Array.getElem?_toList, hats]; rfl
    split at hs
    · rename_i gx v hx
      split at hs
      · have hk : look t tb.kin = some .str := by assumption
        injection hs with hs; subst hs
        have e := lit_inv (opT_sound h hx (needs_of hg hc))
        have u1 := kin_spec (hT.kin hk)
        refine does_pure h rfl (v := _) ?_ (lit_ar rfl)
        simp [execOp, ho, resolve, hcal, hax, invoke, builtin, e, Builtin.len_, ht0, run_underlying u1, goInt]
      · simp only [Option.map_eq_some_iff] at hs
        obtain ⟨n, hn, hs⟩ := hs
        subst hs
        obtain ⟨inf, zv, hu, _⟩ := slc_spec (hT.slc ‹look t tb.slc = some _›)
        have hr := lenA_run h hu hn (opT_sound h hx (needs_of hg hc)) c.argTypes ht0 o.type
        refine does_pure h rfl (v := .int .i64 n) ?_ (lit_ar rfl)
        simp [execOp, ho, resolve, hcal, hax, invoke, builtin, hr]
      · cases hs
    · cases hs
  · rename_i x y t t' hcal hargs hats
    have hax := array2 hargs
    have hat := array2 hats
    split at hs
    · rename_i d gx id0 gy cy e es by_ ob hd hx hy hsl
      obtain ⟨inf, zv, hu, hi2, hzv, hsz, hby, hzs, hpos⟩ := slc_spec (hT.slc hsl)
      split at hs
      · rename_i o0 et hid het
        split at hs
        · cases hs
        rename_i hcond
        injection hs with hs; subst hs
        have hn : s.has d = false := by
          cases hb : s.has d with
          | true => exact absurd (.inl hb) hcond
          | false => rfl
        have htt : t = t' := Classical.byContradiction fun e => hcond (.inr e)
        subst htt
        obtain ⟨hc12, hc3⟩ := AllC_append.1 hc
        obtain ⟨hc1, hc2⟩ := AllC_append.1 hc12
        obtain ⟨c1, hcc, hx2⟩ := opT_sound h hx (needs_of hg hc1)
        simp at hcc; subst hcc
        obtain ⟨c2, hcc, hy2⟩ := opT_sound h hy (needs_of hg hc2)
        simp at hcc; subst hcc
        have hvr : a.eval x = ρ id0 := by
          generalize a.eval x = v at hx2
          cases hx2 with
          | own => rfl
          | ownj h' => rw [hid] at h'; cases h'
        have happ := hc3.1
        have hne : d ≠ id0 := fun e => by
          subst e
          have := opT_has hx d (by simp [AT.has, hasL, Cell.has, Nat.beq_refl])
          rw [hn] at this; cases this
        have fin : ∀ {T : Type} {enc : T → List Tree} {z : T} {xs ys : List T} {news : List Value}, s.H id0 = some (.rows e es enc z xs) → ((a.eval y = .slice none 0 0 ∧ ys = []) ∨ ∃ ad c, a.eval y = .slice (some ad) ys.length c ∧ ∀ (j : Nat) u, news[j]? = some u → w.cell? (ad.add j) = some u) →
            (∀ y ∈ ys, (enc y).length = es) → TRs (s.O A ρ) w news (ys.flatMap enc) → xs.length + ys.length ≤ maxLen → (xs.length + ys.length) * by_ ≤ 140737488355328 →
            Does P W A K s a w o ⟨.v false [.own d], (d, .rows e es enc z (xs ++ ys)) :: del id0 s.heap, needs .yes gx ++ needs .yes gy ++ [Appended o0 et e es by_ ob]⟩ := by
          intro T enc z xs ys news hid hsv hl hnews h63 hb
          obtain ⟨v', w', ρ', hrun, hd', hk', h1, hrel⟩ := append_rows (ety := o.type) h hu hi2 hzv hsz hby hzs hpos hid hn hne hsv hl hnews h63 hb
          refine ⟨v', w', ρ', .inl ?_, hrel, ⟨_, rfl, ?_⟩⟩
          · simp only [execOp, ho, resolve, hcal, hax, hat]
            rw [← hvr] at hrun
            simp [invoke, builtin, hrun]
          · have hp : St.H { s with heap := (d, .rows e es enc z (xs ++ ys)) :: del id0 s.heap } d = some (.rows e es enc z (xs ++ ys)) := by simp [St.H, look, Nat.beq_refl]
            have := CR.own (O := St.O { s with heap := (d, .rows e es enc z (xs ++ ys)) :: del id0 s.heap } A ρ') (ρ := ρ') (w := w') hp (by rw [hd']; exact h1)
            rw [hd'] at this
            exact this
        cases happ with
        | @mk T _ _ _ enc z z' xs ys hl h63 hb =>
          obtain ⟨news, hsv, hnews⟩ := (elems_cells h het hy2).1 rfl
          exact fin hid hsv hl hnews h63 hb
        | @nil T _ _ _ enc z xs p c hp h63 hb =>
          have hv := (elems_cells h het hy2).2 _ rfl
          have := fin (ys := []) (news := []) hid (by
            cases p with
            | none => rw [hp rfl] at hv; exact .inl ⟨hv, rfl⟩
            | some ad => exact .inr ⟨ad, c, hv, by simp⟩) (by simp) ⟨rfl, by simp⟩ (by simpa using h63) (by simpa using hb)
          simpa using this
      · cases hs
    · cases hs
  · cases hs

theorem step_sound (h : Rel W A K s a w ρ) {o : Oper} {g : Gd} (hg : g.val = true) {tb : Tab} (hT : TabOk P tb) {hi : Hint} {r : R} (hs : step tb hi s g o.dst o.op = some r) (hc : AllC r.conds) : Does P W A K s a w o r := by
  cases ho : o.op with
  | move x => exact step_move h hg (.inl ho) hs hc
  | assign x => exact step_move h hg (.inr ho) hs hc
  | pick => exact step_pick h hg ho hs hc
  | alloc => exact step_alloc h ho hT hs
  | box => exact step_box h hg ho hs hc
  | load => exact step_load h hg ho hT hs hc
  | store => exact step_store h hg ho hT hs hc
  | nilCheck => exact step_nilCheck h hg ho hs hc
  | binOp => exact step_binOp h hg ho hT hs hc
  | unOp => exact step_unOp h hg ho hs hc
  | convert => exact step_convert h hg ho hT hs hc
  | makeFunc fn =>
    cases fn with
    | func f => exact step_makeFunc h hg ho hs hc
    | _ => rw [ho] at hs; simp [step] at hs
  | makeSlice => exact step_makeSlice h hg ho hT hs hc
  | fieldAddr => exact step_fieldAddr h hg ho hT hs hc
  | field => exact step_field h hg ho hT hs hc
  | indexAddr => exact step_indexAddr h hg ho hT hs hc
  | build => exact step_build h hg ho hT hs hc
  | buildSlice => exact step_buildSlice h hg ho hT hs hc
  | slice => exact step_slice h hg ho hT hs hc
  | extract => exact step_extract h hg ho hs hc
  | call => exact step_call h hg ho hT hs hc
  | _ => rw [ho] at hs; simp [step] at hs

/-- Under a condition nothing is made or written. -/
theorem step_quiet {tb : Tab} {hi : Hint} {p : Bool} {d : Option Nat} {o : Op} {r : R} (hs : step tb hi s (.on p) d o = some r) : r.heap = s.heap := by
  cases o <;> simp only [step] at hs
  all_goals first
    | (cases hs; done)
    | (repeat' split at hs
       all_goals first
         | contradiction
         | (cases hs; done)
         | (injection hs with hs; subst hs; rfl)
         | (simp only [Option.map_eq_some_iff] at hs
            obtain ⟨_, _, hs⟩ := hs
            subst hs; rfl)
         | (simp at hs; done))

end
end Go.Abs
