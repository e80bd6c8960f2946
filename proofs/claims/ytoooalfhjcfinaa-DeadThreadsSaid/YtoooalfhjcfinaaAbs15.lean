import Derived.Test.YtoooalfhjcfinaaAbs25
namespace Go.Abs
set_option linter.unusedVariables false
set_option linter.unusedSimpArgs false
variable {P : Program}

/-! ### Regions in the text's order -/
def gdOf (ops : Array Oper) (s : St) (o : Oper) : Option Gd :=
  match o.guard with
  | none => some .yes
  | some (j, want) =>
    match (ops[j]?).bind (·.dst) with
    | some t => match look t s.env with
      | some (.yes, .v false [.t (.lit (.bool b))]) => some (.on (bif want then b else !b))
      | some (.on p, .v false [.t (.lit (.bool b))]) => some (.on (p && (bif want then b else !b)))
      | _ => none
    | none => none

def hintAt (i : Nat) : List (Nat × Hint) → Hint
  | [] => .no
  | (k, h) :: r => bif Nat.beq k i then h else hintAt i r

def dstOk (s : St) : Option Nat → Bool
  | none => true
  | some d => Nat.blt d s.n

def opRes (P : Program) (tb : Tab) (h : Hint) (s : St) (g : Gd) (o : Oper) : Option R :=
  match h with
  | .call names H' res => callStep P tb names H' res s g o.op
  | .fz ob => (step tb (.obj ob) s g o.dst o.op).bind (fzR s g o.dst)
  | .callM ids kept names H' res => callStepM P tb ids kept names H' res s g o.op
  | h => step tb h s g o.dst o.op

def opRun (P : Program) (tb : Tab) (ops : Array Oper) (h : Hint) (s : St) (o : Oper) : Option (St × List Prop) :=
  match gdOf ops s o, dstOk s o.dst with
  | some g, true => (opRes P tb h s g o).map fun r => (({ s with heap := r.heap } : St).put o.dst g r.val, r.conds)
  | _, _ => none

/-- From operation i on: the state, and what must hold. -/
def regRun (P : Program) (tb : Tab) (ops : Array Oper) (hs : List (Nat × Hint)) : Nat → List Oper → St → Option (St × List Prop)
  | _, [], s => some (s, [])
  | i, o :: r, s =>
    match opRun P tb ops (hintAt i hs) s o with
    | some (s', c) => (regRun P tb ops hs (i + 1) r s').map fun q => (q.1, c ++ q.2)
    | none => none

section
variable {W : World} {A K : Nat → Prop} {s : St} {a : Act} {w : World} {ρ : Nat → Value}

theorem gdOf_wanted (h : Rel W A K s a w ρ) {ops : Array Oper} {o : Oper} {g : Gd} (hg : gdOf ops s o = some g) : Region.wanted o (yielded ops a.tmps) = g.val := by
  unfold gdOf at hg
  unfold Region.wanted
  split at hg
  · rename_i hgd; injection hg with hg; subst hg; rw [hgd]; rfl
  · rename_i j want hgd
    rw [hgd]
    simp only
    split at hg
    · rename_i t ht
      split at hg
      · rename_i b hl
        injection hg with hg; subst hg
        obtain ⟨v, hv, hr, _⟩ := h.env t _ _ hl
        have e := lit_inv (hr rfl)
        subst e
        simp only [yielded, ht, Option.bind_some, hv, Gd.val]
        cases want <;> cases b <;> rfl
      · rename_i p b hl
        injection hg with hg; subst hg
        obtain ⟨v, hv, hr, hu⟩ := h.env t _ _ hl
        cases p with
        | true =>
          have e := lit_inv (hr rfl)
          subst e
          simp only [yielded, ht, Option.bind_some, hv, Gd.val]
          cases want <;> cases b <;> rfl
        | false =>
          have e := hu rfl
          subst e
          simp only [yielded, ht, Option.bind_some, hv, Gd.val, undef]
          rfl
      · cases hg
    · cases hg

theorem opRes_goes (h : Rel W A K s a w ρ) {o : Oper} {g : Gd} (hg : g.val = true) {tb : Tab} (hT : TabOk P tb) {hi : Hint} {r : R} (hs : opRes P tb hi s g o = some r) (hc : AllC r.conds) : Goes P W A K s a w o r := by
  unfold opRes at hs
  split at hs
  · exact call_goes h hg hT hs hc
  · simp only [Option.bind_eq_some_iff] at hs
    obtain ⟨r0, h0, hs⟩ := hs
    exact fzR_goes (step_sound h hg hT h0 (by rw [← fzR_conds hs]; exact hc)).goes hs
  · exact callM_goes h hT hs hc
  · exact (step_sound h hg hT hs hc).goes

theorem opRes_quiet {o : Oper} {p : Bool} {tb : Tab} {hi : Hint} {r : R} (hs : opRes P tb hi s (.on p) o = some r) : ({ s with heap := r.heap } : St).H = s.H := by
  unfold opRes at hs
  split at hs
  · rename_i names H' res
    unfold callStep at hs
    split at hs
    · split at hs
      · split at hs
        · split at hs
          · rename_i hcond
            injection hs with hs; subst hs
            simp only [Bool.and_eq_true, gdEmpty] at hcond
            have : H' = [] := by simpa using hcond.1.2
            subst this
            rfl
          · cases hs
        · cases hs
      · cases hs
    · cases hs
  · simp only [Option.bind_eq_some_iff] at hs
    obtain ⟨r0, h0, hs⟩ := hs
    simp [fzR] at hs
  · simp [callStepM] at hs
  · have := step_quiet hs
    rw [this]

theorem opRun_wp (h : Rel W A K s a w ρ) {tb : Tab} (hT : TabOk P tb) {ops : Array Oper} {hi : Hint} {o : Oper} {s' : St} {c : List Prop} (hs : opRun P tb ops hi s o = some (s', c)) (hc : AllC c) {Q : Exit → Act → World → Prop} {next : Act → World → Prop}
    (hn : ∀ a' w' ρ', Rel W A K s' a' w' ρ' → next a' w') : if Region.wanted o (yielded ops a.tmps) then o.wp P a w next Q else next (a.put o.dst undef) w := by
  unfold opRun at hs
  split at hs
  · rename_i g hg hd
    simp only [Option.map_eq_some_iff] at hs
    obtain ⟨r, hr, hs⟩ := hs
    injection hs with h1 h2; subst h1; subst h2
    have hd2 : ∀ k, o.dst = some k → k < s.n := fun k hk => by rw [hk] at hd; simpa [dstOk, Nat.blt_eq] using hd
    rw [gdOf_wanted h hg]
    cases hgv : g.val with
    | true =>
      simp only [if_true]
      refine opRes_goes h hgv hT hr hc next Q fun v w' ρ' hrel hv => hn _ _ ρ' ?_
      exact hrel.put (s := { s with heap := r.heap }) hd2 (fun _ => hv) (fun hf => by rw [hgv] at hf; cases hf)
    | false =>
      simp only [Bool.false_eq_true, if_false]
      cases g with
      | yes => cases hgv
      | on p =>
        have hH := opRes_quiet hr
        have hrel : Rel W A K { s with heap := r.heap } a w ρ := by
          refine ⟨h.ext, h.kl, h.al, ?_, ?_, ?_, h.defers, h.size⟩
          · rw [hH]; exact h.mr
          · rw [hH]; exact h.low
          · intro t g x hl
            obtain ⟨v, hv, h1, h2⟩ := h.env t g x hl
            refine ⟨v, hv, fun hp => ?_, h2⟩
            have := h1 hp
            have hO : St.O { s with heap := r.heap } A ρ = s.O A ρ := by unfold St.O; rw [hH]
            rw [hH, hO]; exact this
        exact hn _ _ ρ (hrel.put hd2 (fun hf => by rw [hgv] at hf; cases hf) (fun _ => rfl))
  · cases hs

theorem regRun_wp {tb : Tab} (hT : TabOk P tb) {ops : Array Oper} {hs : List (Nat × Hint)} {Q : Exit → Act → World → Prop} : ∀ (l : List Oper) (i : Nat) (s s' : St) (c : List Prop) (a : Act) (w : World) (ρ : Nat → Value),
    regRun P tb ops hs i l s = some (s', c) → AllC c → Rel W A K s a w ρ → (∀ k o, l[k]? = some o → ops[i + k]? = some o) → (∀ a' w' ρ', Rel W A K s' a' w' ρ' → Q .normal a' w') → wpOps P ops Q (List.range' i l.length) a w
  | [], i, s, s', c, a, w, ρ, hr, hc, h, _, hn => by
    simp [regRun] at hr
    obtain ⟨rfl, _⟩ := hr
    simp only [List.length_nil, List.range'_zero, wpOps]
    exact hn a w ρ h
  | o :: r, i, s, s', c, a, w, ρ, hr, hc, h, hops, hn => by
    simp only [regRun] at hr
    split at hr
    · rename_i s1 c1 h1
      simp only [Option.map_eq_some_iff] at hr
      obtain ⟨⟨s2, c2⟩, h2, hr⟩ := hr
      injection hr with e1 e2; subst e1; subst e2
      obtain ⟨hc1, hc2⟩ := AllC_append.1 hc
      have hoi : ops[i]? = some o := by have := hops 0 o rfl; simpa using this
      simp only [List.length_cons, List.range'_succ, wpOps, hoi]
      have hw := opRun_wp h hT h1 hc1 (Q := Q) (next := fun a' w' => wpOps P ops Q (List.range' (i + 1) r.length) a' w') (fun a' w' ρ' h' =>
        regRun_wp hT r (i + 1) s1 s2 c2 a' w' ρ' h2 hc2 h' (fun k o' hk => by have := hops (k + 1) o' (by simpa using hk); rwa [show i + 1 + k = i + (k + 1) by omega]) hn)
      cases hq : Region.wanted o (yielded ops a.tmps) with
      | true => rw [hq] at hw; exact .inl (by simpa using hw)
      | false => rw [hq] at hw; simpa using hw
    · cases hr

/-! ### Code -/
/-- From state s on, code c comes to an exit and a state of which Q holds. -/
def WP (P : Program) (W : World) (A K : Nat → Prop) (c : Code) (s : St) (Q : Exit → St → Prop) : Prop :=
  ∀ a w ρ, Rel W A K s a w ρ → c.wp P (fun e a' w' => ∃ s' ρ', Q e s' ∧ Rel W A K s' a' w' ρ') a w

theorem WP.mono {c : Code} {s : St} {Q Q' : Exit → St → Prop} (h : WP P W A K c s Q) (hq : ∀ e s', Q e s' → Q' e s') : WP P W A K c s Q' :=
  fun a w ρ hr => wp_mono (h a w ρ hr) fun e a' w' ⟨s', ρ', hs, hr'⟩ => ⟨s', ρ', hq e s' hs, hr'⟩

theorem WP.region {tb : Tab} (hT : TabOk P tb) {id : Nat} {ops : Array Oper} {hs : List (Nat × Hint)} {s s' : St} {c : List Prop} {Q : Exit → St → Prop}
    (hr : regRun P tb ops hs 0 ops.toList s = some (s', c)) (hc : AllC c) (hq : Q .normal s') : WP P W A K (.region id ops false) s Q := by
  intro a w ρ h
  refine wp_region ?_
  have := regRun_wp (Q := fun e a' w' => ∃ s' ρ', Q e s' ∧ Rel W A K s' a' w' ρ') hT ops.toList 0 s s' c a w ρ hr hc h (fun k o hk => by simpa using hk) (fun a' w' ρ' h' => ⟨s', ρ', hq, h'⟩)
  rw [List.range_eq_range']
  simpa using this

theorem WP.seq {x y : Code} {s : St} {Q : Exit → St → Prop} (h : WP P W A K x s fun e s' => match e with | .normal => WP P W A K y s' Q | e => Q e s') : WP P W A K (.seq x y) s Q := by
  intro a w ρ hr
  refine wp_seq (wp_mono (h a w ρ hr) ?_)
  rintro e a' w' ⟨s', ρ', hs, hr'⟩
  cases e with
  | normal => exact hs a' w' ρ' hr'
  | _ => exact ⟨s', ρ', hs, hr'⟩

theorem WP.skip {s : St} {Q : Exit → St → Prop} (h : Q .normal s) : WP P W A K .skip s Q := fun a w ρ hr => wp_skip ⟨s, ρ, h, hr⟩
theorem WP.label {l : Nat} {s : St} {Q : Exit → St → Prop} (h : Q .normal s) : WP P W A K (.label l) s Q := fun a w ρ hr => wp_label ⟨s, ρ, h, hr⟩
theorem WP.exit {id : Nat} {s : St} {Q : Exit → St → Prop} (h : Q (.exit id) s) : WP P W A K (.exit id) s Q := fun a w ρ hr => wp_exit ⟨s, ρ, h, hr⟩
theorem WP.ret {s : St} {Q : Exit → St → Prop} (h : Q .ret s) : WP P W A K .ret s Q := fun a w ρ hr => wp_ret ⟨s, ρ, h, hr⟩

theorem WP.cond {c : Operand} {x y : Code} {s : St} {b : Bool} {Q : Exit → St → Prop} (hc : opT s c = some (.yes, .v false [.t (.lit (.bool b))])) (ht : b = true → WP P W A K x s Q) (hf : b = false → WP P W A K y s Q) : WP P W A K (.cond c x y) s Q := by
  intro a w ρ hr
  have e := lit_inv (opT_sound hr hc rfl)
  exact wp_cond_split e (fun hb => ht hb a w ρ hr) (fun hb => hf hb a w ρ hr)

theorem WP.block {id : Nat} {c : Code} {s : St} {Q : Exit → St → Prop} (h : WP P W A K c s fun e s' => match e with | .exit id' => if id' = id then Q .normal s' else Q (.exit id') s' | e => Q e s') : WP P W A K (.block id c) s Q := by
  intro a w ρ hr
  refine wp_block (wp_mono (h a w ρ hr) ?_)
  rintro e a' w' ⟨s', ρ', hs, hr'⟩
  cases e with
  | exit id' =>
    simp only [Exit.inBlock]
    by_cases he : id' = id
    · simp only [he, if_true] at hs ⊢; exact ⟨s', ρ', hs, hr'⟩
    · simp only [he, if_false] at hs ⊢; exact ⟨s', ρ', hs, hr'⟩
  | _ => exact ⟨s', ρ', hs, hr'⟩

/-- n rounds of a loop at most. -/
def WPR (P : Program) (W : World) (A K : Nat → Prop) (c : Code) (Q : Exit → St → Prop) : Nat → St → Prop
  | 0, _ => False
  | n + 1, s => WP P W A K c s fun e s' => match e with | .normal => WPR P W A K c Q n s' | e => Q e s'

theorem WPR.rounds {c : Code} {Q : Exit → St → Prop} : ∀ (n : Nat) (s : St), WPR P W A K c Q n s → ∀ a w ρ, Rel W A K s a w ρ → Code.rounds P c (fun e a' w' => ∃ s' ρ', Q e s' ∧ Rel W A K s' a' w' ρ') n a w
  | 0, _, h, _, _, _, _ => h.elim
  | n + 1, s, h, a, w, ρ, hr => by
    rw [rounds_succ]
    refine wp_mono (h a w ρ hr) ?_
    rintro e a' w' ⟨s', ρ', hs, hr'⟩
    cases e with
    | normal => exact WPR.rounds n s' hs a' w' ρ' hr'
    | _ => exact ⟨s', ρ', hs, hr'⟩

theorem WP.loop {c : Code} {s : St} {Q : Exit → St → Prop} (n : Nat) (h : WPR P W A K c Q n s) : WP P W A K (.loop c) s Q :=
  fun a w ρ hr => wp_loop_rounds n (WPR.rounds n s h a w ρ hr)

def St.keep (ts ids : List Nat) (s : St) : St := ⟨pick ts s.env, pick ids s.heap, s.n⟩

theorem look_pick {α : Type 1} (ts : List Nat) (l : List (Nat × α)) {t : Nat} {x : α} (h : look t (pick ts l) = some x) : look t l = some x := by
  induction ts with
  | nil => simp [pick, look] at h
  | cons u r ih =>
    unfold pick at h ih
    simp only [List.filterMap_cons] at h
    cases hu : look u l with
    | none => rw [hu] at h; exact ih h
    | some y =>
      rw [hu] at h
      simp only [Option.map_some, look] at h
      cases hb : Nat.beq u t with
      | true => have := Nat.eq_of_beq_eq_true hb; subst this; rw [hb] at h; simp at h; subst h; exact hu
      | false => rw [hb] at h; exact ih h

theorem Rel.weaken {s s' : St} {a : Act} {w : World} {ρ : Nat → Value} (h : Rel W A K s a w ρ) (henv : ∀ t x, look t s'.env = some x → look t s.env = some x) (hheap : ∀ t x, look t s'.heap = some x → look t s.heap = some x) (hn : s'.n = s.n) : Rel W A K s' a w ρ := by
  have hO : ∀ b, b < w.heap.size → s'.O A ρ b → s.O A ρ b := by
    rintro b _ (hA | ⟨id, o, ho, hk⟩)
    · exact .inl hA
    · exact .inr ⟨id, o, hheap id o ho, hk⟩
  have hid : ∀ id o', s'.H id = some o' → ∃ o, s.H id = some o ∧ o.es = o'.es ∧ ρ id = ρ id := fun id o' ho => ⟨o', hheap id o' ho, rfl, rfl⟩
  refine ⟨h.ext, h.kl, h.al, ⟨fun id o ho => ?_, fun i j x y g hi hj => h.mr.disj i j x y g (hheap i x hi) (hheap j y hj), fun id o g ho hb => h.mr.av id o g (hheap id o ho) hb⟩, fun id o g ho hb => h.low id o g (hheap id o ho) hb, fun t g x hl => ?_, h.defers, h.size.trans hn.symm⟩
  · have hor := h.mr.obj id o (hheap id o ho)
    cases o with
    | box ty cells => obtain ⟨g, vs, h1, h2, h3⟩ := hor; exact ⟨g, vs, h1, h2, h3.mono (fun _ _ _ => rfl) hO fun id o' _ ho => hid id o' ho⟩
    | rows ty es enc z xs => obtain ⟨vs, h1, h2, h3⟩ := hor; exact ⟨vs, h1, h2, h3.mono (fun _ _ _ => rfl) hO⟩
    | ghost vs cells => exact ⟨hor.1, hor.2.mono (fun _ _ _ => rfl) hO fun id o' _ ho => hid id o' ho⟩
  · obtain ⟨v, hv, h1, h2⟩ := h.env t g x (henv t _ hl)
    exact ⟨v, hv, fun hp => (h1 hp).mono (fun _ _ _ => rfl) hO fun id o' _ ho => hid id o' ho, h2⟩

theorem WP.keep (ts ids : List Nat) {c : Code} {s : St} {Q : Exit → St → Prop} (h : WP P W A K c (s.keep ts ids) Q) : WP P W A K c s Q :=
  fun a w ρ hr => h a w ρ (hr.weaken (fun t x hl => look_pick ts _ hl) (fun t x hl => look_pick ids _ hl) rfl)

end
end Go.Abs
