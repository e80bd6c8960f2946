/- A part of the proofs of this seat: what functions of the program compute, and what follows from it; without conditions. -/
import Derived.Test.YtoooalfhjcfinaaA3
import Derived.Orders

namespace Go.Abs
set_option linter.unusedVariables false
set_option linter.unusedSimpArgs false
variable {P : Program}

/-! ### Regions in the text's order -/
def gdOf (ops : Array Oper) (s : St) (o : Oper) : Option Gd :=
  match o.guard with
  | none => some .yes
  | some (j, want) =>
    match (ops[j]?).bind (·.dst) with
    | some t => match look t s.env with
      | some (.yes, .v false [.t (.lit (.bool b))]) => some (.on (bif want then b else !b))
      | some (.on p, .v false [.t (.lit (.bool b))]) => some (.on (p && (bif want then b else !b)))
      | _ => none
    | none => none

def hintAt (i : Nat) : List (Nat × Hint) → Hint
  | [] => .no
  | (k, h) :: r => bif Nat.beq k i then h else hintAt i r

def dstOk (s : St) : Option Nat → Bool
  | none => true
  | some d => Nat.blt d s.n

def opRes (P : Program) (tb : Tab) (h : Hint) (s : St) (g : Gd) (o : Oper) : Option R :=
  match h with
  | .call names H' res => callStep P tb names H' res s g o.op
  | .fz ob => (step tb (.obj ob) s g o.dst o.op).bind (fzR s g o.dst)
  | .callM ids kept names H' res => callStepM P tb ids kept names H' res s g o.op
  | h => step tb h s g o.dst o.op

def opRun (P : Program) (tb : Tab) (ops : Array Oper) (h : Hint) (s : St) (o : Oper) : Option (St × List Prop) :=
  match gdOf ops s o, dstOk s o.dst with
  | some g, true => (opRes P tb h s g o).map fun r => (({ s with heap := r.heap } : St).put o.dst g r.val, r.conds)
  | _, _ => none

/-- From operation i on: the state, and what must hold. -/
def regRun (P : Program) (tb : Tab) (ops : Array Oper) (hs : List (Nat × Hint)) : Nat → List Oper → St → Option (St × List Prop)
  | _, [], s => some (s, [])
  | i, o :: r, s =>
    match opRun P tb ops (hintAt i hs) s o with
    | some (s', c) => (regRun P tb ops hs (i + 1) r s').map fun q => (q.1, c ++ q.2)
    | none => none

section
variable {W : World} {A K : Nat → Prop} {s : St} {a : Act} {w : World} {ρ : Nat → Value}

theorem gdOf_wanted (h : Rel W A K s a w ρ) {ops : Array Oper} {o : Oper} {g : Gd} (hg : gdOf ops s o = some g) : Region.wanted o (yielded ops a.tmps) = g.val := by
  unfold gdOf at hg
  unfold Region.wanted
  split at hg
  · rename_i hgd; injection hg with hg; subst hg; rw [hgd]; rfl
  · rename_i j want hgd
    rw [hgd]
    simp only
    split at hg
    · rename_i t ht
      split at hg
      · rename_i b hl
        injection hg with hg; subst hg
        obtain ⟨v, hv, hr, _⟩ := h.env t _ _ hl
        have e := lit_inv (hr rfl)
        subst e
        simp only [yielded, ht, Option.bind_some, hv, Gd.val]
        cases want <;> cases b <;> rfl
      · rename_i p b hl
        injection hg with hg; subst hg
        obtain ⟨v, hv, hr, hu⟩ := h.env t _ _ hl
        cases p with
        | true =>
          have e := lit_inv (hr rfl)
          subst e
          simp only [yielded, ht, Option.bind_some, hv, Gd.val]
          cases want <;> cases b <;> rfl
        | false =>
          have e := hu rfl
          subst e
          simp only [yielded, ht, Option.bind_some, hv, Gd.val, undef]
          rfl
      · cases hg
    · cases hg

theorem opRes_goes (h : Rel W A K s a w ρ) {o : Oper} {g : Gd} (hg : g.val = true) {tb : Tab} (hT : TabOk P tb) {hi : Hint} {r : R} (hs : opRes P tb hi s g o = some r) (hc : AllC r.conds) : Goes P W A K s a w o r := by
  unfold opRes at hs
  split at hs
  · exact call_goes h hg hT hs hc
  · simp only [Option.bind_eq_some_iff] at hs
    obtain ⟨r0, h0, hs⟩ := hs
    exact fzR_goes (step_sound h hg hT h0 (by rw [← fzR_conds hs]; exact hc)).goes hs
  · exact callM_goes h hT hs hc
  · exact (step_sound h hg hT hs hc).goes

theorem opRes_quiet {o : Oper} {p : Bool} {tb : Tab} {hi : Hint} {r : R} (hs : opRes P tb hi s (.on p) o = some r) : ({ s with heap := r.heap } : St).H = s.H := by
  unfold opRes at hs
  split at hs
  · rename_i names H' res
    unfold callStep at hs
    split at hs
    · split at hs
      · split at hs
        · split at hs
          · rename_i hcond
            injection hs with hs; subst hs
            simp only [Bool.and_eq_true, gdEmpty] at hcond
            have : H' = [] := by simpa using hcond.1.2
            subst this
            rfl
          · cases hs
        · cases hs
      · cases hs
    · cases hs
  · simp only [Option.bind_eq_some_iff] at hs
    obtain ⟨r0, h0, hs⟩ := hs
    simp [fzR] at hs
  · simp [callStepM] at hs
  · have := step_quiet hs
    rw [this]

theorem opRun_wp (h : Rel W A K s a w ρ) {tb : Tab} (hT : TabOk P tb) {ops : Array Oper} {hi : Hint} {o : Oper} {s' : St} {c : List Prop} (hs : opRun P tb ops hi s o = some (s', c)) (hc : AllC c) {Q : Exit → Act → World → Prop} {next : Act → World → Prop}
    (hn : ∀ a' w' ρ', Rel W A K s' a' w' ρ' → next a' w') : if Region.wanted o (yielded ops a.tmps) then o.wp P a w next Q else next (a.put o.dst undef) w := by
  unfold opRun at hs
  split at hs
  · rename_i g hg hd
    simp only [Option.map_eq_some_iff] at hs
    obtain ⟨r, hr, hs⟩ := hs
    injection hs with h1 h2; subst h1; subst h2
    have hd2 : ∀ k, o.dst = some k → k < s.n := fun k hk => by rw [hk] at hd; simpa [dstOk, Nat.blt_eq] using hd
    rw [gdOf_wanted h hg]
    cases hgv : g.val with
    | true =>
      simp only [if_true]
      refine opRes_goes h hgv hT hr hc next Q fun v w' ρ' hrel hv => hn _ _ ρ' ?_
      exact hrel.put (s := { s with heap := r.heap }) hd2 (fun _ => hv) (fun hf => by rw [hgv] at hf; cases hf)
    | false =>
      simp only [Bool.false_eq_true, if_false]
      cases g with
      | yes => cases hgv
      | on p =>
        have hH := opRes_quiet hr
        have hrel : Rel W A K { s with heap := r.heap } a w ρ := by
          refine ⟨h.ext, h.kl, h.al, ?_, ?_, ?_, h.defers, h.size⟩
          · rw [hH]; exact h.mr
          · rw [hH]; exact h.low
          · intro t g x hl
            obtain ⟨v, hv, h1, h2⟩ := h.env t g x hl
            refine ⟨v, hv, fun hp => ?_, h2⟩
            have := h1 hp
            have hO : St.O { s with heap := r.heap } A ρ = s.O A ρ := by unfold St.O; rw [hH]
            rw [hH, hO]; exact this
        exact hn _ _ ρ (hrel.put hd2 (fun hf => by rw [hgv] at hf; cases hf) (fun _ => rfl))
  · cases hs

theorem regRun_wp {tb : Tab} (hT : TabOk P tb) {ops : Array Oper} {hs : List (Nat × Hint)} {Q : Exit → Act → World → Prop} : ∀ (l : List Oper) (i : Nat) (s s' : St) (c : List Prop) (a : Act) (w : World) (ρ : Nat → Value),
    regRun P tb ops hs i l s = some (s', c) → AllC c → Rel W A K s a w ρ → (∀ k o, l[k]? = some o → ops[i + k]? = some o) → (∀ a' w' ρ', Rel W A K s' a' w' ρ' → Q .normal a' w') → wpOps P ops Q (List.range' i l.length) a w
  | [], i, s, s', c, a, w, ρ, hr, hc, h, _, hn => by
    simp [regRun] at hr
    obtain ⟨rfl, _⟩ := hr
    simp only [List.length_nil, List.range'_zero, wpOps]
    exact hn a w ρ h
  | o :: r, i, s, s', c, a, w, ρ, hr, hc, h, hops, hn => by
    simp only [regRun] at hr
    split at hr
    · rename_i s1 c1 h1
      simp only [Option.map_eq_some_iff] at hr
      obtain ⟨⟨s2, c2⟩, h2, hr⟩ := hr
      injection hr with e1 e2; subst e1; subst e2
      obtain ⟨hc1, hc2⟩ := AllC_append.1 hc
      have hoi : ops[i]? = some o := by have := hops 0 o rfl; simpa using this
      simp only [List.length_cons, List.range'_succ, wpOps, hoi]
      have hw := opRun_wp h hT h1 hc1 (Q := Q) (next := fun a' w' => wpOps P ops Q (List.range' (i + 1) r.length) a' w') (fun a' w' ρ' h' =>
        regRun_wp hT r (i + 1) s1 s2 c2 a' w' ρ' h2 hc2 h' (fun k o' hk => by have := hops (k + 1) o' (by simpa using hk); rwa [show i + 1 + k = i + (k + 1) by omega]) hn)
      cases hq : Region.wanted o (yielded ops a.tmps) with
      | true => rw [hq] at hw; exact .inl (by simpa using hw)
      | false => rw [hq] at hw; simpa using hw
    · cases hr

/-! ### Code -/
/-- From state s on, code c comes to an exit and a state of which Q holds. -/
def WP (P : Program) (W : World) (A K : Nat → Prop) (c : Code) (s : St) (Q : Exit → St → Prop) : Prop :=
  ∀ a w ρ, Rel W A K s a w ρ → c.wp P (fun e a' w' => ∃ s' ρ', Q e s' ∧ Rel W A K s' a' w' ρ') a w

theorem WP.mono {c : Code} {s : St} {Q Q' : Exit → St → Prop} (h : WP P W A K c s Q) (hq : ∀ e s', Q e s' → Q' e s') : WP P W A K c s Q' :=
  fun a w ρ hr => wp_mono (h a w ρ hr) fun e a' w' ⟨s', ρ', hs, hr'⟩ => ⟨s', ρ', hq e s' hs, hr'⟩

theorem WP.region {tb : Tab} (hT : TabOk P tb) {id : Nat} {ops : Array Oper} {hs : List (Nat × Hint)} {s s' : St} {c : List Prop} {Q : Exit → St → Prop}
    (hr : regRun P tb ops hs 0 ops.toList s = some (s', c)) (hc : AllC c) (hq : Q .normal s') : WP P W A K (.region id ops false) s Q := by
  intro a w ρ h
  refine wp_region ?_
  have := regRun_wp (Q := fun e a' w' => ∃ s' ρ', Q e s' ∧ Rel W A K s' a' w' ρ') hT ops.toList 0 s s' c a w ρ hr hc h (fun k o hk => by simpa using hk) (fun a' w' ρ' h' => ⟨s', ρ', hq, h'⟩)
  rw [List.range_eq_range']
  simpa using this

theorem WP.seq {x y : Code} {s : St} {Q : Exit → St → Prop} (h : WP P W A K x s fun e s' => match e with | .normal => WP P W A K y s' Q | e => Q e s') : WP P W A K (.seq x y) s Q := by
  intro a w ρ hr
  refine wp_seq (wp_mono (h a w ρ hr) ?_)
  rintro e a' w' ⟨s', ρ', hs, hr'⟩
  cases e with
  | normal => exact hs a' w' ρ' hr'
  | _ => exact ⟨s', ρ', hs, hr'⟩

theorem WP.skip {s : St} {Q : Exit → St → Prop} (h : Q .normal s) : WP P W A K .skip s Q := fun a w ρ hr => wp_skip ⟨s, ρ, h, hr⟩
theorem WP.label {l : Nat} {s : St} {Q : Exit → St → Prop} (h : Q .normal s) : WP P W A K (.label l) s Q := fun a w ρ hr => wp_label ⟨s, ρ, h, hr⟩
theorem WP.exit {id : Nat} {s : St} {Q : Exit → St → Prop} (h : Q (.exit id) s) : WP P W A K (.exit id) s Q := fun a w ρ hr => wp_exit ⟨s, ρ, h, hr⟩
theorem WP.ret {s : St} {Q : Exit → St → Prop} (h : Q .ret s) : WP P W A K .ret s Q := fun a w ρ hr => wp_ret ⟨s, ρ, h, hr⟩

theorem WP.cond {c : Operand} {x y : Code} {s : St} {b : Bool} {Q : Exit → St → Prop} (hc : opT s c = some (.yes, .v false [.t (.lit (.bool b))])) (ht : b = true → WP P W A K x s Q) (hf : b = false → WP P W A K y s Q) : WP P W A K (.cond c x y) s Q := by
  intro a w ρ hr
  have e := lit_inv (opT_sound hr hc rfl)
  exact wp_cond_split e (fun hb => ht hb a w ρ hr) (fun hb => hf hb a w ρ hr)

theorem WP.block {id : Nat} {c : Code} {s : St} {Q : Exit → St → Prop} (h : WP P W A K c s fun e s' => match e with | .exit id' => if id' = id then Q .normal s' else Q (.exit id') s' | e => Q e s') : WP P W A K (.block id c) s Q := by
  intro a w ρ hr
  refine wp_block (wp_mono (h a w ρ hr) ?_)
  rintro e a' w' ⟨s', ρ', hs, hr'⟩
  cases e with
  | exit id' =>
    simp only [Exit.inBlock]
    by_cases he : id' = id
    · simp only [he, if_true] at hs ⊢; exact ⟨s', ρ', hs, hr'⟩
    · simp only [he, if_false] at hs ⊢; exact ⟨s', ρ', hs, hr'⟩
  | _ => exact ⟨s', ρ', hs, hr'⟩

/-- n rounds of a loop at most. -/
def WPR (P : Program) (W : World) (A K : Nat → Prop) (c : Code) (Q : Exit → St → Prop) : Nat → St → Prop
  | 0, _ => False
  | n + 1, s => WP P W A K c s fun e s' => match e with | .normal => WPR P W A K c Q n s' | e => Q e s'

theorem WPR.rounds {c : Code} {Q : Exit → St → Prop} : ∀ (n : Nat) (s : St), WPR P W A K c Q n s → ∀ a w ρ, Rel W A K s a w ρ → Code.rounds P c (fun e a' w' => ∃ s' ρ', Q e s' ∧ Rel W A K s' a' w' ρ') n a w
  | 0, _, h, _, _, _, _ => h.elim
  | n + 1, s, h, a, w, ρ, hr => by
    rw [rounds_succ]
    refine wp_mono (h a w ρ hr) ?_
    rintro e a' w' ⟨s', ρ', hs, hr'⟩
    cases e with
    | normal => exact WPR.rounds n s' hs a' w' ρ' hr'
    | _ => exact ⟨s', ρ', hs, hr'⟩

theorem WP.loop {c : Code} {s : St} {Q : Exit → St → Prop} (n : Nat) (h : WPR P W A K c Q n s) : WP P W A K (.loop c) s Q :=
  fun a w ρ hr => wp_loop_rounds n (WPR.rounds n s h a w ρ hr)

def St.keep (ts ids : List Nat) (s : St) : St := ⟨pick ts s.env, pick ids s.heap, s.n⟩

theorem look_pick {α : Type 1} (ts : List Nat) (l : List (Nat × α)) {t : Nat} {x : α} (h : look t (pick ts l) = some x) : look t l = some x := by
  induction ts with
  | nil => simp [pick, look] at h
  | cons u r ih =>
    unfold pick at h ih
    simp only [List.filterMap_cons] at h
    cases hu : look u l with
    | none => rw [hu] at h; exact ih h
    | some y =>
      rw [hu] at h
      simp only [Option.map_some, look] at h
      cases hb : Nat.beq u t with
      | true => have := Nat.eq_of_beq_eq_true hb; subst this; rw [hb] at h; simp at h; subst h; exact hu
      | false => rw [hb] at h; exact ih h

theorem Rel.weaken {s s' : St} {a : Act} {w : World} {ρ : Nat → Value} (h : Rel W A K s a w ρ) (henv : ∀ t x, look t s'.env = some x → look t s.env = some x) (hheap : ∀ t x, look t s'.heap = some x → look t s.heap = some x) (hn : s'.n = s.n) : Rel W A K s' a w ρ := by
  have hO : ∀ b, b < w.heap.size → s'.O A ρ b → s.O A ρ b := by
    rintro b _ (hA | ⟨id, o, ho, hk⟩)
    · exact .inl hA
    · exact .inr ⟨id, o, hheap id o ho, hk⟩
  have hid : ∀ id o', s'.H id = some o' → ∃ o, s.H id = some o ∧ o.es = o'.es ∧ ρ id = ρ id := fun id o' ho => ⟨o', hheap id o' ho, rfl, rfl⟩
  refine ⟨h.ext, h.kl, h.al, ⟨fun id o ho => ?_, fun i j x y g hi hj => h.mr.disj i j x y g (hheap i x hi) (hheap j y hj), fun id o g ho hb => h.mr.av id o g (hheap id o ho) hb⟩, fun id o g ho hb => h.low id o g (hheap id o ho) hb, fun t g x hl => ?_, h.defers, h.size.trans hn.symm⟩
  · have hor := h.mr.obj id o (hheap id o ho)
    cases o with
    | box ty cells => obtain ⟨g, vs, h1, h2, h3⟩ := hor; exact ⟨g, vs, h1, h2, h3.mono (fun _ _ _ => rfl) hO fun id o' _ ho => hid id o' ho⟩
    | rows ty es enc z xs => obtain ⟨vs, h1, h2, h3⟩ := hor; exact ⟨vs, h1, h2, h3.mono (fun _ _ _ => rfl) hO⟩
    | ghost vs cells => exact ⟨hor.1, hor.2.mono (fun _ _ _ => rfl) hO fun id o' _ ho => hid id o' ho⟩
  · obtain ⟨v, hv, h1, h2⟩ := h.env t g x (henv t _ hl)
    exact ⟨v, hv, fun hp => (h1 hp).mono (fun _ _ _ => rfl) hO fun id o' _ ho => hid id o' ho, h2⟩

theorem WP.keep (ts ids : List Nat) {c : Code} {s : St} {Q : Exit → St → Prop} (h : WP P W A K c (s.keep ts ids) Q) : WP P W A K c s Q :=
  fun a w ρ hr => h a w ρ (hr.weaken (fun t x hl => look_pick ts _ hl) (fun t x hl => look_pick ids _ hl) rfl)

end
end Go.Abs

namespace Go.Abs
set_option linter.unusedVariables false
set_option linter.unusedSimpArgs false
variable {P : Program}

/-! ### What a step looks at -/
def quietP (hi : Hint) : Op → Bool
  | .alloc _ | .box .. | .store .. | .makeSlice .. | .buildSlice .. => false
  | .call c => match hi with
    | .call _ [] _ => true
    | .call _ _ _ => false
    | .callM .. => false
    | _ => match c.callee with
      | .builtin .len => true
      | _ => false
  | _ => true

def quietO (hi : Hint) (o : Op) : Bool :=
  match hi with
  | .fz _ => false
  | .callM .. => false
  | hi => quietP hi o

def newIds (hi : Hint) (dst : Option Nat) : List Nat :=
  match hi with
  | .call names H' _ => H'.map fun x => nameOf names x.1
  | .callM _ kept names H' _ => (H'.filter fun x => !memL x.1 kept).map fun x => nameOf names x.1
  | _ => dst.toList

section
variable {e e' : List (Nat × Gd × AT)} {H : List (Nat × Obj)} {n : Nat}

theorem fillA_congr {fs : List (Nat × Nat × Bool)} {g : Gd} : ∀ {l : List (Nat × Operand)} {cs : List Cell}, (∀ p ∈ l, opT ⟨e, H, n⟩ p.2 = opT ⟨e', H, n⟩ p.2) → fillA fs ⟨e, H, n⟩ g l cs = fillA fs ⟨e', H, n⟩ g l cs
  | [], _, _ => rfl
  | (k, x) :: r, cs, h => by
    have h0 : opT ⟨e, H, n⟩ x = opT ⟨e', H, n⟩ x := h (k, x) (by simp)
    have ih : ∀ cs, fillA fs ⟨e, H, n⟩ g r cs = fillA fs ⟨e', H, n⟩ g r cs := fun cs => fillA_congr fun p hp => h p (by simp [hp])
    simp only [fillA, h0, ih]

theorem elemsA_congr {es : Nat} {g : Gd} : ∀ {l : List (Nat × Operand)} {i : Nat}, (∀ p ∈ l, opT ⟨e, H, n⟩ p.2 = opT ⟨e', H, n⟩ p.2) → elemsA ⟨e, H, n⟩ g es i l = elemsA ⟨e', H, n⟩ g es i l
  | [], _, _ => rfl
  | (k, x) :: r, i, h => by
    simp only [elemsA]
    rw [h (k, x) (by simp), elemsA_congr fun p hp => h p (by simp [hp])]

theorem capsA_congr {g : Gd} : ∀ {l : List Operand}, (∀ p ∈ l, opT ⟨e, H, n⟩ p = opT ⟨e', H, n⟩ p) → capsA ⟨e, H, n⟩ g l = capsA ⟨e', H, n⟩ g l
  | [], _ => rfl
  | x :: r, h => by
    simp only [capsA]
    rw [h x (by simp), capsA_congr fun p hp => h p (by simp [hp])]

theorem viewL_congr : ∀ {l : List Cell}, viewL ⟨e, H, n⟩ l = viewL ⟨e', H, n⟩ l
  | [] => rfl
  | c :: r => by
    simp only [viewL]
    rw [viewL_congr (l := r)]
    have : viewC ⟨e, H, n⟩ c = viewC ⟨e', H, n⟩ c := by cases c <;> rfl
    rw [this]

theorem argsV_congr {g : Gd} : ∀ {l : List Operand}, (∀ p ∈ l, opT ⟨e, H, n⟩ p = opT ⟨e', H, n⟩ p) → argsV ⟨e, H, n⟩ g l = argsV ⟨e', H, n⟩ g l
  | [], _ => rfl
  | x :: r, h => by
    simp only [argsV]
    rw [h x (by simp), argsV_congr fun p hp => h p (by simp [hp])]
    simp only [viewL_congr (e := e) (e' := e')]

theorem freshB_congr {names : List (Nat × Nat)} {H' : List (Nat × Obj)} (h : ∀ x ∈ H', St.has (nameOf names x.1) ⟨e, H, n⟩ = St.has (nameOf names x.1) ⟨e', H, n⟩) : freshB names H' ⟨e, H, n⟩ = freshB names H' ⟨e', H, n⟩ := by
  unfold freshB
  congr 1
  induction H' with
  | nil => rfl
  | cons x r ih => simp only [List.all_cons]; rw [h x (by simp), ih fun y hy => h y (by simp [hy])]

theorem callStep_congr {tb : Tab} {names : List (Nat × Nat)} {H' : List (Nat × Obj)} {res : AT} {g : Gd} {o : Op} (hx : ∀ x ∈ o.operands, opT ⟨e, H, n⟩ x = opT ⟨e', H, n⟩ x)
    (hd : ∀ x ∈ H', St.has (nameOf names x.1) ⟨e, H, n⟩ = St.has (nameOf names x.1) ⟨e', H, n⟩) : callStep P tb names H' res ⟨e, H, n⟩ g o = callStep P tb names H' res ⟨e', H, n⟩ g o := by
  cases o <;> try rfl
  case call c =>
    simp only [callStep]
    cases hc : c.callee <;> try rfl
    case value fo =>
      simp only
      rw [hx fo (by simp [Op.operands, Call.operands, hc]), argsV_congr fun x hm => hx x (by simp [Op.operands, Call.operands, hc]; exact .inr (by simpa using hm)), freshB_congr hd]

theorem freshM_congr {names : List (Nat × Nat)} {kept : List Nat} {Hc H' : List (Nat × Obj)} {args : List Cell} (h : ∀ x ∈ H', memL x.1 kept = false → St.has (nameOf names x.1) ⟨e, H, n⟩ = St.has (nameOf names x.1) ⟨e', H, n⟩) :
    freshM names kept Hc H' args ⟨e, H, n⟩ = freshM names kept Hc H' args ⟨e', H, n⟩ := by
  unfold freshM
  rw [Bool.eq_iff_iff, List.all_eq_true, List.all_eq_true]
  refine forall_congr' fun x => forall_congr' fun hx => ?_
  cases hk : memL x.1 kept with
  | true => exact Iff.rfl
  | false => rw [h x hx hk]

theorem callStepM_congr {tb : Tab} {ids kept : List Nat} {names : List (Nat × Nat)} {H' : List (Nat × Obj)} {res : AT} {g : Gd} {o : Op} (hx : ∀ x ∈ o.operands, opT ⟨e, H, n⟩ x = opT ⟨e', H, n⟩ x)
    (hd : ∀ x ∈ H', memL x.1 kept = false → St.has (nameOf names x.1) ⟨e, H, n⟩ = St.has (nameOf names x.1) ⟨e', H, n⟩) : callStepM P tb ids kept names H' res ⟨e, H, n⟩ g o = callStepM P tb ids kept names H' res ⟨e', H, n⟩ g o := by
  cases g <;> try rfl
  cases o <;> try rfl
  case call c =>
    simp only [callStepM]
    cases hc : c.callee <;> try rfl
    case value fo =>
      simp only
      rw [hx fo (by simp [Op.operands, Call.operands, hc]), capsA_congr fun x hm => hx x (by simp [Op.operands, Call.operands, hc]; exact .inr (by simpa using hm))]
      simp only [freshM_congr hd]

theorem step_congr {tb : Tab} {hi : Hint} {g : Gd} {dst : Option Nat} {o : Op} (hx : ∀ x ∈ o.operands, opT ⟨e, H, n⟩ x = opT ⟨e', H, n⟩ x)
    (hd : quietO .no o = true ∨ ∀ d, dst = some d → St.has d ⟨e, H, n⟩ = St.has d ⟨e', H, n⟩) : step tb hi ⟨e, H, n⟩ g dst o = step tb hi ⟨e', H, n⟩ g dst o := by
  cases o <;> try rfl
  case move x => simp only [step]; rw [hx x (by simp [Op.operands])]
  case assign x => simp only [step]; rw [hx x (by simp [Op.operands])]
  case pick c x y => simp only [step]; rw [hx x (by simp [Op.operands]), hx y (by simp [Op.operands]), hx c (by simp [Op.operands])]
  case alloc t =>
    simp only [step]
    cases dst with
    | none => rfl
    | some d =>
      have hd' := (hd.resolve_left (by simp [quietO, quietP])) d rfl
      repeat' split
      all_goals simp_all
  case box t x =>
    simp only [step]
    rw [hx x (by simp [Op.operands])]
    cases dst with
    | none => rfl
    | some d =>
      have hd' := (hd.resolve_left (by simp [quietO, quietP])) d rfl
      repeat' split
      all_goals simp_all
  case load t x => simp only [step]; rw [hx x (by simp [Op.operands])]; first | done | rfl
  case store t x y => simp only [step]; rw [hx x (by simp [Op.operands]), hx y (by simp [Op.operands])]; first | done | rfl
  case nilCheck x => simp only [step]; rw [hx x (by simp [Op.operands])]; first | done | rfl
  case binOp op t x y u => simp only [step]; rw [hx x (by simp [Op.operands]), hx y (by simp [Op.operands])]
  case unOp op t x => simp only [step]; rw [hx x (by simp [Op.operands])]
  case convert u t x => simp only [step]; rw [hx x (by simp [Op.operands])]
  case makeFunc fo first caps =>
    cases fo <;> try rfl
    simp only [step]
    rw [capsA_congr fun x hm => hx x (by simp [Op.operands]; exact .inr (by simpa using hm))]
  case makeSlice t l c =>
    simp only [step]
    rw [hx l (by simp [Op.operands]), hx c (by simp [Op.operands])]
    cases dst with
    | none => rfl
    | some d =>
      have hd' := (hd.resolve_left (by simp [quietO, quietP])) d rfl
      repeat' split
      all_goals simp_all
  case fieldAddr t x k => simp only [step]; rw [hx x (by simp [Op.operands])]; first | done | rfl
  case field t x k => simp only [step]; rw [hx x (by simp [Op.operands])]
  case indexAddr t x i => simp only [step]; rw [hx x (by simp [Op.operands]), hx i (by simp [Op.operands])]; first | done | rfl
  case build t parts =>
    have hf : ∀ fs cs, fillA fs ⟨e, H, n⟩ g parts.toList cs = fillA fs ⟨e', H, n⟩ g parts.toList cs := fun fs cs => fillA_congr fun p hm => hx p.2 (by simp [Op.operands]; exact ⟨p.1, by simpa using hm⟩)
    simp only [step, hf]
  case buildSlice t len parts =>
    simp only [step]
    have : ∀ g es, elemsA ⟨e, H, n⟩ g es 0 parts.toList = elemsA ⟨e', H, n⟩ g es 0 parts.toList := fun g es => elemsA_congr fun p hm => hx p.2 (by simp [Op.operands]; exact ⟨p.1, by simpa using hm⟩)
    simp only [this]
    cases dst with
    | none => rfl
    | some d =>
      have hd' := (hd.resolve_left (by simp [quietO, quietP])) d rfl
      repeat' split
      all_goals simp_all
  case slice t x lo hi mx =>
    have h1 := hx x (by simp [Op.operands])
    cases lo with
    | none =>
      cases hi with
      | none => simp only [step, h1]
      | some u => simp only [step, h1, hx u (by simp [Op.operands])]
    | some l =>
      cases hi with
      | none => simp only [step, h1, hx l (by simp [Op.operands])]
      | some u => simp only [step, h1, hx l (by simp [Op.operands]), hx u (by simp [Op.operands])]
  case extract x k => simp only [step]; rw [hx x (by simp [Op.operands])]
  case call c =>
    have ha : ∀ x ∈ c.args.toList, opT ⟨e, H, n⟩ x = opT ⟨e', H, n⟩ x := fun x hm => hx x (by simp [Op.operands, Call.operands]; exact .inr (by simpa using hm))
    simp only [step]
    split
    · rename_i h1 h2 h3
      rw [ha _ (by rw [h2]; simp)]
      rfl
    · rename_i h1 h2 h3
      rw [ha _ (by rw [h2]; simp)]
      rename_i x y _ _
      rw [ha y (by rw [h2]; simp)]
      cases dst with
      | none => rfl
      | some d =>
        have hd' := (hd.resolve_left (by simp [quietO, quietP, h1])) d rfl
        have hH : ∀ id, St.H ⟨e, H, n⟩ id = St.H ⟨e', H, n⟩ id := fun _ => rfl
        have hT : ∀ c, elemsT ⟨e, H, n⟩ c = elemsT ⟨e', H, n⟩ c := fun c => by cases c <;> rfl
        simp only [hT, hH]
        repeat' split
        all_goals simp_all
    · rfl
end
end Go.Abs

namespace Go.Abs
set_option linter.unusedVariables false
set_option linter.unusedSimpArgs false
variable {P : Program}

theorem step_same {tb : Tab} {hi : Hint} {s : St} {g : Gd} {d : Option Nat} {o : Op} {r : R} (hq : quietO .no o = true) (hs : step tb hi s g d o = some r) : r.heap = s.heap := by
  cases o <;> simp only [step] at hs
  all_goals first
    | (simp [quietO, quietP] at hq; done)
    | (cases hs; done)
    | (repeat' split at hs
       all_goals first
         | contradiction
         | (cases hs; done)
         | (injection hs with hs; subst hs; rfl)
         | (simp only [Option.map_eq_some_iff] at hs
            obtain ⟨_, _, hs⟩ := hs
            subst hs; rfl)
         | (simp_all [quietO, quietP]; done)
         | (simp at hs; done))

theorem callStepM_call {tb : Tab} {ids kept : List Nat} {names : List (Nat × Nat)} {H' : List (Nat × Obj)} {res : AT} {g : Gd} {o : Op} (hc : ¬ ∃ c, o = .call c) (s : St) : callStepM P tb ids kept names H' res s g o = none := by
  unfold callStepM
  split
  · rename_i c; exact absurd ⟨c, rfl⟩ hc
  · rfl

theorem quietO_no {hi : Hint} {o : Op} (h : quietO hi o = true) (hn : ∀ a b c, hi ≠ .call a b c) : quietO .no o = true := by
  cases hi with
  | call a b c => exact absurd rfl (hn a b c)
  | no => exact h
  | fz => simp [quietO] at h
  | callM => simp [quietO] at h
  | obj ob =>
    cases o <;> try (first | exact h | rfl)

theorem opRes_same {tb : Tab} {hi : Hint} {s : St} {g : Gd} {o : Oper} {r : R} (hq : quietO hi o.op = true) (hs : opRes P tb hi s g o = some r) : r.heap = s.heap := by
  unfold opRes at hs
  split at hs
  · rename_i names H' res
    unfold callStep at hs
    split at hs
    · rename_i c hc
      have : H' = [] := by
        rw [hc] at hq
        cases H' with
        | nil => rfl
        | cons => simp [quietO, quietP] at hq
      subst this
      repeat' split at hs
      all_goals first | (cases hs; done) | (injection hs with hs; subst hs; rfl)
    · cases hs
  · simp [quietO] at hq
  · simp [quietO] at hq
  · rename_i h hn hn2 hn3
    exact step_same (quietO_no hq hn) hs

theorem opRes_congr {tb : Tab} {hi : Hint} {e e' : List (Nat × Gd × AT)} {H : List (Nat × Obj)} {n : Nat} {g : Gd} {o : Oper} (hx : ∀ x ∈ o.op.operands, opT ⟨e, H, n⟩ x = opT ⟨e', H, n⟩ x)
    (hd : quietO hi o.op = true ∨ ∀ d ∈ newIds hi o.dst, St.has d ⟨e, H, n⟩ = St.has d ⟨e', H, n⟩) : opRes P tb hi ⟨e, H, n⟩ g o = opRes P tb hi ⟨e', H, n⟩ g o := by
  unfold opRes
  split
  · rename_i names H' res
    by_cases hc : ∃ c, o.op = .call c
    · refine callStep_congr hx ?_
      rcases hd with hd | hd
      · obtain ⟨c, hc⟩ := hc
        rw [hc] at hd
        cases H' with
        | nil => simp
        | cons => simp [quietO, quietP] at hd
      · intro x hm; exact hd _ (by simp [newIds]; exact ⟨x.1, ⟨x.2, hm⟩, rfl⟩)
    · have : ∀ s, callStep P tb names H' res s g o.op = none := by
        intro s; unfold callStep; split
        · rename_i c h; exact absurd ⟨c, h⟩ hc
        · rfl
      rw [this, this]
  · rename_i ob
    have hd' : ∀ d, o.dst = some d → St.has d ⟨e, H, n⟩ = St.has d ⟨e', H, n⟩ := by
      rcases hd with hd | hd
      · simp [quietO] at hd
      · exact fun d h => hd d (by simp [newIds, h])
    rw [step_congr hx (.inr hd')]
    congr 1
    funext r
    have hne : ∀ s, fzR s g none r = none := fun s => by
      unfold fzR; split
      · rename_i h _; cases h
      · rfl
    cases hdst : o.dst with
    | none => rw [hne, hne]
    | some d =>
      unfold fzR
      cases g with
      | on p => rfl
      | yes =>
        have hd2 := hd' d hdst
        split
        · rename_i d' i _ hval
          simp only [Option.some.injEq] at *
          simp_all
        · rfl
  · rename_i ids kept names H' res
    by_cases hc : ∃ c, o.op = .call c
    · refine callStepM_congr hx ?_
      rcases hd with hd | hd
      · simp [quietO] at hd
      · intro x hm hk; exact hd _ (by simp only [newIds, List.mem_map, List.mem_filter]; exact ⟨x, ⟨hm, by rw [hk]; rfl⟩, rfl⟩)
    · rw [callStepM_call hc, callStepM_call hc]
  · rename_i h hn hn2 hn3
    refine step_congr hx (hd.imp (fun h => quietO_no h hn) fun hd d h => hd d ?_)
    cases h0 : hi with
    | call a b c => exact absurd h0 (hn a b c)
    | no => simp [newIds, h]
    | obj => simp [newIds, h]
    | fz ob => exact absurd h0 (hn2 ob)
    | callM a b c d e => exact absurd h0 (hn3 a b c d e)

/-! ### The text's order, op by op -/
structure Rec : Type 1 where
  o : Oper
  hi : Hint
  s : St
  g : Gd
  r : R

def Rec.q (x : Rec) : Bool := quietO x.hi x.o.op

def trace (P : Program) (tb : Tab) (ops : Array Oper) (hs : List (Nat × Hint)) : Nat → List Oper → St → Option (List Rec)
  | _, [], _ => some []
  | i, o :: l, s =>
    match gdOf ops s o, dstOk s o.dst with
    | some g, true => match opRes P tb (hintAt i hs) s g o with
      | some x => (trace P tb ops hs (i + 1) l (({ s with heap := x.heap } : St).put o.dst g x.val)).map (⟨o, hintAt i hs, s, g, x⟩ :: ·)
      | none => none
    | _, _ => none

def putE (x : Rec) (e : List (Nat × Gd × AT)) : List (Nat × Gd × AT) :=
  match x.o.dst with
  | some d => (d, x.g, x.r.val) :: e
  | none => e

/-- The slots, where the operations of D are done. -/
def envD : List Rec → Nat → (Nat → Bool) → List (Nat × Gd × AT) → List (Nat × Gd × AT)
  | [], _, _, e => e
  | x :: l, i, D, e => envD l (i + 1) D (bif D i then putE x e else e)

def hpD : List Rec → Nat → (Nat → Bool) → List (Nat × Obj) → List (Nat × Obj)
  | [], _, _, h => h
  | x :: l, i, D, h => hpD l (i + 1) D (bif D i && !x.q then x.r.heap else h)

theorem envD_congr {D D' : Nat → Bool} : ∀ (l : List Rec) (i : Nat) (e : List (Nat × Gd × AT)), (∀ k, k < l.length → D (i + k) = D' (i + k)) → envD l i D e = envD l i D' e
  | [], _, _, _ => rfl
  | x :: l, i, e, h => by
    have h0 := h 0 (by simp)
    simp only [Nat.add_zero] at h0
    simp only [envD, h0]
    exact envD_congr l (i + 1) _ fun k hk => by have := h (k + 1) (by simpa using hk); rwa [show i + 1 + k = i + (k + 1) by omega]

theorem hpD_congr {D D' : Nat → Bool} : ∀ (l : List Rec) (i : Nat) (e : List (Nat × Obj)), (∀ k, k < l.length → D (i + k) = D' (i + k)) → hpD l i D e = hpD l i D' e
  | [], _, _, _ => rfl
  | x :: l, i, e, h => by
    have h0 := h 0 (by simp)
    simp only [Nat.add_zero] at h0
    simp only [hpD, h0]
    exact hpD_congr l (i + 1) _ fun k hk => by have := h (k + 1) (by simpa using hk); rwa [show i + 1 + k = i + (k + 1) by omega]

theorem envD_none {D : Nat → Bool} : ∀ (l : List Rec) (i : Nat) (e : List (Nat × Gd × AT)), (∀ k, k < l.length → D (i + k) = false) → envD l i D e = e
  | [], _, _, _ => rfl
  | x :: l, i, e, h => by
    have h0 := h 0 (by simp)
    simp only [Nat.add_zero] at h0
    simp only [envD, h0, cond_false]
    exact envD_none l (i + 1) _ fun k hk => by have := h (k + 1) (by simpa using hk); rwa [show i + 1 + k = i + (k + 1) by omega]

theorem hpD_none {D : Nat → Bool} : ∀ (l : List Rec) (i : Nat) (e : List (Nat × Obj)), (∀ k, k < l.length → D (i + k) = false) → hpD l i D e = e
  | [], _, _, _ => rfl
  | x :: l, i, e, h => by
    have h0 := h 0 (by simp)
    simp only [Nat.add_zero] at h0
    simp only [hpD, h0, Bool.false_and, cond_false]
    exact hpD_none l (i + 1) _ fun k hk => by have := h (k + 1) (by simpa using hk); rwa [show i + 1 + k = i + (k + 1) by omega]

theorem look_putE {x : Rec} {e : List (Nat × Gd × AT)} {t : Nat} : look t (putE x e) = if x.o.dst = some t then some (x.g, x.r.val) else look t e := by
  unfold putE
  cases hd : x.o.dst with
  | none => simp
  | some d =>
    simp only [look, Option.some.injEq]
    cases hb : Nat.beq d t with
    | true => have := Nat.eq_of_beq_eq_true hb; subst this; simp
    | false =>
      have hne : d ≠ t := fun e => by subst e; rw [Nat.beq_refl] at hb; cases hb
      simp [hne]

theorem envD_agree {D D' : Nat → Bool} {t : Nat} : ∀ (l : List Rec) (i : Nat) (e e' : List (Nat × Gd × AT)), (∀ k x, l[k]? = some x → x.o.dst = some t → D (i + k) = D' (i + k)) → look t e = look t e' → look t (envD l i D e) = look t (envD l i D' e')
  | [], _, _, _, _, h => h
  | x :: l, i, e, e', h, he => by
    simp only [envD]
    refine envD_agree l (i + 1) _ _ (fun k y hk hy => by have := h (k + 1) y (by simpa using hk) hy; rwa [show i + 1 + k = i + (k + 1) by omega]) ?_
    by_cases hd : x.o.dst = some t
    · have h0 := h 0 x (by simp) hd
      simp only [Nat.add_zero] at h0
      rw [h0]
      cases D' i with
      | true => simp only [cond_true, look_putE, hd]; simp
      | false => simpa using he
    · have hp : ∀ e, look t (putE x e) = look t e := fun e => by rw [look_putE]; simp [hd]
      cases D i <;> cases D' i <;> simp only [cond_true, cond_false, hp, he]

theorem envD_last {D : Nat → Bool} {t : Nat} {x : Rec} : ∀ (l : List Rec) (i k : Nat) (e : List (Nat × Gd × AT)), l[k]? = some x → x.o.dst = some t → D (i + k) = true →
    (∀ k' y, k < k' → l[k']? = some y → y.o.dst = some t → D (i + k') = false) → look t (envD l i D e) = some (x.g, x.r.val)
  | [], _, _, _, h, _, _, _ => by simp at h
  | y :: l, i, 0, e, h, hx, hD, hl => by
    simp at h; subst h
    simp only [Nat.add_zero] at hD
    simp only [envD, hD, cond_true]
    have : look t (envD l (i + 1) D (putE y e)) = look t (envD l (i + 1) (fun _ => false) (putE y e)) :=
      envD_agree l (i + 1) _ _ (fun k z hk hz => by have := hl (k + 1) z (by omega) (by simpa using hk) hz; rwa [show i + 1 + k = i + (k + 1) by omega]) rfl
    rw [this, envD_none _ _ _ (fun _ _ => rfl), look_putE]
    simp [hx]
  | y :: l, i, k + 1, e, h, hx, hD, hl => by
    simp only [envD]
    refine envD_last l (i + 1) k _ (by simpa using h) hx (by rwa [show i + 1 + k = i + (k + 1) by omega]) fun k' z hk hz hd => ?_
    have := hl (k' + 1) z (by omega) (by simpa using hz) hd
    rwa [show i + 1 + k' = i + (k' + 1) by omega]

theorem hpD_cases {D : Nat → Bool} : ∀ (l : List Rec) (i : Nat) (h : List (Nat × Obj)),
    (hpD l i D h = h ∧ ∀ k x, l[k]? = some x → x.q = false → D (i + k) = false) ∨
    ∃ k x, l[k]? = some x ∧ x.q = false ∧ D (i + k) = true ∧ hpD l i D h = x.r.heap ∧ ∀ k' y, k < k' → l[k']? = some y → y.q = false → D (i + k') = false
  | [], _, _ => .inl ⟨rfl, by simp⟩
  | x :: l, i, h => by
    simp only [hpD]
    rcases hpD_cases (D := D) l (i + 1) (bif D i && !x.q then x.r.heap else h) with ⟨h1, h2⟩ | ⟨k, y, h1, h2, h3, h4, h5⟩
    · rw [h1]
      cases hq : (D i && !x.q) with
      | false =>
        refine .inl ⟨rfl, fun k y hk hy => ?_⟩
        cases k with
        | zero => simp at hk; subst hk; simp only [hy, Bool.not_false, Bool.and_true] at hq; simpa using hq
        | succ k => have := h2 k y (by simpa using hk) hy; rwa [show i + (k + 1) = i + 1 + k by omega]
      | true =>
        simp only [Bool.and_eq_true, Bool.not_eq_true'] at hq
        refine .inr ⟨0, x, by simp, hq.2, by simpa using hq.1, rfl, fun k' y hk hy hq' => ?_⟩
        cases k' with
        | zero => omega
        | succ k' => have := h2 k' y (by simpa using hy) hq'; rwa [show i + (k' + 1) = i + 1 + k' by omega]
    · refine .inr ⟨k + 1, y, by simpa using h1, h2, by rwa [show i + (k + 1) = i + 1 + k by omega], h4, fun k' z hk hz hq => ?_⟩
      cases k' with
      | zero => omega
      | succ k' => have := h5 k' z (by omega) (by simpa using hz) hq; rwa [show i + (k' + 1) = i + 1 + k' by omega]

theorem envD_any {D : Nat → Bool} {f : Nat × Gd × AT → Bool} : ∀ (l : List Rec) (i : Nat) (e : List (Nat × Gd × AT)), e.any f = false → (∀ k x d, l[k]? = some x → D (i + k) = true → x.o.dst = some d → f (d, x.g, x.r.val) = false) → (envD l i D e).any f = false
  | [], _, _, h, _ => h
  | x :: l, i, e, h, hx => by
    simp only [envD]
    refine envD_any l (i + 1) _ ?_ fun k y d hk hD hd => hx (k + 1) y d (by simpa using hk) (by rwa [show i + (k + 1) = i + 1 + k by omega]) hd
    cases hD : D i with
    | false => simpa using h
    | true =>
      simp only [cond_true]
      unfold putE
      split
      · rename_i d hd
        simp only [List.any_cons, h, Bool.or_false]
        exact hx 0 x d (by simp) (by simpa using hD) hd
      · exact h

theorem envD_base {D : Nat → Bool} {f : Nat × Gd × AT → Bool} : ∀ (l : List Rec) (i : Nat) (e : List (Nat × Gd × AT)), (envD l i D e).any f = false → e.any f = false
  | [], _, _, h => h
  | x :: l, i, e, h => by
    simp only [envD] at h
    have := envD_base l (i + 1) _ h
    cases hD : D i with
    | false => rw [hD] at this; simpa using this
    | true =>
      rw [hD] at this
      simp only [cond_true] at this
      unfold putE at this
      split at this
      · simp only [List.any_cons, Bool.or_eq_false_iff] at this; exact this.2
      · exact this

theorem trace_spec {tb : Tab} {ops : Array Oper} {hs : List (Nat × Hint)} : ∀ (os : List Oper) (i : Nat) (s : St) (l : List Rec), trace P tb ops hs i os s = some l →
    l.length = os.length ∧ ∀ (k : Nat) (x : Rec), l[k]? = some x → os[k]? = some x.o ∧ gdOf ops x.s x.o = some x.g ∧ dstOk s x.o.dst = true ∧ opRes P tb x.hi x.s x.g x.o = some x.r ∧ x.s = ⟨envD l i (fun j => Nat.blt j (i + k)) s.env, hpD l i (fun j => Nat.blt j (i + k)) s.heap, s.n⟩
  | [], i, s, l, h => by simp [trace] at h; subst h; simp
  | o :: os, i, s, l, h => by
    simp only [trace] at h
    split at h
    · rename_i g hg hd
      split at h
      · rename_i r hr
        simp only [Option.map_eq_some_iff] at h
        obtain ⟨l', hl', h⟩ := h
        subst h
        obtain ⟨h1, h2⟩ := trace_spec os (i + 1) _ l' hl'
        refine ⟨by simp [h1], fun k x hk => ?_⟩
        cases k with
        | zero =>
          simp at hk; subst hk
          refine ⟨by simp, hg, hd, hr, ?_⟩
          have hf : ∀ j, i ≤ j → Nat.blt j (i + 0) = false := fun j hj => by
            cases hb : Nat.blt j (i + 0) with
            | false => rfl
            | true => have := Nat.blt_eq.mp hb; omega
          rw [envD_none _ _ _ (fun k _ => hf _ (by omega)), hpD_none _ _ _ (fun k _ => hf _ (by omega))]
        | succ k =>
          obtain ⟨q1, q2, q3, q4, q5⟩ := h2 k x (by simpa using hk)
          refine ⟨by simpa using q1, q2, ?_, q4, ?_⟩
          · have : ∀ d, dstOk (({ s with heap := r.heap } : St).put o.dst g r.val) d = dstOk s d := fun d => by
              cases d <;> simp only [dstOk]
              unfold St.put; split <;> rfl
            rwa [this] at q3
          · rw [q5]
            have hi : Nat.blt i (i + (k + 1)) = true := Nat.blt_eq.mpr (by omega)
            simp only [envD, hpD, hi, cond_true, Bool.true_and]
            rw [show i + 1 + k = i + (k + 1) by omega]
            have hn : (({ s with heap := r.heap } : St).put o.dst g r.val).n = s.n := by unfold St.put; split <;> rfl
            have he : (({ s with heap := r.heap } : St).put o.dst g r.val).env = putE ⟨o, hintAt i hs, s, g, r⟩ s.env := by unfold St.put putE; cases o.dst <;> rfl
            have hh : (({ s with heap := r.heap } : St).put o.dst g r.val).heap = bif !Rec.q ⟨o, hintAt i hs, s, g, r⟩ then r.heap else s.heap := by
              have : (({ s with heap := r.heap } : St).put o.dst g r.val).heap = r.heap := by unfold St.put; split <;> rfl
              rw [this]
              cases hq : Rec.q ⟨o, hintAt i hs, s, g, r⟩ with
              | false => rfl
              | true => exact opRes_same hq hr
            rw [hn, he, hh]
      · cases h
    · cases h
end Go.Abs

namespace Go.Abs
set_option linter.unusedVariables false
set_option linter.unusedSimpArgs false
variable {P : Program}

/-! ### What is before what -/
def bits (acc : List Nat) : List Edge → Nat
  | [] => 0
  | e :: r => bif Region.binds .any e then Nat.lor (Nat.lor (bits acc r) (2 ^ e.on)) (acc.getD e.on 0) else bits acc r

def ancs : List Oper → List Nat → List Nat
  | [], acc => acc
  | o :: r, acc => ancs r (acc ++ [bits acc o.after.toList])

def bef (A : List Nat) (i j : Nat) : Bool := Nat.testBit (A.getD i 0) j

def Closed (ops : Array Oper) (D : Nat → Bool) : Prop := ∀ j o, ops[j]? = some o → D j = true → ∀ e ∈ o.after, Region.binds .any e = true → D e.on = true

theorem bits_spec {acc : List Nat} {j : Nat} : ∀ (es : List Edge), Nat.testBit (bits acc es) j = true → ∃ e ∈ es, Region.binds .any e = true ∧ (e.on = j ∨ Nat.testBit (acc.getD e.on 0) j = true)
  | [], h => by simp [bits] at h
  | e :: r, h => by
    simp only [bits] at h
    cases hb : Region.binds .any e with
    | false =>
      rw [hb] at h
      obtain ⟨e', h1, h2⟩ := bits_spec r h
      exact ⟨e', by simp [h1], h2⟩
    | true =>
      rw [hb] at h
      simp only [cond_true] at h
      have h' : Nat.testBit ((bits acc r ||| 2 ^ e.on) ||| acc.getD e.on 0) j = true := h
      rw [Nat.testBit_or, Nat.testBit_or, Nat.testBit_two_pow] at h'
      simp only [Bool.or_eq_true, decide_eq_true_eq] at h'
      rcases h' with (h' | h') | h'
      · obtain ⟨e', h1, h2⟩ := bits_spec r h'
        exact ⟨e', by simp [h1], h2⟩
      · exact ⟨e, by simp, hb, .inl h'⟩
      · exact ⟨e, by simp, hb, .inr h'⟩

theorem ancs_spec {ops : Array Oper} : ∀ (os : List Oper) (acc : List Nat), (∀ k o, os[k]? = some o → ops[acc.length + k]? = some o) →
    (∀ i j, bef acc i j = true → ∀ D, Closed ops D → (∀ o, ops[i]? = some o → ∀ e ∈ o.after, Region.binds .any e = true → D e.on = true) → D j = true) →
    (∀ i j, bef (ancs os acc) i j = true → ∀ D, Closed ops D → (∀ o, ops[i]? = some o → ∀ e ∈ o.after, Region.binds .any e = true → D e.on = true) → D j = true)
  | [], acc, _, h => h
  | o :: r, acc, hos, h => by
    simp only [ancs]
    refine ancs_spec r _ (fun k o' hk => ?_) fun i j hb D hD hi => ?_
    · have := hos (k + 1) o' (by simpa using hk)
      simpa [Nat.add_assoc, Nat.add_comm 1] using this
    · by_cases hlt : i < acc.length
      · refine h i j ?_ D hD hi
        unfold bef at hb ⊢
        rwa [List.getD_eq_getElem?_getD, List.getElem?_append_left hlt, ← List.getD_eq_getElem?_getD] at hb
      · by_cases heq : i = acc.length
        · subst heq
          have : (acc ++ [bits acc o.after.toList]).getD acc.length 0 = bits acc o.after.toList := by simp [List.getD_eq_getElem?_getD]
          unfold bef at hb
          rw [this] at hb
          obtain ⟨e, he, hbd, hj⟩ := bits_spec _ hb
          have h0 := hos 0 o (by simp)
          have hDe := hi o (by simpa using h0) e (by simpa using he) hbd
          rcases hj with rfl | hj
          · exact hDe
          · exact h e.on j hj D hD fun o' ho' e' he' hb' => hD e.on o' ho' hDe e' he' hb'
        · unfold bef at hb
          have : (acc ++ [bits acc o.after.toList]).getD i 0 = 0 := by
            rw [List.getD_eq_getElem?_getD, List.getElem?_eq_none (by simp; omega)]; rfl
          rw [this] at hb
          simp at hb

/-! ### The check -/
abbrev EQ := (AT × List Prop) × (AT × List Prop)

def withIdx {α : Type 1} : Nat → List α → List (Nat × α)
  | _, [] => []
  | i, x :: l => (i, x) :: withIdx (i + 1) l

theorem withIdx_mem {α : Type 1} {l : List α} {k : Nat} {x : α} {i : Nat} (h : l[k]? = some x) : (i + k, x) ∈ withIdx i l := by
  induction l generalizing i k with
  | nil => simp at h
  | cons y r ih =>
    cases k with
    | zero => simp at h; subst h; simp [withIdx]
    | succ k =>
      simp only [withIdx, List.mem_cons]
      right
      have := ih (i := i + 1) (k := k) (by simpa using h)
      rwa [show i + 1 + k = i + (k + 1) by omega] at this

theorem withIdx_inv {α : Type 1} {l : List α} {k : Nat} {x : α} {i : Nat} (h : (k, x) ∈ withIdx i l) : i ≤ k ∧ l[k - i]? = some x := by
  induction l generalizing i with
  | nil => simp [withIdx] at h
  | cons y r ih =>
    simp only [withIdx, List.mem_cons, Prod.mk.injEq] at h
    rcases h with ⟨rfl, rfl⟩ | h
    · simp
    · obtain ⟨h1, h2⟩ := ih h
      refine ⟨by omega, ?_⟩
      rw [show k - i = (k - (i + 1)) + 1 by omega]
      simpa using h2

def ordB (A : List Nat) (i j : Nat) : Bool := bif Nat.blt j i then bef A i j else bef A j i

/-- Of operation i, x, and any other one, j, y. -/
def pairB (ops : Array Oper) (A : List Nat) (i : Nat) (x : Rec) (j : Nat) (y : Rec) : Bool :=
  Nat.beq i j ||
  ((match y.o.dst with
    | some t => (!((x.o.looksAt ops).contains t || x.o.dst == some t)) || ordB A i j
    | none => true) &&
   (x.q || (newIds x.hi x.o.dst).all fun d => !y.r.val.has d || bef A j i))

def edgesB (i : Nat) (x : Rec) : Bool := x.o.after.toList.all fun e => !Region.binds .any e || Nat.blt e.on i

/-- Memory as it may stand when operation i comes: behind the effect c - 1, or at the beginning. -/
def skipB (A : List Nat) (effs : List Nat) (i c : Nat) : Bool :=
  (Nat.blt 0 c && (Nat.beq (c - 1) i || bef A (c - 1) i)) || effs.any fun k => Nat.ble c k && bef A i k

def curB (effs : List Nat) (i c : Nat) : Bool := Nat.ble c i && effs.all fun k => !(Nat.ble c k && Nat.blt k i)

def eqOne (P : Program) (tb : Tab) (A : List Nat) (effs : List Nat) (i : Nat) (x : Rec) (c : Nat) (h : List (Nat × Obj)) : Option (List EQ) :=
  bif skipB A effs i c || curB effs i c then some [] else
  bif x.q then (opRes P tb x.hi ⟨x.s.env, h, x.s.n⟩ x.g x.o).map fun r => [((r.val, r.conds), (x.r.val, x.r.conds))] else none

def catO {α : Type 1} : List (Option (List α)) → Option (List α)
  | [] => some []
  | x :: r => match x, catO r with
    | some a, some b => some (a ++ b)
    | _, _ => none

theorem catO_mem {α : Type 1} : ∀ {l : List (Option (List α))} {q : List α}, catO l = some q → ∀ x ∈ l, ∃ a, x = some a ∧ ∀ y ∈ a, y ∈ q
  | [], q, h, x, hx => by simp at hx
  | z :: r, q, h, x, hx => by
    simp only [catO] at h
    split at h
    · rename_i a b hb
      injection h with h; subst h
      simp only [List.mem_cons] at hx
      rcases hx with rfl | hx
      · exact ⟨a, rfl, fun y hy => by simp [hy]⟩
      · obtain ⟨a', h1, h2⟩ := catO_mem hb x hx
        exact ⟨a', h1, fun y hy => by simp [h2 y hy]⟩
    · cases h

def effsOf (l : List (Nat × Rec)) : List Nat := l.filterMap fun x => bif x.2.q then none else some x.1
def candsOf (h : List (Nat × Obj)) (l : List (Nat × Rec)) : List (Nat × List (Nat × Obj)) := (0, h) :: l.filterMap fun x => bif x.2.q then none else some (x.1 + 1, x.2.r.heap)

def anyEqs (P : Program) (tb : Tab) (ops : Array Oper) (A : List Nat) (l : List (Nat × Rec)) (h : List (Nat × Obj)) : Option (List EQ) :=
  bif l.all fun x => edgesB x.1 x.2 && l.all fun y => pairB ops A x.1 x.2 y.1 y.2 then
    catO (l.flatMap fun x => (candsOf h l).map fun c => eqOne P tb A (effsOf l) x.1 x.2 c.1 c.2)
  else none

def anyRun (P : Program) (tb : Tab) (ops : Array Oper) (hs : List (Nat × Hint)) (s : St) : Option (St × List Prop × List EQ) :=
  match trace P tb ops hs 0 ops.toList s with
  | some l => (anyEqs P tb ops (ancs ops.toList []) (withIdx 0 l) s.heap).map fun q =>
      (⟨envD l 0 (fun _ => true) s.env, hpD l 0 (fun _ => true) s.heap, s.n⟩, l.flatMap (·.r.conds), q)
  | none => none

end Go.Abs

namespace Go.Abs
set_option linter.unusedVariables false
set_option linter.unusedSimpArgs false
variable {P : Program}

theorem gdOf_congr {ops : Array Oper} {s s' : St} {o : Oper} (h : ∀ t ∈ o.looksAt ops, look t s.env = look t s'.env) : gdOf ops s o = gdOf ops s' o := by
  unfold gdOf
  cases hg : o.guard with
  | none => rfl
  | some gw =>
    obtain ⟨j, want⟩ := gw
    simp only
    cases hd : (ops[j]?).bind (·.dst) with
    | none => rfl
    | some t =>
      simp only
      rw [h t (by simp [Oper.looksAt, hg, hd])]

theorem opT_congr {ops : Array Oper} {e e' : List (Nat × Gd × AT)} {H : List (Nat × Obj)} {n : Nat} {o : Oper} (h : ∀ t ∈ o.looksAt ops, look t e = look t e') : ∀ x ∈ o.op.operands, opT ⟨e, H, n⟩ x = opT ⟨e', H, n⟩ x := by
  intro x hx
  cases x with
  | tmp t => exact h t (List.mem_append_left _ (List.mem_filterMap.2 ⟨.tmp t, by simpa using hx, rfl⟩))
  | _ => rfl

theorem step_fresh {tb : Tab} {hi : Hint} {s : St} {g : Gd} {dst : Option Nat} {o : Op} {r : R} (hq : quietO .no o = false) (hs : step tb hi s g dst o = some r) {d : Nat} (hd : dst = some d) : s.has d = false := by
  subst hd
  cases o <;> simp only [step] at hs <;> try (first | (simp [quietO, quietP] at hq; done) | (cases hs; done))
  all_goals (
    repeat' split at hs
    all_goals first
      | contradiction
      | (cases hs; done)
      | (simp_all; done)
      | (simp_all [quietO, quietP]; done))

theorem opRes_fresh {tb : Tab} {hi : Hint} {s : St} {g : Gd} {o : Oper} {r : R} (hq : quietO hi o.op = false) (hs : opRes P tb hi s g o = some r) : ∀ d ∈ newIds hi o.dst, s.has d = false := by
  unfold opRes at hs
  split at hs
  · rename_i names H' res
    unfold callStep at hs
    intro d hd
    split at hs
    · split at hs
      · split at hs
        · split at hs
          · rename_i hcond
            simp only [Bool.and_eq_true, freshB, List.all_eq_true] at hcond
            simp only [newIds, List.mem_map] at hd
            obtain ⟨x, hx, rfl⟩ := hd
            simpa using hcond.1.1.2.1 x hx
          · cases hs
        · cases hs
      · cases hs
    · cases hs
  · rename_i ob
    intro d hd
    simp only [Option.bind_eq_some_iff] at hs
    obtain ⟨r0, h0, hs⟩ := hs
    have hdst : o.dst = some d := by simpa [newIds] using hd
    unfold fzR at hs
    split at hs
    · rename_i d' i hd' hval
      rw [hdst] at hd'
      injection hd' with hd'; subst hd'
      cases hb : s.has d with
      | false => rfl
      | true => rw [hb] at hs; simp at hs
    · cases hs
  · rename_i ids kept names H' res
    intro d hd
    simp only [newIds, List.mem_map, List.mem_filter] at hd
    obtain ⟨x, ⟨hx, hk⟩, rfl⟩ := hd
    unfold callStepM at hs
    split at hs
    · split at hs
      · split at hs
        · split at hs
          · rename_i hcond
            simp only [Bool.and_eq_true, freshM, List.all_eq_true] at hcond
            have := hcond.1.1.2 x hx
            rw [show memL x.1 kept = false by simpa using hk] at this
            simpa using this
          · cases hs
        · cases hs
      · cases hs
    · cases hs
  · rename_i h hn hn2 hn3
    intro d hd
    have hq' : quietO .no o.op = false := by
      cases hi with
      | call a b c => exact absurd rfl (hn a b c)
      | callM a b c d e => exact absurd rfl (hn3 a b c d e)
      | fz ob => exact absurd rfl (hn2 ob)
      | no => exact hq
      | obj ob => cases ho : o.op <;> rw [ho] at hq <;> first | exact hq | (simp [quietO, quietP] at hq; done)
    refine step_fresh hq' hs ?_
    cases h0 : hi with
    | call a b c => exact absurd h0 (hn a b c)
    | no => rw [h0] at hd; simpa [newIds] using hd
    | obj => rw [h0] at hd; simpa [newIds] using hd
    | fz ob => exact absurd h0 (hn2 ob)
    | callM a b c d e => exact absurd h0 (hn3 a b c d e)

theorem hpD_agree {D D' : Nat → Bool} : ∀ (l : List Rec) (i : Nat) (h : List (Nat × Obj)), (∀ (k : Nat) (x : Rec), l[k]? = some x → x.q = false → D (i + k) = D' (i + k)) → hpD l i D h = hpD l i D' h
  | [], _, _, _ => rfl
  | x :: l, i, h, hx => by
    simp only [hpD]
    have : (D i && !x.q) = (D' i && !x.q) := by
      cases hq : x.q with
      | true => simp
      | false => have := hx 0 x (by simp) hq; simpa using this
    rw [this]
    exact hpD_agree l (i + 1) _ fun k y hk hq => by have := hx (k + 1) y (by simpa using hk) hq; rwa [show i + 1 + k = i + (k + 1) by omega]

def stD (l : List Rec) (s : St) (D : Nat → Bool) : St := ⟨envD l 0 D s.env, hpD l 0 D s.heap, s.n⟩
def addD (D : Nat → Bool) (i : Nat) : Nat → Bool := fun j => Nat.beq i j || D j

theorem effsOf_mem {l : List Rec} {k : Nat} : k ∈ effsOf (withIdx 0 l) ↔ ∃ x, l[k]? = some x ∧ x.q = false := by
  unfold effsOf
  rw [List.mem_filterMap]
  constructor
  · rintro ⟨⟨j, x⟩, hm, h⟩
    have := withIdx_inv hm
    cases hq : x.q with
    | true => simp [hq] at h
    | false => simp [hq] at h; subst h; exact ⟨x, by simpa using this.2, hq⟩
  · rintro ⟨x, hx, hq⟩
    exact ⟨(k, x), by simpa using withIdx_mem (i := 0) hx, by simp [hq]⟩

theorem one_step {tb : Tab} {ops : Array Oper} {hs : List (Nat × Hint)} {s : St} {l : List Rec} (hl : trace P tb ops hs 0 ops.toList s = some l) {q : List EQ}
    (hq : anyEqs P tb ops (ancs ops.toList []) (withIdx 0 l) s.heap = some q) (he : q.map Prod.fst = q.map Prod.snd) (hc : AllC (l.flatMap (·.r.conds)))
    {D : Nat → Bool} (hD : Closed ops D) {i : Nat} {x : Rec} (hx : l[i]? = some x) (hi : D i = false) (hr : ∀ e ∈ x.o.after, Region.binds .any e = true → D e.on = true) :
    ∃ r' : R, opRun P tb ops x.hi (stD l s D) x.o = some ((({ (stD l s D) with heap := r'.heap } : St)).put x.o.dst x.g r'.val, r'.conds) ∧ AllC r'.conds ∧ r'.val = x.r.val ∧ r'.heap = hpD l 0 (addD D i) s.heap ∧
      ∀ t, look t (stD l s (addD D i)).env = look t ((({ (stD l s D) with heap := r'.heap } : St)).put x.o.dst x.g r'.val).env := by
  obtain ⟨hlen, hspec⟩ := trace_spec _ _ _ _ hl
  have hop : ∀ (k : Nat) (y : Rec), l[k]? = some y → ops[k]? = some y.o := fun k y hy => by have := (hspec k y hy).1; simpa using this
  unfold anyEqs at hq
  cases hall : ((withIdx 0 l).all fun x => edgesB x.1 x.2 && (withIdx 0 l).all fun y => pairB ops (ancs ops.toList []) x.1 x.2 y.1 y.2) with
  | false => rw [hall] at hq; cases hq
  | true =>
  rw [hall] at hq
  simp only [cond_true] at hq
  generalize hA : ancs ops.toList [] = A at hq hall
  have hbef : ∀ i j, bef A i j = true → ∀ D, Closed ops D → (∀ o, ops[i]? = some o → ∀ e ∈ o.after, Region.binds .any e = true → D e.on = true) → D j = true := by
    rw [← hA]
    exact ancs_spec ops.toList [] (fun k o hk => by simpa using hk) (fun i j h => by simp [bef] at h)
  have hbi : ∀ j, bef A i j = true → D j = true := fun j hj => hbef i j hj D hD fun o ho e he hb => by
    have := hop i x hx; rw [this] at ho; injection ho with ho; subst ho; exact hr e he hb
  have hbd : ∀ k, D k = true → (∃ y, l[k]? = some y) → bef A k i = false := fun k hk hy => by
    cases hb : bef A k i with
    | false => rfl
    | true =>
      have := hbef k i hb D hD fun o ho e he hb' => hD k o ho hk e he hb'
      rw [hi] at this; cases this
  have hpair : ∀ (k : Nat) (y : Rec), l[k]? = some y → k ≠ i → (∀ t, y.o.dst = some t → (t ∈ x.o.looksAt ops ∨ x.o.dst = some t) → D k = Nat.blt k i) ∧ (x.q = false → D k = true → ∀ d ∈ newIds x.hi x.o.dst, y.r.val.has d = false) := by
    intro k y hy hki
    have h1 := List.all_eq_true.1 hall (i, x) (by simpa using withIdx_mem (i := 0) hx)
    simp only [Bool.and_eq_true] at h1
    have h2 := List.all_eq_true.1 h1.2 (k, y) (by simpa using withIdx_mem (i := 0) hy)
    unfold pairB at h2
    have hbeq : Nat.beq i k = false := by
      cases hb : Nat.beq i k with
      | false => rfl
      | true => exact absurd (Nat.eq_of_beq_eq_true hb).symm hki
    simp only [hbeq, Bool.false_or, Bool.and_eq_true] at h2
    obtain ⟨h2, h3⟩ := h2
    refine ⟨fun t ht hm => ?_, fun hxq hk d hd => ?_⟩
    · simp only [ht] at h2
      have hmm : ((x.o.looksAt ops).contains t || x.o.dst == some t) = true := by
        rcases hm with hm | hm
        · simp [hm]
        · simp [hm]
      rw [hmm] at h2
      simp only [Bool.not_true, Bool.false_or, ordB] at h2
      cases hb : Nat.blt k i with
      | true => rw [hb] at h2; exact hbi k h2
      | false =>
        rw [hb] at h2
        cases hk : D k with
        | false => rfl
        | true => have := hbd k hk ⟨y, hy⟩; simp only [cond_false] at h2; rw [this] at h2; cases h2
    · rw [hxq] at h3
      simp only [Bool.false_or, List.all_eq_true, Bool.or_eq_true, Bool.not_eq_true'] at h3
      rcases h3 d hd with h | h
      · exact h
      · rw [hbd k hk ⟨y, hy⟩] at h; cases h
  obtain ⟨_, hg, hdst, hres, hxs⟩ := hspec i x hx
  simp only [Nat.zero_add] at hxs
  have hnot : Nat.blt i i = false := by cases hb : Nat.blt i i with | false => rfl | true => have := Nat.blt_eq.mp hb; omega
  have hlook : ∀ t ∈ x.o.looksAt ops, look t (envD l 0 D s.env) = look t x.s.env := by
    intro t ht
    rw [hxs]
    refine envD_agree l 0 _ _ (fun k y hy hd => ?_) rfl
    simp only [Nat.zero_add]
    by_cases hki : k = i
    · subst hki; rw [hi, hnot]
    · exact (hpair k y hy hki).1 t hd (.inl ht)
  have hcx : AllC x.r.conds := by
    have : ∀ (l : List Rec), AllC (l.flatMap (·.r.conds)) → x ∈ l → AllC x.r.conds := by
      intro l
      induction l with
      | nil => intro _ h; cases h
      | cons y r ih =>
        intro h hm
        rw [List.flatMap_cons, AllC_append] at h
        rcases List.mem_cons.1 hm with rfl | hm
        · exact h.1
        · exact ih h.2 hm
    exact this l hc (List.mem_of_getElem? hx)
  -- memory, as it stands
  obtain ⟨c, hcm, hc0, hcl⟩ : ∃ c, (c, hpD l 0 D s.heap) ∈ candsOf s.heap (withIdx 0 l) ∧ (Nat.blt 0 c = true → D (c - 1) = true ∧ ∃ y, l[c - 1]? = some y ∧ y.q = false ∧ hpD l 0 D s.heap = y.r.heap) ∧
      (∀ (k : Nat) (y : Rec), l[k]? = some y → y.q = false → Nat.ble c k = true → D k = false) := by
    rcases hpD_cases (D := D) l 0 s.heap with ⟨h1, h2⟩ | ⟨k, y, h1, h2, h3, h4, h5⟩
    · refine ⟨0, by rw [h1]; simp [candsOf], (fun h => by simp at h), fun k y hk hy _ => by have := h2 k y hk hy; simpa using this⟩
    · simp only [Nat.zero_add] at h3 h5
      refine ⟨k + 1, ?_, fun _ => ⟨by simpa using h3, y, by simpa using h1, h2, h4⟩, fun k' y' hk' hy' hle => h5 k' y' (by have := Nat.le_of_ble_eq_true hle; omega) hk' hy'⟩
      rw [h4]
      simp only [candsOf, List.mem_cons]
      right
      exact List.mem_filterMap.2 ⟨(k, y), by simpa using withIdx_mem (i := 0) h1, by simp [h2]⟩
  have hskip : skipB A (effsOf (withIdx 0 l)) i c = false := by
    cases hs : skipB A (effsOf (withIdx 0 l)) i c with
    | false => rfl
    | true =>
      simp only [skipB, Bool.or_eq_true, Bool.and_eq_true, List.any_eq_true] at hs
      rcases hs with ⟨h1, h2⟩ | ⟨k, hk, h1, h2⟩
      · obtain ⟨hd, y, hy, _, _⟩ := hc0 h1
        rcases h2 with h2 | h2
        · have := Nat.eq_of_beq_eq_true h2
          rw [this, hi] at hd; cases hd
        · rw [hbd _ hd ⟨y, hy⟩] at h2; cases h2
      · obtain ⟨y, hy, hyq⟩ := effsOf_mem.1 hk
        have := hcl k y hy hyq h1
        rw [hbi k h2] at this; cases this
  have hcat := catO_mem hq (eqOne P tb A (effsOf (withIdx 0 l)) i x c (hpD l 0 D s.heap)) (by
    rw [List.mem_flatMap]
    refine ⟨(i, x), by simpa using withIdx_mem (i := 0) hx, ?_⟩
    exact List.mem_map.2 ⟨(c, hpD l 0 D s.heap), hcm, rfl⟩)
  obtain ⟨es, hes, hesq⟩ := hcat
  have hn : x.s.n = s.n := by rw [hxs]
  -- the answer there
  have key : ∃ r' : R, opRes P tb x.hi ⟨x.s.env, hpD l 0 D s.heap, s.n⟩ x.g x.o = some r' ∧ AllC r'.conds ∧ r'.val = x.r.val ∧ (x.q = true ∨ (curB (effsOf (withIdx 0 l)) i c = true ∧ hpD l 0 D s.heap = x.s.heap ∧ r' = x.r)) := by
    unfold eqOne at hes
    rw [hskip] at hes
    cases hcur : curB (effsOf (withIdx 0 l)) i c with
    | true =>
      have hh : hpD l 0 D s.heap = x.s.heap := by
        simp only [curB, Bool.and_eq_true, List.all_eq_true, Bool.not_eq_true', Bool.and_eq_false_iff] at hcur
        obtain ⟨hle, hno⟩ := hcur
        have hle := Nat.le_of_ble_eq_true hle
        rw [hxs]
        simp only
        rcases hpD_cases (D := fun j => Nat.blt j i) l 0 s.heap with ⟨h1, h2⟩ | ⟨k, y, h1, h2, h3, h4, h5⟩
        · simp only [Nat.zero_add] at h2
          by_cases hc1 : Nat.blt 0 c = true
          · obtain ⟨_, y, hy, hyq, _⟩ := hc0 hc1
            have := h2 (c - 1) y hy hyq
            have h0 := Nat.blt_eq.mp hc1
            have : ¬ (c - 1 < i) := fun h => by rw [Nat.blt_eq.mpr h] at this; cases this
            omega
          · rw [h1]
            rcases hpD_cases (D := D) l 0 s.heap with ⟨g1, _⟩ | ⟨k, y, g1, g2, g3, _, _⟩
            · exact g1
            · simp only [Nat.zero_add] at g3
              have hcz : c = 0 := by
                have : ¬ (0 < c) := fun h => hc1 (Nat.blt_eq.mpr h)
                omega
              have := hcl k y g1 g2 (by rw [hcz]; exact Nat.ble_eq.mpr (Nat.zero_le k))
              rw [this] at g3; cases g3
        · simp only [Nat.zero_add] at h3 h5
          have hki := Nat.blt_eq.mp h3
          have hkc : k < c := by
            rcases hno k (effsOf_mem.2 ⟨y, h1, h2⟩) with h | h
            · by_cases hlt : k < c
              · exact hlt
              · rw [Nat.ble_eq.mpr (by omega)] at h; cases h
            · rw [h3] at h; cases h
          obtain ⟨_, z, hz, hzq, hzh⟩ := hc0 (Nat.blt_eq.mpr (by omega))
          have : c - 1 = k := by
            by_cases hlt : k < c - 1
            · have := h5 (c - 1) z hlt hz hzq
              rw [Nat.blt_eq.mpr (by omega)] at this; cases this
            · omega
          rw [this, h1] at hz
          injection hz with hz; subst hz
          rw [hzh, h4]
      refine ⟨x.r, ?_, hcx, rfl, .inr ⟨rfl, hh, rfl⟩⟩
      rw [hh, ← hn]; exact hres
    | false =>
      rw [hcur] at hes
      simp only [Bool.or_self, cond_false] at hes
      cases hxq : x.q with
      | false => rw [hxq] at hes; cases hes
      | true =>
        rw [hxq] at hes
        simp only [cond_true, Option.map_eq_some_iff] at hes
        obtain ⟨r', hr', hes⟩ := hes
        subst hes
        have hm := hesq _ (List.mem_singleton.2 rfl)
        have heq : (r'.val, r'.conds) = (x.r.val, x.r.conds) := by
          obtain ⟨k, hk⟩ := List.getElem?_of_mem hm
          have h1 : (q.map Prod.fst)[k]? = some (r'.val, r'.conds) := by simp [hk]
          have h2 : (q.map Prod.snd)[k]? = some (x.r.val, x.r.conds) := by simp [hk]
          rw [he, h2] at h1
          injection h1 with h1; exact h1.symm
        injection heq with e1 e2
        rw [hn] at hr'
        exact ⟨r', hr', by rw [e2]; exact hcx, e1, .inl rfl⟩
  obtain ⟨r', hr', hcr, hval, hside⟩ := key
  have hrun : opRes P tb x.hi (stD l s D) x.g x.o = some r' := by
    rw [← hr']
    refine opRes_congr (opT_congr hlook) ?_
    cases hxq : x.q with
    | true => exact .inl hxq
    | false =>
      right
      rcases hside with h | ⟨_, hh, rfl⟩
      · rw [hxq] at h; cases h
      · intro d hd
        have hf := opRes_fresh hxq hres d hd
        have hf' := hf
        simp only [St.has, Bool.or_eq_false_iff] at hf
        have hb : (envD l 0 D s.env).any (fun x => x.2.2.has d) = false := by
          refine envD_any l 0 _ ?_ fun k y t hk hDk ht => ?_
          · have := hf.1
            rw [hxs] at this
            exact envD_base l 0 _ this
          · simp only [Nat.zero_add] at hDk
            by_cases hki : k = i
            · subst hki; rw [hi] at hDk; cases hDk
            · exact (hpair k y hk hki).2 hxq hDk d hd
        simp only [St.has, hb, hf.1]
  have hgd : gdOf ops (stD l s D) x.o = some x.g := by rw [← hg]; exact gdOf_congr hlook
  have hdo : dstOk (stD l s D) x.o.dst = true := by
    rw [← hdst]
    cases x.o.dst <;> simp [dstOk, stD, hn]
  refine ⟨r', ?_, hcr, hval, ?_, ?_⟩
  · unfold opRun
    rw [hgd, hdo]
    simp only [hrun, Option.map_some]
  · rcases hside with hxq | ⟨hcur, hh, rfl⟩
    · have : r'.heap = hpD l 0 D s.heap := opRes_same hxq hrun
      rw [this]
      refine hpD_agree l 0 _ fun k y hk hy => ?_
      simp only [Nat.zero_add, addD]
      cases hb : Nat.beq i k with
      | false => rfl
      | true =>
        have := Nat.eq_of_beq_eq_true hb; subst this
        rw [hx] at hk; injection hk with hk; subst hk
        rw [hxq] at hy; cases hy
    · cases hxq : x.q with
      | true =>
        have : x.r.heap = hpD l 0 D s.heap := opRes_same hxq hrun
        rw [this]
        refine hpD_agree l 0 _ fun k y hk hy => ?_
        simp only [Nat.zero_add, addD]
        cases hb : Nat.beq i k with
        | false => rfl
        | true =>
          have := Nat.eq_of_beq_eq_true hb; subst this
          rw [hx] at hk; injection hk with hk; subst hk
          rw [hxq] at hy; cases hy
      | false =>
        have hle : c ≤ i := by
          simp only [curB, Bool.and_eq_true] at hcur
          exact Nat.le_of_ble_eq_true hcur.1
        rcases hpD_cases (D := addD D i) l 0 s.heap with ⟨h1, h2⟩ | ⟨k, y, h1, h2, h3, h4, h5⟩
        · have := h2 i x hx hxq
          simp [addD] at this
        · simp only [Nat.zero_add] at h3 h5
          have hik : ¬ (k < i) := fun hlt => by have := h5 i x hlt hx hxq; simp [addD] at this
          have hki : ¬ (i < k) := fun hlt => by
            have := hcl k y h1 h2 (Nat.ble_eq.mpr (by omega))
            simp only [addD, this, Bool.or_false] at h3
            have := Nat.eq_of_beq_eq_true h3
            omega
          have : k = i := by omega
          subst this
          rw [hx] at h1; injection h1 with h1; subst h1
          exact h4.symm
  · intro t
    have hput : look t ((({ (stD l s D) with heap := r'.heap } : St)).put x.o.dst x.g r'.val).env = if x.o.dst = some t then some (x.g, x.r.val) else look t (envD l 0 D s.env) := by
      have : ((({ (stD l s D) with heap := r'.heap } : St)).put x.o.dst x.g r'.val).env = putE x (envD l 0 D s.env) := by
        rw [hval]; unfold St.put putE; cases x.o.dst <;> rfl
      rw [this, look_putE]
    rw [hput]
    by_cases ht : x.o.dst = some t
    · rw [if_pos ht]
      refine envD_last l 0 i _ hx ht (by simp [addD]) fun k y hk hy hd => ?_
      simp only [Nat.zero_add, addD]
      have h1 := (hpair k y hy (by omega)).1 t hd (.inr ht)
      have : Nat.blt k i = false := by cases hb : Nat.blt k i with | false => rfl | true => have := Nat.blt_eq.mp hb; omega
      rw [h1, this, Bool.or_false]
      cases hb : Nat.beq i k with
      | false => rfl
      | true => have := Nat.eq_of_beq_eq_true hb; omega
    · rw [if_neg ht]
      refine envD_agree l 0 _ _ (fun k y hy hd => ?_) rfl
      simp only [Nat.zero_add, addD]
      cases hb : Nat.beq i k with
      | false => rfl
      | true =>
        have := Nat.eq_of_beq_eq_true hb; subst this
        rw [hx] at hy; injection hy with hy; subst hy
        exact absurd hd ht

end Go.Abs

namespace Go.Abs
set_option linter.unusedVariables false
set_option linter.unusedSimpArgs false
variable {P : Program}

def cnt : List Bool → Nat
  | [] => 0
  | b :: r => (bif b then 0 else 1) + cnt r

theorem cnt_set : ∀ (l : List Bool) (i : Nat), l[i]? = some false → cnt (l.set i true) + 1 = cnt l
  | [], _, h => by simp at h
  | b :: r, 0, h => by simp at h; subst h; simp [cnt]; omega
  | b :: r, i + 1, h => by
    have := cnt_set r i (by simpa using h)
    simp only [List.set_cons_succ, cnt]
    omega

theorem cnt_zero : ∀ (l : List Bool), cnt l = 0 → ∀ i, i < l.length → l[i]? = some true
  | [], _, i, h => by simp at h
  | b :: r, h, i, hi => by
    simp only [cnt] at h
    cases b with
    | false => simp at h
    | true =>
      cases i with
      | zero => rfl
      | succ i => simpa using cnt_zero r (by simpa using h) i (by simpa using hi)

theorem cnt_replicate (n : Nat) : cnt (List.replicate n false) = n := by
  induction n with
  | zero => rfl
  | succ n ih => simp only [List.replicate_succ, cnt, ih, cond_false]; omega

section
variable {W : World} {A K : Nat → Prop} {s : St} {a : Act} {w : World} {ρ : Nat → Value}

theorem Rel.drawn (h : Rel W A K s a w ρ) (d : Nat) : Rel W A K s a { w with drawn := d } ρ := by
  refine ⟨⟨h.ext.os, h.ext.tape, h.ext.output, h.ext.size, h.ext.block⟩, h.kl, h.al, ⟨fun id o ho => ?_, h.mr.disj, h.mr.av⟩, h.low, fun t g x hl => ?_, h.defers, h.size⟩
  · have hor := h.mr.obj id o ho
    cases o with
    | box ty cells => obtain ⟨g, vs, h1, h2, h3⟩ := hor; exact ⟨g, vs, h1, h2, h3.mono (fun _ _ _ => rfl) (fun _ _ h => h) fun id o' _ ho => ⟨o', ho, rfl, rfl⟩⟩
    | rows ty es enc z xs => obtain ⟨vs, h1, h2, h3⟩ := hor; exact ⟨vs, h1, h2, h3.mono (fun _ _ _ => rfl) (fun _ _ h => h)⟩
    | ghost vs cells => exact ⟨hor.1, hor.2.mono (fun _ _ _ => rfl) (fun _ _ h => h) fun id o' _ ho => ⟨o', ho, rfl, rfl⟩⟩
  · obtain ⟨v, hv, h1, h2⟩ := h.env t g x hl
    exact ⟨v, hv, fun hp => (h1 hp).mono (fun _ _ _ => rfl) (fun _ _ h => h) fun id o' _ ho => ⟨o', ho, rfl, rfl⟩, h2⟩

theorem any_wp {tb : Tab} (hT : TabOk P tb) {ops : Array Oper} {hs : List (Nat × Hint)} {l : List Rec} (hl : trace P tb ops hs 0 ops.toList s = some l) {q : List EQ}
    (hq : anyEqs P tb ops (ancs ops.toList []) (withIdx 0 l) s.heap = some q) (he : q.map Prod.fst = q.map Prod.snd) (hc : AllC (l.flatMap (·.r.conds))) {Q : Exit → Act → World → Prop}
    (hQ : ∀ a' w' ρ', Rel W A K (stD l s (fun _ => true)) a' w' ρ' → Q .normal a' w') : ∀ (fuel : Nat) (listed : Array Bool) (a : Act) (w : World) (ρ : Nat → Value), listed.size = ops.size → Closed ops (fun j => listed.getD j false) → cnt listed.toList ≤ fuel →
      Rel W A K (stD l s (fun j => listed.getD j false)) a w ρ → wpAny P .any ops Q fuel listed a w := by
  have hlen : l.length = ops.size := by have := (trace_spec _ _ _ _ hl).1; simpa using this
  have fin : ∀ (listed : Array Bool) (a : Act) (w : World) (ρ : Nat → Value), (∀ j, j < ops.size → listed.getD j false = true) → Rel W A K (stD l s (fun j => listed.getD j false)) a w ρ → Q .normal a w := by
    intro listed a w ρ hall hr
    refine hQ a w ρ ?_
    have h1 : stD l s (fun _ => true) = stD l s (fun j => listed.getD j false) := by
      unfold stD
      rw [envD_congr l 0 s.env (D' := fun j => listed.getD j false), hpD_congr l 0 s.heap (D' := fun j => listed.getD j false)]
      · intro k hk; simp only [Nat.zero_add]; exact (hall k (by omega)).symm
      · intro k hk; simp only [Nat.zero_add]; exact (hall k (by omega)).symm
    rw [h1]; exact hr
  have edges : ∀ (i : Nat) (x : Rec), l[i]? = some x → ∀ e ∈ x.o.after, Region.binds .any e = true → e.on < i := by
    intro i x hx e hem hb
    unfold anyEqs at hq
    cases hall : ((withIdx 0 l).all fun x => edgesB x.1 x.2 && (withIdx 0 l).all fun y => pairB ops (ancs ops.toList []) x.1 x.2 y.1 y.2) with
    | false => rw [hall] at hq; cases hq
    | true =>
      have h1 := List.all_eq_true.1 hall (i, x) (by simpa using withIdx_mem (i := 0) hx)
      simp only [Bool.and_eq_true, edgesB, List.all_eq_true] at h1
      have := h1.1 e (by simpa using hem)
      rw [hb] at this
      simp only [Bool.not_true, Bool.false_or] at this
      exact Nat.blt_eq.mp this
  have hop : ∀ (k : Nat) (y : Rec), l[k]? = some y → ops[k]? = some y.o := fun k y hy => by have := ((trace_spec _ _ _ _ hl).2 k y hy).1; simpa using this
  have none_ready : ∀ (listed : Array Bool), listed.size = ops.size → Region.ready .any ops listed = [] → ∀ j, j < ops.size → listed.getD j false = true := by
    intro listed hsz hrd j
    induction j using Nat.strongRecOn with
    | ind j ih =>
      intro hj
      cases hb : listed.getD j false with
      | true => rfl
      | false =>
        have hm : j ∈ Region.ready .any ops listed := by
          rw [mem_ready]
          have hjl : j < listed.size := by omega
          refine ⟨by simpa [Array.getD, hjl] using hb, ops[j], by simp [hj], fun e hem hbd => ?_⟩
          have hx : l[j]? = some l[j] := by simp
          have hxo := hop j _ hx
          have : ops[j] = l[j].o := by simpa [hj] using hxo
          have hlt := edges j _ hx e (by rw [← this]; exact hem) hbd
          exact ih e.on hlt (by omega)
        rw [hrd] at hm; cases hm
  intro fuel
  induction fuel with
  | zero =>
    intro listed a w ρ hsz hcl hct hr
    have hz := cnt_zero listed.toList (by omega)
    have hall : ∀ j, j < ops.size → listed.getD j false = true := fun j hj => by
      have := hz j (by simp; omega)
      have hjl : j < listed.size := by omega
      simp [hjl] at this
      simp [Array.getD, hjl, this]
    refine ⟨?_, fin listed a w ρ hall hr⟩
    cases hrd : Region.ready .any ops listed with
    | nil => rfl
    | cons j r =>
      have hm : j ∈ Region.ready .any ops listed := by rw [hrd]; simp
      obtain ⟨h1, o, ho, _⟩ := mem_ready.1 hm
      have hj : j < ops.size := (Array.getElem?_eq_some_iff.1 ho).1
      have hjl : j < listed.size := by omega
      have := hall j hj
      simp [Array.getD, hjl] at this h1
      rw [this] at h1; cases h1
  | succ fuel ih =>
    intro listed a w ρ hsz hcl hct hr
    refine ⟨fun hrd => fin listed a w ρ (none_ready listed hsz hrd) hr, fun i hi => ?_⟩
    obtain ⟨h1, o, ho, hready⟩ := mem_ready.1 hi
    have hio : i < ops.size := (Array.getElem?_eq_some_iff.1 ho).1
    have hil : i < listed.size := by omega
    have hfalse : listed.getD i false = false := by simpa [Array.getD, hil] using h1
    have hx : l[i]? = some l[i] := by simp
    generalize l[i] = x at hx
    have hxo := hop i x hx
    rw [ho] at hxo; injection hxo with hxo; subst hxo
    obtain ⟨r', hrun, hcr, hval, hheap, hlook⟩ := one_step hl hq he hc hcl hx hfalse hready
    have hw := opRun_wp hr hT hrun hcr (Q := Q) (next := wpAny P .any ops Q fuel (listed.setIfInBounds i true)) (fun a' w' ρ' hr' => by
      have hD : (fun j => (listed.setIfInBounds i true).getD j false) = addD (fun j => listed.getD j false) i := by
        funext j
        unfold addD
        cases hb : Nat.beq i j with
        | true => have := Nat.eq_of_beq_eq_true hb; subst this; simp [hil]
        | false =>
          have hne : i ≠ j := fun e => by subst e; rw [Nat.beq_refl] at hb; cases hb
          simp [Array.getElem?_setIfInBounds_ne hne]
      refine ih _ a' w' ρ' (by simpa using hsz) ?_ ?_ ?_
      · rw [hD]
        intro j oj hoj hj e hem hb
        unfold addD at hj ⊢
        cases hbq : Nat.beq i j with
        | true =>
          have := Nat.eq_of_beq_eq_true hbq; subst this
          rw [ho] at hoj; injection hoj with hoj; subst hoj
          have := hready e hem hb
          simp only at this ⊢
          rw [this]; simp
        | false =>
          rw [hbq, Bool.false_or] at hj
          have := hcl j oj hoj hj e hem hb
          simp only at this ⊢
          rw [this]; simp
      · have hcs : cnt (listed.setIfInBounds i true).toList + 1 = cnt listed.toList := by
          rw [Array.toList_setIfInBounds]
          refine cnt_set _ _ ?_
          simpa [Array.getD, hil] using h1
        omega
      · rw [hD]
        refine hr'.weaken (fun t y hly => by rw [← hlook t]; exact hly) (fun t y hly => ?_) ?_
        · have : ((({ (stD l s fun j => listed.getD j false) with heap := r'.heap } : St)).put x.o.dst x.g r'.val).heap = r'.heap := by unfold St.put; split <;> rfl
          rw [this, hheap]; exact hly
        · unfold St.put; split <;> rfl)
    unfold wpOp
    simp only [ho]
    cases hq' : Region.wanted x.o (yielded ops a.tmps) with
    | true => rw [hq'] at hw; simp only [if_true] at hw ⊢; exact .inl hw
    | false => rw [hq'] at hw; simpa using hw

theorem WP.regionAny {tb : Tab} (hT : TabOk P tb) {id : Nat} {ops : Array Oper} {hs : List (Nat × Hint)} {s s' : St} {c : List Prop} {q : List EQ} {Q : Exit → St → Prop}
    (hr : anyRun P tb ops hs s = some (s', c, q)) (hc : AllC c) (he : q.map Prod.fst = q.map Prod.snd) (hq : Q .normal s') : WP P W A K (.region id ops true) s Q := by
  intro a w ρ h
  unfold anyRun at hr
  split at hr
  · rename_i l hl
    simp only [Option.map_eq_some_iff] at hr
    obtain ⟨q', hq', hr⟩ := hr
    injection hr with e1 e2
    injection e2 with e2 e3
    subst e1; subst e2; subst e3
    refine wp_region_any hT.mixed ?_
    have hf : ∀ j, (Array.replicate ops.size false).getD j false = false := fun j => by
      by_cases hj : j < ops.size <;> simp [Array.getD, hj]
    refine any_wp (s := s) hT hl hq' he hc (Q := fun e a' w' => ∃ s' ρ', Q e s' ∧ Rel W A K s' a' w' ρ') (fun a' w' ρ' hr' => ⟨_, ρ', hq, hr'⟩) ops.size _ a _ ρ (by simp) ?_ ?_ ?_
    · intro j o ho hj; simp only [hf] at hj; cases hj
    · simp [cnt_replicate]
    · have : stD l s (fun j => (Array.replicate ops.size false).getD j false) = s := by
        unfold stD
        rw [envD_none _ _ _ (fun k _ => hf _), hpD_none _ _ _ (fun k _ => hf _)]
      rw [this]
      exact h.drawn _
  · cases hr
end
end Go.Abs
