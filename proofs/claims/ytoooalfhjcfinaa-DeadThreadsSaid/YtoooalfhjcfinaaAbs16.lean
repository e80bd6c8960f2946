import Derived.Test.YtoooalfhjcfinaaAbs23
namespace Go.Abs
set_option linter.unusedVariables false
set_option linter.unusedSimpArgs false
variable {P : Program}

/-! ### Through code, up to where something is to be said -/
inductive KI where
  | code (c : Code)
  | blk (id : Nat)

inductive Stop : Type 1
  | at (c : Code) (k : List KI) (s : St)
  | out (e : Exit) (s : St)

section
variable {W : World} {A K : Nat → Prop}

/-- What is to be shown behind code, at an exit, where k is still to come. -/
def WPK (P : Program) (W : World) (A K : Nat → Prop) (R : Exit → St → Prop) : List KI → Exit → St → Prop
  | [], e, s => R e s
  | .code c :: k, e, s => match e with
    | .normal => WP P W A K c s (WPK P W A K R k)
    | e => WPK P W A K R k e s
  | .blk id :: k, e, s => match e with
    | .exit id' => if id' = id then WPK P W A K R k .normal s else WPK P W A K R k (.exit id') s
    | e => WPK P W A K R k e s

def StopP (P : Program) (W : World) (A K : Nat → Prop) (R : Exit → St → Prop) : Stop → Prop
  | .at c k s => WP P W A K c s (WPK P W A K R k)
  | .out e s => R e s

/-- Where an exit leads. -/
def popK : List KI → Exit → Option (Code × List KI)
  | [], _ => none
  | .code c :: k, .normal => some (c, k)
  | .code _ :: k, e => popK k e
  | .blk id :: k, .exit id' => bif Nat.beq id' id then popK k .normal else popK k (.exit id')
  | .blk _ :: k, e => popK k e

/-- The exit itself, if nothing takes it up. -/
def endK : List KI → Exit → Exit
  | [], e => e
  | .code _ :: k, e => endK k e
  | .blk id :: k, .exit id' => bif Nat.beq id' id then endK k .normal else endK k (.exit id')
  | .blk _ :: k, e => endK k e

def leave (k : List KI) (e : Exit) (s : St) : Stop :=
  match popK k e with
  | some (c, k') => .at c k' s
  | none => .out (endK k e) s

theorem leave_sound {R : Exit → St → Prop} : ∀ (k : List KI) (e : Exit) (s : St), StopP P W A K R (leave k e s) → WPK P W A K R k e s
  | [], e, s, h => h
  | .code c :: k, e, s, h => by
    cases e with
    | normal => exact h
    | exit i => exact leave_sound k (.exit i) s h
    | goto i => exact leave_sound k (.goto i) s h
    | ret => exact leave_sound k .ret s h
    | panic i => exact leave_sound k (.panic i) s h
    | outgrown => exact leave_sound k .outgrown s h
  | .blk id :: k, e, s, h => by
    cases e with
    | normal => exact leave_sound k .normal s h
    | exit i =>
      simp only [WPK]
      unfold leave at h
      simp only [popK, endK] at h
      cases hb : Nat.beq i id with
      | true =>
        have := Nat.eq_of_beq_eq_true hb
        rw [if_pos this]
        rw [hb] at h
        exact leave_sound k .normal s h
      | false =>
        have : i ≠ id := fun e => by subst e; rw [Nat.beq_refl] at hb; cases hb
        rw [if_neg this]
        rw [hb] at h
        exact leave_sound k (.exit i) s h
    | goto i => exact leave_sound k (.goto i) s h
    | ret => exact leave_sound k .ret s h
    | panic i => exact leave_sound k (.panic i) s h
    | outgrown => exact leave_sound k .outgrown s h

/-- What is said of the operations of a region, by its number. -/
def hintsOf (id : Nat) : List (Nat × List (Nat × Hint)) → List (Nat × Hint)
  | [] => []
  | (k, h) :: r => bif Nat.beq k id then h else hintsOf id r

/-- On through code: n steps at most, and not into the region 'til'. -/
def adv (P : Program) (tb : Tab) (hs : List (Nat × List (Nat × Hint))) (til : Nat) : Nat → Stop → Option (Stop × List Prop × List EQ)
  | 0, st => some (st, [], [])
  | _ + 1, .out e s => some (.out e s, [], [])
  | n + 1, .at c k s =>
    match c with
    | .seq a b => adv P tb hs til n (.at a (.code b :: k) s)
    | .skip => adv P tb hs til n (leave k .normal s)
    | .label _ => adv P tb hs til n (leave k .normal s)
    | .exit id => adv P tb hs til n (leave k (.exit id) s)
    | .ret => adv P tb hs til n (leave k .ret s)
    | .block id c => adv P tb hs til n (.at c (.blk id :: k) s)
    | .region id ops draw =>
      bif Nat.beq id til then some (.at c k s, [], []) else
      bif draw then
        match anyRun P tb ops (hintsOf id hs) s with
        | some (s', q, w) => (adv P tb hs til n (leave k .normal s')).map fun x => (x.1, q ++ x.2.1, w ++ x.2.2)
        | none => none
      else
        match regRun P tb ops (hintsOf id hs) 0 ops.toList s with
        | some (s', q) => (adv P tb hs til n (leave k .normal s')).map fun x => (x.1, q ++ x.2.1, x.2.2)
        | none => none
    | c => some (.at c k s, [], [])

theorem adv_sound {tb : Tab} (hT : TabOk P tb) {hs : List (Nat × List (Nat × Hint))} {til : Nat} {R : Exit → St → Prop} : ∀ (n : Nat) (st st' : Stop) (q : List Prop) (v : List EQ), adv P tb hs til n st = some (st', q, v) → AllC q → v.map Prod.fst = v.map Prod.snd → StopP P W A K R st' → StopP P W A K R st
  | 0, st, st', q, v, h, _, _, hp => by simp [adv] at h; obtain ⟨rfl, _⟩ := h; exact hp
  | n + 1, .out e s, st', q, v, h, _, _, hp => by simp [adv] at h; obtain ⟨rfl, _⟩ := h; exact hp
  | n + 1, .at c k s, st', q, v, h, hq, hv, hp => by
    cases c with
    | seq a b =>
      have := adv_sound hT n _ st' q v h hq hv hp
      refine WP.seq (WP.mono this fun e s' hw => ?_)
      cases e <;> exact hw
    | skip => exact WP.skip (leave_sound k _ s (adv_sound hT n _ st' q v h hq hv hp))
    | label l => exact WP.label (leave_sound k _ s (adv_sound hT n _ st' q v h hq hv hp))
    | exit id => exact WP.exit (leave_sound k _ s (adv_sound hT n _ st' q v h hq hv hp))
    | ret => exact WP.ret (leave_sound k _ s (adv_sound hT n _ st' q v h hq hv hp))
    | block id c =>
      have := adv_sound hT n _ st' q v h hq hv hp
      refine WP.block (WP.mono this fun e s' hw => ?_)
      cases e <;> exact hw
    | region id ops draw =>
      simp only [adv] at h
      cases hb : Nat.beq id til with
      | true => rw [hb] at h; simp at h; obtain ⟨rfl, _⟩ := h; exact hp
      | false =>
        rw [hb] at h
        simp only [cond_false] at h
        cases draw with
        | true =>
          simp only [cond_true] at h
          split at h
          · rename_i s1 q1 w1 hr
            simp only [Option.map_eq_some_iff] at h
            obtain ⟨⟨st2, q2, w2⟩, h2, h⟩ := h
            injection h with e1 e2
            injection e2 with e2 e3
            subst e1; subst e2; subst e3
            obtain ⟨hq1, hq2⟩ := AllC_append.1 hq
            simp only [List.map_append] at hv
            obtain ⟨hv1, hv2⟩ := List.append_inj hv (by simp)
            exact WP.regionAny hT hr hq1 hv1 (leave_sound k _ s1 (adv_sound hT n _ st2 q2 w2 h2 hq2 hv2 hp))
          · cases h
        | false =>
          simp only [cond_false] at h
          split at h
          · rename_i s1 q1 hr
            simp only [Option.map_eq_some_iff] at h
            obtain ⟨⟨st2, q2, w2⟩, h2, h⟩ := h
            injection h with e1 e2
            injection e2 with e2 e3
            subst e1; subst e2; subst e3
            obtain ⟨hq1, hq2⟩ := AllC_append.1 hq
            exact WP.region hT hr hq1 (leave_sound k _ s1 (adv_sound hT n _ st2 q2 w2 h2 hq2 hv hp))
          · cases h
    | cond => simp [adv] at h; obtain ⟨rfl, _⟩ := h; exact hp
    | loop => simp [adv] at h; obtain ⟨rfl, _⟩ := h; exact hp
    | rangeFunc => simp [adv] at h; obtain ⟨rfl, _⟩ := h; exact hp
    | scope => simp [adv] at h; obtain ⟨rfl, _⟩ := h; exact hp
    | goto => simp [adv] at h; obtain ⟨rfl, _⟩ := h; exact hp
    | refuse => simp [adv] at h; obtain ⟨rfl, _⟩ := h; exact hp

abbrev AdvR := Option (Stop × List Prop × List EQ)
def stopOf : AdvR → Stop
  | some (s, _) => s
  | none => .out .outgrown ⟨[], [], 0⟩
def condsOf : AdvR → List Prop
  | some (_, q, _) => q
  | none => [False]
def eqsL : AdvR → List (AT × List Prop)
  | some (_, _, v) => v.map Prod.fst
  | none => []
def eqsR : AdvR → List (AT × List Prop)
  | some (_, _, v) => v.map Prod.snd
  | none => []

/-- On to where something is to be said; no region draws its order on the way, or every order answers alike. -/
theorem StopP.advd {tb : Tab} (hT : TabOk P tb) (hs : List (Nat × List (Nat × Hint))) (til n : Nat) {R : Exit → St → Prop} {st : Stop} {q : List Prop} (hq : condsOf (adv P tb hs til n st) = q) (hv : eqsL (adv P tb hs til n st) = eqsR (adv P tb hs til n st)) (hc : AllC q)
    (h : StopP P W A K R (stopOf (adv P tb hs til n st))) : StopP P W A K R st := by
  cases ha : Abs.adv P tb hs til n st with
  | none => rw [ha] at hq; subst hq; exact hc.1.elim
  | some x =>
    obtain ⟨st', q', v⟩ := x
    rw [ha] at hq h hv
    subst hq
    exact adv_sound hT n st st' _ v ha hc hv h

def thenOf : Stop → Stop
  | .at (.cond _ x _) k s => .at x k s
  | st => st
def elseOf : Stop → Stop
  | .at (.cond _ _ y) k s => .at y k s
  | st => st
def boolOf : Stop → Option Bool
  | .at (.cond c _ _) _ s => match opT s c with
    | some (.yes, .v false [.t (.lit (.bool b))]) => some b
    | _ => none
  | _ => none

theorem StopP.cond {R : Exit → St → Prop} {st : Stop} {b : Bool} (hb : boolOf st = some b) (ht : b = true → StopP P W A K R (thenOf st)) (hf : b = false → StopP P W A K R (elseOf st)) : StopP P W A K R st := by
  unfold boolOf at hb
  split at hb
  · split at hb
    · rename_i hc
      injection hb with hb; subst hb
      exact WP.cond hc ht hf
    · cases hb
  · cases hb

/-- The same state, told otherwise. -/
def withSt (s : St) : Stop → Stop
  | .at c k _ => .at c k s
  | st => st

/-- The code of a loop's round, and what stands behind the loop. -/
def bodyOf : Stop → Code
  | .at (.loop c) _ _ => c
  | _ => .skip
def restOf : Stop → List KI
  | .at _ k _ => k
  | _ => []
def codeOf : Stop → Code
  | .at c _ _ => c
  | _ => .skip
def stateOf : Stop → St
  | .at _ _ s => s
  | .out _ s => s
def isAt : Stop → Bool
  | .at .. => true
  | _ => false
def isLoop : Stop → Bool
  | .at (.loop _) _ _ => true
  | _ => false

theorem WPR.mono {c : Code} {Q Q' : Exit → St → Prop} (hq : ∀ e s', Q e s' → Q' e s') : ∀ (m : Nat) (s : St), WPR P W A K c Q m s → WPR P W A K c Q' m s
  | 0, _, h => h
  | m + 1, s, h => WP.mono h fun e s2 h2 => by
    cases e with
    | normal => exact WPR.mono hq m s2 h2
    | _ => exact hq _ _ h2

theorem StopP.chg (l : List Chg) {R : Exit → St → Prop} {st : Stop} {s' : St} (hs : chgs l (stateOf st) = some s') (h : StopP P W A K R (withSt s' st)) (ha : isAt st = true) : StopP P W A K R st := by
  cases st with
  | «at» c k s => exact fun a w ρ hr => let ⟨ρ', hr'⟩ := hr.chgs hs; h a w ρ' hr'
  | out e s => cases ha

/-- It comes to exit e, and a state that is J in other words. -/
def Out (e : Exit) (J : St) : Exit → St → Prop := fun e' s' => e' = e ∧ ∃ l, chgs l s' = some J

theorem out_weaken {R : Exit → St → Prop} {k : List KI} {e : Exit} {J : St} {c : Code} {s : St} (h : WP P W A K c s (Out e J)) (h2 : StopP P W A K R (leave k e J)) : WP P W A K c s (WPK P W A K R k) := by
  intro a w ρ hr
  refine wp_mono (h a w ρ hr) ?_
  rintro e' a' w' ⟨s', ρ', ⟨rfl, l, hj⟩, hr'⟩
  obtain ⟨ρ2, hr2⟩ := hr'.chgs hj
  exact ⟨J, ρ2, leave_sound (R := R) k _ _ h2, hr2⟩

/-- A loop: n rounds at most, from the state s on; it is left by e, with J. -/
theorem StopP.loop {R : Exit → St → Prop} {st : Stop} (hl : isLoop st = true) (l : List Chg) {s : St} (hs : chgs l (stateOf st) = some s) {e : Exit} {J : St} (n : Nat) (h : WPR P W A K (bodyOf st) (Out e J) n s)
    (h2 : StopP P W A K R (leave (restOf st) e J)) : StopP P W A K R st := by
  cases st with
  | out e s => cases hl
  | «at» c k s0 =>
    cases c <;> first | (cases hl; done) | skip
    intro a w ρ hr
    obtain ⟨ρ', hr'⟩ := hr.chgs hs
    exact out_weaken (WP.loop n h) h2 a w ρ' hr'

def bareOf : Stop → Stop
  | .at c _ s => .at c [] s
  | st => st

/-- A piece of code, by itself: it comes to e, with J. -/
theorem StopP.cut {R : Exit → St → Prop} {st : Stop} (ha : isAt st = true) {e : Exit} {J : St} (h : StopP P W A K (Out e J) (bareOf st)) (h2 : StopP P W A K R (leave (restOf st) e J)) : StopP P W A K R st := by
  cases st with
  | out e s => cases ha
  | «at» c k s => exact out_weaken h h2

def exitOf : Stop → Option Exit
  | .out e _ => some e
  | _ => none

theorem StopP.out {R : Exit → St → Prop} {st : Stop} (e : Exit) (he : exitOf st = some e) (h : R e (stateOf st)) : StopP P W A K R st := by
  cases st with
  | «at» => cases he
  | out e' s => injection he with he; subst he; exact h

/-- One round. -/
theorem WPR.round {c : Code} {Q : Exit → St → Prop} {n : Nat} {s : St} (h : StopP P W A K (fun e s' => match e with | .normal => WPR P W A K c Q n s' | e => Q e s') (.at c [] s)) : WPR P W A K c Q (n + 1) s :=
  WP.mono h fun _ _ h => h

/-- A state told otherwise. -/
theorem WPR.chg {c : Code} {Q : Exit → St → Prop} {n : Nat} {s s' : St} (l : List Chg) (hs : chgs l s = some s') (h : WPR P W A K c Q n s') : WPR P W A K c Q n s := by
  cases n with
  | zero => exact h
  | succ n => exact fun a w ρ hr => let ⟨ρ', hr'⟩ := hr.chgs hs; h a w ρ' hr'

theorem StopP.condT {R : Exit → St → Prop} {st : Stop} (hb : boolOf st = some true) (h : StopP P W A K R (thenOf st)) : StopP P W A K R st :=
  StopP.cond hb (fun _ => h) (fun h => by cases h)
theorem StopP.condF {R : Exit → St → Prop} {st : Stop} (hb : boolOf st = some false) (h : StopP P W A K R (elseOf st)) : StopP P W A K R st :=
  StopP.cond hb (fun h => by cases h) (fun _ => h)

/-! ### Functions -/
def resOne (tb : Tab) (s : St) : ResultVar → Option (Bool × List Cell)
  | .tmp t => match look t s.env with
    | some (.yes, .v b cs) => some (b, cs)
    | _ => none
  | .cell p ty => match look p s.env, look ty tb.lay with
    | some (.yes, .v false [.ptr id _ j]), some (n, b) => match s.H id with
      | some (.box _ cells) => if ((cells.drop j).take n).length = n ∧ (b || Nat.beq n 1) = true then some (b, (cells.drop j).take n) else none
      | _ => none
    | _, _ => none

def resAll (tb : Tab) (s : St) : List ResultVar → Option (List (Bool × List Cell))
  | [] => some []
  | x :: r => match resOne tb s x, resAll tb s r with
    | some y, some ys => some (y :: ys)
    | _, _ => none

def resOf (tb : Tab) (s : St) (rs : List ResultVar) : Option AT :=
  match resAll tb s rs with
  | some [(b, cs)] => some (.v b cs)
  | some ys => some (.tp ys)
  | none => none

def resSem (tmps : Array Value) : ResultVar → Sem Value
  | .tmp t => pure (tmps.getD t undef)
  | .cell p t => do loadVar t (← asAddr (tmps.getD p undef))

theorem resOne_run {tb : Tab} (hT : TabOk P tb) {s : St} {a : Act} {w : World} {ρ : Nat → Value} (h : Rel W A K s a w ρ) {x : ResultVar} {y : Bool × List Cell} (hx : resOne tb s x = some y) :
    ∃ v, (resSem a.tmps x).run P w = .ok v w ∧ VR (s.O A ρ) ρ s.H w v y.1 y.2 := by
  cases x with
  | tmp t =>
    simp only [resOne] at hx
    split at hx
    · rename_i b cs hl
      injection hx with hx; subst hx
      obtain ⟨v, hv, hr, _⟩ := h.env t _ _ hl
      refine ⟨v, ?_, hr rfl⟩
      simp [resSem, Array.getD_eq_getD_getElem?, hv]
    · cases hx
  | cell p ty =>
    simp only [resOne] at hx
    split at hx
    · rename_i id i j n b hl hlay
      split at hx
      · rename_i ty' cells hid
        split at hx
        · rename_i hcond
          injection hx with hx; subst hx
          obtain ⟨v, hv, hr, _⟩ := h.env p _ _ hl
          obtain ⟨c, hcc, hc⟩ := hr rfl
          simp at hcc; subst hcc
          obtain ⟨u, hu, hvr⟩ := load_box h (hT.lay hlay) hid hc hcond.1 (fun e => by have := hcond.2; rw [e] at this; simpa using this)
          refine ⟨u, ?_, hvr⟩
          obtain ⟨g, vs, hve, _⟩ := box_at h hid hc
          subst hve
          have : a.tmps.getD p undef = .pointer (some ⟨g, j, none⟩) := by simp [Array.getD_eq_getD_getElem?, hv]
          simp only [resSem]
          rw [this]
          simpa [asAddr, Instr.loadAt, Instr.sureAddr] using hu
        · cases hx
      · cases hx
    · cases hx

theorem resAll_run {tb : Tab} (hT : TabOk P tb) {s : St} {a : Act} {w : World} {ρ : Nat → Value} (h : Rel W A K s a w ρ) : ∀ {l : List ResultVar} {ys : List (Bool × List Cell)}, resAll tb s l = some ys →
    ∃ vs : List Value, (l.mapM (resSem a.tmps)).run P w = .ok vs w ∧ vs.length = ys.length ∧ ∀ (k : Nat) u x, vs[k]? = some u → ys[k]? = some x → VR (s.O A ρ) ρ s.H w u x.1 x.2
  | [], ys, hx => by simp [resAll] at hx; subst hx; exact ⟨[], by simp, rfl, by simp⟩
  | x :: l, ys, hx => by
    simp only [resAll] at hx
    split at hx
    · rename_i y ys' h1 h2
      injection hx with hx; subst hx
      obtain ⟨v, hv, hr⟩ := resOne_run hT h h1
      obtain ⟨vs, hvs, hl, hrs⟩ := resAll_run hT h h2
      refine ⟨v :: vs, ?_, by simp [hl], fun k u x hu hx => ?_⟩
      · rw [List.mapM_cons, Sem.run_bind, hv, Result.andThen_ok, Sem.run_bind, hvs]; rfl
      · cases k with
        | zero => simp at hu hx; subst hu; subst hx; exact hr
        | succ k => simp at hu hx; exact hrs k u x hu hx
    · cases hx

theorem resOf_run {tb : Tab} (hT : TabOk P tb) {s : St} {a : Act} {w : World} {ρ : Nat → Value} (h : Rel W A K s a w ρ) {fn : Func} {res : AT} (hx : resOf tb s fn.results.toList = some res) :
    ∃ v, (results fn a.tmps).run P w = .ok v w ∧ AR (s.O A ρ) ρ s.H w v res := by
  unfold resOf at hx
  have key : ∀ {ys}, resAll tb s fn.results.toList = some ys → ∃ vs : List Value, (results fn a.tmps).run P w = .ok (match vs with | [v] => v | vs => .tuple vs.toArray) w ∧ vs.length = ys.length ∧ ∀ (k : Nat) u x, vs[k]? = some u → ys[k]? = some x → VR (s.O A ρ) ρ s.H w u x.1 x.2 := by
    intro ys hys
    obtain ⟨vs, hvs, hl, hr⟩ := resAll_run hT h hys
    refine ⟨vs, ?_, hl, hr⟩
    have h0 : results fn a.tmps = (do let vs ← fn.results.mapM (resSem a.tmps); pure (if h : vs.size = 1 then vs[0] else .tuple vs)) := by
      unfold results
      congr 1
    rw [h0, Sem.run_bind, Array.mapM_eq_mapM_toList, Sem.run_map, hvs]
    simp only [Result.andThen_ok]
    match vs with
    | [] => rfl
    | [v] => rfl
    | v :: u :: r => simp
  split at hx
  · rename_i b cs hys
    injection hx with hx; subst hx
    obtain ⟨vs, hrun, hl, hr⟩ := key hys
    match vs, hl with
    | [v], _ => exact ⟨v, hrun, hr 0 v _ rfl rfl⟩
  · rename_i ys hne hys
    injection hx with hx; subst hx
    obtain ⟨vs, hrun, hl, hr⟩ := key hys
    refine ⟨.tuple vs.toArray, ?_, vs, rfl, hl, hr⟩
    rw [hrun]
    match vs, hl with
    | [v], hl =>
      match ys, hl with
      | [y], _ => exact absurd rfl (hne y.1 y.2)
    | [], _ => rfl
    | _ :: _ :: _, _ => rfl
  · cases hx

/-- The state in which a function's body begins. -/
def entryEnv : Nat → List AT → List (Nat × Gd × AT)
  | _, [] => []
  | i, x :: r => (i, .yes, x) :: entryEnv (i + 1) r

theorem entryEnv_look : ∀ (i : Nat) (xs : List AT) (t : Nat) (g : Gd) (x : AT), look t (entryEnv i xs) = some (g, x) → i ≤ t ∧ xs[t - i]? = some x ∧ g = .yes
  | _, [], t, g, x, h => by simp [entryEnv, look] at h
  | i, y :: r, t, g, x, h => by
    simp only [entryEnv, look] at h
    cases hb : Nat.beq i t with
    | true =>
      have := Nat.eq_of_beq_eq_true hb; subst this
      rw [hb] at h; simp at h; obtain ⟨rfl, rfl⟩ := h
      simp
    | false =>
      rw [hb] at h; simp at h
      obtain ⟨h1, h2, h3⟩ := entryEnv_look (i + 1) r t g x h
      refine ⟨by omega, ?_, h3⟩
      rw [show t - i = (t - (i + 1)) + 1 by omega]
      simpa using h2

def entry (fn : Func) (H : List (Nat × Obj)) (args : List AT) : St := ⟨entryEnv 0 args, H, fn.ntmps⟩

def bodyAt (fn : Func) : Code := fn.body.getD .skip

/-- What a function's body must come to. -/
def Ret (tb : Tab) (fn : Func) (H' : List (Nat × Obj)) (res : AT) : Exit → St → Prop :=
  fun e s' => (e = .normal ∨ e = .ret) ∧ ∃ l s2 ids, chgs l s' = some s2 ∧ resOf tb s2 fn.results.toList = some res ∧ pick ids s2.heap = H'

/-- A contract, out of a walk through the body. -/
theorem AC.intro {tb : Tab} (hT : TabOk P tb) {f : FuncId} {fn : Func} (hf : P.funcs[f]? = some fn) (hb : fn.body.isSome = true) {H : List (Nat × Obj)} {args : List AT} (hn : Nat.ble args.length fn.ntmps = true) {H' : List (Nat × Obj)} {res : AT}
    (h : ∀ W A K, StopP P W A K (Ret tb fn H' res) (.at (bodyAt fn) [] (entry fn H args))) : AC P f H args H' res := by
  intro W A ρ vs hA hmr hlow hargs
  obtain ⟨c, hc⟩ := Option.isSome_iff_exists.1 hb
  have hbody : bodyAt fn = c := by simp [bodyAt, hc]
  have hle : args.length ≤ fn.ntmps := by simpa [Nat.ble_eq] using hn
  have hvl := hargs.1
  refine calls_of_wp hf hc ?_
  have hrel : Rel W A (fun b => b < W.heap.size ∧ ¬ owned ρ (look · H) b) (entry fn H args) { tmps := vs.toArray ++ Array.replicate (fn.ntmps - vs.toArray.size) undef, defers := [] } W ρ := by
    refine ⟨Ext.refl _ W, fun b hb => hb.1, hA, hmr, fun id o g ho hg => ⟨fun hk => hk.2 ⟨id, o, ho, hg⟩, hlow id o g ho hg⟩, fun t g x hl => ?_, rfl, ?_⟩
    · obtain ⟨_, h2, rfl⟩ := entryEnv_look 0 args t g x hl
      simp only [Nat.sub_zero] at h2
      have hlt : t < vs.length := by rw [hvl]; exact (List.getElem?_eq_some_iff.1 h2).1
      refine ⟨vs[t], ?_, fun _ => hargs.2 t _ _ (List.getElem?_eq_getElem hlt) h2, fun hf => by cases hf⟩
      rw [Array.getElem?_append_left (by simpa using hlt)]
      simp [hlt]
    · simp [entry]; omega
  have hw := h W A (fun b => b < W.heap.size ∧ ¬ owned ρ (look · H) b) _ W ρ hrel
  rw [hbody] at hw
  refine wp_mono hw ?_
  rintro e a' w' ⟨s0, ρ0, hR, hr0⟩
  obtain ⟨he, l, s', ids, hl, hres, hids⟩ := (show _ ∧ _ from hR)
  obtain ⟨ρ', hr'⟩ := hr0.chgs hl
  obtain ⟨v, hv, har⟩ := resOf_run hT hr' hres
  have hsub : ∀ t x, look t H' = some x → look t s'.heap = some x := fun t x hl => look_pick ids _ (by rw [hids]; exact hl)
  have hO : ∀ b, b < w'.heap.size → (A b ∨ owned ρ' (look · H') b) → s'.O A ρ' b := by
    rintro b _ (hA | ⟨id, o, ho, hk⟩)
    · exact .inl hA
    · exact .inr ⟨id, o, hsub id o ho, hk⟩
  have hw2 := hr'.weaken (s' := ⟨[], H', s'.n⟩) (fun t x hl => by simp [look] at hl) hsub rfl
  have fin : a'.defers = [] ∧ ∃ v, (results fn a'.tmps).run P w' = .ok v w' ∧ ∃ ρ' v', Ending.returned v = .returned v' ∧ Ext (fun b => b < W.heap.size ∧ ¬ owned ρ (look · H) b) W w' ∧ MR A ρ' (look · H') w' ∧
      (∀ id o g, look id H' = some o → blk (ρ' id) = some g → g < w'.heap.size ∧ (owned ρ (look · H) g ∨ W.heap.size ≤ g)) ∧ AR (fun b => A b ∨ owned ρ' (look · H') b) ρ' (look · H') w' v' res := by
    refine ⟨hr'.defers, v, hv, ρ', v, rfl, hr'.ext, hw2.mr, fun id o g ho hg => ?_, har.mono (fun _ _ _ => rfl) hO (fun id o' _ ho => ⟨o', hsub id o' ho, rfl, rfl⟩)⟩
    obtain ⟨q1, q2⟩ := hr'.low id o g (hsub id o ho) hg
    refine ⟨q2, ?_⟩
    by_cases hq : owned ρ (look · H) g
    · exact .inl hq
    · exact .inr (Nat.le_of_not_lt fun hlt => q1 ⟨hlt, hq⟩)
  rcases he with rfl | rfl <;> exact fin

end
end Go.Abs
