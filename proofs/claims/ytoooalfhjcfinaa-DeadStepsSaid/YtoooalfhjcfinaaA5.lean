/- A part of the proofs of this seat: what functions of the program compute, and what follows from it; without conditions. -/
import Derived.Test.YtoooalfhjcfinaaA4
import Derived.Test.YtoooalfhjcfinaaA3

namespace Go.Abs
set_option linter.unusedVariables false
set_option linter.unusedSimpArgs false
variable {P : Program}

/-! ### A state told in other words -/
def St.ids (s : St) : List Nat := s.env.flatMap (fun x => x.2.2.ids) ++ s.heap.flatMap fun x => x.2.ids

/-- Names may be turned so: those of memory that is told stay apart, and no other one becomes one of those. -/
def renOk (f : Nat → Nat) (s : St) : Bool :=
  distinctL (s.heap.map fun x => f x.1) && s.ids.all fun id => (s.heap.any fun x => Nat.beq x.1 id) || !(s.heap.any fun x => Nat.beq (f x.1) (f id))

def St.renS (f : Nat → Nat) (s : St) : Option St :=
  bif renOk f s then some ⟨s.env.map fun x => (x.1, x.2.1, x.2.2.ren f), heapRen f s.heap, s.n⟩ else none

theorem look_any {α : Type 1} {k : Nat} {l : List (Nat × α)} (h : l.any (fun x => Nat.beq x.1 k) = true) : ∃ o, look k l = some o := by
  induction l with
  | nil => simp at h
  | cons y r ih =>
    obtain ⟨u, x⟩ := y
    simp only [List.any_cons, Bool.or_eq_true] at h
    simp only [look]
    cases hb : Nat.beq u k with
    | true => exact ⟨x, rfl⟩
    | false => rw [hb] at h; simp at h; obtain ⟨o, ho⟩ := ih (by simpa using h); exact ⟨o, by simpa using ho⟩

section
variable {W : World} {A K : Nat → Prop} {s s' : St} {a : Act} {w : World} {ρ : Nat → Value}

theorem Rel.renS (h : Rel W A K s a w ρ) {f : Nat → Nat} (hs : s.renS f = some s') : ∃ ρ', Rel W A K s' a w ρ' := by
  unfold St.renS at hs
  cases hok : renOk f s with
  | false => rw [hok] at hs; cases hs
  | true =>
  rw [hok] at hs
  simp only [cond_true, Option.some.injEq] at hs
  subst hs
  simp only [renOk, Bool.and_eq_true, List.all_eq_true] at hok
  obtain ⟨hdis, hids⟩ := hok
  generalize hρ : (fun k => match srcOf f k s.heap with | some i => ρ i | none => ρ k) = ρ'
  have hρs : ∀ {k i}, srcOf f k s.heap = some i → ρ' k = ρ i := fun hk => by rw [← hρ]; simp [hk]
  have hin : ∀ {k o'}, look k (heapRen f s.heap) = some o' → ∃ i o, srcOf f k s.heap = some i ∧ f i = k ∧ look i s.heap = some o ∧ o' = o.ren f := by
    intro k o' hk
    cases hq : srcOf f k s.heap with
    | none => rw [src_none hq] at hk; cases hk
    | some i =>
      obtain ⟨h1, o, h2, h3⟩ := src_some hq
      rw [h3] at hk; injection hk with hk
      exact ⟨i, o, rfl, h1, h2, hk.symm⟩
  have hid : ∀ id o', id ∈ s.ids → look (f id) (heapRen f s.heap) = some o' → ∃ o, s.H id = some o ∧ o.es = o'.es ∧ ρ' (f id) = ρ id := by
    intro id o' hm hk
    have h1 := hids id hm
    simp only [Bool.or_eq_true, Bool.not_eq_true'] at h1
    rcases h1 with h1 | h1
    · obtain ⟨o, ho⟩ := look_any h1
      have hs := src_key hdis ho
      obtain ⟨i, o2, h2, h3, h4, h5⟩ := hin hk
      rw [hs] at h2; injection h2 with h2; subst h2
      rw [ho] at h4; injection h4 with h4; subst h4
      exact ⟨o, ho, by rw [h5, Obj.ren_es], hρs hs⟩
    · obtain ⟨i, o2, h2, h3, h4, h5⟩ := hin hk
      have : s.heap.any (fun x => Nat.beq (f x.1) (f id)) = true := by
        rw [List.any_eq_true]
        exact ⟨(i, o2), look_mem h4, by simp only [h3]; exact Nat.beq_refl _⟩
      rw [this] at h1; cases h1
  have hOO : ∀ b, b < w.heap.size → (A b ∨ owned ρ' (look · (heapRen f s.heap)) b) → s.O A ρ b := by
    rintro b _ (hA | ⟨k, o, hk, hb⟩)
    · exact .inl hA
    · obtain ⟨i, o2, h2, h3, h4, h5⟩ := hin hk
      rw [hρs h2] at hb
      exact .inr ⟨i, o2, h4, hb⟩
  refine ⟨ρ', h.ext, h.kl, h.al, ⟨fun k o' hk => ?_, fun i j x y g hi hj hbi hbj => ?_, fun k o' g hk hb => ?_⟩, fun k o' g hk hb => ?_, fun t g x hl => ?_, h.defers, h.size⟩
  · obtain ⟨i, o, h2, h3, h4, h5⟩ := hin hk
    subst h5
    have hor := h.mr.obj i o h4
    cases o with
    | box ty cells =>
      obtain ⟨g, vs, hp, hg, hc⟩ := hor
      refine ⟨g, vs, (hρs h2).trans hp, hg, hc.rename hOO fun id o' hh hk => hid id o' ?_ hk⟩
      exact List.mem_append_right _ (List.mem_flatMap.2 ⟨_, look_mem h4, Obj.ids_has hh⟩)
    | rows ty es enc z xs =>
      obtain ⟨vs, hown, hes, hc⟩ := hor
      exact ⟨vs, by rw [hρs h2]; exact hown, hes, hc.mono (fun _ _ _ => rfl) hOO⟩
    | ghost vs cells =>
      refine ⟨by rw [hρs h2]; exact hor.1, hor.2.rename hOO fun id o' hh hk => hid id o' ?_ hk⟩
      exact List.mem_append_right _ (List.mem_flatMap.2 ⟨_, look_mem h4, Obj.ids_has hh⟩)
  · obtain ⟨i1, o1, h2, h3, h4, h5⟩ := hin hi
    obtain ⟨i2, o2, q2, q3, q4, q5⟩ := hin hj
    rw [hρs h2] at hbi; rw [hρs q2] at hbj
    have := h.mr.disj i1 i2 o1 o2 g h4 q4 hbi hbj
    subst this
    exact h3.symm.trans q3
  · obtain ⟨i, o, h2, h3, h4, h5⟩ := hin hk
    rw [hρs h2] at hb
    exact h.mr.av i o g h4 hb
  · obtain ⟨i, o, h2, h3, h4, h5⟩ := hin hk
    rw [hρs h2] at hb
    exact h.low i o g h4 hb
  · have hm : look t (s.env.map fun x => (x.1, ((fun y : Gd × AT => (y.1, y.2.ren f)) x.2))) = some (g, x) := hl
    rw [look_map (fun y : Gd × AT => (y.1, y.2.ren f))] at hm
    simp only [Option.map_eq_some_iff] at hm
    obtain ⟨⟨g', x'⟩, hl', he⟩ := hm
    injection he with e1 e2; subst e1; subst e2
    obtain ⟨v, hv, h1, h2⟩ := h.env t g' x' hl'
    refine ⟨v, hv, fun hp => (h1 hp).rename hOO fun id o' hh hk => hid id o' ?_ hk, h2⟩
    exact List.mem_append_left _ (List.mem_flatMap.2 ⟨_, look_mem hl', AT.ids_has hh⟩)

/-- A cell in a slot or in a variable, told otherwise. -/
inductive Place where
  | slot (t k : Nat)
  | box (id k : Nat)

def cellAt (s : St) : Place → Option Cell
  | .slot t k => match look t s.env with
    | some (_, .v _ cs) => cs[k]?
    | _ => none
  | .box id k => match s.H id with
    | some (.box _ cs) => cs[k]?
    | _ => none

def setAt (s : St) (c : Cell) : Place → St
  | .slot t k => match look t s.env with
    | some (g, .v ag cs) => { s with env := (t, g, .v ag (cs.set k c)) :: s.env }
    | _ => s
  | .box id k => match s.H id with
    | some (.box ty cs) => { s with heap := hset id (.box ty (cs.set k c)) s.heap }
    | _ => s

theorem CRs.set {O : Nat → Prop} {H : Nat → Option Obj} {vs : List Value} {cs : List Cell} (h : CRs O ρ H w vs cs) {k : Nat} {c c' : Cell} (hk : cs[k]? = some c) (hc : ∀ v, CR O ρ H w v c → CR O ρ H w v c') : CRs O ρ H w vs (cs.set k c') := by
  refine ⟨by simpa using h.1, fun j v d hv hd => ?_⟩
  by_cases hj : k = j
  · subst hj
    have hlt := (List.getElem?_eq_some_iff.1 hk).1
    simp [hlt] at hd
    subst hd
    exact hc v (h.2 k v c hv hk)
  · rw [List.getElem?_set_ne hj] at hd
    exact h.2 j v d hv hd

theorem Rel.setAt (h : Rel W A K s a w ρ) {p : Place} {c c' : Cell} (hp : cellAt s p = some c) (hc : ∀ v, CR (s.O A ρ) ρ s.H w v c → CR (s.O A ρ) ρ s.H w v c') : Rel W A K (setAt s c' p) a w ρ := by
  cases p with
  | slot t k =>
    simp only [cellAt] at hp
    split at hp
    · rename_i g ag cs hl
      simp only [Abs.setAt, hl]
      refine ⟨h.ext, h.kl, h.al, h.mr, h.low, fun u q y hu => ?_, h.defers, h.size⟩
      simp only [look] at hu
      cases hb : Nat.beq t u with
      | true =>
        rw [hb] at hu; simp at hu
        obtain ⟨rfl, rfl⟩ := hu
        have := Nat.eq_of_beq_eq_true hb; subst this
        obtain ⟨v, hv, h1, h2⟩ := h.env _ _ _ hl
        refine ⟨v, hv, fun hg => ?_, h2⟩
        have := h1 hg
        cases ag with
        | true => obtain ⟨vs, e, hcs⟩ := this; exact ⟨vs, e, hcs.set hp hc⟩
        | false =>
          obtain ⟨d, e, hcs⟩ := this
          subst e
          cases k with
          | zero => simp at hp; subst hp; exact ⟨c', rfl, hc v hcs⟩
          | succ k => simp at hp
      | false => rw [hb] at hu; exact h.env u q y hu
    · cases hp
  | box b k =>
    simp only [cellAt] at hp
    split at hp
    · rename_i ty cs hb
      simp only [Abs.setAt, hb]
      have hH : ∀ k', ({ s with heap := hset b (.box ty (cs.set k c')) s.heap } : St).H k' = if k' = b then some (.box ty (cs.set k c')) else s.H k' := fun k' => look_hset b k' _ s.heap
      have T : Turn s { s with heap := hset b (.box ty (cs.set k c')) s.heap } w w ρ ρ (· = b) := by
        refine ⟨rfl, rfl, rfl, Nat.le_refl _, fun _ _ _ => rfl, ?_, ?_, ?_, ?_⟩
        · intro id hid; rw [hH, if_neg hid]; exact ⟨rfl, rfl⟩
        · rintro id o g rfl hk hbk
          exact ⟨(h.low id _ g hb hbk).2, .inr ⟨id, _, rfl, hb, hbk⟩⟩
        · rintro i j x y g rfl rfl _ _ _ _; rfl
        · rintro id o' rfl hk
          rw [hH, if_pos rfl] at hk; injection hk with hk; subst hk
          exact .inr ⟨_, hb, rfl, rfl⟩
      refine h.turn T rfl rfl ?_
      rintro id o rfl hk
      rw [hH, if_pos rfl] at hk; injection hk with hk; subst hk
      obtain ⟨g, vs, h1, h2, h3⟩ := h.mr.obj _ _ hb
      refine ⟨g, vs, h1, h2, (h3.set hp hc).mono T.hw T.hO fun i o' _ ho => ?_⟩
      by_cases hi : i = id
      · subst hi
        rw [hH, if_pos rfl] at ho; injection ho with ho; subst ho
        exact ⟨_, hb, rfl, rfl⟩
      · obtain ⟨e1, e2⟩ := T.same i hi
        exact ⟨o', e1 ▸ ho, rfl, e2⟩
    · cases hp

inductive Chg : Type 1
  | keep (ts ids : List Nat)
  | fz (id : Nat)
  | ren (names : List (Nat × Nat))
  | ro (p : Place) (x : Tree)
  | own (p : Place) (d : Nat) (o : Obj)

def isNil : Option Cell → Bool
  | some (.t (.lit (.slice none 0 0))) => true
  | _ => false

def Chg.app (s : St) : Chg → Option St
  | .keep ts ids => some (s.keep ts ids)
  | .fz id => s.fz id
  | .ren names => s.renS (nameOf names)
  | .ro p x => match x with
    | .ro _ _ _ [] => bif isNil (cellAt s p) then some (setAt s (.t x) p) else none
    | _ => none
  | .own p d o => match o with
    | .rows _ _ _ _ [] => bif isNil (cellAt s p) && !s.has d then some (setAt { s with heap := hset d o s.heap } (.own d) p) else none
    | _ => none

theorem isNil_spec {x : Option Cell} (h : isNil x = true) : x = some (.t (.lit (.slice none 0 0))) := by
  unfold isNil at h
  split at h
  · rfl
  · cases h

theorem cellAt_hset {p : Place} {d : Nat} {o : Obj} {c : Cell} (hd : s.has d = false) (h : cellAt s p = some c) (hb : ∀ k, p ≠ .box d k) : cellAt { s with heap := hset d o s.heap } p = some c := by
  cases p with
  | slot t k => exact h
  | box b k =>
    have : b ≠ d := fun e => hb k (by rw [e])
    simp only [cellAt, St.H, look_hset, if_neg this]
    exact h

theorem Rel.chg (h : Rel W A K s a w ρ) {c : Chg} (hs : c.app s = some s') : ∃ ρ', Rel W A K s' a w ρ' := by
  cases c with
  | keep ts ids =>
    simp only [Chg.app, Option.some.injEq] at hs; subst hs
    exact ⟨ρ, h.weaken (fun t x hl => look_pick ts _ hl) (fun t x hl => look_pick ids _ hl) rfl⟩
  | fz id => exact ⟨ρ, h.fz hs⟩
  | ren names => exact h.renS hs
  | ro p x =>
    simp only [Chg.app] at hs
    split at hs
    · rename_i T es enc z
      cases hn : isNil (cellAt s p) with
      | false => rw [hn] at hs; cases hs
      | true =>
        rw [hn] at hs; simp only [cond_true, Option.some.injEq] at hs; subst hs
        refine ⟨ρ, h.setAt (isNil_spec hn) (fun v hv => ?_)⟩
        have := hv.tr
        cases this with
        | lit => exact .t (.nil ..)
    · cases hs
  | own p d o =>
    simp only [Chg.app] at hs
    split at hs
    · rename_i T ty es enc z
      cases hn : (isNil (cellAt s p) && !s.has d) with
      | false => rw [hn] at hs; cases hs
      | true =>
        rw [hn] at hs; simp only [cond_true, Option.some.injEq] at hs; subst hs
        simp only [Bool.and_eq_true, Bool.not_eq_true'] at hn
        obtain ⟨hn, hd⟩ := hn
        have hrel := new_nil h hd ty es enc z
        by_cases hb : ∃ k, p = .box d k
        · obtain ⟨k, rfl⟩ := hb
          have h0 := isNil_spec hn
          simp only [cellAt] at h0
          split at h0
          · rename_i ty' cs hbx
            have : Abs.setAt { s with heap := hset d (.rows ty es enc z []) s.heap } (.own d) (.box d k) = { s with heap := hset d (.rows ty es enc z []) s.heap } := by
              simp only [Abs.setAt, St.H, look_hset, if_pos]
            rw [this]
            exact ⟨_, hrel⟩
          · cases h0
        · refine ⟨_, Rel.setAt (s := { s with heap := hset d (.rows ty es enc z []) s.heap }) hrel (cellAt_hset hd (isNil_spec hn) fun k e => hb ⟨k, e⟩) (fun v hv => ?_)⟩
          have := hv.tr
          cases this with
          | lit =>
            have h1 : (upd ρ d (.slice none 0 0)) d = .slice none 0 0 := by simp [upd]
            have := CR.own (O := St.O { s with heap := hset d (.rows ty es enc z []) s.heap } A (upd ρ d (.slice none 0 0))) (ρ := upd ρ d (.slice none 0 0)) (H := St.H { s with heap := hset d (.rows ty es enc z []) s.heap }) (w := w) (id := d) (o := .rows ty es enc z []) (by simp only [St.H, look_hset, if_pos]) (by rw [h1]; rfl)
            rw [h1] at this
            exact this
    · cases hs

def chgs : List Chg → St → Option St
  | [], s => some s
  | c :: r, s => (c.app s).bind (chgs r)

theorem Rel.chgs : ∀ {l : List Chg} {s s' : St} {ρ : Nat → Value}, Rel W A K s a w ρ → Abs.chgs l s = some s' → ∃ ρ', Rel W A K s' a w ρ'
  | [], s, s', ρ, h, hs => by simp [Abs.chgs] at hs; subst hs; exact ⟨ρ, h⟩
  | c :: r, s, s', ρ, h, hs => by
    simp only [Abs.chgs, Option.bind_eq_some_iff] at hs
    obtain ⟨s1, h1, hs⟩ := hs
    obtain ⟨ρ1, hr⟩ := h.chg h1
    exact Rel.chgs hr hs
end
end Go.Abs

namespace Go.Abs
set_option linter.unusedVariables false
set_option linter.unusedSimpArgs false
variable {P : Program}

/-! ### Through code, up to where something is to be said -/
inductive KI where
  | code (c : Code)
  | blk (id : Nat)

inductive Stop : Type 1
  | at (c : Code) (k : List KI) (s : St)
  | out (e : Exit) (s : St)

section
variable {W : World} {A K : Nat → Prop}

/-- What is to be shown behind code, at an exit, where k is still to come. -/
def WPK (P : Program) (W : World) (A K : Nat → Prop) (R : Exit → St → Prop) : List KI → Exit → St → Prop
  | [], e, s => R e s
  | .code c :: k, e, s => match e with
    | .normal => WP P W A K c s (WPK P W A K R k)
    | e => WPK P W A K R k e s
  | .blk id :: k, e, s => match e with
    | .exit id' => if id' = id then WPK P W A K R k .normal s else WPK P W A K R k (.exit id') s
    | e => WPK P W A K R k e s

def StopP (P : Program) (W : World) (A K : Nat → Prop) (R : Exit → St → Prop) : Stop → Prop
  | .at c k s => WP P W A K c s (WPK P W A K R k)
  | .out e s => R e s

/-- Where an exit leads. -/
def popK : List KI → Exit → Option (Code × List KI)
  | [], _ => none
  | .code c :: k, .normal => some (c, k)
  | .code _ :: k, e => popK k e
  | .blk id :: k, .exit id' => bif Nat.beq id' id then popK k .normal else popK k (.exit id')
  | .blk _ :: k, e => popK k e

/-- The exit itself, if nothing takes it up. -/
def endK : List KI → Exit → Exit
  | [], e => e
  | .code _ :: k, e => endK k e
  | .blk id :: k, .exit id' => bif Nat.beq id' id then endK k .normal else endK k (.exit id')
  | .blk _ :: k, e => endK k e

def leave (k : List KI) (e : Exit) (s : St) : Stop :=
  match popK k e with
  | some (c, k') => .at c k' s
  | none => .out (endK k e) s

theorem leave_sound {R : Exit → St → Prop} : ∀ (k : List KI) (e : Exit) (s : St), StopP P W A K R (leave k e s) → WPK P W A K R k e s
  | [], e, s, h => h
  | .code c :: k, e, s, h => by
    cases e with
    | normal => exact h
    | exit i => exact leave_sound k (.exit i) s h
    | goto i => exact leave_sound k (.goto i) s h
    | ret => exact leave_sound k .ret s h
    | panic i => exact leave_sound k (.panic i) s h
    | outgrown => exact leave_sound k .outgrown s h
  | .blk id :: k, e, s, h => by
    cases e with
    | normal => exact leave_sound k .normal s h
    | exit i =>
      simp only [WPK]
      unfold leave at h
      simp only [popK, endK] at h
      cases hb : Nat.beq i id with
      | true =>
        have := Nat.eq_of_beq_eq_true hb
        rw [if_pos this]
        rw [hb] at h
        exact leave_sound k .normal s h
      | false =>
        have : i ≠ id := fun e => by subst e; rw [Nat.beq_refl] at hb; cases hb
        rw [if_neg this]
        rw [hb] at h
        exact leave_sound k (.exit i) s h
    | goto i => exact leave_sound k (.goto i) s h
    | ret => exact leave_sound k .ret s h
    | panic i => exact leave_sound k (.panic i) s h
    | outgrown => exact leave_sound k .outgrown s h

/-- What is said of the operations of a region, by its number. -/
def hintsOf (id : Nat) : List (Nat × List (Nat × Hint)) → List (Nat × Hint)
  | [] => []
  | (k, h) :: r => bif Nat.beq k id then h else hintsOf id r

/-- On through code: n steps at most, and not into the region 'til'. -/
def adv (P : Program) (tb : Tab) (hs : List (Nat × List (Nat × Hint))) (til : Nat) : Nat → Stop → Option (Stop × List Prop × List EQ)
  | 0, st => some (st, [], [])
  | _ + 1, .out e s => some (.out e s, [], [])
  | n + 1, .at c k s =>
    match c with
    | .seq a b => adv P tb hs til n (.at a (.code b :: k) s)
    | .skip => adv P tb hs til n (leave k .normal s)
    | .label _ => adv P tb hs til n (leave k .normal s)
    | .exit id => adv P tb hs til n (leave k (.exit id) s)
    | .ret => adv P tb hs til n (leave k .ret s)
    | .block id c => adv P tb hs til n (.at c (.blk id :: k) s)
    | .region id ops draw =>
      bif Nat.beq id til then some (.at c k s, [], []) else
      bif draw then
        match anyRun P tb ops (hintsOf id hs) s with
        | some (s', q, w) => (adv P tb hs til n (leave k .normal s')).map fun x => (x.1, q ++ x.2.1, w ++ x.2.2)
        | none => none
      else
        match regRun P tb ops (hintsOf id hs) 0 ops.toList s with
        | some (s', q) => (adv P tb hs til n (leave k .normal s')).map fun x => (x.1, q ++ x.2.1, x.2.2)
        | none => none
    | c => some (.at c k s, [], [])

theorem adv_sound {tb : Tab} (hT : TabOk P tb) {hs : List (Nat × List (Nat × Hint))} {til : Nat} {R : Exit → St → Prop} : ∀ (n : Nat) (st st' : Stop) (q : List Prop) (v : List EQ), adv P tb hs til n st = some (st', q, v) → AllC q → v.map Prod.fst = v.map Prod.snd → StopP P W A K R st' → StopP P W A K R st
  | 0, st, st', q, v, h, _, _, hp => by simp [adv] at h; obtain ⟨rfl, _⟩ := h; exact hp
  | n + 1, .out e s, st', q, v, h, _, _, hp => by simp [adv] at h; obtain ⟨rfl, _⟩ := h; exact hp
  | n + 1, .at c k s, st', q, v, h, hq, hv, hp => by
    cases c with
    | seq a b =>
      have := adv_sound hT n _ st' q v h hq hv hp
      refine WP.seq (WP.mono this fun e s' hw => ?_)
      cases e <;> exact hw
    | skip => exact WP.skip (leave_sound k _ s (adv_sound hT n _ st' q v h hq hv hp))
    | label l => exact WP.label (leave_sound k _ s (adv_sound hT n _ st' q v h hq hv hp))
    | exit id => exact WP.exit (leave_sound k _ s (adv_sound hT n _ st' q v h hq hv hp))
    | ret => exact WP.ret (leave_sound k _ s (adv_sound hT n _ st' q v h hq hv hp))
    | block id c =>
      have := adv_sound hT n _ st' q v h hq hv hp
      refine WP.block (WP.mono this fun e s' hw => ?_)
      cases e <;> exact hw
    | region id ops draw =>
      simp only [adv] at h
      cases hb : Nat.beq id til with
      | true => rw [hb] at h; simp at h; obtain ⟨rfl, _⟩ := h; exact hp
      | false =>
        rw [hb] at h
        simp only [cond_false] at h
        cases draw with
        | true =>
          simp only [cond_true] at h
          split at h
          · rename_i s1 q1 w1 hr
            simp only [Option.map_eq_some_iff] at h
            obtain ⟨⟨st2, q2, w2⟩, h2, h⟩ := h
            injection h with e1 e2
            injection e2 with e2 e3
            subst e1; subst e2; subst e3
            obtain ⟨hq1, hq2⟩ := AllC_append.1 hq
            simp only [List.map_append] at hv
            obtain ⟨hv1, hv2⟩ := List.append_inj hv (by simp)
            exact WP.regionAny hT hr hq1 hv1 (leave_sound k _ s1 (adv_sound hT n _ st2 q2 w2 h2 hq2 hv2 hp))
          · cases h
        | false =>
          simp only [cond_false] at h
          split at h
          · rename_i s1 q1 hr
            simp only [Option.map_eq_some_iff] at h
            obtain ⟨⟨st2, q2, w2⟩, h2, h⟩ := h
            injection h with e1 e2
            injection e2 with e2 e3
            subst e1; subst e2; subst e3
            obtain ⟨hq1, hq2⟩ := AllC_append.1 hq
            exact WP.region hT hr hq1 (leave_sound k _ s1 (adv_sound hT n _ st2 q2 w2 h2 hq2 hv hp))
          · cases h
    | cond => simp [adv] at h; obtain ⟨rfl, _⟩ := h; exact hp
    | loop => simp [adv] at h; obtain ⟨rfl, _⟩ := h; exact hp
    | rangeFunc => simp [adv] at h; obtain ⟨rfl, _⟩ := h; exact hp
    | scope => simp [adv] at h; obtain ⟨rfl, _⟩ := h; exact hp
    | goto => simp [adv] at h; obtain ⟨rfl, _⟩ := h; exact hp
    | refuse => simp [adv] at h; obtain ⟨rfl, _⟩ := h; exact hp

abbrev AdvR := Option (Stop × List Prop × List EQ)
def stopOf : AdvR → Stop
  | some (s, _) => s
  | none => .out .outgrown ⟨[], [], 0⟩
def condsOf : AdvR → List Prop
  | some (_, q, _) => q
  | none => [False]
def eqsL : AdvR → List (AT × List Prop)
  | some (_, _, v) => v.map Prod.fst
  | none => []
def eqsR : AdvR → List (AT × List Prop)
  | some (_, _, v) => v.map Prod.snd
  | none => []

/-- On to where something is to be said; no region draws its order on the way, or every order answers alike. -/
theorem StopP.advd {tb : Tab} (hT : TabOk P tb) (hs : List (Nat × List (Nat × Hint))) (til n : Nat) {R : Exit → St → Prop} {st : Stop} {q : List Prop} (hq : condsOf (adv P tb hs til n st) = q) (hv : eqsL (adv P tb hs til n st) = eqsR (adv P tb hs til n st)) (hc : AllC q)
    (h : StopP P W A K R (stopOf (adv P tb hs til n st))) : StopP P W A K R st := by
  cases ha : Abs.adv P tb hs til n st with
  | none => rw [ha] at hq; subst hq; exact hc.1.elim
  | some x =>
    obtain ⟨st', q', v⟩ := x
    rw [ha] at hq h hv
    subst hq
    exact adv_sound hT n st st' _ v ha hc hv h

def thenOf : Stop → Stop
  | .at (.cond _ x _) k s => .at x k s
  | st => st
def elseOf : Stop → Stop
  | .at (.cond _ _ y) k s => .at y k s
  | st => st
def boolOf : Stop → Option Bool
  | .at (.cond c _ _) _ s => match opT s c with
    | some (.yes, .v false [.t (.lit (.bool b))]) => some b
    | _ => none
  | _ => none

theorem StopP.cond {R : Exit → St → Prop} {st : Stop} {b : Bool} (hb : boolOf st = some b) (ht : b = true → StopP P W A K R (thenOf st)) (hf : b = false → StopP P W A K R (elseOf st)) : StopP P W A K R st := by
  unfold boolOf at hb
  split at hb
  · split at hb
    · rename_i hc
      injection hb with hb; subst hb
      exact WP.cond hc ht hf
    · cases hb
  · cases hb

/-- The same state, told otherwise. -/
def withSt (s : St) : Stop → Stop
  | .at c k _ => .at c k s
  | st => st

/-- The code of a loop's round, and what stands behind the loop. -/
def bodyOf : Stop → Code
  | .at (.loop c) _ _ => c
  | _ => .skip
def restOf : Stop → List KI
  | .at _ k _ => k
  | _ => []
def codeOf : Stop → Code
  | .at c _ _ => c
  | _ => .skip
def stateOf : Stop → St
  | .at _ _ s => s
  | .out _ s => s
def isAt : Stop → Bool
  | .at .. => true
  | _ => false
def isLoop : Stop → Bool
  | .at (.loop _) _ _ => true
  | _ => false

theorem WPR.mono {c : Code} {Q Q' : Exit → St → Prop} (hq : ∀ e s', Q e s' → Q' e s') : ∀ (m : Nat) (s : St), WPR P W A K c Q m s → WPR P W A K c Q' m s
  | 0, _, h => h
  | m + 1, s, h => WP.mono h fun e s2 h2 => by
    cases e with
    | normal => exact WPR.mono hq m s2 h2
    | _ => exact hq _ _ h2

theorem StopP.chg (l : List Chg) {R : Exit → St → Prop} {st : Stop} {s' : St} (hs : chgs l (stateOf st) = some s') (h : StopP P W A K R (withSt s' st)) (ha : isAt st = true) : StopP P W A K R st := by
  cases st with
  | «at» c k s => exact fun a w ρ hr => let ⟨ρ', hr'⟩ := hr.chgs hs; h a w ρ' hr'
  | out e s => cases ha

/-- It comes to exit e, and a state that is J in other words. -/
def Out (e : Exit) (J : St) : Exit → St → Prop := fun e' s' => e' = e ∧ ∃ l, chgs l s' = some J

theorem out_weaken {R : Exit → St → Prop} {k : List KI} {e : Exit} {J : St} {c : Code} {s : St} (h : WP P W A K c s (Out e J)) (h2 : StopP P W A K R (leave k e J)) : WP P W A K c s (WPK P W A K R k) := by
  intro a w ρ hr
  refine wp_mono (h a w ρ hr) ?_
  rintro e' a' w' ⟨s', ρ', ⟨rfl, l, hj⟩, hr'⟩
  obtain ⟨ρ2, hr2⟩ := hr'.chgs hj
  exact ⟨J, ρ2, leave_sound (R := R) k _ _ h2, hr2⟩

/-- A loop: n rounds at most, from the state s on; it is left by e, with J. -/
theorem StopP.loop {R : Exit → St → Prop} {st : Stop} (hl : isLoop st = true) (l : List Chg) {s : St} (hs : chgs l (stateOf st) = some s) {e : Exit} {J : St} (n : Nat) (h : WPR P W A K (bodyOf st) (Out e J) n s)
    (h2 : StopP P W A K R (leave (restOf st) e J)) : StopP P W A K R st := by
  cases st with
  | out e s => cases hl
  | «at» c k s0 =>
    cases c <;> first | (cases hl; done) | skip
    intro a w ρ hr
    obtain ⟨ρ', hr'⟩ := hr.chgs hs
    exact out_weaken (WP.loop n h) h2 a w ρ' hr'

def bareOf : Stop → Stop
  | .at c _ s => .at c [] s
  | st => st

/-- A piece of code, by itself: it comes to e, with J. -/
theorem StopP.cut {R : Exit → St → Prop} {st : Stop} (ha : isAt st = true) {e : Exit} {J : St} (h : StopP P W A K (Out e J) (bareOf st)) (h2 : StopP P W A K R (leave (restOf st) e J)) : StopP P W A K R st := by
  cases st with
  | out e s => cases ha
  | «at» c k s => exact out_weaken h h2

def exitOf : Stop → Option Exit
  | .out e _ => some e
  | _ => none

theorem StopP.out {R : Exit → St → Prop} {st : Stop} (e : Exit) (he : exitOf st = some e) (h : R e (stateOf st)) : StopP P W A K R st := by
  cases st with
  | «at» => cases he
  | out e' s => injection he with he; subst he; exact h

/-- One round. -/
theorem WPR.round {c : Code} {Q : Exit → St → Prop} {n : Nat} {s : St} (h : StopP P W A K (fun e s' => match e with | .normal => WPR P W A K c Q n s' | e => Q e s') (.at c [] s)) : WPR P W A K c Q (n + 1) s :=
  WP.mono h fun _ _ h => h

/-- A state told otherwise. -/
theorem WPR.chg {c : Code} {Q : Exit → St → Prop} {n : Nat} {s s' : St} (l : List Chg) (hs : chgs l s = some s') (h : WPR P W A K c Q n s') : WPR P W A K c Q n s := by
  cases n with
  | zero => exact h
  | succ n => exact fun a w ρ hr => let ⟨ρ', hr'⟩ := hr.chgs hs; h a w ρ' hr'

theorem StopP.condT {R : Exit → St → Prop} {st : Stop} (hb : boolOf st = some true) (h : StopP P W A K R (thenOf st)) : StopP P W A K R st :=
  StopP.cond hb (fun _ => h) (fun h => by cases h)
theorem StopP.condF {R : Exit → St → Prop} {st : Stop} (hb : boolOf st = some false) (h : StopP P W A K R (elseOf st)) : StopP P W A K R st :=
  StopP.cond hb (fun h => by cases h) (fun _ => h)

/-! ### Functions -/
def resOne (tb : Tab) (s : St) : ResultVar → Option (Bool × List Cell)
  | .tmp t => match look t s.env with
    | some (.yes, .v b cs) => some (b, cs)
    | _ => none
  | .cell p ty => match look p s.env, look ty tb.lay with
    | some (.yes, .v false [.ptr id _ j]), some (n, b) => match s.H id with
      | some (.box _ cells) => if ((cells.drop j).take n).length = n ∧ (b || Nat.beq n 1) = true then some (b, (cells.drop j).take n) else none
      | _ => none
    | _, _ => none

def resAll (tb : Tab) (s : St) : List ResultVar → Option (List (Bool × List Cell))
  | [] => some []
  | x :: r => match resOne tb s x, resAll tb s r with
    | some y, some ys => some (y :: ys)
    | _, _ => none

def resOf (tb : Tab) (s : St) (rs : List ResultVar) : Option AT :=
  match resAll tb s rs with
  | some [(b, cs)] => some (.v b cs)
  | some ys => some (.tp ys)
  | none => none

def resSem (tmps : Array Value) : ResultVar → Sem Value
  | .tmp t => pure (tmps.getD t undef)
  | .cell p t => do loadVar t (← asAddr (tmps.getD p undef))

theorem resOne_run {tb : Tab} (hT : TabOk P tb) {s : St} {a : Act} {w : World} {ρ : Nat → Value} (h : Rel W A K s a w ρ) {x : ResultVar} {y : Bool × List Cell} (hx : resOne tb s x = some y) :
    ∃ v, (resSem a.tmps x).run P w = .ok v w ∧ VR (s.O A ρ) ρ s.H w v y.1 y.2 := by
  cases x with
  | tmp t =>
    simp only [resOne] at hx
    split at hx
    · rename_i b cs hl
      injection hx with hx; subst hx
      obtain ⟨v, hv, hr, _⟩ := h.env t _ _ hl
      refine ⟨v, ?_, hr rfl⟩
      simp [resSem, Array.getD_eq_getD_getElem?, hv]
    · cases hx
  | cell p ty =>
    simp only [resOne] at hx
    split at hx
    · rename_i id i j n b hl hlay
      split at hx
      · rename_i ty' cells hid
        split at hx
        · rename_i hcond
          injection hx with hx; subst hx
          obtain ⟨v, hv, hr, _⟩ := h.env p _ _ hl
          obtain ⟨c, hcc, hc⟩ := hr rfl
          simp at hcc; subst hcc
          obtain ⟨u, hu, hvr⟩ := load_box h (hT.lay hlay) hid hc hcond.1 (fun e => by have := hcond.2; rw [e] at this; simpa using this)
          refine ⟨u, ?_, hvr⟩
          obtain ⟨g, vs, hve, _⟩ := box_at h hid hc
          subst hve
          have : a.tmps.getD p undef = .pointer (some ⟨g, j, none⟩) := by simp [Array.getD_eq_getD_getElem?, hv]
          simp only [resSem]
          rw [this]
          simpa [asAddr, Instr.loadAt, Instr.sureAddr] using hu
        · cases hx
      · cases hx
    · cases hx

theorem resAll_run {tb : Tab} (hT : TabOk P tb) {s : St} {a : Act} {w : World} {ρ : Nat → Value} (h : Rel W A K s a w ρ) : ∀ {l : List ResultVar} {ys : List (Bool × List Cell)}, resAll tb s l = some ys →
    ∃ vs : List Value, (l.mapM (resSem a.tmps)).run P w = .ok vs w ∧ vs.length = ys.length ∧ ∀ (k : Nat) u x, vs[k]? = some u → ys[k]? = some x → VR (s.O A ρ) ρ s.H w u x.1 x.2
  | [], ys, hx => by simp [resAll] at hx; subst hx; exact ⟨[], by simp, rfl, by simp⟩
  | x :: l, ys, hx => by
    simp only [resAll] at hx
    split at hx
    · rename_i y ys' h1 h2
      injection hx with hx; subst hx
      obtain ⟨v, hv, hr⟩ := resOne_run hT h h1
      obtain ⟨vs, hvs, hl, hrs⟩ := resAll_run hT h h2
      refine ⟨v :: vs, ?_, by simp [hl], fun k u x hu hx => ?_⟩
      · rw [List.mapM_cons, Sem.run_bind, hv, Result.andThen_ok, Sem.run_bind, hvs]; rfl
      · cases k with
        | zero => simp at hu hx; subst hu; subst hx; exact hr
        | succ k => simp at hu hx; exact hrs k u x hu hx
    · cases hx

theorem resOf_run {tb : Tab} (hT : TabOk P tb) {s : St} {a : Act} {w : World} {ρ : Nat → Value} (h : Rel W A K s a w ρ) {fn : Func} {res : AT} (hx : resOf tb s fn.results.toList = some res) :
    ∃ v, (results fn a.tmps).run P w = .ok v w ∧ AR (s.O A ρ) ρ s.H w v res := by
  unfold resOf at hx
  have key : ∀ {ys}, resAll tb s fn.results.toList = some ys → ∃ vs : List Value, (results fn a.tmps).run P w = .ok (match vs with | [v] => v | vs => .tuple vs.toArray) w ∧ vs.length = ys.length ∧ ∀ (k : Nat) u x, vs[k]? = some u → ys[k]? = some x → VR (s.O A ρ) ρ s.H w u x.1 x.2 := by
    intro ys hys
    obtain ⟨vs, hvs, hl, hr⟩ := resAll_run hT h hys
    refine ⟨vs, ?_, hl, hr⟩
    have h0 : results fn a.tmps = (do let vs ← fn.results.mapM (resSem a.tmps); pure (if h : vs.size = 1 then vs[0] else .tuple vs)) := by
      unfold results
      congr 1
    rw [h0, Sem.run_bind, Array.mapM_eq_mapM_toList, Sem.run_map, hvs]
    simp only [Result.andThen_ok]
    match vs with
    | [] => rfl
    | [v] => rfl
    | v :: u :: r => simp
  split at hx
  · rename_i b cs hys
    injection hx with hx; subst hx
    obtain ⟨vs, hrun, hl, hr⟩ := key hys
    match vs, hl with
    | [v], _ => exact ⟨v, hrun, hr 0 v _ rfl rfl⟩
  · rename_i ys hne hys
    injection hx with hx; subst hx
    obtain ⟨vs, hrun, hl, hr⟩ := key hys
    refine ⟨.tuple vs.toArray, ?_, vs, rfl, hl, hr⟩
    rw [hrun]
    match vs, hl with
    | [v], hl =>
      match ys, hl with
      | [y], _ => exact absurd rfl (hne y.1 y.2)
    | [], _ => rfl
    | _ :: _ :: _, _ => rfl
  · cases hx

/-- The state in which a function's body begins. -/
def entryEnv : Nat → List AT → List (Nat × Gd × AT)
  | _, [] => []
  | i, x :: r => (i, .yes, x) :: entryEnv (i + 1) r

theorem entryEnv_look : ∀ (i : Nat) (xs : List AT) (t : Nat) (g : Gd) (x : AT), look t (entryEnv i xs) = some (g, x) → i ≤ t ∧ xs[t - i]? = some x ∧ g = .yes
  | _, [], t, g, x, h => by simp [entryEnv, look] at h
  | i, y :: r, t, g, x, h => by
    simp only [entryEnv, look] at h
    cases hb : Nat.beq i t with
    | true =>
      have := Nat.eq_of_beq_eq_true hb; subst this
      rw [hb] at h; simp at h; obtain ⟨rfl, rfl⟩ := h
      simp
    | false =>
      rw [hb] at h; simp at h
      obtain ⟨h1, h2, h3⟩ := entryEnv_look (i + 1) r t g x h
      refine ⟨by omega, ?_, h3⟩
      rw [show t - i = (t - (i + 1)) + 1 by omega]
      simpa using h2

def entry (fn : Func) (H : List (Nat × Obj)) (args : List AT) : St := ⟨entryEnv 0 args, H, fn.ntmps⟩

def bodyAt (fn : Func) : Code := fn.body.getD .skip

/-- What a function's body must come to. -/
def Ret (tb : Tab) (fn : Func) (H' : List (Nat × Obj)) (res : AT) : Exit → St → Prop :=
  fun e s' => (e = .normal ∨ e = .ret) ∧ ∃ l s2 ids, chgs l s' = some s2 ∧ resOf tb s2 fn.results.toList = some res ∧ pick ids s2.heap = H'

/-- A contract, out of a walk through the body. -/
theorem AC.intro {tb : Tab} (hT : TabOk P tb) {f : FuncId} {fn : Func} (hf : P.funcs[f]? = some fn) (hb : fn.body.isSome = true) {H : List (Nat × Obj)} {args : List AT} (hn : Nat.ble args.length fn.ntmps = true) {H' : List (Nat × Obj)} {res : AT}
    (h : ∀ W A K, StopP P W A K (Ret tb fn H' res) (.at (bodyAt fn) [] (entry fn H args))) : AC P f H args H' res := by
  intro W A ρ vs hA hmr hlow hargs
  obtain ⟨c, hc⟩ := Option.isSome_iff_exists.1 hb
  have hbody : bodyAt fn = c := by simp [bodyAt, hc]
  have hle : args.length ≤ fn.ntmps := by simpa [Nat.ble_eq] using hn
  have hvl := hargs.1
  refine calls_of_wp hf hc ?_
  have hrel : Rel W A (fun b => b < W.heap.size ∧ ¬ owned ρ (look · H) b) (entry fn H args) { tmps := vs.toArray ++ Array.replicate (fn.ntmps - vs.toArray.size) undef, defers := [] } W ρ := by
    refine ⟨Ext.refl _ W, fun b hb => hb.1, hA, hmr, fun id o g ho hg => ⟨fun hk => hk.2 ⟨id, o, ho, hg⟩, hlow id o g ho hg⟩, fun t g x hl => ?_, rfl, ?_⟩
    · obtain ⟨_, h2, rfl⟩ := entryEnv_look 0 args t g x hl
      simp only [Nat.sub_zero] at h2
      have hlt : t < vs.length := by rw [hvl]; exact (List.getElem?_eq_some_iff.1 h2).1
      refine ⟨vs[t], ?_, fun _ => hargs.2 t _ _ (List.getElem?_eq_getElem hlt) h2, fun hf => by cases hf⟩
      rw [Array.getElem?_append_left (by simpa using hlt)]
      simp [hlt]
    · simp [entry]; omega
  have hw := h W A (fun b => b < W.heap.size ∧ ¬ owned ρ (look · H) b) _ W ρ hrel
  rw [hbody] at hw
  refine wp_mono hw ?_
  rintro e a' w' ⟨s0, ρ0, hR, hr0⟩
  obtain ⟨he, l, s', ids, hl, hres, hids⟩ := (show _ ∧ _ from hR)
  obtain ⟨ρ', hr'⟩ := hr0.chgs hl
  obtain ⟨v, hv, har⟩ := resOf_run hT hr' hres
  have hsub : ∀ t x, look t H' = some x → look t s'.heap = some x := fun t x hl => look_pick ids _ (by rw [hids]; exact hl)
  have hO : ∀ b, b < w'.heap.size → (A b ∨ owned ρ' (look · H') b) → s'.O A ρ' b := by
    rintro b _ (hA | ⟨id, o, ho, hk⟩)
    · exact .inl hA
    · exact .inr ⟨id, o, hsub id o ho, hk⟩
  have hw2 := hr'.weaken (s' := ⟨[], H', s'.n⟩) (fun t x hl => by simp [look] at hl) hsub rfl
  have fin : a'.defers = [] ∧ ∃ v, (results fn a'.tmps).run P w' = .ok v w' ∧ ∃ ρ' v', Ending.returned v = .returned v' ∧ Ext (fun b => b < W.heap.size ∧ ¬ owned ρ (look · H) b) W w' ∧ MR A ρ' (look · H') w' ∧
      (∀ id o g, look id H' = some o → blk (ρ' id) = some g → g < w'.heap.size ∧ (owned ρ (look · H) g ∨ W.heap.size ≤ g)) ∧ AR (fun b => A b ∨ owned ρ' (look · H') b) ρ' (look · H') w' v' res := by
    refine ⟨hr'.defers, v, hv, ρ', v, rfl, hr'.ext, hw2.mr, fun id o g ho hg => ?_, har.mono (fun _ _ _ => rfl) hO (fun id o' _ ho => ⟨o', hsub id o' ho, rfl, rfl⟩)⟩
    obtain ⟨q1, q2⟩ := hr'.low id o g (hsub id o ho) hg
    refine ⟨q2, ?_⟩
    by_cases hq : owned ρ (look · H) g
    · exact .inl hq
    · exact .inr (Nat.le_of_not_lt fun hlt => q1 ⟨hlt, hq⟩)
  rcases he with rfl | rfl <;> exact fin

end
end Go.Abs

namespace Go.Abs
set_option linter.unusedVariables false
set_option linter.unusedSimpArgs false
variable {P : Program}

/-! ### Contracts of functions that are handed memory -/
section
variable {W : World} {A K : Nat → Prop} {s : St} {a : Act} {w : World} {ρ : Nat → Value}

/-- What some values read as, noted down. -/
theorem Rel.note (h : Rel W A K s a w ρ) {d : Nat} (hd : s.has d = false) {vs : List Value} {cs : List Cell} (hc : CRs (s.O A ρ) ρ s.H w vs cs) (hcs : ∀ k, hasL k cs = true → s.has k = true) :
    Rel W A K (s.setH d (.ghost vs cs)) a w (upd ρ d undef) := by
  have T : Turn s (s.setH d (.ghost vs cs)) w w ρ (upd ρ d undef) (· = d) := by
    refine ⟨rfl, rfl, rfl, Nat.le_refl _, fun _ _ _ => rfl, ?_, ?_, ?_, ?_⟩
    · intro k hk; simp [hk, upd]
    · rintro k o k2 rfl hk hb2
      simp [upd, undef, blk] at hb2
    · rintro i j a b g rfl rfl _ _ _ _; rfl
    · rintro k o rfl _
      exact .inl hd
  refine h.turn T rfl rfl ?_
  rintro k o rfl hk
  rw [St.setH_H, if_pos rfl] at hk; injection hk with hk; subst hk
  exact ⟨by simp [upd, undef, blk], T.crs hcs hc⟩
end

def Ret2 (tb : Tab) (fn : Func) (gid : Nat) (vs : List Value) (args : List Cell) (H' : List (Nat × Obj)) (res : AT) : Exit → St → Prop :=
  fun e s' => (e = .normal ∨ e = .ret) ∧ ∃ l s2 ids, chgs l s' = some s2 ∧ resOf tb s2 fn.results.toList = some res ∧ pick ids s2.heap = H' ∧ look gid s2.heap = some (.ghost vs args)

def one (c : Cell) : AT := .v false [c]

def entry2 (fn : Func) (H : List (Nat × Obj)) (args : List Cell) (gid : Nat) (vs : List Value) : St := ⟨entryEnv 0 (args.map one), (gid, .ghost vs args) :: del gid H, fn.ntmps⟩

theorem AC2.intro {tb : Tab} (hT : TabOk P tb) {f : FuncId} {fn : Func} (hf : P.funcs[f]? = some fn) (hb : fn.body.isSome = true) {H : List (Nat × Obj)} {args : List Cell} (hn : Nat.ble args.length fn.ntmps = true) (gid : Nat)
    (hg : St.has gid (entry fn H (args.map one)) = false) {H' : List (Nat × Obj)} {res : AT}
    (h : ∀ W A K vs, StopP P W A K (Ret2 tb fn gid vs args H' res) (.at (bodyAt fn) [] (entry2 fn H args gid vs))) : AC2 P f H args H' res := by
  intro W A ρ vs hA hmr hlow hargs
  obtain ⟨c, hc⟩ := Option.isSome_iff_exists.1 hb
  have hbody : bodyAt fn = c := by simp [bodyAt, hc]
  have hle : args.length ≤ fn.ntmps := by simpa [Nat.ble_eq] using hn
  have hvl := hargs.1
  refine calls_of_wp hf hc ?_
  have hrel : Rel W A (fun b => b < W.heap.size ∧ ¬ owned ρ (look · H) b) (entry fn H (args.map one)) { tmps := vs.toArray ++ Array.replicate (fn.ntmps - vs.toArray.size) undef, defers := [] } W ρ := by
    refine ⟨Ext.refl _ W, fun b hb => hb.1, hA, hmr, fun id o g ho hg => ⟨fun hk => hk.2 ⟨id, o, ho, hg⟩, hlow id o g ho hg⟩, fun t g x hl => ?_, rfl, ?_⟩
    · obtain ⟨_, h2, rfl⟩ := entryEnv_look 0 _ t g x hl
      simp only [Nat.sub_zero, List.getElem?_map, Option.map_eq_some_iff] at h2
      obtain ⟨c1, h2, rfl⟩ := h2
      have hlt : t < vs.length := by rw [hvl]; exact (List.getElem?_eq_some_iff.1 h2).1
      refine ⟨vs[t], ?_, fun _ => ⟨c1, rfl, hargs.2 t _ _ (List.getElem?_eq_getElem hlt) h2⟩, fun hf => by cases hf⟩
      rw [Array.getElem?_append_left (by simpa using hlt)]
      simp [hlt]
    · simp [entry]; omega
  have hrel2 := hrel.note hg (vs := vs) (cs := args) hargs (by
    intro k hk
    have : k ∈ idsL args := idsL_has args hk
    simp only [St.has, Bool.or_eq_true, List.any_eq_true]
    left
    have key : ∀ (l : List Cell) (i : Nat), hasL k l = true → ∃ x ∈ entryEnv i (l.map one), x.2.2.has k = true := by
      intro l
      induction l with
      | nil => intro i h; simp [hasL] at h
      | cons c r ih =>
        intro i h
        simp only [hasL, Bool.or_eq_true] at h
        rcases h with h | h
        · exact ⟨(i, .yes, one c), by simp [entryEnv], by simp [one, AT.has, hasL, h]⟩
        · obtain ⟨x, hx, hh⟩ := ih (i + 1) h
          exact ⟨x, by simp [entryEnv, hx], hh⟩
    exact key args 0 hk)
  have hw := h W A (fun b => b < W.heap.size ∧ ¬ owned ρ (look · H) b) vs _ W _ hrel2
  rw [hbody] at hw
  refine wp_mono hw ?_
  rintro e a' w' ⟨s0, ρ0, hR, hr0⟩
  obtain ⟨he, l, s', ids, hl, hres, hids, hgh⟩ := (show _ ∧ _ from hR)
  obtain ⟨ρ', hr'⟩ := hr0.chgs hl
  obtain ⟨v, hv, har⟩ := resOf_run hT hr' hres
  have hsub : ∀ t x, look t H' = some x → look t s'.heap = some x := fun t x hl => look_pick ids _ (by rw [hids]; exact hl)
  have hO : ∀ b, b < w'.heap.size → (A b ∨ owned ρ' (look · H') b) → s'.O A ρ' b := by
    rintro b _ (hA | ⟨id, o, ho, hk⟩)
    · exact .inl hA
    · exact .inr ⟨id, o, hsub id o ho, hk⟩
  have hw2 := hr'.weaken (s' := ⟨[], H', s'.n⟩) (fun t x hl => by simp [look] at hl) hsub rfl
  have hnote := (hr'.mr.obj gid _ hgh).2
  have fin : a'.defers = [] ∧ ∃ v, (results fn a'.tmps).run P w' = .ok v w' ∧ ∃ ρ' v', Ending.returned v = .returned v' ∧ Ext (fun b => b < W.heap.size ∧ ¬ owned ρ (look · H) b) W w' ∧ MR A ρ' (look · H') w' ∧
      (∀ id o g, look id H' = some o → blk (ρ' id) = some g → g < w'.heap.size ∧ (owned ρ (look · H) g ∨ W.heap.size ≤ g)) ∧ AR (fun b => A b ∨ owned ρ' (look · H') b) ρ' (look · H') w' v' res ∧
      CRs (fun b => A b ∨ owned ρ' (look · H') b) ρ' (look · H') w' vs args := by
    refine ⟨hr'.defers, v, hv, ρ', v, rfl, hr'.ext, hw2.mr, fun id o g ho hg => ?_, har.mono (fun _ _ _ => rfl) hO (fun id o' _ ho => ⟨o', hsub id o' ho, rfl, rfl⟩), hnote.mono (fun _ _ _ => rfl) hO (fun id o' _ ho => ⟨o', hsub id o' ho, rfl, rfl⟩)⟩
    obtain ⟨q1, q2⟩ := hr'.low id o g (hsub id o ho) hg
    refine ⟨q2, ?_⟩
    by_cases hq : owned ρ (look · H) g
    · exact .inl hq
    · exact .inr (Nat.le_of_not_lt fun hlt => q1 ⟨hlt, hq⟩)
  rcases he with rfl | rfl <;> exact fin

/-- A contract under its own names. -/
theorem AC2.cast {f : FuncId} {H H1 : List (Nat × Obj)} {args args1 : List Cell} {H' H1' : List (Nat × Obj)} {res res1 : AT} (h : AC2 P f H args H' res) (e1 : H = H1) (e2 : args = args1) (e3 : H' = H1') (e4 : res = res1) : AC2 P f H1 args1 H1' res1 := by
  subst e1; subst e2; subst e3; subst e4; exact h
end Go.Abs

namespace Go.Abs

abbrev I (n : Int) : Tree := .lit (.int .i64 n)
abbrev Bo (b : Bool) : Tree := .lit (.bool b)

structure Ins where
  Op : Int
  A : Int
  B : Int
  C : Int
  Imm : Int
structure Op' where
  Ins : Ins
  Rel : Bool
  Kind : Int
  To : Int
  Add : Int
structure Term where
  Kind : Int
  Op : Int
  A : Int
  B : Int
  To : Int
  Else : Int
  Ins : Ins
structure Block where
  Ops : List Op'
  End : Term
structure Graph where
  Name : ByteArray
  Keep : Bool
  Leaf : Bool
  Blocks : List Block
def zIns : Ins := ⟨0, 0, 0, 0, 0⟩
def zOp : Op' := ⟨zIns, false, 0, 0, 0⟩
def zTerm : Term := ⟨0, 0, 0, 0, 0, 0, zIns⟩
def zBlock : Block := ⟨[], zTerm⟩
def zGraph : Graph := ⟨ByteArray.empty, false, false, []⟩
def cIns (x : Ins) : List Tree := [I x.Op, I x.A, I x.B, I x.C, I x.Imm]
def cOp (x : Op') : List Tree := [I x.Ins.Op, I x.Ins.A, I x.Ins.B, I x.Ins.C, I x.Ins.Imm, Bo x.Rel, I x.Kind, I x.To, I x.Add]
def cTerm (x : Term) : List Tree := [I x.Kind, I x.Op, I x.A, I x.B, I x.To, I x.Else, I x.Ins.Op, I x.Ins.A, I x.Ins.B, I x.Ins.C, I x.Ins.Imm]
def cBlock (x : Block) : List Tree := .ro 9 cOp zOp x.Ops :: cTerm x.End
def cGraph (x : Graph) : List Tree := [.lit (.string x.Name), Bo x.Keep, Bo x.Leaf, .ro 12 cBlock zBlock x.Blocks]

end Go.Abs

namespace Go.Abs
set_option linter.unusedVariables false

/-! ### What the printed texts use -/
def gd {α : Type} (p : Prop) [Decidable p] (x : Option α) : Option α := if p then x else none
theorem gd_some {α : Type} {p : Prop} [Decidable p] {x : Option α} {r : α} (h : gd p x = some r) : p ∧ x = some r := by
  unfold gd at h; split at h
  · exact ⟨‹p›, h⟩
  · cases h
theorem bd_some {α β : Type} {x : Option β} {f : β → Option α} {r : α} (h : Option.bind x f = some r) : ∃ b, x = some b ∧ f b = some r := Option.bind_eq_some_iff.1 h
theorem cd_t {α : Type} {b : Bool} {x y : Option α} {r : Option α} (hb : b = true) (h : (bif b then x else y) = r) : x = r := by subst hb; exact h
theorem cd_f {α : Type} {b : Bool} {x y : Option α} {r : Option α} (hb : b = false) (h : (bif b then x else y) = r) : y = r := by subst hb; exact h
theorem sm {α : Type} {a b : α} (h : some a = some b) : a = b := by injection h

theorem ac_nil : AllC [] := trivial
theorem ac_c {p : Prop} {l : List Prop} (h : p) (t : AllC l) : AllC (p :: l) := ⟨h, t⟩
theorem ac_y {p : Prop} {l : List Prop} (h : p) (t : AllC l) : AllC ((Gd.val .yes = true → p) :: l) := ⟨fun _ => h, t⟩
theorem ac_on (c : Bool) {p : Prop} {l : List Prop} (h : c = true → p) (t : AllC l) : AllC ((Gd.val (.on c) = true → p) :: l) := ⟨h, t⟩
theorem and_l {a b : Bool} (h : (a && b) = true) : a = true := by cases a <;> simp_all
theorem pt (b : Bool) : b = true → b = true := fun h => h
theorem pn (b : Bool) : b = false → (!b) = true := fun h => by subst h; rfl
theorem ptg {p : Bool} (b : Bool) (hp : p = true) : b = true → (p && b) = true := fun h => by subst h; subst hp; rfl
theorem png {p : Bool} (b : Bool) (hp : p = true) : b = false → (p && !b) = true := fun h => by subst h; subst hp; rfl
theorem nt {b : Bool} (h : b = false) : (!b) = true := by subst h; rfl
theorem nf {b : Bool} (h : b = true) : (!b) = false := by subst h; rfl
theorem tn {n : Int} {m : Nat} (h : 0 ≤ n ∧ n < m) : n.toNat < m := by omega

theorem plain_one {id : Nat} {o : Obj} {res : AT} (hp : PlainO o) (hr : plainA res = true) : Plain [(id, o)] res := by
  refine ⟨hr, fun x hx => ?_⟩
  rw [List.mem_singleton] at hx; subst hx; exact hp
theorem plain_rows {T : Type} {ty es : Nat} {enc : T → List Tree} {z : T} {xs : List T} (h : ∀ x, (enc x).all Tree.isLit = true) : PlainO (.rows ty es enc z xs) :=
  fun x _ t ht => List.all_eq_true.1 (h x) t ht

def kid : List Bool → Code → Code
  | [], c => c
  | b :: r, .seq x y => kid r (bif b then y else x)
  | b :: r, .cond _ x y => kid r (bif b then y else x)
  | _ :: r, .loop c => kid r c
  | _ :: r, .block _ c => kid r c
  | _, c => c

abbrev ci (n : Int) : Cell := .t (.lit (.int .i64 n))
abbrev cu (k : IntKind) (n : Int) : Cell := .t (.lit (.int k n))
abbrev cb (b : Bool) : Cell := .t (.lit (.bool b))
abbrev cs (b : ByteArray) : Cell := .t (.lit (.string b))
abbrev cn : Cell := .t (.lit (.slice none 0 0))
abbrev v1 (c : Cell) : AT := .v false [c]
abbrev va (l : List Tree) : AT := .v true (l.map Cell.t)
def eI (n : Int) : List Tree := [.lit (.int .i64 n)]
def eB (n : Bool) : List Tree := [.lit (.bool n)]
def eU16 (n : Int) : List Tree := [.lit (.int .u16 n)]

theorem AC.roNil {P : Program} {f : FuncId} {T : Type} {es : Nat} {enc : T → List Tree} {z : T} {xs : List T} {H' : List (Nat × Obj)} {res : AT}
    (hA : ∀ x r, xs = x :: r → AC P f [] [v1 (.t (.ro es enc z xs))] H' res) (hB : xs = [] → AC P f [] [v1 cn] H' res) (hC : xs = [] → ∀ a c, AC P f [] [v1 (.t (.lit (.slice (some a) 0 c)))] H' res) :
    AC P f [] [v1 (.t (.ro es enc z xs))] H' res := by
  intro W A ρ vs hA0 hmr hlow hargs
  cases xs with
  | cons x r => exact hA x r rfl W A ρ vs hA0 hmr hlow hargs
  | nil =>
    obtain ⟨hl, hr⟩ := hargs
    match vs, hl with
    | [v], _ =>
      obtain ⟨c, hc, hv⟩ := hr 0 v _ rfl rfl
      simp at hc; subst hc
      have one : ∀ {x : AT} {v : Value}, AR (fun b => A b ∨ owned ρ (look · ([] : List (Nat × Obj))) b) ρ (look · ([] : List (Nat × Obj))) W v x → ARs (fun b => A b ∨ owned ρ (look · ([] : List (Nat × Obj))) b) ρ (look · ([] : List (Nat × Obj))) W [v] [x] := by
        intro x v h
        refine ⟨rfl, fun k u y hu hy => ?_⟩
        cases k with
        | zero => simp at hu hy; subst hu; subst hy; exact h
        | succ k => simp at hu
      have ht := hv.tr
      cases ht with
      | nil => exact hB rfl W A ρ _ hA0 hmr hlow (one ⟨_, rfl, .t (.lit _ rfl)⟩)
      | ro a cap => exact hC rfl a cap W A ρ _ hA0 hmr hlow (one ⟨_, rfl, .t (.lit _ rfl)⟩)

def chgSt (l : List Chg) (s : St) : St := (chgs l s).getD ⟨[], [], 0⟩

section
variable {P : Program} {W : World} {A K : Nat → Prop}

theorem StopP.lp {R : Exit → St → Prop} {st : Stop} (hl : isLoop st = true) (l : List Chg) {s : St} (hs : chgs l (stateOf st) = some s) {c : Code} (hc : bodyOf st = c) {e : Exit} {J : St} (n : Nat) (h : WPR P W A K c (Out e J) n s)
    (h2 : StopP P W A K R (leave (restOf st) e J)) : StopP P W A K R st := by
  subst hc; exact StopP.loop hl l hs n h h2

theorem StopP.bl {R : Exit → St → Prop} {st : Stop} (ha : isAt st = true) (l : List Chg) {s : St} (hs : chgs l (stateOf st) = some s) {c : Code} (hc : codeOf st = c) {e : Exit} {J : St} (h : StopP P W A K (Out e J) (.at c [] s))
    (h2 : StopP P W A K R (leave (restOf st) e J)) : StopP P W A K R st := by
  subst hc
  cases st with
  | out e s => cases ha
  | «at» c k s0 =>
    intro a w ρ hr
    obtain ⟨ρ', hr'⟩ := hr.chgs hs
    exact out_weaken h h2 a w ρ' hr'

/-- The same place, told by its path in the code. -/
theorem StopP.reb (l : List Chg) {R : Exit → St → Prop} {st st' : Stop} (hs : chgs l (stateOf st) = some (stateOf st')) (hc : codeOf st = codeOf st') (hk : restOf st = restOf st') (ha : isAt st = true) (ha' : isAt st' = true) (h : StopP P W A K R st') : StopP P W A K R st := by
  cases st' with
  | out => cases ha'
  | «at» c' k' s' =>
    cases st with
    | out => cases ha
    | «at» c k s =>
      simp only [codeOf, restOf, stateOf] at hc hk hs
      subst hc; subst hk
      exact fun a w ρ hr => let ⟨ρ', hr'⟩ := hr.chgs hs; h a w ρ' hr'

theorem StopP.condK {R : Exit → St → Prop} {st : Stop} {b : Bool} (h : b = true) (hb : boolOf st = some b) (ht : StopP P W A K R (thenOf st)) : StopP P W A K R st :=
  StopP.cond hb (fun _ => ht) (fun h' => by rw [h] at h'; cases h')
theorem StopP.condKF {R : Exit → St → Prop} {st : Stop} {b : Bool} (h : b = false) (hb : boolOf st = some b) (ht : StopP P W A K R (elseOf st)) : StopP P W A K R st :=
  StopP.cond hb (fun h' => by rw [h] at h'; cases h') (fun _ => ht)

theorem StopP.chgS (l : List Chg) {R : Exit → St → Prop} {st : Stop} (h1 : (chgs l (stateOf st)).isSome = true) (ha : isAt st = true) (h : StopP P W A K R (withSt (chgSt l (stateOf st)) st)) : StopP P W A K R st := by
  obtain ⟨s2, h2⟩ := Option.isSome_iff_exists.1 h1
  refine StopP.chg l h2 ?_ ha
  have : chgSt l (stateOf st) = s2 := by simp [chgSt, h2]
  rw [this] at h; exact h

/-- One of two ways out. -/
def Out2 {α β : Type} (r : α ⊕ β) (e1 : Exit) (J1 : α → St) (e2 : Exit) (J2 : β → St) : Exit → St → Prop :=
  match r with
  | .inl a => Out e1 (J1 a)
  | .inr b => Out e2 (J2 b)

theorem AC.cast {f : FuncId} {H : List (Nat × Obj)} {args : List AT} {H1 H2 : List (Nat × Obj)} {r1 r2 : AT} (h : AC P f H args H1 r1) (hH : H1 = H2) (hr : r1 = r2) : AC P f H args H2 r2 := by subst hH; subst hr; exact h

theorem ret_box {tb : Tab} {fn : Func} {H' : List (Nat × Obj)} {res : AT} {e : Exit} {s' : St} (he : e = .normal ∨ e = .ret) (l : List Chg) (h1 : (chgs l s').isSome = true) (h2 : resOf tb (chgSt l s') fn.results.toList = some res) (ids : List Nat)
    (h3 : pick ids (chgSt l s').heap = H') : Ret tb fn H' res e s' := by
  obtain ⟨s2, h⟩ := Option.isSome_iff_exists.1 h1
  have hc : chgSt l s' = s2 := by simp [chgSt, h]
  rw [hc] at h2 h3
  exact ⟨he, l, s2, ids, h, h2, h3⟩

theorem ret2_box {tb : Tab} {fn : Func} {gid : Nat} {vs : List Value} {args : List Cell} {H' : List (Nat × Obj)} {res : AT} {e : Exit} {s' : St} (he : e = .normal ∨ e = .ret) (l : List Chg) (h1 : (chgs l s').isSome = true) (h2 : resOf tb (chgSt l s') fn.results.toList = some res) (ids : List Nat)
    (h3 : pick ids (chgSt l s').heap = H') (h4 : look gid (chgSt l s').heap = some (.ghost vs args)) : Ret2 tb fn gid vs args H' res e s' := by
  obtain ⟨s2, h⟩ := Option.isSome_iff_exists.1 h1
  have hc : chgSt l s' = s2 := by simp [chgSt, h]
  rw [hc] at h2 h3 h4
  exact ⟨he, l, s2, ids, h, h2, h3, h4⟩

theorem sl {n : Nat} (h : n ≤ 1073741824) : n ≤ maxLen := by simp only [maxLen]; omega
theorem sb {n b : Nat} (h : n ≤ 1073741824) (hb : b ≤ 131072) : n * b ≤ 140737488355328 := Nat.le_trans (Nat.mul_le_mul h hb) (by decide)
theorem sb2 {n b : Nat} (h : n ≤ 1073741824) (hb : b ≤ 131072) : b * n ≤ 281474976710656 := Nat.le_trans (Nat.mul_le_mul hb h) (by decide)
theorem se {n e : Nat} (h : n ≤ 1024) (he : e ≤ 1024) : n * e ≤ 16777216 := Nat.le_trans (Nat.mul_le_mul h he) (by decide)
end
end Go.Abs
