import Derived.Test.YtoooalfhjcfinaaAbs13
namespace Go.Abs
set_option linter.unusedVariables false
set_option linter.unusedSimpArgs false
variable {P : Program}

/-! ### Calls of Go functions -/
def Tree.isLit : Tree → Bool
  | .lit _ => true
  | .ro .. => false

def plainC : Cell → Bool
  | .t x => x.isLit
  | .own _ => true
  | .ptr .. => true
  | _ => false

def PlainO : Obj → Prop
  | .box _ cells => cells.all plainC = true
  | .rows _ _ enc _ xs => ∀ x ∈ xs, ∀ t ∈ enc x, t.isLit = true
  | .ghost _ cells => cells.all plainC = true

def plainA : AT → Bool
  | .v _ cells => cells.all plainC
  | .tp xs => xs.all fun x => x.2.all plainC

/-- Nothing but values and what is owned. -/
def Plain (H' : List (Nat × Obj)) (res : AT) : Prop := plainA res = true ∧ ∀ x ∈ H', PlainO x.2

/-- A cell as a callee reads it: an owned slice as one that is only read. -/
def viewC (s : St) : Cell → Option (Bool × Cell)
  | .t x => some (false, .t x)
  | .own id => match s.H id with
    | some (.rows _ es enc z xs) => some (true, .t (.ro es enc z xs))
    | _ => none
  | .clo f [] => some (false, .clo f [])
  | _ => none

def viewL (s : St) : List Cell → Option (Bool × List Cell)
  | [] => some (false, [])
  | c :: r => match viewC s c, viewL s r with
    | some (b, c'), some (b', r') => some (b || b', c' :: r')
    | _, _ => none

def argsV (s : St) (g : Gd) : List Operand → Option (Bool × List AT × List Prop)
  | [] => some (false, [], [])
  | x :: r => match opT s x, argsV s g r with
    | some (gx, .v ag cs), some (b, xs, q) => (viewL s cs).map fun y => (y.1 || b, .v ag y.2 :: xs, needs g gx ++ q)
    | _, _ => none

def nameOf : List (Nat × Nat) → Nat → Nat
  | [], k => k
  | (i, j) :: r, k => bif Nat.beq i k then j else nameOf r k

def freshB (names : List (Nat × Nat)) (H' : List (Nat × Obj)) (s : St) : Bool := (H'.all fun x => !s.has (nameOf names x.1)) && distinctL (H'.map fun x => nameOf names x.1)

def gdEmpty : Gd → Bool → Bool
  | .yes, _ => true
  | .on _, b => b

def plainIf (H' : List (Nat × Obj)) (res : AT) : Bool → List Prop
  | true => [Plain H' res]
  | false => []

def callStep (P : Program) (tb : Tab) (names : List (Nat × Nat)) (H' : List (Nat × Obj)) (res : AT) (s : St) (g : Gd) (o : Op) : Option R :=
  match o with
  | .call c =>
    match c.callee with
    | .value fo =>
      match opT s fo, argsV s g c.args.toList with
      | some (gf, .v false [.clo f []]), some (b, xs, q) =>
        if (tb.fns.any fun k => Nat.beq k f) && freshB names H' s && gdEmpty g H'.isEmpty && closedB H' res then
          some ⟨res.ren (nameOf names), heapRen (nameOf names) H' ++ s.heap, needs g gf ++ q ++ [g.val = true → AC P f [] xs H' res] ++ plainIf H' res b⟩
        else none
      | _, _ => none
    | _ => none
  | _ => none

section
variable {W : World} {A K : Nat → Prop} {s : St} {a : Act} {w : World} {ρ : Nat → Value}

theorem TR.of_lit {O O' : Nat → Prop} {w w' : World} {v : Value} {t : Tree} (h : TR O w v t) (ht : t.isLit = true) : TR O' w' v t := by
  cases h with
  | lit v h1 => exact .lit v h1
  | nil => simp [Tree.isLit] at ht
  | ro => simp [Tree.isLit] at ht

theorem CR.plain {O O' : Nat → Prop} {ρ : Nat → Value} {H : Nat → Option Obj} {v : Value} {c : Cell} (h : CR O ρ H w v c) (hp : plainC c = true) : CR O' ρ H w v c := by
  cases h with
  | t h => exact .t (h.of_lit hp)
  | own h h1 => exact .own h h1
  | ownj h h1 => exact .ownj h h1
  | ptr h h1 => exact .ptr h h1
  | ptrj h h1 => exact .ptrj h h1
  | rop => simp [plainC] at hp
  | clo => simp [plainC] at hp

theorem CRs.plain {O O' : Nat → Prop} {ρ : Nat → Value} {H : Nat → Option Obj} {vs : List Value} {cs : List Cell} (h : CRs O ρ H w vs cs) (hp : cs.all plainC = true) : CRs O' ρ H w vs cs :=
  ⟨h.1, fun k v c hv hc => (h.2 k v c hv hc).plain (List.all_eq_true.1 hp c (List.mem_of_getElem? hc))⟩

theorem AR.plain {O O' : Nat → Prop} {ρ : Nat → Value} {H : Nat → Option Obj} {v : Value} {x : AT} (h : AR O ρ H w v x) (hp : plainA x = true) : AR O' ρ H w v x := by
  have one : ∀ {v : Value} {b : Bool} {cs : List Cell}, VR O ρ H w v b cs → cs.all plainC = true → VR O' ρ H w v b cs := by
    intro v b cs h hp
    cases b with
    | true => obtain ⟨vs, rfl, h⟩ := h; exact ⟨vs, rfl, h.plain hp⟩
    | false => obtain ⟨c, rfl, h⟩ := h; exact ⟨c, rfl, h.plain (by simpa using hp)⟩
  cases x with
  | v => exact one h hp
  | tp xs =>
    obtain ⟨vs, rfl, hl, h⟩ := h
    simp only [plainA, List.all_eq_true] at hp
    exact ⟨vs, rfl, hl, fun k u x hu hx => one (h k u x hu hx) (List.all_eq_true.2 (hp x (List.mem_of_getElem? hx)))⟩

theorem MR.plain {Ac Ac' : Nat → Prop} {ρ : Nat → Value} {H' : List (Nat × Obj)} (h : MR Ac ρ (look · H') w) (hp : ∀ x ∈ H', PlainO x.2) (hav : ∀ id o g, look id H' = some o → blk (ρ id) = some g → ¬ Ac' g) : MR Ac' ρ (look · H') w := by
  refine ⟨fun id o ho => ?_, h.disj, hav⟩
  have hor := h.obj id o ho
  have hpo := hp _ (look_mem ho)
  cases o with
  | box ty cells => obtain ⟨g, vs, h1, h2, h3⟩ := hor; exact ⟨g, vs, h1, h2, h3.plain hpo⟩
  | rows ty es enc z xs =>
    obtain ⟨vs, h1, h2, h3⟩ := hor
    refine ⟨vs, h1, h2, ⟨h3.1, fun k v t hv ht => (h3.2 k v t hv ht).of_lit ?_⟩⟩
    have hm := List.mem_of_getElem? ht
    simp only [List.mem_flatMap] at hm
    obtain ⟨x, hx, ht⟩ := hm
    exact hpo x hx t ht
  | ghost vs cells => exact ⟨hor.1, hor.2.plain hpo⟩

/-- What a callee that borrows reads: what its caller owns, too. -/
theorem viewC_cr (h : Rel W A K s a w ρ) {c c' : Cell} {b : Bool} (hv : viewC s c = some (b, c')) {v : Value} (hc : CR (s.O A ρ) ρ s.H w v c) :
    (∀ ρ0, CR (fun _ => False) ρ0 (fun _ => none) w v c') ∧ (b = false → ∀ ρ0, CR (s.O A ρ) ρ0 (fun _ => none) w v c') := by
  unfold viewC at hv
  split at hv
  · injection hv with hv; injection hv with h1 h2; subst h1; subst h2
    exact ⟨fun _ => .t (hc.tr.mono (fun _ _ _ => rfl) (fun _ _ hf => hf.elim)), fun _ _ => .t hc.tr⟩
  · rename_i id0
    split at hv
    · rename_i T ty es enc z xs hid
      injection hv with hv; injection hv with h1 h2; subst h1; subst h2
      refine ⟨fun _ => .t ?_, fun hb => by cases hb⟩
      obtain ⟨vs, hown, hes, hct⟩ := h.mr.obj _ _ hid
      have hvr : v = ρ id0 := by
        cases hc with
        | own => rfl
        | ownj h' => rw [hid] at h'; cases h'
      subst hvr
      have hct2 : TRs (fun _ => False) w vs (xs.flatMap enc) := hct.mono (w' := w) (O' := fun _ => False) (fun _ _ _ => rfl) (fun _ _ hf => hf.elim)
      rcases hown.2 with ⟨e0, hx0⟩ | ⟨g, cap, cur, e0, _, hg, hle, hcm, hsz, htk⟩
      · have : xs = [] := List.length_eq_zero_iff.1 hx0
        subst this
        rw [e0]; exact .nil ..
      · rw [e0]
        exact TR.ro (O := fun _ => False) ⟨g, 0, none⟩ cap vs hle hcm hes hct.1 (hown.cells (g := g) (by rw [e0]; rfl)) (.inr (fun h => h)) hct2.2
    · cases hv
  · rename_i f0
    injection hv with hv; injection hv with h1 h2; subst h1; subst h2
    have : ∀ {O : Nat → Prop} {ρ0 : Nat → Value}, CR O ρ0 (fun _ => none) w v (.clo f0 []) := by
      intro O ρ0
      cases hc with
      | clo vals hl hr =>
        have : vals = [] := List.length_eq_zero_iff.1 (by simpa using hl)
        subst this
        exact .clo [] rfl (by simp)
    exact ⟨fun _ => this, fun _ _ => this⟩
  · cases hv

theorem viewL_cr (h : Rel W A K s a w ρ) : ∀ {cs cs' : List Cell} {b : Bool} {vs : List Value}, viewL s cs = some (b, cs') → CRs (s.O A ρ) ρ s.H w vs cs →
    (∀ ρ0, CRs (fun _ => False) ρ0 (fun _ => none) w vs cs') ∧ (b = false → ∀ ρ0, CRs (s.O A ρ) ρ0 (fun _ => none) w vs cs')
  | [], cs', b, vs, hv, hc => by
    simp [viewL] at hv
    obtain ⟨rfl, rfl⟩ := hv
    have : vs = [] := List.length_eq_zero_iff.1 hc.1
    subst this
    exact ⟨fun _ => CRs.nil, fun _ _ => CRs.nil⟩
  | c :: r, cs', b, [], hv, hc => by have := hc.1; simp at this
  | c :: r, cs', b, v :: vs, hv, hc => by
    simp only [viewL] at hv
    split at hv
    · rename_i b1 c1 b2 r1 h1 h2
      injection hv with hv; injection hv with e1 e2; subst e1; subst e2
      have hc1 := viewC_cr h h1 (hc.2 0 v c rfl rfl)
      have hc2 := viewL_cr h h2 (vs := vs) ⟨by have := hc.1; simpa using this, fun k u d hu hd => hc.2 (k + 1) u d (by simpa using hu) (by simpa using hd)⟩
      refine ⟨fun ρ0 => CRs.cons (hc1.1 ρ0) (hc2.1 ρ0), fun hb ρ0 => ?_⟩
      simp only [Bool.or_eq_false_iff] at hb
      exact CRs.cons (hc1.2 hb.1 ρ0) (hc2.2 hb.2 ρ0)
    · cases hv

theorem argsV_ar (h : Rel W A K s a w ρ) {g : Gd} (hg : g.val = true) : ∀ {l : List Operand} {b : Bool} {xs : List AT} {q : List Prop}, argsV s g l = some (b, xs, q) → AllC q →
    (∀ ρ0, ARs (fun _ => False) ρ0 (fun _ => none) w (l.map a.eval) xs) ∧ (b = false → ∀ ρ0, ARs (s.O A ρ) ρ0 (fun _ => none) w (l.map a.eval) xs)
  | [], b, xs, q, hs, _ => by simp [argsV] at hs; obtain ⟨rfl, rfl, rfl⟩ := hs; exact ⟨fun _ => ⟨rfl, by simp⟩, fun _ _ => ⟨rfl, by simp⟩⟩
  | x :: r, b, xs, q, hs, hc => by
    simp only [argsV] at hs
    split at hs
    · rename_i gx ag cs b2 xs2 q2 hx hr
      simp only [Option.map_eq_some_iff] at hs
      obtain ⟨⟨b1, cs'⟩, hv, hs⟩ := hs
      injection hs with e1 hs; injection hs with e2 e3; subst e1; subst e2; subst e3
      obtain ⟨hc1, hc2⟩ := AllC_append.1 hc
      have hx2 := opT_sound h hx (needs_of hg hc1)
      have hrest := argsV_ar h hg hr hc2
      have cons : ∀ {O : Nat → Prop} {ρ0 : Nat → Value} {H0 : Nat → Option Obj} {v : Value} {y : AT} {vs : List Value} {ys : List AT}, AR O ρ0 H0 w v y → ARs O ρ0 H0 w vs ys → ARs O ρ0 H0 w (v :: vs) (y :: ys) := by
        intro O ρ0 H0 v y vs ys h1 h2
        refine ⟨by simp [h2.1], fun k u z hu hz => ?_⟩
        cases k with
        | zero => simp at hu hz; subst hu; subst hz; exact h1
        | succ k => simp at hu hz; exact h2.2 k u z hu hz
      have one : (∀ ρ0, AR (fun _ => False) ρ0 (fun _ => none) w (a.eval x) (.v ag cs')) ∧ (b1 = false → ∀ ρ0, AR (s.O A ρ) ρ0 (fun _ => none) w (a.eval x) (.v ag cs')) := by
        cases ag with
        | true =>
          obtain ⟨vs, hvv, hcs⟩ := hx2
          have hl := viewL_cr h hv hcs
          exact ⟨fun ρ0 => ⟨vs, hvv, hl.1 ρ0⟩, fun hb ρ0 => ⟨vs, hvv, hl.2 hb ρ0⟩⟩
        | false =>
          obtain ⟨c, rfl, hcs⟩ := hx2
          have hl := viewL_cr h hv (CRs.cons hcs CRs.nil)
          simp only [viewL] at hv
          split at hv
          · rename_i b3 c3 b4 r4 h3 h4
            simp at h4
            obtain ⟨rfl, rfl⟩ := h4
            injection hv with hv; injection hv with e1 e2; subst e1; subst e2
            exact ⟨fun ρ0 => ⟨c3, rfl, (hl.1 ρ0).2 0 _ _ rfl rfl⟩, fun hb ρ0 => ⟨c3, rfl, (hl.2 hb ρ0).2 0 _ _ rfl rfl⟩⟩
          · cases hv
      refine ⟨fun ρ0 => cons (one.1 ρ0) (hrest.1 ρ0), fun hb ρ0 => ?_⟩
      simp only [Bool.or_eq_false_iff] at hb
      exact cons (one.2 hb.1 ρ0) (hrest.2 hb.2 ρ0)
    · cases hs

/-- What an operation is worth, as the walk asks it. -/
def Goes (P : Program) (W : World) (A K : Nat → Prop) (s : St) (a : Act) (w : World) (o : Oper) (r : R) : Prop :=
  ∀ (next : Act → World → Prop) (Q : Exit → Act → World → Prop),
    (∀ v w' ρ', Rel W A K { s with heap := r.heap } a w' ρ' → AR (St.O { s with heap := r.heap } A ρ') ρ' (St.H { s with heap := r.heap }) w' v r.val → next (a.put o.dst v) w') → o.wp P a w next Q

theorem Does.goes {o : Oper} {r : R} (h : Does P W A K s a w o r) : Goes P W A K s a w o r := by
  intro next Q hn
  obtain ⟨v, w', ρ', hrun, h1, h2⟩ := h
  unfold Oper.wp
  rcases hrun with hrun | ⟨hrun, rfl⟩
  · rw [hrun]; exact hn v w' ρ' h1 h2
  · rw [hrun]; exact hn undef w' ρ' h1 h2

theorem call_goes (h : Rel W A K s a w ρ) {o : Oper} {g : Gd} (hg : g.val = true) {tb : Tab} (hT : TabOk P tb) {names : List (Nat × Nat)} {H' : List (Nat × Obj)} {res : AT} {r : R} (hs : callStep P tb names H' res s g o.op = some r) (hc : AllC r.conds) : Goes P W A K s a w o r := by
  unfold callStep at hs
  split at hs
  · rename_i c hop
    split at hs
    · rename_i fo hcal
      split at hs
      · rename_i gf f b xs q hfo hxs
        split at hs
        · rename_i hcond
          injection hs with hs; subst hs
          simp only [Bool.and_eq_true] at hcond
          obtain ⟨⟨⟨hfn, hfr⟩, _⟩, hclo⟩ := hcond
          have hclosed := closedB_in hclo
          obtain ⟨hc123, hc4⟩ := AllC_append.1 hc
          obtain ⟨hc12, hc3⟩ := AllC_append.1 hc123
          obtain ⟨hc1, hc2⟩ := AllC_append.1 hc12
          have hf := opT_sound h hfo (needs_of hg hc1)
          have hfv : a.eval fo = .func (.func f) #[] #[] := by
            obtain ⟨c1, hcc, hf⟩ := hf
            simp at hcc; subst hcc
            generalize a.eval fo = v at hf
            cases hf with
            | clo vals hl hr =>
              have : vals = [] := List.length_eq_zero_iff.1 (by simpa using hl)
              subst this; rfl
          have hargs := argsV_ar h hg hxs hc2
          obtain ⟨hac, _⟩ := hc3
          have hac := hac hg
          simp only [freshB, Bool.and_eq_true, List.all_eq_true, Bool.not_eq_true'] at hfr
          obtain ⟨hfr1, hfr2⟩ := hfr
          have hent : entered P f = true := by
            simp only [List.any_eq_true] at hfn
            obtain ⟨k, hk, hkf⟩ := hfn
            have := Nat.eq_of_beq_eq_true hkf; subst this
            exact hT.fns hk
          have hrun : (execOp a.eval o).run P w = .ok (.enter f (c.args.toList.map a.eval).toArray) w := by
            unfold entered at hent
            split at hent
            · rename_i fn hfn2
              simp only [Bool.and_eq_true, Bool.not_eq_true'] at hent
              have e2 : c.args.map a.eval = (c.args.toList.map a.eval).toArray := by apply Array.ext'; simp
              have n1 : ¬ (fn.name == "runtime.NumGoroutine") = true := by rw [hent.1]; simp
              have n2 : ¬ fn.body.isNone = true := by rw [hent.2]; simp
              simp only [execOp, hop, resolve, hcal, hfv, Deferred.ofValue, Sem.run_bind, Sem.run_pure, Result.andThen_ok, invoke, callFunc, run_program, hfn2, n1, n2, if_false]
              simp [e2]
            · cases hent
          have hlt : ∀ b, s.O A ρ b → b < w.heap.size := by
            rintro b (hb | hb)
            · exact Nat.lt_of_lt_of_le (h.al b hb) h.ext.size
            · exact h.owned_lt hb
          have hmr0 : ∀ Ac : Nat → Prop, MR Ac ρ (look · ([] : List (Nat × Obj))) w := fun Ac => ⟨fun id o ho => by simp [look] at ho, fun i j a b g hi => by simp [look] at hi, fun id o g ho => by simp [look] at ho⟩
          have hown0 : ∀ b, ¬ owned ρ (look · ([] : List (Nat × Obj))) b := by rintro b ⟨id, o, ho, _⟩; simp [look] at ho
          intro next Q hn
          unfold Oper.wp
          rw [hrun]
          show Calls P f _ w _
          have back : ∀ (Ac : Nat → Prop) (e : Ending) (w' : World), (∃ ρ' v, e = .returned v ∧ Ext (fun b => b < w.heap.size ∧ ¬ owned ρ (look · ([] : List (Nat × Obj))) b) w w' ∧ MR Ac ρ' (look · H') w' ∧
              (∀ id o g, look id H' = some o → blk (ρ' id) = some g → g < w'.heap.size ∧ (owned ρ (look · ([] : List (Nat × Obj))) g ∨ w.heap.size ≤ g)) ∧ AR (fun b => Ac b ∨ owned ρ' (look · H') b) ρ' (look · H') w' v res) →
              (∀ b, b < w'.heap.size → s.O A ρ b → Ac b) → (match e, w' with | .returned v, w'' => next (a.put o.dst v) w'' | .panicked chain, w'' => Q (.panic chain) a w'' | .outgrown, _ => LetsOut Q) := by
            rintro Ac e w' ⟨ρ', v, rfl, hext, hmr, hpl, hv⟩ hAc
            obtain ⟨ρ'', hrel, har⟩ := call_back h hfr1 hfr2 hclosed ⟨hext.os, hext.tape, hext.output, hext.size, fun b hb => hext.block b ⟨hb, hown0 b⟩⟩ hmr
              (fun id o g ho hb => by obtain ⟨q1, q2⟩ := hpl id o g ho hb; exact ⟨q1, q2.resolve_left (hown0 g)⟩) hAc hv
            exact hn v w' ρ'' hrel har
          cases b with
          | false =>
            refine (hac w (s.O A ρ) ρ _ hlt (hmr0 _) (fun id o g ho => by simp [look] at ho) ?_).mono fun e w' hp => back (s.O A ρ) e w' hp (fun b _ hb => hb)
            have := hargs.2 rfl ρ
            refine ⟨this.1, fun k v x hv hx => (this.2 k v x hv hx).mono (fun _ _ _ => rfl) (fun b _ hb => hb.resolve_right (hown0 b)) (fun id o' _ ho => by simp [look] at ho)⟩
          | true =>
            have hplain : Plain H' res := hc4.1
            refine (hac w (fun _ => False) ρ _ (fun _ hf => hf.elim) (hmr0 _) (fun id o g ho => by simp [look] at ho) ?_).mono fun e w' hp => back (s.O A ρ) e w' ?_ (fun b _ hb => hb)
            · have := hargs.1 ρ
              refine ⟨this.1, fun k v x hv hx => (this.2 k v x hv hx).mono (fun _ _ _ => rfl) (fun b _ hb => (hown0 b (hb.resolve_left fun hf => hf)).elim) (fun id o' _ ho => by simp [look] at ho)⟩
            · obtain ⟨ρ', v, rfl, hext, hmr, hpl, hv⟩ := hp
              refine ⟨ρ', v, rfl, hext, hmr.plain hplain.2 (fun id o g ho hb hO => ?_), hpl, hv.plain hplain.1⟩
              have := (hpl id o g ho hb).2.resolve_left (hown0 g)
              have := hlt g hO
              omega
        · cases hs
      · cases hs
    · cases hs
  · cases hs

end
end Go.Abs
