/- A part of the proofs of this seat: what functions of the program compute, and what follows from it; without conditions. -/
import Derived.Test.YtoooalfhjcfinaaA1

namespace Go.Abs
set_option linter.unusedVariables false
set_option linter.unusedSimpArgs false
variable {P : Program}

/-! ### Operations on values -/
def binV (tb : Tab) (op : BinOp) (t : Nat) (a b : Value) : Option (Value × List Prop) :=
  match a, b with
  | .int k m, .int j n =>
    match op with
    | .shl => some (.int k (k.wrap (m * 2 ^ min n.toNat k.bits)), [0 ≤ n])
    | .shr => some (.int k (m.fdiv (2 ^ min n.toNat k.bits)), [0 ≤ n])
    | op => if k = j then
        match op with
        | .add => some (.int k (k.wrap (m + n)), [])
        | .sub => some (.int k (k.wrap (m - n)), [])
        | .mul => some (.int k (k.wrap (m * n)), [])
        | .quo => some (.int k (k.wrap (m.tdiv n)), [n ≠ 0])
        | .rem => some (.int k (m.tmod n), [n ≠ 0])
        | .and => some (.int k (bits .and k m n), [])
        | .or => some (.int k (bits .or k m n), [])
        | .xor => some (.int k (bits .xor k m n), [])
        | .andNot => some (.int k (bits .andNot k m n), [])
        | .eql => some (.bool (m == n), [])
        | .neq => some (.bool (m != n), [])
        | .lss => some (.bool (decide (m < n)), [])
        | .leq => some (.bool (decide (m ≤ n)), [])
        | .gtr => some (.bool (decide (m > n)), [])
        | .geq => some (.bool (decide (m ≥ n)), [])
        | _ => none
      else none
  | .bool m, .bool n =>
    match look t tb.kin with
    | some .bool =>
      match op with
      | .eql => some (.bool (m == n), [])
      | .neq => some (.bool (!(m == n)), [])
      | _ => none
    | _ => none
  | .string m, .string n =>
    match op with
    | .add => some (.string (m ++ n), [m.size + n.size ≤ 9223372036854775807])
    | .eql => some (.bool (m.toList == n.toList), [])
    | .neq => some (.bool (!(m.toList == n.toList)), [])
    | .lss => some (.bool (Op.bytesLess m.toList n.toList), [])
    | .leq => some (.bool (Op.bytesLess m.toList n.toList || m.toList == n.toList), [])
    | .gtr => some (.bool (!(Op.bytesLess m.toList n.toList || m.toList == n.toList)), [])
    | .geq => some (.bool (!Op.bytesLess m.toList n.toList), [])
    | _ => none
  | .slice p _ _, .slice none 0 0 =>
    match look t tb.slc with
    | some _ =>
      match op with
      | .eql => some (.bool p.isNone, [])
      | .neq => some (.bool (!p.isNone), [])
      | _ => none
    | none => none
  | _, _ => none

def AllC : List Prop → Prop
  | [] => True
  | c :: r => c ∧ AllC r

theorem AllC_append {l r : List Prop} : AllC (l ++ r) ↔ AllC l ∧ AllC r := by
  induction l with
  | nil => simp [AllC]
  | cons c l ih => simp [AllC, ih, and_assoc]

theorem slc_spec {t e es by_ : Nat} (h : sliceAt P t = some (e, es, by_)) : ∃ i z, P.underlying t = some (.slice e) ∧ P.info? e = some i ∧ i.zero = some z ∧ i.size = es ∧ i.bytes = by_ ∧ z.cells.size = es ∧ 0 < es := by
  unfold sliceAt at h
  split at h
  · rename_i e' hu
    simp only [Option.bind_eq_some_iff] at h
    obtain ⟨i, hi, z, hz, h⟩ := h
    split at h
    · cases h
    · rename_i hn
      injection h with h; injection h with h1 h2; injection h2 with h2 h3
      subst h1; subst h2; subst h3
      have n1 : i.size ≠ 0 := fun e => hn (.inl e)
      have n2 : z.cells.size = i.size := Classical.byContradiction fun e => hn (.inr e)
      exact ⟨i, z, hu, hi, hz, rfl, rfl, n2, by omega⟩
  · cases h

theorem run_equalIn_sl (w : World) (d : Nat) (t e : TypeId) (a : Option Addr) (l c : Nat) (h : P.underlying t = some (.slice e)) : (Op.equalIn (d + 1) t (.slice a l c) (.slice none 0 0)).run P w = .ok a.isNone w := by
  cases a <;> simp [Op.equalIn, run_underlying h]
theorem run_eql_sl (w : World) (t e : TypeId) (a : Option Addr) (l c : Nat) (h : P.underlying t = some (.slice e)) : (binOp .eql t (.slice a l c) (.slice none 0 0)).run P w = .ok (.bool a.isNone) w := by
  have : (Op.equal t (.slice a l c) (.slice none 0 0)).run P w = .ok a.isNone w := run_equalIn_sl w 9999 t e a l c h
  simp only [binOp]
  simp [this]
theorem run_neq_sl (w : World) (t e : TypeId) (a : Option Addr) (l c : Nat) (h : P.underlying t = some (.slice e)) : (binOp .neq t (.slice a l c) (.slice none 0 0)).run P w = .ok (.bool (!a.isNone)) w := by
  have : (Op.equal t (.slice a l c) (.slice none 0 0)).run P w = .ok a.isNone w := run_equalIn_sl w 9999 t e a l c h
  simp only [binOp]
  simp [this]

theorem binV_run {tb : Tab} (hT : TabOk P tb) {op : BinOp} {t : Nat} {a b v : Value} {cs : List Prop} (h : binV tb op t a b = some (v, cs)) (hc : AllC cs) (x y : Operand) (w : World) :
    (do eqGuard op t x y a b; binOp op t a b : Sem Value).run P w = .ok v w ∧ v.oneCell' = true := by
  unfold binV at h
  split at h
  · rename_i k m j n
    split at h
    · simp at h; obtain ⟨rfl, rfl⟩ := h
      have h0 : 0 ≤ n := hc.1
      refine ⟨?_, rfl⟩
      rw [eqGuard_at_int, binOp_shl]
      simp [Op.shift]; omega
    · simp at h; obtain ⟨rfl, rfl⟩ := h
      have h0 : 0 ≤ n := hc.1
      refine ⟨?_, rfl⟩
      rw [eqGuard_at_int, binOp_shr]
      simp [Op.shift]; omega
    · split at h
      · rename_i hk
        subst hk
        split at h <;> simp at h <;> (try obtain ⟨rfl, rfl⟩ := h) <;> (try refine ⟨?_, rfl⟩) <;> (try rw [eqGuard_at_int])
        · rw [binOp_add]; rfl
        · rw [binOp_sub]; rfl
        · rw [binOp_mul]; rfl
        · have h0 : n ≠ 0 := hc.1
          rw [binOp_quo]; simp [Op.intDiv, h0]
        · have h0 : n ≠ 0 := hc.1
          rw [binOp_rem]; simp [Op.intDiv, h0]
        · rw [binOp_and, intBits_and]; rfl
        · rw [binOp_or, intBits_or]; rfl
        · rw [binOp_xor, intBits_xor]; rfl
        · rw [binOp_andNot, intBits_andNot]; rfl
        · rw [binOp_eql]; rfl
        · rw [binOp_neq]; rfl
        · rw [binOp_lss]; rfl
        · rw [binOp_leq]; rfl
        · rw [binOp_gtr]; rfl
        · rw [binOp_geq]; rfl
      · cases h
  · rename_i m n
    split at h
    · rename_i hk
      have hu : P.underlying t = some .bool := by
        have := hT.kin hk
        unfold kinOf at this
        split at this <;> simp at this
        assumption
      split at h
      · simp at h; obtain ⟨rfl, rfl⟩ := h
        refine ⟨?_, rfl⟩
        rw [eqGuard_at_bool]
        simp [binOp, Op.equal, Op.maxDepth, run_equalIn_bool' w 9999 t m n hu]
      · simp at h; obtain ⟨rfl, rfl⟩ := h
        refine ⟨?_, rfl⟩
        rw [eqGuard_at_bool]
        simp [binOp, Op.equal, Op.maxDepth, run_equalIn_bool' w 9999 t m n hu]
      · cases h
    · cases h
  · rename_i m n
    split at h <;> simp at h <;> (try obtain ⟨rfl, rfl⟩ := h) <;> (try refine ⟨?_, rfl⟩) <;> (try rw [eqGuard_at_string])
    · have h0 : m.size + n.size ≤ 9223372036854775807 := hc.1
      have h1 := run_string_add_sum (P := P) w m n h0
      simp [binOp, h1]
    all_goals simp [binOp, Op.stringOp]
  · rename_i p n c
    split at h
    · rename_i hk
      obtain ⟨inf, zv, hu, _⟩ := slc_spec (hT.slc hk)
      split at h
      · simp at h; obtain ⟨rfl, rfl⟩ := h
        refine ⟨?_, rfl⟩
        rw [eqGuard_at_slice]
        rw [Sem.run_bind, Sem.run_pure, Result.andThen_ok]
        rw [run_eql_sl _ _ _ _ _ _ hu]; try rfl
      · simp at h; obtain ⟨rfl, rfl⟩ := h
        refine ⟨?_, rfl⟩
        rw [eqGuard_at_slice]
        rw [Sem.run_bind, Sem.run_pure, Result.andThen_ok]
        rw [run_neq_sl _ _ _ _ _ _ hu]; first | done | rfl | (cases p <;> rfl)
      · cases h
    · cases h
  · cases h

def unV (op : UnOp) (a : Value) : Option Value :=
  match op, a with
  | .neg, .int k n => some (.int k (k.wrap (0 - n)))
  | .xor, .int k n => some (.int k (bits .xor k (if k.signed then -1 else k.max) n))
  | .not, .bool b => some (.bool (!b))
  | _, _ => none

theorem unV_run {op : UnOp} {a v : Value} (h : unV op a = some v) (w : World) : (Op.unary op a).run P w = .ok v w ∧ v.oneCell' = true := by
  unfold unV at h
  split at h <;> (try (injection h with h; subst h))
  · exact ⟨rfl, rfl⟩
  · exact ⟨rfl, rfl⟩
  · exact ⟨rfl, rfl⟩
  · cases h

/-- Cells that are known values. -/
def litsOf : List Cell → Option (List Value)
  | [] => some []
  | .t (.lit v) :: r => (litsOf r).map (v :: ·)
  | _ :: _ => none

theorem litsOf_spec {O : Nat → Prop} {ρ : Nat → Value} {H : Nat → Option Obj} {w : World} : ∀ {cs : List Cell} {vs us : List Value}, litsOf cs = some vs → CRs O ρ H w us cs → us = vs
  | [], vs, us, h, hc => by simp [litsOf] at h; subst h; exact List.length_eq_zero_iff.1 hc.1
  | .t (.lit v) :: r, vs, u :: us, h, hc => by
    simp only [litsOf, Option.map_eq_some_iff] at h
    obtain ⟨vs', h', rfl⟩ := h
    have h0 := hc.2 0 u _ rfl rfl
    have e0 : u = v := by cases h0 with | t h0 => cases h0; rfl
    have := litsOf_spec h' (us := us) ⟨by have := hc.1; simp at this; exact this, fun k a c ha hcc => hc.2 (k + 1) a c (by simpa using ha) (by simpa using hcc)⟩
    rw [e0, this]
  | .t (.lit v) :: r, vs, [], h, hc => by have := hc.1; simp at this
  | .t (.ro ..) :: _, _, _, h, _ => by simp [litsOf] at h
  | .own _ :: _, _, _, h, _ => by simp [litsOf] at h
  | .ptr .. :: _, _, _, h, _ => by simp [litsOf] at h
  | .rop _ :: _, _, _, h, _ => by simp [litsOf] at h
  | .clo .. :: _, _, _, h, _ => by simp [litsOf] at h

/-- What an operation comes to: its value, the memory behind it, and what must hold. -/
structure R : Type 1 where
  val : AT
  heap : List (Nat × Obj)
  conds : List Prop

def lit (v : Value) : AT := .v false [.t (.lit v)]

def binA (tb : Tab) (op : BinOp) (t : Nat) (x y : AT) : Option (AT × List Prop) :=
  match x, y with
  | .v false [.t (.lit a)], .v false [.t (.lit b)] => (binV tb op t a b).map fun r => (lit r.1, r.2)
  | .v true xs, .v true ys =>
    match look t tb.eqs, litsOf xs, litsOf ys with
    | some ks, some as, some bs =>
      match op with
      | .eql => (eqVals ks as bs).map fun b => (lit (.bool b), [])
      | .neq => (eqVals ks as bs).map fun b => (lit (.bool (!b)), [])
      | _ => none
    | _, _, _ => none
  | .v false [.t (.ro _ _ _ (_ :: _))], .v false [.t (.lit (.slice none 0 0))] =>
    match look t tb.slc, op with
    | some _, .eql => some (lit (.bool false), [])
    | some _, .neq => some (lit (.bool true), [])
    | _, _ => none
  | _, _ => none

section
variable {O : Nat → Prop} {ρ : Nat → Value} {H : Nat → Option Obj} {w : World}

theorem lit_ar {v : Value} (h : v.oneCell' = true) : AR O ρ H w v (lit v) := ⟨_, rfl, .t (.lit v h)⟩

theorem lit_inv {u v : Value} (h : AR O ρ H w u (.v false [.t (.lit v)])) : u = v := by
  obtain ⟨c, hc, h⟩ := h
  simp at hc; subst hc
  cases h with | t h => cases h; rfl

theorem binA_run {tb : Tab} (hT : TabOk P tb) {op : BinOp} {t : Nat} {x y r : AT} {cs : List Prop} (h : binA tb op t x y = some (r, cs)) (hc : AllC cs) {a b : Value} (ha : AR O ρ H w a x) (hb : AR O ρ H w b y) (p q : Operand) :
    ∃ v, (do eqGuard op t p q a b; binOp op t a b : Sem Value).run P w = .ok v w ∧ AR O ρ H w v r := by
  unfold binA at h
  split at h
  · simp only [Option.map_eq_some_iff] at h
    obtain ⟨⟨v, cs'⟩, hv, he⟩ := h
    injection he with e1 e2; subst e1; subst e2
    have := lit_inv ha; subst this
    have := lit_inv hb; subst this
    obtain ⟨h1, h2⟩ := binV_run hT hv hc p q w
    exact ⟨v, h1, lit_ar h2⟩
  · rename_i xs ys
    split at h
    · rename_i ks as bs hk hx hy
      obtain ⟨⟨hl, hg⟩, hlay⟩ := hT.eqs hk
      obtain ⟨us, rfl, hus⟩ := ha
      obtain ⟨vs, rfl, hvs⟩ := hb
      have e1 := litsOf_spec hx hus; subst e1
      have e2 := litsOf_spec hy hvs; subst e2
      have hlen : ∀ {b}, eqVals ks us vs = some b → (Op.equalIn 10000 t (.agg us.toArray) (.agg vs.toArray)).run P w = .ok b w := by
        intro b hb
        exact leaves_equal 100 t ks hl hlay 10000 (by omega) w us vs b hb
      split at h
      · simp only [Option.map_eq_some_iff] at h
        obtain ⟨b, hb, he⟩ := h
        injection he with e1 e2; subst e1; subst e2
        refine ⟨.bool b, ?_, lit_ar rfl⟩
        simp only [Sem.run_bind, run_eqGuard_agg w .eql t p q _ _ hg, Result.andThen_ok, run_eql_struct, hlen hb]
      · simp only [Option.map_eq_some_iff] at h
        obtain ⟨b, hb, he⟩ := h
        injection he with e1 e2; subst e1; subst e2
        refine ⟨.bool (!b), ?_, lit_ar rfl⟩
        simp only [Sem.run_bind, run_eqGuard_agg w .neq t p q _ _ hg, Result.andThen_ok, run_neq_struct, hlen hb]
      · cases h
    · cases h
  · rename_i T es enc z y r
    have hb2 := lit_inv hb; subst hb2
    obtain ⟨c, hc, ha⟩ := ha
    simp at hc; subst hc
    have ht := ha.tr
    cases ht with
    | ro ad cap vals =>
      split at h
      · rename_i hk
        obtain ⟨inf, zv, hu, _⟩ := slc_spec (hT.slc hk)
        injection h with h; injection h with e1 e2; subst e1; subst e2
        refine ⟨.bool false, ?_, lit_ar rfl⟩
        rw [eqGuard_at_slice]
        rw [Sem.run_bind, Sem.run_pure, Result.andThen_ok]
        rw [run_eql_sl _ _ _ _ _ _ hu]; try rfl
      · rename_i hk
        obtain ⟨inf, zv, hu, _⟩ := slc_spec (hT.slc hk)
        injection h with h; injection h with e1 e2; subst e1; subst e2
        refine ⟨.bool true, ?_, lit_ar rfl⟩
        rw [eqGuard_at_slice]
        rw [Sem.run_bind, Sem.run_pure, Result.andThen_ok]
        rw [run_neq_sl _ _ _ _ _ _ hu]; first | done | rfl | (cases p <;> rfl)
      · cases h
  · cases h

end
end Go.Abs

namespace Go.Abs
set_option linter.unusedVariables false
set_option linter.unusedSimpArgs false
variable {P : Program}

/-- What a session says at an operation: the new list of a slice, typed; what a call answers. -/
inductive Hint : Type 1
  | no
  | obj (o : Obj)
  | call (names : List (Nat × Nat)) (H' : List (Nat × Obj)) (res : AT)
  | fz (o : Obj)
  | callM (ids kept : List Nat) (names : List (Nat × Nat)) (H' : List (Nat × Obj)) (res : AT)

def needs (g : Gd) : Gd → List Prop
  | .yes => []
  | .on p => [g.val = true → p = true]

def pickC (g : Gd) (b want : Bool) : Gd → List Prop
  | .yes => []
  | .on p => [g.val = true → b = want → p = true]

/-- A slice's elements, as they may be appended: those of an owned slice, or of one that is only read. -/
def elemsT (s : St) : Cell → Option Tree
  | .own id => match s.H id with
    | some (.rows _ es enc z ys) => some (.ro es enc z ys)
    | _ => none
  | .t x => some x
  | _ => none

/-- A row's element is written in part: the element behind it is x. -/
inductive Stored : Obj → Nat → Nat → List Cell → Obj → Prop
  | mk {T : Type} {ty es : Nat} {enc : T → List Tree} {z : T} {xs : List T} {i j n : Nat} (x : T) (hi : i < xs.length) (hj : j + n ≤ es) (hl : (enc x).length = es)
      (h1 : (enc x).take j = (enc (xs.getD i z)).take j) (h2 : (enc x).drop (j + n) = (enc (xs.getD i z)).drop (j + n)) :
      Stored (.rows ty es enc z xs) i j (((enc x).map Cell.t).drop j |>.take n) (.rows ty es enc z (xs.set i x))

/-- An owned slice, with more behind it. -/
inductive Appended : Obj → Tree → Nat → Nat → Nat → Obj → Prop
  | mk {T : Type} {ty es by_ : Nat} {enc : T → List Tree} {z z' : T} {xs ys : List T} (hl : ∀ y ∈ ys, (enc y).length = es)
      (h63 : (xs.length + ys.length) ≤ maxLen) (hb : (xs.length + ys.length) * by_ ≤ 140737488355328) : Appended (.rows ty es enc z xs) (.ro es enc z' ys) ty es by_ (.rows ty es enc z (xs ++ ys))
  | nil {T : Type} {ty es by_ : Nat} {enc : T → List Tree} {z : T} {xs : List T} {p : Option Addr} {c : Nat} (hp : p = none → c = 0) (h63 : xs.length ≤ maxLen) (hb : xs.length * by_ ≤ 140737488355328) : Appended (.rows ty es enc z xs) (.lit (.slice p 0 c)) ty es by_ (.rows ty es enc z xs)

/-- A new slice of zeros. -/
inductive Made : List Tree → Int → Nat → Nat → Nat → Obj → Prop
  | mk {T : Type} {ty es by_ : Nat} {enc : T → List Tree} {z : T} {n : Int} (h0 : 0 ≤ n) (hz : (enc z).length = es) (h63 : n.toNat ≤ maxLen) (hb : by_ * n.toNat ≤ 281474976710656) : Made (enc z) n ty es by_ (.rows ty es enc z (List.replicate n.toNat z))

/-- A slice that is written out. -/
inductive Built : List (List Cell) → Nat → Nat → Obj → Prop
  | mk {T : Type} {ty es : Nat} {enc : T → List Tree} {z : T} {xs : List T} (hl : ∀ x ∈ xs, (enc x).length = es) (hm : xs.length * es ≤ 16777216) : Built (xs.map fun x => (enc x).map Cell.t) ty es (.rows ty es enc z xs)

def pickA (x y : AT) (b : Bool) : Option AT :=
  match x, y with
  | .v false [.t (.lit (.bool m))], .v false [.t (.lit (.bool n))] => some (lit (.bool (bif b then m else n)))
  | _, _ => none

def splice (cs ps : List Cell) (off : Nat) : List Cell := cs.take off ++ ps ++ cs.drop (off + ps.length)

/-- The parts of a struct put into its zero. -/
def fillA (fs : List (Nat × Nat × Bool)) (s : St) (g : Gd) : List (Nat × Operand) → List Cell → Option (List Cell × List Prop)
  | [], cs => some (cs, [])
  | (k, x) :: r, cs =>
    match fs[k]?, opT s x with
    | some (off, n, _), some (gx, .v _ ps) =>
      if ps.length = n ∧ off + n ≤ cs.length then (fillA fs s g r (splice cs ps off)).map fun q => (q.1, needs g gx ++ q.2) else none
    | _, _ => none

def elemsA (s : St) (g : Gd) (es : Nat) : Nat → List (Nat × Operand) → Option (List (List Cell) × List Prop)
  | _, [] => some ([], [])
  | i, (k, x) :: r =>
    match opT s x with
    | some (gx, .v _ ps) => if k = i ∧ ps.length = es then (elemsA s g es (i + 1) r).map fun q => (ps :: q.1, needs g gx ++ q.2) else none
    | _ => none

def capsA (s : St) (g : Gd) : List Operand → Option (List Cell × List Prop)
  | [] => some ([], [])
  | x :: r =>
    match opT s x with
    | some (gx, .v false [c]) => (capsA s g r).map fun q => (c :: q.1, needs g gx ++ q.2)
    | _ => none

def lenA (s : St) (tb : Tab) (t : Nat) : AT → Option Int
  | .v false [.own id] => match s.H id with
    | some (.rows _ _ _ _ xs) => some xs.length
    | _ => none
  | .v false [.t (.ro _ _ _ xs)] => some xs.length
  | .v false [.t (.lit (.slice none 0 0))] => some 0
  | _ => none

/-- What an operation comes to. -/
def step (tb : Tab) (h : Hint) (s : St) (g : Gd) (dst : Option Nat) (o : Op) : Option R :=
  match o with
  | .move x | .assign x =>
    match opT s x with
    | some (gx, v) => some ⟨v, s.heap, needs g gx⟩
    | none => none
  | .pick c x y =>
    match opT s c, opT s x, opT s y with
    | some (gc, .v false [.t (.lit (.bool b))]), some (gx, vx), some (gy, vy) =>
      (pickA vx vy b).map fun v => ⟨v, s.heap, needs g gc ++ pickC g b true gx ++ pickC g b false gy⟩
    | _, _, _ => none
  | .alloc t =>
    match dst, look t tb.zero, g with
    | some d, some zs, .yes => if s.has d then none else some ⟨.v false [.ptr d 0 0], hset d (.box t (zs.map Cell.t)) s.heap, []⟩
    | _, _, _ => none
  | .box t x =>
    match dst, opT s x, g with
    | some d, some (gx, .v _ cs), .yes => if s.has d then none else some ⟨.v false [.ptr d 0 0], hset d (.box t cs) s.heap, needs g gx⟩
    | _, _, _ => none
  | .load t x =>
    match opT s x, look t tb.lay with
    | some (gx, .v false [.ptr id i j]), some (n, b) =>
      match s.H id with
      | some (.box _ cells) =>
        let cs := (cells.drop j).take n
        if cs.length = n ∧ (b || Nat.beq n 1) = true then some ⟨.v b cs, s.heap, needs g gx⟩ else none
      | some (.rows _ _ enc z xs) =>
        let cs := ((enc (xs.getD i z)).drop j).take n
        if cs.length = n ∧ (b || Nat.beq n 1) = true then some ⟨.v b (cs.map Cell.t), s.heap, needs g gx ++ [g.val = true → i < xs.length]⟩ else none
      | _ => none
    | some (gx, .v false [.rop cells]), some (n, b) =>
      let cs := cells.take n
      if cs.length = n ∧ (b || Nat.beq n 1) = true then some ⟨.v b (cs.map Cell.t), s.heap, needs g gx⟩ else none
    | _, _ => none
  | .store t x y =>
    match opT s x, opT s y, look t tb.lay, g, dst with
    | some (gx, .v false [.ptr id i j]), some (gy, .v _ cs), some (n, _), .yes, none =>
      if cs.length = n then
        match s.H id, h with
        | some (.box ty cells), _ => if j + n ≤ cells.length then some ⟨.tp [], hset id (.box ty (cells.take j ++ cs ++ cells.drop (j + n))) s.heap, needs g gx ++ needs g gy⟩ else none
        | some o, .obj o' => some ⟨.tp [], hset id o' s.heap, needs g gx ++ needs g gy ++ [Stored o i j cs o']⟩
        | _, _ => none
      else none
    | _, _, _, _, _ => none
  | .nilCheck x =>
    match opT s x with
    | some (gx, .v false [.ptr id i j]) => match s.H id with
      | some _ => some ⟨.v false [.ptr id i j], s.heap, needs g gx⟩
      | none => none
    | some (gx, .v false [.rop c]) => some ⟨.v false [.rop c], s.heap, needs g gx⟩
    | some (gx, .v false [.clo f c]) => some ⟨.v false [.clo f c], s.heap, needs g gx⟩
    | _ => none
  | .binOp op t x y _ =>
    match opT s x, opT s y with
    | some (gx, vx), some (gy, vy) => (binA tb op t vx vy).map fun r => ⟨r.1, s.heap, needs g gx ++ needs g gy ++ r.2.map fun c => (g.val = true → c)⟩
    | _, _ => none
  | .unOp op _ x =>
    match opT s x with
    | some (gx, .v false [.t (.lit a)]) => (unV op a).map fun v => ⟨lit v, s.heap, needs g gx⟩
    | _ => none
  | .convert src t x =>
    match opT s x, look src tb.kin, look t tb.kin with
    | some (gx, .v false [.t (.lit (.int _ n))]), some _, some (.int k) => some ⟨lit (.int k (k.wrap n)), s.heap, needs g gx⟩
    | _, _, _ => none
  | .makeFunc (.func f) first caps =>
    match first.toList, capsA s g caps.toList with
    | [], some (cs, q) => some ⟨.v false [.clo f cs], s.heap, q⟩
    | _, _ => none
  | .makeSlice t l c =>
    match dst, opT s l, opT s c, look t tb.slc, g, h with
    | some d, some (gl, .v false [.t (.lit (.int _ n))]), some (gc, .v false [.t (.lit (.int _ m))]), some (e, es, by_), .yes, .obj o =>
      match look e tb.zero with
      | some zs => if s.has d then none else some ⟨.v false [.own d], hset d o s.heap, needs g gl ++ needs g gc ++ [n = m, Made zs n e es by_ o]⟩
      | none => none
    | _, _, _, _, _, _ => none
  | .fieldAddr t x k =>
    match opT s x, (look t tb.fld).bind (·[k]?) with
    | some (gx, .v false [.ptr id i j]), some (off, _, _) => match s.H id with
      | some _ => some ⟨.v false [.ptr id i (j + off)], s.heap, needs g gx⟩
      | none => none
    | some (gx, .v false [.rop cs]), some (off, n, _) => if off < cs.length then some ⟨.v false [.rop (cs.drop off)], s.heap, needs g gx⟩ else none
    | _, _ => none
  | .field t x k =>
    match opT s x, (look t tb.fld).bind (·[k]?) with
    | some (gx, .v true cs), some (off, n, b) =>
      let ps := (cs.drop off).take n
      if off + n ≤ cs.length ∧ (b || Nat.beq n 1) = true then some ⟨.v b ps, s.heap, needs g gx⟩ else none
    | _, _ => none
  | .indexAddr t x i =>
    match opT s x, opT s i, look t tb.slc with
    | some (gx, .v false [.own id]), some (gi, .v false [.t (.lit (.int _ n))]), some (_, es, _) =>
      match s.H id with
      | some (.rows _ es' _ _ xs) => if es = es' then some ⟨.v false [.ptr id n.toNat 0], s.heap, needs g gx ++ needs g gi ++ [g.val = true → 0 ≤ n ∧ n < xs.length]⟩ else none
      | _ => none
    | some (gx, .v false [.t (.ro es' enc z xs)]), some (gi, .v false [.t (.lit (.int _ n))]), some (_, es, _) =>
      if es = es' then some ⟨.v false [.rop (enc (xs.getD n.toNat z))], s.heap, needs g gx ++ needs g gi ++ [g.val = true → 0 ≤ n ∧ n < xs.length]⟩ else none
    | _, _, _ => none
  | .build t parts =>
    match look t tb.zero, look t tb.fld with
    | some zs, some fs => (fillA fs s g parts.toList (zs.map Cell.t)).map fun q => ⟨.v true q.1, s.heap, q.2⟩
    | _, _ => none
  | .buildSlice t len parts =>
    match dst, look t tb.slc, g, h with
    | some d, some (e, es, _), .yes, .obj o =>
      match elemsA s g es 0 parts.toList with
      | some (css, q) => if s.has d ∨ css.length ≠ len then none else some ⟨.v false [.own d], hset d o s.heap, q ++ [Built css e es o]⟩
      | none => none
    | _, _, _, _ => none
  | .slice t x lo hi mx =>
    match opT s x, look t tb.slc, mx with
    | some (gx, .v false [.t (.ro es' enc z xs)]), some (_, es, _), none =>
      if es = es' then
        match lo, hi with
        | none, none => some ⟨.v false [.t (.ro es enc z xs)], s.heap, needs g gx⟩
        | some l, none => match opT s l with
          | some (gl, .v false [.t (.lit (.int _ n))]) => some ⟨.v false [.t (.ro es enc z (xs.drop n.toNat))], s.heap, needs g gx ++ needs g gl ++ [g.val = true → 0 ≤ n ∧ n ≤ xs.length]⟩
          | _ => none
        | none, some u => match opT s u with
          | some (gu, .v false [.t (.lit (.int _ m))]) => some ⟨.v false [.t (.ro es enc z (xs.take m.toNat))], s.heap, needs g gx ++ needs g gu ++ [g.val = true → 0 ≤ m ∧ m ≤ xs.length]⟩
          | _ => none
        | some l, some u => match opT s l, opT s u with
          | some (gl, .v false [.t (.lit (.int _ n))]), some (gu, .v false [.t (.lit (.int _ m))]) =>
            some ⟨.v false [.t (.ro es enc z ((xs.take m.toNat).drop n.toNat))], s.heap, needs g gx ++ needs g gl ++ needs g gu ++ [g.val = true → 0 ≤ n ∧ n ≤ m ∧ m ≤ xs.length]⟩
          | _, _ => none
      else none
    | _, _, _ => none
  | .extract x k =>
    match opT s x with
    | some (gx, .tp xs) => match xs[k]? with
      | some (b, cs) => some ⟨.v b cs, s.heap, needs g gx⟩
      | none => none
    | _ => none
  | .call c =>
    match c.callee, c.args.toList, c.argTypes.toList with
    | .builtin .len, [x], t :: _ =>
      match opT s x with
      | some (gx, v) => match look t tb.kin, v, look t tb.slc with
        | some .str, .v false [.t (.lit (.string b))], _ => some ⟨lit (.int .i64 b.size), s.heap, needs g gx⟩
        | none, v, some _ => (lenA s tb t v).map fun n => ⟨lit (.int .i64 n), s.heap, needs g gx⟩
        | _, _, _ => none
      | none => none
    | .builtin .append, [x, y], [t, t'] =>
      match dst, opT s x, opT s y, look t tb.slc, g, h with
      | some d, some (gx, .v false [.own id]), some (gy, .v false [cy]), some (e, es, by_), .yes, .obj o =>
        match s.H id, elemsT s cy with
        | some o0, some ty => if s.has d ∨ t ≠ t' then none else some ⟨.v false [.own d], (d, o) :: del id s.heap, needs g gx ++ needs g gy ++ [Appended o0 ty e es by_ o]⟩
        | _, _ => none
      | _, _, _, _, _, _ => none
    | _, _, _ => none
  | _ => none

end Go.Abs

namespace Go.Abs
set_option linter.unusedVariables false
set_option linter.unusedSimpArgs false
variable {P : Program}

theorem needs_of {g gx : Gd} (hg : g.val = true) (h : AllC (needs g gx)) : gx.val = true := by
  cases gx with
  | yes => rfl
  | on p => exact h.1 hg

theorem pickC_of {g gx : Gd} {b : Bool} (hg : g.val = true) (h : AllC (pickC g b b gx)) : gx.val = true := by
  cases gx with
  | yes => rfl
  | on p => exact h.1 hg rfl

section
variable {W : World} {A K : Nat → Prop} {s : St} {a : Act} {w : World} {ρ : Nat → Value}

/-- What a step is worth: the operation runs, and the new state is told. -/
def Does (P : Program) (W : World) (A K : Nat → Prop) (s : St) (a : Act) (w : World) (o : Oper) (r : R) : Prop :=
  ∃ v w' ρ', ((execOp a.eval o).run P w = .ok (.value v) w' ∨ ((execOp a.eval o).run P w = .ok .skip w' ∧ v = undef)) ∧
    Rel W A K { s with heap := r.heap } a w' ρ' ∧ AR (St.O { s with heap := r.heap } A ρ') ρ' (St.H { s with heap := r.heap }) w' v r.val

theorem does_pure (h : Rel W A K s a w ρ) {o : Oper} {r : R} (hh : r.heap = s.heap) {v : Value} (hr : (execOp a.eval o).run P w = .ok (.value v) w) (hv : AR (s.O A ρ) ρ s.H w v r.val) : Does P W A K s a w o r := by
  refine ⟨v, w, ρ, .inl hr, ?_, ?_⟩ <;> rw [hh] <;> assumption

theorem ar_bool {O : Nat → Prop} {H : Nat → Option Obj} {v : Value} {b : Bool} (h : AR O ρ H w v (.v false [.t (.lit (.bool b))])) : v = .bool b := lit_inv h

theorem elems_cells (h : Rel W A K s a w ρ) {c : Cell} {t : Tree} (he : elemsT s c = some t) {v : Value} (hv : CR (s.O A ρ) ρ s.H w v c) :
    (∀ {T : Type} {es : Nat} {enc : T → List Tree} {z : T} {ys : List T}, t = .ro es enc z ys → ∃ news, ((v = .slice none 0 0 ∧ ys = []) ∨ ∃ ad cap, v = .slice (some ad) ys.length cap ∧ ∀ (j : Nat) u, news[j]? = some u → w.cell? (ad.add j) = some u) ∧ TRs (s.O A ρ) w news (ys.flatMap enc)) ∧
    (∀ v', t = .lit v' → v = v') := by
  unfold elemsT at he
  split at he
  · split at he
    · rename_i id x0 T ty es enc z ys ho
      injection he with he; subst he
      refine ⟨?_, fun _ h => by cases h⟩
      rintro _ _ _ _ _ ⟨⟩
      obtain ⟨vs, hown, hes, hc⟩ := h.mr.obj _ _ ho
      have hvr : v = ρ id := by
        cases hv with
        | own => rfl
        | ownj h' => rw [ho] at h'; cases h'
      subst hvr
      refine ⟨vs, ?_, hc⟩
      rcases hown.2 with ⟨e0, hx0⟩ | ⟨g, cap, cur, e0, _⟩
      · exact .inl ⟨e0, List.length_eq_zero_iff.1 hx0⟩
      · exact .inr ⟨⟨g, 0, none⟩, cap, e0, hown.cells (g := g) (by rw [e0]; rfl)⟩
    · cases he
  · injection he with he; subst he
    have ht := hv.tr
    refine ⟨?_, ?_⟩
    · rintro _ _ _ _ _ rfl
      cases ht with
      | nil => exact ⟨[], .inl ⟨rfl, rfl⟩, ⟨rfl, by simp⟩⟩
      | ro ad cap vals hcap hmax hes hlen hcell hO hrel => exact ⟨vals, .inr ⟨ad, cap, rfl, hcell⟩, ⟨hlen, hrel⟩⟩
    · rintro v' rfl
      cases ht; rfl
  · cases he

theorem tr_len {O : Nat → Prop} {v : Value} {T : Type} {es : Nat} {enc : T → List Tree} {z : T} {xs : List T} (h : TR O w v (.ro es enc z xs)) : ∃ ad cap, v = .slice ad xs.length cap := by
  cases h with
  | nil => exact ⟨none, 0, rfl⟩
  | ro ad cap => exact ⟨some ad, cap, rfl⟩

theorem run_len {t e : TypeId} (ht : P.underlying t = some (.slice e)) (ty : TypeId) (ad : Option Addr) (n c : Nat) (w : World) : (Builtin.len_ #[t] ty #[.slice ad n c]).run P w = .ok (.int .i64 n) w := by
  simp [Builtin.len_, run_underlying ht, goInt]

theorem fld_spec {t : Nat} {fs : List (Nat × Nat × Bool)} (h : fieldsAt P t = some fs) : ∃ F : Array Field, P.underlying t = some (.struct F) ∧ F.size = fs.length ∧
    ∀ (k off n : Nat) (b : Bool), fs[k]? = some (off, n, b) → ∃ f, F[k]? = some f ∧ f.offset = off ∧ lay P f.type = some (n, b) ∧ n ≠ 0 := by
  unfold fieldsAt at h
  split at h
  · rename_i F hu
    refine ⟨F, hu, ?_⟩
    have key : ∀ (l : List Field) (fs : List (Nat × Nat × Bool)), l.mapM (fun f => (lay P f.type).bind fun x => if x.1 = 0 then none else some (f.offset, x.1, x.2)) = some fs → l.length = fs.length ∧
        ∀ (k off n : Nat) (b : Bool), fs[k]? = some (off, n, b) → ∃ f, l[k]? = some f ∧ f.offset = off ∧ lay P f.type = some (n, b) ∧ n ≠ 0 := by
      intro l
      induction l with
      | nil => intro fs h; simp at h; subst h; simp
      | cons f r ih =>
        intro fs h
        simp only [List.mapM_cons, Option.bind_eq_bind, Option.pure_def, Option.bind_eq_some_iff] at h
        obtain ⟨y, ⟨x, hx, hy⟩, ys, hys, h⟩ := h
        injection h with h; subst h
        split at hy
        · cases hy
        rename_i hn
        injection hy with hy; subst hy
        obtain ⟨h1, h2⟩ := ih ys hys
        refine ⟨by simp [h1], fun k off n b hk => ?_⟩
        cases k with
        | zero => simp at hk; obtain ⟨rfl, rfl, rfl⟩ := hk; exact ⟨f, rfl, rfl, hx, hn⟩
        | succ k => simp at hk; obtain ⟨f', hf, h3⟩ := h2 k off n b hk; exact ⟨f', by simpa using hf, h3⟩
    obtain ⟨h1, h2⟩ := key F.toList fs h
    exact ⟨by simpa using h1, fun k off n b hk => by obtain ⟨f, hf, h3⟩ := h2 k off n b hk; exact ⟨f, by simpa using hf, h3⟩⟩
  · cases h

theorem kin_spec {t : Nat} {k : Kin} (h : kinOf P t = some k) : P.underlying t = some (match k with | .int k => .int k | .bool => .bool | .str => .string | .float k => .float k) := by
  unfold kinOf at h
  split at h <;> simp at h <;> subst h <;> assumption

/-! ### one lemma for each form of operation -/

theorem step_move (h : Rel W A K s a w ρ) {o : Oper} {g : Gd} (hg : g.val = true) {x : Operand} (ho : o.op = .move x ∨ o.op = .assign x) {tb : Tab} {hi : Hint} {r : R} (hs : step tb hi s g o.dst o.op = some r) (hc : AllC r.conds) : Does P W A K s a w o r := by
  have hs' : (match opT s x with | some (gx, v) => some (R.mk v s.heap (needs g gx)) | none => none) = some r := by
    rcases ho with ho | ho <;> rw [ho] at hs <;> exact hs
  split at hs'
  · rename_i gx v hx
    injection hs' with hs'; subst hs'
    have := opT_sound h hx (needs_of hg hc)
    refine does_pure h rfl (v := a.eval x) ?_ this
    rcases ho with ho | ho <;> simp [execOp, ho]
  · cases hs'

theorem step_pick (h : Rel W A K s a w ρ) {o : Oper} {g : Gd} (hg : g.val = true) {c x y : Operand} (ho : o.op = .pick c x y) {tb : Tab} {hi : Hint} {r : R} (hs : step tb hi s g o.dst o.op = some r) (hc : AllC r.conds) : Does P W A K s a w o r := by
  rw [ho] at hs
  simp only [step] at hs
  split at hs
  · rename_i gc b gx vx gy vy hcc hx hy
    simp only [Option.map_eq_some_iff] at hs
    obtain ⟨v, hv, hs⟩ := hs
    subst hs
    obtain ⟨hc12, hc3⟩ := AllC_append.1 hc
    obtain ⟨hc1, hc2⟩ := AllC_append.1 hc12
    have eb := ar_bool (opT_sound h hcc (needs_of hg hc1))
    unfold pickA at hv
    split at hv
    · rename_i m n
      injection hv with hv; subst hv
      refine does_pure h rfl (v := .bool (bif b then m else n)) ?_ (lit_ar rfl)
      cases b with
      | true =>
        have e1 := ar_bool (opT_sound h hx (pickC_of hg hc2))
        simp [execOp, ho, eb, e1, asBool]
      | false =>
        have e1 := ar_bool (opT_sound h hy (pickC_of hg hc3))
        simp [execOp, ho, eb, e1, asBool]
    · cases hv
  · cases hs

theorem step_alloc (h : Rel W A K s a w ρ) {o : Oper} {g : Gd} {t : TypeId} (ho : o.op = .alloc t) {tb : Tab} (hT : TabOk P tb) {hi : Hint} {r : R} (hs : step tb hi s g o.dst o.op = some r) : Does P W A K s a w o r := by
  rw [ho] at hs
  simp only [step] at hs
  split at hs
  · rename_i d zs hd hz
    split at hs
    · cases hs
    rename_i hn
    injection hs with hs; subst hs
    have hz := hT.zero hz
    unfold zeroAt at hz
    split at hz
    · rename_i i hi2
      split at hz
      · rename_i z hzz
        have hp : St.H { s with heap := hset d (.box t (zs.map Cell.t)) s.heap } d = some (.box t (zs.map Cell.t)) := by simp [St.H, look_hset]
        have hnew := new_box h (by simpa using hn) t (zeroChk_trs (O := s.O A ρ) (w := w) hz).crs (ρ := ρ) (fun k hk => by rw [hasL_map_t] at hk; cases hk)
        refine ⟨_, _, _, .inl ?_, hnew, ⟨_, rfl, new_ptr hp⟩⟩
        simp [execOp, ho, Instr.alloc, zeroValue, typeInfo, hi2, hzz, newVar, newRow]
      · cases hz
    · cases hz
  · cases hs

theorem step_box (h : Rel W A K s a w ρ) {o : Oper} {g : Gd} (hg : g.val = true) {t : TypeId} {x : Operand} (ho : o.op = .box t x) {tb : Tab} {hi : Hint} {r : R} (hs : step tb hi s g o.dst o.op = some r) (hc : AllC r.conds) : Does P W A K s a w o r := by
  rw [ho] at hs
  simp only [step] at hs
  split at hs
  · rename_i d gx b cs hd hx
    split at hs
    · cases hs
    rename_i hn
    injection hs with hs; subst hs
    have hx2 := opT_sound h hx (needs_of hg hc)
    obtain ⟨vs, hvs, hcs⟩ := VR.cells hx2
    have hp : St.H { s with heap := hset d (.box t cs) s.heap } d = some (.box t cs) := by simp [St.H, look_hset]
    have hnew := new_box h (by simpa using hn) t hcs (fun k hk => opT_has hx k hk)
    refine ⟨_, _, _, .inl ?_, hnew, ⟨_, rfl, new_ptr hp⟩⟩
    simp [execOp, ho, Instr.box, newVar, newRow, hvs]
  · cases hs

theorem step_load (h : Rel W A K s a w ρ) {o : Oper} {g : Gd} (hg : g.val = true) {t : TypeId} {x : Operand} (ho : o.op = .load t x) {tb : Tab} (hT : TabOk P tb) {hi : Hint} {r : R} (hs : step tb hi s g o.dst o.op = some r) (hc : AllC r.conds) : Does P W A K s a w o r := by
  rw [ho] at hs
  simp only [step] at hs
  have fin : ∀ {u : Value}, (Instr.loadAt t (a.eval x)).run P w = .ok u w → (execOp a.eval o).run P w = .ok (.value u) w := fun hu => by simp [execOp, ho, hu]
  split at hs
  · rename_i gx id i j n b hx hl
    have hl := hT.lay hl
    split at hs
    · rename_i ty cells hid
      split at hs
      · rename_i hcond
        injection hs with hs; subst hs
        obtain ⟨c, hcc, hx2⟩ := opT_sound h hx (needs_of hg hc)
        simp at hcc; subst hcc
        obtain ⟨u, hu, hv⟩ := load_box h hl hid hx2 hcond.1 (fun e => by have := hcond.2; rw [e] at this; simpa using this)
        exact does_pure h rfl (fin hu) hv
      · cases hs
    · rename_i ty es T enc z xs hid
      split at hs
      · rename_i hcond
        injection hs with hs; subst hs
        obtain ⟨hc1, hc2⟩ := AllC_append.1 hc
        obtain ⟨c, hcc, hx2⟩ := opT_sound h hx (needs_of hg hc1)
        simp at hcc; subst hcc
        obtain ⟨u, hu, hv⟩ := load_rows h hl hid hx2 (hc2.1 hg) hcond.1 (fun e => by have := hcond.2; rw [e] at this; simpa using this)
        exact does_pure h rfl (fin hu) hv
      · cases hs
    · cases hs
  · rename_i gx cells n b hx hl
    have hl := hT.lay hl
    split at hs
    · rename_i hcond
      injection hs with hs; subst hs
      obtain ⟨c, hcc, hx2⟩ := opT_sound h hx (needs_of hg hc)
      simp at hcc; subst hcc
      obtain ⟨u, hu, hv⟩ := load_rop hl hx2 hcond.1 (fun e => by have := hcond.2; rw [e] at this; simpa using this)
      exact does_pure h rfl (fin hu) hv
    · cases hs
  · cases hs

theorem step_store (h : Rel W A K s a w ρ) {o : Oper} {g : Gd} (hg : g.val = true) {t : TypeId} {x y : Operand} (ho : o.op = .store t x y) {tb : Tab} (hT : TabOk P tb) {hi : Hint} {r : R} (hs : step tb hi s g o.dst o.op = some r) (hc : AllC r.conds) : Does P W A K s a w o r := by
  rw [ho] at hs
  simp only [step] at hs
  have fin : ∀ {w' : World}, (Instr.storeAt t (a.eval x) (a.eval y)).run P w = .ok () w' → (execOp a.eval o).run P w = .ok .skip w' := fun hu => by simp [execOp, ho, hu]
  have hun : ∀ {O : Nat → Prop} {ρ : Nat → Value} {H : Nat → Option Obj} {w : World}, AR O ρ H w undef (.tp []) := ⟨[], rfl, rfl, by simp⟩
  split at hs
  · rename_i gx id i j gy b cs n b2 hx hy hl _
    have hl := hT.lay hl
    split at hs
    · rename_i hn
      split at hs
      · rename_i ty cells hid
        split at hs
        · rename_i hj
          injection hs with hs; subst hs
          obtain ⟨hc1, hc2⟩ := AllC_append.1 hc
          obtain ⟨c, hcc, hx2⟩ := opT_sound h hx (needs_of hg hc1)
          simp at hcc; subst hcc
          have hy2 := opT_sound h hy (needs_of hg hc2)
          obtain ⟨w', hw, hrel⟩ := store_box h hl hid hx2 hy2 (fun k hk => opT_has hy k hk) hn hj
          exact ⟨undef, w', ρ, .inr ⟨fin hw, rfl⟩, hrel, hun⟩
        · cases hs
      · rename_i o1 o2 _ hid
        injection hs with hs; subst hs
        obtain ⟨hc12, hc3⟩ := AllC_append.1 hc
        obtain ⟨hc1, hc2⟩ := AllC_append.1 hc12
        obtain ⟨c, hcc, hx2⟩ := opT_sound h hx (needs_of hg hc1)
        simp at hcc; subst hcc
        have hy2 := opT_sound h hy (needs_of hg hc2)
        have hst := hc3.1
        cases hst with
        | @mk T _ _ enc z xs _ _ n1 x hi2 hj hl2 hx1 hx3 =>
          have hnn : n1 = n := by rw [← hn]; simp [hl2]; omega
          subst hnn
          obtain ⟨w', hw, hrel⟩ := store_rows h hl hid hx2 hy2 hn hi2 x (by omega) hl2 (by
            have e1 : ((enc (xs.getD i z)).map Cell.t).take j = ((enc x).map Cell.t).take j := by rw [← List.map_take, ← List.map_take, hx1]
            have e2 : ((enc (xs.getD i z)).map Cell.t).drop (j + n1) = ((enc x).map Cell.t).drop (j + n1) := by rw [← List.map_drop, ← List.map_drop, hx3]
            rw [e1, e2, List.append_assoc, ← List.drop_drop, List.take_append_drop, List.take_append_drop])
          exact ⟨undef, w', ρ, .inr ⟨fin hw, rfl⟩, hrel, hun⟩
      · cases hs
    · cases hs
  · cases hs

end
end Go.Abs

namespace Go.Abs
set_option linter.unusedVariables false
set_option linter.unusedSimpArgs false
variable {P : Program}

section
variable {W : World} {A K : Nat → Prop} {s : St} {a : Act} {w : World} {ρ : Nat → Value}

theorem step_nilCheck (h : Rel W A K s a w ρ) {o : Oper} {g : Gd} (hg : g.val = true) {x : Operand} (ho : o.op = .nilCheck x) {tb : Tab} {hi : Hint} {r : R} (hs : step tb hi s g o.dst o.op = some r) (hc : AllC r.conds) : Does P W A K s a w o r := by
  rw [ho] at hs
  simp only [step] at hs
  split at hs
  · rename_i gx id0 i j hx
    split at hs
    · rename_i ob hid
      injection hs with hs; subst hs
      have hx2 := opT_sound h hx (needs_of hg hc)
      obtain ⟨c, hcc, hx3⟩ := id hx2
      simp at hcc; subst hcc
      generalize hv : a.eval x = v at hx2 hx3
      refine does_pure h rfl (v := v) ?_ hx2
      cases hx3 with
      | ptr h1 h2 => simp [execOp, ho, hv]
      | ptrj h1 => rw [hid] at h1; cases h1
    · cases hs
  · rename_i gx c hx
    injection hs with hs; subst hs
    have hx2 := opT_sound h hx (needs_of hg hc)
    obtain ⟨c, hcc, hx3⟩ := id hx2
    simp at hcc; subst hcc
    generalize hv : a.eval x = v at hx2 hx3
    refine does_pure h rfl (v := v) ?_ hx2
    cases hx3 with
    | rop => simp [execOp, ho, hv]
  · rename_i gx f c hx
    injection hs with hs; subst hs
    have hx2 := opT_sound h hx (needs_of hg hc)
    obtain ⟨c, hcc, hx3⟩ := id hx2
    simp at hcc; subst hcc
    generalize hv : a.eval x = v at hx2 hx3
    refine does_pure h rfl (v := v) ?_ hx2
    cases hx3 with
    | clo => simp [execOp, ho, hv]
  · cases hs

theorem AllC_imp {g : Gd} (hg : g.val = true) : ∀ {l : List Prop}, AllC (l.map fun c => (g.val = true → c)) → AllC l
  | [], _ => trivial
  | c :: l, h => ⟨h.1 hg, AllC_imp hg h.2⟩

theorem step_binOp (h : Rel W A K s a w ρ) {o : Oper} {g : Gd} (hg : g.val = true) {op : BinOp} {t t' : TypeId} {x y : Operand} (ho : o.op = .binOp op t x y t') {tb : Tab} (hT : TabOk P tb) {hi : Hint} {r : R} (hs : step tb hi s g o.dst o.op = some r) (hc : AllC r.conds) : Does P W A K s a w o r := by
  rw [ho] at hs
  simp only [step] at hs
  split at hs
  · rename_i gx vx gy vy hx hy
    simp only [Option.map_eq_some_iff] at hs
    obtain ⟨⟨v, cs⟩, hb, hs⟩ := hs
    subst hs
    obtain ⟨hc12, hc3⟩ := AllC_append.1 hc
    obtain ⟨hc1, hc2⟩ := AllC_append.1 hc12
    obtain ⟨u, hu, hv⟩ := binA_run hT hb (AllC_imp hg hc3) (opT_sound h hx (needs_of hg hc1)) (opT_sound h hy (needs_of hg hc2)) x y
    refine does_pure h rfl (v := u) ?_ hv
    simp only [execOp, ho]
    rw [Sem.run_bind, hu]
    rfl
  · cases hs

theorem step_unOp (h : Rel W A K s a w ρ) {o : Oper} {g : Gd} (hg : g.val = true) {op : UnOp} {t : TypeId} {x : Operand} (ho : o.op = .unOp op t x) {tb : Tab} {hi : Hint} {r : R} (hs : step tb hi s g o.dst o.op = some r) (hc : AllC r.conds) : Does P W A K s a w o r := by
  rw [ho] at hs
  simp only [step] at hs
  split at hs
  · rename_i gx b hx
    simp only [Option.map_eq_some_iff] at hs
    obtain ⟨v, hb, hs⟩ := hs
    subst hs
    have e := lit_inv (opT_sound h hx (needs_of hg hc))
    obtain ⟨hu, h1⟩ := unV_run (P := P) hb w
    refine does_pure h rfl (v := v) ?_ (lit_ar h1)
    simp [execOp, ho, e, hu]
  · cases hs

theorem step_convert (h : Rel W A K s a w ρ) {o : Oper} {g : Gd} (hg : g.val = true) {src t : TypeId} {x : Operand} (ho : o.op = .convert src t x) {tb : Tab} (hT : TabOk P tb) {hi : Hint} {r : R} (hs : step tb hi s g o.dst o.op = some r) (hc : AllC r.conds) : Does P W A K s a w o r := by
  rw [ho] at hs
  simp only [step] at hs
  split at hs
  · rename_i gx k0 n ks k hx h1 h2
    injection hs with hs; subst hs
    have e := lit_inv (opT_sound h hx (needs_of hg hc))
    have u1 := kin_spec (hT.kin h1)
    have u2 := kin_spec (hT.kin h2)
    refine does_pure h rfl (v := .int k (k.wrap n)) ?_ (lit_ar rfl)
    simp only [execOp, ho, e, convert, Sem.run_bind, run_underlying u1, run_underlying u2, Result.andThen_ok]
    cases ks <;> rfl
  · cases hs

theorem capsA_run (h : Rel W A K s a w ρ) {g : Gd} (hg : g.val = true) : ∀ {l : List Operand} {cs : List Cell} {q : List Prop}, capsA s g l = some (cs, q) → AllC q → CRs (s.O A ρ) ρ s.H w (l.map a.eval) cs
  | [], cs, q, hs, _ => by simp [capsA] at hs; obtain ⟨rfl, _⟩ := hs; exact CRs.nil
  | x :: l, cs, q, hs, hc => by
    simp only [capsA] at hs
    split at hs
    · rename_i gx c hx
      simp only [Option.map_eq_some_iff] at hs
      obtain ⟨⟨cs', q'⟩, hr, hs⟩ := hs
      injection hs with h1 h2; subst h1; subst h2
      obtain ⟨hc1, hc2⟩ := AllC_append.1 hc
      obtain ⟨c', hcc, hx2⟩ := opT_sound h hx (needs_of hg hc1)
      simp at hcc; subst hcc
      exact CRs.cons hx2 (capsA_run h hg hr hc2)
    · cases hs

theorem step_makeFunc (h : Rel W A K s a w ρ) {o : Oper} {g : Gd} (hg : g.val = true) {f : FuncId} {first caps : Array Operand} (ho : o.op = .makeFunc (.func f) first caps) {tb : Tab} {hi : Hint} {r : R} (hs : step tb hi s g o.dst o.op = some r) (hc : AllC r.conds) : Does P W A K s a w o r := by
  rw [ho] at hs
  simp only [step] at hs
  split at hs
  · rename_i cs q hf hcs
    injection hs with hs; subst hs
    have hcaps := capsA_run h hg hcs hc
    have e1 : first = #[] := by apply Array.ext'; simpa using hf
    have e2 : caps.map a.eval = (caps.toList.map a.eval).toArray := by apply Array.ext'; simp
    refine does_pure h rfl (v := .func (.func f) #[] (caps.toList.map a.eval).toArray) ?_ ⟨_, rfl, .clo _ hcaps.1 hcaps.2⟩
    simp [execOp, ho, Instr.makeFunc, e1]
    exact e2
  · cases hs

theorem made_trs {O : Nat → Prop} {T : Type} {enc : T → List Tree} {z : T} {zc : Array Value} {es n : Nat} (hz : TRs O w zc.toList (enc z)) (hzl : (enc z).length = es) (hpos : 0 < es) :
    TRs O w (madeCells zc (n * es)).toList ((List.replicate n z).flatMap enc) := by
  have hes : ∀ x ∈ List.replicate n z, (enc x).length = es := fun x hx => by rw [(List.mem_replicate.1 hx).2]; exact hzl
  have hzs : zc.size = es := by have := hz.1; rw [hzl] at this; simpa using this
  refine ⟨by rw [flat_len hes]; simp [madeCells], fun k v t hv ht => ?_⟩
  have hk : k < n * es := by
    have := (List.getElem?_eq_some_iff.1 hv).1
    simpa [madeCells] using this
  have hj : k % es < es := Nat.mod_lt _ hpos
  have hi : k / es < n := Nat.div_lt_of_lt_mul (by rw [Nat.mul_comm]; exact hk)
  have hg := flat_get (z := z) hes (k / es) (k % es) (by simpa using hi) hj
  rw [show k / es * es + k % es = k from by rw [Nat.mul_comm]; exact Nat.div_add_mod k es] at hg
  rw [hg] at ht
  have hgd : (List.replicate n z).getD (k / es) z = z := by simp [List.getD, List.getElem?_replicate, hi]
  rw [hgd] at ht
  refine hz.2 (k % es) v t ?_ ht
  simp only [madeCells, Array.toList_map, Array.toList_range, List.getElem?_map, List.getElem?_range hk, Option.map_some, Option.some.injEq, hzs] at hv
  rw [← hv]
  simp [hzs, hj, getElem!_pos]

theorem step_makeSlice (h : Rel W A K s a w ρ) {o : Oper} {g : Gd} (hg : g.val = true) {t : TypeId} {l c : Operand} (ho : o.op = .makeSlice t l c) {tb : Tab} (hT : TabOk P tb) {hi : Hint} {r : R} (hs : step tb hi s g o.dst o.op = some r) (hc : AllC r.conds) : Does P W A K s a w o r := by
  rw [ho] at hs
  simp only [step] at hs
  split at hs
  · rename_i d gl kl n gc kc m e es by_ ob hd hl hcc hsl
    split at hs
    · rename_i zs hz
      split at hs
      · cases hs
      rename_i hn
      injection hs with hs; subst hs
      obtain ⟨hc12, hc3⟩ := AllC_append.1 hc
      obtain ⟨hc1, hc2⟩ := AllC_append.1 hc12
      have e1 := lit_inv (opT_sound h hl (needs_of hg hc1))
      have e2 := lit_inv (opT_sound h hcc (needs_of hg hc2))
      obtain ⟨hnm, hmade, _⟩ := hc3
      subst hnm
      obtain ⟨i, zv, hu, hi2, hzv, hsz, hby, hzs, hpos⟩ := slc_spec (hT.slc hsl)
      have hzz := hT.zero hz
      unfold zeroAt at hzz
      simp only [hi2, hzv] at hzz
      cases hmade with
      | @mk T _ _ _ enc z _ h0 hzl h63 hb =>
        obtain ⟨n, rfl⟩ : ∃ m : Nat, n = (m : Int) := ⟨n.toNat, by omega⟩
        simp only [Int.toNat_natCast] at h63 hb hc ⊢
        obtain ⟨w', hrun, hown, hgr⟩ := run_make_full (P := P) (w := w) 0 t e i zv es hu hi2 hzv hsz kl kc n (by rw [hby]; exact hb) h63 (Nat.zero_le _)
        have hlt : w.heap.size < w'.heap.size := by
          rcases hown.2 with ⟨e0, _⟩ | ⟨g', cap', cur', e0, _, hh, _⟩
          · cases e0
          · simp at e0; obtain ⟨rfl, _⟩ := e0; exact (Array.getElem?_eq_some_iff.1 hh).1
        have hzt : TRs (s.O A ρ) w zv.cells.toList (enc z) := zeroChk_trs hzz
        have hne := new_rows h (d := d) (by simpa using hn) (ty := e) (es := es) (enc := enc) (z := z) (xs := List.replicate n z) (cap := n) hgr hlt (by simpa using hown) (fun x hx => by rw [(List.mem_replicate.1 hx).2]; exact hzl) (made_trs hzt hzl hpos)
        have hp : St.H { s with heap := hset d (.rows e es enc z (List.replicate n z)) s.heap } d = some (.rows e es enc z (List.replicate n z)) := by simp [St.H, look_hset]
        refine ⟨.slice (some ⟨w.heap.size, 0, none⟩) n n, w', _, .inl ?_, hne, ⟨_, rfl, ?_⟩⟩
        · simp [execOp, ho, e1, e2, hrun]
        · have := CR.own (O := St.O { s with heap := hset d (.rows e es enc z (List.replicate n z)) s.heap } A (upd ρ d (.slice (some ⟨w.heap.size, 0, none⟩) (List.replicate n z).length n))) (ρ := upd ρ d (.slice (some ⟨w.heap.size, 0, none⟩) (List.replicate n z).length n)) (w := w') hp (by simp [upd, Value.oneCell'])
          simpa [upd] using this
    · cases hs
  · cases hs

end
end Go.Abs

namespace Go.Abs
set_option linter.unusedVariables false
set_option linter.unusedSimpArgs false
variable {P : Program}

section
variable {W : World} {A K : Nat → Prop} {s : St} {a : Act} {w : World} {ρ : Nat → Value}

theorem run_fieldAt {t : TypeId} {F : Array Field} {k off n : Nat} {b : Bool} {f : Field} (hu : P.underlying t = some (.struct F)) (hf : F[k]? = some f) (ho : f.offset = off) (hl : lay P f.type = some (n, b)) (hn : n ≠ 0) (ad : Addr) (w : World) :
    (Instr.fieldAt t (.pointer (some ad)) k).run P w = .ok (.pointer (some (ad.add off))) w := by
  obtain ⟨i, d, hi, hd, hs, hb⟩ := lay_spec hl
  have hs0 : i.size ≠ 0 := by rw [hs]; exact hn
  simp [Instr.fieldAt, run_underlying hu, hf, Instr.sureAddr, fieldPlace, sizeOf, typeInfo, hi, hs0, ho]

theorem add_add (ad : Addr) (m n : Nat) : (ad.add m).add n = ad.add (m + n) := by
  unfold Addr.add
  by_cases h1 : m = 0
  · subst h1; simp
  · by_cases h2 : n = 0
    · subst h2; simp [h1]
    · have : m + n ≠ 0 := by omega
      simp [h1, h2, this, Nat.add_assoc]

theorem fld_get {tb : Tab} (hT : TabOk P tb) {t k off n : Nat} {b : Bool} (h : (look t tb.fld).bind (·[k]?) = some (off, n, b)) :
    ∃ F f, P.underlying t = some (.struct F) ∧ F[k]? = some f ∧ f.offset = off ∧ lay P f.type = some (n, b) ∧ n ≠ 0 := by
  simp only [Option.bind_eq_some_iff] at h
  obtain ⟨fs, hfs, hk⟩ := h
  obtain ⟨F, hu, _, hF⟩ := fld_spec (hT.fld hfs)
  obtain ⟨f, hf, h1, h2, h3⟩ := hF k off n b hk
  exact ⟨F, f, hu, hf, h1, h2, h3⟩

theorem step_fieldAddr (h : Rel W A K s a w ρ) {o : Oper} {g : Gd} (hg : g.val = true) {t : TypeId} {x : Operand} {k : Nat} (ho : o.op = .fieldAddr t x k) {tb : Tab} (hT : TabOk P tb) {hi : Hint} {r : R} (hs : step tb hi s g o.dst o.op = some r) (hc : AllC r.conds) : Does P W A K s a w o r := by
  rw [ho] at hs
  simp only [step] at hs
  split at hs
  · rename_i gx id0 i j off n b hx hfl
    obtain ⟨F, f, hu, hf, hoff, hl, hn⟩ := fld_get hT hfl
    split at hs
    · rename_i ob hid
      injection hs with hs; subst hs
      obtain ⟨c, hcc, hx2⟩ := opT_sound h hx (needs_of hg hc)
      simp at hcc; subst hcc
      generalize hv : a.eval x = v at hx2
      cases hx2 with
      | @ptr _ _ _ gg oo h1 h2 =>
        have hr := run_fieldAt hu hf hoff hl hn ⟨gg, i * oo.es + j, none⟩ w
        rw [Addr.add_mid] at hr
        refine does_pure h rfl (v := .pointer (some ⟨gg, i * oo.es + (j + off), none⟩)) ?_ ⟨_, rfl, .ptr h1 h2⟩
        rw [← Nat.add_assoc]
        simp [execOp, ho, hv, hr]
      | ptrj h1 => rw [hid] at h1; cases h1
    · cases hs
  · rename_i gx cs off n b hx hfl
    obtain ⟨F, f, hu, hf, hoff, hl, hn⟩ := fld_get hT hfl
    split at hs
    · rename_i hlt
      injection hs with hs; subst hs
      obtain ⟨c, hcc, hx2⟩ := opT_sound h hx (needs_of hg hc)
      simp at hcc; subst hcc
      generalize hv : a.eval x = v at hx2
      cases hx2 with
      | rop ad vals hlen hcell hO hrel =>
        have hr := run_fieldAt hu hf hoff hl hn ad w
        refine does_pure h rfl (v := .pointer (some (ad.add off))) (by simp [execOp, ho, hv, hr]) ⟨_, rfl, .rop (ad.add off) (vals.drop off) (by simp [hlen]) ?_ ?_ ?_⟩
        · intro k v hk
          rw [List.getElem?_drop] at hk
          rw [add_add]
          exact hcell _ _ hk
        · rcases hO with h0 | h0
          · subst h0; simp
          · refine .inr ?_
            have : (ad.add off).block = ad.block := by unfold Addr.add; split <;> rfl
            rw [this]; exact h0
        · intro k v t hk ht
          rw [List.getElem?_drop] at hk ht
          exact hrel _ _ _ hk ht
    · cases hs
  · cases hs

theorem step_field (h : Rel W A K s a w ρ) {o : Oper} {g : Gd} (hg : g.val = true) {t : TypeId} {x : Operand} {k : Nat} (ho : o.op = .field t x k) {tb : Tab} (hT : TabOk P tb) {hi : Hint} {r : R} (hs : step tb hi s g o.dst o.op = some r) (hc : AllC r.conds) : Does P W A K s a w o r := by
  rw [ho] at hs
  simp only [step] at hs
  split at hs
  · rename_i gx cs off n b hx hfl
    obtain ⟨F, f, hu, hf, hoff, hl, hn⟩ := fld_get hT hfl
    split at hs
    · rename_i hcond
      injection hs with hs; subst hs
      obtain ⟨vs, hv, hcs⟩ := opT_sound h hx (needs_of hg hc)
      have hle : off + n ≤ vs.length := by rw [hcs.1]; exact hcond.1
      obtain ⟨v, hr, hm⟩ := run_part hl w vs off hle (fun e => by have := hcond.2; rw [e] at this; simpa using this)
      have hseg := (hcs.drop off).take n
      refine does_pure h rfl (v := v) ?_ ?_
      · simp [execOp, ho, hv, Instr.field, run_underlying hu, hf, asAgg, hoff, hr]
      · cases b with
        | true => simp only at hm; exact ⟨_, hm, hseg⟩
        | false =>
          simp only at hm
          rw [hm] at hseg
          match hq : (cs.drop off).take n, hseg with
          | [c], hseg => exact ⟨c, by simp [hq], hseg.2 0 v c rfl rfl⟩
          | [], hseg => have := hseg.1; simp at this
          | _ :: _ :: _, hseg => have := hseg.1; simp at this
    · cases hs
  · cases hs

theorem step_indexAddr (h : Rel W A K s a w ρ) {o : Oper} {g : Gd} (hg : g.val = true) {t : TypeId} {x i : Operand} (ho : o.op = .indexAddr t x i) {tb : Tab} (hT : TabOk P tb) {hi : Hint} {r : R} (hs : step tb hi s g o.dst o.op = some r) (hc : AllC r.conds) : Does P W A K s a w o r := by
  rw [ho] at hs
  simp only [step] at hs
  split at hs
  · rename_i gx id0 gi ki n e es by_ hx hix hsl
    obtain ⟨inf, zv, hu, hi2, hzv, hsz, hby, hzs, hpos⟩ := slc_spec (hT.slc hsl)
    split at hs
    · rename_i T ty es' enc z xs hid
      split at hs
      · rename_i hes
        subst hes
        injection hs with hs; subst hs
        obtain ⟨hc12, hc3⟩ := AllC_append.1 hc
        obtain ⟨hc1, hc2⟩ := AllC_append.1 hc12
        obtain ⟨c, hcc, hx2⟩ := opT_sound h hx (needs_of hg hc1)
        simp at hcc; subst hcc
        have ei := lit_inv (opT_sound h hix (needs_of hg hc2))
        obtain ⟨h0, h1⟩ := hc3.1 hg
        have hvr : a.eval x = ρ id0 := by
          generalize a.eval x = v at hx2
          cases hx2 with
          | own => rfl
          | ownj h' => rw [hid] at h'; cases h'
        obtain ⟨vs, hown, hesx, hct⟩ := h.mr.obj id0 _ hid
        rcases hown.2 with ⟨e0, hx0⟩ | ⟨gb, cap, cur, e0, _, hh, _⟩
        · exfalso; rw [hx0] at h1; simp at h1; omega
        · have hp : CR (s.O A ρ) ρ s.H w (.pointer (some ⟨gb, n.toNat * es + 0, none⟩)) (.ptr id0 n.toNat 0) := CR.ptr (o := .rows ty es enc z xs) hid (by rw [e0]; rfl)
          refine does_pure h rfl (v := .pointer (some ⟨gb, n.toNat * es + 0, none⟩)) ?_ ⟨_, rfl, hp⟩
          have hadd : (⟨gb, 0, none⟩ : Addr).add (n.toNat * es) = ⟨gb, n.toNat * es, none⟩ := by rw [Addr.add_mid]; simp
          simp [execOp, ho, hvr, e0, ei, Instr.indexAt, run_underlying hu, asIntOf, h0, h1, sizeOf, typeInfo, hi2, hsz, hadd]
      · cases hs
    · cases hs
  · rename_i gx T es' enc z xs gi ki n e es by_ hx hix hsl
    obtain ⟨inf, zv, hu, hi2, hzv, hsz, hby, hzs, hpos⟩ := slc_spec (hT.slc hsl)
    split at hs
    · rename_i hes
      subst hes
      injection hs with hs; subst hs
      obtain ⟨hc12, hc3⟩ := AllC_append.1 hc
      obtain ⟨hc1, hc2⟩ := AllC_append.1 hc12
      obtain ⟨c, hcc, hx2⟩ := opT_sound h hx (needs_of hg hc1)
      simp at hcc; subst hcc
      have ei := lit_inv (opT_sound h hix (needs_of hg hc2))
      obtain ⟨h0, h1⟩ := hc3.1 hg
      have hx3 := hx2.tr
      generalize hv : a.eval x = v at hx3
      cases hx3 with
      | nil => simp at h1; omega
      | ro ad cap vals hcap hmax hesx hlen hcell hO hrel =>
        have hlt : n.toNat < xs.length := by omega
        have hxl : (enc (xs.getD n.toNat z)).length = es := hesx _ (getD_mem hlt)
        have hseg := flat_seg (z := z) hesx hlt 0
        simp only [Nat.add_zero, Nat.sub_zero, List.drop_zero] at hseg
        refine does_pure h rfl (v := .pointer (some (ad.add (n.toNat * es)))) ?_ ⟨_, rfl, .rop _ ((vals.drop (n.toNat * es)).take es) ?_ ?_ ?_ ?_⟩
        · simp [execOp, ho, hv, ei, Instr.indexAt, run_underlying hu, asIntOf, h0, h1, sizeOf, typeInfo, hi2, hsz]
        · rw [← hseg]; simp [hlen]
        · intro k u hk
          rw [List.getElem?_take] at hk
          split at hk
          · rw [List.getElem?_drop] at hk; rw [add_add]; exact hcell _ _ hk
          · cases hk
        · rcases hO with q | q
          · subst q; simp
          · refine .inr ?_
            have : (ad.add (n.toNat * es)).block = ad.block := by unfold Addr.add; split <;> rfl
            rw [this]; exact q
        · intro k u t hk ht
          rw [← hseg] at ht
          rw [List.getElem?_take] at hk ht
          split at hk
          · rename_i hkk; simp only [hkk, if_true] at ht
            rw [List.getElem?_drop] at hk ht
            exact hrel _ _ _ hk ht
          · cases hk
    · cases hs
  · cases hs

theorem step_extract (h : Rel W A K s a w ρ) {o : Oper} {g : Gd} (hg : g.val = true) {x : Operand} {k : Nat} (ho : o.op = .extract x k) {tb : Tab} {hi : Hint} {r : R} (hs : step tb hi s g o.dst o.op = some r) (hc : AllC r.conds) : Does P W A K s a w o r := by
  rw [ho] at hs
  simp only [step] at hs
  split at hs
  · rename_i gx xs hx
    split at hs
    · rename_i b cs hk
      injection hs with hs; subst hs
      obtain ⟨vs, hv, hl, hr⟩ := opT_sound h hx (needs_of hg hc)
      have hlt : k < vs.length := by rw [hl]; exact (List.getElem?_eq_some_iff.1 hk).1
      have hkv : vs[k]? = some vs[k] := List.getElem?_eq_getElem hlt
      refine does_pure h rfl (v := vs[k]) ?_ (hr k _ _ hkv hk)
      simp [execOp, ho, hv, Instr.extract, hlt]
    · cases hs
  · cases hs

theorem step_slice (h : Rel W A K s a w ρ) {o : Oper} {g : Gd} (hg : g.val = true) {t : TypeId} {x : Operand} {lo hh mx : Option Operand} (ho : o.op = .slice t x lo hh mx) {tb : Tab} (hT : TabOk P tb) {hi : Hint} {r : R} (hs : step tb hi s g o.dst o.op = some r) (hc : AllC r.conds) : Does P W A K s a w o r := by
  rw [ho] at hs
  simp only [step] at hs
  split at hs
  · rename_i gx T es' enc z xs e es by_ hx hsl
    obtain ⟨inf, zv, hu, hi2, hzv, hsz, hby, hzs, hpos⟩ := slc_spec (hT.slc hsl)
    split at hs
    · rename_i hes
      subst hes
      -- the part from n to m
      have part : ∀ {ad : Option Addr} {cap n m : Nat}, TR (s.O A ρ) w (.slice ad xs.length cap) (.ro es enc z xs) → n ≤ m → m ≤ xs.length →
          TR (s.O A ρ) w (.slice (if cap = n then ad else ad.map (·.add (n * es))) (m - n) (cap - n)) (.ro es enc z ((xs.take m).drop n)) := by
        intro ad cap n m ht hnm hm
        have hlen2 : ((xs.take m).drop n).length = m - n := by simp; omega
        generalize hq : Value.slice ad xs.length cap = vq at ht
        cases ht with
        | nil => simp at hq hm; obtain ⟨rfl, rfl⟩ := hq; subst hm; simp at hnm; subst hnm; simp; exact .nil ..
        | ro ad' cap' vals hcap hmax hesx hlen hcell hO hrel =>
          simp at hq; obtain ⟨rfl, rfl⟩ := hq
          have hsub : ∀ y ∈ (xs.take m).drop n, (enc y).length = es := fun y hy => hesx y (List.mem_of_mem_take (List.mem_of_mem_drop hy))
          have e2 : ((xs.take m).drop n).flatMap enc = ((xs.flatMap enc).take (m * es)).drop (n * es) := by
            rw [(flat_take hesx m hm).1, (flat_take (xs := xs.take m) (fun y hy => hesx y (List.mem_of_mem_take hy)) n (by simp; omega)).2]
          have hle : xs.length * es = vals.length := by rw [hlen, flat_len hesx]
          have hmle : m * es ≤ xs.length * es := Nat.mul_le_mul_right es hm
          rw [← hlen2]
          by_cases hcn : cap = n
          · have hn2 : n = m := by omega
            subst hn2
            rw [if_pos hcn]
            have hz2 : (xs.take n).drop n = [] := by rw [List.drop_eq_nil_iff, List.length_take]; omega
            rw [hz2]
            exact .ro ad' (cap - n) [] (by simp) (by omega) (by simp) (by simp) (by simp) (.inl rfl) (by simp)
          · rw [if_neg hcn]
            refine .ro (ad'.add (n * es)) (cap - n) ((vals.take (m * es)).drop (n * es)) (by rw [hlen2]; omega) (by omega) hsub ?_ ?_ ?_ ?_
            · rw [e2]; simp [hlen]
            · intro k v hk
              rw [List.getElem?_drop, List.getElem?_take] at hk
              split at hk
              · rw [add_add]; exact hcell _ _ hk
              · cases hk
            · rcases hO with q | q
              · subst q; simp
              · refine .inr ?_
                have : (ad'.add (n * es)).block = ad'.block := by unfold Addr.add; split <;> rfl
                rw [this]; exact q
            · intro k v t hk ht
              rw [e2] at ht
              rw [List.getElem?_drop, List.getElem?_take] at hk ht
              split at hk
              · rename_i hkk; simp only [hkk, if_true] at ht; exact hrel _ _ _ hk ht
              · cases hk
      have capge : ∀ {ad : Option Addr} {cap : Nat}, TR (s.O A ρ) w (.slice ad xs.length cap) (.ro es enc z xs) → xs.length ≤ cap := by
        intro ad cap ht
        generalize hq : Value.slice ad xs.length cap = vq at ht
        cases ht with
        | nil => simp
        | ro ad' cap' vals hcap => simp at hq; omega
      have hsz' : ∀ w, (sizeOf e).run P w = .ok es w := fun w => by simp [sizeOf, typeInfo, hi2, hsz]
      split at hs
      · injection hs with hs; subst hs
        obtain ⟨c, hcc, hx2⟩ := opT_sound h hx (needs_of hg hc)
        simp at hcc; subst hcc
        obtain ⟨ad, cap, hv⟩ := tr_len hx2.tr
        have ht := hx2.tr
        rw [hv] at ht
        have hp := part ht (Nat.zero_le _) (Nat.le_refl _)
        simp only [List.take_length, List.drop_zero, Nat.sub_zero, Nat.zero_mul] at hp
        refine does_pure h rfl (v := .slice (if cap = 0 then ad else ad.map (·.add 0)) xs.length cap) ?_ ⟨_, rfl, .t hp⟩
        simp [execOp, ho, hv, Instr.sliceAt, run_underlying hu, Instr.slice, Instr.sliceBounds, hsz']
      · rename_i l
        split at hs
        · rename_i gl kl n hl
          injection hs with hs; subst hs
          obtain ⟨hc12, hc3⟩ := AllC_append.1 hc
          obtain ⟨hc1, hc2⟩ := AllC_append.1 hc12
          obtain ⟨c, hcc, hx2⟩ := opT_sound h hx (needs_of hg hc1)
          simp at hcc; subst hcc
          have el := lit_inv (opT_sound h hl (needs_of hg hc2))
          obtain ⟨h0, h1⟩ := hc3.1 hg
          obtain ⟨ad, cap, hv⟩ := tr_len hx2.tr
          have ht := hx2.tr
          rw [hv] at ht
          have hp := part (n := n.toNat) ht (by omega) (Nat.le_refl _)
          simp only [List.take_length] at hp
          refine does_pure h rfl (v := .slice (if cap = n.toNat then ad else ad.map (·.add (n.toNat * es))) (xs.length - n.toNat) (cap - n.toNat)) ?_ ⟨_, rfl, .t hp⟩
          simp [execOp, ho, hv, el, Instr.sliceAt, run_underlying hu, Instr.slice, Instr.sliceBounds, run_sliceBound w kl n _ _ h0 h1, hsz']
        · cases hs
      · rename_i u
        split at hs
        · rename_i gu ku m hu2
          injection hs with hs; subst hs
          obtain ⟨hc12, hc3⟩ := AllC_append.1 hc
          obtain ⟨hc1, hc2⟩ := AllC_append.1 hc12
          obtain ⟨c, hcc, hx2⟩ := opT_sound h hx (needs_of hg hc1)
          simp at hcc; subst hcc
          have el := lit_inv (opT_sound h hu2 (needs_of hg hc2))
          obtain ⟨h0, h1⟩ := hc3.1 hg
          obtain ⟨ad, cap, hv⟩ := tr_len hx2.tr
          have ht := hx2.tr
          rw [hv] at ht
          have hcg := capge ht
          have hp := part (n := 0) (m := m.toNat) ht (by omega) (by omega)
          simp only [List.drop_zero, Nat.sub_zero, Nat.zero_mul] at hp
          refine does_pure h rfl (v := .slice (if cap = 0 then ad else ad.map (·.add 0)) m.toNat cap) ?_ ⟨_, rfl, .t hp⟩
          simp [execOp, ho, hv, el, Instr.sliceAt, run_underlying hu, Instr.slice, Instr.sliceBounds, run_sliceBound w ku m cap _ h0 (by omega), hsz']
        · cases hs
      · rename_i l u
        split at hs
        · rename_i gl kl n gu ku m hl hu2
          injection hs with hs; subst hs
          obtain ⟨hc123, hc4⟩ := AllC_append.1 hc
          obtain ⟨hc12, hc3⟩ := AllC_append.1 hc123
          obtain ⟨hc1, hc2⟩ := AllC_append.1 hc12
          obtain ⟨c, hcc, hx2⟩ := opT_sound h hx (needs_of hg hc1)
          simp at hcc; subst hcc
          have el := lit_inv (opT_sound h hl (needs_of hg hc2))
          have eu := lit_inv (opT_sound h hu2 (needs_of hg hc3))
          obtain ⟨h0, h1, h2⟩ := hc4.1 hg
          obtain ⟨ad, cap, hv⟩ := tr_len hx2.tr
          have ht := hx2.tr
          rw [hv] at ht
          have hcg := capge ht
          have hp := part (n := n.toNat) (m := m.toNat) ht (by omega) (by omega)
          refine does_pure h rfl (v := .slice (if cap = n.toNat then ad else ad.map (·.add (n.toNat * es))) (m.toNat - n.toNat) (cap - n.toNat)) ?_ ⟨_, rfl, .t hp⟩
          simp [execOp, ho, hv, el, eu, Instr.sliceAt, run_underlying hu, Instr.slice, Instr.sliceBounds, run_sliceBound w ku m cap _ (by omega) (by omega), run_sliceBound w kl n m.toNat _ h0 (by omega), hsz']
        · cases hs
    · cases hs
  · cases hs

end
end Go.Abs

namespace Go.Abs
set_option linter.unusedVariables false
set_option linter.unusedSimpArgs false
variable {P : Program}

theorem foldl_set (off : Nat) : ∀ (l : List Value) (k : Nat) (cells : Array Value), off + k + l.length ≤ cells.size →
    ((l.zipIdx k).foldl (fun (cs : Array Value) (x : Value × Nat) => cs.setIfInBounds (off + x.2) x.1) cells).toList = cells.toList.take (off + k) ++ l ++ cells.toList.drop (off + k + l.length)
  | [], k, cells, h => by simp
  | v :: l, k, cells, h => by
    simp only [List.zipIdx_cons, List.foldl_cons]
    rw [foldl_set off l (k + 1) _ (by simp at h ⊢; omega)]
    have e := list_seg_step cells.toList (off + k) v l (by simp at h ⊢; omega)
    simpa [Array.toList_setIfInBounds, Nat.add_assoc] using e

theorem fill_cons (place : Nat → Option (Nat × Nat)) (vs : List Value) (i off n : Nat) (v : Value) (us : List Value) (rest : List (Nat × Value)) (hp : place i = some (off, n)) (hv : v.cells = us.toArray) (hn : us.length = n) (hfit : off + n ≤ vs.length) :
    Instr.fill place vs.toArray ((i, v) :: rest) = Instr.fill place (vs.take off ++ us ++ vs.drop (off + n)).toArray rest := by
  have h1 : ¬ (v.cells.size ≠ n ∨ off + v.cells.size > vs.toArray.size) := by rw [hv]; simp; omega
  have e : (Array.foldl (fun cs (x : Value × Nat) => cs.setIfInBounds (off + x.2) x.1) vs.toArray v.cells.zipIdx) = (vs.take off ++ us ++ vs.drop (off + n)).toArray := by
    apply Array.ext'
    rw [hv]
    have := foldl_set off us 0 vs.toArray (by simp; omega)
    simp only [Nat.add_zero] at this
    rw [← hn]
    simpa using this
  simp only [Instr.fill, hp]
  rw [if_neg (by simpa using h1)]
  rw [← e]

theorem hasL_splice {id : Nat} {cs ps : List Cell} {off : Nat} (h : hasL id (splice cs ps off) = true) : hasL id cs = true ∨ hasL id ps = true := by
  unfold splice at h
  rw [hasL_append, hasL_append] at h
  simp only [Bool.or_eq_true] at h
  have sub : ∀ {l m : List Cell}, (∀ c ∈ l, c ∈ m) → hasL id l = true → hasL id m = true := by
    intro l m hs hl
    cases hm : hasL id m with
    | true => rfl
    | false =>
      exfalso
      have : hasL id l = false := by
        clear hl
        induction l with
        | nil => rfl
        | cons c r ih => simp [hasL, hasL_false hm c (hs c (by simp)), ih fun c hc => hs c (by simp [hc])]
      rw [this] at hl; cases hl
  rcases h with (h | h) | h
  · exact .inl (sub (fun c hc => List.mem_of_mem_take hc) h)
  · exact .inr h
  · exact .inl (sub (fun c hc => List.mem_of_mem_drop hc) h)

section
variable {W : World} {A K : Nat → Prop} {s : St} {a : Act} {w : World} {ρ : Nat → Value}

theorem fillA_run (h : Rel W A K s a w ρ) {g : Gd} (hg : g.val = true) {fs : List (Nat × Nat × Bool)} {place : Nat → Option (Nat × Nat)} (hp : ∀ (k off n : Nat) (b : Bool), fs[k]? = some (off, n, b) → place k = some (off, n)) :
    ∀ (parts : List (Nat × Operand)) (cs cs' : List Cell) (q : List Prop) (vs : List Value), fillA fs s g parts cs = some (cs', q) → AllC q → CRs (s.O A ρ) ρ s.H w vs cs →
      ∃ vs' : List Value, Instr.fill place vs.toArray (parts.map fun x => (x.1, a.eval x.2)) = some vs'.toArray ∧ CRs (s.O A ρ) ρ s.H w vs' cs'
  | [], cs, cs', q, vs, hs, _, hv => by simp [fillA] at hs; obtain ⟨rfl, _⟩ := hs; exact ⟨vs, rfl, hv⟩
  | (k, x) :: r, cs, cs', q, vs, hs, hc, hv => by
    simp only [fillA] at hs
    split at hs
    · rename_i off n b gx bb ps hk hx
      split at hs
      · rename_i hcond
        simp only [Option.map_eq_some_iff] at hs
        obtain ⟨⟨cs2, q2⟩, hr, hs⟩ := hs
        injection hs with h1 h2; subst h1; subst h2
        obtain ⟨hc1, hc2⟩ := AllC_append.1 hc
        have hx2 := opT_sound h hx (needs_of hg hc1)
        obtain ⟨us, hus, hcu⟩ := VR.cells hx2
        have hul : us.length = n := by rw [hcu.1]; exact hcond.1
        simp only [List.map_cons]
        rw [fill_cons place vs k off n _ us _ (hp k off n b hk) hus hul (by rw [hv.1]; exact hcond.2)]
        have hv2 : CRs (s.O A ρ) ρ s.H w (vs.take off ++ us ++ vs.drop (off + n)) (splice cs ps off) := by
          unfold splice
          rw [hcond.1]
          exact ((hv.take off).append hcu).append (hv.drop (off + n))
        exact fillA_run h hg hp r _ cs2 q2 _ hr hc2 hv2
      · cases hs
    · cases hs

theorem places_of {t : Nat} {fs : List (Nat × Nat × Bool)} (h : fieldsAt P t = some fs) {F : Array Field} (hu : P.underlying t = some (.struct F)) :
    F.toList.mapM (fun f => (P.info? f.type).map fun i => (f.offset, i.size)) = some (fs.map fun x => (x.1, x.2.1)) := by
  unfold fieldsAt at h
  rw [hu] at h
  simp only at h
  generalize F.toList = l at h
  clear hu
  induction l generalizing fs with
  | nil => simp at h; subst h; simp
  | cons f r ih =>
    simp only [List.mapM_cons, Option.bind_eq_bind, Option.pure_def, Option.bind_eq_some_iff] at h
    obtain ⟨y, ⟨x, hx, hy⟩, ys, hys, h⟩ := h
    injection h with h; subst h
    split at hy
    · cases hy
    injection hy with hy; subst hy
    obtain ⟨n, b⟩ := x
    obtain ⟨i, d, hi, hd, hs, hb⟩ := lay_spec hx
    simp only [List.mapM_cons, Option.bind_eq_bind, Option.pure_def, ih hys, hi, Option.map_some, Option.bind_some, hs, List.map_cons]

theorem step_build (h : Rel W A K s a w ρ) {o : Oper} {g : Gd} (hg : g.val = true) {t : TypeId} {parts : Array (Nat × Operand)} (ho : o.op = .build t parts) {tb : Tab} (hT : TabOk P tb) {hi : Hint} {r : R} (hs : step tb hi s g o.dst o.op = some r) (hc : AllC r.conds) : Does P W A K s a w o r := by
  rw [ho] at hs
  simp only [step] at hs
  split at hs
  · rename_i zs fs hz hfs
    simp only [Option.map_eq_some_iff] at hs
    obtain ⟨⟨cs, q⟩, hf, hs⟩ := hs
    subst hs
    obtain ⟨F, hu, hlen, hF⟩ := fld_spec (hT.fld hfs)
    have hpl := places_of (hT.fld hfs) hu
    have hzz := hT.zero hz
    unfold zeroAt at hzz
    split at hzz
    · rename_i i hi2
      split at hzz
      · rename_i z hzv
        have hz0 : CRs (s.O A ρ) ρ s.H w z.cells.toList (zs.map Cell.t) := (zeroChk_trs hzz).crs
        obtain ⟨vs', hfill, hcr⟩ := fillA_run (place := fun k => ((fs.map fun x => (x.1, x.2.1)).toArray)[k]?) h hg (fun k off n b hk => by simp [hk]) parts.toList _ cs q _ hf hc hz0
        have hb : P.built t (parts.map fun (i, x) => (i, a.eval x)).toList = some vs'.toArray := by
          simp only [Program.built, hi2, hu, hzv, hpl]
          simpa using hfill
        refine does_pure h rfl (v := .agg vs'.toArray) ?_ ⟨vs', rfl, hcr⟩
        simp only [execOp, ho, Sem.run_bind, run_build w t _ _ hb, Result.andThen_ok]
        rfl
      · cases hzz
    · cases hzz
  · cases hs

theorem elemsA_run (h : Rel W A K s a w ρ) {g : Gd} (hg : g.val = true) {es : Nat} : ∀ (parts : List (Nat × Operand)) (i : Nat) (css : List (List Cell)) (q : List Prop) (vs : List Value), elemsA s g es i parts = some (css, q) → AllC q → (i + parts.length) * es ≤ vs.length →
      ∃ us : List Value, Instr.fill (fun i => some (i * es, es)) vs.toArray (parts.map fun x => (x.1, a.eval x.2)) = some (vs.take (i * es) ++ us ++ vs.drop ((i + parts.length) * es)).toArray ∧ CRs (s.O A ρ) ρ s.H w us css.flatten ∧ css.length = parts.length ∧ us.length = parts.length * es
  | [], i, css, q, vs, hs, _, _ => by simp [elemsA] at hs; obtain ⟨rfl, _⟩ := hs; exact ⟨[], by simp [Instr.fill], CRs.nil, rfl, by simp⟩
  | (k, x) :: r, i, css, q, vs, hs, hc, hfit => by
    simp only [elemsA] at hs
    split at hs
    · rename_i gx bb ps hx
      split at hs
      · rename_i hcond
        simp only [Option.map_eq_some_iff] at hs
        obtain ⟨⟨css2, q2⟩, hr, hs⟩ := hs
        injection hs with h1 h2; subst h1; subst h2
        obtain ⟨hc1, hc2⟩ := AllC_append.1 hc
        have hx2 := opT_sound h hx (needs_of hg hc1)
        obtain ⟨us, hus, hcu⟩ := VR.cells hx2
        have hul : us.length = es := by rw [hcu.1]; exact hcond.2
        obtain ⟨rfl, _⟩ := hcond
        simp only [List.length_cons] at hfit
        have e1 : (k + (r.length + 1)) * es = k * es + es + r.length * es := by rw [Nat.add_mul, Nat.succ_mul]; omega
        have e2 : (k + 1) * es = k * es + es := Nat.succ_mul k es
        have e3 : (k + 1 + r.length) * es = k * es + es + r.length * es := by rw [Nat.add_mul, e2]
        simp only [List.map_cons]
        rw [fill_cons (fun i => some (i * es, es)) vs k (k * es) es _ us _ rfl hus hul (by omega)]
        have hl2 : (vs.take (k * es) ++ us ++ vs.drop (k * es + es)).length = vs.length := by simp [hul]; omega
        obtain ⟨us2, hf, hcr, hlen, hul2⟩ := elemsA_run h hg r (k + 1) css2 q2 (vs.take (k * es) ++ us ++ vs.drop (k * es + es)) hr hc2 (by rw [hl2]; omega)
        refine ⟨us ++ us2, ?_, by simpa using hcu.append hcr, by simp [hlen], by simp [hul, hul2, Nat.succ_mul]; omega⟩
        rw [hf, e2, e3]
        congr 2
        have t1 : (vs.take (k * es) ++ us ++ vs.drop (k * es + es)).take (k * es + es) = vs.take (k * es) ++ us := by
          rw [List.take_append_of_le_length (by simp [hul]; omega), List.take_of_length_le (by simp [hul]; omega)]
        have t2 : (vs.take (k * es) ++ us ++ vs.drop (k * es + es)).drop (k * es + es + r.length * es) = vs.drop (k * es + es + r.length * es) := by
          rw [List.drop_append]
          have : (vs.take (k * es) ++ us).length = k * es + es := by simp [hul]; omega
          rw [this, List.drop_of_length_le (by omega), List.drop_drop]
          simp
        rw [t1, t2, List.length_cons, e1]
        simp
      · cases hs
    · cases hs

theorem step_buildSlice (h : Rel W A K s a w ρ) {o : Oper} {g : Gd} (hg : g.val = true) {t : TypeId} {len : Nat} {parts : Array (Nat × Operand)} (ho : o.op = .buildSlice t len parts) {tb : Tab} (hT : TabOk P tb) {hi : Hint} {r : R} (hs : step tb hi s g o.dst o.op = some r) (hc : AllC r.conds) : Does P W A K s a w o r := by
  rw [ho] at hs
  simp only [step] at hs
  split at hs
  · rename_i d e es by_ ob hd hsl
    obtain ⟨inf, zv, hu, hi2, hzv, hsz, hby, hzs, hpos⟩ := slc_spec (hT.slc hsl)
    split at hs
    · rename_i css q hel
      split at hs
      · cases hs
      rename_i hcond
      injection hs with hs; subst hs
      have hn : s.has d = false := by
        cases hb : s.has d with
        | true => exact absurd (.inl hb) hcond
        | false => rfl
      have hlen : css.length = len := Classical.byContradiction fun e => hcond (.inr e)
      obtain ⟨hc1, hc2⟩ := AllC_append.1 hc
      have hbu := hc2.1
      cases hbu with
      | @mk T _ _ enc z xs hl hm =>
        have hxl : xs.length = len := by simpa using hlen
        generalize hcells : ((Array.range (len * es)).map (zv.cells[· % zv.cells.size]!)) = cells0
        have hsz0 : cells0.toList.length = len * es := by rw [← hcells]; simp
        have hpl : parts.toList.length = len := by
          have := elemsA_run h hg parts.toList 0 _ q (List.replicate (parts.toList.length * es) undef) hel hc1 (by simp)
          obtain ⟨_, _, _, h3, _⟩ := this
          rw [← h3]; exact hlen
        obtain ⟨us, hfill, hcr, _, hul⟩ := elemsA_run h hg parts.toList 0 _ q cells0.toList hel hc1 (by rw [hsz0, hpl]; simp)
        rw [hpl] at hfill hul
        simp only [Nat.zero_mul, List.take_zero, List.nil_append, Nat.zero_add] at hfill
        rw [List.drop_of_length_le (by omega), List.append_nil] at hfill
        have hcr2 : TRs (s.O A ρ) w us (xs.flatMap enc) := by
          apply CRs.trs (ρ := ρ) (H := s.H)
          have : (xs.map fun x => (enc x).map Cell.t).flatten = (xs.flatMap enc).map Cell.t := by
            rw [List.map_flatMap, ← List.flatMap_def]
          rw [← this]; exact hcr
        have hle : len * es ≤ 16777216 := by rw [← hxl]; exact hm
        have hrun : (Instr.buildSlice t len (parts.map fun (i, x) => (i, a.eval x))).run P w = .ok (.slice (some ⟨w.heap.size, 0, none⟩) len len) (w.alloc (.cells us.toArray e)) := by
          have hf2 : Instr.fill (fun i => some (i * es, es)) cells0 (parts.map fun (i, x) => (i, a.eval x)).toList = some us.toArray := by
            simpa using hfill
          have h24 : ¬ (len * es > 2 ^ 24) := by omega
          by_cases h0 : len * es = 0
          · have hc0 : (Array.range (len * es)).map (fun x => (#[] : Array Value)[x % (#[] : Array Value).size]!) = cells0 := by
              rw [← hcells, h0]; simp
            simp only [Instr.buildSlice, Sem.run_bind, run_underlying hu, Result.andThen_ok, sizeOf, typeInfo, run_program, hi2, hsz]
            simp only [Sem.run_pure, Result.andThen_ok, hsz, h24, if_false, h0, if_true, Sem.run_bind]
            have hf3 : Instr.fill (fun i => some (i * es, es)) #[] (parts.map fun (i, x) => (i, a.eval x)).toList = some us.toArray := by
              rw [show (#[] : Array Value) = cells0 from by rw [← hc0, h0]; simp]; exact hf2
            simp only [Array.range_zero', Array.map_empty, hf3]
            simp [newRow]
          · have hc0 : (Array.range (len * es)).map (fun x => zv.cells[x % zv.cells.size]!) = cells0 := hcells
            simp only [Instr.buildSlice, Sem.run_bind, run_underlying hu, Result.andThen_ok, sizeOf, typeInfo, run_program, hi2, hsz]
            simp only [Sem.run_pure, Result.andThen_ok, hsz, h24, if_false, h0, Sem.run_bind, zeroValue, typeInfo, run_program, hi2, hzv, hc0, hf2]
            simp [newRow]
        have hown : (w.alloc (.cells us.toArray e)).ownsRow 0 e es (.slice (some ⟨w.heap.size, 0, none⟩) xs.length len) xs.length us :=
          ⟨by rw [hxl]; exact hul, .inr ⟨w.heap.size, len, us.toArray, rfl, Nat.zero_le _, heap_alloc_new w _, by omega, by
            have : len ≤ len * es := Nat.le_mul_of_pos_right _ hpos
            simp only [maxLen]; omega, by simpa using hul, by rw [hxl]; simp only [List.toList_toArray]; rw [List.take_of_length_le (by omega)]⟩⟩
        have hne := new_rows h (d := d) hn (ty := e) (es := es) (enc := enc) (z := z) (xs := xs) (cap := len) (World.grownBy_alloc w _ none) (by simp) hown hl hcr2
        have hp : St.H { s with heap := hset d (.rows e es enc z xs) s.heap } d = some (.rows e es enc z xs) := by simp [St.H, look_hset]
        refine ⟨.slice (some ⟨w.heap.size, 0, none⟩) len len, _, _, .inl ?_, hne, ⟨_, rfl, ?_⟩⟩
        · simp only [execOp, ho, Sem.run_bind, hrun, Result.andThen_ok]; rfl
        · have := CR.own (O := St.O { s with heap := hset d (.rows e es enc z xs) s.heap } A (upd ρ d (.slice (some ⟨w.heap.size, 0, none⟩) xs.length len))) (ρ := upd ρ d (.slice (some ⟨w.heap.size, 0, none⟩) xs.length len)) (w := w.alloc (.cells us.toArray e)) hp (by simp [upd, Value.oneCell'])
          rw [show upd ρ d (.slice (some ⟨w.heap.size, 0, none⟩) xs.length len) d = .slice (some ⟨w.heap.size, 0, none⟩) len len from by simp [upd, hxl]] at this
          exact this
    · cases hs
  · cases hs

end
end Go.Abs

namespace Go.Abs
set_option linter.unusedVariables false
set_option linter.unusedSimpArgs false
variable {P : Program}

section
variable {W : World} {A K : Nat → Prop} {s : St} {a : Act} {w : World} {ρ : Nat → Value}

theorem array1 {α : Type} {x : Array α} {y : α} (h : x.toList = [y]) : x = #[y] := by apply Array.ext'; simpa using h
theorem array2 {α : Type} {x : Array α} {y z : α} (h : x.toList = [y, z]) : x = #[y, z] := by apply Array.ext'; simpa using h

theorem lenA_run (h : Rel W A K s a w ρ) {tb : Tab} {t e : Nat} (hu : P.underlying t = some (.slice e)) {v : AT} {n : Int} (hl : lenA s tb t v = some n) {x : Value} (hx : AR (s.O A ρ) ρ s.H w x v) (ats : Array Nat) (ht : ats[0]? = some t) (ty : Nat) :
    (Builtin.len_ ats ty #[x]).run P w = .ok (.int .i64 n) w := by
  have key : ∀ (ad : Option Addr) (n c : Nat), (Builtin.len_ ats ty #[.slice ad n c]).run P w = .ok (.int .i64 n) w := fun ad n c => by
    simp [Builtin.len_, ht, run_underlying hu, goInt]
  unfold lenA at hl
  split at hl
  · rename_i id
    obtain ⟨c, hcc, hx⟩ := hx
    simp at hcc; subst hcc
    split at hl
    · rename_i hid
      injection hl with hl; subst hl
      obtain ⟨vs, hown, _⟩ := h.mr.obj _ _ hid
      have hvr : x = ρ id := by
        cases hx with
        | own => rfl
        | ownj h' => rw [hid] at h'; cases h'
      subst hvr
      rcases hown.2 with ⟨e0, hx0⟩ | ⟨g, cap, cur, e0, _⟩
      · rw [e0, key]; simp [hx0]
      · rw [e0, key]
    · cases hl
  · injection hl with hl; subst hl
    obtain ⟨c, hcc, hx⟩ := hx
    simp at hcc; subst hcc
    obtain ⟨ad, cap, hv⟩ := tr_len hx.tr
    rw [hv, key]
  · injection hl with hl; subst hl
    have := lit_inv hx; subst this
    rw [key]; rfl
  · cases hl

theorem step_call (h : Rel W A K s a w ρ) {o : Oper} {g : Gd} (hg : g.val = true) {c : Call} (ho : o.op = .call c) {tb : Tab} (hT : TabOk P tb) {hi : Hint} {r : R} (hs : step tb hi s g o.dst o.op = some r) (hc : AllC r.conds) : Does P W A K s a w o r := by
  rw [ho] at hs
  simp only [step] at hs
  split at hs
  · rename_i x t tl hcal hargs hats
    have hax := array1 hargs
    have ht0 : c.argTypes[0]? = some t := by rw [← Array.getElem?_toList, hats]; rfl
    split at hs
    · rename_i gx v hx
      split at hs
      · have hk : look t tb.kin = some .str := by assumption
        injection hs with hs; subst hs
        have e := lit_inv (opT_sound h hx (needs_of hg hc))
        have u1 := kin_spec (hT.kin hk)
        refine does_pure h rfl (v := _) ?_ (lit_ar rfl)
        simp [execOp, ho, resolve, hcal, hax, invoke, builtin, e, Builtin.len_, ht0, run_underlying u1, goInt]
      · simp only [Option.map_eq_some_iff] at hs
        obtain ⟨n, hn, hs⟩ := hs
        subst hs
        obtain ⟨inf, zv, hu, _⟩ := slc_spec (hT.slc ‹look t tb.slc = some _›)
        have hr := lenA_run h hu hn (opT_sound h hx (needs_of hg hc)) c.argTypes ht0 o.type
        refine does_pure h rfl (v := .int .i64 n) ?_ (lit_ar rfl)
        simp [execOp, ho, resolve, hcal, hax, invoke, builtin, hr]
      · cases hs
    · cases hs
  · rename_i x y t t' hcal hargs hats
    have hax := array2 hargs
    have hat := array2 hats
    split at hs
    · rename_i d gx id0 gy cy e es by_ ob hd hx hy hsl
      obtain ⟨inf, zv, hu, hi2, hzv, hsz, hby, hzs, hpos⟩ := slc_spec (hT.slc hsl)
      split at hs
      · rename_i o0 et hid het
        split at hs
        · cases hs
        rename_i hcond
        injection hs with hs; subst hs
        have hn : s.has d = false := by
          cases hb : s.has d with
          | true => exact absurd (.inl hb) hcond
          | false => rfl
        have htt : t = t' := Classical.byContradiction fun e => hcond (.inr e)
        subst htt
        obtain ⟨hc12, hc3⟩ := AllC_append.1 hc
        obtain ⟨hc1, hc2⟩ := AllC_append.1 hc12
        obtain ⟨c1, hcc, hx2⟩ := opT_sound h hx (needs_of hg hc1)
        simp at hcc; subst hcc
        obtain ⟨c2, hcc, hy2⟩ := opT_sound h hy (needs_of hg hc2)
        simp at hcc; subst hcc
        have hvr : a.eval x = ρ id0 := by
          generalize a.eval x = v at hx2
          cases hx2 with
          | own => rfl
          | ownj h' => rw [hid] at h'; cases h'
        have happ := hc3.1
        have hne : d ≠ id0 := fun e => by
          subst e
          have := opT_has hx d (by simp [AT.has, hasL, Cell.has, Nat.beq_refl])
          rw [hn] at this; cases this
        have fin : ∀ {T : Type} {enc : T → List Tree} {z : T} {xs ys : List T} {news : List Value}, s.H id0 = some (.rows e es enc z xs) → ((a.eval y = .slice none 0 0 ∧ ys = []) ∨ ∃ ad c, a.eval y = .slice (some ad) ys.length c ∧ ∀ (j : Nat) u, news[j]? = some u → w.cell? (ad.add j) = some u) →
            (∀ y ∈ ys, (enc y).length = es) → TRs (s.O A ρ) w news (ys.flatMap enc) → xs.length + ys.length ≤ maxLen → (xs.length + ys.length) * by_ ≤ 140737488355328 →
            Does P W A K s a w o ⟨.v false [.own d], (d, .rows e es enc z (xs ++ ys)) :: del id0 s.heap, needs .yes gx ++ needs .yes gy ++ [Appended o0 et e es by_ ob]⟩ := by
          intro T enc z xs ys news hid hsv hl hnews h63 hb
          obtain ⟨v', w', ρ', hrun, hd', hk', h1, hrel⟩ := append_rows (ety := o.type) h hu hi2 hzv hsz hby hzs hpos hid hn hne hsv hl hnews h63 hb
          refine ⟨v', w', ρ', .inl ?_, hrel, ⟨_, rfl, ?_⟩⟩
          · simp only [execOp, ho, resolve, hcal, hax, hat]
            rw [← hvr] at hrun
            simp [invoke, builtin, hrun]
          · have hp : St.H { s with heap := (d, .rows e es enc z (xs ++ ys)) :: del id0 s.heap } d = some (.rows e es enc z (xs ++ ys)) := by simp [St.H, look, Nat.beq_refl]
            have := CR.own (O := St.O { s with heap := (d, .rows e es enc z (xs ++ ys)) :: del id0 s.heap } A ρ') (ρ := ρ') (w := w') hp (by rw [hd']; exact h1)
            rw [hd'] at this
            exact this
        cases happ with
        | @mk T _ _ _ enc z z' xs ys hl h63 hb =>
          obtain ⟨news, hsv, hnews⟩ := (elems_cells h het hy2).1 rfl
          exact fin hid hsv hl hnews h63 hb
        | @nil T _ _ _ enc z xs p c hp h63 hb =>
          have hv := (elems_cells h het hy2).2 _ rfl
          have := fin (ys := []) (news := []) hid (by
            cases p with
            | none => rw [hp rfl] at hv; exact .inl ⟨hv, rfl⟩
            | some ad => exact .inr ⟨ad, c, hv, by simp⟩) (by simp) ⟨rfl, by simp⟩ (by simpa using h63) (by simpa using hb)
          simpa using this
      · cases hs
    · cases hs
  · cases hs

theorem step_sound (h : Rel W A K s a w ρ) {o : Oper} {g : Gd} (hg : g.val = true) {tb : Tab} (hT : TabOk P tb) {hi : Hint} {r : R} (hs : step tb hi s g o.dst o.op = some r) (hc : AllC r.conds) : Does P W A K s a w o r := by
  cases ho : o.op with
  | move x => exact step_move h hg (.inl ho) hs hc
  | assign x => exact step_move h hg (.inr ho) hs hc
  | pick => exact step_pick h hg ho hs hc
  | alloc => exact step_alloc h ho hT hs
  | box => exact step_box h hg ho hs hc
  | load => exact step_load h hg ho hT hs hc
  | store => exact step_store h hg ho hT hs hc
  | nilCheck => exact step_nilCheck h hg ho hs hc
  | binOp => exact step_binOp h hg ho hT hs hc
  | unOp => exact step_unOp h hg ho hs hc
  | convert => exact step_convert h hg ho hT hs hc
  | makeFunc fn =>
    cases fn with
    | func f => exact step_makeFunc h hg ho hs hc
    | _ => rw [ho] at hs; simp [step] at hs
  | makeSlice => exact step_makeSlice h hg ho hT hs hc
  | fieldAddr => exact step_fieldAddr h hg ho hT hs hc
  | field => exact step_field h hg ho hT hs hc
  | indexAddr => exact step_indexAddr h hg ho hT hs hc
  | build => exact step_build h hg ho hT hs hc
  | buildSlice => exact step_buildSlice h hg ho hT hs hc
  | slice => exact step_slice h hg ho hT hs hc
  | extract => exact step_extract h hg ho hs hc
  | call => exact step_call h hg ho hT hs hc
  | _ => rw [ho] at hs; simp [step] at hs

/-- Under a condition nothing is made or written. -/
theorem step_quiet {tb : Tab} {hi : Hint} {p : Bool} {d : Option Nat} {o : Op} {r : R} (hs : step tb hi s (.on p) d o = some r) : r.heap = s.heap := by
  cases o <;> simp only [step] at hs
  all_goals first
    | (cases hs; done)
    | (repeat' split at hs
       all_goals first
         | contradiction
         | (cases hs; done)
         | (injection hs with hs; subst hs; rfl)
         | (simp only [Option.map_eq_some_iff] at hs
            obtain ⟨_, _, hs⟩ := hs
            subst hs; rfl)
         | (simp at hs; done))

end
end Go.Abs
