import Derived.Test.YtoooalfhjcfinaaAbs6
namespace Go.Abs
set_option linter.unusedVariables false
set_option linter.unusedSimpArgs false
variable {P : Program}

/-- What a session says at an operation: the new list of a slice, typed; what a call answers. -/
inductive Hint : Type 1
  | no
  | obj (o : Obj)
  | call (names : List (Nat × Nat)) (H' : List (Nat × Obj)) (res : AT)
  | fz (o : Obj)
  | callM (ids kept : List Nat) (names : List (Nat × Nat)) (H' : List (Nat × Obj)) (res : AT)

def needs (g : Gd) : Gd → List Prop
  | .yes => []
  | .on p => [g.val = true → p = true]

def pickC (g : Gd) (b want : Bool) : Gd → List Prop
  | .yes => []
  | .on p => [g.val = true → b = want → p = true]

/-- A slice's elements, as they may be appended: those of an owned slice, or of one that is only read. -/
def elemsT (s : St) : Cell → Option Tree
  | .own id => match s.H id with
    | some (.rows _ es enc z ys) => some (.ro es enc z ys)
    | _ => none
  | .t x => some x
  | _ => none

/-- A row's element is written in part: the element behind it is x. -/
inductive Stored : Obj → Nat → Nat → List Cell → Obj → Prop
  | mk {T : Type} {ty es : Nat} {enc : T → List Tree} {z : T} {xs : List T} {i j n : Nat} (x : T) (hi : i < xs.length) (hj : j + n ≤ es) (hl : (enc x).length = es)
      (h1 : (enc x).take j = (enc (xs.getD i z)).take j) (h2 : (enc x).drop (j + n) = (enc (xs.getD i z)).drop (j + n)) :
      Stored (.rows ty es enc z xs) i j (((enc x).map Cell.t).drop j |>.take n) (.rows ty es enc z (xs.set i x))

/-- An owned slice, with more behind it. -/
inductive Appended : Obj → Tree → Nat → Nat → Nat → Obj → Prop
  | mk {T : Type} {ty es by_ : Nat} {enc : T → List Tree} {z z' : T} {xs ys : List T} (hl : ∀ y ∈ ys, (enc y).length = es)
      (h63 : (xs.length + ys.length) ≤ maxLen) (hb : (xs.length + ys.length) * by_ ≤ 140737488355328) : Appended (.rows ty es enc z xs) (.ro es enc z' ys) ty es by_ (.rows ty es enc z (xs ++ ys))
  | nil {T : Type} {ty es by_ : Nat} {enc : T → List Tree} {z : T} {xs : List T} {p : Option Addr} {c : Nat} (hp : p = none → c = 0) (h63 : xs.length ≤ maxLen) (hb : xs.length * by_ ≤ 140737488355328) : Appended (.rows ty es enc z xs) (.lit (.slice p 0 c)) ty es by_ (.rows ty es enc z xs)

/-- A new slice of zeros. -/
inductive Made : List Tree → Int → Nat → Nat → Nat → Obj → Prop
  | mk {T : Type} {ty es by_ : Nat} {enc : T → List Tree} {z : T} {n : Int} (h0 : 0 ≤ n) (hz : (enc z).length = es) (h63 : n.toNat ≤ maxLen) (hb : by_ * n.toNat ≤ 281474976710656) : Made (enc z) n ty es by_ (.rows ty es enc z (List.replicate n.toNat z))

/-- A slice that is written out. -/
inductive Built : List (List Cell) → Nat → Nat → Obj → Prop
  | mk {T : Type} {ty es : Nat} {enc : T → List Tree} {z : T} {xs : List T} (hl : ∀ x ∈ xs, (enc x).length = es) (hm : xs.length * es ≤ 16777216) : Built (xs.map fun x => (enc x).map Cell.t) ty es (.rows ty es enc z xs)

def pickA (x y : AT) (b : Bool) : Option AT :=
  match x, y with
  | .v false [.t (.lit (.bool m))], .v false [.t (.lit (.bool n))] => some (lit (.bool (bif b then m else n)))
  | _, _ => none

def splice (cs ps : List Cell) (off : Nat) : List Cell := cs.take off ++ ps ++ cs.drop (off + ps.length)

/-- The parts of a struct put into its zero. -/
def fillA (fs : List (Nat × Nat × Bool)) (s : St) (g : Gd) : List (Nat × Operand) → List Cell → Option (List Cell × List Prop)
  | [], cs => some (cs, [])
  | (k, x) :: r, cs =>
    match fs[k]?, opT s x with
    | some (off, n, _), some (gx, .v _ ps) =>
      if ps.length = n ∧ off + n ≤ cs.length then (fillA fs s g r (splice cs ps off)).map fun q => (q.1, needs g gx ++ q.2) else none
    | _, _ => none

def elemsA (s : St) (g : Gd) (es : Nat) : Nat → List (Nat × Operand) → Option (List (List Cell) × List Prop)
  | _, [] => some ([], [])
  | i, (k, x) :: r =>
    match opT s x with
    | some (gx, .v _ ps) => if k = i ∧ ps.length = es then (elemsA s g es (i + 1) r).map fun q => (ps :: q.1, needs g gx ++ q.2) else none
    | _ => none

def capsA (s : St) (g : Gd) : List Operand → Option (List Cell × List Prop)
  | [] => some ([], [])
  | x :: r =>
    match opT s x with
    | some (gx, .v false [c]) => (capsA s g r).map fun q => (c :: q.1, needs g gx ++ q.2)
    | _ => none

def lenA (s : St) (tb : Tab) (t : Nat) : AT → Option Int
  | .v false [.own id] => match s.H id with
    | some (.rows _ _ _ _ xs) => some xs.length
    | _ => none
  | .v false [.t (.ro _ _ _ xs)] => some xs.length
  | .v false [.t (.lit (.slice none 0 0))] => some 0
  | _ => none

/-- What an operation comes to. -/
def step (tb : Tab) (h : Hint) (s : St) (g : Gd) (dst : Option Nat) (o : Op) : Option R :=
  match o with
  | .move x | .assign x =>
    match opT s x with
    | some (gx, v) => some ⟨v, s.heap, needs g gx⟩
    | none => none
  | .pick c x y =>
    match opT s c, opT s x, opT s y with
    | some (gc, .v false [.t (.lit (.bool b))]), some (gx, vx), some (gy, vy) =>
      (pickA vx vy b).map fun v => ⟨v, s.heap, needs g gc ++ pickC g b true gx ++ pickC g b false gy⟩
    | _, _, _ => none
  | .alloc t =>
    match dst, look t tb.zero, g with
    | some d, some zs, .yes => if s.has d then none else some ⟨.v false [.ptr d 0 0], hset d (.box t (zs.map Cell.t)) s.heap, []⟩
    | _, _, _ => none
  | .box t x =>
    match dst, opT s x, g with
    | some d, some (gx, .v _ cs), .yes => if s.has d then none else some ⟨.v false [.ptr d 0 0], hset d (.box t cs) s.heap, needs g gx⟩
    | _, _, _ => none
  | .load t x =>
    match opT s x, look t tb.lay with
    | some (gx, .v false [.ptr id i j]), some (n, b) =>
      match s.H id with
      | some (.box _ cells) =>
        let cs := (cells.drop j).take n
        if cs.length = n ∧ (b || Nat.beq n 1) = true then some ⟨.v b cs, s.heap, needs g gx⟩ else none
      | some (.rows _ _ enc z xs) =>
        let cs := ((enc (xs.getD i z)).drop j).take n
        if cs.length = n ∧ (b || Nat.beq n 1) = true then some ⟨.v b (cs.map Cell.t), s.heap, needs g gx ++ [g.val = true → i < xs.length]⟩ else none
      | _ => none
    | some (gx, .v false [.rop cells]), some (n, b) =>
      let cs := cells.take n
      if cs.length = n ∧ (b || Nat.beq n 1) = true then some ⟨.v b (cs.map Cell.t), s.heap, needs g gx⟩ else none
    | _, _ => none
  | .store t x y =>
    match opT s x, opT s y, look t tb.lay, g, dst with
    | some (gx, .v false [.ptr id i j]), some (gy, .v _ cs), some (n, _), .yes, none =>
      if cs.length = n then
        match s.H id, h with
        | some (.box ty cells), _ => if j + n ≤ cells.length then some ⟨.tp [], hset id (.box ty (cells.take j ++ cs ++ cells.drop (j + n))) s.heap, needs g gx ++ needs g gy⟩ else none
        | some o, .obj o' => some ⟨.tp [], hset id o' s.heap, needs g gx ++ needs g gy ++ [Stored o i j cs o']⟩
        | _, _ => none
      else none
    | _, _, _, _, _ => none
  | .nilCheck x =>
    match opT s x with
    | some (gx, .v false [.ptr id i j]) => match s.H id with
      | some _ => some ⟨.v false [.ptr id i j], s.heap, needs g gx⟩
      | none => none
    | some (gx, .v false [.rop c]) => some ⟨.v false [.rop c], s.heap, needs g gx⟩
    | some (gx, .v false [.clo f c]) => some ⟨.v false [.clo f c], s.heap, needs g gx⟩
    | _ => none
  | .binOp op t x y _ =>
    match opT s x, opT s y with
    | some (gx, vx), some (gy, vy) => (binA tb op t vx vy).map fun r => ⟨r.1, s.heap, needs g gx ++ needs g gy ++ r.2.map fun c => (g.val = true → c)⟩
    | _, _ => none
  | .unOp op _ x =>
    match opT s x with
    | some (gx, .v false [.t (.lit a)]) => (unV op a).map fun v => ⟨lit v, s.heap, needs g gx⟩
    | _ => none
  | .convert src t x =>
    match opT s x, look src tb.kin, look t tb.kin with
    | some (gx, .v false [.t (.lit (.int _ n))]), some _, some (.int k) => some ⟨lit (.int k (k.wrap n)), s.heap, needs g gx⟩
    | _, _, _ => none
  | .makeFunc (.func f) first caps =>
    match first.toList, capsA s g caps.toList with
    | [], some (cs, q) => some ⟨.v false [.clo f cs], s.heap, q⟩
    | _, _ => none
  | .makeSlice t l c =>
    match dst, opT s l, opT s c, look t tb.slc, g, h with
    | some d, some (gl, .v false [.t (.lit (.int _ n))]), some (gc, .v false [.t (.lit (.int _ m))]), some (e, es, by_), .yes, .obj o =>
      match look e tb.zero with
      | some zs => if s.has d then none else some ⟨.v false [.own d], hset d o s.heap, needs g gl ++ needs g gc ++ [n = m, Made zs n e es by_ o]⟩
      | none => none
    | _, _, _, _, _, _ => none
  | .fieldAddr t x k =>
    match opT s x, (look t tb.fld).bind (·[k]?) with
    | some (gx, .v false [.ptr id i j]), some (off, _, _) => match s.H id with
      | some _ => some ⟨.v false [.ptr id i (j + off)], s.heap, needs g gx⟩
      | none => none
    | some (gx, .v false [.rop cs]), some (off, n, _) => if off < cs.length then some ⟨.v false [.rop (cs.drop off)], s.heap, needs g gx⟩ else none
    | _, _ => none
  | .field t x k =>
    match opT s x, (look t tb.fld).bind (·[k]?) with
    | some (gx, .v true cs), some (off, n, b) =>
      let ps := (cs.drop off).take n
      if off + n ≤ cs.length ∧ (b || Nat.beq n 1) = true then some ⟨.v b ps, s.heap, needs g gx⟩ else none
    | _, _ => none
  | .indexAddr t x i =>
    match opT s x, opT s i, look t tb.slc with
    | some (gx, .v false [.own id]), some (gi, .v false [.t (.lit (.int _ n))]), some (_, es, _) =>
      match s.H id with
      | some (.rows _ es' _ _ xs) => if es = es' then some ⟨.v false [.ptr id n.toNat 0], s.heap, needs g gx ++ needs g gi ++ [g.val = true → 0 ≤ n ∧ n < xs.length]⟩ else none
      | _ => none
    | some (gx, .v false [.t (.ro es' enc z xs)]), some (gi, .v false [.t (.lit (.int _ n))]), some (_, es, _) =>
      if es = es' then some ⟨.v false [.rop (enc (xs.getD n.toNat z))], s.heap, needs g gx ++ needs g gi ++ [g.val = true → 0 ≤ n ∧ n < xs.length]⟩ else none
    | _, _, _ => none
  | .build t parts =>
    match look t tb.zero, look t tb.fld with
    | some zs, some fs => (fillA fs s g parts.toList (zs.map Cell.t)).map fun q => ⟨.v true q.1, s.heap, q.2⟩
    | _, _ => none
  | .buildSlice t len parts =>
    match dst, look t tb.slc, g, h with
    | some d, some (e, es, _), .yes, .obj o =>
      match elemsA s g es 0 parts.toList with
      | some (css, q) => if s.has d ∨ css.length ≠ len then none else some ⟨.v false [.own d], hset d o s.heap, q ++ [Built css e es o]⟩
      | none => none
    | _, _, _, _ => none
  | .slice t x lo hi mx =>
    match opT s x, look t tb.slc, mx with
    | some (gx, .v false [.t (.ro es' enc z xs)]), some (_, es, _), none =>
      if es = es' then
        match lo, hi with
        | none, none => some ⟨.v false [.t (.ro es enc z xs)], s.heap, needs g gx⟩
        | some l, none => match opT s l with
          | some (gl, .v false [.t (.lit (.int _ n))]) => some ⟨.v false [.t (.ro es enc z (xs.drop n.toNat))], s.heap, needs g gx ++ needs g gl ++ [g.val = true → 0 ≤ n ∧ n ≤ xs.length]⟩
          | _ => none
        | none, some u => match opT s u with
          | some (gu, .v false [.t (.lit (.int _ m))]) => some ⟨.v false [.t (.ro es enc z (xs.take m.toNat))], s.heap, needs g gx ++ needs g gu ++ [g.val = true → 0 ≤ m ∧ m ≤ xs.length]⟩
          | _ => none
        | some l, some u => match opT s l, opT s u with
          | some (gl, .v false [.t (.lit (.int _ n))]), some (gu, .v false [.t (.lit (.int _ m))]) =>
            some ⟨.v false [.t (.ro es enc z ((xs.take m.toNat).drop n.toNat))], s.heap, needs g gx ++ needs g gl ++ needs g gu ++ [g.val = true → 0 ≤ n ∧ n ≤ m ∧ m ≤ xs.length]⟩
          | _, _ => none
      else none
    | _, _, _ => none
  | .extract x k =>
    match opT s x with
    | some (gx, .tp xs) => match xs[k]? with
      | some (b, cs) => some ⟨.v b cs, s.heap, needs g gx⟩
      | none => none
    | _ => none
  | .call c =>
    match c.callee, c.args.toList, c.argTypes.toList with
    | .builtin .len, [x], t :: _ =>
      match opT s x with
      | some (gx, v) => match look t tb.kin, v, look t tb.slc with
        | some .str, .v false [.t (.lit (.string b))], _ => some ⟨lit (.int .i64 b.size), s.heap, needs g gx⟩
        | none, v, some _ => (lenA s tb t v).map fun n => ⟨lit (.int .i64 n), s.heap, needs g gx⟩
        | _, _, _ => none
      | none => none
    | .builtin .append, [x, y], [t, t'] =>
      match dst, opT s x, opT s y, look t tb.slc, g, h with
      | some d, some (gx, .v false [.own id]), some (gy, .v false [cy]), some (e, es, by_), .yes, .obj o =>
        match s.H id, elemsT s cy with
        | some o0, some ty => if s.has d ∨ t ≠ t' then none else some ⟨.v false [.own d], (d, o) :: del id s.heap, needs g gx ++ needs g gy ++ [Appended o0 ty e es by_ o]⟩
        | _, _ => none
      | _, _, _, _, _, _ => none
    | _, _, _ => none
  | _ => none

end Go.Abs
