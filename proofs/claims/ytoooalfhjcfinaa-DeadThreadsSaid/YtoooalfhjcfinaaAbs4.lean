import Derived.Test.YtoooalfhjcfinaaAbs3
namespace Go.Abs
set_option linter.unusedVariables false
set_option linter.unusedSimpArgs false
variable {P : Program}

/-! ### Tables of types -/
inductive Kin where
  | int (k : IntKind) | bool | str | float (k : FloatKind)
  deriving DecidableEq

/-- What is told of a program's types. -/
structure Tab : Type 1 where
  lay : List (Nat × (Nat × Bool))
  fld : List (Nat × List (Nat × Nat × Bool))
  slc : List (Nat × (Nat × Nat × Nat))
  arr : List (Nat × (Nat × Nat))
  kin : List (Nat × Kin)
  zero : List (Nat × List Tree)
  eqs : List (Nat × List Kin)
  fns : List Nat

def kinOf (P : Program) (t : TypeId) : Option Kin :=
  match P.underlying t with
  | some (.int k) => some (.int k)
  | some .bool => some .bool
  | some .string => some .str
  | some (.float k) => some (.float k)
  | _ => none

/-- A struct's fields: where each begins, its size, whether it is a struct or an array. -/
def fieldsAt (P : Program) (t : TypeId) : Option (List (Nat × Nat × Bool)) :=
  match P.underlying t with
  | some (.struct fs) => fs.toList.mapM fun f => (lay P f.type).bind fun x => if x.1 = 0 then none else some (f.offset, x.1, x.2)
  | _ => none

def sliceAt (P : Program) (t : TypeId) : Option (Nat × Nat × Nat) :=
  match P.underlying t with
  | some (.slice e) => (P.info? e).bind fun i => (i.zero).bind fun z => if i.size = 0 ∨ z.cells.size ≠ i.size then none else some (e, i.size, i.bytes)
  | _ => none

def arrayAt (P : Program) (t : TypeId) : Option (Nat × Nat) :=
  match P.underlying t with
  | some (.array n e) => (P.info? e).map fun i => (n, i.size)
  | _ => none

def leavesL (P : Program) (g : TypeId → Option (List Kin)) : List Field → Nat → Option (List Kin)
  | [], _ => some []
  | f :: r, o =>
    if f.name = "_" ∨ f.offset ≠ o then none else
    match g f.type, lay P f.type with
    | some m, some (n, _) => if n = m.length ∧ 0 < n then (leavesL P g r (o + n)).map (m ++ ·) else none
    | _, _ => none

/-- A struct's cells, each of a plain kind: what two of them are held against each other by. -/
def leaves (P : Program) : Nat → TypeId → Option (List Kin)
  | 0, _ => none
  | d + 1, t =>
    match P.underlying t with
    | some (.int k) => some [.int k]
    | some .bool => some [.bool]
    | some .string => some [.str]
    | some (.struct fs) => if P.stoodInHeld t then none else leavesL P (leaves P d) fs.toList 0
    | _ => none

/-- The values that are told of a type's zero. -/
def veq : Value → Value → Bool
  | .bool a, .bool b => a == b
  | .int k a, .int j b => k == j && a == b
  | .float k a, .float j b => k == j && a == b
  | .string a, .string b => a.size == 0 && b.size == 0
  | .pointer none, .pointer none => true
  | .map none, .map none => true
  | .nilFunc, .nilFunc => true
  | .nilIface, .nilIface => true
  | .slice none a b, .slice none c d => a == 0 && b == 0 && c == 0 && d == 0
  | _, _ => false

theorem veq_eq {a b : Value} (h : veq a b = true) : a = b ∧ a.oneCell' = true := by
  unfold veq at h
  split at h <;> simp at h
  · subst h; exact ⟨rfl, rfl⟩
  · obtain ⟨rfl, rfl⟩ := h; exact ⟨rfl, rfl⟩
  · obtain ⟨rfl, rfl⟩ := h; exact ⟨rfl, rfl⟩
  · obtain ⟨rfl, rfl⟩ := h; exact ⟨rfl, rfl⟩
  · exact ⟨rfl, rfl⟩
  · exact ⟨rfl, rfl⟩
  · exact ⟨rfl, rfl⟩
  · exact ⟨rfl, rfl⟩
  · obtain ⟨⟨⟨rfl, rfl⟩, rfl⟩, rfl⟩ := h; exact ⟨rfl, rfl⟩

def zeroOne : Value → Tree → Bool
  | .slice none 0 0, .ro _ _ _ xs => match xs with | [] => true | _ => false
  | v, .lit u => veq v u
  | _, _ => false

def zeroChk : List Value → List Tree → Bool
  | [], [] => true
  | v :: r, t :: l => zeroOne v t && zeroChk r l
  | _, _ => false

theorem zeroOne_tr {O : Nat → Prop} {w : World} {v : Value} {t : Tree} (h : zeroOne v t = true) : TR O w v t := by
  unfold zeroOne at h
  split at h
  · split at h
    · exact .nil ..
    · cases h
  · obtain ⟨rfl, h1⟩ := veq_eq h; exact .lit _ h1
  · cases h

theorem TRs.cons {O : Nat → Prop} {w : World} {v : Value} {t : Tree} {vs : List Value} {ts : List Tree} (h : TR O w v t) (hs : TRs O w vs ts) : TRs O w (v :: vs) (t :: ts) := by
  refine ⟨by simp [hs.1], fun k u d hu hd => ?_⟩
  cases k with
  | zero => simp at hu hd; subst hu; subst hd; exact h
  | succ k => simp at hu hd; exact hs.2 k u d hu hd

theorem zeroChk_trs {O : Nat → Prop} {w : World} : ∀ {vs : List Value} {ts : List Tree}, zeroChk vs ts = true → TRs O w vs ts
  | [], [], _ => ⟨rfl, by simp⟩
  | v :: r, t :: l, h => by
    simp only [zeroChk, Bool.and_eq_true] at h
    exact .cons (zeroOne_tr h.1) (zeroChk_trs h.2)
  | [], _ :: _, h => by simp [zeroChk] at h
  | _ :: _, [], h => by simp [zeroChk] at h

def zeroAt (P : Program) (t : TypeId) (ts : List Tree) : Bool :=
  match P.info? t with
  | some i => match i.zero with
    | some z => zeroChk z.cells.toList ts
    | none => false
  | none => false

/-- A function that is entered by its number. -/
def entered (P : Program) (f : Nat) : Bool :=
  match P.funcs[f]? with
  | some fn => !(fn.name == "runtime.NumGoroutine") && !fn.body.isNone
  | none => false

/-- The tables tell what the program has. -/
def Tab.chk (tb : Tab) (P : Program) : Bool :=
  (tb.lay.all fun x => Abs.lay P x.1 == some x.2) && (tb.fld.all fun x => fieldsAt P x.1 == some x.2) && (tb.slc.all fun x => Abs.sliceAt P x.1 == some x.2) && (tb.arr.all fun x => Abs.arrayAt P x.1 == some x.2) &&
  (tb.kin.all fun x => kinOf P x.1 == some x.2) && (tb.zero.all fun x => zeroAt P x.1 x.2) && (tb.eqs.all fun x => leaves P 100 x.1 == some x.2 && !P.eqGuardType P.depth x.1 && Abs.lay P x.1 == some (x.2.length, true)) && (tb.fns.all fun f => entered P f) && P.follows .mixedOrders

structure TabOk (P : Program) (tb : Tab) : Prop where
  lay : ∀ {t x}, look t tb.lay = some x → Abs.lay P t = some x
  fld : ∀ {t x}, look t tb.fld = some x → fieldsAt P t = some x
  slc : ∀ {t x}, look t tb.slc = some x → Abs.sliceAt P t = some x
  arr : ∀ {t x}, look t tb.arr = some x → Abs.arrayAt P t = some x
  kin : ∀ {t x}, look t tb.kin = some x → kinOf P t = some x
  zero : ∀ {t x}, look t tb.zero = some x → zeroAt P t x = true
  eqs : ∀ {t x}, look t tb.eqs = some x → (leaves P 100 t = some x ∧ P.eqGuardType P.depth t = false) ∧ Abs.lay P t = some (x.length, true)
  fns : ∀ {f}, f ∈ tb.fns → entered P f = true
  mixed : P.follows .mixedOrders = true

theorem TabOk.of_chk {tb : Tab} (h : tb.chk P = true) : TabOk P tb := by
  simp only [Tab.chk, Bool.and_eq_true, List.all_eq_true, beq_iff_eq, Bool.not_eq_true'] at h
  obtain ⟨⟨⟨⟨⟨⟨⟨⟨h1, h2⟩, h3⟩, h4⟩, h5⟩, h6⟩, h7⟩, h8⟩, h9⟩ := h
  exact ⟨fun h => h1 _ (look_mem h), fun h => h2 _ (look_mem h), fun h => h3 _ (look_mem h), fun h => h4 _ (look_mem h), fun h => h5 _ (look_mem h), fun h => h6 _ (look_mem h), fun h => h7 _ (look_mem h), fun h => h8 _ h, h9⟩

/-! ### Operands -/
def constAT (v : Value) : Option AT :=
  match v with
  | .agg cs => bif cs.toList.all Value.oneCell' then some (.v true (cs.toList.map fun u => .t (.lit u))) else none
  | .tuple cs => match cs.toList with | [] => some (.tp []) | _ => none
  | v => some (.v false [.t (.lit v)])

def opT (s : St) : Operand → Option (Gd × AT)
  | .tmp t => look t s.env
  | .const v => (constAT v).map fun x => (.yes, x)
  | .func f => some (.yes, .v false [.clo f []])
  | .global _ => none

section
variable {W : World} {A K : Nat → Prop} {s : St} {a : Act} {w : World} {ρ : Nat → Value}

theorem constAT_ar {O : Nat → Prop} {H : Nat → Option Obj} {v : Value} {x : AT} (h : constAT v = some x) : AR O ρ H w v x := by
  unfold constAT at h
  split at h
  · rename_i cs
    cases hb : cs.toList.all Value.oneCell' with
    | false => rw [hb] at h; cases h
    | true =>
      rw [hb] at h; simp at h; subst h
      refine ⟨cs.toList, by simp, ⟨by simp, fun k v c hv hc => ?_⟩⟩
      simp only [List.getElem?_map, Option.map_eq_some_iff] at hc
      obtain ⟨u, hu, rfl⟩ := hc
      rw [hv] at hu; simp at hu; subst hu
      refine .t (.lit _ ?_)
      rw [List.all_eq_true] at hb
      exact hb v (List.mem_of_getElem? hv)
  · rename_i cs
    split at h
    · rename_i hn
      injection h with h; subst h
      refine ⟨[], ?_, rfl, by simp⟩
      obtain ⟨l⟩ := cs
      simp at hn; subst hn; rfl
    · cases h
  · injection h with h; subst h
    rename_i h1 h2
    refine ⟨_, rfl, .t (.lit _ ?_)⟩
    cases v <;> first | rfl | (exact absurd rfl (h1 _)) | (exact absurd rfl (h2 _))

theorem opT_sound (h : Rel W A K s a w ρ) {x : Operand} {g : Gd} {t : AT} (hx : opT s x = some (g, t)) (hg : g.val = true) : AR (s.O A ρ) ρ s.H w (a.eval x) t := by
  cases x with
  | tmp k =>
    obtain ⟨v, hv, hr, _⟩ := h.env k g t hx
    have : a.eval (.tmp k) = v := by simp [Act.eval, Array.getD_eq_getD_getElem?, hv]
    rw [this]; exact hr hg
  | const v =>
    simp only [opT, Option.map_eq_some_iff] at hx
    obtain ⟨y, hy, he⟩ := hx
    injection he with _ he; subst he
    exact constAT_ar hy
  | func f =>
    simp only [opT] at hx
    injection hx with hx; injection hx with _ hx; subst hx
    refine ⟨_, rfl, ?_⟩
    exact CR.clo (f := f) (caps := []) [] rfl (by simp)
  | global g => cases hx

theorem opT_has {x : Operand} {g : Gd} {t : AT} (hx : opT s x = some (g, t)) (id : Nat) (hi : t.has id = true) : s.has id = true := by
  cases x with
  | tmp k => exact St.has_env hx hi
  | const v =>
    exfalso
    simp only [opT, Option.map_eq_some_iff] at hx
    obtain ⟨y, hy, he⟩ := hx
    injection he with _ he; subst he
    unfold constAT at hy
    split at hy
    · rename_i cs
      cases hb : cs.toList.all Value.oneCell' with
      | false => rw [hb] at hy; cases hy
      | true =>
        rw [hb] at hy; simp at hy; subst hy
        simp only [AT.has] at hi
        have : ∀ l : List Value, hasL id (l.map fun u => Cell.t (.lit u)) = false := fun l => by
          induction l with
          | nil => rfl
          | cons c r ih => simp [hasL, Cell.has, ih]
        rw [this] at hi; cases hi
    · split at hy
      · injection hy with hy; subst hy; simp [AT.has] at hi
      · cases hy
    · injection hy with hy; subst hy; simp [AT.has, hasL, Cell.has] at hi
  | func f =>
    simp only [opT] at hx
    injection hx with hx; injection hx with _ hx; subst hx
    simp [AT.has, hasL, Cell.has] at hi
  | global g => cases hx

end
end Go.Abs
