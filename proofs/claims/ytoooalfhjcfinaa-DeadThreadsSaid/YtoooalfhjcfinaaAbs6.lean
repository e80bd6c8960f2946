import Derived.Test.YtoooalfhjcfinaaAbs5
namespace Go.Abs
set_option linter.unusedVariables false
set_option linter.unusedSimpArgs false
variable {P : Program}

/-! ### Operations on values -/
def binV (tb : Tab) (op : BinOp) (t : Nat) (a b : Value) : Option (Value × List Prop) :=
  match a, b with
  | .int k m, .int j n =>
    match op with
    | .shl => some (.int k (k.wrap (m * 2 ^ min n.toNat k.bits)), [0 ≤ n])
    | .shr => some (.int k (m.fdiv (2 ^ min n.toNat k.bits)), [0 ≤ n])
    | op => if k = j then
        match op with
        | .add => some (.int k (k.wrap (m + n)), [])
        | .sub => some (.int k (k.wrap (m - n)), [])
        | .mul => some (.int k (k.wrap (m * n)), [])
        | .quo => some (.int k (k.wrap (m.tdiv n)), [n ≠ 0])
        | .rem => some (.int k (m.tmod n), [n ≠ 0])
        | .and => some (.int k (bits .and k m n), [])
        | .or => some (.int k (bits .or k m n), [])
        | .xor => some (.int k (bits .xor k m n), [])
        | .andNot => some (.int k (bits .andNot k m n), [])
        | .eql => some (.bool (m == n), [])
        | .neq => some (.bool (m != n), [])
        | .lss => some (.bool (decide (m < n)), [])
        | .leq => some (.bool (decide (m ≤ n)), [])
        | .gtr => some (.bool (decide (m > n)), [])
        | .geq => some (.bool (decide (m ≥ n)), [])
        | _ => none
      else none
  | .bool m, .bool n =>
    match look t tb.kin with
    | some .bool =>
      match op with
      | .eql => some (.bool (m == n), [])
      | .neq => some (.bool (!(m == n)), [])
      | _ => none
    | _ => none
  | .string m, .string n =>
    match op with
    | .add => some (.string (m ++ n), [m.size + n.size ≤ 9223372036854775807])
    | .eql => some (.bool (m.toList == n.toList), [])
    | .neq => some (.bool (!(m.toList == n.toList)), [])
    | .lss => some (.bool (Op.bytesLess m.toList n.toList), [])
    | .leq => some (.bool (Op.bytesLess m.toList n.toList || m.toList == n.toList), [])
    | .gtr => some (.bool (!(Op.bytesLess m.toList n.toList || m.toList == n.toList)), [])
    | .geq => some (.bool (!Op.bytesLess m.toList n.toList), [])
    | _ => none
  | .slice p _ _, .slice none 0 0 =>
    match look t tb.slc with
    | some _ =>
      match op with
      | .eql => some (.bool p.isNone, [])
      | .neq => some (.bool (!p.isNone), [])
      | _ => none
    | none => none
  | _, _ => none

def AllC : List Prop → Prop
  | [] => True
  | c :: r => c ∧ AllC r

theorem AllC_append {l r : List Prop} : AllC (l ++ r) ↔ AllC l ∧ AllC r := by
  induction l with
  | nil => simp [AllC]
  | cons c l ih => simp [AllC, ih, and_assoc]

theorem slc_spec {t e es by_ : Nat} (h : sliceAt P t = some (e, es, by_)) : ∃ i z, P.underlying t = some (.slice e) ∧ P.info? e = some i ∧ i.zero = some z ∧ i.size = es ∧ i.bytes = by_ ∧ z.cells.size = es ∧ 0 < es := by
  unfold sliceAt at h
  split at h
  · rename_i e' hu
    simp only [Option.bind_eq_some_iff] at h
    obtain ⟨i, hi, z, hz, h⟩ := h
    split at h
    · cases h
    · rename_i hn
      injection h with h; injection h with h1 h2; injection h2 with h2 h3
      subst h1; subst h2; subst h3
      have n1 : i.size ≠ 0 := fun e => hn (.inl e)
      have n2 : z.cells.size = i.size := Classical.byContradiction fun e => hn (.inr e)
      exact ⟨i, z, hu, hi, hz, rfl, rfl, n2, by omega⟩
  · cases h

theorem run_equalIn_sl (w : World) (d : Nat) (t e : TypeId) (a : Option Addr) (l c : Nat) (h : P.underlying t = some (.slice e)) : (Op.equalIn (d + 1) t (.slice a l c) (.slice none 0 0)).run P w = .ok a.isNone w := by
  cases a <;> simp [Op.equalIn, run_underlying h]
theorem run_eql_sl (w : World) (t e : TypeId) (a : Option Addr) (l c : Nat) (h : P.underlying t = some (.slice e)) : (binOp .eql t (.slice a l c) (.slice none 0 0)).run P w = .ok (.bool a.isNone) w := by
  have : (Op.equal t (.slice a l c) (.slice none 0 0)).run P w = .ok a.isNone w := run_equalIn_sl w 9999 t e a l c h
  simp only [binOp]
  simp [this]
theorem run_neq_sl (w : World) (t e : TypeId) (a : Option Addr) (l c : Nat) (h : P.underlying t = some (.slice e)) : (binOp .neq t (.slice a l c) (.slice none 0 0)).run P w = .ok (.bool (!a.isNone)) w := by
  have : (Op.equal t (.slice a l c) (.slice none 0 0)).run P w = .ok a.isNone w := run_equalIn_sl w 9999 t e a l c h
  simp only [binOp]
  simp [this]

theorem binV_run {tb : Tab} (hT : TabOk P tb) {op : BinOp} {t : Nat} {a b v : Value} {cs : List Prop} (h : binV tb op t a b = some (v, cs)) (hc : AllC cs) (x y : Operand) (w : World) :
    (do eqGuard op t x y a b; binOp op t a b : Sem Value).run P w = .ok v w ∧ v.oneCell' = true := by
  unfold binV at h
  split at h
  · rename_i k m j n
    split at h
    · simp at h; obtain ⟨rfl, rfl⟩ := h
      have h0 : 0 ≤ n := hc.1
      refine ⟨?_, rfl⟩
      rw [eqGuard_at_int, binOp_shl]
      simp [Op.shift]; omega
    · simp at h; obtain ⟨rfl, rfl⟩ := h
      have h0 : 0 ≤ n := hc.1
      refine ⟨?_, rfl⟩
      rw [eqGuard_at_int, binOp_shr]
      simp [Op.shift]; omega
    · split at h
      · rename_i hk
        subst hk
        split at h <;> simp at h <;> (try obtain ⟨rfl, rfl⟩ := h) <;> (try refine ⟨?_, rfl⟩) <;> (try rw [eqGuard_at_int])
        · rw [binOp_add]; rfl
        · rw [binOp_sub]; rfl
        · rw [binOp_mul]; rfl
        · have h0 : n ≠ 0 := hc.1
          rw [binOp_quo]; simp [Op.intDiv, h0]
        · have h0 : n ≠ 0 := hc.1
          rw [binOp_rem]; simp [Op.intDiv, h0]
        · rw [binOp_and, intBits_and]; rfl
        · rw [binOp_or, intBits_or]; rfl
        · rw [binOp_xor, intBits_xor]; rfl
        · rw [binOp_andNot, intBits_andNot]; rfl
        · rw [binOp_eql]; rfl
        · rw [binOp_neq]; rfl
        · rw [binOp_lss]; rfl
        · rw [binOp_leq]; rfl
        · rw [binOp_gtr]; rfl
        · rw [binOp_geq]; rfl
      · cases h
  · rename_i m n
    split at h
    · rename_i hk
      have hu : P.underlying t = some .bool := by
        have := hT.kin hk
        unfold kinOf at this
        split at this <;> simp at this
        assumption
      split at h
      · simp at h; obtain ⟨rfl, rfl⟩ := h
        refine ⟨?_, rfl⟩
        rw [eqGuard_at_bool]
        simp [binOp, Op.equal, Op.maxDepth, run_equalIn_bool' w 9999 t m n hu]
      · simp at h; obtain ⟨rfl, rfl⟩ := h
        refine ⟨?_, rfl⟩
        rw [eqGuard_at_bool]
        simp [binOp, Op.equal, Op.maxDepth, run_equalIn_bool' w 9999 t m n hu]
      · cases h
    · cases h
  · rename_i m n
    split at h <;> simp at h <;> (try obtain ⟨rfl, rfl⟩ := h) <;> (try refine ⟨?_, rfl⟩) <;> (try rw [eqGuard_at_string])
    · have h0 : m.size + n.size ≤ 9223372036854775807 := hc.1
      have h1 := run_string_add_sum (P := P) w m n h0
      simp [binOp, h1]
    all_goals simp [binOp, Op.stringOp]
  · rename_i p n c
    split at h
    · rename_i hk
      obtain ⟨inf, zv, hu, _⟩ := slc_spec (hT.slc hk)
      split at h
      · simp at h; obtain ⟨rfl, rfl⟩ := h
        refine ⟨?_, rfl⟩
        rw [eqGuard_at_slice]
        rw [Sem.run_bind, Sem.run_pure, Result.andThen_ok]
        rw [run_eql_sl _ _ _ _ _ _ hu]; try rfl
      · simp at h; obtain ⟨rfl, rfl⟩ := h
        refine ⟨?_, rfl⟩
        rw [eqGuard_at_slice]
        rw [Sem.run_bind, Sem.run_pure, Result.andThen_ok]
        rw [run_neq_sl _ _ _ _ _ _ hu]; first | done | rfl | (cases p <;> rfl)
      · cases h
    · cases h
  · cases h

def unV (op : UnOp) (a : Value) : Option Value :=
  match op, a with
  | .neg, .int k n => some (.int k (k.wrap (0 - n)))
  | .xor, .int k n => some (.int k (bits .xor k (if k.signed then -1 else k.max) n))
  | .not, .bool b => some (.bool (!b))
  | _, _ => none

theorem unV_run {op : UnOp} {a v : Value} (h : unV op a = some v) (w : World) : (Op.unary op a).run P w = .ok v w ∧ v.oneCell' = true := by
  unfold unV at h
  split at h <;> (try (injection h with h; subst h))
  · exact ⟨rfl, rfl⟩
  · exact ⟨rfl, rfl⟩
  · exact ⟨rfl, rfl⟩
  · cases h

/-- Cells that are known values. -/
def litsOf : List Cell → Option (List Value)
  | [] => some []
  | .t (.lit v) :: r => (litsOf r).map (v :: ·)
  | _ :: _ => none

theorem litsOf_spec {O : Nat → Prop} {ρ : Nat → Value} {H : Nat → Option Obj} {w : World} : ∀ {cs : List Cell} {vs us : List Value}, litsOf cs = some vs → CRs O ρ H w us cs → us = vs
  | [], vs, us, h, hc => by simp [litsOf] at h; subst h; exact List.length_eq_zero_iff.1 hc.1
  | .t (.lit v) :: r, vs, u :: us, h, hc => by
    simp only [litsOf, Option.map_eq_some_iff] at h
    obtain ⟨vs', h', rfl⟩ := h
    have h0 := hc.2 0 u _ rfl rfl
    have e0 : u = v := by cases h0 with | t h0 => cases h0; rfl
    have := litsOf_spec h' (us := us) ⟨by have := hc.1; simp at this; exact this, fun k a c ha hcc => hc.2 (k + 1) a c (by simpa using ha) (by simpa using hcc)⟩
    rw [e0, this]
  | .t (.lit v) :: r, vs, [], h, hc => by have := hc.1; simp at this
  | .t (.ro ..) :: _, _, _, h, _ => by simp [litsOf] at h
  | .own _ :: _, _, _, h, _ => by simp [litsOf] at h
  | .ptr .. :: _, _, _, h, _ => by simp [litsOf] at h
  | .rop _ :: _, _, _, h, _ => by simp [litsOf] at h
  | .clo .. :: _, _, _, h, _ => by simp [litsOf] at h

/-- What an operation comes to: its value, the memory behind it, and what must hold. -/
structure R : Type 1 where
  val : AT
  heap : List (Nat × Obj)
  conds : List Prop

def lit (v : Value) : AT := .v false [.t (.lit v)]

def binA (tb : Tab) (op : BinOp) (t : Nat) (x y : AT) : Option (AT × List Prop) :=
  match x, y with
  | .v false [.t (.lit a)], .v false [.t (.lit b)] => (binV tb op t a b).map fun r => (lit r.1, r.2)
  | .v true xs, .v true ys =>
    match look t tb.eqs, litsOf xs, litsOf ys with
    | some ks, some as, some bs =>
      match op with
      | .eql => (eqVals ks as bs).map fun b => (lit (.bool b), [])
      | .neq => (eqVals ks as bs).map fun b => (lit (.bool (!b)), [])
      | _ => none
    | _, _, _ => none
  | .v false [.t (.ro _ _ _ (_ :: _))], .v false [.t (.lit (.slice none 0 0))] =>
    match look t tb.slc, op with
    | some _, .eql => some (lit (.bool false), [])
    | some _, .neq => some (lit (.bool true), [])
    | _, _ => none
  | _, _ => none

section
variable {O : Nat → Prop} {ρ : Nat → Value} {H : Nat → Option Obj} {w : World}

theorem lit_ar {v : Value} (h : v.oneCell' = true) : AR O ρ H w v (lit v) := ⟨_, rfl, .t (.lit v h)⟩

theorem lit_inv {u v : Value} (h : AR O ρ H w u (.v false [.t (.lit v)])) : u = v := by
  obtain ⟨c, hc, h⟩ := h
  simp at hc; subst hc
  cases h with | t h => cases h; rfl

theorem binA_run {tb : Tab} (hT : TabOk P tb) {op : BinOp} {t : Nat} {x y r : AT} {cs : List Prop} (h : binA tb op t x y = some (r, cs)) (hc : AllC cs) {a b : Value} (ha : AR O ρ H w a x) (hb : AR O ρ H w b y) (p q : Operand) :
    ∃ v, (do eqGuard op t p q a b; binOp op t a b : Sem Value).run P w = .ok v w ∧ AR O ρ H w v r := by
  unfold binA at h
  split at h
  · simp only [Option.map_eq_some_iff] at h
    obtain ⟨⟨v, cs'⟩, hv, he⟩ := h
    injection he with e1 e2; subst e1; subst e2
    have := lit_inv ha; subst this
    have := lit_inv hb; subst this
    obtain ⟨h1, h2⟩ := binV_run hT hv hc p q w
    exact ⟨v, h1, lit_ar h2⟩
  · rename_i xs ys
    split at h
    · rename_i ks as bs hk hx hy
      obtain ⟨⟨hl, hg⟩, hlay⟩ := hT.eqs hk
      obtain ⟨us, rfl, hus⟩ := ha
      obtain ⟨vs, rfl, hvs⟩ := hb
      have e1 := litsOf_spec hx hus; subst e1
      have e2 := litsOf_spec hy hvs; subst e2
      have hlen : ∀ {b}, eqVals ks us vs = some b → (Op.equalIn 10000 t (.agg us.toArray) (.agg vs.toArray)).run P w = .ok b w := by
        intro b hb
        exact leaves_equal 100 t ks hl hlay 10000 (by omega) w us vs b hb
      split at h
      · simp only [Option.map_eq_some_iff] at h
        obtain ⟨b, hb, he⟩ := h
        injection he with e1 e2; subst e1; subst e2
        refine ⟨.bool b, ?_, lit_ar rfl⟩
        simp only [Sem.run_bind, run_eqGuard_agg w .eql t p q _ _ hg, Result.andThen_ok, run_eql_struct, hlen hb]
      · simp only [Option.map_eq_some_iff] at h
        obtain ⟨b, hb, he⟩ := h
        injection he with e1 e2; subst e1; subst e2
        refine ⟨.bool (!b), ?_, lit_ar rfl⟩
        simp only [Sem.run_bind, run_eqGuard_agg w .neq t p q _ _ hg, Result.andThen_ok, run_neq_struct, hlen hb]
      · cases h
    · cases h
  · rename_i T es enc z y r
    have hb2 := lit_inv hb; subst hb2
    obtain ⟨c, hc, ha⟩ := ha
    simp at hc; subst hc
    have ht := ha.tr
    cases ht with
    | ro ad cap vals =>
      split at h
      · rename_i hk
        obtain ⟨inf, zv, hu, _⟩ := slc_spec (hT.slc hk)
        injection h with h; injection h with e1 e2; subst e1; subst e2
        refine ⟨.bool false, ?_, lit_ar rfl⟩
        rw [eqGuard_at_slice]
        rw [Sem.run_bind, Sem.run_pure, Result.andThen_ok]
        rw [run_eql_sl _ _ _ _ _ _ hu]; try rfl
      · rename_i hk
        obtain ⟨inf, zv, hu, _⟩ := slc_spec (hT.slc hk)
        injection h with h; injection h with e1 e2; subst e1; subst e2
        refine ⟨.bool true, ?_, lit_ar rfl⟩
        rw [eqGuard_at_slice]
        rw [Sem.run_bind, Sem.run_pure, Result.andThen_ok]
        rw [run_neq_sl _ _ _ _ _ _ hu]; first | done | rfl | (cases p <;> rfl)
      · cases h
  · cases h

end
end Go.Abs
