import Derived.Test.YtoooalfhjcfinaaAbs7
namespace Go.Abs
set_option linter.unusedVariables false
set_option linter.unusedSimpArgs false
variable {P : Program}

theorem needs_of {g gx : Gd} (hg : g.val = true) (h : AllC (needs g gx)) : gx.val = true := by
  cases gx with
  | yes => rfl
  | on p => exact h.1 hg

theorem pickC_of {g gx : Gd} {b : Bool} (hg : g.val = true) (h : AllC (pickC g b b gx)) : gx.val = true := by
  cases gx with
  | yes => rfl
  | on p => exact h.1 hg rfl

section
variable {W : World} {A K : Nat → Prop} {s : St} {a : Act} {w : World} {ρ : Nat → Value}

/-- What a step is worth: the operation runs, and the new state is told. -/
def Does (P : Program) (W : World) (A K : Nat → Prop) (s : St) (a : Act) (w : World) (o : Oper) (r : R) : Prop :=
  ∃ v w' ρ', ((execOp a.eval o).run P w = .ok (.value v) w' ∨ ((execOp a.eval o).run P w = .ok .skip w' ∧ v = undef)) ∧
    Rel W A K { s with heap := r.heap } a w' ρ' ∧ AR (St.O { s with heap := r.heap } A ρ') ρ' (St.H { s with heap := r.heap }) w' v r.val

theorem does_pure (h : Rel W A K s a w ρ) {o : Oper} {r : R} (hh : r.heap = s.heap) {v : Value} (hr : (execOp a.eval o).run P w = .ok (.value v) w) (hv : AR (s.O A ρ) ρ s.H w v r.val) : Does P W A K s a w o r := by
  refine ⟨v, w, ρ, .inl hr, ?_, ?_⟩ <;> rw [hh] <;> assumption

theorem ar_bool {O : Nat → Prop} {H : Nat → Option Obj} {v : Value} {b : Bool} (h : AR O ρ H w v (.v false [.t (.lit (.bool b))])) : v = .bool b := lit_inv h

theorem elems_cells (h : Rel W A K s a w ρ) {c : Cell} {t : Tree} (he : elemsT s c = some t) {v : Value} (hv : CR (s.O A ρ) ρ s.H w v c) :
    (∀ {T : Type} {es : Nat} {enc : T → List Tree} {z : T} {ys : List T}, t = .ro es enc z ys → ∃ news, ((v = .slice none 0 0 ∧ ys = []) ∨ ∃ ad cap, v = .slice (some ad) ys.length cap ∧ ∀ (j : Nat) u, news[j]? = some u → w.cell? (ad.add j) = some u) ∧ TRs (s.O A ρ) w news (ys.flatMap enc)) ∧
    (∀ v', t = .lit v' → v = v') := by
  unfold elemsT at he
  split at he
  · split at he
    · rename_i id x0 T ty es enc z ys ho
      injection he with he; subst he
      refine ⟨?_, fun _ h => by cases h⟩
      rintro _ _ _ _ _ ⟨⟩
      obtain ⟨vs, hown, hes, hc⟩ := h.mr.obj _ _ ho
      have hvr : v = ρ id := by
        cases hv with
        | own => rfl
        | ownj h' => rw [ho] at h'; cases h'
      subst hvr
      refine ⟨vs, ?_, hc⟩
      rcases hown.2 with ⟨e0, hx0⟩ | ⟨g, cap, cur, e0, _⟩
      · exact .inl ⟨e0, List.length_eq_zero_iff.1 hx0⟩
      · exact .inr ⟨⟨g, 0, none⟩, cap, e0, hown.cells (g := g) (by rw [e0]; rfl)⟩
    · cases he
  · injection he with he; subst he
    have ht := hv.tr
    refine ⟨?_, ?_⟩
    · rintro _ _ _ _ _ rfl
      cases ht with
      | nil => exact ⟨[], .inl ⟨rfl, rfl⟩, ⟨rfl, by simp⟩⟩
      | ro ad cap vals hcap hmax hes hlen hcell hO hrel => exact ⟨vals, .inr ⟨ad, cap, rfl, hcell⟩, ⟨hlen, hrel⟩⟩
    · rintro v' rfl
      cases ht; rfl
  · cases he

theorem tr_len {O : Nat → Prop} {v : Value} {T : Type} {es : Nat} {enc : T → List Tree} {z : T} {xs : List T} (h : TR O w v (.ro es enc z xs)) : ∃ ad cap, v = .slice ad xs.length cap := by
  cases h with
  | nil => exact ⟨none, 0, rfl⟩
  | ro ad cap => exact ⟨some ad, cap, rfl⟩

theorem run_len {t e : TypeId} (ht : P.underlying t = some (.slice e)) (ty : TypeId) (ad : Option Addr) (n c : Nat) (w : World) : (Builtin.len_ #[t] ty #[.slice ad n c]).run P w = .ok (.int .i64 n) w := by
  simp [Builtin.len_, run_underlying ht, goInt]

theorem fld_spec {t : Nat} {fs : List (Nat × Nat × Bool)} (h : fieldsAt P t = some fs) : ∃ F : Array Field, P.underlying t = some (.struct F) ∧ F.size = fs.length ∧
    ∀ (k off n : Nat) (b : Bool), fs[k]? = some (off, n, b) → ∃ f, F[k]? = some f ∧ f.offset = off ∧ lay P f.type = some (n, b) ∧ n ≠ 0 := by
  unfold fieldsAt at h
  split at h
  · rename_i F hu
    refine ⟨F, hu, ?_⟩
    have key : ∀ (l : List Field) (fs : List (Nat × Nat × Bool)), l.mapM (fun f => (lay P f.type).bind fun x => if x.1 = 0 then none else some (f.offset, x.1, x.2)) = some fs → l.length = fs.length ∧
        ∀ (k off n : Nat) (b : Bool), fs[k]? = some (off, n, b) → ∃ f, l[k]? = some f ∧ f.offset = off ∧ lay P f.type = some (n, b) ∧ n ≠ 0 := by
      intro l
      induction l with
      | nil => intro fs h; simp at h; subst h; simp
      | cons f r ih =>
        intro fs h
        simp only [List.mapM_cons, Option.bind_eq_bind, Option.pure_def, Option.bind_eq_some_iff] at h
        obtain ⟨y, ⟨x, hx, hy⟩, ys, hys, h⟩ := h
        injection h with h; subst h
        split at hy
        · cases hy
        rename_i hn
        injection hy with hy; subst hy
        obtain ⟨h1, h2⟩ := ih ys hys
        refine ⟨by simp [h1], fun k off n b hk => ?_⟩
        cases k with
        | zero => simp at hk; obtain ⟨rfl, rfl, rfl⟩ := hk; exact ⟨f, rfl, rfl, hx, hn⟩
        | succ k => simp at hk; obtain ⟨f', hf, h3⟩ := h2 k off n b hk; exact ⟨f', by simpa using hf, h3⟩
    obtain ⟨h1, h2⟩ := key F.toList fs h
    exact ⟨by simpa using h1, fun k off n b hk => by obtain ⟨f, hf, h3⟩ := h2 k off n b hk; exact ⟨f, by simpa using hf, h3⟩⟩
  · cases h

theorem kin_spec {t : Nat} {k : Kin} (h : kinOf P t = some k) : P.underlying t = some (match k with | .int k => .int k | .bool => .bool | .str => .string | .float k => .float k) := by
  unfold kinOf at h
  split at h <;> simp at h <;> subst h <;> assumption

/-! ### one lemma for each form of operation -/

theorem step_move (h : Rel W A K s a w ρ) {o : Oper} {g : Gd} (hg : g.val = true) {x : Operand} (ho : o.op = .move x ∨ o.op = .assign x) {tb : Tab} {hi : Hint} {r : R} (hs : step tb hi s g o.dst o.op = some r) (hc : AllC r.conds) : Does P W A K s a w o r := by
  have hs' : (match opT s x with | some (gx, v) => some (R.mk v s.heap (needs g gx)) | none => none) = some r := by
    rcases ho with ho | ho <;> rw [ho] at hs <;> exact hs
  split at hs'
  · rename_i gx v hx
    injection hs' with hs'; subst hs'
    have := opT_sound h hx (needs_of hg hc)
    refine does_pure h rfl (v := a.eval x) ?_ this
    rcases ho with ho | ho <;> simp [execOp, ho]
  · cases hs'

theorem step_pick (h : Rel W A K s a w ρ) {o : Oper} {g : Gd} (hg : g.val = true) {c x y : Operand} (ho : o.op = .pick c x y) {tb : Tab} {hi : Hint} {r : R} (hs : step tb hi s g o.dst o.op = some r) (hc : AllC r.conds) : Does P W A K s a w o r := by
  rw [ho] at hs
  simp only [step] at hs
  split at hs
  · rename_i gc b gx vx gy vy hcc hx hy
    simp only [Option.map_eq_some_iff] at hs
    obtain ⟨v, hv, hs⟩ := hs
    subst hs
    obtain ⟨hc12, hc3⟩ := AllC_append.1 hc
    obtain ⟨hc1, hc2⟩ := AllC_append.1 hc12
    have eb := ar_bool (opT_sound h hcc (needs_of hg hc1))
    unfold pickA at hv
    split at hv
    · rename_i m n
      injection hv with hv; subst hv
      refine does_pure h rfl (v := .bool (bif b then m else n)) ?_ (lit_ar rfl)
      cases b with
      | true =>
        have e1 := ar_bool (opT_sound h hx (pickC_of hg hc2))
        simp [execOp, ho, eb, e1, asBool]
      | false =>
        have e1 := ar_bool (opT_sound h hy (pickC_of hg hc3))
        simp [execOp, ho, eb, e1, asBool]
    · cases hv
  · cases hs

theorem step_alloc (h : Rel W A K s a w ρ) {o : Oper} {g : Gd} {t : TypeId} (ho : o.op = .alloc t) {tb : Tab} (hT : TabOk P tb) {hi : Hint} {r : R} (hs : step tb hi s g o.dst o.op = some r) : Does P W A K s a w o r := by
  rw [ho] at hs
  simp only [step] at hs
  split at hs
  · rename_i d zs hd hz
    split at hs
    · cases hs
    rename_i hn
    injection hs with hs; subst hs
    have hz := hT.zero hz
    unfold zeroAt at hz
    split at hz
    · rename_i i hi2
      split at hz
      · rename_i z hzz
        have hp : St.H { s with heap := hset d (.box t (zs.map Cell.t)) s.heap } d = some (.box t (zs.map Cell.t)) := by simp [St.H, look_hset]
        have hnew := new_box h (by simpa using hn) t (zeroChk_trs (O := s.O A ρ) (w := w) hz).crs (ρ := ρ) (fun k hk => by rw [hasL_map_t] at hk; cases hk)
        refine ⟨_, _, _, .inl ?_, hnew, ⟨_, rfl, new_ptr hp⟩⟩
        simp [execOp, ho, Instr.alloc, zeroValue, typeInfo, hi2, hzz, newVar, newRow]
      · cases hz
    · cases hz
  · cases hs

theorem step_box (h : Rel W A K s a w ρ) {o : Oper} {g : Gd} (hg : g.val = true) {t : TypeId} {x : Operand} (ho : o.op = .box t x) {tb : Tab} {hi : Hint} {r : R} (hs : step tb hi s g o.dst o.op = some r) (hc : AllC r.conds) : Does P W A K s a w o r := by
  rw [ho] at hs
  simp only [step] at hs
  split at hs
  · rename_i d gx b cs hd hx
    split at hs
    · cases hs
    rename_i hn
    injection hs with hs; subst hs
    have hx2 := opT_sound h hx (needs_of hg hc)
    obtain ⟨vs, hvs, hcs⟩ := VR.cells hx2
    have hp : St.H { s with heap := hset d (.box t cs) s.heap } d = some (.box t cs) := by simp [St.H, look_hset]
    have hnew := new_box h (by simpa using hn) t hcs (fun k hk => opT_has hx k hk)
    refine ⟨_, _, _, .inl ?_, hnew, ⟨_, rfl, new_ptr hp⟩⟩
    simp [execOp, ho, Instr.box, newVar, newRow, hvs]
  · cases hs

theorem step_load (h : Rel W A K s a w ρ) {o : Oper} {g : Gd} (hg : g.val = true) {t : TypeId} {x : Operand} (ho : o.op = .load t x) {tb : Tab} (hT : TabOk P tb) {hi : Hint} {r : R} (hs : step tb hi s g o.dst o.op = some r) (hc : AllC r.conds) : Does P W A K s a w o r := by
  rw [ho] at hs
  simp only [step] at hs
  have fin : ∀ {u : Value}, (Instr.loadAt t (a.eval x)).run P w = .ok u w → (execOp a.eval o).run P w = .ok (.value u) w := fun hu => by simp [execOp, ho, hu]
  split at hs
  · rename_i gx id i j n b hx hl
    have hl := hT.lay hl
    split at hs
    · rename_i ty cells hid
      split at hs
      · rename_i hcond
        injection hs with hs; subst hs
        obtain ⟨c, hcc, hx2⟩ := opT_sound h hx (needs_of hg hc)
        simp at hcc; subst hcc
        obtain ⟨u, hu, hv⟩ := load_box h hl hid hx2 hcond.1 (fun e => by have := hcond.2; rw [e] at this; simpa using this)
        exact does_pure h rfl (fin hu) hv
      · cases hs
    · rename_i ty es T enc z xs hid
      split at hs
      · rename_i hcond
        injection hs with hs; subst hs
        obtain ⟨hc1, hc2⟩ := AllC_append.1 hc
        obtain ⟨c, hcc, hx2⟩ := opT_sound h hx (needs_of hg hc1)
        simp at hcc; subst hcc
        obtain ⟨u, hu, hv⟩ := load_rows h hl hid hx2 (hc2.1 hg) hcond.1 (fun e => by have := hcond.2; rw [e] at this; simpa using this)
        exact does_pure h rfl (fin hu) hv
      · cases hs
    · cases hs
  · rename_i gx cells n b hx hl
    have hl := hT.lay hl
    split at hs
    · rename_i hcond
      injection hs with hs; subst hs
      obtain ⟨c, hcc, hx2⟩ := opT_sound h hx (needs_of hg hc)
      simp at hcc; subst hcc
      obtain ⟨u, hu, hv⟩ := load_rop hl hx2 hcond.1 (fun e => by have := hcond.2; rw [e] at this; simpa using this)
      exact does_pure h rfl (fin hu) hv
    · cases hs
  · cases hs

theorem step_store (h : Rel W A K s a w ρ) {o : Oper} {g : Gd} (hg : g.val = true) {t : TypeId} {x y : Operand} (ho : o.op = .store t x y) {tb : Tab} (hT : TabOk P tb) {hi : Hint} {r : R} (hs : step tb hi s g o.dst o.op = some r) (hc : AllC r.conds) : Does P W A K s a w o r := by
  rw [ho] at hs
  simp only [step] at hs
  have fin : ∀ {w' : World}, (Instr.storeAt t (a.eval x) (a.eval y)).run P w = .ok () w' → (execOp a.eval o).run P w = .ok .skip w' := fun hu => by simp [execOp, ho, hu]
  have hun : ∀ {O : Nat → Prop} {ρ : Nat → Value} {H : Nat → Option Obj} {w : World}, AR O ρ H w undef (.tp []) := ⟨[], rfl, rfl, by simp⟩
  split at hs
  · rename_i gx id i j gy b cs n b2 hx hy hl _
    have hl := hT.lay hl
    split at hs
    · rename_i hn
      split at hs
      · rename_i ty cells hid
        split at hs
        · rename_i hj
          injection hs with hs; subst hs
          obtain ⟨hc1, hc2⟩ := AllC_append.1 hc
          obtain ⟨c, hcc, hx2⟩ := opT_sound h hx (needs_of hg hc1)
          simp at hcc; subst hcc
          have hy2 := opT_sound h hy (needs_of hg hc2)
          obtain ⟨w', hw, hrel⟩ := store_box h hl hid hx2 hy2 (fun k hk => opT_has hy k hk) hn hj
          exact ⟨undef, w', ρ, .inr ⟨fin hw, rfl⟩, hrel, hun⟩
        · cases hs
      · rename_i o1 o2 _ hid
        injection hs with hs; subst hs
        obtain ⟨hc12, hc3⟩ := AllC_append.1 hc
        obtain ⟨hc1, hc2⟩ := AllC_append.1 hc12
        obtain ⟨c, hcc, hx2⟩ := opT_sound h hx (needs_of hg hc1)
        simp at hcc; subst hcc
        have hy2 := opT_sound h hy (needs_of hg hc2)
        have hst := hc3.1
        cases hst with
        | @mk T _ _ enc z xs _ _ n1 x hi2 hj hl2 hx1 hx3 =>
          have hnn : n1 = n := by rw [← hn]; simp [hl2]; omega
          subst hnn
          obtain ⟨w', hw, hrel⟩ := store_rows h hl hid hx2 hy2 hn hi2 x (by omega) hl2 (by
            have e1 : ((enc (xs.getD i z)).map Cell.t).take j = ((enc x).map Cell.t).take j := by rw [← List.map_take, ← List.map_take, hx1]
            have e2 : ((enc (xs.getD i z)).map Cell.t).drop (j + n1) = ((enc x).map Cell.t).drop (j + n1) := by rw [← List.map_drop, ← List.map_drop, hx3]
            rw [e1, e2, List.append_assoc, ← List.drop_drop, List.take_append_drop, List.take_append_drop])
          exact ⟨undef, w', ρ, .inr ⟨fin hw, rfl⟩, hrel, hun⟩
      · cases hs
    · cases hs
  · cases hs

end
end Go.Abs
