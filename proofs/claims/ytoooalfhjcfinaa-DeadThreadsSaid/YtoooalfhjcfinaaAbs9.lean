import Derived.Test.YtoooalfhjcfinaaAbs8
namespace Go.Abs
set_option linter.unusedVariables false
set_option linter.unusedSimpArgs false
variable {P : Program}

section
variable {W : World} {A K : Nat → Prop} {s : St} {a : Act} {w : World} {ρ : Nat → Value}

theorem step_nilCheck (h : Rel W A K s a w ρ) {o : Oper} {g : Gd} (hg : g.val = true) {x : Operand} (ho : o.op = .nilCheck x) {tb : Tab} {hi : Hint} {r : R} (hs : step tb hi s g o.dst o.op = some r) (hc : AllC r.conds) : Does P W A K s a w o r := by
  rw [ho] at hs
  simp only [step] at hs
  split at hs
  · rename_i gx id0 i j hx
    split at hs
    · rename_i ob hid
      injection hs with hs; subst hs
      have hx2 := opT_sound h hx (needs_of hg hc)
      obtain ⟨c, hcc, hx3⟩ := id hx2
      simp at hcc; subst hcc
      generalize hv : a.eval x = v at hx2 hx3
      refine does_pure h rfl (v := v) ?_ hx2
      cases hx3 with
      | ptr h1 h2 => simp [execOp, ho, hv]
      | ptrj h1 => rw [hid] at h1; cases h1
    · cases hs
  · rename_i gx c hx
    injection hs with hs; subst hs
    have hx2 := opT_sound h hx (needs_of hg hc)
    obtain ⟨c, hcc, hx3⟩ := id hx2
    simp at hcc; subst hcc
    generalize hv : a.eval x = v at hx2 hx3
    refine does_pure h rfl (v := v) ?_ hx2
    cases hx3 with
    | rop => simp [execOp, ho, hv]
  · rename_i gx f c hx
    injection hs with hs; subst hs
    have hx2 := opT_sound h hx (needs_of hg hc)
    obtain ⟨c, hcc, hx3⟩ := id hx2
    simp at hcc; subst hcc
    generalize hv : a.eval x = v at hx2 hx3
    refine does_pure h rfl (v := v) ?_ hx2
    cases hx3 with
    | clo => simp [execOp, ho, hv]
  · cases hs

theorem AllC_imp {g : Gd} (hg : g.val = true) : ∀ {l : List Prop}, AllC (l.map fun c => (g.val = true → c)) → AllC l
  | [], _ => trivial
  | c :: l, h => ⟨h.1 hg, AllC_imp hg h.2⟩

theorem step_binOp (h : Rel W A K s a w ρ) {o : Oper} {g : Gd} (hg : g.val = true) {op : BinOp} {t t' : TypeId} {x y : Operand} (ho : o.op = .binOp op t x y t') {tb : Tab} (hT : TabOk P tb) {hi : Hint} {r : R} (hs : step tb hi s g o.dst o.op = some r) (hc : AllC r.conds) : Does P W A K s a w o r := by
  rw [ho] at hs
  simp only [step] at hs
  split at hs
  · rename_i gx vx gy vy hx hy
    simp only [Option.map_eq_some_iff] at hs
    obtain ⟨⟨v, cs⟩, hb, hs⟩ := hs
    subst hs
    obtain ⟨hc12, hc3⟩ := AllC_append.1 hc
    obtain ⟨hc1, hc2⟩ := AllC_append.1 hc12
    obtain ⟨u, hu, hv⟩ := binA_run hT hb (AllC_imp hg hc3) (opT_sound h hx (needs_of hg hc1)) (opT_sound h hy (needs_of hg hc2)) x y
    refine does_pure h rfl (v := u) ?_ hv
    simp only [execOp, ho]
    rw [Sem.run_bind, hu]
    rfl
  · cases hs

theorem step_unOp (h : Rel W A K s a w ρ) {o : Oper} {g : Gd} (hg : g.val = true) {op : UnOp} {t : TypeId} {x : Operand} (ho : o.op = .unOp op t x) {tb : Tab} {hi : Hint} {r : R} (hs : step tb hi s g o.dst o.op = some r) (hc : AllC r.conds) : Does P W A K s a w o r := by
  rw [ho] at hs
  simp only [step] at hs
  split at hs
  · rename_i gx b hx
    simp only [Option.map_eq_some_iff] at hs
    obtain ⟨v, hb, hs⟩ := hs
    subst hs
    have e := lit_inv (opT_sound h hx (needs_of hg hc))
    obtain ⟨hu, h1⟩ := unV_run (P := P) hb w
    refine does_pure h rfl (v := v) ?_ (lit_ar h1)
    simp [execOp, ho, e, hu]
  · cases hs

theorem step_convert (h : Rel W A K s a w ρ) {o : Oper} {g : Gd} (hg : g.val = true) {src t : TypeId} {x : Operand} (ho : o.op = .convert src t x) {tb : Tab} (hT : TabOk P tb) {hi : Hint} {r : R} (hs : step tb hi s g o.dst o.op = some r) (hc : AllC r.conds) : Does P W A K s a w o r := by
  rw [ho] at hs
  simp only [step] at hs
  split at hs
  · rename_i gx k0 n ks k hx h1 h2
    injection hs with hs; subst hs
    have e := lit_inv (opT_sound h hx (needs_of hg hc))
    have u1 := kin_spec (hT.kin h1)
    have u2 := kin_spec (hT.kin h2)
    refine does_pure h rfl (v := .int k (k.wrap n)) ?_ (lit_ar rfl)
    simp only [execOp, ho, e, convert, Sem.run_bind, run_underlying u1, run_underlying u2, Result.andThen_ok]
    cases ks <;> rfl
  · cases hs

theorem capsA_run (h : Rel W A K s a w ρ) {g : Gd} (hg : g.val = true) : ∀ {l : List Operand} {cs : List Cell} {q : List Prop}, capsA s g l = some (cs, q) → AllC q → CRs (s.O A ρ) ρ s.H w (l.map a.eval) cs
  | [], cs, q, hs, _ => by simp [capsA] at hs; obtain ⟨rfl, _⟩ := hs; exact CRs.nil
  | x :: l, cs, q, hs, hc => by
    simp only [capsA] at hs
    split at hs
    · rename_i gx c hx
      simp only [Option.map_eq_some_iff] at hs
      obtain ⟨⟨cs', q'⟩, hr, hs⟩ := hs
      injection hs with h1 h2; subst h1; subst h2
      obtain ⟨hc1, hc2⟩ := AllC_append.1 hc
      obtain ⟨c', hcc, hx2⟩ := opT_sound h hx (needs_of hg hc1)
      simp at hcc; subst hcc
      exact CRs.cons hx2 (capsA_run h hg hr hc2)
    · cases hs

theorem step_makeFunc (h : Rel W A K s a w ρ) {o : Oper} {g : Gd} (hg : g.val = true) {f : FuncId} {first caps : Array Operand} (ho : o.op = .makeFunc (.func f) first caps) {tb : Tab} {hi : Hint} {r : R} (hs : step tb hi s g o.dst o.op = some r) (hc : AllC r.conds) : Does P W A K s a w o r := by
  rw [ho] at hs
  simp only [step] at hs
  split at hs
  · rename_i cs q hf hcs
    injection hs with hs; subst hs
    have hcaps := capsA_run h hg hcs hc
    have e1 : first = #[] := by apply Array.ext'; simpa using hf
    have e2 : caps.map a.eval = (caps.toList.map a.eval).toArray := by apply Array.ext'; simp
    refine does_pure h rfl (v := .func (.func f) #[] (caps.toList.map a.eval).toArray) ?_ ⟨_, rfl, .clo _ hcaps.1 hcaps.2⟩
    simp [execOp, ho, Instr.makeFunc, e1]
    exact e2
  · cases hs

theorem made_trs {O : Nat → Prop} {T : Type} {enc : T → List Tree} {z : T} {zc : Array Value} {es n : Nat} (hz : TRs O w zc.toList (enc z)) (hzl : (enc z).length = es) (hpos : 0 < es) :
    TRs O w (madeCells zc (n * es)).toList ((List.replicate n z).flatMap enc) := by
  have hes : ∀ x ∈ List.replicate n z, (enc x).length = es := fun x hx => by rw [(List.mem_replicate.1 hx).2]; exact hzl
  have hzs : zc.size = es := by have := hz.1; rw [hzl] at this; simpa using this
  refine ⟨by rw [flat_len hes]; simp [madeCells], fun k v t hv ht => ?_⟩
  have hk : k < n * es := by
    have := (List.getElem?_eq_some_iff.1 hv).1
    simpa [madeCells] using this
  have hj : k % es < es := Nat.mod_lt _ hpos
  have hi : k / es < n := Nat.div_lt_of_lt_mul (by rw [Nat.mul_comm]; exact hk)
  have hg := flat_get (z := z) hes (k / es) (k % es) (by simpa using hi) hj
  rw [show k / es * es + k % es = k from by rw [Nat.mul_comm]; exact Nat.div_add_mod k es] at hg
  rw [hg] at ht
  have hgd : (List.replicate n z).getD (k / es) z = z := by simp [List.getD, List.getElem?_replicate, hi]
  rw [hgd] at ht
  refine hz.2 (k % es) v t ?_ ht
  simp only [madeCells, Array.toList_map, Array.toList_range, List.getElem?_map, List.getElem?_range hk, Option.map_some, Option.some.injEq, hzs] at hv
  rw [← hv]
  simp [hzs, hj, getElem!_pos]

theorem step_makeSlice (h : Rel W A K s a w ρ) {o : Oper} {g : Gd} (hg : g.val = true) {t : TypeId} {l c : Operand} (ho : o.op = .makeSlice t l c) {tb : Tab} (hT : TabOk P tb) {hi : Hint} {r : R} (hs : step tb hi s g o.dst o.op = some r) (hc : AllC r.conds) : Does P W A K s a w o r := by
  rw [ho] at hs
  simp only [step] at hs
  split at hs
  · rename_i d gl kl n gc kc m e es by_ ob hd hl hcc hsl
    split at hs
    · rename_i zs hz
      split at hs
      · cases hs
      rename_i hn
      injection hs with hs; subst hs
      obtain ⟨hc12, hc3⟩ := AllC_append.1 hc
      obtain ⟨hc1, hc2⟩ := AllC_append.1 hc12
      have e1 := lit_inv (opT_sound h hl (needs_of hg hc1))
      have e2 := lit_inv (opT_sound h hcc (needs_of hg hc2))
      obtain ⟨hnm, hmade, _⟩ := hc3
      subst hnm
      obtain ⟨i, zv, hu, hi2, hzv, hsz, hby, hzs, hpos⟩ := slc_spec (hT.slc hsl)
      have hzz := hT.zero hz
      unfold zeroAt at hzz
      simp only [hi2, hzv] at hzz
      cases hmade with
      | @mk T _ _ _ enc z _ h0 hzl h63 hb =>
        obtain ⟨n, rfl⟩ : ∃ m : Nat, n = (m : Int) := ⟨n.toNat, by omega⟩
        simp only [Int.toNat_natCast] at h63 hb hc ⊢
        obtain ⟨w', hrun, hown, hgr⟩ := run_make_full (P := P) (w := w) 0 t e i zv es hu hi2 hzv hsz kl kc n (by rw [hby]; exact hb) h63 (Nat.zero_le _)
        have hlt : w.heap.size < w'.heap.size := by
          rcases hown.2 with ⟨e0, _⟩ | ⟨g', cap', cur', e0, _, hh, _⟩
          · cases e0
          · simp at e0; obtain ⟨rfl, _⟩ := e0; exact (Array.getElem?_eq_some_iff.1 hh).1
        have hzt : TRs (s.O A ρ) w zv.cells.toList (enc z) := zeroChk_trs hzz
        have hne := new_rows h (d := d) (by simpa using hn) (ty := e) (es := es) (enc := enc) (z := z) (xs := List.replicate n z) (cap := n) hgr hlt (by simpa using hown) (fun x hx => by rw [(List.mem_replicate.1 hx).2]; exact hzl) (made_trs hzt hzl hpos)
        have hp : St.H { s with heap := hset d (.rows e es enc z (List.replicate n z)) s.heap } d = some (.rows e es enc z (List.replicate n z)) := by simp [St.H, look_hset]
        refine ⟨.slice (some ⟨w.heap.size, 0, none⟩) n n, w', _, .inl ?_, hne, ⟨_, rfl, ?_⟩⟩
        · simp [execOp, ho, e1, e2, hrun]
        · have := CR.own (O := St.O { s with heap := hset d (.rows e es enc z (List.replicate n z)) s.heap } A (upd ρ d (.slice (some ⟨w.heap.size, 0, none⟩) (List.replicate n z).length n))) (ρ := upd ρ d (.slice (some ⟨w.heap.size, 0, none⟩) (List.replicate n z).length n)) (w := w') hp (by simp [upd, Value.oneCell'])
          simpa [upd] using this
    · cases hs
  · cases hs

end
end Go.Abs
