import Derived.Test.YtoooalfhjcfinaaAbs9
namespace Go.Abs
set_option linter.unusedVariables false
set_option linter.unusedSimpArgs false
variable {P : Program}

section
variable {W : World} {A K : Nat → Prop} {s : St} {a : Act} {w : World} {ρ : Nat → Value}

theorem run_fieldAt {t : TypeId} {F : Array Field} {k off n : Nat} {b : Bool} {f : Field} (hu : P.underlying t = some (.struct F)) (hf : F[k]? = some f) (ho : f.offset = off) (hl : lay P f.type = some (n, b)) (hn : n ≠ 0) (ad : Addr) (w : World) :
    (Instr.fieldAt t (.pointer (some ad)) k).run P w = .ok (.pointer (some (ad.add off))) w := by
  obtain ⟨i, d, hi, hd, hs, hb⟩ := lay_spec hl
  have hs0 : i.size ≠ 0 := by rw [hs]; exact hn
  simp [Instr.fieldAt, run_underlying hu, hf, Instr.sureAddr, fieldPlace, sizeOf, typeInfo, hi, hs0, ho]

theorem add_add (ad : Addr) (m n : Nat) : (ad.add m).add n = ad.add (m + n) := by
  unfold Addr.add
  by_cases h1 : m = 0
  · subst h1; simp
  · by_cases h2 : n = 0
    · subst h2; simp [h1]
    · have : m + n ≠ 0 := by omega
      simp [h1, h2, this, Nat.add_assoc]

theorem fld_get {tb : Tab} (hT : TabOk P tb) {t k off n : Nat} {b : Bool} (h : (look t tb.fld).bind (·[k]?) = some (off, n, b)) :
    ∃ F f, P.underlying t = some (.struct F) ∧ F[k]? = some f ∧ f.offset = off ∧ lay P f.type = some (n, b) ∧ n ≠ 0 := by
  simp only [Option.bind_eq_some_iff] at h
  obtain ⟨fs, hfs, hk⟩ := h
  obtain ⟨F, hu, _, hF⟩ := fld_spec (hT.fld hfs)
  obtain ⟨f, hf, h1, h2, h3⟩ := hF k off n b hk
  exact ⟨F, f, hu, hf, h1, h2, h3⟩

theorem step_fieldAddr (h : Rel W A K s a w ρ) {o : Oper} {g : Gd} (hg : g.val = true) {t : TypeId} {x : Operand} {k : Nat} (ho : o.op = .fieldAddr t x k) {tb : Tab} (hT : TabOk P tb) {hi : Hint} {r : R} (hs : step tb hi s g o.dst o.op = some r) (hc : AllC r.conds) : Does P W A K s a w o r := by
  rw [ho] at hs
  simp only [step] at hs
  split at hs
  · rename_i gx id0 i j off n b hx hfl
    obtain ⟨F, f, hu, hf, hoff, hl, hn⟩ := fld_get hT hfl
    split at hs
    · rename_i ob hid
      injection hs with hs; subst hs
      obtain ⟨c, hcc, hx2⟩ := opT_sound h hx (needs_of hg hc)
      simp at hcc; subst hcc
      generalize hv : a.eval x = v at hx2
      cases hx2 with
      | @ptr _ _ _ gg oo h1 h2 =>
        have hr := run_fieldAt hu hf hoff hl hn ⟨gg, i * oo.es + j, none⟩ w
        rw [Addr.add_mid] at hr
        refine does_pure h rfl (v := .pointer (some ⟨gg, i * oo.es + (j + off), none⟩)) ?_ ⟨_, rfl, .ptr h1 h2⟩
        rw [← Nat.add_assoc]
        simp [execOp, ho, hv, hr]
      | ptrj h1 => rw [hid] at h1; cases h1
    · cases hs
  · rename_i gx cs off n b hx hfl
    obtain ⟨F, f, hu, hf, hoff, hl, hn⟩ := fld_get hT hfl
    split at hs
    · rename_i hlt
      injection hs with hs; subst hs
      obtain ⟨c, hcc, hx2⟩ := opT_sound h hx (needs_of hg hc)
      simp at hcc; subst hcc
      generalize hv : a.eval x = v at hx2
      cases hx2 with
      | rop ad vals hlen hcell hO hrel =>
        have hr := run_fieldAt hu hf hoff hl hn ad w
        refine does_pure h rfl (v := .pointer (some (ad.add off))) (by simp [execOp, ho, hv, hr]) ⟨_, rfl, .rop (ad.add off) (vals.drop off) (by simp [hlen]) ?_ ?_ ?_⟩
        · intro k v hk
          rw [List.getElem?_drop] at hk
          rw [add_add]
          exact hcell _ _ hk
        · rcases hO with h0 | h0
          · subst h0; simp
          · refine .inr ?_
            have : (ad.add off).block = ad.block := by unfold Addr.add; split <;> rfl
            rw [this]; exact h0
        · intro k v t hk ht
          rw [List.getElem?_drop] at hk ht
          exact hrel _ _ _ hk ht
    · cases hs
  · cases hs

theorem step_field (h : Rel W A K s a w ρ) {o : Oper} {g : Gd} (hg : g.val = true) {t : TypeId} {x : Operand} {k : Nat} (ho : o.op = .field t x k) {tb : Tab} (hT : TabOk P tb) {hi : Hint} {r : R} (hs : step tb hi s g o.dst o.op = some r) (hc : AllC r.conds) : Does P W A K s a w o r := by
  rw [ho] at hs
  simp only [step] at hs
  split at hs
  · rename_i gx cs off n b hx hfl
    obtain ⟨F, f, hu, hf, hoff, hl, hn⟩ := fld_get hT hfl
    split at hs
    · rename_i hcond
      injection hs with hs; subst hs
      obtain ⟨vs, hv, hcs⟩ := opT_sound h hx (needs_of hg hc)
      have hle : off + n ≤ vs.length := by rw [hcs.1]; exact hcond.1
      obtain ⟨v, hr, hm⟩ := run_part hl w vs off hle (fun e => by have := hcond.2; rw [e] at this; simpa using this)
      have hseg := (hcs.drop off).take n
      refine does_pure h rfl (v := v) ?_ ?_
      · simp [execOp, ho, hv, Instr.field, run_underlying hu, hf, asAgg, hoff, hr]
      · cases b with
        | true => simp only at hm; exact ⟨_, hm, hseg⟩
        | false =>
          simp only at hm
          rw [hm] at hseg
          match hq : (cs.drop off).take n, hseg with
          | [c], hseg => exact ⟨c, by simp [hq], hseg.2 0 v c rfl rfl⟩
          | [], hseg => have := hseg.1; simp at this
          | _ :: _ :: _, hseg => have := hseg.1; simp at this
    · cases hs
  · cases hs

theorem step_indexAddr (h : Rel W A K s a w ρ) {o : Oper} {g : Gd} (hg : g.val = true) {t : TypeId} {x i : Operand} (ho : o.op = .indexAddr t x i) {tb : Tab} (hT : TabOk P tb) {hi : Hint} {r : R} (hs : step tb hi s g o.dst o.op = some r) (hc : AllC r.conds) : Does P W A K s a w o r := by
  rw [ho] at hs
  simp only [step] at hs
  split at hs
  · rename_i gx id0 gi ki n e es by_ hx hix hsl
    obtain ⟨inf, zv, hu, hi2, hzv, hsz, hby, hzs, hpos⟩ := slc_spec (hT.slc hsl)
    split at hs
    · rename_i T ty es' enc z xs hid
      split at hs
      · rename_i hes
        subst hes
        injection hs with hs; subst hs
        obtain ⟨hc12, hc3⟩ := AllC_append.1 hc
        obtain ⟨hc1, hc2⟩ := AllC_append.1 hc12
        obtain ⟨c, hcc, hx2⟩ := opT_sound h hx (needs_of hg hc1)
        simp at hcc; subst hcc
        have ei := lit_inv (opT_sound h hix (needs_of hg hc2))
        obtain ⟨h0, h1⟩ := hc3.1 hg
        have hvr : a.eval x = ρ id0 := by
          generalize a.eval x = v at hx2
          cases hx2 with
          | own => rfl
          | ownj h' => rw [hid] at h'; cases h'
        obtain ⟨vs, hown, hesx, hct⟩ := h.mr.obj id0 _ hid
        rcases hown.2 with ⟨e0, hx0⟩ | ⟨gb, cap, cur, e0, _, hh, _⟩
        · exfalso; rw [hx0] at h1; simp at h1; omega
        · have hp : CR (s.O A ρ) ρ s.H w (.pointer (some ⟨gb, n.toNat * es + 0, none⟩)) (.ptr id0 n.toNat 0) := CR.ptr (o := .rows ty es enc z xs) hid (by rw [e0]; rfl)
          refine does_pure h rfl (v := .pointer (some ⟨gb, n.toNat * es + 0, none⟩)) ?_ ⟨_, rfl, hp⟩
          have hadd : (⟨gb, 0, none⟩ : Addr).add (n.toNat * es) = ⟨gb, n.toNat * es, none⟩ := by rw [Addr.add_mid]; simp
          simp [execOp, ho, hvr, e0, ei, Instr.indexAt, run_underlying hu, asIntOf, h0, h1, sizeOf, typeInfo, hi2, hsz, hadd]
      · cases hs
    · cases hs
  · rename_i gx T es' enc z xs gi ki n e es by_ hx hix hsl
    obtain ⟨inf, zv, hu, hi2, hzv, hsz, hby, hzs, hpos⟩ := slc_spec (hT.slc hsl)
    split at hs
    · rename_i hes
      subst hes
      injection hs with hs; subst hs
      obtain ⟨hc12, hc3⟩ := AllC_append.1 hc
      obtain ⟨hc1, hc2⟩ := AllC_append.1 hc12
      obtain ⟨c, hcc, hx2⟩ := opT_sound h hx (needs_of hg hc1)
      simp at hcc; subst hcc
      have ei := lit_inv (opT_sound h hix (needs_of hg hc2))
      obtain ⟨h0, h1⟩ := hc3.1 hg
      have hx3 := hx2.tr
      generalize hv : a.eval x = v at hx3
      cases hx3 with
      | nil => simp at h1; omega
      | ro ad cap vals hcap hmax hesx hlen hcell hO hrel =>
        have hlt : n.toNat < xs.length := by omega
        have hxl : (enc (xs.getD n.toNat z)).length = es := hesx _ (getD_mem hlt)
        have hseg := flat_seg (z := z) hesx hlt 0
        simp only [Nat.add_zero, Nat.sub_zero, List.drop_zero] at hseg
        refine does_pure h rfl (v := .pointer (some (ad.add (n.toNat * es)))) ?_ ⟨_, rfl, .rop _ ((vals.drop (n.toNat * es)).take es) ?_ ?_ ?_ ?_⟩
        · simp [execOp, ho, hv, ei, Instr.indexAt, run_underlying hu, asIntOf, h0, h1, sizeOf, typeInfo, hi2, hsz]
        · rw [← hseg]; simp [hlen]
        · intro k u hk
          rw [List.getElem?_take] at hk
          split at hk
          · rw [List.getElem?_drop] at hk; rw [add_add]; exact hcell _ _ hk
          · cases hk
        · rcases hO with q | q
          · subst q; simp
          · refine .inr ?_
            have : (ad.add (n.toNat * es)).block = ad.block := by unfold Addr.add; split <;> rfl
            rw [this]; exact q
        · intro k u t hk ht
          rw [← hseg] at ht
          rw [List.getElem?_take] at hk ht
          split at hk
          · rename_i hkk; simp only [hkk, if_true] at ht
            rw [List.getElem?_drop] at hk ht
            exact hrel _ _ _ hk ht
          · cases hk
    · cases hs
  · cases hs

theorem step_extract (h : Rel W A K s a w ρ) {o : Oper} {g : Gd} (hg : g.val = true) {x : Operand} {k : Nat} (ho : o.op = .extract x k) {tb : Tab} {hi : Hint} {r : R} (hs : step tb hi s g o.dst o.op = some r) (hc : AllC r.conds) : Does P W A K s a w o r := by
  rw [ho] at hs
  simp only [step] at hs
  split at hs
  · rename_i gx xs hx
    split at hs
    · rename_i b cs hk
      injection hs with hs; subst hs
      obtain ⟨vs, hv, hl, hr⟩ := opT_sound h hx (needs_of hg hc)
      have hlt : k < vs.length := by rw [hl]; exact (List.getElem?_eq_some_iff.1 hk).1
      have hkv : vs[k]? = some vs[k] := List.getElem?_eq_getElem hlt
      refine does_pure h rfl (v := vs[k]) ?_ (hr k _ _ hkv hk)
      simp [execOp, ho, hv, Instr.extract, hlt]
    · cases hs
  · cases hs

theorem step_slice (h : Rel W A K s a w ρ) {o : Oper} {g : Gd} (hg : g.val = true) {t : TypeId} {x : Operand} {lo hh mx : Option Operand} (ho : o.op = .slice t x lo hh mx) {tb : Tab} (hT : TabOk P tb) {hi : Hint} {r : R} (hs : step tb hi s g o.dst o.op = some r) (hc : AllC r.conds) : Does P W A K s a w o r := by
  rw [ho] at hs
  simp only [step] at hs
  split at hs
  · rename_i gx T es' enc z xs e es by_ hx hsl
    obtain ⟨inf, zv, hu, hi2, hzv, hsz, hby, hzs, hpos⟩ := slc_spec (hT.slc hsl)
    split at hs
    · rename_i hes
      subst hes
      -- the part from n to m
      have part : ∀ {ad : Option Addr} {cap n m : Nat}, TR (s.O A ρ) w (.slice ad xs.length cap) (.ro es enc z xs) → n ≤ m → m ≤ xs.length →
          TR (s.O A ρ) w (.slice (if cap = n then ad else ad.map (·.add (n * es))) (m - n) (cap - n)) (.ro es enc z ((xs.take m).drop n)) := by
        intro ad cap n m ht hnm hm
        have hlen2 : ((xs.take m).drop n).length = m - n := by simp; omega
        generalize hq : Value.slice ad xs.length cap = vq at ht
        cases ht with
        | nil => simp at hq hm; obtain ⟨rfl, rfl⟩ := hq; subst hm; simp at hnm; subst hnm; simp; exact .nil ..
        | ro ad' cap' vals hcap hmax hesx hlen hcell hO hrel =>
          simp at hq; obtain ⟨rfl, rfl⟩ := hq
          have hsub : ∀ y ∈ (xs.take m).drop n, (enc y).length = es := fun y hy => hesx y (List.mem_of_mem_take (List.mem_of_mem_drop hy))
          have e2 : ((xs.take m).drop n).flatMap enc = ((xs.flatMap enc).take (m * es)).drop (n * es) := by
            rw [(flat_take hesx m hm).1, (flat_take (xs := xs.take m) (fun y hy => hesx y (List.mem_of_mem_take hy)) n (by simp; omega)).2]
          have hle : xs.length * es = vals.length := by rw [hlen, flat_len hesx]
          have hmle : m * es ≤ xs.length * es := Nat.mul_le_mul_right es hm
          rw [← hlen2]
          by_cases hcn : cap = n
          · have hn2 : n = m := by omega
            subst hn2
            rw [if_pos hcn]
            have hz2 : (xs.take n).drop n = [] := by rw [List.drop_eq_nil_iff, List.length_take]; omega
            rw [hz2]
            exact .ro ad' (cap - n) [] (by simp) (by omega) (by simp) (by simp) (by simp) (.inl rfl) (by simp)
          · rw [if_neg hcn]
            refine .ro (ad'.add (n * es)) (cap - n) ((vals.take (m * es)).drop (n * es)) (by rw [hlen2]; omega) (by omega) hsub ?_ ?_ ?_ ?_
            · rw [e2]; simp [hlen]
            · intro k v hk
              rw [List.getElem?_drop, List.getElem?_take] at hk
              split at hk
              · rw [add_add]; exact hcell _ _ hk
              · cases hk
            · rcases hO with q | q
              · subst q; simp
              · refine .inr ?_
                have : (ad'.add (n * es)).block = ad'.block := by unfold Addr.add; split <;> rfl
                rw [this]; exact q
            · intro k v t hk ht
              rw [e2] at ht
              rw [List.getElem?_drop, List.getElem?_take] at hk ht
              split at hk
              · rename_i hkk; simp only [hkk, if_true] at ht; exact hrel _ _ _ hk ht
              · cases hk
      have capge : ∀ {ad : Option Addr} {cap : Nat}, TR (s.O A ρ) w (.slice ad xs.length cap) (.ro es enc z xs) → xs.length ≤ cap := by
        intro ad cap ht
        generalize hq : Value.slice ad xs.length cap = vq at ht
        cases ht with
        | nil => simp
        | ro ad' cap' vals hcap => simp at hq; omega
      have hsz' : ∀ w, (sizeOf e).run P w = .ok es w := fun w => by simp [sizeOf, typeInfo, hi2, hsz]
      split at hs
      · injection hs with hs; subst hs
        obtain ⟨c, hcc, hx2⟩ := opT_sound h hx (needs_of hg hc)
        simp at hcc; subst hcc
        obtain ⟨ad, cap, hv⟩ := tr_len hx2.tr
        have ht := hx2.tr
        rw [hv] at ht
        have hp := part ht (Nat.zero_le _) (Nat.le_refl _)
        simp only [List.take_length, List.drop_zero, Nat.sub_zero, Nat.zero_mul] at hp
        refine does_pure h rfl (v := .slice (if cap = 0 then ad else ad.map (·.add 0)) xs.length cap) ?_ ⟨_, rfl, .t hp⟩
        simp [execOp, ho, hv, Instr.sliceAt, run_underlying hu, Instr.slice, Instr.sliceBounds, hsz']
      · rename_i l
        split at hs
        · rename_i gl kl n hl
          injection hs with hs; subst hs
          obtain ⟨hc12, hc3⟩ := AllC_append.1 hc
          obtain ⟨hc1, hc2⟩ := AllC_append.1 hc12
          obtain ⟨c, hcc, hx2⟩ := opT_sound h hx (needs_of hg hc1)
          simp at hcc; subst hcc
          have el := lit_inv (opT_sound h hl (needs_of hg hc2))
          obtain ⟨h0, h1⟩ := hc3.1 hg
          obtain ⟨ad, cap, hv⟩ := tr_len hx2.tr
          have ht := hx2.tr
          rw [hv] at ht
          have hp := part (n := n.toNat) ht (by omega) (Nat.le_refl _)
          simp only [List.take_length] at hp
          refine does_pure h rfl (v := .slice (if cap = n.toNat then ad else ad.map (·.add (n.toNat * es))) (xs.length - n.toNat) (cap - n.toNat)) ?_ ⟨_, rfl, .t hp⟩
          simp [execOp, ho, hv, el, Instr.sliceAt, run_underlying hu, Instr.slice, Instr.sliceBounds, run_sliceBound w kl n _ _ h0 h1, hsz']
        · cases hs
      · rename_i u
        split at hs
        · rename_i gu ku m hu2
          injection hs with hs; subst hs
          obtain ⟨hc12, hc3⟩ := AllC_append.1 hc
          obtain ⟨hc1, hc2⟩ := AllC_append.1 hc12
          obtain ⟨c, hcc, hx2⟩ := opT_sound h hx (needs_of hg hc1)
          simp at hcc; subst hcc
          have el := lit_inv (opT_sound h hu2 (needs_of hg hc2))
          obtain ⟨h0, h1⟩ := hc3.1 hg
          obtain ⟨ad, cap, hv⟩ := tr_len hx2.tr
          have ht := hx2.tr
          rw [hv] at ht
          have hcg := capge ht
          have hp := part (n := 0) (m := m.toNat) ht (by omega) (by omega)
          simp only [List.drop_zero, Nat.sub_zero, Nat.zero_mul] at hp
          refine does_pure h rfl (v := .slice (if cap = 0 then ad else ad.map (·.add 0)) m.toNat cap) ?_ ⟨_, rfl, .t hp⟩
          simp [execOp, ho, hv, el, Instr.sliceAt, run_underlying hu, Instr.slice, Instr.sliceBounds, run_sliceBound w ku m cap _ h0 (by omega), hsz']
        · cases hs
      · rename_i l u
        split at hs
        · rename_i gl kl n gu ku m hl hu2
          injection hs with hs; subst hs
          obtain ⟨hc123, hc4⟩ := AllC_append.1 hc
          obtain ⟨hc12, hc3⟩ := AllC_append.1 hc123
          obtain ⟨hc1, hc2⟩ := AllC_append.1 hc12
          obtain ⟨c, hcc, hx2⟩ := opT_sound h hx (needs_of hg hc1)
          simp at hcc; subst hcc
          have el := lit_inv (opT_sound h hl (needs_of hg hc2))
          have eu := lit_inv (opT_sound h hu2 (needs_of hg hc3))
          obtain ⟨h0, h1, h2⟩ := hc4.1 hg
          obtain ⟨ad, cap, hv⟩ := tr_len hx2.tr
          have ht := hx2.tr
          rw [hv] at ht
          have hcg := capge ht
          have hp := part (n := n.toNat) (m := m.toNat) ht (by omega) (by omega)
          refine does_pure h rfl (v := .slice (if cap = n.toNat then ad else ad.map (·.add (n.toNat * es))) (m.toNat - n.toNat) (cap - n.toNat)) ?_ ⟨_, rfl, .t hp⟩
          simp [execOp, ho, hv, el, eu, Instr.sliceAt, run_underlying hu, Instr.slice, Instr.sliceBounds, run_sliceBound w ku m cap _ (by omega) (by omega), run_sliceBound w kl n m.toNat _ h0 (by omega), hsz']
        · cases hs
    · cases hs
  · cases hs

end
end Go.Abs
