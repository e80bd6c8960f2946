import Derived.Test.YtoooalfhjcfinaaAbs19
namespace Go.Abs
set_option linter.unusedVariables false
set_option linter.unusedSimpArgs false
variable {P : Program}

theorem gdOf_congr {ops : Array Oper} {s s' : St} {o : Oper} (h : ∀ t ∈ o.looksAt ops, look t s.env = look t s'.env) : gdOf ops s o = gdOf ops s' o := by
  unfold gdOf
  cases hg : o.guard with
  | none => rfl
  | some gw =>
    obtain ⟨j, want⟩ := gw
    simp only
    cases hd : (ops[j]?).bind (·.dst) with
    | none => rfl
    | some t =>
      simp only
      rw [h t (by simp [Oper.looksAt, hg, hd])]

theorem opT_congr {ops : Array Oper} {e e' : List (Nat × Gd × AT)} {H : List (Nat × Obj)} {n : Nat} {o : Oper} (h : ∀ t ∈ o.looksAt ops, look t e = look t e') : ∀ x ∈ o.op.operands, opT ⟨e, H, n⟩ x = opT ⟨e', H, n⟩ x := by
  intro x hx
  cases x with
  | tmp t => exact h t (List.mem_append_left _ (List.mem_filterMap.2 ⟨.tmp t, by simpa using hx, rfl⟩))
  | _ => rfl

theorem step_fresh {tb : Tab} {hi : Hint} {s : St} {g : Gd} {dst : Option Nat} {o : Op} {r : R} (hq : quietO .no o = false) (hs : step tb hi s g dst o = some r) {d : Nat} (hd : dst = some d) : s.has d = false := by
  subst hd
  cases o <;> simp only [step] at hs <;> try (first | (simp [quietO, quietP] at hq; done) | (cases hs; done))
  all_goals (
    repeat' split at hs
    all_goals first
      | contradiction
      | (cases hs; done)
      | (simp_all; done)
      | (simp_all [quietO, quietP]; done))

theorem opRes_fresh {tb : Tab} {hi : Hint} {s : St} {g : Gd} {o : Oper} {r : R} (hq : quietO hi o.op = false) (hs : opRes P tb hi s g o = some r) : ∀ d ∈ newIds hi o.dst, s.has d = false := by
  unfold opRes at hs
  split at hs
  · rename_i names H' res
    unfold callStep at hs
    intro d hd
    split at hs
    · split at hs
      · split at hs
        · split at hs
          · rename_i hcond
            simp only [Bool.and_eq_true, freshB, List.all_eq_true] at hcond
            simp only [newIds, List.mem_map] at hd
            obtain ⟨x, hx, rfl⟩ := hd
            simpa using hcond.1.1.2.1 x hx
          · cases hs
        · cases hs
      · cases hs
    · cases hs
  · rename_i ob
    intro d hd
    simp only [Option.bind_eq_some_iff] at hs
    obtain ⟨r0, h0, hs⟩ := hs
    have hdst : o.dst = some d := by simpa [newIds] using hd
    unfold fzR at hs
    split at hs
    · rename_i d' i hd' hval
      rw [hdst] at hd'
      injection hd' with hd'; subst hd'
      cases hb : s.has d with
      | false => rfl
      | true => rw [hb] at hs; simp at hs
    · cases hs
  · rename_i ids kept names H' res
    intro d hd
    simp only [newIds, List.mem_map, List.mem_filter] at hd
    obtain ⟨x, ⟨hx, hk⟩, rfl⟩ := hd
    unfold callStepM at hs
    split at hs
    · split at hs
      · split at hs
        · split at hs
          · rename_i hcond
            simp only [Bool.and_eq_true, freshM, List.all_eq_true] at hcond
            have := hcond.1.1.2 x hx
            rw [show memL x.1 kept = false by simpa using hk] at this
            simpa using this
          · cases hs
        · cases hs
      · cases hs
    · cases hs
  · rename_i h hn hn2 hn3
    intro d hd
    have hq' : quietO .no o.op = false := by
      cases hi with
      | call a b c => exact absurd rfl (hn a b c)
      | callM a b c d e => exact absurd rfl (hn3 a b c d e)
      | fz ob => exact absurd rfl (hn2 ob)
      | no => exact hq
      | obj ob => cases ho : o.op <;> rw [ho] at hq <;> first | exact hq | (simp [quietO, quietP] at hq; done)
    refine step_fresh hq' hs ?_
    cases h0 : hi with
    | call a b c => exact absurd h0 (hn a b c)
    | no => rw [h0] at hd; simpa [newIds] using hd
    | obj => rw [h0] at hd; simpa [newIds] using hd
    | fz ob => exact absurd h0 (hn2 ob)
    | callM a b c d e => exact absurd h0 (hn3 a b c d e)

theorem hpD_agree {D D' : Nat → Bool} : ∀ (l : List Rec) (i : Nat) (h : List (Nat × Obj)), (∀ (k : Nat) (x : Rec), l[k]? = some x → x.q = false → D (i + k) = D' (i + k)) → hpD l i D h = hpD l i D' h
  | [], _, _, _ => rfl
  | x :: l, i, h, hx => by
    simp only [hpD]
    have : (D i && !x.q) = (D' i && !x.q) := by
      cases hq : x.q with
      | true => simp
      | false => have := hx 0 x (by simp) hq; simpa using this
    rw [this]
    exact hpD_agree l (i + 1) _ fun k y hk hq => by have := hx (k + 1) y (by simpa using hk) hq; rwa [show i + 1 + k = i + (k + 1) by omega]

def stD (l : List Rec) (s : St) (D : Nat → Bool) : St := ⟨envD l 0 D s.env, hpD l 0 D s.heap, s.n⟩
def addD (D : Nat → Bool) (i : Nat) : Nat → Bool := fun j => Nat.beq i j || D j

theorem effsOf_mem {l : List Rec} {k : Nat} : k ∈ effsOf (withIdx 0 l) ↔ ∃ x, l[k]? = some x ∧ x.q = false := by
  unfold effsOf
  rw [List.mem_filterMap]
  constructor
  · rintro ⟨⟨j, x⟩, hm, h⟩
    have := withIdx_inv hm
    cases hq : x.q with
    | true => simp [hq] at h
    | false => simp [hq] at h; subst h; exact ⟨x, by simpa using this.2, hq⟩
  · rintro ⟨x, hx, hq⟩
    exact ⟨(k, x), by simpa using withIdx_mem (i := 0) hx, by simp [hq]⟩

theorem one_step {tb : Tab} {ops : Array Oper} {hs : List (Nat × Hint)} {s : St} {l : List Rec} (hl : trace P tb ops hs 0 ops.toList s = some l) {q : List EQ}
    (hq : anyEqs P tb ops (ancs ops.toList []) (withIdx 0 l) s.heap = some q) (he : q.map Prod.fst = q.map Prod.snd) (hc : AllC (l.flatMap (·.r.conds)))
    {D : Nat → Bool} (hD : Closed ops D) {i : Nat} {x : Rec} (hx : l[i]? = some x) (hi : D i = false) (hr : ∀ e ∈ x.o.after, Region.binds .any e = true → D e.on = true) :
    ∃ r' : R, opRun P tb ops x.hi (stD l s D) x.o = some ((({ (stD l s D) with heap := r'.heap } : St)).put x.o.dst x.g r'.val, r'.conds) ∧ AllC r'.conds ∧ r'.val = x.r.val ∧ r'.heap = hpD l 0 (addD D i) s.heap ∧
      ∀ t, look t (stD l s (addD D i)).env = look t ((({ (stD l s D) with heap := r'.heap } : St)).put x.o.dst x.g r'.val).env := by
  obtain ⟨hlen, hspec⟩ := trace_spec _ _ _ _ hl
  have hop : ∀ (k : Nat) (y : Rec), l[k]? = some y → ops[k]? = some y.o := fun k y hy => by have := (hspec k y hy).1; simpa using this
  unfold anyEqs at hq
  cases hall : ((withIdx 0 l).all fun x => edgesB x.1 x.2 && (withIdx 0 l).all fun y => pairB ops (ancs ops.toList []) x.1 x.2 y.1 y.2) with
  | false => rw [hall] at hq; cases hq
  | true =>
  rw [hall] at hq
  simp only [cond_true] at hq
  generalize hA : ancs ops.toList [] = A at hq hall
  have hbef : ∀ i j, bef A i j = true → ∀ D, Closed ops D → (∀ o, ops[i]? = some o → ∀ e ∈ o.after, Region.binds .any e = true → D e.on = true) → D j = true := by
    rw [← hA]
    exact ancs_spec ops.toList [] (fun k o hk => by simpa using hk) (fun i j h => by simp [bef] at h)
  have hbi : ∀ j, bef A i j = true → D j = true := fun j hj => hbef i j hj D hD fun o ho e he hb => by
    have := hop i x hx; rw [this] at ho; injection ho with ho; subst ho; exact hr e he hb
  have hbd : ∀ k, D k = true → (∃ y, l[k]? = some y) → bef A k i = false := fun k hk hy => by
    cases hb : bef A k i with
    | false => rfl
    | true =>
      have := hbef k i hb D hD fun o ho e he hb' => hD k o ho hk e he hb'
      rw [hi] at this; cases this
  have hpair : ∀ (k : Nat) (y : Rec), l[k]? = some y → k ≠ i → (∀ t, y.o.dst = some t → (t ∈ x.o.looksAt ops ∨ x.o.dst = some t) → D k = Nat.blt k i) ∧ (x.q = false → D k = true → ∀ d ∈ newIds x.hi x.o.dst, y.r.val.has d = false) := by
    intro k y hy hki
    have h1 := List.all_eq_true.1 hall (i, x) (by simpa using withIdx_mem (i := 0) hx)
    simp only [Bool.and_eq_true] at h1
    have h2 := List.all_eq_true.1 h1.2 (k, y) (by simpa using withIdx_mem (i := 0) hy)
    unfold pairB at h2
    have hbeq : Nat.beq i k = false := by
      cases hb : Nat.beq i k with
      | false => rfl
      | true => exact absurd (Nat.eq_of_beq_eq_true hb).symm hki
    simp only [hbeq, Bool.false_or, Bool.and_eq_true] at h2
    obtain ⟨h2, h3⟩ := h2
    refine ⟨fun t ht hm => ?_, fun hxq hk d hd => ?_⟩
    · simp only [ht] at h2
      have hmm : ((x.o.looksAt ops).contains t || x.o.dst == some t) = true := by
        rcases hm with hm | hm
        · simp [hm]
        · simp [hm]
      rw [hmm] at h2
      simp only [Bool.not_true, Bool.false_or, ordB] at h2
      cases hb : Nat.blt k i with
      | true => rw [hb] at h2; exact hbi k h2
      | false =>
        rw [hb] at h2
        cases hk : D k with
        | false => rfl
        | true => have := hbd k hk ⟨y, hy⟩; simp only [cond_false] at h2; rw [this] at h2; cases h2
    · rw [hxq] at h3
      simp only [Bool.false_or, List.all_eq_true, Bool.or_eq_true, Bool.not_eq_true'] at h3
      rcases h3 d hd with h | h
      · exact h
      · rw [hbd k hk ⟨y, hy⟩] at h; cases h
  obtain ⟨_, hg, hdst, hres, hxs⟩ := hspec i x hx
  simp only [Nat.zero_add] at hxs
  have hnot : Nat.blt i i = false := by cases hb : Nat.blt i i with | false => rfl | true => have := Nat.blt_eq.mp hb; omega
  have hlook : ∀ t ∈ x.o.looksAt ops, look t (envD l 0 D s.env) = look t x.s.env := by
    intro t ht
    rw [hxs]
    refine envD_agree l 0 _ _ (fun k y hy hd => ?_) rfl
    simp only [Nat.zero_add]
    by_cases hki : k = i
    · subst hki; rw [hi, hnot]
    · exact (hpair k y hy hki).1 t hd (.inl ht)
  have hcx : AllC x.r.conds := by
    have : ∀ (l : List Rec), AllC (l.flatMap (·.r.conds)) → x ∈ l → AllC x.r.conds := by
      intro l
      induction l with
      | nil => intro _ h; cases h
      | cons y r ih =>
        intro h hm
        rw [List.flatMap_cons, AllC_append] at h
        rcases List.mem_cons.1 hm with rfl | hm
        · exact h.1
        · exact ih h.2 hm
    exact this l hc (List.mem_of_getElem? hx)
  -- memory, as it stands
  obtain ⟨c, hcm, hc0, hcl⟩ : ∃ c, (c, hpD l 0 D s.heap) ∈ candsOf s.heap (withIdx 0 l) ∧ (Nat.blt 0 c = true → D (c - 1) = true ∧ ∃ y, l[c - 1]? = some y ∧ y.q = false ∧ hpD l 0 D s.heap = y.r.heap) ∧
      (∀ (k : Nat) (y : Rec), l[k]? = some y → y.q = false → Nat.ble c k = true → D k = false) := by
    rcases hpD_cases (D := D) l 0 s.heap with ⟨h1, h2⟩ | ⟨k, y, h1, h2, h3, h4, h5⟩
    · refine ⟨0, by rw [h1]; simp [candsOf], (fun h => by simp at h), fun k y hk hy _ => by have := h2 k y hk hy; simpa using this⟩
    · simp only [Nat.zero_add] at h3 h5
      refine ⟨k + 1, ?_, fun _ => ⟨by simpa using h3, y, by simpa using h1, h2, h4⟩, fun k' y' hk' hy' hle => h5 k' y' (by have := Nat.le_of_ble_eq_true hle; omega) hk' hy'⟩
      rw [h4]
      simp only [candsOf, List.mem_cons]
      right
      exact List.mem_filterMap.2 ⟨(k, y), by simpa using withIdx_mem (i := 0) h1, by simp [h2]⟩
  have hskip : skipB A (effsOf (withIdx 0 l)) i c = false := by
    cases hs : skipB A (effsOf (withIdx 0 l)) i c with
    | false => rfl
    | true =>
      simp only [skipB, Bool.or_eq_true, Bool.and_eq_true, List.any_eq_true] at hs
      rcases hs with ⟨h1, h2⟩ | ⟨k, hk, h1, h2⟩
      · obtain ⟨hd, y, hy, _, _⟩ := hc0 h1
        rcases h2 with h2 | h2
        · have := Nat.eq_of_beq_eq_true h2
          rw [this, hi] at hd; cases hd
        · rw [hbd _ hd ⟨y, hy⟩] at h2; cases h2
      · obtain ⟨y, hy, hyq⟩ := effsOf_mem.1 hk
        have := hcl k y hy hyq h1
        rw [hbi k h2] at this; cases this
  have hcat := catO_mem hq (eqOne P tb A (effsOf (withIdx 0 l)) i x c (hpD l 0 D s.heap)) (by
    rw [List.mem_flatMap]
    refine ⟨(i, x), by simpa using withIdx_mem (i := 0) hx, ?_⟩
    exact List.mem_map.2 ⟨(c, hpD l 0 D s.heap), hcm, rfl⟩)
  obtain ⟨es, hes, hesq⟩ := hcat
  have hn : x.s.n = s.n := by rw [hxs]
  -- the answer there
  have key : ∃ r' : R, opRes P tb x.hi ⟨x.s.env, hpD l 0 D s.heap, s.n⟩ x.g x.o = some r' ∧ AllC r'.conds ∧ r'.val = x.r.val ∧ (x.q = true ∨ (curB (effsOf (withIdx 0 l)) i c = true ∧ hpD l 0 D s.heap = x.s.heap ∧ r' = x.r)) := by
    unfold eqOne at hes
    rw [hskip] at hes
    cases hcur : curB (effsOf (withIdx 0 l)) i c with
    | true =>
      have hh : hpD l 0 D s.heap = x.s.heap := by
        simp only [curB, Bool.and_eq_true, List.all_eq_true, Bool.not_eq_true', Bool.and_eq_false_iff] at hcur
        obtain ⟨hle, hno⟩ := hcur
        have hle := Nat.le_of_ble_eq_true hle
        rw [hxs]
        simp only
        rcases hpD_cases (D := fun j => Nat.blt j i) l 0 s.heap with ⟨h1, h2⟩ | ⟨k, y, h1, h2, h3, h4, h5⟩
        · simp only [Nat.zero_add] at h2
          by_cases hc1 : Nat.blt 0 c = true
          · obtain ⟨_, y, hy, hyq, _⟩ := hc0 hc1
            have := h2 (c - 1) y hy hyq
            have h0 := Nat.blt_eq.mp hc1
            have : ¬ (c - 1 < i) := fun h => by rw [Nat.blt_eq.mpr h] at this; cases this
            omega
          · rw [h1]
            rcases hpD_cases (D := D) l 0 s.heap with ⟨g1, _⟩ | ⟨k, y, g1, g2, g3, _, _⟩
            · exact g1
            · simp only [Nat.zero_add] at g3
              have hcz : c = 0 := by
                have : ¬ (0 < c) := fun h => hc1 (Nat.blt_eq.mpr h)
                omega
              have := hcl k y g1 g2 (by rw [hcz]; exact Nat.ble_eq.mpr (Nat.zero_le k))
              rw [this] at g3; cases g3
        · simp only [Nat.zero_add] at h3 h5
          have hki := Nat.blt_eq.mp h3
          have hkc : k < c := by
            rcases hno k (effsOf_mem.2 ⟨y, h1, h2⟩) with h | h
            · by_cases hlt : k < c
              · exact hlt
              · rw [Nat.ble_eq.mpr (by omega)] at h; cases h
            · rw [h3] at h; cases h
          obtain ⟨_, z, hz, hzq, hzh⟩ := hc0 (Nat.blt_eq.mpr (by omega))
          have : c - 1 = k := by
            by_cases hlt : k < c - 1
            · have := h5 (c - 1) z hlt hz hzq
              rw [Nat.blt_eq.mpr (by omega)] at this; cases this
            · omega
          rw [this, h1] at hz
          injection hz with hz; subst hz
          rw [hzh, h4]
      refine ⟨x.r, ?_, hcx, rfl, .inr ⟨rfl, hh, rfl⟩⟩
      rw [hh, ← hn]; exact hres
    | false =>
      rw [hcur] at hes
      simp only [Bool.or_self, cond_false] at hes
      cases hxq : x.q with
      | false => rw [hxq] at hes; cases hes
      | true =>
        rw [hxq] at hes
        simp only [cond_true, Option.map_eq_some_iff] at hes
        obtain ⟨r', hr', hes⟩ := hes
        subst hes
        have hm := hesq _ (List.mem_singleton.2 rfl)
        have heq : (r'.val, r'.conds) = (x.r.val, x.r.conds) := by
          obtain ⟨k, hk⟩ := List.getElem?_of_mem hm
          have h1 : (q.map Prod.fst)[k]? = some (r'.val, r'.conds) := by simp [hk]
          have h2 : (q.map Prod.snd)[k]? = some (x.r.val, x.r.conds) := by simp [hk]
          rw [he, h2] at h1
          injection h1 with h1; exact h1.symm
        injection heq with e1 e2
        rw [hn] at hr'
        exact ⟨r', hr', by rw [e2]; exact hcx, e1, .inl rfl⟩
  obtain ⟨r', hr', hcr, hval, hside⟩ := key
  have hrun : opRes P tb x.hi (stD l s D) x.g x.o = some r' := by
    rw [← hr']
    refine opRes_congr (opT_congr hlook) ?_
    cases hxq : x.q with
    | true => exact .inl hxq
    | false =>
      right
      rcases hside with h | ⟨_, hh, rfl⟩
      · rw [hxq] at h; cases h
      · intro d hd
        have hf := opRes_fresh hxq hres d hd
        have hf' := hf
        simp only [St.has, Bool.or_eq_false_iff] at hf
        have hb : (envD l 0 D s.env).any (fun x => x.2.2.has d) = false := by
          refine envD_any l 0 _ ?_ fun k y t hk hDk ht => ?_
          · have := hf.1
            rw [hxs] at this
            exact envD_base l 0 _ this
          · simp only [Nat.zero_add] at hDk
            by_cases hki : k = i
            · subst hki; rw [hi] at hDk; cases hDk
            · exact (hpair k y hk hki).2 hxq hDk d hd
        simp only [St.has, hb, hf.1]
  have hgd : gdOf ops (stD l s D) x.o = some x.g := by rw [← hg]; exact gdOf_congr hlook
  have hdo : dstOk (stD l s D) x.o.dst = true := by
    rw [← hdst]
    cases x.o.dst <;> simp [dstOk, stD, hn]
  refine ⟨r', ?_, hcr, hval, ?_, ?_⟩
  · unfold opRun
    rw [hgd, hdo]
    simp only [hrun, Option.map_some]
  · rcases hside with hxq | ⟨hcur, hh, rfl⟩
    · have : r'.heap = hpD l 0 D s.heap := opRes_same hxq hrun
      rw [this]
      refine hpD_agree l 0 _ fun k y hk hy => ?_
      simp only [Nat.zero_add, addD]
      cases hb : Nat.beq i k with
      | false => rfl
      | true =>
        have := Nat.eq_of_beq_eq_true hb; subst this
        rw [hx] at hk; injection hk with hk; subst hk
        rw [hxq] at hy; cases hy
    · cases hxq : x.q with
      | true =>
        have : x.r.heap = hpD l 0 D s.heap := opRes_same hxq hrun
        rw [this]
        refine hpD_agree l 0 _ fun k y hk hy => ?_
        simp only [Nat.zero_add, addD]
        cases hb : Nat.beq i k with
        | false => rfl
        | true =>
          have := Nat.eq_of_beq_eq_true hb; subst this
          rw [hx] at hk; injection hk with hk; subst hk
          rw [hxq] at hy; cases hy
      | false =>
        have hle : c ≤ i := by
          simp only [curB, Bool.and_eq_true] at hcur
          exact Nat.le_of_ble_eq_true hcur.1
        rcases hpD_cases (D := addD D i) l 0 s.heap with ⟨h1, h2⟩ | ⟨k, y, h1, h2, h3, h4, h5⟩
        · have := h2 i x hx hxq
          simp [addD] at this
        · simp only [Nat.zero_add] at h3 h5
          have hik : ¬ (k < i) := fun hlt => by have := h5 i x hlt hx hxq; simp [addD] at this
          have hki : ¬ (i < k) := fun hlt => by
            have := hcl k y h1 h2 (Nat.ble_eq.mpr (by omega))
            simp only [addD, this, Bool.or_false] at h3
            have := Nat.eq_of_beq_eq_true h3
            omega
          have : k = i := by omega
          subst this
          rw [hx] at h1; injection h1 with h1; subst h1
          exact h4.symm
  · intro t
    have hput : look t ((({ (stD l s D) with heap := r'.heap } : St)).put x.o.dst x.g r'.val).env = if x.o.dst = some t then some (x.g, x.r.val) else look t (envD l 0 D s.env) := by
      have : ((({ (stD l s D) with heap := r'.heap } : St)).put x.o.dst x.g r'.val).env = putE x (envD l 0 D s.env) := by
        rw [hval]; unfold St.put putE; cases x.o.dst <;> rfl
      rw [this, look_putE]
    rw [hput]
    by_cases ht : x.o.dst = some t
    · rw [if_pos ht]
      refine envD_last l 0 i _ hx ht (by simp [addD]) fun k y hk hy hd => ?_
      simp only [Nat.zero_add, addD]
      have h1 := (hpair k y hy (by omega)).1 t hd (.inr ht)
      have : Nat.blt k i = false := by cases hb : Nat.blt k i with | false => rfl | true => have := Nat.blt_eq.mp hb; omega
      rw [h1, this, Bool.or_false]
      cases hb : Nat.beq i k with
      | false => rfl
      | true => have := Nat.eq_of_beq_eq_true hb; omega
    · rw [if_neg ht]
      refine envD_agree l 0 _ _ (fun k y hy hd => ?_) rfl
      simp only [Nat.zero_add, addD]
      cases hb : Nat.beq i k with
      | false => rfl
      | true =>
        have := Nat.eq_of_beq_eq_true hb; subst this
        rw [hx] at hy; injection hy with hy; subst hy
        exact absurd hd ht

end Go.Abs
