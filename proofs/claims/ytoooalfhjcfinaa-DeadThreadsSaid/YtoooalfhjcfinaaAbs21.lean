import Derived.Test.YtoooalfhjcfinaaAbs20
namespace Go.Abs
set_option linter.unusedVariables false
set_option linter.unusedSimpArgs false
variable {P : Program}

def cnt : List Bool → Nat
  | [] => 0
  | b :: r => (bif b then 0 else 1) + cnt r

theorem cnt_set : ∀ (l : List Bool) (i : Nat), l[i]? = some false → cnt (l.set i true) + 1 = cnt l
  | [], _, h => by simp at h
  | b :: r, 0, h => by simp at h; subst h; simp [cnt]; omega
  | b :: r, i + 1, h => by
    have := cnt_set r i (by simpa using h)
    simp only [List.set_cons_succ, cnt]
    omega

theorem cnt_zero : ∀ (l : List Bool), cnt l = 0 → ∀ i, i < l.length → l[i]? = some true
  | [], _, i, h => by simp at h
  | b :: r, h, i, hi => by
    simp only [cnt] at h
    cases b with
    | false => simp at h
    | true =>
      cases i with
      | zero => rfl
      | succ i => simpa using cnt_zero r (by simpa using h) i (by simpa using hi)

theorem cnt_replicate (n : Nat) : cnt (List.replicate n false) = n := by
  induction n with
  | zero => rfl
  | succ n ih => simp only [List.replicate_succ, cnt, ih, cond_false]; omega

section
variable {W : World} {A K : Nat → Prop} {s : St} {a : Act} {w : World} {ρ : Nat → Value}

theorem Rel.drawn (h : Rel W A K s a w ρ) (d : Nat) : Rel W A K s a { w with drawn := d } ρ := by
  refine ⟨⟨h.ext.os, h.ext.tape, h.ext.output, h.ext.size, h.ext.block⟩, h.kl, h.al, ⟨fun id o ho => ?_, h.mr.disj, h.mr.av⟩, h.low, fun t g x hl => ?_, h.defers, h.size⟩
  · have hor := h.mr.obj id o ho
    cases o with
    | box ty cells => obtain ⟨g, vs, h1, h2, h3⟩ := hor; exact ⟨g, vs, h1, h2, h3.mono (fun _ _ _ => rfl) (fun _ _ h => h) fun id o' _ ho => ⟨o', ho, rfl, rfl⟩⟩
    | rows ty es enc z xs => obtain ⟨vs, h1, h2, h3⟩ := hor; exact ⟨vs, h1, h2, h3.mono (fun _ _ _ => rfl) (fun _ _ h => h)⟩
    | ghost vs cells => exact ⟨hor.1, hor.2.mono (fun _ _ _ => rfl) (fun _ _ h => h) fun id o' _ ho => ⟨o', ho, rfl, rfl⟩⟩
  · obtain ⟨v, hv, h1, h2⟩ := h.env t g x hl
    exact ⟨v, hv, fun hp => (h1 hp).mono (fun _ _ _ => rfl) (fun _ _ h => h) fun id o' _ ho => ⟨o', ho, rfl, rfl⟩, h2⟩

theorem any_wp {tb : Tab} (hT : TabOk P tb) {ops : Array Oper} {hs : List (Nat × Hint)} {l : List Rec} (hl : trace P tb ops hs 0 ops.toList s = some l) {q : List EQ}
    (hq : anyEqs P tb ops (ancs ops.toList []) (withIdx 0 l) s.heap = some q) (he : q.map Prod.fst = q.map Prod.snd) (hc : AllC (l.flatMap (·.r.conds))) {Q : Exit → Act → World → Prop}
    (hQ : ∀ a' w' ρ', Rel W A K (stD l s (fun _ => true)) a' w' ρ' → Q .normal a' w') : ∀ (fuel : Nat) (listed : Array Bool) (a : Act) (w : World) (ρ : Nat → Value), listed.size = ops.size → Closed ops (fun j => listed.getD j false) → cnt listed.toList ≤ fuel →
      Rel W A K (stD l s (fun j => listed.getD j false)) a w ρ → wpAny P .any ops Q fuel listed a w := by
  have hlen : l.length = ops.size := by have := (trace_spec _ _ _ _ hl).1; simpa using this
  have fin : ∀ (listed : Array Bool) (a : Act) (w : World) (ρ : Nat → Value), (∀ j, j < ops.size → listed.getD j false = true) → Rel W A K (stD l s (fun j => listed.getD j false)) a w ρ → Q .normal a w := by
    intro listed a w ρ hall hr
    refine hQ a w ρ ?_
    have h1 : stD l s (fun _ => true) = stD l s (fun j => listed.getD j false) := by
      unfold stD
      rw [envD_congr l 0 s.env (D' := fun j => listed.getD j false), hpD_congr l 0 s.heap (D' := fun j => listed.getD j false)]
      · intro k hk; simp only [Nat.zero_add]; exact (hall k (by omega)).symm
      · intro k hk; simp only [Nat.zero_add]; exact (hall k (by omega)).symm
    rw [h1]; exact hr
  have edges : ∀ (i : Nat) (x : Rec), l[i]? = some x → ∀ e ∈ x.o.after, Region.binds .any e = true → e.on < i := by
    intro i x hx e hem hb
    unfold anyEqs at hq
    cases hall : ((withIdx 0 l).all fun x => edgesB x.1 x.2 && (withIdx 0 l).all fun y => pairB ops (ancs ops.toList []) x.1 x.2 y.1 y.2) with
    | false => rw [hall] at hq; cases hq
    | true =>
      have h1 := List.all_eq_true.1 hall (i, x) (by simpa using withIdx_mem (i := 0) hx)
      simp only [Bool.and_eq_true, edgesB, List.all_eq_true] at h1
      have := h1.1 e (by simpa using hem)
      rw [hb] at this
      simp only [Bool.not_true, Bool.false_or] at this
      exact Nat.blt_eq.mp this
  have hop : ∀ (k : Nat) (y : Rec), l[k]? = some y → ops[k]? = some y.o := fun k y hy => by have := ((trace_spec _ _ _ _ hl).2 k y hy).1; simpa using this
  have none_ready : ∀ (listed : Array Bool), listed.size = ops.size → Region.ready .any ops listed = [] → ∀ j, j < ops.size → listed.getD j false = true := by
    intro listed hsz hrd j
    induction j using Nat.strongRecOn with
    | ind j ih =>
      intro hj
      cases hb : listed.getD j false with
      | true => rfl
      | false =>
        have hm : j ∈ Region.ready .any ops listed := by
          rw [mem_ready]
          have hjl : j < listed.size := by omega
          refine ⟨by simpa [Array.getD, hjl] using hb, ops[j], by simp [hj], fun e hem hbd => ?_⟩
          have hx : l[j]? = some l[j] := by simp
          have hxo := hop j _ hx
          have : ops[j] = l[j].o := by simpa [hj] using hxo
          have hlt := edges j _ hx e (by rw [← this]; exact hem) hbd
          exact ih e.on hlt (by omega)
        rw [hrd] at hm; cases hm
  intro fuel
  induction fuel with
  | zero =>
    intro listed a w ρ hsz hcl hct hr
    have hz := cnt_zero listed.toList (by omega)
    have hall : ∀ j, j < ops.size → listed.getD j false = true := fun j hj => by
      have := hz j (by simp; omega)
      have hjl : j < listed.size := by omega
      simp [hjl] at this
      simp [Array.getD, hjl, this]
    refine ⟨?_, fin listed a w ρ hall hr⟩
    cases hrd : Region.ready .any ops listed with
    | nil => rfl
    | cons j r =>
      have hm : j ∈ Region.ready .any ops listed := by rw [hrd]; simp
      obtain ⟨h1, o, ho, _⟩ := mem_ready.1 hm
      have hj : j < ops.size := (Array.getElem?_eq_some_iff.1 ho).1
      have hjl : j < listed.size := by omega
      have := hall j hj
      simp [Array.getD, hjl] at this h1
      rw [this] at h1; cases h1
  | succ fuel ih =>
    intro listed a w ρ hsz hcl hct hr
    refine ⟨fun hrd => fin listed a w ρ (none_ready listed hsz hrd) hr, fun i hi => ?_⟩
    obtain ⟨h1, o, ho, hready⟩ := mem_ready.1 hi
    have hio : i < ops.size := (Array.getElem?_eq_some_iff.1 ho).1
    have hil : i < listed.size := by omega
    have hfalse : listed.getD i false = false := by simpa [Array.getD, hil] using h1
    have hx : l[i]? = some l[i] := by simp
    generalize l[i] = x at hx
    have hxo := hop i x hx
    rw [ho] at hxo; injection hxo with hxo; subst hxo
    obtain ⟨r', hrun, hcr, hval, hheap, hlook⟩ := one_step hl hq he hc hcl hx hfalse hready
    have hw := opRun_wp hr hT hrun hcr (Q := Q) (next := wpAny P .any ops Q fuel (listed.setIfInBounds i true)) (fun a' w' ρ' hr' => by
      have hD : (fun j => (listed.setIfInBounds i true).getD j false) = addD (fun j => listed.getD j false) i := by
        funext j
        unfold addD
        cases hb : Nat.beq i j with
        | true => have := Nat.eq_of_beq_eq_true hb; subst this; simp [hil]
        | false =>
          have hne : i ≠ j := fun e => by subst e; rw [Nat.beq_refl] at hb; cases hb
          simp [Array.getElem?_setIfInBounds_ne hne]
      refine ih _ a' w' ρ' (by simpa using hsz) ?_ ?_ ?_
      · rw [hD]
        intro j oj hoj hj e hem hb
        unfold addD at hj ⊢
        cases hbq : Nat.beq i j with
        | true =>
          have := Nat.eq_of_beq_eq_true hbq; subst this
          rw [ho] at hoj; injection hoj with hoj; subst hoj
          have := hready e hem hb
          simp only at this ⊢
          rw [this]; simp
        | false =>
          rw [hbq, Bool.false_or] at hj
          have := hcl j oj hoj hj e hem hb
          simp only at this ⊢
          rw [this]; simp
      · have hcs : cnt (listed.setIfInBounds i true).toList + 1 = cnt listed.toList := by
          rw [Array.toList_setIfInBounds]
          refine cnt_set _ _ ?_
          simpa [Array.getD, hil] using h1
        omega
      · rw [hD]
        refine hr'.weaken (fun t y hly => by rw [← hlook t]; exact hly) (fun t y hly => ?_) ?_
        · have : ((({ (stD l s fun j => listed.getD j false) with heap := r'.heap } : St)).put x.o.dst x.g r'.val).heap = r'.heap := by unfold St.put; split <;> rfl
          rw [this, hheap]; exact hly
        · unfold St.put; split <;> rfl)
    unfold wpOp
    simp only [ho]
    cases hq' : Region.wanted x.o (yielded ops a.tmps) with
    | true => rw [hq'] at hw; simp only [if_true] at hw ⊢; exact .inl hw
    | false => rw [hq'] at hw; simpa using hw

theorem WP.regionAny {tb : Tab} (hT : TabOk P tb) {id : Nat} {ops : Array Oper} {hs : List (Nat × Hint)} {s s' : St} {c : List Prop} {q : List EQ} {Q : Exit → St → Prop}
    (hr : anyRun P tb ops hs s = some (s', c, q)) (hc : AllC c) (he : q.map Prod.fst = q.map Prod.snd) (hq : Q .normal s') : WP P W A K (.region id ops true) s Q := by
  intro a w ρ h
  unfold anyRun at hr
  split at hr
  · rename_i l hl
    simp only [Option.map_eq_some_iff] at hr
    obtain ⟨q', hq', hr⟩ := hr
    injection hr with e1 e2
    injection e2 with e2 e3
    subst e1; subst e2; subst e3
    refine wp_region_any hT.mixed ?_
    have hf : ∀ j, (Array.replicate ops.size false).getD j false = false := fun j => by
      by_cases hj : j < ops.size <;> simp [Array.getD, hj]
    refine any_wp (s := s) hT hl hq' he hc (Q := fun e a' w' => ∃ s' ρ', Q e s' ∧ Rel W A K s' a' w' ρ') (fun a' w' ρ' hr' => ⟨_, ρ', hq, hr'⟩) ops.size _ a _ ρ (by simp) ?_ ?_ ?_
    · intro j o ho hj; simp only [hf] at hj; cases hj
    · simp [cnt_replicate]
    · have : stD l s (fun j => (Array.replicate ops.size false).getD j false) = s := by
        unfold stD
        rw [envD_none _ _ _ (fun k _ => hf _), hpD_none _ _ _ (fun k _ => hf _)]
      rw [this]
      exact h.drawn _
  · cases hr
end
end Go.Abs
