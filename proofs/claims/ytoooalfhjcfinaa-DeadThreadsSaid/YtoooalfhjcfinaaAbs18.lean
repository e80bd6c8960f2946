import Derived.Test.YtoooalfhjcfinaaAbs17
namespace Go.Abs
set_option linter.unusedVariables false
set_option linter.unusedSimpArgs false
variable {P : Program}

theorem step_same {tb : Tab} {hi : Hint} {s : St} {g : Gd} {d : Option Nat} {o : Op} {r : R} (hq : quietO .no o = true) (hs : step tb hi s g d o = some r) : r.heap = s.heap := by
  cases o <;> simp only [step] at hs
  all_goals first
    | (simp [quietO, quietP] at hq; done)
    | (cases hs; done)
    | (repeat' split at hs
       all_goals first
         | contradiction
         | (cases hs; done)
         | (injection hs with hs; subst hs; rfl)
         | (simp only [Option.map_eq_some_iff] at hs
            obtain ⟨_, _, hs⟩ := hs
            subst hs; rfl)
         | (simp_all [quietO, quietP]; done)
         | (simp at hs; done))

theorem callStepM_call {tb : Tab} {ids kept : List Nat} {names : List (Nat × Nat)} {H' : List (Nat × Obj)} {res : AT} {g : Gd} {o : Op} (hc : ¬ ∃ c, o = .call c) (s : St) : callStepM P tb ids kept names H' res s g o = none := by
  unfold callStepM
  split
  · rename_i c; exact absurd ⟨c, rfl⟩ hc
  · rfl

theorem quietO_no {hi : Hint} {o : Op} (h : quietO hi o = true) (hn : ∀ a b c, hi ≠ .call a b c) : quietO .no o = true := by
  cases hi with
  | call a b c => exact absurd rfl (hn a b c)
  | no => exact h
  | fz => simp [quietO] at h
  | callM => simp [quietO] at h
  | obj ob =>
    cases o <;> try (first | exact h | rfl)

theorem opRes_same {tb : Tab} {hi : Hint} {s : St} {g : Gd} {o : Oper} {r : R} (hq : quietO hi o.op = true) (hs : opRes P tb hi s g o = some r) : r.heap = s.heap := by
  unfold opRes at hs
  split at hs
  · rename_i names H' res
    unfold callStep at hs
    split at hs
    · rename_i c hc
      have : H' = [] := by
        rw [hc] at hq
        cases H' with
        | nil => rfl
        | cons => simp [quietO, quietP] at hq
      subst this
      repeat' split at hs
      all_goals first | (cases hs; done) | (injection hs with hs; subst hs; rfl)
    · cases hs
  · simp [quietO] at hq
  · simp [quietO] at hq
  · rename_i h hn hn2 hn3
    exact step_same (quietO_no hq hn) hs

theorem opRes_congr {tb : Tab} {hi : Hint} {e e' : List (Nat × Gd × AT)} {H : List (Nat × Obj)} {n : Nat} {g : Gd} {o : Oper} (hx : ∀ x ∈ o.op.operands, opT ⟨e, H, n⟩ x = opT ⟨e', H, n⟩ x)
    (hd : quietO hi o.op = true ∨ ∀ d ∈ newIds hi o.dst, St.has d ⟨e, H, n⟩ = St.has d ⟨e', H, n⟩) : opRes P tb hi ⟨e, H, n⟩ g o = opRes P tb hi ⟨e', H, n⟩ g o := by
  unfold opRes
  split
  · rename_i names H' res
    by_cases hc : ∃ c, o.op = .call c
    · refine callStep_congr hx ?_
      rcases hd with hd | hd
      · obtain ⟨c, hc⟩ := hc
        rw [hc] at hd
        cases H' with
        | nil => simp
        | cons => simp [quietO, quietP] at hd
      · intro x hm; exact hd _ (by simp [newIds]; exact ⟨x.1, ⟨x.2, hm⟩, rfl⟩)
    · have : ∀ s, callStep P tb names H' res s g o.op = none := by
        intro s; unfold callStep; split
        · rename_i c h; exact absurd ⟨c, h⟩ hc
        · rfl
      rw [this, this]
  · rename_i ob
    have hd' : ∀ d, o.dst = some d → St.has d ⟨e, H, n⟩ = St.has d ⟨e', H, n⟩ := by
      rcases hd with hd | hd
      · simp [quietO] at hd
      · exact fun d h => hd d (by simp [newIds, h])
    rw [step_congr hx (.inr hd')]
    congr 1
    funext r
    have hne : ∀ s, fzR s g none r = none := fun s => by
      unfold fzR; split
      · rename_i h _; cases h
      · rfl
    cases hdst : o.dst with
    | none => rw [hne, hne]
    | some d =>
      unfold fzR
      cases g with
      | on p => rfl
      | yes =>
        have hd2 := hd' d hdst
        split
        · rename_i d' i _ hval
          simp only [Option.some.injEq] at *
          simp_all
        · rfl
  · rename_i ids kept names H' res
    by_cases hc : ∃ c, o.op = .call c
    · refine callStepM_congr hx ?_
      rcases hd with hd | hd
      · simp [quietO] at hd
      · intro x hm hk; exact hd _ (by simp only [newIds, List.mem_map, List.mem_filter]; exact ⟨x, ⟨hm, by rw [hk]; rfl⟩, rfl⟩)
    · rw [callStepM_call hc, callStepM_call hc]
  · rename_i h hn hn2 hn3
    refine step_congr hx (hd.imp (fun h => quietO_no h hn) fun hd d h => hd d ?_)
    cases h0 : hi with
    | call a b c => exact absurd h0 (hn a b c)
    | no => simp [newIds, h]
    | obj => simp [newIds, h]
    | fz ob => exact absurd h0 (hn2 ob)
    | callM a b c d e => exact absurd h0 (hn3 a b c d e)

/-! ### The text's order, op by op -/
structure Rec : Type 1 where
  o : Oper
  hi : Hint
  s : St
  g : Gd
  r : R

def Rec.q (x : Rec) : Bool := quietO x.hi x.o.op

def trace (P : Program) (tb : Tab) (ops : Array Oper) (hs : List (Nat × Hint)) : Nat → List Oper → St → Option (List Rec)
  | _, [], _ => some []
  | i, o :: l, s =>
    match gdOf ops s o, dstOk s o.dst with
    | some g, true => match opRes P tb (hintAt i hs) s g o with
      | some x => (trace P tb ops hs (i + 1) l (({ s with heap := x.heap } : St).put o.dst g x.val)).map (⟨o, hintAt i hs, s, g, x⟩ :: ·)
      | none => none
    | _, _ => none

def putE (x : Rec) (e : List (Nat × Gd × AT)) : List (Nat × Gd × AT) :=
  match x.o.dst with
  | some d => (d, x.g, x.r.val) :: e
  | none => e

/-- The slots, where the operations of D are done. -/
def envD : List Rec → Nat → (Nat → Bool) → List (Nat × Gd × AT) → List (Nat × Gd × AT)
  | [], _, _, e => e
  | x :: l, i, D, e => envD l (i + 1) D (bif D i then putE x e else e)

def hpD : List Rec → Nat → (Nat → Bool) → List (Nat × Obj) → List (Nat × Obj)
  | [], _, _, h => h
  | x :: l, i, D, h => hpD l (i + 1) D (bif D i && !x.q then x.r.heap else h)

theorem envD_congr {D D' : Nat → Bool} : ∀ (l : List Rec) (i : Nat) (e : List (Nat × Gd × AT)), (∀ k, k < l.length → D (i + k) = D' (i + k)) → envD l i D e = envD l i D' e
  | [], _, _, _ => rfl
  | x :: l, i, e, h => by
    have h0 := h 0 (by simp)
    simp only [Nat.add_zero] at h0
    simp only [envD, h0]
    exact envD_congr l (i + 1) _ fun k hk => by have := h (k + 1) (by simpa using hk); rwa [show i + 1 + k = i + (k + 1) by omega]

theorem hpD_congr {D D' : Nat → Bool} : ∀ (l : List Rec) (i : Nat) (e : List (Nat × Obj)), (∀ k, k < l.length → D (i + k) = D' (i + k)) → hpD l i D e = hpD l i D' e
  | [], _, _, _ => rfl
  | x :: l, i, e, h => by
    have h0 := h 0 (by simp)
    simp only [Nat.add_zero] at h0
    simp only [hpD, h0]
    exact hpD_congr l (i + 1) _ fun k hk => by have := h (k + 1) (by simpa using hk); rwa [show i + 1 + k = i + (k + 1) by omega]

theorem envD_none {D : Nat → Bool} : ∀ (l : List Rec) (i : Nat) (e : List (Nat × Gd × AT)), (∀ k, k < l.length → D (i + k) = false) → envD l i D e = e
  | [], _, _, _ => rfl
  | x :: l, i, e, h => by
    have h0 := h 0 (by simp)
    simp only [Nat.add_zero] at h0
    simp only [envD, h0, cond_false]
    exact envD_none l (i + 1) _ fun k hk => by have := h (k + 1) (by simpa using hk); rwa [show i + 1 + k = i + (k + 1) by omega]

theorem hpD_none {D : Nat → Bool} : ∀ (l : List Rec) (i : Nat) (e : List (Nat × Obj)), (∀ k, k < l.length → D (i + k) = false) → hpD l i D e = e
  | [], _, _, _ => rfl
  | x :: l, i, e, h => by
    have h0 := h 0 (by simp)
    simp only [Nat.add_zero] at h0
    simp only [hpD, h0, Bool.false_and, cond_false]
    exact hpD_none l (i + 1) _ fun k hk => by have := h (k + 1) (by simpa using hk); rwa [show i + 1 + k = i + (k + 1) by omega]

theorem look_putE {x : Rec} {e : List (Nat × Gd × AT)} {t : Nat} : look t (putE x e) = if x.o.dst = some t then some (x.g, x.r.val) else look t e := by
  unfold putE
  cases hd : x.o.dst with
  | none => simp
  | some d =>
    simp only [look, Option.some.injEq]
    cases hb : Nat.beq d t with
    | true => have := Nat.eq_of_beq_eq_true hb; subst this; simp
    | false =>
      have hne : d ≠ t := fun e => by subst e; rw [Nat.beq_refl] at hb; cases hb
      simp [hne]

theorem envD_agree {D D' : Nat → Bool} {t : Nat} : ∀ (l : List Rec) (i : Nat) (e e' : List (Nat × Gd × AT)), (∀ k x, l[k]? = some x → x.o.dst = some t → D (i + k) = D' (i + k)) → look t e = look t e' → look t (envD l i D e) = look t (envD l i D' e')
  | [], _, _, _, _, h => h
  | x :: l, i, e, e', h, he => by
    simp only [envD]
    refine envD_agree l (i + 1) _ _ (fun k y hk hy => by have := h (k + 1) y (by simpa using hk) hy; rwa [show i + 1 + k = i + (k + 1) by omega]) ?_
    by_cases hd : x.o.dst = some t
    · have h0 := h 0 x (by simp) hd
      simp only [Nat.add_zero] at h0
      rw [h0]
      cases D' i with
      | true => simp only [cond_true, look_putE, hd]; simp
      | false => simpa using he
    · have hp : ∀ e, look t (putE x e) = look t e := fun e => by rw [look_putE]; simp [hd]
      cases D i <;> cases D' i <;> simp only [cond_true, cond_false, hp, he]

theorem envD_last {D : Nat → Bool} {t : Nat} {x : Rec} : ∀ (l : List Rec) (i k : Nat) (e : List (Nat × Gd × AT)), l[k]? = some x → x.o.dst = some t → D (i + k) = true →
    (∀ k' y, k < k' → l[k']? = some y → y.o.dst = some t → D (i + k') = false) → look t (envD l i D e) = some (x.g, x.r.val)
  | [], _, _, _, h, _, _, _ => by simp at h
  | y :: l, i, 0, e, h, hx, hD, hl => by
    simp at h; subst h
    simp only [Nat.add_zero] at hD
    simp only [envD, hD, cond_true]
    have : look t (envD l (i + 1) D (putE y e)) = look t (envD l (i + 1) (fun _ => false) (putE y e)) :=
      envD_agree l (i + 1) _ _ (fun k z hk hz => by have := hl (k + 1) z (by omega) (by simpa using hk) hz; rwa [show i + 1 + k = i + (k + 1) by omega]) rfl
    rw [this, envD_none _ _ _ (fun _ _ => rfl), look_putE]
    simp [hx]
  | y :: l, i, k + 1, e, h, hx, hD, hl => by
    simp only [envD]
    refine envD_last l (i + 1) k _ (by simpa using h) hx (by rwa [show i + 1 + k = i + (k + 1) by omega]) fun k' z hk hz hd => ?_
    have := hl (k' + 1) z (by omega) (by simpa using hz) hd
    rwa [show i + 1 + k' = i + (k' + 1) by omega]

theorem hpD_cases {D : Nat → Bool} : ∀ (l : List Rec) (i : Nat) (h : List (Nat × Obj)),
    (hpD l i D h = h ∧ ∀ k x, l[k]? = some x → x.q = false → D (i + k) = false) ∨
    ∃ k x, l[k]? = some x ∧ x.q = false ∧ D (i + k) = true ∧ hpD l i D h = x.r.heap ∧ ∀ k' y, k < k' → l[k']? = some y → y.q = false → D (i + k') = false
  | [], _, _ => .inl ⟨rfl, by simp⟩
  | x :: l, i, h => by
    simp only [hpD]
    rcases hpD_cases (D := D) l (i + 1) (bif D i && !x.q then x.r.heap else h) with ⟨h1, h2⟩ | ⟨k, y, h1, h2, h3, h4, h5⟩
    · rw [h1]
      cases hq : (D i && !x.q) with
      | false =>
        refine .inl ⟨rfl, fun k y hk hy => ?_⟩
        cases k with
        | zero => simp at hk; subst hk; simp only [hy, Bool.not_false, Bool.and_true] at hq; simpa using hq
        | succ k => have := h2 k y (by simpa using hk) hy; rwa [show i + (k + 1) = i + 1 + k by omega]
      | true =>
        simp only [Bool.and_eq_true, Bool.not_eq_true'] at hq
        refine .inr ⟨0, x, by simp, hq.2, by simpa using hq.1, rfl, fun k' y hk hy hq' => ?_⟩
        cases k' with
        | zero => omega
        | succ k' => have := h2 k' y (by simpa using hy) hq'; rwa [show i + (k' + 1) = i + 1 + k' by omega]
    · refine .inr ⟨k + 1, y, by simpa using h1, h2, by rwa [show i + (k + 1) = i + 1 + k by omega], h4, fun k' z hk hz hq => ?_⟩
      cases k' with
      | zero => omega
      | succ k' => have := h5 k' z (by omega) (by simpa using hz) hq; rwa [show i + (k' + 1) = i + 1 + k' by omega]

theorem envD_any {D : Nat → Bool} {f : Nat × Gd × AT → Bool} : ∀ (l : List Rec) (i : Nat) (e : List (Nat × Gd × AT)), e.any f = false → (∀ k x d, l[k]? = some x → D (i + k) = true → x.o.dst = some d → f (d, x.g, x.r.val) = false) → (envD l i D e).any f = false
  | [], _, _, h, _ => h
  | x :: l, i, e, h, hx => by
    simp only [envD]
    refine envD_any l (i + 1) _ ?_ fun k y d hk hD hd => hx (k + 1) y d (by simpa using hk) (by rwa [show i + (k + 1) = i + 1 + k by omega]) hd
    cases hD : D i with
    | false => simpa using h
    | true =>
      simp only [cond_true]
      unfold putE
      split
      · rename_i d hd
        simp only [List.any_cons, h, Bool.or_false]
        exact hx 0 x d (by simp) (by simpa using hD) hd
      · exact h

theorem envD_base {D : Nat → Bool} {f : Nat × Gd × AT → Bool} : ∀ (l : List Rec) (i : Nat) (e : List (Nat × Gd × AT)), (envD l i D e).any f = false → e.any f = false
  | [], _, _, h => h
  | x :: l, i, e, h => by
    simp only [envD] at h
    have := envD_base l (i + 1) _ h
    cases hD : D i with
    | false => rw [hD] at this; simpa using this
    | true =>
      rw [hD] at this
      simp only [cond_true] at this
      unfold putE at this
      split at this
      · simp only [List.any_cons, Bool.or_eq_false_iff] at this; exact this.2
      · exact this

theorem trace_spec {tb : Tab} {ops : Array Oper} {hs : List (Nat × Hint)} : ∀ (os : List Oper) (i : Nat) (s : St) (l : List Rec), trace P tb ops hs i os s = some l →
    l.length = os.length ∧ ∀ (k : Nat) (x : Rec), l[k]? = some x → os[k]? = some x.o ∧ gdOf ops x.s x.o = some x.g ∧ dstOk s x.o.dst = true ∧ opRes P tb x.hi x.s x.g x.o = some x.r ∧ x.s = ⟨envD l i (fun j => Nat.blt j (i + k)) s.env, hpD l i (fun j => Nat.blt j (i + k)) s.heap, s.n⟩
  | [], i, s, l, h => by simp [trace] at h; subst h; simp
  | o :: os, i, s, l, h => by
    simp only [trace] at h
    split at h
    · rename_i g hg hd
      split at h
      · rename_i r hr
        simp only [Option.map_eq_some_iff] at h
        obtain ⟨l', hl', h⟩ := h
        subst h
        obtain ⟨h1, h2⟩ := trace_spec os (i + 1) _ l' hl'
        refine ⟨by simp [h1], fun k x hk => ?_⟩
        cases k with
        | zero =>
          simp at hk; subst hk
          refine ⟨by simp, hg, hd, hr, ?_⟩
          have hf : ∀ j, i ≤ j → Nat.blt j (i + 0) = false := fun j hj => by
            cases hb : Nat.blt j (i + 0) with
            | false => rfl
            | true => have := Nat.blt_eq.mp hb; omega
          rw [envD_none _ _ _ (fun k _ => hf _ (by omega)), hpD_none _ _ _ (fun k _ => hf _ (by omega))]
        | succ k =>
          obtain ⟨q1, q2, q3, q4, q5⟩ := h2 k x (by simpa using hk)
          refine ⟨by simpa using q1, q2, ?_, q4, ?_⟩
          · have : ∀ d, dstOk (({ s with heap := r.heap } : St).put o.dst g r.val) d = dstOk s d := fun d => by
              cases d <;> simp only [dstOk]
              unfold St.put; split <;> rfl
            rwa [this] at q3
          · rw [q5]
            have hi : Nat.blt i (i + (k + 1)) = true := Nat.blt_eq.mpr (by omega)
            simp only [envD, hpD, hi, cond_true, Bool.true_and]
            rw [show i + 1 + k = i + (k + 1) by omega]
            have hn : (({ s with heap := r.heap } : St).put o.dst g r.val).n = s.n := by unfold St.put; split <;> rfl
            have he : (({ s with heap := r.heap } : St).put o.dst g r.val).env = putE ⟨o, hintAt i hs, s, g, r⟩ s.env := by unfold St.put putE; cases o.dst <;> rfl
            have hh : (({ s with heap := r.heap } : St).put o.dst g r.val).heap = bif !Rec.q ⟨o, hintAt i hs, s, g, r⟩ then r.heap else s.heap := by
              have : (({ s with heap := r.heap } : St).put o.dst g r.val).heap = r.heap := by unfold St.put; split <;> rfl
              rw [this]
              cases hq : Rec.q ⟨o, hintAt i hs, s, g, r⟩ with
              | false => rfl
              | true => exact opRes_same hq hr
            rw [hn, he, hh]
      · cases h
    · cases h
end Go.Abs
