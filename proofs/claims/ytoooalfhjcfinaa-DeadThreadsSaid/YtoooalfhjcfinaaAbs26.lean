import Derived.Test.YtoooalfhjcfinaaAbs16
namespace Go.Abs
set_option linter.unusedVariables false
set_option linter.unusedSimpArgs false
variable {P : Program}

/-! ### Contracts of functions that are handed memory -/
section
variable {W : World} {A K : Nat → Prop} {s : St} {a : Act} {w : World} {ρ : Nat → Value}

/-- What some values read as, noted down. -/
theorem Rel.note (h : Rel W A K s a w ρ) {d : Nat} (hd : s.has d = false) {vs : List Value} {cs : List Cell} (hc : CRs (s.O A ρ) ρ s.H w vs cs) (hcs : ∀ k, hasL k cs = true → s.has k = true) :
    Rel W A K (s.setH d (.ghost vs cs)) a w (upd ρ d undef) := by
  have T : Turn s (s.setH d (.ghost vs cs)) w w ρ (upd ρ d undef) (· = d) := by
    refine ⟨rfl, rfl, rfl, Nat.le_refl _, fun _ _ _ => rfl, ?_, ?_, ?_, ?_⟩
    · intro k hk; simp [hk, upd]
    · rintro k o k2 rfl hk hb2
      simp [upd, undef, blk] at hb2
    · rintro i j a b g rfl rfl _ _ _ _; rfl
    · rintro k o rfl _
      exact .inl hd
  refine h.turn T rfl rfl ?_
  rintro k o rfl hk
  rw [St.setH_H, if_pos rfl] at hk; injection hk with hk; subst hk
  exact ⟨by simp [upd, undef, blk], T.crs hcs hc⟩
end

def Ret2 (tb : Tab) (fn : Func) (gid : Nat) (vs : List Value) (args : List Cell) (H' : List (Nat × Obj)) (res : AT) : Exit → St → Prop :=
  fun e s' => (e = .normal ∨ e = .ret) ∧ ∃ l s2 ids, chgs l s' = some s2 ∧ resOf tb s2 fn.results.toList = some res ∧ pick ids s2.heap = H' ∧ look gid s2.heap = some (.ghost vs args)

def one (c : Cell) : AT := .v false [c]

def entry2 (fn : Func) (H : List (Nat × Obj)) (args : List Cell) (gid : Nat) (vs : List Value) : St := ⟨entryEnv 0 (args.map one), (gid, .ghost vs args) :: del gid H, fn.ntmps⟩

theorem AC2.intro {tb : Tab} (hT : TabOk P tb) {f : FuncId} {fn : Func} (hf : P.funcs[f]? = some fn) (hb : fn.body.isSome = true) {H : List (Nat × Obj)} {args : List Cell} (hn : Nat.ble args.length fn.ntmps = true) (gid : Nat)
    (hg : St.has gid (entry fn H (args.map one)) = false) {H' : List (Nat × Obj)} {res : AT}
    (h : ∀ W A K vs, StopP P W A K (Ret2 tb fn gid vs args H' res) (.at (bodyAt fn) [] (entry2 fn H args gid vs))) : AC2 P f H args H' res := by
  intro W A ρ vs hA hmr hlow hargs
  obtain ⟨c, hc⟩ := Option.isSome_iff_exists.1 hb
  have hbody : bodyAt fn = c := by simp [bodyAt, hc]
  have hle : args.length ≤ fn.ntmps := by simpa [Nat.ble_eq] using hn
  have hvl := hargs.1
  refine calls_of_wp hf hc ?_
  have hrel : Rel W A (fun b => b < W.heap.size ∧ ¬ owned ρ (look · H) b) (entry fn H (args.map one)) { tmps := vs.toArray ++ Array.replicate (fn.ntmps - vs.toArray.size) undef, defers := [] } W ρ := by
    refine ⟨Ext.refl _ W, fun b hb => hb.1, hA, hmr, fun id o g ho hg => ⟨fun hk => hk.2 ⟨id, o, ho, hg⟩, hlow id o g ho hg⟩, fun t g x hl => ?_, rfl, ?_⟩
    · obtain ⟨_, h2, rfl⟩ := entryEnv_look 0 _ t g x hl
      simp only [Nat.sub_zero, List.getElem?_map, Option.map_eq_some_iff] at h2
      obtain ⟨c1, h2, rfl⟩ := h2
      have hlt : t < vs.length := by rw [hvl]; exact (List.getElem?_eq_some_iff.1 h2).1
      refine ⟨vs[t], ?_, fun _ => ⟨c1, rfl, hargs.2 t _ _ (List.getElem?_eq_getElem hlt) h2⟩, fun hf => by cases hf⟩
      rw [Array.getElem?_append_left (by simpa using hlt)]
      simp [hlt]
    · simp [entry]; omega
  have hrel2 := hrel.note hg (vs := vs) (cs := args) hargs (by
    intro k hk
    have : k ∈ idsL args := idsL_has args hk
    simp only [St.has, Bool.or_eq_true, List.any_eq_true]
    left
    have key : ∀ (l : List Cell) (i : Nat), hasL k l = true → ∃ x ∈ entryEnv i (l.map one), x.2.2.has k = true := by
      intro l
      induction l with
      | nil => intro i h; simp [hasL] at h
      | cons c r ih =>
        intro i h
        simp only [hasL, Bool.or_eq_true] at h
        rcases h with h | h
        · exact ⟨(i, .yes, one c), by simp [entryEnv], by simp [one, AT.has, hasL, h]⟩
        · obtain ⟨x, hx, hh⟩ := ih (i + 1) h
          exact ⟨x, by simp [entryEnv, hx], hh⟩
    exact key args 0 hk)
  have hw := h W A (fun b => b < W.heap.size ∧ ¬ owned ρ (look · H) b) vs _ W _ hrel2
  rw [hbody] at hw
  refine wp_mono hw ?_
  rintro e a' w' ⟨s0, ρ0, hR, hr0⟩
  obtain ⟨he, l, s', ids, hl, hres, hids, hgh⟩ := (show _ ∧ _ from hR)
  obtain ⟨ρ', hr'⟩ := hr0.chgs hl
  obtain ⟨v, hv, har⟩ := resOf_run hT hr' hres
  have hsub : ∀ t x, look t H' = some x → look t s'.heap = some x := fun t x hl => look_pick ids _ (by rw [hids]; exact hl)
  have hO : ∀ b, b < w'.heap.size → (A b ∨ owned ρ' (look · H') b) → s'.O A ρ' b := by
    rintro b _ (hA | ⟨id, o, ho, hk⟩)
    · exact .inl hA
    · exact .inr ⟨id, o, hsub id o ho, hk⟩
  have hw2 := hr'.weaken (s' := ⟨[], H', s'.n⟩) (fun t x hl => by simp [look] at hl) hsub rfl
  have hnote := (hr'.mr.obj gid _ hgh).2
  have fin : a'.defers = [] ∧ ∃ v, (results fn a'.tmps).run P w' = .ok v w' ∧ ∃ ρ' v', Ending.returned v = .returned v' ∧ Ext (fun b => b < W.heap.size ∧ ¬ owned ρ (look · H) b) W w' ∧ MR A ρ' (look · H') w' ∧
      (∀ id o g, look id H' = some o → blk (ρ' id) = some g → g < w'.heap.size ∧ (owned ρ (look · H) g ∨ W.heap.size ≤ g)) ∧ AR (fun b => A b ∨ owned ρ' (look · H') b) ρ' (look · H') w' v' res ∧
      CRs (fun b => A b ∨ owned ρ' (look · H') b) ρ' (look · H') w' vs args := by
    refine ⟨hr'.defers, v, hv, ρ', v, rfl, hr'.ext, hw2.mr, fun id o g ho hg => ?_, har.mono (fun _ _ _ => rfl) hO (fun id o' _ ho => ⟨o', hsub id o' ho, rfl, rfl⟩), hnote.mono (fun _ _ _ => rfl) hO (fun id o' _ ho => ⟨o', hsub id o' ho, rfl, rfl⟩)⟩
    obtain ⟨q1, q2⟩ := hr'.low id o g (hsub id o ho) hg
    refine ⟨q2, ?_⟩
    by_cases hq : owned ρ (look · H) g
    · exact .inl hq
    · exact .inr (Nat.le_of_not_lt fun hlt => q1 ⟨hlt, hq⟩)
  rcases he with rfl | rfl <;> exact fin

/-- A contract under its own names. -/
theorem AC2.cast {f : FuncId} {H H1 : List (Nat × Obj)} {args args1 : List Cell} {H' H1' : List (Nat × Obj)} {res res1 : AT} (h : AC2 P f H args H' res) (e1 : H = H1) (e2 : args = args1) (e3 : H' = H1') (e4 : res = res1) : AC2 P f H1 args1 H1' res1 := by
  subst e1; subst e2; subst e3; subst e4; exact h
end Go.Abs
