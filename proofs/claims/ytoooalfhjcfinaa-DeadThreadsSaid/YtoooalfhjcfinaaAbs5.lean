import Derived.Test.YtoooalfhjcfinaaAbs4
namespace Go.Abs
set_option linter.unusedVariables false
set_option linter.unusedSimpArgs false
variable {P : Program}

/-! ### Structs held against each other -/
def leafEq : Kin → Value → Value → Option Bool
  | .int _, .int k a, .int j b => if k = j then some (a == b) else none
  | .bool, .bool a, .bool b => some (a == b)
  | .str, .string a, .string b => some (a.toList == b.toList)
  | _, _, _ => none

def eqVals : List Kin → List Value → List Value → Option Bool
  | [], [], [] => some true
  | k :: ks, a :: as, b :: bs => (leafEq k a b).bind fun x => (eqVals ks as bs).map fun y => x && y
  | _, _, _ => none

theorem eqVals_len : ∀ {ks : List Kin} {as bs : List Value} {x : Bool}, eqVals ks as bs = some x → as.length = ks.length ∧ bs.length = ks.length
  | [], [], [], _, _ => ⟨rfl, rfl⟩
  | k :: ks, a :: as, b :: bs, x, h => by
    simp only [eqVals, Option.bind_eq_some_iff, Option.map_eq_some_iff] at h
    obtain ⟨_, _, y, hy, _⟩ := h
    have := eqVals_len hy
    simp [this.1, this.2]
  | [], _ :: _, _, _, h => by simp [eqVals] at h
  | [], [], _ :: _, _, h => by simp [eqVals] at h
  | _ :: _, [], _, _, h => by simp [eqVals] at h
  | _ :: _, _ :: _, [], _, h => by simp [eqVals] at h

theorem eqVals_split : ∀ {ks ms : List Kin} {as bs : List Value} {x : Bool}, eqVals (ks ++ ms) as bs = some x →
    ∃ y z, eqVals ks (as.take ks.length) (bs.take ks.length) = some y ∧ eqVals ms (as.drop ks.length) (bs.drop ks.length) = some z ∧ x = (y && z)
  | [], ms, as, bs, x, h => ⟨true, x, by simp [eqVals], by simpa using h, by simp⟩
  | k :: ks, ms, a :: as, b :: bs, x, h => by
    simp only [List.cons_append, eqVals, Option.bind_eq_some_iff, Option.map_eq_some_iff] at h
    obtain ⟨u, hu, v, hv, rfl⟩ := h
    obtain ⟨y, z, hy, hz, rfl⟩ := eqVals_split hv
    refine ⟨u && y, z, ?_, by simpa using hz, by simp [Bool.and_assoc]⟩
    simp only [List.length_cons, List.take_succ_cons, eqVals, hu, hy, Option.bind_some, Option.map_some]
  | _ :: _, _, [], _, _, h => by simp [eqVals] at h
  | _ :: _, _, _ :: _, [], _, h => by simp [eqVals] at h

theorem run_part {t : TypeId} {n : Nat} {b : Bool} (h : lay P t = some (n, b)) (w : World) (vs : List Value) (off : Nat) (hl : off + n ≤ vs.length) (h1 : b = false → n = 1) :
    ∃ v, (part t vs.toArray off).run P w = .ok v w ∧ (match b with | true => v = .agg ((vs.drop off).take n).toArray | false => (vs.drop off).take n = [v]) := by
  obtain ⟨i, d, hi, hd, hs, hb⟩ := lay_spec h
  have hag := run_isAgg hd w
  cases b with
  | true =>
    refine ⟨.agg ((vs.drop off).take n).toArray, ?_, rfl⟩
    simp [part, hag, hb, sizeOf, typeInfo, hi, hs]
  | false =>
    have hn := h1 rfl
    subst hn
    have hlt : off < vs.length := by omega
    refine ⟨vs[off], ?_, ?_⟩
    · simp [part, hag, hb, hlt]
    · rw [List.drop_eq_getElem_cons hlt]; rfl

def valOf (b : Bool) (vs : List Value) : Value := match b, vs with
  | true, vs => .agg vs.toArray
  | false, v :: _ => v
  | false, [] => undef

theorem run_part' {t : TypeId} {n : Nat} {b : Bool} (h : lay P t = some (n, b)) (w : World) (vs : List Value) (off : Nat) (hl : off + n ≤ vs.length) (h1 : b = false → n = 1) :
    (part t vs.toArray off).run P w = .ok (valOf b ((vs.drop off).take n)) w := by
  obtain ⟨v, hv, hm⟩ := run_part h w vs off hl h1
  rw [hv]
  cases b with
  | true => simp only at hm; rw [hm]; rfl
  | false => simp only at hm; rw [hm]; rfl

theorem leaves_row {d : Nat} {t : TypeId} {ks : List Kin} (h : leaves P d t = some ks) {n : Nat} {b : Bool} (hl : lay P t = some (n, b)) : b = false → ks.length = 1 := by
  intro hb
  obtain ⟨i, de, hi, hd, hs, hb'⟩ := lay_spec hl
  cases d with
  | zero => simp [leaves] at h
  | succ d =>
    simp only [leaves, hd] at h
    cases de <;> simp [TypeDesc.isRow] at hb' h <;> first
      | (rw [← h]; rfl)
      | (rw [hb] at hb'; cases hb')

theorem leaves_equal : ∀ (d : Nat) (t : TypeId) (ks : List Kin), leaves P d t = some ks → ∀ {n : Nat} {b : Bool}, lay P t = some (n, b) → ∀ (e : Nat), d ≤ e → ∀ (w : World) (as bs : List Value) (x : Bool), eqVals ks as bs = some x →
    (Op.equalIn e t (valOf b as) (valOf b bs)).run P w = .ok x w
  | 0, t, ks, h, _, _, _, _, _, _, _, _, _, _ => by simp [leaves] at h
  | d + 1, t, ks, h, n, b, hl, 0, he, _, _, _, _, _ => by omega
  | d + 1, t, ks, h, n, b, hl, e + 1, he, w, as, bs, x, hx => by
    obtain ⟨i, de, hi, hd, hs, hb⟩ := lay_spec hl
    simp only [leaves, hd] at h
    have one : ∀ k : Kin, ks = [k] → ∃ u v, as = [u] ∧ bs = [v] ∧ leafEq k u v = some x := by
      rintro k rfl
      match as, bs, hx with
      | [u], [v], hx =>
        refine ⟨u, v, rfl, rfl, ?_⟩
        simp only [eqVals, Option.bind_eq_some_iff, Option.map_some, Option.some.injEq] at hx
        obtain ⟨y, hy, rfl⟩ := hx
        simpa using hy
      | [], _, hx => simp [eqVals] at hx
      | _ :: _, [], hx => simp [eqVals] at hx
      | [_], _ :: _ :: _, hx => simp [eqVals] at hx
      | _ :: _ :: _, [_], hx => simp [eqVals] at hx
      | _ :: _ :: _, _ :: _ :: _, hx => simp [eqVals] at hx
    cases de with
    | int k =>
      simp at h
      obtain ⟨u, v, rfl, rfl, hu⟩ := one _ h.symm
      have hbf : b = false := hb.symm
      subst hbf
      unfold leafEq at hu
      split at hu
      · split at hu
        · rename_i hk; simp at hu; subst hu; subst hk; exact run_equalIn_int w e t _ _ _ _ hd
        · cases hu
      · rename_i h1; simp at h1
      · rename_i h1; simp at h1
      · cases hu
    | bool =>
      simp at h
      obtain ⟨u, v, rfl, rfl, hu⟩ := one _ h.symm
      have hbf : b = false := hb.symm
      subst hbf
      unfold leafEq at hu
      split at hu
      · rename_i h1; simp at h1
      · simp at hu; subst hu; exact run_equalIn_bool' w e t _ _ hd
      · rename_i h1; simp at h1
      · cases hu
    | string =>
      simp at h
      obtain ⟨u, v, rfl, rfl, hu⟩ := one _ h.symm
      have hbf : b = false := hb.symm
      subst hbf
      unfold leafEq at hu
      split at hu
      · rename_i h1; simp at h1
      · rename_i h1; simp at h1
      · simp at hu; subst hu; exact run_equalIn_string w e t _ _ hd
      · cases hu
    | struct fs =>
      have hbt : b = true := hb.symm
      subst hbt
      simp only at h
      split at h
      · cases h
      rename_i hp
      have hfo : P.fieldsOf t = fs := by simp [Program.fieldsOf, hd]
      show (Op.equalIn (e + 1) t (.agg as.toArray) (.agg bs.toArray)).run P w = .ok x w
      rw [run_equalIn_agg w e t _ _ (by rw [hfo]; exact hd) (by simpa using hp), hfo]
      have key : ∀ (l : List Field) (o : Nat) (ks : List Kin), leavesL P (leaves P d) l o = some ks → ∀ x, eqVals ks (as.drop o) (bs.drop o) = some x → (Op.eqFields e as.toArray bs.toArray l).run P w = .ok x w := by
        intro l
        induction l with
        | nil =>
          intro o ks h x hx
          simp only [leavesL, Option.some.injEq] at h
          subst h
          have hl := eqVals_len hx
          have e1 : as.drop o = [] := List.length_eq_zero_iff.1 hl.1
          have e2 : bs.drop o = [] := List.length_eq_zero_iff.1 hl.2
          rw [e1, e2] at hx
          simp [eqVals] at hx
          subst hx
          simp [Op.eqFields]
        | cons f r ih =>
          intro o ks h x hx
          simp only [leavesL] at h
          split at h
          · cases h
          rename_i hno
          have hnm : ¬ f.name = "_" := fun e => hno (.inl e)
          have hof : f.offset = o := Classical.byContradiction fun e => hno (.inr e)
          split at h
          · rename_i m nf bf hm hlf
            split at h
            · rename_i hnm0
              obtain ⟨hnm2, hnpos⟩ := hnm0
              simp only [Option.map_eq_some_iff] at h
              obtain ⟨ks', hk', rfl⟩ := h
              obtain ⟨y, z, hy, hz, rfl⟩ := eqVals_split hx
              have hlen := eqVals_len hx
              simp only [List.length_drop, List.length_append] at hlen
              have hrow := leaves_row hm hlf
              have pa := run_part' hlf w as o (by omega) (fun e => by rw [hnm2]; exact hrow e)
              have pb := run_part' hlf w bs o (by omega) (fun e => by rw [hnm2]; exact hrow e)
              have hq := leaves_equal d f.type m hm hlf e (by omega) w _ _ y hy
              rw [hnm2] at pa pb
              have hrest := ih (o + nf) ks' hk' z (by rw [hnm2, ← List.drop_drop, ← List.drop_drop]; exact hz)
              simp only [Op.eqFields, ne_eq, hnm, not_false_eq_true, if_true, Sem.run_bind, hof, pa, pb, Result.andThen_ok, hq]
              cases y with
              | false => simp
              | true => simpa using hrest
            · cases h
          · cases h
      exact key fs.toList 0 ks h x (by simpa using hx)
    | _ => simp at h

end Go.Abs
