/- A part of the proofs of this seat: what functions of the program compute, and what follows from it; without conditions. -/
import Derived.Test.YtoooalfhjcfinaaA5
import Derived.Test.YtoooalfhjcfinaaChecked
import Derived.Shelf.Slices.In.SortAlone
import Derived.Shelf.Slices.In.SortNone
import Derived.Shelf.Slices.In.CompactI
import Derived.Shelf.SlicesE.DeleteFunc
import Derived.Sort.OwnSortedInts
import Derived.Lib.SliceRun

namespace Go.Abs
open Go.Sort
set_option linter.unusedVariables false

theorem flat_eI : ∀ (zs : List Int), zs.flatMap eI = zs.map fun z => Tree.lit (.int .i64 z)
  | [] => rfl
  | z :: r => by simp only [List.flatMap_cons, List.map_cons, flat_eI r]; rfl

theorem trs_ints {O : Nat → Prop} {w : World} (zs : List Int) : TRs O w (zs.map (Value.int .i64)) (zs.flatMap eI) := by
  rw [flat_eI]
  refine ⟨by simp, fun k v t hv ht => ?_⟩
  simp only [List.getElem?_map, Option.map_eq_some_iff] at hv ht
  obtain ⟨z, hz, rfl⟩ := hv
  obtain ⟨z', hz', rfl⟩ := ht
  rw [hz] at hz'; injection hz' with hz'; subst hz'
  exact .lit _ rfl

theorem ints_of_trs {O : Nat → Prop} {w : World} {zs : List Int} {vals : List Value} (h : TRs O w vals (zs.flatMap eI)) : vals = zs.map (Value.int .i64) := by
  rw [flat_eI] at h
  apply List.ext_getElem (by simpa using h.1)
  intro k h1 h2
  have h2' : k < zs.length := by simpa using h2
  have := h.2 k vals[k] _ (List.getElem?_eq_getElem h1) (by rw [List.getElem?_map, List.getElem?_eq_getElem h2']; rfl)
  generalize hv : vals[k] = u at this
  cases this with
  | lit => simp [hv]

section
variable {P : Program}

/-- A row of integers that a function writes in place, and answers cut to its first m elements: what is owned behind it. -/
theorem row_back {ty i j m g cap n : Nat} {zs ts : List Int} {os : Array Go.Obj} {W : World} {A : Nat → Prop} {ρ : Nat → Value} {cur : Array Value} (hmr : MR A ρ (look · [(i, Obj.rows ty 1 eI 0 zs)]) W)
    (hρ : ρ i = .slice (some ⟨g, 0, none⟩) zs.length cap) (hg : W.heap[g]? = some (.cells cur ty (0, 0))) (h1 : zs.length ≤ cap) (h2 : cap ≤ maxLen) (h3 : cur.size = cap * 1) (hl : ts.length = zs.length) (hm : m ≤ ts.length) :
    let w' := grow (putRow (Value.int .i64) (Sort.ahead W n) g 0 ts.toArray) os
    let ρ' := upd ρ j (.slice (some ⟨g, 0, none⟩) m cap)
    Ext (fun b => b < W.heap.size ∧ ¬ owned ρ (look · [(i, Obj.rows ty 1 eI 0 zs)]) b) W w' ∧ MR A ρ' (look · [(j, Obj.rows ty 1 eI 0 (ts.take m))]) w' ∧
      (∀ id o g', look id [(j, Obj.rows ty 1 eI 0 (ts.take m))] = some o → blk (ρ' id) = some g' → g' < w'.heap.size ∧ (owned ρ (look · [(i, Obj.rows ty 1 eI 0 zs)]) g' ∨ W.heap.size ≤ g')) := by
  intro w' ρ'
  have hlook : ∀ {id o}, look id [(j, Obj.rows ty 1 eI 0 (ts.take m))] = some o → id = j ∧ o = Obj.rows ty 1 eI 0 (ts.take m) := by
    intro id o h
    simp only [look] at h
    cases hb : Nat.beq j id with
    | true => rw [hb] at h; simp at h; exact ⟨(Nat.eq_of_beq_eq_true hb).symm, h.symm⟩
    | false => rw [hb] at h; simp at h
  have hi : look i [(i, Obj.rows ty 1 eI 0 zs)] = some (Obj.rows ty 1 eI 0 zs) := by simp [look, Nat.beq_refl]
  have hown : owned ρ (look · [(i, Obj.rows ty 1 eI 0 zs)]) g := ⟨i, _, hi, by rw [hρ]; rfl⟩
  have gb := grownBy_sortedI (w := W) (g := g) (n := n) (os := os) ts.toArray
  have hb' := heap_sortedI (n := n) (os := os) ts.toArray hg
  have hρ' : ρ' j = .slice (some ⟨g, 0, none⟩) m cap := by simp [ρ', upd]
  have hsz : g < W.heap.size := (Array.getElem?_eq_some_iff.1 hg).1
  have hA : ¬ A g := hmr.av i _ g hi (by rw [hρ]; rfl)
  have hml : (ts.take m).length = m := by simp; omega
  refine ⟨⟨gb.os, gb.tape, gb.output, gb.size, fun b hb => gb.block b hb.1 fun e => ?_⟩, ⟨fun id o ho => ?_, fun a b x y k ha hb _ _ => ?_, fun id o k ho hk => ?_⟩, fun id o k ho hk => ?_⟩
  · injection e with e; subst e; exact hb.2 hown
  · obtain ⟨rfl, rfl⟩ := hlook ho
    refine ⟨(ts.take m).map (Value.int .i64), ?_, fun _ _ => rfl, trs_ints _⟩
    rw [hml, hρ']
    refine ⟨by simp; omega, .inr ⟨g, cap, _, rfl, Nat.zero_le _, hb', by omega, h2, by simp [putCells, h3], ?_⟩⟩
    have := take_putCellsI cur ts (by omega)
    rw [Nat.mul_one, List.map_take, ← this, List.take_take]
    congr 1; omega
  · exact (hlook ha).1.trans (hlook hb).1.symm
  · obtain ⟨rfl, rfl⟩ := hlook ho
    rw [hρ'] at hk; simp [blk] at hk; subst hk
    exact hA
  · obtain ⟨rfl, rfl⟩ := hlook ho
    rw [hρ'] at hk; simp [blk] at hk; subst hk
    exact ⟨Nat.lt_of_lt_of_le hsz gb.size, .inl hown⟩

theorem look1 {i : Nat} {o : Obj} : look i [(i, o)] = some o := by simp [look, Nat.beq_refl]
theorem look1n {i j : Nat} {o : Obj} (h : i ≠ j) : look i [(j, o)] = none := by
  have : Nat.beq j i = false := by
    cases hb : Nat.beq j i with
    | true => exact absurd (Nat.eq_of_beq_eq_true hb).symm h
    | false => rfl
  simp [look, this]

/-- What the argument is: nil, or a block of the caller's own. -/
theorem row_arg {ty i : Nat} {zs : List Int} {W : World} {A : Nat → Prop} {ρ : Nat → Value} (hmr : MR A ρ (look · [(i, Obj.rows ty 1 eI 0 zs)]) W) :
    (ρ i = .slice none 0 0 ∧ zs = []) ∨ ∃ g cap cur, ρ i = .slice (some ⟨g, 0, none⟩) zs.length cap ∧ W.heap[g]? = some (.cells cur ty (0, 0)) ∧ zs.length ≤ cap ∧ cap ≤ maxLen ∧ cur.size = cap * 1 ∧ Holds (Value.int .i64) W g 0 zs.toArray := by
  obtain ⟨vals, ⟨hl, h⟩, _, ht⟩ := hmr.obj i _ look1
  have hv := ints_of_trs ht
  rcases h with ⟨h, h0⟩ | ⟨g, cap, cur, e, _, hg, h1, h2, h3, h4⟩
  · exact .inl ⟨h, List.length_eq_zero_iff.1 h0⟩
  · exact .inr ⟨g, cap, cur, e, hg, h1, h2, h3, holds_of_blockI hg (by rw [← hv, ← h4, Nat.mul_one])⟩

theorem nil_back {ty i j : Nat} {W w' : World} {A : Nat → Prop} {ρ : Nat → Value} (q : Nat) (hw : w' = W.drewN q) :
    Ext (fun b => b < W.heap.size ∧ ¬ owned ρ (look · [(i, Obj.rows ty 1 eI 0 [])]) b) W w' ∧ MR A (upd ρ j (.slice none 0 0)) (look · [(j, Obj.rows ty 1 eI 0 [])]) w' ∧
      (∀ id o g', look id [(j, Obj.rows ty 1 eI 0 [])] = some o → blk (upd ρ j (.slice none 0 0) id) = some g' → g' < w'.heap.size ∧ (owned ρ (look · [(i, Obj.rows ty 1 eI 0 [])]) g' ∨ W.heap.size ≤ g')) := by
  subst hw
  have hlook : ∀ {id o}, look id [(j, Obj.rows ty 1 eI 0 [])] = some o → id = j ∧ o = Obj.rows ty 1 eI 0 [] := by
    intro id o h
    simp only [look] at h
    cases hb : Nat.beq j id with
    | true => rw [hb] at h; simp at h; exact ⟨(Nat.eq_of_beq_eq_true hb).symm, h.symm⟩
    | false => rw [hb] at h; simp at h
  refine ⟨⟨rfl, rfl, rfl, Nat.le_refl _, fun _ _ => rfl⟩, ⟨fun id o ho => ?_, fun a b x y k ha hb _ _ => (hlook ha).1.trans (hlook hb).1.symm, fun id o k ho hk => ?_⟩, fun id o k ho hk => ?_⟩
  · obtain ⟨rfl, rfl⟩ := hlook ho
    exact ⟨[], ⟨rfl, .inl ⟨by simp [upd], rfl⟩⟩, (fun _ h => by cases h), trs_ints []⟩
  · obtain ⟨rfl, rfl⟩ := hlook ho
    simp [upd, blk] at hk
  · obtain ⟨rfl, rfl⟩ := hlook ho
    simp [upd, blk] at hk

/-- A function that turns a row of integers in place. -/
theorem AC2.inRow {f ty i : Nat} {zs ts : List Int} (hl : ts.length = zs.length)
    (hC : ∀ (w : World) (g cap : Nat), Holds (Value.int .i64) w g 0 zs.toArray → g < w.heap.size → zs.length ≤ cap → Calls P f #[.slice (some ⟨g, 0, none⟩) zs.length cap] w fun e w' => e = .returned (.tuple #[]) ∧ ∃ n os, w' = grow (putRow (Value.int .i64) (Sort.ahead w n) g 0 ts.toArray) os)
    (hN : zs = [] → ∀ w, Calls P f #[.slice none 0 0] w fun e w' => e = .returned (.tuple #[]) ∧ ∃ q, w' = w.drewN q) : AC2 P f [(i, .rows ty 1 eI 0 zs)] [.own i] [(i, .rows ty 1 eI 0 ts)] (.tp []) := by
  intro W A ρ vs hA hmr hlow hargs
  obtain ⟨hvl, hvr⟩ := hargs
  match vs, hvl with
  | [v], _ =>
    have hv : v = ρ i := by
      have := hvr 0 v _ rfl rfl
      cases this with
      | own => rfl
      | ownj h => rw [look1] at h; cases h
    subst hv
    have hre : ∀ {O : Nat → Prop} {ρ' : Nat → Value} {H : List (Nat × Obj)} {w' : World}, look i H = some (.rows ty 1 eI 0 ts) → ρ' i = ρ i → (ρ i).oneCell' = true → CRs O ρ' (look · H) w' [ρ i] [.own i] := by
      intro O ρ' H w' h1 h2 h3
      refine CRs.cons ?_ CRs.nil
      rw [← h2]
      exact .own h1 (by rw [h2]; exact h3)
    rcases row_arg hmr with ⟨e0, rfl⟩ | ⟨g, cap, cur, e0, hg, h1, h2, h3, hH⟩
    · have : ts = [] := List.length_eq_zero_iff.1 hl
      subst this
      rw [e0]
      refine (hN rfl W).mono ?_
      rintro e w' ⟨rfl, q, hw⟩
      obtain ⟨r1, r2, r3⟩ := nil_back (ty := ty) (i := i) (j := i) (A := A) (ρ := ρ) q hw
      refine ⟨upd ρ i (.slice none 0 0), _, rfl, r1, r2, r3, ⟨[], rfl, rfl, by simp⟩, ?_⟩
      have := hre (O := fun b => A b ∨ owned (upd ρ i (.slice none 0 0)) (look · [(i, Obj.rows ty 1 eI 0 [])]) b) (ρ' := upd ρ i (.slice none 0 0)) (H := [(i, Obj.rows ty 1 eI 0 [])]) (w' := w') look1 (by simp [upd, e0]) (by rw [e0]; rfl)
      rw [e0] at this; exact this
    · rw [e0]
      refine (hC W g cap hH (Array.getElem?_eq_some_iff.1 hg).1 h1).mono ?_
      rintro e w' ⟨rfl, n, os, rfl⟩
      obtain ⟨r1, r2, r3⟩ := row_back (i := i) (j := i) (m := zs.length) (n := n) (os := os) (ts := ts) hmr e0 hg h1 h2 h3 hl (by omega)
      have ht : ts.take zs.length = ts := by rw [← hl]; simp
      rw [ht] at r2 r3
      refine ⟨_, _, rfl, r1, r2, r3, ⟨[], rfl, rfl, by simp⟩, ?_⟩
      have := hre (O := fun b => A b ∨ owned (upd ρ i (.slice (some ⟨g, 0, none⟩) zs.length cap)) (look · [(i, Obj.rows ty 1 eI 0 ts)]) b) (ρ' := upd ρ i (.slice (some ⟨g, 0, none⟩) zs.length cap)) (H := [(i, Obj.rows ty 1 eI 0 ts)]) (w' := grow (putRow (Value.int .i64) (Sort.ahead W n) g 0 ts.toArray) os) look1 (by simp [upd, e0]) (by rw [e0]; rfl)
      rw [e0] at this; exact this

/-- A function that turns a row of integers in place, and answers its first elements. -/
theorem AC2.cutRow {f ty i j : Nat} {zs ts : List Int} {m : Nat} (hij : i ≠ j) (hl : ts.length = zs.length) (hm : m ≤ ts.length) (fs : List Nat)
    (hC : ∀ (w : World) (g cap : Nat), Holds (Value.int .i64) w g 0 zs.toArray → g < w.heap.size → zs.length ≤ cap → Calls P f (.slice (some ⟨g, 0, none⟩) zs.length cap :: fs.map fun k => Value.func (.func k) #[] #[]).toArray w fun e w' => e = .returned (.slice (some ⟨g, 0, none⟩) m cap) ∧ ∃ n os, w' = grow (putRow (Value.int .i64) (Sort.ahead w n) g 0 ts.toArray) os)
    (hN : zs = [] → ∀ w, Calls P f (.slice none 0 0 :: fs.map fun k => Value.func (.func k) #[] #[]).toArray w fun e w' => e = .returned (.slice none 0 0) ∧ ∃ q, w' = w.drewN q) :
    AC2 P f [(i, .rows ty 1 eI 0 zs)] (.own i :: fs.map fun k => .clo k []) [(j, .rows ty 1 eI 0 (ts.take m))] (.v false [.own j]) := by
  intro W A ρ vs hA hmr hlow hargs
  obtain ⟨hvl, hvr⟩ := hargs
  match vs, hvl with
  | v :: ws, hvl =>
    have hv : v = ρ i := by
      have := hvr 0 v _ rfl rfl
      cases this with
      | own => rfl
      | ownj h => rw [look1] at h; cases h
    subst hv
    have hws : ws = fs.map fun k => Value.func (.func k) #[] #[] := by
      apply List.ext_getElem (by simpa using hvl)
      intro k h1 h2
      have h2' : k < fs.length := by simpa using h2
      have := hvr (k + 1) ws[k] (.clo fs[k] []) (by simp) (by simp [h2'])
      generalize ws[k] = u at this
      cases this with
      | clo vals hl' _ =>
        have : vals = [] := List.length_eq_zero_iff.1 (by simpa using hl')
        subst this
        simp
    subst hws
    have hre : ∀ {O : Nat → Prop} {ρ' : Nat → Value} {o : Obj} {w' : World} {u : Value}, u.oneCell' = true → CRs O ρ' (look · [(j, o)]) w' (u :: fs.map fun k => Value.func (.func k) #[] #[]) (.own i :: fs.map fun k => .clo k []) := by
      intro O ρ' o w' u h1
      refine CRs.cons (.ownj (look1n hij) h1) ⟨by simp, fun k v c hv hc => ?_⟩
      simp only [List.getElem?_map, Option.map_eq_some_iff] at hv hc
      obtain ⟨a, ha, rfl⟩ := hv
      obtain ⟨b, hb, rfl⟩ := hc
      rw [ha] at hb; injection hb with hb; subst hb
      exact .clo [] rfl (by simp)
    have hres : ∀ {O : Nat → Prop} {ρ' : Nat → Value} {o : Obj} {w' : World} {u : Value}, ρ' j = u → u.oneCell' = true → AR O ρ' (look · [(j, o)]) w' u (.v false [.own j]) := by
      intro O ρ' o w' u h1 h2
      subst h1
      exact ⟨_, rfl, .own look1 h2⟩
    rcases row_arg hmr with ⟨e0, rfl⟩ | ⟨g, cap, cur, e0, hg, h1, h2, h3, hH⟩
    · have : ts = [] := List.length_eq_zero_iff.1 hl
      subst this
      rw [e0]
      refine (hN rfl W).mono ?_
      rintro e w' ⟨rfl, q, hw⟩
      obtain ⟨r1, r2, r3⟩ := nil_back (ty := ty) (i := i) (j := j) (A := A) (ρ := ρ) q hw
      simp only [List.take_nil]
      exact ⟨upd ρ j (.slice none 0 0), _, rfl, r1, r2, r3, hres (by simp [upd]) rfl, hre rfl⟩
    · rw [e0]
      refine (hC W g cap hH (Array.getElem?_eq_some_iff.1 hg).1 h1).mono ?_
      rintro e w' ⟨rfl, n, os, rfl⟩
      obtain ⟨r1, r2, r3⟩ := row_back (i := i) (j := j) (m := m) (n := n) (os := os) (ts := ts) hmr e0 hg h1 h2 h3 hl hm
      exact ⟨_, _, rfl, r1, r2, r3, hres (by simp [upd]) rfl, hre rfl⟩
end
end Go.Abs

namespace Go.Proofs.Ytoooalfhjcfinaa.T
open Go.Abs Go.Sort Go.Shelf Go.Lib Go.RowKit
set_option linter.unusedVariables false
set_option maxRecDepth 100000

def laysSort_ren : Go.Shelf.Ren := ⟨fun | 189 => 54 | 125 => 60 | 257 => 59 | 128 => 71 | 129 => 72 | 294 => 62 | 295 => 63 | 296 => 64 | 297 => 65 | 298 => 66 | 299 => 67 | 216 => 68 | 300 => 69 | 301 => 70 | 328 => 73 | 329 => 74 | 330 => 75 | 331 => 76 | 332 => 77 | 215 => 78 | 343 => 79 | n => n, fun | 28 => 46 | 3 => 3 | 46 => 73 | 0 => 0 | 51 => 85 | 53 => 87 | 4 => 4 | 183 => 77 | 182 => 76 | 131 => 82 | 5 => 5 | 9 => 9 | 218 => 88 | 222 => 92 | 228 => 94 | 229 => 95 | n => n, fun | n => n⟩
theorem laysSort : Lays.n189 Try.prog laysSort_ren where
  mixed := by kernel_rfl
  f125 := Try.func60.trans (congrArg some (by kernel_rfl))
  f128 := Try.func71.trans (congrArg some (by kernel_rfl))
  f129 := Try.func72.trans (congrArg some (by kernel_rfl))
  f189 := Try.func54.trans (congrArg some (by kernel_rfl))
  f215 := Try.func78.trans (congrArg some (by kernel_rfl))
  f216 := Try.func68.trans (congrArg some (by kernel_rfl))
  f257 := Try.func59.trans (congrArg some (by kernel_rfl))
  f294 := Try.func62.trans (congrArg some (by kernel_rfl))
  f295 := Try.func63.trans (congrArg some (by kernel_rfl))
  f296 := Try.func64.trans (congrArg some (by kernel_rfl))
  f297 := Try.func65.trans (congrArg some (by kernel_rfl))
  f298 := Try.func66.trans (congrArg some (by kernel_rfl))
  f299 := Try.func67.trans (congrArg some (by kernel_rfl))
  f300 := Try.func69.trans (congrArg some (by kernel_rfl))
  f301 := Try.func70.trans (congrArg some (by kernel_rfl))
  f328 := Try.func73.trans (congrArg some (by kernel_rfl))
  f329 := Try.func74.trans (congrArg some (by kernel_rfl))
  f330 := Try.func75.trans (congrArg some (by kernel_rfl))
  f331 := Try.func76.trans (congrArg some (by kernel_rfl))
  f332 := Try.func77.trans (congrArg some (by kernel_rfl))
  f343 := Try.func79.trans (congrArg some (by kernel_rfl))
  t0 := Try.underlying0
  a0 := Try.isAgg0
  z0 := Try.sizeOf0
  v0 := Try.zeroValue0
  t3 := Try.underlying3
  a3 := Try.isAgg3
  z3 := Try.sizeOf3
  v3 := Try.zeroValue3
  t4 := Try.underlying4
  a4 := Try.isAgg4
  z4 := Try.sizeOf4
  v4 := Try.zeroValue4
  t5 := Try.underlying5
  a5 := Try.isAgg5
  z5 := Try.sizeOf5
  v5 := Try.zeroValue5
  t9 := Try.underlying9
  a9 := Try.isAgg9
  z9 := Try.sizeOf9
  v9 := Try.zeroValue9
  t28 := Try.underlying46
  a28 := Try.isAgg46
  z28 := Try.sizeOf46
  v28 := Try.zeroValue46
  t46 := Try.underlying73
  a46 := Try.isAgg73
  z46 := Try.sizeOf73
  v46 := Try.zeroValue73
  t51 := Try.underlying85
  a51 := Try.isAgg85
  z51 := Try.sizeOf85
  v51 := Try.zeroValue85
  t53 := Try.underlying87
  a53 := Try.isAgg87
  z53 := Try.sizeOf87
  v53 := Try.zeroValue87
  t131 := Try.underlying82
  a131 := Try.isAgg82
  z131 := Try.sizeOf82
  v131 := Try.zeroValue82
  t182 := Try.underlying76
  a182 := Try.isAgg76
  z182 := Try.sizeOf76
  v182 := Try.zeroValue76
  t183 := Try.underlying77
  a183 := Try.isAgg77
  z183 := Try.sizeOf77
  v183 := Try.zeroValue77
  t218 := Try.underlying88
  a218 := Try.isAgg88
  z218 := Try.sizeOf88
  v218 := Try.zeroValue88
  t222 := Try.underlying92
  a222 := Try.isAgg92
  z222 := Try.sizeOf92
  v222 := Try.zeroValue92
  t228 := Try.underlying94
  a228 := Try.isAgg94
  z228 := Try.sizeOf94
  v228 := Try.zeroValue94
  t229 := Try.underlying95
  a229 := Try.isAgg95
  z229 := Try.sizeOf95
  v229 := Try.zeroValue95

def laysCompact_ren : Go.Shelf.Ren := ⟨fun | 20 => 55 | n => n, fun | 22 => 46 | 3 => 3 | 4 => 4 | 0 => 0 | n => n, fun | n => n⟩
theorem laysCompact : Lays2.n20 Try.prog laysCompact_ren where
  mixed := by kernel_rfl
  f20 := Try.func55.trans (congrArg some (by kernel_rfl))
  t0 := Try.underlying0
  a0 := Try.isAgg0
  z0 := Try.sizeOf0
  v0 := Try.zeroValue0
  t3 := Try.underlying3
  a3 := Try.isAgg3
  z3 := Try.sizeOf3
  v3 := Try.zeroValue3
  t4 := Try.underlying4
  a4 := Try.isAgg4
  z4 := Try.sizeOf4
  v4 := Try.zeroValue4
  t22 := Try.underlying46
  a22 := Try.isAgg46
  z22 := Try.sizeOf46
  v22 := Try.zeroValue46
  i3 := by kernel_rfl

def laysDel_ren : Go.Shelf.Ren := ⟨fun | 10 => 56 | 6 => 61 | n => n, fun | 22 => 46 | 23 => 3 | 25 => 66 | 3 => 3 | 4 => 4 | 0 => 0 | n => n, fun | n => n⟩
theorem laysDel : SlLaysH.n10 Try.prog laysDel_ren where
  mixed := by kernel_rfl
  f6 := ⟨"slices.IndexFunc[[]int,int]", by decide, Try.func61.trans (congrArg some (by kernel_rfl))⟩
  f10 := ⟨"slices.DeleteFunc[[]int,int]", by decide, Try.func56.trans (congrArg some (by kernel_rfl))⟩
  t0 := Try.underlying0
  a0 := Try.isAgg0
  z0 := Try.sizeOf0
  v0 := Try.zeroValue0
  t3 := Try.underlying3
  a3 := Try.isAgg3
  z3 := Try.sizeOf3
  v3 := Try.zeroValue3
  t4 := Try.underlying4
  a4 := Try.isAgg4
  z4 := Try.sizeOf4
  v4 := Try.zeroValue4
  t22 := Try.underlying46
  a22 := Try.isAgg46
  z22 := Try.sizeOf46
  v22 := Try.zeroValue46
  a23 := Try.isAgg3
  z23 := Try.sizeOf3
  t25 := Try.underlying66
  a25 := Try.isAgg66
  z25 := Try.sizeOf66
  v25 := Try.zeroValue66

theorem calls_deep {L : List FuncId} {n : Nat} {P : Program} {f : FuncId} {args : Array Value} {w : World} {R : Ending → World → Prop} (h : ∀ D, CallsIn (Fence.list L (some D)) n P f args w R) : Calls P f args w R :=
  fun cs => let ⟨e, w', fr, r, s, x⟩ := (h (cs.length + n + 10)).2 cs (fun d hd => by injection hd with hd; subst hd; omega); ⟨e, w', fr, r, s.comes, x⟩

/-- The sorted list. -/
def sortI (zs : List Int) : List Int := zs.mergeSort fun x y => decide (x ≤ y)
def compactI (zs : List Int) : List Int := Lib.compact zs
def nonzero (zs : List Int) : List Int := zs.filter fun x => !decide (x = 0)

theorem sort_ok (i : Nat) (zs : List Int) (hz : zs.length ≤ 1073741824) : AC2 Try.prog 54 [(i, .rows 3 1 eI 0 zs)] [.own i] [(i, .rows 3 1 eI 0 (sortI zs))] (.tp []) := by
  refine AC2.inRow (by simp [sortI]) (fun w g cap hH hg hc => ?_) (fun _ w => ?_)
  · exact calls_deep fun D => AnyS.slices_Sort_int_alone laysSort D g 0 cap zs w hH hg (by omega)
  · exact (calls_deep fun D => AnyS.slices_Sort_int_none_alone laysSort D none 0 w).mono fun e w' ⟨h1, h2⟩ => ⟨h1, 0, by rw [h2]; rfl⟩

theorem compact_len (zs : List Int) : (compactI zs).length ≤ zs.length := by
  unfold compactI Lib.compact compactUpTo
  rw [List.length_map]
  refine Nat.le_trans (List.length_filter_le _ _) (by simp)

theorem compact_ok (i j : Nat) (hij : i ≠ j) (zs : List Int) (hz : zs.length ≤ 1073741824) : AC2 Try.prog 55 [(i, .rows 3 1 eI 0 zs)] [.own i] [(j, .rows 3 1 eI 0 (compactI zs))] (.v false [.own j]) := by
  have hl := compact_len zs
  have := AC2.cutRow (P := Try.prog) (f := 55) (ty := 3) (zs := zs) (ts := compactI zs ++ List.replicate (zs.length - (compactI zs).length) 0) (m := (compactI zs).length) hij (by simp; omega) (by simp) [] (fun w g cap hH hg hc => ?_) (fun h0 w => ?_)
  · simpa using this
  · exact calls_deep fun D => AnyS.slices_Compact_int_in laysCompact D g 0 cap zs w hH (by omega) hc |>.mono fun e w' ⟨h1, q, h2⟩ => ⟨h1, q, #[], by rw [h2, grow_empty]; rfl⟩
  · exact (calls_deep fun D => AnyS.slices_Compact_int_empty_in laysCompact D none 0 w).mono fun e w' ⟨h1, h2⟩ => ⟨h1, 0, by rw [h2]; rfl⟩

theorem zero_gives (x : Int) (W : World) : FnGives Try.prog 57 #[] #[.int .i64 x] (.bool (decide (x = 0))) W := by
  show Calls Try.prog 57 #[.int .i64 x] W _
  go_enter Try.func57, Try.ntmps57
  go_wp2
  all_goals (go_ret; exact ⟨by first | (simp_all; done) | (simp_all; rfl), 0, rfl⟩)

theorem del_nil (w : World) : Calls Try.prog 56 #[.slice none 0 0, .func (.func 57) #[] #[]] w fun e w' => e = .returned (.slice none 0 0) ∧ ∃ q, w' = w.drewN q := by
  have h := fun w => AnyE.slices_IndexFunc_empty (P := Try.prog) (ρ := laysDel_ren) { laysDel with } none 0 (.func (.func 57) #[] #[]) w
  change ∀ w, Calls Try.prog 61 _ w _ at h
  go_enter Try.func56, Try.ntmps56
  go_wp2_with (go_at_call 61; refine (h _).mono ?_; rintro e w' ⟨rfl, rfl⟩)
  all_goals (go_ret; exact ⟨rfl, 0, rfl⟩)

theorem del_ok (i j : Nat) (hij : i ≠ j) (zs : List Int) (hz : zs.length ≤ 1073741824) : AC2 Try.prog 56 [(i, .rows 3 1 eI 0 zs)] [.own i, .clo 57 []] [(j, .rows 3 1 eI 0 (nonzero zs))] (.v false [.own j]) := by
  have hl : (nonzero zs).length ≤ zs.length := List.length_filter_le _ _
  have eg : ∀ args w, (callFunc 57 args).run Try.prog w = .ok (.enter 57 args) w := enters_of Try.func57 (by kernel_rfl) rfl
  have := AC2.cutRow (P := Try.prog) (f := 56) (ty := 3) (zs := zs) (ts := nonzero zs ++ List.replicate (zs.length - (nonzero zs).length) 0) (m := (nonzero zs).length) hij (by simp; omega) (by simp) [57] (fun w g cap hH hg hc => ?_) (fun h0 w => del_nil w)
  · simpa using this
  · have hcon := AnyE.slices_DeleteFunc laysDel (Value.int .i64) (fun _ => rfl) (fun x => decide (x = 0)) 57 #[] eg 0 Try.zeroValue3 g 0 cap zs.toArray w (fun W x _ => zero_gives x W) (fun n os dk x _ => zero_gives x _) hH (by simp; omega) (by simpa using hc)
    refine hcon.mono ?_
    rintro e w' ⟨h1, q, h2⟩
    exact ⟨by rw [h1]; simp [nonzero], q, #[], by rw [h2, grow_empty]; simp [nonzero]⟩
end Go.Proofs.Ytoooalfhjcfinaa.T
