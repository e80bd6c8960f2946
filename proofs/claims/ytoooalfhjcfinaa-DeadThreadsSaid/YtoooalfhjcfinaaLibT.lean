import Derived.Test.YtoooalfhjcfinaaLib
namespace Go.Proofs.Ytoooalfhjcfinaa.T
open Go.Abs Go.Sort Go.Shelf Go.Lib Go.RowKit
set_option linter.unusedVariables false
set_option maxRecDepth 100000

def laysSort_ren : Go.Shelf.Ren := ⟨fun | 189 => 54 | 125 => 60 | 257 => 59 | 128 => 71 | 129 => 72 | 294 => 62 | 295 => 63 | 296 => 64 | 297 => 65 | 298 => 66 | 299 => 67 | 216 => 68 | 300 => 69 | 301 => 70 | 328 => 73 | 329 => 74 | 330 => 75 | 331 => 76 | 332 => 77 | 215 => 78 | 343 => 79 | n => n, fun | 28 => 46 | 3 => 3 | 46 => 73 | 0 => 0 | 51 => 85 | 53 => 87 | 4 => 4 | 183 => 77 | 182 => 76 | 131 => 82 | 5 => 5 | 9 => 9 | 218 => 88 | 222 => 92 | 228 => 94 | 229 => 95 | n => n, fun | n => n⟩
theorem laysSort : Lays.n189 Try.prog laysSort_ren where
  mixed := by kernel_rfl
  f125 := Try.func60.trans (congrArg some (by kernel_rfl))
  f128 := Try.func71.trans (congrArg some (by kernel_rfl))
  f129 := Try.func72.trans (congrArg some (by kernel_rfl))
  f189 := Try.func54.trans (congrArg some (by kernel_rfl))
  f215 := Try.func78.trans (congrArg some (by kernel_rfl))
  f216 := Try.func68.trans (congrArg some (by kernel_rfl))
  f257 := Try.func59.trans (congrArg some (by kernel_rfl))
  f294 := Try.func62.trans (congrArg some (by kernel_rfl))
  f295 := Try.func63.trans (congrArg some (by kernel_rfl))
  f296 := Try.func64.trans (congrArg some (by kernel_rfl))
  f297 := Try.func65.trans (congrArg some (by kernel_rfl))
  f298 := Try.func66.trans (congrArg some (by kernel_rfl))
  f299 := Try.func67.trans (congrArg some (by kernel_rfl))
  f300 := Try.func69.trans (congrArg some (by kernel_rfl))
  f301 := Try.func70.trans (congrArg some (by kernel_rfl))
  f328 := Try.func73.trans (congrArg some (by kernel_rfl))
  f329 := Try.func74.trans (congrArg some (by kernel_rfl))
  f330 := Try.func75.trans (congrArg some (by kernel_rfl))
  f331 := Try.func76.trans (congrArg some (by kernel_rfl))
  f332 := Try.func77.trans (congrArg some (by kernel_rfl))
  f343 := Try.func79.trans (congrArg some (by kernel_rfl))
  t0 := Try.underlying0
  a0 := Try.isAgg0
  z0 := Try.sizeOf0
  v0 := Try.zeroValue0
  t3 := Try.underlying3
  a3 := Try.isAgg3
  z3 := Try.sizeOf3
  v3 := Try.zeroValue3
  t4 := Try.underlying4
  a4 := Try.isAgg4
  z4 := Try.sizeOf4
  v4 := Try.zeroValue4
  t5 := Try.underlying5
  a5 := Try.isAgg5
  z5 := Try.sizeOf5
  v5 := Try.zeroValue5
  t9 := Try.underlying9
  a9 := Try.isAgg9
  z9 := Try.sizeOf9
  v9 := Try.zeroValue9
  t28 := Try.underlying46
  a28 := Try.isAgg46
  z28 := Try.sizeOf46
  v28 := Try.zeroValue46
  t46 := Try.underlying73
  a46 := Try.isAgg73
  z46 := Try.sizeOf73
  v46 := Try.zeroValue73
  t51 := Try.underlying85
  a51 := Try.isAgg85
  z51 := Try.sizeOf85
  v51 := Try.zeroValue85
  t53 := Try.underlying87
  a53 := Try.isAgg87
  z53 := Try.sizeOf87
  v53 := Try.zeroValue87
  t131 := Try.underlying82
  a131 := Try.isAgg82
  z131 := Try.sizeOf82
  v131 := Try.zeroValue82
  t182 := Try.underlying76
  a182 := Try.isAgg76
  z182 := Try.sizeOf76
  v182 := Try.zeroValue76
  t183 := Try.underlying77
  a183 := Try.isAgg77
  z183 := Try.sizeOf77
  v183 := Try.zeroValue77
  t218 := Try.underlying88
  a218 := Try.isAgg88
  z218 := Try.sizeOf88
  v218 := Try.zeroValue88
  t222 := Try.underlying92
  a222 := Try.isAgg92
  z222 := Try.sizeOf92
  v222 := Try.zeroValue92
  t228 := Try.underlying94
  a228 := Try.isAgg94
  z228 := Try.sizeOf94
  v228 := Try.zeroValue94
  t229 := Try.underlying95
  a229 := Try.isAgg95
  z229 := Try.sizeOf95
  v229 := Try.zeroValue95

def laysCompact_ren : Go.Shelf.Ren := ⟨fun | 20 => 55 | n => n, fun | 22 => 46 | 3 => 3 | 4 => 4 | 0 => 0 | n => n, fun | n => n⟩
theorem laysCompact : Lays2.n20 Try.prog laysCompact_ren where
  mixed := by kernel_rfl
  f20 := Try.func55.trans (congrArg some (by kernel_rfl))
  t0 := Try.underlying0
  a0 := Try.isAgg0
  z0 := Try.sizeOf0
  v0 := Try.zeroValue0
  t3 := Try.underlying3
  a3 := Try.isAgg3
  z3 := Try.sizeOf3
  v3 := Try.zeroValue3
  t4 := Try.underlying4
  a4 := Try.isAgg4
  z4 := Try.sizeOf4
  v4 := Try.zeroValue4
  t22 := Try.underlying46
  a22 := Try.isAgg46
  z22 := Try.sizeOf46
  v22 := Try.zeroValue46
  i3 := by kernel_rfl

def laysDel_ren : Go.Shelf.Ren := ⟨fun | 10 => 56 | 6 => 61 | n => n, fun | 22 => 46 | 23 => 3 | 25 => 66 | 3 => 3 | 4 => 4 | 0 => 0 | n => n, fun | n => n⟩
theorem laysDel : SlLaysH.n10 Try.prog laysDel_ren where
  mixed := by kernel_rfl
  f6 := ⟨"slices.IndexFunc[[]int,int]", by decide, Try.func61.trans (congrArg some (by kernel_rfl))⟩
  f10 := ⟨"slices.DeleteFunc[[]int,int]", by decide, Try.func56.trans (congrArg some (by kernel_rfl))⟩
  t0 := Try.underlying0
  a0 := Try.isAgg0
  z0 := Try.sizeOf0
  v0 := Try.zeroValue0
  t3 := Try.underlying3
  a3 := Try.isAgg3
  z3 := Try.sizeOf3
  v3 := Try.zeroValue3
  t4 := Try.underlying4
  a4 := Try.isAgg4
  z4 := Try.sizeOf4
  v4 := Try.zeroValue4
  t22 := Try.underlying46
  a22 := Try.isAgg46
  z22 := Try.sizeOf46
  v22 := Try.zeroValue46
  a23 := Try.isAgg3
  z23 := Try.sizeOf3
  t25 := Try.underlying66
  a25 := Try.isAgg66
  z25 := Try.sizeOf66
  v25 := Try.zeroValue66

theorem calls_deep {L : List FuncId} {n : Nat} {P : Program} {f : FuncId} {args : Array Value} {w : World} {R : Ending → World → Prop} (h : ∀ D, CallsIn (Fence.list L (some D)) n P f args w R) : Calls P f args w R :=
  fun cs => let ⟨e, w', fr, r, s, x⟩ := (h (cs.length + n + 10)).2 cs (fun d hd => by injection hd with hd; subst hd; omega); ⟨e, w', fr, r, s.comes, x⟩

/-- The sorted list. -/
def sortI (zs : List Int) : List Int := zs.mergeSort fun x y => decide (x ≤ y)
def compactI (zs : List Int) : List Int := Lib.compact zs
def nonzero (zs : List Int) : List Int := zs.filter fun x => !decide (x = 0)

theorem sort_ok (i : Nat) (zs : List Int) (hz : zs.length ≤ 1073741824) : AC2 Try.prog 54 [(i, .rows 3 1 eI 0 zs)] [.own i] [(i, .rows 3 1 eI 0 (sortI zs))] (.tp []) := by
  refine AC2.inRow (by simp [sortI]) (fun w g cap hH hg hc => ?_) (fun _ w => ?_)
  · exact calls_deep fun D => AnyS.slices_Sort_int_alone laysSort D g 0 cap zs w hH hg (by omega)
  · exact (calls_deep fun D => AnyS.slices_Sort_int_none_alone laysSort D none 0 w).mono fun e w' ⟨h1, h2⟩ => ⟨h1, 0, by rw [h2]; rfl⟩

theorem compact_len (zs : List Int) : (compactI zs).length ≤ zs.length := by
  unfold compactI Lib.compact compactUpTo
  rw [List.length_map]
  refine Nat.le_trans (List.length_filter_le _ _) (by simp)

theorem compact_ok (i j : Nat) (hij : i ≠ j) (zs : List Int) (hz : zs.length ≤ 1073741824) : AC2 Try.prog 55 [(i, .rows 3 1 eI 0 zs)] [.own i] [(j, .rows 3 1 eI 0 (compactI zs))] (.v false [.own j]) := by
  have hl := compact_len zs
  have := AC2.cutRow (P := Try.prog) (f := 55) (ty := 3) (zs := zs) (ts := compactI zs ++ List.replicate (zs.length - (compactI zs).length) 0) (m := (compactI zs).length) hij (by simp; omega) (by simp) [] (fun w g cap hH hg hc => ?_) (fun h0 w => ?_)
  · simpa using this
  · exact calls_deep fun D => AnyS.slices_Compact_int_in laysCompact D g 0 cap zs w hH (by omega) hc |>.mono fun e w' ⟨h1, q, h2⟩ => ⟨h1, q, #[], by rw [h2, grow_empty]; rfl⟩
  · exact (calls_deep fun D => AnyS.slices_Compact_int_empty_in laysCompact D none 0 w).mono fun e w' ⟨h1, h2⟩ => ⟨h1, 0, by rw [h2]; rfl⟩

theorem zero_gives (x : Int) (W : World) : FnGives Try.prog 57 #[] #[.int .i64 x] (.bool (decide (x = 0))) W := by
  show Calls Try.prog 57 #[.int .i64 x] W _
  go_enter Try.func57, Try.ntmps57
  go_wp2
  all_goals (go_ret; exact ⟨by first | (simp_all; done) | (simp_all; rfl), 0, rfl⟩)

theorem del_nil (w : World) : Calls Try.prog 56 #[.slice none 0 0, .func (.func 57) #[] #[]] w fun e w' => e = .returned (.slice none 0 0) ∧ ∃ q, w' = w.drewN q := by
  have h := fun w => AnyE.slices_IndexFunc_empty (P := Try.prog) (ρ := laysDel_ren) { laysDel with } none 0 (.func (.func 57) #[] #[]) w
  change ∀ w, Calls Try.prog 61 _ w _ at h
  go_enter Try.func56, Try.ntmps56
  go_wp2_with (go_at_call 61; refine (h _).mono ?_; rintro e w' ⟨rfl, rfl⟩)
  all_goals (go_ret; exact ⟨rfl, 0, rfl⟩)

theorem del_ok (i j : Nat) (hij : i ≠ j) (zs : List Int) (hz : zs.length ≤ 1073741824) : AC2 Try.prog 56 [(i, .rows 3 1 eI 0 zs)] [.own i, .clo 57 []] [(j, .rows 3 1 eI 0 (nonzero zs))] (.v false [.own j]) := by
  have hl : (nonzero zs).length ≤ zs.length := List.length_filter_le _ _
  have eg : ∀ args w, (callFunc 57 args).run Try.prog w = .ok (.enter 57 args) w := enters_of Try.func57 (by kernel_rfl) rfl
  have := AC2.cutRow (P := Try.prog) (f := 56) (ty := 3) (zs := zs) (ts := nonzero zs ++ List.replicate (zs.length - (nonzero zs).length) 0) (m := (nonzero zs).length) hij (by simp; omega) (by simp) [57] (fun w g cap hH hg hc => ?_) (fun h0 w => del_nil w)
  · simpa using this
  · have hcon := AnyE.slices_DeleteFunc laysDel (Value.int .i64) (fun _ => rfl) (fun x => decide (x = 0)) 57 #[] eg 0 Try.zeroValue3 g 0 cap zs.toArray w (fun W x _ => zero_gives x W) (fun n os dk x _ => zero_gives x _) hH (by simp; omega) (by simpa using hc)
    refine hcon.mono ?_
    rintro e w' ⟨h1, q, h2⟩
    exact ⟨by rw [h1]; simp [nonzero], q, #[], by rw [h2, grow_empty]; simp [nonzero]⟩
end Go.Proofs.Ytoooalfhjcfinaa.T
