import Derived.Test.YtoooalfhjcfinaaU6
namespace Go.Proofs.Ytoooalfhjcfinaa.T
open Go.Abs
set_option linter.unusedVariables false
set_option maxRecDepth 100000
set_option maxHeartbeats 2000000

def g3_law22_DeadGraphs (K : Nat) (a0 : Graph) : Option (Bool) :=
  (g8_law22_awake K ).bind fun r1 =>
  (bif (!(!r1)) then g9_law22_fine K a0 else some false).bind fun r2 =>
  let b3 : Bool := (bif (!r1) then true else (!r2))
  bif b3 then
    (g8_law22_awake K ).bind fun r5 =>
    some r5
  else
    (g11_dead_Thread K a0).bind fun r6 =>
    (g12_ref22_Thread K a0).bind fun r7 =>
    (g10_ref16_Same K r6 r7).bind fun r8 =>
    (bif r8 then g13_dead_Trim K a0 else some zGraph).bind fun r9 =>
    (bif r8 then g14_ref22_Trim K a0 else some zGraph).bind fun r10 =>
    (bif r8 then g10_ref16_Same K r9 r10 else some false).bind fun r11 =>
    let b12 : Bool := (bif r8 then r11 else false)
    (bif b12 then g15_dead_Sweep K a0 else some zGraph).bind fun r13 =>
    (bif b12 then g16_ref22_Sweep K a0 else some zGraph).bind fun r14 =>
    (bif b12 then g10_ref16_Same K r13 r14 else some false).bind fun r15 =>
    let b16 : Bool := (bif b12 then r15 else false)
    (bif b16 then g17_dead_Graph K a0 else some zGraph).bind fun r17 =>
    (bif b16 then g18_ref22_Graph K a0 else some zGraph).bind fun r18 =>
    (bif b16 then g10_ref16_Same K r17 r18 else some false).bind fun r19 =>
    let b20 : Bool := (bif b16 then r19 else false)
    some b20

theorem g3_law22_DeadGraphs_ok (K : Nat) (a0 : Graph) (r : Bool) (h : g3_law22_DeadGraphs K a0 = some r) : AC Try.prog 3 [] [.v true [cs a0.Name, cb a0.Keep, cb a0.Leaf, .t (.ro 12 cBlock zBlock a0.Blocks)]] [] (v1 (cb r)) := by
  refine AC.intro (fn := Try.f3) tbOk (by kernel_rfl) rfl (by kernel_rfl) (fun W A Kf => ?_)
  obtain ⟨r1, hc1, h⟩ := bd_some h
  obtain ⟨r2, hc2, h⟩ := bd_some h
  let b3 : Bool := (bif (!r1) then true else (!r2))
  refine StopP.advd tbOk [(1, [(0, .call [] [] (v1 (cb r1))), (4, .call [] [] (v1 (cb r2)))])] 100000 1000 (by kernel_rfl) (by kernel_rfl) (ac_y (g8_law22_awake_ok K  r1 hc1) <| ac_on (!(!r1)) (pt (!(!r1))) <| ac_on (!(!r1)) (fun h => g9_law22_fine_ok K a0 r2 (cd_t h hc2)) <| ac_on (!(!r1)) (pt (!(!r1))) <| ac_y (pn (!r1)) <| ac_nil) ?_
  refine StopP.cond (b := b3) (by kernel_rfl) (fun hb4 => ?_) (fun hb4 => ?_)
  · have h := cd_t hb4 h
    obtain ⟨r5, hc5, h⟩ := bd_some h
    refine StopP.advd tbOk [(2, [(0, .call [] [] (v1 (cb r5)))])] 100000 1000 (by kernel_rfl) (by kernel_rfl) (ac_y (g8_law22_awake_ok K  r5 hc5) <| ac_nil) ?_
    have h := sm h; subst h
    refine StopP.out .ret (by kernel_rfl) ?_
    exact ret_box (.inr rfl) [.keep [2] []] (by kernel_rfl) (by kernel_rfl) [] (by kernel_rfl)
  · have h := cd_f hb4 h
    obtain ⟨r6, hc6, h⟩ := bd_some h
    obtain ⟨r7, hc7, h⟩ := bd_some h
    obtain ⟨r8, hc8, h⟩ := bd_some h
    obtain ⟨r9, hc9, h⟩ := bd_some h
    obtain ⟨r10, hc10, h⟩ := bd_some h
    obtain ⟨r11, hc11, h⟩ := bd_some h
    let b12 : Bool := (bif r8 then r11 else false)
    obtain ⟨r13, hc13, h⟩ := bd_some h
    obtain ⟨r14, hc14, h⟩ := bd_some h
    obtain ⟨r15, hc15, h⟩ := bd_some h
    let b16 : Bool := (bif b12 then r15 else false)
    obtain ⟨r17, hc17, h⟩ := bd_some h
    obtain ⟨r18, hc18, h⟩ := bd_some h
    obtain ⟨r19, hc19, h⟩ := bd_some h
    let b20 : Bool := (bif b16 then r19 else false)
    have q0 := ac_on b12 (pt b12) <| ac_on b12 (pt b12) <| ac_on b12 (fun h => g10_ref16_Same_ok K r13 r14 r15 (cd_t h hc15)) <| ac_y (pt b12) <| ac_on b16 (pt b16) <| ac_on b16 (fun h => g17_dead_Graph_ok K a0 r17 (cd_t h hc17)) <| ac_on b16 (pt b16) <| ac_on b16 (fun h => g18_ref22_Graph_ok K a0 r18 (cd_t h hc18)) <| ac_on b16 (pt b16) <| ac_on b16 (pt b16) <| ac_on b16 (fun h => g10_ref16_Same_ok K r17 r18 r19 (cd_t h hc19)) <| ac_y (pt b16) <| ac_nil
    have q1 := ac_on r8 (pt r8) <| ac_on r8 (fun h => g13_dead_Trim_fz K a0 r9 (cd_t h hc9)) <| ac_on r8 (pt r8) <| ac_on r8 (fun h => g14_ref22_Trim_fz K a0 r10 (cd_t h hc10)) <| ac_on r8 (pt r8) <| ac_on r8 (pt r8) <| ac_on r8 (fun h => g10_ref16_Same_ok K r9 r10 r11 (cd_t h hc11)) <| ac_y (pt r8) <| ac_on b12 (pt b12) <| ac_on b12 (fun h => g15_dead_Sweep_fz K a0 r13 (cd_t h hc13)) <| ac_on b12 (pt b12) <| ac_on b12 (fun h => g16_ref22_Sweep_fz K a0 r14 (cd_t h hc14)) <| q0
    refine StopP.advd tbOk [(3, [(1, .call [] [] (.v true [cs r6.Name, cb r6.Keep, cb r6.Leaf, .t (.ro 12 cBlock zBlock r6.Blocks)])), (3, .call [] [] (.v true [cs r7.Name, cb r7.Keep, cb r7.Leaf, .t (.ro 12 cBlock zBlock r7.Blocks)])), (4, .call [] [] (v1 (cb r8))), (7, .call [] [] (.v true [cs r9.Name, cb r9.Keep, cb r9.Leaf, .t (.ro 12 cBlock zBlock r9.Blocks)])), (9, .call [] [] (.v true [cs r10.Name, cb r10.Keep, cb r10.Leaf, .t (.ro 12 cBlock zBlock r10.Blocks)])), (10, .call [] [] (v1 (cb r11))), (14, .call [] [] (.v true [cs r13.Name, cb r13.Keep, cb r13.Leaf, .t (.ro 12 cBlock zBlock r13.Blocks)])), (16, .call [] [] (.v true [cs r14.Name, cb r14.Keep, cb r14.Leaf, .t (.ro 12 cBlock zBlock r14.Blocks)])), (17, .call [] [] (v1 (cb r15))), (21, .call [] [] (.v true [cs r17.Name, cb r17.Keep, cb r17.Leaf, .t (.ro 12 cBlock zBlock r17.Blocks)])), (23, .call [] [] (.v true [cs r18.Name, cb r18.Keep, cb r18.Leaf, .t (.ro 12 cBlock zBlock r18.Blocks)])), (24, .call [] [] (v1 (cb r19)))])] 100000 1000 (by kernel_rfl) (by kernel_rfl) (ac_y (g11_dead_Thread_fz K a0 r6 hc6) <| ac_y (g12_ref22_Thread_fz K a0 r7 hc7) <| ac_y (g10_ref16_Same_ok K r6 r7 r8 hc8) <| q1) ?_
    have h := sm h; subst h
    refine StopP.out .ret (by kernel_rfl) ?_
    exact ret_box (.inr rfl) [.keep [2] []] (by kernel_rfl) (by kernel_rfl) [] (by kernel_rfl)

def g4_law22_DeadLess (K : Nat) (a0 : Graph) : Option (Bool) :=
  (g8_law22_awake K ).bind fun r1 =>
  (bif (!(!r1)) then g9_law22_fine K a0 else some false).bind fun r2 =>
  let b3 : Bool := (bif (!r1) then true else (!r2))
  bif b3 then
    (g8_law22_awake K ).bind fun r5 =>
    some r5
  else
    (g17_dead_Graph K a0).bind fun r6 =>
    (g19_ref16_Right K r6 (1000 : Int) (1000 : Int)).bind fun r7 =>
    let b8 : Bool := (decide ((r6.Blocks.length : Int) > (a0.Blocks.length : Int)))
    let b9 : Bool := (bif (!r7) then true else b8)
    (bif (!b9) then g20_ref22_Ops K r6 else some 0).bind fun r10 =>
    (bif (!b9) then g20_ref22_Ops K a0 else some 0).bind fun r11 =>
    let b12 : Bool := (bif b9 then true else (decide (r10 > r11)))
    let b13 : Bool := (!(r6.Name.toList == a0.Name.toList))
    let b14 : Bool := (bif b12 then true else b13)
    (bif ((!b14) && a0.Keep) then g10_ref16_Same K a0 r6 else some false).bind fun r15 =>
    let b16 : Bool := (bif a0.Keep then (!r15) else false)
    let b17 : Bool := (bif b14 then true else b16)
    bif b17 then
      some false
    else
      (bif (!a0.Keep) then g13_dead_Trim K r6 else some zGraph).bind fun r19 =>
      (bif (!a0.Keep) then g10_ref16_Same K r19 r6 else some false).bind fun r20 =>
      let b21 : Bool := (bif a0.Keep then true else r20)
      some b21

theorem g4_law22_DeadLess_ok (K : Nat) (a0 : Graph) (r : Bool) (h : g4_law22_DeadLess K a0 = some r) : AC Try.prog 4 [] [.v true [cs a0.Name, cb a0.Keep, cb a0.Leaf, .t (.ro 12 cBlock zBlock a0.Blocks)]] [] (v1 (cb r)) := by
  refine AC.intro (fn := Try.f4) tbOk (by kernel_rfl) rfl (by kernel_rfl) (fun W A Kf => ?_)
  obtain ⟨r1, hc1, h⟩ := bd_some h
  obtain ⟨r2, hc2, h⟩ := bd_some h
  let b3 : Bool := (bif (!r1) then true else (!r2))
  refine StopP.advd tbOk [(1, [(0, .call [] [] (v1 (cb r1))), (4, .call [] [] (v1 (cb r2)))])] 100000 1000 (by kernel_rfl) (by kernel_rfl) (ac_y (g8_law22_awake_ok K  r1 hc1) <| ac_on (!(!r1)) (pt (!(!r1))) <| ac_on (!(!r1)) (fun h => g9_law22_fine_ok K a0 r2 (cd_t h hc2)) <| ac_on (!(!r1)) (pt (!(!r1))) <| ac_y (pn (!r1)) <| ac_nil) ?_
  refine StopP.cond (b := b3) (by kernel_rfl) (fun hb4 => ?_) (fun hb4 => ?_)
  · have h := cd_t hb4 h
    obtain ⟨r5, hc5, h⟩ := bd_some h
    refine StopP.advd tbOk [(2, [(0, .call [] [] (v1 (cb r5)))])] 100000 1000 (by kernel_rfl) (by kernel_rfl) (ac_y (g8_law22_awake_ok K  r5 hc5) <| ac_nil) ?_
    have h := sm h; subst h
    refine StopP.out .ret (by kernel_rfl) ?_
    exact ret_box (.inr rfl) [.keep [2] []] (by kernel_rfl) (by kernel_rfl) [] (by kernel_rfl)
  · have h := cd_f hb4 h
    obtain ⟨r6, hc6, h⟩ := bd_some h
    obtain ⟨r7, hc7, h⟩ := bd_some h
    let b8 : Bool := (decide ((r6.Blocks.length : Int) > (a0.Blocks.length : Int)))
    let b9 : Bool := (bif (!r7) then true else b8)
    obtain ⟨r10, hc10, h⟩ := bd_some h
    obtain ⟨r11, hc11, h⟩ := bd_some h
    let b12 : Bool := (bif b9 then true else (decide (r10 > r11)))
    let b13 : Bool := (!(r6.Name.toList == a0.Name.toList))
    let b14 : Bool := (bif b12 then true else b13)
    obtain ⟨r15, hc15, h⟩ := bd_some h
    let b16 : Bool := (bif a0.Keep then (!r15) else false)
    let b17 : Bool := (bif b14 then true else b16)
    have q0 := ac_on (!b12) (pt (!b12)) <| ac_on (!b12) (pt (!b12)) <| ac_y (pn b12) <| ac_on (!b14) (pt (!b14)) <| ac_on (!b14) (pt (!b14)) <| ac_on ((!b14) && a0.Keep) (pt ((!b14) && a0.Keep)) <| ac_on ((!b14) && a0.Keep) (pt ((!b14) && a0.Keep)) <| ac_on ((!b14) && a0.Keep) (fun h => g10_ref16_Same_ok K a0 r6 r15 (cd_t h hc15)) <| ac_on ((!b14) && a0.Keep) (pt ((!b14) && a0.Keep)) <| ac_on (!b14) (pt (!b14)) <| ac_on (!b14) (fun h => ptg a0.Keep h) <| ac_y (pn b14) <| ac_nil
    have q1 := ac_on (!(!r7)) (pt (!(!r7))) <| ac_on (!(!r7)) (pt (!(!r7))) <| ac_y (pn (!r7)) <| ac_on (!b9) (pt (!b9)) <| ac_on (!b9) (fun h => g20_ref22_Ops_ok K r6 r10 (cd_t h hc10)) <| ac_on (!b9) (pt (!b9)) <| ac_on (!b9) (fun h => g20_ref22_Ops_ok K a0 r11 (cd_t h hc11)) <| ac_on (!b9) (pt (!b9)) <| ac_on (!b9) (pt (!b9)) <| ac_y (pn b9) <| ac_on (!b12) (pt (!b12)) <| ac_on (!b12) (pt (!b12)) <| q0
    refine StopP.advd tbOk [(3, [(1, .call [] [] (.v true [cs r6.Name, cb r6.Keep, cb r6.Leaf, .t (.ro 12 cBlock zBlock r6.Blocks)]))]), (4, [(1, .call [] [] (v1 (cb r7))), (14, .call [] [] (v1 (ci r10))), (16, .call [] [] (v1 (ci r11))), (32, .call [] [] (v1 (cb r15)))])] 100000 1000 (by kernel_rfl) (by kernel_rfl) (ac_y (g17_dead_Graph_ok K a0 r6 hc6) <| ac_y (g19_ref16_Right_ok K r6 (1000 : Int) (1000 : Int) r7 hc7) <| ac_on (!(!r7)) (pt (!(!r7))) <| ac_on (!(!r7)) (pt (!(!r7))) <| ac_on (!(!r7)) (pt (!(!r7))) <| ac_on (!(!r7)) (pt (!(!r7))) <| q1) ?_
    refine StopP.cond (b := b17) (by kernel_rfl) (fun hb18 => ?_) (fun hb18 => ?_)
    · have h := cd_t hb18 h
      refine StopP.advd tbOk [] 100000 1000 (by kernel_rfl) (by kernel_rfl) (ac_nil) ?_
      have h := sm h; subst h
      refine StopP.out .ret (by kernel_rfl) ?_
      exact ret_box (.inr rfl) [.keep [2] []] (by kernel_rfl) (by kernel_rfl) [] (by kernel_rfl)
    · have h := cd_f hb18 h
      obtain ⟨r19, hc19, h⟩ := bd_some h
      obtain ⟨r20, hc20, h⟩ := bd_some h
      let b21 : Bool := (bif a0.Keep then true else r20)
      refine StopP.advd tbOk [(6, [(4, .call [] [] (.v true [cs r19.Name, cb r19.Keep, cb r19.Leaf, .t (.ro 12 cBlock zBlock r19.Blocks)])), (6, .call [] [] (v1 (cb r20)))])] 100000 1000 (by kernel_rfl) (by kernel_rfl) (ac_on (!a0.Keep) (pt (!a0.Keep)) <| ac_on (!a0.Keep) (fun h => g13_dead_Trim_fz K r6 r19 (cd_t h hc19)) <| ac_on (!a0.Keep) (pt (!a0.Keep)) <| ac_on (!a0.Keep) (pt (!a0.Keep)) <| ac_on (!a0.Keep) (fun h => g10_ref16_Same_ok K r19 r6 r20 (cd_t h hc20)) <| ac_y (pn a0.Keep) <| ac_nil) ?_
      have h := sm h; subst h
      refine StopP.out .ret (by kernel_rfl) ?_
      exact ret_box (.inr rfl) [.keep [2] []] (by kernel_rfl) (by kernel_rfl) [] (by kernel_rfl)

def g5_law22_DeadSteps.l0 (K : Nat) (a1 : Int) (a2 : Int) (r6 : Graph) (r7 : Graph) : Nat → (List Block) → Int → Option ((List Block))
  | 0, _, _ => none
  | k + 1, x18, x19 =>
    gd ((8 : Int) ≠ 0) <|
    let b30 : Bool := (decide (x19 < (IntKind.i64.wrap (Int.tmod a2 (8 : Int)))))
    bif b30 then
      let y32 : List Op' := ([(⟨(⟨(24 : Int), (0 : Int), (0 : Int), (0 : Int), (0 : Int)⟩ : Ins), false, (0 : Int), (0 : Int), (0 : Int)⟩ : Op'), (⟨(⟨(8 : Int), (0 : Int), (IntKind.i64.wrap ((1 : Int) + x19)), (0 : Int), x19⟩ : Ins), false, (0 : Int), (0 : Int), (0 : Int)⟩ : Op')] : List Op')
      gd (0 ≤ (Int.tmod (IntKind.i64.wrap a1) (r7.Blocks.length : Int)) ∧ (Int.tmod (IntKind.i64.wrap a1) (r7.Blocks.length : Int)) < (x18.length : Int)) <|
      gd (y32.length + ((x18.getD (Int.tmod (IntKind.i64.wrap a1) (r7.Blocks.length : Int)).toNat zBlock).Ops).length ≤ 1073741824) <|
      let y35 : List Op' := (y32 ++ (x18.getD (Int.tmod (IntKind.i64.wrap a1) (r7.Blocks.length : Int)).toNat zBlock).Ops)
      gd (0 ≤ (Int.tmod (IntKind.i64.wrap a1) (r7.Blocks.length : Int)) ∧ (Int.tmod (IntKind.i64.wrap a1) (r7.Blocks.length : Int)) < (x18.length : Int)) <|
      let y37 : List Block := (x18.set (Int.tmod (IntKind.i64.wrap a1) (r7.Blocks.length : Int)).toNat (⟨y35, (x18.getD (Int.tmod (IntKind.i64.wrap a1) (r7.Blocks.length : Int)).toNat zBlock).End⟩ : Block))
      g5_law22_DeadSteps.l0 K a1 a2 r6 r7 k y37 (IntKind.i64.wrap (x19 + (1 : Int)))
    else
      some x18

def g5_law22_DeadSteps.h0 (a1 : Int) (a2 : Int) (r6 : Graph) (r7 : Graph) (x18 : (List Block)) (x19 : Int) : Abs.St := ⟨[(2, .yes, v1 (cu .u8 a2)), (7, .yes, v1 (.ptr 7 0 0)), (8, .yes, v1 (.ptr 8 0 0)), (9, .yes, v1 (ci (Int.tmod (IntKind.i64.wrap a1) (r7.Blocks.length : Int)))), (10, .yes, v1 (ci x19))], [(7, .box 24 [cs r6.Name, cb r6.Keep, cb r6.Leaf, .t (.ro 12 cBlock zBlock r6.Blocks)]), (8, .box 24 [cs r7.Name, cb r7.Keep, cb r7.Leaf, .own 20220]), (20220, .rows 39 12 cBlock zBlock x18)], 60⟩

def g5_law22_DeadSteps.j0_0 (a1 : Int) (a2 : Int) (r6 : Graph) (r7 : Graph) (o : (List Block)) : Abs.St := ⟨[(7, .yes, v1 (.ptr 7 0 0)), (8, .yes, v1 (.ptr 8 0 0))], [(7, .box 24 [cs r6.Name, cb r6.Keep, cb r6.Leaf, .t (.ro 12 cBlock zBlock r6.Blocks)]), (8, .box 24 [cs r7.Name, cb r7.Keep, cb r7.Leaf, .own 20220]), (20220, .rows 39 12 cBlock zBlock o)], 60⟩

theorem g5_law22_DeadSteps.l0_ok {W : World} {A Kf : Nat → Prop} (K : Nat) (a1 : Int) (a2 : Int) (r6 : Graph) (r7 : Graph) : ∀ (k : Nat) (x18 : (List Block)) (x19 : Int) (o : (List Block)), g5_law22_DeadSteps.l0 K a1 a2 r6 r7 k x18 x19 = some o → WPR Try.prog W A Kf (kid [true, true, true, true, true, false, true, false, false] (bodyAt Try.f5)) (Out (.exit 0) (g5_law22_DeadSteps.j0_0 a1 a2 r6 r7 o)) k (g5_law22_DeadSteps.h0 a1 a2 r6 r7 x18 x19)
  | 0, x18, x19, o, h => by cases h
  | k + 1, x18, x19, o, h => by
    refine WPR.round ?_
    obtain ⟨hg29, h⟩ := gd_some h
    let b30 : Bool := (decide (x19 < (IntKind.i64.wrap (Int.tmod a2 (8 : Int)))))
    refine StopP.advd tbOk [] 100000 1000 (by kernel_rfl) (by kernel_rfl) (ac_y hg29 <| ac_nil) ?_
    refine StopP.cond (b := b30) (by kernel_rfl) (fun hb31 => ?_) (fun hb31 => ?_)
    · have h := cd_t hb31 h
      let y32 : List Op' := ([(⟨(⟨(24 : Int), (0 : Int), (0 : Int), (0 : Int), (0 : Int)⟩ : Ins), false, (0 : Int), (0 : Int), (0 : Int)⟩ : Op'), (⟨(⟨(8 : Int), (0 : Int), (IntKind.i64.wrap ((1 : Int) + x19)), (0 : Int), x19⟩ : Ins), false, (0 : Int), (0 : Int), (0 : Int)⟩ : Op')] : List Op')
      obtain ⟨hg33, h⟩ := gd_some h
      obtain ⟨hg34, h⟩ := gd_some h
      let y35 : List Op' := (y32 ++ (x18.getD (Int.tmod (IntKind.i64.wrap a1) (r7.Blocks.length : Int)).toNat zBlock).Ops)
      obtain ⟨hg36, h⟩ := gd_some h
      let y37 : List Block := (x18.set (Int.tmod (IntKind.i64.wrap a1) (r7.Blocks.length : Int)).toNat (⟨y35, (x18.getD (Int.tmod (IntKind.i64.wrap a1) (r7.Blocks.length : Int)).toNat zBlock).End⟩ : Block))
      refine StopP.advd tbOk [(9, [(10, .obj (.rows 35 9 cOp zOp ([(⟨(⟨(24 : Int), (0 : Int), (0 : Int), (0 : Int), (0 : Int)⟩ : Ins), false, (0 : Int), (0 : Int), (0 : Int)⟩ : Op'), (⟨(⟨(8 : Int), (0 : Int), (IntKind.i64.wrap ((1 : Int) + x19)), (0 : Int), x19⟩ : Ins), false, (0 : Int), (0 : Int), (0 : Int)⟩ : Op')] : List Op'))), (17, .fz (.rows 35 9 cOp zOp (y32 ++ (x18.getD (Int.tmod (IntKind.i64.wrap a1) (r7.Blocks.length : Int)).toNat zBlock).Ops))), (20, .obj (.rows 39 12 cBlock zBlock (x18.set (Int.tmod (IntKind.i64.wrap a1) (r7.Blocks.length : Int)).toNat (⟨y35, (x18.getD (Int.tmod (IntKind.i64.wrap a1) (r7.Blocks.length : Int)).toNat zBlock).End⟩ : Block))))])] 100000 1000 (by kernel_rfl) (by kernel_rfl) (ac_c (Built.mk (ty := 35) (es := 9) (enc := cOp) (z := zOp) (xs := ([(⟨(⟨(24 : Int), (0 : Int), (0 : Int), (0 : Int), (0 : Int)⟩ : Ins), false, (0 : Int), (0 : Int), (0 : Int)⟩ : Op'), (⟨(⟨(8 : Int), (0 : Int), (IntKind.i64.wrap ((1 : Int) + x19)), (0 : Int), x19⟩ : Ins), false, (0 : Int), (0 : Int), (0 : Int)⟩ : Op')] : List Op')) (fun _ _ => rfl) (by decide : (2 * 9 : Nat) ≤ 16777216)) <| ac_y hg33 <| ac_y (tn hg33) <| ac_c (Appended.mk (ty := 35) (es := 9) (by_ := 72) (enc := cOp) (z := zOp) (z' := zOp) (xs := y32) (ys := (x18.getD (Int.tmod (IntKind.i64.wrap a1) (r7.Blocks.length : Int)).toNat zBlock).Ops) (fun _ _ => rfl) (sl hg34) (sb hg34 (by decide))) <| ac_y hg36 <| ac_c (Stored.mk (ty := 39) (es := 12) (enc := cBlock) (z := zBlock) (xs := x18) (i := (Int.tmod (IntKind.i64.wrap a1) (r7.Blocks.length : Int)).toNat) (j := 0) (n := 1) (⟨y35, (x18.getD (Int.tmod (IntKind.i64.wrap a1) (r7.Blocks.length : Int)).toNat zBlock).End⟩ : Block) (tn hg36) (by decide) rfl rfl rfl) <| ac_nil) ?_
      refine StopP.out .normal (by kernel_rfl) ?_
      exact WPR.chg [.keep [2, 7, 8, 9, 10] [7, 8, 20220]] (by kernel_rfl) (g5_law22_DeadSteps.l0_ok K a1 a2 r6 r7 k y37 (IntKind.i64.wrap (x19 + (1 : Int))) o h)
    · have h := cd_f hb31 h
      refine StopP.advd tbOk [] 100000 1000 (by kernel_rfl) (by kernel_rfl) (ac_nil) ?_
      have h := sm h; subst h
      exact StopP.out (.exit 0) (by kernel_rfl) ⟨rfl, [.keep [7, 8] [7, 8, 20220]], by kernel_rfl⟩

def g5_law22_DeadSteps (K : Nat) (a0 : Graph) (a1 : Int) (a2 : Int) : Option (Bool) :=
  (g8_law22_awake K ).bind fun r1 =>
  (bif (!(!r1)) then g9_law22_fine K a0 else some false).bind fun r2 =>
  let b3 : Bool := (bif (!r1) then true else (!r2))
  bif b3 then
    (g8_law22_awake K ).bind fun r5 =>
    some r5
  else
    (g15_dead_Sweep K a0).bind fun r6 =>
    (g21_ref16_Copy K r6).bind fun r7 =>
    gd ((r7.Blocks.length : Int) ≠ 0) <|
    (g5_law22_DeadSteps.l0 K a1 a2 r6 r7 K r7.Blocks (0 : Int)).bind fun o38 =>
    (g15_dead_Sweep K (⟨r7.Name, r7.Keep, r7.Leaf, o38⟩ : Graph)).bind fun r39 =>
    (g10_ref16_Same K r39 r6).bind fun r40 =>
    some r40

theorem g5_law22_DeadSteps_ok (K : Nat) (a0 : Graph) (a1 : Int) (a2 : Int) (r : Bool) (h : g5_law22_DeadSteps K a0 a1 a2 = some r) : AC Try.prog 5 [] [.v true [cs a0.Name, cb a0.Keep, cb a0.Leaf, .t (.ro 12 cBlock zBlock a0.Blocks)], v1 (cu .u8 a1), v1 (cu .u8 a2)] [] (v1 (cb r)) := by
  refine AC.intro (fn := Try.f5) tbOk (by kernel_rfl) rfl (by kernel_rfl) (fun W A Kf => ?_)
  obtain ⟨r1, hc1, h⟩ := bd_some h
  obtain ⟨r2, hc2, h⟩ := bd_some h
  let b3 : Bool := (bif (!r1) then true else (!r2))
  refine StopP.advd tbOk [(1, [(0, .call [] [] (v1 (cb r1))), (4, .call [] [] (v1 (cb r2)))])] 100000 1000 (by kernel_rfl) (by kernel_rfl) (ac_y (g8_law22_awake_ok K  r1 hc1) <| ac_on (!(!r1)) (pt (!(!r1))) <| ac_on (!(!r1)) (fun h => g9_law22_fine_ok K a0 r2 (cd_t h hc2)) <| ac_on (!(!r1)) (pt (!(!r1))) <| ac_y (pn (!r1)) <| ac_nil) ?_
  refine StopP.cond (b := b3) (by kernel_rfl) (fun hb4 => ?_) (fun hb4 => ?_)
  · have h := cd_t hb4 h
    obtain ⟨r5, hc5, h⟩ := bd_some h
    refine StopP.advd tbOk [(2, [(0, .call [] [] (v1 (cb r5)))])] 100000 1000 (by kernel_rfl) (by kernel_rfl) (ac_y (g8_law22_awake_ok K  r5 hc5) <| ac_nil) ?_
    have h := sm h; subst h
    refine StopP.out .ret (by kernel_rfl) ?_
    exact ret_box (.inr rfl) [.keep [6] []] (by kernel_rfl) (by kernel_rfl) [] (by kernel_rfl)
  · have h := cd_f hb4 h
    obtain ⟨r6, hc6, h⟩ := bd_some h
    refine StopP.advd tbOk [(3, [(1, .call [(7000, 20200)] [(7000, .rows 39 12 cBlock zBlock r6.Blocks)] (.v true [cs r6.Name, cb r6.Keep, cb r6.Leaf, .own 7000]))])] 4 1000 (by kernel_rfl) (by kernel_rfl) (ac_y (g15_dead_Sweep_ok K a0 r6 hc6) <| ac_nil) ?_
    refine StopP.chgS [.fz 20200] (by kernel_rfl) (by kernel_rfl) ?_
    refine StopP.reb [.keep [1, 2, 7] [7]] (st' := .at (kid [true, true, true, false] (bodyAt Try.f5)) [.code (kid [true, true, true, true] (bodyAt Try.f5))] ⟨[(1, .yes, v1 (cu .u8 a1)), (2, .yes, v1 (cu .u8 a2)), (7, .yes, v1 (.ptr 7 0 0))], [(7, .box 24 [cs r6.Name, cb r6.Keep, cb r6.Leaf, .t (.ro 12 cBlock zBlock r6.Blocks)])], 60⟩) (by kernel_rfl) (by kernel_rfl) (by kernel_rfl) (by kernel_rfl) rfl ?_
    obtain ⟨r7, hc7, h⟩ := bd_some h
    obtain ⟨hg8, h⟩ := gd_some h
    refine StopP.advd tbOk [(4, [(1, .call [(7000, 20220)] [(7000, .rows 39 12 cBlock zBlock r7.Blocks)] (.v true [cs r7.Name, cb r7.Keep, cb r7.Leaf, .own 7000]))])] 100000 1000 (by kernel_rfl) (by kernel_rfl) (ac_y (g21_ref16_Copy_ok K r6 r7 hc7) <| ac_y hg8 <| ac_nil) ?_
    obtain ⟨o38, ho38, h⟩ := bd_some h
    refine StopP.lp (by kernel_rfl) [.keep [2, 7, 8, 9, 10] [7, 8, 20220]] (s := g5_law22_DeadSteps.h0 a1 a2 r6 r7 r7.Blocks (0 : Int)) (by kernel_rfl) (c := (kid [true, true, true, true, true, false, true, false, false] (bodyAt Try.f5))) (by kernel_rfl) (e := (.exit 0)) (J := g5_law22_DeadSteps.j0_0 a1 a2 r6 r7 o38) K (g5_law22_DeadSteps.l0_ok K a1 a2 r6 r7 K r7.Blocks (0 : Int) o38 ho38) ?_
    refine StopP.advd tbOk [] 10 1000 (by kernel_rfl) (by kernel_rfl) (ac_nil) ?_
    refine StopP.chgS [.fz 20220] (by kernel_rfl) (by kernel_rfl) ?_
    obtain ⟨r39, hc39, h⟩ := bd_some h
    obtain ⟨r40, hc40, h⟩ := bd_some h
    refine StopP.advd tbOk [(10, [(1, .call [(7000, 20570)] [(7000, .rows 39 12 cBlock zBlock r39.Blocks)] (.v true [cs r39.Name, cb r39.Keep, cb r39.Leaf, .own 7000])), (3, .call [] [] (v1 (cb r40)))])] 100000 1000 (by kernel_rfl) (by kernel_rfl) (ac_y (g15_dead_Sweep_ok K (⟨r7.Name, r7.Keep, r7.Leaf, o38⟩ : Graph) r39 hc39) <| ac_y (g10_ref16_Same_ok K r39 r6 r40 hc40) <| ac_c (show Plain [] (v1 (cb r40)) from ⟨rfl, fun _ h => by cases h⟩) <| ac_nil) ?_
    have h := sm h; subst h
    refine StopP.out .ret (by kernel_rfl) ?_
    exact ret_box (.inr rfl) [.keep [6] []] (by kernel_rfl) (by kernel_rfl) [] (by kernel_rfl)

def g7_law22_DeadThreads.l1 (K : Nat) (a0 : Graph) (r6 : Graph) (x60 : Int) : Nat → Int → Int → Option ((Unit) ⊕ (Unit))
  | 0, _, _ => none
  | k + 1, x134, x135 =>
    let b146 : Bool := (decide (x135 < (a0.Blocks.length : Int)))
    bif b146 then
      gd (0 ≤ x134 ∧ x134 < (a0.Blocks.length : Int)) <|
      gd (0 ≤ (a0.Blocks.getD x134.toNat zBlock).End.To ∧ (a0.Blocks.getD x134.toNat zBlock).End.To < (a0.Blocks.length : Int)) <|
      let i150 : Int := (((a0.Blocks.getD ((a0.Blocks.getD x134.toNat zBlock).End.To).toNat zBlock).Ops).length : Int)
      let b151 : Bool := (decide (i150 > (0 : Int)))
      gd ((!b151) = true → 0 ≤ (a0.Blocks.getD x134.toNat zBlock).End.To ∧ (a0.Blocks.getD x134.toNat zBlock).End.To < (a0.Blocks.length : Int)) <|
      let i153 : Int := (a0.Blocks.getD ((a0.Blocks.getD x134.toNat zBlock).End.To).toNat zBlock).End.Kind
      let b154 : Bool := (bif b151 then true else (i153 != (1 : Int)))
      bif b154 then
        some (.inl ())
      else
        g7_law22_DeadThreads.l1 K a0 r6 x60 k ((a0.Blocks.getD x134.toNat zBlock).End.To) (IntKind.i64.wrap (x135 + (1 : Int)))
    else
      some (.inr ())

def g7_law22_DeadThreads.h1 (a0 : Graph) (r6 : Graph) (x60 : Int) (x134 : Int) (x135 : Int) : Abs.St := ⟨[(1, .yes, v1 (.ptr 1 0 0)), (3, .yes, v1 (.ptr 3 0 0)), (4, .yes, v1 (ci x60)), (7, .yes, v1 (ci x134)), (8, .yes, v1 (ci x135))], [(1, .box 24 [cs a0.Name, cb a0.Keep, cb a0.Leaf, .t (.ro 12 cBlock zBlock a0.Blocks)]), (3, .box 24 [cs r6.Name, cb r6.Keep, cb r6.Leaf, .t (.ro 12 cBlock zBlock r6.Blocks)])], 109⟩

def g7_law22_DeadThreads.j1_0 (a0 : Graph) (r6 : Graph) (x60 : Int) (o : Unit) : Abs.St := ⟨[(2, .yes, v1 (cb false))], [], 109⟩

def g7_law22_DeadThreads.j1_1 (a0 : Graph) (r6 : Graph) (x60 : Int) (o : Unit) : Abs.St := ⟨[(1, .yes, v1 (.ptr 1 0 0)), (3, .yes, v1 (.ptr 3 0 0)), (4, .yes, v1 (ci x60))], [(1, .box 24 [cs a0.Name, cb a0.Keep, cb a0.Leaf, .t (.ro 12 cBlock zBlock a0.Blocks)]), (3, .box 24 [cs r6.Name, cb r6.Keep, cb r6.Leaf, .t (.ro 12 cBlock zBlock r6.Blocks)])], 109⟩

theorem g7_law22_DeadThreads.l1_ok {W : World} {A Kf : Nat → Prop} (K : Nat) (a0 : Graph) (r6 : Graph) (x60 : Int) : ∀ (k : Nat) (x134 : Int) (x135 : Int) (o : (Unit) ⊕ (Unit)), g7_law22_DeadThreads.l1 K a0 r6 x60 k x134 x135 = some o → WPR Try.prog W A Kf (kid [true, true, true, true, false, true, false, false, true, false, false, true, true, true, true, true, true, true, false, false] (bodyAt Try.f7)) (Out2 o .ret (g7_law22_DeadThreads.j1_0 a0 r6 x60) (.exit 2) (g7_law22_DeadThreads.j1_1 a0 r6 x60)) k (g7_law22_DeadThreads.h1 a0 r6 x60 x134 x135)
  | 0, x134, x135, o, h => by cases h
  | k + 1, x134, x135, o, h => by
    refine WPR.round ?_
    let b146 : Bool := (decide (x135 < (a0.Blocks.length : Int)))
    refine StopP.advd tbOk [] 100000 1000 (by kernel_rfl) (by kernel_rfl) (ac_nil) ?_
    refine StopP.cond (b := b146) (by kernel_rfl) (fun hb147 => ?_) (fun hb147 => ?_)
    · have h := cd_t hb147 h
      obtain ⟨hg148, h⟩ := gd_some h
      obtain ⟨hg149, h⟩ := gd_some h
      let i150 : Int := (((a0.Blocks.getD ((a0.Blocks.getD x134.toNat zBlock).End.To).toNat zBlock).Ops).length : Int)
      let b151 : Bool := (decide (i150 > (0 : Int)))
      obtain ⟨hg152, h⟩ := gd_some h
      let i153 : Int := (a0.Blocks.getD ((a0.Blocks.getD x134.toNat zBlock).End.To).toNat zBlock).End.Kind
      let b154 : Bool := (bif b151 then true else (i153 != (1 : Int)))
      refine StopP.advd tbOk [] 100000 1000 (by kernel_rfl) (by kernel_rfl) (ac_y hg148 <| ac_y hg149 <| ac_on (!b151) (pt (!b151)) <| ac_on (!b151) (pt (!b151)) <| ac_on (!b151) (pt (!b151)) <| ac_on (!b151) hg152 <| ac_on (!b151) (pt (!b151)) <| ac_on (!b151) (pt (!b151)) <| ac_on (!b151) (pt (!b151)) <| ac_on (!b151) (pt (!b151)) <| ac_y (pn b151) <| ac_nil) ?_
      refine StopP.cond (b := b154) (by kernel_rfl) (fun hb155 => ?_) (fun hb155 => ?_)
      · have h := cd_t hb155 h
        refine StopP.advd tbOk [] 100000 1000 (by kernel_rfl) (by kernel_rfl) (ac_nil) ?_
        have h := sm h; subst h
        exact StopP.out .ret (by kernel_rfl) ⟨rfl, [.keep [2] []], by kernel_rfl⟩
      · have h := cd_f hb155 h
        refine StopP.advd tbOk [] 100000 1000 (by kernel_rfl) (by kernel_rfl) (ac_nil) ?_
        refine StopP.out .normal (by kernel_rfl) ?_
        exact WPR.chg [.keep [1, 3, 4, 7, 8] [1, 3]] (by kernel_rfl) (g7_law22_DeadThreads.l1_ok K a0 r6 x60 k ((a0.Blocks.getD x134.toNat zBlock).End.To) (IntKind.i64.wrap (x135 + (1 : Int))) o h)
    · have h := cd_f hb147 h
      refine StopP.advd tbOk [] 100000 1000 (by kernel_rfl) (by kernel_rfl) (ac_nil) ?_
      have h := sm h; subst h
      exact StopP.out (.exit 2) (by kernel_rfl) ⟨rfl, [.keep [1, 3, 4] [1, 3]], by kernel_rfl⟩

def g7_law22_DeadThreads.l0 (K : Nat) (a0 : Graph) (r6 : Graph) : Nat → Int → Option ((Unit) ⊕ (Unit))
  | 0, _ => none
  | k + 1, x60 =>
    let b109 : Bool := (decide (x60 < (r6.Blocks.length : Int)))
    bif b109 then
      gd (0 ≤ x60 ∧ x60 < (r6.Blocks.length : Int)) <|
      let b112 : Bool := ((r6.Blocks.getD x60.toNat zBlock).End.Kind == (2 : Int))
      let b113 : Bool := ((r6.Blocks.getD x60.toNat zBlock).End.To == (r6.Blocks.getD x60.toNat zBlock).End.Else)
      let b114 : Bool := (bif b112 then b113 else false)
      bif b114 then
        some (.inl ())
      else
        let b116 : Bool := ((r6.Blocks.getD x60.toNat zBlock).End.Kind != (1 : Int))
        bif b116 then
          g7_law22_DeadThreads.l0 K a0 r6 k (IntKind.i64.wrap (x60 + (1 : Int)))
        else
          gd (0 ≤ (r6.Blocks.getD x60.toNat zBlock).End.To ∧ (r6.Blocks.getD x60.toNat zBlock).End.To < (a0.Blocks.length : Int)) <|
          let i119 : Int := (((a0.Blocks.getD ((r6.Blocks.getD x60.toNat zBlock).End.To).toNat zBlock).Ops).length : Int)
          let b120 : Bool := (decide (i119 > (0 : Int)))
          let i121 : Int := (a0.Blocks.getD ((r6.Blocks.getD x60.toNat zBlock).End.To).toNat zBlock).End.Kind
          let b122 : Bool := (bif b120 then true else (i121 != (1 : Int)))
          bif b122 then
            g7_law22_DeadThreads.l0 K a0 r6 k (IntKind.i64.wrap (x60 + (1 : Int)))
          else
            (g7_law22_DeadThreads.l1 K a0 r6 x60 K ((r6.Blocks.getD x60.toNat zBlock).End.To) (0 : Int)).bind fun o156 =>
            match o156 with
            | .inl o156 =>
              some (.inl ())
            | .inr o156 =>
              g7_law22_DeadThreads.l0 K a0 r6 k (IntKind.i64.wrap (x60 + (1 : Int)))
    else
      some (.inr ())

def g7_law22_DeadThreads.h0 (a0 : Graph) (r6 : Graph) (x60 : Int) : Abs.St := ⟨[(1, .yes, v1 (.ptr 1 0 0)), (3, .yes, v1 (.ptr 3 0 0)), (4, .yes, v1 (ci x60))], [(1, .box 24 [cs a0.Name, cb a0.Keep, cb a0.Leaf, .t (.ro 12 cBlock zBlock a0.Blocks)]), (3, .box 24 [cs r6.Name, cb r6.Keep, cb r6.Leaf, .t (.ro 12 cBlock zBlock r6.Blocks)])], 109⟩

def g7_law22_DeadThreads.j0_0 (a0 : Graph) (r6 : Graph) (o : Unit) : Abs.St := ⟨[(2, .yes, v1 (cb false))], [], 109⟩

def g7_law22_DeadThreads.j0_1 (a0 : Graph) (r6 : Graph) (o : Unit) : Abs.St := ⟨[], [], 109⟩

theorem g7_law22_DeadThreads.l0_ok {W : World} {A Kf : Nat → Prop} (K : Nat) (a0 : Graph) (r6 : Graph) : ∀ (k : Nat) (x60 : Int) (o : (Unit) ⊕ (Unit)), g7_law22_DeadThreads.l0 K a0 r6 k x60 = some o → WPR Try.prog W A Kf (kid [true, true, true, true, false, true, false, false] (bodyAt Try.f7)) (Out2 o .ret (g7_law22_DeadThreads.j0_0 a0 r6) (.exit 0) (g7_law22_DeadThreads.j0_1 a0 r6)) k (g7_law22_DeadThreads.h0 a0 r6 x60)
  | 0, x60, o, h => by cases h
  | k + 1, x60, o, h => by
    refine WPR.round ?_
    let b109 : Bool := (decide (x60 < (r6.Blocks.length : Int)))
    refine StopP.advd tbOk [] 100000 1000 (by kernel_rfl) (by kernel_rfl) (ac_nil) ?_
    refine StopP.cond (b := b109) (by kernel_rfl) (fun hb110 => ?_) (fun hb110 => ?_)
    · have h := cd_t hb110 h
      obtain ⟨hg111, h⟩ := gd_some h
      let b112 : Bool := ((r6.Blocks.getD x60.toNat zBlock).End.Kind == (2 : Int))
      let b113 : Bool := ((r6.Blocks.getD x60.toNat zBlock).End.To == (r6.Blocks.getD x60.toNat zBlock).End.Else)
      let b114 : Bool := (bif b112 then b113 else false)
      refine StopP.advd tbOk [] 100000 1000 (by kernel_rfl) (by kernel_rfl) (ac_y hg111 <| ac_on b112 (pt b112) <| ac_on b112 (pt b112) <| ac_on b112 (pt b112) <| ac_on b112 (pt b112) <| ac_y (pt b112) <| ac_nil) ?_
      refine StopP.cond (b := b114) (by kernel_rfl) (fun hb115 => ?_) (fun hb115 => ?_)
      · have h := cd_t hb115 h
        refine StopP.advd tbOk [] 100000 1000 (by kernel_rfl) (by kernel_rfl) (ac_nil) ?_
        have h := sm h; subst h
        exact StopP.out .ret (by kernel_rfl) ⟨rfl, [.keep [2] []], by kernel_rfl⟩
      · have h := cd_f hb115 h
        let b116 : Bool := ((r6.Blocks.getD x60.toNat zBlock).End.Kind != (1 : Int))
        refine StopP.advd tbOk [] 100000 1000 (by kernel_rfl) (by kernel_rfl) (ac_nil) ?_
        refine StopP.cond (b := b116) (by kernel_rfl) (fun hb117 => ?_) (fun hb117 => ?_)
        · have h := cd_t hb117 h
          refine StopP.advd tbOk [] 100000 1000 (by kernel_rfl) (by kernel_rfl) (ac_nil) ?_
          refine StopP.out .normal (by kernel_rfl) ?_
          exact WPR.chg [.keep [1, 3, 4] [1, 3]] (by kernel_rfl) (g7_law22_DeadThreads.l0_ok K a0 r6 k (IntKind.i64.wrap (x60 + (1 : Int))) o h)
        · have h := cd_f hb117 h
          obtain ⟨hg118, h⟩ := gd_some h
          let i119 : Int := (((a0.Blocks.getD ((r6.Blocks.getD x60.toNat zBlock).End.To).toNat zBlock).Ops).length : Int)
          let b120 : Bool := (decide (i119 > (0 : Int)))
          let i121 : Int := (a0.Blocks.getD ((r6.Blocks.getD x60.toNat zBlock).End.To).toNat zBlock).End.Kind
          let b122 : Bool := (bif b120 then true else (i121 != (1 : Int)))
          refine StopP.advd tbOk [] 100000 1000 (by kernel_rfl) (by kernel_rfl) (ac_y hg118 <| ac_on (!b120) (pt (!b120)) <| ac_on (!b120) (pt (!b120)) <| ac_on (!b120) (pt (!b120)) <| ac_y (pn b120) <| ac_nil) ?_
          refine StopP.cond (b := b122) (by kernel_rfl) (fun hb123 => ?_) (fun hb123 => ?_)
          · have h := cd_t hb123 h
            refine StopP.reb [.keep [1, 3, 4] [1, 3]] (st' := .at (kid [true, true, true, true, false, true, false, false, true, false, false, true, true, true, true, false, true, false] (bodyAt Try.f7)) [.code (kid [true, true, true, true, false, true, false, false, true, false, false, true, true, true, true, true] (bodyAt Try.f7)), .blk 1, .code (kid [true, true, true, true, false, true, false, false, true, true] (bodyAt Try.f7))] ⟨[(1, .yes, v1 (.ptr 1 0 0)), (3, .yes, v1 (.ptr 3 0 0)), (4, .yes, v1 (ci x60))], [(1, .box 24 [cs a0.Name, cb a0.Keep, cb a0.Leaf, .t (.ro 12 cBlock zBlock a0.Blocks)]), (3, .box 24 [cs r6.Name, cb r6.Keep, cb r6.Leaf, .t (.ro 12 cBlock zBlock r6.Blocks)])], 109⟩) (by kernel_rfl) (by kernel_rfl) (by kernel_rfl) (by kernel_rfl) rfl ?_
            refine StopP.advd tbOk [] 100000 1000 (by kernel_rfl) (by kernel_rfl) (ac_nil) ?_
            refine StopP.out .normal (by kernel_rfl) ?_
            exact WPR.chg [.keep [1, 3, 4] [1, 3]] (by kernel_rfl) (g7_law22_DeadThreads.l0_ok K a0 r6 k (IntKind.i64.wrap (x60 + (1 : Int))) o h)
          · have h := cd_f hb123 h
            refine StopP.advd tbOk [] 100000 1000 (by kernel_rfl) (by kernel_rfl) (ac_nil) ?_
            obtain ⟨o156, ho156, h⟩ := bd_some h
            cases o156 with
            | inl o156 =>
              refine StopP.lp (by kernel_rfl) [.keep [1, 3, 4, 7, 8] [1, 3]] (s := g7_law22_DeadThreads.h1 a0 r6 x60 ((r6.Blocks.getD x60.toNat zBlock).End.To) (0 : Int)) (by kernel_rfl) (c := (kid [true, true, true, true, false, true, false, false, true, false, false, true, true, true, true, true, true, true, false, false] (bodyAt Try.f7))) (by kernel_rfl) (e := .ret) (J := g7_law22_DeadThreads.j1_0 a0 r6 x60 o156) K (g7_law22_DeadThreads.l1_ok K a0 r6 x60 K ((r6.Blocks.getD x60.toNat zBlock).End.To) (0 : Int) (.inl o156) ho156) ?_
              have h := sm h; subst h
              exact StopP.out .ret (by kernel_rfl) ⟨rfl, [.keep [2] []], by kernel_rfl⟩
            | inr o156 =>
              refine StopP.lp (by kernel_rfl) [.keep [1, 3, 4, 7, 8] [1, 3]] (s := g7_law22_DeadThreads.h1 a0 r6 x60 ((r6.Blocks.getD x60.toNat zBlock).End.To) (0 : Int)) (by kernel_rfl) (c := (kid [true, true, true, true, false, true, false, false, true, false, false, true, true, true, true, true, true, true, false, false] (bodyAt Try.f7))) (by kernel_rfl) (e := (.exit 2)) (J := g7_law22_DeadThreads.j1_1 a0 r6 x60 o156) K (g7_law22_DeadThreads.l1_ok K a0 r6 x60 K ((r6.Blocks.getD x60.toNat zBlock).End.To) (0 : Int) (.inr o156) ho156) ?_
              refine StopP.advd tbOk [] 100000 1000 (by kernel_rfl) (by kernel_rfl) (ac_nil) ?_
              refine StopP.out .normal (by kernel_rfl) ?_
              exact WPR.chg [.keep [1, 3, 4] [1, 3]] (by kernel_rfl) (g7_law22_DeadThreads.l0_ok K a0 r6 k (IntKind.i64.wrap (x60 + (1 : Int))) o h)
    · have h := cd_f hb110 h
      refine StopP.advd tbOk [] 100000 1000 (by kernel_rfl) (by kernel_rfl) (ac_nil) ?_
      have h := sm h; subst h
      exact StopP.out (.exit 0) (by kernel_rfl) ⟨rfl, [.keep [] []], by kernel_rfl⟩

def g7_law22_DeadThreads (K : Nat) (a0 : Graph) : Option (Bool) :=
  (g8_law22_awake K ).bind fun r1 =>
  (bif (!(!r1)) then g9_law22_fine K a0 else some false).bind fun r2 =>
  let b3 : Bool := (bif (!r1) then true else (!r2))
  bif b3 then
    (g8_law22_awake K ).bind fun r5 =>
    some r5
  else
    (g11_dead_Thread K a0).bind fun r6 =>
    let b7 : Bool := ((r6.Blocks.length : Int) != (a0.Blocks.length : Int))
    (bif (!b7) then g20_ref22_Ops K r6 else some 0).bind fun r8 =>
    (bif (!b7) then g20_ref22_Ops K a0 else some 0).bind fun r9 =>
    let b10 : Bool := (bif b7 then true else (r8 != r9))
    bif b10 then
      some false
    else
      (g7_law22_DeadThreads.l0 K a0 r6 K (0 : Int)).bind fun o157 =>
      match o157 with
      | .inl o157 =>
        some false
      | .inr o157 =>
        some true

theorem g7_law22_DeadThreads_ok (K : Nat) (a0 : Graph) (r : Bool) (h : g7_law22_DeadThreads K a0 = some r) : AC Try.prog 7 [] [.v true [cs a0.Name, cb a0.Keep, cb a0.Leaf, .t (.ro 12 cBlock zBlock a0.Blocks)]] [] (v1 (cb r)) := by
  refine AC.intro (fn := Try.f7) tbOk (by kernel_rfl) rfl (by kernel_rfl) (fun W A Kf => ?_)
  refine StopP.reb [.keep [0] []] (st' := .at (kid [] (bodyAt Try.f7)) [] ⟨[(0, .yes, .v true [cs a0.Name, cb a0.Keep, cb a0.Leaf, .t (.ro 12 cBlock zBlock a0.Blocks)])], [], 109⟩) (by kernel_rfl) (by kernel_rfl) (by kernel_rfl) (by kernel_rfl) rfl ?_
  obtain ⟨r1, hc1, h⟩ := bd_some h
  obtain ⟨r2, hc2, h⟩ := bd_some h
  let b3 : Bool := (bif (!r1) then true else (!r2))
  refine StopP.advd tbOk [(1, [(0, .call [] [] (v1 (cb r1))), (4, .call [] [] (v1 (cb r2)))])] 100000 1000 (by kernel_rfl) (by kernel_rfl) (ac_y (g8_law22_awake_ok K  r1 hc1) <| ac_on (!(!r1)) (pt (!(!r1))) <| ac_on (!(!r1)) (fun h => g9_law22_fine_ok K a0 r2 (cd_t h hc2)) <| ac_on (!(!r1)) (pt (!(!r1))) <| ac_y (pn (!r1)) <| ac_nil) ?_
  refine StopP.cond (b := b3) (by kernel_rfl) (fun hb4 => ?_) (fun hb4 => ?_)
  · have h := cd_t hb4 h
    obtain ⟨r5, hc5, h⟩ := bd_some h
    refine StopP.advd tbOk [(2, [(0, .call [] [] (v1 (cb r5)))])] 100000 1000 (by kernel_rfl) (by kernel_rfl) (ac_y (g8_law22_awake_ok K  r5 hc5) <| ac_nil) ?_
    have h := sm h; subst h
    refine StopP.out .ret (by kernel_rfl) ?_
    exact ret_box (.inr rfl) [.keep [2] []] (by kernel_rfl) (by kernel_rfl) [] (by kernel_rfl)
  · have h := cd_f hb4 h
    obtain ⟨r6, hc6, h⟩ := bd_some h
    let b7 : Bool := ((r6.Blocks.length : Int) != (a0.Blocks.length : Int))
    obtain ⟨r8, hc8, h⟩ := bd_some h
    obtain ⟨r9, hc9, h⟩ := bd_some h
    let b10 : Bool := (bif b7 then true else (r8 != r9))
    refine StopP.advd tbOk [(3, [(1, .call [] [] (.v true [cs r6.Name, cb r6.Keep, cb r6.Leaf, .t (.ro 12 cBlock zBlock r6.Blocks)]))]), (4, [(9, .call [] [] (v1 (ci r8))), (11, .call [] [] (v1 (ci r9)))])] 100000 1000 (by kernel_rfl) (by kernel_rfl) (ac_y (g11_dead_Thread_fz K a0 r6 hc6) <| ac_on (!b7) (pt (!b7)) <| ac_on (!b7) (fun h => g20_ref22_Ops_ok K r6 r8 (cd_t h hc8)) <| ac_on (!b7) (pt (!b7)) <| ac_on (!b7) (fun h => g20_ref22_Ops_ok K a0 r9 (cd_t h hc9)) <| ac_on (!b7) (pt (!b7)) <| ac_on (!b7) (pt (!b7)) <| ac_y (pn b7) <| ac_nil) ?_
    refine StopP.cond (b := b10) (by kernel_rfl) (fun hb11 => ?_) (fun hb11 => ?_)
    · have h := cd_t hb11 h
      refine StopP.advd tbOk [] 100000 1000 (by kernel_rfl) (by kernel_rfl) (ac_nil) ?_
      have h := sm h; subst h
      refine StopP.out .ret (by kernel_rfl) ?_
      exact ret_box (.inr rfl) [.keep [2] []] (by kernel_rfl) (by kernel_rfl) [] (by kernel_rfl)
    · have h := cd_f hb11 h
      refine StopP.advd tbOk [] 100000 1000 (by kernel_rfl) (by kernel_rfl) (ac_nil) ?_
      obtain ⟨o157, ho157, h⟩ := bd_some h
      cases o157 with
      | inl o157 =>
        refine StopP.lp (by kernel_rfl) [.keep [1, 3, 4] [1, 3]] (s := g7_law22_DeadThreads.h0 a0 r6 (0 : Int)) (by kernel_rfl) (c := (kid [true, true, true, true, false, true, false, false] (bodyAt Try.f7))) (by kernel_rfl) (e := .ret) (J := g7_law22_DeadThreads.j0_0 a0 r6 o157) K (g7_law22_DeadThreads.l0_ok K a0 r6 K (0 : Int) (.inl o157) ho157) ?_
        have h := sm h; subst h
        refine StopP.out .ret (by kernel_rfl) ?_
        exact ret_box (.inr rfl) [.keep [2] []] (by kernel_rfl) (by kernel_rfl) [] (by kernel_rfl)
      | inr o157 =>
        refine StopP.lp (by kernel_rfl) [.keep [1, 3, 4] [1, 3]] (s := g7_law22_DeadThreads.h0 a0 r6 (0 : Int)) (by kernel_rfl) (c := (kid [true, true, true, true, false, true, false, false] (bodyAt Try.f7))) (by kernel_rfl) (e := (.exit 0)) (J := g7_law22_DeadThreads.j0_1 a0 r6 o157) K (g7_law22_DeadThreads.l0_ok K a0 r6 K (0 : Int) (.inr o157) ho157) ?_
        refine StopP.advd tbOk [] 100000 1000 (by kernel_rfl) (by kernel_rfl) (ac_nil) ?_
        have h := sm h; subst h
        refine StopP.out .ret (by kernel_rfl) ?_
        exact ret_box (.inr rfl) [.keep [2] []] (by kernel_rfl) (by kernel_rfl) [] (by kernel_rfl)

end Go.Proofs.Ytoooalfhjcfinaa.T
