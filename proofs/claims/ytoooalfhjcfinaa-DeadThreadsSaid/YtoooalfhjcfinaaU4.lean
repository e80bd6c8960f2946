import Derived.Test.YtoooalfhjcfinaaU3
namespace Go.Proofs.Ytoooalfhjcfinaa.T
open Go.Abs
set_option linter.unusedVariables false
set_option maxRecDepth 100000
set_option maxHeartbeats 2000000

def g26_dead_Trim_1 (g : Graph) : Nat → (List Bool) → (Int) → Option (List Bool)
  | 0, _, _ => none
  | K + 1, seen, a0 =>
    gd (0 ≤ a0 ∧ a0 < (seen.length : Int)) <|
    let b2 : Bool := (seen.getD a0.toNat false)
    bif b2 then
      some seen
    else
      gd (0 ≤ a0 ∧ a0 < (seen.length : Int)) <|
      gd (0 ≤ a0 ∧ a0 < (g.Blocks.length : Int)) <|
      let b6 : Bool := ((g.Blocks.getD a0.toNat zBlock).End.Kind == (2 : Int))
      bif b6 then
        (g26_dead_Trim_1 g K (seen.set a0.toNat true) ((g.Blocks.getD a0.toNat zBlock).End.Else)).bind fun r8 =>
        (g26_dead_Trim_1 g K r8 ((g.Blocks.getD a0.toNat zBlock).End.To)).bind fun r9 =>
        some r9
      else
        let b10 : Bool := ((g.Blocks.getD a0.toNat zBlock).End.Kind == (1 : Int))
        bif b10 then
          (g26_dead_Trim_1 g K (seen.set a0.toNat true) ((g.Blocks.getD a0.toNat zBlock).End.To)).bind fun r12 =>
          some r12
        else
          some (seen.set a0.toNat true)

theorem g26_dead_Trim_1_ok (g : Graph) : ∀ (K : Nat) (seen : List Bool) (a0 : Int) (r : List Bool), g26_dead_Trim_1 g K seen a0 = some r → AC2 Try.prog 26 [(3, .box 44 [.own 15]), (1, .box 24 [cs g.Name, cb g.Keep, cb g.Leaf, .t (.ro 12 cBlock zBlock g.Blocks)]), (4, .box 45 [.clo 26 [.ptr 3 0 0, .ptr 1 0 0, .ptr 4 0 0]]), (15, .rows 4 1 eB false seen)] [ci a0, .ptr 3 0 0, .ptr 1 0 0, .ptr 4 0 0] [(3, .box 44 [.own 15]), (1, .box 24 [cs g.Name, cb g.Keep, cb g.Leaf, .t (.ro 12 cBlock zBlock g.Blocks)]), (4, .box 45 [.clo 26 [.ptr 3 0 0, .ptr 1 0 0, .ptr 4 0 0]]), (15, .rows 4 1 eB false r)] (.tp [])
  | 0, seen, a0, r, h => by cases h
  | K + 1, seen, a0, r, h => by
    refine AC2.intro (fn := Try.f26) tbOk (by kernel_rfl) rfl (by kernel_rfl) 99999 (by kernel_rfl) (fun W A Kf vs => ?_)
    obtain ⟨hg1, h⟩ := gd_some h
    let b2 : Bool := (seen.getD a0.toNat false)
    refine StopP.advd tbOk [] 100000 1000 (by kernel_rfl) (by kernel_rfl) (ac_y hg1 <| ac_y (tn hg1) <| ac_nil) ?_
    refine StopP.cond (b := b2) (by kernel_rfl) (fun hb3 => ?_) (fun hb3 => ?_)
    · have h := cd_t hb3 h
      refine StopP.advd tbOk [] 100000 1000 (by kernel_rfl) (by kernel_rfl) (ac_nil) ?_
      have h := sm h; subst h
      refine StopP.out .ret (by kernel_rfl) ?_
      exact ret2_box (.inr rfl) [.keep [] [99999, 3, 1, 4, 15]] (by kernel_rfl) (by kernel_rfl) [3, 1, 4, 15] (by kernel_rfl) (by kernel_rfl)
    · have h := cd_f hb3 h
      obtain ⟨hg4, h⟩ := gd_some h
      obtain ⟨hg5, h⟩ := gd_some h
      let b6 : Bool := ((g.Blocks.getD a0.toNat zBlock).End.Kind == (2 : Int))
      refine StopP.advd tbOk [(1, [(3, .obj (.rows 4 1 eB false (seen.set a0.toNat true)))])] 100000 1000 (by kernel_rfl) (by kernel_rfl) (ac_y hg4 <| ac_c (Stored.mk (ty := 4) (es := 1) (enc := eB) (z := false) (xs := seen) (i := a0.toNat) (j := 0) (n := 1) true (tn hg4) (by decide) rfl rfl rfl) <| ac_y hg5 <| ac_nil) ?_
      refine StopP.cond (b := b6) (by kernel_rfl) (fun hb7 => ?_) (fun hb7 => ?_)
      · have h := cd_t hb7 h
        obtain ⟨r8, hc8, h⟩ := bd_some h
        obtain ⟨r9, hc9, h⟩ := bd_some h
        refine StopP.advd tbOk [(6, [(3, .callM [3, 1, 4, 15] [3, 1, 4] [(15, 20280)] [(3, .box 44 [.own 15]), (1, .box 24 [cs g.Name, cb g.Keep, cb g.Leaf, .t (.ro 12 cBlock zBlock g.Blocks)]), (4, .box 45 [.clo 26 [.ptr 3 0 0, .ptr 1 0 0, .ptr 4 0 0]]), (15, .rows 4 1 eB false r8)] (.tp []))]), (7, [(3, .callM [3, 1, 4, 20280] [3, 1, 4] [(20280, 20320)] [(3, .box 44 [.own 20280]), (1, .box 24 [cs g.Name, cb g.Keep, cb g.Leaf, .t (.ro 12 cBlock zBlock g.Blocks)]), (4, .box 45 [.clo 26 [.ptr 3 0 0, .ptr 1 0 0, .ptr 4 0 0]]), (20280, .rows 4 1 eB false r9)] (.tp []))])] 100000 1000 (by kernel_rfl) (by kernel_rfl) (ac_c (g26_dead_Trim_1_ok g K (seen.set a0.toNat true) ((g.Blocks.getD a0.toNat zBlock).End.Else) r8 hc8) <| ac_c ((AC2.cast (AC2.ren (g26_dead_Trim_1_ok g K r8 ((g.Blocks.getD a0.toNat zBlock).End.To) r9 hc9) (swapN_inj 15 20280)) (by kernel_rfl) (by kernel_rfl) (by kernel_rfl) (by kernel_rfl) : AC2 Try.prog 26 [(3, .box 44 [.own 20280]), (1, .box 24 [cs g.Name, cb g.Keep, cb g.Leaf, .t (.ro 12 cBlock zBlock g.Blocks)]), (4, .box 45 [.clo 26 [.ptr 3 0 0, .ptr 1 0 0, .ptr 4 0 0]]), (20280, .rows 4 1 eB false r8)] [ci ((g.Blocks.getD a0.toNat zBlock).End.To), .ptr 3 0 0, .ptr 1 0 0, .ptr 4 0 0] [(3, .box 44 [.own 20280]), (1, .box 24 [cs g.Name, cb g.Keep, cb g.Leaf, .t (.ro 12 cBlock zBlock g.Blocks)]), (4, .box 45 [.clo 26 [.ptr 3 0 0, .ptr 1 0 0, .ptr 4 0 0]]), (20280, .rows 4 1 eB false r9)] (.tp []))) <| ac_nil) ?_
        have h := sm h; subst h
        refine StopP.out .normal (by kernel_rfl) ?_
        exact ret2_box (.inl rfl) [.keep [] [99999, 3, 1, 4, 20320], .ren [(20320, 15)]] (by kernel_rfl) (by kernel_rfl) [3, 1, 4, 15] (by kernel_rfl) (by kernel_rfl)
      · have h := cd_f hb7 h
        let b10 : Bool := ((g.Blocks.getD a0.toNat zBlock).End.Kind == (1 : Int))
        refine StopP.advd tbOk [] 100000 1000 (by kernel_rfl) (by kernel_rfl) (ac_nil) ?_
        refine StopP.cond (b := b10) (by kernel_rfl) (fun hb11 => ?_) (fun hb11 => ?_)
        · have h := cd_t hb11 h
          obtain ⟨r12, hc12, h⟩ := bd_some h
          refine StopP.advd tbOk [(7, [(3, .callM [3, 1, 4, 15] [3, 1, 4] [(15, 20320)] [(3, .box 44 [.own 15]), (1, .box 24 [cs g.Name, cb g.Keep, cb g.Leaf, .t (.ro 12 cBlock zBlock g.Blocks)]), (4, .box 45 [.clo 26 [.ptr 3 0 0, .ptr 1 0 0, .ptr 4 0 0]]), (15, .rows 4 1 eB false r12)] (.tp []))])] 100000 1000 (by kernel_rfl) (by kernel_rfl) (ac_c (g26_dead_Trim_1_ok g K (seen.set a0.toNat true) ((g.Blocks.getD a0.toNat zBlock).End.To) r12 hc12) <| ac_nil) ?_
          have h := sm h; subst h
          refine StopP.out .normal (by kernel_rfl) ?_
          exact ret2_box (.inl rfl) [.keep [] [99999, 3, 1, 4, 20320], .ren [(20320, 15)]] (by kernel_rfl) (by kernel_rfl) [3, 1, 4, 15] (by kernel_rfl) (by kernel_rfl)
        · have h := cd_f hb11 h
          refine StopP.advd tbOk [] 100000 1000 (by kernel_rfl) (by kernel_rfl) (ac_nil) ?_
          have h := sm h; subst h
          refine StopP.out .normal (by kernel_rfl) ?_
          exact ret2_box (.inl rfl) [.keep [] [99999, 3, 1, 4, 15]] (by kernel_rfl) (by kernel_rfl) [3, 1, 4, 15] (by kernel_rfl) (by kernel_rfl)

def g13_dead_Trim.l0 (K : Nat) (a0 : Graph) (r2 : List Bool) : Nat → (List Int) → Int → Int → Option (ByteArray × (List Int))
  | 0, _, _, _ => none
  | k + 1, x11, x12, x13 =>
    let b20 : Bool := (decide (x13 < (r2.length : Int)))
    bif b20 then
      gd (0 ≤ x13 ∧ x13 < (r2.length : Int)) <|
      let b23 : Bool := (r2.getD x13.toNat false)
      gd (0 ≤ x13 ∧ x13 < (x11.length : Int)) <|
      bif b23 then
        g13_dead_Trim.l0 K a0 r2 k (x11.set x13.toNat x12) (IntKind.i64.wrap (x12 + (1 : Int))) (IntKind.i64.wrap (x13 + (1 : Int)))
      else
        g13_dead_Trim.l0 K a0 r2 k (x11.set x13.toNat x12) x12 (IntKind.i64.wrap (x13 + (1 : Int)))
    else
      some (ByteArray.empty, x11)

def g13_dead_Trim.h0 (a0 : Graph) (r2 : List Bool) (x11 : (List Int)) (x12 : Int) (x13 : Int) : Abs.St := ⟨[(1, .yes, v1 (.ptr 1 0 0)), (2, .yes, v1 (.ptr 2 0 0)), (3, .yes, v1 (.ptr 3 0 0)), (5, .yes, v1 (.own 21)), (6, .yes, v1 (ci x12)), (22, .yes, v1 (.own 20180)), (23, .yes, v1 (ci (r2.length : Int))), (24, .yes, v1 (ci x13))], [(1, .box 24 [cs a0.Name, cb a0.Keep, cb a0.Leaf, .t (.ro 12 cBlock zBlock a0.Blocks)]), (2, .box 24 [cs ByteArray.empty, cb false, cb false, .t (.ro 12 cBlock zBlock ([]))]), (3, .box 44 [.own 20180]), (21, .rows 3 1 eI 0 x11), (20180, .rows 4 1 eB false r2)], 84⟩

def g13_dead_Trim.j0_0 (a0 : Graph) (r2 : List Bool) (o : ByteArray × (List Int)) : Abs.St := ⟨[(1, .yes, v1 (.ptr 1 0 0)), (2, .yes, v1 (.ptr 2 0 0)), (3, .yes, v1 (.ptr 3 0 0)), (5, .yes, v1 (.own 21))], [(1, .box 24 [cs a0.Name, cb a0.Keep, cb a0.Leaf, .t (.ro 12 cBlock zBlock a0.Blocks)]), (2, .box 24 [cs o.1, cb false, cb false, .t (.ro 12 cBlock zBlock ([]))]), (3, .box 44 [.own 20180]), (21, .rows 3 1 eI 0 o.2), (20180, .rows 4 1 eB false r2)], 84⟩

theorem g13_dead_Trim.l0_ok {W : World} {A Kf : Nat → Prop} (K : Nat) (a0 : Graph) (r2 : List Bool) : ∀ (k : Nat) (x11 : (List Int)) (x12 : Int) (x13 : Int) (o : ByteArray × (List Int)), g13_dead_Trim.l0 K a0 r2 k x11 x12 x13 = some o → WPR Try.prog W A Kf (kid [true, true, true, true, true, true, true, false, true, false, false] (bodyAt Try.f13)) (Out (.exit 0) (g13_dead_Trim.j0_0 a0 r2 o)) k (g13_dead_Trim.h0 a0 r2 x11 x12 x13)
  | 0, x11, x12, x13, o, h => by cases h
  | k + 1, x11, x12, x13, o, h => by
    refine WPR.round ?_
    let b20 : Bool := (decide (x13 < (r2.length : Int)))
    refine StopP.advd tbOk [] 100000 1000 (by kernel_rfl) (by kernel_rfl) (ac_nil) ?_
    refine StopP.cond (b := b20) (by kernel_rfl) (fun hb21 => ?_) (fun hb21 => ?_)
    · have h := cd_t hb21 h
      obtain ⟨hg22, h⟩ := gd_some h
      let b23 : Bool := (r2.getD x13.toNat false)
      obtain ⟨hg24, h⟩ := gd_some h
      refine StopP.advd tbOk [(10, [(4, .obj (.rows 3 1 eI 0 (x11.set x13.toNat x12)))])] 100000 1000 (by kernel_rfl) (by kernel_rfl) (ac_y hg22 <| ac_y (tn hg22) <| ac_y hg24 <| ac_c (Stored.mk (ty := 3) (es := 1) (enc := eI) (z := 0) (xs := x11) (i := x13.toNat) (j := 0) (n := 1) x12 (tn hg24) (by decide) rfl rfl rfl) <| ac_nil) ?_
      refine StopP.cond (b := b23) (by kernel_rfl) (fun hb25 => ?_) (fun hb25 => ?_)
      · have h := cd_t hb25 h
        refine StopP.advd tbOk [] 100000 1000 (by kernel_rfl) (by kernel_rfl) (ac_nil) ?_
        refine StopP.out .normal (by kernel_rfl) ?_
        exact WPR.chg [.keep [1, 2, 3, 5, 6, 22, 23, 24] [1, 2, 3, 21, 20180]] (by kernel_rfl) (g13_dead_Trim.l0_ok K a0 r2 k (x11.set x13.toNat x12) (IntKind.i64.wrap (x12 + (1 : Int))) (IntKind.i64.wrap (x13 + (1 : Int))) o h)
      · have h := cd_f hb25 h
        refine StopP.advd tbOk [] 100000 1000 (by kernel_rfl) (by kernel_rfl) (ac_nil) ?_
        refine StopP.out .normal (by kernel_rfl) ?_
        exact WPR.chg [.keep [1, 2, 3, 5, 6, 22, 23, 24] [1, 2, 3, 21, 20180]] (by kernel_rfl) (g13_dead_Trim.l0_ok K a0 r2 k (x11.set x13.toNat x12) x12 (IntKind.i64.wrap (x13 + (1 : Int))) o h)
    · have h := cd_f hb21 h
      refine StopP.advd tbOk [] 100000 1000 (by kernel_rfl) (by kernel_rfl) (ac_nil) ?_
      have h := sm h; subst h
      exact StopP.out (.exit 0) (by kernel_rfl) ⟨rfl, [.keep [1, 2, 3, 5] [1, 2, 3, 21, 20180]], by kernel_rfl⟩

def g13_dead_Trim.l1 (K : Nat) (a0 : Graph) (r2 : List Bool) (o26 : ByteArray × (List Int)) (r27 : Graph) : Nat → Int → (List Block) → Option ((List Block))
  | 0, _, _ => none
  | k + 1, x55, x78 =>
    let b100 : Bool := (decide (x55 < (r27.Blocks.length : Int)))
    bif b100 then
      gd (0 ≤ x55 ∧ x55 < (r27.Blocks.length : Int)) <|
      gd (0 ≤ x55 ∧ x55 < (r2.length : Int)) <|
      let b104 : Bool := (r2.getD x55.toNat false)
      bif (!b104) then
        g13_dead_Trim.l1 K a0 r2 o26 r27 k (IntKind.i64.wrap (x55 + (1 : Int))) x78
      else
        let b106 : Bool := ((r27.Blocks.getD x55.toNat zBlock).End.Kind == (2 : Int))
        bif b106 then
          gd (0 ≤ (r27.Blocks.getD x55.toNat zBlock).End.Else ∧ (r27.Blocks.getD x55.toNat zBlock).End.Else < (o26.2.length : Int)) <|
          let i109 : Int := (o26.2.getD ((r27.Blocks.getD x55.toNat zBlock).End.Else).toNat 0)
          gd (0 ≤ (r27.Blocks.getD x55.toNat zBlock).End.To ∧ (r27.Blocks.getD x55.toNat zBlock).End.To < (o26.2.length : Int)) <|
          let i111 : Int := (o26.2.getD ((r27.Blocks.getD x55.toNat zBlock).End.To).toNat 0)
          let y112 : List Block := ([(⟨(r27.Blocks.getD x55.toNat zBlock).Ops, (⟨(r27.Blocks.getD x55.toNat zBlock).End.Kind, (r27.Blocks.getD x55.toNat zBlock).End.Op, (r27.Blocks.getD x55.toNat zBlock).End.A, (r27.Blocks.getD x55.toNat zBlock).End.B, i111, i109, (r27.Blocks.getD x55.toNat zBlock).End.Ins⟩ : Term)⟩ : Block)] : List Block)
          gd (x78.length + y112.length ≤ 1073741824) <|
          g13_dead_Trim.l1 K a0 r2 o26 r27 k (IntKind.i64.wrap (x55 + (1 : Int))) (x78 ++ y112)
        else
          let b114 : Bool := ((r27.Blocks.getD x55.toNat zBlock).End.Kind == (1 : Int))
          bif b114 then
            gd (0 ≤ (r27.Blocks.getD x55.toNat zBlock).End.To ∧ (r27.Blocks.getD x55.toNat zBlock).End.To < (o26.2.length : Int)) <|
            let i117 : Int := (o26.2.getD ((r27.Blocks.getD x55.toNat zBlock).End.To).toNat 0)
            let y118 : List Block := ([(⟨(r27.Blocks.getD x55.toNat zBlock).Ops, (⟨(r27.Blocks.getD x55.toNat zBlock).End.Kind, (r27.Blocks.getD x55.toNat zBlock).End.Op, (r27.Blocks.getD x55.toNat zBlock).End.A, (r27.Blocks.getD x55.toNat zBlock).End.B, i117, (r27.Blocks.getD x55.toNat zBlock).End.Else, (r27.Blocks.getD x55.toNat zBlock).End.Ins⟩ : Term)⟩ : Block)] : List Block)
            gd (x78.length + y118.length ≤ 1073741824) <|
            g13_dead_Trim.l1 K a0 r2 o26 r27 k (IntKind.i64.wrap (x55 + (1 : Int))) (x78 ++ y118)
          else
            gd (x78.length + ([(r27.Blocks.getD x55.toNat zBlock)] : List Block).length ≤ 1073741824) <|
            g13_dead_Trim.l1 K a0 r2 o26 r27 k (IntKind.i64.wrap (x55 + (1 : Int))) (x78 ++ ([(r27.Blocks.getD x55.toNat zBlock)] : List Block))
    else
      some x78

def g13_dead_Trim.h1 (a0 : Graph) (r2 : List Bool) (o26 : ByteArray × (List Int)) (r27 : Graph) (x55 : Int) (x78 : (List Block)) : Abs.St := ⟨[(2, .yes, v1 (.ptr 2 0 0)), (3, .yes, v1 (.ptr 3 0 0)), (5, .yes, v1 (.own 21)), (9, .yes, v1 (.ptr 9 0 0)), (41, .yes, v1 (.t (.ro 12 cBlock zBlock r27.Blocks))), (42, .yes, v1 (ci (r27.Blocks.length : Int))), (43, .yes, v1 (ci x55))], [(2, .box 24 [cs o26.1, cb false, cb false, .t (.ro 12 cBlock zBlock ([]))]), (3, .box 44 [.own 20180]), (9, .box 24 [cs a0.Name, cb a0.Keep, cb a0.Leaf, .own 5050]), (21, .rows 3 1 eI 0 o26.2), (5050, .rows 39 12 cBlock zBlock x78), (20180, .rows 4 1 eB false r2)], 84⟩

def g13_dead_Trim.j1_0 (a0 : Graph) (r2 : List Bool) (o26 : ByteArray × (List Int)) (r27 : Graph) (o : (List Block)) : Abs.St := ⟨[(2, .yes, v1 (.ptr 2 0 0)), (9, .yes, v1 (.ptr 9 0 0))], [(2, .box 24 [cs o26.1, cb false, cb false, .t (.ro 12 cBlock zBlock ([]))]), (9, .box 24 [cs a0.Name, cb a0.Keep, cb a0.Leaf, .own 5050]), (5050, .rows 39 12 cBlock zBlock o)], 84⟩

theorem g13_dead_Trim.l1_ok {W : World} {A Kf : Nat → Prop} (K : Nat) (a0 : Graph) (r2 : List Bool) (o26 : ByteArray × (List Int)) (r27 : Graph) : ∀ (k : Nat) (x55 : Int) (x78 : (List Block)) (o : (List Block)), g13_dead_Trim.l1 K a0 r2 o26 r27 k x55 x78 = some o → WPR Try.prog W A Kf (kid [true, true, true, true, true, true, true, true, true, true, false, true, false, false] (bodyAt Try.f13)) (Out (.exit 2) (g13_dead_Trim.j1_0 a0 r2 o26 r27 o)) k (g13_dead_Trim.h1 a0 r2 o26 r27 x55 x78)
  | 0, x55, x78, o, h => by cases h
  | k + 1, x55, x78, o, h => by
    refine WPR.round ?_
    let b100 : Bool := (decide (x55 < (r27.Blocks.length : Int)))
    refine StopP.advd tbOk [] 100000 1000 (by kernel_rfl) (by kernel_rfl) (ac_nil) ?_
    refine StopP.cond (b := b100) (by kernel_rfl) (fun hb101 => ?_) (fun hb101 => ?_)
    · have h := cd_t hb101 h
      obtain ⟨hg102, h⟩ := gd_some h
      obtain ⟨hg103, h⟩ := gd_some h
      let b104 : Bool := (r2.getD x55.toNat false)
      refine StopP.advd tbOk [] 100000 1000 (by kernel_rfl) (by kernel_rfl) (ac_y hg102 <| ac_y hg103 <| ac_y (tn hg103) <| ac_nil) ?_
      refine StopP.cond (b := (!b104)) (by kernel_rfl) (fun hb105 => ?_) (fun hb105 => ?_)
      · have h := cd_t hb105 h
        refine StopP.advd tbOk [] 100000 1000 (by kernel_rfl) (by kernel_rfl) (ac_nil) ?_
        refine StopP.out .normal (by kernel_rfl) ?_
        exact WPR.chg [.keep [2, 3, 5, 9, 41, 42, 43] [2, 3, 9, 21, 5050, 20180]] (by kernel_rfl) (g13_dead_Trim.l1_ok K a0 r2 o26 r27 k (IntKind.i64.wrap (x55 + (1 : Int))) x78 o h)
      · have h := cd_f hb105 h
        let b106 : Bool := ((r27.Blocks.getD x55.toNat zBlock).End.Kind == (2 : Int))
        refine StopP.advd tbOk [] 100000 1000 (by kernel_rfl) (by kernel_rfl) (ac_nil) ?_
        refine StopP.cond (b := b106) (by kernel_rfl) (fun hb107 => ?_) (fun hb107 => ?_)
        · have h := cd_t hb107 h
          obtain ⟨hg108, h⟩ := gd_some h
          let i109 : Int := (o26.2.getD ((r27.Blocks.getD x55.toNat zBlock).End.Else).toNat 0)
          obtain ⟨hg110, h⟩ := gd_some h
          let i111 : Int := (o26.2.getD ((r27.Blocks.getD x55.toNat zBlock).End.To).toNat 0)
          let y112 : List Block := ([(⟨(r27.Blocks.getD x55.toNat zBlock).Ops, (⟨(r27.Blocks.getD x55.toNat zBlock).End.Kind, (r27.Blocks.getD x55.toNat zBlock).End.Op, (r27.Blocks.getD x55.toNat zBlock).End.A, (r27.Blocks.getD x55.toNat zBlock).End.B, i111, i109, (r27.Blocks.getD x55.toNat zBlock).End.Ins⟩ : Term)⟩ : Block)] : List Block)
          obtain ⟨hg113, h⟩ := gd_some h
          refine StopP.advd tbOk [(25, [(3, .obj (.rows 39 12 cBlock zBlock ([(⟨(r27.Blocks.getD x55.toNat zBlock).Ops, (⟨(r27.Blocks.getD x55.toNat zBlock).End.Kind, (r27.Blocks.getD x55.toNat zBlock).End.Op, (r27.Blocks.getD x55.toNat zBlock).End.A, (r27.Blocks.getD x55.toNat zBlock).End.B, i111, i109, (r27.Blocks.getD x55.toNat zBlock).End.Ins⟩ : Term)⟩ : Block)] : List Block))), (4, .obj (.rows 39 12 cBlock zBlock (x78 ++ y112)))])] 100000 1000 (by kernel_rfl) (by kernel_rfl) (ac_y hg108 <| ac_y (tn hg108) <| ac_y hg110 <| ac_y (tn hg110) <| ac_c (Built.mk (ty := 39) (es := 12) (enc := cBlock) (z := zBlock) (xs := ([(⟨(r27.Blocks.getD x55.toNat zBlock).Ops, (⟨(r27.Blocks.getD x55.toNat zBlock).End.Kind, (r27.Blocks.getD x55.toNat zBlock).End.Op, (r27.Blocks.getD x55.toNat zBlock).End.A, (r27.Blocks.getD x55.toNat zBlock).End.B, i111, i109, (r27.Blocks.getD x55.toNat zBlock).End.Ins⟩ : Term)⟩ : Block)] : List Block)) (fun _ _ => rfl) (by decide : (1 * 12 : Nat) ≤ 16777216)) <| ac_c (Appended.mk (ty := 39) (es := 12) (by_ := 112) (enc := cBlock) (z := zBlock) (z' := zBlock) (xs := x78) (ys := y112) (fun _ _ => rfl) (sl hg113) (sb hg113 (by decide))) <| ac_nil) ?_
          refine StopP.out .normal (by kernel_rfl) ?_
          exact WPR.chg [.keep [2, 3, 5, 9, 41, 42, 43] [2, 3, 9, 21, 80, 20180], .ren [(80, 5050)]] (by kernel_rfl) (g13_dead_Trim.l1_ok K a0 r2 o26 r27 k (IntKind.i64.wrap (x55 + (1 : Int))) (x78 ++ y112) o h)
        · have h := cd_f hb107 h
          let b114 : Bool := ((r27.Blocks.getD x55.toNat zBlock).End.Kind == (1 : Int))
          refine StopP.advd tbOk [] 100000 1000 (by kernel_rfl) (by kernel_rfl) (ac_nil) ?_
          refine StopP.cond (b := b114) (by kernel_rfl) (fun hb115 => ?_) (fun hb115 => ?_)
          · have h := cd_t hb115 h
            refine StopP.reb [.keep [2, 3, 5, 9, 11, 41, 42, 43] [2, 3, 9, 11, 21, 5050, 20180]] (st' := .at (kid [true, true, true, true, true, true, true, true, true, true, false, true, false, false, true, true, false, false, true, true, false, true, false, false, false, false, false, false, true, true, false] (bodyAt Try.f13)) [.code (kid [true, true, true, true, true, true, true, true, true, true, false, true, false, false, true, true, false, false, true, true, false, true, false, false, false, false, false, true] (bodyAt Try.f13)), .blk 5, .code (kid [true, true, true, true, true, true, true, true, true, true, false, true, false, false, true, true, false, false, true, true, false, true, false, false, false, true] (bodyAt Try.f13)), .blk 6, .code (kid [true, true, true, true, true, true, true, true, true, true, false, true, false, false, true, true, false, false, true, true, false, true, false, true] (bodyAt Try.f13)), .blk 4, .code (kid [true, true, true, true, true, true, true, true, true, true, false, true, false, false, true, true, false, false, true, true, true] (bodyAt Try.f13)), .blk 3, .code (kid [true, true, true, true, true, true, true, true, true, true, false, true, false, false, true, true, true] (bodyAt Try.f13))] ⟨[(2, .yes, v1 (.ptr 2 0 0)), (3, .yes, v1 (.ptr 3 0 0)), (5, .yes, v1 (.own 21)), (9, .yes, v1 (.ptr 9 0 0)), (11, .yes, v1 (.ptr 11 0 0)), (41, .yes, v1 (.t (.ro 12 cBlock zBlock r27.Blocks))), (42, .yes, v1 (ci (r27.Blocks.length : Int))), (43, .yes, v1 (ci x55))], [(2, .box 24 [cs o26.1, cb false, cb false, .t (.ro 12 cBlock zBlock ([]))]), (3, .box 44 [.own 20180]), (9, .box 24 [cs a0.Name, cb a0.Keep, cb a0.Leaf, .own 5050]), (11, .box 39 [.t (.ro 9 cOp zOp ((r27.Blocks.getD x55.toNat zBlock).Ops)), ci ((r27.Blocks.getD x55.toNat zBlock).End.Kind), ci ((r27.Blocks.getD x55.toNat zBlock).End.Op), ci ((r27.Blocks.getD x55.toNat zBlock).End.A), ci ((r27.Blocks.getD x55.toNat zBlock).End.B), ci ((r27.Blocks.getD x55.toNat zBlock).End.To), ci ((r27.Blocks.getD x55.toNat zBlock).End.Else), ci ((r27.Blocks.getD x55.toNat zBlock).End.Ins.Op), ci ((r27.Blocks.getD x55.toNat zBlock).End.Ins.A), ci ((r27.Blocks.getD x55.toNat zBlock).End.Ins.B), ci ((r27.Blocks.getD x55.toNat zBlock).End.Ins.C), ci ((r27.Blocks.getD x55.toNat zBlock).End.Ins.Imm)]), (21, .rows 3 1 eI 0 o26.2), (5050, .rows 39 12 cBlock zBlock x78), (20180, .rows 4 1 eB false r2)], 84⟩) (by kernel_rfl) (by kernel_rfl) (by kernel_rfl) (by kernel_rfl) rfl ?_
            obtain ⟨hg116, h⟩ := gd_some h
            let i117 : Int := (o26.2.getD ((r27.Blocks.getD x55.toNat zBlock).End.To).toNat 0)
            let y118 : List Block := ([(⟨(r27.Blocks.getD x55.toNat zBlock).Ops, (⟨(r27.Blocks.getD x55.toNat zBlock).End.Kind, (r27.Blocks.getD x55.toNat zBlock).End.Op, (r27.Blocks.getD x55.toNat zBlock).End.A, (r27.Blocks.getD x55.toNat zBlock).End.B, i117, (r27.Blocks.getD x55.toNat zBlock).End.Else, (r27.Blocks.getD x55.toNat zBlock).End.Ins⟩ : Term)⟩ : Block)] : List Block)
            obtain ⟨hg119, h⟩ := gd_some h
            refine StopP.advd tbOk [(25, [(3, .obj (.rows 39 12 cBlock zBlock ([(⟨(r27.Blocks.getD x55.toNat zBlock).Ops, (⟨(r27.Blocks.getD x55.toNat zBlock).End.Kind, (r27.Blocks.getD x55.toNat zBlock).End.Op, (r27.Blocks.getD x55.toNat zBlock).End.A, (r27.Blocks.getD x55.toNat zBlock).End.B, i117, (r27.Blocks.getD x55.toNat zBlock).End.Else, (r27.Blocks.getD x55.toNat zBlock).End.Ins⟩ : Term)⟩ : Block)] : List Block))), (4, .obj (.rows 39 12 cBlock zBlock (x78 ++ y118)))])] 100000 1000 (by kernel_rfl) (by kernel_rfl) (ac_y hg116 <| ac_y (tn hg116) <| ac_c (Built.mk (ty := 39) (es := 12) (enc := cBlock) (z := zBlock) (xs := ([(⟨(r27.Blocks.getD x55.toNat zBlock).Ops, (⟨(r27.Blocks.getD x55.toNat zBlock).End.Kind, (r27.Blocks.getD x55.toNat zBlock).End.Op, (r27.Blocks.getD x55.toNat zBlock).End.A, (r27.Blocks.getD x55.toNat zBlock).End.B, i117, (r27.Blocks.getD x55.toNat zBlock).End.Else, (r27.Blocks.getD x55.toNat zBlock).End.Ins⟩ : Term)⟩ : Block)] : List Block)) (fun _ _ => rfl) (by decide : (1 * 12 : Nat) ≤ 16777216)) <| ac_c (Appended.mk (ty := 39) (es := 12) (by_ := 112) (enc := cBlock) (z := zBlock) (z' := zBlock) (xs := x78) (ys := y118) (fun _ _ => rfl) (sl hg119) (sb hg119 (by decide))) <| ac_nil) ?_
            refine StopP.out .normal (by kernel_rfl) ?_
            exact WPR.chg [.keep [2, 3, 5, 9, 41, 42, 43] [2, 3, 9, 21, 80, 20180], .ren [(80, 5050)]] (by kernel_rfl) (g13_dead_Trim.l1_ok K a0 r2 o26 r27 k (IntKind.i64.wrap (x55 + (1 : Int))) (x78 ++ y118) o h)
          · have h := cd_f hb115 h
            obtain ⟨hg120, h⟩ := gd_some h
            refine StopP.advd tbOk [(25, [(3, .obj (.rows 39 12 cBlock zBlock ([(r27.Blocks.getD x55.toNat zBlock)] : List Block))), (4, .obj (.rows 39 12 cBlock zBlock (x78 ++ ([(r27.Blocks.getD x55.toNat zBlock)] : List Block))))])] 100000 1000 (by kernel_rfl) (by kernel_rfl) (ac_c (Built.mk (ty := 39) (es := 12) (enc := cBlock) (z := zBlock) (xs := ([(r27.Blocks.getD x55.toNat zBlock)] : List Block)) (fun _ _ => rfl) (by decide : (1 * 12 : Nat) ≤ 16777216)) <| ac_c (Appended.mk (ty := 39) (es := 12) (by_ := 112) (enc := cBlock) (z := zBlock) (z' := zBlock) (xs := x78) (ys := ([(r27.Blocks.getD x55.toNat zBlock)] : List Block)) (fun _ _ => rfl) (sl hg120) (sb hg120 (by decide))) <| ac_nil) ?_
            refine StopP.out .normal (by kernel_rfl) ?_
            exact WPR.chg [.keep [2, 3, 5, 9, 41, 42, 43] [2, 3, 9, 21, 80, 20180], .ren [(80, 5050)]] (by kernel_rfl) (g13_dead_Trim.l1_ok K a0 r2 o26 r27 k (IntKind.i64.wrap (x55 + (1 : Int))) (x78 ++ ([(r27.Blocks.getD x55.toNat zBlock)] : List Block)) o h)
    · have h := cd_f hb101 h
      refine StopP.advd tbOk [] 100000 1000 (by kernel_rfl) (by kernel_rfl) (ac_nil) ?_
      have h := sm h; subst h
      exact StopP.out (.exit 2) (by kernel_rfl) ⟨rfl, [.keep [2, 9] [2, 9, 5050]], by kernel_rfl⟩

def g13_dead_Trim (K : Nat) (a0 : Graph) : Option (Graph) :=
  gd (0 ≤ (a0.Blocks.length : Int) ∧ (a0.Blocks.length : Int).toNat ≤ 1073741824) <|
  (g26_dead_Trim_1 a0 K (List.replicate (a0.Blocks.length : Int).toNat false) (0 : Int)).bind fun r2 =>
  gd (0 ≤ (r2.length : Int) ∧ (r2.length : Int).toNat ≤ 1073741824) <|
  (g13_dead_Trim.l0 K a0 r2 K (List.replicate (r2.length : Int).toNat 0) (0 : Int) (0 : Int)).bind fun o26 =>
  (g23_dead_copied K a0).bind fun r27 =>
  (g13_dead_Trim.l1 K a0 r2 o26 r27 K (0 : Int) ([])).bind fun o121 =>
  some (⟨a0.Name, a0.Keep, a0.Leaf, o121⟩ : Graph)

theorem g13_dead_Trim_ok (K : Nat) (a0 : Graph) (r : Graph) (h : g13_dead_Trim K a0 = some r) : AC Try.prog 13 [] [.v true [cs a0.Name, cb a0.Keep, cb a0.Leaf, .t (.ro 12 cBlock zBlock a0.Blocks)]] [(7000, .rows 39 12 cBlock zBlock r.Blocks)] (.v true [cs r.Name, cb r.Keep, cb r.Leaf, .own 7000]) := by
  refine AC.intro (fn := Try.f13) tbOk (by kernel_rfl) rfl (by kernel_rfl) (fun W A Kf => ?_)
  obtain ⟨hg1, h⟩ := gd_some h
  obtain ⟨r2, hc2, h⟩ := bd_some h
  obtain ⟨hg3, h⟩ := gd_some h
  refine StopP.advd tbOk [(1, [(3, .obj (.rows 4 1 eB false (List.replicate (a0.Blocks.length : Int).toNat false)))]), (4, [(1, .callM [3, 1, 4, 15] [3, 1, 4] [(15, 20180)] [(3, .box 44 [.own 15]), (1, .box 24 [cs a0.Name, cb a0.Keep, cb a0.Leaf, .t (.ro 12 cBlock zBlock a0.Blocks)]), (4, .box 45 [.clo 26 [.ptr 3 0 0, .ptr 1 0 0, .ptr 4 0 0]]), (15, .rows 4 1 eB false r2)] (.tp []))]), (5, [(2, .obj (.rows 3 1 eI 0 (List.replicate (r2.length : Int).toNat 0)))])] 100000 1000 (by kernel_rfl) (by kernel_rfl) (ac_c (rfl : (a0.Blocks.length : Int) = (a0.Blocks.length : Int)) <| ac_c (Made.mk (ty := 4) (es := 1) (by_ := 1) (enc := eB) (z := false) (n := (a0.Blocks.length : Int)) hg1.1 rfl (sl hg1.2) (sb2 hg1.2 (by decide))) <| ac_c (g26_dead_Trim_1_ok a0 K (List.replicate (a0.Blocks.length : Int).toNat false) (0 : Int) r2 hc2) <| ac_c (rfl : (r2.length : Int) = (r2.length : Int)) <| ac_c (Made.mk (ty := 3) (es := 1) (by_ := 8) (enc := eI) (z := 0) (n := (r2.length : Int)) hg3.1 rfl (sl hg3.2) (sb2 hg3.2 (by decide))) <| ac_nil) ?_
  obtain ⟨o26, ho26, h⟩ := bd_some h
  refine StopP.lp (by kernel_rfl) [.keep [1, 2, 3, 5, 6, 22, 23, 24] [1, 2, 3, 21, 20180]] (s := g13_dead_Trim.h0 a0 r2 (List.replicate (r2.length : Int).toNat 0) (0 : Int) (0 : Int)) (by kernel_rfl) (c := (kid [true, true, true, true, true, true, true, false, true, false, false] (bodyAt Try.f13))) (by kernel_rfl) (e := (.exit 0)) (J := g13_dead_Trim.j0_0 a0 r2 o26) K (g13_dead_Trim.l0_ok K a0 r2 K (List.replicate (r2.length : Int).toNat 0) (0 : Int) (0 : Int) o26 ho26) ?_
  obtain ⟨r27, hc27, h⟩ := bd_some h
  refine StopP.advd tbOk [(16, [(1, .call [] [] (.v true [cs r27.Name, cb r27.Keep, cb r27.Leaf, .t (.ro 12 cBlock zBlock r27.Blocks)]))])] 100000 1000 (by kernel_rfl) (by kernel_rfl) (ac_y (g23_dead_copied_fz K a0 r27 hc27) <| ac_nil) ?_
  obtain ⟨o121, ho121, h⟩ := bd_some h
  refine StopP.lp (by kernel_rfl) [.own (.box 9 3) 5050 (.rows 39 12 cBlock zBlock []), .keep [2, 3, 5, 9, 41, 42, 43] [2, 3, 9, 21, 5050, 20180]] (s := g13_dead_Trim.h1 a0 r2 o26 r27 (0 : Int) ([])) (by kernel_rfl) (c := (kid [true, true, true, true, true, true, true, true, true, true, false, true, false, false] (bodyAt Try.f13))) (by kernel_rfl) (e := (.exit 2)) (J := g13_dead_Trim.j1_0 a0 r2 o26 r27 o121) K (g13_dead_Trim.l1_ok K a0 r2 o26 r27 K (0 : Int) ([]) o121 ho121) ?_
  refine StopP.advd tbOk [] 100000 1000 (by kernel_rfl) (by kernel_rfl) (ac_nil) ?_
  have h := sm h; subst h
  refine StopP.out .ret (by kernel_rfl) ?_
  exact ret_box (.inr rfl) [.keep [2] [2, 5050], .ren [(5050, 7000)]] (by kernel_rfl) (by kernel_rfl) [7000] (by kernel_rfl)

theorem g13_dead_Trim_fz (K : Nat) (a0 : Graph) (r : Graph) (h : g13_dead_Trim K a0 = some r) : AC Try.prog 13 [] [.v true [cs a0.Name, cb a0.Keep, cb a0.Leaf, .t (.ro 12 cBlock zBlock a0.Blocks)]] [] (.v true [cs r.Name, cb r.Keep, cb r.Leaf, .t (.ro 12 cBlock zBlock r.Blocks)]) :=
  AC.cast (AC.fz (g13_dead_Trim_ok K a0 r h) 7000 (o := .rows 39 12 cBlock zBlock r.Blocks) (t := .ro 12 cBlock zBlock r.Blocks) (by kernel_rfl) (by kernel_rfl)) (by kernel_rfl) (by kernel_rfl)

end Go.Proofs.Ytoooalfhjcfinaa.T
