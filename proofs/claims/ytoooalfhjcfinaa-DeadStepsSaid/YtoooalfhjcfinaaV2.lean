/- A part of the proofs of this seat: what functions of the program compute, and what follows from it; without conditions. -/
import Derived.Test.YtoooalfhjcfinaaV1

namespace Go.Proofs.Ytoooalfhjcfinaa.T
open Go.Abs
set_option linter.unusedVariables false
set_option maxRecDepth 100000
set_option maxHeartbeats 2000000

def g26_dead_Trim_1 (g : Graph) : Nat → (List Bool) → (Int) → Option (List Bool)
  | 0, _, _ => none
  | K + 1, seen, a0 =>
    gd (0 ≤ a0 ∧ a0 < (seen.length : Int)) <|
    let b2 : Bool := (seen.getD a0.toNat false)
    bif b2 then
      some seen
    else
      gd (0 ≤ a0 ∧ a0 < (seen.length : Int)) <|
      gd (0 ≤ a0 ∧ a0 < (g.Blocks.length : Int)) <|
      let b6 : Bool := ((g.Blocks.getD a0.toNat zBlock).End.Kind == (2 : Int))
      bif b6 then
        (g26_dead_Trim_1 g K (seen.set a0.toNat true) ((g.Blocks.getD a0.toNat zBlock).End.Else)).bind fun r8 =>
        (g26_dead_Trim_1 g K r8 ((g.Blocks.getD a0.toNat zBlock).End.To)).bind fun r9 =>
        some r9
      else
        let b10 : Bool := ((g.Blocks.getD a0.toNat zBlock).End.Kind == (1 : Int))
        bif b10 then
          (g26_dead_Trim_1 g K (seen.set a0.toNat true) ((g.Blocks.getD a0.toNat zBlock).End.To)).bind fun r12 =>
          some r12
        else
          some (seen.set a0.toNat true)

theorem g26_dead_Trim_1_ok (g : Graph) : ∀ (K : Nat) (seen : List Bool) (a0 : Int) (r : List Bool), g26_dead_Trim_1 g K seen a0 = some r → AC2 Try.prog 26 [(3, .box 44 [.own 15]), (1, .box 24 [cs g.Name, cb g.Keep, cb g.Leaf, .t (.ro 12 cBlock zBlock g.Blocks)]), (4, .box 45 [.clo 26 [.ptr 3 0 0, .ptr 1 0 0, .ptr 4 0 0]]), (15, .rows 4 1 eB false seen)] [ci a0, .ptr 3 0 0, .ptr 1 0 0, .ptr 4 0 0] [(3, .box 44 [.own 15]), (1, .box 24 [cs g.Name, cb g.Keep, cb g.Leaf, .t (.ro 12 cBlock zBlock g.Blocks)]), (4, .box 45 [.clo 26 [.ptr 3 0 0, .ptr 1 0 0, .ptr 4 0 0]]), (15, .rows 4 1 eB false r)] (.tp [])
  | 0, seen, a0, r, h => by cases h
  | K + 1, seen, a0, r, h => by
    refine AC2.intro (fn := Try.f26) tbOk (by kernel_rfl) rfl (by kernel_rfl) 99999 (by kernel_rfl) (fun W A Kf vs => ?_)
    obtain ⟨hg1, h⟩ := gd_some h
    let b2 : Bool := (seen.getD a0.toNat false)
    refine StopP.advd tbOk [] 100000 1000 (by kernel_rfl) (by kernel_rfl) (ac_y hg1 <| ac_y (tn hg1) <| ac_nil) ?_
    refine StopP.cond (b := b2) (by kernel_rfl) (fun hb3 => ?_) (fun hb3 => ?_)
    · have h := cd_t hb3 h
      refine StopP.advd tbOk [] 100000 1000 (by kernel_rfl) (by kernel_rfl) (ac_nil) ?_
      have h := sm h; subst h
      refine StopP.out .ret (by kernel_rfl) ?_
      exact ret2_box (.inr rfl) [.keep [] [99999, 3, 1, 4, 15]] (by kernel_rfl) (by kernel_rfl) [3, 1, 4, 15] (by kernel_rfl) (by kernel_rfl)
    · have h := cd_f hb3 h
      obtain ⟨hg4, h⟩ := gd_some h
      obtain ⟨hg5, h⟩ := gd_some h
      let b6 : Bool := ((g.Blocks.getD a0.toNat zBlock).End.Kind == (2 : Int))
      refine StopP.advd tbOk [(1, [(3, .obj (.rows 4 1 eB false (seen.set a0.toNat true)))])] 100000 1000 (by kernel_rfl) (by kernel_rfl) (ac_y hg4 <| ac_c (Stored.mk (ty := 4) (es := 1) (enc := eB) (z := false) (xs := seen) (i := a0.toNat) (j := 0) (n := 1) true (tn hg4) (by decide) rfl rfl rfl) <| ac_y hg5 <| ac_nil) ?_
      refine StopP.cond (b := b6) (by kernel_rfl) (fun hb7 => ?_) (fun hb7 => ?_)
      · have h := cd_t hb7 h
        obtain ⟨r8, hc8, h⟩ := bd_some h
        obtain ⟨r9, hc9, h⟩ := bd_some h
        refine StopP.advd tbOk [(6, [(3, .callM [3, 1, 4, 15] [3, 1, 4] [(15, 20280)] [(3, .box 44 [.own 15]), (1, .box 24 [cs g.Name, cb g.Keep, cb g.Leaf, .t (.ro 12 cBlock zBlock g.Blocks)]), (4, .box 45 [.clo 26 [.ptr 3 0 0, .ptr 1 0 0, .ptr 4 0 0]]), (15, .rows 4 1 eB false r8)] (.tp []))]), (7, [(3, .callM [3, 1, 4, 20280] [3, 1, 4] [(20280, 20320)] [(3, .box 44 [.own 20280]), (1, .box 24 [cs g.Name, cb g.Keep, cb g.Leaf, .t (.ro 12 cBlock zBlock g.Blocks)]), (4, .box 45 [.clo 26 [.ptr 3 0 0, .ptr 1 0 0, .ptr 4 0 0]]), (20280, .rows 4 1 eB false r9)] (.tp []))])] 100000 1000 (by kernel_rfl) (by kernel_rfl) (ac_c (g26_dead_Trim_1_ok g K (seen.set a0.toNat true) ((g.Blocks.getD a0.toNat zBlock).End.Else) r8 hc8) <| ac_c ((AC2.cast (AC2.ren (g26_dead_Trim_1_ok g K r8 ((g.Blocks.getD a0.toNat zBlock).End.To) r9 hc9) (swapN_inj 15 20280)) (by kernel_rfl) (by kernel_rfl) (by kernel_rfl) (by kernel_rfl) : AC2 Try.prog 26 [(3, .box 44 [.own 20280]), (1, .box 24 [cs g.Name, cb g.Keep, cb g.Leaf, .t (.ro 12 cBlock zBlock g.Blocks)]), (4, .box 45 [.clo 26 [.ptr 3 0 0, .ptr 1 0 0, .ptr 4 0 0]]), (20280, .rows 4 1 eB false r8)] [ci ((g.Blocks.getD a0.toNat zBlock).End.To), .ptr 3 0 0, .ptr 1 0 0, .ptr 4 0 0] [(3, .box 44 [.own 20280]), (1, .box 24 [cs g.Name, cb g.Keep, cb g.Leaf, .t (.ro 12 cBlock zBlock g.Blocks)]), (4, .box 45 [.clo 26 [.ptr 3 0 0, .ptr 1 0 0, .ptr 4 0 0]]), (20280, .rows 4 1 eB false r9)] (.tp []))) <| ac_nil) ?_
        have h := sm h; subst h
        refine StopP.out .normal (by kernel_rfl) ?_
        exact ret2_box (.inl rfl) [.keep [] [99999, 3, 1, 4, 20320], .ren [(20320, 15)]] (by kernel_rfl) (by kernel_rfl) [3, 1, 4, 15] (by kernel_rfl) (by kernel_rfl)
      · have h := cd_f hb7 h
        let b10 : Bool := ((g.Blocks.getD a0.toNat zBlock).End.Kind == (1 : Int))
        refine StopP.advd tbOk [] 100000 1000 (by kernel_rfl) (by kernel_rfl) (ac_nil) ?_
        refine StopP.cond (b := b10) (by kernel_rfl) (fun hb11 => ?_) (fun hb11 => ?_)
        · have h := cd_t hb11 h
          obtain ⟨r12, hc12, h⟩ := bd_some h
          refine StopP.advd tbOk [(7, [(3, .callM [3, 1, 4, 15] [3, 1, 4] [(15, 20320)] [(3, .box 44 [.own 15]), (1, .box 24 [cs g.Name, cb g.Keep, cb g.Leaf, .t (.ro 12 cBlock zBlock g.Blocks)]), (4, .box 45 [.clo 26 [.ptr 3 0 0, .ptr 1 0 0, .ptr 4 0 0]]), (15, .rows 4 1 eB false r12)] (.tp []))])] 100000 1000 (by kernel_rfl) (by kernel_rfl) (ac_c (g26_dead_Trim_1_ok g K (seen.set a0.toNat true) ((g.Blocks.getD a0.toNat zBlock).End.To) r12 hc12) <| ac_nil) ?_
          have h := sm h; subst h
          refine StopP.out .normal (by kernel_rfl) ?_
          exact ret2_box (.inl rfl) [.keep [] [99999, 3, 1, 4, 20320], .ren [(20320, 15)]] (by kernel_rfl) (by kernel_rfl) [3, 1, 4, 15] (by kernel_rfl) (by kernel_rfl)
        · have h := cd_f hb11 h
          refine StopP.advd tbOk [] 100000 1000 (by kernel_rfl) (by kernel_rfl) (ac_nil) ?_
          have h := sm h; subst h
          refine StopP.out .normal (by kernel_rfl) ?_
          exact ret2_box (.inl rfl) [.keep [] [99999, 3, 1, 4, 15]] (by kernel_rfl) (by kernel_rfl) [3, 1, 4, 15] (by kernel_rfl) (by kernel_rfl)

def g13_dead_Trim.l0 (K : Nat) (a0 : Graph) (r2 : List Bool) : Nat → (List Int) → Int → Int → Option (ByteArray × (List Int))
  | 0, _, _, _ => none
  | k + 1, x11, x12, x13 =>
    let b20 : Bool := (decide (x13 < (r2.length : Int)))
    bif b20 then
      gd (0 ≤ x13 ∧ x13 < (r2.length : Int)) <|
      let b23 : Bool := (r2.getD x13.toNat false)
      gd (0 ≤ x13 ∧ x13 < (x11.length : Int)) <|
      bif b23 then
        g13_dead_Trim.l0 K a0 r2 k (x11.set x13.toNat x12) (IntKind.i64.wrap (x12 + (1 : Int))) (IntKind.i64.wrap (x13 + (1 : Int)))
      else
        g13_dead_Trim.l0 K a0 r2 k (x11.set x13.toNat x12) x12 (IntKind.i64.wrap (x13 + (1 : Int)))
    else
      some (ByteArray.empty, x11)

def g13_dead_Trim.h0 (a0 : Graph) (r2 : List Bool) (x11 : (List Int)) (x12 : Int) (x13 : Int) : Abs.St := ⟨[(1, .yes, v1 (.ptr 1 0 0)), (2, .yes, v1 (.ptr 2 0 0)), (3, .yes, v1 (.ptr 3 0 0)), (5, .yes, v1 (.own 21)), (6, .yes, v1 (ci x12)), (22, .yes, v1 (.own 20180)), (23, .yes, v1 (ci (r2.length : Int))), (24, .yes, v1 (ci x13))], [(1, .box 24 [cs a0.Name, cb a0.Keep, cb a0.Leaf, .t (.ro 12 cBlock zBlock a0.Blocks)]), (2, .box 24 [cs ByteArray.empty, cb false, cb false, .t (.ro 12 cBlock zBlock ([]))]), (3, .box 44 [.own 20180]), (21, .rows 3 1 eI 0 x11), (20180, .rows 4 1 eB false r2)], 84⟩

def g13_dead_Trim.j0_0 (a0 : Graph) (r2 : List Bool) (o : ByteArray × (List Int)) : Abs.St := ⟨[(1, .yes, v1 (.ptr 1 0 0)), (2, .yes, v1 (.ptr 2 0 0)), (3, .yes, v1 (.ptr 3 0 0)), (5, .yes, v1 (.own 21))], [(1, .box 24 [cs a0.Name, cb a0.Keep, cb a0.Leaf, .t (.ro 12 cBlock zBlock a0.Blocks)]), (2, .box 24 [cs o.1, cb false, cb false, .t (.ro 12 cBlock zBlock ([]))]), (3, .box 44 [.own 20180]), (21, .rows 3 1 eI 0 o.2), (20180, .rows 4 1 eB false r2)], 84⟩

theorem g13_dead_Trim.l0_ok {W : World} {A Kf : Nat → Prop} (K : Nat) (a0 : Graph) (r2 : List Bool) : ∀ (k : Nat) (x11 : (List Int)) (x12 : Int) (x13 : Int) (o : ByteArray × (List Int)), g13_dead_Trim.l0 K a0 r2 k x11 x12 x13 = some o → WPR Try.prog W A Kf (kid [true, true, true, true, true, true, true, false, true, false, false] (bodyAt Try.f13)) (Out (.exit 0) (g13_dead_Trim.j0_0 a0 r2 o)) k (g13_dead_Trim.h0 a0 r2 x11 x12 x13)
  | 0, x11, x12, x13, o, h => by cases h
  | k + 1, x11, x12, x13, o, h => by
    refine WPR.round ?_
    let b20 : Bool := (decide (x13 < (r2.length : Int)))
    refine StopP.advd tbOk [] 100000 1000 (by kernel_rfl) (by kernel_rfl) (ac_nil) ?_
    refine StopP.cond (b := b20) (by kernel_rfl) (fun hb21 => ?_) (fun hb21 => ?_)
    · have h := cd_t hb21 h
      obtain ⟨hg22, h⟩ := gd_some h
      let b23 : Bool := (r2.getD x13.toNat false)
      obtain ⟨hg24, h⟩ := gd_some h
      refine StopP.advd tbOk [(10, [(4, .obj (.rows 3 1 eI 0 (x11.set x13.toNat x12)))])] 100000 1000 (by kernel_rfl) (by kernel_rfl) (ac_y hg22 <| ac_y (tn hg22) <| ac_y hg24 <| ac_c (Stored.mk (ty := 3) (es := 1) (enc := eI) (z := 0) (xs := x11) (i := x13.toNat) (j := 0) (n := 1) x12 (tn hg24) (by decide) rfl rfl rfl) <| ac_nil) ?_
      refine StopP.cond (b := b23) (by kernel_rfl) (fun hb25 => ?_) (fun hb25 => ?_)
      · have h := cd_t hb25 h
        refine StopP.advd tbOk [] 100000 1000 (by kernel_rfl) (by kernel_rfl) (ac_nil) ?_
        refine StopP.out .normal (by kernel_rfl) ?_
        exact WPR.chg [.keep [1, 2, 3, 5, 6, 22, 23, 24] [1, 2, 3, 21, 20180]] (by kernel_rfl) (g13_dead_Trim.l0_ok K a0 r2 k (x11.set x13.toNat x12) (IntKind.i64.wrap (x12 + (1 : Int))) (IntKind.i64.wrap (x13 + (1 : Int))) o h)
      · have h := cd_f hb25 h
        refine StopP.advd tbOk [] 100000 1000 (by kernel_rfl) (by kernel_rfl) (ac_nil) ?_
        refine StopP.out .normal (by kernel_rfl) ?_
        exact WPR.chg [.keep [1, 2, 3, 5, 6, 22, 23, 24] [1, 2, 3, 21, 20180]] (by kernel_rfl) (g13_dead_Trim.l0_ok K a0 r2 k (x11.set x13.toNat x12) x12 (IntKind.i64.wrap (x13 + (1 : Int))) o h)
    · have h := cd_f hb21 h
      refine StopP.advd tbOk [] 100000 1000 (by kernel_rfl) (by kernel_rfl) (ac_nil) ?_
      have h := sm h; subst h
      exact StopP.out (.exit 0) (by kernel_rfl) ⟨rfl, [.keep [1, 2, 3, 5] [1, 2, 3, 21, 20180]], by kernel_rfl⟩

def g13_dead_Trim.l1 (K : Nat) (a0 : Graph) (r2 : List Bool) (o26 : ByteArray × (List Int)) (r27 : Graph) : Nat → Int → (List Block) → Option ((List Block))
  | 0, _, _ => none
  | k + 1, x55, x78 =>
    let b100 : Bool := (decide (x55 < (r27.Blocks.length : Int)))
    bif b100 then
      gd (0 ≤ x55 ∧ x55 < (r27.Blocks.length : Int)) <|
      gd (0 ≤ x55 ∧ x55 < (r2.length : Int)) <|
      let b104 : Bool := (r2.getD x55.toNat false)
      bif (!b104) then
        g13_dead_Trim.l1 K a0 r2 o26 r27 k (IntKind.i64.wrap (x55 + (1 : Int))) x78
      else
        let b106 : Bool := ((r27.Blocks.getD x55.toNat zBlock).End.Kind == (2 : Int))
        bif b106 then
          gd (0 ≤ (r27.Blocks.getD x55.toNat zBlock).End.Else ∧ (r27.Blocks.getD x55.toNat zBlock).End.Else < (o26.2.length : Int)) <|
          let i109 : Int := (o26.2.getD ((r27.Blocks.getD x55.toNat zBlock).End.Else).toNat 0)
          gd (0 ≤ (r27.Blocks.getD x55.toNat zBlock).End.To ∧ (r27.Blocks.getD x55.toNat zBlock).End.To < (o26.2.length : Int)) <|
          let i111 : Int := (o26.2.getD ((r27.Blocks.getD x55.toNat zBlock).End.To).toNat 0)
          let y112 : List Block := ([(⟨(r27.Blocks.getD x55.toNat zBlock).Ops, (⟨(r27.Blocks.getD x55.toNat zBlock).End.Kind, (r27.Blocks.getD x55.toNat zBlock).End.Op, (r27.Blocks.getD x55.toNat zBlock).End.A, (r27.Blocks.getD x55.toNat zBlock).End.B, i111, i109, (r27.Blocks.getD x55.toNat zBlock).End.Ins⟩ : Term)⟩ : Block)] : List Block)
          gd (x78.length + y112.length ≤ 1073741824) <|
          g13_dead_Trim.l1 K a0 r2 o26 r27 k (IntKind.i64.wrap (x55 + (1 : Int))) (x78 ++ y112)
        else
          let b114 : Bool := ((r27.Blocks.getD x55.toNat zBlock).End.Kind == (1 : Int))
          bif b114 then
            gd (0 ≤ (r27.Blocks.getD x55.toNat zBlock).End.To ∧ (r27.Blocks.getD x55.toNat zBlock).End.To < (o26.2.length : Int)) <|
            let i117 : Int := (o26.2.getD ((r27.Blocks.getD x55.toNat zBlock).End.To).toNat 0)
            let y118 : List Block := ([(⟨(r27.Blocks.getD x55.toNat zBlock).Ops, (⟨(r27.Blocks.getD x55.toNat zBlock).End.Kind, (r27.Blocks.getD x55.toNat zBlock).End.Op, (r27.Blocks.getD x55.toNat zBlock).End.A, (r27.Blocks.getD x55.toNat zBlock).End.B, i117, (r27.Blocks.getD x55.toNat zBlock).End.Else, (r27.Blocks.getD x55.toNat zBlock).End.Ins⟩ : Term)⟩ : Block)] : List Block)
            gd (x78.length + y118.length ≤ 1073741824) <|
            g13_dead_Trim.l1 K a0 r2 o26 r27 k (IntKind.i64.wrap (x55 + (1 : Int))) (x78 ++ y118)
          else
            gd (x78.length + ([(r27.Blocks.getD x55.toNat zBlock)] : List Block).length ≤ 1073741824) <|
            g13_dead_Trim.l1 K a0 r2 o26 r27 k (IntKind.i64.wrap (x55 + (1 : Int))) (x78 ++ ([(r27.Blocks.getD x55.toNat zBlock)] : List Block))
    else
      some x78

def g13_dead_Trim.h1 (a0 : Graph) (r2 : List Bool) (o26 : ByteArray × (List Int)) (r27 : Graph) (x55 : Int) (x78 : (List Block)) : Abs.St := ⟨[(2, .yes, v1 (.ptr 2 0 0)), (3, .yes, v1 (.ptr 3 0 0)), (5, .yes, v1 (.own 21)), (9, .yes, v1 (.ptr 9 0 0)), (41, .yes, v1 (.t (.ro 12 cBlock zBlock r27.Blocks))), (42, .yes, v1 (ci (r27.Blocks.length : Int))), (43, .yes, v1 (ci x55))], [(2, .box 24 [cs o26.1, cb false, cb false, .t (.ro 12 cBlock zBlock ([]))]), (3, .box 44 [.own 20180]), (9, .box 24 [cs a0.Name, cb a0.Keep, cb a0.Leaf, .own 5050]), (21, .rows 3 1 eI 0 o26.2), (5050, .rows 39 12 cBlock zBlock x78), (20180, .rows 4 1 eB false r2)], 84⟩

def g13_dead_Trim.j1_0 (a0 : Graph) (r2 : List Bool) (o26 : ByteArray × (List Int)) (r27 : Graph) (o : (List Block)) : Abs.St := ⟨[(2, .yes, v1 (.ptr 2 0 0)), (9, .yes, v1 (.ptr 9 0 0))], [(2, .box 24 [cs o26.1, cb false, cb false, .t (.ro 12 cBlock zBlock ([]))]), (9, .box 24 [cs a0.Name, cb a0.Keep, cb a0.Leaf, .own 5050]), (5050, .rows 39 12 cBlock zBlock o)], 84⟩

theorem g13_dead_Trim.l1_ok {W : World} {A Kf : Nat → Prop} (K : Nat) (a0 : Graph) (r2 : List Bool) (o26 : ByteArray × (List Int)) (r27 : Graph) : ∀ (k : Nat) (x55 : Int) (x78 : (List Block)) (o : (List Block)), g13_dead_Trim.l1 K a0 r2 o26 r27 k x55 x78 = some o → WPR Try.prog W A Kf (kid [true, true, true, true, true, true, true, true, true, true, false, true, false, false] (bodyAt Try.f13)) (Out (.exit 2) (g13_dead_Trim.j1_0 a0 r2 o26 r27 o)) k (g13_dead_Trim.h1 a0 r2 o26 r27 x55 x78)
  | 0, x55, x78, o, h => by cases h
  | k + 1, x55, x78, o, h => by
    refine WPR.round ?_
    let b100 : Bool := (decide (x55 < (r27.Blocks.length : Int)))
    refine StopP.advd tbOk [] 100000 1000 (by kernel_rfl) (by kernel_rfl) (ac_nil) ?_
    refine StopP.cond (b := b100) (by kernel_rfl) (fun hb101 => ?_) (fun hb101 => ?_)
    · have h := cd_t hb101 h
      obtain ⟨hg102, h⟩ := gd_some h
      obtain ⟨hg103, h⟩ := gd_some h
      let b104 : Bool := (r2.getD x55.toNat false)
      refine StopP.advd tbOk [] 100000 1000 (by kernel_rfl) (by kernel_rfl) (ac_y hg102 <| ac_y hg103 <| ac_y (tn hg103) <| ac_nil) ?_
      refine StopP.cond (b := (!b104)) (by kernel_rfl) (fun hb105 => ?_) (fun hb105 => ?_)
      · have h := cd_t hb105 h
        refine StopP.advd tbOk [] 100000 1000 (by kernel_rfl) (by kernel_rfl) (ac_nil) ?_
        refine StopP.out .normal (by kernel_rfl) ?_
        exact WPR.chg [.keep [2, 3, 5, 9, 41, 42, 43] [2, 3, 9, 21, 5050, 20180]] (by kernel_rfl) (g13_dead_Trim.l1_ok K a0 r2 o26 r27 k (IntKind.i64.wrap (x55 + (1 : Int))) x78 o h)
      · have h := cd_f hb105 h
        let b106 : Bool := ((r27.Blocks.getD x55.toNat zBlock).End.Kind == (2 : Int))
        refine StopP.advd tbOk [] 100000 1000 (by kernel_rfl) (by kernel_rfl) (ac_nil) ?_
        refine StopP.cond (b := b106) (by kernel_rfl) (fun hb107 => ?_) (fun hb107 => ?_)
        · have h := cd_t hb107 h
          obtain ⟨hg108, h⟩ := gd_some h
          let i109 : Int := (o26.2.getD ((r27.Blocks.getD x55.toNat zBlock).End.Else).toNat 0)
          obtain ⟨hg110, h⟩ := gd_some h
          let i111 : Int := (o26.2.getD ((r27.Blocks.getD x55.toNat zBlock).End.To).toNat 0)
          let y112 : List Block := ([(⟨(r27.Blocks.getD x55.toNat zBlock).Ops, (⟨(r27.Blocks.getD x55.toNat zBlock).End.Kind, (r27.Blocks.getD x55.toNat zBlock).End.Op, (r27.Blocks.getD x55.toNat zBlock).End.A, (r27.Blocks.getD x55.toNat zBlock).End.B, i111, i109, (r27.Blocks.getD x55.toNat zBlock).End.Ins⟩ : Term)⟩ : Block)] : List Block)
          obtain ⟨hg113, h⟩ := gd_some h
          refine StopP.advd tbOk [(25, [(3, .obj (.rows 39 12 cBlock zBlock ([(⟨(r27.Blocks.getD x55.toNat zBlock).Ops, (⟨(r27.Blocks.getD x55.toNat zBlock).End.Kind, (r27.Blocks.getD x55.toNat zBlock).End.Op, (r27.Blocks.getD x55.toNat zBlock).End.A, (r27.Blocks.getD x55.toNat zBlock).End.B, i111, i109, (r27.Blocks.getD x55.toNat zBlock).End.Ins⟩ : Term)⟩ : Block)] : List Block))), (4, .obj (.rows 39 12 cBlock zBlock (x78 ++ y112)))])] 100000 1000 (by kernel_rfl) (by kernel_rfl) (ac_y hg108 <| ac_y (tn hg108) <| ac_y hg110 <| ac_y (tn hg110) <| ac_c (Built.mk (ty := 39) (es := 12) (enc := cBlock) (z := zBlock) (xs := ([(⟨(r27.Blocks.getD x55.toNat zBlock).Ops, (⟨(r27.Blocks.getD x55.toNat zBlock).End.Kind, (r27.Blocks.getD x55.toNat zBlock).End.Op, (r27.Blocks.getD x55.toNat zBlock).End.A, (r27.Blocks.getD x55.toNat zBlock).End.B, i111, i109, (r27.Blocks.getD x55.toNat zBlock).End.Ins⟩ : Term)⟩ : Block)] : List Block)) (fun _ _ => rfl) (by decide : (1 * 12 : Nat) ≤ 16777216)) <| ac_c (Appended.mk (ty := 39) (es := 12) (by_ := 112) (enc := cBlock) (z := zBlock) (z' := zBlock) (xs := x78) (ys := y112) (fun _ _ => rfl) (sl hg113) (sb hg113 (by decide))) <| ac_nil) ?_
          refine StopP.out .normal (by kernel_rfl) ?_
          exact WPR.chg [.keep [2, 3, 5, 9, 41, 42, 43] [2, 3, 9, 21, 80, 20180], .ren [(80, 5050)]] (by kernel_rfl) (g13_dead_Trim.l1_ok K a0 r2 o26 r27 k (IntKind.i64.wrap (x55 + (1 : Int))) (x78 ++ y112) o h)
        · have h := cd_f hb107 h
          let b114 : Bool := ((r27.Blocks.getD x55.toNat zBlock).End.Kind == (1 : Int))
          refine StopP.advd tbOk [] 100000 1000 (by kernel_rfl) (by kernel_rfl) (ac_nil) ?_
          refine StopP.cond (b := b114) (by kernel_rfl) (fun hb115 => ?_) (fun hb115 => ?_)
          · have h := cd_t hb115 h
            refine StopP.reb [.keep [2, 3, 5, 9, 11, 41, 42, 43] [2, 3, 9, 11, 21, 5050, 20180]] (st' := .at (kid [true, true, true, true, true, true, true, true, true, true, false, true, false, false, true, true, false, false, true, true, false, true, false, false, false, false, false, false, true, true, false] (bodyAt Try.f13)) [.code (kid [true, true, true, true, true, true, true, true, true, true, false, true, false, false, true, true, false, false, true, true, false, true, false, false, false, false, false, true] (bodyAt Try.f13)), .blk 5, .code (kid [true, true, true, true, true, true, true, true, true, true, false, true, false, false, true, true, false, false, true, true, false, true, false, false, false, true] (bodyAt Try.f13)), .blk 6, .code (kid [true, true, true, true, true, true, true, true, true, true, false, true, false, false, true, true, false, false, true, true, false, true, false, true] (bodyAt Try.f13)), .blk 4, .code (kid [true, true, true, true, true, true, true, true, true, true, false, true, false, false, true, true, false, false, true, true, true] (bodyAt Try.f13)), .blk 3, .code (kid [true, true, true, true, true, true, true, true, true, true, false, true, false, false, true, true, true] (bodyAt Try.f13))] ⟨[(2, .yes, v1 (.ptr 2 0 0)), (3, .yes, v1 (.ptr 3 0 0)), (5, .yes, v1 (.own 21)), (9, .yes, v1 (.ptr 9 0 0)), (11, .yes, v1 (.ptr 11 0 0)), (41, .yes, v1 (.t (.ro 12 cBlock zBlock r27.Blocks))), (42, .yes, v1 (ci (r27.Blocks.length : Int))), (43, .yes, v1 (ci x55))], [(2, .box 24 [cs o26.1, cb false, cb false, .t (.ro 12 cBlock zBlock ([]))]), (3, .box 44 [.own 20180]), (9, .box 24 [cs a0.Name, cb a0.Keep, cb a0.Leaf, .own 5050]), (11, .box 39 [.t (.ro 9 cOp zOp ((r27.Blocks.getD x55.toNat zBlock).Ops)), ci ((r27.Blocks.getD x55.toNat zBlock).End.Kind), ci ((r27.Blocks.getD x55.toNat zBlock).End.Op), ci ((r27.Blocks.getD x55.toNat zBlock).End.A), ci ((r27.Blocks.getD x55.toNat zBlock).End.B), ci ((r27.Blocks.getD x55.toNat zBlock).End.To), ci ((r27.Blocks.getD x55.toNat zBlock).End.Else), ci ((r27.Blocks.getD x55.toNat zBlock).End.Ins.Op), ci ((r27.Blocks.getD x55.toNat zBlock).End.Ins.A), ci ((r27.Blocks.getD x55.toNat zBlock).End.Ins.B), ci ((r27.Blocks.getD x55.toNat zBlock).End.Ins.C), ci ((r27.Blocks.getD x55.toNat zBlock).End.Ins.Imm)]), (21, .rows 3 1 eI 0 o26.2), (5050, .rows 39 12 cBlock zBlock x78), (20180, .rows 4 1 eB false r2)], 84⟩) (by kernel_rfl) (by kernel_rfl) (by kernel_rfl) (by kernel_rfl) rfl ?_
            obtain ⟨hg116, h⟩ := gd_some h
            let i117 : Int := (o26.2.getD ((r27.Blocks.getD x55.toNat zBlock).End.To).toNat 0)
            let y118 : List Block := ([(⟨(r27.Blocks.getD x55.toNat zBlock).Ops, (⟨(r27.Blocks.getD x55.toNat zBlock).End.Kind, (r27.Blocks.getD x55.toNat zBlock).End.Op, (r27.Blocks.getD x55.toNat zBlock).End.A, (r27.Blocks.getD x55.toNat zBlock).End.B, i117, (r27.Blocks.getD x55.toNat zBlock).End.Else, (r27.Blocks.getD x55.toNat zBlock).End.Ins⟩ : Term)⟩ : Block)] : List Block)
            obtain ⟨hg119, h⟩ := gd_some h
            refine StopP.advd tbOk [(25, [(3, .obj (.rows 39 12 cBlock zBlock ([(⟨(r27.Blocks.getD x55.toNat zBlock).Ops, (⟨(r27.Blocks.getD x55.toNat zBlock).End.Kind, (r27.Blocks.getD x55.toNat zBlock).End.Op, (r27.Blocks.getD x55.toNat zBlock).End.A, (r27.Blocks.getD x55.toNat zBlock).End.B, i117, (r27.Blocks.getD x55.toNat zBlock).End.Else, (r27.Blocks.getD x55.toNat zBlock).End.Ins⟩ : Term)⟩ : Block)] : List Block))), (4, .obj (.rows 39 12 cBlock zBlock (x78 ++ y118)))])] 100000 1000 (by kernel_rfl) (by kernel_rfl) (ac_y hg116 <| ac_y (tn hg116) <| ac_c (Built.mk (ty := 39) (es := 12) (enc := cBlock) (z := zBlock) (xs := ([(⟨(r27.Blocks.getD x55.toNat zBlock).Ops, (⟨(r27.Blocks.getD x55.toNat zBlock).End.Kind, (r27.Blocks.getD x55.toNat zBlock).End.Op, (r27.Blocks.getD x55.toNat zBlock).End.A, (r27.Blocks.getD x55.toNat zBlock).End.B, i117, (r27.Blocks.getD x55.toNat zBlock).End.Else, (r27.Blocks.getD x55.toNat zBlock).End.Ins⟩ : Term)⟩ : Block)] : List Block)) (fun _ _ => rfl) (by decide : (1 * 12 : Nat) ≤ 16777216)) <| ac_c (Appended.mk (ty := 39) (es := 12) (by_ := 112) (enc := cBlock) (z := zBlock) (z' := zBlock) (xs := x78) (ys := y118) (fun _ _ => rfl) (sl hg119) (sb hg119 (by decide))) <| ac_nil) ?_
            refine StopP.out .normal (by kernel_rfl) ?_
            exact WPR.chg [.keep [2, 3, 5, 9, 41, 42, 43] [2, 3, 9, 21, 80, 20180], .ren [(80, 5050)]] (by kernel_rfl) (g13_dead_Trim.l1_ok K a0 r2 o26 r27 k (IntKind.i64.wrap (x55 + (1 : Int))) (x78 ++ y118) o h)
          · have h := cd_f hb115 h
            obtain ⟨hg120, h⟩ := gd_some h
            refine StopP.advd tbOk [(25, [(3, .obj (.rows 39 12 cBlock zBlock ([(r27.Blocks.getD x55.toNat zBlock)] : List Block))), (4, .obj (.rows 39 12 cBlock zBlock (x78 ++ ([(r27.Blocks.getD x55.toNat zBlock)] : List Block))))])] 100000 1000 (by kernel_rfl) (by kernel_rfl) (ac_c (Built.mk (ty := 39) (es := 12) (enc := cBlock) (z := zBlock) (xs := ([(r27.Blocks.getD x55.toNat zBlock)] : List Block)) (fun _ _ => rfl) (by decide : (1 * 12 : Nat) ≤ 16777216)) <| ac_c (Appended.mk (ty := 39) (es := 12) (by_ := 112) (enc := cBlock) (z := zBlock) (z' := zBlock) (xs := x78) (ys := ([(r27.Blocks.getD x55.toNat zBlock)] : List Block)) (fun _ _ => rfl) (sl hg120) (sb hg120 (by decide))) <| ac_nil) ?_
            refine StopP.out .normal (by kernel_rfl) ?_
            exact WPR.chg [.keep [2, 3, 5, 9, 41, 42, 43] [2, 3, 9, 21, 80, 20180], .ren [(80, 5050)]] (by kernel_rfl) (g13_dead_Trim.l1_ok K a0 r2 o26 r27 k (IntKind.i64.wrap (x55 + (1 : Int))) (x78 ++ ([(r27.Blocks.getD x55.toNat zBlock)] : List Block)) o h)
    · have h := cd_f hb101 h
      refine StopP.advd tbOk [] 100000 1000 (by kernel_rfl) (by kernel_rfl) (ac_nil) ?_
      have h := sm h; subst h
      exact StopP.out (.exit 2) (by kernel_rfl) ⟨rfl, [.keep [2, 9] [2, 9, 5050]], by kernel_rfl⟩

def g13_dead_Trim (K : Nat) (a0 : Graph) : Option (Graph) :=
  gd (0 ≤ (a0.Blocks.length : Int) ∧ (a0.Blocks.length : Int).toNat ≤ 1073741824) <|
  (g26_dead_Trim_1 a0 K (List.replicate (a0.Blocks.length : Int).toNat false) (0 : Int)).bind fun r2 =>
  gd (0 ≤ (r2.length : Int) ∧ (r2.length : Int).toNat ≤ 1073741824) <|
  (g13_dead_Trim.l0 K a0 r2 K (List.replicate (r2.length : Int).toNat 0) (0 : Int) (0 : Int)).bind fun o26 =>
  (g23_dead_copied K a0).bind fun r27 =>
  (g13_dead_Trim.l1 K a0 r2 o26 r27 K (0 : Int) ([])).bind fun o121 =>
  some (⟨a0.Name, a0.Keep, a0.Leaf, o121⟩ : Graph)

theorem g13_dead_Trim_ok (K : Nat) (a0 : Graph) (r : Graph) (h : g13_dead_Trim K a0 = some r) : AC Try.prog 13 [] [.v true [cs a0.Name, cb a0.Keep, cb a0.Leaf, .t (.ro 12 cBlock zBlock a0.Blocks)]] [(7000, .rows 39 12 cBlock zBlock r.Blocks)] (.v true [cs r.Name, cb r.Keep, cb r.Leaf, .own 7000]) := by
  refine AC.intro (fn := Try.f13) tbOk (by kernel_rfl) rfl (by kernel_rfl) (fun W A Kf => ?_)
  obtain ⟨hg1, h⟩ := gd_some h
  obtain ⟨r2, hc2, h⟩ := bd_some h
  obtain ⟨hg3, h⟩ := gd_some h
  refine StopP.advd tbOk [(1, [(3, .obj (.rows 4 1 eB false (List.replicate (a0.Blocks.length : Int).toNat false)))]), (4, [(1, .callM [3, 1, 4, 15] [3, 1, 4] [(15, 20180)] [(3, .box 44 [.own 15]), (1, .box 24 [cs a0.Name, cb a0.Keep, cb a0.Leaf, .t (.ro 12 cBlock zBlock a0.Blocks)]), (4, .box 45 [.clo 26 [.ptr 3 0 0, .ptr 1 0 0, .ptr 4 0 0]]), (15, .rows 4 1 eB false r2)] (.tp []))]), (5, [(2, .obj (.rows 3 1 eI 0 (List.replicate (r2.length : Int).toNat 0)))])] 100000 1000 (by kernel_rfl) (by kernel_rfl) (ac_c (rfl : (a0.Blocks.length : Int) = (a0.Blocks.length : Int)) <| ac_c (Made.mk (ty := 4) (es := 1) (by_ := 1) (enc := eB) (z := false) (n := (a0.Blocks.length : Int)) hg1.1 rfl (sl hg1.2) (sb2 hg1.2 (by decide))) <| ac_c (g26_dead_Trim_1_ok a0 K (List.replicate (a0.Blocks.length : Int).toNat false) (0 : Int) r2 hc2) <| ac_c (rfl : (r2.length : Int) = (r2.length : Int)) <| ac_c (Made.mk (ty := 3) (es := 1) (by_ := 8) (enc := eI) (z := 0) (n := (r2.length : Int)) hg3.1 rfl (sl hg3.2) (sb2 hg3.2 (by decide))) <| ac_nil) ?_
  obtain ⟨o26, ho26, h⟩ := bd_some h
  refine StopP.lp (by kernel_rfl) [.keep [1, 2, 3, 5, 6, 22, 23, 24] [1, 2, 3, 21, 20180]] (s := g13_dead_Trim.h0 a0 r2 (List.replicate (r2.length : Int).toNat 0) (0 : Int) (0 : Int)) (by kernel_rfl) (c := (kid [true, true, true, true, true, true, true, false, true, false, false] (bodyAt Try.f13))) (by kernel_rfl) (e := (.exit 0)) (J := g13_dead_Trim.j0_0 a0 r2 o26) K (g13_dead_Trim.l0_ok K a0 r2 K (List.replicate (r2.length : Int).toNat 0) (0 : Int) (0 : Int) o26 ho26) ?_
  obtain ⟨r27, hc27, h⟩ := bd_some h
  refine StopP.advd tbOk [(16, [(1, .call [] [] (.v true [cs r27.Name, cb r27.Keep, cb r27.Leaf, .t (.ro 12 cBlock zBlock r27.Blocks)]))])] 100000 1000 (by kernel_rfl) (by kernel_rfl) (ac_y (g23_dead_copied_fz K a0 r27 hc27) <| ac_nil) ?_
  obtain ⟨o121, ho121, h⟩ := bd_some h
  refine StopP.lp (by kernel_rfl) [.own (.box 9 3) 5050 (.rows 39 12 cBlock zBlock []), .keep [2, 3, 5, 9, 41, 42, 43] [2, 3, 9, 21, 5050, 20180]] (s := g13_dead_Trim.h1 a0 r2 o26 r27 (0 : Int) ([])) (by kernel_rfl) (c := (kid [true, true, true, true, true, true, true, true, true, true, false, true, false, false] (bodyAt Try.f13))) (by kernel_rfl) (e := (.exit 2)) (J := g13_dead_Trim.j1_0 a0 r2 o26 r27 o121) K (g13_dead_Trim.l1_ok K a0 r2 o26 r27 K (0 : Int) ([]) o121 ho121) ?_
  refine StopP.advd tbOk [] 100000 1000 (by kernel_rfl) (by kernel_rfl) (ac_nil) ?_
  have h := sm h; subst h
  refine StopP.out .ret (by kernel_rfl) ?_
  exact ret_box (.inr rfl) [.keep [2] [2, 5050], .ren [(5050, 7000)]] (by kernel_rfl) (by kernel_rfl) [7000] (by kernel_rfl)

theorem g13_dead_Trim_fz (K : Nat) (a0 : Graph) (r : Graph) (h : g13_dead_Trim K a0 = some r) : AC Try.prog 13 [] [.v true [cs a0.Name, cb a0.Keep, cb a0.Leaf, .t (.ro 12 cBlock zBlock a0.Blocks)]] [] (.v true [cs r.Name, cb r.Keep, cb r.Leaf, .t (.ro 12 cBlock zBlock r.Blocks)]) :=
  AC.cast (AC.fz (g13_dead_Trim_ok K a0 r h) 7000 (o := .rows 39 12 cBlock zBlock r.Blocks) (t := .ro 12 cBlock zBlock r.Blocks) (by kernel_rfl) (by kernel_rfl)) (by kernel_rfl) (by kernel_rfl)

end Go.Proofs.Ytoooalfhjcfinaa.T

namespace Go.Proofs.Ytoooalfhjcfinaa.T
open Go.Abs
set_option linter.unusedVariables false
set_option maxRecDepth 100000
set_option maxHeartbeats 2000000

def g43_flow_Reads.b0 (K : Nat) (a0 : Ins) : Option ((List Int)) :=
  bif (a0.Op == (1 : Int)) then
    gd (([] : List Int).length + ([a0.C] : List Int).length ≤ 1073741824) <|
    gd ((([] : List Int) ++ ([a0.C] : List Int)).length + ([a0.B] : List Int).length ≤ 1073741824) <|
    let y88 : List Int := ((([] : List Int) ++ ([a0.C] : List Int)) ++ ([a0.B] : List Int))
    some y88
  else
    bif (a0.Op == (2 : Int)) then
      gd (([] : List Int).length + ([a0.C] : List Int).length ≤ 1073741824) <|
      gd ((([] : List Int) ++ ([a0.C] : List Int)).length + ([a0.B] : List Int).length ≤ 1073741824) <|
      let y93 : List Int := ((([] : List Int) ++ ([a0.C] : List Int)) ++ ([a0.B] : List Int))
      some y93
    else
      bif (a0.Op == (3 : Int)) then
        gd (([] : List Int).length + ([a0.C] : List Int).length ≤ 1073741824) <|
        gd ((([] : List Int) ++ ([a0.C] : List Int)).length + ([a0.B] : List Int).length ≤ 1073741824) <|
        let y98 : List Int := ((([] : List Int) ++ ([a0.C] : List Int)) ++ ([a0.B] : List Int))
        some y98
      else
        bif (a0.Op == (4 : Int)) then
          gd (([] : List Int).length + ([a0.C] : List Int).length ≤ 1073741824) <|
          gd ((([] : List Int) ++ ([a0.C] : List Int)).length + ([a0.B] : List Int).length ≤ 1073741824) <|
          let y103 : List Int := ((([] : List Int) ++ ([a0.C] : List Int)) ++ ([a0.B] : List Int))
          some y103
        else
          bif (a0.Op == (5 : Int)) then
            gd (([] : List Int).length + ([a0.C] : List Int).length ≤ 1073741824) <|
            gd ((([] : List Int) ++ ([a0.C] : List Int)).length + ([a0.B] : List Int).length ≤ 1073741824) <|
            let y108 : List Int := ((([] : List Int) ++ ([a0.C] : List Int)) ++ ([a0.B] : List Int))
            some y108
          else
            bif (a0.Op == (6 : Int)) then
              gd (([] : List Int).length + ([a0.C] : List Int).length ≤ 1073741824) <|
              gd ((([] : List Int) ++ ([a0.C] : List Int)).length + ([a0.B] : List Int).length ≤ 1073741824) <|
              let y113 : List Int := ((([] : List Int) ++ ([a0.C] : List Int)) ++ ([a0.B] : List Int))
              some y113
            else
              bif (a0.Op == (7 : Int)) then
                gd (([] : List Int).length + ([a0.C] : List Int).length ≤ 1073741824) <|
                gd ((([] : List Int) ++ ([a0.C] : List Int)).length + ([a0.B] : List Int).length ≤ 1073741824) <|
                let y118 : List Int := ((([] : List Int) ++ ([a0.C] : List Int)) ++ ([a0.B] : List Int))
                some y118
              else
                bif (a0.Op == (8 : Int)) then
                  gd (([] : List Int).length + ([a0.B] : List Int).length ≤ 1073741824) <|
                  some (([] : List Int) ++ ([a0.B] : List Int))
                else
                  bif (a0.Op == (10 : Int)) then
                    gd (([] : List Int).length + ([a0.B] : List Int).length ≤ 1073741824) <|
                    some (([] : List Int) ++ ([a0.B] : List Int))
                  else
                    bif (a0.Op == (11 : Int)) then
                      gd (([] : List Int).length + ([a0.B] : List Int).length ≤ 1073741824) <|
                      some (([] : List Int) ++ ([a0.B] : List Int))
                    else
                      bif (a0.Op == (13 : Int)) then
                        gd (([] : List Int).length + ([a0.B] : List Int).length ≤ 1073741824) <|
                        some (([] : List Int) ++ ([a0.B] : List Int))
                      else
                        bif (a0.Op == (12 : Int)) then
                          gd (([] : List Int).length + ([a0.B] : List Int).length ≤ 1073741824) <|
                          gd ((([] : List Int) ++ ([a0.B] : List Int)).length + ([a0.A] : List Int).length ≤ 1073741824) <|
                          let y135 : List Int := ((([] : List Int) ++ ([a0.B] : List Int)) ++ ([a0.A] : List Int))
                          some y135
                        else
                          bif (a0.Op == (14 : Int)) then
                            gd (([] : List Int).length + ([a0.B] : List Int).length ≤ 1073741824) <|
                            gd ((([] : List Int) ++ ([a0.B] : List Int)).length + ([a0.A] : List Int).length ≤ 1073741824) <|
                            let y140 : List Int := ((([] : List Int) ++ ([a0.B] : List Int)) ++ ([a0.A] : List Int))
                            some y140
                          else
                            bif (a0.Op == (15 : Int)) then
                              gd (([] : List Int).length + ([a0.B] : List Int).length ≤ 1073741824) <|
                              gd ((([] : List Int) ++ ([a0.B] : List Int)).length + ([a0.A] : List Int).length ≤ 1073741824) <|
                              let y145 : List Int := ((([] : List Int) ++ ([a0.B] : List Int)) ++ ([a0.A] : List Int))
                              some y145
                            else
                              bif (a0.Op == (16 : Int)) then
                                gd (([] : List Int).length + ([a0.B] : List Int).length ≤ 1073741824) <|
                                gd ((([] : List Int) ++ ([a0.B] : List Int)).length + ([a0.A] : List Int).length ≤ 1073741824) <|
                                let y150 : List Int := ((([] : List Int) ++ ([a0.B] : List Int)) ++ ([a0.A] : List Int))
                                some y150
                              else
                                bif (a0.Op == (17 : Int)) then
                                  gd (([] : List Int).length + ([a0.B] : List Int).length ≤ 1073741824) <|
                                  gd ((([] : List Int) ++ ([a0.B] : List Int)).length + ([a0.A] : List Int).length ≤ 1073741824) <|
                                  let y155 : List Int := ((([] : List Int) ++ ([a0.B] : List Int)) ++ ([a0.A] : List Int))
                                  some y155
                                else
                                  bif (a0.Op == (18 : Int)) then
                                    gd (([] : List Int).length + ([a0.B] : List Int).length ≤ 1073741824) <|
                                    gd ((([] : List Int) ++ ([a0.B] : List Int)).length + ([a0.A] : List Int).length ≤ 1073741824) <|
                                    let y160 : List Int := ((([] : List Int) ++ ([a0.B] : List Int)) ++ ([a0.A] : List Int))
                                    some y160
                                  else
                                    bif (a0.Op == (0 : Int)) then
                                      gd (([] : List Int).length + ([a0.A] : List Int).length ≤ 1073741824) <|
                                      some (([] : List Int) ++ ([a0.A] : List Int))
                                    else
                                      bif (a0.Op == (23 : Int)) then
                                        gd (([] : List Int).length + ([a0.A] : List Int).length ≤ 1073741824) <|
                                        some (([] : List Int) ++ ([a0.A] : List Int))
                                      else
                                        some ([])

def g43_flow_Reads.h0 (a0 : Ins) : Abs.St := ⟨[(1, .yes, v1 (.ptr 1 0 0)), (3, .yes, v1 (cn)), (5, .yes, v1 (ci a0.Op))], [(1, .box 33 [ci a0.Op, ci a0.A, ci a0.B, ci a0.C, ci a0.Imm])], 55⟩

def g43_flow_Reads.j0_0 (a0 : Ins) (o : (List Int)) : Abs.St := ⟨[(3, .yes, v1 (.own 38))], [(38, .rows 3 1 eI 0 o)], 55⟩

theorem g43_flow_Reads.b0_ok {W : World} {A Kf : Nat → Prop} (K : Nat) (a0 : Ins) (o : (List Int)) (h : g43_flow_Reads.b0 K a0 = some o) : StopP Try.prog W A Kf (Out .normal (g43_flow_Reads.j0_0 a0 o)) (.at (kid [true, true, false, true] (bodyAt Try.f43)) [] (g43_flow_Reads.h0 a0)) := by
  unfold g43_flow_Reads.b0 at h
  refine StopP.advd tbOk [] 100000 1000 (by kernel_rfl) (by kernel_rfl) (ac_nil) ?_
  refine StopP.cond (b := (a0.Op == (1 : Int))) (by kernel_rfl) (fun hb84 => ?_) (fun hb84 => ?_)
  · have h := cd_t hb84 h
    refine StopP.advd tbOk [] 100000 1000 (by kernel_rfl) (by kernel_rfl) (ac_nil) ?_
    refine StopP.condK (b := (a0.Op == (1 : Int))) hb84 (by kernel_rfl) ?_
    refine StopP.advd tbOk [] 22 1000 (by kernel_rfl) (by kernel_rfl) (ac_nil) ?_
    refine StopP.chgS [.own (.slot 3 0) 30085 (.rows 3 1 eI 0 [])] (by kernel_rfl) (by kernel_rfl) ?_
    obtain ⟨hg86, h⟩ := gd_some h
    obtain ⟨hg87, h⟩ := gd_some h
    let y88 : List Int := ((([] : List Int) ++ ([a0.C] : List Int)) ++ ([a0.B] : List Int))
    refine StopP.advd tbOk [(22, [(3, .obj (.rows 3 1 eI 0 ([a0.C] : List Int))), (4, .obj (.rows 3 1 eI 0 (([] : List Int) ++ ([a0.C] : List Int))))]), (23, [(3, .obj (.rows 3 1 eI 0 ([a0.B] : List Int))), (4, .obj (.rows 3 1 eI 0 ((([] : List Int) ++ ([a0.C] : List Int)) ++ ([a0.B] : List Int))))])] 100000 1000 (by kernel_rfl) (by kernel_rfl) (ac_c (Built.mk (ty := 3) (es := 1) (enc := eI) (z := 0) (xs := ([a0.C] : List Int)) (fun _ _ => rfl) (by decide : (1 * 1 : Nat) ≤ 16777216)) <| ac_c (Appended.mk (ty := 3) (es := 1) (by_ := 8) (enc := eI) (z := 0) (z' := 0) (xs := ([] : List Int)) (ys := ([a0.C] : List Int)) (fun _ _ => rfl) (sl hg86) (sb hg86 (by decide))) <| ac_c (Built.mk (ty := 3) (es := 1) (enc := eI) (z := 0) (xs := ([a0.B] : List Int)) (fun _ _ => rfl) (by decide : (1 * 1 : Nat) ≤ 16777216)) <| ac_c (Appended.mk (ty := 3) (es := 1) (by_ := 8) (enc := eI) (z := 0) (z' := 0) (xs := (([] : List Int) ++ ([a0.C] : List Int))) (ys := ([a0.B] : List Int)) (fun _ _ => rfl) (sl hg87) (sb hg87 (by decide))) <| ac_nil) ?_
    have h := sm h; subst h
    exact StopP.out .normal (by kernel_rfl) ⟨rfl, [.keep [3] [38]], by kernel_rfl⟩
  · have h := cd_f hb84 h
    refine StopP.advd tbOk [] 100000 1000 (by kernel_rfl) (by kernel_rfl) (ac_nil) ?_
    refine StopP.cond (b := (a0.Op == (2 : Int))) (by kernel_rfl) (fun hb89 => ?_) (fun hb89 => ?_)
    · have h := cd_t hb89 h
      refine StopP.advd tbOk [] 100000 1000 (by kernel_rfl) (by kernel_rfl) (ac_nil) ?_
      refine StopP.condK (b := (a0.Op == (2 : Int))) hb89 (by kernel_rfl) ?_
      refine StopP.advd tbOk [] 22 1000 (by kernel_rfl) (by kernel_rfl) (ac_nil) ?_
      refine StopP.chgS [.own (.slot 3 0) 30090 (.rows 3 1 eI 0 [])] (by kernel_rfl) (by kernel_rfl) ?_
      refine StopP.reb [.keep [1, 3] [1, 30090]] (st' := .at (kid [true, true, false, true, false, false, false, false, false, false, false, true] (bodyAt Try.f43)) [.blk 2, .code (kid [true, true, false, true, false, false, false, false, false, true] (bodyAt Try.f43)), .blk 3, .code (kid [true, true, false, true, false, false, false, true] (bodyAt Try.f43)), .blk 4, .code (kid [true, true, false, true, false, true] (bodyAt Try.f43)), .blk 0] ⟨[(1, .yes, v1 (.ptr 1 0 0)), (3, .yes, v1 (.own 30090))], [(1, .box 33 [ci a0.Op, ci a0.A, ci a0.B, ci a0.C, ci a0.Imm]), (30090, .rows 3 1 eI 0 ([]))], 55⟩) (by kernel_rfl) (by kernel_rfl) (by kernel_rfl) (by kernel_rfl) rfl ?_
      obtain ⟨hg91, h⟩ := gd_some h
      obtain ⟨hg92, h⟩ := gd_some h
      let y93 : List Int := ((([] : List Int) ++ ([a0.C] : List Int)) ++ ([a0.B] : List Int))
      refine StopP.advd tbOk [(22, [(3, .obj (.rows 3 1 eI 0 ([a0.C] : List Int))), (4, .obj (.rows 3 1 eI 0 (([] : List Int) ++ ([a0.C] : List Int))))]), (23, [(3, .obj (.rows 3 1 eI 0 ([a0.B] : List Int))), (4, .obj (.rows 3 1 eI 0 ((([] : List Int) ++ ([a0.C] : List Int)) ++ ([a0.B] : List Int))))])] 100000 1000 (by kernel_rfl) (by kernel_rfl) (ac_c (Built.mk (ty := 3) (es := 1) (enc := eI) (z := 0) (xs := ([a0.C] : List Int)) (fun _ _ => rfl) (by decide : (1 * 1 : Nat) ≤ 16777216)) <| ac_c (Appended.mk (ty := 3) (es := 1) (by_ := 8) (enc := eI) (z := 0) (z' := 0) (xs := ([] : List Int)) (ys := ([a0.C] : List Int)) (fun _ _ => rfl) (sl hg91) (sb hg91 (by decide))) <| ac_c (Built.mk (ty := 3) (es := 1) (enc := eI) (z := 0) (xs := ([a0.B] : List Int)) (fun _ _ => rfl) (by decide : (1 * 1 : Nat) ≤ 16777216)) <| ac_c (Appended.mk (ty := 3) (es := 1) (by_ := 8) (enc := eI) (z := 0) (z' := 0) (xs := (([] : List Int) ++ ([a0.C] : List Int))) (ys := ([a0.B] : List Int)) (fun _ _ => rfl) (sl hg92) (sb hg92 (by decide))) <| ac_nil) ?_
      have h := sm h; subst h
      exact StopP.out .normal (by kernel_rfl) ⟨rfl, [.keep [3] [38]], by kernel_rfl⟩
    · have h := cd_f hb89 h
      refine StopP.advd tbOk [] 100000 1000 (by kernel_rfl) (by kernel_rfl) (ac_nil) ?_
      refine StopP.cond (b := (a0.Op == (3 : Int))) (by kernel_rfl) (fun hb94 => ?_) (fun hb94 => ?_)
      · have h := cd_t hb94 h
        refine StopP.advd tbOk [] 100000 1000 (by kernel_rfl) (by kernel_rfl) (ac_nil) ?_
        refine StopP.condK (b := (a0.Op == (3 : Int))) hb94 (by kernel_rfl) ?_
        refine StopP.reb [.keep [1, 3] [1]] (st' := .at (kid [true, true, false, true, false, false, false, false, false, false, false, false, false, false, false, true, false] (bodyAt Try.f43)) [.code (kid [true, true, false, true, false, false, false, false, false, false, false, false, false, false, true] (bodyAt Try.f43)), .code (kid [true, true, false, true, false, false, false, false, false, false, false, false, false, true] (bodyAt Try.f43)), .blk 1, .code (kid [true, true, false, true, false, false, false, false, false, false, false, true] (bodyAt Try.f43)), .blk 2, .code (kid [true, true, false, true, false, false, false, false, false, true] (bodyAt Try.f43)), .blk 3, .code (kid [true, true, false, true, false, false, false, true] (bodyAt Try.f43)), .blk 4, .code (kid [true, true, false, true, false, true] (bodyAt Try.f43)), .blk 0] ⟨[(1, .yes, v1 (.ptr 1 0 0)), (3, .yes, v1 (cn))], [(1, .box 33 [ci a0.Op, ci a0.A, ci a0.B, ci a0.C, ci a0.Imm])], 55⟩) (by kernel_rfl) (by kernel_rfl) (by kernel_rfl) (by kernel_rfl) rfl ?_
        refine StopP.advd tbOk [] 22 1000 (by kernel_rfl) (by kernel_rfl) (ac_nil) ?_
        refine StopP.chgS [.own (.slot 3 0) 30095 (.rows 3 1 eI 0 [])] (by kernel_rfl) (by kernel_rfl) ?_
        obtain ⟨hg96, h⟩ := gd_some h
        obtain ⟨hg97, h⟩ := gd_some h
        let y98 : List Int := ((([] : List Int) ++ ([a0.C] : List Int)) ++ ([a0.B] : List Int))
        refine StopP.advd tbOk [(22, [(3, .obj (.rows 3 1 eI 0 ([a0.C] : List Int))), (4, .obj (.rows 3 1 eI 0 (([] : List Int) ++ ([a0.C] : List Int))))]), (23, [(3, .obj (.rows 3 1 eI 0 ([a0.B] : List Int))), (4, .obj (.rows 3 1 eI 0 ((([] : List Int) ++ ([a0.C] : List Int)) ++ ([a0.B] : List Int))))])] 100000 1000 (by kernel_rfl) (by kernel_rfl) (ac_c (Built.mk (ty := 3) (es := 1) (enc := eI) (z := 0) (xs := ([a0.C] : List Int)) (fun _ _ => rfl) (by decide : (1 * 1 : Nat) ≤ 16777216)) <| ac_c (Appended.mk (ty := 3) (es := 1) (by_ := 8) (enc := eI) (z := 0) (z' := 0) (xs := ([] : List Int)) (ys := ([a0.C] : List Int)) (fun _ _ => rfl) (sl hg96) (sb hg96 (by decide))) <| ac_c (Built.mk (ty := 3) (es := 1) (enc := eI) (z := 0) (xs := ([a0.B] : List Int)) (fun _ _ => rfl) (by decide : (1 * 1 : Nat) ≤ 16777216)) <| ac_c (Appended.mk (ty := 3) (es := 1) (by_ := 8) (enc := eI) (z := 0) (z' := 0) (xs := (([] : List Int) ++ ([a0.C] : List Int))) (ys := ([a0.B] : List Int)) (fun _ _ => rfl) (sl hg97) (sb hg97 (by decide))) <| ac_nil) ?_
        have h := sm h; subst h
        exact StopP.out .normal (by kernel_rfl) ⟨rfl, [.keep [3] [38]], by kernel_rfl⟩
      · have h := cd_f hb94 h
        refine StopP.advd tbOk [] 100000 1000 (by kernel_rfl) (by kernel_rfl) (ac_nil) ?_
        refine StopP.cond (b := (a0.Op == (4 : Int))) (by kernel_rfl) (fun hb99 => ?_) (fun hb99 => ?_)
        · have h := cd_t hb99 h
          refine StopP.advd tbOk [] 100000 1000 (by kernel_rfl) (by kernel_rfl) (ac_nil) ?_
          refine StopP.condK (b := (a0.Op == (4 : Int))) hb99 (by kernel_rfl) ?_
          refine StopP.reb [.keep [1, 3] [1]] (st' := .at (kid [true, true, false, true, false, false, false, false, false, false, false, false, false, false, false, true, false] (bodyAt Try.f43)) [.code (kid [true, true, false, true, false, false, false, false, false, false, false, false, false, false, true] (bodyAt Try.f43)), .code (kid [true, true, false, true, false, false, false, false, false, false, false, false, false, true] (bodyAt Try.f43)), .blk 1, .code (kid [true, true, false, true, false, false, false, false, false, false, false, true] (bodyAt Try.f43)), .blk 2, .code (kid [true, true, false, true, false, false, false, false, false, true] (bodyAt Try.f43)), .blk 3, .code (kid [true, true, false, true, false, false, false, true] (bodyAt Try.f43)), .blk 4, .code (kid [true, true, false, true, false, true] (bodyAt Try.f43)), .blk 0] ⟨[(1, .yes, v1 (.ptr 1 0 0)), (3, .yes, v1 (cn))], [(1, .box 33 [ci a0.Op, ci a0.A, ci a0.B, ci a0.C, ci a0.Imm])], 55⟩) (by kernel_rfl) (by kernel_rfl) (by kernel_rfl) (by kernel_rfl) rfl ?_
          refine StopP.advd tbOk [] 22 1000 (by kernel_rfl) (by kernel_rfl) (ac_nil) ?_
          refine StopP.chgS [.own (.slot 3 0) 30100 (.rows 3 1 eI 0 [])] (by kernel_rfl) (by kernel_rfl) ?_
          obtain ⟨hg101, h⟩ := gd_some h
          obtain ⟨hg102, h⟩ := gd_some h
          let y103 : List Int := ((([] : List Int) ++ ([a0.C] : List Int)) ++ ([a0.B] : List Int))
          refine StopP.advd tbOk [(22, [(3, .obj (.rows 3 1 eI 0 ([a0.C] : List Int))), (4, .obj (.rows 3 1 eI 0 (([] : List Int) ++ ([a0.C] : List Int))))]), (23, [(3, .obj (.rows 3 1 eI 0 ([a0.B] : List Int))), (4, .obj (.rows 3 1 eI 0 ((([] : List Int) ++ ([a0.C] : List Int)) ++ ([a0.B] : List Int))))])] 100000 1000 (by kernel_rfl) (by kernel_rfl) (ac_c (Built.mk (ty := 3) (es := 1) (enc := eI) (z := 0) (xs := ([a0.C] : List Int)) (fun _ _ => rfl) (by decide : (1 * 1 : Nat) ≤ 16777216)) <| ac_c (Appended.mk (ty := 3) (es := 1) (by_ := 8) (enc := eI) (z := 0) (z' := 0) (xs := ([] : List Int)) (ys := ([a0.C] : List Int)) (fun _ _ => rfl) (sl hg101) (sb hg101 (by decide))) <| ac_c (Built.mk (ty := 3) (es := 1) (enc := eI) (z := 0) (xs := ([a0.B] : List Int)) (fun _ _ => rfl) (by decide : (1 * 1 : Nat) ≤ 16777216)) <| ac_c (Appended.mk (ty := 3) (es := 1) (by_ := 8) (enc := eI) (z := 0) (z' := 0) (xs := (([] : List Int) ++ ([a0.C] : List Int))) (ys := ([a0.B] : List Int)) (fun _ _ => rfl) (sl hg102) (sb hg102 (by decide))) <| ac_nil) ?_
          have h := sm h; subst h
          exact StopP.out .normal (by kernel_rfl) ⟨rfl, [.keep [3] [38]], by kernel_rfl⟩
        · have h := cd_f hb99 h
          refine StopP.reb [.keep [1, 3, 5] [1]] (st' := .at (kid [true, true, false, true, false, false, false, false, false, false, false, false, false, false, false, false, true, true, true, true, true, true, true, true] (bodyAt Try.f43)) [.code (kid [true, true, false, true, false, false, false, false, false, false, false, false, false, false, false, true] (bodyAt Try.f43)), .code (kid [true, true, false, true, false, false, false, false, false, false, false, false, false, false, true] (bodyAt Try.f43)), .code (kid [true, true, false, true, false, false, false, false, false, false, false, false, false, true] (bodyAt Try.f43)), .blk 1, .code (kid [true, true, false, true, false, false, false, false, false, false, false, true] (bodyAt Try.f43)), .blk 2, .code (kid [true, true, false, true, false, false, false, false, false, true] (bodyAt Try.f43)), .blk 3, .code (kid [true, true, false, true, false, false, false, true] (bodyAt Try.f43)), .blk 4, .code (kid [true, true, false, true, false, true] (bodyAt Try.f43)), .blk 0] ⟨[(1, .yes, v1 (.ptr 1 0 0)), (3, .yes, v1 (cn)), (5, .yes, v1 (ci a0.Op))], [(1, .box 33 [ci a0.Op, ci a0.A, ci a0.B, ci a0.C, ci a0.Imm])], 55⟩) (by kernel_rfl) (by kernel_rfl) (by kernel_rfl) (by kernel_rfl) rfl ?_
          refine StopP.advd tbOk [] 100000 1000 (by kernel_rfl) (by kernel_rfl) (ac_nil) ?_
          refine StopP.cond (b := (a0.Op == (5 : Int))) (by kernel_rfl) (fun hb104 => ?_) (fun hb104 => ?_)
          · have h := cd_t hb104 h
            refine StopP.advd tbOk [] 100000 1000 (by kernel_rfl) (by kernel_rfl) (ac_nil) ?_
            refine StopP.condK (b := (a0.Op == (5 : Int))) hb104 (by kernel_rfl) ?_
            refine StopP.advd tbOk [] 22 1000 (by kernel_rfl) (by kernel_rfl) (ac_nil) ?_
            refine StopP.chgS [.own (.slot 3 0) 30105 (.rows 3 1 eI 0 [])] (by kernel_rfl) (by kernel_rfl) ?_
            obtain ⟨hg106, h⟩ := gd_some h
            obtain ⟨hg107, h⟩ := gd_some h
            let y108 : List Int := ((([] : List Int) ++ ([a0.C] : List Int)) ++ ([a0.B] : List Int))
            refine StopP.advd tbOk [(22, [(3, .obj (.rows 3 1 eI 0 ([a0.C] : List Int))), (4, .obj (.rows 3 1 eI 0 (([] : List Int) ++ ([a0.C] : List Int))))]), (23, [(3, .obj (.rows 3 1 eI 0 ([a0.B] : List Int))), (4, .obj (.rows 3 1 eI 0 ((([] : List Int) ++ ([a0.C] : List Int)) ++ ([a0.B] : List Int))))])] 100000 1000 (by kernel_rfl) (by kernel_rfl) (ac_c (Built.mk (ty := 3) (es := 1) (enc := eI) (z := 0) (xs := ([a0.C] : List Int)) (fun _ _ => rfl) (by decide : (1 * 1 : Nat) ≤ 16777216)) <| ac_c (Appended.mk (ty := 3) (es := 1) (by_ := 8) (enc := eI) (z := 0) (z' := 0) (xs := ([] : List Int)) (ys := ([a0.C] : List Int)) (fun _ _ => rfl) (sl hg106) (sb hg106 (by decide))) <| ac_c (Built.mk (ty := 3) (es := 1) (enc := eI) (z := 0) (xs := ([a0.B] : List Int)) (fun _ _ => rfl) (by decide : (1 * 1 : Nat) ≤ 16777216)) <| ac_c (Appended.mk (ty := 3) (es := 1) (by_ := 8) (enc := eI) (z := 0) (z' := 0) (xs := (([] : List Int) ++ ([a0.C] : List Int))) (ys := ([a0.B] : List Int)) (fun _ _ => rfl) (sl hg107) (sb hg107 (by decide))) <| ac_nil) ?_
            have h := sm h; subst h
            exact StopP.out .normal (by kernel_rfl) ⟨rfl, [.keep [3] [38]], by kernel_rfl⟩
          · have h := cd_f hb104 h
            refine StopP.advd tbOk [] 100000 1000 (by kernel_rfl) (by kernel_rfl) (ac_nil) ?_
            refine StopP.cond (b := (a0.Op == (6 : Int))) (by kernel_rfl) (fun hb109 => ?_) (fun hb109 => ?_)
            · have h := cd_t hb109 h
              refine StopP.advd tbOk [] 100000 1000 (by kernel_rfl) (by kernel_rfl) (ac_nil) ?_
              refine StopP.condK (b := (a0.Op == (6 : Int))) hb109 (by kernel_rfl) ?_
              refine StopP.advd tbOk [] 22 1000 (by kernel_rfl) (by kernel_rfl) (ac_nil) ?_
              refine StopP.chgS [.own (.slot 3 0) 30110 (.rows 3 1 eI 0 [])] (by kernel_rfl) (by kernel_rfl) ?_
              refine StopP.reb [.keep [1, 3] [1, 30110]] (st' := .at (kid [true, true, false, true, false, false, false, false, false, false, false, true] (bodyAt Try.f43)) [.blk 2, .code (kid [true, true, false, true, false, false, false, false, false, true] (bodyAt Try.f43)), .blk 3, .code (kid [true, true, false, true, false, false, false, true] (bodyAt Try.f43)), .blk 4, .code (kid [true, true, false, true, false, true] (bodyAt Try.f43)), .blk 0] ⟨[(1, .yes, v1 (.ptr 1 0 0)), (3, .yes, v1 (.own 30110))], [(1, .box 33 [ci a0.Op, ci a0.A, ci a0.B, ci a0.C, ci a0.Imm]), (30110, .rows 3 1 eI 0 ([]))], 55⟩) (by kernel_rfl) (by kernel_rfl) (by kernel_rfl) (by kernel_rfl) rfl ?_
              obtain ⟨hg111, h⟩ := gd_some h
              obtain ⟨hg112, h⟩ := gd_some h
              let y113 : List Int := ((([] : List Int) ++ ([a0.C] : List Int)) ++ ([a0.B] : List Int))
              refine StopP.advd tbOk [(22, [(3, .obj (.rows 3 1 eI 0 ([a0.C] : List Int))), (4, .obj (.rows 3 1 eI 0 (([] : List Int) ++ ([a0.C] : List Int))))]), (23, [(3, .obj (.rows 3 1 eI 0 ([a0.B] : List Int))), (4, .obj (.rows 3 1 eI 0 ((([] : List Int) ++ ([a0.C] : List Int)) ++ ([a0.B] : List Int))))])] 100000 1000 (by kernel_rfl) (by kernel_rfl) (ac_c (Built.mk (ty := 3) (es := 1) (enc := eI) (z := 0) (xs := ([a0.C] : List Int)) (fun _ _ => rfl) (by decide : (1 * 1 : Nat) ≤ 16777216)) <| ac_c (Appended.mk (ty := 3) (es := 1) (by_ := 8) (enc := eI) (z := 0) (z' := 0) (xs := ([] : List Int)) (ys := ([a0.C] : List Int)) (fun _ _ => rfl) (sl hg111) (sb hg111 (by decide))) <| ac_c (Built.mk (ty := 3) (es := 1) (enc := eI) (z := 0) (xs := ([a0.B] : List Int)) (fun _ _ => rfl) (by decide : (1 * 1 : Nat) ≤ 16777216)) <| ac_c (Appended.mk (ty := 3) (es := 1) (by_ := 8) (enc := eI) (z := 0) (z' := 0) (xs := (([] : List Int) ++ ([a0.C] : List Int))) (ys := ([a0.B] : List Int)) (fun _ _ => rfl) (sl hg112) (sb hg112 (by decide))) <| ac_nil) ?_
              have h := sm h; subst h
              exact StopP.out .normal (by kernel_rfl) ⟨rfl, [.keep [3] [38]], by kernel_rfl⟩
            · have h := cd_f hb109 h
              refine StopP.advd tbOk [] 100000 1000 (by kernel_rfl) (by kernel_rfl) (ac_nil) ?_
              refine StopP.cond (b := (a0.Op == (7 : Int))) (by kernel_rfl) (fun hb114 => ?_) (fun hb114 => ?_)
              · have h := cd_t hb114 h
                refine StopP.advd tbOk [] 22 1000 (by kernel_rfl) (by kernel_rfl) (ac_nil) ?_
                refine StopP.chgS [.own (.slot 3 0) 30115 (.rows 3 1 eI 0 [])] (by kernel_rfl) (by kernel_rfl) ?_
                refine StopP.reb [.keep [1, 3] [1, 30115]] (st' := .at (kid [true, true, false, true, false, false, false, false, false, false, false, true] (bodyAt Try.f43)) [.blk 2, .code (kid [true, true, false, true, false, false, false, false, false, true] (bodyAt Try.f43)), .blk 3, .code (kid [true, true, false, true, false, false, false, true] (bodyAt Try.f43)), .blk 4, .code (kid [true, true, false, true, false, true] (bodyAt Try.f43)), .blk 0] ⟨[(1, .yes, v1 (.ptr 1 0 0)), (3, .yes, v1 (.own 30115))], [(1, .box 33 [ci a0.Op, ci a0.A, ci a0.B, ci a0.C, ci a0.Imm]), (30115, .rows 3 1 eI 0 ([]))], 55⟩) (by kernel_rfl) (by kernel_rfl) (by kernel_rfl) (by kernel_rfl) rfl ?_
                obtain ⟨hg116, h⟩ := gd_some h
                obtain ⟨hg117, h⟩ := gd_some h
                let y118 : List Int := ((([] : List Int) ++ ([a0.C] : List Int)) ++ ([a0.B] : List Int))
                refine StopP.advd tbOk [(22, [(3, .obj (.rows 3 1 eI 0 ([a0.C] : List Int))), (4, .obj (.rows 3 1 eI 0 (([] : List Int) ++ ([a0.C] : List Int))))]), (23, [(3, .obj (.rows 3 1 eI 0 ([a0.B] : List Int))), (4, .obj (.rows 3 1 eI 0 ((([] : List Int) ++ ([a0.C] : List Int)) ++ ([a0.B] : List Int))))])] 100000 1000 (by kernel_rfl) (by kernel_rfl) (ac_c (Built.mk (ty := 3) (es := 1) (enc := eI) (z := 0) (xs := ([a0.C] : List Int)) (fun _ _ => rfl) (by decide : (1 * 1 : Nat) ≤ 16777216)) <| ac_c (Appended.mk (ty := 3) (es := 1) (by_ := 8) (enc := eI) (z := 0) (z' := 0) (xs := ([] : List Int)) (ys := ([a0.C] : List Int)) (fun _ _ => rfl) (sl hg116) (sb hg116 (by decide))) <| ac_c (Built.mk (ty := 3) (es := 1) (enc := eI) (z := 0) (xs := ([a0.B] : List Int)) (fun _ _ => rfl) (by decide : (1 * 1 : Nat) ≤ 16777216)) <| ac_c (Appended.mk (ty := 3) (es := 1) (by_ := 8) (enc := eI) (z := 0) (z' := 0) (xs := (([] : List Int) ++ ([a0.C] : List Int))) (ys := ([a0.B] : List Int)) (fun _ _ => rfl) (sl hg117) (sb hg117 (by decide))) <| ac_nil) ?_
                have h := sm h; subst h
                exact StopP.out .normal (by kernel_rfl) ⟨rfl, [.keep [3] [38]], by kernel_rfl⟩
              · have h := cd_f hb114 h
                refine StopP.advd tbOk [] 100000 1000 (by kernel_rfl) (by kernel_rfl) (ac_nil) ?_
                refine StopP.cond (b := (a0.Op == (8 : Int))) (by kernel_rfl) (fun hb119 => ?_) (fun hb119 => ?_)
                · have h := cd_t hb119 h
                  refine StopP.advd tbOk [] 100000 1000 (by kernel_rfl) (by kernel_rfl) (ac_nil) ?_
                  refine StopP.condK (b := (a0.Op == (8 : Int))) hb119 (by kernel_rfl) ?_
                  refine StopP.reb [.keep [1, 3] [1]] (st' := .at (kid [true, true, false, true, false, false, false, false, false, false, false, false, false, false, true, false, true, false] (bodyAt Try.f43)) [.code (kid [true, true, false, true, false, false, false, false, false, false, false, false, false, false, true, true] (bodyAt Try.f43)), .code (kid [true, true, false, true, false, false, false, false, false, false, false, false, false, true] (bodyAt Try.f43)), .blk 1, .code (kid [true, true, false, true, false, false, false, false, false, false, false, true] (bodyAt Try.f43)), .blk 2, .code (kid [true, true, false, true, false, false, false, false, false, true] (bodyAt Try.f43)), .blk 3, .code (kid [true, true, false, true, false, false, false, true] (bodyAt Try.f43)), .blk 4, .code (kid [true, true, false, true, false, true] (bodyAt Try.f43)), .blk 0] ⟨[(1, .yes, v1 (.ptr 1 0 0)), (3, .yes, v1 (cn))], [(1, .box 33 [ci a0.Op, ci a0.A, ci a0.B, ci a0.C, ci a0.Imm])], 55⟩) (by kernel_rfl) (by kernel_rfl) (by kernel_rfl) (by kernel_rfl) rfl ?_
                  refine StopP.advd tbOk [] 23 1000 (by kernel_rfl) (by kernel_rfl) (ac_nil) ?_
                  refine StopP.chgS [.own (.slot 3 0) 30120 (.rows 3 1 eI 0 [])] (by kernel_rfl) (by kernel_rfl) ?_
                  obtain ⟨hg121, h⟩ := gd_some h
                  refine StopP.advd tbOk [(23, [(3, .obj (.rows 3 1 eI 0 ([a0.B] : List Int))), (4, .obj (.rows 3 1 eI 0 (([] : List Int) ++ ([a0.B] : List Int))))])] 100000 1000 (by kernel_rfl) (by kernel_rfl) (ac_c (Built.mk (ty := 3) (es := 1) (enc := eI) (z := 0) (xs := ([a0.B] : List Int)) (fun _ _ => rfl) (by decide : (1 * 1 : Nat) ≤ 16777216)) <| ac_c (Appended.mk (ty := 3) (es := 1) (by_ := 8) (enc := eI) (z := 0) (z' := 0) (xs := ([] : List Int)) (ys := ([a0.B] : List Int)) (fun _ _ => rfl) (sl hg121) (sb hg121 (by decide))) <| ac_nil) ?_
                  have h := sm h; subst h
                  exact StopP.out .normal (by kernel_rfl) ⟨rfl, [.keep [3] [38]], by kernel_rfl⟩
                · have h := cd_f hb119 h
                  refine StopP.reb [.keep [1, 3, 5] [1]] (st' := .at (kid [true, true, false, true, false, false, false, false, false, false, false, false, false, false, true, false, false, true, true] (bodyAt Try.f43)) [.code (kid [true, true, false, true, false, false, false, false, false, false, false, false, false, false, true, false, true] (bodyAt Try.f43)), .code (kid [true, true, false, true, false, false, false, false, false, false, false, false, false, false, true, true] (bodyAt Try.f43)), .code (kid [true, true, false, true, false, false, false, false, false, false, false, false, false, true] (bodyAt Try.f43)), .blk 1, .code (kid [true, true, false, true, false, false, false, false, false, false, false, true] (bodyAt Try.f43)), .blk 2, .code (kid [true, true, false, true, false, false, false, false, false, true] (bodyAt Try.f43)), .blk 3, .code (kid [true, true, false, true, false, false, false, true] (bodyAt Try.f43)), .blk 4, .code (kid [true, true, false, true, false, true] (bodyAt Try.f43)), .blk 0] ⟨[(1, .yes, v1 (.ptr 1 0 0)), (3, .yes, v1 (cn)), (5, .yes, v1 (ci a0.Op))], [(1, .box 33 [ci a0.Op, ci a0.A, ci a0.B, ci a0.C, ci a0.Imm])], 55⟩) (by kernel_rfl) (by kernel_rfl) (by kernel_rfl) (by kernel_rfl) rfl ?_
                  refine StopP.advd tbOk [] 100000 1000 (by kernel_rfl) (by kernel_rfl) (ac_nil) ?_
                  refine StopP.cond (b := (a0.Op == (10 : Int))) (by kernel_rfl) (fun hb122 => ?_) (fun hb122 => ?_)
                  · have h := cd_t hb122 h
                    refine StopP.advd tbOk [] 100000 1000 (by kernel_rfl) (by kernel_rfl) (ac_nil) ?_
                    refine StopP.condK (b := (a0.Op == (10 : Int))) hb122 (by kernel_rfl) ?_
                    refine StopP.advd tbOk [] 23 1000 (by kernel_rfl) (by kernel_rfl) (ac_nil) ?_
                    refine StopP.chgS [.own (.slot 3 0) 30123 (.rows 3 1 eI 0 [])] (by kernel_rfl) (by kernel_rfl) ?_
                    obtain ⟨hg124, h⟩ := gd_some h
                    refine StopP.advd tbOk [(23, [(3, .obj (.rows 3 1 eI 0 ([a0.B] : List Int))), (4, .obj (.rows 3 1 eI 0 (([] : List Int) ++ ([a0.B] : List Int))))])] 100000 1000 (by kernel_rfl) (by kernel_rfl) (ac_c (Built.mk (ty := 3) (es := 1) (enc := eI) (z := 0) (xs := ([a0.B] : List Int)) (fun _ _ => rfl) (by decide : (1 * 1 : Nat) ≤ 16777216)) <| ac_c (Appended.mk (ty := 3) (es := 1) (by_ := 8) (enc := eI) (z := 0) (z' := 0) (xs := ([] : List Int)) (ys := ([a0.B] : List Int)) (fun _ _ => rfl) (sl hg124) (sb hg124 (by decide))) <| ac_nil) ?_
                    have h := sm h; subst h
                    exact StopP.out .normal (by kernel_rfl) ⟨rfl, [.keep [3] [38]], by kernel_rfl⟩
                  · have h := cd_f hb122 h
                    refine StopP.advd tbOk [] 100000 1000 (by kernel_rfl) (by kernel_rfl) (ac_nil) ?_
                    refine StopP.cond (b := (a0.Op == (11 : Int))) (by kernel_rfl) (fun hb125 => ?_) (fun hb125 => ?_)
                    · have h := cd_t hb125 h
                      refine StopP.advd tbOk [] 100000 1000 (by kernel_rfl) (by kernel_rfl) (ac_nil) ?_
                      refine StopP.condK (b := (a0.Op == (11 : Int))) hb125 (by kernel_rfl) ?_
                      refine StopP.advd tbOk [] 23 1000 (by kernel_rfl) (by kernel_rfl) (ac_nil) ?_
                      refine StopP.chgS [.own (.slot 3 0) 30126 (.rows 3 1 eI 0 [])] (by kernel_rfl) (by kernel_rfl) ?_
                      refine StopP.reb [.keep [1, 3] [1, 30126]] (st' := .at (kid [true, true, false, true, false, false, false, false, false, true, false] (bodyAt Try.f43)) [.code (kid [true, true, false, true, false, false, false, false, false, true, true] (bodyAt Try.f43)), .blk 3, .code (kid [true, true, false, true, false, false, false, true] (bodyAt Try.f43)), .blk 4, .code (kid [true, true, false, true, false, true] (bodyAt Try.f43)), .blk 0] ⟨[(1, .yes, v1 (.ptr 1 0 0)), (3, .yes, v1 (.own 30126))], [(1, .box 33 [ci a0.Op, ci a0.A, ci a0.B, ci a0.C, ci a0.Imm]), (30126, .rows 3 1 eI 0 ([]))], 55⟩) (by kernel_rfl) (by kernel_rfl) (by kernel_rfl) (by kernel_rfl) rfl ?_
                      obtain ⟨hg127, h⟩ := gd_some h
                      refine StopP.advd tbOk [(23, [(3, .obj (.rows 3 1 eI 0 ([a0.B] : List Int))), (4, .obj (.rows 3 1 eI 0 (([] : List Int) ++ ([a0.B] : List Int))))])] 100000 1000 (by kernel_rfl) (by kernel_rfl) (ac_c (Built.mk (ty := 3) (es := 1) (enc := eI) (z := 0) (xs := ([a0.B] : List Int)) (fun _ _ => rfl) (by decide : (1 * 1 : Nat) ≤ 16777216)) <| ac_c (Appended.mk (ty := 3) (es := 1) (by_ := 8) (enc := eI) (z := 0) (z' := 0) (xs := ([] : List Int)) (ys := ([a0.B] : List Int)) (fun _ _ => rfl) (sl hg127) (sb hg127 (by decide))) <| ac_nil) ?_
                      have h := sm h; subst h
                      exact StopP.out .normal (by kernel_rfl) ⟨rfl, [.keep [3] [38]], by kernel_rfl⟩
                    · have h := cd_f hb125 h
                      refine StopP.advd tbOk [] 100000 1000 (by kernel_rfl) (by kernel_rfl) (ac_nil) ?_
                      refine StopP.cond (b := (a0.Op == (13 : Int))) (by kernel_rfl) (fun hb128 => ?_) (fun hb128 => ?_)
                      · have h := cd_t hb128 h
                        refine StopP.advd tbOk [] 23 1000 (by kernel_rfl) (by kernel_rfl) (ac_nil) ?_
                        refine StopP.chgS [.own (.slot 3 0) 30129 (.rows 3 1 eI 0 [])] (by kernel_rfl) (by kernel_rfl) ?_
                        refine StopP.reb [.keep [1, 3] [1, 30129]] (st' := .at (kid [true, true, false, true, false, false, false, false, false, true, false] (bodyAt Try.f43)) [.code (kid [true, true, false, true, false, false, false, false, false, true, true] (bodyAt Try.f43)), .blk 3, .code (kid [true, true, false, true, false, false, false, true] (bodyAt Try.f43)), .blk 4, .code (kid [true, true, false, true, false, true] (bodyAt Try.f43)), .blk 0] ⟨[(1, .yes, v1 (.ptr 1 0 0)), (3, .yes, v1 (.own 30129))], [(1, .box 33 [ci a0.Op, ci a0.A, ci a0.B, ci a0.C, ci a0.Imm]), (30129, .rows 3 1 eI 0 ([]))], 55⟩) (by kernel_rfl) (by kernel_rfl) (by kernel_rfl) (by kernel_rfl) rfl ?_
                        obtain ⟨hg130, h⟩ := gd_some h
                        refine StopP.advd tbOk [(23, [(3, .obj (.rows 3 1 eI 0 ([a0.B] : List Int))), (4, .obj (.rows 3 1 eI 0 (([] : List Int) ++ ([a0.B] : List Int))))])] 100000 1000 (by kernel_rfl) (by kernel_rfl) (ac_c (Built.mk (ty := 3) (es := 1) (enc := eI) (z := 0) (xs := ([a0.B] : List Int)) (fun _ _ => rfl) (by decide : (1 * 1 : Nat) ≤ 16777216)) <| ac_c (Appended.mk (ty := 3) (es := 1) (by_ := 8) (enc := eI) (z := 0) (z' := 0) (xs := ([] : List Int)) (ys := ([a0.B] : List Int)) (fun _ _ => rfl) (sl hg130) (sb hg130 (by decide))) <| ac_nil) ?_
                        have h := sm h; subst h
                        exact StopP.out .normal (by kernel_rfl) ⟨rfl, [.keep [3] [38]], by kernel_rfl⟩
                      · have h := cd_f hb128 h
                        refine StopP.advd tbOk [] 100000 1000 (by kernel_rfl) (by kernel_rfl) (ac_nil) ?_
                        refine StopP.cond (b := (a0.Op == (12 : Int))) (by kernel_rfl) (fun hb131 => ?_) (fun hb131 => ?_)
                        · have h := cd_t hb131 h
                          refine StopP.advd tbOk [] 100000 1000 (by kernel_rfl) (by kernel_rfl) (ac_nil) ?_
                          refine StopP.condK (b := (a0.Op == (12 : Int))) hb131 (by kernel_rfl) ?_
                          refine StopP.reb [.keep [1, 3] [1]] (st' := .at (kid [true, true, false, true, false, false, false, false, false, false, false, false, false, false, true, true, false, true, false] (bodyAt Try.f43)) [.code (kid [true, true, false, true, false, false, false, false, false, false, false, false, false, false, true, true, true] (bodyAt Try.f43)), .code (kid [true, true, false, true, false, false, false, false, false, false, false, false, false, true] (bodyAt Try.f43)), .blk 1, .code (kid [true, true, false, true, false, false, false, false, false, false, false, true] (bodyAt Try.f43)), .blk 2, .code (kid [true, true, false, true, false, false, false, false, false, true] (bodyAt Try.f43)), .blk 3, .code (kid [true, true, false, true, false, false, false, true] (bodyAt Try.f43)), .blk 4, .code (kid [true, true, false, true, false, true] (bodyAt Try.f43)), .blk 0] ⟨[(1, .yes, v1 (.ptr 1 0 0)), (3, .yes, v1 (cn))], [(1, .box 33 [ci a0.Op, ci a0.A, ci a0.B, ci a0.C, ci a0.Imm])], 55⟩) (by kernel_rfl) (by kernel_rfl) (by kernel_rfl) (by kernel_rfl) rfl ?_
                          refine StopP.advd tbOk [] 24 1000 (by kernel_rfl) (by kernel_rfl) (ac_nil) ?_
                          refine StopP.chgS [.own (.slot 3 0) 30132 (.rows 3 1 eI 0 [])] (by kernel_rfl) (by kernel_rfl) ?_
                          obtain ⟨hg133, h⟩ := gd_some h
                          obtain ⟨hg134, h⟩ := gd_some h
                          let y135 : List Int := ((([] : List Int) ++ ([a0.B] : List Int)) ++ ([a0.A] : List Int))
                          refine StopP.advd tbOk [(24, [(3, .obj (.rows 3 1 eI 0 ([a0.B] : List Int))), (4, .obj (.rows 3 1 eI 0 (([] : List Int) ++ ([a0.B] : List Int))))]), (25, [(3, .obj (.rows 3 1 eI 0 ([a0.A] : List Int))), (4, .obj (.rows 3 1 eI 0 ((([] : List Int) ++ ([a0.B] : List Int)) ++ ([a0.A] : List Int))))])] 100000 1000 (by kernel_rfl) (by kernel_rfl) (ac_c (Built.mk (ty := 3) (es := 1) (enc := eI) (z := 0) (xs := ([a0.B] : List Int)) (fun _ _ => rfl) (by decide : (1 * 1 : Nat) ≤ 16777216)) <| ac_c (Appended.mk (ty := 3) (es := 1) (by_ := 8) (enc := eI) (z := 0) (z' := 0) (xs := ([] : List Int)) (ys := ([a0.B] : List Int)) (fun _ _ => rfl) (sl hg133) (sb hg133 (by decide))) <| ac_c (Built.mk (ty := 3) (es := 1) (enc := eI) (z := 0) (xs := ([a0.A] : List Int)) (fun _ _ => rfl) (by decide : (1 * 1 : Nat) ≤ 16777216)) <| ac_c (Appended.mk (ty := 3) (es := 1) (by_ := 8) (enc := eI) (z := 0) (z' := 0) (xs := (([] : List Int) ++ ([a0.B] : List Int))) (ys := ([a0.A] : List Int)) (fun _ _ => rfl) (sl hg134) (sb hg134 (by decide))) <| ac_nil) ?_
                          have h := sm h; subst h
                          exact StopP.out .normal (by kernel_rfl) ⟨rfl, [.keep [3] [48], .ren [(48, 38)]], by kernel_rfl⟩
                        · have h := cd_f hb131 h
                          refine StopP.reb [.keep [1, 3, 5] [1]] (st' := .at (kid [true, true, false, true, false, false, false, false, false, false, false, false, false, false, true, true, false, false, true, true] (bodyAt Try.f43)) [.code (kid [true, true, false, true, false, false, false, false, false, false, false, false, false, false, true, true, false, true] (bodyAt Try.f43)), .code (kid [true, true, false, true, false, false, false, false, false, false, false, false, false, false, true, true, true] (bodyAt Try.f43)), .code (kid [true, true, false, true, false, false, false, false, false, false, false, false, false, true] (bodyAt Try.f43)), .blk 1, .code (kid [true, true, false, true, false, false, false, false, false, false, false, true] (bodyAt Try.f43)), .blk 2, .code (kid [true, true, false, true, false, false, false, false, false, true] (bodyAt Try.f43)), .blk 3, .code (kid [true, true, false, true, false, false, false, true] (bodyAt Try.f43)), .blk 4, .code (kid [true, true, false, true, false, true] (bodyAt Try.f43)), .blk 0] ⟨[(1, .yes, v1 (.ptr 1 0 0)), (3, .yes, v1 (cn)), (5, .yes, v1 (ci a0.Op))], [(1, .box 33 [ci a0.Op, ci a0.A, ci a0.B, ci a0.C, ci a0.Imm])], 55⟩) (by kernel_rfl) (by kernel_rfl) (by kernel_rfl) (by kernel_rfl) rfl ?_
                          refine StopP.advd tbOk [] 100000 1000 (by kernel_rfl) (by kernel_rfl) (ac_nil) ?_
                          refine StopP.cond (b := (a0.Op == (14 : Int))) (by kernel_rfl) (fun hb136 => ?_) (fun hb136 => ?_)
                          · have h := cd_t hb136 h
                            refine StopP.advd tbOk [] 100000 1000 (by kernel_rfl) (by kernel_rfl) (ac_nil) ?_
                            refine StopP.condK (b := (a0.Op == (14 : Int))) hb136 (by kernel_rfl) ?_
                            refine StopP.advd tbOk [] 24 1000 (by kernel_rfl) (by kernel_rfl) (ac_nil) ?_
                            refine StopP.chgS [.own (.slot 3 0) 30137 (.rows 3 1 eI 0 [])] (by kernel_rfl) (by kernel_rfl) ?_
                            obtain ⟨hg138, h⟩ := gd_some h
                            obtain ⟨hg139, h⟩ := gd_some h
                            let y140 : List Int := ((([] : List Int) ++ ([a0.B] : List Int)) ++ ([a0.A] : List Int))
                            refine StopP.advd tbOk [(24, [(3, .obj (.rows 3 1 eI 0 ([a0.B] : List Int))), (4, .obj (.rows 3 1 eI 0 (([] : List Int) ++ ([a0.B] : List Int))))]), (25, [(3, .obj (.rows 3 1 eI 0 ([a0.A] : List Int))), (4, .obj (.rows 3 1 eI 0 ((([] : List Int) ++ ([a0.B] : List Int)) ++ ([a0.A] : List Int))))])] 100000 1000 (by kernel_rfl) (by kernel_rfl) (ac_c (Built.mk (ty := 3) (es := 1) (enc := eI) (z := 0) (xs := ([a0.B] : List Int)) (fun _ _ => rfl) (by decide : (1 * 1 : Nat) ≤ 16777216)) <| ac_c (Appended.mk (ty := 3) (es := 1) (by_ := 8) (enc := eI) (z := 0) (z' := 0) (xs := ([] : List Int)) (ys := ([a0.B] : List Int)) (fun _ _ => rfl) (sl hg138) (sb hg138 (by decide))) <| ac_c (Built.mk (ty := 3) (es := 1) (enc := eI) (z := 0) (xs := ([a0.A] : List Int)) (fun _ _ => rfl) (by decide : (1 * 1 : Nat) ≤ 16777216)) <| ac_c (Appended.mk (ty := 3) (es := 1) (by_ := 8) (enc := eI) (z := 0) (z' := 0) (xs := (([] : List Int) ++ ([a0.B] : List Int))) (ys := ([a0.A] : List Int)) (fun _ _ => rfl) (sl hg139) (sb hg139 (by decide))) <| ac_nil) ?_
                            have h := sm h; subst h
                            exact StopP.out .normal (by kernel_rfl) ⟨rfl, [.keep [3] [48], .ren [(48, 38)]], by kernel_rfl⟩
                          · have h := cd_f hb136 h
                            refine StopP.advd tbOk [] 100000 1000 (by kernel_rfl) (by kernel_rfl) (ac_nil) ?_
                            refine StopP.cond (b := (a0.Op == (15 : Int))) (by kernel_rfl) (fun hb141 => ?_) (fun hb141 => ?_)
                            · have h := cd_t hb141 h
                              refine StopP.advd tbOk [] 100000 1000 (by kernel_rfl) (by kernel_rfl) (ac_nil) ?_
                              refine StopP.condK (b := (a0.Op == (15 : Int))) hb141 (by kernel_rfl) ?_
                              refine StopP.advd tbOk [] 24 1000 (by kernel_rfl) (by kernel_rfl) (ac_nil) ?_
                              refine StopP.chgS [.own (.slot 3 0) 30142 (.rows 3 1 eI 0 [])] (by kernel_rfl) (by kernel_rfl) ?_
                              refine StopP.reb [.keep [1, 3] [1, 30142]] (st' := .at (kid [true, true, false, true, false, false, false, true] (bodyAt Try.f43)) [.blk 4, .code (kid [true, true, false, true, false, true] (bodyAt Try.f43)), .blk 0] ⟨[(1, .yes, v1 (.ptr 1 0 0)), (3, .yes, v1 (.own 30142))], [(1, .box 33 [ci a0.Op, ci a0.A, ci a0.B, ci a0.C, ci a0.Imm]), (30142, .rows 3 1 eI 0 ([]))], 55⟩) (by kernel_rfl) (by kernel_rfl) (by kernel_rfl) (by kernel_rfl) rfl ?_
                              obtain ⟨hg143, h⟩ := gd_some h
                              obtain ⟨hg144, h⟩ := gd_some h
                              let y145 : List Int := ((([] : List Int) ++ ([a0.B] : List Int)) ++ ([a0.A] : List Int))
                              refine StopP.advd tbOk [(24, [(3, .obj (.rows 3 1 eI 0 ([a0.B] : List Int))), (4, .obj (.rows 3 1 eI 0 (([] : List Int) ++ ([a0.B] : List Int))))]), (25, [(3, .obj (.rows 3 1 eI 0 ([a0.A] : List Int))), (4, .obj (.rows 3 1 eI 0 ((([] : List Int) ++ ([a0.B] : List Int)) ++ ([a0.A] : List Int))))])] 100000 1000 (by kernel_rfl) (by kernel_rfl) (ac_c (Built.mk (ty := 3) (es := 1) (enc := eI) (z := 0) (xs := ([a0.B] : List Int)) (fun _ _ => rfl) (by decide : (1 * 1 : Nat) ≤ 16777216)) <| ac_c (Appended.mk (ty := 3) (es := 1) (by_ := 8) (enc := eI) (z := 0) (z' := 0) (xs := ([] : List Int)) (ys := ([a0.B] : List Int)) (fun _ _ => rfl) (sl hg143) (sb hg143 (by decide))) <| ac_c (Built.mk (ty := 3) (es := 1) (enc := eI) (z := 0) (xs := ([a0.A] : List Int)) (fun _ _ => rfl) (by decide : (1 * 1 : Nat) ≤ 16777216)) <| ac_c (Appended.mk (ty := 3) (es := 1) (by_ := 8) (enc := eI) (z := 0) (z' := 0) (xs := (([] : List Int) ++ ([a0.B] : List Int))) (ys := ([a0.A] : List Int)) (fun _ _ => rfl) (sl hg144) (sb hg144 (by decide))) <| ac_nil) ?_
                              have h := sm h; subst h
                              exact StopP.out .normal (by kernel_rfl) ⟨rfl, [.keep [3] [48], .ren [(48, 38)]], by kernel_rfl⟩
                            · have h := cd_f hb141 h
                              refine StopP.advd tbOk [] 100000 1000 (by kernel_rfl) (by kernel_rfl) (ac_nil) ?_
                              refine StopP.cond (b := (a0.Op == (16 : Int))) (by kernel_rfl) (fun hb146 => ?_) (fun hb146 => ?_)
                              · have h := cd_t hb146 h
                                refine StopP.advd tbOk [] 100000 1000 (by kernel_rfl) (by kernel_rfl) (ac_nil) ?_
                                refine StopP.condK (b := (a0.Op == (16 : Int))) hb146 (by kernel_rfl) ?_
                                refine StopP.reb [.keep [1, 3] [1]] (st' := .at (kid [true, true, false, true, false, false, false, false, false, false, false, false, false, false, true, true, false, true, false] (bodyAt Try.f43)) [.code (kid [true, true, false, true, false, false, false, false, false, false, false, false, false, false, true, true, true] (bodyAt Try.f43)), .code (kid [true, true, false, true, false, false, false, false, false, false, false, false, false, true] (bodyAt Try.f43)), .blk 1, .code (kid [true, true, false, true, false, false, false, false, false, false, false, true] (bodyAt Try.f43)), .blk 2, .code (kid [true, true, false, true, false, false, false, false, false, true] (bodyAt Try.f43)), .blk 3, .code (kid [true, true, false, true, false, false, false, true] (bodyAt Try.f43)), .blk 4, .code (kid [true, true, false, true, false, true] (bodyAt Try.f43)), .blk 0] ⟨[(1, .yes, v1 (.ptr 1 0 0)), (3, .yes, v1 (cn))], [(1, .box 33 [ci a0.Op, ci a0.A, ci a0.B, ci a0.C, ci a0.Imm])], 55⟩) (by kernel_rfl) (by kernel_rfl) (by kernel_rfl) (by kernel_rfl) rfl ?_
                                refine StopP.advd tbOk [] 24 1000 (by kernel_rfl) (by kernel_rfl) (ac_nil) ?_
                                refine StopP.chgS [.own (.slot 3 0) 30147 (.rows 3 1 eI 0 [])] (by kernel_rfl) (by kernel_rfl) ?_
                                obtain ⟨hg148, h⟩ := gd_some h
                                obtain ⟨hg149, h⟩ := gd_some h
                                let y150 : List Int := ((([] : List Int) ++ ([a0.B] : List Int)) ++ ([a0.A] : List Int))
                                refine StopP.advd tbOk [(24, [(3, .obj (.rows 3 1 eI 0 ([a0.B] : List Int))), (4, .obj (.rows 3 1 eI 0 (([] : List Int) ++ ([a0.B] : List Int))))]), (25, [(3, .obj (.rows 3 1 eI 0 ([a0.A] : List Int))), (4, .obj (.rows 3 1 eI 0 ((([] : List Int) ++ ([a0.B] : List Int)) ++ ([a0.A] : List Int))))])] 100000 1000 (by kernel_rfl) (by kernel_rfl) (ac_c (Built.mk (ty := 3) (es := 1) (enc := eI) (z := 0) (xs := ([a0.B] : List Int)) (fun _ _ => rfl) (by decide : (1 * 1 : Nat) ≤ 16777216)) <| ac_c (Appended.mk (ty := 3) (es := 1) (by_ := 8) (enc := eI) (z := 0) (z' := 0) (xs := ([] : List Int)) (ys := ([a0.B] : List Int)) (fun _ _ => rfl) (sl hg148) (sb hg148 (by decide))) <| ac_c (Built.mk (ty := 3) (es := 1) (enc := eI) (z := 0) (xs := ([a0.A] : List Int)) (fun _ _ => rfl) (by decide : (1 * 1 : Nat) ≤ 16777216)) <| ac_c (Appended.mk (ty := 3) (es := 1) (by_ := 8) (enc := eI) (z := 0) (z' := 0) (xs := (([] : List Int) ++ ([a0.B] : List Int))) (ys := ([a0.A] : List Int)) (fun _ _ => rfl) (sl hg149) (sb hg149 (by decide))) <| ac_nil) ?_
                                have h := sm h; subst h
                                exact StopP.out .normal (by kernel_rfl) ⟨rfl, [.keep [3] [48], .ren [(48, 38)]], by kernel_rfl⟩
                              · have h := cd_f hb146 h
                                refine StopP.advd tbOk [] 100000 1000 (by kernel_rfl) (by kernel_rfl) (ac_nil) ?_
                                refine StopP.cond (b := (a0.Op == (17 : Int))) (by kernel_rfl) (fun hb151 => ?_) (fun hb151 => ?_)
                                · have h := cd_t hb151 h
                                  refine StopP.advd tbOk [] 100000 1000 (by kernel_rfl) (by kernel_rfl) (ac_nil) ?_
                                  refine StopP.condK (b := (a0.Op == (17 : Int))) hb151 (by kernel_rfl) ?_
                                  refine StopP.reb [.keep [1, 3] [1]] (st' := .at (kid [true, true, false, true, false, false, false, false, false, false, false, false, false, false, true, true, false, true, false] (bodyAt Try.f43)) [.code (kid [true, true, false, true, false, false, false, false, false, false, false, false, false, false, true, true, true] (bodyAt Try.f43)), .code (kid [true, true, false, true, false, false, false, false, false, false, false, false, false, true] (bodyAt Try.f43)), .blk 1, .code (kid [true, true, false, true, false, false, false, false, false, false, false, true] (bodyAt Try.f43)), .blk 2, .code (kid [true, true, false, true, false, false, false, false, false, true] (bodyAt Try.f43)), .blk 3, .code (kid [true, true, false, true, false, false, false, true] (bodyAt Try.f43)), .blk 4, .code (kid [true, true, false, true, false, true] (bodyAt Try.f43)), .blk 0] ⟨[(1, .yes, v1 (.ptr 1 0 0)), (3, .yes, v1 (cn))], [(1, .box 33 [ci a0.Op, ci a0.A, ci a0.B, ci a0.C, ci a0.Imm])], 55⟩) (by kernel_rfl) (by kernel_rfl) (by kernel_rfl) (by kernel_rfl) rfl ?_
                                  refine StopP.advd tbOk [] 24 1000 (by kernel_rfl) (by kernel_rfl) (ac_nil) ?_
                                  refine StopP.chgS [.own (.slot 3 0) 30152 (.rows 3 1 eI 0 [])] (by kernel_rfl) (by kernel_rfl) ?_
                                  obtain ⟨hg153, h⟩ := gd_some h
                                  obtain ⟨hg154, h⟩ := gd_some h
                                  let y155 : List Int := ((([] : List Int) ++ ([a0.B] : List Int)) ++ ([a0.A] : List Int))
                                  refine StopP.advd tbOk [(24, [(3, .obj (.rows 3 1 eI 0 ([a0.B] : List Int))), (4, .obj (.rows 3 1 eI 0 (([] : List Int) ++ ([a0.B] : List Int))))]), (25, [(3, .obj (.rows 3 1 eI 0 ([a0.A] : List Int))), (4, .obj (.rows 3 1 eI 0 ((([] : List Int) ++ ([a0.B] : List Int)) ++ ([a0.A] : List Int))))])] 100000 1000 (by kernel_rfl) (by kernel_rfl) (ac_c (Built.mk (ty := 3) (es := 1) (enc := eI) (z := 0) (xs := ([a0.B] : List Int)) (fun _ _ => rfl) (by decide : (1 * 1 : Nat) ≤ 16777216)) <| ac_c (Appended.mk (ty := 3) (es := 1) (by_ := 8) (enc := eI) (z := 0) (z' := 0) (xs := ([] : List Int)) (ys := ([a0.B] : List Int)) (fun _ _ => rfl) (sl hg153) (sb hg153 (by decide))) <| ac_c (Built.mk (ty := 3) (es := 1) (enc := eI) (z := 0) (xs := ([a0.A] : List Int)) (fun _ _ => rfl) (by decide : (1 * 1 : Nat) ≤ 16777216)) <| ac_c (Appended.mk (ty := 3) (es := 1) (by_ := 8) (enc := eI) (z := 0) (z' := 0) (xs := (([] : List Int) ++ ([a0.B] : List Int))) (ys := ([a0.A] : List Int)) (fun _ _ => rfl) (sl hg154) (sb hg154 (by decide))) <| ac_nil) ?_
                                  have h := sm h; subst h
                                  exact StopP.out .normal (by kernel_rfl) ⟨rfl, [.keep [3] [48], .ren [(48, 38)]], by kernel_rfl⟩
                                · have h := cd_f hb151 h
                                  refine StopP.reb [.keep [1, 3, 5] [1]] (st' := .at (kid [true, true, false, true, false, false, false, false, false, false, false, false, false, false, true, true, false, false, true, true, true, true, true, true, true, true, true, true] (bodyAt Try.f43)) [.code (kid [true, true, false, true, false, false, false, false, false, false, false, false, false, false, true, true, false, true] (bodyAt Try.f43)), .code (kid [true, true, false, true, false, false, false, false, false, false, false, false, false, false, true, true, true] (bodyAt Try.f43)), .code (kid [true, true, false, true, false, false, false, false, false, false, false, false, false, true] (bodyAt Try.f43)), .blk 1, .code (kid [true, true, false, true, false, false, false, false, false, false, false, true] (bodyAt Try.f43)), .blk 2, .code (kid [true, true, false, true, false, false, false, false, false, true] (bodyAt Try.f43)), .blk 3, .code (kid [true, true, false, true, false, false, false, true] (bodyAt Try.f43)), .blk 4, .code (kid [true, true, false, true, false, true] (bodyAt Try.f43)), .blk 0] ⟨[(1, .yes, v1 (.ptr 1 0 0)), (3, .yes, v1 (cn)), (5, .yes, v1 (ci a0.Op))], [(1, .box 33 [ci a0.Op, ci a0.A, ci a0.B, ci a0.C, ci a0.Imm])], 55⟩) (by kernel_rfl) (by kernel_rfl) (by kernel_rfl) (by kernel_rfl) rfl ?_
                                  refine StopP.advd tbOk [] 100000 1000 (by kernel_rfl) (by kernel_rfl) (ac_nil) ?_
                                  refine StopP.cond (b := (a0.Op == (18 : Int))) (by kernel_rfl) (fun hb156 => ?_) (fun hb156 => ?_)
                                  · have h := cd_t hb156 h
                                    refine StopP.advd tbOk [] 24 1000 (by kernel_rfl) (by kernel_rfl) (ac_nil) ?_
                                    refine StopP.chgS [.own (.slot 3 0) 30157 (.rows 3 1 eI 0 [])] (by kernel_rfl) (by kernel_rfl) ?_
                                    obtain ⟨hg158, h⟩ := gd_some h
                                    obtain ⟨hg159, h⟩ := gd_some h
                                    let y160 : List Int := ((([] : List Int) ++ ([a0.B] : List Int)) ++ ([a0.A] : List Int))
                                    refine StopP.advd tbOk [(24, [(3, .obj (.rows 3 1 eI 0 ([a0.B] : List Int))), (4, .obj (.rows 3 1 eI 0 (([] : List Int) ++ ([a0.B] : List Int))))]), (25, [(3, .obj (.rows 3 1 eI 0 ([a0.A] : List Int))), (4, .obj (.rows 3 1 eI 0 ((([] : List Int) ++ ([a0.B] : List Int)) ++ ([a0.A] : List Int))))])] 100000 1000 (by kernel_rfl) (by kernel_rfl) (ac_c (Built.mk (ty := 3) (es := 1) (enc := eI) (z := 0) (xs := ([a0.B] : List Int)) (fun _ _ => rfl) (by decide : (1 * 1 : Nat) ≤ 16777216)) <| ac_c (Appended.mk (ty := 3) (es := 1) (by_ := 8) (enc := eI) (z := 0) (z' := 0) (xs := ([] : List Int)) (ys := ([a0.B] : List Int)) (fun _ _ => rfl) (sl hg158) (sb hg158 (by decide))) <| ac_c (Built.mk (ty := 3) (es := 1) (enc := eI) (z := 0) (xs := ([a0.A] : List Int)) (fun _ _ => rfl) (by decide : (1 * 1 : Nat) ≤ 16777216)) <| ac_c (Appended.mk (ty := 3) (es := 1) (by_ := 8) (enc := eI) (z := 0) (z' := 0) (xs := (([] : List Int) ++ ([a0.B] : List Int))) (ys := ([a0.A] : List Int)) (fun _ _ => rfl) (sl hg159) (sb hg159 (by decide))) <| ac_nil) ?_
                                    have h := sm h; subst h
                                    exact StopP.out .normal (by kernel_rfl) ⟨rfl, [.keep [3] [48], .ren [(48, 38)]], by kernel_rfl⟩
                                  · have h := cd_f hb156 h
                                    refine StopP.advd tbOk [] 100000 1000 (by kernel_rfl) (by kernel_rfl) (ac_nil) ?_
                                    refine StopP.cond (b := (a0.Op == (0 : Int))) (by kernel_rfl) (fun hb161 => ?_) (fun hb161 => ?_)
                                    · have h := cd_t hb161 h
                                      refine StopP.advd tbOk [] 100000 1000 (by kernel_rfl) (by kernel_rfl) (ac_nil) ?_
                                      refine StopP.condK (b := (a0.Op == (0 : Int))) hb161 (by kernel_rfl) ?_
                                      refine StopP.advd tbOk [] 25 1000 (by kernel_rfl) (by kernel_rfl) (ac_nil) ?_
                                      refine StopP.chgS [.own (.slot 3 0) 30162 (.rows 3 1 eI 0 [])] (by kernel_rfl) (by kernel_rfl) ?_
                                      refine StopP.reb [.keep [1, 3] [1, 30162]] (st' := .at (kid [true, true, false, true, false, true, false] (bodyAt Try.f43)) [.code (kid [true, true, false, true, false, true, true] (bodyAt Try.f43)), .blk 0] ⟨[(1, .yes, v1 (.ptr 1 0 0)), (3, .yes, v1 (.own 30162))], [(1, .box 33 [ci a0.Op, ci a0.A, ci a0.B, ci a0.C, ci a0.Imm]), (30162, .rows 3 1 eI 0 ([]))], 55⟩) (by kernel_rfl) (by kernel_rfl) (by kernel_rfl) (by kernel_rfl) rfl ?_
                                      obtain ⟨hg163, h⟩ := gd_some h
                                      refine StopP.advd tbOk [(25, [(3, .obj (.rows 3 1 eI 0 ([a0.A] : List Int))), (4, .obj (.rows 3 1 eI 0 (([] : List Int) ++ ([a0.A] : List Int))))])] 100000 1000 (by kernel_rfl) (by kernel_rfl) (ac_c (Built.mk (ty := 3) (es := 1) (enc := eI) (z := 0) (xs := ([a0.A] : List Int)) (fun _ _ => rfl) (by decide : (1 * 1 : Nat) ≤ 16777216)) <| ac_c (Appended.mk (ty := 3) (es := 1) (by_ := 8) (enc := eI) (z := 0) (z' := 0) (xs := ([] : List Int)) (ys := ([a0.A] : List Int)) (fun _ _ => rfl) (sl hg163) (sb hg163 (by decide))) <| ac_nil) ?_
                                      have h := sm h; subst h
                                      exact StopP.out .normal (by kernel_rfl) ⟨rfl, [.keep [3] [48], .ren [(48, 38)]], by kernel_rfl⟩
                                    · have h := cd_f hb161 h
                                      refine StopP.advd tbOk [] 100000 1000 (by kernel_rfl) (by kernel_rfl) (ac_nil) ?_
                                      refine StopP.cond (b := (a0.Op == (23 : Int))) (by kernel_rfl) (fun hb164 => ?_) (fun hb164 => ?_)
                                      · have h := cd_t hb164 h
                                        refine StopP.advd tbOk [] 25 1000 (by kernel_rfl) (by kernel_rfl) (ac_nil) ?_
                                        refine StopP.chgS [.own (.slot 3 0) 30165 (.rows 3 1 eI 0 [])] (by kernel_rfl) (by kernel_rfl) ?_
                                        refine StopP.reb [.keep [1, 3] [1, 30165]] (st' := .at (kid [true, true, false, true, false, true, false] (bodyAt Try.f43)) [.code (kid [true, true, false, true, false, true, true] (bodyAt Try.f43)), .blk 0] ⟨[(1, .yes, v1 (.ptr 1 0 0)), (3, .yes, v1 (.own 30165))], [(1, .box 33 [ci a0.Op, ci a0.A, ci a0.B, ci a0.C, ci a0.Imm]), (30165, .rows 3 1 eI 0 ([]))], 55⟩) (by kernel_rfl) (by kernel_rfl) (by kernel_rfl) (by kernel_rfl) rfl ?_
                                        obtain ⟨hg166, h⟩ := gd_some h
                                        refine StopP.advd tbOk [(25, [(3, .obj (.rows 3 1 eI 0 ([a0.A] : List Int))), (4, .obj (.rows 3 1 eI 0 (([] : List Int) ++ ([a0.A] : List Int))))])] 100000 1000 (by kernel_rfl) (by kernel_rfl) (ac_c (Built.mk (ty := 3) (es := 1) (enc := eI) (z := 0) (xs := ([a0.A] : List Int)) (fun _ _ => rfl) (by decide : (1 * 1 : Nat) ≤ 16777216)) <| ac_c (Appended.mk (ty := 3) (es := 1) (by_ := 8) (enc := eI) (z := 0) (z' := 0) (xs := ([] : List Int)) (ys := ([a0.A] : List Int)) (fun _ _ => rfl) (sl hg166) (sb hg166 (by decide))) <| ac_nil) ?_
                                        have h := sm h; subst h
                                        exact StopP.out .normal (by kernel_rfl) ⟨rfl, [.keep [3] [48], .ren [(48, 38)]], by kernel_rfl⟩
                                      · have h := cd_f hb164 h
                                        refine StopP.advd tbOk [] 100000 1000 (by kernel_rfl) (by kernel_rfl) (ac_nil) ?_
                                        have h := sm h; subst h
                                        exact StopP.out .normal (by kernel_rfl) ⟨rfl, [.own (.slot 3 0) 38 (.rows 3 1 eI 0 []), .keep [3] [38]], by kernel_rfl⟩

def g43_flow_Reads (K : Nat) (a0 : Ins) : Option ((List Int)) :=
  (g43_flow_Reads.b0 K a0).bind fun o167 =>
  gd (o167.length ≤ 1073741824) <|
  gd ((sortI o167).length ≤ 1073741824) <|
  gd ((compactI (sortI o167)).length ≤ 1073741824) <|
  some (nonzero (compactI (sortI o167)))

theorem g43_flow_Reads_ok (K : Nat) (a0 : Ins) (r : (List Int)) (h : g43_flow_Reads K a0 = some r) : AC Try.prog 43 [] [.v true [ci a0.Op, ci a0.A, ci a0.B, ci a0.C, ci a0.Imm]] [(7000, .rows 3 1 eI 0 r)] (v1 (.own 7000)) := by
  refine AC.intro (fn := Try.f43) tbOk (by kernel_rfl) rfl (by kernel_rfl) (fun W A Kf => ?_)
  refine StopP.advd tbOk [] 100000 7 (by kernel_rfl) (by kernel_rfl) (ac_nil) ?_
  obtain ⟨o167, ho167, h⟩ := bd_some h
  refine StopP.bl (by kernel_rfl) [.keep [1, 3, 5] [1]] (s := g43_flow_Reads.h0 a0) (by kernel_rfl) (c := (kid [true, true, false, true] (bodyAt Try.f43))) (by kernel_rfl) (e := .normal) (J := g43_flow_Reads.j0_0 a0 o167) (g43_flow_Reads.b0_ok K a0 o167 ho167) ?_
  obtain ⟨hg168, h⟩ := gd_some h
  obtain ⟨hg169, h⟩ := gd_some h
  obtain ⟨hg170, h⟩ := gd_some h
  refine StopP.advd tbOk [(26, [(1, .callM [38] [38] [] [(38, .rows 3 1 eI 0 (sortI o167))] (.tp []))]), (27, [(1, .callM [38] [] [] [(20520, .rows 3 1 eI 0 (compactI (sortI o167)))] (v1 (.own 20520)))]), (28, [(1, .callM [20520] [] [] [(20540, .rows 3 1 eI 0 (nonzero (compactI (sortI o167))))] (v1 (.own 20540)))])] 100000 1000 (by kernel_rfl) (by kernel_rfl) (ac_c (sort_ok 38 o167 hg168) <| ac_c (compact_ok 38 20520 (by decide) (sortI o167) hg169) <| ac_c (del_ok 20520 20540 (by decide) (compactI (sortI o167)) hg170) <| ac_nil) ?_
  have h := sm h; subst h
  refine StopP.out .ret (by kernel_rfl) ?_
  exact ret_box (.inr rfl) [.keep [2] [20540], .ren [(20540, 7000)]] (by kernel_rfl) (by kernel_rfl) [7000] (by kernel_rfl)

theorem g43_flow_Reads_fz (K : Nat) (a0 : Ins) (r : (List Int)) (h : g43_flow_Reads K a0 = some r) : AC Try.prog 43 [] [.v true [ci a0.Op, ci a0.A, ci a0.B, ci a0.C, ci a0.Imm]] [] (v1 (.t (.ro 1 eI 0 r))) :=
  AC.cast (AC.fz (g43_flow_Reads_ok K a0 r h) 7000 (o := .rows 3 1 eI 0 r) (t := .ro 1 eI 0 r) (by kernel_rfl) (by kernel_rfl)) (by kernel_rfl) (by kernel_rfl)

end Go.Proofs.Ytoooalfhjcfinaa.T

namespace Go.Proofs.Ytoooalfhjcfinaa.T
open Go.Abs
set_option linter.unusedVariables false
set_option maxRecDepth 100000
set_option maxHeartbeats 2000000

def g35_live_Before (K : Nat) (a0 : Op') (a1 : Int) : Option (Int) :=
  (g37_flow_Kind K a0.Ins).bind fun r1 =>
  bif (r1 == (4 : Int)) then
    some (65534 : Int)
  else
    (g36_flow_Writes K a0.Ins).bind fun r3 =>
    let b4 : Bool := (decide (r3 > (0 : Int)))
    bif b4 then
      gd (0 ≤ r3) <|
      let i7 : Int := (IntKind.u16.wrap ((1 : Int) * 2 ^ min r3.toNat (IntKind.bits .u16)))
      (g43_flow_Reads K a0.Ins).bind fun r8 =>
      (g42_live_set K r8).bind fun r9 =>
      some (Go.bits .or .u16 (Go.bits .andNot .u16 a1 i7) r9)
    else
      (g43_flow_Reads K a0.Ins).bind fun r10 =>
      (g42_live_set K r10).bind fun r11 =>
      some (Go.bits .or .u16 a1 r11)

theorem g35_live_Before_ok (K : Nat) (a0 : Op') (a1 : Int) (r : Int) (h : g35_live_Before K a0 a1 = some r) : AC Try.prog 35 [] [.v true [ci a0.Ins.Op, ci a0.Ins.A, ci a0.Ins.B, ci a0.Ins.C, ci a0.Ins.Imm, cb a0.Rel, ci a0.Kind, ci a0.To, ci a0.Add], v1 (cu .u16 a1)] [] (v1 (cu .u16 r)) := by
  refine AC.intro (fn := Try.f35) tbOk (by kernel_rfl) rfl (by kernel_rfl) (fun W A Kf => ?_)
  obtain ⟨r1, hc1, h⟩ := bd_some h
  refine StopP.advd tbOk [(1, [(2, .call [] [] (v1 (ci r1)))])] 100000 1000 (by kernel_rfl) (by kernel_rfl) (ac_y (g37_flow_Kind_ok K a0.Ins r1 hc1) <| ac_nil) ?_
  refine StopP.cond (b := (r1 == (4 : Int))) (by kernel_rfl) (fun hb2 => ?_) (fun hb2 => ?_)
  · have h := cd_t hb2 h
    refine StopP.reb [.keep [] []] (st' := .at (kid [true, false, true, false] (bodyAt Try.f35)) [.code (kid [true, true] (bodyAt Try.f35))] ⟨[], [], 25⟩) (by kernel_rfl) (by kernel_rfl) (by kernel_rfl) (by kernel_rfl) rfl ?_
    refine StopP.advd tbOk [] 100000 1000 (by kernel_rfl) (by kernel_rfl) (ac_nil) ?_
    have h := sm h; subst h
    refine StopP.out .ret (by kernel_rfl) ?_
    exact ret_box (.inr rfl) [.keep [4] []] (by kernel_rfl) (by kernel_rfl) [] (by kernel_rfl)
  · have h := cd_f hb2 h
    obtain ⟨r3, hc3, h⟩ := bd_some h
    let b4 : Bool := (decide (r3 > (0 : Int)))
    refine StopP.advd tbOk [(3, [(2, .call [] [] (v1 (ci r3)))])] 100000 1000 (by kernel_rfl) (by kernel_rfl) (ac_y (g36_flow_Writes_ok K a0.Ins r3 hc3) <| ac_nil) ?_
    refine StopP.cond (b := b4) (by kernel_rfl) (fun hb5 => ?_) (fun hb5 => ?_)
    · have h := cd_t hb5 h
      refine StopP.reb [.keep [1, 2, 5] [2]] (st' := .at (kid [true, true, false, true, true, false] (bodyAt Try.f35)) [.code (kid [true, true, true] (bodyAt Try.f35))] ⟨[(1, .yes, v1 (cu .u16 a1)), (2, .yes, v1 (.ptr 2 0 0)), (5, .yes, v1 (ci r3))], [(2, .box 35 [ci a0.Ins.Op, ci a0.Ins.A, ci a0.Ins.B, ci a0.Ins.C, ci a0.Ins.Imm, cb a0.Rel, ci a0.Kind, ci a0.To, ci a0.Add])], 25⟩) (by kernel_rfl) (by kernel_rfl) (by kernel_rfl) (by kernel_rfl) rfl ?_
      obtain ⟨hg6, h⟩ := gd_some h
      let i7 : Int := (IntKind.u16.wrap ((1 : Int) * 2 ^ min r3.toNat (IntKind.bits .u16)))
      obtain ⟨r8, hc8, h⟩ := bd_some h
      obtain ⟨r9, hc9, h⟩ := bd_some h
      refine StopP.advd tbOk [(6, [(3, .call [] [] (v1 (.t (.ro 1 eI 0 r8)))), (4, .call [] [] (v1 (cu .u16 r9)))])] 100000 1000 (by kernel_rfl) (by kernel_rfl) (ac_y hg6 <| ac_y (g43_flow_Reads_fz K a0.Ins r8 hc8) <| ac_y (g42_live_set_ok K r8 r9 hc9) <| ac_nil) ?_
      have h := sm h; subst h
      refine StopP.out .ret (by kernel_rfl) ?_
      exact ret_box (.inr rfl) [.keep [4] []] (by kernel_rfl) (by kernel_rfl) [] (by kernel_rfl)
    · have h := cd_f hb5 h
      obtain ⟨r10, hc10, h⟩ := bd_some h
      obtain ⟨r11, hc11, h⟩ := bd_some h
      refine StopP.advd tbOk [(6, [(3, .call [] [] (v1 (.t (.ro 1 eI 0 r10)))), (4, .call [] [] (v1 (cu .u16 r11)))])] 100000 1000 (by kernel_rfl) (by kernel_rfl) (ac_y (g43_flow_Reads_fz K a0.Ins r10 hc10) <| ac_y (g42_live_set_ok K r10 r11 hc11) <| ac_nil) ?_
      have h := sm h; subst h
      refine StopP.out .ret (by kernel_rfl) ?_
      exact ret_box (.inr rfl) [.keep [4] []] (by kernel_rfl) (by kernel_rfl) [] (by kernel_rfl)

def g33_live_end (K : Nat) (a0 : Term) (a1 : (List Int)) : Option (Int) :=
  bif (a0.Kind == (1 : Int)) then
    gd (0 ≤ a0.To ∧ a0.To < (a1.length : Int)) <|
    some (a1.getD a0.To.toNat 0)
  else
    bif (a0.Kind == (2 : Int)) then
      gd (0 ≤ a0.To ∧ a0.To < (a1.length : Int)) <|
      gd (0 ≤ a0.Else ∧ a0.Else < (a1.length : Int)) <|
      let i6 : Int := (Go.bits .or .u16 (a1.getD a0.To.toNat 0) (a1.getD a0.Else.toNat 0))
      (g43_flow_Reads K (⟨a0.Op, a0.A, a0.B, (0 : Int), (0 : Int)⟩ : Ins)).bind fun r7 =>
      (g42_live_set K r7).bind fun r8 =>
      some (Go.bits .or .u16 i6 r8)
    else
      bif (a0.Kind == (3 : Int)) then
        let b10 : Bool := (a0.Ins.Op != (21 : Int))
        bif b10 then
          (g43_flow_Reads K a0.Ins).bind fun r12 =>
          (g42_live_set K r12).bind fun r13 =>
          some r13
        else
          some (65534 : Int)
      else
        some (65534 : Int)

theorem g33_live_end_ok (K : Nat) (a0 : Term) (a1 : (List Int)) (r : Int) (h : g33_live_end K a0 a1 = some r) : AC Try.prog 33 [] [.v true [ci a0.Kind, ci a0.Op, ci a0.A, ci a0.B, ci a0.To, ci a0.Else, ci a0.Ins.Op, ci a0.Ins.A, ci a0.Ins.B, ci a0.Ins.C, ci a0.Ins.Imm], v1 (.t (.ro 1 eU16 0 a1))] [] (v1 (cu .u16 r)) := by
  refine AC.intro (fn := Try.f33) tbOk (by kernel_rfl) rfl (by kernel_rfl) (fun W A Kf => ?_)
  refine StopP.advd tbOk [] 100000 1000 (by kernel_rfl) (by kernel_rfl) (ac_nil) ?_
  refine StopP.cond (b := (a0.Kind == (1 : Int))) (by kernel_rfl) (fun hb1 => ?_) (fun hb1 => ?_)
  · have h := cd_t hb1 h
    refine StopP.reb [.keep [1, 2] [2]] (st' := .at (kid [true, false, true, false, true, false] (bodyAt Try.f33)) [.blk 0, .code (kid [true, true] (bodyAt Try.f33))] ⟨[(1, .yes, v1 (.t (.ro 1 eU16 0 a1))), (2, .yes, v1 (.ptr 2 0 0))], [(2, .box 37 [ci a0.Kind, ci a0.Op, ci a0.A, ci a0.B, ci a0.To, ci a0.Else, ci a0.Ins.Op, ci a0.Ins.A, ci a0.Ins.B, ci a0.Ins.C, ci a0.Ins.Imm])], 47⟩) (by kernel_rfl) (by kernel_rfl) (by kernel_rfl) (by kernel_rfl) rfl ?_
    obtain ⟨hg2, h⟩ := gd_some h
    refine StopP.advd tbOk [] 100000 1000 (by kernel_rfl) (by kernel_rfl) (ac_y hg2 <| ac_nil) ?_
    have h := sm h; subst h
    refine StopP.out .ret (by kernel_rfl) ?_
    exact ret_box (.inr rfl) [.keep [4] []] (by kernel_rfl) (by kernel_rfl) [] (by kernel_rfl)
  · have h := cd_f hb1 h
    refine StopP.reb [.keep [1, 2, 6] [2]] (st' := .at (kid [true, false, true, false, true, true] (bodyAt Try.f33)) [.blk 0, .code (kid [true, true] (bodyAt Try.f33))] ⟨[(1, .yes, v1 (.t (.ro 1 eU16 0 a1))), (2, .yes, v1 (.ptr 2 0 0)), (6, .yes, v1 (ci a0.Kind))], [(2, .box 37 [ci a0.Kind, ci a0.Op, ci a0.A, ci a0.B, ci a0.To, ci a0.Else, ci a0.Ins.Op, ci a0.Ins.A, ci a0.Ins.B, ci a0.Ins.C, ci a0.Ins.Imm])], 47⟩) (by kernel_rfl) (by kernel_rfl) (by kernel_rfl) (by kernel_rfl) rfl ?_
    refine StopP.advd tbOk [] 100000 1000 (by kernel_rfl) (by kernel_rfl) (ac_nil) ?_
    refine StopP.cond (b := (a0.Kind == (2 : Int))) (by kernel_rfl) (fun hb3 => ?_) (fun hb3 => ?_)
    · have h := cd_t hb3 h
      obtain ⟨hg4, h⟩ := gd_some h
      obtain ⟨hg5, h⟩ := gd_some h
      let i6 : Int := (Go.bits .or .u16 (a1.getD a0.To.toNat 0) (a1.getD a0.Else.toNat 0))
      obtain ⟨r7, hc7, h⟩ := bd_some h
      obtain ⟨r8, hc8, h⟩ := bd_some h
      refine StopP.advd tbOk [(5, [(18, .call [] [] (v1 (.t (.ro 1 eI 0 r7)))), (19, .call [] [] (v1 (cu .u16 r8)))])] 100000 1000 (by kernel_rfl) (by kernel_rfl) (ac_y hg4 <| ac_y hg5 <| ac_y (g43_flow_Reads_fz K (⟨a0.Op, a0.A, a0.B, (0 : Int), (0 : Int)⟩ : Ins) r7 hc7) <| ac_y (g42_live_set_ok K r7 r8 hc8) <| ac_nil) ?_
      have h := sm h; subst h
      refine StopP.out .ret (by kernel_rfl) ?_
      exact ret_box (.inr rfl) [.keep [4] []] (by kernel_rfl) (by kernel_rfl) [] (by kernel_rfl)
    · have h := cd_f hb3 h
      refine StopP.advd tbOk [] 100000 1000 (by kernel_rfl) (by kernel_rfl) (ac_nil) ?_
      refine StopP.cond (b := (a0.Kind == (3 : Int))) (by kernel_rfl) (fun hb9 => ?_) (fun hb9 => ?_)
      · have h := cd_t hb9 h
        let b10 : Bool := (a0.Ins.Op != (21 : Int))
        refine StopP.advd tbOk [] 100000 1000 (by kernel_rfl) (by kernel_rfl) (ac_nil) ?_
        refine StopP.cond (b := b10) (by kernel_rfl) (fun hb11 => ?_) (fun hb11 => ?_)
        · have h := cd_t hb11 h
          obtain ⟨r12, hc12, h⟩ := bd_some h
          obtain ⟨r13, hc13, h⟩ := bd_some h
          refine StopP.advd tbOk [(8, [(2, .call [] [] (v1 (.t (.ro 1 eI 0 r12)))), (3, .call [] [] (v1 (cu .u16 r13)))])] 100000 1000 (by kernel_rfl) (by kernel_rfl) (ac_y (g43_flow_Reads_fz K a0.Ins r12 hc12) <| ac_y (g42_live_set_ok K r12 r13 hc13) <| ac_nil) ?_
          have h := sm h; subst h
          refine StopP.out .ret (by kernel_rfl) ?_
          exact ret_box (.inr rfl) [.keep [4] []] (by kernel_rfl) (by kernel_rfl) [] (by kernel_rfl)
        · have h := cd_f hb11 h
          refine StopP.advd tbOk [] 100000 1000 (by kernel_rfl) (by kernel_rfl) (ac_nil) ?_
          have h := sm h; subst h
          refine StopP.out .ret (by kernel_rfl) ?_
          exact ret_box (.inr rfl) [.keep [4] []] (by kernel_rfl) (by kernel_rfl) [] (by kernel_rfl)
      · have h := cd_f hb9 h
        refine StopP.advd tbOk [] 100000 1000 (by kernel_rfl) (by kernel_rfl) (ac_nil) ?_
        have h := sm h; subst h
        refine StopP.out .ret (by kernel_rfl) ?_
        exact ret_box (.inr rfl) [.keep [4] []] (by kernel_rfl) (by kernel_rfl) [] (by kernel_rfl)

def g44_live_ahead.l0 (K : Nat) (a0 : Block) : Nat → Int → Int → Option (Int)
  | 0, _, _ => none
  | k + 1, x7, x8 =>
    let b13 : Bool := (decide (x8 ≥ (0 : Int)))
    bif b13 then
      gd (0 ≤ x8 ∧ x8 < (a0.Ops.length : Int)) <|
      (g35_live_Before K (a0.Ops.getD x8.toNat zOp) x7).bind fun r16 =>
      g44_live_ahead.l0 K a0 k r16 (IntKind.i64.wrap (x8 - (1 : Int)))
    else
      some x7

def g44_live_ahead.h0 (a0 : Block) (x7 : Int) (x8 : Int) : Abs.St := ⟨[(2, .yes, v1 (.ptr 2 0 0)), (5, .yes, v1 (cu .u16 x7)), (6, .yes, v1 (ci x8))], [(2, .box 39 [.t (.ro 9 cOp zOp a0.Ops), ci a0.End.Kind, ci a0.End.Op, ci a0.End.A, ci a0.End.B, ci a0.End.To, ci a0.End.Else, ci a0.End.Ins.Op, ci a0.End.Ins.A, ci a0.End.Ins.B, ci a0.End.Ins.C, ci a0.End.Ins.Imm])], 27⟩

def g44_live_ahead.j0_0 (a0 : Block) (o : Int) : Abs.St := ⟨[(5, .yes, v1 (cu .u16 o))], [], 27⟩

theorem g44_live_ahead.l0_ok {W : World} {A Kf : Nat → Prop} (K : Nat) (a0 : Block) : ∀ (k : Nat) (x7 : Int) (x8 : Int) (o : Int), g44_live_ahead.l0 K a0 k x7 x8 = some o → WPR Try.prog W A Kf (kid [true, true, false, true, false, false] (bodyAt Try.f44)) (Out (.exit 0) (g44_live_ahead.j0_0 a0 o)) k (g44_live_ahead.h0 a0 x7 x8)
  | 0, x7, x8, o, h => by cases h
  | k + 1, x7, x8, o, h => by
    refine WPR.round ?_
    let b13 : Bool := (decide (x8 ≥ (0 : Int)))
    refine StopP.advd tbOk [] 100000 1000 (by kernel_rfl) (by kernel_rfl) (ac_nil) ?_
    refine StopP.cond (b := b13) (by kernel_rfl) (fun hb14 => ?_) (fun hb14 => ?_)
    · have h := cd_t hb14 h
      obtain ⟨hg15, h⟩ := gd_some h
      obtain ⟨r16, hc16, h⟩ := bd_some h
      refine StopP.advd tbOk [(5, [(6, .call [] [] (v1 (cu .u16 r16)))])] 100000 1000 (by kernel_rfl) (by kernel_rfl) (ac_y hg15 <| ac_y (g35_live_Before_ok K (a0.Ops.getD x8.toNat zOp) x7 r16 hc16) <| ac_nil) ?_
      refine StopP.out .normal (by kernel_rfl) ?_
      exact WPR.chg [.keep [2, 5, 6] [2]] (by kernel_rfl) (g44_live_ahead.l0_ok K a0 k r16 (IntKind.i64.wrap (x8 - (1 : Int))) o h)
    · have h := cd_f hb14 h
      refine StopP.advd tbOk [] 100000 1000 (by kernel_rfl) (by kernel_rfl) (ac_nil) ?_
      have h := sm h; subst h
      exact StopP.out (.exit 0) (by kernel_rfl) ⟨rfl, [.keep [5] []], by kernel_rfl⟩

def g44_live_ahead (K : Nat) (a0 : Block) (a1 : (List Int)) : Option (Int) :=
  (g33_live_end K a0.End a1).bind fun r1 =>
  (g44_live_ahead.l0 K a0 K r1 (IntKind.i64.wrap ((a0.Ops.length : Int) - (1 : Int)))).bind fun o17 =>
  some o17

theorem g44_live_ahead_ok (K : Nat) (a0 : Block) (a1 : (List Int)) (r : Int) (h : g44_live_ahead K a0 a1 = some r) : AC Try.prog 44 [] [.v true [.t (.ro 9 cOp zOp a0.Ops), ci a0.End.Kind, ci a0.End.Op, ci a0.End.A, ci a0.End.B, ci a0.End.To, ci a0.End.Else, ci a0.End.Ins.Op, ci a0.End.Ins.A, ci a0.End.Ins.B, ci a0.End.Ins.C, ci a0.End.Ins.Imm], v1 (.t (.ro 1 eU16 0 a1))] [] (v1 (cu .u16 r)) := by
  refine AC.intro (fn := Try.f44) tbOk (by kernel_rfl) rfl (by kernel_rfl) (fun W A Kf => ?_)
  obtain ⟨r1, hc1, h⟩ := bd_some h
  refine StopP.advd tbOk [(1, [(3, .call [] [] (v1 (cu .u16 r1)))])] 100000 1000 (by kernel_rfl) (by kernel_rfl) (ac_y (g33_live_end_ok K a0.End a1 r1 hc1) <| ac_nil) ?_
  obtain ⟨o17, ho17, h⟩ := bd_some h
  refine StopP.lp (by kernel_rfl) [.keep [2, 5, 6] [2]] (s := g44_live_ahead.h0 a0 r1 (IntKind.i64.wrap ((a0.Ops.length : Int) - (1 : Int)))) (by kernel_rfl) (c := (kid [true, true, false, true, false, false] (bodyAt Try.f44))) (by kernel_rfl) (e := (.exit 0)) (J := g44_live_ahead.j0_0 a0 o17) K (g44_live_ahead.l0_ok K a0 K r1 (IntKind.i64.wrap ((a0.Ops.length : Int) - (1 : Int))) o17 ho17) ?_
  refine StopP.advd tbOk [] 100000 1000 (by kernel_rfl) (by kernel_rfl) (ac_nil) ?_
  have h := sm h; subst h
  refine StopP.out .ret (by kernel_rfl) ?_
  exact ret_box (.inr rfl) [.keep [4] []] (by kernel_rfl) (by kernel_rfl) [] (by kernel_rfl)

def g34_live_In.l1 (K : Nat) (a0 : Graph) : Nat → (List Int) → Bool → Int → Option (Bool × (List Int))
  | 0, _, _, _ => none
  | k + 1, x80, x81, x82 =>
    let b91 : Bool := (decide (x82 ≥ (0 : Int)))
    bif b91 then
      gd (0 ≤ x82 ∧ x82 < (a0.Blocks.length : Int)) <|
      (g44_live_ahead K (a0.Blocks.getD x82.toNat zBlock) x80).bind fun r94 =>
      gd (0 ≤ x82 ∧ x82 < (x80.length : Int)) <|
      let b96 : Bool := (r94 != (x80.getD x82.toNat 0))
      bif b96 then
        gd (0 ≤ x82 ∧ x82 < (x80.length : Int)) <|
        g34_live_In.l1 K a0 k (x80.set x82.toNat r94) true (IntKind.i64.wrap (x82 - (1 : Int)))
      else
        g34_live_In.l1 K a0 k x80 x81 (IntKind.i64.wrap (x82 - (1 : Int)))
    else
      some (x81, x80)

def g34_live_In.h1 (a0 : Graph) (x80 : (List Int)) (x81 : Bool) (x82 : Int) : Abs.St := ⟨[(1, .yes, v1 (.ptr 1 0 0)), (3, .yes, v1 (.own 10)), (4, .yes, v1 (cb x81)), (5, .yes, v1 (ci x82))], [(1, .box 24 [cs a0.Name, cb a0.Keep, cb a0.Leaf, .t (.ro 12 cBlock zBlock a0.Blocks)]), (10, .rows 50 1 eU16 0 x80)], 37⟩

def g34_live_In.j1_0 (a0 : Graph) (o : Bool × (List Int)) : Abs.St := ⟨[(1, .yes, v1 (.ptr 1 0 0)), (3, .yes, v1 (.own 10)), (4, .yes, v1 (cb o.1))], [(1, .box 24 [cs a0.Name, cb a0.Keep, cb a0.Leaf, .t (.ro 12 cBlock zBlock a0.Blocks)]), (10, .rows 50 1 eU16 0 o.2)], 37⟩

theorem g34_live_In.l1_ok {W : World} {A Kf : Nat → Prop} (K : Nat) (a0 : Graph) : ∀ (k : Nat) (x80 : (List Int)) (x81 : Bool) (x82 : Int) (o : Bool × (List Int)), g34_live_In.l1 K a0 k x80 x81 x82 = some o → WPR Try.prog W A Kf (kid [true, true, false, true, false, false, true, false, true, true, false, false] (bodyAt Try.f34)) (Out (.exit 2) (g34_live_In.j1_0 a0 o)) k (g34_live_In.h1 a0 x80 x81 x82)
  | 0, x80, x81, x82, o, h => by cases h
  | k + 1, x80, x81, x82, o, h => by
    refine WPR.round ?_
    let b91 : Bool := (decide (x82 ≥ (0 : Int)))
    refine StopP.advd tbOk [] 100000 1000 (by kernel_rfl) (by kernel_rfl) (ac_nil) ?_
    refine StopP.cond (b := b91) (by kernel_rfl) (fun hb92 => ?_) (fun hb92 => ?_)
    · have h := cd_t hb92 h
      obtain ⟨hg93, h⟩ := gd_some h
      obtain ⟨r94, hc94, h⟩ := bd_some h
      obtain ⟨hg95, h⟩ := gd_some h
      let b96 : Bool := (r94 != (x80.getD x82.toNat 0))
      refine StopP.advd tbOk [(8, [(6, .call [] [] (v1 (cu .u16 r94)))])] 100000 1000 (by kernel_rfl) (by kernel_rfl) (ac_y hg93 <| ac_y (g44_live_ahead_ok K (a0.Blocks.getD x82.toNat zBlock) x80 r94 hc94) <| ac_c (show Plain [] (v1 (cu .u16 r94)) from ⟨rfl, fun _ h => by cases h⟩) <| ac_y hg95 <| ac_y (tn hg95) <| ac_nil) ?_
      refine StopP.cond (b := b96) (by kernel_rfl) (fun hb97 => ?_) (fun hb97 => ?_)
      · have h := cd_t hb97 h
        obtain ⟨hg98, h⟩ := gd_some h
        refine StopP.advd tbOk [(10, [(4, .obj (.rows 50 1 eU16 0 (x80.set x82.toNat r94)))])] 100000 1000 (by kernel_rfl) (by kernel_rfl) (ac_y hg98 <| ac_c (Stored.mk (ty := 50) (es := 1) (enc := eU16) (z := 0) (xs := x80) (i := x82.toNat) (j := 0) (n := 1) r94 (tn hg98) (by decide) rfl rfl rfl) <| ac_nil) ?_
        refine StopP.out .normal (by kernel_rfl) ?_
        exact WPR.chg [.keep [1, 3, 4, 5] [1, 10]] (by kernel_rfl) (g34_live_In.l1_ok K a0 k (x80.set x82.toNat r94) true (IntKind.i64.wrap (x82 - (1 : Int))) o h)
      · have h := cd_f hb97 h
        refine StopP.advd tbOk [] 100000 1000 (by kernel_rfl) (by kernel_rfl) (ac_nil) ?_
        refine StopP.out .normal (by kernel_rfl) ?_
        exact WPR.chg [.keep [1, 3, 4, 5] [1, 10]] (by kernel_rfl) (g34_live_In.l1_ok K a0 k x80 x81 (IntKind.i64.wrap (x82 - (1 : Int))) o h)
    · have h := cd_f hb92 h
      refine StopP.advd tbOk [] 100000 1000 (by kernel_rfl) (by kernel_rfl) (ac_nil) ?_
      have h := sm h; subst h
      exact StopP.out (.exit 2) (by kernel_rfl) ⟨rfl, [.keep [1, 3, 4] [1, 10]], by kernel_rfl⟩

def g34_live_In.l0 (K : Nat) (a0 : Graph) : Nat → (List Int) → Bool → Option ((List Int))
  | 0, _, _ => none
  | k + 1, x34, x35 =>
    bif x35 then
      (g34_live_In.l1 K a0 K x34 false (IntKind.i64.wrap ((x34.length : Int) - (1 : Int)))).bind fun o99 =>
      g34_live_In.l0 K a0 k o99.2 o99.1
    else
      some x34

def g34_live_In.h0 (a0 : Graph) (x34 : (List Int)) (x35 : Bool) : Abs.St := ⟨[(1, .yes, v1 (.ptr 1 0 0)), (3, .yes, v1 (.own 10)), (4, .yes, v1 (cb x35))], [(1, .box 24 [cs a0.Name, cb a0.Keep, cb a0.Leaf, .t (.ro 12 cBlock zBlock a0.Blocks)]), (10, .rows 50 1 eU16 0 x34)], 37⟩

def g34_live_In.j0_0 (a0 : Graph) (o : (List Int)) : Abs.St := ⟨[(3, .yes, v1 (.own 10))], [(10, .rows 50 1 eU16 0 o)], 37⟩

theorem g34_live_In.l0_ok {W : World} {A Kf : Nat → Prop} (K : Nat) (a0 : Graph) : ∀ (k : Nat) (x34 : (List Int)) (x35 : Bool) (o : (List Int)), g34_live_In.l0 K a0 k x34 x35 = some o → WPR Try.prog W A Kf (kid [true, true, false, true, false, false] (bodyAt Try.f34)) (Out (.exit 0) (g34_live_In.j0_0 a0 o)) k (g34_live_In.h0 a0 x34 x35)
  | 0, x34, x35, o, h => by cases h
  | k + 1, x34, x35, o, h => by
    refine WPR.round ?_
    refine StopP.advd tbOk [] 100000 1000 (by kernel_rfl) (by kernel_rfl) (ac_nil) ?_
    refine StopP.cond (b := x35) (by kernel_rfl) (fun hb68 => ?_) (fun hb68 => ?_)
    · have h := cd_t hb68 h
      refine StopP.advd tbOk [] 100000 1000 (by kernel_rfl) (by kernel_rfl) (ac_nil) ?_
      obtain ⟨o99, ho99, h⟩ := bd_some h
      refine StopP.lp (by kernel_rfl) [.keep [1, 3, 4, 5] [1, 10]] (s := g34_live_In.h1 a0 x34 false (IntKind.i64.wrap ((x34.length : Int) - (1 : Int)))) (by kernel_rfl) (c := (kid [true, true, false, true, false, false, true, false, true, true, false, false] (bodyAt Try.f34))) (by kernel_rfl) (e := (.exit 2)) (J := g34_live_In.j1_0 a0 o99) K (g34_live_In.l1_ok K a0 K x34 false (IntKind.i64.wrap ((x34.length : Int) - (1 : Int))) o99 ho99) ?_
      refine StopP.out .normal (by kernel_rfl) ?_
      exact WPR.chg [.keep [1, 3, 4] [1, 10]] (by kernel_rfl) (g34_live_In.l0_ok K a0 k o99.2 o99.1 o h)
    · have h := cd_f hb68 h
      refine StopP.advd tbOk [] 100000 1000 (by kernel_rfl) (by kernel_rfl) (ac_nil) ?_
      have h := sm h; subst h
      exact StopP.out (.exit 0) (by kernel_rfl) ⟨rfl, [.keep [3] [10]], by kernel_rfl⟩

def g34_live_In (K : Nat) (a0 : Graph) : Option ((List Int)) :=
  gd (0 ≤ (a0.Blocks.length : Int) ∧ (a0.Blocks.length : Int).toNat ≤ 1073741824) <|
  (g34_live_In.l0 K a0 K (List.replicate (a0.Blocks.length : Int).toNat 0) true).bind fun o100 =>
  some o100

theorem g34_live_In_ok (K : Nat) (a0 : Graph) (r : (List Int)) (h : g34_live_In K a0 = some r) : AC Try.prog 34 [] [.v true [cs a0.Name, cb a0.Keep, cb a0.Leaf, .t (.ro 12 cBlock zBlock a0.Blocks)]] [(7000, .rows 50 1 eU16 0 r)] (v1 (.own 7000)) := by
  refine AC.intro (fn := Try.f34) tbOk (by kernel_rfl) rfl (by kernel_rfl) (fun W A Kf => ?_)
  obtain ⟨hg1, h⟩ := gd_some h
  refine StopP.advd tbOk [(1, [(3, .obj (.rows 50 1 eU16 0 (List.replicate (a0.Blocks.length : Int).toNat 0)))])] 100000 1000 (by kernel_rfl) (by kernel_rfl) (ac_c (rfl : (a0.Blocks.length : Int) = (a0.Blocks.length : Int)) <| ac_c (Made.mk (ty := 50) (es := 1) (by_ := 2) (enc := eU16) (z := 0) (n := (a0.Blocks.length : Int)) hg1.1 rfl (sl hg1.2) (sb2 hg1.2 (by decide))) <| ac_nil) ?_
  obtain ⟨o100, ho100, h⟩ := bd_some h
  refine StopP.lp (by kernel_rfl) [.keep [1, 3, 4] [1, 10]] (s := g34_live_In.h0 a0 (List.replicate (a0.Blocks.length : Int).toNat 0) true) (by kernel_rfl) (c := (kid [true, true, false, true, false, false] (bodyAt Try.f34))) (by kernel_rfl) (e := (.exit 0)) (J := g34_live_In.j0_0 a0 o100) K (g34_live_In.l0_ok K a0 K (List.replicate (a0.Blocks.length : Int).toNat 0) true o100 ho100) ?_
  refine StopP.advd tbOk [] 100000 1000 (by kernel_rfl) (by kernel_rfl) (ac_nil) ?_
  have h := sm h; subst h
  refine StopP.out .ret (by kernel_rfl) ?_
  exact ret_box (.inr rfl) [.keep [2] [10], .ren [(10, 7000)]] (by kernel_rfl) (by kernel_rfl) [7000] (by kernel_rfl)

theorem g34_live_In_fz (K : Nat) (a0 : Graph) (r : (List Int)) (h : g34_live_In K a0 = some r) : AC Try.prog 34 [] [.v true [cs a0.Name, cb a0.Keep, cb a0.Leaf, .t (.ro 12 cBlock zBlock a0.Blocks)]] [] (v1 (.t (.ro 1 eU16 0 r))) :=
  AC.cast (AC.fz (g34_live_In_ok K a0 r h) 7000 (o := .rows 50 1 eU16 0 r) (t := .ro 1 eU16 0 r) (by kernel_rfl) (by kernel_rfl)) (by kernel_rfl) (by kernel_rfl)

def g27_live_After.l0 (K : Nat) (a0 : Graph) (a1 : Int) : Nat → (List Int) → Int → Int → Option ((List Int))
  | 0, _, _, _ => none
  | k + 1, x13, x14, x15 =>
    let b21 : Bool := (decide (x15 ≥ (0 : Int)))
    bif b21 then
      gd (0 ≤ x15 ∧ x15 < (x13.length : Int)) <|
      gd (0 ≤ x15 ∧ x15 < (((a0.Blocks.getD a1.toNat zBlock).Ops).length : Int)) <|
      (g35_live_Before K (((a0.Blocks.getD a1.toNat zBlock).Ops).getD x15.toNat zOp) x14).bind fun r25 =>
      g27_live_After.l0 K a0 a1 k (x13.set x15.toNat x14) r25 (IntKind.i64.wrap (x15 - (1 : Int)))
    else
      some x13

def g27_live_After.h0 (a0 : Graph) (a1 : Int) (x13 : (List Int)) (x14 : Int) (x15 : Int) : Abs.St := ⟨[(5, .yes, v1 (.t (.ro 9 cOp zOp ((a0.Blocks.getD a1.toNat zBlock).Ops)))), (6, .yes, v1 (.own 17)), (7, .yes, v1 (cu .u16 x14)), (8, .yes, v1 (ci x15))], [(17, .rows 50 1 eU16 0 x13)], 45⟩

def g27_live_After.j0_0 (a0 : Graph) (a1 : Int) (o : (List Int)) : Abs.St := ⟨[(6, .yes, v1 (.own 17))], [(17, .rows 50 1 eU16 0 o)], 45⟩

theorem g27_live_After.l0_ok {W : World} {A Kf : Nat → Prop} (K : Nat) (a0 : Graph) (a1 : Int) : ∀ (k : Nat) (x13 : (List Int)) (x14 : Int) (x15 : Int) (o : (List Int)), g27_live_After.l0 K a0 a1 k x13 x14 x15 = some o → WPR Try.prog W A Kf (kid [true, true, true, true, false, true, false, false] (bodyAt Try.f27)) (Out (.exit 0) (g27_live_After.j0_0 a0 a1 o)) k (g27_live_After.h0 a0 a1 x13 x14 x15)
  | 0, x13, x14, x15, o, h => by cases h
  | k + 1, x13, x14, x15, o, h => by
    refine WPR.round ?_
    let b21 : Bool := (decide (x15 ≥ (0 : Int)))
    refine StopP.advd tbOk [] 100000 1000 (by kernel_rfl) (by kernel_rfl) (ac_nil) ?_
    refine StopP.cond (b := b21) (by kernel_rfl) (fun hb22 => ?_) (fun hb22 => ?_)
    · have h := cd_t hb22 h
      obtain ⟨hg23, h⟩ := gd_some h
      obtain ⟨hg24, h⟩ := gd_some h
      obtain ⟨r25, hc25, h⟩ := bd_some h
      refine StopP.advd tbOk [(7, [(4, .obj (.rows 50 1 eU16 0 (x13.set x15.toNat x14)))]), (8, [(5, .call [] [] (v1 (cu .u16 r25)))])] 100000 1000 (by kernel_rfl) (by kernel_rfl) (ac_y hg23 <| ac_c (Stored.mk (ty := 50) (es := 1) (enc := eU16) (z := 0) (xs := x13) (i := x15.toNat) (j := 0) (n := 1) x14 (tn hg23) (by decide) rfl rfl rfl) <| ac_y hg24 <| ac_y (g35_live_Before_ok K (((a0.Blocks.getD a1.toNat zBlock).Ops).getD x15.toNat zOp) x14 r25 hc25) <| ac_nil) ?_
      refine StopP.out .normal (by kernel_rfl) ?_
      exact WPR.chg [.keep [5, 6, 7, 8] [17]] (by kernel_rfl) (g27_live_After.l0_ok K a0 a1 k (x13.set x15.toNat x14) r25 (IntKind.i64.wrap (x15 - (1 : Int))) o h)
    · have h := cd_f hb22 h
      refine StopP.advd tbOk [] 100000 1000 (by kernel_rfl) (by kernel_rfl) (ac_nil) ?_
      have h := sm h; subst h
      exact StopP.out (.exit 0) (by kernel_rfl) ⟨rfl, [.keep [6] [17]], by kernel_rfl⟩

def g27_live_After (K : Nat) (a0 : Graph) (a1 : Int) : Option ((List Int)) :=
  gd (0 ≤ a1 ∧ a1 < (a0.Blocks.length : Int)) <|
  gd (0 ≤ (((a0.Blocks.getD a1.toNat zBlock).Ops).length : Int) ∧ (((a0.Blocks.getD a1.toNat zBlock).Ops).length : Int).toNat ≤ 1073741824) <|
  let y3 : List Int := (List.replicate (((a0.Blocks.getD a1.toNat zBlock).Ops).length : Int).toNat 0)
  gd (0 ≤ a1 ∧ a1 < (a0.Blocks.length : Int)) <|
  (g34_live_In K a0).bind fun r5 =>
  (g33_live_end K ((a0.Blocks.getD a1.toNat zBlock).End) r5).bind fun r6 =>
  let i7 : Int := (IntKind.i64.wrap ((((a0.Blocks.getD a1.toNat zBlock).Ops).length : Int) - (1 : Int)))
  (g27_live_After.l0 K a0 a1 K y3 r6 i7).bind fun o26 =>
  some o26

theorem g27_live_After_ok (K : Nat) (a0 : Graph) (a1 : Int) (r : (List Int)) (h : g27_live_After K a0 a1 = some r) : AC Try.prog 27 [] [.v true [cs a0.Name, cb a0.Keep, cb a0.Leaf, .t (.ro 12 cBlock zBlock a0.Blocks)], v1 (ci a1)] [(7000, .rows 50 1 eU16 0 r)] (v1 (.own 7000)) := by
  refine AC.intro (fn := Try.f27) tbOk (by kernel_rfl) rfl (by kernel_rfl) (fun W A Kf => ?_)
  obtain ⟨hg1, h⟩ := gd_some h
  obtain ⟨hg2, h⟩ := gd_some h
  let y3 : List Int := (List.replicate (((a0.Blocks.getD a1.toNat zBlock).Ops).length : Int).toNat 0)
  obtain ⟨hg4, h⟩ := gd_some h
  obtain ⟨r5, hc5, h⟩ := bd_some h
  obtain ⟨r6, hc6, h⟩ := bd_some h
  let i7 : Int := (IntKind.i64.wrap ((((a0.Blocks.getD a1.toNat zBlock).Ops).length : Int) - (1 : Int)))
  refine StopP.advd tbOk [(2, [(2, .obj (.rows 50 1 eU16 0 (List.replicate (((a0.Blocks.getD a1.toNat zBlock).Ops).length : Int).toNat 0)))]), (3, [(7, .call [] [] (v1 (.t (.ro 1 eU16 0 r5)))), (8, .call [] [] (v1 (cu .u16 r6)))])] 100000 1000 (by kernel_rfl) (by kernel_rfl) (ac_y hg1 <| ac_c (rfl : (((a0.Blocks.getD a1.toNat zBlock).Ops).length : Int) = (((a0.Blocks.getD a1.toNat zBlock).Ops).length : Int)) <| ac_c (Made.mk (ty := 50) (es := 1) (by_ := 2) (enc := eU16) (z := 0) (n := (((a0.Blocks.getD a1.toNat zBlock).Ops).length : Int)) hg2.1 rfl (sl hg2.2) (sb2 hg2.2 (by decide))) <| ac_y hg4 <| ac_y (g34_live_In_fz K a0 r5 hc5) <| ac_y (g33_live_end_ok K ((a0.Blocks.getD a1.toNat zBlock).End) r5 r6 hc6) <| ac_nil) ?_
  obtain ⟨o26, ho26, h⟩ := bd_some h
  refine StopP.lp (by kernel_rfl) [.keep [5, 6, 7, 8] [17]] (s := g27_live_After.h0 a0 a1 y3 r6 i7) (by kernel_rfl) (c := (kid [true, true, true, true, false, true, false, false] (bodyAt Try.f27))) (by kernel_rfl) (e := (.exit 0)) (J := g27_live_After.j0_0 a0 a1 o26) K (g27_live_After.l0_ok K a0 a1 K y3 r6 i7 o26 ho26) ?_
  refine StopP.advd tbOk [] 100000 1000 (by kernel_rfl) (by kernel_rfl) (ac_nil) ?_
  have h := sm h; subst h
  refine StopP.out .ret (by kernel_rfl) ?_
  exact ret_box (.inr rfl) [.keep [4] [17], .ren [(17, 7000)]] (by kernel_rfl) (by kernel_rfl) [7000] (by kernel_rfl)

theorem g27_live_After_fz (K : Nat) (a0 : Graph) (a1 : Int) (r : (List Int)) (h : g27_live_After K a0 a1 = some r) : AC Try.prog 27 [] [.v true [cs a0.Name, cb a0.Keep, cb a0.Leaf, .t (.ro 12 cBlock zBlock a0.Blocks)], v1 (ci a1)] [] (v1 (.t (.ro 1 eU16 0 r))) :=
  AC.cast (AC.fz (g27_live_After_ok K a0 a1 r h) 7000 (o := .rows 50 1 eU16 0 r) (t := .ro 1 eU16 0 r) (by kernel_rfl) (by kernel_rfl)) (by kernel_rfl) (by kernel_rfl)

def g15_dead_Sweep.l2 (K : Nat) (r1 : Graph) (x145 : ByteArray) (x146 : (List Block)) (x338 : (List Block)) (x339 : Bool) (x340 : Int) (r389 : (List Int)) : Nat → (List Op') → Int → Option ((List Op'))
  | 0, _, _ => none
  | k + 1, x409, x410 =>
    let b419 : Bool := (decide (x410 < (((x338.getD x340.toNat zBlock).Ops).length : Int)))
    bif b419 then
      gd (0 ≤ x410 ∧ x410 < (((x338.getD x340.toNat zBlock).Ops).length : Int)) <|
      gd (0 ≤ x410 ∧ x410 < (r389.length : Int)) <|
      (g28_dead_idle K (((x338.getD x340.toNat zBlock).Ops).getD x410.toNat zOp) (r389.getD x410.toNat 0)).bind fun r423 =>
      bif (!r423) then
        let y425 : List Op' := ([(((x338.getD x340.toNat zBlock).Ops).getD x410.toNat zOp)] : List Op')
        gd (x409.length + y425.length ≤ 1073741824) <|
        g15_dead_Sweep.l2 K r1 x145 x146 x338 x339 x340 r389 k (x409 ++ y425) (IntKind.i64.wrap (x410 + (1 : Int)))
      else
        g15_dead_Sweep.l2 K r1 x145 x146 x338 x339 x340 r389 k x409 (IntKind.i64.wrap (x410 + (1 : Int)))
    else
      some x409

def g15_dead_Sweep.h2 (r1 : Graph) (x145 : ByteArray) (x146 : (List Block)) (x338 : (List Block)) (x339 : Bool) (x340 : Int) (r389 : (List Int)) (x409 : (List Op')) (x410 : Int) : Abs.St := ⟨[(2, .yes, v1 (.ptr 2 0 0)), (3, .yes, v1 (.ptr 3 0 0)), (4, .yes, v1 (cb x339)), (5, .yes, v1 (ci x340)), (6, .yes, v1 (.own 20210)), (7, .yes, v1 (.own 5100)), (15, .yes, v1 (ci (x146.length : Int))), (16, .yes, v1 (ci x340)), (27, .yes, v1 (.t (.ro 9 cOp zOp ((x338.getD x340.toNat zBlock).Ops)))), (28, .yes, v1 (ci (((x338.getD x340.toNat zBlock).Ops).length : Int))), (29, .yes, v1 (ci x410))], [(2, .box 24 [cs x145, cb false, cb false, .t (.ro 12 cBlock zBlock ([]))]), (3, .box 24 [cs r1.Name, cb r1.Keep, cb r1.Leaf, .own 20110]), (5100, .rows 35 9 cOp zOp x409), (20110, .rows 39 12 cBlock zBlock x338), (20210, .rows 50 1 eU16 0 r389)], 62⟩

def g15_dead_Sweep.j2_0 (r1 : Graph) (x145 : ByteArray) (x146 : (List Block)) (x338 : (List Block)) (x339 : Bool) (x340 : Int) (r389 : (List Int)) (o : (List Op')) : Abs.St := ⟨[(2, .yes, v1 (.ptr 2 0 0)), (3, .yes, v1 (.ptr 3 0 0)), (4, .yes, v1 (cb x339)), (5, .yes, v1 (ci x340)), (6, .yes, v1 (.own 20210)), (7, .yes, v1 (.own 5100)), (15, .yes, v1 (ci (x146.length : Int))), (16, .yes, v1 (ci x340))], [(2, .box 24 [cs x145, cb false, cb false, .t (.ro 12 cBlock zBlock ([]))]), (3, .box 24 [cs r1.Name, cb r1.Keep, cb r1.Leaf, .own 20110]), (5100, .rows 35 9 cOp zOp o), (20110, .rows 39 12 cBlock zBlock x338), (20210, .rows 50 1 eU16 0 r389)], 62⟩

theorem g15_dead_Sweep.l2_ok {W : World} {A Kf : Nat → Prop} (K : Nat) (r1 : Graph) (x145 : ByteArray) (x146 : (List Block)) (x338 : (List Block)) (x339 : Bool) (x340 : Int) (r389 : (List Int)) : ∀ (k : Nat) (x409 : (List Op')) (x410 : Int) (o : (List Op')), g15_dead_Sweep.l2 K r1 x145 x146 x338 x339 x340 r389 k x409 x410 = some o → WPR Try.prog W A Kf (kid [true, true, false, true, false, false, true, false, true, true, false, false, true, true, false, false, true, true, true, false, true, false, false] (bodyAt Try.f15)) (Out (.exit 4) (g15_dead_Sweep.j2_0 r1 x145 x146 x338 x339 x340 r389 o)) k (g15_dead_Sweep.h2 r1 x145 x146 x338 x339 x340 r389 x409 x410)
  | 0, x409, x410, o, h => by cases h
  | k + 1, x409, x410, o, h => by
    refine WPR.round ?_
    let b419 : Bool := (decide (x410 < (((x338.getD x340.toNat zBlock).Ops).length : Int)))
    refine StopP.advd tbOk [] 100000 1000 (by kernel_rfl) (by kernel_rfl) (ac_nil) ?_
    refine StopP.cond (b := b419) (by kernel_rfl) (fun hb420 => ?_) (fun hb420 => ?_)
    · have h := cd_t hb420 h
      obtain ⟨hg421, h⟩ := gd_some h
      obtain ⟨hg422, h⟩ := gd_some h
      obtain ⟨r423, hc423, h⟩ := bd_some h
      refine StopP.advd tbOk [(13, [(5, .call [] [] (v1 (cb r423)))])] 100000 1000 (by kernel_rfl) (by kernel_rfl) (ac_y hg421 <| ac_y hg422 <| ac_y (tn hg422) <| ac_y (g28_dead_idle_ok K (((x338.getD x340.toNat zBlock).Ops).getD x410.toNat zOp) (r389.getD x410.toNat 0) r423 hc423) <| ac_nil) ?_
      refine StopP.cond (b := (!r423)) (by kernel_rfl) (fun hb424 => ?_) (fun hb424 => ?_)
      · have h := cd_t hb424 h
        let y425 : List Op' := ([(((x338.getD x340.toNat zBlock).Ops).getD x410.toNat zOp)] : List Op')
        obtain ⟨hg426, h⟩ := gd_some h
        refine StopP.advd tbOk [(14, [(2, .obj (.rows 35 9 cOp zOp ([(((x338.getD x340.toNat zBlock).Ops).getD x410.toNat zOp)] : List Op'))), (3, .obj (.rows 35 9 cOp zOp (x409 ++ y425)))])] 100000 1000 (by kernel_rfl) (by kernel_rfl) (ac_c (Built.mk (ty := 35) (es := 9) (enc := cOp) (z := zOp) (xs := ([(((x338.getD x340.toNat zBlock).Ops).getD x410.toNat zOp)] : List Op')) (fun _ _ => rfl) (by decide : (1 * 9 : Nat) ≤ 16777216)) <| ac_c (Appended.mk (ty := 35) (es := 9) (by_ := 72) (enc := cOp) (z := zOp) (z' := zOp) (xs := x409) (ys := y425) (fun _ _ => rfl) (sl hg426) (sb hg426 (by decide))) <| ac_nil) ?_
        refine StopP.out .normal (by kernel_rfl) ?_
        exact WPR.chg [.keep [2, 3, 4, 5, 6, 7, 15, 16, 27, 28, 29] [2, 3, 44, 20110, 20210], .ren [(44, 5100)]] (by kernel_rfl) (g15_dead_Sweep.l2_ok K r1 x145 x146 x338 x339 x340 r389 k (x409 ++ y425) (IntKind.i64.wrap (x410 + (1 : Int))) o h)
      · have h := cd_f hb424 h
        refine StopP.advd tbOk [] 100000 1000 (by kernel_rfl) (by kernel_rfl) (ac_nil) ?_
        refine StopP.out .normal (by kernel_rfl) ?_
        exact WPR.chg [.keep [2, 3, 4, 5, 6, 7, 15, 16, 27, 28, 29] [2, 3, 5100, 20110, 20210]] (by kernel_rfl) (g15_dead_Sweep.l2_ok K r1 x145 x146 x338 x339 x340 r389 k x409 (IntKind.i64.wrap (x410 + (1 : Int))) o h)
    · have h := cd_f hb420 h
      refine StopP.advd tbOk [] 100000 1000 (by kernel_rfl) (by kernel_rfl) (ac_nil) ?_
      have h := sm h; subst h
      exact StopP.out (.exit 4) (by kernel_rfl) ⟨rfl, [.keep [2, 3, 4, 5, 6, 7, 15, 16] [2, 3, 5100, 20110, 20210]], by kernel_rfl⟩

def g15_dead_Sweep.l1 (K : Nat) (r1 : Graph) (x145 : ByteArray) (x146 : (List Block)) : Nat → (List Block) → Bool → Int → Option (Bool × (List Block))
  | 0, _, _, _ => none
  | k + 1, x338, x339, x340 =>
    let b387 : Bool := (decide (x340 < (x146.length : Int)))
    bif b387 then
      (g27_live_After K (⟨r1.Name, r1.Keep, r1.Leaf, x338⟩ : Graph) x340).bind fun r389 =>
      gd (0 ≤ x340 ∧ x340 < (x338.length : Int)) <|
      (g15_dead_Sweep.l2 K r1 x145 x146 x338 x339 x340 r389 K ([]) (0 : Int)).bind fun o427 =>
      let b428 : Bool := (decide ((o427.length : Int) < (r389.length : Int)))
      let b429 : Bool := (bif x339 then true else b428)
      gd (0 ≤ x340 ∧ x340 < (x338.length : Int)) <|
      let y432 : List Block := (x338.set x340.toNat (⟨o427, (x338.getD x340.toNat zBlock).End⟩ : Block))
      g15_dead_Sweep.l1 K r1 x145 x146 k y432 b429 (IntKind.i64.wrap (x340 + (1 : Int)))
    else
      some (x339, x338)

def g15_dead_Sweep.h1 (r1 : Graph) (x145 : ByteArray) (x146 : (List Block)) (x338 : (List Block)) (x339 : Bool) (x340 : Int) : Abs.St := ⟨[(2, .yes, v1 (.ptr 2 0 0)), (3, .yes, v1 (.ptr 3 0 0)), (4, .yes, v1 (cb x339)), (15, .yes, v1 (ci (x146.length : Int))), (16, .yes, v1 (ci x340))], [(2, .box 24 [cs x145, cb false, cb false, .t (.ro 12 cBlock zBlock ([]))]), (3, .box 24 [cs r1.Name, cb r1.Keep, cb r1.Leaf, .own 20110]), (20110, .rows 39 12 cBlock zBlock x338)], 62⟩

def g15_dead_Sweep.j1_0 (r1 : Graph) (x145 : ByteArray) (x146 : (List Block)) (o : Bool × (List Block)) : Abs.St := ⟨[(2, .yes, v1 (.ptr 2 0 0)), (3, .yes, v1 (.ptr 3 0 0)), (4, .yes, v1 (cb o.1))], [(2, .box 24 [cs x145, cb false, cb false, .t (.ro 12 cBlock zBlock ([]))]), (3, .box 24 [cs r1.Name, cb r1.Keep, cb r1.Leaf, .own 20110]), (20110, .rows 39 12 cBlock zBlock o.2)], 62⟩

theorem g15_dead_Sweep.l1_ok {W : World} {A Kf : Nat → Prop} (K : Nat) (r1 : Graph) (x145 : ByteArray) (x146 : (List Block)) : ∀ (k : Nat) (x338 : (List Block)) (x339 : Bool) (x340 : Int) (o : Bool × (List Block)), g15_dead_Sweep.l1 K r1 x145 x146 k x338 x339 x340 = some o → WPR Try.prog W A Kf (kid [true, true, false, true, false, false, true, false, true, true, false, false] (bodyAt Try.f15)) (Out (.exit 2) (g15_dead_Sweep.j1_0 r1 x145 x146 o)) k (g15_dead_Sweep.h1 r1 x145 x146 x338 x339 x340)
  | 0, x338, x339, x340, o, h => by cases h
  | k + 1, x338, x339, x340, o, h => by
    refine WPR.round ?_
    let b387 : Bool := (decide (x340 < (x146.length : Int)))
    refine StopP.advd tbOk [] 100000 1000 (by kernel_rfl) (by kernel_rfl) (ac_nil) ?_
    refine StopP.cond (b := b387) (by kernel_rfl) (fun hb388 => ?_) (fun hb388 => ?_)
    · have h := cd_t hb388 h
      obtain ⟨r389, hc389, h⟩ := bd_some h
      obtain ⟨hg390, h⟩ := gd_some h
      refine StopP.advd tbOk [(8, [(2, .call [(7000, 20210)] [(7000, .rows 50 1 eU16 0 r389)] (v1 (.own 7000)))])] 100000 1000 (by kernel_rfl) (by kernel_rfl) (ac_y (g27_live_After_ok K (⟨r1.Name, r1.Keep, r1.Leaf, x338⟩ : Graph) x340 r389 hc389) <| ac_c (show Plain [(7000, .rows 50 1 eU16 0 r389)] (v1 (.own 7000)) from plain_one (plain_rows fun _ => rfl) rfl) <| ac_y hg390 <| ac_y (tn hg390) <| ac_nil) ?_
      obtain ⟨o427, ho427, h⟩ := bd_some h
      refine StopP.lp (by kernel_rfl) [.own (.slot 7 0) 5100 (.rows 35 9 cOp zOp []), .keep [2, 3, 4, 5, 6, 7, 15, 16, 27, 28, 29] [2, 3, 5100, 20110, 20210]] (s := g15_dead_Sweep.h2 r1 x145 x146 x338 x339 x340 r389 ([]) (0 : Int)) (by kernel_rfl) (c := (kid [true, true, false, true, false, false, true, false, true, true, false, false, true, true, false, false, true, true, true, false, true, false, false] (bodyAt Try.f15))) (by kernel_rfl) (e := (.exit 4)) (J := g15_dead_Sweep.j2_0 r1 x145 x146 x338 x339 x340 r389 o427) K (g15_dead_Sweep.l2_ok K r1 x145 x146 x338 x339 x340 r389 K ([]) (0 : Int) o427 ho427) ?_
      let b428 : Bool := (decide ((o427.length : Int) < (r389.length : Int)))
      let b429 : Bool := (bif x339 then true else b428)
      refine StopP.advd tbOk [] 17 1000 (by kernel_rfl) (by kernel_rfl) (ac_on (!x339) (pt (!x339)) <| ac_on (!x339) (pt (!x339)) <| ac_on (!x339) (pt (!x339)) <| ac_on (!x339) (pt (!x339)) <| ac_y (pn x339) <| ac_nil) ?_
      refine StopP.chgS [.fz 5100] (by kernel_rfl) (by kernel_rfl) ?_
      obtain ⟨hg431, h⟩ := gd_some h
      let y432 : List Block := (x338.set x340.toNat (⟨o427, (x338.getD x340.toNat zBlock).End⟩ : Block))
      refine StopP.advd tbOk [(17, [(6, .obj (.rows 39 12 cBlock zBlock (x338.set x340.toNat (⟨o427, (x338.getD x340.toNat zBlock).End⟩ : Block))))])] 100000 1000 (by kernel_rfl) (by kernel_rfl) (ac_y hg431 <| ac_c (Stored.mk (ty := 39) (es := 12) (enc := cBlock) (z := zBlock) (xs := x338) (i := x340.toNat) (j := 0) (n := 1) (⟨o427, (x338.getD x340.toNat zBlock).End⟩ : Block) (tn hg431) (by decide) rfl rfl rfl) <| ac_nil) ?_
      refine StopP.out .normal (by kernel_rfl) ?_
      exact WPR.chg [.keep [2, 3, 4, 15, 16] [2, 3, 20110]] (by kernel_rfl) (g15_dead_Sweep.l1_ok K r1 x145 x146 k y432 b429 (IntKind.i64.wrap (x340 + (1 : Int))) o h)
    · have h := cd_f hb388 h
      refine StopP.advd tbOk [] 100000 1000 (by kernel_rfl) (by kernel_rfl) (ac_nil) ?_
      have h := sm h; subst h
      exact StopP.out (.exit 2) (by kernel_rfl) ⟨rfl, [.keep [2, 3, 4] [2, 3, 20110]], by kernel_rfl⟩

def g15_dead_Sweep.l0 (K : Nat) (r1 : Graph) : Nat → ByteArray → (List Block) → Bool → Option (ByteArray × (List Block))
  | 0, _, _, _ => none
  | k + 1, x145, x146, x147 =>
    bif x147 then
      (g15_dead_Sweep.l1 K r1 x145 x146 K x146 false (0 : Int)).bind fun o433 =>
      g15_dead_Sweep.l0 K r1 k x145 o433.2 o433.1
    else
      some (x145, x146)

def g15_dead_Sweep.h0 (r1 : Graph) (x145 : ByteArray) (x146 : (List Block)) (x147 : Bool) : Abs.St := ⟨[(2, .yes, v1 (.ptr 2 0 0)), (3, .yes, v1 (.ptr 3 0 0)), (4, .yes, v1 (cb x147))], [(2, .box 24 [cs x145, cb false, cb false, .t (.ro 12 cBlock zBlock ([]))]), (3, .box 24 [cs r1.Name, cb r1.Keep, cb r1.Leaf, .own 20110]), (20110, .rows 39 12 cBlock zBlock x146)], 62⟩

def g15_dead_Sweep.j0_0 (r1 : Graph) (o : ByteArray × (List Block)) : Abs.St := ⟨[(2, .yes, v1 (.ptr 2 0 0)), (3, .yes, v1 (.ptr 3 0 0))], [(2, .box 24 [cs o.1, cb false, cb false, .t (.ro 12 cBlock zBlock ([]))]), (3, .box 24 [cs r1.Name, cb r1.Keep, cb r1.Leaf, .own 20110]), (20110, .rows 39 12 cBlock zBlock o.2)], 62⟩

theorem g15_dead_Sweep.l0_ok {W : World} {A Kf : Nat → Prop} (K : Nat) (r1 : Graph) : ∀ (k : Nat) (x145 : ByteArray) (x146 : (List Block)) (x147 : Bool) (o : ByteArray × (List Block)), g15_dead_Sweep.l0 K r1 k x145 x146 x147 = some o → WPR Try.prog W A Kf (kid [true, true, false, true, false, false] (bodyAt Try.f15)) (Out (.exit 0) (g15_dead_Sweep.j0_0 r1 o)) k (g15_dead_Sweep.h0 r1 x145 x146 x147)
  | 0, x145, x146, x147, o, h => by cases h
  | k + 1, x145, x146, x147, o, h => by
    refine WPR.round ?_
    refine StopP.advd tbOk [] 100000 1000 (by kernel_rfl) (by kernel_rfl) (ac_nil) ?_
    refine StopP.cond (b := x147) (by kernel_rfl) (fun hb291 => ?_) (fun hb291 => ?_)
    · have h := cd_t hb291 h
      refine StopP.advd tbOk [] 100000 1000 (by kernel_rfl) (by kernel_rfl) (ac_nil) ?_
      obtain ⟨o433, ho433, h⟩ := bd_some h
      refine StopP.lp (by kernel_rfl) [.keep [2, 3, 4, 15, 16] [2, 3, 20110]] (s := g15_dead_Sweep.h1 r1 x145 x146 x146 false (0 : Int)) (by kernel_rfl) (c := (kid [true, true, false, true, false, false, true, false, true, true, false, false] (bodyAt Try.f15))) (by kernel_rfl) (e := (.exit 2)) (J := g15_dead_Sweep.j1_0 r1 x145 x146 o433) K (g15_dead_Sweep.l1_ok K r1 x145 x146 K x146 false (0 : Int) o433 ho433) ?_
      refine StopP.out .normal (by kernel_rfl) ?_
      exact WPR.chg [.keep [2, 3, 4] [2, 3, 20110]] (by kernel_rfl) (g15_dead_Sweep.l0_ok K r1 k x145 o433.2 o433.1 o h)
    · have h := cd_f hb291 h
      refine StopP.advd tbOk [] 100000 1000 (by kernel_rfl) (by kernel_rfl) (ac_nil) ?_
      have h := sm h; subst h
      exact StopP.out (.exit 0) (by kernel_rfl) ⟨rfl, [.keep [2, 3] [2, 3, 20110]], by kernel_rfl⟩

def g15_dead_Sweep (K : Nat) (a0 : Graph) : Option (Graph) :=
  (g23_dead_copied K a0).bind fun r1 =>
  (g15_dead_Sweep.l0 K r1 K ByteArray.empty r1.Blocks true).bind fun o434 =>
  some (⟨r1.Name, r1.Keep, r1.Leaf, o434.2⟩ : Graph)

theorem g15_dead_Sweep_ok (K : Nat) (a0 : Graph) (r : Graph) (h : g15_dead_Sweep K a0 = some r) : AC Try.prog 15 [] [.v true [cs a0.Name, cb a0.Keep, cb a0.Leaf, .t (.ro 12 cBlock zBlock a0.Blocks)]] [(7000, .rows 39 12 cBlock zBlock r.Blocks)] (.v true [cs r.Name, cb r.Keep, cb r.Leaf, .own 7000]) := by
  refine AC.intro (fn := Try.f15) tbOk (by kernel_rfl) rfl (by kernel_rfl) (fun W A Kf => ?_)
  obtain ⟨r1, hc1, h⟩ := bd_some h
  refine StopP.advd tbOk [(1, [(1, .call [(7000, 20110)] [(7000, .rows 39 12 cBlock zBlock r1.Blocks)] (.v true [cs r1.Name, cb r1.Keep, cb r1.Leaf, .own 7000]))])] 100000 1000 (by kernel_rfl) (by kernel_rfl) (ac_y (g23_dead_copied_ok K a0 r1 hc1) <| ac_nil) ?_
  obtain ⟨o434, ho434, h⟩ := bd_some h
  refine StopP.lp (by kernel_rfl) [.keep [2, 3, 4] [2, 3, 20110]] (s := g15_dead_Sweep.h0 r1 ByteArray.empty r1.Blocks true) (by kernel_rfl) (c := (kid [true, true, false, true, false, false] (bodyAt Try.f15))) (by kernel_rfl) (e := (.exit 0)) (J := g15_dead_Sweep.j0_0 r1 o434) K (g15_dead_Sweep.l0_ok K r1 K ByteArray.empty r1.Blocks true o434 ho434) ?_
  refine StopP.advd tbOk [] 100000 1000 (by kernel_rfl) (by kernel_rfl) (ac_nil) ?_
  have h := sm h; subst h
  refine StopP.out .ret (by kernel_rfl) ?_
  exact ret_box (.inr rfl) [.keep [2] [2, 20110], .ren [(20110, 7000)]] (by kernel_rfl) (by kernel_rfl) [7000] (by kernel_rfl)

theorem g15_dead_Sweep_fz (K : Nat) (a0 : Graph) (r : Graph) (h : g15_dead_Sweep K a0 = some r) : AC Try.prog 15 [] [.v true [cs a0.Name, cb a0.Keep, cb a0.Leaf, .t (.ro 12 cBlock zBlock a0.Blocks)]] [] (.v true [cs r.Name, cb r.Keep, cb r.Leaf, .t (.ro 12 cBlock zBlock r.Blocks)]) :=
  AC.cast (AC.fz (g15_dead_Sweep_ok K a0 r h) 7000 (o := .rows 39 12 cBlock zBlock r.Blocks) (t := .ro 12 cBlock zBlock r.Blocks) (by kernel_rfl) (by kernel_rfl)) (by kernel_rfl) (by kernel_rfl)

def g17_dead_Graph (K : Nat) (a0 : Graph) : Option (Graph) :=
  bif a0.Keep then
    (g23_dead_copied K a0).bind fun r2 =>
    some r2
  else
    (g11_dead_Thread K a0).bind fun r3 =>
    (g13_dead_Trim K r3).bind fun r4 =>
    (g15_dead_Sweep K r4).bind fun r5 =>
    (g11_dead_Thread K r5).bind fun r6 =>
    (g13_dead_Trim K r6).bind fun r7 =>
    some r7

theorem g17_dead_Graph_ok (K : Nat) (a0 : Graph) (r : Graph) (h : g17_dead_Graph K a0 = some r) : AC Try.prog 17 [] [.v true [cs a0.Name, cb a0.Keep, cb a0.Leaf, .t (.ro 12 cBlock zBlock a0.Blocks)]] [] (.v true [cs r.Name, cb r.Keep, cb r.Leaf, .t (.ro 12 cBlock zBlock r.Blocks)]) := by
  refine AC.intro (fn := Try.f17) tbOk (by kernel_rfl) rfl (by kernel_rfl) (fun W A Kf => ?_)
  refine StopP.advd tbOk [] 100000 1000 (by kernel_rfl) (by kernel_rfl) (ac_nil) ?_
  refine StopP.cond (b := a0.Keep) (by kernel_rfl) (fun hb1 => ?_) (fun hb1 => ?_)
  · have h := cd_t hb1 h
    obtain ⟨r2, hc2, h⟩ := bd_some h
    refine StopP.advd tbOk [(2, [(1, .call [] [] (.v true [cs r2.Name, cb r2.Keep, cb r2.Leaf, .t (.ro 12 cBlock zBlock r2.Blocks)]))])] 100000 1000 (by kernel_rfl) (by kernel_rfl) (ac_y (g23_dead_copied_fz K a0 r2 hc2) <| ac_nil) ?_
    have h := sm h; subst h
    refine StopP.out .ret (by kernel_rfl) ?_
    exact ret_box (.inr rfl) [.keep [2] [2]] (by kernel_rfl) (by kernel_rfl) [] (by kernel_rfl)
  · have h := cd_f hb1 h
    obtain ⟨r3, hc3, h⟩ := bd_some h
    obtain ⟨r4, hc4, h⟩ := bd_some h
    obtain ⟨r5, hc5, h⟩ := bd_some h
    obtain ⟨r6, hc6, h⟩ := bd_some h
    obtain ⟨r7, hc7, h⟩ := bd_some h
    refine StopP.advd tbOk [(3, [(1, .call [] [] (.v true [cs r3.Name, cb r3.Keep, cb r3.Leaf, .t (.ro 12 cBlock zBlock r3.Blocks)])), (2, .call [] [] (.v true [cs r4.Name, cb r4.Keep, cb r4.Leaf, .t (.ro 12 cBlock zBlock r4.Blocks)])), (3, .call [] [] (.v true [cs r5.Name, cb r5.Keep, cb r5.Leaf, .t (.ro 12 cBlock zBlock r5.Blocks)])), (4, .call [] [] (.v true [cs r6.Name, cb r6.Keep, cb r6.Leaf, .t (.ro 12 cBlock zBlock r6.Blocks)])), (5, .call [] [] (.v true [cs r7.Name, cb r7.Keep, cb r7.Leaf, .t (.ro 12 cBlock zBlock r7.Blocks)]))])] 100000 1000 (by kernel_rfl) (by kernel_rfl) (ac_y (g11_dead_Thread_fz K a0 r3 hc3) <| ac_y (g13_dead_Trim_fz K r3 r4 hc4) <| ac_y (g15_dead_Sweep_fz K r4 r5 hc5) <| ac_y (g11_dead_Thread_fz K r5 r6 hc6) <| ac_y (g13_dead_Trim_fz K r6 r7 hc7) <| ac_nil) ?_
    have h := sm h; subst h
    refine StopP.out .ret (by kernel_rfl) ?_
    exact ret_box (.inr rfl) [.keep [2] [2]] (by kernel_rfl) (by kernel_rfl) [] (by kernel_rfl)

def g8_law22_awake (K : Nat)  : Option (Bool) :=
  let y1 : List Op' := ([(⟨(⟨(8 : Int), (1 : Int), (0 : Int), (0 : Int), (2 : Int)⟩ : Ins), false, (0 : Int), (0 : Int), (0 : Int)⟩ : Op'), (⟨(⟨(8 : Int), (1 : Int), (0 : Int), (0 : Int), (3 : Int)⟩ : Ins), false, (0 : Int), (0 : Int), (0 : Int)⟩ : Op')] : List Op')
  let y2 : List Block := ([(⟨y1, (⟨(1 : Int), (0 : Int), (0 : Int), (0 : Int), (2 : Int), (0 : Int), (⟨(0 : Int), (0 : Int), (0 : Int), (0 : Int), (0 : Int)⟩ : Ins)⟩ : Term)⟩ : Block), (⟨[], (⟨(1 : Int), (0 : Int), (0 : Int), (0 : Int), (0 : Int), (0 : Int), (⟨(0 : Int), (0 : Int), (0 : Int), (0 : Int), (0 : Int)⟩ : Ins)⟩ : Term)⟩ : Block), (⟨[], (⟨(1 : Int), (0 : Int), (0 : Int), (0 : Int), (3 : Int), (0 : Int), (⟨(0 : Int), (0 : Int), (0 : Int), (0 : Int), (0 : Int)⟩ : Ins)⟩ : Term)⟩ : Block), (⟨[], (⟨(3 : Int), (0 : Int), (0 : Int), (0 : Int), (0 : Int), (0 : Int), (⟨(0 : Int), (1 : Int), (0 : Int), (0 : Int), (0 : Int)⟩ : Ins)⟩ : Term)⟩ : Block)] : List Block)
  (g17_dead_Graph K (⟨ByteArray.empty, false, false, y2⟩ : Graph)).bind fun r3 =>
  let b4 : Bool := ((r3.Blocks.length : Int) == (2 : Int))
  gd (b4 = true → 0 ≤ (0 : Int) ∧ (0 : Int) < (r3.Blocks.length : Int)) <|
  let b6 : Bool := ((((r3.Blocks.getD (0 : Int).toNat zBlock).Ops).length : Int) == (1 : Int))
  let b7 : Bool := (bif b4 then b6 else false)
  gd (b7 = true → 0 ≤ (0 : Int) ∧ (0 : Int) < (r3.Blocks.length : Int)) <|
  gd (b7 = true → 0 ≤ (0 : Int) ∧ (0 : Int) < (((r3.Blocks.getD (0 : Int).toNat zBlock).Ops).length : Int)) <|
  let b10 : Bool := (((((r3.Blocks.getD (0 : Int).toNat zBlock).Ops).getD (0 : Int).toNat zOp).Ins.Op == (8 : Int)) && (((((r3.Blocks.getD (0 : Int).toNat zBlock).Ops).getD (0 : Int).toNat zOp).Ins.A == (1 : Int)) && (((((r3.Blocks.getD (0 : Int).toNat zBlock).Ops).getD (0 : Int).toNat zOp).Ins.B == (0 : Int)) && (((((r3.Blocks.getD (0 : Int).toNat zBlock).Ops).getD (0 : Int).toNat zOp).Ins.C == (0 : Int)) && (((((r3.Blocks.getD (0 : Int).toNat zBlock).Ops).getD (0 : Int).toNat zOp).Ins.Imm == (3 : Int)) && (((((r3.Blocks.getD (0 : Int).toNat zBlock).Ops).getD (0 : Int).toNat zOp).Rel == false) && (((((r3.Blocks.getD (0 : Int).toNat zBlock).Ops).getD (0 : Int).toNat zOp).Kind == (0 : Int)) && (((((r3.Blocks.getD (0 : Int).toNat zBlock).Ops).getD (0 : Int).toNat zOp).To == (0 : Int)) && (((((r3.Blocks.getD (0 : Int).toNat zBlock).Ops).getD (0 : Int).toNat zOp).Add == (0 : Int)) && true)))))))))
  let b11 : Bool := (bif b7 then b10 else false)
  gd (b11 = true → 0 ≤ (0 : Int) ∧ (0 : Int) < (r3.Blocks.length : Int)) <|
  let b13 : Bool := ((r3.Blocks.getD (0 : Int).toNat zBlock).End.To == (1 : Int))
  let b14 : Bool := (bif b11 then b13 else false)
  (bif b14 then g13_dead_Trim K (⟨ByteArray.empty, false, false, y2⟩ : Graph) else some zGraph).bind fun r15 =>
  let b16 : Bool := ((r15.Blocks.length : Int) == (3 : Int))
  let b17 : Bool := (bif b14 then b16 else false)
  (bif b17 then g11_dead_Thread K (⟨ByteArray.empty, false, false, y2⟩ : Graph) else some zGraph).bind fun r18 =>
  gd (b17 = true → 0 ≤ (0 : Int) ∧ (0 : Int) < (r18.Blocks.length : Int)) <|
  let b20 : Bool := ((r18.Blocks.getD (0 : Int).toNat zBlock).End.To == (3 : Int))
  let b21 : Bool := (bif b17 then b20 else false)
  (bif b21 then g15_dead_Sweep K (⟨ByteArray.empty, false, false, y2⟩ : Graph) else some zGraph).bind fun r22 =>
  gd (b21 = true → 0 ≤ (0 : Int) ∧ (0 : Int) < (r22.Blocks.length : Int)) <|
  let i24 : Int := (((r22.Blocks.getD (0 : Int).toNat zBlock).Ops).length : Int)
  let b25 : Bool := (bif b21 then (i24 == (1 : Int)) else false)
  some b25

theorem g8_law22_awake_ok (K : Nat)  (r : Bool) (h : g8_law22_awake K  = some r) : AC Try.prog 8 [] [] [] (v1 (cb r)) := by
  refine AC.intro (fn := Try.f8) tbOk (by kernel_rfl) rfl (by kernel_rfl) (fun W A Kf => ?_)
  let y1 : List Op' := ([(⟨(⟨(8 : Int), (1 : Int), (0 : Int), (0 : Int), (2 : Int)⟩ : Ins), false, (0 : Int), (0 : Int), (0 : Int)⟩ : Op'), (⟨(⟨(8 : Int), (1 : Int), (0 : Int), (0 : Int), (3 : Int)⟩ : Ins), false, (0 : Int), (0 : Int), (0 : Int)⟩ : Op')] : List Op')
  let y2 : List Block := ([(⟨y1, (⟨(1 : Int), (0 : Int), (0 : Int), (0 : Int), (2 : Int), (0 : Int), (⟨(0 : Int), (0 : Int), (0 : Int), (0 : Int), (0 : Int)⟩ : Ins)⟩ : Term)⟩ : Block), (⟨[], (⟨(1 : Int), (0 : Int), (0 : Int), (0 : Int), (0 : Int), (0 : Int), (⟨(0 : Int), (0 : Int), (0 : Int), (0 : Int), (0 : Int)⟩ : Ins)⟩ : Term)⟩ : Block), (⟨[], (⟨(1 : Int), (0 : Int), (0 : Int), (0 : Int), (3 : Int), (0 : Int), (⟨(0 : Int), (0 : Int), (0 : Int), (0 : Int), (0 : Int)⟩ : Ins)⟩ : Term)⟩ : Block), (⟨[], (⟨(3 : Int), (0 : Int), (0 : Int), (0 : Int), (0 : Int), (0 : Int), (⟨(0 : Int), (1 : Int), (0 : Int), (0 : Int), (0 : Int)⟩ : Ins)⟩ : Term)⟩ : Block)] : List Block)
  obtain ⟨r3, hc3, h⟩ := bd_some h
  let b4 : Bool := ((r3.Blocks.length : Int) == (2 : Int))
  obtain ⟨hg5, h⟩ := gd_some h
  let b6 : Bool := ((((r3.Blocks.getD (0 : Int).toNat zBlock).Ops).length : Int) == (1 : Int))
  let b7 : Bool := (bif b4 then b6 else false)
  obtain ⟨hg8, h⟩ := gd_some h
  obtain ⟨hg9, h⟩ := gd_some h
  let b10 : Bool := (((((r3.Blocks.getD (0 : Int).toNat zBlock).Ops).getD (0 : Int).toNat zOp).Ins.Op == (8 : Int)) && (((((r3.Blocks.getD (0 : Int).toNat zBlock).Ops).getD (0 : Int).toNat zOp).Ins.A == (1 : Int)) && (((((r3.Blocks.getD (0 : Int).toNat zBlock).Ops).getD (0 : Int).toNat zOp).Ins.B == (0 : Int)) && (((((r3.Blocks.getD (0 : Int).toNat zBlock).Ops).getD (0 : Int).toNat zOp).Ins.C == (0 : Int)) && (((((r3.Blocks.getD (0 : Int).toNat zBlock).Ops).getD (0 : Int).toNat zOp).Ins.Imm == (3 : Int)) && (((((r3.Blocks.getD (0 : Int).toNat zBlock).Ops).getD (0 : Int).toNat zOp).Rel == false) && (((((r3.Blocks.getD (0 : Int).toNat zBlock).Ops).getD (0 : Int).toNat zOp).Kind == (0 : Int)) && (((((r3.Blocks.getD (0 : Int).toNat zBlock).Ops).getD (0 : Int).toNat zOp).To == (0 : Int)) && (((((r3.Blocks.getD (0 : Int).toNat zBlock).Ops).getD (0 : Int).toNat zOp).Add == (0 : Int)) && true)))))))))
  let b11 : Bool := (bif b7 then b10 else false)
  obtain ⟨hg12, h⟩ := gd_some h
  let b13 : Bool := ((r3.Blocks.getD (0 : Int).toNat zBlock).End.To == (1 : Int))
  let b14 : Bool := (bif b11 then b13 else false)
  obtain ⟨r15, hc15, h⟩ := bd_some h
  let b16 : Bool := ((r15.Blocks.length : Int) == (3 : Int))
  let b17 : Bool := (bif b14 then b16 else false)
  obtain ⟨r18, hc18, h⟩ := bd_some h
  obtain ⟨hg19, h⟩ := gd_some h
  let b20 : Bool := ((r18.Blocks.getD (0 : Int).toNat zBlock).End.To == (3 : Int))
  let b21 : Bool := (bif b17 then b20 else false)
  obtain ⟨r22, hc22, h⟩ := bd_some h
  obtain ⟨hg23, h⟩ := gd_some h
  let i24 : Int := (((r22.Blocks.getD (0 : Int).toNat zBlock).Ops).length : Int)
  let b25 : Bool := (bif b21 then (i24 == (1 : Int)) else false)
  have q0 := ac_on b17 (pt b17) <| ac_y (pt b17) <| ac_on b21 (pt b21) <| ac_on b21 (fun h => g15_dead_Sweep_fz K (⟨ByteArray.empty, false, false, y2⟩ : Graph) r22 (cd_t h hc22)) <| ac_on b21 (pt b21) <| ac_on b21 (pt b21) <| ac_on b21 hg23 <| ac_on b21 (pt b21) <| ac_on b21 (pt b21) <| ac_on b21 (pt b21) <| ac_on b21 (pt b21) <| ac_y (pt b21) <| ac_nil
  have q1 := ac_on b14 (pt b14) <| ac_on b14 (pt b14) <| ac_on b14 (pt b14) <| ac_y (pt b14) <| ac_on b17 (pt b17) <| ac_on b17 (fun h => g11_dead_Thread_fz K (⟨ByteArray.empty, false, false, y2⟩ : Graph) r18 (cd_t h hc18)) <| ac_on b17 (pt b17) <| ac_on b17 (pt b17) <| ac_on b17 hg19 <| ac_on b17 (pt b17) <| ac_on b17 (pt b17) <| ac_on b17 (pt b17) <| q0
  have q2 := ac_on b7 (pt b7) <| ac_y (pt b7) <| ac_on b11 (pt b11) <| ac_on b11 (pt b11) <| ac_on b11 hg12 <| ac_on b11 (pt b11) <| ac_on b11 (pt b11) <| ac_on b11 (pt b11) <| ac_on b11 (pt b11) <| ac_y (pt b11) <| ac_on b14 (pt b14) <| ac_on b14 (fun h => g13_dead_Trim_fz K (⟨ByteArray.empty, false, false, y2⟩ : Graph) r15 (cd_t h hc15)) <| q1
  have q3 := ac_on b4 (pt b4) <| ac_on b4 (pt b4) <| ac_y (pt b4) <| ac_on b7 (pt b7) <| ac_on b7 (pt b7) <| ac_on b7 hg8 <| ac_on b7 (pt b7) <| ac_on b7 (pt b7) <| ac_on b7 (pt b7) <| ac_on b7 hg9 <| ac_on b7 (pt b7) <| ac_on b7 (pt b7) <| q2
  refine StopP.advd tbOk [(3, [(2, .fz (.rows 35 9 cOp zOp ([(⟨(⟨(8 : Int), (1 : Int), (0 : Int), (0 : Int), (2 : Int)⟩ : Ins), false, (0 : Int), (0 : Int), (0 : Int)⟩ : Op'), (⟨(⟨(8 : Int), (1 : Int), (0 : Int), (0 : Int), (3 : Int)⟩ : Ins), false, (0 : Int), (0 : Int), (0 : Int)⟩ : Op')] : List Op'))), (12, .fz (.rows 39 12 cBlock zBlock ([(⟨y1, (⟨(1 : Int), (0 : Int), (0 : Int), (0 : Int), (2 : Int), (0 : Int), (⟨(0 : Int), (0 : Int), (0 : Int), (0 : Int), (0 : Int)⟩ : Ins)⟩ : Term)⟩ : Block), (⟨[], (⟨(1 : Int), (0 : Int), (0 : Int), (0 : Int), (0 : Int), (0 : Int), (⟨(0 : Int), (0 : Int), (0 : Int), (0 : Int), (0 : Int)⟩ : Ins)⟩ : Term)⟩ : Block), (⟨[], (⟨(1 : Int), (0 : Int), (0 : Int), (0 : Int), (3 : Int), (0 : Int), (⟨(0 : Int), (0 : Int), (0 : Int), (0 : Int), (0 : Int)⟩ : Ins)⟩ : Term)⟩ : Block), (⟨[], (⟨(3 : Int), (0 : Int), (0 : Int), (0 : Int), (0 : Int), (0 : Int), (⟨(0 : Int), (1 : Int), (0 : Int), (0 : Int), (0 : Int)⟩ : Ins)⟩ : Term)⟩ : Block)] : List Block)))]), (4, [(1, .call [] [] (.v true [cs r3.Name, cb r3.Keep, cb r3.Leaf, .t (.ro 12 cBlock zBlock r3.Blocks)]))]), (5, [(35, .call [] [] (.v true [cs r15.Name, cb r15.Keep, cb r15.Leaf, .t (.ro 12 cBlock zBlock r15.Blocks)])), (42, .call [] [] (.v true [cs r18.Name, cb r18.Keep, cb r18.Leaf, .t (.ro 12 cBlock zBlock r18.Blocks)])), (52, .call [] [] (.v true [cs r22.Name, cb r22.Keep, cb r22.Leaf, .t (.ro 12 cBlock zBlock r22.Blocks)]))])] 100000 1000 (by kernel_rfl) (by kernel_rfl) (ac_c (Built.mk (ty := 35) (es := 9) (enc := cOp) (z := zOp) (xs := ([(⟨(⟨(8 : Int), (1 : Int), (0 : Int), (0 : Int), (2 : Int)⟩ : Ins), false, (0 : Int), (0 : Int), (0 : Int)⟩ : Op'), (⟨(⟨(8 : Int), (1 : Int), (0 : Int), (0 : Int), (3 : Int)⟩ : Ins), false, (0 : Int), (0 : Int), (0 : Int)⟩ : Op')] : List Op')) (fun _ _ => rfl) (by decide : (2 * 9 : Nat) ≤ 16777216)) <| ac_c (Built.mk (ty := 39) (es := 12) (enc := cBlock) (z := zBlock) (xs := ([(⟨y1, (⟨(1 : Int), (0 : Int), (0 : Int), (0 : Int), (2 : Int), (0 : Int), (⟨(0 : Int), (0 : Int), (0 : Int), (0 : Int), (0 : Int)⟩ : Ins)⟩ : Term)⟩ : Block), (⟨[], (⟨(1 : Int), (0 : Int), (0 : Int), (0 : Int), (0 : Int), (0 : Int), (⟨(0 : Int), (0 : Int), (0 : Int), (0 : Int), (0 : Int)⟩ : Ins)⟩ : Term)⟩ : Block), (⟨[], (⟨(1 : Int), (0 : Int), (0 : Int), (0 : Int), (3 : Int), (0 : Int), (⟨(0 : Int), (0 : Int), (0 : Int), (0 : Int), (0 : Int)⟩ : Ins)⟩ : Term)⟩ : Block), (⟨[], (⟨(3 : Int), (0 : Int), (0 : Int), (0 : Int), (0 : Int), (0 : Int), (⟨(0 : Int), (1 : Int), (0 : Int), (0 : Int), (0 : Int)⟩ : Ins)⟩ : Term)⟩ : Block)] : List Block)) (fun _ _ => rfl) (by decide : (4 * 12 : Nat) ≤ 16777216)) <| ac_y (g17_dead_Graph_ok K (⟨ByteArray.empty, false, false, y2⟩ : Graph) r3 hc3) <| ac_on b4 (pt b4) <| ac_on b4 (pt b4) <| ac_on b4 hg5 <| ac_on b4 (pt b4) <| ac_on b4 (pt b4) <| q3) ?_
  have h := sm h; subst h
  refine StopP.out .ret (by kernel_rfl) ?_
  exact ret_box (.inr rfl) [.keep [0] []] (by kernel_rfl) (by kernel_rfl) [] (by kernel_rfl)

end Go.Proofs.Ytoooalfhjcfinaa.T

namespace Go.Proofs.Ytoooalfhjcfinaa.T
open Go.Abs
set_option linter.unusedVariables false
set_option maxRecDepth 100000
set_option maxHeartbeats 2000000

def g3_law22_DeadGraphs (K : Nat) (a0 : Graph) : Option (Bool) :=
  (g8_law22_awake K ).bind fun r1 =>
  (bif (!(!r1)) then g9_law22_fine K a0 else some false).bind fun r2 =>
  let b3 : Bool := (bif (!r1) then true else (!r2))
  bif b3 then
    (g8_law22_awake K ).bind fun r5 =>
    some r5
  else
    (g11_dead_Thread K a0).bind fun r6 =>
    (g12_ref22_Thread K a0).bind fun r7 =>
    (g10_ref16_Same K r6 r7).bind fun r8 =>
    (bif r8 then g13_dead_Trim K a0 else some zGraph).bind fun r9 =>
    (bif r8 then g14_ref22_Trim K a0 else some zGraph).bind fun r10 =>
    (bif r8 then g10_ref16_Same K r9 r10 else some false).bind fun r11 =>
    let b12 : Bool := (bif r8 then r11 else false)
    (bif b12 then g15_dead_Sweep K a0 else some zGraph).bind fun r13 =>
    (bif b12 then g16_ref22_Sweep K a0 else some zGraph).bind fun r14 =>
    (bif b12 then g10_ref16_Same K r13 r14 else some false).bind fun r15 =>
    let b16 : Bool := (bif b12 then r15 else false)
    (bif b16 then g17_dead_Graph K a0 else some zGraph).bind fun r17 =>
    (bif b16 then g18_ref22_Graph K a0 else some zGraph).bind fun r18 =>
    (bif b16 then g10_ref16_Same K r17 r18 else some false).bind fun r19 =>
    let b20 : Bool := (bif b16 then r19 else false)
    some b20

theorem g3_law22_DeadGraphs_ok (K : Nat) (a0 : Graph) (r : Bool) (h : g3_law22_DeadGraphs K a0 = some r) : AC Try.prog 3 [] [.v true [cs a0.Name, cb a0.Keep, cb a0.Leaf, .t (.ro 12 cBlock zBlock a0.Blocks)]] [] (v1 (cb r)) := by
  refine AC.intro (fn := Try.f3) tbOk (by kernel_rfl) rfl (by kernel_rfl) (fun W A Kf => ?_)
  obtain ⟨r1, hc1, h⟩ := bd_some h
  obtain ⟨r2, hc2, h⟩ := bd_some h
  let b3 : Bool := (bif (!r1) then true else (!r2))
  refine StopP.advd tbOk [(1, [(0, .call [] [] (v1 (cb r1))), (4, .call [] [] (v1 (cb r2)))])] 100000 1000 (by kernel_rfl) (by kernel_rfl) (ac_y (g8_law22_awake_ok K  r1 hc1) <| ac_on (!(!r1)) (pt (!(!r1))) <| ac_on (!(!r1)) (fun h => g9_law22_fine_ok K a0 r2 (cd_t h hc2)) <| ac_on (!(!r1)) (pt (!(!r1))) <| ac_y (pn (!r1)) <| ac_nil) ?_
  refine StopP.cond (b := b3) (by kernel_rfl) (fun hb4 => ?_) (fun hb4 => ?_)
  · have h := cd_t hb4 h
    obtain ⟨r5, hc5, h⟩ := bd_some h
    refine StopP.advd tbOk [(2, [(0, .call [] [] (v1 (cb r5)))])] 100000 1000 (by kernel_rfl) (by kernel_rfl) (ac_y (g8_law22_awake_ok K  r5 hc5) <| ac_nil) ?_
    have h := sm h; subst h
    refine StopP.out .ret (by kernel_rfl) ?_
    exact ret_box (.inr rfl) [.keep [2] []] (by kernel_rfl) (by kernel_rfl) [] (by kernel_rfl)
  · have h := cd_f hb4 h
    obtain ⟨r6, hc6, h⟩ := bd_some h
    obtain ⟨r7, hc7, h⟩ := bd_some h
    obtain ⟨r8, hc8, h⟩ := bd_some h
    obtain ⟨r9, hc9, h⟩ := bd_some h
    obtain ⟨r10, hc10, h⟩ := bd_some h
    obtain ⟨r11, hc11, h⟩ := bd_some h
    let b12 : Bool := (bif r8 then r11 else false)
    obtain ⟨r13, hc13, h⟩ := bd_some h
    obtain ⟨r14, hc14, h⟩ := bd_some h
    obtain ⟨r15, hc15, h⟩ := bd_some h
    let b16 : Bool := (bif b12 then r15 else false)
    obtain ⟨r17, hc17, h⟩ := bd_some h
    obtain ⟨r18, hc18, h⟩ := bd_some h
    obtain ⟨r19, hc19, h⟩ := bd_some h
    let b20 : Bool := (bif b16 then r19 else false)
    have q0 := ac_on b12 (pt b12) <| ac_on b12 (pt b12) <| ac_on b12 (fun h => g10_ref16_Same_ok K r13 r14 r15 (cd_t h hc15)) <| ac_y (pt b12) <| ac_on b16 (pt b16) <| ac_on b16 (fun h => g17_dead_Graph_ok K a0 r17 (cd_t h hc17)) <| ac_on b16 (pt b16) <| ac_on b16 (fun h => g18_ref22_Graph_ok K a0 r18 (cd_t h hc18)) <| ac_on b16 (pt b16) <| ac_on b16 (pt b16) <| ac_on b16 (fun h => g10_ref16_Same_ok K r17 r18 r19 (cd_t h hc19)) <| ac_y (pt b16) <| ac_nil
    have q1 := ac_on r8 (pt r8) <| ac_on r8 (fun h => g13_dead_Trim_fz K a0 r9 (cd_t h hc9)) <| ac_on r8 (pt r8) <| ac_on r8 (fun h => g14_ref22_Trim_fz K a0 r10 (cd_t h hc10)) <| ac_on r8 (pt r8) <| ac_on r8 (pt r8) <| ac_on r8 (fun h => g10_ref16_Same_ok K r9 r10 r11 (cd_t h hc11)) <| ac_y (pt r8) <| ac_on b12 (pt b12) <| ac_on b12 (fun h => g15_dead_Sweep_fz K a0 r13 (cd_t h hc13)) <| ac_on b12 (pt b12) <| ac_on b12 (fun h => g16_ref22_Sweep_fz K a0 r14 (cd_t h hc14)) <| q0
    refine StopP.advd tbOk [(3, [(1, .call [] [] (.v true [cs r6.Name, cb r6.Keep, cb r6.Leaf, .t (.ro 12 cBlock zBlock r6.Blocks)])), (3, .call [] [] (.v true [cs r7.Name, cb r7.Keep, cb r7.Leaf, .t (.ro 12 cBlock zBlock r7.Blocks)])), (4, .call [] [] (v1 (cb r8))), (7, .call [] [] (.v true [cs r9.Name, cb r9.Keep, cb r9.Leaf, .t (.ro 12 cBlock zBlock r9.Blocks)])), (9, .call [] [] (.v true [cs r10.Name, cb r10.Keep, cb r10.Leaf, .t (.ro 12 cBlock zBlock r10.Blocks)])), (10, .call [] [] (v1 (cb r11))), (14, .call [] [] (.v true [cs r13.Name, cb r13.Keep, cb r13.Leaf, .t (.ro 12 cBlock zBlock r13.Blocks)])), (16, .call [] [] (.v true [cs r14.Name, cb r14.Keep, cb r14.Leaf, .t (.ro 12 cBlock zBlock r14.Blocks)])), (17, .call [] [] (v1 (cb r15))), (21, .call [] [] (.v true [cs r17.Name, cb r17.Keep, cb r17.Leaf, .t (.ro 12 cBlock zBlock r17.Blocks)])), (23, .call [] [] (.v true [cs r18.Name, cb r18.Keep, cb r18.Leaf, .t (.ro 12 cBlock zBlock r18.Blocks)])), (24, .call [] [] (v1 (cb r19)))])] 100000 1000 (by kernel_rfl) (by kernel_rfl) (ac_y (g11_dead_Thread_fz K a0 r6 hc6) <| ac_y (g12_ref22_Thread_fz K a0 r7 hc7) <| ac_y (g10_ref16_Same_ok K r6 r7 r8 hc8) <| q1) ?_
    have h := sm h; subst h
    refine StopP.out .ret (by kernel_rfl) ?_
    exact ret_box (.inr rfl) [.keep [2] []] (by kernel_rfl) (by kernel_rfl) [] (by kernel_rfl)

def g4_law22_DeadLess (K : Nat) (a0 : Graph) : Option (Bool) :=
  (g8_law22_awake K ).bind fun r1 =>
  (bif (!(!r1)) then g9_law22_fine K a0 else some false).bind fun r2 =>
  let b3 : Bool := (bif (!r1) then true else (!r2))
  bif b3 then
    (g8_law22_awake K ).bind fun r5 =>
    some r5
  else
    (g17_dead_Graph K a0).bind fun r6 =>
    (g19_ref16_Right K r6 (1000 : Int) (1000 : Int)).bind fun r7 =>
    let b8 : Bool := (decide ((r6.Blocks.length : Int) > (a0.Blocks.length : Int)))
    let b9 : Bool := (bif (!r7) then true else b8)
    (bif (!b9) then g20_ref22_Ops K r6 else some 0).bind fun r10 =>
    (bif (!b9) then g20_ref22_Ops K a0 else some 0).bind fun r11 =>
    let b12 : Bool := (bif b9 then true else (decide (r10 > r11)))
    let b13 : Bool := (!(r6.Name.toList == a0.Name.toList))
    let b14 : Bool := (bif b12 then true else b13)
    (bif ((!b14) && a0.Keep) then g10_ref16_Same K a0 r6 else some false).bind fun r15 =>
    let b16 : Bool := (bif a0.Keep then (!r15) else false)
    let b17 : Bool := (bif b14 then true else b16)
    bif b17 then
      some false
    else
      (bif (!a0.Keep) then g13_dead_Trim K r6 else some zGraph).bind fun r19 =>
      (bif (!a0.Keep) then g10_ref16_Same K r19 r6 else some false).bind fun r20 =>
      let b21 : Bool := (bif a0.Keep then true else r20)
      some b21

theorem g4_law22_DeadLess_ok (K : Nat) (a0 : Graph) (r : Bool) (h : g4_law22_DeadLess K a0 = some r) : AC Try.prog 4 [] [.v true [cs a0.Name, cb a0.Keep, cb a0.Leaf, .t (.ro 12 cBlock zBlock a0.Blocks)]] [] (v1 (cb r)) := by
  refine AC.intro (fn := Try.f4) tbOk (by kernel_rfl) rfl (by kernel_rfl) (fun W A Kf => ?_)
  obtain ⟨r1, hc1, h⟩ := bd_some h
  obtain ⟨r2, hc2, h⟩ := bd_some h
  let b3 : Bool := (bif (!r1) then true else (!r2))
  refine StopP.advd tbOk [(1, [(0, .call [] [] (v1 (cb r1))), (4, .call [] [] (v1 (cb r2)))])] 100000 1000 (by kernel_rfl) (by kernel_rfl) (ac_y (g8_law22_awake_ok K  r1 hc1) <| ac_on (!(!r1)) (pt (!(!r1))) <| ac_on (!(!r1)) (fun h => g9_law22_fine_ok K a0 r2 (cd_t h hc2)) <| ac_on (!(!r1)) (pt (!(!r1))) <| ac_y (pn (!r1)) <| ac_nil) ?_
  refine StopP.cond (b := b3) (by kernel_rfl) (fun hb4 => ?_) (fun hb4 => ?_)
  · have h := cd_t hb4 h
    obtain ⟨r5, hc5, h⟩ := bd_some h
    refine StopP.advd tbOk [(2, [(0, .call [] [] (v1 (cb r5)))])] 100000 1000 (by kernel_rfl) (by kernel_rfl) (ac_y (g8_law22_awake_ok K  r5 hc5) <| ac_nil) ?_
    have h := sm h; subst h
    refine StopP.out .ret (by kernel_rfl) ?_
    exact ret_box (.inr rfl) [.keep [2] []] (by kernel_rfl) (by kernel_rfl) [] (by kernel_rfl)
  · have h := cd_f hb4 h
    obtain ⟨r6, hc6, h⟩ := bd_some h
    obtain ⟨r7, hc7, h⟩ := bd_some h
    let b8 : Bool := (decide ((r6.Blocks.length : Int) > (a0.Blocks.length : Int)))
    let b9 : Bool := (bif (!r7) then true else b8)
    obtain ⟨r10, hc10, h⟩ := bd_some h
    obtain ⟨r11, hc11, h⟩ := bd_some h
    let b12 : Bool := (bif b9 then true else (decide (r10 > r11)))
    let b13 : Bool := (!(r6.Name.toList == a0.Name.toList))
    let b14 : Bool := (bif b12 then true else b13)
    obtain ⟨r15, hc15, h⟩ := bd_some h
    let b16 : Bool := (bif a0.Keep then (!r15) else false)
    let b17 : Bool := (bif b14 then true else b16)
    have q0 := ac_on (!b12) (pt (!b12)) <| ac_on (!b12) (pt (!b12)) <| ac_y (pn b12) <| ac_on (!b14) (pt (!b14)) <| ac_on (!b14) (pt (!b14)) <| ac_on ((!b14) && a0.Keep) (pt ((!b14) && a0.Keep)) <| ac_on ((!b14) && a0.Keep) (pt ((!b14) && a0.Keep)) <| ac_on ((!b14) && a0.Keep) (fun h => g10_ref16_Same_ok K a0 r6 r15 (cd_t h hc15)) <| ac_on ((!b14) && a0.Keep) (pt ((!b14) && a0.Keep)) <| ac_on (!b14) (pt (!b14)) <| ac_on (!b14) (fun h => ptg a0.Keep h) <| ac_y (pn b14) <| ac_nil
    have q1 := ac_on (!(!r7)) (pt (!(!r7))) <| ac_on (!(!r7)) (pt (!(!r7))) <| ac_y (pn (!r7)) <| ac_on (!b9) (pt (!b9)) <| ac_on (!b9) (fun h => g20_ref22_Ops_ok K r6 r10 (cd_t h hc10)) <| ac_on (!b9) (pt (!b9)) <| ac_on (!b9) (fun h => g20_ref22_Ops_ok K a0 r11 (cd_t h hc11)) <| ac_on (!b9) (pt (!b9)) <| ac_on (!b9) (pt (!b9)) <| ac_y (pn b9) <| ac_on (!b12) (pt (!b12)) <| ac_on (!b12) (pt (!b12)) <| q0
    refine StopP.advd tbOk [(3, [(1, .call [] [] (.v true [cs r6.Name, cb r6.Keep, cb r6.Leaf, .t (.ro 12 cBlock zBlock r6.Blocks)]))]), (4, [(1, .call [] [] (v1 (cb r7))), (14, .call [] [] (v1 (ci r10))), (16, .call [] [] (v1 (ci r11))), (32, .call [] [] (v1 (cb r15)))])] 100000 1000 (by kernel_rfl) (by kernel_rfl) (ac_y (g17_dead_Graph_ok K a0 r6 hc6) <| ac_y (g19_ref16_Right_ok K r6 (1000 : Int) (1000 : Int) r7 hc7) <| ac_on (!(!r7)) (pt (!(!r7))) <| ac_on (!(!r7)) (pt (!(!r7))) <| ac_on (!(!r7)) (pt (!(!r7))) <| ac_on (!(!r7)) (pt (!(!r7))) <| q1) ?_
    refine StopP.cond (b := b17) (by kernel_rfl) (fun hb18 => ?_) (fun hb18 => ?_)
    · have h := cd_t hb18 h
      refine StopP.advd tbOk [] 100000 1000 (by kernel_rfl) (by kernel_rfl) (ac_nil) ?_
      have h := sm h; subst h
      refine StopP.out .ret (by kernel_rfl) ?_
      exact ret_box (.inr rfl) [.keep [2] []] (by kernel_rfl) (by kernel_rfl) [] (by kernel_rfl)
    · have h := cd_f hb18 h
      obtain ⟨r19, hc19, h⟩ := bd_some h
      obtain ⟨r20, hc20, h⟩ := bd_some h
      let b21 : Bool := (bif a0.Keep then true else r20)
      refine StopP.advd tbOk [(6, [(4, .call [] [] (.v true [cs r19.Name, cb r19.Keep, cb r19.Leaf, .t (.ro 12 cBlock zBlock r19.Blocks)])), (6, .call [] [] (v1 (cb r20)))])] 100000 1000 (by kernel_rfl) (by kernel_rfl) (ac_on (!a0.Keep) (pt (!a0.Keep)) <| ac_on (!a0.Keep) (fun h => g13_dead_Trim_fz K r6 r19 (cd_t h hc19)) <| ac_on (!a0.Keep) (pt (!a0.Keep)) <| ac_on (!a0.Keep) (pt (!a0.Keep)) <| ac_on (!a0.Keep) (fun h => g10_ref16_Same_ok K r19 r6 r20 (cd_t h hc20)) <| ac_y (pn a0.Keep) <| ac_nil) ?_
      have h := sm h; subst h
      refine StopP.out .ret (by kernel_rfl) ?_
      exact ret_box (.inr rfl) [.keep [2] []] (by kernel_rfl) (by kernel_rfl) [] (by kernel_rfl)

def g5_law22_DeadSteps.l0 (K : Nat) (a1 : Int) (a2 : Int) (r6 : Graph) (r7 : Graph) : Nat → (List Block) → Int → Option ((List Block))
  | 0, _, _ => none
  | k + 1, x18, x19 =>
    gd ((8 : Int) ≠ 0) <|
    let b30 : Bool := (decide (x19 < (IntKind.i64.wrap (Int.tmod a2 (8 : Int)))))
    bif b30 then
      let y32 : List Op' := ([(⟨(⟨(24 : Int), (0 : Int), (0 : Int), (0 : Int), (0 : Int)⟩ : Ins), false, (0 : Int), (0 : Int), (0 : Int)⟩ : Op'), (⟨(⟨(8 : Int), (0 : Int), (IntKind.i64.wrap ((1 : Int) + x19)), (0 : Int), x19⟩ : Ins), false, (0 : Int), (0 : Int), (0 : Int)⟩ : Op')] : List Op')
      gd (0 ≤ (Int.tmod (IntKind.i64.wrap a1) (r7.Blocks.length : Int)) ∧ (Int.tmod (IntKind.i64.wrap a1) (r7.Blocks.length : Int)) < (x18.length : Int)) <|
      gd (y32.length + ((x18.getD (Int.tmod (IntKind.i64.wrap a1) (r7.Blocks.length : Int)).toNat zBlock).Ops).length ≤ 1073741824) <|
      let y35 : List Op' := (y32 ++ (x18.getD (Int.tmod (IntKind.i64.wrap a1) (r7.Blocks.length : Int)).toNat zBlock).Ops)
      gd (0 ≤ (Int.tmod (IntKind.i64.wrap a1) (r7.Blocks.length : Int)) ∧ (Int.tmod (IntKind.i64.wrap a1) (r7.Blocks.length : Int)) < (x18.length : Int)) <|
      let y37 : List Block := (x18.set (Int.tmod (IntKind.i64.wrap a1) (r7.Blocks.length : Int)).toNat (⟨y35, (x18.getD (Int.tmod (IntKind.i64.wrap a1) (r7.Blocks.length : Int)).toNat zBlock).End⟩ : Block))
      g5_law22_DeadSteps.l0 K a1 a2 r6 r7 k y37 (IntKind.i64.wrap (x19 + (1 : Int)))
    else
      some x18

def g5_law22_DeadSteps.h0 (a1 : Int) (a2 : Int) (r6 : Graph) (r7 : Graph) (x18 : (List Block)) (x19 : Int) : Abs.St := ⟨[(2, .yes, v1 (cu .u8 a2)), (7, .yes, v1 (.ptr 7 0 0)), (8, .yes, v1 (.ptr 8 0 0)), (9, .yes, v1 (ci (Int.tmod (IntKind.i64.wrap a1) (r7.Blocks.length : Int)))), (10, .yes, v1 (ci x19))], [(7, .box 24 [cs r6.Name, cb r6.Keep, cb r6.Leaf, .t (.ro 12 cBlock zBlock r6.Blocks)]), (8, .box 24 [cs r7.Name, cb r7.Keep, cb r7.Leaf, .own 20220]), (20220, .rows 39 12 cBlock zBlock x18)], 60⟩

def g5_law22_DeadSteps.j0_0 (a1 : Int) (a2 : Int) (r6 : Graph) (r7 : Graph) (o : (List Block)) : Abs.St := ⟨[(7, .yes, v1 (.ptr 7 0 0)), (8, .yes, v1 (.ptr 8 0 0))], [(7, .box 24 [cs r6.Name, cb r6.Keep, cb r6.Leaf, .t (.ro 12 cBlock zBlock r6.Blocks)]), (8, .box 24 [cs r7.Name, cb r7.Keep, cb r7.Leaf, .own 20220]), (20220, .rows 39 12 cBlock zBlock o)], 60⟩

theorem g5_law22_DeadSteps.l0_ok {W : World} {A Kf : Nat → Prop} (K : Nat) (a1 : Int) (a2 : Int) (r6 : Graph) (r7 : Graph) : ∀ (k : Nat) (x18 : (List Block)) (x19 : Int) (o : (List Block)), g5_law22_DeadSteps.l0 K a1 a2 r6 r7 k x18 x19 = some o → WPR Try.prog W A Kf (kid [true, true, true, true, true, false, true, false, false] (bodyAt Try.f5)) (Out (.exit 0) (g5_law22_DeadSteps.j0_0 a1 a2 r6 r7 o)) k (g5_law22_DeadSteps.h0 a1 a2 r6 r7 x18 x19)
  | 0, x18, x19, o, h => by cases h
  | k + 1, x18, x19, o, h => by
    refine WPR.round ?_
    obtain ⟨hg29, h⟩ := gd_some h
    let b30 : Bool := (decide (x19 < (IntKind.i64.wrap (Int.tmod a2 (8 : Int)))))
    refine StopP.advd tbOk [] 100000 1000 (by kernel_rfl) (by kernel_rfl) (ac_y hg29 <| ac_nil) ?_
    refine StopP.cond (b := b30) (by kernel_rfl) (fun hb31 => ?_) (fun hb31 => ?_)
    · have h := cd_t hb31 h
      let y32 : List Op' := ([(⟨(⟨(24 : Int), (0 : Int), (0 : Int), (0 : Int), (0 : Int)⟩ : Ins), false, (0 : Int), (0 : Int), (0 : Int)⟩ : Op'), (⟨(⟨(8 : Int), (0 : Int), (IntKind.i64.wrap ((1 : Int) + x19)), (0 : Int), x19⟩ : Ins), false, (0 : Int), (0 : Int), (0 : Int)⟩ : Op')] : List Op')
      obtain ⟨hg33, h⟩ := gd_some h
      obtain ⟨hg34, h⟩ := gd_some h
      let y35 : List Op' := (y32 ++ (x18.getD (Int.tmod (IntKind.i64.wrap a1) (r7.Blocks.length : Int)).toNat zBlock).Ops)
      obtain ⟨hg36, h⟩ := gd_some h
      let y37 : List Block := (x18.set (Int.tmod (IntKind.i64.wrap a1) (r7.Blocks.length : Int)).toNat (⟨y35, (x18.getD (Int.tmod (IntKind.i64.wrap a1) (r7.Blocks.length : Int)).toNat zBlock).End⟩ : Block))
      refine StopP.advd tbOk [(9, [(10, .obj (.rows 35 9 cOp zOp ([(⟨(⟨(24 : Int), (0 : Int), (0 : Int), (0 : Int), (0 : Int)⟩ : Ins), false, (0 : Int), (0 : Int), (0 : Int)⟩ : Op'), (⟨(⟨(8 : Int), (0 : Int), (IntKind.i64.wrap ((1 : Int) + x19)), (0 : Int), x19⟩ : Ins), false, (0 : Int), (0 : Int), (0 : Int)⟩ : Op')] : List Op'))), (17, .fz (.rows 35 9 cOp zOp (y32 ++ (x18.getD (Int.tmod (IntKind.i64.wrap a1) (r7.Blocks.length : Int)).toNat zBlock).Ops))), (20, .obj (.rows 39 12 cBlock zBlock (x18.set (Int.tmod (IntKind.i64.wrap a1) (r7.Blocks.length : Int)).toNat (⟨y35, (x18.getD (Int.tmod (IntKind.i64.wrap a1) (r7.Blocks.length : Int)).toNat zBlock).End⟩ : Block))))])] 100000 1000 (by kernel_rfl) (by kernel_rfl) (ac_c (Built.mk (ty := 35) (es := 9) (enc := cOp) (z := zOp) (xs := ([(⟨(⟨(24 : Int), (0 : Int), (0 : Int), (0 : Int), (0 : Int)⟩ : Ins), false, (0 : Int), (0 : Int), (0 : Int)⟩ : Op'), (⟨(⟨(8 : Int), (0 : Int), (IntKind.i64.wrap ((1 : Int) + x19)), (0 : Int), x19⟩ : Ins), false, (0 : Int), (0 : Int), (0 : Int)⟩ : Op')] : List Op')) (fun _ _ => rfl) (by decide : (2 * 9 : Nat) ≤ 16777216)) <| ac_y hg33 <| ac_y (tn hg33) <| ac_c (Appended.mk (ty := 35) (es := 9) (by_ := 72) (enc := cOp) (z := zOp) (z' := zOp) (xs := y32) (ys := (x18.getD (Int.tmod (IntKind.i64.wrap a1) (r7.Blocks.length : Int)).toNat zBlock).Ops) (fun _ _ => rfl) (sl hg34) (sb hg34 (by decide))) <| ac_y hg36 <| ac_c (Stored.mk (ty := 39) (es := 12) (enc := cBlock) (z := zBlock) (xs := x18) (i := (Int.tmod (IntKind.i64.wrap a1) (r7.Blocks.length : Int)).toNat) (j := 0) (n := 1) (⟨y35, (x18.getD (Int.tmod (IntKind.i64.wrap a1) (r7.Blocks.length : Int)).toNat zBlock).End⟩ : Block) (tn hg36) (by decide) rfl rfl rfl) <| ac_nil) ?_
      refine StopP.out .normal (by kernel_rfl) ?_
      exact WPR.chg [.keep [2, 7, 8, 9, 10] [7, 8, 20220]] (by kernel_rfl) (g5_law22_DeadSteps.l0_ok K a1 a2 r6 r7 k y37 (IntKind.i64.wrap (x19 + (1 : Int))) o h)
    · have h := cd_f hb31 h
      refine StopP.advd tbOk [] 100000 1000 (by kernel_rfl) (by kernel_rfl) (ac_nil) ?_
      have h := sm h; subst h
      exact StopP.out (.exit 0) (by kernel_rfl) ⟨rfl, [.keep [7, 8] [7, 8, 20220]], by kernel_rfl⟩

def g5_law22_DeadSteps (K : Nat) (a0 : Graph) (a1 : Int) (a2 : Int) : Option (Bool) :=
  (g8_law22_awake K ).bind fun r1 =>
  (bif (!(!r1)) then g9_law22_fine K a0 else some false).bind fun r2 =>
  let b3 : Bool := (bif (!r1) then true else (!r2))
  bif b3 then
    (g8_law22_awake K ).bind fun r5 =>
    some r5
  else
    (g15_dead_Sweep K a0).bind fun r6 =>
    (g21_ref16_Copy K r6).bind fun r7 =>
    gd ((r7.Blocks.length : Int) ≠ 0) <|
    (g5_law22_DeadSteps.l0 K a1 a2 r6 r7 K r7.Blocks (0 : Int)).bind fun o38 =>
    (g15_dead_Sweep K (⟨r7.Name, r7.Keep, r7.Leaf, o38⟩ : Graph)).bind fun r39 =>
    (g10_ref16_Same K r39 r6).bind fun r40 =>
    some r40

theorem g5_law22_DeadSteps_ok (K : Nat) (a0 : Graph) (a1 : Int) (a2 : Int) (r : Bool) (h : g5_law22_DeadSteps K a0 a1 a2 = some r) : AC Try.prog 5 [] [.v true [cs a0.Name, cb a0.Keep, cb a0.Leaf, .t (.ro 12 cBlock zBlock a0.Blocks)], v1 (cu .u8 a1), v1 (cu .u8 a2)] [] (v1 (cb r)) := by
  refine AC.intro (fn := Try.f5) tbOk (by kernel_rfl) rfl (by kernel_rfl) (fun W A Kf => ?_)
  obtain ⟨r1, hc1, h⟩ := bd_some h
  obtain ⟨r2, hc2, h⟩ := bd_some h
  let b3 : Bool := (bif (!r1) then true else (!r2))
  refine StopP.advd tbOk [(1, [(0, .call [] [] (v1 (cb r1))), (4, .call [] [] (v1 (cb r2)))])] 100000 1000 (by kernel_rfl) (by kernel_rfl) (ac_y (g8_law22_awake_ok K  r1 hc1) <| ac_on (!(!r1)) (pt (!(!r1))) <| ac_on (!(!r1)) (fun h => g9_law22_fine_ok K a0 r2 (cd_t h hc2)) <| ac_on (!(!r1)) (pt (!(!r1))) <| ac_y (pn (!r1)) <| ac_nil) ?_
  refine StopP.cond (b := b3) (by kernel_rfl) (fun hb4 => ?_) (fun hb4 => ?_)
  · have h := cd_t hb4 h
    obtain ⟨r5, hc5, h⟩ := bd_some h
    refine StopP.advd tbOk [(2, [(0, .call [] [] (v1 (cb r5)))])] 100000 1000 (by kernel_rfl) (by kernel_rfl) (ac_y (g8_law22_awake_ok K  r5 hc5) <| ac_nil) ?_
    have h := sm h; subst h
    refine StopP.out .ret (by kernel_rfl) ?_
    exact ret_box (.inr rfl) [.keep [6] []] (by kernel_rfl) (by kernel_rfl) [] (by kernel_rfl)
  · have h := cd_f hb4 h
    obtain ⟨r6, hc6, h⟩ := bd_some h
    refine StopP.advd tbOk [(3, [(1, .call [(7000, 20200)] [(7000, .rows 39 12 cBlock zBlock r6.Blocks)] (.v true [cs r6.Name, cb r6.Keep, cb r6.Leaf, .own 7000]))])] 4 1000 (by kernel_rfl) (by kernel_rfl) (ac_y (g15_dead_Sweep_ok K a0 r6 hc6) <| ac_nil) ?_
    refine StopP.chgS [.fz 20200] (by kernel_rfl) (by kernel_rfl) ?_
    refine StopP.reb [.keep [1, 2, 7] [7]] (st' := .at (kid [true, true, true, false] (bodyAt Try.f5)) [.code (kid [true, true, true, true] (bodyAt Try.f5))] ⟨[(1, .yes, v1 (cu .u8 a1)), (2, .yes, v1 (cu .u8 a2)), (7, .yes, v1 (.ptr 7 0 0))], [(7, .box 24 [cs r6.Name, cb r6.Keep, cb r6.Leaf, .t (.ro 12 cBlock zBlock r6.Blocks)])], 60⟩) (by kernel_rfl) (by kernel_rfl) (by kernel_rfl) (by kernel_rfl) rfl ?_
    obtain ⟨r7, hc7, h⟩ := bd_some h
    obtain ⟨hg8, h⟩ := gd_some h
    refine StopP.advd tbOk [(4, [(1, .call [(7000, 20220)] [(7000, .rows 39 12 cBlock zBlock r7.Blocks)] (.v true [cs r7.Name, cb r7.Keep, cb r7.Leaf, .own 7000]))])] 100000 1000 (by kernel_rfl) (by kernel_rfl) (ac_y (g21_ref16_Copy_ok K r6 r7 hc7) <| ac_y hg8 <| ac_nil) ?_
    obtain ⟨o38, ho38, h⟩ := bd_some h
    refine StopP.lp (by kernel_rfl) [.keep [2, 7, 8, 9, 10] [7, 8, 20220]] (s := g5_law22_DeadSteps.h0 a1 a2 r6 r7 r7.Blocks (0 : Int)) (by kernel_rfl) (c := (kid [true, true, true, true, true, false, true, false, false] (bodyAt Try.f5))) (by kernel_rfl) (e := (.exit 0)) (J := g5_law22_DeadSteps.j0_0 a1 a2 r6 r7 o38) K (g5_law22_DeadSteps.l0_ok K a1 a2 r6 r7 K r7.Blocks (0 : Int) o38 ho38) ?_
    refine StopP.advd tbOk [] 10 1000 (by kernel_rfl) (by kernel_rfl) (ac_nil) ?_
    refine StopP.chgS [.fz 20220] (by kernel_rfl) (by kernel_rfl) ?_
    obtain ⟨r39, hc39, h⟩ := bd_some h
    obtain ⟨r40, hc40, h⟩ := bd_some h
    refine StopP.advd tbOk [(10, [(1, .call [(7000, 20570)] [(7000, .rows 39 12 cBlock zBlock r39.Blocks)] (.v true [cs r39.Name, cb r39.Keep, cb r39.Leaf, .own 7000])), (3, .call [] [] (v1 (cb r40)))])] 100000 1000 (by kernel_rfl) (by kernel_rfl) (ac_y (g15_dead_Sweep_ok K (⟨r7.Name, r7.Keep, r7.Leaf, o38⟩ : Graph) r39 hc39) <| ac_y (g10_ref16_Same_ok K r39 r6 r40 hc40) <| ac_c (show Plain [] (v1 (cb r40)) from ⟨rfl, fun _ h => by cases h⟩) <| ac_nil) ?_
    have h := sm h; subst h
    refine StopP.out .ret (by kernel_rfl) ?_
    exact ret_box (.inr rfl) [.keep [6] []] (by kernel_rfl) (by kernel_rfl) [] (by kernel_rfl)

def g7_law22_DeadThreads.l1 (K : Nat) (a0 : Graph) (r6 : Graph) (x60 : Int) : Nat → Int → Int → Option ((Unit) ⊕ (Unit))
  | 0, _, _ => none
  | k + 1, x134, x135 =>
    let b146 : Bool := (decide (x135 < (a0.Blocks.length : Int)))
    bif b146 then
      gd (0 ≤ x134 ∧ x134 < (a0.Blocks.length : Int)) <|
      gd (0 ≤ (a0.Blocks.getD x134.toNat zBlock).End.To ∧ (a0.Blocks.getD x134.toNat zBlock).End.To < (a0.Blocks.length : Int)) <|
      let i150 : Int := (((a0.Blocks.getD ((a0.Blocks.getD x134.toNat zBlock).End.To).toNat zBlock).Ops).length : Int)
      let b151 : Bool := (decide (i150 > (0 : Int)))
      gd ((!b151) = true → 0 ≤ (a0.Blocks.getD x134.toNat zBlock).End.To ∧ (a0.Blocks.getD x134.toNat zBlock).End.To < (a0.Blocks.length : Int)) <|
      let i153 : Int := (a0.Blocks.getD ((a0.Blocks.getD x134.toNat zBlock).End.To).toNat zBlock).End.Kind
      let b154 : Bool := (bif b151 then true else (i153 != (1 : Int)))
      bif b154 then
        some (.inl ())
      else
        g7_law22_DeadThreads.l1 K a0 r6 x60 k ((a0.Blocks.getD x134.toNat zBlock).End.To) (IntKind.i64.wrap (x135 + (1 : Int)))
    else
      some (.inr ())

def g7_law22_DeadThreads.h1 (a0 : Graph) (r6 : Graph) (x60 : Int) (x134 : Int) (x135 : Int) : Abs.St := ⟨[(1, .yes, v1 (.ptr 1 0 0)), (3, .yes, v1 (.ptr 3 0 0)), (4, .yes, v1 (ci x60)), (7, .yes, v1 (ci x134)), (8, .yes, v1 (ci x135))], [(1, .box 24 [cs a0.Name, cb a0.Keep, cb a0.Leaf, .t (.ro 12 cBlock zBlock a0.Blocks)]), (3, .box 24 [cs r6.Name, cb r6.Keep, cb r6.Leaf, .t (.ro 12 cBlock zBlock r6.Blocks)])], 109⟩

def g7_law22_DeadThreads.j1_0 (a0 : Graph) (r6 : Graph) (x60 : Int) (o : Unit) : Abs.St := ⟨[(2, .yes, v1 (cb false))], [], 109⟩

def g7_law22_DeadThreads.j1_1 (a0 : Graph) (r6 : Graph) (x60 : Int) (o : Unit) : Abs.St := ⟨[(1, .yes, v1 (.ptr 1 0 0)), (3, .yes, v1 (.ptr 3 0 0)), (4, .yes, v1 (ci x60))], [(1, .box 24 [cs a0.Name, cb a0.Keep, cb a0.Leaf, .t (.ro 12 cBlock zBlock a0.Blocks)]), (3, .box 24 [cs r6.Name, cb r6.Keep, cb r6.Leaf, .t (.ro 12 cBlock zBlock r6.Blocks)])], 109⟩

theorem g7_law22_DeadThreads.l1_ok {W : World} {A Kf : Nat → Prop} (K : Nat) (a0 : Graph) (r6 : Graph) (x60 : Int) : ∀ (k : Nat) (x134 : Int) (x135 : Int) (o : (Unit) ⊕ (Unit)), g7_law22_DeadThreads.l1 K a0 r6 x60 k x134 x135 = some o → WPR Try.prog W A Kf (kid [true, true, true, true, false, true, false, false, true, false, false, true, true, true, true, true, true, true, false, false] (bodyAt Try.f7)) (Out2 o .ret (g7_law22_DeadThreads.j1_0 a0 r6 x60) (.exit 2) (g7_law22_DeadThreads.j1_1 a0 r6 x60)) k (g7_law22_DeadThreads.h1 a0 r6 x60 x134 x135)
  | 0, x134, x135, o, h => by cases h
  | k + 1, x134, x135, o, h => by
    refine WPR.round ?_
    let b146 : Bool := (decide (x135 < (a0.Blocks.length : Int)))
    refine StopP.advd tbOk [] 100000 1000 (by kernel_rfl) (by kernel_rfl) (ac_nil) ?_
    refine StopP.cond (b := b146) (by kernel_rfl) (fun hb147 => ?_) (fun hb147 => ?_)
    · have h := cd_t hb147 h
      obtain ⟨hg148, h⟩ := gd_some h
      obtain ⟨hg149, h⟩ := gd_some h
      let i150 : Int := (((a0.Blocks.getD ((a0.Blocks.getD x134.toNat zBlock).End.To).toNat zBlock).Ops).length : Int)
      let b151 : Bool := (decide (i150 > (0 : Int)))
      obtain ⟨hg152, h⟩ := gd_some h
      let i153 : Int := (a0.Blocks.getD ((a0.Blocks.getD x134.toNat zBlock).End.To).toNat zBlock).End.Kind
      let b154 : Bool := (bif b151 then true else (i153 != (1 : Int)))
      refine StopP.advd tbOk [] 100000 1000 (by kernel_rfl) (by kernel_rfl) (ac_y hg148 <| ac_y hg149 <| ac_on (!b151) (pt (!b151)) <| ac_on (!b151) (pt (!b151)) <| ac_on (!b151) (pt (!b151)) <| ac_on (!b151) hg152 <| ac_on (!b151) (pt (!b151)) <| ac_on (!b151) (pt (!b151)) <| ac_on (!b151) (pt (!b151)) <| ac_on (!b151) (pt (!b151)) <| ac_y (pn b151) <| ac_nil) ?_
      refine StopP.cond (b := b154) (by kernel_rfl) (fun hb155 => ?_) (fun hb155 => ?_)
      · have h := cd_t hb155 h
        refine StopP.advd tbOk [] 100000 1000 (by kernel_rfl) (by kernel_rfl) (ac_nil) ?_
        have h := sm h; subst h
        exact StopP.out .ret (by kernel_rfl) ⟨rfl, [.keep [2] []], by kernel_rfl⟩
      · have h := cd_f hb155 h
        refine StopP.advd tbOk [] 100000 1000 (by kernel_rfl) (by kernel_rfl) (ac_nil) ?_
        refine StopP.out .normal (by kernel_rfl) ?_
        exact WPR.chg [.keep [1, 3, 4, 7, 8] [1, 3]] (by kernel_rfl) (g7_law22_DeadThreads.l1_ok K a0 r6 x60 k ((a0.Blocks.getD x134.toNat zBlock).End.To) (IntKind.i64.wrap (x135 + (1 : Int))) o h)
    · have h := cd_f hb147 h
      refine StopP.advd tbOk [] 100000 1000 (by kernel_rfl) (by kernel_rfl) (ac_nil) ?_
      have h := sm h; subst h
      exact StopP.out (.exit 2) (by kernel_rfl) ⟨rfl, [.keep [1, 3, 4] [1, 3]], by kernel_rfl⟩

def g7_law22_DeadThreads.l0 (K : Nat) (a0 : Graph) (r6 : Graph) : Nat → Int → Option ((Unit) ⊕ (Unit))
  | 0, _ => none
  | k + 1, x60 =>
    let b109 : Bool := (decide (x60 < (r6.Blocks.length : Int)))
    bif b109 then
      gd (0 ≤ x60 ∧ x60 < (r6.Blocks.length : Int)) <|
      let b112 : Bool := ((r6.Blocks.getD x60.toNat zBlock).End.Kind == (2 : Int))
      let b113 : Bool := ((r6.Blocks.getD x60.toNat zBlock).End.To == (r6.Blocks.getD x60.toNat zBlock).End.Else)
      let b114 : Bool := (bif b112 then b113 else false)
      bif b114 then
        some (.inl ())
      else
        let b116 : Bool := ((r6.Blocks.getD x60.toNat zBlock).End.Kind != (1 : Int))
        bif b116 then
          g7_law22_DeadThreads.l0 K a0 r6 k (IntKind.i64.wrap (x60 + (1 : Int)))
        else
          gd (0 ≤ (r6.Blocks.getD x60.toNat zBlock).End.To ∧ (r6.Blocks.getD x60.toNat zBlock).End.To < (a0.Blocks.length : Int)) <|
          let i119 : Int := (((a0.Blocks.getD ((r6.Blocks.getD x60.toNat zBlock).End.To).toNat zBlock).Ops).length : Int)
          let b120 : Bool := (decide (i119 > (0 : Int)))
          let i121 : Int := (a0.Blocks.getD ((r6.Blocks.getD x60.toNat zBlock).End.To).toNat zBlock).End.Kind
          let b122 : Bool := (bif b120 then true else (i121 != (1 : Int)))
          bif b122 then
            g7_law22_DeadThreads.l0 K a0 r6 k (IntKind.i64.wrap (x60 + (1 : Int)))
          else
            (g7_law22_DeadThreads.l1 K a0 r6 x60 K ((r6.Blocks.getD x60.toNat zBlock).End.To) (0 : Int)).bind fun o156 =>
            match o156 with
            | .inl o156 =>
              some (.inl ())
            | .inr o156 =>
              g7_law22_DeadThreads.l0 K a0 r6 k (IntKind.i64.wrap (x60 + (1 : Int)))
    else
      some (.inr ())

def g7_law22_DeadThreads.h0 (a0 : Graph) (r6 : Graph) (x60 : Int) : Abs.St := ⟨[(1, .yes, v1 (.ptr 1 0 0)), (3, .yes, v1 (.ptr 3 0 0)), (4, .yes, v1 (ci x60))], [(1, .box 24 [cs a0.Name, cb a0.Keep, cb a0.Leaf, .t (.ro 12 cBlock zBlock a0.Blocks)]), (3, .box 24 [cs r6.Name, cb r6.Keep, cb r6.Leaf, .t (.ro 12 cBlock zBlock r6.Blocks)])], 109⟩

def g7_law22_DeadThreads.j0_0 (a0 : Graph) (r6 : Graph) (o : Unit) : Abs.St := ⟨[(2, .yes, v1 (cb false))], [], 109⟩

def g7_law22_DeadThreads.j0_1 (a0 : Graph) (r6 : Graph) (o : Unit) : Abs.St := ⟨[], [], 109⟩

theorem g7_law22_DeadThreads.l0_ok {W : World} {A Kf : Nat → Prop} (K : Nat) (a0 : Graph) (r6 : Graph) : ∀ (k : Nat) (x60 : Int) (o : (Unit) ⊕ (Unit)), g7_law22_DeadThreads.l0 K a0 r6 k x60 = some o → WPR Try.prog W A Kf (kid [true, true, true, true, false, true, false, false] (bodyAt Try.f7)) (Out2 o .ret (g7_law22_DeadThreads.j0_0 a0 r6) (.exit 0) (g7_law22_DeadThreads.j0_1 a0 r6)) k (g7_law22_DeadThreads.h0 a0 r6 x60)
  | 0, x60, o, h => by cases h
  | k + 1, x60, o, h => by
    refine WPR.round ?_
    let b109 : Bool := (decide (x60 < (r6.Blocks.length : Int)))
    refine StopP.advd tbOk [] 100000 1000 (by kernel_rfl) (by kernel_rfl) (ac_nil) ?_
    refine StopP.cond (b := b109) (by kernel_rfl) (fun hb110 => ?_) (fun hb110 => ?_)
    · have h := cd_t hb110 h
      obtain ⟨hg111, h⟩ := gd_some h
      let b112 : Bool := ((r6.Blocks.getD x60.toNat zBlock).End.Kind == (2 : Int))
      let b113 : Bool := ((r6.Blocks.getD x60.toNat zBlock).End.To == (r6.Blocks.getD x60.toNat zBlock).End.Else)
      let b114 : Bool := (bif b112 then b113 else false)
      refine StopP.advd tbOk [] 100000 1000 (by kernel_rfl) (by kernel_rfl) (ac_y hg111 <| ac_on b112 (pt b112) <| ac_on b112 (pt b112) <| ac_on b112 (pt b112) <| ac_on b112 (pt b112) <| ac_y (pt b112) <| ac_nil) ?_
      refine StopP.cond (b := b114) (by kernel_rfl) (fun hb115 => ?_) (fun hb115 => ?_)
      · have h := cd_t hb115 h
        refine StopP.advd tbOk [] 100000 1000 (by kernel_rfl) (by kernel_rfl) (ac_nil) ?_
        have h := sm h; subst h
        exact StopP.out .ret (by kernel_rfl) ⟨rfl, [.keep [2] []], by kernel_rfl⟩
      · have h := cd_f hb115 h
        let b116 : Bool := ((r6.Blocks.getD x60.toNat zBlock).End.Kind != (1 : Int))
        refine StopP.advd tbOk [] 100000 1000 (by kernel_rfl) (by kernel_rfl) (ac_nil) ?_
        refine StopP.cond (b := b116) (by kernel_rfl) (fun hb117 => ?_) (fun hb117 => ?_)
        · have h := cd_t hb117 h
          refine StopP.advd tbOk [] 100000 1000 (by kernel_rfl) (by kernel_rfl) (ac_nil) ?_
          refine StopP.out .normal (by kernel_rfl) ?_
          exact WPR.chg [.keep [1, 3, 4] [1, 3]] (by kernel_rfl) (g7_law22_DeadThreads.l0_ok K a0 r6 k (IntKind.i64.wrap (x60 + (1 : Int))) o h)
        · have h := cd_f hb117 h
          obtain ⟨hg118, h⟩ := gd_some h
          let i119 : Int := (((a0.Blocks.getD ((r6.Blocks.getD x60.toNat zBlock).End.To).toNat zBlock).Ops).length : Int)
          let b120 : Bool := (decide (i119 > (0 : Int)))
          let i121 : Int := (a0.Blocks.getD ((r6.Blocks.getD x60.toNat zBlock).End.To).toNat zBlock).End.Kind
          let b122 : Bool := (bif b120 then true else (i121 != (1 : Int)))
          refine StopP.advd tbOk [] 100000 1000 (by kernel_rfl) (by kernel_rfl) (ac_y hg118 <| ac_on (!b120) (pt (!b120)) <| ac_on (!b120) (pt (!b120)) <| ac_on (!b120) (pt (!b120)) <| ac_y (pn b120) <| ac_nil) ?_
          refine StopP.cond (b := b122) (by kernel_rfl) (fun hb123 => ?_) (fun hb123 => ?_)
          · have h := cd_t hb123 h
            refine StopP.reb [.keep [1, 3, 4] [1, 3]] (st' := .at (kid [true, true, true, true, false, true, false, false, true, false, false, true, true, true, true, false, true, false] (bodyAt Try.f7)) [.code (kid [true, true, true, true, false, true, false, false, true, false, false, true, true, true, true, true] (bodyAt Try.f7)), .blk 1, .code (kid [true, true, true, true, false, true, false, false, true, true] (bodyAt Try.f7))] ⟨[(1, .yes, v1 (.ptr 1 0 0)), (3, .yes, v1 (.ptr 3 0 0)), (4, .yes, v1 (ci x60))], [(1, .box 24 [cs a0.Name, cb a0.Keep, cb a0.Leaf, .t (.ro 12 cBlock zBlock a0.Blocks)]), (3, .box 24 [cs r6.Name, cb r6.Keep, cb r6.Leaf, .t (.ro 12 cBlock zBlock r6.Blocks)])], 109⟩) (by kernel_rfl) (by kernel_rfl) (by kernel_rfl) (by kernel_rfl) rfl ?_
            refine StopP.advd tbOk [] 100000 1000 (by kernel_rfl) (by kernel_rfl) (ac_nil) ?_
            refine StopP.out .normal (by kernel_rfl) ?_
            exact WPR.chg [.keep [1, 3, 4] [1, 3]] (by kernel_rfl) (g7_law22_DeadThreads.l0_ok K a0 r6 k (IntKind.i64.wrap (x60 + (1 : Int))) o h)
          · have h := cd_f hb123 h
            refine StopP.advd tbOk [] 100000 1000 (by kernel_rfl) (by kernel_rfl) (ac_nil) ?_
            obtain ⟨o156, ho156, h⟩ := bd_some h
            cases o156 with
            | inl o156 =>
              refine StopP.lp (by kernel_rfl) [.keep [1, 3, 4, 7, 8] [1, 3]] (s := g7_law22_DeadThreads.h1 a0 r6 x60 ((r6.Blocks.getD x60.toNat zBlock).End.To) (0 : Int)) (by kernel_rfl) (c := (kid [true, true, true, true, false, true, false, false, true, false, false, true, true, true, true, true, true, true, false, false] (bodyAt Try.f7))) (by kernel_rfl) (e := .ret) (J := g7_law22_DeadThreads.j1_0 a0 r6 x60 o156) K (g7_law22_DeadThreads.l1_ok K a0 r6 x60 K ((r6.Blocks.getD x60.toNat zBlock).End.To) (0 : Int) (.inl o156) ho156) ?_
              have h := sm h; subst h
              exact StopP.out .ret (by kernel_rfl) ⟨rfl, [.keep [2] []], by kernel_rfl⟩
            | inr o156 =>
              refine StopP.lp (by kernel_rfl) [.keep [1, 3, 4, 7, 8] [1, 3]] (s := g7_law22_DeadThreads.h1 a0 r6 x60 ((r6.Blocks.getD x60.toNat zBlock).End.To) (0 : Int)) (by kernel_rfl) (c := (kid [true, true, true, true, false, true, false, false, true, false, false, true, true, true, true, true, true, true, false, false] (bodyAt Try.f7))) (by kernel_rfl) (e := (.exit 2)) (J := g7_law22_DeadThreads.j1_1 a0 r6 x60 o156) K (g7_law22_DeadThreads.l1_ok K a0 r6 x60 K ((r6.Blocks.getD x60.toNat zBlock).End.To) (0 : Int) (.inr o156) ho156) ?_
              refine StopP.advd tbOk [] 100000 1000 (by kernel_rfl) (by kernel_rfl) (ac_nil) ?_
              refine StopP.out .normal (by kernel_rfl) ?_
              exact WPR.chg [.keep [1, 3, 4] [1, 3]] (by kernel_rfl) (g7_law22_DeadThreads.l0_ok K a0 r6 k (IntKind.i64.wrap (x60 + (1 : Int))) o h)
    · have h := cd_f hb110 h
      refine StopP.advd tbOk [] 100000 1000 (by kernel_rfl) (by kernel_rfl) (ac_nil) ?_
      have h := sm h; subst h
      exact StopP.out (.exit 0) (by kernel_rfl) ⟨rfl, [.keep [] []], by kernel_rfl⟩

def g7_law22_DeadThreads (K : Nat) (a0 : Graph) : Option (Bool) :=
  (g8_law22_awake K ).bind fun r1 =>
  (bif (!(!r1)) then g9_law22_fine K a0 else some false).bind fun r2 =>
  let b3 : Bool := (bif (!r1) then true else (!r2))
  bif b3 then
    (g8_law22_awake K ).bind fun r5 =>
    some r5
  else
    (g11_dead_Thread K a0).bind fun r6 =>
    let b7 : Bool := ((r6.Blocks.length : Int) != (a0.Blocks.length : Int))
    (bif (!b7) then g20_ref22_Ops K r6 else some 0).bind fun r8 =>
    (bif (!b7) then g20_ref22_Ops K a0 else some 0).bind fun r9 =>
    let b10 : Bool := (bif b7 then true else (r8 != r9))
    bif b10 then
      some false
    else
      (g7_law22_DeadThreads.l0 K a0 r6 K (0 : Int)).bind fun o157 =>
      match o157 with
      | .inl o157 =>
        some false
      | .inr o157 =>
        some true

theorem g7_law22_DeadThreads_ok (K : Nat) (a0 : Graph) (r : Bool) (h : g7_law22_DeadThreads K a0 = some r) : AC Try.prog 7 [] [.v true [cs a0.Name, cb a0.Keep, cb a0.Leaf, .t (.ro 12 cBlock zBlock a0.Blocks)]] [] (v1 (cb r)) := by
  refine AC.intro (fn := Try.f7) tbOk (by kernel_rfl) rfl (by kernel_rfl) (fun W A Kf => ?_)
  refine StopP.reb [.keep [0] []] (st' := .at (kid [] (bodyAt Try.f7)) [] ⟨[(0, .yes, .v true [cs a0.Name, cb a0.Keep, cb a0.Leaf, .t (.ro 12 cBlock zBlock a0.Blocks)])], [], 109⟩) (by kernel_rfl) (by kernel_rfl) (by kernel_rfl) (by kernel_rfl) rfl ?_
  obtain ⟨r1, hc1, h⟩ := bd_some h
  obtain ⟨r2, hc2, h⟩ := bd_some h
  let b3 : Bool := (bif (!r1) then true else (!r2))
  refine StopP.advd tbOk [(1, [(0, .call [] [] (v1 (cb r1))), (4, .call [] [] (v1 (cb r2)))])] 100000 1000 (by kernel_rfl) (by kernel_rfl) (ac_y (g8_law22_awake_ok K  r1 hc1) <| ac_on (!(!r1)) (pt (!(!r1))) <| ac_on (!(!r1)) (fun h => g9_law22_fine_ok K a0 r2 (cd_t h hc2)) <| ac_on (!(!r1)) (pt (!(!r1))) <| ac_y (pn (!r1)) <| ac_nil) ?_
  refine StopP.cond (b := b3) (by kernel_rfl) (fun hb4 => ?_) (fun hb4 => ?_)
  · have h := cd_t hb4 h
    obtain ⟨r5, hc5, h⟩ := bd_some h
    refine StopP.advd tbOk [(2, [(0, .call [] [] (v1 (cb r5)))])] 100000 1000 (by kernel_rfl) (by kernel_rfl) (ac_y (g8_law22_awake_ok K  r5 hc5) <| ac_nil) ?_
    have h := sm h; subst h
    refine StopP.out .ret (by kernel_rfl) ?_
    exact ret_box (.inr rfl) [.keep [2] []] (by kernel_rfl) (by kernel_rfl) [] (by kernel_rfl)
  · have h := cd_f hb4 h
    obtain ⟨r6, hc6, h⟩ := bd_some h
    let b7 : Bool := ((r6.Blocks.length : Int) != (a0.Blocks.length : Int))
    obtain ⟨r8, hc8, h⟩ := bd_some h
    obtain ⟨r9, hc9, h⟩ := bd_some h
    let b10 : Bool := (bif b7 then true else (r8 != r9))
    refine StopP.advd tbOk [(3, [(1, .call [] [] (.v true [cs r6.Name, cb r6.Keep, cb r6.Leaf, .t (.ro 12 cBlock zBlock r6.Blocks)]))]), (4, [(9, .call [] [] (v1 (ci r8))), (11, .call [] [] (v1 (ci r9)))])] 100000 1000 (by kernel_rfl) (by kernel_rfl) (ac_y (g11_dead_Thread_fz K a0 r6 hc6) <| ac_on (!b7) (pt (!b7)) <| ac_on (!b7) (fun h => g20_ref22_Ops_ok K r6 r8 (cd_t h hc8)) <| ac_on (!b7) (pt (!b7)) <| ac_on (!b7) (fun h => g20_ref22_Ops_ok K a0 r9 (cd_t h hc9)) <| ac_on (!b7) (pt (!b7)) <| ac_on (!b7) (pt (!b7)) <| ac_y (pn b7) <| ac_nil) ?_
    refine StopP.cond (b := b10) (by kernel_rfl) (fun hb11 => ?_) (fun hb11 => ?_)
    · have h := cd_t hb11 h
      refine StopP.advd tbOk [] 100000 1000 (by kernel_rfl) (by kernel_rfl) (ac_nil) ?_
      have h := sm h; subst h
      refine StopP.out .ret (by kernel_rfl) ?_
      exact ret_box (.inr rfl) [.keep [2] []] (by kernel_rfl) (by kernel_rfl) [] (by kernel_rfl)
    · have h := cd_f hb11 h
      refine StopP.advd tbOk [] 100000 1000 (by kernel_rfl) (by kernel_rfl) (ac_nil) ?_
      obtain ⟨o157, ho157, h⟩ := bd_some h
      cases o157 with
      | inl o157 =>
        refine StopP.lp (by kernel_rfl) [.keep [1, 3, 4] [1, 3]] (s := g7_law22_DeadThreads.h0 a0 r6 (0 : Int)) (by kernel_rfl) (c := (kid [true, true, true, true, false, true, false, false] (bodyAt Try.f7))) (by kernel_rfl) (e := .ret) (J := g7_law22_DeadThreads.j0_0 a0 r6 o157) K (g7_law22_DeadThreads.l0_ok K a0 r6 K (0 : Int) (.inl o157) ho157) ?_
        have h := sm h; subst h
        refine StopP.out .ret (by kernel_rfl) ?_
        exact ret_box (.inr rfl) [.keep [2] []] (by kernel_rfl) (by kernel_rfl) [] (by kernel_rfl)
      | inr o157 =>
        refine StopP.lp (by kernel_rfl) [.keep [1, 3, 4] [1, 3]] (s := g7_law22_DeadThreads.h0 a0 r6 (0 : Int)) (by kernel_rfl) (c := (kid [true, true, true, true, false, true, false, false] (bodyAt Try.f7))) (by kernel_rfl) (e := (.exit 0)) (J := g7_law22_DeadThreads.j0_1 a0 r6 o157) K (g7_law22_DeadThreads.l0_ok K a0 r6 K (0 : Int) (.inr o157) ho157) ?_
        refine StopP.advd tbOk [] 100000 1000 (by kernel_rfl) (by kernel_rfl) (ac_nil) ?_
        have h := sm h; subst h
        refine StopP.out .ret (by kernel_rfl) ?_
        exact ret_box (.inr rfl) [.keep [2] []] (by kernel_rfl) (by kernel_rfl) [] (by kernel_rfl)

end Go.Proofs.Ytoooalfhjcfinaa.T
