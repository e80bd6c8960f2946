/- A part of the proofs of this seat: what functions of the program compute, and what follows from it; without conditions. -/
import Derived.Test.YtoooalfhjcfinaaB1
import Derived.Test.YtoooalfhjcfinaaProg

namespace Go.Proofs.Ytoooalfhjcfinaa.T
open Go.Abs
set_option linter.unusedVariables false
set_option maxRecDepth 100000
set_option maxHeartbeats 2000000

def tb : Tab where
  lay := [(3, (1, false)), (4, (1, false)), (9, (1, false)), (22, (1, false)), (24, (4, true)), (31, (1, false)), (33, (5, true)), (35, (9, true)), (37, (11, true)), (39, (12, true)), (44, (1, false)), (45, (1, false)), (50, (1, false))]
  fld := [(24, [(0, 1, false), (1, 1, false), (2, 1, false), (3, 1, false)]), (33, [(0, 1, false), (1, 1, false), (2, 1, false), (3, 1, false), (4, 1, false)]), (35, [(0, 5, true), (5, 1, false), (6, 1, false), (7, 1, false), (8, 1, false)]), (37, [(0, 1, false), (1, 1, false), (2, 1, false), (3, 1, false), (4, 1, false), (5, 1, false), (6, 5, true)]), (39, [(0, 1, false), (1, 11, true)])]
  slc := [(22, (39, 12, 112)), (31, (35, 9, 72)), (41, (24, 4, 48)), (44, (4, 1, 1)), (46, (3, 1, 8)), (47, (50, 1, 2))]
  arr := []
  kin := [(3, .int .i64), (4, .bool), (5, .int .u8)]
  zero := [(3, eI 0), (4, eB false), (24, cGraph zGraph), (33, cIns zIns), (35, cOp zOp), (37, cTerm zTerm), (39, cBlock zBlock), (44, [.lit (.slice none 0 0)]), (45, [.lit .nilFunc]), (50, eU16 0)]
  eqs := [(33, [.int .i64, .int .i64, .int .i64, .int .i64, .int .i64]), (35, [.int .i64, .int .i64, .int .i64, .int .i64, .int .i64, .bool, .int .i64, .int .i64, .int .i64]), (37, [.int .i64, .int .i64, .int .i64, .int .i64, .int .i64, .int .i64, .int .i64, .int .i64, .int .i64, .int .i64, .int .i64])]
  fns := [8, 9, 10, 11, 12, 13, 14, 15, 16, 17, 18, 19, 20, 21, 22, 23, 24, 25, 26, 27, 28, 29, 30, 31, 32, 33, 34, 35, 36, 37, 38, 39, 40, 41, 42, 43, 44, 45, 46, 47, 48, 49, 50, 51, 52, 53, 54, 55, 56, 58]
theorem tbOk : TabOk Try.prog tb := TabOk.of_chk (by kernel_rfl)

end Go.Proofs.Ytoooalfhjcfinaa.T

namespace Go.Proofs.Ytoooalfhjcfinaa.T
open Go.Abs
set_option linter.unusedVariables false
set_option maxRecDepth 100000
set_option maxHeartbeats 2000000

def g24_dead_through.l0 (K : Nat) (a0 : Graph) : Nat → Int → Int → Option (Int)
  | 0, _, _ => none
  | k + 1, x8, x9 =>
    let b17 : Bool := (decide (x9 < (a0.Blocks.length : Int)))
    bif b17 then
      gd (0 ≤ x8 ∧ x8 < (a0.Blocks.length : Int)) <|
      let b20 : Bool := (decide ((((a0.Blocks.getD x8.toNat zBlock).Ops).length : Int) > (0 : Int)))
      let b21 : Bool := ((a0.Blocks.getD x8.toNat zBlock).End.Kind != (1 : Int))
      let b22 : Bool := (bif b20 then true else b21)
      bif b22 then
        some x8
      else
        g24_dead_through.l0 K a0 k ((a0.Blocks.getD x8.toNat zBlock).End.To) (IntKind.i64.wrap (x9 + (1 : Int)))
    else
      some x8

def g24_dead_through.h0 (a0 : Graph) (x8 : Int) (x9 : Int) : Abs.St := ⟨[(1, .yes, v1 (ci x8)), (2, .yes, v1 (.ptr 2 0 0)), (8, .yes, v1 (ci (a0.Blocks.length : Int))), (9, .yes, v1 (ci x9))], [(2, .box 24 [cs a0.Name, cb a0.Keep, cb a0.Leaf, .t (.ro 12 cBlock zBlock a0.Blocks)])], 31⟩

def g24_dead_through.j0_0 (a0 : Graph) (o : Int) : Abs.St := ⟨[(1, .yes, v1 (ci o))], [], 31⟩

theorem g24_dead_through.l0_ok {W : World} {A Kf : Nat → Prop} (K : Nat) (a0 : Graph) : ∀ (k : Nat) (x8 : Int) (x9 : Int) (o : Int), g24_dead_through.l0 K a0 k x8 x9 = some o → WPR Try.prog W A Kf (kid [true, false, true, false, false] (bodyAt Try.f24)) (Out (.exit 0) (g24_dead_through.j0_0 a0 o)) k (g24_dead_through.h0 a0 x8 x9)
  | 0, x8, x9, o, h => by cases h
  | k + 1, x8, x9, o, h => by
    refine WPR.round ?_
    let b17 : Bool := (decide (x9 < (a0.Blocks.length : Int)))
    refine StopP.advd tbOk [] 100000 1000 (by kernel_rfl) (by kernel_rfl) (ac_nil) ?_
    refine StopP.cond (b := b17) (by kernel_rfl) (fun hb18 => ?_) (fun hb18 => ?_)
    · have h := cd_t hb18 h
      obtain ⟨hg19, h⟩ := gd_some h
      let b20 : Bool := (decide ((((a0.Blocks.getD x8.toNat zBlock).Ops).length : Int) > (0 : Int)))
      let b21 : Bool := ((a0.Blocks.getD x8.toNat zBlock).End.Kind != (1 : Int))
      let b22 : Bool := (bif b20 then true else b21)
      refine StopP.advd tbOk [] 100000 1000 (by kernel_rfl) (by kernel_rfl) (ac_y hg19 <| ac_on (!b20) (pt (!b20)) <| ac_on (!b20) (pt (!b20)) <| ac_on (!b20) (pt (!b20)) <| ac_y (pn b20) <| ac_nil) ?_
      refine StopP.cond (b := b22) (by kernel_rfl) (fun hb23 => ?_) (fun hb23 => ?_)
      · have h := cd_t hb23 h
        refine StopP.advd tbOk [] 100000 1000 (by kernel_rfl) (by kernel_rfl) (ac_nil) ?_
        have h := sm h; subst h
        exact StopP.out (.exit 0) (by kernel_rfl) ⟨rfl, [.keep [1] []], by kernel_rfl⟩
      · have h := cd_f hb23 h
        refine StopP.advd tbOk [] 100000 1000 (by kernel_rfl) (by kernel_rfl) (ac_nil) ?_
        refine StopP.out .normal (by kernel_rfl) ?_
        exact WPR.chg [.keep [1, 2, 8, 9] [2]] (by kernel_rfl) (g24_dead_through.l0_ok K a0 k ((a0.Blocks.getD x8.toNat zBlock).End.To) (IntKind.i64.wrap (x9 + (1 : Int))) o h)
    · have h := cd_f hb18 h
      refine StopP.advd tbOk [] 100000 1000 (by kernel_rfl) (by kernel_rfl) (ac_nil) ?_
      have h := sm h; subst h
      exact StopP.out (.exit 0) (by kernel_rfl) ⟨rfl, [.keep [1] []], by kernel_rfl⟩

def g24_dead_through (K : Nat) (a0 : Graph) (a1 : Int) : Option (Int) :=
  (g24_dead_through.l0 K a0 K a1 (0 : Int)).bind fun o24 =>
  some o24

theorem g24_dead_through_ok (K : Nat) (a0 : Graph) (a1 : Int) (r : Int) (h : g24_dead_through K a0 a1 = some r) : AC Try.prog 24 [] [.v true [cs a0.Name, cb a0.Keep, cb a0.Leaf, .t (.ro 12 cBlock zBlock a0.Blocks)], v1 (ci a1)] [] (v1 (ci r)) := by
  refine AC.intro (fn := Try.f24) tbOk (by kernel_rfl) rfl (by kernel_rfl) (fun W A Kf => ?_)
  refine StopP.advd tbOk [] 100000 1000 (by kernel_rfl) (by kernel_rfl) (ac_nil) ?_
  obtain ⟨o24, ho24, h⟩ := bd_some h
  refine StopP.lp (by kernel_rfl) [.keep [1, 2, 8, 9] [2]] (s := g24_dead_through.h0 a0 a1 (0 : Int)) (by kernel_rfl) (c := (kid [true, false, true, false, false] (bodyAt Try.f24))) (by kernel_rfl) (e := (.exit 0)) (J := g24_dead_through.j0_0 a0 o24) K (g24_dead_through.l0_ok K a0 K a1 (0 : Int) o24 ho24) ?_
  refine StopP.advd tbOk [] 100000 1000 (by kernel_rfl) (by kernel_rfl) (ac_nil) ?_
  have h := sm h; subst h
  refine StopP.out .ret (by kernel_rfl) ?_
  exact ret_box (.inr rfl) [.keep [4] []] (by kernel_rfl) (by kernel_rfl) [] (by kernel_rfl)

def g25_ref22_through.l0 (K : Nat) (a0 : Graph) : Nat → Int → Int → Option (Int)
  | 0, _, _ => none
  | k + 1, x10, x11 =>
    let b21 : Bool := (decide (x11 < (a0.Blocks.length : Int)))
    bif b21 then
      gd (0 ≤ x10 ∧ x10 < (a0.Blocks.length : Int)) <|
      let b24 : Bool := ((((a0.Blocks.getD x10.toNat zBlock).Ops).length : Int) == (0 : Int))
      gd (b24 = true → 0 ≤ x10 ∧ x10 < (a0.Blocks.length : Int)) <|
      let b26 : Bool := ((a0.Blocks.getD x10.toNat zBlock).End.Kind == (1 : Int))
      let b27 : Bool := (bif b24 then b26 else false)
      bif b27 then
        gd (0 ≤ x10 ∧ x10 < (a0.Blocks.length : Int)) <|
        g25_ref22_through.l0 K a0 k ((a0.Blocks.getD x10.toNat zBlock).End.To) (IntKind.i64.wrap (x11 + (1 : Int)))
      else
        g25_ref22_through.l0 K a0 k x10 (IntKind.i64.wrap (x11 + (1 : Int)))
    else
      some x10

def g25_ref22_through.h0 (a0 : Graph) (x10 : Int) (x11 : Int) : Abs.St := ⟨[(1, .yes, v1 (ci x10)), (2, .yes, v1 (.ptr 2 0 0)), (5, .yes, v1 (ci x11))], [(2, .box 24 [cs a0.Name, cb a0.Keep, cb a0.Leaf, .t (.ro 12 cBlock zBlock a0.Blocks)])], 39⟩

def g25_ref22_through.j0_0 (a0 : Graph) (o : Int) : Abs.St := ⟨[(1, .yes, v1 (ci o))], [], 39⟩

theorem g25_ref22_through.l0_ok {W : World} {A Kf : Nat → Prop} (K : Nat) (a0 : Graph) : ∀ (k : Nat) (x10 : Int) (x11 : Int) (o : Int), g25_ref22_through.l0 K a0 k x10 x11 = some o → WPR Try.prog W A Kf (kid [true, false, true, false, false] (bodyAt Try.f25)) (Out (.exit 0) (g25_ref22_through.j0_0 a0 o)) k (g25_ref22_through.h0 a0 x10 x11)
  | 0, x10, x11, o, h => by cases h
  | k + 1, x10, x11, o, h => by
    refine WPR.round ?_
    let b21 : Bool := (decide (x11 < (a0.Blocks.length : Int)))
    refine StopP.advd tbOk [] 100000 1000 (by kernel_rfl) (by kernel_rfl) (ac_nil) ?_
    refine StopP.cond (b := b21) (by kernel_rfl) (fun hb22 => ?_) (fun hb22 => ?_)
    · have h := cd_t hb22 h
      obtain ⟨hg23, h⟩ := gd_some h
      let b24 : Bool := ((((a0.Blocks.getD x10.toNat zBlock).Ops).length : Int) == (0 : Int))
      obtain ⟨hg25, h⟩ := gd_some h
      let b26 : Bool := ((a0.Blocks.getD x10.toNat zBlock).End.Kind == (1 : Int))
      let b27 : Bool := (bif b24 then b26 else false)
      refine StopP.advd tbOk [] 100000 1000 (by kernel_rfl) (by kernel_rfl) (ac_y hg23 <| ac_on b24 (pt b24) <| ac_on b24 (pt b24) <| ac_on b24 (pt b24) <| ac_on b24 hg25 <| ac_on b24 (pt b24) <| ac_on b24 (pt b24) <| ac_on b24 (pt b24) <| ac_on b24 (pt b24) <| ac_y (pt b24) <| ac_nil) ?_
      refine StopP.cond (b := b27) (by kernel_rfl) (fun hb28 => ?_) (fun hb28 => ?_)
      · have h := cd_t hb28 h
        obtain ⟨hg29, h⟩ := gd_some h
        refine StopP.advd tbOk [] 100000 1000 (by kernel_rfl) (by kernel_rfl) (ac_y hg29 <| ac_nil) ?_
        refine StopP.out .normal (by kernel_rfl) ?_
        exact WPR.chg [.keep [1, 2, 5] [2]] (by kernel_rfl) (g25_ref22_through.l0_ok K a0 k ((a0.Blocks.getD x10.toNat zBlock).End.To) (IntKind.i64.wrap (x11 + (1 : Int))) o h)
      · have h := cd_f hb28 h
        refine StopP.advd tbOk [] 100000 1000 (by kernel_rfl) (by kernel_rfl) (ac_nil) ?_
        refine StopP.out .normal (by kernel_rfl) ?_
        exact WPR.chg [.keep [1, 2, 5] [2]] (by kernel_rfl) (g25_ref22_through.l0_ok K a0 k x10 (IntKind.i64.wrap (x11 + (1 : Int))) o h)
    · have h := cd_f hb22 h
      refine StopP.advd tbOk [] 100000 1000 (by kernel_rfl) (by kernel_rfl) (ac_nil) ?_
      have h := sm h; subst h
      exact StopP.out (.exit 0) (by kernel_rfl) ⟨rfl, [.keep [1] []], by kernel_rfl⟩

def g25_ref22_through (K : Nat) (a0 : Graph) (a1 : Int) : Option (Int) :=
  (g25_ref22_through.l0 K a0 K a1 (0 : Int)).bind fun o30 =>
  some o30

theorem g25_ref22_through_ok (K : Nat) (a0 : Graph) (a1 : Int) (r : Int) (h : g25_ref22_through K a0 a1 = some r) : AC Try.prog 25 [] [.v true [cs a0.Name, cb a0.Keep, cb a0.Leaf, .t (.ro 12 cBlock zBlock a0.Blocks)], v1 (ci a1)] [] (v1 (ci r)) := by
  refine AC.intro (fn := Try.f25) tbOk (by kernel_rfl) rfl (by kernel_rfl) (fun W A Kf => ?_)
  refine StopP.advd tbOk [] 100000 1000 (by kernel_rfl) (by kernel_rfl) (ac_nil) ?_
  obtain ⟨o30, ho30, h⟩ := bd_some h
  refine StopP.lp (by kernel_rfl) [.keep [1, 2, 5] [2]] (s := g25_ref22_through.h0 a0 a1 (0 : Int)) (by kernel_rfl) (c := (kid [true, false, true, false, false] (bodyAt Try.f25))) (by kernel_rfl) (e := (.exit 0)) (J := g25_ref22_through.j0_0 a0 o30) K (g25_ref22_through.l0_ok K a0 K a1 (0 : Int) o30 ho30) ?_
  refine StopP.advd tbOk [] 100000 1000 (by kernel_rfl) (by kernel_rfl) (ac_nil) ?_
  have h := sm h; subst h
  refine StopP.out .ret (by kernel_rfl) ?_
  exact ret_box (.inr rfl) [.keep [4] []] (by kernel_rfl) (by kernel_rfl) [] (by kernel_rfl)

def g48_ref02_three (K : Nat) (a0 : Int) : Option (Bool) :=
  let b1 : Bool := (decide (a0 ≥ (1 : Int)))
  let b2 : Bool := (decide (a0 ≤ (7 : Int)))
  let b3 : Bool := (bif b1 then b2 else false)
  some b3

theorem g48_ref02_three_ok (K : Nat) (a0 : Int) (r : Bool) (h : g48_ref02_three K a0 = some r) : AC Try.prog 48 [] [v1 (ci a0)] [] (v1 (cb r)) := by
  refine AC.intro (fn := Try.f48) tbOk (by kernel_rfl) rfl (by kernel_rfl) (fun W A Kf => ?_)
  let b1 : Bool := (decide (a0 ≥ (1 : Int)))
  let b2 : Bool := (decide (a0 ≤ (7 : Int)))
  let b3 : Bool := (bif b1 then b2 else false)
  refine StopP.advd tbOk [] 100000 1000 (by kernel_rfl) (by kernel_rfl) (ac_on b1 (pt b1) <| ac_y (pt b1) <| ac_nil) ?_
  have h := sm h; subst h
  refine StopP.out .ret (by kernel_rfl) ?_
  exact ret_box (.inr rfl) [.keep [2] []] (by kernel_rfl) (by kernel_rfl) [] (by kernel_rfl)

def g49_ref02_reg (K : Nat) (a0 : Int) : Option (Bool) :=
  let b1 : Bool := (decide (a0 ≥ (0 : Int)))
  let b2 : Bool := (decide (a0 ≤ (15 : Int)))
  let b3 : Bool := (bif b1 then b2 else false)
  some b3

theorem g49_ref02_reg_ok (K : Nat) (a0 : Int) (r : Bool) (h : g49_ref02_reg K a0 = some r) : AC Try.prog 49 [] [v1 (ci a0)] [] (v1 (cb r)) := by
  refine AC.intro (fn := Try.f49) tbOk (by kernel_rfl) rfl (by kernel_rfl) (fun W A Kf => ?_)
  let b1 : Bool := (decide (a0 ≥ (0 : Int)))
  let b2 : Bool := (decide (a0 ≤ (15 : Int)))
  let b3 : Bool := (bif b1 then b2 else false)
  refine StopP.advd tbOk [] 100000 1000 (by kernel_rfl) (by kernel_rfl) (ac_on b1 (pt b1) <| ac_y (pt b1) <| ac_nil) ?_
  have h := sm h; subst h
  refine StopP.out .ret (by kernel_rfl) ?_
  exact ret_box (.inr rfl) [.keep [2] []] (by kernel_rfl) (by kernel_rfl) [] (by kernel_rfl)

def g50_ref02_near (K : Nat) (a0 : Int) : Option (Bool) :=
  let b1 : Bool := (decide (a0 ≥ (11 : Int)))
  let b2 : Bool := (decide (a0 ≤ (14 : Int)))
  let b3 : Bool := (bif b1 then b2 else false)
  let b4 : Bool := (bif (a0 == (8 : Int)) then true else b3)
  some b4

theorem g50_ref02_near_ok (K : Nat) (a0 : Int) (r : Bool) (h : g50_ref02_near K a0 = some r) : AC Try.prog 50 [] [v1 (ci a0)] [] (v1 (cb r)) := by
  refine AC.intro (fn := Try.f50) tbOk (by kernel_rfl) rfl (by kernel_rfl) (fun W A Kf => ?_)
  let b1 : Bool := (decide (a0 ≥ (11 : Int)))
  let b2 : Bool := (decide (a0 ≤ (14 : Int)))
  let b3 : Bool := (bif b1 then b2 else false)
  let b4 : Bool := (bif (a0 == (8 : Int)) then true else b3)
  refine StopP.advd tbOk [] 100000 1000 (by kernel_rfl) (by kernel_rfl) (ac_on (!(a0 == (8 : Int))) (pt (!(a0 == (8 : Int)))) <| ac_on (!(a0 == (8 : Int))) (pt (!(a0 == (8 : Int)))) <| ac_on ((!(a0 == (8 : Int))) && b1) (pt ((!(a0 == (8 : Int))) && b1)) <| ac_on (!(a0 == (8 : Int))) (pt (!(a0 == (8 : Int)))) <| ac_on (!(a0 == (8 : Int))) (fun h => ptg b1 h) <| ac_y (pn (a0 == (8 : Int))) <| ac_nil) ?_
  have h := sm h; subst h
  refine StopP.out .ret (by kernel_rfl) ?_
  exact ret_box (.inr rfl) [.keep [2] []] (by kernel_rfl) (by kernel_rfl) [] (by kernel_rfl)

def g51_ref02_branch (K : Nat) (a0 : Int) : Option (Bool) :=
  let b1 : Bool := (decide (a0 ≥ (15 : Int)))
  let b2 : Bool := (decide (a0 ≤ (18 : Int)))
  let b3 : Bool := (bif b1 then b2 else false)
  some b3

theorem g51_ref02_branch_ok (K : Nat) (a0 : Int) (r : Bool) (h : g51_ref02_branch K a0 = some r) : AC Try.prog 51 [] [v1 (ci a0)] [] (v1 (cb r)) := by
  refine AC.intro (fn := Try.f51) tbOk (by kernel_rfl) rfl (by kernel_rfl) (fun W A Kf => ?_)
  let b1 : Bool := (decide (a0 ≥ (15 : Int)))
  let b2 : Bool := (decide (a0 ≤ (18 : Int)))
  let b3 : Bool := (bif b1 then b2 else false)
  refine StopP.advd tbOk [] 100000 1000 (by kernel_rfl) (by kernel_rfl) (ac_on b1 (pt b1) <| ac_y (pt b1) <| ac_nil) ?_
  have h := sm h; subst h
  refine StopP.out .ret (by kernel_rfl) ?_
  exact ret_box (.inr rfl) [.keep [2] []] (by kernel_rfl) (by kernel_rfl) [] (by kernel_rfl)

def g52_ref02_one (K : Nat) (a0 : Int) : Option (Bool) :=
  let b1 : Bool := (bif (a0 == (0 : Int)) then true else (a0 == (22 : Int)))
  let b2 : Bool := (bif b1 then true else (a0 == (23 : Int)))
  some b2

theorem g52_ref02_one_ok (K : Nat) (a0 : Int) (r : Bool) (h : g52_ref02_one K a0 = some r) : AC Try.prog 52 [] [v1 (ci a0)] [] (v1 (cb r)) := by
  refine AC.intro (fn := Try.f52) tbOk (by kernel_rfl) rfl (by kernel_rfl) (fun W A Kf => ?_)
  let b1 : Bool := (bif (a0 == (0 : Int)) then true else (a0 == (22 : Int)))
  let b2 : Bool := (bif b1 then true else (a0 == (23 : Int)))
  refine StopP.advd tbOk [] 100000 1000 (by kernel_rfl) (by kernel_rfl) (ac_on (!(a0 == (0 : Int))) (pt (!(a0 == (0 : Int)))) <| ac_y (pn (a0 == (0 : Int))) <| ac_on (!b1) (pt (!b1)) <| ac_y (pn b1) <| ac_nil) ?_
  have h := sm h; subst h
  refine StopP.out .ret (by kernel_rfl) ?_
  exact ret_box (.inr rfl) [.keep [2] []] (by kernel_rfl) (by kernel_rfl) [] (by kernel_rfl)

def g53_ref02_far (K : Nat) (a0 : Int) : Option (Bool) :=
  let b1 : Bool := (bif (a0 == (19 : Int)) then true else (a0 == (20 : Int)))
  some b1

theorem g53_ref02_far_ok (K : Nat) (a0 : Int) (r : Bool) (h : g53_ref02_far K a0 = some r) : AC Try.prog 53 [] [v1 (ci a0)] [] (v1 (cb r)) := by
  refine AC.intro (fn := Try.f53) tbOk (by kernel_rfl) rfl (by kernel_rfl) (fun W A Kf => ?_)
  let b1 : Bool := (bif (a0 == (19 : Int)) then true else (a0 == (20 : Int)))
  refine StopP.advd tbOk [] 100000 1000 (by kernel_rfl) (by kernel_rfl) (ac_on (!(a0 == (19 : Int))) (pt (!(a0 == (19 : Int)))) <| ac_y (pn (a0 == (19 : Int))) <| ac_nil) ?_
  have h := sm h; subst h
  refine StopP.out .ret (by kernel_rfl) ?_
  exact ret_box (.inr rfl) [.keep [2] []] (by kernel_rfl) (by kernel_rfl) [] (by kernel_rfl)

def g41_ref02_Right (K : Nat) (a0 : Ins) : Option (Bool) :=
  (g48_ref02_three K a0.Op).bind fun r1 =>
  bif r1 then
    (g49_ref02_reg K a0.A).bind fun r3 =>
    (bif r3 then g49_ref02_reg K a0.B else some false).bind fun r4 =>
    let b5 : Bool := (bif r3 then r4 else false)
    (bif b5 then g49_ref02_reg K a0.C else some false).bind fun r6 =>
    let b7 : Bool := (bif b5 then r6 else false)
    let b8 : Bool := (bif b7 then (a0.Imm == (0 : Int)) else false)
    some b8
  else
    bif (a0.C != (0 : Int)) then
      some false
    else
      (g50_ref02_near K a0.Op).bind fun r10 =>
      bif r10 then
        (g49_ref02_reg K a0.A).bind fun r12 =>
        (bif r12 then g49_ref02_reg K a0.B else some false).bind fun r13 =>
        let b14 : Bool := (bif r12 then r13 else false)
        let b15 : Bool := (decide (a0.Imm ≥ (-32768 : Int)))
        let b16 : Bool := (bif b14 then b15 else false)
        let b17 : Bool := (decide (a0.Imm ≤ (32767 : Int)))
        let b18 : Bool := (bif b16 then b17 else false)
        some b18
      else
        bif (a0.Op == (10 : Int)) then
          (g49_ref02_reg K a0.A).bind fun r20 =>
          (bif r20 then g49_ref02_reg K a0.B else some false).bind fun r21 =>
          let b22 : Bool := (bif r20 then r21 else false)
          let b23 : Bool := (decide (a0.Imm ≥ (0 : Int)))
          let b24 : Bool := (bif b22 then b23 else false)
          let b25 : Bool := (decide (a0.Imm ≤ (65535 : Int)))
          let b26 : Bool := (bif b24 then b25 else false)
          some b26
        else
          (g51_ref02_branch K a0.Op).bind fun r27 =>
          bif r27 then
            (g49_ref02_reg K a0.A).bind fun r29 =>
            (bif r29 then g49_ref02_reg K a0.B else some false).bind fun r30 =>
            let b31 : Bool := (bif r29 then r30 else false)
            let b32 : Bool := (decide (a0.Imm ≥ (-128 : Int)))
            let b33 : Bool := (bif b31 then b32 else false)
            let b34 : Bool := (decide (a0.Imm ≤ (127 : Int)))
            let b35 : Bool := (bif b33 then b34 else false)
            some b35
          else
            bif (a0.B != (0 : Int)) then
              some false
            else
              bif (a0.Op == (9 : Int)) then
                (g49_ref02_reg K a0.A).bind fun r38 =>
                let b39 : Bool := (decide (a0.Imm ≥ (0 : Int)))
                let b40 : Bool := (bif r38 then b39 else false)
                let b41 : Bool := (decide (a0.Imm ≤ (65535 : Int)))
                let b42 : Bool := (bif b40 then b41 else false)
                some b42
              else
                (g52_ref02_one K a0.Op).bind fun r43 =>
                bif r43 then
                  (g49_ref02_reg K a0.A).bind fun r45 =>
                  let b46 : Bool := (bif r45 then (a0.Imm == (0 : Int)) else false)
                  some b46
                else
                  (g53_ref02_far K a0.Op).bind fun r47 =>
                  bif r47 then
                    let b49 : Bool := (decide (a0.Imm ≥ (-8388608 : Int)))
                    let b50 : Bool := (bif (a0.A == (0 : Int)) then b49 else false)
                    let b51 : Bool := (decide (a0.Imm ≤ (8388607 : Int)))
                    let b52 : Bool := (bif b50 then b51 else false)
                    some b52
                  else
                    let b53 : Bool := (bif (a0.Op == (21 : Int)) then true else (a0.Op == (24 : Int)))
                    let b54 : Bool := (bif b53 then true else (a0.Op == (25 : Int)))
                    let b55 : Bool := (bif b54 then (a0.A == (0 : Int)) else false)
                    let b56 : Bool := (bif b55 then (a0.Imm == (0 : Int)) else false)
                    some b56

theorem g41_ref02_Right_ok (K : Nat) (a0 : Ins) (r : Bool) (h : g41_ref02_Right K a0 = some r) : AC Try.prog 41 [] [.v true [ci a0.Op, ci a0.A, ci a0.B, ci a0.C, ci a0.Imm]] [] (v1 (cb r)) := by
  refine AC.intro (fn := Try.f41) tbOk (by kernel_rfl) rfl (by kernel_rfl) (fun W A Kf => ?_)
  obtain ⟨r1, hc1, h⟩ := bd_some h
  refine StopP.advd tbOk [(1, [(2, .call [] [] (v1 (cb r1)))])] 100000 1000 (by kernel_rfl) (by kernel_rfl) (ac_y (g48_ref02_three_ok K a0.Op r1 hc1) <| ac_nil) ?_
  refine StopP.cond (b := r1) (by kernel_rfl) (fun hb2 => ?_) (fun hb2 => ?_)
  · have h := cd_t hb2 h
    obtain ⟨r3, hc3, h⟩ := bd_some h
    obtain ⟨r4, hc4, h⟩ := bd_some h
    let b5 : Bool := (bif r3 then r4 else false)
    obtain ⟨r6, hc6, h⟩ := bd_some h
    let b7 : Bool := (bif b5 then r6 else false)
    let b8 : Bool := (bif b7 then (a0.Imm == (0 : Int)) else false)
    refine StopP.advd tbOk [(2, [(2, .call [] [] (v1 (cb r3))), (6, .call [] [] (v1 (cb r4))), (11, .call [] [] (v1 (cb r6)))])] 100000 1000 (by kernel_rfl) (by kernel_rfl) (ac_y (g49_ref02_reg_ok K a0.A r3 hc3) <| ac_on r3 (pt r3) <| ac_on r3 (pt r3) <| ac_on r3 (fun h => g49_ref02_reg_ok K a0.B r4 (cd_t h hc4)) <| ac_y (pt r3) <| ac_on b5 (pt b5) <| ac_on b5 (pt b5) <| ac_on b5 (fun h => g49_ref02_reg_ok K a0.C r6 (cd_t h hc6)) <| ac_y (pt b5) <| ac_on b7 (pt b7) <| ac_on b7 (pt b7) <| ac_y (pt b7) <| ac_nil) ?_
    have h := sm h; subst h
    refine StopP.out .ret (by kernel_rfl) ?_
    exact ret_box (.inr rfl) [.keep [2] []] (by kernel_rfl) (by kernel_rfl) [] (by kernel_rfl)
  · have h := cd_f hb2 h
    refine StopP.advd tbOk [] 100000 1000 (by kernel_rfl) (by kernel_rfl) (ac_nil) ?_
    refine StopP.cond (b := (a0.C != (0 : Int))) (by kernel_rfl) (fun hb9 => ?_) (fun hb9 => ?_)
    · have h := cd_t hb9 h
      refine StopP.advd tbOk [] 100000 1000 (by kernel_rfl) (by kernel_rfl) (ac_nil) ?_
      have h := sm h; subst h
      refine StopP.out .ret (by kernel_rfl) ?_
      exact ret_box (.inr rfl) [.keep [2] []] (by kernel_rfl) (by kernel_rfl) [] (by kernel_rfl)
    · have h := cd_f hb9 h
      obtain ⟨r10, hc10, h⟩ := bd_some h
      refine StopP.advd tbOk [(5, [(2, .call [] [] (v1 (cb r10)))])] 100000 1000 (by kernel_rfl) (by kernel_rfl) (ac_y (g50_ref02_near_ok K a0.Op r10 hc10) <| ac_nil) ?_
      refine StopP.cond (b := r10) (by kernel_rfl) (fun hb11 => ?_) (fun hb11 => ?_)
      · have h := cd_t hb11 h
        obtain ⟨r12, hc12, h⟩ := bd_some h
        obtain ⟨r13, hc13, h⟩ := bd_some h
        let b14 : Bool := (bif r12 then r13 else false)
        let b15 : Bool := (decide (a0.Imm ≥ (-32768 : Int)))
        let b16 : Bool := (bif b14 then b15 else false)
        let b17 : Bool := (decide (a0.Imm ≤ (32767 : Int)))
        let b18 : Bool := (bif b16 then b17 else false)
        refine StopP.advd tbOk [(6, [(2, .call [] [] (v1 (cb r12))), (6, .call [] [] (v1 (cb r13)))])] 100000 1000 (by kernel_rfl) (by kernel_rfl) (ac_y (g49_ref02_reg_ok K a0.A r12 hc12) <| ac_on r12 (pt r12) <| ac_on r12 (pt r12) <| ac_on r12 (fun h => g49_ref02_reg_ok K a0.B r13 (cd_t h hc13)) <| ac_y (pt r12) <| ac_on b14 (pt b14) <| ac_on b14 (pt b14) <| ac_y (pt b14) <| ac_on b16 (pt b16) <| ac_on b16 (pt b16) <| ac_y (pt b16) <| ac_nil) ?_
        have h := sm h; subst h
        refine StopP.out .ret (by kernel_rfl) ?_
        exact ret_box (.inr rfl) [.keep [2] []] (by kernel_rfl) (by kernel_rfl) [] (by kernel_rfl)
      · have h := cd_f hb11 h
        refine StopP.advd tbOk [] 100000 1000 (by kernel_rfl) (by kernel_rfl) (ac_nil) ?_
        refine StopP.cond (b := (a0.Op == (10 : Int))) (by kernel_rfl) (fun hb19 => ?_) (fun hb19 => ?_)
        · have h := cd_t hb19 h
          refine StopP.reb [.keep [1] [1]] (st' := .at (kid [true, true, true, true, false, true, false] (bodyAt Try.f41)) [.code (kid [true, true, true, true, true] (bodyAt Try.f41))] ⟨[(1, .yes, v1 (.ptr 1 0 0))], [(1, .box 33 [ci a0.Op, ci a0.A, ci a0.B, ci a0.C, ci a0.Imm])], 159⟩) (by kernel_rfl) (by kernel_rfl) (by kernel_rfl) (by kernel_rfl) rfl ?_
          obtain ⟨r20, hc20, h⟩ := bd_some h
          obtain ⟨r21, hc21, h⟩ := bd_some h
          let b22 : Bool := (bif r20 then r21 else false)
          let b23 : Bool := (decide (a0.Imm ≥ (0 : Int)))
          let b24 : Bool := (bif b22 then b23 else false)
          let b25 : Bool := (decide (a0.Imm ≤ (65535 : Int)))
          let b26 : Bool := (bif b24 then b25 else false)
          refine StopP.advd tbOk [(8, [(2, .call [] [] (v1 (cb r20))), (6, .call [] [] (v1 (cb r21)))])] 100000 1000 (by kernel_rfl) (by kernel_rfl) (ac_y (g49_ref02_reg_ok K a0.A r20 hc20) <| ac_on r20 (pt r20) <| ac_on r20 (pt r20) <| ac_on r20 (fun h => g49_ref02_reg_ok K a0.B r21 (cd_t h hc21)) <| ac_y (pt r20) <| ac_on b22 (pt b22) <| ac_on b22 (pt b22) <| ac_y (pt b22) <| ac_on b24 (pt b24) <| ac_on b24 (pt b24) <| ac_y (pt b24) <| ac_nil) ?_
          have h := sm h; subst h
          refine StopP.out .ret (by kernel_rfl) ?_
          exact ret_box (.inr rfl) [.keep [2] []] (by kernel_rfl) (by kernel_rfl) [] (by kernel_rfl)
        · have h := cd_f hb19 h
          obtain ⟨r27, hc27, h⟩ := bd_some h
          refine StopP.advd tbOk [(9, [(2, .call [] [] (v1 (cb r27)))])] 100000 1000 (by kernel_rfl) (by kernel_rfl) (ac_y (g51_ref02_branch_ok K a0.Op r27 hc27) <| ac_nil) ?_
          refine StopP.cond (b := r27) (by kernel_rfl) (fun hb28 => ?_) (fun hb28 => ?_)
          · have h := cd_t hb28 h
            refine StopP.reb [.keep [1] [1]] (st' := .at (kid [true, true, true, true, true, false, true, false] (bodyAt Try.f41)) [.code (kid [true, true, true, true, true, true] (bodyAt Try.f41))] ⟨[(1, .yes, v1 (.ptr 1 0 0))], [(1, .box 33 [ci a0.Op, ci a0.A, ci a0.B, ci a0.C, ci a0.Imm])], 159⟩) (by kernel_rfl) (by kernel_rfl) (by kernel_rfl) (by kernel_rfl) rfl ?_
            obtain ⟨r29, hc29, h⟩ := bd_some h
            obtain ⟨r30, hc30, h⟩ := bd_some h
            let b31 : Bool := (bif r29 then r30 else false)
            let b32 : Bool := (decide (a0.Imm ≥ (-128 : Int)))
            let b33 : Bool := (bif b31 then b32 else false)
            let b34 : Bool := (decide (a0.Imm ≤ (127 : Int)))
            let b35 : Bool := (bif b33 then b34 else false)
            refine StopP.advd tbOk [(10, [(2, .call [] [] (v1 (cb r29))), (6, .call [] [] (v1 (cb r30)))])] 100000 1000 (by kernel_rfl) (by kernel_rfl) (ac_y (g49_ref02_reg_ok K a0.A r29 hc29) <| ac_on r29 (pt r29) <| ac_on r29 (pt r29) <| ac_on r29 (fun h => g49_ref02_reg_ok K a0.B r30 (cd_t h hc30)) <| ac_y (pt r29) <| ac_on b31 (pt b31) <| ac_on b31 (pt b31) <| ac_y (pt b31) <| ac_on b33 (pt b33) <| ac_on b33 (pt b33) <| ac_y (pt b33) <| ac_nil) ?_
            have h := sm h; subst h
            refine StopP.out .ret (by kernel_rfl) ?_
            exact ret_box (.inr rfl) [.keep [2] []] (by kernel_rfl) (by kernel_rfl) [] (by kernel_rfl)
          · have h := cd_f hb28 h
            refine StopP.advd tbOk [] 100000 1000 (by kernel_rfl) (by kernel_rfl) (ac_nil) ?_
            refine StopP.cond (b := (a0.B != (0 : Int))) (by kernel_rfl) (fun hb36 => ?_) (fun hb36 => ?_)
            · have h := cd_t hb36 h
              refine StopP.reb [.keep [] []] (st' := .at (kid [true, true, true, true, true, true, false, true, false] (bodyAt Try.f41)) [.code (kid [true, true, true, true, true, true, true] (bodyAt Try.f41))] ⟨[], [], 159⟩) (by kernel_rfl) (by kernel_rfl) (by kernel_rfl) (by kernel_rfl) rfl ?_
              refine StopP.advd tbOk [] 100000 1000 (by kernel_rfl) (by kernel_rfl) (ac_nil) ?_
              have h := sm h; subst h
              refine StopP.out .ret (by kernel_rfl) ?_
              exact ret_box (.inr rfl) [.keep [2] []] (by kernel_rfl) (by kernel_rfl) [] (by kernel_rfl)
            · have h := cd_f hb36 h
              refine StopP.advd tbOk [] 100000 1000 (by kernel_rfl) (by kernel_rfl) (ac_nil) ?_
              refine StopP.cond (b := (a0.Op == (9 : Int))) (by kernel_rfl) (fun hb37 => ?_) (fun hb37 => ?_)
              · have h := cd_t hb37 h
                refine StopP.reb [.keep [1] [1]] (st' := .at (kid [true, true, true, true, true, true, true, false, true, false] (bodyAt Try.f41)) [.code (kid [true, true, true, true, true, true, true, true] (bodyAt Try.f41))] ⟨[(1, .yes, v1 (.ptr 1 0 0))], [(1, .box 33 [ci a0.Op, ci a0.A, ci a0.B, ci a0.C, ci a0.Imm])], 159⟩) (by kernel_rfl) (by kernel_rfl) (by kernel_rfl) (by kernel_rfl) rfl ?_
                obtain ⟨r38, hc38, h⟩ := bd_some h
                let b39 : Bool := (decide (a0.Imm ≥ (0 : Int)))
                let b40 : Bool := (bif r38 then b39 else false)
                let b41 : Bool := (decide (a0.Imm ≤ (65535 : Int)))
                let b42 : Bool := (bif b40 then b41 else false)
                refine StopP.advd tbOk [(14, [(2, .call [] [] (v1 (cb r38)))])] 100000 1000 (by kernel_rfl) (by kernel_rfl) (ac_y (g49_ref02_reg_ok K a0.A r38 hc38) <| ac_on r38 (pt r38) <| ac_on r38 (pt r38) <| ac_y (pt r38) <| ac_on b40 (pt b40) <| ac_on b40 (pt b40) <| ac_y (pt b40) <| ac_nil) ?_
                have h := sm h; subst h
                refine StopP.out .ret (by kernel_rfl) ?_
                exact ret_box (.inr rfl) [.keep [2] []] (by kernel_rfl) (by kernel_rfl) [] (by kernel_rfl)
              · have h := cd_f hb37 h
                obtain ⟨r43, hc43, h⟩ := bd_some h
                refine StopP.advd tbOk [(15, [(2, .call [] [] (v1 (cb r43)))])] 100000 1000 (by kernel_rfl) (by kernel_rfl) (ac_y (g52_ref02_one_ok K a0.Op r43 hc43) <| ac_nil) ?_
                refine StopP.cond (b := r43) (by kernel_rfl) (fun hb44 => ?_) (fun hb44 => ?_)
                · have h := cd_t hb44 h
                  refine StopP.reb [.keep [1] [1]] (st' := .at (kid [true, true, true, true, true, true, true, true, false, true, false] (bodyAt Try.f41)) [.code (kid [true, true, true, true, true, true, true, true, true] (bodyAt Try.f41))] ⟨[(1, .yes, v1 (.ptr 1 0 0))], [(1, .box 33 [ci a0.Op, ci a0.A, ci a0.B, ci a0.C, ci a0.Imm])], 159⟩) (by kernel_rfl) (by kernel_rfl) (by kernel_rfl) (by kernel_rfl) rfl ?_
                  obtain ⟨r45, hc45, h⟩ := bd_some h
                  let b46 : Bool := (bif r45 then (a0.Imm == (0 : Int)) else false)
                  refine StopP.advd tbOk [(16, [(2, .call [] [] (v1 (cb r45)))])] 100000 1000 (by kernel_rfl) (by kernel_rfl) (ac_y (g49_ref02_reg_ok K a0.A r45 hc45) <| ac_on r45 (pt r45) <| ac_on r45 (pt r45) <| ac_y (pt r45) <| ac_nil) ?_
                  have h := sm h; subst h
                  refine StopP.out .ret (by kernel_rfl) ?_
                  exact ret_box (.inr rfl) [.keep [2] []] (by kernel_rfl) (by kernel_rfl) [] (by kernel_rfl)
                · have h := cd_f hb44 h
                  obtain ⟨r47, hc47, h⟩ := bd_some h
                  refine StopP.advd tbOk [(17, [(2, .call [] [] (v1 (cb r47)))])] 100000 1000 (by kernel_rfl) (by kernel_rfl) (ac_y (g53_ref02_far_ok K a0.Op r47 hc47) <| ac_nil) ?_
                  refine StopP.cond (b := r47) (by kernel_rfl) (fun hb48 => ?_) (fun hb48 => ?_)
                  · have h := cd_t hb48 h
                    refine StopP.reb [.keep [1] [1]] (st' := .at (kid [true, true, true, true, true, true, true, true, true, false, true, false] (bodyAt Try.f41)) [.code (kid [true, true, true, true, true, true, true, true, true, true] (bodyAt Try.f41))] ⟨[(1, .yes, v1 (.ptr 1 0 0))], [(1, .box 33 [ci a0.Op, ci a0.A, ci a0.B, ci a0.C, ci a0.Imm])], 159⟩) (by kernel_rfl) (by kernel_rfl) (by kernel_rfl) (by kernel_rfl) rfl ?_
                    let b49 : Bool := (decide (a0.Imm ≥ (-8388608 : Int)))
                    let b50 : Bool := (bif (a0.A == (0 : Int)) then b49 else false)
                    let b51 : Bool := (decide (a0.Imm ≤ (8388607 : Int)))
                    let b52 : Bool := (bif b50 then b51 else false)
                    refine StopP.advd tbOk [] 100000 1000 (by kernel_rfl) (by kernel_rfl) (ac_on (a0.A == (0 : Int)) (pt (a0.A == (0 : Int))) <| ac_on (a0.A == (0 : Int)) (pt (a0.A == (0 : Int))) <| ac_y (pt (a0.A == (0 : Int))) <| ac_on b50 (pt b50) <| ac_on b50 (pt b50) <| ac_y (pt b50) <| ac_nil) ?_
                    have h := sm h; subst h
                    refine StopP.out .ret (by kernel_rfl) ?_
                    exact ret_box (.inr rfl) [.keep [2] []] (by kernel_rfl) (by kernel_rfl) [] (by kernel_rfl)
                  · have h := cd_f hb48 h
                    let b53 : Bool := (bif (a0.Op == (21 : Int)) then true else (a0.Op == (24 : Int)))
                    let b54 : Bool := (bif b53 then true else (a0.Op == (25 : Int)))
                    let b55 : Bool := (bif b54 then (a0.A == (0 : Int)) else false)
                    let b56 : Bool := (bif b55 then (a0.Imm == (0 : Int)) else false)
                    refine StopP.advd tbOk [] 100000 1000 (by kernel_rfl) (by kernel_rfl) (ac_on (!(a0.Op == (21 : Int))) (pt (!(a0.Op == (21 : Int)))) <| ac_on (!(a0.Op == (21 : Int))) (pt (!(a0.Op == (21 : Int)))) <| ac_y (pn (a0.Op == (21 : Int))) <| ac_on (!b53) (pt (!b53)) <| ac_on (!b53) (pt (!b53)) <| ac_y (pn b53) <| ac_on b54 (pt b54) <| ac_on b54 (pt b54) <| ac_y (pt b54) <| ac_on b55 (pt b55) <| ac_on b55 (pt b55) <| ac_y (pt b55) <| ac_nil) ?_
                    have h := sm h; subst h
                    refine StopP.out .ret (by kernel_rfl) ?_
                    exact ret_box (.inr rfl) [.keep [2] []] (by kernel_rfl) (by kernel_rfl) [] (by kernel_rfl)

def g39_ref03_Kind (K : Nat) (a0 : Ins) : Option (Int) :=
  let y1 : List Int := ([(5 : Int), (0 : Int), (0 : Int), (0 : Int), (0 : Int), (0 : Int), (0 : Int), (0 : Int), (0 : Int), (0 : Int), (0 : Int), (1 : Int), (1 : Int), (1 : Int), (1 : Int), (2 : Int), (2 : Int), (2 : Int), (2 : Int), (3 : Int), (4 : Int), (5 : Int), (1 : Int), (1 : Int), (0 : Int), (5 : Int)] : List Int)
  gd (0 ≤ a0.Op ∧ a0.Op < (y1.length : Int)) <|
  some (y1.getD a0.Op.toNat 0)

theorem g39_ref03_Kind_ok (K : Nat) (a0 : Ins) (r : Int) (h : g39_ref03_Kind K a0 = some r) : AC Try.prog 39 [] [.v true [ci a0.Op, ci a0.A, ci a0.B, ci a0.C, ci a0.Imm]] [] (v1 (ci r)) := by
  refine AC.intro (fn := Try.f39) tbOk (by kernel_rfl) rfl (by kernel_rfl) (fun W A Kf => ?_)
  let y1 : List Int := ([(5 : Int), (0 : Int), (0 : Int), (0 : Int), (0 : Int), (0 : Int), (0 : Int), (0 : Int), (0 : Int), (0 : Int), (0 : Int), (1 : Int), (1 : Int), (1 : Int), (1 : Int), (2 : Int), (2 : Int), (2 : Int), (2 : Int), (3 : Int), (4 : Int), (5 : Int), (1 : Int), (1 : Int), (0 : Int), (5 : Int)] : List Int)
  obtain ⟨hg2, h⟩ := gd_some h
  refine StopP.advd tbOk [(1, [(0, .obj (.rows 3 1 eI 0 ([(5 : Int), (0 : Int), (0 : Int), (0 : Int), (0 : Int), (0 : Int), (0 : Int), (0 : Int), (0 : Int), (0 : Int), (0 : Int), (1 : Int), (1 : Int), (1 : Int), (1 : Int), (2 : Int), (2 : Int), (2 : Int), (2 : Int), (3 : Int), (4 : Int), (5 : Int), (1 : Int), (1 : Int), (0 : Int), (5 : Int)] : List Int)))])] 100000 1000 (by kernel_rfl) (by kernel_rfl) (ac_c (Built.mk (ty := 3) (es := 1) (enc := eI) (z := 0) (xs := ([(5 : Int), (0 : Int), (0 : Int), (0 : Int), (0 : Int), (0 : Int), (0 : Int), (0 : Int), (0 : Int), (0 : Int), (0 : Int), (1 : Int), (1 : Int), (1 : Int), (1 : Int), (2 : Int), (2 : Int), (2 : Int), (2 : Int), (3 : Int), (4 : Int), (5 : Int), (1 : Int), (1 : Int), (0 : Int), (5 : Int)] : List Int)) (fun _ _ => rfl) (by decide : (26 * 1 : Nat) ≤ 16777216)) <| ac_y hg2 <| ac_y (tn hg2) <| ac_nil) ?_
  have h := sm h; subst h
  refine StopP.out .ret (by kernel_rfl) ?_
  exact ret_box (.inr rfl) [.keep [2] []] (by kernel_rfl) (by kernel_rfl) [] (by kernel_rfl)

def g38_ref03_Writes (K : Nat) (a0 : Ins) : Option (Int) :=
  let b1 : Bool := (decide (a0.A > (0 : Int)))
  let b2 : Bool := (decide (a0.Op > (0 : Int)))
  let b3 : Bool := (decide (a0.Op < (12 : Int)))
  let b4 : Bool := (bif b2 then b3 else false)
  let b5 : Bool := (bif b4 then true else (a0.Op == (13 : Int)))
  let b6 : Bool := (bif b5 then true else (a0.Op == (22 : Int)))
  let b7 : Bool := (bif b1 then b6 else false)
  bif b7 then
    some a0.A
  else
    some (-1 : Int)

theorem g38_ref03_Writes_ok (K : Nat) (a0 : Ins) (r : Int) (h : g38_ref03_Writes K a0 = some r) : AC Try.prog 38 [] [.v true [ci a0.Op, ci a0.A, ci a0.B, ci a0.C, ci a0.Imm]] [] (v1 (ci r)) := by
  refine AC.intro (fn := Try.f38) tbOk (by kernel_rfl) rfl (by kernel_rfl) (fun W A Kf => ?_)
  let b1 : Bool := (decide (a0.A > (0 : Int)))
  let b2 : Bool := (decide (a0.Op > (0 : Int)))
  let b3 : Bool := (decide (a0.Op < (12 : Int)))
  let b4 : Bool := (bif b2 then b3 else false)
  let b5 : Bool := (bif b4 then true else (a0.Op == (13 : Int)))
  let b6 : Bool := (bif b5 then true else (a0.Op == (22 : Int)))
  let b7 : Bool := (bif b1 then b6 else false)
  have q0 := ac_on b1 (fun h => ptg b2 h) <| ac_on b1 (pt b1) <| ac_on (b1 && (!b4)) (pt (b1 && (!b4))) <| ac_on (b1 && (!b4)) (pt (b1 && (!b4))) <| ac_on b1 (pt b1) <| ac_on b1 (fun h => png b4 h) <| ac_on b1 (pt b1) <| ac_on (b1 && (!b5)) (pt (b1 && (!b5))) <| ac_on (b1 && (!b5)) (pt (b1 && (!b5))) <| ac_on b1 (pt b1) <| ac_on b1 (fun h => png b5 h) <| ac_y (pt b1) <| ac_nil
  refine StopP.advd tbOk [] 100000 1000 (by kernel_rfl) (by kernel_rfl) (ac_on b1 (pt b1) <| ac_on b1 (pt b1) <| ac_on b1 (pt b1) <| ac_on (b1 && b2) (pt (b1 && b2)) <| ac_on (b1 && b2) (pt (b1 && b2)) <| ac_on b1 (pt b1) <| q0) ?_
  refine StopP.cond (b := b7) (by kernel_rfl) (fun hb8 => ?_) (fun hb8 => ?_)
  · have h := cd_t hb8 h
    refine StopP.advd tbOk [] 100000 1000 (by kernel_rfl) (by kernel_rfl) (ac_nil) ?_
    have h := sm h; subst h
    refine StopP.out .ret (by kernel_rfl) ?_
    exact ret_box (.inr rfl) [.keep [2] []] (by kernel_rfl) (by kernel_rfl) [] (by kernel_rfl)
  · have h := cd_f hb8 h
    refine StopP.advd tbOk [] 100000 1000 (by kernel_rfl) (by kernel_rfl) (ac_nil) ?_
    have h := sm h; subst h
    refine StopP.out .ret (by kernel_rfl) ?_
    exact ret_box (.inr rfl) [.keep [2] []] (by kernel_rfl) (by kernel_rfl) [] (by kernel_rfl)

def g58_ref03_Reads (K : Nat) (a0 : Ins) (a1 : Int) : Option (Bool) :=
  bif (a1 == (0 : Int)) then
    some false
  else
    let b2 : Bool := (bif (a0.Op == (0 : Int)) then true else (a0.Op == (12 : Int)))
    let b3 : Bool := (decide (a0.Op ≥ (14 : Int)))
    let b4 : Bool := (decide (a0.Op ≤ (18 : Int)))
    let b5 : Bool := (bif b3 then b4 else false)
    let b6 : Bool := (bif b2 then true else b5)
    let b7 : Bool := (bif b6 then true else (a0.Op == (23 : Int)))
    let b8 : Bool := (decide (a0.Op ≥ (1 : Int)))
    let b9 : Bool := (decide (a0.Op ≤ (8 : Int)))
    let b10 : Bool := (bif b8 then b9 else false)
    let b11 : Bool := (decide (a0.Op ≥ (10 : Int)))
    let b12 : Bool := (decide (a0.Op ≤ (18 : Int)))
    let b13 : Bool := (bif b11 then b12 else false)
    let b14 : Bool := (bif b10 then true else b13)
    let b15 : Bool := (decide (a0.Op ≥ (1 : Int)))
    let b16 : Bool := (decide (a0.Op ≤ (7 : Int)))
    let b17 : Bool := (bif b15 then b16 else false)
    let b18 : Bool := (bif b7 then (a0.A == a1) else false)
    let b19 : Bool := (bif b14 then (a0.B == a1) else false)
    let b20 : Bool := (bif b18 then true else b19)
    let b21 : Bool := (bif b17 then (a0.C == a1) else false)
    let b22 : Bool := (bif b20 then true else b21)
    some b22

theorem g58_ref03_Reads_ok (K : Nat) (a0 : Ins) (a1 : Int) (r : Bool) (h : g58_ref03_Reads K a0 a1 = some r) : AC Try.prog 58 [] [.v true [ci a0.Op, ci a0.A, ci a0.B, ci a0.C, ci a0.Imm], v1 (ci a1)] [] (v1 (cb r)) := by
  refine AC.intro (fn := Try.f58) tbOk (by kernel_rfl) rfl (by kernel_rfl) (fun W A Kf => ?_)
  refine StopP.advd tbOk [] 100000 1000 (by kernel_rfl) (by kernel_rfl) (ac_nil) ?_
  refine StopP.cond (b := (a1 == (0 : Int))) (by kernel_rfl) (fun hb1 => ?_) (fun hb1 => ?_)
  · have h := cd_t hb1 h
    refine StopP.advd tbOk [] 100000 1000 (by kernel_rfl) (by kernel_rfl) (ac_nil) ?_
    have h := sm h; subst h
    refine StopP.out .ret (by kernel_rfl) ?_
    exact ret_box (.inr rfl) [.keep [4] []] (by kernel_rfl) (by kernel_rfl) [] (by kernel_rfl)
  · have h := cd_f hb1 h
    let b2 : Bool := (bif (a0.Op == (0 : Int)) then true else (a0.Op == (12 : Int)))
    let b3 : Bool := (decide (a0.Op ≥ (14 : Int)))
    let b4 : Bool := (decide (a0.Op ≤ (18 : Int)))
    let b5 : Bool := (bif b3 then b4 else false)
    let b6 : Bool := (bif b2 then true else b5)
    let b7 : Bool := (bif b6 then true else (a0.Op == (23 : Int)))
    let b8 : Bool := (decide (a0.Op ≥ (1 : Int)))
    let b9 : Bool := (decide (a0.Op ≤ (8 : Int)))
    let b10 : Bool := (bif b8 then b9 else false)
    let b11 : Bool := (decide (a0.Op ≥ (10 : Int)))
    let b12 : Bool := (decide (a0.Op ≤ (18 : Int)))
    let b13 : Bool := (bif b11 then b12 else false)
    let b14 : Bool := (bif b10 then true else b13)
    let b15 : Bool := (decide (a0.Op ≥ (1 : Int)))
    let b16 : Bool := (decide (a0.Op ≤ (7 : Int)))
    let b17 : Bool := (bif b15 then b16 else false)
    let b18 : Bool := (bif b7 then (a0.A == a1) else false)
    let b19 : Bool := (bif b14 then (a0.B == a1) else false)
    let b20 : Bool := (bif b18 then true else b19)
    let b21 : Bool := (bif b17 then (a0.C == a1) else false)
    let b22 : Bool := (bif b20 then true else b21)
    have q0 := ac_on ((!b18) && b14) (pt ((!b18) && b14)) <| ac_on ((!b18) && b14) (pt ((!b18) && b14)) <| ac_on (!b18) (pt (!b18)) <| ac_on (!b18) (fun h => ptg b14 h) <| ac_y (pn b18) <| ac_on (!b20) (pt (!b20)) <| ac_on ((!b20) && b17) (pt ((!b20) && b17)) <| ac_on ((!b20) && b17) (pt ((!b20) && b17)) <| ac_on ((!b20) && b17) (pt ((!b20) && b17)) <| ac_on (!b20) (pt (!b20)) <| ac_on (!b20) (fun h => ptg b17 h) <| ac_y (pn b20) <| ac_nil
    have q1 := ac_on (!b10) (pt (!b10)) <| ac_on (!b10) (fun h => ptg b11 h) <| ac_y (pn b10) <| ac_on b15 (pt b15) <| ac_on b15 (pt b15) <| ac_y (pt b15) <| ac_on b7 (pt b7) <| ac_on b7 (pt b7) <| ac_on b7 (pt b7) <| ac_y (pt b7) <| ac_on (!b18) (pt (!b18)) <| ac_on ((!b18) && b14) (pt ((!b18) && b14)) <| q0
    have q2 := ac_y (pn b2) <| ac_on (!b6) (pt (!b6)) <| ac_on (!b6) (pt (!b6)) <| ac_y (pn b6) <| ac_on b8 (pt b8) <| ac_on b8 (pt b8) <| ac_y (pt b8) <| ac_on (!b10) (pt (!b10)) <| ac_on (!b10) (pt (!b10)) <| ac_on (!b10) (pt (!b10)) <| ac_on ((!b10) && b11) (pt ((!b10) && b11)) <| ac_on ((!b10) && b11) (pt ((!b10) && b11)) <| q1
    refine StopP.advd tbOk [] 100000 1000 (by kernel_rfl) (by kernel_rfl) (ac_on (!(a0.Op == (0 : Int))) (pt (!(a0.Op == (0 : Int)))) <| ac_on (!(a0.Op == (0 : Int))) (pt (!(a0.Op == (0 : Int)))) <| ac_y (pn (a0.Op == (0 : Int))) <| ac_on (!b2) (pt (!b2)) <| ac_on (!b2) (pt (!b2)) <| ac_on (!b2) (pt (!b2)) <| ac_on ((!b2) && b3) (pt ((!b2) && b3)) <| ac_on ((!b2) && b3) (pt ((!b2) && b3)) <| ac_on (!b2) (pt (!b2)) <| ac_on (!b2) (fun h => ptg b3 h) <| q2) ?_
    have h := sm h; subst h
    refine StopP.out .ret (by kernel_rfl) ?_
    exact ret_box (.inr rfl) [.keep [4] []] (by kernel_rfl) (by kernel_rfl) [] (by kernel_rfl)

def g30_ref16_op (K : Nat) (a0 : Op') (a1 : Int) (a2 : Int) : Option (Bool) :=
  (g41_ref02_Right K a0.Ins).bind fun r1 =>
  bif (!r1) then
    some false
  else
    (g39_ref03_Kind K a0.Ins).bind fun r3 =>
    bif (!a0.Rel) then
      let b5 : Bool := (decide (r3 ≤ (1 : Int)))
      let b6 : Bool := (bif b5 then (a0.Kind == (0 : Int)) else false)
      let b7 : Bool := (bif b6 then (a0.To == (0 : Int)) else false)
      let b8 : Bool := (bif b7 then (a0.Add == (0 : Int)) else false)
      some b8
    else
      let b9 : Bool := (a0.Ins.Imm != (0 : Int))
      let b10 : Bool := (decide (a0.To < (0 : Int)))
      let b11 : Bool := (bif b9 then true else b10)
      bif b11 then
        some false
      else
        bif (r3 == (4 : Int)) then
          let b14 : Bool := (bif (a0.Kind == (1 : Int)) then (decide (a0.To < a1)) else false)
          let b15 : Bool := (bif b14 then (a0.Add == (0 : Int)) else false)
          some b15
        else
          let b16 : Bool := (bif (a0.Kind == (2 : Int)) then (a0.Ins.Op == (9 : Int)) else false)
          let b17 : Bool := (a0.Ins.Op == (10 : Int))
          let b18 : Bool := (bif (a0.Kind == (3 : Int)) then b17 else false)
          let b19 : Bool := (bif b16 then true else b18)
          let b20 : Bool := (bif b19 then (decide (a0.To < a2)) else false)
          let b21 : Bool := (decide (a0.Add ≥ (-1048576 : Int)))
          let b22 : Bool := (bif b20 then b21 else false)
          let b23 : Bool := (decide (a0.Add ≤ (1048576 : Int)))
          let b24 : Bool := (bif b22 then b23 else false)
          some b24

theorem g30_ref16_op_ok (K : Nat) (a0 : Op') (a1 : Int) (a2 : Int) (r : Bool) (h : g30_ref16_op K a0 a1 a2 = some r) : AC Try.prog 30 [] [.v true [ci a0.Ins.Op, ci a0.Ins.A, ci a0.Ins.B, ci a0.Ins.C, ci a0.Ins.Imm, cb a0.Rel, ci a0.Kind, ci a0.To, ci a0.Add], v1 (ci a1), v1 (ci a2)] [] (v1 (cb r)) := by
  refine AC.intro (fn := Try.f30) tbOk (by kernel_rfl) rfl (by kernel_rfl) (fun W A Kf => ?_)
  obtain ⟨r1, hc1, h⟩ := bd_some h
  refine StopP.advd tbOk [(1, [(2, .call [] [] (v1 (cb r1)))])] 100000 1000 (by kernel_rfl) (by kernel_rfl) (ac_y (g41_ref02_Right_ok K a0.Ins r1 hc1) <| ac_nil) ?_
  refine StopP.cond (b := (!r1)) (by kernel_rfl) (fun hb2 => ?_) (fun hb2 => ?_)
  · have h := cd_t hb2 h
    refine StopP.advd tbOk [] 100000 1000 (by kernel_rfl) (by kernel_rfl) (ac_nil) ?_
    have h := sm h; subst h
    refine StopP.out .ret (by kernel_rfl) ?_
    exact ret_box (.inr rfl) [.keep [6] []] (by kernel_rfl) (by kernel_rfl) [] (by kernel_rfl)
  · have h := cd_f hb2 h
    obtain ⟨r3, hc3, h⟩ := bd_some h
    refine StopP.advd tbOk [(3, [(2, .call [] [] (v1 (ci r3)))])] 100000 1000 (by kernel_rfl) (by kernel_rfl) (ac_y (g39_ref03_Kind_ok K a0.Ins r3 hc3) <| ac_nil) ?_
    refine StopP.cond (b := (!a0.Rel)) (by kernel_rfl) (fun hb4 => ?_) (fun hb4 => ?_)
    · have h := cd_t hb4 h
      let b5 : Bool := (decide (r3 ≤ (1 : Int)))
      let b6 : Bool := (bif b5 then (a0.Kind == (0 : Int)) else false)
      let b7 : Bool := (bif b6 then (a0.To == (0 : Int)) else false)
      let b8 : Bool := (bif b7 then (a0.Add == (0 : Int)) else false)
      refine StopP.advd tbOk [] 100000 1000 (by kernel_rfl) (by kernel_rfl) (ac_on b5 (pt b5) <| ac_on b5 (pt b5) <| ac_y (pt b5) <| ac_on b6 (pt b6) <| ac_on b6 (pt b6) <| ac_y (pt b6) <| ac_on b7 (pt b7) <| ac_on b7 (pt b7) <| ac_y (pt b7) <| ac_nil) ?_
      have h := sm h; subst h
      refine StopP.out .ret (by kernel_rfl) ?_
      exact ret_box (.inr rfl) [.keep [6] []] (by kernel_rfl) (by kernel_rfl) [] (by kernel_rfl)
    · have h := cd_f hb4 h
      let b9 : Bool := (a0.Ins.Imm != (0 : Int))
      let b10 : Bool := (decide (a0.To < (0 : Int)))
      let b11 : Bool := (bif b9 then true else b10)
      refine StopP.advd tbOk [] 100000 1000 (by kernel_rfl) (by kernel_rfl) (ac_on (!b9) (pt (!b9)) <| ac_on (!b9) (pt (!b9)) <| ac_y (pn b9) <| ac_nil) ?_
      refine StopP.cond (b := b11) (by kernel_rfl) (fun hb12 => ?_) (fun hb12 => ?_)
      · have h := cd_t hb12 h
        refine StopP.advd tbOk [] 100000 1000 (by kernel_rfl) (by kernel_rfl) (ac_nil) ?_
        have h := sm h; subst h
        refine StopP.out .ret (by kernel_rfl) ?_
        exact ret_box (.inr rfl) [.keep [6] []] (by kernel_rfl) (by kernel_rfl) [] (by kernel_rfl)
      · have h := cd_f hb12 h
        refine StopP.advd tbOk [] 100000 1000 (by kernel_rfl) (by kernel_rfl) (ac_nil) ?_
        refine StopP.cond (b := (r3 == (4 : Int))) (by kernel_rfl) (fun hb13 => ?_) (fun hb13 => ?_)
        · have h := cd_t hb13 h
          refine StopP.reb [.keep [1, 3] [3]] (st' := .at (kid [true, true, true, true, true, false, true, false] (bodyAt Try.f30)) [.code (kid [true, true, true, true, true, true] (bodyAt Try.f30))] ⟨[(1, .yes, v1 (ci a1)), (3, .yes, v1 (.ptr 3 0 0))], [(3, .box 35 [ci a0.Ins.Op, ci a0.Ins.A, ci a0.Ins.B, ci a0.Ins.C, ci a0.Ins.Imm, cb a0.Rel, ci a0.Kind, ci a0.To, ci a0.Add])], 96⟩) (by kernel_rfl) (by kernel_rfl) (by kernel_rfl) (by kernel_rfl) rfl ?_
          let b14 : Bool := (bif (a0.Kind == (1 : Int)) then (decide (a0.To < a1)) else false)
          let b15 : Bool := (bif b14 then (a0.Add == (0 : Int)) else false)
          refine StopP.advd tbOk [] 100000 1000 (by kernel_rfl) (by kernel_rfl) (ac_on (a0.Kind == (1 : Int)) (pt (a0.Kind == (1 : Int))) <| ac_on (a0.Kind == (1 : Int)) (pt (a0.Kind == (1 : Int))) <| ac_on (a0.Kind == (1 : Int)) (pt (a0.Kind == (1 : Int))) <| ac_y (pt (a0.Kind == (1 : Int))) <| ac_on b14 (pt b14) <| ac_on b14 (pt b14) <| ac_y (pt b14) <| ac_nil) ?_
          have h := sm h; subst h
          refine StopP.out .ret (by kernel_rfl) ?_
          exact ret_box (.inr rfl) [.keep [6] []] (by kernel_rfl) (by kernel_rfl) [] (by kernel_rfl)
        · have h := cd_f hb13 h
          let b16 : Bool := (bif (a0.Kind == (2 : Int)) then (a0.Ins.Op == (9 : Int)) else false)
          let b17 : Bool := (a0.Ins.Op == (10 : Int))
          let b18 : Bool := (bif (a0.Kind == (3 : Int)) then b17 else false)
          let b19 : Bool := (bif b16 then true else b18)
          let b20 : Bool := (bif b19 then (decide (a0.To < a2)) else false)
          let b21 : Bool := (decide (a0.Add ≥ (-1048576 : Int)))
          let b22 : Bool := (bif b20 then b21 else false)
          let b23 : Bool := (decide (a0.Add ≤ (1048576 : Int)))
          let b24 : Bool := (bif b22 then b23 else false)
          have q0 := ac_on (!b16) (fun h => ptg (a0.Kind == (3 : Int)) h) <| ac_y (pn b16) <| ac_on b19 (pt b19) <| ac_on b19 (pt b19) <| ac_on b19 (pt b19) <| ac_y (pt b19) <| ac_on b20 (pt b20) <| ac_on b20 (pt b20) <| ac_y (pt b20) <| ac_on b22 (pt b22) <| ac_on b22 (pt b22) <| ac_y (pt b22) <| ac_nil
          refine StopP.advd tbOk [] 100000 1000 (by kernel_rfl) (by kernel_rfl) (ac_on (a0.Kind == (2 : Int)) (pt (a0.Kind == (2 : Int))) <| ac_on (a0.Kind == (2 : Int)) (pt (a0.Kind == (2 : Int))) <| ac_on (a0.Kind == (2 : Int)) (pt (a0.Kind == (2 : Int))) <| ac_y (pt (a0.Kind == (2 : Int))) <| ac_on (!b16) (pt (!b16)) <| ac_on (!b16) (pt (!b16)) <| ac_on (!b16) (pt (!b16)) <| ac_on ((!b16) && (a0.Kind == (3 : Int))) (pt ((!b16) && (a0.Kind == (3 : Int)))) <| ac_on ((!b16) && (a0.Kind == (3 : Int))) (pt ((!b16) && (a0.Kind == (3 : Int)))) <| ac_on ((!b16) && (a0.Kind == (3 : Int))) (pt ((!b16) && (a0.Kind == (3 : Int)))) <| ac_on (!b16) (pt (!b16)) <| q0) ?_
          have h := sm h; subst h
          refine StopP.out .ret (by kernel_rfl) ?_
          exact ret_box (.inr rfl) [.keep [6] []] (by kernel_rfl) (by kernel_rfl) [] (by kernel_rfl)

def g31_ref16_term (K : Nat) (a0 : Term) (a1 : Int) (a2 : Int) : Option (Bool) :=
  let b1 : Bool := (bif (a0.Op == (0 : Int)) then (a0.A == (0 : Int)) else false)
  let b2 : Bool := (bif b1 then (a0.B == (0 : Int)) else false)
  let b3 : Bool := (bif b2 then (a0.Else == (0 : Int)) else false)
  let b4 : Bool := (bif (a0.Kind == (1 : Int)) then true else (a0.Kind == (4 : Int)))
  bif b4 then
    bif (a0.Kind == (4 : Int)) then
      let b7 : Bool := ((a0.Ins.Op == (0 : Int)) && ((a0.Ins.A == (0 : Int)) && ((a0.Ins.B == (0 : Int)) && ((a0.Ins.C == (0 : Int)) && ((a0.Ins.Imm == (0 : Int)) && true)))))
      let b8 : Bool := (bif b3 then b7 else false)
      let b9 : Bool := (decide (a0.To ≥ (0 : Int)))
      let b10 : Bool := (bif b8 then b9 else false)
      let b11 : Bool := (bif b10 then (decide (a0.To < a2)) else false)
      some b11
    else
      let b12 : Bool := ((a0.Ins.Op == (0 : Int)) && ((a0.Ins.A == (0 : Int)) && ((a0.Ins.B == (0 : Int)) && ((a0.Ins.C == (0 : Int)) && ((a0.Ins.Imm == (0 : Int)) && true)))))
      let b13 : Bool := (bif b3 then b12 else false)
      let b14 : Bool := (decide (a0.To ≥ (0 : Int)))
      let b15 : Bool := (bif b13 then b14 else false)
      let b16 : Bool := (bif b15 then (decide (a0.To < a1)) else false)
      some b16
  else
    bif (a0.Kind == (3 : Int)) then
      let b18 : Bool := (bif b3 then (a0.To == (0 : Int)) else false)
      (bif b18 then g41_ref02_Right K a0.Ins else some false).bind fun r19 =>
      let b20 : Bool := (bif b18 then r19 else false)
      (bif b20 then g39_ref03_Kind K a0.Ins else some 0).bind fun r21 =>
      let b22 : Bool := (bif b20 then (r21 == (5 : Int)) else false)
      some b22
    else
      let b23 : Bool := ((a0.Ins.Op == (0 : Int)) && ((a0.Ins.A == (0 : Int)) && ((a0.Ins.B == (0 : Int)) && ((a0.Ins.C == (0 : Int)) && ((a0.Ins.Imm == (0 : Int)) && true)))))
      let b24 : Bool := (bif (a0.Kind == (2 : Int)) then b23 else false)
      let b25 : Bool := (decide (a0.Op ≥ (15 : Int)))
      let b26 : Bool := (bif b24 then b25 else false)
      let b27 : Bool := (decide (a0.Op ≤ (18 : Int)))
      let b28 : Bool := (bif b26 then b27 else false)
      let b29 : Bool := (decide (a0.A ≥ (0 : Int)))
      let b30 : Bool := (bif b28 then b29 else false)
      let b31 : Bool := (decide (a0.A < (16 : Int)))
      let b32 : Bool := (bif b30 then b31 else false)
      let b33 : Bool := (decide (a0.B ≥ (0 : Int)))
      let b34 : Bool := (bif b32 then b33 else false)
      let b35 : Bool := (decide (a0.B < (16 : Int)))
      let b36 : Bool := (bif b34 then b35 else false)
      let b37 : Bool := (decide (a0.To ≥ (0 : Int)))
      let b38 : Bool := (bif b36 then b37 else false)
      let b39 : Bool := (bif b38 then (decide (a0.To < a1)) else false)
      let b40 : Bool := (decide (a0.Else ≥ (0 : Int)))
      let b41 : Bool := (bif b39 then b40 else false)
      let b42 : Bool := (bif b41 then (decide (a0.Else < a1)) else false)
      some b42

theorem g31_ref16_term_ok (K : Nat) (a0 : Term) (a1 : Int) (a2 : Int) (r : Bool) (h : g31_ref16_term K a0 a1 a2 = some r) : AC Try.prog 31 [] [.v true [ci a0.Kind, ci a0.Op, ci a0.A, ci a0.B, ci a0.To, ci a0.Else, ci a0.Ins.Op, ci a0.Ins.A, ci a0.Ins.B, ci a0.Ins.C, ci a0.Ins.Imm], v1 (ci a1), v1 (ci a2)] [] (v1 (cb r)) := by
  refine AC.intro (fn := Try.f31) tbOk (by kernel_rfl) rfl (by kernel_rfl) (fun W A Kf => ?_)
  let b1 : Bool := (bif (a0.Op == (0 : Int)) then (a0.A == (0 : Int)) else false)
  let b2 : Bool := (bif b1 then (a0.B == (0 : Int)) else false)
  let b3 : Bool := (bif b2 then (a0.Else == (0 : Int)) else false)
  let b4 : Bool := (bif (a0.Kind == (1 : Int)) then true else (a0.Kind == (4 : Int)))
  refine StopP.advd tbOk [] 100000 1000 (by kernel_rfl) (by kernel_rfl) (ac_on (a0.Op == (0 : Int)) (pt (a0.Op == (0 : Int))) <| ac_on (a0.Op == (0 : Int)) (pt (a0.Op == (0 : Int))) <| ac_y (pt (a0.Op == (0 : Int))) <| ac_on b1 (pt b1) <| ac_on b1 (pt b1) <| ac_y (pt b1) <| ac_on b2 (pt b2) <| ac_on b2 (pt b2) <| ac_y (pt b2) <| ac_on (!(a0.Kind == (1 : Int))) (pt (!(a0.Kind == (1 : Int)))) <| ac_on (!(a0.Kind == (1 : Int))) (pt (!(a0.Kind == (1 : Int)))) <| ac_y (pn (a0.Kind == (1 : Int))) <| ac_nil) ?_
  refine StopP.cond (b := b4) (by kernel_rfl) (fun hb5 => ?_) (fun hb5 => ?_)
  · have h := cd_t hb5 h
    refine StopP.advd tbOk [] 100000 1000 (by kernel_rfl) (by kernel_rfl) (ac_nil) ?_
    refine StopP.cond (b := (a0.Kind == (4 : Int))) (by kernel_rfl) (fun hb6 => ?_) (fun hb6 => ?_)
    · have h := cd_t hb6 h
      let b7 : Bool := ((a0.Ins.Op == (0 : Int)) && ((a0.Ins.A == (0 : Int)) && ((a0.Ins.B == (0 : Int)) && ((a0.Ins.C == (0 : Int)) && ((a0.Ins.Imm == (0 : Int)) && true)))))
      let b8 : Bool := (bif b3 then b7 else false)
      let b9 : Bool := (decide (a0.To ≥ (0 : Int)))
      let b10 : Bool := (bif b8 then b9 else false)
      let b11 : Bool := (bif b10 then (decide (a0.To < a2)) else false)
      refine StopP.advd tbOk [] 100000 1000 (by kernel_rfl) (by kernel_rfl) (ac_on b3 (pt b3) <| ac_on b3 (pt b3) <| ac_on b3 (pt b3) <| ac_y (pt b3) <| ac_on b8 (pt b8) <| ac_on b8 (pt b8) <| ac_y (pt b8) <| ac_on b10 (pt b10) <| ac_on b10 (pt b10) <| ac_on b10 (pt b10) <| ac_y (pt b10) <| ac_nil) ?_
      have h := sm h; subst h
      refine StopP.out .ret (by kernel_rfl) ?_
      exact ret_box (.inr rfl) [.keep [6] []] (by kernel_rfl) (by kernel_rfl) [] (by kernel_rfl)
    · have h := cd_f hb6 h
      let b12 : Bool := ((a0.Ins.Op == (0 : Int)) && ((a0.Ins.A == (0 : Int)) && ((a0.Ins.B == (0 : Int)) && ((a0.Ins.C == (0 : Int)) && ((a0.Ins.Imm == (0 : Int)) && true)))))
      let b13 : Bool := (bif b3 then b12 else false)
      let b14 : Bool := (decide (a0.To ≥ (0 : Int)))
      let b15 : Bool := (bif b13 then b14 else false)
      let b16 : Bool := (bif b15 then (decide (a0.To < a1)) else false)
      refine StopP.advd tbOk [] 100000 1000 (by kernel_rfl) (by kernel_rfl) (ac_on b3 (pt b3) <| ac_on b3 (pt b3) <| ac_on b3 (pt b3) <| ac_y (pt b3) <| ac_on b13 (pt b13) <| ac_on b13 (pt b13) <| ac_y (pt b13) <| ac_on b15 (pt b15) <| ac_on b15 (pt b15) <| ac_on b15 (pt b15) <| ac_y (pt b15) <| ac_nil) ?_
      have h := sm h; subst h
      refine StopP.out .ret (by kernel_rfl) ?_
      exact ret_box (.inr rfl) [.keep [6] []] (by kernel_rfl) (by kernel_rfl) [] (by kernel_rfl)
  · have h := cd_f hb5 h
    refine StopP.advd tbOk [] 100000 1000 (by kernel_rfl) (by kernel_rfl) (ac_nil) ?_
    refine StopP.cond (b := (a0.Kind == (3 : Int))) (by kernel_rfl) (fun hb17 => ?_) (fun hb17 => ?_)
    · have h := cd_t hb17 h
      let b18 : Bool := (bif b3 then (a0.To == (0 : Int)) else false)
      obtain ⟨r19, hc19, h⟩ := bd_some h
      let b20 : Bool := (bif b18 then r19 else false)
      obtain ⟨r21, hc21, h⟩ := bd_some h
      let b22 : Bool := (bif b20 then (r21 == (5 : Int)) else false)
      refine StopP.advd tbOk [(8, [(9, .call [] [] (v1 (cb r19))), (14, .call [] [] (v1 (ci r21)))])] 100000 1000 (by kernel_rfl) (by kernel_rfl) (ac_on b3 (pt b3) <| ac_on b3 (pt b3) <| ac_y (pt b3) <| ac_on b18 (pt b18) <| ac_on b18 (pt b18) <| ac_on b18 (fun h => g41_ref02_Right_ok K a0.Ins r19 (cd_t h hc19)) <| ac_y (pt b18) <| ac_on b20 (pt b20) <| ac_on b20 (pt b20) <| ac_on b20 (fun h => g39_ref03_Kind_ok K a0.Ins r21 (cd_t h hc21)) <| ac_on b20 (pt b20) <| ac_y (pt b20) <| ac_nil) ?_
      have h := sm h; subst h
      refine StopP.out .ret (by kernel_rfl) ?_
      exact ret_box (.inr rfl) [.keep [6] []] (by kernel_rfl) (by kernel_rfl) [] (by kernel_rfl)
    · have h := cd_f hb17 h
      let b23 : Bool := ((a0.Ins.Op == (0 : Int)) && ((a0.Ins.A == (0 : Int)) && ((a0.Ins.B == (0 : Int)) && ((a0.Ins.C == (0 : Int)) && ((a0.Ins.Imm == (0 : Int)) && true)))))
      let b24 : Bool := (bif (a0.Kind == (2 : Int)) then b23 else false)
      let b25 : Bool := (decide (a0.Op ≥ (15 : Int)))
      let b26 : Bool := (bif b24 then b25 else false)
      let b27 : Bool := (decide (a0.Op ≤ (18 : Int)))
      let b28 : Bool := (bif b26 then b27 else false)
      let b29 : Bool := (decide (a0.A ≥ (0 : Int)))
      let b30 : Bool := (bif b28 then b29 else false)
      let b31 : Bool := (decide (a0.A < (16 : Int)))
      let b32 : Bool := (bif b30 then b31 else false)
      let b33 : Bool := (decide (a0.B ≥ (0 : Int)))
      let b34 : Bool := (bif b32 then b33 else false)
      let b35 : Bool := (decide (a0.B < (16 : Int)))
      let b36 : Bool := (bif b34 then b35 else false)
      let b37 : Bool := (decide (a0.To ≥ (0 : Int)))
      let b38 : Bool := (bif b36 then b37 else false)
      let b39 : Bool := (bif b38 then (decide (a0.To < a1)) else false)
      let b40 : Bool := (decide (a0.Else ≥ (0 : Int)))
      let b41 : Bool := (bif b39 then b40 else false)
      let b42 : Bool := (bif b41 then (decide (a0.Else < a1)) else false)
      have q0 := ac_y (pt b36) <| ac_on b38 (pt b38) <| ac_on b38 (pt b38) <| ac_on b38 (pt b38) <| ac_y (pt b38) <| ac_on b39 (pt b39) <| ac_on b39 (pt b39) <| ac_y (pt b39) <| ac_on b41 (pt b41) <| ac_on b41 (pt b41) <| ac_on b41 (pt b41) <| ac_y (pt b41) <| ac_nil
      have q1 := ac_y (pt b28) <| ac_on b30 (pt b30) <| ac_on b30 (pt b30) <| ac_y (pt b30) <| ac_on b32 (pt b32) <| ac_on b32 (pt b32) <| ac_y (pt b32) <| ac_on b34 (pt b34) <| ac_on b34 (pt b34) <| ac_y (pt b34) <| ac_on b36 (pt b36) <| ac_on b36 (pt b36) <| q0
      refine StopP.advd tbOk [] 100000 1000 (by kernel_rfl) (by kernel_rfl) (ac_on (a0.Kind == (2 : Int)) (pt (a0.Kind == (2 : Int))) <| ac_on (a0.Kind == (2 : Int)) (pt (a0.Kind == (2 : Int))) <| ac_on (a0.Kind == (2 : Int)) (pt (a0.Kind == (2 : Int))) <| ac_y (pt (a0.Kind == (2 : Int))) <| ac_on b24 (pt b24) <| ac_on b24 (pt b24) <| ac_y (pt b24) <| ac_on b26 (pt b26) <| ac_on b26 (pt b26) <| ac_y (pt b26) <| ac_on b28 (pt b28) <| ac_on b28 (pt b28) <| q1) ?_
      have h := sm h; subst h
      refine StopP.out .ret (by kernel_rfl) ?_
      exact ret_box (.inr rfl) [.keep [6] []] (by kernel_rfl) (by kernel_rfl) [] (by kernel_rfl)

def g19_ref16_Right.l1 (K : Nat) (a0 : Graph) (a1 : Int) (a2 : Int) (x29 : Int) : Nat → Int → Option ((Unit) ⊕ (Unit))
  | 0, _ => none
  | k + 1, x67 =>
    gd (0 ≤ x29 ∧ x29 < (a0.Blocks.length : Int)) <|
    let b76 : Bool := (decide (x67 < (((a0.Blocks.getD x29.toNat zBlock).Ops).length : Int)))
    bif b76 then
      gd (0 ≤ x29 ∧ x29 < (a0.Blocks.length : Int)) <|
      gd (0 ≤ x67 ∧ x67 < (((a0.Blocks.getD x29.toNat zBlock).Ops).length : Int)) <|
      (g30_ref16_op K (((a0.Blocks.getD x29.toNat zBlock).Ops).getD x67.toNat zOp) a1 a2).bind fun r80 =>
      bif (!r80) then
        some (.inl ())
      else
        g19_ref16_Right.l1 K a0 a1 a2 x29 k (IntKind.i64.wrap (x67 + (1 : Int)))
    else
      some (.inr ())

def g19_ref16_Right.h1 (a0 : Graph) (a1 : Int) (a2 : Int) (x29 : Int) (x67 : Int) : Abs.St := ⟨[(1, .yes, v1 (ci a1)), (2, .yes, v1 (ci a2)), (3, .yes, v1 (.ptr 3 0 0)), (7, .yes, v1 (ci x29)), (8, .yes, v1 (ci x67))], [(3, .box 24 [cs a0.Name, cb a0.Keep, cb a0.Leaf, .t (.ro 12 cBlock zBlock a0.Blocks)])], 56⟩

def g19_ref16_Right.j1_0 (a0 : Graph) (a1 : Int) (a2 : Int) (x29 : Int) (o : Unit) : Abs.St := ⟨[(6, .yes, v1 (cb false))], [], 56⟩

def g19_ref16_Right.j1_1 (a0 : Graph) (a1 : Int) (a2 : Int) (x29 : Int) (o : Unit) : Abs.St := ⟨[(1, .yes, v1 (ci a1)), (2, .yes, v1 (ci a2)), (3, .yes, v1 (.ptr 3 0 0)), (7, .yes, v1 (ci x29))], [(3, .box 24 [cs a0.Name, cb a0.Keep, cb a0.Leaf, .t (.ro 12 cBlock zBlock a0.Blocks)])], 56⟩

theorem g19_ref16_Right.l1_ok {W : World} {A Kf : Nat → Prop} (K : Nat) (a0 : Graph) (a1 : Int) (a2 : Int) (x29 : Int) : ∀ (k : Nat) (x67 : Int) (o : (Unit) ⊕ (Unit)), g19_ref16_Right.l1 K a0 a1 a2 x29 k x67 = some o → WPR Try.prog W A Kf (kid [true, false, true, false, false, true, false, false, false, true, false, false] (bodyAt Try.f19)) (Out2 o .ret (g19_ref16_Right.j1_0 a0 a1 a2 x29) (.exit 2) (g19_ref16_Right.j1_1 a0 a1 a2 x29)) k (g19_ref16_Right.h1 a0 a1 a2 x29 x67)
  | 0, x67, o, h => by cases h
  | k + 1, x67, o, h => by
    refine WPR.round ?_
    obtain ⟨hg75, h⟩ := gd_some h
    let b76 : Bool := (decide (x67 < (((a0.Blocks.getD x29.toNat zBlock).Ops).length : Int)))
    refine StopP.advd tbOk [] 100000 1000 (by kernel_rfl) (by kernel_rfl) (ac_y hg75 <| ac_nil) ?_
    refine StopP.cond (b := b76) (by kernel_rfl) (fun hb77 => ?_) (fun hb77 => ?_)
    · have h := cd_t hb77 h
      obtain ⟨hg78, h⟩ := gd_some h
      obtain ⟨hg79, h⟩ := gd_some h
      obtain ⟨r80, hc80, h⟩ := bd_some h
      refine StopP.advd tbOk [(7, [(11, .call [] [] (v1 (cb r80)))])] 100000 1000 (by kernel_rfl) (by kernel_rfl) (ac_y hg78 <| ac_y hg79 <| ac_y (g30_ref16_op_ok K (((a0.Blocks.getD x29.toNat zBlock).Ops).getD x67.toNat zOp) a1 a2 r80 hc80) <| ac_nil) ?_
      refine StopP.cond (b := (!r80)) (by kernel_rfl) (fun hb81 => ?_) (fun hb81 => ?_)
      · have h := cd_t hb81 h
        refine StopP.advd tbOk [] 100000 1000 (by kernel_rfl) (by kernel_rfl) (ac_nil) ?_
        have h := sm h; subst h
        exact StopP.out .ret (by kernel_rfl) ⟨rfl, [.keep [6] []], by kernel_rfl⟩
      · have h := cd_f hb81 h
        refine StopP.advd tbOk [] 100000 1000 (by kernel_rfl) (by kernel_rfl) (ac_nil) ?_
        refine StopP.out .normal (by kernel_rfl) ?_
        exact WPR.chg [.keep [1, 2, 3, 7, 8] [3]] (by kernel_rfl) (g19_ref16_Right.l1_ok K a0 a1 a2 x29 k (IntKind.i64.wrap (x67 + (1 : Int))) o h)
    · have h := cd_f hb77 h
      refine StopP.advd tbOk [] 100000 1000 (by kernel_rfl) (by kernel_rfl) (ac_nil) ?_
      have h := sm h; subst h
      exact StopP.out (.exit 2) (by kernel_rfl) ⟨rfl, [.keep [1, 2, 3, 7] [3]], by kernel_rfl⟩

def g19_ref16_Right.l0 (K : Nat) (a0 : Graph) (a1 : Int) (a2 : Int) : Nat → Int → Option ((Unit) ⊕ (Unit))
  | 0, _ => none
  | k + 1, x29 =>
    let b58 : Bool := (decide (x29 < (a0.Blocks.length : Int)))
    bif b58 then
      (g19_ref16_Right.l1 K a0 a1 a2 x29 K (0 : Int)).bind fun o82 =>
      match o82 with
      | .inl o82 =>
        some (.inl ())
      | .inr o82 =>
        gd (0 ≤ x29 ∧ x29 < (a0.Blocks.length : Int)) <|
        (g31_ref16_term K ((a0.Blocks.getD x29.toNat zBlock).End) (a0.Blocks.length : Int) a1).bind fun r84 =>
        bif (!r84) then
          some (.inl ())
        else
          g19_ref16_Right.l0 K a0 a1 a2 k (IntKind.i64.wrap (x29 + (1 : Int)))
    else
      some (.inr ())

def g19_ref16_Right.h0 (a0 : Graph) (a1 : Int) (a2 : Int) (x29 : Int) : Abs.St := ⟨[(1, .yes, v1 (ci a1)), (2, .yes, v1 (ci a2)), (3, .yes, v1 (.ptr 3 0 0)), (7, .yes, v1 (ci x29))], [(3, .box 24 [cs a0.Name, cb a0.Keep, cb a0.Leaf, .t (.ro 12 cBlock zBlock a0.Blocks)])], 56⟩

def g19_ref16_Right.j0_0 (a0 : Graph) (a1 : Int) (a2 : Int) (o : Unit) : Abs.St := ⟨[(6, .yes, v1 (cb false))], [], 56⟩

def g19_ref16_Right.j0_1 (a0 : Graph) (a1 : Int) (a2 : Int) (o : Unit) : Abs.St := ⟨[(3, .yes, v1 (.ptr 3 0 0))], [(3, .box 24 [cs a0.Name, cb a0.Keep, cb a0.Leaf, .t (.ro 12 cBlock zBlock a0.Blocks)])], 56⟩

theorem g19_ref16_Right.l0_ok {W : World} {A Kf : Nat → Prop} (K : Nat) (a0 : Graph) (a1 : Int) (a2 : Int) : ∀ (k : Nat) (x29 : Int) (o : (Unit) ⊕ (Unit)), g19_ref16_Right.l0 K a0 a1 a2 k x29 = some o → WPR Try.prog W A Kf (kid [true, false, true, false, false] (bodyAt Try.f19)) (Out2 o .ret (g19_ref16_Right.j0_0 a0 a1 a2) (.exit 0) (g19_ref16_Right.j0_1 a0 a1 a2)) k (g19_ref16_Right.h0 a0 a1 a2 x29)
  | 0, x29, o, h => by cases h
  | k + 1, x29, o, h => by
    refine WPR.round ?_
    let b58 : Bool := (decide (x29 < (a0.Blocks.length : Int)))
    refine StopP.advd tbOk [] 100000 1000 (by kernel_rfl) (by kernel_rfl) (ac_nil) ?_
    refine StopP.cond (b := b58) (by kernel_rfl) (fun hb59 => ?_) (fun hb59 => ?_)
    · have h := cd_t hb59 h
      refine StopP.advd tbOk [] 100000 1000 (by kernel_rfl) (by kernel_rfl) (ac_nil) ?_
      obtain ⟨o82, ho82, h⟩ := bd_some h
      cases o82 with
      | inl o82 =>
        refine StopP.lp (by kernel_rfl) [.keep [1, 2, 3, 7, 8] [3]] (s := g19_ref16_Right.h1 a0 a1 a2 x29 (0 : Int)) (by kernel_rfl) (c := (kid [true, false, true, false, false, true, false, false, false, true, false, false] (bodyAt Try.f19))) (by kernel_rfl) (e := .ret) (J := g19_ref16_Right.j1_0 a0 a1 a2 x29 o82) K (g19_ref16_Right.l1_ok K a0 a1 a2 x29 K (0 : Int) (.inl o82) ho82) ?_
        have h := sm h; subst h
        exact StopP.out .ret (by kernel_rfl) ⟨rfl, [.keep [6] []], by kernel_rfl⟩
      | inr o82 =>
        refine StopP.lp (by kernel_rfl) [.keep [1, 2, 3, 7, 8] [3]] (s := g19_ref16_Right.h1 a0 a1 a2 x29 (0 : Int)) (by kernel_rfl) (c := (kid [true, false, true, false, false, true, false, false, false, true, false, false] (bodyAt Try.f19))) (by kernel_rfl) (e := (.exit 2)) (J := g19_ref16_Right.j1_1 a0 a1 a2 x29 o82) K (g19_ref16_Right.l1_ok K a0 a1 a2 x29 K (0 : Int) (.inr o82) ho82) ?_
        obtain ⟨hg83, h⟩ := gd_some h
        obtain ⟨r84, hc84, h⟩ := bd_some h
        refine StopP.advd tbOk [(9, [(10, .call [] [] (v1 (cb r84)))])] 100000 1000 (by kernel_rfl) (by kernel_rfl) (ac_y hg83 <| ac_y (g31_ref16_term_ok K ((a0.Blocks.getD x29.toNat zBlock).End) (a0.Blocks.length : Int) a1 r84 hc84) <| ac_nil) ?_
        refine StopP.cond (b := (!r84)) (by kernel_rfl) (fun hb85 => ?_) (fun hb85 => ?_)
        · have h := cd_t hb85 h
          refine StopP.advd tbOk [] 100000 1000 (by kernel_rfl) (by kernel_rfl) (ac_nil) ?_
          have h := sm h; subst h
          exact StopP.out .ret (by kernel_rfl) ⟨rfl, [.keep [6] []], by kernel_rfl⟩
        · have h := cd_f hb85 h
          refine StopP.advd tbOk [] 100000 1000 (by kernel_rfl) (by kernel_rfl) (ac_nil) ?_
          refine StopP.out .normal (by kernel_rfl) ?_
          exact WPR.chg [.keep [1, 2, 3, 7] [3]] (by kernel_rfl) (g19_ref16_Right.l0_ok K a0 a1 a2 k (IntKind.i64.wrap (x29 + (1 : Int))) o h)
    · have h := cd_f hb59 h
      refine StopP.advd tbOk [] 100000 1000 (by kernel_rfl) (by kernel_rfl) (ac_nil) ?_
      have h := sm h; subst h
      exact StopP.out (.exit 0) (by kernel_rfl) ⟨rfl, [.keep [3] [3]], by kernel_rfl⟩

def g19_ref16_Right (K : Nat) (a0 : Graph) (a1 : Int) (a2 : Int) : Option (Bool) :=
  (g19_ref16_Right.l0 K a0 a1 a2 K (0 : Int)).bind fun o86 =>
  match o86 with
  | .inl o86 =>
    some false
  | .inr o86 =>
    let b87 : Bool := (decide ((a0.Blocks.length : Int) > (0 : Int)))
    some b87

theorem g19_ref16_Right_ok (K : Nat) (a0 : Graph) (a1 : Int) (a2 : Int) (r : Bool) (h : g19_ref16_Right K a0 a1 a2 = some r) : AC Try.prog 19 [] [.v true [cs a0.Name, cb a0.Keep, cb a0.Leaf, .t (.ro 12 cBlock zBlock a0.Blocks)], v1 (ci a1), v1 (ci a2)] [] (v1 (cb r)) := by
  refine AC.intro (fn := Try.f19) tbOk (by kernel_rfl) rfl (by kernel_rfl) (fun W A Kf => ?_)
  refine StopP.advd tbOk [] 100000 1000 (by kernel_rfl) (by kernel_rfl) (ac_nil) ?_
  obtain ⟨o86, ho86, h⟩ := bd_some h
  cases o86 with
  | inl o86 =>
    refine StopP.lp (by kernel_rfl) [.keep [1, 2, 3, 7] [3]] (s := g19_ref16_Right.h0 a0 a1 a2 (0 : Int)) (by kernel_rfl) (c := (kid [true, false, true, false, false] (bodyAt Try.f19))) (by kernel_rfl) (e := .ret) (J := g19_ref16_Right.j0_0 a0 a1 a2 o86) K (g19_ref16_Right.l0_ok K a0 a1 a2 K (0 : Int) (.inl o86) ho86) ?_
    have h := sm h; subst h
    refine StopP.out .ret (by kernel_rfl) ?_
    exact ret_box (.inr rfl) [.keep [6] []] (by kernel_rfl) (by kernel_rfl) [] (by kernel_rfl)
  | inr o86 =>
    refine StopP.lp (by kernel_rfl) [.keep [1, 2, 3, 7] [3]] (s := g19_ref16_Right.h0 a0 a1 a2 (0 : Int)) (by kernel_rfl) (c := (kid [true, false, true, false, false] (bodyAt Try.f19))) (by kernel_rfl) (e := (.exit 0)) (J := g19_ref16_Right.j0_1 a0 a1 a2 o86) K (g19_ref16_Right.l0_ok K a0 a1 a2 K (0 : Int) (.inr o86) ho86) ?_
    let b87 : Bool := (decide ((a0.Blocks.length : Int) > (0 : Int)))
    refine StopP.advd tbOk [] 100000 1000 (by kernel_rfl) (by kernel_rfl) (ac_nil) ?_
    have h := sm h; subst h
    refine StopP.out .ret (by kernel_rfl) ?_
    exact ret_box (.inr rfl) [.keep [6] []] (by kernel_rfl) (by kernel_rfl) [] (by kernel_rfl)

def g22_ref16_Few.l0 (K : Nat) (a0 : Graph) : Nat → Int → Option ((Unit) ⊕ (Unit))
  | 0, _ => none
  | k + 1, x8 =>
    let b16 : Bool := (decide (x8 < (a0.Blocks.length : Int)))
    let b17 : Bool := (decide (x8 < (300 : Int)))
    let b18 : Bool := (bif b16 then b17 else false)
    bif b18 then
      gd (0 ≤ x8 ∧ x8 < (a0.Blocks.length : Int)) <|
      let b21 : Bool := (decide ((((a0.Blocks.getD x8.toNat zBlock).Ops).length : Int) > (300 : Int)))
      bif b21 then
        some (.inl ())
      else
        g22_ref16_Few.l0 K a0 k (IntKind.i64.wrap (x8 + (1 : Int)))
    else
      some (.inr ())

def g22_ref16_Few.h0 (a0 : Graph) (x8 : Int) : Abs.St := ⟨[(1, .yes, v1 (.ptr 1 0 0)), (3, .yes, v1 (ci x8))], [(1, .box 24 [cs a0.Name, cb a0.Keep, cb a0.Leaf, .t (.ro 12 cBlock zBlock a0.Blocks)])], 27⟩

def g22_ref16_Few.j0_0 (a0 : Graph) (o : Unit) : Abs.St := ⟨[(2, .yes, v1 (cb false))], [], 27⟩

def g22_ref16_Few.j0_1 (a0 : Graph) (o : Unit) : Abs.St := ⟨[(1, .yes, v1 (.ptr 1 0 0))], [(1, .box 24 [cs a0.Name, cb a0.Keep, cb a0.Leaf, .t (.ro 12 cBlock zBlock a0.Blocks)])], 27⟩

theorem g22_ref16_Few.l0_ok {W : World} {A Kf : Nat → Prop} (K : Nat) (a0 : Graph) : ∀ (k : Nat) (x8 : Int) (o : (Unit) ⊕ (Unit)), g22_ref16_Few.l0 K a0 k x8 = some o → WPR Try.prog W A Kf (kid [true, false, true, false, false] (bodyAt Try.f22)) (Out2 o .ret (g22_ref16_Few.j0_0 a0) (.exit 0) (g22_ref16_Few.j0_1 a0)) k (g22_ref16_Few.h0 a0 x8)
  | 0, x8, o, h => by cases h
  | k + 1, x8, o, h => by
    refine WPR.round ?_
    let b16 : Bool := (decide (x8 < (a0.Blocks.length : Int)))
    let b17 : Bool := (decide (x8 < (300 : Int)))
    let b18 : Bool := (bif b16 then b17 else false)
    refine StopP.advd tbOk [] 100000 1000 (by kernel_rfl) (by kernel_rfl) (ac_on b16 (pt b16) <| ac_y (pt b16) <| ac_nil) ?_
    refine StopP.cond (b := b18) (by kernel_rfl) (fun hb19 => ?_) (fun hb19 => ?_)
    · have h := cd_t hb19 h
      obtain ⟨hg20, h⟩ := gd_some h
      let b21 : Bool := (decide ((((a0.Blocks.getD x8.toNat zBlock).Ops).length : Int) > (300 : Int)))
      refine StopP.advd tbOk [] 100000 1000 (by kernel_rfl) (by kernel_rfl) (ac_y hg20 <| ac_nil) ?_
      refine StopP.cond (b := b21) (by kernel_rfl) (fun hb22 => ?_) (fun hb22 => ?_)
      · have h := cd_t hb22 h
        refine StopP.advd tbOk [] 100000 1000 (by kernel_rfl) (by kernel_rfl) (ac_nil) ?_
        have h := sm h; subst h
        exact StopP.out .ret (by kernel_rfl) ⟨rfl, [.keep [2] []], by kernel_rfl⟩
      · have h := cd_f hb22 h
        refine StopP.advd tbOk [] 100000 1000 (by kernel_rfl) (by kernel_rfl) (ac_nil) ?_
        refine StopP.out .normal (by kernel_rfl) ?_
        exact WPR.chg [.keep [1, 3] [1]] (by kernel_rfl) (g22_ref16_Few.l0_ok K a0 k (IntKind.i64.wrap (x8 + (1 : Int))) o h)
    · have h := cd_f hb19 h
      refine StopP.advd tbOk [] 100000 1000 (by kernel_rfl) (by kernel_rfl) (ac_nil) ?_
      have h := sm h; subst h
      exact StopP.out (.exit 0) (by kernel_rfl) ⟨rfl, [.keep [1] [1]], by kernel_rfl⟩

def g22_ref16_Few (K : Nat) (a0 : Graph) : Option (Bool) :=
  (g22_ref16_Few.l0 K a0 K (0 : Int)).bind fun o23 =>
  match o23 with
  | .inl o23 =>
    some false
  | .inr o23 =>
    let b24 : Bool := (decide ((a0.Blocks.length : Int) ≤ (200 : Int)))
    some b24

theorem g22_ref16_Few_ok (K : Nat) (a0 : Graph) (r : Bool) (h : g22_ref16_Few K a0 = some r) : AC Try.prog 22 [] [.v true [cs a0.Name, cb a0.Keep, cb a0.Leaf, .t (.ro 12 cBlock zBlock a0.Blocks)]] [] (v1 (cb r)) := by
  refine AC.intro (fn := Try.f22) tbOk (by kernel_rfl) rfl (by kernel_rfl) (fun W A Kf => ?_)
  refine StopP.advd tbOk [] 100000 1000 (by kernel_rfl) (by kernel_rfl) (ac_nil) ?_
  obtain ⟨o23, ho23, h⟩ := bd_some h
  cases o23 with
  | inl o23 =>
    refine StopP.lp (by kernel_rfl) [.keep [1, 3] [1]] (s := g22_ref16_Few.h0 a0 (0 : Int)) (by kernel_rfl) (c := (kid [true, false, true, false, false] (bodyAt Try.f22))) (by kernel_rfl) (e := .ret) (J := g22_ref16_Few.j0_0 a0 o23) K (g22_ref16_Few.l0_ok K a0 K (0 : Int) (.inl o23) ho23) ?_
    have h := sm h; subst h
    refine StopP.out .ret (by kernel_rfl) ?_
    exact ret_box (.inr rfl) [.keep [2] []] (by kernel_rfl) (by kernel_rfl) [] (by kernel_rfl)
  | inr o23 =>
    refine StopP.lp (by kernel_rfl) [.keep [1, 3] [1]] (s := g22_ref16_Few.h0 a0 (0 : Int)) (by kernel_rfl) (c := (kid [true, false, true, false, false] (bodyAt Try.f22))) (by kernel_rfl) (e := (.exit 0)) (J := g22_ref16_Few.j0_1 a0 o23) K (g22_ref16_Few.l0_ok K a0 K (0 : Int) (.inr o23) ho23) ?_
    let b24 : Bool := (decide ((a0.Blocks.length : Int) ≤ (200 : Int)))
    refine StopP.advd tbOk [] 100000 1000 (by kernel_rfl) (by kernel_rfl) (ac_nil) ?_
    have h := sm h; subst h
    refine StopP.out .ret (by kernel_rfl) ?_
    exact ret_box (.inr rfl) [.keep [2] []] (by kernel_rfl) (by kernel_rfl) [] (by kernel_rfl)

def g20_ref22_Ops.l0 (K : Nat) (a0 : Graph) : Nat → Int → Int → Option (Int)
  | 0, _, _ => none
  | k + 1, x5, x6 =>
    let b11 : Bool := (decide (x6 < (a0.Blocks.length : Int)))
    bif b11 then
      gd (0 ≤ x6 ∧ x6 < (a0.Blocks.length : Int)) <|
      let i14 : Int := (IntKind.i64.wrap (x5 + (((a0.Blocks.getD x6.toNat zBlock).Ops).length : Int)))
      g20_ref22_Ops.l0 K a0 k i14 (IntKind.i64.wrap (x6 + (1 : Int)))
    else
      some x5

def g20_ref22_Ops.h0 (a0 : Graph) (x5 : Int) (x6 : Int) : Abs.St := ⟨[(1, .yes, v1 (.ptr 1 0 0)), (3, .yes, v1 (ci x5)), (4, .yes, v1 (ci x6))], [(1, .box 24 [cs a0.Name, cb a0.Keep, cb a0.Leaf, .t (.ro 12 cBlock zBlock a0.Blocks)])], 22⟩

def g20_ref22_Ops.j0_0 (a0 : Graph) (o : Int) : Abs.St := ⟨[(3, .yes, v1 (ci o))], [], 22⟩

theorem g20_ref22_Ops.l0_ok {W : World} {A Kf : Nat → Prop} (K : Nat) (a0 : Graph) : ∀ (k : Nat) (x5 : Int) (x6 : Int) (o : Int), g20_ref22_Ops.l0 K a0 k x5 x6 = some o → WPR Try.prog W A Kf (kid [true, true, false, true, false, false] (bodyAt Try.f20)) (Out (.exit 0) (g20_ref22_Ops.j0_0 a0 o)) k (g20_ref22_Ops.h0 a0 x5 x6)
  | 0, x5, x6, o, h => by cases h
  | k + 1, x5, x6, o, h => by
    refine WPR.round ?_
    let b11 : Bool := (decide (x6 < (a0.Blocks.length : Int)))
    refine StopP.advd tbOk [] 100000 1000 (by kernel_rfl) (by kernel_rfl) (ac_nil) ?_
    refine StopP.cond (b := b11) (by kernel_rfl) (fun hb12 => ?_) (fun hb12 => ?_)
    · have h := cd_t hb12 h
      obtain ⟨hg13, h⟩ := gd_some h
      let i14 : Int := (IntKind.i64.wrap (x5 + (((a0.Blocks.getD x6.toNat zBlock).Ops).length : Int)))
      refine StopP.advd tbOk [] 100000 1000 (by kernel_rfl) (by kernel_rfl) (ac_y hg13 <| ac_nil) ?_
      refine StopP.out .normal (by kernel_rfl) ?_
      exact WPR.chg [.keep [1, 3, 4] [1]] (by kernel_rfl) (g20_ref22_Ops.l0_ok K a0 k i14 (IntKind.i64.wrap (x6 + (1 : Int))) o h)
    · have h := cd_f hb12 h
      refine StopP.advd tbOk [] 100000 1000 (by kernel_rfl) (by kernel_rfl) (ac_nil) ?_
      have h := sm h; subst h
      exact StopP.out (.exit 0) (by kernel_rfl) ⟨rfl, [.keep [3] []], by kernel_rfl⟩

def g20_ref22_Ops (K : Nat) (a0 : Graph) : Option (Int) :=
  (g20_ref22_Ops.l0 K a0 K (0 : Int) (0 : Int)).bind fun o15 =>
  some o15

theorem g20_ref22_Ops_ok (K : Nat) (a0 : Graph) (r : Int) (h : g20_ref22_Ops K a0 = some r) : AC Try.prog 20 [] [.v true [cs a0.Name, cb a0.Keep, cb a0.Leaf, .t (.ro 12 cBlock zBlock a0.Blocks)]] [] (v1 (ci r)) := by
  refine AC.intro (fn := Try.f20) tbOk (by kernel_rfl) rfl (by kernel_rfl) (fun W A Kf => ?_)
  refine StopP.advd tbOk [] 100000 1000 (by kernel_rfl) (by kernel_rfl) (ac_nil) ?_
  obtain ⟨o15, ho15, h⟩ := bd_some h
  refine StopP.lp (by kernel_rfl) [.keep [1, 3, 4] [1]] (s := g20_ref22_Ops.h0 a0 (0 : Int) (0 : Int)) (by kernel_rfl) (c := (kid [true, true, false, true, false, false] (bodyAt Try.f20))) (by kernel_rfl) (e := (.exit 0)) (J := g20_ref22_Ops.j0_0 a0 o15) K (g20_ref22_Ops.l0_ok K a0 K (0 : Int) (0 : Int) o15 ho15) ?_
  refine StopP.advd tbOk [] 100000 1000 (by kernel_rfl) (by kernel_rfl) (ac_nil) ?_
  have h := sm h; subst h
  refine StopP.out .ret (by kernel_rfl) ?_
  exact ret_box (.inr rfl) [.keep [2] []] (by kernel_rfl) (by kernel_rfl) [] (by kernel_rfl)

def g9_law22_fine (K : Nat) (a0 : Graph) : Option (Bool) :=
  (g22_ref16_Few K a0).bind fun r1 =>
  let b2 : Bool := (decide ((a0.Blocks.length : Int) ≤ (30 : Int)))
  let b3 : Bool := (bif r1 then b2 else false)
  (bif b3 then g20_ref22_Ops K a0 else some 0).bind fun r4 =>
  let b5 : Bool := (decide (r4 ≤ (60 : Int)))
  let b6 : Bool := (bif b3 then b5 else false)
  (bif b6 then g19_ref16_Right K a0 (1000 : Int) (1000 : Int) else some false).bind fun r7 =>
  let b8 : Bool := (bif b6 then r7 else false)
  some b8

theorem g9_law22_fine_ok (K : Nat) (a0 : Graph) (r : Bool) (h : g9_law22_fine K a0 = some r) : AC Try.prog 9 [] [.v true [cs a0.Name, cb a0.Keep, cb a0.Leaf, .t (.ro 12 cBlock zBlock a0.Blocks)]] [] (v1 (cb r)) := by
  refine AC.intro (fn := Try.f9) tbOk (by kernel_rfl) rfl (by kernel_rfl) (fun W A Kf => ?_)
  obtain ⟨r1, hc1, h⟩ := bd_some h
  let b2 : Bool := (decide ((a0.Blocks.length : Int) ≤ (30 : Int)))
  let b3 : Bool := (bif r1 then b2 else false)
  obtain ⟨r4, hc4, h⟩ := bd_some h
  let b5 : Bool := (decide (r4 ≤ (60 : Int)))
  let b6 : Bool := (bif b3 then b5 else false)
  obtain ⟨r7, hc7, h⟩ := bd_some h
  let b8 : Bool := (bif b6 then r7 else false)
  refine StopP.advd tbOk [(1, [(1, .call [] [] (v1 (cb r1))), (10, .call [] [] (v1 (ci r4))), (15, .call [] [] (v1 (cb r7)))])] 100000 1000 (by kernel_rfl) (by kernel_rfl) (ac_y (g22_ref16_Few_ok K a0 r1 hc1) <| ac_on r1 (pt r1) <| ac_on r1 (pt r1) <| ac_on r1 (pt r1) <| ac_y (pt r1) <| ac_on b3 (pt b3) <| ac_on b3 (fun h => g20_ref22_Ops_ok K a0 r4 (cd_t h hc4)) <| ac_on b3 (pt b3) <| ac_y (pt b3) <| ac_on b6 (pt b6) <| ac_on b6 (fun h => g19_ref16_Right_ok K a0 (1000 : Int) (1000 : Int) r7 (cd_t h hc7)) <| ac_y (pt b6) <| ac_nil) ?_
  have h := sm h; subst h
  refine StopP.out .ret (by kernel_rfl) ?_
  exact ret_box (.inr rfl) [.keep [2] []] (by kernel_rfl) (by kernel_rfl) [] (by kernel_rfl)

def g10_ref16_Same.l1 (K : Nat) (a0 : Graph) (a1 : Graph) (x46 : Int) : Nat → Int → Option ((Unit) ⊕ (Unit))
  | 0, _ => none
  | k + 1, x105 =>
    gd (0 ≤ x46 ∧ x46 < (a0.Blocks.length : Int)) <|
    let b116 : Bool := (decide (x105 < (((a0.Blocks.getD x46.toNat zBlock).Ops).length : Int)))
    bif b116 then
      gd (0 ≤ x46 ∧ x46 < (a0.Blocks.length : Int)) <|
      gd (0 ≤ x105 ∧ x105 < (((a0.Blocks.getD x46.toNat zBlock).Ops).length : Int)) <|
      gd (0 ≤ x46 ∧ x46 < (a1.Blocks.length : Int)) <|
      gd (0 ≤ x105 ∧ x105 < (((a1.Blocks.getD x46.toNat zBlock).Ops).length : Int)) <|
      let b122 : Bool := (!(((((a0.Blocks.getD x46.toNat zBlock).Ops).getD x105.toNat zOp).Ins.Op == (((a1.Blocks.getD x46.toNat zBlock).Ops).getD x105.toNat zOp).Ins.Op) && (((((a0.Blocks.getD x46.toNat zBlock).Ops).getD x105.toNat zOp).Ins.A == (((a1.Blocks.getD x46.toNat zBlock).Ops).getD x105.toNat zOp).Ins.A) && (((((a0.Blocks.getD x46.toNat zBlock).Ops).getD x105.toNat zOp).Ins.B == (((a1.Blocks.getD x46.toNat zBlock).Ops).getD x105.toNat zOp).Ins.B) && (((((a0.Blocks.getD x46.toNat zBlock).Ops).getD x105.toNat zOp).Ins.C == (((a1.Blocks.getD x46.toNat zBlock).Ops).getD x105.toNat zOp).Ins.C) && (((((a0.Blocks.getD x46.toNat zBlock).Ops).getD x105.toNat zOp).Ins.Imm == (((a1.Blocks.getD x46.toNat zBlock).Ops).getD x105.toNat zOp).Ins.Imm) && (((((a0.Blocks.getD x46.toNat zBlock).Ops).getD x105.toNat zOp).Rel == (((a1.Blocks.getD x46.toNat zBlock).Ops).getD x105.toNat zOp).Rel) && (((((a0.Blocks.getD x46.toNat zBlock).Ops).getD x105.toNat zOp).Kind == (((a1.Blocks.getD x46.toNat zBlock).Ops).getD x105.toNat zOp).Kind) && (((((a0.Blocks.getD x46.toNat zBlock).Ops).getD x105.toNat zOp).To == (((a1.Blocks.getD x46.toNat zBlock).Ops).getD x105.toNat zOp).To) && (((((a0.Blocks.getD x46.toNat zBlock).Ops).getD x105.toNat zOp).Add == (((a1.Blocks.getD x46.toNat zBlock).Ops).getD x105.toNat zOp).Add) && true))))))))))
      bif b122 then
        some (.inl ())
      else
        g10_ref16_Same.l1 K a0 a1 x46 k (IntKind.i64.wrap (x105 + (1 : Int)))
    else
      some (.inr ())

def g10_ref16_Same.h1 (a0 : Graph) (a1 : Graph) (x46 : Int) (x105 : Int) : Abs.St := ⟨[(2, .yes, v1 (.ptr 2 0 0)), (3, .yes, v1 (.ptr 3 0 0)), (5, .yes, v1 (ci x46)), (6, .yes, v1 (ci x105))], [(2, .box 24 [cs a0.Name, cb a0.Keep, cb a0.Leaf, .t (.ro 12 cBlock zBlock a0.Blocks)]), (3, .box 24 [cs a1.Name, cb a1.Keep, cb a1.Leaf, .t (.ro 12 cBlock zBlock a1.Blocks)])], 102⟩

def g10_ref16_Same.j1_0 (a0 : Graph) (a1 : Graph) (x46 : Int) (o : Unit) : Abs.St := ⟨[(4, .yes, v1 (cb false))], [], 102⟩

def g10_ref16_Same.j1_1 (a0 : Graph) (a1 : Graph) (x46 : Int) (o : Unit) : Abs.St := ⟨[(2, .yes, v1 (.ptr 2 0 0)), (3, .yes, v1 (.ptr 3 0 0)), (5, .yes, v1 (ci x46))], [(2, .box 24 [cs a0.Name, cb a0.Keep, cb a0.Leaf, .t (.ro 12 cBlock zBlock a0.Blocks)]), (3, .box 24 [cs a1.Name, cb a1.Keep, cb a1.Leaf, .t (.ro 12 cBlock zBlock a1.Blocks)])], 102⟩

theorem g10_ref16_Same.l1_ok {W : World} {A Kf : Nat → Prop} (K : Nat) (a0 : Graph) (a1 : Graph) (x46 : Int) : ∀ (k : Nat) (x105 : Int) (o : (Unit) ⊕ (Unit)), g10_ref16_Same.l1 K a0 a1 x46 k x105 = some o → WPR Try.prog W A Kf (kid [true, true, false, true, false, false, true, false, false, true, true, false, false] (bodyAt Try.f10)) (Out2 o .ret (g10_ref16_Same.j1_0 a0 a1 x46) (.exit 2) (g10_ref16_Same.j1_1 a0 a1 x46)) k (g10_ref16_Same.h1 a0 a1 x46 x105)
  | 0, x105, o, h => by cases h
  | k + 1, x105, o, h => by
    refine WPR.round ?_
    obtain ⟨hg115, h⟩ := gd_some h
    let b116 : Bool := (decide (x105 < (((a0.Blocks.getD x46.toNat zBlock).Ops).length : Int)))
    refine StopP.advd tbOk [] 100000 1000 (by kernel_rfl) (by kernel_rfl) (ac_y hg115 <| ac_nil) ?_
    refine StopP.cond (b := b116) (by kernel_rfl) (fun hb117 => ?_) (fun hb117 => ?_)
    · have h := cd_t hb117 h
      obtain ⟨hg118, h⟩ := gd_some h
      obtain ⟨hg119, h⟩ := gd_some h
      obtain ⟨hg120, h⟩ := gd_some h
      obtain ⟨hg121, h⟩ := gd_some h
      let b122 : Bool := (!(((((a0.Blocks.getD x46.toNat zBlock).Ops).getD x105.toNat zOp).Ins.Op == (((a1.Blocks.getD x46.toNat zBlock).Ops).getD x105.toNat zOp).Ins.Op) && (((((a0.Blocks.getD x46.toNat zBlock).Ops).getD x105.toNat zOp).Ins.A == (((a1.Blocks.getD x46.toNat zBlock).Ops).getD x105.toNat zOp).Ins.A) && (((((a0.Blocks.getD x46.toNat zBlock).Ops).getD x105.toNat zOp).Ins.B == (((a1.Blocks.getD x46.toNat zBlock).Ops).getD x105.toNat zOp).Ins.B) && (((((a0.Blocks.getD x46.toNat zBlock).Ops).getD x105.toNat zOp).Ins.C == (((a1.Blocks.getD x46.toNat zBlock).Ops).getD x105.toNat zOp).Ins.C) && (((((a0.Blocks.getD x46.toNat zBlock).Ops).getD x105.toNat zOp).Ins.Imm == (((a1.Blocks.getD x46.toNat zBlock).Ops).getD x105.toNat zOp).Ins.Imm) && (((((a0.Blocks.getD x46.toNat zBlock).Ops).getD x105.toNat zOp).Rel == (((a1.Blocks.getD x46.toNat zBlock).Ops).getD x105.toNat zOp).Rel) && (((((a0.Blocks.getD x46.toNat zBlock).Ops).getD x105.toNat zOp).Kind == (((a1.Blocks.getD x46.toNat zBlock).Ops).getD x105.toNat zOp).Kind) && (((((a0.Blocks.getD x46.toNat zBlock).Ops).getD x105.toNat zOp).To == (((a1.Blocks.getD x46.toNat zBlock).Ops).getD x105.toNat zOp).To) && (((((a0.Blocks.getD x46.toNat zBlock).Ops).getD x105.toNat zOp).Add == (((a1.Blocks.getD x46.toNat zBlock).Ops).getD x105.toNat zOp).Add) && true))))))))))
      refine StopP.advd tbOk [] 100000 1000 (by kernel_rfl) (by kernel_rfl) (ac_y hg118 <| ac_y hg119 <| ac_y hg120 <| ac_y hg121 <| ac_nil) ?_
      refine StopP.cond (b := b122) (by kernel_rfl) (fun hb123 => ?_) (fun hb123 => ?_)
      · have h := cd_t hb123 h
        refine StopP.advd tbOk [] 100000 1000 (by kernel_rfl) (by kernel_rfl) (ac_nil) ?_
        have h := sm h; subst h
        exact StopP.out .ret (by kernel_rfl) ⟨rfl, [.keep [4] []], by kernel_rfl⟩
      · have h := cd_f hb123 h
        refine StopP.advd tbOk [] 100000 1000 (by kernel_rfl) (by kernel_rfl) (ac_nil) ?_
        refine StopP.out .normal (by kernel_rfl) ?_
        exact WPR.chg [.keep [2, 3, 5, 6] [2, 3]] (by kernel_rfl) (g10_ref16_Same.l1_ok K a0 a1 x46 k (IntKind.i64.wrap (x105 + (1 : Int))) o h)
    · have h := cd_f hb117 h
      refine StopP.advd tbOk [] 100000 1000 (by kernel_rfl) (by kernel_rfl) (ac_nil) ?_
      have h := sm h; subst h
      exact StopP.out (.exit 2) (by kernel_rfl) ⟨rfl, [.keep [2, 3, 5] [2, 3]], by kernel_rfl⟩

def g10_ref16_Same.l0 (K : Nat) (a0 : Graph) (a1 : Graph) : Nat → Int → Option ((Unit) ⊕ (Unit))
  | 0, _ => none
  | k + 1, x46 =>
    let b86 : Bool := (decide (x46 < (a0.Blocks.length : Int)))
    bif b86 then
      gd (0 ≤ x46 ∧ x46 < (a0.Blocks.length : Int)) <|
      gd (0 ≤ x46 ∧ x46 < (a1.Blocks.length : Int)) <|
      let b90 : Bool := (!(((a0.Blocks.getD x46.toNat zBlock).End.Kind == (a1.Blocks.getD x46.toNat zBlock).End.Kind) && (((a0.Blocks.getD x46.toNat zBlock).End.Op == (a1.Blocks.getD x46.toNat zBlock).End.Op) && (((a0.Blocks.getD x46.toNat zBlock).End.A == (a1.Blocks.getD x46.toNat zBlock).End.A) && (((a0.Blocks.getD x46.toNat zBlock).End.B == (a1.Blocks.getD x46.toNat zBlock).End.B) && (((a0.Blocks.getD x46.toNat zBlock).End.To == (a1.Blocks.getD x46.toNat zBlock).End.To) && (((a0.Blocks.getD x46.toNat zBlock).End.Else == (a1.Blocks.getD x46.toNat zBlock).End.Else) && (((a0.Blocks.getD x46.toNat zBlock).End.Ins.Op == (a1.Blocks.getD x46.toNat zBlock).End.Ins.Op) && (((a0.Blocks.getD x46.toNat zBlock).End.Ins.A == (a1.Blocks.getD x46.toNat zBlock).End.Ins.A) && (((a0.Blocks.getD x46.toNat zBlock).End.Ins.B == (a1.Blocks.getD x46.toNat zBlock).End.Ins.B) && (((a0.Blocks.getD x46.toNat zBlock).End.Ins.C == (a1.Blocks.getD x46.toNat zBlock).End.Ins.C) && (((a0.Blocks.getD x46.toNat zBlock).End.Ins.Imm == (a1.Blocks.getD x46.toNat zBlock).End.Ins.Imm) && true))))))))))))
      gd ((!b90) = true → 0 ≤ x46 ∧ x46 < (a0.Blocks.length : Int)) <|
      gd ((!b90) = true → 0 ≤ x46 ∧ x46 < (a1.Blocks.length : Int)) <|
      let b93 : Bool := ((((a0.Blocks.getD x46.toNat zBlock).Ops).length : Int) != (((a1.Blocks.getD x46.toNat zBlock).Ops).length : Int))
      let b94 : Bool := (bif b90 then true else b93)
      bif b94 then
        some (.inl ())
      else
        (g10_ref16_Same.l1 K a0 a1 x46 K (0 : Int)).bind fun o124 =>
        match o124 with
        | .inl o124 =>
          some (.inl ())
        | .inr o124 =>
          g10_ref16_Same.l0 K a0 a1 k (IntKind.i64.wrap (x46 + (1 : Int)))
    else
      some (.inr ())

def g10_ref16_Same.h0 (a0 : Graph) (a1 : Graph) (x46 : Int) : Abs.St := ⟨[(2, .yes, v1 (.ptr 2 0 0)), (3, .yes, v1 (.ptr 3 0 0)), (5, .yes, v1 (ci x46))], [(2, .box 24 [cs a0.Name, cb a0.Keep, cb a0.Leaf, .t (.ro 12 cBlock zBlock a0.Blocks)]), (3, .box 24 [cs a1.Name, cb a1.Keep, cb a1.Leaf, .t (.ro 12 cBlock zBlock a1.Blocks)])], 102⟩

def g10_ref16_Same.j0_0 (a0 : Graph) (a1 : Graph) (o : Unit) : Abs.St := ⟨[(4, .yes, v1 (cb false))], [], 102⟩

def g10_ref16_Same.j0_1 (a0 : Graph) (a1 : Graph) (o : Unit) : Abs.St := ⟨[], [], 102⟩

theorem g10_ref16_Same.l0_ok {W : World} {A Kf : Nat → Prop} (K : Nat) (a0 : Graph) (a1 : Graph) : ∀ (k : Nat) (x46 : Int) (o : (Unit) ⊕ (Unit)), g10_ref16_Same.l0 K a0 a1 k x46 = some o → WPR Try.prog W A Kf (kid [true, true, false, true, false, false] (bodyAt Try.f10)) (Out2 o .ret (g10_ref16_Same.j0_0 a0 a1) (.exit 0) (g10_ref16_Same.j0_1 a0 a1)) k (g10_ref16_Same.h0 a0 a1 x46)
  | 0, x46, o, h => by cases h
  | k + 1, x46, o, h => by
    refine WPR.round ?_
    let b86 : Bool := (decide (x46 < (a0.Blocks.length : Int)))
    refine StopP.advd tbOk [] 100000 1000 (by kernel_rfl) (by kernel_rfl) (ac_nil) ?_
    refine StopP.cond (b := b86) (by kernel_rfl) (fun hb87 => ?_) (fun hb87 => ?_)
    · have h := cd_t hb87 h
      obtain ⟨hg88, h⟩ := gd_some h
      obtain ⟨hg89, h⟩ := gd_some h
      let b90 : Bool := (!(((a0.Blocks.getD x46.toNat zBlock).End.Kind == (a1.Blocks.getD x46.toNat zBlock).End.Kind) && (((a0.Blocks.getD x46.toNat zBlock).End.Op == (a1.Blocks.getD x46.toNat zBlock).End.Op) && (((a0.Blocks.getD x46.toNat zBlock).End.A == (a1.Blocks.getD x46.toNat zBlock).End.A) && (((a0.Blocks.getD x46.toNat zBlock).End.B == (a1.Blocks.getD x46.toNat zBlock).End.B) && (((a0.Blocks.getD x46.toNat zBlock).End.To == (a1.Blocks.getD x46.toNat zBlock).End.To) && (((a0.Blocks.getD x46.toNat zBlock).End.Else == (a1.Blocks.getD x46.toNat zBlock).End.Else) && (((a0.Blocks.getD x46.toNat zBlock).End.Ins.Op == (a1.Blocks.getD x46.toNat zBlock).End.Ins.Op) && (((a0.Blocks.getD x46.toNat zBlock).End.Ins.A == (a1.Blocks.getD x46.toNat zBlock).End.Ins.A) && (((a0.Blocks.getD x46.toNat zBlock).End.Ins.B == (a1.Blocks.getD x46.toNat zBlock).End.Ins.B) && (((a0.Blocks.getD x46.toNat zBlock).End.Ins.C == (a1.Blocks.getD x46.toNat zBlock).End.Ins.C) && (((a0.Blocks.getD x46.toNat zBlock).End.Ins.Imm == (a1.Blocks.getD x46.toNat zBlock).End.Ins.Imm) && true))))))))))))
      obtain ⟨hg91, h⟩ := gd_some h
      obtain ⟨hg92, h⟩ := gd_some h
      let b93 : Bool := ((((a0.Blocks.getD x46.toNat zBlock).Ops).length : Int) != (((a1.Blocks.getD x46.toNat zBlock).Ops).length : Int))
      let b94 : Bool := (bif b90 then true else b93)
      have q0 := ac_on (!b90) (pt (!b90)) <| ac_on (!b90) (pt (!b90)) <| ac_on (!b90) (pt (!b90)) <| ac_on (!b90) (pt (!b90)) <| ac_on (!b90) (pt (!b90)) <| ac_on (!b90) hg92 <| ac_on (!b90) (pt (!b90)) <| ac_on (!b90) (pt (!b90)) <| ac_on (!b90) (pt (!b90)) <| ac_on (!b90) (pt (!b90)) <| ac_on (!b90) (pt (!b90)) <| ac_y (pn b90) <| ac_nil
      refine StopP.advd tbOk [] 100000 1000 (by kernel_rfl) (by kernel_rfl) (ac_y hg88 <| ac_y hg89 <| ac_on (!b90) (pt (!b90)) <| ac_on (!b90) (pt (!b90)) <| ac_on (!b90) (pt (!b90)) <| ac_on (!b90) hg91 <| ac_on (!b90) (pt (!b90)) <| q0) ?_
      refine StopP.cond (b := b94) (by kernel_rfl) (fun hb95 => ?_) (fun hb95 => ?_)
      · have h := cd_t hb95 h
        refine StopP.advd tbOk [] 100000 1000 (by kernel_rfl) (by kernel_rfl) (ac_nil) ?_
        have h := sm h; subst h
        exact StopP.out .ret (by kernel_rfl) ⟨rfl, [.keep [4] []], by kernel_rfl⟩
      · have h := cd_f hb95 h
        refine StopP.advd tbOk [] 100000 1000 (by kernel_rfl) (by kernel_rfl) (ac_nil) ?_
        obtain ⟨o124, ho124, h⟩ := bd_some h
        cases o124 with
        | inl o124 =>
          refine StopP.lp (by kernel_rfl) [.keep [2, 3, 5, 6] [2, 3]] (s := g10_ref16_Same.h1 a0 a1 x46 (0 : Int)) (by kernel_rfl) (c := (kid [true, true, false, true, false, false, true, false, false, true, true, false, false] (bodyAt Try.f10))) (by kernel_rfl) (e := .ret) (J := g10_ref16_Same.j1_0 a0 a1 x46 o124) K (g10_ref16_Same.l1_ok K a0 a1 x46 K (0 : Int) (.inl o124) ho124) ?_
          have h := sm h; subst h
          exact StopP.out .ret (by kernel_rfl) ⟨rfl, [.keep [4] []], by kernel_rfl⟩
        | inr o124 =>
          refine StopP.lp (by kernel_rfl) [.keep [2, 3, 5, 6] [2, 3]] (s := g10_ref16_Same.h1 a0 a1 x46 (0 : Int)) (by kernel_rfl) (c := (kid [true, true, false, true, false, false, true, false, false, true, true, false, false] (bodyAt Try.f10))) (by kernel_rfl) (e := (.exit 2)) (J := g10_ref16_Same.j1_1 a0 a1 x46 o124) K (g10_ref16_Same.l1_ok K a0 a1 x46 K (0 : Int) (.inr o124) ho124) ?_
          refine StopP.advd tbOk [] 100000 1000 (by kernel_rfl) (by kernel_rfl) (ac_nil) ?_
          refine StopP.out .normal (by kernel_rfl) ?_
          exact WPR.chg [.keep [2, 3, 5] [2, 3]] (by kernel_rfl) (g10_ref16_Same.l0_ok K a0 a1 k (IntKind.i64.wrap (x46 + (1 : Int))) o h)
    · have h := cd_f hb87 h
      refine StopP.advd tbOk [] 100000 1000 (by kernel_rfl) (by kernel_rfl) (ac_nil) ?_
      have h := sm h; subst h
      exact StopP.out (.exit 0) (by kernel_rfl) ⟨rfl, [.keep [] []], by kernel_rfl⟩

def g10_ref16_Same (K : Nat) (a0 : Graph) (a1 : Graph) : Option (Bool) :=
  let b1 : Bool := (!(a0.Name.toList == a1.Name.toList))
  let b2 : Bool := (bif b1 then true else (!(a0.Keep == a1.Keep)))
  let b3 : Bool := (bif b2 then true else (!(a0.Leaf == a1.Leaf)))
  let b4 : Bool := ((a0.Blocks.length : Int) != (a1.Blocks.length : Int))
  let b5 : Bool := (bif b3 then true else b4)
  bif b5 then
    some false
  else
    (g10_ref16_Same.l0 K a0 a1 K (0 : Int)).bind fun o125 =>
    match o125 with
    | .inl o125 =>
      some false
    | .inr o125 =>
      some true

theorem g10_ref16_Same_ok (K : Nat) (a0 : Graph) (a1 : Graph) (r : Bool) (h : g10_ref16_Same K a0 a1 = some r) : AC Try.prog 10 [] [.v true [cs a0.Name, cb a0.Keep, cb a0.Leaf, .t (.ro 12 cBlock zBlock a0.Blocks)], .v true [cs a1.Name, cb a1.Keep, cb a1.Leaf, .t (.ro 12 cBlock zBlock a1.Blocks)]] [] (v1 (cb r)) := by
  refine AC.intro (fn := Try.f10) tbOk (by kernel_rfl) rfl (by kernel_rfl) (fun W A Kf => ?_)
  let b1 : Bool := (!(a0.Name.toList == a1.Name.toList))
  let b2 : Bool := (bif b1 then true else (!(a0.Keep == a1.Keep)))
  let b3 : Bool := (bif b2 then true else (!(a0.Leaf == a1.Leaf)))
  let b4 : Bool := ((a0.Blocks.length : Int) != (a1.Blocks.length : Int))
  let b5 : Bool := (bif b3 then true else b4)
  have q0 := ac_on (!b2) (pt (!b2)) <| ac_on (!b2) (pt (!b2)) <| ac_on (!b2) (pt (!b2)) <| ac_on (!b2) (pt (!b2)) <| ac_y (pn b2) <| ac_on (!b3) (pt (!b3)) <| ac_on (!b3) (pt (!b3)) <| ac_on (!b3) (pt (!b3)) <| ac_on (!b3) (pt (!b3)) <| ac_on (!b3) (pt (!b3)) <| ac_on (!b3) (pt (!b3)) <| ac_y (pn b3) <| ac_nil
  refine StopP.advd tbOk [] 100000 1000 (by kernel_rfl) (by kernel_rfl) (ac_on (!b1) (pt (!b1)) <| ac_on (!b1) (pt (!b1)) <| ac_on (!b1) (pt (!b1)) <| ac_on (!b1) (pt (!b1)) <| ac_y (pn b1) <| q0) ?_
  refine StopP.cond (b := b5) (by kernel_rfl) (fun hb6 => ?_) (fun hb6 => ?_)
  · have h := cd_t hb6 h
    refine StopP.advd tbOk [] 100000 1000 (by kernel_rfl) (by kernel_rfl) (ac_nil) ?_
    have h := sm h; subst h
    refine StopP.out .ret (by kernel_rfl) ?_
    exact ret_box (.inr rfl) [.keep [4] []] (by kernel_rfl) (by kernel_rfl) [] (by kernel_rfl)
  · have h := cd_f hb6 h
    refine StopP.advd tbOk [] 100000 1000 (by kernel_rfl) (by kernel_rfl) (ac_nil) ?_
    obtain ⟨o125, ho125, h⟩ := bd_some h
    cases o125 with
    | inl o125 =>
      refine StopP.lp (by kernel_rfl) [.keep [2, 3, 5] [2, 3]] (s := g10_ref16_Same.h0 a0 a1 (0 : Int)) (by kernel_rfl) (c := (kid [true, true, false, true, false, false] (bodyAt Try.f10))) (by kernel_rfl) (e := .ret) (J := g10_ref16_Same.j0_0 a0 a1 o125) K (g10_ref16_Same.l0_ok K a0 a1 K (0 : Int) (.inl o125) ho125) ?_
      have h := sm h; subst h
      refine StopP.out .ret (by kernel_rfl) ?_
      exact ret_box (.inr rfl) [.keep [4] []] (by kernel_rfl) (by kernel_rfl) [] (by kernel_rfl)
    | inr o125 =>
      refine StopP.lp (by kernel_rfl) [.keep [2, 3, 5] [2, 3]] (s := g10_ref16_Same.h0 a0 a1 (0 : Int)) (by kernel_rfl) (c := (kid [true, true, false, true, false, false] (bodyAt Try.f10))) (by kernel_rfl) (e := (.exit 0)) (J := g10_ref16_Same.j0_1 a0 a1 o125) K (g10_ref16_Same.l0_ok K a0 a1 K (0 : Int) (.inr o125) ho125) ?_
      refine StopP.advd tbOk [] 100000 1000 (by kernel_rfl) (by kernel_rfl) (ac_nil) ?_
      have h := sm h; subst h
      refine StopP.out .ret (by kernel_rfl) ?_
      exact ret_box (.inr rfl) [.keep [4] []] (by kernel_rfl) (by kernel_rfl) [] (by kernel_rfl)

end Go.Proofs.Ytoooalfhjcfinaa.T

namespace Go.Proofs.Ytoooalfhjcfinaa.T
open Go.Abs
set_option linter.unusedVariables false
set_option maxRecDepth 100000
set_option maxHeartbeats 2000000

def g36_flow_Writes (K : Nat) (a0 : Ins) : Option (Int) :=
  let b1 : Bool := (decide (a0.Op ≥ (1 : Int)))
  let b2 : Bool := (decide (a0.Op ≤ (11 : Int)))
  let b3 : Bool := (bif b1 then b2 else false)
  let b4 : Bool := (bif b3 then true else (a0.Op == (13 : Int)))
  let b5 : Bool := (bif b4 then true else (a0.Op == (22 : Int)))
  let b6 : Bool := (bif (!b5) then true else (a0.A == (0 : Int)))
  bif b6 then
    some (-1 : Int)
  else
    some a0.A

theorem g36_flow_Writes_ok (K : Nat) (a0 : Ins) (r : Int) (h : g36_flow_Writes K a0 = some r) : AC Try.prog 36 [] [.v true [ci a0.Op, ci a0.A, ci a0.B, ci a0.C, ci a0.Imm]] [] (v1 (ci r)) := by
  refine AC.intro (fn := Try.f36) tbOk (by kernel_rfl) rfl (by kernel_rfl) (fun W A Kf => ?_)
  let b1 : Bool := (decide (a0.Op ≥ (1 : Int)))
  let b2 : Bool := (decide (a0.Op ≤ (11 : Int)))
  let b3 : Bool := (bif b1 then b2 else false)
  let b4 : Bool := (bif b3 then true else (a0.Op == (13 : Int)))
  let b5 : Bool := (bif b4 then true else (a0.Op == (22 : Int)))
  let b6 : Bool := (bif (!b5) then true else (a0.A == (0 : Int)))
  refine StopP.advd tbOk [] 100000 1000 (by kernel_rfl) (by kernel_rfl) (ac_on b1 (pt b1) <| ac_on b1 (pt b1) <| ac_y (pt b1) <| ac_on (!b3) (pt (!b3)) <| ac_on (!b3) (pt (!b3)) <| ac_y (pn b3) <| ac_on (!b4) (pt (!b4)) <| ac_on (!b4) (pt (!b4)) <| ac_y (pn b4) <| ac_on (!(!b5)) (pt (!(!b5))) <| ac_on (!(!b5)) (pt (!(!b5))) <| ac_y (pn (!b5)) <| ac_nil) ?_
  refine StopP.cond (b := b6) (by kernel_rfl) (fun hb7 => ?_) (fun hb7 => ?_)
  · have h := cd_t hb7 h
    refine StopP.advd tbOk [] 100000 1000 (by kernel_rfl) (by kernel_rfl) (ac_nil) ?_
    have h := sm h; subst h
    refine StopP.out .ret (by kernel_rfl) ?_
    exact ret_box (.inr rfl) [.keep [2] []] (by kernel_rfl) (by kernel_rfl) [] (by kernel_rfl)
  · have h := cd_f hb7 h
    refine StopP.advd tbOk [] 100000 1000 (by kernel_rfl) (by kernel_rfl) (ac_nil) ?_
    have h := sm h; subst h
    refine StopP.out .ret (by kernel_rfl) ?_
    exact ret_box (.inr rfl) [.keep [2] []] (by kernel_rfl) (by kernel_rfl) [] (by kernel_rfl)

def g37_flow_Kind (K : Nat) (a0 : Ins) : Option (Int) :=
  bif (a0.Op == (11 : Int)) then
    some (1 : Int)
  else
    bif (a0.Op == (12 : Int)) then
      some (1 : Int)
    else
      bif (a0.Op == (13 : Int)) then
        some (1 : Int)
      else
        bif (a0.Op == (14 : Int)) then
          some (1 : Int)
        else
          bif (a0.Op == (22 : Int)) then
            some (1 : Int)
          else
            bif (a0.Op == (23 : Int)) then
              some (1 : Int)
            else
              bif (a0.Op == (15 : Int)) then
                some (2 : Int)
              else
                bif (a0.Op == (16 : Int)) then
                  some (2 : Int)
                else
                  bif (a0.Op == (17 : Int)) then
                    some (2 : Int)
                  else
                    bif (a0.Op == (18 : Int)) then
                      some (2 : Int)
                    else
                      bif (a0.Op == (19 : Int)) then
                        some (3 : Int)
                      else
                        bif (a0.Op == (20 : Int)) then
                          some (4 : Int)
                        else
                          bif (a0.Op == (0 : Int)) then
                            some (5 : Int)
                          else
                            bif (a0.Op == (21 : Int)) then
                              some (5 : Int)
                            else
                              bif (a0.Op == (25 : Int)) then
                                some (5 : Int)
                              else
                                some (0 : Int)

theorem g37_flow_Kind_ok (K : Nat) (a0 : Ins) (r : Int) (h : g37_flow_Kind K a0 = some r) : AC Try.prog 37 [] [.v true [ci a0.Op, ci a0.A, ci a0.B, ci a0.C, ci a0.Imm]] [] (v1 (ci r)) := by
  refine AC.intro (fn := Try.f37) tbOk (by kernel_rfl) rfl (by kernel_rfl) (fun W A Kf => ?_)
  refine StopP.advd tbOk [] 100000 1000 (by kernel_rfl) (by kernel_rfl) (ac_nil) ?_
  refine StopP.cond (b := (a0.Op == (11 : Int))) (by kernel_rfl) (fun hb1 => ?_) (fun hb1 => ?_)
  · have h := cd_t hb1 h
    refine StopP.advd tbOk [] 100000 1000 (by kernel_rfl) (by kernel_rfl) (ac_nil) ?_
    refine StopP.condK (b := (a0.Op == (11 : Int))) hb1 (by kernel_rfl) ?_
    refine StopP.advd tbOk [] 100000 1000 (by kernel_rfl) (by kernel_rfl) (ac_nil) ?_
    have h := sm h; subst h
    refine StopP.out .ret (by kernel_rfl) ?_
    exact ret_box (.inr rfl) [.keep [2] []] (by kernel_rfl) (by kernel_rfl) [] (by kernel_rfl)
  · have h := cd_f hb1 h
    refine StopP.advd tbOk [] 100000 1000 (by kernel_rfl) (by kernel_rfl) (ac_nil) ?_
    refine StopP.cond (b := (a0.Op == (12 : Int))) (by kernel_rfl) (fun hb2 => ?_) (fun hb2 => ?_)
    · have h := cd_t hb2 h
      refine StopP.advd tbOk [] 100000 1000 (by kernel_rfl) (by kernel_rfl) (ac_nil) ?_
      refine StopP.condK (b := (a0.Op == (12 : Int))) hb2 (by kernel_rfl) ?_
      refine StopP.advd tbOk [] 100000 1000 (by kernel_rfl) (by kernel_rfl) (ac_nil) ?_
      have h := sm h; subst h
      refine StopP.out .ret (by kernel_rfl) ?_
      exact ret_box (.inr rfl) [.keep [2] []] (by kernel_rfl) (by kernel_rfl) [] (by kernel_rfl)
    · have h := cd_f hb2 h
      refine StopP.advd tbOk [] 100000 1000 (by kernel_rfl) (by kernel_rfl) (ac_nil) ?_
      refine StopP.cond (b := (a0.Op == (13 : Int))) (by kernel_rfl) (fun hb3 => ?_) (fun hb3 => ?_)
      · have h := cd_t hb3 h
        refine StopP.advd tbOk [] 100000 1000 (by kernel_rfl) (by kernel_rfl) (ac_nil) ?_
        refine StopP.condK (b := (a0.Op == (13 : Int))) hb3 (by kernel_rfl) ?_
        refine StopP.reb [.keep [] []] (st' := .at (kid [true, false, true, false, false, false, false, false, false, false, false, false, false, false, false, false, false, true, false] (bodyAt Try.f37)) [.code (kid [true, false, true, false, false, false, false, false, false, false, false, false, false, false, false, false, true] (bodyAt Try.f37)), .code (kid [true, false, true, false, false, false, false, false, false, false, false, false, false, false, false, true] (bodyAt Try.f37)), .blk 1, .blk 2, .code (kid [true, false, true, false, false, false, false, false, false, false, false, false, true] (bodyAt Try.f37)), .blk 3, .code (kid [true, false, true, false, false, false, false, false, false, false, true] (bodyAt Try.f37)), .blk 4, .code (kid [true, false, true, false, false, false, false, false, true] (bodyAt Try.f37)), .blk 5, .code (kid [true, false, true, false, false, false, true] (bodyAt Try.f37)), .blk 6, .code (kid [true, false, true, false, true] (bodyAt Try.f37)), .blk 0, .code (kid [true, true] (bodyAt Try.f37))] ⟨[], [], 26⟩) (by kernel_rfl) (by kernel_rfl) (by kernel_rfl) (by kernel_rfl) rfl ?_
        refine StopP.advd tbOk [] 100000 1000 (by kernel_rfl) (by kernel_rfl) (ac_nil) ?_
        have h := sm h; subst h
        refine StopP.out .ret (by kernel_rfl) ?_
        exact ret_box (.inr rfl) [.keep [2] []] (by kernel_rfl) (by kernel_rfl) [] (by kernel_rfl)
      · have h := cd_f hb3 h
        refine StopP.advd tbOk [] 100000 1000 (by kernel_rfl) (by kernel_rfl) (ac_nil) ?_
        refine StopP.cond (b := (a0.Op == (14 : Int))) (by kernel_rfl) (fun hb4 => ?_) (fun hb4 => ?_)
        · have h := cd_t hb4 h
          refine StopP.reb [.keep [] []] (st' := .at (kid [true, false, true, false, false, false, false, false, false, false, false, false, false, false, false, false, false, true, false] (bodyAt Try.f37)) [.code (kid [true, false, true, false, false, false, false, false, false, false, false, false, false, false, false, false, true] (bodyAt Try.f37)), .code (kid [true, false, true, false, false, false, false, false, false, false, false, false, false, false, false, true] (bodyAt Try.f37)), .blk 1, .blk 2, .code (kid [true, false, true, false, false, false, false, false, false, false, false, false, true] (bodyAt Try.f37)), .blk 3, .code (kid [true, false, true, false, false, false, false, false, false, false, true] (bodyAt Try.f37)), .blk 4, .code (kid [true, false, true, false, false, false, false, false, true] (bodyAt Try.f37)), .blk 5, .code (kid [true, false, true, false, false, false, true] (bodyAt Try.f37)), .blk 6, .code (kid [true, false, true, false, true] (bodyAt Try.f37)), .blk 0, .code (kid [true, true] (bodyAt Try.f37))] ⟨[], [], 26⟩) (by kernel_rfl) (by kernel_rfl) (by kernel_rfl) (by kernel_rfl) rfl ?_
          refine StopP.advd tbOk [] 100000 1000 (by kernel_rfl) (by kernel_rfl) (ac_nil) ?_
          have h := sm h; subst h
          refine StopP.out .ret (by kernel_rfl) ?_
          exact ret_box (.inr rfl) [.keep [2] []] (by kernel_rfl) (by kernel_rfl) [] (by kernel_rfl)
        · have h := cd_f hb4 h
          refine StopP.advd tbOk [] 100000 1000 (by kernel_rfl) (by kernel_rfl) (ac_nil) ?_
          refine StopP.cond (b := (a0.Op == (22 : Int))) (by kernel_rfl) (fun hb5 => ?_) (fun hb5 => ?_)
          · have h := cd_t hb5 h
            refine StopP.advd tbOk [] 100000 1000 (by kernel_rfl) (by kernel_rfl) (ac_nil) ?_
            refine StopP.condK (b := (a0.Op == (22 : Int))) hb5 (by kernel_rfl) ?_
            refine StopP.reb [.keep [] []] (st' := .at (kid [true, false, true, false, false, false, false, false, false, false, false, false, false, false, false, false, true, false, true, false] (bodyAt Try.f37)) [.code (kid [true, false, true, false, false, false, false, false, false, false, false, false, false, false, false, false, true, true] (bodyAt Try.f37)), .code (kid [true, false, true, false, false, false, false, false, false, false, false, false, false, false, false, true] (bodyAt Try.f37)), .blk 1, .blk 2, .code (kid [true, false, true, false, false, false, false, false, false, false, false, false, true] (bodyAt Try.f37)), .blk 3, .code (kid [true, false, true, false, false, false, false, false, false, false, true] (bodyAt Try.f37)), .blk 4, .code (kid [true, false, true, false, false, false, false, false, true] (bodyAt Try.f37)), .blk 5, .code (kid [true, false, true, false, false, false, true] (bodyAt Try.f37)), .blk 6, .code (kid [true, false, true, false, true] (bodyAt Try.f37)), .blk 0, .code (kid [true, true] (bodyAt Try.f37))] ⟨[], [], 26⟩) (by kernel_rfl) (by kernel_rfl) (by kernel_rfl) (by kernel_rfl) rfl ?_
            refine StopP.advd tbOk [] 100000 1000 (by kernel_rfl) (by kernel_rfl) (ac_nil) ?_
            have h := sm h; subst h
            refine StopP.out .ret (by kernel_rfl) ?_
            exact ret_box (.inr rfl) [.keep [2] []] (by kernel_rfl) (by kernel_rfl) [] (by kernel_rfl)
          · have h := cd_f hb5 h
            refine StopP.reb [.keep [4] []] (st' := .at (kid [true, false, true, false, false, false, false, false, false, false, false, false, false, false, false, false, true, false, false, true, true] (bodyAt Try.f37)) [.code (kid [true, false, true, false, false, false, false, false, false, false, false, false, false, false, false, false, true, false, true] (bodyAt Try.f37)), .code (kid [true, false, true, false, false, false, false, false, false, false, false, false, false, false, false, false, true, true] (bodyAt Try.f37)), .code (kid [true, false, true, false, false, false, false, false, false, false, false, false, false, false, false, true] (bodyAt Try.f37)), .blk 1, .blk 2, .code (kid [true, false, true, false, false, false, false, false, false, false, false, false, true] (bodyAt Try.f37)), .blk 3, .code (kid [true, false, true, false, false, false, false, false, false, false, true] (bodyAt Try.f37)), .blk 4, .code (kid [true, false, true, false, false, false, false, false, true] (bodyAt Try.f37)), .blk 5, .code (kid [true, false, true, false, false, false, true] (bodyAt Try.f37)), .blk 6, .code (kid [true, false, true, false, true] (bodyAt Try.f37)), .blk 0, .code (kid [true, true] (bodyAt Try.f37))] ⟨[(4, .yes, v1 (ci a0.Op))], [], 26⟩) (by kernel_rfl) (by kernel_rfl) (by kernel_rfl) (by kernel_rfl) rfl ?_
            refine StopP.advd tbOk [] 100000 1000 (by kernel_rfl) (by kernel_rfl) (ac_nil) ?_
            refine StopP.cond (b := (a0.Op == (23 : Int))) (by kernel_rfl) (fun hb6 => ?_) (fun hb6 => ?_)
            · have h := cd_t hb6 h
              refine StopP.advd tbOk [] 100000 1000 (by kernel_rfl) (by kernel_rfl) (ac_nil) ?_
              have h := sm h; subst h
              refine StopP.out .ret (by kernel_rfl) ?_
              exact ret_box (.inr rfl) [.keep [2] []] (by kernel_rfl) (by kernel_rfl) [] (by kernel_rfl)
            · have h := cd_f hb6 h
              refine StopP.advd tbOk [] 100000 1000 (by kernel_rfl) (by kernel_rfl) (ac_nil) ?_
              refine StopP.cond (b := (a0.Op == (15 : Int))) (by kernel_rfl) (fun hb7 => ?_) (fun hb7 => ?_)
              · have h := cd_t hb7 h
                refine StopP.advd tbOk [] 100000 1000 (by kernel_rfl) (by kernel_rfl) (ac_nil) ?_
                refine StopP.condK (b := (a0.Op == (15 : Int))) hb7 (by kernel_rfl) ?_
                refine StopP.advd tbOk [] 100000 1000 (by kernel_rfl) (by kernel_rfl) (ac_nil) ?_
                have h := sm h; subst h
                refine StopP.out .ret (by kernel_rfl) ?_
                exact ret_box (.inr rfl) [.keep [2] []] (by kernel_rfl) (by kernel_rfl) [] (by kernel_rfl)
              · have h := cd_f hb7 h
                refine StopP.advd tbOk [] 100000 1000 (by kernel_rfl) (by kernel_rfl) (ac_nil) ?_
                refine StopP.cond (b := (a0.Op == (16 : Int))) (by kernel_rfl) (fun hb8 => ?_) (fun hb8 => ?_)
                · have h := cd_t hb8 h
                  refine StopP.advd tbOk [] 100000 1000 (by kernel_rfl) (by kernel_rfl) (ac_nil) ?_
                  refine StopP.condK (b := (a0.Op == (16 : Int))) hb8 (by kernel_rfl) ?_
                  refine StopP.reb [.keep [] []] (st' := .at (kid [true, false, true, false, false, false, false, false, false, false, false, false, false, false, false, false, true, true, false, true, false] (bodyAt Try.f37)) [.code (kid [true, false, true, false, false, false, false, false, false, false, false, false, false, false, false, false, true, true, true] (bodyAt Try.f37)), .code (kid [true, false, true, false, false, false, false, false, false, false, false, false, false, false, false, true] (bodyAt Try.f37)), .blk 1, .blk 2, .code (kid [true, false, true, false, false, false, false, false, false, false, false, false, true] (bodyAt Try.f37)), .blk 3, .code (kid [true, false, true, false, false, false, false, false, false, false, true] (bodyAt Try.f37)), .blk 4, .code (kid [true, false, true, false, false, false, false, false, true] (bodyAt Try.f37)), .blk 5, .code (kid [true, false, true, false, false, false, true] (bodyAt Try.f37)), .blk 6, .code (kid [true, false, true, false, true] (bodyAt Try.f37)), .blk 0, .code (kid [true, true] (bodyAt Try.f37))] ⟨[], [], 26⟩) (by kernel_rfl) (by kernel_rfl) (by kernel_rfl) (by kernel_rfl) rfl ?_
                  refine StopP.advd tbOk [] 100000 1000 (by kernel_rfl) (by kernel_rfl) (ac_nil) ?_
                  have h := sm h; subst h
                  refine StopP.out .ret (by kernel_rfl) ?_
                  exact ret_box (.inr rfl) [.keep [2] []] (by kernel_rfl) (by kernel_rfl) [] (by kernel_rfl)
                · have h := cd_f hb8 h
                  refine StopP.advd tbOk [] 100000 1000 (by kernel_rfl) (by kernel_rfl) (ac_nil) ?_
                  refine StopP.cond (b := (a0.Op == (17 : Int))) (by kernel_rfl) (fun hb9 => ?_) (fun hb9 => ?_)
                  · have h := cd_t hb9 h
                    refine StopP.advd tbOk [] 100000 1000 (by kernel_rfl) (by kernel_rfl) (ac_nil) ?_
                    refine StopP.condK (b := (a0.Op == (17 : Int))) hb9 (by kernel_rfl) ?_
                    refine StopP.reb [.keep [] []] (st' := .at (kid [true, false, true, false, false, false, false, false, false, false, false, false, false, false, false, false, true, true, false, true, false] (bodyAt Try.f37)) [.code (kid [true, false, true, false, false, false, false, false, false, false, false, false, false, false, false, false, true, true, true] (bodyAt Try.f37)), .code (kid [true, false, true, false, false, false, false, false, false, false, false, false, false, false, false, true] (bodyAt Try.f37)), .blk 1, .blk 2, .code (kid [true, false, true, false, false, false, false, false, false, false, false, false, true] (bodyAt Try.f37)), .blk 3, .code (kid [true, false, true, false, false, false, false, false, false, false, true] (bodyAt Try.f37)), .blk 4, .code (kid [true, false, true, false, false, false, false, false, true] (bodyAt Try.f37)), .blk 5, .code (kid [true, false, true, false, false, false, true] (bodyAt Try.f37)), .blk 6, .code (kid [true, false, true, false, true] (bodyAt Try.f37)), .blk 0, .code (kid [true, true] (bodyAt Try.f37))] ⟨[], [], 26⟩) (by kernel_rfl) (by kernel_rfl) (by kernel_rfl) (by kernel_rfl) rfl ?_
                    refine StopP.advd tbOk [] 100000 1000 (by kernel_rfl) (by kernel_rfl) (ac_nil) ?_
                    have h := sm h; subst h
                    refine StopP.out .ret (by kernel_rfl) ?_
                    exact ret_box (.inr rfl) [.keep [2] []] (by kernel_rfl) (by kernel_rfl) [] (by kernel_rfl)
                  · have h := cd_f hb9 h
                    refine StopP.reb [.keep [4] []] (st' := .at (kid [true, false, true, false, false, false, false, false, false, false, false, false, false, false, false, false, true, true, false, false, true, true, true, true, true, true] (bodyAt Try.f37)) [.code (kid [true, false, true, false, false, false, false, false, false, false, false, false, false, false, false, false, true, true, false, true] (bodyAt Try.f37)), .code (kid [true, false, true, false, false, false, false, false, false, false, false, false, false, false, false, false, true, true, true] (bodyAt Try.f37)), .code (kid [true, false, true, false, false, false, false, false, false, false, false, false, false, false, false, true] (bodyAt Try.f37)), .blk 1, .blk 2, .code (kid [true, false, true, false, false, false, false, false, false, false, false, false, true] (bodyAt Try.f37)), .blk 3, .code (kid [true, false, true, false, false, false, false, false, false, false, true] (bodyAt Try.f37)), .blk 4, .code (kid [true, false, true, false, false, false, false, false, true] (bodyAt Try.f37)), .blk 5, .code (kid [true, false, true, false, false, false, true] (bodyAt Try.f37)), .blk 6, .code (kid [true, false, true, false, true] (bodyAt Try.f37)), .blk 0, .code (kid [true, true] (bodyAt Try.f37))] ⟨[(4, .yes, v1 (ci a0.Op))], [], 26⟩) (by kernel_rfl) (by kernel_rfl) (by kernel_rfl) (by kernel_rfl) rfl ?_
                    refine StopP.advd tbOk [] 100000 1000 (by kernel_rfl) (by kernel_rfl) (ac_nil) ?_
                    refine StopP.cond (b := (a0.Op == (18 : Int))) (by kernel_rfl) (fun hb10 => ?_) (fun hb10 => ?_)
                    · have h := cd_t hb10 h
                      refine StopP.advd tbOk [] 100000 1000 (by kernel_rfl) (by kernel_rfl) (ac_nil) ?_
                      have h := sm h; subst h
                      refine StopP.out .ret (by kernel_rfl) ?_
                      exact ret_box (.inr rfl) [.keep [2] []] (by kernel_rfl) (by kernel_rfl) [] (by kernel_rfl)
                    · have h := cd_f hb10 h
                      refine StopP.advd tbOk [] 100000 1000 (by kernel_rfl) (by kernel_rfl) (ac_nil) ?_
                      refine StopP.cond (b := (a0.Op == (19 : Int))) (by kernel_rfl) (fun hb11 => ?_) (fun hb11 => ?_)
                      · have h := cd_t hb11 h
                        refine StopP.advd tbOk [] 100000 1000 (by kernel_rfl) (by kernel_rfl) (ac_nil) ?_
                        have h := sm h; subst h
                        refine StopP.out .ret (by kernel_rfl) ?_
                        exact ret_box (.inr rfl) [.keep [2] []] (by kernel_rfl) (by kernel_rfl) [] (by kernel_rfl)
                      · have h := cd_f hb11 h
                        refine StopP.advd tbOk [] 100000 1000 (by kernel_rfl) (by kernel_rfl) (ac_nil) ?_
                        refine StopP.cond (b := (a0.Op == (20 : Int))) (by kernel_rfl) (fun hb12 => ?_) (fun hb12 => ?_)
                        · have h := cd_t hb12 h
                          refine StopP.advd tbOk [] 100000 1000 (by kernel_rfl) (by kernel_rfl) (ac_nil) ?_
                          have h := sm h; subst h
                          refine StopP.out .ret (by kernel_rfl) ?_
                          exact ret_box (.inr rfl) [.keep [2] []] (by kernel_rfl) (by kernel_rfl) [] (by kernel_rfl)
                        · have h := cd_f hb12 h
                          refine StopP.advd tbOk [] 100000 1000 (by kernel_rfl) (by kernel_rfl) (ac_nil) ?_
                          refine StopP.cond (b := (a0.Op == (0 : Int))) (by kernel_rfl) (fun hb13 => ?_) (fun hb13 => ?_)
                          · have h := cd_t hb13 h
                            refine StopP.advd tbOk [] 100000 1000 (by kernel_rfl) (by kernel_rfl) (ac_nil) ?_
                            refine StopP.condK (b := (a0.Op == (0 : Int))) hb13 (by kernel_rfl) ?_
                            refine StopP.reb [.keep [] []] (st' := .at (kid [true, false, true, false, false, false, false, false, false, false, false, false, false, false, false, false, true, true, true, true, true, true, false] (bodyAt Try.f37)) [.code (kid [true, false, true, false, false, false, false, false, false, false, false, false, false, false, false, true] (bodyAt Try.f37)), .blk 1, .blk 2, .code (kid [true, false, true, false, false, false, false, false, false, false, false, false, true] (bodyAt Try.f37)), .blk 3, .code (kid [true, false, true, false, false, false, false, false, false, false, true] (bodyAt Try.f37)), .blk 4, .code (kid [true, false, true, false, false, false, false, false, true] (bodyAt Try.f37)), .blk 5, .code (kid [true, false, true, false, false, false, true] (bodyAt Try.f37)), .blk 6, .code (kid [true, false, true, false, true] (bodyAt Try.f37)), .blk 0, .code (kid [true, true] (bodyAt Try.f37))] ⟨[], [], 26⟩) (by kernel_rfl) (by kernel_rfl) (by kernel_rfl) (by kernel_rfl) rfl ?_
                            refine StopP.advd tbOk [] 100000 1000 (by kernel_rfl) (by kernel_rfl) (ac_nil) ?_
                            have h := sm h; subst h
                            refine StopP.out .ret (by kernel_rfl) ?_
                            exact ret_box (.inr rfl) [.keep [2] []] (by kernel_rfl) (by kernel_rfl) [] (by kernel_rfl)
                          · have h := cd_f hb13 h
                            refine StopP.reb [.keep [4] []] (st' := .at (kid [true, false, true, false, false, false, false, false, false, false, false, false, false, false, false, false, true, true, true, true, true, false, true, true] (bodyAt Try.f37)) [.code (kid [true, false, true, false, false, false, false, false, false, false, false, false, false, false, false, false, true, true, true, true, true, true] (bodyAt Try.f37)), .code (kid [true, false, true, false, false, false, false, false, false, false, false, false, false, false, false, true] (bodyAt Try.f37)), .blk 1, .blk 2, .code (kid [true, false, true, false, false, false, false, false, false, false, false, false, true] (bodyAt Try.f37)), .blk 3, .code (kid [true, false, true, false, false, false, false, false, false, false, true] (bodyAt Try.f37)), .blk 4, .code (kid [true, false, true, false, false, false, false, false, true] (bodyAt Try.f37)), .blk 5, .code (kid [true, false, true, false, false, false, true] (bodyAt Try.f37)), .blk 6, .code (kid [true, false, true, false, true] (bodyAt Try.f37)), .blk 0, .code (kid [true, true] (bodyAt Try.f37))] ⟨[(4, .yes, v1 (ci a0.Op))], [], 26⟩) (by kernel_rfl) (by kernel_rfl) (by kernel_rfl) (by kernel_rfl) rfl ?_
                            refine StopP.advd tbOk [] 100000 1000 (by kernel_rfl) (by kernel_rfl) (ac_nil) ?_
                            refine StopP.cond (b := (a0.Op == (21 : Int))) (by kernel_rfl) (fun hb14 => ?_) (fun hb14 => ?_)
                            · have h := cd_t hb14 h
                              refine StopP.advd tbOk [] 100000 1000 (by kernel_rfl) (by kernel_rfl) (ac_nil) ?_
                              refine StopP.condK (b := (a0.Op == (21 : Int))) hb14 (by kernel_rfl) ?_
                              refine StopP.advd tbOk [] 100000 1000 (by kernel_rfl) (by kernel_rfl) (ac_nil) ?_
                              have h := sm h; subst h
                              refine StopP.out .ret (by kernel_rfl) ?_
                              exact ret_box (.inr rfl) [.keep [2] []] (by kernel_rfl) (by kernel_rfl) [] (by kernel_rfl)
                            · have h := cd_f hb14 h
                              refine StopP.advd tbOk [] 100000 1000 (by kernel_rfl) (by kernel_rfl) (ac_nil) ?_
                              refine StopP.cond (b := (a0.Op == (25 : Int))) (by kernel_rfl) (fun hb15 => ?_) (fun hb15 => ?_)
                              · have h := cd_t hb15 h
                                refine StopP.advd tbOk [] 100000 1000 (by kernel_rfl) (by kernel_rfl) (ac_nil) ?_
                                have h := sm h; subst h
                                refine StopP.out .ret (by kernel_rfl) ?_
                                exact ret_box (.inr rfl) [.keep [2] []] (by kernel_rfl) (by kernel_rfl) [] (by kernel_rfl)
                              · have h := cd_f hb15 h
                                refine StopP.advd tbOk [] 100000 1000 (by kernel_rfl) (by kernel_rfl) (ac_nil) ?_
                                have h := sm h; subst h
                                refine StopP.out .ret (by kernel_rfl) ?_
                                exact ret_box (.inr rfl) [.keep [2] []] (by kernel_rfl) (by kernel_rfl) [] (by kernel_rfl)

def g42_live_set.l0 (K : Nat) (a0 : (List Int)) : Nat → Int → Int → Option (Int)
  | 0, _, _ => none
  | k + 1, x6, x7 =>
    let b13 : Bool := (decide (x7 < (a0.length : Int)))
    bif b13 then
      gd (0 ≤ x7 ∧ x7 < (a0.length : Int)) <|
      gd (0 ≤ (a0.getD x7.toNat 0)) <|
      let i17 : Int := (IntKind.u16.wrap ((1 : Int) * 2 ^ min (a0.getD x7.toNat 0).toNat (IntKind.bits .u16)))
      g42_live_set.l0 K a0 k (Go.bits .or .u16 x6 i17) (IntKind.i64.wrap (x7 + (1 : Int)))
    else
      some x6

def g42_live_set.h0 (a0 : (List Int)) (x6 : Int) (x7 : Int) : Abs.St := ⟨[(3, .yes, v1 (cu .u16 x6)), (6, .yes, v1 (.t (.ro 1 eI 0 a0))), (7, .yes, v1 (ci (a0.length : Int))), (8, .yes, v1 (ci x7))], [], 18⟩

def g42_live_set.j0_0 (a0 : (List Int)) (o : Int) : Abs.St := ⟨[(3, .yes, v1 (cu .u16 o))], [], 18⟩

theorem g42_live_set.l0_ok {W : World} {A Kf : Nat → Prop} (K : Nat) (a0 : (List Int)) : ∀ (k : Nat) (x6 : Int) (x7 : Int) (o : Int), g42_live_set.l0 K a0 k x6 x7 = some o → WPR Try.prog W A Kf (kid [true, true, false, true, false, false] (bodyAt Try.f42)) (Out (.exit 0) (g42_live_set.j0_0 a0 o)) k (g42_live_set.h0 a0 x6 x7)
  | 0, x6, x7, o, h => by cases h
  | k + 1, x6, x7, o, h => by
    refine WPR.round ?_
    let b13 : Bool := (decide (x7 < (a0.length : Int)))
    refine StopP.advd tbOk [] 100000 1000 (by kernel_rfl) (by kernel_rfl) (ac_nil) ?_
    refine StopP.cond (b := b13) (by kernel_rfl) (fun hb14 => ?_) (fun hb14 => ?_)
    · have h := cd_t hb14 h
      obtain ⟨hg15, h⟩ := gd_some h
      obtain ⟨hg16, h⟩ := gd_some h
      let i17 : Int := (IntKind.u16.wrap ((1 : Int) * 2 ^ min (a0.getD x7.toNat 0).toNat (IntKind.bits .u16)))
      refine StopP.advd tbOk [] 100000 1000 (by kernel_rfl) (by kernel_rfl) (ac_y hg15 <| ac_y hg16 <| ac_nil) ?_
      refine StopP.out .normal (by kernel_rfl) ?_
      exact WPR.chg [.keep [3, 6, 7, 8] []] (by kernel_rfl) (g42_live_set.l0_ok K a0 k (Go.bits .or .u16 x6 i17) (IntKind.i64.wrap (x7 + (1 : Int))) o h)
    · have h := cd_f hb14 h
      refine StopP.advd tbOk [] 100000 1000 (by kernel_rfl) (by kernel_rfl) (ac_nil) ?_
      have h := sm h; subst h
      exact StopP.out (.exit 0) (by kernel_rfl) ⟨rfl, [.keep [3] []], by kernel_rfl⟩

def g42_live_set (K : Nat) (a0 : (List Int)) : Option (Int) :=
  (g42_live_set.l0 K a0 K (0 : Int) (0 : Int)).bind fun o18 =>
  some o18

theorem g42_live_set_ok (K : Nat) (a0 : (List Int)) (r : Int) (h : g42_live_set K a0 = some r) : AC Try.prog 42 [] [v1 (.t (.ro 1 eI 0 a0))] [] (v1 (cu .u16 r)) := by
  refine AC.intro (fn := Try.f42) tbOk (by kernel_rfl) rfl (by kernel_rfl) (fun W A Kf => ?_)
  refine StopP.advd tbOk [] 100000 1000 (by kernel_rfl) (by kernel_rfl) (ac_nil) ?_
  obtain ⟨o18, ho18, h⟩ := bd_some h
  refine StopP.lp (by kernel_rfl) [.keep [3, 6, 7, 8] []] (s := g42_live_set.h0 a0 (0 : Int) (0 : Int)) (by kernel_rfl) (c := (kid [true, true, false, true, false, false] (bodyAt Try.f42))) (by kernel_rfl) (e := (.exit 0)) (J := g42_live_set.j0_0 a0 o18) K (g42_live_set.l0_ok K a0 K (0 : Int) (0 : Int) o18 ho18) ?_
  refine StopP.advd tbOk [] 100000 1000 (by kernel_rfl) (by kernel_rfl) (ac_nil) ?_
  have h := sm h; subst h
  refine StopP.out .ret (by kernel_rfl) ?_
  exact ret_box (.inr rfl) [.keep [2] []] (by kernel_rfl) (by kernel_rfl) [] (by kernel_rfl)

def g28_dead_idle (K : Nat) (a0 : Op') (a1 : Int) : Option (Bool) :=
  (g36_flow_Writes K a0.Ins).bind fun r1 =>
  (g37_flow_Kind K a0.Ins).bind fun r2 =>
  let b3 : Bool := (decide (r1 < (0 : Int)))
  gd (((r2 == (0 : Int)) && (!b3)) = true → 0 ≤ r1) <|
  let i5 : Int := (Go.bits .and .u16 (Int.fdiv a1 (2 ^ min r1.toNat (IntKind.bits .u16))) (1 : Int))
  let b6 : Bool := (bif b3 then true else (i5 == (0 : Int)))
  let b7 : Bool := (bif (r2 == (0 : Int)) then b6 else false)
  some b7

theorem g28_dead_idle_ok (K : Nat) (a0 : Op') (a1 : Int) (r : Bool) (h : g28_dead_idle K a0 a1 = some r) : AC Try.prog 28 [] [.v true [ci a0.Ins.Op, ci a0.Ins.A, ci a0.Ins.B, ci a0.Ins.C, ci a0.Ins.Imm, cb a0.Rel, ci a0.Kind, ci a0.To, ci a0.Add], v1 (cu .u16 a1)] [] (v1 (cb r)) := by
  refine AC.intro (fn := Try.f28) tbOk (by kernel_rfl) rfl (by kernel_rfl) (fun W A Kf => ?_)
  obtain ⟨r1, hc1, h⟩ := bd_some h
  obtain ⟨r2, hc2, h⟩ := bd_some h
  let b3 : Bool := (decide (r1 < (0 : Int)))
  obtain ⟨hg4, h⟩ := gd_some h
  let i5 : Int := (Go.bits .and .u16 (Int.fdiv a1 (2 ^ min r1.toNat (IntKind.bits .u16))) (1 : Int))
  let b6 : Bool := (bif b3 then true else (i5 == (0 : Int)))
  let b7 : Bool := (bif (r2 == (0 : Int)) then b6 else false)
  refine StopP.advd tbOk [(1, [(2, .call [] [] (v1 (ci r1)))]), (2, [(2, .call [] [] (v1 (ci r2)))])] 100000 1000 (by kernel_rfl) (by kernel_rfl) (ac_y (g36_flow_Writes_ok K a0.Ins r1 hc1) <| ac_y (g37_flow_Kind_ok K a0.Ins r2 hc2) <| ac_on (r2 == (0 : Int)) (pt (r2 == (0 : Int))) <| ac_on (r2 == (0 : Int)) (pt (r2 == (0 : Int))) <| ac_on ((r2 == (0 : Int)) && (!b3)) (pt ((r2 == (0 : Int)) && (!b3))) <| ac_on ((r2 == (0 : Int)) && (!b3)) (pt ((r2 == (0 : Int)) && (!b3))) <| ac_on ((r2 == (0 : Int)) && (!b3)) hg4 <| ac_on ((r2 == (0 : Int)) && (!b3)) (pt ((r2 == (0 : Int)) && (!b3))) <| ac_on ((r2 == (0 : Int)) && (!b3)) (pt ((r2 == (0 : Int)) && (!b3))) <| ac_on (r2 == (0 : Int)) (pt (r2 == (0 : Int))) <| ac_on (r2 == (0 : Int)) (fun h => png b3 h) <| ac_y (pt (r2 == (0 : Int))) <| ac_nil) ?_
  have h := sm h; subst h
  refine StopP.out .ret (by kernel_rfl) ?_
  exact ret_box (.inr rfl) [.keep [4] []] (by kernel_rfl) (by kernel_rfl) [] (by kernel_rfl)

def g47_ref19_before (K : Nat) (a0 : Op') (a1 : Int) (a2 : Bool) : Option (Bool) :=
  let b1 : Bool := (a0.Ins.Op == (20 : Int))
  bif b1 then
    some true
  else
    (g58_ref03_Reads K a0.Ins a1).bind fun r3 =>
    (bif ((!r3) && a2) then g38_ref03_Writes K a0.Ins else some 0).bind fun r4 =>
    let b5 : Bool := (bif a2 then (r4 != a1) else false)
    let b6 : Bool := (bif r3 then true else b5)
    some b6

theorem g47_ref19_before_ok (K : Nat) (a0 : Op') (a1 : Int) (a2 : Bool) (r : Bool) (h : g47_ref19_before K a0 a1 a2 = some r) : AC Try.prog 47 [] [.v true [ci a0.Ins.Op, ci a0.Ins.A, ci a0.Ins.B, ci a0.Ins.C, ci a0.Ins.Imm, cb a0.Rel, ci a0.Kind, ci a0.To, ci a0.Add], v1 (ci a1), v1 (cb a2)] [] (v1 (cb r)) := by
  refine AC.intro (fn := Try.f47) tbOk (by kernel_rfl) rfl (by kernel_rfl) (fun W A Kf => ?_)
  let b1 : Bool := (a0.Ins.Op == (20 : Int))
  refine StopP.advd tbOk [] 100000 1000 (by kernel_rfl) (by kernel_rfl) (ac_nil) ?_
  refine StopP.cond (b := b1) (by kernel_rfl) (fun hb2 => ?_) (fun hb2 => ?_)
  · have h := cd_t hb2 h
    refine StopP.advd tbOk [] 100000 1000 (by kernel_rfl) (by kernel_rfl) (ac_nil) ?_
    have h := sm h; subst h
    refine StopP.out .ret (by kernel_rfl) ?_
    exact ret_box (.inr rfl) [.keep [6] []] (by kernel_rfl) (by kernel_rfl) [] (by kernel_rfl)
  · have h := cd_f hb2 h
    obtain ⟨r3, hc3, h⟩ := bd_some h
    obtain ⟨r4, hc4, h⟩ := bd_some h
    let b5 : Bool := (bif a2 then (r4 != a1) else false)
    let b6 : Bool := (bif r3 then true else b5)
    refine StopP.advd tbOk [(3, [(3, .call [] [] (v1 (cb r3))), (9, .call [] [] (v1 (ci r4)))])] 100000 1000 (by kernel_rfl) (by kernel_rfl) (ac_y (g58_ref03_Reads_ok K a0.Ins a1 r3 hc3) <| ac_on (!r3) (pt (!r3)) <| ac_on ((!r3) && a2) (pt ((!r3) && a2)) <| ac_on ((!r3) && a2) (pt ((!r3) && a2)) <| ac_on ((!r3) && a2) (fun h => g38_ref03_Writes_ok K a0.Ins r4 (cd_t h hc4)) <| ac_on ((!r3) && a2) (pt ((!r3) && a2)) <| ac_on ((!r3) && a2) (pt ((!r3) && a2)) <| ac_on (!r3) (pt (!r3)) <| ac_on (!r3) (fun h => ptg a2 h) <| ac_y (pn r3) <| ac_nil) ?_
    have h := sm h; subst h
    refine StopP.out .ret (by kernel_rfl) ?_
    exact ret_box (.inr rfl) [.keep [6] []] (by kernel_rfl) (by kernel_rfl) [] (by kernel_rfl)

def g45_ref19_end (K : Nat) (a0 : Term) (a1 : Int) (a2 : (List Bool)) : Option (Bool) :=
  bif (a0.Kind == (1 : Int)) then
    gd (0 ≤ a0.To ∧ a0.To < (a2.length : Int)) <|
    let b3 : Bool := (a2.getD a0.To.toNat false)
    some b3
  else
    bif (a0.Kind == (2 : Int)) then
      gd (0 ≤ a0.To ∧ a0.To < (a2.length : Int)) <|
      let b6 : Bool := (a2.getD a0.To.toNat false)
      gd ((!b6) = true → 0 ≤ a0.Else ∧ a0.Else < (a2.length : Int)) <|
      let b8 : Bool := (a2.getD a0.Else.toNat false)
      let b9 : Bool := (bif b6 then true else b8)
      let b10 : Bool := (bif b9 then true else (a0.A == a1))
      let b11 : Bool := (bif b10 then true else (a0.B == a1))
      some b11
    else
      let b12 : Bool := (a0.Ins.Op != (21 : Int))
      let b13 : Bool := (bif (a0.Kind == (3 : Int)) then b12 else false)
      bif b13 then
        (g58_ref03_Reads K a0.Ins a1).bind fun r15 =>
        some r15
      else
        some true

theorem g45_ref19_end_ok (K : Nat) (a0 : Term) (a1 : Int) (a2 : (List Bool)) (r : Bool) (h : g45_ref19_end K a0 a1 a2 = some r) : AC Try.prog 45 [] [.v true [ci a0.Kind, ci a0.Op, ci a0.A, ci a0.B, ci a0.To, ci a0.Else, ci a0.Ins.Op, ci a0.Ins.A, ci a0.Ins.B, ci a0.Ins.C, ci a0.Ins.Imm], v1 (ci a1), v1 (.t (.ro 1 eB false a2))] [] (v1 (cb r)) := by
  refine AC.intro (fn := Try.f45) tbOk (by kernel_rfl) rfl (by kernel_rfl) (fun W A Kf => ?_)
  refine StopP.advd tbOk [] 100000 1000 (by kernel_rfl) (by kernel_rfl) (ac_nil) ?_
  refine StopP.cond (b := (a0.Kind == (1 : Int))) (by kernel_rfl) (fun hb1 => ?_) (fun hb1 => ?_)
  · have h := cd_t hb1 h
    obtain ⟨hg2, h⟩ := gd_some h
    let b3 : Bool := (a2.getD a0.To.toNat false)
    refine StopP.advd tbOk [] 100000 1000 (by kernel_rfl) (by kernel_rfl) (ac_y hg2 <| ac_nil) ?_
    have h := sm h; subst h
    refine StopP.out .ret (by kernel_rfl) ?_
    exact ret_box (.inr rfl) [.keep [6] []] (by kernel_rfl) (by kernel_rfl) [] (by kernel_rfl)
  · have h := cd_f hb1 h
    refine StopP.advd tbOk [] 100000 1000 (by kernel_rfl) (by kernel_rfl) (ac_nil) ?_
    refine StopP.cond (b := (a0.Kind == (2 : Int))) (by kernel_rfl) (fun hb4 => ?_) (fun hb4 => ?_)
    · have h := cd_t hb4 h
      obtain ⟨hg5, h⟩ := gd_some h
      let b6 : Bool := (a2.getD a0.To.toNat false)
      obtain ⟨hg7, h⟩ := gd_some h
      let b8 : Bool := (a2.getD a0.Else.toNat false)
      let b9 : Bool := (bif b6 then true else b8)
      let b10 : Bool := (bif b9 then true else (a0.A == a1))
      let b11 : Bool := (bif b10 then true else (a0.B == a1))
      have q0 := ac_on (!b6) (pt (!b6)) <| ac_on (!b6) hg7 <| ac_on (!b6) (pt (!b6)) <| ac_y (pn b6) <| ac_on (!b9) (pt (!b9)) <| ac_on (!b9) (pt (!b9)) <| ac_on (!b9) (pt (!b9)) <| ac_y (pn b9) <| ac_on (!b10) (pt (!b10)) <| ac_on (!b10) (pt (!b10)) <| ac_on (!b10) (pt (!b10)) <| ac_y (pn b10) <| ac_nil
      refine StopP.advd tbOk [] 100000 1000 (by kernel_rfl) (by kernel_rfl) (ac_y hg5 <| ac_on (!b6) (pt (!b6)) <| ac_on (!b6) (pt (!b6)) <| q0) ?_
      have h := sm h; subst h
      refine StopP.out .ret (by kernel_rfl) ?_
      exact ret_box (.inr rfl) [.keep [6] []] (by kernel_rfl) (by kernel_rfl) [] (by kernel_rfl)
    · have h := cd_f hb4 h
      let b12 : Bool := (a0.Ins.Op != (21 : Int))
      let b13 : Bool := (bif (a0.Kind == (3 : Int)) then b12 else false)
      refine StopP.advd tbOk [] 100000 1000 (by kernel_rfl) (by kernel_rfl) (ac_on (a0.Kind == (3 : Int)) (pt (a0.Kind == (3 : Int))) <| ac_on (a0.Kind == (3 : Int)) (pt (a0.Kind == (3 : Int))) <| ac_on (a0.Kind == (3 : Int)) (pt (a0.Kind == (3 : Int))) <| ac_y (pt (a0.Kind == (3 : Int))) <| ac_nil) ?_
      refine StopP.cond (b := b13) (by kernel_rfl) (fun hb14 => ?_) (fun hb14 => ?_)
      · have h := cd_t hb14 h
        obtain ⟨r15, hc15, h⟩ := bd_some h
        refine StopP.advd tbOk [(6, [(3, .call [] [] (v1 (cb r15)))])] 100000 1000 (by kernel_rfl) (by kernel_rfl) (ac_y (g58_ref03_Reads_ok K a0.Ins a1 r15 hc15) <| ac_nil) ?_
        have h := sm h; subst h
        refine StopP.out .ret (by kernel_rfl) ?_
        exact ret_box (.inr rfl) [.keep [6] []] (by kernel_rfl) (by kernel_rfl) [] (by kernel_rfl)
      · have h := cd_f hb14 h
        refine StopP.advd tbOk [] 100000 1000 (by kernel_rfl) (by kernel_rfl) (ac_nil) ?_
        have h := sm h; subst h
        refine StopP.out .ret (by kernel_rfl) ?_
        exact ret_box (.inr rfl) [.keep [6] []] (by kernel_rfl) (by kernel_rfl) [] (by kernel_rfl)

def g46_ref19_In.l2 (K : Nat) (a0 : Graph) (a1 : Int) (x95 : Int) (x215 : (List Bool)) (x216 : Int) : Nat → Bool → Int → Option (Bool)
  | 0, _, _ => none
  | k + 1, x256, x257 =>
    let b263 : Bool := (decide (x257 ≥ (0 : Int)))
    bif b263 then
      gd (0 ≤ x216 ∧ x216 < (a0.Blocks.length : Int)) <|
      gd (0 ≤ x257 ∧ x257 < (((a0.Blocks.getD x216.toNat zBlock).Ops).length : Int)) <|
      (g47_ref19_before K (((a0.Blocks.getD x216.toNat zBlock).Ops).getD x257.toNat zOp) a1 x256).bind fun r267 =>
      g46_ref19_In.l2 K a0 a1 x95 x215 x216 k r267 (IntKind.i64.wrap (x257 - (1 : Int)))
    else
      some x256

def g46_ref19_In.h2 (a0 : Graph) (a1 : Int) (x95 : Int) (x215 : (List Bool)) (x216 : Int) (x256 : Bool) (x257 : Int) : Abs.St := ⟨[(1, .yes, v1 (ci a1)), (2, .yes, v1 (.ptr 2 0 0)), (5, .yes, v1 (.own 13)), (6, .yes, v1 (ci x95)), (7, .yes, v1 (ci x216)), (8, .yes, v1 (cb x256)), (9, .yes, v1 (ci x257))], [(2, .box 24 [cs a0.Name, cb a0.Keep, cb a0.Leaf, .t (.ro 12 cBlock zBlock a0.Blocks)]), (13, .rows 4 1 eB false x215)], 70⟩

def g46_ref19_In.j2_0 (a0 : Graph) (a1 : Int) (x95 : Int) (x215 : (List Bool)) (x216 : Int) (o : Bool) : Abs.St := ⟨[(1, .yes, v1 (ci a1)), (2, .yes, v1 (.ptr 2 0 0)), (5, .yes, v1 (.own 13)), (6, .yes, v1 (ci x95)), (7, .yes, v1 (ci x216)), (8, .yes, v1 (cb o))], [(2, .box 24 [cs a0.Name, cb a0.Keep, cb a0.Leaf, .t (.ro 12 cBlock zBlock a0.Blocks)]), (13, .rows 4 1 eB false x215)], 70⟩

theorem g46_ref19_In.l2_ok {W : World} {A Kf : Nat → Prop} (K : Nat) (a0 : Graph) (a1 : Int) (x95 : Int) (x215 : (List Bool)) (x216 : Int) : ∀ (k : Nat) (x256 : Bool) (x257 : Int) (o : Bool), g46_ref19_In.l2 K a0 a1 x95 x215 x216 k x256 x257 = some o → WPR Try.prog W A Kf (kid [true, true, false, true, false, false, true, false, false, true, false, false, true, false, false, true, false, true, false, false] (bodyAt Try.f46)) (Out (.exit 4) (g46_ref19_In.j2_0 a0 a1 x95 x215 x216 o)) k (g46_ref19_In.h2 a0 a1 x95 x215 x216 x256 x257)
  | 0, x256, x257, o, h => by cases h
  | k + 1, x256, x257, o, h => by
    refine WPR.round ?_
    let b263 : Bool := (decide (x257 ≥ (0 : Int)))
    refine StopP.advd tbOk [] 100000 1000 (by kernel_rfl) (by kernel_rfl) (ac_nil) ?_
    refine StopP.cond (b := b263) (by kernel_rfl) (fun hb264 => ?_) (fun hb264 => ?_)
    · have h := cd_t hb264 h
      obtain ⟨hg265, h⟩ := gd_some h
      obtain ⟨hg266, h⟩ := gd_some h
      obtain ⟨r267, hc267, h⟩ := bd_some h
      refine StopP.advd tbOk [(12, [(11, .call [] [] (v1 (cb r267)))])] 100000 1000 (by kernel_rfl) (by kernel_rfl) (ac_y hg265 <| ac_y hg266 <| ac_y (g47_ref19_before_ok K (((a0.Blocks.getD x216.toNat zBlock).Ops).getD x257.toNat zOp) a1 x256 r267 hc267) <| ac_nil) ?_
      refine StopP.out .normal (by kernel_rfl) ?_
      exact WPR.chg [.keep [1, 2, 5, 6, 7, 8, 9] [2, 13]] (by kernel_rfl) (g46_ref19_In.l2_ok K a0 a1 x95 x215 x216 k r267 (IntKind.i64.wrap (x257 - (1 : Int))) o h)
    · have h := cd_f hb264 h
      refine StopP.advd tbOk [] 100000 1000 (by kernel_rfl) (by kernel_rfl) (ac_nil) ?_
      have h := sm h; subst h
      exact StopP.out (.exit 4) (by kernel_rfl) ⟨rfl, [.keep [1, 2, 5, 6, 7, 8] [2, 13]], by kernel_rfl⟩

def g46_ref19_In.l1 (K : Nat) (a0 : Graph) (a1 : Int) (x95 : Int) : Nat → (List Bool) → Int → Option ((List Bool))
  | 0, _, _ => none
  | k + 1, x215, x216 =>
    let b245 : Bool := (decide (x216 < (x215.length : Int)))
    bif b245 then
      gd (0 ≤ x216 ∧ x216 < (a0.Blocks.length : Int)) <|
      (g45_ref19_end K ((a0.Blocks.getD x216.toNat zBlock).End) a1 x215).bind fun r248 =>
      gd (0 ≤ x216 ∧ x216 < (a0.Blocks.length : Int)) <|
      let i250 : Int := (IntKind.i64.wrap ((((a0.Blocks.getD x216.toNat zBlock).Ops).length : Int) - (1 : Int)))
      (g46_ref19_In.l2 K a0 a1 x95 x215 x216 K r248 i250).bind fun o268 =>
      gd (0 ≤ x216 ∧ x216 < (x215.length : Int)) <|
      let b270 : Bool := (x215.getD x216.toNat false)
      let b271 : Bool := (bif b270 then true else o268)
      gd (0 ≤ x216 ∧ x216 < (x215.length : Int)) <|
      g46_ref19_In.l1 K a0 a1 x95 k (x215.set x216.toNat b271) (IntKind.i64.wrap (x216 + (1 : Int)))
    else
      some x215

def g46_ref19_In.h1 (a0 : Graph) (a1 : Int) (x95 : Int) (x215 : (List Bool)) (x216 : Int) : Abs.St := ⟨[(1, .yes, v1 (ci a1)), (2, .yes, v1 (.ptr 2 0 0)), (5, .yes, v1 (.own 13)), (6, .yes, v1 (ci x95)), (7, .yes, v1 (ci x216))], [(2, .box 24 [cs a0.Name, cb a0.Keep, cb a0.Leaf, .t (.ro 12 cBlock zBlock a0.Blocks)]), (13, .rows 4 1 eB false x215)], 70⟩

def g46_ref19_In.j1_0 (a0 : Graph) (a1 : Int) (x95 : Int) (o : (List Bool)) : Abs.St := ⟨[(1, .yes, v1 (ci a1)), (2, .yes, v1 (.ptr 2 0 0)), (5, .yes, v1 (.own 13)), (6, .yes, v1 (ci x95))], [(2, .box 24 [cs a0.Name, cb a0.Keep, cb a0.Leaf, .t (.ro 12 cBlock zBlock a0.Blocks)]), (13, .rows 4 1 eB false o)], 70⟩

theorem g46_ref19_In.l1_ok {W : World} {A Kf : Nat → Prop} (K : Nat) (a0 : Graph) (a1 : Int) (x95 : Int) : ∀ (k : Nat) (x215 : (List Bool)) (x216 : Int) (o : (List Bool)), g46_ref19_In.l1 K a0 a1 x95 k x215 x216 = some o → WPR Try.prog W A Kf (kid [true, true, false, true, false, false, true, false, false, true, false, false] (bodyAt Try.f46)) (Out (.exit 2) (g46_ref19_In.j1_0 a0 a1 x95 o)) k (g46_ref19_In.h1 a0 a1 x95 x215 x216)
  | 0, x215, x216, o, h => by cases h
  | k + 1, x215, x216, o, h => by
    refine WPR.round ?_
    let b245 : Bool := (decide (x216 < (x215.length : Int)))
    refine StopP.advd tbOk [] 100000 1000 (by kernel_rfl) (by kernel_rfl) (ac_nil) ?_
    refine StopP.cond (b := b245) (by kernel_rfl) (fun hb246 => ?_) (fun hb246 => ?_)
    · have h := cd_t hb246 h
      obtain ⟨hg247, h⟩ := gd_some h
      obtain ⟨r248, hc248, h⟩ := bd_some h
      obtain ⟨hg249, h⟩ := gd_some h
      let i250 : Int := (IntKind.i64.wrap ((((a0.Blocks.getD x216.toNat zBlock).Ops).length : Int) - (1 : Int)))
      refine StopP.advd tbOk [(8, [(8, .call [] [] (v1 (cb r248)))])] 100000 1000 (by kernel_rfl) (by kernel_rfl) (ac_y hg247 <| ac_y (g45_ref19_end_ok K ((a0.Blocks.getD x216.toNat zBlock).End) a1 x215 r248 hc248) <| ac_c (show Plain [] (v1 (cb r248)) from ⟨rfl, fun _ h => by cases h⟩) <| ac_y hg249 <| ac_nil) ?_
      obtain ⟨o268, ho268, h⟩ := bd_some h
      refine StopP.lp (by kernel_rfl) [.keep [1, 2, 5, 6, 7, 8, 9] [2, 13]] (s := g46_ref19_In.h2 a0 a1 x95 x215 x216 r248 i250) (by kernel_rfl) (c := (kid [true, true, false, true, false, false, true, false, false, true, false, false, true, false, false, true, false, true, false, false] (bodyAt Try.f46))) (by kernel_rfl) (e := (.exit 4)) (J := g46_ref19_In.j2_0 a0 a1 x95 x215 x216 o268) K (g46_ref19_In.l2_ok K a0 a1 x95 x215 x216 K r248 i250 o268 ho268) ?_
      obtain ⟨hg269, h⟩ := gd_some h
      let b270 : Bool := (x215.getD x216.toNat false)
      let b271 : Bool := (bif b270 then true else o268)
      obtain ⟨hg272, h⟩ := gd_some h
      refine StopP.advd tbOk [(13, [(10, .obj (.rows 4 1 eB false (x215.set x216.toNat b271)))])] 100000 1000 (by kernel_rfl) (by kernel_rfl) (ac_y hg269 <| ac_y (tn hg269) <| ac_y (pn b270) <| ac_y hg272 <| ac_c (Stored.mk (ty := 4) (es := 1) (enc := eB) (z := false) (xs := x215) (i := x216.toNat) (j := 0) (n := 1) b271 (tn hg272) (by decide) rfl rfl rfl) <| ac_nil) ?_
      refine StopP.out .normal (by kernel_rfl) ?_
      exact WPR.chg [.keep [1, 2, 5, 6, 7] [2, 13]] (by kernel_rfl) (g46_ref19_In.l1_ok K a0 a1 x95 k (x215.set x216.toNat b271) (IntKind.i64.wrap (x216 + (1 : Int))) o h)
    · have h := cd_f hb246 h
      refine StopP.advd tbOk [] 100000 1000 (by kernel_rfl) (by kernel_rfl) (ac_nil) ?_
      have h := sm h; subst h
      exact StopP.out (.exit 2) (by kernel_rfl) ⟨rfl, [.keep [1, 2, 5, 6] [2, 13]], by kernel_rfl⟩

def g46_ref19_In.l0 (K : Nat) (a0 : Graph) (a1 : Int) : Nat → (List Bool) → Int → Option ((List Bool))
  | 0, _, _ => none
  | k + 1, x94, x95 =>
    let b185 : Bool := (decide (x95 ≤ (x94.length : Int)))
    bif b185 then
      (g46_ref19_In.l1 K a0 a1 x95 K x94 (0 : Int)).bind fun o273 =>
      g46_ref19_In.l0 K a0 a1 k o273 (IntKind.i64.wrap (x95 + (1 : Int)))
    else
      some x94

def g46_ref19_In.h0 (a0 : Graph) (a1 : Int) (x94 : (List Bool)) (x95 : Int) : Abs.St := ⟨[(1, .yes, v1 (ci a1)), (2, .yes, v1 (.ptr 2 0 0)), (5, .yes, v1 (.own 13)), (6, .yes, v1 (ci x95))], [(2, .box 24 [cs a0.Name, cb a0.Keep, cb a0.Leaf, .t (.ro 12 cBlock zBlock a0.Blocks)]), (13, .rows 4 1 eB false x94)], 70⟩

def g46_ref19_In.j0_0 (a0 : Graph) (a1 : Int) (o : (List Bool)) : Abs.St := ⟨[(5, .yes, v1 (.own 13))], [(13, .rows 4 1 eB false o)], 70⟩

theorem g46_ref19_In.l0_ok {W : World} {A Kf : Nat → Prop} (K : Nat) (a0 : Graph) (a1 : Int) : ∀ (k : Nat) (x94 : (List Bool)) (x95 : Int) (o : (List Bool)), g46_ref19_In.l0 K a0 a1 k x94 x95 = some o → WPR Try.prog W A Kf (kid [true, true, false, true, false, false] (bodyAt Try.f46)) (Out (.exit 0) (g46_ref19_In.j0_0 a0 a1 o)) k (g46_ref19_In.h0 a0 a1 x94 x95)
  | 0, x94, x95, o, h => by cases h
  | k + 1, x94, x95, o, h => by
    refine WPR.round ?_
    let b185 : Bool := (decide (x95 ≤ (x94.length : Int)))
    refine StopP.advd tbOk [] 100000 1000 (by kernel_rfl) (by kernel_rfl) (ac_nil) ?_
    refine StopP.cond (b := b185) (by kernel_rfl) (fun hb186 => ?_) (fun hb186 => ?_)
    · have h := cd_t hb186 h
      refine StopP.advd tbOk [] 100000 1000 (by kernel_rfl) (by kernel_rfl) (ac_nil) ?_
      obtain ⟨o273, ho273, h⟩ := bd_some h
      refine StopP.lp (by kernel_rfl) [.keep [1, 2, 5, 6, 7] [2, 13]] (s := g46_ref19_In.h1 a0 a1 x95 x94 (0 : Int)) (by kernel_rfl) (c := (kid [true, true, false, true, false, false, true, false, false, true, false, false] (bodyAt Try.f46))) (by kernel_rfl) (e := (.exit 2)) (J := g46_ref19_In.j1_0 a0 a1 x95 o273) K (g46_ref19_In.l1_ok K a0 a1 x95 K x94 (0 : Int) o273 ho273) ?_
      refine StopP.advd tbOk [] 100000 1000 (by kernel_rfl) (by kernel_rfl) (ac_nil) ?_
      refine StopP.out .normal (by kernel_rfl) ?_
      exact WPR.chg [.keep [1, 2, 5, 6] [2, 13]] (by kernel_rfl) (g46_ref19_In.l0_ok K a0 a1 k o273 (IntKind.i64.wrap (x95 + (1 : Int))) o h)
    · have h := cd_f hb186 h
      refine StopP.advd tbOk [] 100000 1000 (by kernel_rfl) (by kernel_rfl) (ac_nil) ?_
      have h := sm h; subst h
      exact StopP.out (.exit 0) (by kernel_rfl) ⟨rfl, [.keep [5] [13]], by kernel_rfl⟩

def g46_ref19_In (K : Nat) (a0 : Graph) (a1 : Int) : Option ((List Bool)) :=
  gd (0 ≤ (a0.Blocks.length : Int) ∧ (a0.Blocks.length : Int).toNat ≤ 1073741824) <|
  (g46_ref19_In.l0 K a0 a1 K (List.replicate (a0.Blocks.length : Int).toNat false) (0 : Int)).bind fun o274 =>
  some o274

theorem g46_ref19_In_ok (K : Nat) (a0 : Graph) (a1 : Int) (r : (List Bool)) (h : g46_ref19_In K a0 a1 = some r) : AC Try.prog 46 [] [.v true [cs a0.Name, cb a0.Keep, cb a0.Leaf, .t (.ro 12 cBlock zBlock a0.Blocks)], v1 (ci a1)] [(7000, .rows 4 1 eB false r)] (v1 (.own 7000)) := by
  refine AC.intro (fn := Try.f46) tbOk (by kernel_rfl) rfl (by kernel_rfl) (fun W A Kf => ?_)
  obtain ⟨hg1, h⟩ := gd_some h
  refine StopP.advd tbOk [(1, [(3, .obj (.rows 4 1 eB false (List.replicate (a0.Blocks.length : Int).toNat false)))])] 100000 1000 (by kernel_rfl) (by kernel_rfl) (ac_c (rfl : (a0.Blocks.length : Int) = (a0.Blocks.length : Int)) <| ac_c (Made.mk (ty := 4) (es := 1) (by_ := 1) (enc := eB) (z := false) (n := (a0.Blocks.length : Int)) hg1.1 rfl (sl hg1.2) (sb2 hg1.2 (by decide))) <| ac_nil) ?_
  obtain ⟨o274, ho274, h⟩ := bd_some h
  refine StopP.lp (by kernel_rfl) [.keep [1, 2, 5, 6] [2, 13]] (s := g46_ref19_In.h0 a0 a1 (List.replicate (a0.Blocks.length : Int).toNat false) (0 : Int)) (by kernel_rfl) (c := (kid [true, true, false, true, false, false] (bodyAt Try.f46))) (by kernel_rfl) (e := (.exit 0)) (J := g46_ref19_In.j0_0 a0 a1 o274) K (g46_ref19_In.l0_ok K a0 a1 K (List.replicate (a0.Blocks.length : Int).toNat false) (0 : Int) o274 ho274) ?_
  refine StopP.advd tbOk [] 100000 1000 (by kernel_rfl) (by kernel_rfl) (ac_nil) ?_
  have h := sm h; subst h
  refine StopP.out .ret (by kernel_rfl) ?_
  exact ret_box (.inr rfl) [.keep [4] [13], .ren [(13, 7000)]] (by kernel_rfl) (by kernel_rfl) [7000] (by kernel_rfl)

theorem g46_ref19_In_fz (K : Nat) (a0 : Graph) (a1 : Int) (r : (List Bool)) (h : g46_ref19_In K a0 a1 = some r) : AC Try.prog 46 [] [.v true [cs a0.Name, cb a0.Keep, cb a0.Leaf, .t (.ro 12 cBlock zBlock a0.Blocks)], v1 (ci a1)] [] (v1 (.t (.ro 1 eB false r))) :=
  AC.cast (AC.fz (g46_ref19_In_ok K a0 a1 r h) 7000 (o := .rows 4 1 eB false r) (t := .ro 1 eB false r) (by kernel_rfl) (by kernel_rfl)) (by kernel_rfl) (by kernel_rfl)

def g40_ref19_After.l0 (K : Nat) (a0 : Graph) (a1 : Int) (a2 : Int) : Nat → (List Bool) → Bool → Int → Option ((List Bool))
  | 0, _, _, _ => none
  | k + 1, x13, x14, x15 =>
    let b21 : Bool := (decide (x15 ≥ (0 : Int)))
    bif b21 then
      gd (0 ≤ x15 ∧ x15 < (x13.length : Int)) <|
      gd (0 ≤ x15 ∧ x15 < (((a0.Blocks.getD a1.toNat zBlock).Ops).length : Int)) <|
      (g47_ref19_before K (((a0.Blocks.getD a1.toNat zBlock).Ops).getD x15.toNat zOp) a2 x14).bind fun r25 =>
      g40_ref19_After.l0 K a0 a1 a2 k (x13.set x15.toNat x14) r25 (IntKind.i64.wrap (x15 - (1 : Int)))
    else
      some x13

def g40_ref19_After.h0 (a0 : Graph) (a1 : Int) (a2 : Int) (x13 : (List Bool)) (x14 : Bool) (x15 : Int) : Abs.St := ⟨[(2, .yes, v1 (ci a2)), (7, .yes, v1 (.t (.ro 9 cOp zOp ((a0.Blocks.getD a1.toNat zBlock).Ops)))), (8, .yes, v1 (.own 19)), (9, .yes, v1 (cb x14)), (10, .yes, v1 (ci x15))], [(19, .rows 4 1 eB false x13)], 50⟩

def g40_ref19_After.j0_0 (a0 : Graph) (a1 : Int) (a2 : Int) (o : (List Bool)) : Abs.St := ⟨[(8, .yes, v1 (.own 19))], [(19, .rows 4 1 eB false o)], 50⟩

theorem g40_ref19_After.l0_ok {W : World} {A Kf : Nat → Prop} (K : Nat) (a0 : Graph) (a1 : Int) (a2 : Int) : ∀ (k : Nat) (x13 : (List Bool)) (x14 : Bool) (x15 : Int) (o : (List Bool)), g40_ref19_After.l0 K a0 a1 a2 k x13 x14 x15 = some o → WPR Try.prog W A Kf (kid [true, true, true, true, false, true, false, false] (bodyAt Try.f40)) (Out (.exit 0) (g40_ref19_After.j0_0 a0 a1 a2 o)) k (g40_ref19_After.h0 a0 a1 a2 x13 x14 x15)
  | 0, x13, x14, x15, o, h => by cases h
  | k + 1, x13, x14, x15, o, h => by
    refine WPR.round ?_
    let b21 : Bool := (decide (x15 ≥ (0 : Int)))
    refine StopP.advd tbOk [] 100000 1000 (by kernel_rfl) (by kernel_rfl) (ac_nil) ?_
    refine StopP.cond (b := b21) (by kernel_rfl) (fun hb22 => ?_) (fun hb22 => ?_)
    · have h := cd_t hb22 h
      obtain ⟨hg23, h⟩ := gd_some h
      obtain ⟨hg24, h⟩ := gd_some h
      obtain ⟨r25, hc25, h⟩ := bd_some h
      refine StopP.advd tbOk [(7, [(4, .obj (.rows 4 1 eB false (x13.set x15.toNat x14)))]), (8, [(6, .call [] [] (v1 (cb r25)))])] 100000 1000 (by kernel_rfl) (by kernel_rfl) (ac_y hg23 <| ac_c (Stored.mk (ty := 4) (es := 1) (enc := eB) (z := false) (xs := x13) (i := x15.toNat) (j := 0) (n := 1) x14 (tn hg23) (by decide) rfl rfl rfl) <| ac_y hg24 <| ac_y (g47_ref19_before_ok K (((a0.Blocks.getD a1.toNat zBlock).Ops).getD x15.toNat zOp) a2 x14 r25 hc25) <| ac_nil) ?_
      refine StopP.out .normal (by kernel_rfl) ?_
      exact WPR.chg [.keep [2, 7, 8, 9, 10] [19]] (by kernel_rfl) (g40_ref19_After.l0_ok K a0 a1 a2 k (x13.set x15.toNat x14) r25 (IntKind.i64.wrap (x15 - (1 : Int))) o h)
    · have h := cd_f hb22 h
      refine StopP.advd tbOk [] 100000 1000 (by kernel_rfl) (by kernel_rfl) (ac_nil) ?_
      have h := sm h; subst h
      exact StopP.out (.exit 0) (by kernel_rfl) ⟨rfl, [.keep [8] [19]], by kernel_rfl⟩

def g40_ref19_After (K : Nat) (a0 : Graph) (a1 : Int) (a2 : Int) : Option ((List Bool)) :=
  gd (0 ≤ a1 ∧ a1 < (a0.Blocks.length : Int)) <|
  gd (0 ≤ (((a0.Blocks.getD a1.toNat zBlock).Ops).length : Int) ∧ (((a0.Blocks.getD a1.toNat zBlock).Ops).length : Int).toNat ≤ 1073741824) <|
  let y3 : List Bool := (List.replicate (((a0.Blocks.getD a1.toNat zBlock).Ops).length : Int).toNat false)
  gd (0 ≤ a1 ∧ a1 < (a0.Blocks.length : Int)) <|
  (g46_ref19_In K a0 a2).bind fun r5 =>
  (g45_ref19_end K ((a0.Blocks.getD a1.toNat zBlock).End) a2 r5).bind fun r6 =>
  let i7 : Int := (IntKind.i64.wrap ((((a0.Blocks.getD a1.toNat zBlock).Ops).length : Int) - (1 : Int)))
  (g40_ref19_After.l0 K a0 a1 a2 K y3 r6 i7).bind fun o26 =>
  some o26

theorem g40_ref19_After_ok (K : Nat) (a0 : Graph) (a1 : Int) (a2 : Int) (r : (List Bool)) (h : g40_ref19_After K a0 a1 a2 = some r) : AC Try.prog 40 [] [.v true [cs a0.Name, cb a0.Keep, cb a0.Leaf, .t (.ro 12 cBlock zBlock a0.Blocks)], v1 (ci a1), v1 (ci a2)] [(7000, .rows 4 1 eB false r)] (v1 (.own 7000)) := by
  refine AC.intro (fn := Try.f40) tbOk (by kernel_rfl) rfl (by kernel_rfl) (fun W A Kf => ?_)
  obtain ⟨hg1, h⟩ := gd_some h
  obtain ⟨hg2, h⟩ := gd_some h
  let y3 : List Bool := (List.replicate (((a0.Blocks.getD a1.toNat zBlock).Ops).length : Int).toNat false)
  obtain ⟨hg4, h⟩ := gd_some h
  obtain ⟨r5, hc5, h⟩ := bd_some h
  obtain ⟨r6, hc6, h⟩ := bd_some h
  let i7 : Int := (IntKind.i64.wrap ((((a0.Blocks.getD a1.toNat zBlock).Ops).length : Int) - (1 : Int)))
  refine StopP.advd tbOk [(2, [(2, .obj (.rows 4 1 eB false (List.replicate (((a0.Blocks.getD a1.toNat zBlock).Ops).length : Int).toNat false)))]), (3, [(9, .call [] [] (v1 (.t (.ro 1 eB false r5)))), (10, .call [] [] (v1 (cb r6)))])] 100000 1000 (by kernel_rfl) (by kernel_rfl) (ac_y hg1 <| ac_c (rfl : (((a0.Blocks.getD a1.toNat zBlock).Ops).length : Int) = (((a0.Blocks.getD a1.toNat zBlock).Ops).length : Int)) <| ac_c (Made.mk (ty := 4) (es := 1) (by_ := 1) (enc := eB) (z := false) (n := (((a0.Blocks.getD a1.toNat zBlock).Ops).length : Int)) hg2.1 rfl (sl hg2.2) (sb2 hg2.2 (by decide))) <| ac_y hg4 <| ac_y (g46_ref19_In_fz K a0 a2 r5 hc5) <| ac_y (g45_ref19_end_ok K ((a0.Blocks.getD a1.toNat zBlock).End) a2 r5 r6 hc6) <| ac_nil) ?_
  obtain ⟨o26, ho26, h⟩ := bd_some h
  refine StopP.lp (by kernel_rfl) [.keep [2, 7, 8, 9, 10] [19]] (s := g40_ref19_After.h0 a0 a1 a2 y3 r6 i7) (by kernel_rfl) (c := (kid [true, true, true, true, false, true, false, false] (bodyAt Try.f40))) (by kernel_rfl) (e := (.exit 0)) (J := g40_ref19_After.j0_0 a0 a1 a2 o26) K (g40_ref19_After.l0_ok K a0 a1 a2 K y3 r6 i7 o26 ho26) ?_
  refine StopP.advd tbOk [] 100000 1000 (by kernel_rfl) (by kernel_rfl) (ac_nil) ?_
  have h := sm h; subst h
  refine StopP.out .ret (by kernel_rfl) ?_
  exact ret_box (.inr rfl) [.keep [6] [19], .ren [(19, 7000)]] (by kernel_rfl) (by kernel_rfl) [7000] (by kernel_rfl)

theorem g40_ref19_After_fz (K : Nat) (a0 : Graph) (a1 : Int) (a2 : Int) (r : (List Bool)) (h : g40_ref19_After K a0 a1 a2 = some r) : AC Try.prog 40 [] [.v true [cs a0.Name, cb a0.Keep, cb a0.Leaf, .t (.ro 12 cBlock zBlock a0.Blocks)], v1 (ci a1), v1 (ci a2)] [] (v1 (.t (.ro 1 eB false r))) :=
  AC.cast (AC.fz (g40_ref19_After_ok K a0 a1 a2 r h) 7000 (o := .rows 4 1 eB false r) (t := .ro 1 eB false r) (by kernel_rfl) (by kernel_rfl)) (by kernel_rfl) (by kernel_rfl)

def g29_ref22_idle (K : Nat) (a0 : Graph) (a1 : Int) (a2 : Int) : Option (Bool) :=
  gd (0 ≤ a1 ∧ a1 < (a0.Blocks.length : Int)) <|
  gd (0 ≤ a2 ∧ a2 < (((a0.Blocks.getD a1.toNat zBlock).Ops).length : Int)) <|
  (g38_ref03_Writes K ((((a0.Blocks.getD a1.toNat zBlock).Ops).getD a2.toNat zOp).Ins)).bind fun r3 =>
  (g39_ref03_Kind K ((((a0.Blocks.getD a1.toNat zBlock).Ops).getD a2.toNat zOp).Ins)).bind fun r4 =>
  let b5 : Bool := (decide (r3 < (0 : Int)))
  (bif ((r4 == (0 : Int)) && (!b5)) then g40_ref19_After K a0 a1 r3 else some []).bind fun r6 =>
  gd (((r4 == (0 : Int)) && (!b5)) = true → 0 ≤ a2 ∧ a2 < (r6.length : Int)) <|
  let b8 : Bool := (!(r6.getD a2.toNat false))
  let b9 : Bool := (bif b5 then true else b8)
  let b10 : Bool := (bif (r4 == (0 : Int)) then b9 else false)
  some b10

theorem g29_ref22_idle_ok (K : Nat) (a0 : Graph) (a1 : Int) (a2 : Int) (r : Bool) (h : g29_ref22_idle K a0 a1 a2 = some r) : AC Try.prog 29 [] [.v true [cs a0.Name, cb a0.Keep, cb a0.Leaf, .t (.ro 12 cBlock zBlock a0.Blocks)], v1 (ci a1), v1 (ci a2)] [] (v1 (cb r)) := by
  refine AC.intro (fn := Try.f29) tbOk (by kernel_rfl) rfl (by kernel_rfl) (fun W A Kf => ?_)
  obtain ⟨hg1, h⟩ := gd_some h
  obtain ⟨hg2, h⟩ := gd_some h
  obtain ⟨r3, hc3, h⟩ := bd_some h
  obtain ⟨r4, hc4, h⟩ := bd_some h
  let b5 : Bool := (decide (r3 < (0 : Int)))
  obtain ⟨r6, hc6, h⟩ := bd_some h
  obtain ⟨hg7, h⟩ := gd_some h
  let b8 : Bool := (!(r6.getD a2.toNat false))
  let b9 : Bool := (bif b5 then true else b8)
  let b10 : Bool := (bif (r4 == (0 : Int)) then b9 else false)
  have q0 := ac_on ((r4 == (0 : Int)) && (!b5)) (pt ((r4 == (0 : Int)) && (!b5))) <| ac_on ((r4 == (0 : Int)) && (!b5)) (pt ((r4 == (0 : Int)) && (!b5))) <| ac_on ((r4 == (0 : Int)) && (!b5)) (pt ((r4 == (0 : Int)) && (!b5))) <| ac_on ((r4 == (0 : Int)) && (!b5)) (fun h => g40_ref19_After_fz K a0 a1 r3 r6 (cd_t h hc6)) <| ac_on ((r4 == (0 : Int)) && (!b5)) (pt ((r4 == (0 : Int)) && (!b5))) <| ac_on ((r4 == (0 : Int)) && (!b5)) (pt ((r4 == (0 : Int)) && (!b5))) <| ac_on ((r4 == (0 : Int)) && (!b5)) hg7 <| ac_on ((r4 == (0 : Int)) && (!b5)) (pt ((r4 == (0 : Int)) && (!b5))) <| ac_on ((r4 == (0 : Int)) && (!b5)) (pt ((r4 == (0 : Int)) && (!b5))) <| ac_on (r4 == (0 : Int)) (pt (r4 == (0 : Int))) <| ac_on (r4 == (0 : Int)) (fun h => png b5 h) <| ac_y (pt (r4 == (0 : Int))) <| ac_nil
  refine StopP.advd tbOk [(2, [(2, .call [] [] (v1 (ci r3)))]), (3, [(2, .call [] [] (v1 (ci r4))), (11, .call [] [] (v1 (.t (.ro 1 eB false r6))))])] 100000 1000 (by kernel_rfl) (by kernel_rfl) (ac_y hg1 <| ac_y hg2 <| ac_y (g38_ref03_Writes_ok K ((((a0.Blocks.getD a1.toNat zBlock).Ops).getD a2.toNat zOp).Ins) r3 hc3) <| ac_y (g39_ref03_Kind_ok K ((((a0.Blocks.getD a1.toNat zBlock).Ops).getD a2.toNat zOp).Ins) r4 hc4) <| ac_on (r4 == (0 : Int)) (pt (r4 == (0 : Int))) <| ac_on (r4 == (0 : Int)) (pt (r4 == (0 : Int))) <| q0) ?_
  have h := sm h; subst h
  refine StopP.out .ret (by kernel_rfl) ?_
  exact ret_box (.inr rfl) [.keep [6] []] (by kernel_rfl) (by kernel_rfl) [] (by kernel_rfl)

def g21_ref16_Copy.l0 (K : Nat) (a0 : Graph) : Nat → (List Block) → Int → Option (ByteArray × (List Block))
  | 0, _, _ => none
  | k + 1, x23, x24 =>
    let b32 : Bool := (decide (x24 < (a0.Blocks.length : Int)))
    bif b32 then
      gd (0 ≤ x24 ∧ x24 < (a0.Blocks.length : Int)) <|
      gd (([] : List Op').length + ((a0.Blocks.getD x24.toNat zBlock).Ops).length ≤ 1073741824) <|
      gd (0 ≤ x24 ∧ x24 < (a0.Blocks.length : Int)) <|
      let y37 : List Block := ([(⟨(([] : List Op') ++ (a0.Blocks.getD x24.toNat zBlock).Ops), (a0.Blocks.getD x24.toNat zBlock).End⟩ : Block)] : List Block)
      gd (x23.length + y37.length ≤ 1073741824) <|
      g21_ref16_Copy.l0 K a0 k (x23 ++ y37) (IntKind.i64.wrap (x24 + (1 : Int)))
    else
      some (ByteArray.empty, x23)

def g21_ref16_Copy.h0 (a0 : Graph) (x23 : (List Block)) (x24 : Int) : Abs.St := ⟨[(1, .yes, v1 (.ptr 1 0 0)), (2, .yes, v1 (.ptr 2 0 0)), (3, .yes, v1 (.ptr 3 0 0)), (4, .yes, v1 (ci x24))], [(1, .box 24 [cs a0.Name, cb a0.Keep, cb a0.Leaf, .t (.ro 12 cBlock zBlock a0.Blocks)]), (2, .box 24 [cs ByteArray.empty, cb false, cb false, .t (.ro 12 cBlock zBlock ([]))]), (3, .box 24 [cs a0.Name, cb a0.Keep, cb a0.Leaf, .own 5000]), (5000, .rows 39 12 cBlock zBlock x23)], 35⟩

def g21_ref16_Copy.j0_0 (a0 : Graph) (o : ByteArray × (List Block)) : Abs.St := ⟨[(2, .yes, v1 (.ptr 2 0 0)), (3, .yes, v1 (.ptr 3 0 0))], [(2, .box 24 [cs o.1, cb false, cb false, .t (.ro 12 cBlock zBlock ([]))]), (3, .box 24 [cs a0.Name, cb a0.Keep, cb a0.Leaf, .own 5000]), (5000, .rows 39 12 cBlock zBlock o.2)], 35⟩

theorem g21_ref16_Copy.l0_ok {W : World} {A Kf : Nat → Prop} (K : Nat) (a0 : Graph) : ∀ (k : Nat) (x23 : (List Block)) (x24 : Int) (o : ByteArray × (List Block)), g21_ref16_Copy.l0 K a0 k x23 x24 = some o → WPR Try.prog W A Kf (kid [true, true, true, false, true, false, false] (bodyAt Try.f21)) (Out (.exit 0) (g21_ref16_Copy.j0_0 a0 o)) k (g21_ref16_Copy.h0 a0 x23 x24)
  | 0, x23, x24, o, h => by cases h
  | k + 1, x23, x24, o, h => by
    refine WPR.round ?_
    let b32 : Bool := (decide (x24 < (a0.Blocks.length : Int)))
    refine StopP.advd tbOk [] 100000 1000 (by kernel_rfl) (by kernel_rfl) (ac_nil) ?_
    refine StopP.cond (b := b32) (by kernel_rfl) (fun hb33 => ?_) (fun hb33 => ?_)
    · have h := cd_t hb33 h
      obtain ⟨hg34, h⟩ := gd_some h
      obtain ⟨hg35, h⟩ := gd_some h
      obtain ⟨hg36, h⟩ := gd_some h
      let y37 : List Block := ([(⟨(([] : List Op') ++ (a0.Blocks.getD x24.toNat zBlock).Ops), (a0.Blocks.getD x24.toNat zBlock).End⟩ : Block)] : List Block)
      obtain ⟨hg38, h⟩ := gd_some h
      refine StopP.advd tbOk [(6, [(2, .obj (.rows 35 9 cOp zOp ([] : List Op'))), (9, .fz (.rows 35 9 cOp zOp (([] : List Op') ++ (a0.Blocks.getD x24.toNat zBlock).Ops))), (17, .obj (.rows 39 12 cBlock zBlock ([(⟨(([] : List Op') ++ (a0.Blocks.getD x24.toNat zBlock).Ops), (a0.Blocks.getD x24.toNat zBlock).End⟩ : Block)] : List Block))), (18, .obj (.rows 39 12 cBlock zBlock (x23 ++ y37)))])] 100000 1000 (by kernel_rfl) (by kernel_rfl) (ac_c (Built.mk (ty := 35) (es := 9) (enc := cOp) (z := zOp) (xs := ([] : List Op')) (fun _ _ => rfl) (by decide : (0 * 9 : Nat) ≤ 16777216)) <| ac_y hg34 <| ac_c (Appended.mk (ty := 35) (es := 9) (by_ := 72) (enc := cOp) (z := zOp) (z' := zOp) (xs := ([] : List Op')) (ys := (a0.Blocks.getD x24.toNat zBlock).Ops) (fun _ _ => rfl) (sl hg35) (sb hg35 (by decide))) <| ac_y hg36 <| ac_c (Built.mk (ty := 39) (es := 12) (enc := cBlock) (z := zBlock) (xs := ([(⟨(([] : List Op') ++ (a0.Blocks.getD x24.toNat zBlock).Ops), (a0.Blocks.getD x24.toNat zBlock).End⟩ : Block)] : List Block)) (fun _ _ => rfl) (by decide : (1 * 12 : Nat) ≤ 16777216)) <| ac_c (Appended.mk (ty := 39) (es := 12) (by_ := 112) (enc := cBlock) (z := zBlock) (z' := zBlock) (xs := x23) (ys := y37) (fun _ _ => rfl) (sl hg38) (sb hg38 (by decide))) <| ac_nil) ?_
      refine StopP.out .normal (by kernel_rfl) ?_
      exact WPR.chg [.keep [1, 2, 3, 4] [1, 2, 3, 32], .ren [(32, 5000)]] (by kernel_rfl) (g21_ref16_Copy.l0_ok K a0 k (x23 ++ y37) (IntKind.i64.wrap (x24 + (1 : Int))) o h)
    · have h := cd_f hb33 h
      refine StopP.advd tbOk [] 100000 1000 (by kernel_rfl) (by kernel_rfl) (ac_nil) ?_
      have h := sm h; subst h
      exact StopP.out (.exit 0) (by kernel_rfl) ⟨rfl, [.keep [2, 3] [2, 3, 5000]], by kernel_rfl⟩

def g21_ref16_Copy (K : Nat) (a0 : Graph) : Option (Graph) :=
  (g21_ref16_Copy.l0 K a0 K ([]) (0 : Int)).bind fun o39 =>
  some (⟨a0.Name, a0.Keep, a0.Leaf, o39.2⟩ : Graph)

theorem g21_ref16_Copy_ok (K : Nat) (a0 : Graph) (r : Graph) (h : g21_ref16_Copy K a0 = some r) : AC Try.prog 21 [] [.v true [cs a0.Name, cb a0.Keep, cb a0.Leaf, .t (.ro 12 cBlock zBlock a0.Blocks)]] [(7000, .rows 39 12 cBlock zBlock r.Blocks)] (.v true [cs r.Name, cb r.Keep, cb r.Leaf, .own 7000]) := by
  refine AC.intro (fn := Try.f21) tbOk (by kernel_rfl) rfl (by kernel_rfl) (fun W A Kf => ?_)
  refine StopP.advd tbOk [] 100000 1000 (by kernel_rfl) (by kernel_rfl) (ac_nil) ?_
  obtain ⟨o39, ho39, h⟩ := bd_some h
  refine StopP.lp (by kernel_rfl) [.own (.box 3 3) 5000 (.rows 39 12 cBlock zBlock []), .keep [1, 2, 3, 4] [1, 2, 3, 5000]] (s := g21_ref16_Copy.h0 a0 ([]) (0 : Int)) (by kernel_rfl) (c := (kid [true, true, true, false, true, false, false] (bodyAt Try.f21))) (by kernel_rfl) (e := (.exit 0)) (J := g21_ref16_Copy.j0_0 a0 o39) K (g21_ref16_Copy.l0_ok K a0 K ([]) (0 : Int) o39 ho39) ?_
  refine StopP.advd tbOk [] 100000 1000 (by kernel_rfl) (by kernel_rfl) (ac_nil) ?_
  have h := sm h; subst h
  refine StopP.out .ret (by kernel_rfl) ?_
  exact ret_box (.inr rfl) [.keep [2] [2, 5000], .ren [(5000, 7000)]] (by kernel_rfl) (by kernel_rfl) [7000] (by kernel_rfl)

theorem g21_ref16_Copy_fz (K : Nat) (a0 : Graph) (r : Graph) (h : g21_ref16_Copy K a0 = some r) : AC Try.prog 21 [] [.v true [cs a0.Name, cb a0.Keep, cb a0.Leaf, .t (.ro 12 cBlock zBlock a0.Blocks)]] [] (.v true [cs r.Name, cb r.Keep, cb r.Leaf, .t (.ro 12 cBlock zBlock r.Blocks)]) :=
  AC.cast (AC.fz (g21_ref16_Copy_ok K a0 r h) 7000 (o := .rows 39 12 cBlock zBlock r.Blocks) (t := .ro 12 cBlock zBlock r.Blocks) (by kernel_rfl) (by kernel_rfl)) (by kernel_rfl) (by kernel_rfl)

def g12_ref22_Thread.l0 (K : Nat) (a0 : Graph) (r1 : Graph) : Nat → (List Block) → Int → Option (ByteArray × (List Block))
  | 0, _, _ => none
  | k + 1, x31, x32 =>
    let b62 : Bool := (decide (x32 < (x31.length : Int)))
    bif b62 then
      gd (0 ≤ x32 ∧ x32 < (a0.Blocks.length : Int)) <|
      let b65 : Bool := ((a0.Blocks.getD x32.toNat zBlock).End.Kind == (1 : Int))
      let b66 : Bool := ((a0.Blocks.getD x32.toNat zBlock).End.Kind == (2 : Int))
      let b67 : Bool := (bif b65 then true else b66)
      bif b67 then
        (g25_ref22_through K a0 ((a0.Blocks.getD x32.toNat zBlock).End.To)).bind fun r69 =>
        let b70 : Bool := ((a0.Blocks.getD x32.toNat zBlock).End.Kind == (2 : Int))
        bif b70 then
          (g25_ref22_through K a0 ((a0.Blocks.getD x32.toNat zBlock).End.Else)).bind fun r72 =>
          bif (r72 == r69) then
            gd (0 ≤ x32 ∧ x32 < (x31.length : Int)) <|
            let y75 : List Block := (x31.set x32.toNat (⟨(x31.getD x32.toNat zBlock).Ops, (⟨(1 : Int), (0 : Int), (0 : Int), (0 : Int), r69, (0 : Int), (⟨(0 : Int), (0 : Int), (0 : Int), (0 : Int), (0 : Int)⟩ : Ins)⟩ : Term)⟩ : Block))
            g12_ref22_Thread.l0 K a0 r1 k y75 (IntKind.i64.wrap (x32 + (1 : Int)))
          else
            gd (0 ≤ x32 ∧ x32 < (x31.length : Int)) <|
            let y77 : List Block := (x31.set x32.toNat (⟨(x31.getD x32.toNat zBlock).Ops, (⟨(a0.Blocks.getD x32.toNat zBlock).End.Kind, (a0.Blocks.getD x32.toNat zBlock).End.Op, (a0.Blocks.getD x32.toNat zBlock).End.A, (a0.Blocks.getD x32.toNat zBlock).End.B, r69, r72, (a0.Blocks.getD x32.toNat zBlock).End.Ins⟩ : Term)⟩ : Block))
            g12_ref22_Thread.l0 K a0 r1 k y77 (IntKind.i64.wrap (x32 + (1 : Int)))
        else
          gd (0 ≤ x32 ∧ x32 < (x31.length : Int)) <|
          let y79 : List Block := (x31.set x32.toNat (⟨(x31.getD x32.toNat zBlock).Ops, (⟨(a0.Blocks.getD x32.toNat zBlock).End.Kind, (a0.Blocks.getD x32.toNat zBlock).End.Op, (a0.Blocks.getD x32.toNat zBlock).End.A, (a0.Blocks.getD x32.toNat zBlock).End.B, r69, (a0.Blocks.getD x32.toNat zBlock).End.Else, (a0.Blocks.getD x32.toNat zBlock).End.Ins⟩ : Term)⟩ : Block))
          g12_ref22_Thread.l0 K a0 r1 k y79 (IntKind.i64.wrap (x32 + (1 : Int)))
      else
        let b80 : Bool := ((a0.Blocks.getD x32.toNat zBlock).End.Kind == (2 : Int))
        bif b80 then
          (g25_ref22_through K a0 ((a0.Blocks.getD x32.toNat zBlock).End.Else)).bind fun r82 =>
          let b83 : Bool := (r82 == (a0.Blocks.getD x32.toNat zBlock).End.To)
          bif b83 then
            gd (0 ≤ x32 ∧ x32 < (x31.length : Int)) <|
            let y86 : List Block := (x31.set x32.toNat (⟨(x31.getD x32.toNat zBlock).Ops, (⟨(1 : Int), (0 : Int), (0 : Int), (0 : Int), (a0.Blocks.getD x32.toNat zBlock).End.To, (0 : Int), (⟨(0 : Int), (0 : Int), (0 : Int), (0 : Int), (0 : Int)⟩ : Ins)⟩ : Term)⟩ : Block))
            g12_ref22_Thread.l0 K a0 r1 k y86 (IntKind.i64.wrap (x32 + (1 : Int)))
          else
            gd (0 ≤ x32 ∧ x32 < (x31.length : Int)) <|
            let y88 : List Block := (x31.set x32.toNat (⟨(x31.getD x32.toNat zBlock).Ops, (⟨(a0.Blocks.getD x32.toNat zBlock).End.Kind, (a0.Blocks.getD x32.toNat zBlock).End.Op, (a0.Blocks.getD x32.toNat zBlock).End.A, (a0.Blocks.getD x32.toNat zBlock).End.B, (a0.Blocks.getD x32.toNat zBlock).End.To, r82, (a0.Blocks.getD x32.toNat zBlock).End.Ins⟩ : Term)⟩ : Block))
            g12_ref22_Thread.l0 K a0 r1 k y88 (IntKind.i64.wrap (x32 + (1 : Int)))
        else
          gd (0 ≤ x32 ∧ x32 < (x31.length : Int)) <|
          let y90 : List Block := (x31.set x32.toNat (⟨(x31.getD x32.toNat zBlock).Ops, (a0.Blocks.getD x32.toNat zBlock).End⟩ : Block))
          g12_ref22_Thread.l0 K a0 r1 k y90 (IntKind.i64.wrap (x32 + (1 : Int)))
    else
      some (ByteArray.empty, x31)

def g12_ref22_Thread.h0 (a0 : Graph) (r1 : Graph) (x31 : (List Block)) (x32 : Int) : Abs.St := ⟨[(1, .yes, v1 (.ptr 1 0 0)), (2, .yes, v1 (.ptr 2 0 0)), (3, .yes, v1 (.ptr 3 0 0)), (4, .yes, v1 (ci x32))], [(1, .box 24 [cs a0.Name, cb a0.Keep, cb a0.Leaf, .t (.ro 12 cBlock zBlock a0.Blocks)]), (2, .box 24 [cs ByteArray.empty, cb false, cb false, .t (.ro 12 cBlock zBlock ([]))]), (3, .box 24 [cs r1.Name, cb r1.Keep, cb r1.Leaf, .own 20070]), (20070, .rows 39 12 cBlock zBlock x31)], 57⟩

def g12_ref22_Thread.j0_0 (a0 : Graph) (r1 : Graph) (o : ByteArray × (List Block)) : Abs.St := ⟨[(2, .yes, v1 (.ptr 2 0 0)), (3, .yes, v1 (.ptr 3 0 0))], [(2, .box 24 [cs o.1, cb false, cb false, .t (.ro 12 cBlock zBlock ([]))]), (3, .box 24 [cs r1.Name, cb r1.Keep, cb r1.Leaf, .own 20070]), (20070, .rows 39 12 cBlock zBlock o.2)], 57⟩

theorem g12_ref22_Thread.l0_ok {W : World} {A Kf : Nat → Prop} (K : Nat) (a0 : Graph) (r1 : Graph) : ∀ (k : Nat) (x31 : (List Block)) (x32 : Int) (o : ByteArray × (List Block)), g12_ref22_Thread.l0 K a0 r1 k x31 x32 = some o → WPR Try.prog W A Kf (kid [true, true, false, true, false, false] (bodyAt Try.f12)) (Out (.exit 0) (g12_ref22_Thread.j0_0 a0 r1 o)) k (g12_ref22_Thread.h0 a0 r1 x31 x32)
  | 0, x31, x32, o, h => by cases h
  | k + 1, x31, x32, o, h => by
    refine WPR.round ?_
    let b62 : Bool := (decide (x32 < (x31.length : Int)))
    refine StopP.advd tbOk [] 100000 1000 (by kernel_rfl) (by kernel_rfl) (ac_nil) ?_
    refine StopP.cond (b := b62) (by kernel_rfl) (fun hb63 => ?_) (fun hb63 => ?_)
    · have h := cd_t hb63 h
      obtain ⟨hg64, h⟩ := gd_some h
      let b65 : Bool := ((a0.Blocks.getD x32.toNat zBlock).End.Kind == (1 : Int))
      let b66 : Bool := ((a0.Blocks.getD x32.toNat zBlock).End.Kind == (2 : Int))
      let b67 : Bool := (bif b65 then true else b66)
      refine StopP.advd tbOk [] 100000 1000 (by kernel_rfl) (by kernel_rfl) (ac_y hg64 <| ac_on (!b65) (pt (!b65)) <| ac_on (!b65) (pt (!b65)) <| ac_y (pn b65) <| ac_nil) ?_
      refine StopP.cond (b := b67) (by kernel_rfl) (fun hb68 => ?_) (fun hb68 => ?_)
      · have h := cd_t hb68 h
        obtain ⟨r69, hc69, h⟩ := bd_some h
        let b70 : Bool := ((a0.Blocks.getD x32.toNat zBlock).End.Kind == (2 : Int))
        refine StopP.advd tbOk [(7, [(3, .call [] [] (v1 (ci r69)))])] 100000 1000 (by kernel_rfl) (by kernel_rfl) (ac_y (g25_ref22_through_ok K a0 ((a0.Blocks.getD x32.toNat zBlock).End.To) r69 hc69) <| ac_nil) ?_
        refine StopP.cond (b := b70) (by kernel_rfl) (fun hb71 => ?_) (fun hb71 => ?_)
        · have h := cd_t hb71 h
          obtain ⟨r72, hc72, h⟩ := bd_some h
          refine StopP.advd tbOk [(9, [(3, .call [] [] (v1 (ci r72)))])] 100000 1000 (by kernel_rfl) (by kernel_rfl) (ac_y (g25_ref22_through_ok K a0 ((a0.Blocks.getD x32.toNat zBlock).End.Else) r72 hc72) <| ac_nil) ?_
          refine StopP.cond (b := (r72 == r69)) (by kernel_rfl) (fun hb73 => ?_) (fun hb73 => ?_)
          · have h := cd_t hb73 h
            refine StopP.reb [.keep [1, 2, 3, 4, 5] [1, 2, 3, 5, 20070]] (st' := .at (kid [true, true, false, true, false, false, true, false, false, true, true, false, true, false, true, true, false] (bodyAt Try.f12)) [.code (kid [true, true, false, true, false, false, true, false, false, true, true, true] (bodyAt Try.f12)), .blk 1, .code (kid [true, true, false, true, false, false, true, true] (bodyAt Try.f12))] ⟨[(1, .yes, v1 (.ptr 1 0 0)), (2, .yes, v1 (.ptr 2 0 0)), (3, .yes, v1 (.ptr 3 0 0)), (4, .yes, v1 (ci x32)), (5, .yes, v1 (.ptr 5 0 0))], [(1, .box 24 [cs a0.Name, cb a0.Keep, cb a0.Leaf, .t (.ro 12 cBlock zBlock a0.Blocks)]), (2, .box 24 [cs ByteArray.empty, cb false, cb false, .t (.ro 12 cBlock zBlock ([]))]), (3, .box 24 [cs r1.Name, cb r1.Keep, cb r1.Leaf, .own 20070]), (5, .box 37 [ci ((a0.Blocks.getD x32.toNat zBlock).End.Kind), ci ((a0.Blocks.getD x32.toNat zBlock).End.Op), ci ((a0.Blocks.getD x32.toNat zBlock).End.A), ci ((a0.Blocks.getD x32.toNat zBlock).End.B), ci r69, ci r72, ci ((a0.Blocks.getD x32.toNat zBlock).End.Ins.Op), ci ((a0.Blocks.getD x32.toNat zBlock).End.Ins.A), ci ((a0.Blocks.getD x32.toNat zBlock).End.Ins.B), ci ((a0.Blocks.getD x32.toNat zBlock).End.Ins.C), ci ((a0.Blocks.getD x32.toNat zBlock).End.Ins.Imm)]), (20070, .rows 39 12 cBlock zBlock x31)], 57⟩) (by kernel_rfl) (by kernel_rfl) (by kernel_rfl) (by kernel_rfl) rfl ?_
            obtain ⟨hg74, h⟩ := gd_some h
            let y75 : List Block := (x31.set x32.toNat (⟨(x31.getD x32.toNat zBlock).Ops, (⟨(1 : Int), (0 : Int), (0 : Int), (0 : Int), r69, (0 : Int), (⟨(0 : Int), (0 : Int), (0 : Int), (0 : Int), (0 : Int)⟩ : Ins)⟩ : Term)⟩ : Block))
            refine StopP.advd tbOk [(12, [(6, .obj (.rows 39 12 cBlock zBlock (x31.set x32.toNat (⟨(x31.getD x32.toNat zBlock).Ops, (⟨(1 : Int), (0 : Int), (0 : Int), (0 : Int), r69, (0 : Int), (⟨(0 : Int), (0 : Int), (0 : Int), (0 : Int), (0 : Int)⟩ : Ins)⟩ : Term)⟩ : Block))))])] 100000 1000 (by kernel_rfl) (by kernel_rfl) (ac_y hg74 <| ac_c (Stored.mk (ty := 39) (es := 12) (enc := cBlock) (z := zBlock) (xs := x31) (i := x32.toNat) (j := 1) (n := 11) (⟨(x31.getD x32.toNat zBlock).Ops, (⟨(1 : Int), (0 : Int), (0 : Int), (0 : Int), r69, (0 : Int), (⟨(0 : Int), (0 : Int), (0 : Int), (0 : Int), (0 : Int)⟩ : Ins)⟩ : Term)⟩ : Block) (tn hg74) (by decide) rfl rfl rfl) <| ac_nil) ?_
            refine StopP.out .normal (by kernel_rfl) ?_
            exact WPR.chg [.keep [1, 2, 3, 4] [1, 2, 3, 20070]] (by kernel_rfl) (g12_ref22_Thread.l0_ok K a0 r1 k y75 (IntKind.i64.wrap (x32 + (1 : Int))) o h)
          · have h := cd_f hb73 h
            obtain ⟨hg76, h⟩ := gd_some h
            let y77 : List Block := (x31.set x32.toNat (⟨(x31.getD x32.toNat zBlock).Ops, (⟨(a0.Blocks.getD x32.toNat zBlock).End.Kind, (a0.Blocks.getD x32.toNat zBlock).End.Op, (a0.Blocks.getD x32.toNat zBlock).End.A, (a0.Blocks.getD x32.toNat zBlock).End.B, r69, r72, (a0.Blocks.getD x32.toNat zBlock).End.Ins⟩ : Term)⟩ : Block))
            refine StopP.advd tbOk [(12, [(6, .obj (.rows 39 12 cBlock zBlock (x31.set x32.toNat (⟨(x31.getD x32.toNat zBlock).Ops, (⟨(a0.Blocks.getD x32.toNat zBlock).End.Kind, (a0.Blocks.getD x32.toNat zBlock).End.Op, (a0.Blocks.getD x32.toNat zBlock).End.A, (a0.Blocks.getD x32.toNat zBlock).End.B, r69, r72, (a0.Blocks.getD x32.toNat zBlock).End.Ins⟩ : Term)⟩ : Block))))])] 100000 1000 (by kernel_rfl) (by kernel_rfl) (ac_y hg76 <| ac_c (Stored.mk (ty := 39) (es := 12) (enc := cBlock) (z := zBlock) (xs := x31) (i := x32.toNat) (j := 1) (n := 11) (⟨(x31.getD x32.toNat zBlock).Ops, (⟨(a0.Blocks.getD x32.toNat zBlock).End.Kind, (a0.Blocks.getD x32.toNat zBlock).End.Op, (a0.Blocks.getD x32.toNat zBlock).End.A, (a0.Blocks.getD x32.toNat zBlock).End.B, r69, r72, (a0.Blocks.getD x32.toNat zBlock).End.Ins⟩ : Term)⟩ : Block) (tn hg76) (by decide) rfl rfl rfl) <| ac_nil) ?_
            refine StopP.out .normal (by kernel_rfl) ?_
            exact WPR.chg [.keep [1, 2, 3, 4] [1, 2, 3, 20070]] (by kernel_rfl) (g12_ref22_Thread.l0_ok K a0 r1 k y77 (IntKind.i64.wrap (x32 + (1 : Int))) o h)
        · have h := cd_f hb71 h
          obtain ⟨hg78, h⟩ := gd_some h
          let y79 : List Block := (x31.set x32.toNat (⟨(x31.getD x32.toNat zBlock).Ops, (⟨(a0.Blocks.getD x32.toNat zBlock).End.Kind, (a0.Blocks.getD x32.toNat zBlock).End.Op, (a0.Blocks.getD x32.toNat zBlock).End.A, (a0.Blocks.getD x32.toNat zBlock).End.B, r69, (a0.Blocks.getD x32.toNat zBlock).End.Else, (a0.Blocks.getD x32.toNat zBlock).End.Ins⟩ : Term)⟩ : Block))
          refine StopP.advd tbOk [(12, [(6, .obj (.rows 39 12 cBlock zBlock (x31.set x32.toNat (⟨(x31.getD x32.toNat zBlock).Ops, (⟨(a0.Blocks.getD x32.toNat zBlock).End.Kind, (a0.Blocks.getD x32.toNat zBlock).End.Op, (a0.Blocks.getD x32.toNat zBlock).End.A, (a0.Blocks.getD x32.toNat zBlock).End.B, r69, (a0.Blocks.getD x32.toNat zBlock).End.Else, (a0.Blocks.getD x32.toNat zBlock).End.Ins⟩ : Term)⟩ : Block))))])] 100000 1000 (by kernel_rfl) (by kernel_rfl) (ac_y hg78 <| ac_c (Stored.mk (ty := 39) (es := 12) (enc := cBlock) (z := zBlock) (xs := x31) (i := x32.toNat) (j := 1) (n := 11) (⟨(x31.getD x32.toNat zBlock).Ops, (⟨(a0.Blocks.getD x32.toNat zBlock).End.Kind, (a0.Blocks.getD x32.toNat zBlock).End.Op, (a0.Blocks.getD x32.toNat zBlock).End.A, (a0.Blocks.getD x32.toNat zBlock).End.B, r69, (a0.Blocks.getD x32.toNat zBlock).End.Else, (a0.Blocks.getD x32.toNat zBlock).End.Ins⟩ : Term)⟩ : Block) (tn hg78) (by decide) rfl rfl rfl) <| ac_nil) ?_
          refine StopP.out .normal (by kernel_rfl) ?_
          exact WPR.chg [.keep [1, 2, 3, 4] [1, 2, 3, 20070]] (by kernel_rfl) (g12_ref22_Thread.l0_ok K a0 r1 k y79 (IntKind.i64.wrap (x32 + (1 : Int))) o h)
      · have h := cd_f hb68 h
        let b80 : Bool := ((a0.Blocks.getD x32.toNat zBlock).End.Kind == (2 : Int))
        refine StopP.advd tbOk [] 100000 1000 (by kernel_rfl) (by kernel_rfl) (ac_nil) ?_
        refine StopP.cond (b := b80) (by kernel_rfl) (fun hb81 => ?_) (fun hb81 => ?_)
        · have h := cd_t hb81 h
          obtain ⟨r82, hc82, h⟩ := bd_some h
          let b83 : Bool := (r82 == (a0.Blocks.getD x32.toNat zBlock).End.To)
          refine StopP.advd tbOk [(9, [(3, .call [] [] (v1 (ci r82)))])] 100000 1000 (by kernel_rfl) (by kernel_rfl) (ac_y (g25_ref22_through_ok K a0 ((a0.Blocks.getD x32.toNat zBlock).End.Else) r82 hc82) <| ac_nil) ?_
          refine StopP.cond (b := b83) (by kernel_rfl) (fun hb84 => ?_) (fun hb84 => ?_)
          · have h := cd_t hb84 h
            refine StopP.reb [.keep [1, 2, 3, 4, 5] [1, 2, 3, 5, 20070]] (st' := .at (kid [true, true, false, true, false, false, true, false, false, true, true, false, true, false, true, true, false] (bodyAt Try.f12)) [.code (kid [true, true, false, true, false, false, true, false, false, true, true, true] (bodyAt Try.f12)), .blk 1, .code (kid [true, true, false, true, false, false, true, true] (bodyAt Try.f12))] ⟨[(1, .yes, v1 (.ptr 1 0 0)), (2, .yes, v1 (.ptr 2 0 0)), (3, .yes, v1 (.ptr 3 0 0)), (4, .yes, v1 (ci x32)), (5, .yes, v1 (.ptr 5 0 0))], [(1, .box 24 [cs a0.Name, cb a0.Keep, cb a0.Leaf, .t (.ro 12 cBlock zBlock a0.Blocks)]), (2, .box 24 [cs ByteArray.empty, cb false, cb false, .t (.ro 12 cBlock zBlock ([]))]), (3, .box 24 [cs r1.Name, cb r1.Keep, cb r1.Leaf, .own 20070]), (5, .box 37 [ci ((a0.Blocks.getD x32.toNat zBlock).End.Kind), ci ((a0.Blocks.getD x32.toNat zBlock).End.Op), ci ((a0.Blocks.getD x32.toNat zBlock).End.A), ci ((a0.Blocks.getD x32.toNat zBlock).End.B), ci ((a0.Blocks.getD x32.toNat zBlock).End.To), ci r82, ci ((a0.Blocks.getD x32.toNat zBlock).End.Ins.Op), ci ((a0.Blocks.getD x32.toNat zBlock).End.Ins.A), ci ((a0.Blocks.getD x32.toNat zBlock).End.Ins.B), ci ((a0.Blocks.getD x32.toNat zBlock).End.Ins.C), ci ((a0.Blocks.getD x32.toNat zBlock).End.Ins.Imm)]), (20070, .rows 39 12 cBlock zBlock x31)], 57⟩) (by kernel_rfl) (by kernel_rfl) (by kernel_rfl) (by kernel_rfl) rfl ?_
            obtain ⟨hg85, h⟩ := gd_some h
            let y86 : List Block := (x31.set x32.toNat (⟨(x31.getD x32.toNat zBlock).Ops, (⟨(1 : Int), (0 : Int), (0 : Int), (0 : Int), (a0.Blocks.getD x32.toNat zBlock).End.To, (0 : Int), (⟨(0 : Int), (0 : Int), (0 : Int), (0 : Int), (0 : Int)⟩ : Ins)⟩ : Term)⟩ : Block))
            refine StopP.advd tbOk [(12, [(6, .obj (.rows 39 12 cBlock zBlock (x31.set x32.toNat (⟨(x31.getD x32.toNat zBlock).Ops, (⟨(1 : Int), (0 : Int), (0 : Int), (0 : Int), (a0.Blocks.getD x32.toNat zBlock).End.To, (0 : Int), (⟨(0 : Int), (0 : Int), (0 : Int), (0 : Int), (0 : Int)⟩ : Ins)⟩ : Term)⟩ : Block))))])] 100000 1000 (by kernel_rfl) (by kernel_rfl) (ac_y hg85 <| ac_c (Stored.mk (ty := 39) (es := 12) (enc := cBlock) (z := zBlock) (xs := x31) (i := x32.toNat) (j := 1) (n := 11) (⟨(x31.getD x32.toNat zBlock).Ops, (⟨(1 : Int), (0 : Int), (0 : Int), (0 : Int), (a0.Blocks.getD x32.toNat zBlock).End.To, (0 : Int), (⟨(0 : Int), (0 : Int), (0 : Int), (0 : Int), (0 : Int)⟩ : Ins)⟩ : Term)⟩ : Block) (tn hg85) (by decide) rfl rfl rfl) <| ac_nil) ?_
            refine StopP.out .normal (by kernel_rfl) ?_
            exact WPR.chg [.keep [1, 2, 3, 4] [1, 2, 3, 20070]] (by kernel_rfl) (g12_ref22_Thread.l0_ok K a0 r1 k y86 (IntKind.i64.wrap (x32 + (1 : Int))) o h)
          · have h := cd_f hb84 h
            obtain ⟨hg87, h⟩ := gd_some h
            let y88 : List Block := (x31.set x32.toNat (⟨(x31.getD x32.toNat zBlock).Ops, (⟨(a0.Blocks.getD x32.toNat zBlock).End.Kind, (a0.Blocks.getD x32.toNat zBlock).End.Op, (a0.Blocks.getD x32.toNat zBlock).End.A, (a0.Blocks.getD x32.toNat zBlock).End.B, (a0.Blocks.getD x32.toNat zBlock).End.To, r82, (a0.Blocks.getD x32.toNat zBlock).End.Ins⟩ : Term)⟩ : Block))
            refine StopP.advd tbOk [(12, [(6, .obj (.rows 39 12 cBlock zBlock (x31.set x32.toNat (⟨(x31.getD x32.toNat zBlock).Ops, (⟨(a0.Blocks.getD x32.toNat zBlock).End.Kind, (a0.Blocks.getD x32.toNat zBlock).End.Op, (a0.Blocks.getD x32.toNat zBlock).End.A, (a0.Blocks.getD x32.toNat zBlock).End.B, (a0.Blocks.getD x32.toNat zBlock).End.To, r82, (a0.Blocks.getD x32.toNat zBlock).End.Ins⟩ : Term)⟩ : Block))))])] 100000 1000 (by kernel_rfl) (by kernel_rfl) (ac_y hg87 <| ac_c (Stored.mk (ty := 39) (es := 12) (enc := cBlock) (z := zBlock) (xs := x31) (i := x32.toNat) (j := 1) (n := 11) (⟨(x31.getD x32.toNat zBlock).Ops, (⟨(a0.Blocks.getD x32.toNat zBlock).End.Kind, (a0.Blocks.getD x32.toNat zBlock).End.Op, (a0.Blocks.getD x32.toNat zBlock).End.A, (a0.Blocks.getD x32.toNat zBlock).End.B, (a0.Blocks.getD x32.toNat zBlock).End.To, r82, (a0.Blocks.getD x32.toNat zBlock).End.Ins⟩ : Term)⟩ : Block) (tn hg87) (by decide) rfl rfl rfl) <| ac_nil) ?_
            refine StopP.out .normal (by kernel_rfl) ?_
            exact WPR.chg [.keep [1, 2, 3, 4] [1, 2, 3, 20070]] (by kernel_rfl) (g12_ref22_Thread.l0_ok K a0 r1 k y88 (IntKind.i64.wrap (x32 + (1 : Int))) o h)
        · have h := cd_f hb81 h
          obtain ⟨hg89, h⟩ := gd_some h
          let y90 : List Block := (x31.set x32.toNat (⟨(x31.getD x32.toNat zBlock).Ops, (a0.Blocks.getD x32.toNat zBlock).End⟩ : Block))
          refine StopP.advd tbOk [(12, [(6, .obj (.rows 39 12 cBlock zBlock (x31.set x32.toNat (⟨(x31.getD x32.toNat zBlock).Ops, (a0.Blocks.getD x32.toNat zBlock).End⟩ : Block))))])] 100000 1000 (by kernel_rfl) (by kernel_rfl) (ac_y hg89 <| ac_c (Stored.mk (ty := 39) (es := 12) (enc := cBlock) (z := zBlock) (xs := x31) (i := x32.toNat) (j := 1) (n := 11) (⟨(x31.getD x32.toNat zBlock).Ops, (a0.Blocks.getD x32.toNat zBlock).End⟩ : Block) (tn hg89) (by decide) rfl rfl rfl) <| ac_nil) ?_
          refine StopP.out .normal (by kernel_rfl) ?_
          exact WPR.chg [.keep [1, 2, 3, 4] [1, 2, 3, 20070]] (by kernel_rfl) (g12_ref22_Thread.l0_ok K a0 r1 k y90 (IntKind.i64.wrap (x32 + (1 : Int))) o h)
    · have h := cd_f hb63 h
      refine StopP.advd tbOk [] 100000 1000 (by kernel_rfl) (by kernel_rfl) (ac_nil) ?_
      have h := sm h; subst h
      exact StopP.out (.exit 0) (by kernel_rfl) ⟨rfl, [.keep [2, 3] [2, 3, 20070]], by kernel_rfl⟩

def g12_ref22_Thread (K : Nat) (a0 : Graph) : Option (Graph) :=
  (g21_ref16_Copy K a0).bind fun r1 =>
  (g12_ref22_Thread.l0 K a0 r1 K r1.Blocks (0 : Int)).bind fun o91 =>
  some (⟨r1.Name, r1.Keep, r1.Leaf, o91.2⟩ : Graph)

theorem g12_ref22_Thread_ok (K : Nat) (a0 : Graph) (r : Graph) (h : g12_ref22_Thread K a0 = some r) : AC Try.prog 12 [] [.v true [cs a0.Name, cb a0.Keep, cb a0.Leaf, .t (.ro 12 cBlock zBlock a0.Blocks)]] [(7000, .rows 39 12 cBlock zBlock r.Blocks)] (.v true [cs r.Name, cb r.Keep, cb r.Leaf, .own 7000]) := by
  refine AC.intro (fn := Try.f12) tbOk (by kernel_rfl) rfl (by kernel_rfl) (fun W A Kf => ?_)
  obtain ⟨r1, hc1, h⟩ := bd_some h
  refine StopP.advd tbOk [(1, [(1, .call [(7000, 20070)] [(7000, .rows 39 12 cBlock zBlock r1.Blocks)] (.v true [cs r1.Name, cb r1.Keep, cb r1.Leaf, .own 7000]))])] 100000 1000 (by kernel_rfl) (by kernel_rfl) (ac_y (g21_ref16_Copy_ok K a0 r1 hc1) <| ac_nil) ?_
  obtain ⟨o91, ho91, h⟩ := bd_some h
  refine StopP.lp (by kernel_rfl) [.keep [1, 2, 3, 4] [1, 2, 3, 20070]] (s := g12_ref22_Thread.h0 a0 r1 r1.Blocks (0 : Int)) (by kernel_rfl) (c := (kid [true, true, false, true, false, false] (bodyAt Try.f12))) (by kernel_rfl) (e := (.exit 0)) (J := g12_ref22_Thread.j0_0 a0 r1 o91) K (g12_ref22_Thread.l0_ok K a0 r1 K r1.Blocks (0 : Int) o91 ho91) ?_
  refine StopP.advd tbOk [] 100000 1000 (by kernel_rfl) (by kernel_rfl) (ac_nil) ?_
  have h := sm h; subst h
  refine StopP.out .ret (by kernel_rfl) ?_
  exact ret_box (.inr rfl) [.keep [2] [2, 20070], .ren [(20070, 7000)]] (by kernel_rfl) (by kernel_rfl) [7000] (by kernel_rfl)

theorem g12_ref22_Thread_fz (K : Nat) (a0 : Graph) (r : Graph) (h : g12_ref22_Thread K a0 = some r) : AC Try.prog 12 [] [.v true [cs a0.Name, cb a0.Keep, cb a0.Leaf, .t (.ro 12 cBlock zBlock a0.Blocks)]] [] (.v true [cs r.Name, cb r.Keep, cb r.Leaf, .t (.ro 12 cBlock zBlock r.Blocks)]) :=
  AC.cast (AC.fz (g12_ref22_Thread_ok K a0 r h) 7000 (o := .rows 39 12 cBlock zBlock r.Blocks) (t := .ro 12 cBlock zBlock r.Blocks) (by kernel_rfl) (by kernel_rfl)) (by kernel_rfl) (by kernel_rfl)

def g16_ref22_Sweep.l2 (K : Nat) (r1 : Graph) (x164 : ByteArray) (x381 : Int) : Nat → (List Block) → Bool → Int → Option (Bool × (List Block))
  | 0, _, _, _ => none
  | k + 1, x452, x453, x454 =>
    gd (0 ≤ x381 ∧ x381 < (x452.length : Int)) <|
    let b471 : Bool := (decide (x454 < (((x452.getD x381.toNat zBlock).Ops).length : Int)))
    let b472 : Bool := (bif b471 then (!x453) else false)
    bif b472 then
      (g29_ref22_idle K (⟨r1.Name, r1.Keep, r1.Leaf, x452⟩ : Graph) x381 x454).bind fun r474 =>
      bif r474 then
        gd (0 ≤ x381 ∧ x381 < (x452.length : Int)) <|
        gd (0 ≤ x454 ∧ x454 ≤ (((x452.getD x381.toNat zBlock).Ops).length : Int)) <|
        gd (([] : List Op').length + (((x452.getD x381.toNat zBlock).Ops).take x454.toNat).length ≤ 1073741824) <|
        let y479 : List Op' := (([] : List Op') ++ (((x452.getD x381.toNat zBlock).Ops).take x454.toNat))
        gd (0 ≤ (IntKind.i64.wrap (x454 + (1 : Int))) ∧ (IntKind.i64.wrap (x454 + (1 : Int))) ≤ (((x452.getD x381.toNat zBlock).Ops).length : Int)) <|
        gd (y479.length + (((x452.getD x381.toNat zBlock).Ops).drop (IntKind.i64.wrap (x454 + (1 : Int))).toNat).length ≤ 1073741824) <|
        let y482 : List Op' := (y479 ++ (((x452.getD x381.toNat zBlock).Ops).drop (IntKind.i64.wrap (x454 + (1 : Int))).toNat))
        gd (0 ≤ x381 ∧ x381 < (x452.length : Int)) <|
        let y484 : List Block := (x452.set x381.toNat (⟨y482, (x452.getD x381.toNat zBlock).End⟩ : Block))
        g16_ref22_Sweep.l2 K r1 x164 x381 k y484 true (IntKind.i64.wrap (x454 + (1 : Int)))
      else
        g16_ref22_Sweep.l2 K r1 x164 x381 k x452 x453 (IntKind.i64.wrap (x454 + (1 : Int)))
    else
      some (x453, x452)

def g16_ref22_Sweep.h2 (r1 : Graph) (x164 : ByteArray) (x381 : Int) (x452 : (List Block)) (x453 : Bool) (x454 : Int) : Abs.St := ⟨[(2, .yes, v1 (.ptr 2 0 0)), (3, .yes, v1 (.ptr 3 0 0)), (4, .yes, v1 (cb x453)), (5, .yes, v1 (ci x381)), (6, .yes, v1 (ci x454))], [(2, .box 24 [cs x164, cb false, cb false, .t (.ro 12 cBlock zBlock ([]))]), (3, .box 24 [cs r1.Name, cb r1.Keep, cb r1.Leaf, .own 20090]), (20090, .rows 39 12 cBlock zBlock x452)], 64⟩

def g16_ref22_Sweep.j2_0 (r1 : Graph) (x164 : ByteArray) (x381 : Int) (o : Bool × (List Block)) : Abs.St := ⟨[(2, .yes, v1 (.ptr 2 0 0)), (3, .yes, v1 (.ptr 3 0 0)), (4, .yes, v1 (cb o.1)), (5, .yes, v1 (ci x381))], [(2, .box 24 [cs x164, cb false, cb false, .t (.ro 12 cBlock zBlock ([]))]), (3, .box 24 [cs r1.Name, cb r1.Keep, cb r1.Leaf, .own 20090]), (20090, .rows 39 12 cBlock zBlock o.2)], 64⟩

theorem g16_ref22_Sweep.l2_ok {W : World} {A Kf : Nat → Prop} (K : Nat) (r1 : Graph) (x164 : ByteArray) (x381 : Int) : ∀ (k : Nat) (x452 : (List Block)) (x453 : Bool) (x454 : Int) (o : Bool × (List Block)), g16_ref22_Sweep.l2 K r1 x164 x381 k x452 x453 x454 = some o → WPR Try.prog W A Kf (kid [true, true, false, false, false, true, false, true, false, false, true, false, false, true, false, false] (bodyAt Try.f16)) (Out (.exit 4) (g16_ref22_Sweep.j2_0 r1 x164 x381 o)) k (g16_ref22_Sweep.h2 r1 x164 x381 x452 x453 x454)
  | 0, x452, x453, x454, o, h => by cases h
  | k + 1, x452, x453, x454, o, h => by
    refine WPR.round ?_
    obtain ⟨hg470, h⟩ := gd_some h
    let b471 : Bool := (decide (x454 < (((x452.getD x381.toNat zBlock).Ops).length : Int)))
    let b472 : Bool := (bif b471 then (!x453) else false)
    refine StopP.advd tbOk [] 100000 1000 (by kernel_rfl) (by kernel_rfl) (ac_y hg470 <| ac_y (tn hg470) <| ac_on b471 (pt b471) <| ac_y (pt b471) <| ac_nil) ?_
    refine StopP.cond (b := b472) (by kernel_rfl) (fun hb473 => ?_) (fun hb473 => ?_)
    · have h := cd_t hb473 h
      obtain ⟨r474, hc474, h⟩ := bd_some h
      refine StopP.advd tbOk [(9, [(3, .call [] [] (v1 (cb r474)))])] 100000 1000 (by kernel_rfl) (by kernel_rfl) (ac_y (g29_ref22_idle_ok K (⟨r1.Name, r1.Keep, r1.Leaf, x452⟩ : Graph) x381 x454 r474 hc474) <| ac_c (show Plain [] (v1 (cb r474)) from ⟨rfl, fun _ h => by cases h⟩) <| ac_nil) ?_
      refine StopP.cond (b := r474) (by kernel_rfl) (fun hb475 => ?_) (fun hb475 => ?_)
      · have h := cd_t hb475 h
        obtain ⟨hg476, h⟩ := gd_some h
        obtain ⟨hg477, h⟩ := gd_some h
        obtain ⟨hg478, h⟩ := gd_some h
        let y479 : List Op' := (([] : List Op') ++ (((x452.getD x381.toNat zBlock).Ops).take x454.toNat))
        obtain ⟨hg480, h⟩ := gd_some h
        obtain ⟨hg481, h⟩ := gd_some h
        let y482 : List Op' := (y479 ++ (((x452.getD x381.toNat zBlock).Ops).drop (IntKind.i64.wrap (x454 + (1 : Int))).toNat))
        obtain ⟨hg483, h⟩ := gd_some h
        let y484 : List Block := (x452.set x381.toNat (⟨y482, (x452.getD x381.toNat zBlock).End⟩ : Block))
        refine StopP.advd tbOk [(12, [(3, .obj (.rows 35 9 cOp zOp ([] : List Op'))), (7, .obj (.rows 35 9 cOp zOp (([] : List Op') ++ (((x452.getD x381.toNat zBlock).Ops).take x454.toNat)))), (12, .fz (.rows 35 9 cOp zOp (y479 ++ (((x452.getD x381.toNat zBlock).Ops).drop (IntKind.i64.wrap (x454 + (1 : Int))).toNat)))), (15, .obj (.rows 39 12 cBlock zBlock (x452.set x381.toNat (⟨y482, (x452.getD x381.toNat zBlock).End⟩ : Block))))])] 100000 1000 (by kernel_rfl) (by kernel_rfl) (ac_y hg476 <| ac_y (tn hg476) <| ac_c (Built.mk (ty := 35) (es := 9) (enc := cOp) (z := zOp) (xs := ([] : List Op')) (fun _ _ => rfl) (by decide : (0 * 9 : Nat) ≤ 16777216)) <| ac_y hg477 <| ac_c (Appended.mk (ty := 35) (es := 9) (by_ := 72) (enc := cOp) (z := zOp) (z' := zOp) (xs := ([] : List Op')) (ys := (((x452.getD x381.toNat zBlock).Ops).take x454.toNat)) (fun _ _ => rfl) (sl hg478) (sb hg478 (by decide))) <| ac_y hg480 <| ac_c (Appended.mk (ty := 35) (es := 9) (by_ := 72) (enc := cOp) (z := zOp) (z' := zOp) (xs := y479) (ys := (((x452.getD x381.toNat zBlock).Ops).drop (IntKind.i64.wrap (x454 + (1 : Int))).toNat)) (fun _ _ => rfl) (sl hg481) (sb hg481 (by decide))) <| ac_y hg483 <| ac_c (Stored.mk (ty := 39) (es := 12) (enc := cBlock) (z := zBlock) (xs := x452) (i := x381.toNat) (j := 0) (n := 1) (⟨y482, (x452.getD x381.toNat zBlock).End⟩ : Block) (tn hg483) (by decide) rfl rfl rfl) <| ac_nil) ?_
        refine StopP.out .normal (by kernel_rfl) ?_
        exact WPR.chg [.keep [2, 3, 4, 5, 6] [2, 3, 20090]] (by kernel_rfl) (g16_ref22_Sweep.l2_ok K r1 x164 x381 k y484 true (IntKind.i64.wrap (x454 + (1 : Int))) o h)
      · have h := cd_f hb475 h
        refine StopP.advd tbOk [] 100000 1000 (by kernel_rfl) (by kernel_rfl) (ac_nil) ?_
        refine StopP.out .normal (by kernel_rfl) ?_
        exact WPR.chg [.keep [2, 3, 4, 5, 6] [2, 3, 20090]] (by kernel_rfl) (g16_ref22_Sweep.l2_ok K r1 x164 x381 k x452 x453 (IntKind.i64.wrap (x454 + (1 : Int))) o h)
    · have h := cd_f hb473 h
      refine StopP.advd tbOk [] 100000 1000 (by kernel_rfl) (by kernel_rfl) (ac_nil) ?_
      have h := sm h; subst h
      exact StopP.out (.exit 4) (by kernel_rfl) ⟨rfl, [.keep [2, 3, 4, 5] [2, 3, 20090]], by kernel_rfl⟩

def g16_ref22_Sweep.l1 (K : Nat) (r1 : Graph) (x164 : ByteArray) : Nat → (List Block) → Bool → Int → Option (Bool × (List Block))
  | 0, _, _, _ => none
  | k + 1, x379, x380, x381 =>
    let b434 : Bool := (decide (x381 < (x379.length : Int)))
    let b435 : Bool := (bif b434 then (!x380) else false)
    bif b435 then
      (g16_ref22_Sweep.l2 K r1 x164 x381 K x379 x380 (0 : Int)).bind fun o485 =>
      g16_ref22_Sweep.l1 K r1 x164 k o485.2 o485.1 (IntKind.i64.wrap (x381 + (1 : Int)))
    else
      some (x380, x379)

def g16_ref22_Sweep.h1 (r1 : Graph) (x164 : ByteArray) (x379 : (List Block)) (x380 : Bool) (x381 : Int) : Abs.St := ⟨[(2, .yes, v1 (.ptr 2 0 0)), (3, .yes, v1 (.ptr 3 0 0)), (4, .yes, v1 (cb x380)), (5, .yes, v1 (ci x381))], [(2, .box 24 [cs x164, cb false, cb false, .t (.ro 12 cBlock zBlock ([]))]), (3, .box 24 [cs r1.Name, cb r1.Keep, cb r1.Leaf, .own 20090]), (20090, .rows 39 12 cBlock zBlock x379)], 64⟩

def g16_ref22_Sweep.j1_0 (r1 : Graph) (x164 : ByteArray) (o : Bool × (List Block)) : Abs.St := ⟨[(2, .yes, v1 (.ptr 2 0 0)), (3, .yes, v1 (.ptr 3 0 0)), (4, .yes, v1 (cb o.1))], [(2, .box 24 [cs x164, cb false, cb false, .t (.ro 12 cBlock zBlock ([]))]), (3, .box 24 [cs r1.Name, cb r1.Keep, cb r1.Leaf, .own 20090]), (20090, .rows 39 12 cBlock zBlock o.2)], 64⟩

theorem g16_ref22_Sweep.l1_ok {W : World} {A Kf : Nat → Prop} (K : Nat) (r1 : Graph) (x164 : ByteArray) : ∀ (k : Nat) (x379 : (List Block)) (x380 : Bool) (x381 : Int) (o : Bool × (List Block)), g16_ref22_Sweep.l1 K r1 x164 k x379 x380 x381 = some o → WPR Try.prog W A Kf (kid [true, true, false, false, false, true, false, true, false, false] (bodyAt Try.f16)) (Out (.exit 2) (g16_ref22_Sweep.j1_0 r1 x164 o)) k (g16_ref22_Sweep.h1 r1 x164 x379 x380 x381)
  | 0, x379, x380, x381, o, h => by cases h
  | k + 1, x379, x380, x381, o, h => by
    refine WPR.round ?_
    let b434 : Bool := (decide (x381 < (x379.length : Int)))
    let b435 : Bool := (bif b434 then (!x380) else false)
    refine StopP.advd tbOk [] 100000 1000 (by kernel_rfl) (by kernel_rfl) (ac_on b434 (pt b434) <| ac_y (pt b434) <| ac_nil) ?_
    refine StopP.cond (b := b435) (by kernel_rfl) (fun hb436 => ?_) (fun hb436 => ?_)
    · have h := cd_t hb436 h
      refine StopP.advd tbOk [] 100000 1000 (by kernel_rfl) (by kernel_rfl) (ac_nil) ?_
      obtain ⟨o485, ho485, h⟩ := bd_some h
      refine StopP.lp (by kernel_rfl) [.keep [2, 3, 4, 5, 6] [2, 3, 20090]] (s := g16_ref22_Sweep.h2 r1 x164 x381 x379 x380 (0 : Int)) (by kernel_rfl) (c := (kid [true, true, false, false, false, true, false, true, false, false, true, false, false, true, false, false] (bodyAt Try.f16))) (by kernel_rfl) (e := (.exit 4)) (J := g16_ref22_Sweep.j2_0 r1 x164 x381 o485) K (g16_ref22_Sweep.l2_ok K r1 x164 x381 K x379 x380 (0 : Int) o485 ho485) ?_
      refine StopP.advd tbOk [] 100000 1000 (by kernel_rfl) (by kernel_rfl) (ac_nil) ?_
      refine StopP.out .normal (by kernel_rfl) ?_
      exact WPR.chg [.keep [2, 3, 4, 5] [2, 3, 20090]] (by kernel_rfl) (g16_ref22_Sweep.l1_ok K r1 x164 k o485.2 o485.1 (IntKind.i64.wrap (x381 + (1 : Int))) o h)
    · have h := cd_f hb436 h
      refine StopP.advd tbOk [] 100000 1000 (by kernel_rfl) (by kernel_rfl) (ac_nil) ?_
      have h := sm h; subst h
      exact StopP.out (.exit 2) (by kernel_rfl) ⟨rfl, [.keep [2, 3, 4] [2, 3, 20090]], by kernel_rfl⟩

def g16_ref22_Sweep.l0 (K : Nat) (r1 : Graph) : Nat → ByteArray → (List Block) → Option ((List Block))
  | 0, _, _ => none
  | k + 1, x164, x165 =>
    (g16_ref22_Sweep.l1 K r1 x164 K x165 false (0 : Int)).bind fun o486 =>
    bif (!o486.1) then
      some o486.2
    else
      g16_ref22_Sweep.l0 K r1 k x164 o486.2

def g16_ref22_Sweep.h0 (r1 : Graph) (x164 : ByteArray) (x165 : (List Block)) : Abs.St := ⟨[(2, .yes, v1 (.ptr 2 0 0)), (3, .yes, v1 (.ptr 3 0 0))], [(2, .box 24 [cs x164, cb false, cb false, .t (.ro 12 cBlock zBlock ([]))]), (3, .box 24 [cs r1.Name, cb r1.Keep, cb r1.Leaf, .own 20090]), (20090, .rows 39 12 cBlock zBlock x165)], 64⟩

def g16_ref22_Sweep.j0_0 (r1 : Graph) (o : (List Block)) : Abs.St := ⟨[(2, .yes, v1 (.ptr 2 0 0))], [(2, .box 24 [cs r1.Name, cb r1.Keep, cb r1.Leaf, .own 20090]), (20090, .rows 39 12 cBlock zBlock o)], 64⟩

theorem g16_ref22_Sweep.l0_ok {W : World} {A Kf : Nat → Prop} (K : Nat) (r1 : Graph) : ∀ (k : Nat) (x164 : ByteArray) (x165 : (List Block)) (o : (List Block)), g16_ref22_Sweep.l0 K r1 k x164 x165 = some o → WPR Try.prog W A Kf (kid [true, true, false, false] (bodyAt Try.f16)) (Out .ret (g16_ref22_Sweep.j0_0 r1 o)) k (g16_ref22_Sweep.h0 r1 x164 x165)
  | 0, x164, x165, o, h => by cases h
  | k + 1, x164, x165, o, h => by
    refine WPR.round ?_
    refine StopP.advd tbOk [] 100000 1000 (by kernel_rfl) (by kernel_rfl) (ac_nil) ?_
    obtain ⟨o486, ho486, h⟩ := bd_some h
    refine StopP.lp (by kernel_rfl) [.keep [2, 3, 4, 5] [2, 3, 20090]] (s := g16_ref22_Sweep.h1 r1 x164 x165 false (0 : Int)) (by kernel_rfl) (c := (kid [true, true, false, false, false, true, false, true, false, false] (bodyAt Try.f16))) (by kernel_rfl) (e := (.exit 2)) (J := g16_ref22_Sweep.j1_0 r1 x164 o486) K (g16_ref22_Sweep.l1_ok K r1 x164 K x165 false (0 : Int) o486 ho486) ?_
    refine StopP.advd tbOk [] 100000 1000 (by kernel_rfl) (by kernel_rfl) (ac_nil) ?_
    refine StopP.cond (b := (!o486.1)) (by kernel_rfl) (fun hb487 => ?_) (fun hb487 => ?_)
    · have h := cd_t hb487 h
      refine StopP.advd tbOk [] 100000 1000 (by kernel_rfl) (by kernel_rfl) (ac_nil) ?_
      have h := sm h; subst h
      exact StopP.out .ret (by kernel_rfl) ⟨rfl, [.keep [2] [2, 20090]], by kernel_rfl⟩
    · have h := cd_f hb487 h
      refine StopP.advd tbOk [] 100000 1000 (by kernel_rfl) (by kernel_rfl) (ac_nil) ?_
      refine StopP.out .normal (by kernel_rfl) ?_
      exact WPR.chg [.keep [2, 3] [2, 3, 20090]] (by kernel_rfl) (g16_ref22_Sweep.l0_ok K r1 k x164 o486.2 o h)

def g16_ref22_Sweep (K : Nat) (a0 : Graph) : Option (Graph) :=
  (g21_ref16_Copy K a0).bind fun r1 =>
  (g16_ref22_Sweep.l0 K r1 K ByteArray.empty r1.Blocks).bind fun o488 =>
  some (⟨r1.Name, r1.Keep, r1.Leaf, o488⟩ : Graph)

theorem g16_ref22_Sweep_ok (K : Nat) (a0 : Graph) (r : Graph) (h : g16_ref22_Sweep K a0 = some r) : AC Try.prog 16 [] [.v true [cs a0.Name, cb a0.Keep, cb a0.Leaf, .t (.ro 12 cBlock zBlock a0.Blocks)]] [(7000, .rows 39 12 cBlock zBlock r.Blocks)] (.v true [cs r.Name, cb r.Keep, cb r.Leaf, .own 7000]) := by
  refine AC.intro (fn := Try.f16) tbOk (by kernel_rfl) rfl (by kernel_rfl) (fun W A Kf => ?_)
  obtain ⟨r1, hc1, h⟩ := bd_some h
  refine StopP.advd tbOk [(1, [(1, .call [(7000, 20090)] [(7000, .rows 39 12 cBlock zBlock r1.Blocks)] (.v true [cs r1.Name, cb r1.Keep, cb r1.Leaf, .own 7000]))])] 100000 1000 (by kernel_rfl) (by kernel_rfl) (ac_y (g21_ref16_Copy_ok K a0 r1 hc1) <| ac_nil) ?_
  obtain ⟨o488, ho488, h⟩ := bd_some h
  refine StopP.lp (by kernel_rfl) [.keep [2, 3] [2, 3, 20090]] (s := g16_ref22_Sweep.h0 r1 ByteArray.empty r1.Blocks) (by kernel_rfl) (c := (kid [true, true, false, false] (bodyAt Try.f16))) (by kernel_rfl) (e := .ret) (J := g16_ref22_Sweep.j0_0 r1 o488) K (g16_ref22_Sweep.l0_ok K r1 K ByteArray.empty r1.Blocks o488 ho488) ?_
  have h := sm h; subst h
  refine StopP.out .ret (by kernel_rfl) ?_
  exact ret_box (.inr rfl) [.keep [2] [2, 20090], .ren [(20090, 7000)]] (by kernel_rfl) (by kernel_rfl) [7000] (by kernel_rfl)

theorem g16_ref22_Sweep_fz (K : Nat) (a0 : Graph) (r : Graph) (h : g16_ref22_Sweep K a0 = some r) : AC Try.prog 16 [] [.v true [cs a0.Name, cb a0.Keep, cb a0.Leaf, .t (.ro 12 cBlock zBlock a0.Blocks)]] [] (.v true [cs r.Name, cb r.Keep, cb r.Leaf, .t (.ro 12 cBlock zBlock r.Blocks)]) :=
  AC.cast (AC.fz (g16_ref22_Sweep_ok K a0 r h) 7000 (o := .rows 39 12 cBlock zBlock r.Blocks) (t := .ro 12 cBlock zBlock r.Blocks) (by kernel_rfl) (by kernel_rfl)) (by kernel_rfl) (by kernel_rfl)

end Go.Proofs.Ytoooalfhjcfinaa.T

namespace Go.Proofs.Ytoooalfhjcfinaa.T
open Go.Abs
set_option linter.unusedVariables false
set_option maxRecDepth 100000
set_option maxHeartbeats 2000000

def g14_ref22_Trim.l1 (K : Nat) (a0 : Graph) (x87 : ByteArray) (x89 : Int) : Nat → (List Bool) → Int → Option ((List Bool))
  | 0, _, _ => none
  | k + 1, x201, x202 =>
    let b229 : Bool := (decide (x202 < (x201.length : Int)))
    bif b229 then
      gd (0 ≤ x202 ∧ x202 < (a0.Blocks.length : Int)) <|
      gd (0 ≤ x202 ∧ x202 < (x201.length : Int)) <|
      let b233 : Bool := (x201.getD x202.toNat false)
      let b234 : Bool := ((a0.Blocks.getD x202.toNat zBlock).End.Kind == (1 : Int))
      let b235 : Bool := ((a0.Blocks.getD x202.toNat zBlock).End.Kind == (2 : Int))
      let b236 : Bool := (bif b234 then true else b235)
      let b237 : Bool := (bif b233 then b236 else false)
      bif b237 then
        gd (0 ≤ (a0.Blocks.getD x202.toNat zBlock).End.To ∧ (a0.Blocks.getD x202.toNat zBlock).End.To < (x201.length : Int)) <|
        let y240 : List Bool := (x201.set ((a0.Blocks.getD x202.toNat zBlock).End.To).toNat true)
        gd (0 ≤ x202 ∧ x202 < (y240.length : Int)) <|
        let b242 : Bool := (y240.getD x202.toNat false)
        let b243 : Bool := ((a0.Blocks.getD x202.toNat zBlock).End.Kind == (2 : Int))
        let b244 : Bool := (bif b242 then b243 else false)
        bif b244 then
          gd (0 ≤ (a0.Blocks.getD x202.toNat zBlock).End.Else ∧ (a0.Blocks.getD x202.toNat zBlock).End.Else < (y240.length : Int)) <|
          let y247 : List Bool := (y240.set ((a0.Blocks.getD x202.toNat zBlock).End.Else).toNat true)
          g14_ref22_Trim.l1 K a0 x87 x89 k y247 (IntKind.i64.wrap (x202 + (1 : Int)))
        else
          g14_ref22_Trim.l1 K a0 x87 x89 k y240 (IntKind.i64.wrap (x202 + (1 : Int)))
      else
        gd (0 ≤ x202 ∧ x202 < (x201.length : Int)) <|
        let b249 : Bool := (x201.getD x202.toNat false)
        let b250 : Bool := ((a0.Blocks.getD x202.toNat zBlock).End.Kind == (2 : Int))
        let b251 : Bool := (bif b249 then b250 else false)
        bif b251 then
          gd (0 ≤ (a0.Blocks.getD x202.toNat zBlock).End.Else ∧ (a0.Blocks.getD x202.toNat zBlock).End.Else < (x201.length : Int)) <|
          let y254 : List Bool := (x201.set ((a0.Blocks.getD x202.toNat zBlock).End.Else).toNat true)
          g14_ref22_Trim.l1 K a0 x87 x89 k y254 (IntKind.i64.wrap (x202 + (1 : Int)))
        else
          g14_ref22_Trim.l1 K a0 x87 x89 k x201 (IntKind.i64.wrap (x202 + (1 : Int)))
    else
      some x201

def g14_ref22_Trim.h1 (a0 : Graph) (x87 : ByteArray) (x89 : Int) (x201 : (List Bool)) (x202 : Int) : Abs.St := ⟨[(1, .yes, v1 (.ptr 1 0 0)), (2, .yes, v1 (.ptr 2 0 0)), (3, .yes, v1 (.own 16)), (4, .yes, v1 (ci x89)), (5, .yes, v1 (ci x202))], [(1, .box 24 [cs a0.Name, cb a0.Keep, cb a0.Leaf, .t (.ro 12 cBlock zBlock a0.Blocks)]), (2, .box 24 [cs x87, cb false, cb false, .t (.ro 12 cBlock zBlock ([]))]), (16, .rows 4 1 eB false x201)], 150⟩

def g14_ref22_Trim.j1_0 (a0 : Graph) (x87 : ByteArray) (x89 : Int) (o : (List Bool)) : Abs.St := ⟨[(1, .yes, v1 (.ptr 1 0 0)), (2, .yes, v1 (.ptr 2 0 0)), (3, .yes, v1 (.own 16)), (4, .yes, v1 (ci x89))], [(1, .box 24 [cs a0.Name, cb a0.Keep, cb a0.Leaf, .t (.ro 12 cBlock zBlock a0.Blocks)]), (2, .box 24 [cs x87, cb false, cb false, .t (.ro 12 cBlock zBlock ([]))]), (16, .rows 4 1 eB false o)], 150⟩

theorem g14_ref22_Trim.l1_ok {W : World} {A Kf : Nat → Prop} (K : Nat) (a0 : Graph) (x87 : ByteArray) (x89 : Int) : ∀ (k : Nat) (x201 : (List Bool)) (x202 : Int) (o : (List Bool)), g14_ref22_Trim.l1 K a0 x87 x89 k x201 x202 = some o → WPR Try.prog W A Kf (kid [true, true, true, false, true, false, false, true, false, false, true, false, false] (bodyAt Try.f14)) (Out (.exit 2) (g14_ref22_Trim.j1_0 a0 x87 x89 o)) k (g14_ref22_Trim.h1 a0 x87 x89 x201 x202)
  | 0, x201, x202, o, h => by cases h
  | k + 1, x201, x202, o, h => by
    refine WPR.round ?_
    let b229 : Bool := (decide (x202 < (x201.length : Int)))
    refine StopP.advd tbOk [] 100000 1000 (by kernel_rfl) (by kernel_rfl) (ac_nil) ?_
    refine StopP.cond (b := b229) (by kernel_rfl) (fun hb230 => ?_) (fun hb230 => ?_)
    · have h := cd_t hb230 h
      obtain ⟨hg231, h⟩ := gd_some h
      obtain ⟨hg232, h⟩ := gd_some h
      let b233 : Bool := (x201.getD x202.toNat false)
      let b234 : Bool := ((a0.Blocks.getD x202.toNat zBlock).End.Kind == (1 : Int))
      let b235 : Bool := ((a0.Blocks.getD x202.toNat zBlock).End.Kind == (2 : Int))
      let b236 : Bool := (bif b234 then true else b235)
      let b237 : Bool := (bif b233 then b236 else false)
      refine StopP.advd tbOk [] 100000 1000 (by kernel_rfl) (by kernel_rfl) (ac_y hg231 <| ac_y hg232 <| ac_y (tn hg232) <| ac_on b233 (pt b233) <| ac_on b233 (pt b233) <| ac_on b233 (pt b233) <| ac_on (b233 && (!b234)) (pt (b233 && (!b234))) <| ac_on (b233 && (!b234)) (pt (b233 && (!b234))) <| ac_on b233 (pt b233) <| ac_on b233 (fun h => png b234 h) <| ac_y (pt b233) <| ac_nil) ?_
      refine StopP.cond (b := b237) (by kernel_rfl) (fun hb238 => ?_) (fun hb238 => ?_)
      · have h := cd_t hb238 h
        obtain ⟨hg239, h⟩ := gd_some h
        let y240 : List Bool := (x201.set ((a0.Blocks.getD x202.toNat zBlock).End.To).toNat true)
        obtain ⟨hg241, h⟩ := gd_some h
        let b242 : Bool := (y240.getD x202.toNat false)
        let b243 : Bool := ((a0.Blocks.getD x202.toNat zBlock).End.Kind == (2 : Int))
        let b244 : Bool := (bif b242 then b243 else false)
        refine StopP.advd tbOk [(11, [(4, .obj (.rows 4 1 eB false (x201.set ((a0.Blocks.getD x202.toNat zBlock).End.To).toNat true)))])] 100000 1000 (by kernel_rfl) (by kernel_rfl) (ac_y hg239 <| ac_c (Stored.mk (ty := 4) (es := 1) (enc := eB) (z := false) (xs := x201) (i := ((a0.Blocks.getD x202.toNat zBlock).End.To).toNat) (j := 0) (n := 1) true (tn hg239) (by decide) rfl rfl rfl) <| ac_y hg241 <| ac_y (tn hg241) <| ac_on b242 (pt b242) <| ac_on b242 (pt b242) <| ac_y (pt b242) <| ac_nil) ?_
        refine StopP.cond (b := b244) (by kernel_rfl) (fun hb245 => ?_) (fun hb245 => ?_)
        · have h := cd_t hb245 h
          obtain ⟨hg246, h⟩ := gd_some h
          let y247 : List Bool := (y240.set ((a0.Blocks.getD x202.toNat zBlock).End.Else).toNat true)
          refine StopP.advd tbOk [(13, [(4, .obj (.rows 4 1 eB false (y240.set ((a0.Blocks.getD x202.toNat zBlock).End.Else).toNat true)))])] 100000 1000 (by kernel_rfl) (by kernel_rfl) (ac_y hg246 <| ac_c (Stored.mk (ty := 4) (es := 1) (enc := eB) (z := false) (xs := y240) (i := ((a0.Blocks.getD x202.toNat zBlock).End.Else).toNat) (j := 0) (n := 1) true (tn hg246) (by decide) rfl rfl rfl) <| ac_nil) ?_
          refine StopP.out .normal (by kernel_rfl) ?_
          exact WPR.chg [.keep [1, 2, 3, 4, 5] [1, 2, 16]] (by kernel_rfl) (g14_ref22_Trim.l1_ok K a0 x87 x89 k y247 (IntKind.i64.wrap (x202 + (1 : Int))) o h)
        · have h := cd_f hb245 h
          refine StopP.advd tbOk [] 100000 1000 (by kernel_rfl) (by kernel_rfl) (ac_nil) ?_
          refine StopP.out .normal (by kernel_rfl) ?_
          exact WPR.chg [.keep [1, 2, 3, 4, 5] [1, 2, 16]] (by kernel_rfl) (g14_ref22_Trim.l1_ok K a0 x87 x89 k y240 (IntKind.i64.wrap (x202 + (1 : Int))) o h)
      · have h := cd_f hb238 h
        obtain ⟨hg248, h⟩ := gd_some h
        let b249 : Bool := (x201.getD x202.toNat false)
        let b250 : Bool := ((a0.Blocks.getD x202.toNat zBlock).End.Kind == (2 : Int))
        let b251 : Bool := (bif b249 then b250 else false)
        refine StopP.advd tbOk [] 100000 1000 (by kernel_rfl) (by kernel_rfl) (ac_y hg248 <| ac_y (tn hg248) <| ac_on b249 (pt b249) <| ac_on b249 (pt b249) <| ac_y (pt b249) <| ac_nil) ?_
        refine StopP.cond (b := b251) (by kernel_rfl) (fun hb252 => ?_) (fun hb252 => ?_)
        · have h := cd_t hb252 h
          obtain ⟨hg253, h⟩ := gd_some h
          let y254 : List Bool := (x201.set ((a0.Blocks.getD x202.toNat zBlock).End.Else).toNat true)
          refine StopP.advd tbOk [(13, [(4, .obj (.rows 4 1 eB false (x201.set ((a0.Blocks.getD x202.toNat zBlock).End.Else).toNat true)))])] 100000 1000 (by kernel_rfl) (by kernel_rfl) (ac_y hg253 <| ac_c (Stored.mk (ty := 4) (es := 1) (enc := eB) (z := false) (xs := x201) (i := ((a0.Blocks.getD x202.toNat zBlock).End.Else).toNat) (j := 0) (n := 1) true (tn hg253) (by decide) rfl rfl rfl) <| ac_nil) ?_
          refine StopP.out .normal (by kernel_rfl) ?_
          exact WPR.chg [.keep [1, 2, 3, 4, 5] [1, 2, 16]] (by kernel_rfl) (g14_ref22_Trim.l1_ok K a0 x87 x89 k y254 (IntKind.i64.wrap (x202 + (1 : Int))) o h)
        · have h := cd_f hb252 h
          refine StopP.advd tbOk [] 100000 1000 (by kernel_rfl) (by kernel_rfl) (ac_nil) ?_
          refine StopP.out .normal (by kernel_rfl) ?_
          exact WPR.chg [.keep [1, 2, 3, 4, 5] [1, 2, 16]] (by kernel_rfl) (g14_ref22_Trim.l1_ok K a0 x87 x89 k x201 (IntKind.i64.wrap (x202 + (1 : Int))) o h)
    · have h := cd_f hb230 h
      refine StopP.advd tbOk [] 100000 1000 (by kernel_rfl) (by kernel_rfl) (ac_nil) ?_
      have h := sm h; subst h
      exact StopP.out (.exit 2) (by kernel_rfl) ⟨rfl, [.keep [1, 2, 3, 4] [1, 2, 16]], by kernel_rfl⟩

def g14_ref22_Trim.l0 (K : Nat) (a0 : Graph) : Nat → ByteArray → (List Bool) → Int → Option (ByteArray × (List Bool))
  | 0, _, _, _ => none
  | k + 1, x87, x88, x89 =>
    let b173 : Bool := (decide (x89 < (x88.length : Int)))
    bif b173 then
      (g14_ref22_Trim.l1 K a0 x87 x89 K x88 (0 : Int)).bind fun o255 =>
      g14_ref22_Trim.l0 K a0 k x87 o255 (IntKind.i64.wrap (x89 + (1 : Int)))
    else
      some (x87, x88)

def g14_ref22_Trim.h0 (a0 : Graph) (x87 : ByteArray) (x88 : (List Bool)) (x89 : Int) : Abs.St := ⟨[(1, .yes, v1 (.ptr 1 0 0)), (2, .yes, v1 (.ptr 2 0 0)), (3, .yes, v1 (.own 16)), (4, .yes, v1 (ci x89))], [(1, .box 24 [cs a0.Name, cb a0.Keep, cb a0.Leaf, .t (.ro 12 cBlock zBlock a0.Blocks)]), (2, .box 24 [cs x87, cb false, cb false, .t (.ro 12 cBlock zBlock ([]))]), (16, .rows 4 1 eB false x88)], 150⟩

def g14_ref22_Trim.j0_0 (a0 : Graph) (o : ByteArray × (List Bool)) : Abs.St := ⟨[(1, .yes, v1 (.ptr 1 0 0)), (2, .yes, v1 (.ptr 2 0 0)), (3, .yes, v1 (.own 16))], [(1, .box 24 [cs a0.Name, cb a0.Keep, cb a0.Leaf, .t (.ro 12 cBlock zBlock a0.Blocks)]), (2, .box 24 [cs o.1, cb false, cb false, .t (.ro 12 cBlock zBlock ([]))]), (16, .rows 4 1 eB false o.2)], 150⟩

theorem g14_ref22_Trim.l0_ok {W : World} {A Kf : Nat → Prop} (K : Nat) (a0 : Graph) : ∀ (k : Nat) (x87 : ByteArray) (x88 : (List Bool)) (x89 : Int) (o : ByteArray × (List Bool)), g14_ref22_Trim.l0 K a0 k x87 x88 x89 = some o → WPR Try.prog W A Kf (kid [true, true, true, false, true, false, false] (bodyAt Try.f14)) (Out (.exit 0) (g14_ref22_Trim.j0_0 a0 o)) k (g14_ref22_Trim.h0 a0 x87 x88 x89)
  | 0, x87, x88, x89, o, h => by cases h
  | k + 1, x87, x88, x89, o, h => by
    refine WPR.round ?_
    let b173 : Bool := (decide (x89 < (x88.length : Int)))
    refine StopP.advd tbOk [] 100000 1000 (by kernel_rfl) (by kernel_rfl) (ac_nil) ?_
    refine StopP.cond (b := b173) (by kernel_rfl) (fun hb174 => ?_) (fun hb174 => ?_)
    · have h := cd_t hb174 h
      refine StopP.advd tbOk [] 100000 1000 (by kernel_rfl) (by kernel_rfl) (ac_nil) ?_
      obtain ⟨o255, ho255, h⟩ := bd_some h
      refine StopP.lp (by kernel_rfl) [.keep [1, 2, 3, 4, 5] [1, 2, 16]] (s := g14_ref22_Trim.h1 a0 x87 x89 x88 (0 : Int)) (by kernel_rfl) (c := (kid [true, true, true, false, true, false, false, true, false, false, true, false, false] (bodyAt Try.f14))) (by kernel_rfl) (e := (.exit 2)) (J := g14_ref22_Trim.j1_0 a0 x87 x89 o255) K (g14_ref22_Trim.l1_ok K a0 x87 x89 K x88 (0 : Int) o255 ho255) ?_
      refine StopP.advd tbOk [] 100000 1000 (by kernel_rfl) (by kernel_rfl) (ac_nil) ?_
      refine StopP.out .normal (by kernel_rfl) ?_
      exact WPR.chg [.keep [1, 2, 3, 4] [1, 2, 16]] (by kernel_rfl) (g14_ref22_Trim.l0_ok K a0 k x87 o255 (IntKind.i64.wrap (x89 + (1 : Int))) o h)
    · have h := cd_f hb174 h
      refine StopP.advd tbOk [] 100000 1000 (by kernel_rfl) (by kernel_rfl) (ac_nil) ?_
      have h := sm h; subst h
      exact StopP.out (.exit 0) (by kernel_rfl) ⟨rfl, [.keep [1, 2, 3] [1, 2, 16]], by kernel_rfl⟩

def g14_ref22_Trim.l3 (K : Nat) (a0 : Graph) (o256 : ByteArray × (List Bool)) (x289 : Int) : Nat → (List Int) → Int → Option ((List Int))
  | 0, _, _ => none
  | k + 1, x327, x328 =>
    bif (decide (x328 < x289)) then
      gd (0 ≤ x328 ∧ x328 < (o256.2.length : Int)) <|
      let b338 : Bool := (o256.2.getD x328.toNat false)
      bif b338 then
        gd (0 ≤ x289 ∧ x289 < (x327.length : Int)) <|
        gd (0 ≤ x289 ∧ x289 < (x327.length : Int)) <|
        let y342 : List Int := (x327.set x289.toNat (IntKind.i64.wrap ((x327.getD x289.toNat 0) + (1 : Int))))
        g14_ref22_Trim.l3 K a0 o256 x289 k y342 (IntKind.i64.wrap (x328 + (1 : Int)))
      else
        g14_ref22_Trim.l3 K a0 o256 x289 k x327 (IntKind.i64.wrap (x328 + (1 : Int)))
    else
      some x327

def g14_ref22_Trim.h3 (a0 : Graph) (o256 : ByteArray × (List Bool)) (x289 : Int) (x327 : (List Int)) (x328 : Int) : Abs.St := ⟨[(1, .yes, v1 (.ptr 1 0 0)), (2, .yes, v1 (.ptr 2 0 0)), (3, .yes, v1 (.own 16)), (7, .yes, v1 (.own 70)), (8, .yes, v1 (ci x289)), (9, .yes, v1 (ci x328))], [(1, .box 24 [cs a0.Name, cb a0.Keep, cb a0.Leaf, .t (.ro 12 cBlock zBlock a0.Blocks)]), (2, .box 24 [cs o256.1, cb false, cb false, .t (.ro 12 cBlock zBlock ([]))]), (16, .rows 4 1 eB false o256.2), (70, .rows 3 1 eI 0 x327)], 150⟩

def g14_ref22_Trim.j3_0 (a0 : Graph) (o256 : ByteArray × (List Bool)) (x289 : Int) (o : (List Int)) : Abs.St := ⟨[(1, .yes, v1 (.ptr 1 0 0)), (2, .yes, v1 (.ptr 2 0 0)), (3, .yes, v1 (.own 16)), (7, .yes, v1 (.own 70)), (8, .yes, v1 (ci x289))], [(1, .box 24 [cs a0.Name, cb a0.Keep, cb a0.Leaf, .t (.ro 12 cBlock zBlock a0.Blocks)]), (2, .box 24 [cs o256.1, cb false, cb false, .t (.ro 12 cBlock zBlock ([]))]), (16, .rows 4 1 eB false o256.2), (70, .rows 3 1 eI 0 o)], 150⟩

theorem g14_ref22_Trim.l3_ok {W : World} {A Kf : Nat → Prop} (K : Nat) (a0 : Graph) (o256 : ByteArray × (List Bool)) (x289 : Int) : ∀ (k : Nat) (x327 : (List Int)) (x328 : Int) (o : (List Int)), g14_ref22_Trim.l3 K a0 o256 x289 k x327 x328 = some o → WPR Try.prog W A Kf (kid [true, true, true, true, true, false, true, false, false, true, false, false, true, false, false] (bodyAt Try.f14)) (Out (.exit 6) (g14_ref22_Trim.j3_0 a0 o256 x289 o)) k (g14_ref22_Trim.h3 a0 o256 x289 x327 x328)
  | 0, x327, x328, o, h => by cases h
  | k + 1, x327, x328, o, h => by
    refine WPR.round ?_
    refine StopP.advd tbOk [] 100000 1000 (by kernel_rfl) (by kernel_rfl) (ac_nil) ?_
    refine StopP.cond (b := (decide (x328 < x289))) (by kernel_rfl) (fun hb336 => ?_) (fun hb336 => ?_)
    · have h := cd_t hb336 h
      obtain ⟨hg337, h⟩ := gd_some h
      let b338 : Bool := (o256.2.getD x328.toNat false)
      refine StopP.advd tbOk [] 100000 1000 (by kernel_rfl) (by kernel_rfl) (ac_y hg337 <| ac_y (tn hg337) <| ac_nil) ?_
      refine StopP.cond (b := b338) (by kernel_rfl) (fun hb339 => ?_) (fun hb339 => ?_)
      · have h := cd_t hb339 h
        obtain ⟨hg340, h⟩ := gd_some h
        obtain ⟨hg341, h⟩ := gd_some h
        let y342 : List Int := (x327.set x289.toNat (IntKind.i64.wrap ((x327.getD x289.toNat 0) + (1 : Int))))
        refine StopP.advd tbOk [(22, [(6, .obj (.rows 3 1 eI 0 (x327.set x289.toNat (IntKind.i64.wrap ((x327.getD x289.toNat 0) + (1 : Int))))))])] 100000 1000 (by kernel_rfl) (by kernel_rfl) (ac_y hg340 <| ac_y (tn hg340) <| ac_y hg341 <| ac_c (Stored.mk (ty := 3) (es := 1) (enc := eI) (z := 0) (xs := x327) (i := x289.toNat) (j := 0) (n := 1) (IntKind.i64.wrap ((x327.getD x289.toNat 0) + (1 : Int))) (tn hg341) (by decide) rfl rfl rfl) <| ac_nil) ?_
        refine StopP.out .normal (by kernel_rfl) ?_
        exact WPR.chg [.keep [1, 2, 3, 7, 8, 9] [1, 2, 16, 70]] (by kernel_rfl) (g14_ref22_Trim.l3_ok K a0 o256 x289 k y342 (IntKind.i64.wrap (x328 + (1 : Int))) o h)
      · have h := cd_f hb339 h
        refine StopP.advd tbOk [] 100000 1000 (by kernel_rfl) (by kernel_rfl) (ac_nil) ?_
        refine StopP.out .normal (by kernel_rfl) ?_
        exact WPR.chg [.keep [1, 2, 3, 7, 8, 9] [1, 2, 16, 70]] (by kernel_rfl) (g14_ref22_Trim.l3_ok K a0 o256 x289 k x327 (IntKind.i64.wrap (x328 + (1 : Int))) o h)
    · have h := cd_f hb336 h
      refine StopP.advd tbOk [] 100000 1000 (by kernel_rfl) (by kernel_rfl) (ac_nil) ?_
      have h := sm h; subst h
      exact StopP.out (.exit 6) (by kernel_rfl) ⟨rfl, [.keep [1, 2, 3, 7, 8] [1, 2, 16, 70]], by kernel_rfl⟩

def g14_ref22_Trim.l2 (K : Nat) (a0 : Graph) (o256 : ByteArray × (List Bool)) : Nat → (List Int) → Int → Option ((List Int))
  | 0, _, _ => none
  | k + 1, x288, x289 =>
    let b317 : Bool := (decide (x289 < (o256.2.length : Int)))
    bif b317 then
      (g14_ref22_Trim.l3 K a0 o256 x289 K x288 (0 : Int)).bind fun o343 =>
      g14_ref22_Trim.l2 K a0 o256 k o343 (IntKind.i64.wrap (x289 + (1 : Int)))
    else
      some x288

def g14_ref22_Trim.h2 (a0 : Graph) (o256 : ByteArray × (List Bool)) (x288 : (List Int)) (x289 : Int) : Abs.St := ⟨[(1, .yes, v1 (.ptr 1 0 0)), (2, .yes, v1 (.ptr 2 0 0)), (3, .yes, v1 (.own 16)), (7, .yes, v1 (.own 70)), (8, .yes, v1 (ci x289))], [(1, .box 24 [cs a0.Name, cb a0.Keep, cb a0.Leaf, .t (.ro 12 cBlock zBlock a0.Blocks)]), (2, .box 24 [cs o256.1, cb false, cb false, .t (.ro 12 cBlock zBlock ([]))]), (16, .rows 4 1 eB false o256.2), (70, .rows 3 1 eI 0 x288)], 150⟩

def g14_ref22_Trim.j2_0 (a0 : Graph) (o256 : ByteArray × (List Bool)) (o : (List Int)) : Abs.St := ⟨[(1, .yes, v1 (.ptr 1 0 0)), (2, .yes, v1 (.ptr 2 0 0)), (3, .yes, v1 (.own 16)), (7, .yes, v1 (.own 70))], [(1, .box 24 [cs a0.Name, cb a0.Keep, cb a0.Leaf, .t (.ro 12 cBlock zBlock a0.Blocks)]), (2, .box 24 [cs o256.1, cb false, cb false, .t (.ro 12 cBlock zBlock ([]))]), (16, .rows 4 1 eB false o256.2), (70, .rows 3 1 eI 0 o)], 150⟩

theorem g14_ref22_Trim.l2_ok {W : World} {A Kf : Nat → Prop} (K : Nat) (a0 : Graph) (o256 : ByteArray × (List Bool)) : ∀ (k : Nat) (x288 : (List Int)) (x289 : Int) (o : (List Int)), g14_ref22_Trim.l2 K a0 o256 k x288 x289 = some o → WPR Try.prog W A Kf (kid [true, true, true, true, true, false, true, false, false] (bodyAt Try.f14)) (Out (.exit 4) (g14_ref22_Trim.j2_0 a0 o256 o)) k (g14_ref22_Trim.h2 a0 o256 x288 x289)
  | 0, x288, x289, o, h => by cases h
  | k + 1, x288, x289, o, h => by
    refine WPR.round ?_
    let b317 : Bool := (decide (x289 < (o256.2.length : Int)))
    refine StopP.advd tbOk [] 100000 1000 (by kernel_rfl) (by kernel_rfl) (ac_nil) ?_
    refine StopP.cond (b := b317) (by kernel_rfl) (fun hb318 => ?_) (fun hb318 => ?_)
    · have h := cd_t hb318 h
      refine StopP.advd tbOk [] 100000 1000 (by kernel_rfl) (by kernel_rfl) (ac_nil) ?_
      obtain ⟨o343, ho343, h⟩ := bd_some h
      refine StopP.lp (by kernel_rfl) [.keep [1, 2, 3, 7, 8, 9] [1, 2, 16, 70]] (s := g14_ref22_Trim.h3 a0 o256 x289 x288 (0 : Int)) (by kernel_rfl) (c := (kid [true, true, true, true, true, false, true, false, false, true, false, false, true, false, false] (bodyAt Try.f14))) (by kernel_rfl) (e := (.exit 6)) (J := g14_ref22_Trim.j3_0 a0 o256 x289 o343) K (g14_ref22_Trim.l3_ok K a0 o256 x289 K x288 (0 : Int) o343 ho343) ?_
      refine StopP.advd tbOk [] 100000 1000 (by kernel_rfl) (by kernel_rfl) (ac_nil) ?_
      refine StopP.out .normal (by kernel_rfl) ?_
      exact WPR.chg [.keep [1, 2, 3, 7, 8] [1, 2, 16, 70]] (by kernel_rfl) (g14_ref22_Trim.l2_ok K a0 o256 k o343 (IntKind.i64.wrap (x289 + (1 : Int))) o h)
    · have h := cd_f hb318 h
      refine StopP.advd tbOk [] 100000 1000 (by kernel_rfl) (by kernel_rfl) (ac_nil) ?_
      have h := sm h; subst h
      exact StopP.out (.exit 4) (by kernel_rfl) ⟨rfl, [.keep [1, 2, 3, 7] [1, 2, 16, 70]], by kernel_rfl⟩

def g14_ref22_Trim.l4 (K : Nat) (a0 : Graph) (o256 : ByteArray × (List Bool)) (o344 : (List Int)) (r345 : Graph) : Nat → (List Block) → Int → Option ((List Block))
  | 0, _, _ => none
  | k + 1, x446, x447 =>
    let b484 : Bool := (decide (x447 < (o256.2.length : Int)))
    bif b484 then
      gd (0 ≤ x447 ∧ x447 < (o256.2.length : Int)) <|
      let b487 : Bool := (o256.2.getD x447.toNat false)
      bif b487 then
        gd (0 ≤ x447 ∧ x447 < (a0.Blocks.length : Int)) <|
        let b490 : Bool := ((a0.Blocks.getD x447.toNat zBlock).End.Kind == (1 : Int))
        let b491 : Bool := ((a0.Blocks.getD x447.toNat zBlock).End.Kind == (2 : Int))
        let b492 : Bool := (bif b490 then true else b491)
        bif b492 then
          gd (0 ≤ (a0.Blocks.getD x447.toNat zBlock).End.To ∧ (a0.Blocks.getD x447.toNat zBlock).End.To < (o344.length : Int)) <|
          let i495 : Int := (o344.getD ((a0.Blocks.getD x447.toNat zBlock).End.To).toNat 0)
          let b496 : Bool := ((a0.Blocks.getD x447.toNat zBlock).End.Kind == (2 : Int))
          bif b496 then
            gd (0 ≤ (a0.Blocks.getD x447.toNat zBlock).End.Else ∧ (a0.Blocks.getD x447.toNat zBlock).End.Else < (o344.length : Int)) <|
            let i499 : Int := (o344.getD ((a0.Blocks.getD x447.toNat zBlock).End.Else).toNat 0)
            gd (0 ≤ x447 ∧ x447 < (a0.Blocks.length : Int)) <|
            gd (([] : List Op').length + ((a0.Blocks.getD x447.toNat zBlock).Ops).length ≤ 1073741824) <|
            let y502 : List Block := ([(⟨(([] : List Op') ++ (a0.Blocks.getD x447.toNat zBlock).Ops), (⟨(a0.Blocks.getD x447.toNat zBlock).End.Kind, (a0.Blocks.getD x447.toNat zBlock).End.Op, (a0.Blocks.getD x447.toNat zBlock).End.A, (a0.Blocks.getD x447.toNat zBlock).End.B, i495, i499, (a0.Blocks.getD x447.toNat zBlock).End.Ins⟩ : Term)⟩ : Block)] : List Block)
            gd (x446.length + y502.length ≤ 1073741824) <|
            g14_ref22_Trim.l4 K a0 o256 o344 r345 k (x446 ++ y502) (IntKind.i64.wrap (x447 + (1 : Int)))
          else
            gd (0 ≤ x447 ∧ x447 < (a0.Blocks.length : Int)) <|
            gd (([] : List Op').length + ((a0.Blocks.getD x447.toNat zBlock).Ops).length ≤ 1073741824) <|
            let y506 : List Block := ([(⟨(([] : List Op') ++ (a0.Blocks.getD x447.toNat zBlock).Ops), (⟨(a0.Blocks.getD x447.toNat zBlock).End.Kind, (a0.Blocks.getD x447.toNat zBlock).End.Op, (a0.Blocks.getD x447.toNat zBlock).End.A, (a0.Blocks.getD x447.toNat zBlock).End.B, i495, (a0.Blocks.getD x447.toNat zBlock).End.Else, (a0.Blocks.getD x447.toNat zBlock).End.Ins⟩ : Term)⟩ : Block)] : List Block)
            gd (x446.length + y506.length ≤ 1073741824) <|
            g14_ref22_Trim.l4 K a0 o256 o344 r345 k (x446 ++ y506) (IntKind.i64.wrap (x447 + (1 : Int)))
        else
          let b508 : Bool := ((a0.Blocks.getD x447.toNat zBlock).End.Kind == (2 : Int))
          bif b508 then
            gd (0 ≤ (a0.Blocks.getD x447.toNat zBlock).End.Else ∧ (a0.Blocks.getD x447.toNat zBlock).End.Else < (o344.length : Int)) <|
            let i511 : Int := (o344.getD ((a0.Blocks.getD x447.toNat zBlock).End.Else).toNat 0)
            gd (0 ≤ x447 ∧ x447 < (a0.Blocks.length : Int)) <|
            gd (([] : List Op').length + ((a0.Blocks.getD x447.toNat zBlock).Ops).length ≤ 1073741824) <|
            let y514 : List Block := ([(⟨(([] : List Op') ++ (a0.Blocks.getD x447.toNat zBlock).Ops), (⟨(a0.Blocks.getD x447.toNat zBlock).End.Kind, (a0.Blocks.getD x447.toNat zBlock).End.Op, (a0.Blocks.getD x447.toNat zBlock).End.A, (a0.Blocks.getD x447.toNat zBlock).End.B, (a0.Blocks.getD x447.toNat zBlock).End.To, i511, (a0.Blocks.getD x447.toNat zBlock).End.Ins⟩ : Term)⟩ : Block)] : List Block)
            gd (x446.length + y514.length ≤ 1073741824) <|
            g14_ref22_Trim.l4 K a0 o256 o344 r345 k (x446 ++ y514) (IntKind.i64.wrap (x447 + (1 : Int)))
          else
            gd (0 ≤ x447 ∧ x447 < (a0.Blocks.length : Int)) <|
            gd (([] : List Op').length + ((a0.Blocks.getD x447.toNat zBlock).Ops).length ≤ 1073741824) <|
            let y518 : List Block := ([(⟨(([] : List Op') ++ (a0.Blocks.getD x447.toNat zBlock).Ops), (a0.Blocks.getD x447.toNat zBlock).End⟩ : Block)] : List Block)
            gd (x446.length + y518.length ≤ 1073741824) <|
            g14_ref22_Trim.l4 K a0 o256 o344 r345 k (x446 ++ y518) (IntKind.i64.wrap (x447 + (1 : Int)))
      else
        g14_ref22_Trim.l4 K a0 o256 o344 r345 k x446 (IntKind.i64.wrap (x447 + (1 : Int)))
    else
      some x446

def g14_ref22_Trim.h4 (a0 : Graph) (o256 : ByteArray × (List Bool)) (o344 : (List Int)) (r345 : Graph) (x446 : (List Block)) (x447 : Int) : Abs.St := ⟨[(1, .yes, v1 (.ptr 1 0 0)), (2, .yes, v1 (.ptr 2 0 0)), (3, .yes, v1 (.own 16)), (7, .yes, v1 (.own 70)), (10, .yes, v1 (.ptr 10 0 0)), (11, .yes, v1 (ci x447))], [(1, .box 24 [cs a0.Name, cb a0.Keep, cb a0.Leaf, .t (.ro 12 cBlock zBlock a0.Blocks)]), (2, .box 24 [cs o256.1, cb false, cb false, .t (.ro 12 cBlock zBlock ([]))]), (10, .box 24 [cs r345.Name, cb r345.Keep, cb r345.Leaf, .own 5200]), (16, .rows 4 1 eB false o256.2), (70, .rows 3 1 eI 0 o344), (5200, .rows 39 12 cBlock zBlock x446)], 150⟩

def g14_ref22_Trim.j4_0 (a0 : Graph) (o256 : ByteArray × (List Bool)) (o344 : (List Int)) (r345 : Graph) (o : (List Block)) : Abs.St := ⟨[(2, .yes, v1 (.ptr 2 0 0)), (10, .yes, v1 (.ptr 10 0 0))], [(2, .box 24 [cs o256.1, cb false, cb false, .t (.ro 12 cBlock zBlock ([]))]), (10, .box 24 [cs r345.Name, cb r345.Keep, cb r345.Leaf, .own 5200]), (5200, .rows 39 12 cBlock zBlock o)], 150⟩

theorem g14_ref22_Trim.l4_ok {W : World} {A Kf : Nat → Prop} (K : Nat) (a0 : Graph) (o256 : ByteArray × (List Bool)) (o344 : (List Int)) (r345 : Graph) : ∀ (k : Nat) (x446 : (List Block)) (x447 : Int) (o : (List Block)), g14_ref22_Trim.l4 K a0 o256 o344 r345 k x446 x447 = some o → WPR Try.prog W A Kf (kid [true, true, true, true, true, true, true, true, false, true, false, false] (bodyAt Try.f14)) (Out (.exit 8) (g14_ref22_Trim.j4_0 a0 o256 o344 r345 o)) k (g14_ref22_Trim.h4 a0 o256 o344 r345 x446 x447)
  | 0, x446, x447, o, h => by cases h
  | k + 1, x446, x447, o, h => by
    refine WPR.round ?_
    let b484 : Bool := (decide (x447 < (o256.2.length : Int)))
    refine StopP.advd tbOk [] 100000 1000 (by kernel_rfl) (by kernel_rfl) (ac_nil) ?_
    refine StopP.cond (b := b484) (by kernel_rfl) (fun hb485 => ?_) (fun hb485 => ?_)
    · have h := cd_t hb485 h
      obtain ⟨hg486, h⟩ := gd_some h
      let b487 : Bool := (o256.2.getD x447.toNat false)
      refine StopP.advd tbOk [] 100000 1000 (by kernel_rfl) (by kernel_rfl) (ac_y hg486 <| ac_y (tn hg486) <| ac_nil) ?_
      refine StopP.cond (b := b487) (by kernel_rfl) (fun hb488 => ?_) (fun hb488 => ?_)
      · have h := cd_t hb488 h
        obtain ⟨hg489, h⟩ := gd_some h
        let b490 : Bool := ((a0.Blocks.getD x447.toNat zBlock).End.Kind == (1 : Int))
        let b491 : Bool := ((a0.Blocks.getD x447.toNat zBlock).End.Kind == (2 : Int))
        let b492 : Bool := (bif b490 then true else b491)
        refine StopP.advd tbOk [] 100000 1000 (by kernel_rfl) (by kernel_rfl) (ac_y hg489 <| ac_on (!b490) (pt (!b490)) <| ac_on (!b490) (pt (!b490)) <| ac_y (pn b490) <| ac_nil) ?_
        refine StopP.cond (b := b492) (by kernel_rfl) (fun hb493 => ?_) (fun hb493 => ?_)
        · have h := cd_t hb493 h
          obtain ⟨hg494, h⟩ := gd_some h
          let i495 : Int := (o344.getD ((a0.Blocks.getD x447.toNat zBlock).End.To).toNat 0)
          let b496 : Bool := ((a0.Blocks.getD x447.toNat zBlock).End.Kind == (2 : Int))
          refine StopP.advd tbOk [] 100000 1000 (by kernel_rfl) (by kernel_rfl) (ac_y hg494 <| ac_y (tn hg494) <| ac_nil) ?_
          refine StopP.cond (b := b496) (by kernel_rfl) (fun hb497 => ?_) (fun hb497 => ?_)
          · have h := cd_t hb497 h
            refine StopP.reb [.keep [1, 2, 3, 7, 10, 11, 12] [1, 2, 10, 12, 16, 70, 5200]] (st' := .at (kid [true, true, true, true, true, true, true, true, false, true, false, false, true, false, false, true, false, true, true, false, true, false] (bodyAt Try.f14)) [.code (kid [true, true, true, true, true, true, true, true, false, true, false, false, true, false, false, true, false, true, true, true] (bodyAt Try.f14)), .blk 9, .code (kid [true, true, true, true, true, true, true, true, false, true, false, false, true, true] (bodyAt Try.f14))] ⟨[(1, .yes, v1 (.ptr 1 0 0)), (2, .yes, v1 (.ptr 2 0 0)), (3, .yes, v1 (.own 16)), (7, .yes, v1 (.own 70)), (10, .yes, v1 (.ptr 10 0 0)), (11, .yes, v1 (ci x447)), (12, .yes, v1 (.ptr 12 0 0))], [(1, .box 24 [cs a0.Name, cb a0.Keep, cb a0.Leaf, .t (.ro 12 cBlock zBlock a0.Blocks)]), (2, .box 24 [cs o256.1, cb false, cb false, .t (.ro 12 cBlock zBlock ([]))]), (10, .box 24 [cs r345.Name, cb r345.Keep, cb r345.Leaf, .own 5200]), (12, .box 37 [ci ((a0.Blocks.getD x447.toNat zBlock).End.Kind), ci ((a0.Blocks.getD x447.toNat zBlock).End.Op), ci ((a0.Blocks.getD x447.toNat zBlock).End.A), ci ((a0.Blocks.getD x447.toNat zBlock).End.B), ci i495, ci ((a0.Blocks.getD x447.toNat zBlock).End.Else), ci ((a0.Blocks.getD x447.toNat zBlock).End.Ins.Op), ci ((a0.Blocks.getD x447.toNat zBlock).End.Ins.A), ci ((a0.Blocks.getD x447.toNat zBlock).End.Ins.B), ci ((a0.Blocks.getD x447.toNat zBlock).End.Ins.C), ci ((a0.Blocks.getD x447.toNat zBlock).End.Ins.Imm)]), (16, .rows 4 1 eB false o256.2), (70, .rows 3 1 eI 0 o344), (5200, .rows 39 12 cBlock zBlock x446)], 150⟩) (by kernel_rfl) (by kernel_rfl) (by kernel_rfl) (by kernel_rfl) rfl ?_
            obtain ⟨hg498, h⟩ := gd_some h
            let i499 : Int := (o344.getD ((a0.Blocks.getD x447.toNat zBlock).End.Else).toNat 0)
            obtain ⟨hg500, h⟩ := gd_some h
            obtain ⟨hg501, h⟩ := gd_some h
            let y502 : List Block := ([(⟨(([] : List Op') ++ (a0.Blocks.getD x447.toNat zBlock).Ops), (⟨(a0.Blocks.getD x447.toNat zBlock).End.Kind, (a0.Blocks.getD x447.toNat zBlock).End.Op, (a0.Blocks.getD x447.toNat zBlock).End.A, (a0.Blocks.getD x447.toNat zBlock).End.B, i495, i499, (a0.Blocks.getD x447.toNat zBlock).End.Ins⟩ : Term)⟩ : Block)] : List Block)
            obtain ⟨hg503, h⟩ := gd_some h
            refine StopP.advd tbOk [(34, [(2, .obj (.rows 35 9 cOp zOp ([] : List Op'))), (9, .fz (.rows 35 9 cOp zOp (([] : List Op') ++ (a0.Blocks.getD x447.toNat zBlock).Ops))), (12, .obj (.rows 39 12 cBlock zBlock ([(⟨(([] : List Op') ++ (a0.Blocks.getD x447.toNat zBlock).Ops), (⟨(a0.Blocks.getD x447.toNat zBlock).End.Kind, (a0.Blocks.getD x447.toNat zBlock).End.Op, (a0.Blocks.getD x447.toNat zBlock).End.A, (a0.Blocks.getD x447.toNat zBlock).End.B, i495, i499, (a0.Blocks.getD x447.toNat zBlock).End.Ins⟩ : Term)⟩ : Block)] : List Block))), (13, .obj (.rows 39 12 cBlock zBlock (x446 ++ y502)))])] 100000 1000 (by kernel_rfl) (by kernel_rfl) (ac_y hg498 <| ac_y (tn hg498) <| ac_c (Built.mk (ty := 35) (es := 9) (enc := cOp) (z := zOp) (xs := ([] : List Op')) (fun _ _ => rfl) (by decide : (0 * 9 : Nat) ≤ 16777216)) <| ac_y hg500 <| ac_c (Appended.mk (ty := 35) (es := 9) (by_ := 72) (enc := cOp) (z := zOp) (z' := zOp) (xs := ([] : List Op')) (ys := (a0.Blocks.getD x447.toNat zBlock).Ops) (fun _ _ => rfl) (sl hg501) (sb hg501 (by decide))) <| ac_c (Built.mk (ty := 39) (es := 12) (enc := cBlock) (z := zBlock) (xs := ([(⟨(([] : List Op') ++ (a0.Blocks.getD x447.toNat zBlock).Ops), (⟨(a0.Blocks.getD x447.toNat zBlock).End.Kind, (a0.Blocks.getD x447.toNat zBlock).End.Op, (a0.Blocks.getD x447.toNat zBlock).End.A, (a0.Blocks.getD x447.toNat zBlock).End.B, i495, i499, (a0.Blocks.getD x447.toNat zBlock).End.Ins⟩ : Term)⟩ : Block)] : List Block)) (fun _ _ => rfl) (by decide : (1 * 12 : Nat) ≤ 16777216)) <| ac_c (Appended.mk (ty := 39) (es := 12) (by_ := 112) (enc := cBlock) (z := zBlock) (z' := zBlock) (xs := x446) (ys := y502) (fun _ _ => rfl) (sl hg503) (sb hg503 (by decide))) <| ac_nil) ?_
            refine StopP.out .normal (by kernel_rfl) ?_
            exact WPR.chg [.keep [1, 2, 3, 7, 10, 11] [1, 2, 10, 16, 70, 147], .ren [(147, 5200)]] (by kernel_rfl) (g14_ref22_Trim.l4_ok K a0 o256 o344 r345 k (x446 ++ y502) (IntKind.i64.wrap (x447 + (1 : Int))) o h)
          · have h := cd_f hb497 h
            obtain ⟨hg504, h⟩ := gd_some h
            obtain ⟨hg505, h⟩ := gd_some h
            let y506 : List Block := ([(⟨(([] : List Op') ++ (a0.Blocks.getD x447.toNat zBlock).Ops), (⟨(a0.Blocks.getD x447.toNat zBlock).End.Kind, (a0.Blocks.getD x447.toNat zBlock).End.Op, (a0.Blocks.getD x447.toNat zBlock).End.A, (a0.Blocks.getD x447.toNat zBlock).End.B, i495, (a0.Blocks.getD x447.toNat zBlock).End.Else, (a0.Blocks.getD x447.toNat zBlock).End.Ins⟩ : Term)⟩ : Block)] : List Block)
            obtain ⟨hg507, h⟩ := gd_some h
            refine StopP.advd tbOk [(34, [(2, .obj (.rows 35 9 cOp zOp ([] : List Op'))), (9, .fz (.rows 35 9 cOp zOp (([] : List Op') ++ (a0.Blocks.getD x447.toNat zBlock).Ops))), (12, .obj (.rows 39 12 cBlock zBlock ([(⟨(([] : List Op') ++ (a0.Blocks.getD x447.toNat zBlock).Ops), (⟨(a0.Blocks.getD x447.toNat zBlock).End.Kind, (a0.Blocks.getD x447.toNat zBlock).End.Op, (a0.Blocks.getD x447.toNat zBlock).End.A, (a0.Blocks.getD x447.toNat zBlock).End.B, i495, (a0.Blocks.getD x447.toNat zBlock).End.Else, (a0.Blocks.getD x447.toNat zBlock).End.Ins⟩ : Term)⟩ : Block)] : List Block))), (13, .obj (.rows 39 12 cBlock zBlock (x446 ++ y506)))])] 100000 1000 (by kernel_rfl) (by kernel_rfl) (ac_c (Built.mk (ty := 35) (es := 9) (enc := cOp) (z := zOp) (xs := ([] : List Op')) (fun _ _ => rfl) (by decide : (0 * 9 : Nat) ≤ 16777216)) <| ac_y hg504 <| ac_c (Appended.mk (ty := 35) (es := 9) (by_ := 72) (enc := cOp) (z := zOp) (z' := zOp) (xs := ([] : List Op')) (ys := (a0.Blocks.getD x447.toNat zBlock).Ops) (fun _ _ => rfl) (sl hg505) (sb hg505 (by decide))) <| ac_c (Built.mk (ty := 39) (es := 12) (enc := cBlock) (z := zBlock) (xs := ([(⟨(([] : List Op') ++ (a0.Blocks.getD x447.toNat zBlock).Ops), (⟨(a0.Blocks.getD x447.toNat zBlock).End.Kind, (a0.Blocks.getD x447.toNat zBlock).End.Op, (a0.Blocks.getD x447.toNat zBlock).End.A, (a0.Blocks.getD x447.toNat zBlock).End.B, i495, (a0.Blocks.getD x447.toNat zBlock).End.Else, (a0.Blocks.getD x447.toNat zBlock).End.Ins⟩ : Term)⟩ : Block)] : List Block)) (fun _ _ => rfl) (by decide : (1 * 12 : Nat) ≤ 16777216)) <| ac_c (Appended.mk (ty := 39) (es := 12) (by_ := 112) (enc := cBlock) (z := zBlock) (z' := zBlock) (xs := x446) (ys := y506) (fun _ _ => rfl) (sl hg507) (sb hg507 (by decide))) <| ac_nil) ?_
            refine StopP.out .normal (by kernel_rfl) ?_
            exact WPR.chg [.keep [1, 2, 3, 7, 10, 11] [1, 2, 10, 16, 70, 147], .ren [(147, 5200)]] (by kernel_rfl) (g14_ref22_Trim.l4_ok K a0 o256 o344 r345 k (x446 ++ y506) (IntKind.i64.wrap (x447 + (1 : Int))) o h)
        · have h := cd_f hb493 h
          let b508 : Bool := ((a0.Blocks.getD x447.toNat zBlock).End.Kind == (2 : Int))
          refine StopP.advd tbOk [] 100000 1000 (by kernel_rfl) (by kernel_rfl) (ac_nil) ?_
          refine StopP.cond (b := b508) (by kernel_rfl) (fun hb509 => ?_) (fun hb509 => ?_)
          · have h := cd_t hb509 h
            refine StopP.reb [.keep [1, 2, 3, 7, 10, 11, 12] [1, 2, 10, 12, 16, 70, 5200]] (st' := .at (kid [true, true, true, true, true, true, true, true, false, true, false, false, true, false, false, true, false, true, true, false, true, false] (bodyAt Try.f14)) [.code (kid [true, true, true, true, true, true, true, true, false, true, false, false, true, false, false, true, false, true, true, true] (bodyAt Try.f14)), .blk 9, .code (kid [true, true, true, true, true, true, true, true, false, true, false, false, true, true] (bodyAt Try.f14))] ⟨[(1, .yes, v1 (.ptr 1 0 0)), (2, .yes, v1 (.ptr 2 0 0)), (3, .yes, v1 (.own 16)), (7, .yes, v1 (.own 70)), (10, .yes, v1 (.ptr 10 0 0)), (11, .yes, v1 (ci x447)), (12, .yes, v1 (.ptr 12 0 0))], [(1, .box 24 [cs a0.Name, cb a0.Keep, cb a0.Leaf, .t (.ro 12 cBlock zBlock a0.Blocks)]), (2, .box 24 [cs o256.1, cb false, cb false, .t (.ro 12 cBlock zBlock ([]))]), (10, .box 24 [cs r345.Name, cb r345.Keep, cb r345.Leaf, .own 5200]), (12, .box 37 [ci ((a0.Blocks.getD x447.toNat zBlock).End.Kind), ci ((a0.Blocks.getD x447.toNat zBlock).End.Op), ci ((a0.Blocks.getD x447.toNat zBlock).End.A), ci ((a0.Blocks.getD x447.toNat zBlock).End.B), ci ((a0.Blocks.getD x447.toNat zBlock).End.To), ci ((a0.Blocks.getD x447.toNat zBlock).End.Else), ci ((a0.Blocks.getD x447.toNat zBlock).End.Ins.Op), ci ((a0.Blocks.getD x447.toNat zBlock).End.Ins.A), ci ((a0.Blocks.getD x447.toNat zBlock).End.Ins.B), ci ((a0.Blocks.getD x447.toNat zBlock).End.Ins.C), ci ((a0.Blocks.getD x447.toNat zBlock).End.Ins.Imm)]), (16, .rows 4 1 eB false o256.2), (70, .rows 3 1 eI 0 o344), (5200, .rows 39 12 cBlock zBlock x446)], 150⟩) (by kernel_rfl) (by kernel_rfl) (by kernel_rfl) (by kernel_rfl) rfl ?_
            obtain ⟨hg510, h⟩ := gd_some h
            let i511 : Int := (o344.getD ((a0.Blocks.getD x447.toNat zBlock).End.Else).toNat 0)
            obtain ⟨hg512, h⟩ := gd_some h
            obtain ⟨hg513, h⟩ := gd_some h
            let y514 : List Block := ([(⟨(([] : List Op') ++ (a0.Blocks.getD x447.toNat zBlock).Ops), (⟨(a0.Blocks.getD x447.toNat zBlock).End.Kind, (a0.Blocks.getD x447.toNat zBlock).End.Op, (a0.Blocks.getD x447.toNat zBlock).End.A, (a0.Blocks.getD x447.toNat zBlock).End.B, (a0.Blocks.getD x447.toNat zBlock).End.To, i511, (a0.Blocks.getD x447.toNat zBlock).End.Ins⟩ : Term)⟩ : Block)] : List Block)
            obtain ⟨hg515, h⟩ := gd_some h
            refine StopP.advd tbOk [(34, [(2, .obj (.rows 35 9 cOp zOp ([] : List Op'))), (9, .fz (.rows 35 9 cOp zOp (([] : List Op') ++ (a0.Blocks.getD x447.toNat zBlock).Ops))), (12, .obj (.rows 39 12 cBlock zBlock ([(⟨(([] : List Op') ++ (a0.Blocks.getD x447.toNat zBlock).Ops), (⟨(a0.Blocks.getD x447.toNat zBlock).End.Kind, (a0.Blocks.getD x447.toNat zBlock).End.Op, (a0.Blocks.getD x447.toNat zBlock).End.A, (a0.Blocks.getD x447.toNat zBlock).End.B, (a0.Blocks.getD x447.toNat zBlock).End.To, i511, (a0.Blocks.getD x447.toNat zBlock).End.Ins⟩ : Term)⟩ : Block)] : List Block))), (13, .obj (.rows 39 12 cBlock zBlock (x446 ++ y514)))])] 100000 1000 (by kernel_rfl) (by kernel_rfl) (ac_y hg510 <| ac_y (tn hg510) <| ac_c (Built.mk (ty := 35) (es := 9) (enc := cOp) (z := zOp) (xs := ([] : List Op')) (fun _ _ => rfl) (by decide : (0 * 9 : Nat) ≤ 16777216)) <| ac_y hg512 <| ac_c (Appended.mk (ty := 35) (es := 9) (by_ := 72) (enc := cOp) (z := zOp) (z' := zOp) (xs := ([] : List Op')) (ys := (a0.Blocks.getD x447.toNat zBlock).Ops) (fun _ _ => rfl) (sl hg513) (sb hg513 (by decide))) <| ac_c (Built.mk (ty := 39) (es := 12) (enc := cBlock) (z := zBlock) (xs := ([(⟨(([] : List Op') ++ (a0.Blocks.getD x447.toNat zBlock).Ops), (⟨(a0.Blocks.getD x447.toNat zBlock).End.Kind, (a0.Blocks.getD x447.toNat zBlock).End.Op, (a0.Blocks.getD x447.toNat zBlock).End.A, (a0.Blocks.getD x447.toNat zBlock).End.B, (a0.Blocks.getD x447.toNat zBlock).End.To, i511, (a0.Blocks.getD x447.toNat zBlock).End.Ins⟩ : Term)⟩ : Block)] : List Block)) (fun _ _ => rfl) (by decide : (1 * 12 : Nat) ≤ 16777216)) <| ac_c (Appended.mk (ty := 39) (es := 12) (by_ := 112) (enc := cBlock) (z := zBlock) (z' := zBlock) (xs := x446) (ys := y514) (fun _ _ => rfl) (sl hg515) (sb hg515 (by decide))) <| ac_nil) ?_
            refine StopP.out .normal (by kernel_rfl) ?_
            exact WPR.chg [.keep [1, 2, 3, 7, 10, 11] [1, 2, 10, 16, 70, 147], .ren [(147, 5200)]] (by kernel_rfl) (g14_ref22_Trim.l4_ok K a0 o256 o344 r345 k (x446 ++ y514) (IntKind.i64.wrap (x447 + (1 : Int))) o h)
          · have h := cd_f hb509 h
            obtain ⟨hg516, h⟩ := gd_some h
            obtain ⟨hg517, h⟩ := gd_some h
            let y518 : List Block := ([(⟨(([] : List Op') ++ (a0.Blocks.getD x447.toNat zBlock).Ops), (a0.Blocks.getD x447.toNat zBlock).End⟩ : Block)] : List Block)
            obtain ⟨hg519, h⟩ := gd_some h
            refine StopP.advd tbOk [(34, [(2, .obj (.rows 35 9 cOp zOp ([] : List Op'))), (9, .fz (.rows 35 9 cOp zOp (([] : List Op') ++ (a0.Blocks.getD x447.toNat zBlock).Ops))), (12, .obj (.rows 39 12 cBlock zBlock ([(⟨(([] : List Op') ++ (a0.Blocks.getD x447.toNat zBlock).Ops), (a0.Blocks.getD x447.toNat zBlock).End⟩ : Block)] : List Block))), (13, .obj (.rows 39 12 cBlock zBlock (x446 ++ y518)))])] 100000 1000 (by kernel_rfl) (by kernel_rfl) (ac_c (Built.mk (ty := 35) (es := 9) (enc := cOp) (z := zOp) (xs := ([] : List Op')) (fun _ _ => rfl) (by decide : (0 * 9 : Nat) ≤ 16777216)) <| ac_y hg516 <| ac_c (Appended.mk (ty := 35) (es := 9) (by_ := 72) (enc := cOp) (z := zOp) (z' := zOp) (xs := ([] : List Op')) (ys := (a0.Blocks.getD x447.toNat zBlock).Ops) (fun _ _ => rfl) (sl hg517) (sb hg517 (by decide))) <| ac_c (Built.mk (ty := 39) (es := 12) (enc := cBlock) (z := zBlock) (xs := ([(⟨(([] : List Op') ++ (a0.Blocks.getD x447.toNat zBlock).Ops), (a0.Blocks.getD x447.toNat zBlock).End⟩ : Block)] : List Block)) (fun _ _ => rfl) (by decide : (1 * 12 : Nat) ≤ 16777216)) <| ac_c (Appended.mk (ty := 39) (es := 12) (by_ := 112) (enc := cBlock) (z := zBlock) (z' := zBlock) (xs := x446) (ys := y518) (fun _ _ => rfl) (sl hg519) (sb hg519 (by decide))) <| ac_nil) ?_
            refine StopP.out .normal (by kernel_rfl) ?_
            exact WPR.chg [.keep [1, 2, 3, 7, 10, 11] [1, 2, 10, 16, 70, 147], .ren [(147, 5200)]] (by kernel_rfl) (g14_ref22_Trim.l4_ok K a0 o256 o344 r345 k (x446 ++ y518) (IntKind.i64.wrap (x447 + (1 : Int))) o h)
      · have h := cd_f hb488 h
        refine StopP.advd tbOk [] 100000 1000 (by kernel_rfl) (by kernel_rfl) (ac_nil) ?_
        refine StopP.out .normal (by kernel_rfl) ?_
        exact WPR.chg [.keep [1, 2, 3, 7, 10, 11] [1, 2, 10, 16, 70, 5200]] (by kernel_rfl) (g14_ref22_Trim.l4_ok K a0 o256 o344 r345 k x446 (IntKind.i64.wrap (x447 + (1 : Int))) o h)
    · have h := cd_f hb485 h
      refine StopP.advd tbOk [] 100000 1000 (by kernel_rfl) (by kernel_rfl) (ac_nil) ?_
      have h := sm h; subst h
      exact StopP.out (.exit 8) (by kernel_rfl) ⟨rfl, [.keep [2, 10] [2, 10, 5200]], by kernel_rfl⟩

def g14_ref22_Trim (K : Nat) (a0 : Graph) : Option (Graph) :=
  gd (0 ≤ (a0.Blocks.length : Int) ∧ (a0.Blocks.length : Int).toNat ≤ 1073741824) <|
  gd (0 ≤ (0 : Int) ∧ (0 : Int) < ((List.replicate (a0.Blocks.length : Int).toNat false).length : Int)) <|
  let y3 : List Bool := ((List.replicate (a0.Blocks.length : Int).toNat false).set (0 : Int).toNat true)
  (g14_ref22_Trim.l0 K a0 K ByteArray.empty y3 (0 : Int)).bind fun o256 =>
  gd (0 ≤ (o256.2.length : Int) ∧ (o256.2.length : Int).toNat ≤ 1073741824) <|
  (g14_ref22_Trim.l2 K a0 o256 K (List.replicate (o256.2.length : Int).toNat 0) (0 : Int)).bind fun o344 =>
  (g21_ref16_Copy K a0).bind fun r345 =>
  (g14_ref22_Trim.l4 K a0 o256 o344 r345 K ([]) (0 : Int)).bind fun o520 =>
  some (⟨r345.Name, r345.Keep, r345.Leaf, o520⟩ : Graph)

theorem g14_ref22_Trim_ok (K : Nat) (a0 : Graph) (r : Graph) (h : g14_ref22_Trim K a0 = some r) : AC Try.prog 14 [] [.v true [cs a0.Name, cb a0.Keep, cb a0.Leaf, .t (.ro 12 cBlock zBlock a0.Blocks)]] [(7000, .rows 39 12 cBlock zBlock r.Blocks)] (.v true [cs r.Name, cb r.Keep, cb r.Leaf, .own 7000]) := by
  refine AC.intro (fn := Try.f14) tbOk (by kernel_rfl) rfl (by kernel_rfl) (fun W A Kf => ?_)
  obtain ⟨hg1, h⟩ := gd_some h
  obtain ⟨hg2, h⟩ := gd_some h
  let y3 : List Bool := ((List.replicate (a0.Blocks.length : Int).toNat false).set (0 : Int).toNat true)
  refine StopP.advd tbOk [(1, [(3, .obj (.rows 4 1 eB false (List.replicate (a0.Blocks.length : Int).toNat false)))]), (2, [(2, .obj (.rows 4 1 eB false ((List.replicate (a0.Blocks.length : Int).toNat false).set (0 : Int).toNat true)))])] 100000 1000 (by kernel_rfl) (by kernel_rfl) (ac_c (rfl : (a0.Blocks.length : Int) = (a0.Blocks.length : Int)) <| ac_c (Made.mk (ty := 4) (es := 1) (by_ := 1) (enc := eB) (z := false) (n := (a0.Blocks.length : Int)) hg1.1 rfl (sl hg1.2) (sb2 hg1.2 (by decide))) <| ac_y hg2 <| ac_c (Stored.mk (ty := 4) (es := 1) (enc := eB) (z := false) (xs := (List.replicate (a0.Blocks.length : Int).toNat false)) (i := (0 : Int).toNat) (j := 0) (n := 1) true (tn hg2) (by decide) rfl rfl rfl) <| ac_nil) ?_
  obtain ⟨o256, ho256, h⟩ := bd_some h
  refine StopP.lp (by kernel_rfl) [.keep [1, 2, 3, 4] [1, 2, 16]] (s := g14_ref22_Trim.h0 a0 ByteArray.empty y3 (0 : Int)) (by kernel_rfl) (c := (kid [true, true, true, false, true, false, false] (bodyAt Try.f14))) (by kernel_rfl) (e := (.exit 0)) (J := g14_ref22_Trim.j0_0 a0 o256) K (g14_ref22_Trim.l0_ok K a0 K ByteArray.empty y3 (0 : Int) o256 ho256) ?_
  obtain ⟨hg257, h⟩ := gd_some h
  refine StopP.advd tbOk [(14, [(2, .obj (.rows 3 1 eI 0 (List.replicate (o256.2.length : Int).toNat 0)))])] 100000 1000 (by kernel_rfl) (by kernel_rfl) (ac_c (rfl : (o256.2.length : Int) = (o256.2.length : Int)) <| ac_c (Made.mk (ty := 3) (es := 1) (by_ := 8) (enc := eI) (z := 0) (n := (o256.2.length : Int)) hg257.1 rfl (sl hg257.2) (sb2 hg257.2 (by decide))) <| ac_nil) ?_
  obtain ⟨o344, ho344, h⟩ := bd_some h
  refine StopP.lp (by kernel_rfl) [.keep [1, 2, 3, 7, 8] [1, 2, 16, 70]] (s := g14_ref22_Trim.h2 a0 o256 (List.replicate (o256.2.length : Int).toNat 0) (0 : Int)) (by kernel_rfl) (c := (kid [true, true, true, true, true, false, true, false, false] (bodyAt Try.f14))) (by kernel_rfl) (e := (.exit 4)) (J := g14_ref22_Trim.j2_0 a0 o256 o344) K (g14_ref22_Trim.l2_ok K a0 o256 K (List.replicate (o256.2.length : Int).toNat 0) (0 : Int) o344 ho344) ?_
  obtain ⟨r345, hc345, h⟩ := bd_some h
  refine StopP.advd tbOk [(23, [(1, .call [] [] (.v true [cs r345.Name, cb r345.Keep, cb r345.Leaf, .t (.ro 12 cBlock zBlock r345.Blocks)]))])] 100000 1000 (by kernel_rfl) (by kernel_rfl) (ac_y (g21_ref16_Copy_fz K a0 r345 hc345) <| ac_nil) ?_
  obtain ⟨o520, ho520, h⟩ := bd_some h
  refine StopP.lp (by kernel_rfl) [.own (.box 10 3) 5200 (.rows 39 12 cBlock zBlock []), .keep [1, 2, 3, 7, 10, 11] [1, 2, 10, 16, 70, 5200]] (s := g14_ref22_Trim.h4 a0 o256 o344 r345 ([]) (0 : Int)) (by kernel_rfl) (c := (kid [true, true, true, true, true, true, true, true, false, true, false, false] (bodyAt Try.f14))) (by kernel_rfl) (e := (.exit 8)) (J := g14_ref22_Trim.j4_0 a0 o256 o344 r345 o520) K (g14_ref22_Trim.l4_ok K a0 o256 o344 r345 K ([]) (0 : Int) o520 ho520) ?_
  refine StopP.advd tbOk [] 100000 1000 (by kernel_rfl) (by kernel_rfl) (ac_nil) ?_
  have h := sm h; subst h
  refine StopP.out .ret (by kernel_rfl) ?_
  exact ret_box (.inr rfl) [.keep [2] [2, 5200], .ren [(5200, 7000)]] (by kernel_rfl) (by kernel_rfl) [7000] (by kernel_rfl)

theorem g14_ref22_Trim_fz (K : Nat) (a0 : Graph) (r : Graph) (h : g14_ref22_Trim K a0 = some r) : AC Try.prog 14 [] [.v true [cs a0.Name, cb a0.Keep, cb a0.Leaf, .t (.ro 12 cBlock zBlock a0.Blocks)]] [] (.v true [cs r.Name, cb r.Keep, cb r.Leaf, .t (.ro 12 cBlock zBlock r.Blocks)]) :=
  AC.cast (AC.fz (g14_ref22_Trim_ok K a0 r h) 7000 (o := .rows 39 12 cBlock zBlock r.Blocks) (t := .ro 12 cBlock zBlock r.Blocks) (by kernel_rfl) (by kernel_rfl)) (by kernel_rfl) (by kernel_rfl)

def g18_ref22_Graph (K : Nat) (a0 : Graph) : Option (Graph) :=
  bif a0.Keep then
    (g21_ref16_Copy K a0).bind fun r2 =>
    some r2
  else
    (g12_ref22_Thread K a0).bind fun r3 =>
    (g14_ref22_Trim K r3).bind fun r4 =>
    (g16_ref22_Sweep K r4).bind fun r5 =>
    (g12_ref22_Thread K r5).bind fun r6 =>
    (g14_ref22_Trim K r6).bind fun r7 =>
    some r7

theorem g18_ref22_Graph_ok (K : Nat) (a0 : Graph) (r : Graph) (h : g18_ref22_Graph K a0 = some r) : AC Try.prog 18 [] [.v true [cs a0.Name, cb a0.Keep, cb a0.Leaf, .t (.ro 12 cBlock zBlock a0.Blocks)]] [] (.v true [cs r.Name, cb r.Keep, cb r.Leaf, .t (.ro 12 cBlock zBlock r.Blocks)]) := by
  refine AC.intro (fn := Try.f18) tbOk (by kernel_rfl) rfl (by kernel_rfl) (fun W A Kf => ?_)
  refine StopP.advd tbOk [] 100000 1000 (by kernel_rfl) (by kernel_rfl) (ac_nil) ?_
  refine StopP.cond (b := a0.Keep) (by kernel_rfl) (fun hb1 => ?_) (fun hb1 => ?_)
  · have h := cd_t hb1 h
    refine StopP.reb [.keep [1, 2] [1, 2]] (st' := .at (kid [true, false, true, false] (bodyAt Try.f18)) [.code (kid [true, true] (bodyAt Try.f18))] ⟨[(1, .yes, v1 (.ptr 1 0 0)), (2, .yes, v1 (.ptr 2 0 0))], [(1, .box 24 [cs a0.Name, cb a0.Keep, cb a0.Leaf, .t (.ro 12 cBlock zBlock a0.Blocks)]), (2, .box 24 [cs ByteArray.empty, cb false, cb false, .t (.ro 12 cBlock zBlock ([]))])], 13⟩) (by kernel_rfl) (by kernel_rfl) (by kernel_rfl) (by kernel_rfl) rfl ?_
    obtain ⟨r2, hc2, h⟩ := bd_some h
    refine StopP.advd tbOk [(2, [(1, .call [] [] (.v true [cs r2.Name, cb r2.Keep, cb r2.Leaf, .t (.ro 12 cBlock zBlock r2.Blocks)]))])] 100000 1000 (by kernel_rfl) (by kernel_rfl) (ac_y (g21_ref16_Copy_fz K a0 r2 hc2) <| ac_nil) ?_
    have h := sm h; subst h
    refine StopP.out .ret (by kernel_rfl) ?_
    exact ret_box (.inr rfl) [.keep [2] [2]] (by kernel_rfl) (by kernel_rfl) [] (by kernel_rfl)
  · have h := cd_f hb1 h
    obtain ⟨r3, hc3, h⟩ := bd_some h
    obtain ⟨r4, hc4, h⟩ := bd_some h
    obtain ⟨r5, hc5, h⟩ := bd_some h
    obtain ⟨r6, hc6, h⟩ := bd_some h
    obtain ⟨r7, hc7, h⟩ := bd_some h
    refine StopP.advd tbOk [(3, [(1, .call [] [] (.v true [cs r3.Name, cb r3.Keep, cb r3.Leaf, .t (.ro 12 cBlock zBlock r3.Blocks)])), (2, .call [] [] (.v true [cs r4.Name, cb r4.Keep, cb r4.Leaf, .t (.ro 12 cBlock zBlock r4.Blocks)])), (3, .call [] [] (.v true [cs r5.Name, cb r5.Keep, cb r5.Leaf, .t (.ro 12 cBlock zBlock r5.Blocks)])), (4, .call [] [] (.v true [cs r6.Name, cb r6.Keep, cb r6.Leaf, .t (.ro 12 cBlock zBlock r6.Blocks)])), (5, .call [] [] (.v true [cs r7.Name, cb r7.Keep, cb r7.Leaf, .t (.ro 12 cBlock zBlock r7.Blocks)]))])] 100000 1000 (by kernel_rfl) (by kernel_rfl) (ac_y (g12_ref22_Thread_fz K a0 r3 hc3) <| ac_y (g14_ref22_Trim_fz K r3 r4 hc4) <| ac_y (g16_ref22_Sweep_fz K r4 r5 hc5) <| ac_y (g12_ref22_Thread_fz K r5 r6 hc6) <| ac_y (g14_ref22_Trim_fz K r6 r7 hc7) <| ac_nil) ?_
    have h := sm h; subst h
    refine StopP.out .ret (by kernel_rfl) ?_
    exact ret_box (.inr rfl) [.keep [2] [2]] (by kernel_rfl) (by kernel_rfl) [] (by kernel_rfl)

/-! ### slices.Clone -/
def g32_slices_Clone (K : Nat) (a0 : List Op') : Option (List Op') := gd (a0.length ≤ 1073741824) <| some a0

theorem g32_slices_Clone_ok (K : Nat) (a0 : List Op') (r : List Op') (h : g32_slices_Clone K a0 = some r) : AC Try.prog 32 [] [v1 (.t (.ro 9 cOp zOp a0))] [(7000, .rows 35 9 cOp zOp r)] (v1 (.own 7000)) := by
  obtain ⟨hg, h⟩ := gd_some h
  have h := sm h; subst h
  refine AC.roNil (fun x r he => ?_) (fun he => ?_) (fun he a c => ?_)
  · subst he
    refine AC.intro (fn := Try.f32) tbOk (by kernel_rfl) rfl (by kernel_rfl) (fun W A Kf => ?_)
    refine StopP.advd tbOk [] 100000 1000 (by kernel_rfl) (by kernel_rfl) (ac_nil) ?_
    refine StopP.condF (by kernel_rfl) ?_
    refine StopP.advd tbOk [(3, [(0, .obj (.rows 35 9 cOp zOp ([] : List Op'))), (2, .obj (.rows 35 9 cOp zOp (([] : List Op') ++ (x :: r))))])] 100000 1000 (by kernel_rfl) (by kernel_rfl) (ac_c (Built.mk (ty := 35) (es := 9) (enc := cOp) (z := zOp) (xs := ([] : List Op')) (fun _ _ => rfl) (by decide : (0 * 9 : Nat) ≤ 16777216)) <| ac_c (Appended.mk (ty := 35) (es := 9) (by_ := 72) (enc := cOp) (z := zOp) (z' := zOp) (xs := ([] : List Op')) (ys := x :: r) (fun _ _ => rfl) (sl (by simpa using hg)) (sb (by simpa using hg) (by decide))) <| ac_nil) ?_
    refine StopP.out .ret (by kernel_rfl) ?_
    exact ret_box (.inr rfl) [.keep [2] [7], .ren [(7, 7000)]] (by kernel_rfl) (by kernel_rfl) [7000] (by kernel_rfl)
  · subst he
    refine AC.intro (fn := Try.f32) tbOk (by kernel_rfl) rfl (by kernel_rfl) (fun W A Kf => ?_)
    refine StopP.advd tbOk [] 100000 1000 (by kernel_rfl) (by kernel_rfl) (ac_nil) ?_
    refine StopP.condT (by kernel_rfl) ?_
    refine StopP.advd tbOk [] 100000 1000 (by kernel_rfl) (by kernel_rfl) (ac_nil) ?_
    refine StopP.out .ret (by kernel_rfl) ?_
    exact ret_box (.inr rfl) [.own (.slot 2 0) 7000 (.rows 35 9 cOp zOp []), .keep [2] [7000]] (by kernel_rfl) (by kernel_rfl) [7000] (by kernel_rfl)
  · subst he
    refine AC.intro (fn := Try.f32) tbOk (by kernel_rfl) rfl (by kernel_rfl) (fun W A Kf => ?_)
    refine StopP.advd tbOk [] 100000 1000 (by kernel_rfl) (by kernel_rfl) (ac_nil) ?_
    refine StopP.condF (by kernel_rfl) ?_
    refine StopP.advd tbOk [(3, [(0, .obj (.rows 35 9 cOp zOp ([] : List Op'))), (2, .obj (.rows 35 9 cOp zOp ([] : List Op')))])] 100000 1000 (by kernel_rfl) (by kernel_rfl) (ac_c (Built.mk (ty := 35) (es := 9) (enc := cOp) (z := zOp) (xs := ([] : List Op')) (fun _ _ => rfl) (by decide : (0 * 9 : Nat) ≤ 16777216)) <| ac_c (Appended.nil (ty := 35) (es := 9) (by_ := 72) (enc := cOp) (z := zOp) (xs := ([] : List Op')) (p := some a) (c := c) (fun h => by cases h) (by decide) (by decide)) <| ac_nil) ?_
    refine StopP.out .ret (by kernel_rfl) ?_
    exact ret_box (.inr rfl) [.keep [2] [7], .ren [(7, 7000)]] (by kernel_rfl) (by kernel_rfl) [7000] (by kernel_rfl)

theorem g32_slices_Clone_fz (K : Nat) (a0 : List Op') (r : List Op') (h : g32_slices_Clone K a0 = some r) : AC Try.prog 32 [] [v1 (.t (.ro 9 cOp zOp a0))] [] (v1 (.t (.ro 9 cOp zOp r))) :=
  AC.cast (AC.fz (g32_slices_Clone_ok K a0 r h) 7000 (o := .rows 35 9 cOp zOp r) (t := .ro 9 cOp zOp r) (by kernel_rfl) (by kernel_rfl)) (by kernel_rfl) (by kernel_rfl)

def g23_dead_copied.l0 (K : Nat) (a0 : Graph) : Nat → (List Block) → Int → Option (ByteArray × (List Block))
  | 0, _, _ => none
  | k + 1, x16, x17 =>
    let b24 : Bool := (decide (x17 < (a0.Blocks.length : Int)))
    bif b24 then
      gd (0 ≤ x17 ∧ x17 < (a0.Blocks.length : Int)) <|
      (g32_slices_Clone K ((a0.Blocks.getD x17.toNat zBlock).Ops)).bind fun r27 =>
      let y28 : List Block := ([(⟨r27, (a0.Blocks.getD x17.toNat zBlock).End⟩ : Block)] : List Block)
      gd (x16.length + y28.length ≤ 1073741824) <|
      g23_dead_copied.l0 K a0 k (x16 ++ y28) (IntKind.i64.wrap (x17 + (1 : Int)))
    else
      some (ByteArray.empty, x16)

def g23_dead_copied.h0 (a0 : Graph) (x16 : (List Block)) (x17 : Int) : Abs.St := ⟨[(2, .yes, v1 (.ptr 2 0 0)), (3, .yes, v1 (.ptr 3 0 0)), (9, .yes, v1 (.t (.ro 12 cBlock zBlock a0.Blocks))), (10, .yes, v1 (ci (a0.Blocks.length : Int))), (11, .yes, v1 (ci x17))], [(2, .box 24 [cs ByteArray.empty, cb false, cb false, .t (.ro 12 cBlock zBlock ([]))]), (3, .box 24 [cs a0.Name, cb a0.Keep, cb a0.Leaf, .own 5000]), (5000, .rows 39 12 cBlock zBlock x16)], 28⟩

def g23_dead_copied.j0_0 (a0 : Graph) (o : ByteArray × (List Block)) : Abs.St := ⟨[(2, .yes, v1 (.ptr 2 0 0)), (3, .yes, v1 (.ptr 3 0 0))], [(2, .box 24 [cs o.1, cb false, cb false, .t (.ro 12 cBlock zBlock ([]))]), (3, .box 24 [cs a0.Name, cb a0.Keep, cb a0.Leaf, .own 5000]), (5000, .rows 39 12 cBlock zBlock o.2)], 28⟩

theorem g23_dead_copied.l0_ok {W : World} {A Kf : Nat → Prop} (K : Nat) (a0 : Graph) : ∀ (k : Nat) (x16 : (List Block)) (x17 : Int) (o : ByteArray × (List Block)), g23_dead_copied.l0 K a0 k x16 x17 = some o → WPR Try.prog W A Kf (kid [true, true, true, false, true, false, false] (bodyAt Try.f23)) (Out (.exit 0) (g23_dead_copied.j0_0 a0 o)) k (g23_dead_copied.h0 a0 x16 x17)
  | 0, x16, x17, o, h => by cases h
  | k + 1, x16, x17, o, h => by
    refine WPR.round ?_
    let b24 : Bool := (decide (x17 < (a0.Blocks.length : Int)))
    refine StopP.advd tbOk [] 100000 1000 (by kernel_rfl) (by kernel_rfl) (ac_nil) ?_
    refine StopP.cond (b := b24) (by kernel_rfl) (fun hb25 => ?_) (fun hb25 => ?_)
    · have h := cd_t hb25 h
      obtain ⟨hg26, h⟩ := gd_some h
      obtain ⟨r27, hc27, h⟩ := bd_some h
      let y28 : List Block := ([(⟨r27, (a0.Blocks.getD x17.toNat zBlock).End⟩ : Block)] : List Block)
      obtain ⟨hg29, h⟩ := gd_some h
      refine StopP.advd tbOk [(6, [(4, .call [] [] (v1 (.t (.ro 9 cOp zOp r27)))), (8, .obj (.rows 39 12 cBlock zBlock ([(⟨r27, (a0.Blocks.getD x17.toNat zBlock).End⟩ : Block)] : List Block))), (9, .obj (.rows 39 12 cBlock zBlock (x16 ++ y28)))])] 100000 1000 (by kernel_rfl) (by kernel_rfl) (ac_y hg26 <| ac_y (g32_slices_Clone_fz K ((a0.Blocks.getD x17.toNat zBlock).Ops) r27 hc27) <| ac_c (Built.mk (ty := 39) (es := 12) (enc := cBlock) (z := zBlock) (xs := ([(⟨r27, (a0.Blocks.getD x17.toNat zBlock).End⟩ : Block)] : List Block)) (fun _ _ => rfl) (by decide : (1 * 12 : Nat) ≤ 16777216)) <| ac_c (Appended.mk (ty := 39) (es := 12) (by_ := 112) (enc := cBlock) (z := zBlock) (z' := zBlock) (xs := x16) (ys := y28) (fun _ _ => rfl) (sl hg29) (sb hg29 (by decide))) <| ac_nil) ?_
      refine StopP.out .normal (by kernel_rfl) ?_
      exact WPR.chg [.keep [2, 3, 9, 10, 11] [2, 3, 24], .ren [(24, 5000)]] (by kernel_rfl) (g23_dead_copied.l0_ok K a0 k (x16 ++ y28) (IntKind.i64.wrap (x17 + (1 : Int))) o h)
    · have h := cd_f hb25 h
      refine StopP.advd tbOk [] 100000 1000 (by kernel_rfl) (by kernel_rfl) (ac_nil) ?_
      have h := sm h; subst h
      exact StopP.out (.exit 0) (by kernel_rfl) ⟨rfl, [.keep [2, 3] [2, 3, 5000]], by kernel_rfl⟩

def g23_dead_copied (K : Nat) (a0 : Graph) : Option (Graph) :=
  (g23_dead_copied.l0 K a0 K ([]) (0 : Int)).bind fun o30 =>
  some (⟨a0.Name, a0.Keep, a0.Leaf, o30.2⟩ : Graph)

theorem g23_dead_copied_ok (K : Nat) (a0 : Graph) (r : Graph) (h : g23_dead_copied K a0 = some r) : AC Try.prog 23 [] [.v true [cs a0.Name, cb a0.Keep, cb a0.Leaf, .t (.ro 12 cBlock zBlock a0.Blocks)]] [(7000, .rows 39 12 cBlock zBlock r.Blocks)] (.v true [cs r.Name, cb r.Keep, cb r.Leaf, .own 7000]) := by
  refine AC.intro (fn := Try.f23) tbOk (by kernel_rfl) rfl (by kernel_rfl) (fun W A Kf => ?_)
  refine StopP.advd tbOk [] 100000 1000 (by kernel_rfl) (by kernel_rfl) (ac_nil) ?_
  obtain ⟨o30, ho30, h⟩ := bd_some h
  refine StopP.lp (by kernel_rfl) [.own (.box 3 3) 5000 (.rows 39 12 cBlock zBlock []), .keep [2, 3, 9, 10, 11] [2, 3, 5000]] (s := g23_dead_copied.h0 a0 ([]) (0 : Int)) (by kernel_rfl) (c := (kid [true, true, true, false, true, false, false] (bodyAt Try.f23))) (by kernel_rfl) (e := (.exit 0)) (J := g23_dead_copied.j0_0 a0 o30) K (g23_dead_copied.l0_ok K a0 K ([]) (0 : Int) o30 ho30) ?_
  refine StopP.advd tbOk [] 100000 1000 (by kernel_rfl) (by kernel_rfl) (ac_nil) ?_
  have h := sm h; subst h
  refine StopP.out .ret (by kernel_rfl) ?_
  exact ret_box (.inr rfl) [.keep [2] [2, 5000], .ren [(5000, 7000)]] (by kernel_rfl) (by kernel_rfl) [7000] (by kernel_rfl)

theorem g23_dead_copied_fz (K : Nat) (a0 : Graph) (r : Graph) (h : g23_dead_copied K a0 = some r) : AC Try.prog 23 [] [.v true [cs a0.Name, cb a0.Keep, cb a0.Leaf, .t (.ro 12 cBlock zBlock a0.Blocks)]] [] (.v true [cs r.Name, cb r.Keep, cb r.Leaf, .t (.ro 12 cBlock zBlock r.Blocks)]) :=
  AC.cast (AC.fz (g23_dead_copied_ok K a0 r h) 7000 (o := .rows 39 12 cBlock zBlock r.Blocks) (t := .ro 12 cBlock zBlock r.Blocks) (by kernel_rfl) (by kernel_rfl)) (by kernel_rfl) (by kernel_rfl)

def g11_dead_Thread.l0 (K : Nat) (a0 : Graph) (r1 : Graph) : Nat → (List Block) → Int → Option (ByteArray × (List Block))
  | 0, _, _ => none
  | k + 1, x44, x45 =>
    let b88 : Bool := (decide (x45 < (r1.Blocks.length : Int)))
    bif b88 then
      gd (0 ≤ x45 ∧ x45 < (x44.length : Int)) <|
      let b91 : Bool := ((x44.getD x45.toNat zBlock).End.Kind == (2 : Int))
      bif b91 then
        (g24_dead_through K a0 ((x44.getD x45.toNat zBlock).End.Else)).bind fun r93 =>
        let y94 : List Block := (x44.set x45.toNat (⟨(x44.getD x45.toNat zBlock).Ops, (⟨(x44.getD x45.toNat zBlock).End.Kind, (x44.getD x45.toNat zBlock).End.Op, (x44.getD x45.toNat zBlock).End.A, (x44.getD x45.toNat zBlock).End.B, (x44.getD x45.toNat zBlock).End.To, r93, (x44.getD x45.toNat zBlock).End.Ins⟩ : Term)⟩ : Block))
        gd (x45.toNat < y94.length) <|
        (g24_dead_through K a0 ((y94.getD x45.toNat zBlock).End.To)).bind fun r96 =>
        gd (x45.toNat < y94.length) <|
        let y98 : List Block := (y94.set x45.toNat (⟨(y94.getD x45.toNat zBlock).Ops, (⟨(y94.getD x45.toNat zBlock).End.Kind, (y94.getD x45.toNat zBlock).End.Op, (y94.getD x45.toNat zBlock).End.A, (y94.getD x45.toNat zBlock).End.B, r96, (y94.getD x45.toNat zBlock).End.Else, (y94.getD x45.toNat zBlock).End.Ins⟩ : Term)⟩ : Block))
        gd (x45.toNat < y98.length) <|
        let b100 : Bool := ((y98.getD x45.toNat zBlock).End.Kind == (2 : Int))
        gd (b100 = true → x45.toNat < y98.length) <|
        gd (b100 = true → x45.toNat < y98.length) <|
        let b103 : Bool := ((y98.getD x45.toNat zBlock).End.To == (y98.getD x45.toNat zBlock).End.Else)
        let b104 : Bool := (bif b100 then b103 else false)
        bif b104 then
          gd (x45.toNat < y98.length) <|
          gd (x45.toNat < y98.length) <|
          let y108 : List Block := (y98.set x45.toNat (⟨(y98.getD x45.toNat zBlock).Ops, (⟨(1 : Int), (0 : Int), (0 : Int), (0 : Int), (y98.getD x45.toNat zBlock).End.To, (0 : Int), (⟨(0 : Int), (0 : Int), (0 : Int), (0 : Int), (0 : Int)⟩ : Ins)⟩ : Term)⟩ : Block))
          g11_dead_Thread.l0 K a0 r1 k y108 (IntKind.i64.wrap (x45 + (1 : Int)))
        else
          g11_dead_Thread.l0 K a0 r1 k y98 (IntKind.i64.wrap (x45 + (1 : Int)))
      else
        let b109 : Bool := ((x44.getD x45.toNat zBlock).End.Kind == (1 : Int))
        bif b109 then
          (g24_dead_through K a0 ((x44.getD x45.toNat zBlock).End.To)).bind fun r111 =>
          let y112 : List Block := (x44.set x45.toNat (⟨(x44.getD x45.toNat zBlock).Ops, (⟨(x44.getD x45.toNat zBlock).End.Kind, (x44.getD x45.toNat zBlock).End.Op, (x44.getD x45.toNat zBlock).End.A, (x44.getD x45.toNat zBlock).End.B, r111, (x44.getD x45.toNat zBlock).End.Else, (x44.getD x45.toNat zBlock).End.Ins⟩ : Term)⟩ : Block))
          gd (x45.toNat < y112.length) <|
          let b114 : Bool := ((y112.getD x45.toNat zBlock).End.Kind == (2 : Int))
          gd (b114 = true → x45.toNat < y112.length) <|
          gd (b114 = true → x45.toNat < y112.length) <|
          let b117 : Bool := ((y112.getD x45.toNat zBlock).End.To == (y112.getD x45.toNat zBlock).End.Else)
          let b118 : Bool := (bif b114 then b117 else false)
          bif b118 then
            gd (x45.toNat < y112.length) <|
            gd (x45.toNat < y112.length) <|
            let y122 : List Block := (y112.set x45.toNat (⟨(y112.getD x45.toNat zBlock).Ops, (⟨(1 : Int), (0 : Int), (0 : Int), (0 : Int), (y112.getD x45.toNat zBlock).End.To, (0 : Int), (⟨(0 : Int), (0 : Int), (0 : Int), (0 : Int), (0 : Int)⟩ : Ins)⟩ : Term)⟩ : Block))
            g11_dead_Thread.l0 K a0 r1 k y122 (IntKind.i64.wrap (x45 + (1 : Int)))
          else
            g11_dead_Thread.l0 K a0 r1 k y112 (IntKind.i64.wrap (x45 + (1 : Int)))
        else
          let b123 : Bool := ((x44.getD x45.toNat zBlock).End.Kind == (2 : Int))
          gd (b123 = true → x45.toNat < x44.length) <|
          gd (b123 = true → x45.toNat < x44.length) <|
          let b126 : Bool := ((x44.getD x45.toNat zBlock).End.To == (x44.getD x45.toNat zBlock).End.Else)
          let b127 : Bool := (bif b123 then b126 else false)
          bif b127 then
            let y129 : List Block := (x44.set x45.toNat (⟨(x44.getD x45.toNat zBlock).Ops, (⟨(1 : Int), (0 : Int), (0 : Int), (0 : Int), (x44.getD x45.toNat zBlock).End.To, (0 : Int), (⟨(0 : Int), (0 : Int), (0 : Int), (0 : Int), (0 : Int)⟩ : Ins)⟩ : Term)⟩ : Block))
            g11_dead_Thread.l0 K a0 r1 k y129 (IntKind.i64.wrap (x45 + (1 : Int)))
          else
            g11_dead_Thread.l0 K a0 r1 k x44 (IntKind.i64.wrap (x45 + (1 : Int)))
    else
      some (ByteArray.empty, x44)

def g11_dead_Thread.h0 (a0 : Graph) (r1 : Graph) (x44 : (List Block)) (x45 : Int) : Abs.St := ⟨[(1, .yes, v1 (.ptr 1 0 0)), (2, .yes, v1 (.ptr 2 0 0)), (3, .yes, v1 (.ptr 3 0 0)), (10, .yes, v1 (ci (r1.Blocks.length : Int))), (11, .yes, v1 (ci x45))], [(1, .box 24 [cs a0.Name, cb a0.Keep, cb a0.Leaf, .t (.ro 12 cBlock zBlock a0.Blocks)]), (2, .box 24 [cs ByteArray.empty, cb false, cb false, .t (.ro 12 cBlock zBlock ([]))]), (3, .box 24 [cs r1.Name, cb r1.Keep, cb r1.Leaf, .own 20070]), (20070, .rows 39 12 cBlock zBlock x44)], 70⟩

def g11_dead_Thread.j0_0 (a0 : Graph) (r1 : Graph) (o : ByteArray × (List Block)) : Abs.St := ⟨[(2, .yes, v1 (.ptr 2 0 0)), (3, .yes, v1 (.ptr 3 0 0))], [(2, .box 24 [cs o.1, cb false, cb false, .t (.ro 12 cBlock zBlock ([]))]), (3, .box 24 [cs r1.Name, cb r1.Keep, cb r1.Leaf, .own 20070]), (20070, .rows 39 12 cBlock zBlock o.2)], 70⟩

theorem g11_dead_Thread.l0_ok {W : World} {A Kf : Nat → Prop} (K : Nat) (a0 : Graph) (r1 : Graph) : ∀ (k : Nat) (x44 : (List Block)) (x45 : Int) (o : ByteArray × (List Block)), g11_dead_Thread.l0 K a0 r1 k x44 x45 = some o → WPR Try.prog W A Kf (kid [true, true, false, true, false, false] (bodyAt Try.f11)) (Out (.exit 0) (g11_dead_Thread.j0_0 a0 r1 o)) k (g11_dead_Thread.h0 a0 r1 x44 x45)
  | 0, x44, x45, o, h => by cases h
  | k + 1, x44, x45, o, h => by
    refine WPR.round ?_
    let b88 : Bool := (decide (x45 < (r1.Blocks.length : Int)))
    refine StopP.advd tbOk [] 100000 1000 (by kernel_rfl) (by kernel_rfl) (ac_nil) ?_
    refine StopP.cond (b := b88) (by kernel_rfl) (fun hb89 => ?_) (fun hb89 => ?_)
    · have h := cd_t hb89 h
      obtain ⟨hg90, h⟩ := gd_some h
      let b91 : Bool := ((x44.getD x45.toNat zBlock).End.Kind == (2 : Int))
      refine StopP.advd tbOk [] 100000 1000 (by kernel_rfl) (by kernel_rfl) (ac_y hg90 <| ac_y (tn hg90) <| ac_nil) ?_
      refine StopP.cond (b := b91) (by kernel_rfl) (fun hb92 => ?_) (fun hb92 => ?_)
      · have h := cd_t hb92 h
        obtain ⟨r93, hc93, h⟩ := bd_some h
        let y94 : List Block := (x44.set x45.toNat (⟨(x44.getD x45.toNat zBlock).Ops, (⟨(x44.getD x45.toNat zBlock).End.Kind, (x44.getD x45.toNat zBlock).End.Op, (x44.getD x45.toNat zBlock).End.A, (x44.getD x45.toNat zBlock).End.B, (x44.getD x45.toNat zBlock).End.To, r93, (x44.getD x45.toNat zBlock).End.Ins⟩ : Term)⟩ : Block))
        obtain ⟨hg95, h⟩ := gd_some h
        obtain ⟨r96, hc96, h⟩ := bd_some h
        obtain ⟨hg97, h⟩ := gd_some h
        let y98 : List Block := (y94.set x45.toNat (⟨(y94.getD x45.toNat zBlock).Ops, (⟨(y94.getD x45.toNat zBlock).End.Kind, (y94.getD x45.toNat zBlock).End.Op, (y94.getD x45.toNat zBlock).End.A, (y94.getD x45.toNat zBlock).End.B, r96, (y94.getD x45.toNat zBlock).End.Else, (y94.getD x45.toNat zBlock).End.Ins⟩ : Term)⟩ : Block))
        obtain ⟨hg99, h⟩ := gd_some h
        let b100 : Bool := ((y98.getD x45.toNat zBlock).End.Kind == (2 : Int))
        obtain ⟨hg101, h⟩ := gd_some h
        obtain ⟨hg102, h⟩ := gd_some h
        let b103 : Bool := ((y98.getD x45.toNat zBlock).End.To == (y98.getD x45.toNat zBlock).End.Else)
        let b104 : Bool := (bif b100 then b103 else false)
        have q0 := ac_y hg99 <| ac_on b100 (pt b100) <| ac_on b100 (pt b100) <| ac_on b100 (pt b100) <| ac_on b100 hg101 <| ac_on b100 (pt b100) <| ac_on b100 (pt b100) <| ac_on b100 (pt b100) <| ac_on b100 hg102 <| ac_on b100 (pt b100) <| ac_on b100 (pt b100) <| ac_y (pt b100) <| ac_nil
        refine StopP.advd tbOk [(9, [(6, .call [] [] (v1 (ci r93))), (9, .obj (.rows 39 12 cBlock zBlock (x44.set x45.toNat (⟨(x44.getD x45.toNat zBlock).Ops, (⟨(x44.getD x45.toNat zBlock).End.Kind, (x44.getD x45.toNat zBlock).End.Op, (x44.getD x45.toNat zBlock).End.A, (x44.getD x45.toNat zBlock).End.B, (x44.getD x45.toNat zBlock).End.To, r93, (x44.getD x45.toNat zBlock).End.Ins⟩ : Term)⟩ : Block))))]), (10, [(6, .call [] [] (v1 (ci r96))), (9, .obj (.rows 39 12 cBlock zBlock (y94.set x45.toNat (⟨(y94.getD x45.toNat zBlock).Ops, (⟨(y94.getD x45.toNat zBlock).End.Kind, (y94.getD x45.toNat zBlock).End.Op, (y94.getD x45.toNat zBlock).End.A, (y94.getD x45.toNat zBlock).End.B, r96, (y94.getD x45.toNat zBlock).End.Else, (y94.getD x45.toNat zBlock).End.Ins⟩ : Term)⟩ : Block))))])] 100000 1000 (by kernel_rfl) (by kernel_rfl) (ac_y (tn hg90) <| ac_y (g24_dead_through_ok K a0 ((x44.getD x45.toNat zBlock).End.Else) r93 hc93) <| ac_c (Stored.mk (ty := 39) (es := 12) (enc := cBlock) (z := zBlock) (xs := x44) (i := x45.toNat) (j := 6) (n := 1) (⟨(x44.getD x45.toNat zBlock).Ops, (⟨(x44.getD x45.toNat zBlock).End.Kind, (x44.getD x45.toNat zBlock).End.Op, (x44.getD x45.toNat zBlock).End.A, (x44.getD x45.toNat zBlock).End.B, (x44.getD x45.toNat zBlock).End.To, r93, (x44.getD x45.toNat zBlock).End.Ins⟩ : Term)⟩ : Block) (tn hg90) (by decide) rfl rfl rfl) <| ac_y hg95 <| ac_y (g24_dead_through_ok K a0 ((y94.getD x45.toNat zBlock).End.To) r96 hc96) <| ac_c (Stored.mk (ty := 39) (es := 12) (enc := cBlock) (z := zBlock) (xs := y94) (i := x45.toNat) (j := 5) (n := 1) (⟨(y94.getD x45.toNat zBlock).Ops, (⟨(y94.getD x45.toNat zBlock).End.Kind, (y94.getD x45.toNat zBlock).End.Op, (y94.getD x45.toNat zBlock).End.A, (y94.getD x45.toNat zBlock).End.B, r96, (y94.getD x45.toNat zBlock).End.Else, (y94.getD x45.toNat zBlock).End.Ins⟩ : Term)⟩ : Block) hg97 (by decide) rfl rfl rfl) <| q0) ?_
        refine StopP.cond (b := b104) (by kernel_rfl) (fun hb105 => ?_) (fun hb105 => ?_)
        · have h := cd_t hb105 h
          obtain ⟨hg106, h⟩ := gd_some h
          obtain ⟨hg107, h⟩ := gd_some h
          let y108 : List Block := (y98.set x45.toNat (⟨(y98.getD x45.toNat zBlock).Ops, (⟨(1 : Int), (0 : Int), (0 : Int), (0 : Int), (y98.getD x45.toNat zBlock).End.To, (0 : Int), (⟨(0 : Int), (0 : Int), (0 : Int), (0 : Int), (0 : Int)⟩ : Ins)⟩ : Term)⟩ : Block))
          refine StopP.advd tbOk [(12, [(7, .obj (.rows 39 12 cBlock zBlock (y98.set x45.toNat (⟨(y98.getD x45.toNat zBlock).Ops, (⟨(1 : Int), (0 : Int), (0 : Int), (0 : Int), (y98.getD x45.toNat zBlock).End.To, (0 : Int), (⟨(0 : Int), (0 : Int), (0 : Int), (0 : Int), (0 : Int)⟩ : Ins)⟩ : Term)⟩ : Block))))])] 100000 1000 (by kernel_rfl) (by kernel_rfl) (ac_y hg106 <| ac_c (Stored.mk (ty := 39) (es := 12) (enc := cBlock) (z := zBlock) (xs := y98) (i := x45.toNat) (j := 1) (n := 11) (⟨(y98.getD x45.toNat zBlock).Ops, (⟨(1 : Int), (0 : Int), (0 : Int), (0 : Int), (y98.getD x45.toNat zBlock).End.To, (0 : Int), (⟨(0 : Int), (0 : Int), (0 : Int), (0 : Int), (0 : Int)⟩ : Ins)⟩ : Term)⟩ : Block) hg107 (by decide) rfl rfl rfl) <| ac_nil) ?_
          refine StopP.out .normal (by kernel_rfl) ?_
          exact WPR.chg [.keep [1, 2, 3, 10, 11] [1, 2, 3, 20070]] (by kernel_rfl) (g11_dead_Thread.l0_ok K a0 r1 k y108 (IntKind.i64.wrap (x45 + (1 : Int))) o h)
        · have h := cd_f hb105 h
          refine StopP.advd tbOk [] 100000 1000 (by kernel_rfl) (by kernel_rfl) (ac_nil) ?_
          refine StopP.out .normal (by kernel_rfl) ?_
          exact WPR.chg [.keep [1, 2, 3, 10, 11] [1, 2, 3, 20070]] (by kernel_rfl) (g11_dead_Thread.l0_ok K a0 r1 k y98 (IntKind.i64.wrap (x45 + (1 : Int))) o h)
      · have h := cd_f hb92 h
        let b109 : Bool := ((x44.getD x45.toNat zBlock).End.Kind == (1 : Int))
        refine StopP.advd tbOk [] 100000 1000 (by kernel_rfl) (by kernel_rfl) (ac_nil) ?_
        refine StopP.cond (b := b109) (by kernel_rfl) (fun hb110 => ?_) (fun hb110 => ?_)
        · have h := cd_t hb110 h
          obtain ⟨r111, hc111, h⟩ := bd_some h
          let y112 : List Block := (x44.set x45.toNat (⟨(x44.getD x45.toNat zBlock).Ops, (⟨(x44.getD x45.toNat zBlock).End.Kind, (x44.getD x45.toNat zBlock).End.Op, (x44.getD x45.toNat zBlock).End.A, (x44.getD x45.toNat zBlock).End.B, r111, (x44.getD x45.toNat zBlock).End.Else, (x44.getD x45.toNat zBlock).End.Ins⟩ : Term)⟩ : Block))
          obtain ⟨hg113, h⟩ := gd_some h
          let b114 : Bool := ((y112.getD x45.toNat zBlock).End.Kind == (2 : Int))
          obtain ⟨hg115, h⟩ := gd_some h
          obtain ⟨hg116, h⟩ := gd_some h
          let b117 : Bool := ((y112.getD x45.toNat zBlock).End.To == (y112.getD x45.toNat zBlock).End.Else)
          let b118 : Bool := (bif b114 then b117 else false)
          have q0 := ac_y hg113 <| ac_on b114 (pt b114) <| ac_on b114 (pt b114) <| ac_on b114 (pt b114) <| ac_on b114 hg115 <| ac_on b114 (pt b114) <| ac_on b114 (pt b114) <| ac_on b114 (pt b114) <| ac_on b114 hg116 <| ac_on b114 (pt b114) <| ac_on b114 (pt b114) <| ac_y (pt b114) <| ac_nil
          refine StopP.advd tbOk [(10, [(6, .call [] [] (v1 (ci r111))), (9, .obj (.rows 39 12 cBlock zBlock (x44.set x45.toNat (⟨(x44.getD x45.toNat zBlock).Ops, (⟨(x44.getD x45.toNat zBlock).End.Kind, (x44.getD x45.toNat zBlock).End.Op, (x44.getD x45.toNat zBlock).End.A, (x44.getD x45.toNat zBlock).End.B, r111, (x44.getD x45.toNat zBlock).End.Else, (x44.getD x45.toNat zBlock).End.Ins⟩ : Term)⟩ : Block))))])] 100000 1000 (by kernel_rfl) (by kernel_rfl) (ac_y (tn hg90) <| ac_y (g24_dead_through_ok K a0 ((x44.getD x45.toNat zBlock).End.To) r111 hc111) <| ac_c (Stored.mk (ty := 39) (es := 12) (enc := cBlock) (z := zBlock) (xs := x44) (i := x45.toNat) (j := 5) (n := 1) (⟨(x44.getD x45.toNat zBlock).Ops, (⟨(x44.getD x45.toNat zBlock).End.Kind, (x44.getD x45.toNat zBlock).End.Op, (x44.getD x45.toNat zBlock).End.A, (x44.getD x45.toNat zBlock).End.B, r111, (x44.getD x45.toNat zBlock).End.Else, (x44.getD x45.toNat zBlock).End.Ins⟩ : Term)⟩ : Block) (tn hg90) (by decide) rfl rfl rfl) <| q0) ?_
          refine StopP.cond (b := b118) (by kernel_rfl) (fun hb119 => ?_) (fun hb119 => ?_)
          · have h := cd_t hb119 h
            refine StopP.reb [.keep [1, 2, 3, 5, 10, 11] [1, 2, 3, 20070]] (st' := .at (kid [true, true, false, true, false, false, true, true, false, false, true, true, true, true, false] (bodyAt Try.f11)) [.blk 1, .code (kid [true, true, false, true, false, false, true, true, true] (bodyAt Try.f11))] ⟨[(1, .yes, v1 (.ptr 1 0 0)), (2, .yes, v1 (.ptr 2 0 0)), (3, .yes, v1 (.ptr 3 0 0)), (5, .yes, v1 (.ptr 20070 x45.toNat 1)), (10, .yes, v1 (ci (r1.Blocks.length : Int))), (11, .yes, v1 (ci x45))], [(1, .box 24 [cs a0.Name, cb a0.Keep, cb a0.Leaf, .t (.ro 12 cBlock zBlock a0.Blocks)]), (2, .box 24 [cs ByteArray.empty, cb false, cb false, .t (.ro 12 cBlock zBlock ([]))]), (3, .box 24 [cs r1.Name, cb r1.Keep, cb r1.Leaf, .own 20070]), (20070, .rows 39 12 cBlock zBlock y112)], 70⟩) (by kernel_rfl) (by kernel_rfl) (by kernel_rfl) (by kernel_rfl) rfl ?_
            obtain ⟨hg120, h⟩ := gd_some h
            obtain ⟨hg121, h⟩ := gd_some h
            let y122 : List Block := (y112.set x45.toNat (⟨(y112.getD x45.toNat zBlock).Ops, (⟨(1 : Int), (0 : Int), (0 : Int), (0 : Int), (y112.getD x45.toNat zBlock).End.To, (0 : Int), (⟨(0 : Int), (0 : Int), (0 : Int), (0 : Int), (0 : Int)⟩ : Ins)⟩ : Term)⟩ : Block))
            refine StopP.advd tbOk [(12, [(7, .obj (.rows 39 12 cBlock zBlock (y112.set x45.toNat (⟨(y112.getD x45.toNat zBlock).Ops, (⟨(1 : Int), (0 : Int), (0 : Int), (0 : Int), (y112.getD x45.toNat zBlock).End.To, (0 : Int), (⟨(0 : Int), (0 : Int), (0 : Int), (0 : Int), (0 : Int)⟩ : Ins)⟩ : Term)⟩ : Block))))])] 100000 1000 (by kernel_rfl) (by kernel_rfl) (ac_y hg120 <| ac_c (Stored.mk (ty := 39) (es := 12) (enc := cBlock) (z := zBlock) (xs := y112) (i := x45.toNat) (j := 1) (n := 11) (⟨(y112.getD x45.toNat zBlock).Ops, (⟨(1 : Int), (0 : Int), (0 : Int), (0 : Int), (y112.getD x45.toNat zBlock).End.To, (0 : Int), (⟨(0 : Int), (0 : Int), (0 : Int), (0 : Int), (0 : Int)⟩ : Ins)⟩ : Term)⟩ : Block) hg121 (by decide) rfl rfl rfl) <| ac_nil) ?_
            refine StopP.out .normal (by kernel_rfl) ?_
            exact WPR.chg [.keep [1, 2, 3, 10, 11] [1, 2, 3, 20070]] (by kernel_rfl) (g11_dead_Thread.l0_ok K a0 r1 k y122 (IntKind.i64.wrap (x45 + (1 : Int))) o h)
          · have h := cd_f hb119 h
            refine StopP.advd tbOk [] 100000 1000 (by kernel_rfl) (by kernel_rfl) (ac_nil) ?_
            refine StopP.out .normal (by kernel_rfl) ?_
            exact WPR.chg [.keep [1, 2, 3, 10, 11] [1, 2, 3, 20070]] (by kernel_rfl) (g11_dead_Thread.l0_ok K a0 r1 k y112 (IntKind.i64.wrap (x45 + (1 : Int))) o h)
        · have h := cd_f hb110 h
          let b123 : Bool := ((x44.getD x45.toNat zBlock).End.Kind == (2 : Int))
          obtain ⟨hg124, h⟩ := gd_some h
          obtain ⟨hg125, h⟩ := gd_some h
          let b126 : Bool := ((x44.getD x45.toNat zBlock).End.To == (x44.getD x45.toNat zBlock).End.Else)
          let b127 : Bool := (bif b123 then b126 else false)
          refine StopP.advd tbOk [] 100000 1000 (by kernel_rfl) (by kernel_rfl) (ac_y (tn hg90) <| ac_on b123 (pt b123) <| ac_on b123 (pt b123) <| ac_on b123 (pt b123) <| ac_on b123 hg124 <| ac_on b123 (pt b123) <| ac_on b123 (pt b123) <| ac_on b123 (pt b123) <| ac_on b123 hg125 <| ac_on b123 (pt b123) <| ac_on b123 (pt b123) <| ac_y (pt b123) <| ac_nil) ?_
          refine StopP.cond (b := b127) (by kernel_rfl) (fun hb128 => ?_) (fun hb128 => ?_)
          · have h := cd_t hb128 h
            refine StopP.reb [.keep [1, 2, 3, 5, 10, 11] [1, 2, 3, 20070]] (st' := .at (kid [true, true, false, true, false, false, true, true, false, false, true, true, true, true, false] (bodyAt Try.f11)) [.blk 1, .code (kid [true, true, false, true, false, false, true, true, true] (bodyAt Try.f11))] ⟨[(1, .yes, v1 (.ptr 1 0 0)), (2, .yes, v1 (.ptr 2 0 0)), (3, .yes, v1 (.ptr 3 0 0)), (5, .yes, v1 (.ptr 20070 x45.toNat 1)), (10, .yes, v1 (ci (r1.Blocks.length : Int))), (11, .yes, v1 (ci x45))], [(1, .box 24 [cs a0.Name, cb a0.Keep, cb a0.Leaf, .t (.ro 12 cBlock zBlock a0.Blocks)]), (2, .box 24 [cs ByteArray.empty, cb false, cb false, .t (.ro 12 cBlock zBlock ([]))]), (3, .box 24 [cs r1.Name, cb r1.Keep, cb r1.Leaf, .own 20070]), (20070, .rows 39 12 cBlock zBlock x44)], 70⟩) (by kernel_rfl) (by kernel_rfl) (by kernel_rfl) (by kernel_rfl) rfl ?_
            let y129 : List Block := (x44.set x45.toNat (⟨(x44.getD x45.toNat zBlock).Ops, (⟨(1 : Int), (0 : Int), (0 : Int), (0 : Int), (x44.getD x45.toNat zBlock).End.To, (0 : Int), (⟨(0 : Int), (0 : Int), (0 : Int), (0 : Int), (0 : Int)⟩ : Ins)⟩ : Term)⟩ : Block))
            refine StopP.advd tbOk [(12, [(7, .obj (.rows 39 12 cBlock zBlock (x44.set x45.toNat (⟨(x44.getD x45.toNat zBlock).Ops, (⟨(1 : Int), (0 : Int), (0 : Int), (0 : Int), (x44.getD x45.toNat zBlock).End.To, (0 : Int), (⟨(0 : Int), (0 : Int), (0 : Int), (0 : Int), (0 : Int)⟩ : Ins)⟩ : Term)⟩ : Block))))])] 100000 1000 (by kernel_rfl) (by kernel_rfl) (ac_y (tn hg90) <| ac_c (Stored.mk (ty := 39) (es := 12) (enc := cBlock) (z := zBlock) (xs := x44) (i := x45.toNat) (j := 1) (n := 11) (⟨(x44.getD x45.toNat zBlock).Ops, (⟨(1 : Int), (0 : Int), (0 : Int), (0 : Int), (x44.getD x45.toNat zBlock).End.To, (0 : Int), (⟨(0 : Int), (0 : Int), (0 : Int), (0 : Int), (0 : Int)⟩ : Ins)⟩ : Term)⟩ : Block) (tn hg90) (by decide) rfl rfl rfl) <| ac_nil) ?_
            refine StopP.out .normal (by kernel_rfl) ?_
            exact WPR.chg [.keep [1, 2, 3, 10, 11] [1, 2, 3, 20070]] (by kernel_rfl) (g11_dead_Thread.l0_ok K a0 r1 k y129 (IntKind.i64.wrap (x45 + (1 : Int))) o h)
          · have h := cd_f hb128 h
            refine StopP.advd tbOk [] 100000 1000 (by kernel_rfl) (by kernel_rfl) (ac_nil) ?_
            refine StopP.out .normal (by kernel_rfl) ?_
            exact WPR.chg [.keep [1, 2, 3, 10, 11] [1, 2, 3, 20070]] (by kernel_rfl) (g11_dead_Thread.l0_ok K a0 r1 k x44 (IntKind.i64.wrap (x45 + (1 : Int))) o h)
    · have h := cd_f hb89 h
      refine StopP.advd tbOk [] 100000 1000 (by kernel_rfl) (by kernel_rfl) (ac_nil) ?_
      have h := sm h; subst h
      exact StopP.out (.exit 0) (by kernel_rfl) ⟨rfl, [.keep [2, 3] [2, 3, 20070]], by kernel_rfl⟩

def g11_dead_Thread (K : Nat) (a0 : Graph) : Option (Graph) :=
  (g23_dead_copied K a0).bind fun r1 =>
  (g11_dead_Thread.l0 K a0 r1 K r1.Blocks (0 : Int)).bind fun o130 =>
  some (⟨r1.Name, r1.Keep, r1.Leaf, o130.2⟩ : Graph)

theorem g11_dead_Thread_ok (K : Nat) (a0 : Graph) (r : Graph) (h : g11_dead_Thread K a0 = some r) : AC Try.prog 11 [] [.v true [cs a0.Name, cb a0.Keep, cb a0.Leaf, .t (.ro 12 cBlock zBlock a0.Blocks)]] [(7000, .rows 39 12 cBlock zBlock r.Blocks)] (.v true [cs r.Name, cb r.Keep, cb r.Leaf, .own 7000]) := by
  refine AC.intro (fn := Try.f11) tbOk (by kernel_rfl) rfl (by kernel_rfl) (fun W A Kf => ?_)
  obtain ⟨r1, hc1, h⟩ := bd_some h
  refine StopP.advd tbOk [(1, [(1, .call [(7000, 20070)] [(7000, .rows 39 12 cBlock zBlock r1.Blocks)] (.v true [cs r1.Name, cb r1.Keep, cb r1.Leaf, .own 7000]))])] 100000 1000 (by kernel_rfl) (by kernel_rfl) (ac_y (g23_dead_copied_ok K a0 r1 hc1) <| ac_nil) ?_
  obtain ⟨o130, ho130, h⟩ := bd_some h
  refine StopP.lp (by kernel_rfl) [.keep [1, 2, 3, 10, 11] [1, 2, 3, 20070]] (s := g11_dead_Thread.h0 a0 r1 r1.Blocks (0 : Int)) (by kernel_rfl) (c := (kid [true, true, false, true, false, false] (bodyAt Try.f11))) (by kernel_rfl) (e := (.exit 0)) (J := g11_dead_Thread.j0_0 a0 r1 o130) K (g11_dead_Thread.l0_ok K a0 r1 K r1.Blocks (0 : Int) o130 ho130) ?_
  refine StopP.advd tbOk [] 100000 1000 (by kernel_rfl) (by kernel_rfl) (ac_nil) ?_
  have h := sm h; subst h
  refine StopP.out .ret (by kernel_rfl) ?_
  exact ret_box (.inr rfl) [.keep [2] [2, 20070], .ren [(20070, 7000)]] (by kernel_rfl) (by kernel_rfl) [7000] (by kernel_rfl)

theorem g11_dead_Thread_fz (K : Nat) (a0 : Graph) (r : Graph) (h : g11_dead_Thread K a0 = some r) : AC Try.prog 11 [] [.v true [cs a0.Name, cb a0.Keep, cb a0.Leaf, .t (.ro 12 cBlock zBlock a0.Blocks)]] [] (.v true [cs r.Name, cb r.Keep, cb r.Leaf, .t (.ro 12 cBlock zBlock r.Blocks)]) :=
  AC.cast (AC.fz (g11_dead_Thread_ok K a0 r h) 7000 (o := .rows 39 12 cBlock zBlock r.Blocks) (t := .ro 12 cBlock zBlock r.Blocks) (by kernel_rfl) (by kernel_rfl)) (by kernel_rfl) (by kernel_rfl)

end Go.Proofs.Ytoooalfhjcfinaa.T
