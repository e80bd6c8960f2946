import Derived.Test.YtoooalfhjcfinaaU0
namespace Go.Proofs.Ytoooalfhjcfinaa.T
open Go.Abs
set_option linter.unusedVariables false
set_option maxRecDepth 100000
set_option maxHeartbeats 2000000

def g24_dead_through.l0 (K : Nat) (a0 : Graph) : Nat → Int → Int → Option (Int)
  | 0, _, _ => none
  | k + 1, x8, x9 =>
    let b17 : Bool := (decide (x9 < (a0.Blocks.length : Int)))
    bif b17 then
      gd (0 ≤ x8 ∧ x8 < (a0.Blocks.length : Int)) <|
      let b20 : Bool := (decide ((((a0.Blocks.getD x8.toNat zBlock).Ops).length : Int) > (0 : Int)))
      let b21 : Bool := ((a0.Blocks.getD x8.toNat zBlock).End.Kind != (1 : Int))
      let b22 : Bool := (bif b20 then true else b21)
      bif b22 then
        some x8
      else
        g24_dead_through.l0 K a0 k ((a0.Blocks.getD x8.toNat zBlock).End.To) (IntKind.i64.wrap (x9 + (1 : Int)))
    else
      some x8

def g24_dead_through.h0 (a0 : Graph) (x8 : Int) (x9 : Int) : Abs.St := ⟨[(1, .yes, v1 (ci x8)), (2, .yes, v1 (.ptr 2 0 0)), (8, .yes, v1 (ci (a0.Blocks.length : Int))), (9, .yes, v1 (ci x9))], [(2, .box 24 [cs a0.Name, cb a0.Keep, cb a0.Leaf, .t (.ro 12 cBlock zBlock a0.Blocks)])], 31⟩

def g24_dead_through.j0_0 (a0 : Graph) (o : Int) : Abs.St := ⟨[(1, .yes, v1 (ci o))], [], 31⟩

theorem g24_dead_through.l0_ok {W : World} {A Kf : Nat → Prop} (K : Nat) (a0 : Graph) : ∀ (k : Nat) (x8 : Int) (x9 : Int) (o : Int), g24_dead_through.l0 K a0 k x8 x9 = some o → WPR Try.prog W A Kf (kid [true, false, true, false, false] (bodyAt Try.f24)) (Out (.exit 0) (g24_dead_through.j0_0 a0 o)) k (g24_dead_through.h0 a0 x8 x9)
  | 0, x8, x9, o, h => by cases h
  | k + 1, x8, x9, o, h => by
    refine WPR.round ?_
    let b17 : Bool := (decide (x9 < (a0.Blocks.length : Int)))
    refine StopP.advd tbOk [] 100000 1000 (by kernel_rfl) (by kernel_rfl) (ac_nil) ?_
    refine StopP.cond (b := b17) (by kernel_rfl) (fun hb18 => ?_) (fun hb18 => ?_)
    · have h := cd_t hb18 h
      obtain ⟨hg19, h⟩ := gd_some h
      let b20 : Bool := (decide ((((a0.Blocks.getD x8.toNat zBlock).Ops).length : Int) > (0 : Int)))
      let b21 : Bool := ((a0.Blocks.getD x8.toNat zBlock).End.Kind != (1 : Int))
      let b22 : Bool := (bif b20 then true else b21)
      refine StopP.advd tbOk [] 100000 1000 (by kernel_rfl) (by kernel_rfl) (ac_y hg19 <| ac_on (!b20) (pt (!b20)) <| ac_on (!b20) (pt (!b20)) <| ac_on (!b20) (pt (!b20)) <| ac_y (pn b20) <| ac_nil) ?_
      refine StopP.cond (b := b22) (by kernel_rfl) (fun hb23 => ?_) (fun hb23 => ?_)
      · have h := cd_t hb23 h
        refine StopP.advd tbOk [] 100000 1000 (by kernel_rfl) (by kernel_rfl) (ac_nil) ?_
        have h := sm h; subst h
        exact StopP.out (.exit 0) (by kernel_rfl) ⟨rfl, [.keep [1] []], by kernel_rfl⟩
      · have h := cd_f hb23 h
        refine StopP.advd tbOk [] 100000 1000 (by kernel_rfl) (by kernel_rfl) (ac_nil) ?_
        refine StopP.out .normal (by kernel_rfl) ?_
        exact WPR.chg [.keep [1, 2, 8, 9] [2]] (by kernel_rfl) (g24_dead_through.l0_ok K a0 k ((a0.Blocks.getD x8.toNat zBlock).End.To) (IntKind.i64.wrap (x9 + (1 : Int))) o h)
    · have h := cd_f hb18 h
      refine StopP.advd tbOk [] 100000 1000 (by kernel_rfl) (by kernel_rfl) (ac_nil) ?_
      have h := sm h; subst h
      exact StopP.out (.exit 0) (by kernel_rfl) ⟨rfl, [.keep [1] []], by kernel_rfl⟩

def g24_dead_through (K : Nat) (a0 : Graph) (a1 : Int) : Option (Int) :=
  (g24_dead_through.l0 K a0 K a1 (0 : Int)).bind fun o24 =>
  some o24

theorem g24_dead_through_ok (K : Nat) (a0 : Graph) (a1 : Int) (r : Int) (h : g24_dead_through K a0 a1 = some r) : AC Try.prog 24 [] [.v true [cs a0.Name, cb a0.Keep, cb a0.Leaf, .t (.ro 12 cBlock zBlock a0.Blocks)], v1 (ci a1)] [] (v1 (ci r)) := by
  refine AC.intro (fn := Try.f24) tbOk (by kernel_rfl) rfl (by kernel_rfl) (fun W A Kf => ?_)
  refine StopP.advd tbOk [] 100000 1000 (by kernel_rfl) (by kernel_rfl) (ac_nil) ?_
  obtain ⟨o24, ho24, h⟩ := bd_some h
  refine StopP.lp (by kernel_rfl) [.keep [1, 2, 8, 9] [2]] (s := g24_dead_through.h0 a0 a1 (0 : Int)) (by kernel_rfl) (c := (kid [true, false, true, false, false] (bodyAt Try.f24))) (by kernel_rfl) (e := (.exit 0)) (J := g24_dead_through.j0_0 a0 o24) K (g24_dead_through.l0_ok K a0 K a1 (0 : Int) o24 ho24) ?_
  refine StopP.advd tbOk [] 100000 1000 (by kernel_rfl) (by kernel_rfl) (ac_nil) ?_
  have h := sm h; subst h
  refine StopP.out .ret (by kernel_rfl) ?_
  exact ret_box (.inr rfl) [.keep [4] []] (by kernel_rfl) (by kernel_rfl) [] (by kernel_rfl)

def g25_ref22_through.l0 (K : Nat) (a0 : Graph) : Nat → Int → Int → Option (Int)
  | 0, _, _ => none
  | k + 1, x10, x11 =>
    let b21 : Bool := (decide (x11 < (a0.Blocks.length : Int)))
    bif b21 then
      gd (0 ≤ x10 ∧ x10 < (a0.Blocks.length : Int)) <|
      let b24 : Bool := ((((a0.Blocks.getD x10.toNat zBlock).Ops).length : Int) == (0 : Int))
      gd (b24 = true → 0 ≤ x10 ∧ x10 < (a0.Blocks.length : Int)) <|
      let b26 : Bool := ((a0.Blocks.getD x10.toNat zBlock).End.Kind == (1 : Int))
      let b27 : Bool := (bif b24 then b26 else false)
      bif b27 then
        gd (0 ≤ x10 ∧ x10 < (a0.Blocks.length : Int)) <|
        g25_ref22_through.l0 K a0 k ((a0.Blocks.getD x10.toNat zBlock).End.To) (IntKind.i64.wrap (x11 + (1 : Int)))
      else
        g25_ref22_through.l0 K a0 k x10 (IntKind.i64.wrap (x11 + (1 : Int)))
    else
      some x10

def g25_ref22_through.h0 (a0 : Graph) (x10 : Int) (x11 : Int) : Abs.St := ⟨[(1, .yes, v1 (ci x10)), (2, .yes, v1 (.ptr 2 0 0)), (5, .yes, v1 (ci x11))], [(2, .box 24 [cs a0.Name, cb a0.Keep, cb a0.Leaf, .t (.ro 12 cBlock zBlock a0.Blocks)])], 39⟩

def g25_ref22_through.j0_0 (a0 : Graph) (o : Int) : Abs.St := ⟨[(1, .yes, v1 (ci o))], [], 39⟩

theorem g25_ref22_through.l0_ok {W : World} {A Kf : Nat → Prop} (K : Nat) (a0 : Graph) : ∀ (k : Nat) (x10 : Int) (x11 : Int) (o : Int), g25_ref22_through.l0 K a0 k x10 x11 = some o → WPR Try.prog W A Kf (kid [true, false, true, false, false] (bodyAt Try.f25)) (Out (.exit 0) (g25_ref22_through.j0_0 a0 o)) k (g25_ref22_through.h0 a0 x10 x11)
  | 0, x10, x11, o, h => by cases h
  | k + 1, x10, x11, o, h => by
    refine WPR.round ?_
    let b21 : Bool := (decide (x11 < (a0.Blocks.length : Int)))
    refine StopP.advd tbOk [] 100000 1000 (by kernel_rfl) (by kernel_rfl) (ac_nil) ?_
    refine StopP.cond (b := b21) (by kernel_rfl) (fun hb22 => ?_) (fun hb22 => ?_)
    · have h := cd_t hb22 h
      obtain ⟨hg23, h⟩ := gd_some h
      let b24 : Bool := ((((a0.Blocks.getD x10.toNat zBlock).Ops).length : Int) == (0 : Int))
      obtain ⟨hg25, h⟩ := gd_some h
      let b26 : Bool := ((a0.Blocks.getD x10.toNat zBlock).End.Kind == (1 : Int))
      let b27 : Bool := (bif b24 then b26 else false)
      refine StopP.advd tbOk [] 100000 1000 (by kernel_rfl) (by kernel_rfl) (ac_y hg23 <| ac_on b24 (pt b24) <| ac_on b24 (pt b24) <| ac_on b24 (pt b24) <| ac_on b24 hg25 <| ac_on b24 (pt b24) <| ac_on b24 (pt b24) <| ac_on b24 (pt b24) <| ac_on b24 (pt b24) <| ac_y (pt b24) <| ac_nil) ?_
      refine StopP.cond (b := b27) (by kernel_rfl) (fun hb28 => ?_) (fun hb28 => ?_)
      · have h := cd_t hb28 h
        obtain ⟨hg29, h⟩ := gd_some h
        refine StopP.advd tbOk [] 100000 1000 (by kernel_rfl) (by kernel_rfl) (ac_y hg29 <| ac_nil) ?_
        refine StopP.out .normal (by kernel_rfl) ?_
        exact WPR.chg [.keep [1, 2, 5] [2]] (by kernel_rfl) (g25_ref22_through.l0_ok K a0 k ((a0.Blocks.getD x10.toNat zBlock).End.To) (IntKind.i64.wrap (x11 + (1 : Int))) o h)
      · have h := cd_f hb28 h
        refine StopP.advd tbOk [] 100000 1000 (by kernel_rfl) (by kernel_rfl) (ac_nil) ?_
        refine StopP.out .normal (by kernel_rfl) ?_
        exact WPR.chg [.keep [1, 2, 5] [2]] (by kernel_rfl) (g25_ref22_through.l0_ok K a0 k x10 (IntKind.i64.wrap (x11 + (1 : Int))) o h)
    · have h := cd_f hb22 h
      refine StopP.advd tbOk [] 100000 1000 (by kernel_rfl) (by kernel_rfl) (ac_nil) ?_
      have h := sm h; subst h
      exact StopP.out (.exit 0) (by kernel_rfl) ⟨rfl, [.keep [1] []], by kernel_rfl⟩

def g25_ref22_through (K : Nat) (a0 : Graph) (a1 : Int) : Option (Int) :=
  (g25_ref22_through.l0 K a0 K a1 (0 : Int)).bind fun o30 =>
  some o30

theorem g25_ref22_through_ok (K : Nat) (a0 : Graph) (a1 : Int) (r : Int) (h : g25_ref22_through K a0 a1 = some r) : AC Try.prog 25 [] [.v true [cs a0.Name, cb a0.Keep, cb a0.Leaf, .t (.ro 12 cBlock zBlock a0.Blocks)], v1 (ci a1)] [] (v1 (ci r)) := by
  refine AC.intro (fn := Try.f25) tbOk (by kernel_rfl) rfl (by kernel_rfl) (fun W A Kf => ?_)
  refine StopP.advd tbOk [] 100000 1000 (by kernel_rfl) (by kernel_rfl) (ac_nil) ?_
  obtain ⟨o30, ho30, h⟩ := bd_some h
  refine StopP.lp (by kernel_rfl) [.keep [1, 2, 5] [2]] (s := g25_ref22_through.h0 a0 a1 (0 : Int)) (by kernel_rfl) (c := (kid [true, false, true, false, false] (bodyAt Try.f25))) (by kernel_rfl) (e := (.exit 0)) (J := g25_ref22_through.j0_0 a0 o30) K (g25_ref22_through.l0_ok K a0 K a1 (0 : Int) o30 ho30) ?_
  refine StopP.advd tbOk [] 100000 1000 (by kernel_rfl) (by kernel_rfl) (ac_nil) ?_
  have h := sm h; subst h
  refine StopP.out .ret (by kernel_rfl) ?_
  exact ret_box (.inr rfl) [.keep [4] []] (by kernel_rfl) (by kernel_rfl) [] (by kernel_rfl)

def g48_ref02_three (K : Nat) (a0 : Int) : Option (Bool) :=
  let b1 : Bool := (decide (a0 ≥ (1 : Int)))
  let b2 : Bool := (decide (a0 ≤ (7 : Int)))
  let b3 : Bool := (bif b1 then b2 else false)
  some b3

theorem g48_ref02_three_ok (K : Nat) (a0 : Int) (r : Bool) (h : g48_ref02_three K a0 = some r) : AC Try.prog 48 [] [v1 (ci a0)] [] (v1 (cb r)) := by
  refine AC.intro (fn := Try.f48) tbOk (by kernel_rfl) rfl (by kernel_rfl) (fun W A Kf => ?_)
  let b1 : Bool := (decide (a0 ≥ (1 : Int)))
  let b2 : Bool := (decide (a0 ≤ (7 : Int)))
  let b3 : Bool := (bif b1 then b2 else false)
  refine StopP.advd tbOk [] 100000 1000 (by kernel_rfl) (by kernel_rfl) (ac_on b1 (pt b1) <| ac_y (pt b1) <| ac_nil) ?_
  have h := sm h; subst h
  refine StopP.out .ret (by kernel_rfl) ?_
  exact ret_box (.inr rfl) [.keep [2] []] (by kernel_rfl) (by kernel_rfl) [] (by kernel_rfl)

def g49_ref02_reg (K : Nat) (a0 : Int) : Option (Bool) :=
  let b1 : Bool := (decide (a0 ≥ (0 : Int)))
  let b2 : Bool := (decide (a0 ≤ (15 : Int)))
  let b3 : Bool := (bif b1 then b2 else false)
  some b3

theorem g49_ref02_reg_ok (K : Nat) (a0 : Int) (r : Bool) (h : g49_ref02_reg K a0 = some r) : AC Try.prog 49 [] [v1 (ci a0)] [] (v1 (cb r)) := by
  refine AC.intro (fn := Try.f49) tbOk (by kernel_rfl) rfl (by kernel_rfl) (fun W A Kf => ?_)
  let b1 : Bool := (decide (a0 ≥ (0 : Int)))
  let b2 : Bool := (decide (a0 ≤ (15 : Int)))
  let b3 : Bool := (bif b1 then b2 else false)
  refine StopP.advd tbOk [] 100000 1000 (by kernel_rfl) (by kernel_rfl) (ac_on b1 (pt b1) <| ac_y (pt b1) <| ac_nil) ?_
  have h := sm h; subst h
  refine StopP.out .ret (by kernel_rfl) ?_
  exact ret_box (.inr rfl) [.keep [2] []] (by kernel_rfl) (by kernel_rfl) [] (by kernel_rfl)

def g50_ref02_near (K : Nat) (a0 : Int) : Option (Bool) :=
  let b1 : Bool := (decide (a0 ≥ (11 : Int)))
  let b2 : Bool := (decide (a0 ≤ (14 : Int)))
  let b3 : Bool := (bif b1 then b2 else false)
  let b4 : Bool := (bif (a0 == (8 : Int)) then true else b3)
  some b4

theorem g50_ref02_near_ok (K : Nat) (a0 : Int) (r : Bool) (h : g50_ref02_near K a0 = some r) : AC Try.prog 50 [] [v1 (ci a0)] [] (v1 (cb r)) := by
  refine AC.intro (fn := Try.f50) tbOk (by kernel_rfl) rfl (by kernel_rfl) (fun W A Kf => ?_)
  let b1 : Bool := (decide (a0 ≥ (11 : Int)))
  let b2 : Bool := (decide (a0 ≤ (14 : Int)))
  let b3 : Bool := (bif b1 then b2 else false)
  let b4 : Bool := (bif (a0 == (8 : Int)) then true else b3)
  refine StopP.advd tbOk [] 100000 1000 (by kernel_rfl) (by kernel_rfl) (ac_on (!(a0 == (8 : Int))) (pt (!(a0 == (8 : Int)))) <| ac_on (!(a0 == (8 : Int))) (pt (!(a0 == (8 : Int)))) <| ac_on ((!(a0 == (8 : Int))) && b1) (pt ((!(a0 == (8 : Int))) && b1)) <| ac_on (!(a0 == (8 : Int))) (pt (!(a0 == (8 : Int)))) <| ac_on (!(a0 == (8 : Int))) (fun h => ptg b1 h) <| ac_y (pn (a0 == (8 : Int))) <| ac_nil) ?_
  have h := sm h; subst h
  refine StopP.out .ret (by kernel_rfl) ?_
  exact ret_box (.inr rfl) [.keep [2] []] (by kernel_rfl) (by kernel_rfl) [] (by kernel_rfl)

def g51_ref02_branch (K : Nat) (a0 : Int) : Option (Bool) :=
  let b1 : Bool := (decide (a0 ≥ (15 : Int)))
  let b2 : Bool := (decide (a0 ≤ (18 : Int)))
  let b3 : Bool := (bif b1 then b2 else false)
  some b3

theorem g51_ref02_branch_ok (K : Nat) (a0 : Int) (r : Bool) (h : g51_ref02_branch K a0 = some r) : AC Try.prog 51 [] [v1 (ci a0)] [] (v1 (cb r)) := by
  refine AC.intro (fn := Try.f51) tbOk (by kernel_rfl) rfl (by kernel_rfl) (fun W A Kf => ?_)
  let b1 : Bool := (decide (a0 ≥ (15 : Int)))
  let b2 : Bool := (decide (a0 ≤ (18 : Int)))
  let b3 : Bool := (bif b1 then b2 else false)
  refine StopP.advd tbOk [] 100000 1000 (by kernel_rfl) (by kernel_rfl) (ac_on b1 (pt b1) <| ac_y (pt b1) <| ac_nil) ?_
  have h := sm h; subst h
  refine StopP.out .ret (by kernel_rfl) ?_
  exact ret_box (.inr rfl) [.keep [2] []] (by kernel_rfl) (by kernel_rfl) [] (by kernel_rfl)

def g52_ref02_one (K : Nat) (a0 : Int) : Option (Bool) :=
  let b1 : Bool := (bif (a0 == (0 : Int)) then true else (a0 == (22 : Int)))
  let b2 : Bool := (bif b1 then true else (a0 == (23 : Int)))
  some b2

theorem g52_ref02_one_ok (K : Nat) (a0 : Int) (r : Bool) (h : g52_ref02_one K a0 = some r) : AC Try.prog 52 [] [v1 (ci a0)] [] (v1 (cb r)) := by
  refine AC.intro (fn := Try.f52) tbOk (by kernel_rfl) rfl (by kernel_rfl) (fun W A Kf => ?_)
  let b1 : Bool := (bif (a0 == (0 : Int)) then true else (a0 == (22 : Int)))
  let b2 : Bool := (bif b1 then true else (a0 == (23 : Int)))
  refine StopP.advd tbOk [] 100000 1000 (by kernel_rfl) (by kernel_rfl) (ac_on (!(a0 == (0 : Int))) (pt (!(a0 == (0 : Int)))) <| ac_y (pn (a0 == (0 : Int))) <| ac_on (!b1) (pt (!b1)) <| ac_y (pn b1) <| ac_nil) ?_
  have h := sm h; subst h
  refine StopP.out .ret (by kernel_rfl) ?_
  exact ret_box (.inr rfl) [.keep [2] []] (by kernel_rfl) (by kernel_rfl) [] (by kernel_rfl)

def g53_ref02_far (K : Nat) (a0 : Int) : Option (Bool) :=
  let b1 : Bool := (bif (a0 == (19 : Int)) then true else (a0 == (20 : Int)))
  some b1

theorem g53_ref02_far_ok (K : Nat) (a0 : Int) (r : Bool) (h : g53_ref02_far K a0 = some r) : AC Try.prog 53 [] [v1 (ci a0)] [] (v1 (cb r)) := by
  refine AC.intro (fn := Try.f53) tbOk (by kernel_rfl) rfl (by kernel_rfl) (fun W A Kf => ?_)
  let b1 : Bool := (bif (a0 == (19 : Int)) then true else (a0 == (20 : Int)))
  refine StopP.advd tbOk [] 100000 1000 (by kernel_rfl) (by kernel_rfl) (ac_on (!(a0 == (19 : Int))) (pt (!(a0 == (19 : Int)))) <| ac_y (pn (a0 == (19 : Int))) <| ac_nil) ?_
  have h := sm h; subst h
  refine StopP.out .ret (by kernel_rfl) ?_
  exact ret_box (.inr rfl) [.keep [2] []] (by kernel_rfl) (by kernel_rfl) [] (by kernel_rfl)

def g41_ref02_Right (K : Nat) (a0 : Ins) : Option (Bool) :=
  (g48_ref02_three K a0.Op).bind fun r1 =>
  bif r1 then
    (g49_ref02_reg K a0.A).bind fun r3 =>
    (bif r3 then g49_ref02_reg K a0.B else some false).bind fun r4 =>
    let b5 : Bool := (bif r3 then r4 else false)
    (bif b5 then g49_ref02_reg K a0.C else some false).bind fun r6 =>
    let b7 : Bool := (bif b5 then r6 else false)
    let b8 : Bool := (bif b7 then (a0.Imm == (0 : Int)) else false)
    some b8
  else
    bif (a0.C != (0 : Int)) then
      some false
    else
      (g50_ref02_near K a0.Op).bind fun r10 =>
      bif r10 then
        (g49_ref02_reg K a0.A).bind fun r12 =>
        (bif r12 then g49_ref02_reg K a0.B else some false).bind fun r13 =>
        let b14 : Bool := (bif r12 then r13 else false)
        let b15 : Bool := (decide (a0.Imm ≥ (-32768 : Int)))
        let b16 : Bool := (bif b14 then b15 else false)
        let b17 : Bool := (decide (a0.Imm ≤ (32767 : Int)))
        let b18 : Bool := (bif b16 then b17 else false)
        some b18
      else
        bif (a0.Op == (10 : Int)) then
          (g49_ref02_reg K a0.A).bind fun r20 =>
          (bif r20 then g49_ref02_reg K a0.B else some false).bind fun r21 =>
          let b22 : Bool := (bif r20 then r21 else false)
          let b23 : Bool := (decide (a0.Imm ≥ (0 : Int)))
          let b24 : Bool := (bif b22 then b23 else false)
          let b25 : Bool := (decide (a0.Imm ≤ (65535 : Int)))
          let b26 : Bool := (bif b24 then b25 else false)
          some b26
        else
          (g51_ref02_branch K a0.Op).bind fun r27 =>
          bif r27 then
            (g49_ref02_reg K a0.A).bind fun r29 =>
            (bif r29 then g49_ref02_reg K a0.B else some false).bind fun r30 =>
            let b31 : Bool := (bif r29 then r30 else false)
            let b32 : Bool := (decide (a0.Imm ≥ (-128 : Int)))
            let b33 : Bool := (bif b31 then b32 else false)
            let b34 : Bool := (decide (a0.Imm ≤ (127 : Int)))
            let b35 : Bool := (bif b33 then b34 else false)
            some b35
          else
            bif (a0.B != (0 : Int)) then
              some false
            else
              bif (a0.Op == (9 : Int)) then
                (g49_ref02_reg K a0.A).bind fun r38 =>
                let b39 : Bool := (decide (a0.Imm ≥ (0 : Int)))
                let b40 : Bool := (bif r38 then b39 else false)
                let b41 : Bool := (decide (a0.Imm ≤ (65535 : Int)))
                let b42 : Bool := (bif b40 then b41 else false)
                some b42
              else
                (g52_ref02_one K a0.Op).bind fun r43 =>
                bif r43 then
                  (g49_ref02_reg K a0.A).bind fun r45 =>
                  let b46 : Bool := (bif r45 then (a0.Imm == (0 : Int)) else false)
                  some b46
                else
                  (g53_ref02_far K a0.Op).bind fun r47 =>
                  bif r47 then
                    let b49 : Bool := (decide (a0.Imm ≥ (-8388608 : Int)))
                    let b50 : Bool := (bif (a0.A == (0 : Int)) then b49 else false)
                    let b51 : Bool := (decide (a0.Imm ≤ (8388607 : Int)))
                    let b52 : Bool := (bif b50 then b51 else false)
                    some b52
                  else
                    let b53 : Bool := (bif (a0.Op == (21 : Int)) then true else (a0.Op == (24 : Int)))
                    let b54 : Bool := (bif b53 then true else (a0.Op == (25 : Int)))
                    let b55 : Bool := (bif b54 then (a0.A == (0 : Int)) else false)
                    let b56 : Bool := (bif b55 then (a0.Imm == (0 : Int)) else false)
                    some b56

theorem g41_ref02_Right_ok (K : Nat) (a0 : Ins) (r : Bool) (h : g41_ref02_Right K a0 = some r) : AC Try.prog 41 [] [.v true [ci a0.Op, ci a0.A, ci a0.B, ci a0.C, ci a0.Imm]] [] (v1 (cb r)) := by
  refine AC.intro (fn := Try.f41) tbOk (by kernel_rfl) rfl (by kernel_rfl) (fun W A Kf => ?_)
  obtain ⟨r1, hc1, h⟩ := bd_some h
  refine StopP.advd tbOk [(1, [(2, .call [] [] (v1 (cb r1)))])] 100000 1000 (by kernel_rfl) (by kernel_rfl) (ac_y (g48_ref02_three_ok K a0.Op r1 hc1) <| ac_nil) ?_
  refine StopP.cond (b := r1) (by kernel_rfl) (fun hb2 => ?_) (fun hb2 => ?_)
  · have h := cd_t hb2 h
    obtain ⟨r3, hc3, h⟩ := bd_some h
    obtain ⟨r4, hc4, h⟩ := bd_some h
    let b5 : Bool := (bif r3 then r4 else false)
    obtain ⟨r6, hc6, h⟩ := bd_some h
    let b7 : Bool := (bif b5 then r6 else false)
    let b8 : Bool := (bif b7 then (a0.Imm == (0 : Int)) else false)
    refine StopP.advd tbOk [(2, [(2, .call [] [] (v1 (cb r3))), (6, .call [] [] (v1 (cb r4))), (11, .call [] [] (v1 (cb r6)))])] 100000 1000 (by kernel_rfl) (by kernel_rfl) (ac_y (g49_ref02_reg_ok K a0.A r3 hc3) <| ac_on r3 (pt r3) <| ac_on r3 (pt r3) <| ac_on r3 (fun h => g49_ref02_reg_ok K a0.B r4 (cd_t h hc4)) <| ac_y (pt r3) <| ac_on b5 (pt b5) <| ac_on b5 (pt b5) <| ac_on b5 (fun h => g49_ref02_reg_ok K a0.C r6 (cd_t h hc6)) <| ac_y (pt b5) <| ac_on b7 (pt b7) <| ac_on b7 (pt b7) <| ac_y (pt b7) <| ac_nil) ?_
    have h := sm h; subst h
    refine StopP.out .ret (by kernel_rfl) ?_
    exact ret_box (.inr rfl) [.keep [2] []] (by kernel_rfl) (by kernel_rfl) [] (by kernel_rfl)
  · have h := cd_f hb2 h
    refine StopP.advd tbOk [] 100000 1000 (by kernel_rfl) (by kernel_rfl) (ac_nil) ?_
    refine StopP.cond (b := (a0.C != (0 : Int))) (by kernel_rfl) (fun hb9 => ?_) (fun hb9 => ?_)
    · have h := cd_t hb9 h
      refine StopP.advd tbOk [] 100000 1000 (by kernel_rfl) (by kernel_rfl) (ac_nil) ?_
      have h := sm h; subst h
      refine StopP.out .ret (by kernel_rfl) ?_
      exact ret_box (.inr rfl) [.keep [2] []] (by kernel_rfl) (by kernel_rfl) [] (by kernel_rfl)
    · have h := cd_f hb9 h
      obtain ⟨r10, hc10, h⟩ := bd_some h
      refine StopP.advd tbOk [(5, [(2, .call [] [] (v1 (cb r10)))])] 100000 1000 (by kernel_rfl) (by kernel_rfl) (ac_y (g50_ref02_near_ok K a0.Op r10 hc10) <| ac_nil) ?_
      refine StopP.cond (b := r10) (by kernel_rfl) (fun hb11 => ?_) (fun hb11 => ?_)
      · have h := cd_t hb11 h
        obtain ⟨r12, hc12, h⟩ := bd_some h
        obtain ⟨r13, hc13, h⟩ := bd_some h
        let b14 : Bool := (bif r12 then r13 else false)
        let b15 : Bool := (decide (a0.Imm ≥ (-32768 : Int)))
        let b16 : Bool := (bif b14 then b15 else false)
        let b17 : Bool := (decide (a0.Imm ≤ (32767 : Int)))
        let b18 : Bool := (bif b16 then b17 else false)
        refine StopP.advd tbOk [(6, [(2, .call [] [] (v1 (cb r12))), (6, .call [] [] (v1 (cb r13)))])] 100000 1000 (by kernel_rfl) (by kernel_rfl) (ac_y (g49_ref02_reg_ok K a0.A r12 hc12) <| ac_on r12 (pt r12) <| ac_on r12 (pt r12) <| ac_on r12 (fun h => g49_ref02_reg_ok K a0.B r13 (cd_t h hc13)) <| ac_y (pt r12) <| ac_on b14 (pt b14) <| ac_on b14 (pt b14) <| ac_y (pt b14) <| ac_on b16 (pt b16) <| ac_on b16 (pt b16) <| ac_y (pt b16) <| ac_nil) ?_
        have h := sm h; subst h
        refine StopP.out .ret (by kernel_rfl) ?_
        exact ret_box (.inr rfl) [.keep [2] []] (by kernel_rfl) (by kernel_rfl) [] (by kernel_rfl)
      · have h := cd_f hb11 h
        refine StopP.advd tbOk [] 100000 1000 (by kernel_rfl) (by kernel_rfl) (ac_nil) ?_
        refine StopP.cond (b := (a0.Op == (10 : Int))) (by kernel_rfl) (fun hb19 => ?_) (fun hb19 => ?_)
        · have h := cd_t hb19 h
          refine StopP.reb [.keep [1] [1]] (st' := .at (kid [true, true, true, true, false, true, false] (bodyAt Try.f41)) [.code (kid [true, true, true, true, true] (bodyAt Try.f41))] ⟨[(1, .yes, v1 (.ptr 1 0 0))], [(1, .box 33 [ci a0.Op, ci a0.A, ci a0.B, ci a0.C, ci a0.Imm])], 159⟩) (by kernel_rfl) (by kernel_rfl) (by kernel_rfl) (by kernel_rfl) rfl ?_
          obtain ⟨r20, hc20, h⟩ := bd_some h
          obtain ⟨r21, hc21, h⟩ := bd_some h
          let b22 : Bool := (bif r20 then r21 else false)
          let b23 : Bool := (decide (a0.Imm ≥ (0 : Int)))
          let b24 : Bool := (bif b22 then b23 else false)
          let b25 : Bool := (decide (a0.Imm ≤ (65535 : Int)))
          let b26 : Bool := (bif b24 then b25 else false)
          refine StopP.advd tbOk [(8, [(2, .call [] [] (v1 (cb r20))), (6, .call [] [] (v1 (cb r21)))])] 100000 1000 (by kernel_rfl) (by kernel_rfl) (ac_y (g49_ref02_reg_ok K a0.A r20 hc20) <| ac_on r20 (pt r20) <| ac_on r20 (pt r20) <| ac_on r20 (fun h => g49_ref02_reg_ok K a0.B r21 (cd_t h hc21)) <| ac_y (pt r20) <| ac_on b22 (pt b22) <| ac_on b22 (pt b22) <| ac_y (pt b22) <| ac_on b24 (pt b24) <| ac_on b24 (pt b24) <| ac_y (pt b24) <| ac_nil) ?_
          have h := sm h; subst h
          refine StopP.out .ret (by kernel_rfl) ?_
          exact ret_box (.inr rfl) [.keep [2] []] (by kernel_rfl) (by kernel_rfl) [] (by kernel_rfl)
        · have h := cd_f hb19 h
          obtain ⟨r27, hc27, h⟩ := bd_some h
          refine StopP.advd tbOk [(9, [(2, .call [] [] (v1 (cb r27)))])] 100000 1000 (by kernel_rfl) (by kernel_rfl) (ac_y (g51_ref02_branch_ok K a0.Op r27 hc27) <| ac_nil) ?_
          refine StopP.cond (b := r27) (by kernel_rfl) (fun hb28 => ?_) (fun hb28 => ?_)
          · have h := cd_t hb28 h
            refine StopP.reb [.keep [1] [1]] (st' := .at (kid [true, true, true, true, true, false, true, false] (bodyAt Try.f41)) [.code (kid [true, true, true, true, true, true] (bodyAt Try.f41))] ⟨[(1, .yes, v1 (.ptr 1 0 0))], [(1, .box 33 [ci a0.Op, ci a0.A, ci a0.B, ci a0.C, ci a0.Imm])], 159⟩) (by kernel_rfl) (by kernel_rfl) (by kernel_rfl) (by kernel_rfl) rfl ?_
            obtain ⟨r29, hc29, h⟩ := bd_some h
            obtain ⟨r30, hc30, h⟩ := bd_some h
            let b31 : Bool := (bif r29 then r30 else false)
            let b32 : Bool := (decide (a0.Imm ≥ (-128 : Int)))
            let b33 : Bool := (bif b31 then b32 else false)
            let b34 : Bool := (decide (a0.Imm ≤ (127 : Int)))
            let b35 : Bool := (bif b33 then b34 else false)
            refine StopP.advd tbOk [(10, [(2, .call [] [] (v1 (cb r29))), (6, .call [] [] (v1 (cb r30)))])] 100000 1000 (by kernel_rfl) (by kernel_rfl) (ac_y (g49_ref02_reg_ok K a0.A r29 hc29) <| ac_on r29 (pt r29) <| ac_on r29 (pt r29) <| ac_on r29 (fun h => g49_ref02_reg_ok K a0.B r30 (cd_t h hc30)) <| ac_y (pt r29) <| ac_on b31 (pt b31) <| ac_on b31 (pt b31) <| ac_y (pt b31) <| ac_on b33 (pt b33) <| ac_on b33 (pt b33) <| ac_y (pt b33) <| ac_nil) ?_
            have h := sm h; subst h
            refine StopP.out .ret (by kernel_rfl) ?_
            exact ret_box (.inr rfl) [.keep [2] []] (by kernel_rfl) (by kernel_rfl) [] (by kernel_rfl)
          · have h := cd_f hb28 h
            refine StopP.advd tbOk [] 100000 1000 (by kernel_rfl) (by kernel_rfl) (ac_nil) ?_
            refine StopP.cond (b := (a0.B != (0 : Int))) (by kernel_rfl) (fun hb36 => ?_) (fun hb36 => ?_)
            · have h := cd_t hb36 h
              refine StopP.reb [.keep [] []] (st' := .at (kid [true, true, true, true, true, true, false, true, false] (bodyAt Try.f41)) [.code (kid [true, true, true, true, true, true, true] (bodyAt Try.f41))] ⟨[], [], 159⟩) (by kernel_rfl) (by kernel_rfl) (by kernel_rfl) (by kernel_rfl) rfl ?_
              refine StopP.advd tbOk [] 100000 1000 (by kernel_rfl) (by kernel_rfl) (ac_nil) ?_
              have h := sm h; subst h
              refine StopP.out .ret (by kernel_rfl) ?_
              exact ret_box (.inr rfl) [.keep [2] []] (by kernel_rfl) (by kernel_rfl) [] (by kernel_rfl)
            · have h := cd_f hb36 h
              refine StopP.advd tbOk [] 100000 1000 (by kernel_rfl) (by kernel_rfl) (ac_nil) ?_
              refine StopP.cond (b := (a0.Op == (9 : Int))) (by kernel_rfl) (fun hb37 => ?_) (fun hb37 => ?_)
              · have h := cd_t hb37 h
                refine StopP.reb [.keep [1] [1]] (st' := .at (kid [true, true, true, true, true, true, true, false, true, false] (bodyAt Try.f41)) [.code (kid [true, true, true, true, true, true, true, true] (bodyAt Try.f41))] ⟨[(1, .yes, v1 (.ptr 1 0 0))], [(1, .box 33 [ci a0.Op, ci a0.A, ci a0.B, ci a0.C, ci a0.Imm])], 159⟩) (by kernel_rfl) (by kernel_rfl) (by kernel_rfl) (by kernel_rfl) rfl ?_
                obtain ⟨r38, hc38, h⟩ := bd_some h
                let b39 : Bool := (decide (a0.Imm ≥ (0 : Int)))
                let b40 : Bool := (bif r38 then b39 else false)
                let b41 : Bool := (decide (a0.Imm ≤ (65535 : Int)))
                let b42 : Bool := (bif b40 then b41 else false)
                refine StopP.advd tbOk [(14, [(2, .call [] [] (v1 (cb r38)))])] 100000 1000 (by kernel_rfl) (by kernel_rfl) (ac_y (g49_ref02_reg_ok K a0.A r38 hc38) <| ac_on r38 (pt r38) <| ac_on r38 (pt r38) <| ac_y (pt r38) <| ac_on b40 (pt b40) <| ac_on b40 (pt b40) <| ac_y (pt b40) <| ac_nil) ?_
                have h := sm h; subst h
                refine StopP.out .ret (by kernel_rfl) ?_
                exact ret_box (.inr rfl) [.keep [2] []] (by kernel_rfl) (by kernel_rfl) [] (by kernel_rfl)
              · have h := cd_f hb37 h
                obtain ⟨r43, hc43, h⟩ := bd_some h
                refine StopP.advd tbOk [(15, [(2, .call [] [] (v1 (cb r43)))])] 100000 1000 (by kernel_rfl) (by kernel_rfl) (ac_y (g52_ref02_one_ok K a0.Op r43 hc43) <| ac_nil) ?_
                refine StopP.cond (b := r43) (by kernel_rfl) (fun hb44 => ?_) (fun hb44 => ?_)
                · have h := cd_t hb44 h
                  refine StopP.reb [.keep [1] [1]] (st' := .at (kid [true, true, true, true, true, true, true, true, false, true, false] (bodyAt Try.f41)) [.code (kid [true, true, true, true, true, true, true, true, true] (bodyAt Try.f41))] ⟨[(1, .yes, v1 (.ptr 1 0 0))], [(1, .box 33 [ci a0.Op, ci a0.A, ci a0.B, ci a0.C, ci a0.Imm])], 159⟩) (by kernel_rfl) (by kernel_rfl) (by kernel_rfl) (by kernel_rfl) rfl ?_
                  obtain ⟨r45, hc45, h⟩ := bd_some h
                  let b46 : Bool := (bif r45 then (a0.Imm == (0 : Int)) else false)
                  refine StopP.advd tbOk [(16, [(2, .call [] [] (v1 (cb r45)))])] 100000 1000 (by kernel_rfl) (by kernel_rfl) (ac_y (g49_ref02_reg_ok K a0.A r45 hc45) <| ac_on r45 (pt r45) <| ac_on r45 (pt r45) <| ac_y (pt r45) <| ac_nil) ?_
                  have h := sm h; subst h
                  refine StopP.out .ret (by kernel_rfl) ?_
                  exact ret_box (.inr rfl) [.keep [2] []] (by kernel_rfl) (by kernel_rfl) [] (by kernel_rfl)
                · have h := cd_f hb44 h
                  obtain ⟨r47, hc47, h⟩ := bd_some h
                  refine StopP.advd tbOk [(17, [(2, .call [] [] (v1 (cb r47)))])] 100000 1000 (by kernel_rfl) (by kernel_rfl) (ac_y (g53_ref02_far_ok K a0.Op r47 hc47) <| ac_nil) ?_
                  refine StopP.cond (b := r47) (by kernel_rfl) (fun hb48 => ?_) (fun hb48 => ?_)
                  · have h := cd_t hb48 h
                    refine StopP.reb [.keep [1] [1]] (st' := .at (kid [true, true, true, true, true, true, true, true, true, false, true, false] (bodyAt Try.f41)) [.code (kid [true, true, true, true, true, true, true, true, true, true] (bodyAt Try.f41))] ⟨[(1, .yes, v1 (.ptr 1 0 0))], [(1, .box 33 [ci a0.Op, ci a0.A, ci a0.B, ci a0.C, ci a0.Imm])], 159⟩) (by kernel_rfl) (by kernel_rfl) (by kernel_rfl) (by kernel_rfl) rfl ?_
                    let b49 : Bool := (decide (a0.Imm ≥ (-8388608 : Int)))
                    let b50 : Bool := (bif (a0.A == (0 : Int)) then b49 else false)
                    let b51 : Bool := (decide (a0.Imm ≤ (8388607 : Int)))
                    let b52 : Bool := (bif b50 then b51 else false)
                    refine StopP.advd tbOk [] 100000 1000 (by kernel_rfl) (by kernel_rfl) (ac_on (a0.A == (0 : Int)) (pt (a0.A == (0 : Int))) <| ac_on (a0.A == (0 : Int)) (pt (a0.A == (0 : Int))) <| ac_y (pt (a0.A == (0 : Int))) <| ac_on b50 (pt b50) <| ac_on b50 (pt b50) <| ac_y (pt b50) <| ac_nil) ?_
                    have h := sm h; subst h
                    refine StopP.out .ret (by kernel_rfl) ?_
                    exact ret_box (.inr rfl) [.keep [2] []] (by kernel_rfl) (by kernel_rfl) [] (by kernel_rfl)
                  · have h := cd_f hb48 h
                    let b53 : Bool := (bif (a0.Op == (21 : Int)) then true else (a0.Op == (24 : Int)))
                    let b54 : Bool := (bif b53 then true else (a0.Op == (25 : Int)))
                    let b55 : Bool := (bif b54 then (a0.A == (0 : Int)) else false)
                    let b56 : Bool := (bif b55 then (a0.Imm == (0 : Int)) else false)
                    refine StopP.advd tbOk [] 100000 1000 (by kernel_rfl) (by kernel_rfl) (ac_on (!(a0.Op == (21 : Int))) (pt (!(a0.Op == (21 : Int)))) <| ac_on (!(a0.Op == (21 : Int))) (pt (!(a0.Op == (21 : Int)))) <| ac_y (pn (a0.Op == (21 : Int))) <| ac_on (!b53) (pt (!b53)) <| ac_on (!b53) (pt (!b53)) <| ac_y (pn b53) <| ac_on b54 (pt b54) <| ac_on b54 (pt b54) <| ac_y (pt b54) <| ac_on b55 (pt b55) <| ac_on b55 (pt b55) <| ac_y (pt b55) <| ac_nil) ?_
                    have h := sm h; subst h
                    refine StopP.out .ret (by kernel_rfl) ?_
                    exact ret_box (.inr rfl) [.keep [2] []] (by kernel_rfl) (by kernel_rfl) [] (by kernel_rfl)

def g39_ref03_Kind (K : Nat) (a0 : Ins) : Option (Int) :=
  let y1 : List Int := ([(5 : Int), (0 : Int), (0 : Int), (0 : Int), (0 : Int), (0 : Int), (0 : Int), (0 : Int), (0 : Int), (0 : Int), (0 : Int), (1 : Int), (1 : Int), (1 : Int), (1 : Int), (2 : Int), (2 : Int), (2 : Int), (2 : Int), (3 : Int), (4 : Int), (5 : Int), (1 : Int), (1 : Int), (0 : Int), (5 : Int)] : List Int)
  gd (0 ≤ a0.Op ∧ a0.Op < (y1.length : Int)) <|
  some (y1.getD a0.Op.toNat 0)

theorem g39_ref03_Kind_ok (K : Nat) (a0 : Ins) (r : Int) (h : g39_ref03_Kind K a0 = some r) : AC Try.prog 39 [] [.v true [ci a0.Op, ci a0.A, ci a0.B, ci a0.C, ci a0.Imm]] [] (v1 (ci r)) := by
  refine AC.intro (fn := Try.f39) tbOk (by kernel_rfl) rfl (by kernel_rfl) (fun W A Kf => ?_)
  let y1 : List Int := ([(5 : Int), (0 : Int), (0 : Int), (0 : Int), (0 : Int), (0 : Int), (0 : Int), (0 : Int), (0 : Int), (0 : Int), (0 : Int), (1 : Int), (1 : Int), (1 : Int), (1 : Int), (2 : Int), (2 : Int), (2 : Int), (2 : Int), (3 : Int), (4 : Int), (5 : Int), (1 : Int), (1 : Int), (0 : Int), (5 : Int)] : List Int)
  obtain ⟨hg2, h⟩ := gd_some h
  refine StopP.advd tbOk [(1, [(0, .obj (.rows 3 1 eI 0 ([(5 : Int), (0 : Int), (0 : Int), (0 : Int), (0 : Int), (0 : Int), (0 : Int), (0 : Int), (0 : Int), (0 : Int), (0 : Int), (1 : Int), (1 : Int), (1 : Int), (1 : Int), (2 : Int), (2 : Int), (2 : Int), (2 : Int), (3 : Int), (4 : Int), (5 : Int), (1 : Int), (1 : Int), (0 : Int), (5 : Int)] : List Int)))])] 100000 1000 (by kernel_rfl) (by kernel_rfl) (ac_c (Built.mk (ty := 3) (es := 1) (enc := eI) (z := 0) (xs := ([(5 : Int), (0 : Int), (0 : Int), (0 : Int), (0 : Int), (0 : Int), (0 : Int), (0 : Int), (0 : Int), (0 : Int), (0 : Int), (1 : Int), (1 : Int), (1 : Int), (1 : Int), (2 : Int), (2 : Int), (2 : Int), (2 : Int), (3 : Int), (4 : Int), (5 : Int), (1 : Int), (1 : Int), (0 : Int), (5 : Int)] : List Int)) (fun _ _ => rfl) (by decide : (26 * 1 : Nat) ≤ 16777216)) <| ac_y hg2 <| ac_y (tn hg2) <| ac_nil) ?_
  have h := sm h; subst h
  refine StopP.out .ret (by kernel_rfl) ?_
  exact ret_box (.inr rfl) [.keep [2] []] (by kernel_rfl) (by kernel_rfl) [] (by kernel_rfl)

def g38_ref03_Writes (K : Nat) (a0 : Ins) : Option (Int) :=
  let b1 : Bool := (decide (a0.A > (0 : Int)))
  let b2 : Bool := (decide (a0.Op > (0 : Int)))
  let b3 : Bool := (decide (a0.Op < (12 : Int)))
  let b4 : Bool := (bif b2 then b3 else false)
  let b5 : Bool := (bif b4 then true else (a0.Op == (13 : Int)))
  let b6 : Bool := (bif b5 then true else (a0.Op == (22 : Int)))
  let b7 : Bool := (bif b1 then b6 else false)
  bif b7 then
    some a0.A
  else
    some (-1 : Int)

theorem g38_ref03_Writes_ok (K : Nat) (a0 : Ins) (r : Int) (h : g38_ref03_Writes K a0 = some r) : AC Try.prog 38 [] [.v true [ci a0.Op, ci a0.A, ci a0.B, ci a0.C, ci a0.Imm]] [] (v1 (ci r)) := by
  refine AC.intro (fn := Try.f38) tbOk (by kernel_rfl) rfl (by kernel_rfl) (fun W A Kf => ?_)
  let b1 : Bool := (decide (a0.A > (0 : Int)))
  let b2 : Bool := (decide (a0.Op > (0 : Int)))
  let b3 : Bool := (decide (a0.Op < (12 : Int)))
  let b4 : Bool := (bif b2 then b3 else false)
  let b5 : Bool := (bif b4 then true else (a0.Op == (13 : Int)))
  let b6 : Bool := (bif b5 then true else (a0.Op == (22 : Int)))
  let b7 : Bool := (bif b1 then b6 else false)
  have q0 := ac_on b1 (fun h => ptg b2 h) <| ac_on b1 (pt b1) <| ac_on (b1 && (!b4)) (pt (b1 && (!b4))) <| ac_on (b1 && (!b4)) (pt (b1 && (!b4))) <| ac_on b1 (pt b1) <| ac_on b1 (fun h => png b4 h) <| ac_on b1 (pt b1) <| ac_on (b1 && (!b5)) (pt (b1 && (!b5))) <| ac_on (b1 && (!b5)) (pt (b1 && (!b5))) <| ac_on b1 (pt b1) <| ac_on b1 (fun h => png b5 h) <| ac_y (pt b1) <| ac_nil
  refine StopP.advd tbOk [] 100000 1000 (by kernel_rfl) (by kernel_rfl) (ac_on b1 (pt b1) <| ac_on b1 (pt b1) <| ac_on b1 (pt b1) <| ac_on (b1 && b2) (pt (b1 && b2)) <| ac_on (b1 && b2) (pt (b1 && b2)) <| ac_on b1 (pt b1) <| q0) ?_
  refine StopP.cond (b := b7) (by kernel_rfl) (fun hb8 => ?_) (fun hb8 => ?_)
  · have h := cd_t hb8 h
    refine StopP.advd tbOk [] 100000 1000 (by kernel_rfl) (by kernel_rfl) (ac_nil) ?_
    have h := sm h; subst h
    refine StopP.out .ret (by kernel_rfl) ?_
    exact ret_box (.inr rfl) [.keep [2] []] (by kernel_rfl) (by kernel_rfl) [] (by kernel_rfl)
  · have h := cd_f hb8 h
    refine StopP.advd tbOk [] 100000 1000 (by kernel_rfl) (by kernel_rfl) (ac_nil) ?_
    have h := sm h; subst h
    refine StopP.out .ret (by kernel_rfl) ?_
    exact ret_box (.inr rfl) [.keep [2] []] (by kernel_rfl) (by kernel_rfl) [] (by kernel_rfl)

def g58_ref03_Reads (K : Nat) (a0 : Ins) (a1 : Int) : Option (Bool) :=
  bif (a1 == (0 : Int)) then
    some false
  else
    let b2 : Bool := (bif (a0.Op == (0 : Int)) then true else (a0.Op == (12 : Int)))
    let b3 : Bool := (decide (a0.Op ≥ (14 : Int)))
    let b4 : Bool := (decide (a0.Op ≤ (18 : Int)))
    let b5 : Bool := (bif b3 then b4 else false)
    let b6 : Bool := (bif b2 then true else b5)
    let b7 : Bool := (bif b6 then true else (a0.Op == (23 : Int)))
    let b8 : Bool := (decide (a0.Op ≥ (1 : Int)))
    let b9 : Bool := (decide (a0.Op ≤ (8 : Int)))
    let b10 : Bool := (bif b8 then b9 else false)
    let b11 : Bool := (decide (a0.Op ≥ (10 : Int)))
    let b12 : Bool := (decide (a0.Op ≤ (18 : Int)))
    let b13 : Bool := (bif b11 then b12 else false)
    let b14 : Bool := (bif b10 then true else b13)
    let b15 : Bool := (decide (a0.Op ≥ (1 : Int)))
    let b16 : Bool := (decide (a0.Op ≤ (7 : Int)))
    let b17 : Bool := (bif b15 then b16 else false)
    let b18 : Bool := (bif b7 then (a0.A == a1) else false)
    let b19 : Bool := (bif b14 then (a0.B == a1) else false)
    let b20 : Bool := (bif b18 then true else b19)
    let b21 : Bool := (bif b17 then (a0.C == a1) else false)
    let b22 : Bool := (bif b20 then true else b21)
    some b22

theorem g58_ref03_Reads_ok (K : Nat) (a0 : Ins) (a1 : Int) (r : Bool) (h : g58_ref03_Reads K a0 a1 = some r) : AC Try.prog 58 [] [.v true [ci a0.Op, ci a0.A, ci a0.B, ci a0.C, ci a0.Imm], v1 (ci a1)] [] (v1 (cb r)) := by
  refine AC.intro (fn := Try.f58) tbOk (by kernel_rfl) rfl (by kernel_rfl) (fun W A Kf => ?_)
  refine StopP.advd tbOk [] 100000 1000 (by kernel_rfl) (by kernel_rfl) (ac_nil) ?_
  refine StopP.cond (b := (a1 == (0 : Int))) (by kernel_rfl) (fun hb1 => ?_) (fun hb1 => ?_)
  · have h := cd_t hb1 h
    refine StopP.advd tbOk [] 100000 1000 (by kernel_rfl) (by kernel_rfl) (ac_nil) ?_
    have h := sm h; subst h
    refine StopP.out .ret (by kernel_rfl) ?_
    exact ret_box (.inr rfl) [.keep [4] []] (by kernel_rfl) (by kernel_rfl) [] (by kernel_rfl)
  · have h := cd_f hb1 h
    let b2 : Bool := (bif (a0.Op == (0 : Int)) then true else (a0.Op == (12 : Int)))
    let b3 : Bool := (decide (a0.Op ≥ (14 : Int)))
    let b4 : Bool := (decide (a0.Op ≤ (18 : Int)))
    let b5 : Bool := (bif b3 then b4 else false)
    let b6 : Bool := (bif b2 then true else b5)
    let b7 : Bool := (bif b6 then true else (a0.Op == (23 : Int)))
    let b8 : Bool := (decide (a0.Op ≥ (1 : Int)))
    let b9 : Bool := (decide (a0.Op ≤ (8 : Int)))
    let b10 : Bool := (bif b8 then b9 else false)
    let b11 : Bool := (decide (a0.Op ≥ (10 : Int)))
    let b12 : Bool := (decide (a0.Op ≤ (18 : Int)))
    let b13 : Bool := (bif b11 then b12 else false)
    let b14 : Bool := (bif b10 then true else b13)
    let b15 : Bool := (decide (a0.Op ≥ (1 : Int)))
    let b16 : Bool := (decide (a0.Op ≤ (7 : Int)))
    let b17 : Bool := (bif b15 then b16 else false)
    let b18 : Bool := (bif b7 then (a0.A == a1) else false)
    let b19 : Bool := (bif b14 then (a0.B == a1) else false)
    let b20 : Bool := (bif b18 then true else b19)
    let b21 : Bool := (bif b17 then (a0.C == a1) else false)
    let b22 : Bool := (bif b20 then true else b21)
    have q0 := ac_on ((!b18) && b14) (pt ((!b18) && b14)) <| ac_on ((!b18) && b14) (pt ((!b18) && b14)) <| ac_on (!b18) (pt (!b18)) <| ac_on (!b18) (fun h => ptg b14 h) <| ac_y (pn b18) <| ac_on (!b20) (pt (!b20)) <| ac_on ((!b20) && b17) (pt ((!b20) && b17)) <| ac_on ((!b20) && b17) (pt ((!b20) && b17)) <| ac_on ((!b20) && b17) (pt ((!b20) && b17)) <| ac_on (!b20) (pt (!b20)) <| ac_on (!b20) (fun h => ptg b17 h) <| ac_y (pn b20) <| ac_nil
    have q1 := ac_on (!b10) (pt (!b10)) <| ac_on (!b10) (fun h => ptg b11 h) <| ac_y (pn b10) <| ac_on b15 (pt b15) <| ac_on b15 (pt b15) <| ac_y (pt b15) <| ac_on b7 (pt b7) <| ac_on b7 (pt b7) <| ac_on b7 (pt b7) <| ac_y (pt b7) <| ac_on (!b18) (pt (!b18)) <| ac_on ((!b18) && b14) (pt ((!b18) && b14)) <| q0
    have q2 := ac_y (pn b2) <| ac_on (!b6) (pt (!b6)) <| ac_on (!b6) (pt (!b6)) <| ac_y (pn b6) <| ac_on b8 (pt b8) <| ac_on b8 (pt b8) <| ac_y (pt b8) <| ac_on (!b10) (pt (!b10)) <| ac_on (!b10) (pt (!b10)) <| ac_on (!b10) (pt (!b10)) <| ac_on ((!b10) && b11) (pt ((!b10) && b11)) <| ac_on ((!b10) && b11) (pt ((!b10) && b11)) <| q1
    refine StopP.advd tbOk [] 100000 1000 (by kernel_rfl) (by kernel_rfl) (ac_on (!(a0.Op == (0 : Int))) (pt (!(a0.Op == (0 : Int)))) <| ac_on (!(a0.Op == (0 : Int))) (pt (!(a0.Op == (0 : Int)))) <| ac_y (pn (a0.Op == (0 : Int))) <| ac_on (!b2) (pt (!b2)) <| ac_on (!b2) (pt (!b2)) <| ac_on (!b2) (pt (!b2)) <| ac_on ((!b2) && b3) (pt ((!b2) && b3)) <| ac_on ((!b2) && b3) (pt ((!b2) && b3)) <| ac_on (!b2) (pt (!b2)) <| ac_on (!b2) (fun h => ptg b3 h) <| q2) ?_
    have h := sm h; subst h
    refine StopP.out .ret (by kernel_rfl) ?_
    exact ret_box (.inr rfl) [.keep [4] []] (by kernel_rfl) (by kernel_rfl) [] (by kernel_rfl)

def g30_ref16_op (K : Nat) (a0 : Op') (a1 : Int) (a2 : Int) : Option (Bool) :=
  (g41_ref02_Right K a0.Ins).bind fun r1 =>
  bif (!r1) then
    some false
  else
    (g39_ref03_Kind K a0.Ins).bind fun r3 =>
    bif (!a0.Rel) then
      let b5 : Bool := (decide (r3 ≤ (1 : Int)))
      let b6 : Bool := (bif b5 then (a0.Kind == (0 : Int)) else false)
      let b7 : Bool := (bif b6 then (a0.To == (0 : Int)) else false)
      let b8 : Bool := (bif b7 then (a0.Add == (0 : Int)) else false)
      some b8
    else
      let b9 : Bool := (a0.Ins.Imm != (0 : Int))
      let b10 : Bool := (decide (a0.To < (0 : Int)))
      let b11 : Bool := (bif b9 then true else b10)
      bif b11 then
        some false
      else
        bif (r3 == (4 : Int)) then
          let b14 : Bool := (bif (a0.Kind == (1 : Int)) then (decide (a0.To < a1)) else false)
          let b15 : Bool := (bif b14 then (a0.Add == (0 : Int)) else false)
          some b15
        else
          let b16 : Bool := (bif (a0.Kind == (2 : Int)) then (a0.Ins.Op == (9 : Int)) else false)
          let b17 : Bool := (a0.Ins.Op == (10 : Int))
          let b18 : Bool := (bif (a0.Kind == (3 : Int)) then b17 else false)
          let b19 : Bool := (bif b16 then true else b18)
          let b20 : Bool := (bif b19 then (decide (a0.To < a2)) else false)
          let b21 : Bool := (decide (a0.Add ≥ (-1048576 : Int)))
          let b22 : Bool := (bif b20 then b21 else false)
          let b23 : Bool := (decide (a0.Add ≤ (1048576 : Int)))
          let b24 : Bool := (bif b22 then b23 else false)
          some b24

theorem g30_ref16_op_ok (K : Nat) (a0 : Op') (a1 : Int) (a2 : Int) (r : Bool) (h : g30_ref16_op K a0 a1 a2 = some r) : AC Try.prog 30 [] [.v true [ci a0.Ins.Op, ci a0.Ins.A, ci a0.Ins.B, ci a0.Ins.C, ci a0.Ins.Imm, cb a0.Rel, ci a0.Kind, ci a0.To, ci a0.Add], v1 (ci a1), v1 (ci a2)] [] (v1 (cb r)) := by
  refine AC.intro (fn := Try.f30) tbOk (by kernel_rfl) rfl (by kernel_rfl) (fun W A Kf => ?_)
  obtain ⟨r1, hc1, h⟩ := bd_some h
  refine StopP.advd tbOk [(1, [(2, .call [] [] (v1 (cb r1)))])] 100000 1000 (by kernel_rfl) (by kernel_rfl) (ac_y (g41_ref02_Right_ok K a0.Ins r1 hc1) <| ac_nil) ?_
  refine StopP.cond (b := (!r1)) (by kernel_rfl) (fun hb2 => ?_) (fun hb2 => ?_)
  · have h := cd_t hb2 h
    refine StopP.advd tbOk [] 100000 1000 (by kernel_rfl) (by kernel_rfl) (ac_nil) ?_
    have h := sm h; subst h
    refine StopP.out .ret (by kernel_rfl) ?_
    exact ret_box (.inr rfl) [.keep [6] []] (by kernel_rfl) (by kernel_rfl) [] (by kernel_rfl)
  · have h := cd_f hb2 h
    obtain ⟨r3, hc3, h⟩ := bd_some h
    refine StopP.advd tbOk [(3, [(2, .call [] [] (v1 (ci r3)))])] 100000 1000 (by kernel_rfl) (by kernel_rfl) (ac_y (g39_ref03_Kind_ok K a0.Ins r3 hc3) <| ac_nil) ?_
    refine StopP.cond (b := (!a0.Rel)) (by kernel_rfl) (fun hb4 => ?_) (fun hb4 => ?_)
    · have h := cd_t hb4 h
      let b5 : Bool := (decide (r3 ≤ (1 : Int)))
      let b6 : Bool := (bif b5 then (a0.Kind == (0 : Int)) else false)
      let b7 : Bool := (bif b6 then (a0.To == (0 : Int)) else false)
      let b8 : Bool := (bif b7 then (a0.Add == (0 : Int)) else false)
      refine StopP.advd tbOk [] 100000 1000 (by kernel_rfl) (by kernel_rfl) (ac_on b5 (pt b5) <| ac_on b5 (pt b5) <| ac_y (pt b5) <| ac_on b6 (pt b6) <| ac_on b6 (pt b6) <| ac_y (pt b6) <| ac_on b7 (pt b7) <| ac_on b7 (pt b7) <| ac_y (pt b7) <| ac_nil) ?_
      have h := sm h; subst h
      refine StopP.out .ret (by kernel_rfl) ?_
      exact ret_box (.inr rfl) [.keep [6] []] (by kernel_rfl) (by kernel_rfl) [] (by kernel_rfl)
    · have h := cd_f hb4 h
      let b9 : Bool := (a0.Ins.Imm != (0 : Int))
      let b10 : Bool := (decide (a0.To < (0 : Int)))
      let b11 : Bool := (bif b9 then true else b10)
      refine StopP.advd tbOk [] 100000 1000 (by kernel_rfl) (by kernel_rfl) (ac_on (!b9) (pt (!b9)) <| ac_on (!b9) (pt (!b9)) <| ac_y (pn b9) <| ac_nil) ?_
      refine StopP.cond (b := b11) (by kernel_rfl) (fun hb12 => ?_) (fun hb12 => ?_)
      · have h := cd_t hb12 h
        refine StopP.advd tbOk [] 100000 1000 (by kernel_rfl) (by kernel_rfl) (ac_nil) ?_
        have h := sm h; subst h
        refine StopP.out .ret (by kernel_rfl) ?_
        exact ret_box (.inr rfl) [.keep [6] []] (by kernel_rfl) (by kernel_rfl) [] (by kernel_rfl)
      · have h := cd_f hb12 h
        refine StopP.advd tbOk [] 100000 1000 (by kernel_rfl) (by kernel_rfl) (ac_nil) ?_
        refine StopP.cond (b := (r3 == (4 : Int))) (by kernel_rfl) (fun hb13 => ?_) (fun hb13 => ?_)
        · have h := cd_t hb13 h
          refine StopP.reb [.keep [1, 3] [3]] (st' := .at (kid [true, true, true, true, true, false, true, false] (bodyAt Try.f30)) [.code (kid [true, true, true, true, true, true] (bodyAt Try.f30))] ⟨[(1, .yes, v1 (ci a1)), (3, .yes, v1 (.ptr 3 0 0))], [(3, .box 35 [ci a0.Ins.Op, ci a0.Ins.A, ci a0.Ins.B, ci a0.Ins.C, ci a0.Ins.Imm, cb a0.Rel, ci a0.Kind, ci a0.To, ci a0.Add])], 96⟩) (by kernel_rfl) (by kernel_rfl) (by kernel_rfl) (by kernel_rfl) rfl ?_
          let b14 : Bool := (bif (a0.Kind == (1 : Int)) then (decide (a0.To < a1)) else false)
          let b15 : Bool := (bif b14 then (a0.Add == (0 : Int)) else false)
          refine StopP.advd tbOk [] 100000 1000 (by kernel_rfl) (by kernel_rfl) (ac_on (a0.Kind == (1 : Int)) (pt (a0.Kind == (1 : Int))) <| ac_on (a0.Kind == (1 : Int)) (pt (a0.Kind == (1 : Int))) <| ac_on (a0.Kind == (1 : Int)) (pt (a0.Kind == (1 : Int))) <| ac_y (pt (a0.Kind == (1 : Int))) <| ac_on b14 (pt b14) <| ac_on b14 (pt b14) <| ac_y (pt b14) <| ac_nil) ?_
          have h := sm h; subst h
          refine StopP.out .ret (by kernel_rfl) ?_
          exact ret_box (.inr rfl) [.keep [6] []] (by kernel_rfl) (by kernel_rfl) [] (by kernel_rfl)
        · have h := cd_f hb13 h
          let b16 : Bool := (bif (a0.Kind == (2 : Int)) then (a0.Ins.Op == (9 : Int)) else false)
          let b17 : Bool := (a0.Ins.Op == (10 : Int))
          let b18 : Bool := (bif (a0.Kind == (3 : Int)) then b17 else false)
          let b19 : Bool := (bif b16 then true else b18)
          let b20 : Bool := (bif b19 then (decide (a0.To < a2)) else false)
          let b21 : Bool := (decide (a0.Add ≥ (-1048576 : Int)))
          let b22 : Bool := (bif b20 then b21 else false)
          let b23 : Bool := (decide (a0.Add ≤ (1048576 : Int)))
          let b24 : Bool := (bif b22 then b23 else false)
          have q0 := ac_on (!b16) (fun h => ptg (a0.Kind == (3 : Int)) h) <| ac_y (pn b16) <| ac_on b19 (pt b19) <| ac_on b19 (pt b19) <| ac_on b19 (pt b19) <| ac_y (pt b19) <| ac_on b20 (pt b20) <| ac_on b20 (pt b20) <| ac_y (pt b20) <| ac_on b22 (pt b22) <| ac_on b22 (pt b22) <| ac_y (pt b22) <| ac_nil
          refine StopP.advd tbOk [] 100000 1000 (by kernel_rfl) (by kernel_rfl) (ac_on (a0.Kind == (2 : Int)) (pt (a0.Kind == (2 : Int))) <| ac_on (a0.Kind == (2 : Int)) (pt (a0.Kind == (2 : Int))) <| ac_on (a0.Kind == (2 : Int)) (pt (a0.Kind == (2 : Int))) <| ac_y (pt (a0.Kind == (2 : Int))) <| ac_on (!b16) (pt (!b16)) <| ac_on (!b16) (pt (!b16)) <| ac_on (!b16) (pt (!b16)) <| ac_on ((!b16) && (a0.Kind == (3 : Int))) (pt ((!b16) && (a0.Kind == (3 : Int)))) <| ac_on ((!b16) && (a0.Kind == (3 : Int))) (pt ((!b16) && (a0.Kind == (3 : Int)))) <| ac_on ((!b16) && (a0.Kind == (3 : Int))) (pt ((!b16) && (a0.Kind == (3 : Int)))) <| ac_on (!b16) (pt (!b16)) <| q0) ?_
          have h := sm h; subst h
          refine StopP.out .ret (by kernel_rfl) ?_
          exact ret_box (.inr rfl) [.keep [6] []] (by kernel_rfl) (by kernel_rfl) [] (by kernel_rfl)

def g31_ref16_term (K : Nat) (a0 : Term) (a1 : Int) (a2 : Int) : Option (Bool) :=
  let b1 : Bool := (bif (a0.Op == (0 : Int)) then (a0.A == (0 : Int)) else false)
  let b2 : Bool := (bif b1 then (a0.B == (0 : Int)) else false)
  let b3 : Bool := (bif b2 then (a0.Else == (0 : Int)) else false)
  let b4 : Bool := (bif (a0.Kind == (1 : Int)) then true else (a0.Kind == (4 : Int)))
  bif b4 then
    bif (a0.Kind == (4 : Int)) then
      let b7 : Bool := ((a0.Ins.Op == (0 : Int)) && ((a0.Ins.A == (0 : Int)) && ((a0.Ins.B == (0 : Int)) && ((a0.Ins.C == (0 : Int)) && ((a0.Ins.Imm == (0 : Int)) && true)))))
      let b8 : Bool := (bif b3 then b7 else false)
      let b9 : Bool := (decide (a0.To ≥ (0 : Int)))
      let b10 : Bool := (bif b8 then b9 else false)
      let b11 : Bool := (bif b10 then (decide (a0.To < a2)) else false)
      some b11
    else
      let b12 : Bool := ((a0.Ins.Op == (0 : Int)) && ((a0.Ins.A == (0 : Int)) && ((a0.Ins.B == (0 : Int)) && ((a0.Ins.C == (0 : Int)) && ((a0.Ins.Imm == (0 : Int)) && true)))))
      let b13 : Bool := (bif b3 then b12 else false)
      let b14 : Bool := (decide (a0.To ≥ (0 : Int)))
      let b15 : Bool := (bif b13 then b14 else false)
      let b16 : Bool := (bif b15 then (decide (a0.To < a1)) else false)
      some b16
  else
    bif (a0.Kind == (3 : Int)) then
      let b18 : Bool := (bif b3 then (a0.To == (0 : Int)) else false)
      (bif b18 then g41_ref02_Right K a0.Ins else some false).bind fun r19 =>
      let b20 : Bool := (bif b18 then r19 else false)
      (bif b20 then g39_ref03_Kind K a0.Ins else some 0).bind fun r21 =>
      let b22 : Bool := (bif b20 then (r21 == (5 : Int)) else false)
      some b22
    else
      let b23 : Bool := ((a0.Ins.Op == (0 : Int)) && ((a0.Ins.A == (0 : Int)) && ((a0.Ins.B == (0 : Int)) && ((a0.Ins.C == (0 : Int)) && ((a0.Ins.Imm == (0 : Int)) && true)))))
      let b24 : Bool := (bif (a0.Kind == (2 : Int)) then b23 else false)
      let b25 : Bool := (decide (a0.Op ≥ (15 : Int)))
      let b26 : Bool := (bif b24 then b25 else false)
      let b27 : Bool := (decide (a0.Op ≤ (18 : Int)))
      let b28 : Bool := (bif b26 then b27 else false)
      let b29 : Bool := (decide (a0.A ≥ (0 : Int)))
      let b30 : Bool := (bif b28 then b29 else false)
      let b31 : Bool := (decide (a0.A < (16 : Int)))
      let b32 : Bool := (bif b30 then b31 else false)
      let b33 : Bool := (decide (a0.B ≥ (0 : Int)))
      let b34 : Bool := (bif b32 then b33 else false)
      let b35 : Bool := (decide (a0.B < (16 : Int)))
      let b36 : Bool := (bif b34 then b35 else false)
      let b37 : Bool := (decide (a0.To ≥ (0 : Int)))
      let b38 : Bool := (bif b36 then b37 else false)
      let b39 : Bool := (bif b38 then (decide (a0.To < a1)) else false)
      let b40 : Bool := (decide (a0.Else ≥ (0 : Int)))
      let b41 : Bool := (bif b39 then b40 else false)
      let b42 : Bool := (bif b41 then (decide (a0.Else < a1)) else false)
      some b42

theorem g31_ref16_term_ok (K : Nat) (a0 : Term) (a1 : Int) (a2 : Int) (r : Bool) (h : g31_ref16_term K a0 a1 a2 = some r) : AC Try.prog 31 [] [.v true [ci a0.Kind, ci a0.Op, ci a0.A, ci a0.B, ci a0.To, ci a0.Else, ci a0.Ins.Op, ci a0.Ins.A, ci a0.Ins.B, ci a0.Ins.C, ci a0.Ins.Imm], v1 (ci a1), v1 (ci a2)] [] (v1 (cb r)) := by
  refine AC.intro (fn := Try.f31) tbOk (by kernel_rfl) rfl (by kernel_rfl) (fun W A Kf => ?_)
  let b1 : Bool := (bif (a0.Op == (0 : Int)) then (a0.A == (0 : Int)) else false)
  let b2 : Bool := (bif b1 then (a0.B == (0 : Int)) else false)
  let b3 : Bool := (bif b2 then (a0.Else == (0 : Int)) else false)
  let b4 : Bool := (bif (a0.Kind == (1 : Int)) then true else (a0.Kind == (4 : Int)))
  refine StopP.advd tbOk [] 100000 1000 (by kernel_rfl) (by kernel_rfl) (ac_on (a0.Op == (0 : Int)) (pt (a0.Op == (0 : Int))) <| ac_on (a0.Op == (0 : Int)) (pt (a0.Op == (0 : Int))) <| ac_y (pt (a0.Op == (0 : Int))) <| ac_on b1 (pt b1) <| ac_on b1 (pt b1) <| ac_y (pt b1) <| ac_on b2 (pt b2) <| ac_on b2 (pt b2) <| ac_y (pt b2) <| ac_on (!(a0.Kind == (1 : Int))) (pt (!(a0.Kind == (1 : Int)))) <| ac_on (!(a0.Kind == (1 : Int))) (pt (!(a0.Kind == (1 : Int)))) <| ac_y (pn (a0.Kind == (1 : Int))) <| ac_nil) ?_
  refine StopP.cond (b := b4) (by kernel_rfl) (fun hb5 => ?_) (fun hb5 => ?_)
  · have h := cd_t hb5 h
    refine StopP.advd tbOk [] 100000 1000 (by kernel_rfl) (by kernel_rfl) (ac_nil) ?_
    refine StopP.cond (b := (a0.Kind == (4 : Int))) (by kernel_rfl) (fun hb6 => ?_) (fun hb6 => ?_)
    · have h := cd_t hb6 h
      let b7 : Bool := ((a0.Ins.Op == (0 : Int)) && ((a0.Ins.A == (0 : Int)) && ((a0.Ins.B == (0 : Int)) && ((a0.Ins.C == (0 : Int)) && ((a0.Ins.Imm == (0 : Int)) && true)))))
      let b8 : Bool := (bif b3 then b7 else false)
      let b9 : Bool := (decide (a0.To ≥ (0 : Int)))
      let b10 : Bool := (bif b8 then b9 else false)
      let b11 : Bool := (bif b10 then (decide (a0.To < a2)) else false)
      refine StopP.advd tbOk [] 100000 1000 (by kernel_rfl) (by kernel_rfl) (ac_on b3 (pt b3) <| ac_on b3 (pt b3) <| ac_on b3 (pt b3) <| ac_y (pt b3) <| ac_on b8 (pt b8) <| ac_on b8 (pt b8) <| ac_y (pt b8) <| ac_on b10 (pt b10) <| ac_on b10 (pt b10) <| ac_on b10 (pt b10) <| ac_y (pt b10) <| ac_nil) ?_
      have h := sm h; subst h
      refine StopP.out .ret (by kernel_rfl) ?_
      exact ret_box (.inr rfl) [.keep [6] []] (by kernel_rfl) (by kernel_rfl) [] (by kernel_rfl)
    · have h := cd_f hb6 h
      let b12 : Bool := ((a0.Ins.Op == (0 : Int)) && ((a0.Ins.A == (0 : Int)) && ((a0.Ins.B == (0 : Int)) && ((a0.Ins.C == (0 : Int)) && ((a0.Ins.Imm == (0 : Int)) && true)))))
      let b13 : Bool := (bif b3 then b12 else false)
      let b14 : Bool := (decide (a0.To ≥ (0 : Int)))
      let b15 : Bool := (bif b13 then b14 else false)
      let b16 : Bool := (bif b15 then (decide (a0.To < a1)) else false)
      refine StopP.advd tbOk [] 100000 1000 (by kernel_rfl) (by kernel_rfl) (ac_on b3 (pt b3) <| ac_on b3 (pt b3) <| ac_on b3 (pt b3) <| ac_y (pt b3) <| ac_on b13 (pt b13) <| ac_on b13 (pt b13) <| ac_y (pt b13) <| ac_on b15 (pt b15) <| ac_on b15 (pt b15) <| ac_on b15 (pt b15) <| ac_y (pt b15) <| ac_nil) ?_
      have h := sm h; subst h
      refine StopP.out .ret (by kernel_rfl) ?_
      exact ret_box (.inr rfl) [.keep [6] []] (by kernel_rfl) (by kernel_rfl) [] (by kernel_rfl)
  · have h := cd_f hb5 h
    refine StopP.advd tbOk [] 100000 1000 (by kernel_rfl) (by kernel_rfl) (ac_nil) ?_
    refine StopP.cond (b := (a0.Kind == (3 : Int))) (by kernel_rfl) (fun hb17 => ?_) (fun hb17 => ?_)
    · have h := cd_t hb17 h
      let b18 : Bool := (bif b3 then (a0.To == (0 : Int)) else false)
      obtain ⟨r19, hc19, h⟩ := bd_some h
      let b20 : Bool := (bif b18 then r19 else false)
      obtain ⟨r21, hc21, h⟩ := bd_some h
      let b22 : Bool := (bif b20 then (r21 == (5 : Int)) else false)
      refine StopP.advd tbOk [(8, [(9, .call [] [] (v1 (cb r19))), (14, .call [] [] (v1 (ci r21)))])] 100000 1000 (by kernel_rfl) (by kernel_rfl) (ac_on b3 (pt b3) <| ac_on b3 (pt b3) <| ac_y (pt b3) <| ac_on b18 (pt b18) <| ac_on b18 (pt b18) <| ac_on b18 (fun h => g41_ref02_Right_ok K a0.Ins r19 (cd_t h hc19)) <| ac_y (pt b18) <| ac_on b20 (pt b20) <| ac_on b20 (pt b20) <| ac_on b20 (fun h => g39_ref03_Kind_ok K a0.Ins r21 (cd_t h hc21)) <| ac_on b20 (pt b20) <| ac_y (pt b20) <| ac_nil) ?_
      have h := sm h; subst h
      refine StopP.out .ret (by kernel_rfl) ?_
      exact ret_box (.inr rfl) [.keep [6] []] (by kernel_rfl) (by kernel_rfl) [] (by kernel_rfl)
    · have h := cd_f hb17 h
      let b23 : Bool := ((a0.Ins.Op == (0 : Int)) && ((a0.Ins.A == (0 : Int)) && ((a0.Ins.B == (0 : Int)) && ((a0.Ins.C == (0 : Int)) && ((a0.Ins.Imm == (0 : Int)) && true)))))
      let b24 : Bool := (bif (a0.Kind == (2 : Int)) then b23 else false)
      let b25 : Bool := (decide (a0.Op ≥ (15 : Int)))
      let b26 : Bool := (bif b24 then b25 else false)
      let b27 : Bool := (decide (a0.Op ≤ (18 : Int)))
      let b28 : Bool := (bif b26 then b27 else false)
      let b29 : Bool := (decide (a0.A ≥ (0 : Int)))
      let b30 : Bool := (bif b28 then b29 else false)
      let b31 : Bool := (decide (a0.A < (16 : Int)))
      let b32 : Bool := (bif b30 then b31 else false)
      let b33 : Bool := (decide (a0.B ≥ (0 : Int)))
      let b34 : Bool := (bif b32 then b33 else false)
      let b35 : Bool := (decide (a0.B < (16 : Int)))
      let b36 : Bool := (bif b34 then b35 else false)
      let b37 : Bool := (decide (a0.To ≥ (0 : Int)))
      let b38 : Bool := (bif b36 then b37 else false)
      let b39 : Bool := (bif b38 then (decide (a0.To < a1)) else false)
      let b40 : Bool := (decide (a0.Else ≥ (0 : Int)))
      let b41 : Bool := (bif b39 then b40 else false)
      let b42 : Bool := (bif b41 then (decide (a0.Else < a1)) else false)
      have q0 := ac_y (pt b36) <| ac_on b38 (pt b38) <| ac_on b38 (pt b38) <| ac_on b38 (pt b38) <| ac_y (pt b38) <| ac_on b39 (pt b39) <| ac_on b39 (pt b39) <| ac_y (pt b39) <| ac_on b41 (pt b41) <| ac_on b41 (pt b41) <| ac_on b41 (pt b41) <| ac_y (pt b41) <| ac_nil
      have q1 := ac_y (pt b28) <| ac_on b30 (pt b30) <| ac_on b30 (pt b30) <| ac_y (pt b30) <| ac_on b32 (pt b32) <| ac_on b32 (pt b32) <| ac_y (pt b32) <| ac_on b34 (pt b34) <| ac_on b34 (pt b34) <| ac_y (pt b34) <| ac_on b36 (pt b36) <| ac_on b36 (pt b36) <| q0
      refine StopP.advd tbOk [] 100000 1000 (by kernel_rfl) (by kernel_rfl) (ac_on (a0.Kind == (2 : Int)) (pt (a0.Kind == (2 : Int))) <| ac_on (a0.Kind == (2 : Int)) (pt (a0.Kind == (2 : Int))) <| ac_on (a0.Kind == (2 : Int)) (pt (a0.Kind == (2 : Int))) <| ac_y (pt (a0.Kind == (2 : Int))) <| ac_on b24 (pt b24) <| ac_on b24 (pt b24) <| ac_y (pt b24) <| ac_on b26 (pt b26) <| ac_on b26 (pt b26) <| ac_y (pt b26) <| ac_on b28 (pt b28) <| ac_on b28 (pt b28) <| q1) ?_
      have h := sm h; subst h
      refine StopP.out .ret (by kernel_rfl) ?_
      exact ret_box (.inr rfl) [.keep [6] []] (by kernel_rfl) (by kernel_rfl) [] (by kernel_rfl)

def g19_ref16_Right.l1 (K : Nat) (a0 : Graph) (a1 : Int) (a2 : Int) (x29 : Int) : Nat → Int → Option ((Unit) ⊕ (Unit))
  | 0, _ => none
  | k + 1, x67 =>
    gd (0 ≤ x29 ∧ x29 < (a0.Blocks.length : Int)) <|
    let b76 : Bool := (decide (x67 < (((a0.Blocks.getD x29.toNat zBlock).Ops).length : Int)))
    bif b76 then
      gd (0 ≤ x29 ∧ x29 < (a0.Blocks.length : Int)) <|
      gd (0 ≤ x67 ∧ x67 < (((a0.Blocks.getD x29.toNat zBlock).Ops).length : Int)) <|
      (g30_ref16_op K (((a0.Blocks.getD x29.toNat zBlock).Ops).getD x67.toNat zOp) a1 a2).bind fun r80 =>
      bif (!r80) then
        some (.inl ())
      else
        g19_ref16_Right.l1 K a0 a1 a2 x29 k (IntKind.i64.wrap (x67 + (1 : Int)))
    else
      some (.inr ())

def g19_ref16_Right.h1 (a0 : Graph) (a1 : Int) (a2 : Int) (x29 : Int) (x67 : Int) : Abs.St := ⟨[(1, .yes, v1 (ci a1)), (2, .yes, v1 (ci a2)), (3, .yes, v1 (.ptr 3 0 0)), (7, .yes, v1 (ci x29)), (8, .yes, v1 (ci x67))], [(3, .box 24 [cs a0.Name, cb a0.Keep, cb a0.Leaf, .t (.ro 12 cBlock zBlock a0.Blocks)])], 56⟩

def g19_ref16_Right.j1_0 (a0 : Graph) (a1 : Int) (a2 : Int) (x29 : Int) (o : Unit) : Abs.St := ⟨[(6, .yes, v1 (cb false))], [], 56⟩

def g19_ref16_Right.j1_1 (a0 : Graph) (a1 : Int) (a2 : Int) (x29 : Int) (o : Unit) : Abs.St := ⟨[(1, .yes, v1 (ci a1)), (2, .yes, v1 (ci a2)), (3, .yes, v1 (.ptr 3 0 0)), (7, .yes, v1 (ci x29))], [(3, .box 24 [cs a0.Name, cb a0.Keep, cb a0.Leaf, .t (.ro 12 cBlock zBlock a0.Blocks)])], 56⟩

theorem g19_ref16_Right.l1_ok {W : World} {A Kf : Nat → Prop} (K : Nat) (a0 : Graph) (a1 : Int) (a2 : Int) (x29 : Int) : ∀ (k : Nat) (x67 : Int) (o : (Unit) ⊕ (Unit)), g19_ref16_Right.l1 K a0 a1 a2 x29 k x67 = some o → WPR Try.prog W A Kf (kid [true, false, true, false, false, true, false, false, false, true, false, false] (bodyAt Try.f19)) (Out2 o .ret (g19_ref16_Right.j1_0 a0 a1 a2 x29) (.exit 2) (g19_ref16_Right.j1_1 a0 a1 a2 x29)) k (g19_ref16_Right.h1 a0 a1 a2 x29 x67)
  | 0, x67, o, h => by cases h
  | k + 1, x67, o, h => by
    refine WPR.round ?_
    obtain ⟨hg75, h⟩ := gd_some h
    let b76 : Bool := (decide (x67 < (((a0.Blocks.getD x29.toNat zBlock).Ops).length : Int)))
    refine StopP.advd tbOk [] 100000 1000 (by kernel_rfl) (by kernel_rfl) (ac_y hg75 <| ac_nil) ?_
    refine StopP.cond (b := b76) (by kernel_rfl) (fun hb77 => ?_) (fun hb77 => ?_)
    · have h := cd_t hb77 h
      obtain ⟨hg78, h⟩ := gd_some h
      obtain ⟨hg79, h⟩ := gd_some h
      obtain ⟨r80, hc80, h⟩ := bd_some h
      refine StopP.advd tbOk [(7, [(11, .call [] [] (v1 (cb r80)))])] 100000 1000 (by kernel_rfl) (by kernel_rfl) (ac_y hg78 <| ac_y hg79 <| ac_y (g30_ref16_op_ok K (((a0.Blocks.getD x29.toNat zBlock).Ops).getD x67.toNat zOp) a1 a2 r80 hc80) <| ac_nil) ?_
      refine StopP.cond (b := (!r80)) (by kernel_rfl) (fun hb81 => ?_) (fun hb81 => ?_)
      · have h := cd_t hb81 h
        refine StopP.advd tbOk [] 100000 1000 (by kernel_rfl) (by kernel_rfl) (ac_nil) ?_
        have h := sm h; subst h
        exact StopP.out .ret (by kernel_rfl) ⟨rfl, [.keep [6] []], by kernel_rfl⟩
      · have h := cd_f hb81 h
        refine StopP.advd tbOk [] 100000 1000 (by kernel_rfl) (by kernel_rfl) (ac_nil) ?_
        refine StopP.out .normal (by kernel_rfl) ?_
        exact WPR.chg [.keep [1, 2, 3, 7, 8] [3]] (by kernel_rfl) (g19_ref16_Right.l1_ok K a0 a1 a2 x29 k (IntKind.i64.wrap (x67 + (1 : Int))) o h)
    · have h := cd_f hb77 h
      refine StopP.advd tbOk [] 100000 1000 (by kernel_rfl) (by kernel_rfl) (ac_nil) ?_
      have h := sm h; subst h
      exact StopP.out (.exit 2) (by kernel_rfl) ⟨rfl, [.keep [1, 2, 3, 7] [3]], by kernel_rfl⟩

def g19_ref16_Right.l0 (K : Nat) (a0 : Graph) (a1 : Int) (a2 : Int) : Nat → Int → Option ((Unit) ⊕ (Unit))
  | 0, _ => none
  | k + 1, x29 =>
    let b58 : Bool := (decide (x29 < (a0.Blocks.length : Int)))
    bif b58 then
      (g19_ref16_Right.l1 K a0 a1 a2 x29 K (0 : Int)).bind fun o82 =>
      match o82 with
      | .inl o82 =>
        some (.inl ())
      | .inr o82 =>
        gd (0 ≤ x29 ∧ x29 < (a0.Blocks.length : Int)) <|
        (g31_ref16_term K ((a0.Blocks.getD x29.toNat zBlock).End) (a0.Blocks.length : Int) a1).bind fun r84 =>
        bif (!r84) then
          some (.inl ())
        else
          g19_ref16_Right.l0 K a0 a1 a2 k (IntKind.i64.wrap (x29 + (1 : Int)))
    else
      some (.inr ())

def g19_ref16_Right.h0 (a0 : Graph) (a1 : Int) (a2 : Int) (x29 : Int) : Abs.St := ⟨[(1, .yes, v1 (ci a1)), (2, .yes, v1 (ci a2)), (3, .yes, v1 (.ptr 3 0 0)), (7, .yes, v1 (ci x29))], [(3, .box 24 [cs a0.Name, cb a0.Keep, cb a0.Leaf, .t (.ro 12 cBlock zBlock a0.Blocks)])], 56⟩

def g19_ref16_Right.j0_0 (a0 : Graph) (a1 : Int) (a2 : Int) (o : Unit) : Abs.St := ⟨[(6, .yes, v1 (cb false))], [], 56⟩

def g19_ref16_Right.j0_1 (a0 : Graph) (a1 : Int) (a2 : Int) (o : Unit) : Abs.St := ⟨[(3, .yes, v1 (.ptr 3 0 0))], [(3, .box 24 [cs a0.Name, cb a0.Keep, cb a0.Leaf, .t (.ro 12 cBlock zBlock a0.Blocks)])], 56⟩

theorem g19_ref16_Right.l0_ok {W : World} {A Kf : Nat → Prop} (K : Nat) (a0 : Graph) (a1 : Int) (a2 : Int) : ∀ (k : Nat) (x29 : Int) (o : (Unit) ⊕ (Unit)), g19_ref16_Right.l0 K a0 a1 a2 k x29 = some o → WPR Try.prog W A Kf (kid [true, false, true, false, false] (bodyAt Try.f19)) (Out2 o .ret (g19_ref16_Right.j0_0 a0 a1 a2) (.exit 0) (g19_ref16_Right.j0_1 a0 a1 a2)) k (g19_ref16_Right.h0 a0 a1 a2 x29)
  | 0, x29, o, h => by cases h
  | k + 1, x29, o, h => by
    refine WPR.round ?_
    let b58 : Bool := (decide (x29 < (a0.Blocks.length : Int)))
    refine StopP.advd tbOk [] 100000 1000 (by kernel_rfl) (by kernel_rfl) (ac_nil) ?_
    refine StopP.cond (b := b58) (by kernel_rfl) (fun hb59 => ?_) (fun hb59 => ?_)
    · have h := cd_t hb59 h
      refine StopP.advd tbOk [] 100000 1000 (by kernel_rfl) (by kernel_rfl) (ac_nil) ?_
      obtain ⟨o82, ho82, h⟩ := bd_some h
      cases o82 with
      | inl o82 =>
        refine StopP.lp (by kernel_rfl) [.keep [1, 2, 3, 7, 8] [3]] (s := g19_ref16_Right.h1 a0 a1 a2 x29 (0 : Int)) (by kernel_rfl) (c := (kid [true, false, true, false, false, true, false, false, false, true, false, false] (bodyAt Try.f19))) (by kernel_rfl) (e := .ret) (J := g19_ref16_Right.j1_0 a0 a1 a2 x29 o82) K (g19_ref16_Right.l1_ok K a0 a1 a2 x29 K (0 : Int) (.inl o82) ho82) ?_
        have h := sm h; subst h
        exact StopP.out .ret (by kernel_rfl) ⟨rfl, [.keep [6] []], by kernel_rfl⟩
      | inr o82 =>
        refine StopP.lp (by kernel_rfl) [.keep [1, 2, 3, 7, 8] [3]] (s := g19_ref16_Right.h1 a0 a1 a2 x29 (0 : Int)) (by kernel_rfl) (c := (kid [true, false, true, false, false, true, false, false, false, true, false, false] (bodyAt Try.f19))) (by kernel_rfl) (e := (.exit 2)) (J := g19_ref16_Right.j1_1 a0 a1 a2 x29 o82) K (g19_ref16_Right.l1_ok K a0 a1 a2 x29 K (0 : Int) (.inr o82) ho82) ?_
        obtain ⟨hg83, h⟩ := gd_some h
        obtain ⟨r84, hc84, h⟩ := bd_some h
        refine StopP.advd tbOk [(9, [(10, .call [] [] (v1 (cb r84)))])] 100000 1000 (by kernel_rfl) (by kernel_rfl) (ac_y hg83 <| ac_y (g31_ref16_term_ok K ((a0.Blocks.getD x29.toNat zBlock).End) (a0.Blocks.length : Int) a1 r84 hc84) <| ac_nil) ?_
        refine StopP.cond (b := (!r84)) (by kernel_rfl) (fun hb85 => ?_) (fun hb85 => ?_)
        · have h := cd_t hb85 h
          refine StopP.advd tbOk [] 100000 1000 (by kernel_rfl) (by kernel_rfl) (ac_nil) ?_
          have h := sm h; subst h
          exact StopP.out .ret (by kernel_rfl) ⟨rfl, [.keep [6] []], by kernel_rfl⟩
        · have h := cd_f hb85 h
          refine StopP.advd tbOk [] 100000 1000 (by kernel_rfl) (by kernel_rfl) (ac_nil) ?_
          refine StopP.out .normal (by kernel_rfl) ?_
          exact WPR.chg [.keep [1, 2, 3, 7] [3]] (by kernel_rfl) (g19_ref16_Right.l0_ok K a0 a1 a2 k (IntKind.i64.wrap (x29 + (1 : Int))) o h)
    · have h := cd_f hb59 h
      refine StopP.advd tbOk [] 100000 1000 (by kernel_rfl) (by kernel_rfl) (ac_nil) ?_
      have h := sm h; subst h
      exact StopP.out (.exit 0) (by kernel_rfl) ⟨rfl, [.keep [3] [3]], by kernel_rfl⟩

def g19_ref16_Right (K : Nat) (a0 : Graph) (a1 : Int) (a2 : Int) : Option (Bool) :=
  (g19_ref16_Right.l0 K a0 a1 a2 K (0 : Int)).bind fun o86 =>
  match o86 with
  | .inl o86 =>
    some false
  | .inr o86 =>
    let b87 : Bool := (decide ((a0.Blocks.length : Int) > (0 : Int)))
    some b87

theorem g19_ref16_Right_ok (K : Nat) (a0 : Graph) (a1 : Int) (a2 : Int) (r : Bool) (h : g19_ref16_Right K a0 a1 a2 = some r) : AC Try.prog 19 [] [.v true [cs a0.Name, cb a0.Keep, cb a0.Leaf, .t (.ro 12 cBlock zBlock a0.Blocks)], v1 (ci a1), v1 (ci a2)] [] (v1 (cb r)) := by
  refine AC.intro (fn := Try.f19) tbOk (by kernel_rfl) rfl (by kernel_rfl) (fun W A Kf => ?_)
  refine StopP.advd tbOk [] 100000 1000 (by kernel_rfl) (by kernel_rfl) (ac_nil) ?_
  obtain ⟨o86, ho86, h⟩ := bd_some h
  cases o86 with
  | inl o86 =>
    refine StopP.lp (by kernel_rfl) [.keep [1, 2, 3, 7] [3]] (s := g19_ref16_Right.h0 a0 a1 a2 (0 : Int)) (by kernel_rfl) (c := (kid [true, false, true, false, false] (bodyAt Try.f19))) (by kernel_rfl) (e := .ret) (J := g19_ref16_Right.j0_0 a0 a1 a2 o86) K (g19_ref16_Right.l0_ok K a0 a1 a2 K (0 : Int) (.inl o86) ho86) ?_
    have h := sm h; subst h
    refine StopP.out .ret (by kernel_rfl) ?_
    exact ret_box (.inr rfl) [.keep [6] []] (by kernel_rfl) (by kernel_rfl) [] (by kernel_rfl)
  | inr o86 =>
    refine StopP.lp (by kernel_rfl) [.keep [1, 2, 3, 7] [3]] (s := g19_ref16_Right.h0 a0 a1 a2 (0 : Int)) (by kernel_rfl) (c := (kid [true, false, true, false, false] (bodyAt Try.f19))) (by kernel_rfl) (e := (.exit 0)) (J := g19_ref16_Right.j0_1 a0 a1 a2 o86) K (g19_ref16_Right.l0_ok K a0 a1 a2 K (0 : Int) (.inr o86) ho86) ?_
    let b87 : Bool := (decide ((a0.Blocks.length : Int) > (0 : Int)))
    refine StopP.advd tbOk [] 100000 1000 (by kernel_rfl) (by kernel_rfl) (ac_nil) ?_
    have h := sm h; subst h
    refine StopP.out .ret (by kernel_rfl) ?_
    exact ret_box (.inr rfl) [.keep [6] []] (by kernel_rfl) (by kernel_rfl) [] (by kernel_rfl)

def g22_ref16_Few.l0 (K : Nat) (a0 : Graph) : Nat → Int → Option ((Unit) ⊕ (Unit))
  | 0, _ => none
  | k + 1, x8 =>
    let b16 : Bool := (decide (x8 < (a0.Blocks.length : Int)))
    let b17 : Bool := (decide (x8 < (300 : Int)))
    let b18 : Bool := (bif b16 then b17 else false)
    bif b18 then
      gd (0 ≤ x8 ∧ x8 < (a0.Blocks.length : Int)) <|
      let b21 : Bool := (decide ((((a0.Blocks.getD x8.toNat zBlock).Ops).length : Int) > (300 : Int)))
      bif b21 then
        some (.inl ())
      else
        g22_ref16_Few.l0 K a0 k (IntKind.i64.wrap (x8 + (1 : Int)))
    else
      some (.inr ())

def g22_ref16_Few.h0 (a0 : Graph) (x8 : Int) : Abs.St := ⟨[(1, .yes, v1 (.ptr 1 0 0)), (3, .yes, v1 (ci x8))], [(1, .box 24 [cs a0.Name, cb a0.Keep, cb a0.Leaf, .t (.ro 12 cBlock zBlock a0.Blocks)])], 27⟩

def g22_ref16_Few.j0_0 (a0 : Graph) (o : Unit) : Abs.St := ⟨[(2, .yes, v1 (cb false))], [], 27⟩

def g22_ref16_Few.j0_1 (a0 : Graph) (o : Unit) : Abs.St := ⟨[(1, .yes, v1 (.ptr 1 0 0))], [(1, .box 24 [cs a0.Name, cb a0.Keep, cb a0.Leaf, .t (.ro 12 cBlock zBlock a0.Blocks)])], 27⟩

theorem g22_ref16_Few.l0_ok {W : World} {A Kf : Nat → Prop} (K : Nat) (a0 : Graph) : ∀ (k : Nat) (x8 : Int) (o : (Unit) ⊕ (Unit)), g22_ref16_Few.l0 K a0 k x8 = some o → WPR Try.prog W A Kf (kid [true, false, true, false, false] (bodyAt Try.f22)) (Out2 o .ret (g22_ref16_Few.j0_0 a0) (.exit 0) (g22_ref16_Few.j0_1 a0)) k (g22_ref16_Few.h0 a0 x8)
  | 0, x8, o, h => by cases h
  | k + 1, x8, o, h => by
    refine WPR.round ?_
    let b16 : Bool := (decide (x8 < (a0.Blocks.length : Int)))
    let b17 : Bool := (decide (x8 < (300 : Int)))
    let b18 : Bool := (bif b16 then b17 else false)
    refine StopP.advd tbOk [] 100000 1000 (by kernel_rfl) (by kernel_rfl) (ac_on b16 (pt b16) <| ac_y (pt b16) <| ac_nil) ?_
    refine StopP.cond (b := b18) (by kernel_rfl) (fun hb19 => ?_) (fun hb19 => ?_)
    · have h := cd_t hb19 h
      obtain ⟨hg20, h⟩ := gd_some h
      let b21 : Bool := (decide ((((a0.Blocks.getD x8.toNat zBlock).Ops).length : Int) > (300 : Int)))
      refine StopP.advd tbOk [] 100000 1000 (by kernel_rfl) (by kernel_rfl) (ac_y hg20 <| ac_nil) ?_
      refine StopP.cond (b := b21) (by kernel_rfl) (fun hb22 => ?_) (fun hb22 => ?_)
      · have h := cd_t hb22 h
        refine StopP.advd tbOk [] 100000 1000 (by kernel_rfl) (by kernel_rfl) (ac_nil) ?_
        have h := sm h; subst h
        exact StopP.out .ret (by kernel_rfl) ⟨rfl, [.keep [2] []], by kernel_rfl⟩
      · have h := cd_f hb22 h
        refine StopP.advd tbOk [] 100000 1000 (by kernel_rfl) (by kernel_rfl) (ac_nil) ?_
        refine StopP.out .normal (by kernel_rfl) ?_
        exact WPR.chg [.keep [1, 3] [1]] (by kernel_rfl) (g22_ref16_Few.l0_ok K a0 k (IntKind.i64.wrap (x8 + (1 : Int))) o h)
    · have h := cd_f hb19 h
      refine StopP.advd tbOk [] 100000 1000 (by kernel_rfl) (by kernel_rfl) (ac_nil) ?_
      have h := sm h; subst h
      exact StopP.out (.exit 0) (by kernel_rfl) ⟨rfl, [.keep [1] [1]], by kernel_rfl⟩

def g22_ref16_Few (K : Nat) (a0 : Graph) : Option (Bool) :=
  (g22_ref16_Few.l0 K a0 K (0 : Int)).bind fun o23 =>
  match o23 with
  | .inl o23 =>
    some false
  | .inr o23 =>
    let b24 : Bool := (decide ((a0.Blocks.length : Int) ≤ (200 : Int)))
    some b24

theorem g22_ref16_Few_ok (K : Nat) (a0 : Graph) (r : Bool) (h : g22_ref16_Few K a0 = some r) : AC Try.prog 22 [] [.v true [cs a0.Name, cb a0.Keep, cb a0.Leaf, .t (.ro 12 cBlock zBlock a0.Blocks)]] [] (v1 (cb r)) := by
  refine AC.intro (fn := Try.f22) tbOk (by kernel_rfl) rfl (by kernel_rfl) (fun W A Kf => ?_)
  refine StopP.advd tbOk [] 100000 1000 (by kernel_rfl) (by kernel_rfl) (ac_nil) ?_
  obtain ⟨o23, ho23, h⟩ := bd_some h
  cases o23 with
  | inl o23 =>
    refine StopP.lp (by kernel_rfl) [.keep [1, 3] [1]] (s := g22_ref16_Few.h0 a0 (0 : Int)) (by kernel_rfl) (c := (kid [true, false, true, false, false] (bodyAt Try.f22))) (by kernel_rfl) (e := .ret) (J := g22_ref16_Few.j0_0 a0 o23) K (g22_ref16_Few.l0_ok K a0 K (0 : Int) (.inl o23) ho23) ?_
    have h := sm h; subst h
    refine StopP.out .ret (by kernel_rfl) ?_
    exact ret_box (.inr rfl) [.keep [2] []] (by kernel_rfl) (by kernel_rfl) [] (by kernel_rfl)
  | inr o23 =>
    refine StopP.lp (by kernel_rfl) [.keep [1, 3] [1]] (s := g22_ref16_Few.h0 a0 (0 : Int)) (by kernel_rfl) (c := (kid [true, false, true, false, false] (bodyAt Try.f22))) (by kernel_rfl) (e := (.exit 0)) (J := g22_ref16_Few.j0_1 a0 o23) K (g22_ref16_Few.l0_ok K a0 K (0 : Int) (.inr o23) ho23) ?_
    let b24 : Bool := (decide ((a0.Blocks.length : Int) ≤ (200 : Int)))
    refine StopP.advd tbOk [] 100000 1000 (by kernel_rfl) (by kernel_rfl) (ac_nil) ?_
    have h := sm h; subst h
    refine StopP.out .ret (by kernel_rfl) ?_
    exact ret_box (.inr rfl) [.keep [2] []] (by kernel_rfl) (by kernel_rfl) [] (by kernel_rfl)

def g20_ref22_Ops.l0 (K : Nat) (a0 : Graph) : Nat → Int → Int → Option (Int)
  | 0, _, _ => none
  | k + 1, x5, x6 =>
    let b11 : Bool := (decide (x6 < (a0.Blocks.length : Int)))
    bif b11 then
      gd (0 ≤ x6 ∧ x6 < (a0.Blocks.length : Int)) <|
      let i14 : Int := (IntKind.i64.wrap (x5 + (((a0.Blocks.getD x6.toNat zBlock).Ops).length : Int)))
      g20_ref22_Ops.l0 K a0 k i14 (IntKind.i64.wrap (x6 + (1 : Int)))
    else
      some x5

def g20_ref22_Ops.h0 (a0 : Graph) (x5 : Int) (x6 : Int) : Abs.St := ⟨[(1, .yes, v1 (.ptr 1 0 0)), (3, .yes, v1 (ci x5)), (4, .yes, v1 (ci x6))], [(1, .box 24 [cs a0.Name, cb a0.Keep, cb a0.Leaf, .t (.ro 12 cBlock zBlock a0.Blocks)])], 22⟩

def g20_ref22_Ops.j0_0 (a0 : Graph) (o : Int) : Abs.St := ⟨[(3, .yes, v1 (ci o))], [], 22⟩

theorem g20_ref22_Ops.l0_ok {W : World} {A Kf : Nat → Prop} (K : Nat) (a0 : Graph) : ∀ (k : Nat) (x5 : Int) (x6 : Int) (o : Int), g20_ref22_Ops.l0 K a0 k x5 x6 = some o → WPR Try.prog W A Kf (kid [true, true, false, true, false, false] (bodyAt Try.f20)) (Out (.exit 0) (g20_ref22_Ops.j0_0 a0 o)) k (g20_ref22_Ops.h0 a0 x5 x6)
  | 0, x5, x6, o, h => by cases h
  | k + 1, x5, x6, o, h => by
    refine WPR.round ?_
    let b11 : Bool := (decide (x6 < (a0.Blocks.length : Int)))
    refine StopP.advd tbOk [] 100000 1000 (by kernel_rfl) (by kernel_rfl) (ac_nil) ?_
    refine StopP.cond (b := b11) (by kernel_rfl) (fun hb12 => ?_) (fun hb12 => ?_)
    · have h := cd_t hb12 h
      obtain ⟨hg13, h⟩ := gd_some h
      let i14 : Int := (IntKind.i64.wrap (x5 + (((a0.Blocks.getD x6.toNat zBlock).Ops).length : Int)))
      refine StopP.advd tbOk [] 100000 1000 (by kernel_rfl) (by kernel_rfl) (ac_y hg13 <| ac_nil) ?_
      refine StopP.out .normal (by kernel_rfl) ?_
      exact WPR.chg [.keep [1, 3, 4] [1]] (by kernel_rfl) (g20_ref22_Ops.l0_ok K a0 k i14 (IntKind.i64.wrap (x6 + (1 : Int))) o h)
    · have h := cd_f hb12 h
      refine StopP.advd tbOk [] 100000 1000 (by kernel_rfl) (by kernel_rfl) (ac_nil) ?_
      have h := sm h; subst h
      exact StopP.out (.exit 0) (by kernel_rfl) ⟨rfl, [.keep [3] []], by kernel_rfl⟩

def g20_ref22_Ops (K : Nat) (a0 : Graph) : Option (Int) :=
  (g20_ref22_Ops.l0 K a0 K (0 : Int) (0 : Int)).bind fun o15 =>
  some o15

theorem g20_ref22_Ops_ok (K : Nat) (a0 : Graph) (r : Int) (h : g20_ref22_Ops K a0 = some r) : AC Try.prog 20 [] [.v true [cs a0.Name, cb a0.Keep, cb a0.Leaf, .t (.ro 12 cBlock zBlock a0.Blocks)]] [] (v1 (ci r)) := by
  refine AC.intro (fn := Try.f20) tbOk (by kernel_rfl) rfl (by kernel_rfl) (fun W A Kf => ?_)
  refine StopP.advd tbOk [] 100000 1000 (by kernel_rfl) (by kernel_rfl) (ac_nil) ?_
  obtain ⟨o15, ho15, h⟩ := bd_some h
  refine StopP.lp (by kernel_rfl) [.keep [1, 3, 4] [1]] (s := g20_ref22_Ops.h0 a0 (0 : Int) (0 : Int)) (by kernel_rfl) (c := (kid [true, true, false, true, false, false] (bodyAt Try.f20))) (by kernel_rfl) (e := (.exit 0)) (J := g20_ref22_Ops.j0_0 a0 o15) K (g20_ref22_Ops.l0_ok K a0 K (0 : Int) (0 : Int) o15 ho15) ?_
  refine StopP.advd tbOk [] 100000 1000 (by kernel_rfl) (by kernel_rfl) (ac_nil) ?_
  have h := sm h; subst h
  refine StopP.out .ret (by kernel_rfl) ?_
  exact ret_box (.inr rfl) [.keep [2] []] (by kernel_rfl) (by kernel_rfl) [] (by kernel_rfl)

def g9_law22_fine (K : Nat) (a0 : Graph) : Option (Bool) :=
  (g22_ref16_Few K a0).bind fun r1 =>
  let b2 : Bool := (decide ((a0.Blocks.length : Int) ≤ (30 : Int)))
  let b3 : Bool := (bif r1 then b2 else false)
  (bif b3 then g20_ref22_Ops K a0 else some 0).bind fun r4 =>
  let b5 : Bool := (decide (r4 ≤ (60 : Int)))
  let b6 : Bool := (bif b3 then b5 else false)
  (bif b6 then g19_ref16_Right K a0 (1000 : Int) (1000 : Int) else some false).bind fun r7 =>
  let b8 : Bool := (bif b6 then r7 else false)
  some b8

theorem g9_law22_fine_ok (K : Nat) (a0 : Graph) (r : Bool) (h : g9_law22_fine K a0 = some r) : AC Try.prog 9 [] [.v true [cs a0.Name, cb a0.Keep, cb a0.Leaf, .t (.ro 12 cBlock zBlock a0.Blocks)]] [] (v1 (cb r)) := by
  refine AC.intro (fn := Try.f9) tbOk (by kernel_rfl) rfl (by kernel_rfl) (fun W A Kf => ?_)
  obtain ⟨r1, hc1, h⟩ := bd_some h
  let b2 : Bool := (decide ((a0.Blocks.length : Int) ≤ (30 : Int)))
  let b3 : Bool := (bif r1 then b2 else false)
  obtain ⟨r4, hc4, h⟩ := bd_some h
  let b5 : Bool := (decide (r4 ≤ (60 : Int)))
  let b6 : Bool := (bif b3 then b5 else false)
  obtain ⟨r7, hc7, h⟩ := bd_some h
  let b8 : Bool := (bif b6 then r7 else false)
  refine StopP.advd tbOk [(1, [(1, .call [] [] (v1 (cb r1))), (10, .call [] [] (v1 (ci r4))), (15, .call [] [] (v1 (cb r7)))])] 100000 1000 (by kernel_rfl) (by kernel_rfl) (ac_y (g22_ref16_Few_ok K a0 r1 hc1) <| ac_on r1 (pt r1) <| ac_on r1 (pt r1) <| ac_on r1 (pt r1) <| ac_y (pt r1) <| ac_on b3 (pt b3) <| ac_on b3 (fun h => g20_ref22_Ops_ok K a0 r4 (cd_t h hc4)) <| ac_on b3 (pt b3) <| ac_y (pt b3) <| ac_on b6 (pt b6) <| ac_on b6 (fun h => g19_ref16_Right_ok K a0 (1000 : Int) (1000 : Int) r7 (cd_t h hc7)) <| ac_y (pt b6) <| ac_nil) ?_
  have h := sm h; subst h
  refine StopP.out .ret (by kernel_rfl) ?_
  exact ret_box (.inr rfl) [.keep [2] []] (by kernel_rfl) (by kernel_rfl) [] (by kernel_rfl)

def g10_ref16_Same.l1 (K : Nat) (a0 : Graph) (a1 : Graph) (x46 : Int) : Nat → Int → Option ((Unit) ⊕ (Unit))
  | 0, _ => none
  | k + 1, x105 =>
    gd (0 ≤ x46 ∧ x46 < (a0.Blocks.length : Int)) <|
    let b116 : Bool := (decide (x105 < (((a0.Blocks.getD x46.toNat zBlock).Ops).length : Int)))
    bif b116 then
      gd (0 ≤ x46 ∧ x46 < (a0.Blocks.length : Int)) <|
      gd (0 ≤ x105 ∧ x105 < (((a0.Blocks.getD x46.toNat zBlock).Ops).length : Int)) <|
      gd (0 ≤ x46 ∧ x46 < (a1.Blocks.length : Int)) <|
      gd (0 ≤ x105 ∧ x105 < (((a1.Blocks.getD x46.toNat zBlock).Ops).length : Int)) <|
      let b122 : Bool := (!(((((a0.Blocks.getD x46.toNat zBlock).Ops).getD x105.toNat zOp).Ins.Op == (((a1.Blocks.getD x46.toNat zBlock).Ops).getD x105.toNat zOp).Ins.Op) && (((((a0.Blocks.getD x46.toNat zBlock).Ops).getD x105.toNat zOp).Ins.A == (((a1.Blocks.getD x46.toNat zBlock).Ops).getD x105.toNat zOp).Ins.A) && (((((a0.Blocks.getD x46.toNat zBlock).Ops).getD x105.toNat zOp).Ins.B == (((a1.Blocks.getD x46.toNat zBlock).Ops).getD x105.toNat zOp).Ins.B) && (((((a0.Blocks.getD x46.toNat zBlock).Ops).getD x105.toNat zOp).Ins.C == (((a1.Blocks.getD x46.toNat zBlock).Ops).getD x105.toNat zOp).Ins.C) && (((((a0.Blocks.getD x46.toNat zBlock).Ops).getD x105.toNat zOp).Ins.Imm == (((a1.Blocks.getD x46.toNat zBlock).Ops).getD x105.toNat zOp).Ins.Imm) && (((((a0.Blocks.getD x46.toNat zBlock).Ops).getD x105.toNat zOp).Rel == (((a1.Blocks.getD x46.toNat zBlock).Ops).getD x105.toNat zOp).Rel) && (((((a0.Blocks.getD x46.toNat zBlock).Ops).getD x105.toNat zOp).Kind == (((a1.Blocks.getD x46.toNat zBlock).Ops).getD x105.toNat zOp).Kind) && (((((a0.Blocks.getD x46.toNat zBlock).Ops).getD x105.toNat zOp).To == (((a1.Blocks.getD x46.toNat zBlock).Ops).getD x105.toNat zOp).To) && (((((a0.Blocks.getD x46.toNat zBlock).Ops).getD x105.toNat zOp).Add == (((a1.Blocks.getD x46.toNat zBlock).Ops).getD x105.toNat zOp).Add) && true))))))))))
      bif b122 then
        some (.inl ())
      else
        g10_ref16_Same.l1 K a0 a1 x46 k (IntKind.i64.wrap (x105 + (1 : Int)))
    else
      some (.inr ())

def g10_ref16_Same.h1 (a0 : Graph) (a1 : Graph) (x46 : Int) (x105 : Int) : Abs.St := ⟨[(2, .yes, v1 (.ptr 2 0 0)), (3, .yes, v1 (.ptr 3 0 0)), (5, .yes, v1 (ci x46)), (6, .yes, v1 (ci x105))], [(2, .box 24 [cs a0.Name, cb a0.Keep, cb a0.Leaf, .t (.ro 12 cBlock zBlock a0.Blocks)]), (3, .box 24 [cs a1.Name, cb a1.Keep, cb a1.Leaf, .t (.ro 12 cBlock zBlock a1.Blocks)])], 102⟩

def g10_ref16_Same.j1_0 (a0 : Graph) (a1 : Graph) (x46 : Int) (o : Unit) : Abs.St := ⟨[(4, .yes, v1 (cb false))], [], 102⟩

def g10_ref16_Same.j1_1 (a0 : Graph) (a1 : Graph) (x46 : Int) (o : Unit) : Abs.St := ⟨[(2, .yes, v1 (.ptr 2 0 0)), (3, .yes, v1 (.ptr 3 0 0)), (5, .yes, v1 (ci x46))], [(2, .box 24 [cs a0.Name, cb a0.Keep, cb a0.Leaf, .t (.ro 12 cBlock zBlock a0.Blocks)]), (3, .box 24 [cs a1.Name, cb a1.Keep, cb a1.Leaf, .t (.ro 12 cBlock zBlock a1.Blocks)])], 102⟩

theorem g10_ref16_Same.l1_ok {W : World} {A Kf : Nat → Prop} (K : Nat) (a0 : Graph) (a1 : Graph) (x46 : Int) : ∀ (k : Nat) (x105 : Int) (o : (Unit) ⊕ (Unit)), g10_ref16_Same.l1 K a0 a1 x46 k x105 = some o → WPR Try.prog W A Kf (kid [true, true, false, true, false, false, true, false, false, true, true, false, false] (bodyAt Try.f10)) (Out2 o .ret (g10_ref16_Same.j1_0 a0 a1 x46) (.exit 2) (g10_ref16_Same.j1_1 a0 a1 x46)) k (g10_ref16_Same.h1 a0 a1 x46 x105)
  | 0, x105, o, h => by cases h
  | k + 1, x105, o, h => by
    refine WPR.round ?_
    obtain ⟨hg115, h⟩ := gd_some h
    let b116 : Bool := (decide (x105 < (((a0.Blocks.getD x46.toNat zBlock).Ops).length : Int)))
    refine StopP.advd tbOk [] 100000 1000 (by kernel_rfl) (by kernel_rfl) (ac_y hg115 <| ac_nil) ?_
    refine StopP.cond (b := b116) (by kernel_rfl) (fun hb117 => ?_) (fun hb117 => ?_)
    · have h := cd_t hb117 h
      obtain ⟨hg118, h⟩ := gd_some h
      obtain ⟨hg119, h⟩ := gd_some h
      obtain ⟨hg120, h⟩ := gd_some h
      obtain ⟨hg121, h⟩ := gd_some h
      let b122 : Bool := (!(((((a0.Blocks.getD x46.toNat zBlock).Ops).getD x105.toNat zOp).Ins.Op == (((a1.Blocks.getD x46.toNat zBlock).Ops).getD x105.toNat zOp).Ins.Op) && (((((a0.Blocks.getD x46.toNat zBlock).Ops).getD x105.toNat zOp).Ins.A == (((a1.Blocks.getD x46.toNat zBlock).Ops).getD x105.toNat zOp).Ins.A) && (((((a0.Blocks.getD x46.toNat zBlock).Ops).getD x105.toNat zOp).Ins.B == (((a1.Blocks.getD x46.toNat zBlock).Ops).getD x105.toNat zOp).Ins.B) && (((((a0.Blocks.getD x46.toNat zBlock).Ops).getD x105.toNat zOp).Ins.C == (((a1.Blocks.getD x46.toNat zBlock).Ops).getD x105.toNat zOp).Ins.C) && (((((a0.Blocks.getD x46.toNat zBlock).Ops).getD x105.toNat zOp).Ins.Imm == (((a1.Blocks.getD x46.toNat zBlock).Ops).getD x105.toNat zOp).Ins.Imm) && (((((a0.Blocks.getD x46.toNat zBlock).Ops).getD x105.toNat zOp).Rel == (((a1.Blocks.getD x46.toNat zBlock).Ops).getD x105.toNat zOp).Rel) && (((((a0.Blocks.getD x46.toNat zBlock).Ops).getD x105.toNat zOp).Kind == (((a1.Blocks.getD x46.toNat zBlock).Ops).getD x105.toNat zOp).Kind) && (((((a0.Blocks.getD x46.toNat zBlock).Ops).getD x105.toNat zOp).To == (((a1.Blocks.getD x46.toNat zBlock).Ops).getD x105.toNat zOp).To) && (((((a0.Blocks.getD x46.toNat zBlock).Ops).getD x105.toNat zOp).Add == (((a1.Blocks.getD x46.toNat zBlock).Ops).getD x105.toNat zOp).Add) && true))))))))))
      refine StopP.advd tbOk [] 100000 1000 (by kernel_rfl) (by kernel_rfl) (ac_y hg118 <| ac_y hg119 <| ac_y hg120 <| ac_y hg121 <| ac_nil) ?_
      refine StopP.cond (b := b122) (by kernel_rfl) (fun hb123 => ?_) (fun hb123 => ?_)
      · have h := cd_t hb123 h
        refine StopP.advd tbOk [] 100000 1000 (by kernel_rfl) (by kernel_rfl) (ac_nil) ?_
        have h := sm h; subst h
        exact StopP.out .ret (by kernel_rfl) ⟨rfl, [.keep [4] []], by kernel_rfl⟩
      · have h := cd_f hb123 h
        refine StopP.advd tbOk [] 100000 1000 (by kernel_rfl) (by kernel_rfl) (ac_nil) ?_
        refine StopP.out .normal (by kernel_rfl) ?_
        exact WPR.chg [.keep [2, 3, 5, 6] [2, 3]] (by kernel_rfl) (g10_ref16_Same.l1_ok K a0 a1 x46 k (IntKind.i64.wrap (x105 + (1 : Int))) o h)
    · have h := cd_f hb117 h
      refine StopP.advd tbOk [] 100000 1000 (by kernel_rfl) (by kernel_rfl) (ac_nil) ?_
      have h := sm h; subst h
      exact StopP.out (.exit 2) (by kernel_rfl) ⟨rfl, [.keep [2, 3, 5] [2, 3]], by kernel_rfl⟩

def g10_ref16_Same.l0 (K : Nat) (a0 : Graph) (a1 : Graph) : Nat → Int → Option ((Unit) ⊕ (Unit))
  | 0, _ => none
  | k + 1, x46 =>
    let b86 : Bool := (decide (x46 < (a0.Blocks.length : Int)))
    bif b86 then
      gd (0 ≤ x46 ∧ x46 < (a0.Blocks.length : Int)) <|
      gd (0 ≤ x46 ∧ x46 < (a1.Blocks.length : Int)) <|
      let b90 : Bool := (!(((a0.Blocks.getD x46.toNat zBlock).End.Kind == (a1.Blocks.getD x46.toNat zBlock).End.Kind) && (((a0.Blocks.getD x46.toNat zBlock).End.Op == (a1.Blocks.getD x46.toNat zBlock).End.Op) && (((a0.Blocks.getD x46.toNat zBlock).End.A == (a1.Blocks.getD x46.toNat zBlock).End.A) && (((a0.Blocks.getD x46.toNat zBlock).End.B == (a1.Blocks.getD x46.toNat zBlock).End.B) && (((a0.Blocks.getD x46.toNat zBlock).End.To == (a1.Blocks.getD x46.toNat zBlock).End.To) && (((a0.Blocks.getD x46.toNat zBlock).End.Else == (a1.Blocks.getD x46.toNat zBlock).End.Else) && (((a0.Blocks.getD x46.toNat zBlock).End.Ins.Op == (a1.Blocks.getD x46.toNat zBlock).End.Ins.Op) && (((a0.Blocks.getD x46.toNat zBlock).End.Ins.A == (a1.Blocks.getD x46.toNat zBlock).End.Ins.A) && (((a0.Blocks.getD x46.toNat zBlock).End.Ins.B == (a1.Blocks.getD x46.toNat zBlock).End.Ins.B) && (((a0.Blocks.getD x46.toNat zBlock).End.Ins.C == (a1.Blocks.getD x46.toNat zBlock).End.Ins.C) && (((a0.Blocks.getD x46.toNat zBlock).End.Ins.Imm == (a1.Blocks.getD x46.toNat zBlock).End.Ins.Imm) && true))))))))))))
      gd ((!b90) = true → 0 ≤ x46 ∧ x46 < (a0.Blocks.length : Int)) <|
      gd ((!b90) = true → 0 ≤ x46 ∧ x46 < (a1.Blocks.length : Int)) <|
      let b93 : Bool := ((((a0.Blocks.getD x46.toNat zBlock).Ops).length : Int) != (((a1.Blocks.getD x46.toNat zBlock).Ops).length : Int))
      let b94 : Bool := (bif b90 then true else b93)
      bif b94 then
        some (.inl ())
      else
        (g10_ref16_Same.l1 K a0 a1 x46 K (0 : Int)).bind fun o124 =>
        match o124 with
        | .inl o124 =>
          some (.inl ())
        | .inr o124 =>
          g10_ref16_Same.l0 K a0 a1 k (IntKind.i64.wrap (x46 + (1 : Int)))
    else
      some (.inr ())

def g10_ref16_Same.h0 (a0 : Graph) (a1 : Graph) (x46 : Int) : Abs.St := ⟨[(2, .yes, v1 (.ptr 2 0 0)), (3, .yes, v1 (.ptr 3 0 0)), (5, .yes, v1 (ci x46))], [(2, .box 24 [cs a0.Name, cb a0.Keep, cb a0.Leaf, .t (.ro 12 cBlock zBlock a0.Blocks)]), (3, .box 24 [cs a1.Name, cb a1.Keep, cb a1.Leaf, .t (.ro 12 cBlock zBlock a1.Blocks)])], 102⟩

def g10_ref16_Same.j0_0 (a0 : Graph) (a1 : Graph) (o : Unit) : Abs.St := ⟨[(4, .yes, v1 (cb false))], [], 102⟩

def g10_ref16_Same.j0_1 (a0 : Graph) (a1 : Graph) (o : Unit) : Abs.St := ⟨[], [], 102⟩

theorem g10_ref16_Same.l0_ok {W : World} {A Kf : Nat → Prop} (K : Nat) (a0 : Graph) (a1 : Graph) : ∀ (k : Nat) (x46 : Int) (o : (Unit) ⊕ (Unit)), g10_ref16_Same.l0 K a0 a1 k x46 = some o → WPR Try.prog W A Kf (kid [true, true, false, true, false, false] (bodyAt Try.f10)) (Out2 o .ret (g10_ref16_Same.j0_0 a0 a1) (.exit 0) (g10_ref16_Same.j0_1 a0 a1)) k (g10_ref16_Same.h0 a0 a1 x46)
  | 0, x46, o, h => by cases h
  | k + 1, x46, o, h => by
    refine WPR.round ?_
    let b86 : Bool := (decide (x46 < (a0.Blocks.length : Int)))
    refine StopP.advd tbOk [] 100000 1000 (by kernel_rfl) (by kernel_rfl) (ac_nil) ?_
    refine StopP.cond (b := b86) (by kernel_rfl) (fun hb87 => ?_) (fun hb87 => ?_)
    · have h := cd_t hb87 h
      obtain ⟨hg88, h⟩ := gd_some h
      obtain ⟨hg89, h⟩ := gd_some h
      let b90 : Bool := (!(((a0.Blocks.getD x46.toNat zBlock).End.Kind == (a1.Blocks.getD x46.toNat zBlock).End.Kind) && (((a0.Blocks.getD x46.toNat zBlock).End.Op == (a1.Blocks.getD x46.toNat zBlock).End.Op) && (((a0.Blocks.getD x46.toNat zBlock).End.A == (a1.Blocks.getD x46.toNat zBlock).End.A) && (((a0.Blocks.getD x46.toNat zBlock).End.B == (a1.Blocks.getD x46.toNat zBlock).End.B) && (((a0.Blocks.getD x46.toNat zBlock).End.To == (a1.Blocks.getD x46.toNat zBlock).End.To) && (((a0.Blocks.getD x46.toNat zBlock).End.Else == (a1.Blocks.getD x46.toNat zBlock).End.Else) && (((a0.Blocks.getD x46.toNat zBlock).End.Ins.Op == (a1.Blocks.getD x46.toNat zBlock).End.Ins.Op) && (((a0.Blocks.getD x46.toNat zBlock).End.Ins.A == (a1.Blocks.getD x46.toNat zBlock).End.Ins.A) && (((a0.Blocks.getD x46.toNat zBlock).End.Ins.B == (a1.Blocks.getD x46.toNat zBlock).End.Ins.B) && (((a0.Blocks.getD x46.toNat zBlock).End.Ins.C == (a1.Blocks.getD x46.toNat zBlock).End.Ins.C) && (((a0.Blocks.getD x46.toNat zBlock).End.Ins.Imm == (a1.Blocks.getD x46.toNat zBlock).End.Ins.Imm) && true))))))))))))
      obtain ⟨hg91, h⟩ := gd_some h
      obtain ⟨hg92, h⟩ := gd_some h
      let b93 : Bool := ((((a0.Blocks.getD x46.toNat zBlock).Ops).length : Int) != (((a1.Blocks.getD x46.toNat zBlock).Ops).length : Int))
      let b94 : Bool := (bif b90 then true else b93)
      have q0 := ac_on (!b90) (pt (!b90)) <| ac_on (!b90) (pt (!b90)) <| ac_on (!b90) (pt (!b90)) <| ac_on (!b90) (pt (!b90)) <| ac_on (!b90) (pt (!b90)) <| ac_on (!b90) hg92 <| ac_on (!b90) (pt (!b90)) <| ac_on (!b90) (pt (!b90)) <| ac_on (!b90) (pt (!b90)) <| ac_on (!b90) (pt (!b90)) <| ac_on (!b90) (pt (!b90)) <| ac_y (pn b90) <| ac_nil
      refine StopP.advd tbOk [] 100000 1000 (by kernel_rfl) (by kernel_rfl) (ac_y hg88 <| ac_y hg89 <| ac_on (!b90) (pt (!b90)) <| ac_on (!b90) (pt (!b90)) <| ac_on (!b90) (pt (!b90)) <| ac_on (!b90) hg91 <| ac_on (!b90) (pt (!b90)) <| q0) ?_
      refine StopP.cond (b := b94) (by kernel_rfl) (fun hb95 => ?_) (fun hb95 => ?_)
      · have h := cd_t hb95 h
        refine StopP.advd tbOk [] 100000 1000 (by kernel_rfl) (by kernel_rfl) (ac_nil) ?_
        have h := sm h; subst h
        exact StopP.out .ret (by kernel_rfl) ⟨rfl, [.keep [4] []], by kernel_rfl⟩
      · have h := cd_f hb95 h
        refine StopP.advd tbOk [] 100000 1000 (by kernel_rfl) (by kernel_rfl) (ac_nil) ?_
        obtain ⟨o124, ho124, h⟩ := bd_some h
        cases o124 with
        | inl o124 =>
          refine StopP.lp (by kernel_rfl) [.keep [2, 3, 5, 6] [2, 3]] (s := g10_ref16_Same.h1 a0 a1 x46 (0 : Int)) (by kernel_rfl) (c := (kid [true, true, false, true, false, false, true, false, false, true, true, false, false] (bodyAt Try.f10))) (by kernel_rfl) (e := .ret) (J := g10_ref16_Same.j1_0 a0 a1 x46 o124) K (g10_ref16_Same.l1_ok K a0 a1 x46 K (0 : Int) (.inl o124) ho124) ?_
          have h := sm h; subst h
          exact StopP.out .ret (by kernel_rfl) ⟨rfl, [.keep [4] []], by kernel_rfl⟩
        | inr o124 =>
          refine StopP.lp (by kernel_rfl) [.keep [2, 3, 5, 6] [2, 3]] (s := g10_ref16_Same.h1 a0 a1 x46 (0 : Int)) (by kernel_rfl) (c := (kid [true, true, false, true, false, false, true, false, false, true, true, false, false] (bodyAt Try.f10))) (by kernel_rfl) (e := (.exit 2)) (J := g10_ref16_Same.j1_1 a0 a1 x46 o124) K (g10_ref16_Same.l1_ok K a0 a1 x46 K (0 : Int) (.inr o124) ho124) ?_
          refine StopP.advd tbOk [] 100000 1000 (by kernel_rfl) (by kernel_rfl) (ac_nil) ?_
          refine StopP.out .normal (by kernel_rfl) ?_
          exact WPR.chg [.keep [2, 3, 5] [2, 3]] (by kernel_rfl) (g10_ref16_Same.l0_ok K a0 a1 k (IntKind.i64.wrap (x46 + (1 : Int))) o h)
    · have h := cd_f hb87 h
      refine StopP.advd tbOk [] 100000 1000 (by kernel_rfl) (by kernel_rfl) (ac_nil) ?_
      have h := sm h; subst h
      exact StopP.out (.exit 0) (by kernel_rfl) ⟨rfl, [.keep [] []], by kernel_rfl⟩

def g10_ref16_Same (K : Nat) (a0 : Graph) (a1 : Graph) : Option (Bool) :=
  let b1 : Bool := (!(a0.Name.toList == a1.Name.toList))
  let b2 : Bool := (bif b1 then true else (!(a0.Keep == a1.Keep)))
  let b3 : Bool := (bif b2 then true else (!(a0.Leaf == a1.Leaf)))
  let b4 : Bool := ((a0.Blocks.length : Int) != (a1.Blocks.length : Int))
  let b5 : Bool := (bif b3 then true else b4)
  bif b5 then
    some false
  else
    (g10_ref16_Same.l0 K a0 a1 K (0 : Int)).bind fun o125 =>
    match o125 with
    | .inl o125 =>
      some false
    | .inr o125 =>
      some true

theorem g10_ref16_Same_ok (K : Nat) (a0 : Graph) (a1 : Graph) (r : Bool) (h : g10_ref16_Same K a0 a1 = some r) : AC Try.prog 10 [] [.v true [cs a0.Name, cb a0.Keep, cb a0.Leaf, .t (.ro 12 cBlock zBlock a0.Blocks)], .v true [cs a1.Name, cb a1.Keep, cb a1.Leaf, .t (.ro 12 cBlock zBlock a1.Blocks)]] [] (v1 (cb r)) := by
  refine AC.intro (fn := Try.f10) tbOk (by kernel_rfl) rfl (by kernel_rfl) (fun W A Kf => ?_)
  let b1 : Bool := (!(a0.Name.toList == a1.Name.toList))
  let b2 : Bool := (bif b1 then true else (!(a0.Keep == a1.Keep)))
  let b3 : Bool := (bif b2 then true else (!(a0.Leaf == a1.Leaf)))
  let b4 : Bool := ((a0.Blocks.length : Int) != (a1.Blocks.length : Int))
  let b5 : Bool := (bif b3 then true else b4)
  have q0 := ac_on (!b2) (pt (!b2)) <| ac_on (!b2) (pt (!b2)) <| ac_on (!b2) (pt (!b2)) <| ac_on (!b2) (pt (!b2)) <| ac_y (pn b2) <| ac_on (!b3) (pt (!b3)) <| ac_on (!b3) (pt (!b3)) <| ac_on (!b3) (pt (!b3)) <| ac_on (!b3) (pt (!b3)) <| ac_on (!b3) (pt (!b3)) <| ac_on (!b3) (pt (!b3)) <| ac_y (pn b3) <| ac_nil
  refine StopP.advd tbOk [] 100000 1000 (by kernel_rfl) (by kernel_rfl) (ac_on (!b1) (pt (!b1)) <| ac_on (!b1) (pt (!b1)) <| ac_on (!b1) (pt (!b1)) <| ac_on (!b1) (pt (!b1)) <| ac_y (pn b1) <| q0) ?_
  refine StopP.cond (b := b5) (by kernel_rfl) (fun hb6 => ?_) (fun hb6 => ?_)
  · have h := cd_t hb6 h
    refine StopP.advd tbOk [] 100000 1000 (by kernel_rfl) (by kernel_rfl) (ac_nil) ?_
    have h := sm h; subst h
    refine StopP.out .ret (by kernel_rfl) ?_
    exact ret_box (.inr rfl) [.keep [4] []] (by kernel_rfl) (by kernel_rfl) [] (by kernel_rfl)
  · have h := cd_f hb6 h
    refine StopP.advd tbOk [] 100000 1000 (by kernel_rfl) (by kernel_rfl) (ac_nil) ?_
    obtain ⟨o125, ho125, h⟩ := bd_some h
    cases o125 with
    | inl o125 =>
      refine StopP.lp (by kernel_rfl) [.keep [2, 3, 5] [2, 3]] (s := g10_ref16_Same.h0 a0 a1 (0 : Int)) (by kernel_rfl) (c := (kid [true, true, false, true, false, false] (bodyAt Try.f10))) (by kernel_rfl) (e := .ret) (J := g10_ref16_Same.j0_0 a0 a1 o125) K (g10_ref16_Same.l0_ok K a0 a1 K (0 : Int) (.inl o125) ho125) ?_
      have h := sm h; subst h
      refine StopP.out .ret (by kernel_rfl) ?_
      exact ret_box (.inr rfl) [.keep [4] []] (by kernel_rfl) (by kernel_rfl) [] (by kernel_rfl)
    | inr o125 =>
      refine StopP.lp (by kernel_rfl) [.keep [2, 3, 5] [2, 3]] (s := g10_ref16_Same.h0 a0 a1 (0 : Int)) (by kernel_rfl) (c := (kid [true, true, false, true, false, false] (bodyAt Try.f10))) (by kernel_rfl) (e := (.exit 0)) (J := g10_ref16_Same.j0_1 a0 a1 o125) K (g10_ref16_Same.l0_ok K a0 a1 K (0 : Int) (.inr o125) ho125) ?_
      refine StopP.advd tbOk [] 100000 1000 (by kernel_rfl) (by kernel_rfl) (ac_nil) ?_
      have h := sm h; subst h
      refine StopP.out .ret (by kernel_rfl) ?_
      exact ret_box (.inr rfl) [.keep [4] []] (by kernel_rfl) (by kernel_rfl) [] (by kernel_rfl)

end Go.Proofs.Ytoooalfhjcfinaa.T
