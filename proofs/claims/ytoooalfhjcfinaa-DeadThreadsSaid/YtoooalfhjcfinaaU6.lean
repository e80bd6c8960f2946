import Derived.Test.YtoooalfhjcfinaaU5
namespace Go.Proofs.Ytoooalfhjcfinaa.T
open Go.Abs
set_option linter.unusedVariables false
set_option maxRecDepth 100000
set_option maxHeartbeats 2000000

def g35_live_Before (K : Nat) (a0 : Op') (a1 : Int) : Option (Int) :=
  (g37_flow_Kind K a0.Ins).bind fun r1 =>
  bif (r1 == (4 : Int)) then
    some (65534 : Int)
  else
    (g36_flow_Writes K a0.Ins).bind fun r3 =>
    let b4 : Bool := (decide (r3 > (0 : Int)))
    bif b4 then
      gd (0 ≤ r3) <|
      let i7 : Int := (IntKind.u16.wrap ((1 : Int) * 2 ^ min r3.toNat (IntKind.bits .u16)))
      (g43_flow_Reads K a0.Ins).bind fun r8 =>
      (g42_live_set K r8).bind fun r9 =>
      some (Go.bits .or .u16 (Go.bits .andNot .u16 a1 i7) r9)
    else
      (g43_flow_Reads K a0.Ins).bind fun r10 =>
      (g42_live_set K r10).bind fun r11 =>
      some (Go.bits .or .u16 a1 r11)

theorem g35_live_Before_ok (K : Nat) (a0 : Op') (a1 : Int) (r : Int) (h : g35_live_Before K a0 a1 = some r) : AC Try.prog 35 [] [.v true [ci a0.Ins.Op, ci a0.Ins.A, ci a0.Ins.B, ci a0.Ins.C, ci a0.Ins.Imm, cb a0.Rel, ci a0.Kind, ci a0.To, ci a0.Add], v1 (cu .u16 a1)] [] (v1 (cu .u16 r)) := by
  refine AC.intro (fn := Try.f35) tbOk (by kernel_rfl) rfl (by kernel_rfl) (fun W A Kf => ?_)
  obtain ⟨r1, hc1, h⟩ := bd_some h
  refine StopP.advd tbOk [(1, [(2, .call [] [] (v1 (ci r1)))])] 100000 1000 (by kernel_rfl) (by kernel_rfl) (ac_y (g37_flow_Kind_ok K a0.Ins r1 hc1) <| ac_nil) ?_
  refine StopP.cond (b := (r1 == (4 : Int))) (by kernel_rfl) (fun hb2 => ?_) (fun hb2 => ?_)
  · have h := cd_t hb2 h
    refine StopP.reb [.keep [] []] (st' := .at (kid [true, false, true, false] (bodyAt Try.f35)) [.code (kid [true, true] (bodyAt Try.f35))] ⟨[], [], 25⟩) (by kernel_rfl) (by kernel_rfl) (by kernel_rfl) (by kernel_rfl) rfl ?_
    refine StopP.advd tbOk [] 100000 1000 (by kernel_rfl) (by kernel_rfl) (ac_nil) ?_
    have h := sm h; subst h
    refine StopP.out .ret (by kernel_rfl) ?_
    exact ret_box (.inr rfl) [.keep [4] []] (by kernel_rfl) (by kernel_rfl) [] (by kernel_rfl)
  · have h := cd_f hb2 h
    obtain ⟨r3, hc3, h⟩ := bd_some h
    let b4 : Bool := (decide (r3 > (0 : Int)))
    refine StopP.advd tbOk [(3, [(2, .call [] [] (v1 (ci r3)))])] 100000 1000 (by kernel_rfl) (by kernel_rfl) (ac_y (g36_flow_Writes_ok K a0.Ins r3 hc3) <| ac_nil) ?_
    refine StopP.cond (b := b4) (by kernel_rfl) (fun hb5 => ?_) (fun hb5 => ?_)
    · have h := cd_t hb5 h
      refine StopP.reb [.keep [1, 2, 5] [2]] (st' := .at (kid [true, true, false, true, true, false] (bodyAt Try.f35)) [.code (kid [true, true, true] (bodyAt Try.f35))] ⟨[(1, .yes, v1 (cu .u16 a1)), (2, .yes, v1 (.ptr 2 0 0)), (5, .yes, v1 (ci r3))], [(2, .box 35 [ci a0.Ins.Op, ci a0.Ins.A, ci a0.Ins.B, ci a0.Ins.C, ci a0.Ins.Imm, cb a0.Rel, ci a0.Kind, ci a0.To, ci a0.Add])], 25⟩) (by kernel_rfl) (by kernel_rfl) (by kernel_rfl) (by kernel_rfl) rfl ?_
      obtain ⟨hg6, h⟩ := gd_some h
      let i7 : Int := (IntKind.u16.wrap ((1 : Int) * 2 ^ min r3.toNat (IntKind.bits .u16)))
      obtain ⟨r8, hc8, h⟩ := bd_some h
      obtain ⟨r9, hc9, h⟩ := bd_some h
      refine StopP.advd tbOk [(6, [(3, .call [] [] (v1 (.t (.ro 1 eI 0 r8)))), (4, .call [] [] (v1 (cu .u16 r9)))])] 100000 1000 (by kernel_rfl) (by kernel_rfl) (ac_y hg6 <| ac_y (g43_flow_Reads_fz K a0.Ins r8 hc8) <| ac_y (g42_live_set_ok K r8 r9 hc9) <| ac_nil) ?_
      have h := sm h; subst h
      refine StopP.out .ret (by kernel_rfl) ?_
      exact ret_box (.inr rfl) [.keep [4] []] (by kernel_rfl) (by kernel_rfl) [] (by kernel_rfl)
    · have h := cd_f hb5 h
      obtain ⟨r10, hc10, h⟩ := bd_some h
      obtain ⟨r11, hc11, h⟩ := bd_some h
      refine StopP.advd tbOk [(6, [(3, .call [] [] (v1 (.t (.ro 1 eI 0 r10)))), (4, .call [] [] (v1 (cu .u16 r11)))])] 100000 1000 (by kernel_rfl) (by kernel_rfl) (ac_y (g43_flow_Reads_fz K a0.Ins r10 hc10) <| ac_y (g42_live_set_ok K r10 r11 hc11) <| ac_nil) ?_
      have h := sm h; subst h
      refine StopP.out .ret (by kernel_rfl) ?_
      exact ret_box (.inr rfl) [.keep [4] []] (by kernel_rfl) (by kernel_rfl) [] (by kernel_rfl)

def g33_live_end (K : Nat) (a0 : Term) (a1 : (List Int)) : Option (Int) :=
  bif (a0.Kind == (1 : Int)) then
    gd (0 ≤ a0.To ∧ a0.To < (a1.length : Int)) <|
    some (a1.getD a0.To.toNat 0)
  else
    bif (a0.Kind == (2 : Int)) then
      gd (0 ≤ a0.To ∧ a0.To < (a1.length : Int)) <|
      gd (0 ≤ a0.Else ∧ a0.Else < (a1.length : Int)) <|
      let i6 : Int := (Go.bits .or .u16 (a1.getD a0.To.toNat 0) (a1.getD a0.Else.toNat 0))
      (g43_flow_Reads K (⟨a0.Op, a0.A, a0.B, (0 : Int), (0 : Int)⟩ : Ins)).bind fun r7 =>
      (g42_live_set K r7).bind fun r8 =>
      some (Go.bits .or .u16 i6 r8)
    else
      bif (a0.Kind == (3 : Int)) then
        let b10 : Bool := (a0.Ins.Op != (21 : Int))
        bif b10 then
          (g43_flow_Reads K a0.Ins).bind fun r12 =>
          (g42_live_set K r12).bind fun r13 =>
          some r13
        else
          some (65534 : Int)
      else
        some (65534 : Int)

theorem g33_live_end_ok (K : Nat) (a0 : Term) (a1 : (List Int)) (r : Int) (h : g33_live_end K a0 a1 = some r) : AC Try.prog 33 [] [.v true [ci a0.Kind, ci a0.Op, ci a0.A, ci a0.B, ci a0.To, ci a0.Else, ci a0.Ins.Op, ci a0.Ins.A, ci a0.Ins.B, ci a0.Ins.C, ci a0.Ins.Imm], v1 (.t (.ro 1 eU16 0 a1))] [] (v1 (cu .u16 r)) := by
  refine AC.intro (fn := Try.f33) tbOk (by kernel_rfl) rfl (by kernel_rfl) (fun W A Kf => ?_)
  refine StopP.advd tbOk [] 100000 1000 (by kernel_rfl) (by kernel_rfl) (ac_nil) ?_
  refine StopP.cond (b := (a0.Kind == (1 : Int))) (by kernel_rfl) (fun hb1 => ?_) (fun hb1 => ?_)
  · have h := cd_t hb1 h
    refine StopP.reb [.keep [1, 2] [2]] (st' := .at (kid [true, false, true, false, true, false] (bodyAt Try.f33)) [.blk 0, .code (kid [true, true] (bodyAt Try.f33))] ⟨[(1, .yes, v1 (.t (.ro 1 eU16 0 a1))), (2, .yes, v1 (.ptr 2 0 0))], [(2, .box 37 [ci a0.Kind, ci a0.Op, ci a0.A, ci a0.B, ci a0.To, ci a0.Else, ci a0.Ins.Op, ci a0.Ins.A, ci a0.Ins.B, ci a0.Ins.C, ci a0.Ins.Imm])], 47⟩) (by kernel_rfl) (by kernel_rfl) (by kernel_rfl) (by kernel_rfl) rfl ?_
    obtain ⟨hg2, h⟩ := gd_some h
    refine StopP.advd tbOk [] 100000 1000 (by kernel_rfl) (by kernel_rfl) (ac_y hg2 <| ac_nil) ?_
    have h := sm h; subst h
    refine StopP.out .ret (by kernel_rfl) ?_
    exact ret_box (.inr rfl) [.keep [4] []] (by kernel_rfl) (by kernel_rfl) [] (by kernel_rfl)
  · have h := cd_f hb1 h
    refine StopP.reb [.keep [1, 2, 6] [2]] (st' := .at (kid [true, false, true, false, true, true] (bodyAt Try.f33)) [.blk 0, .code (kid [true, true] (bodyAt Try.f33))] ⟨[(1, .yes, v1 (.t (.ro 1 eU16 0 a1))), (2, .yes, v1 (.ptr 2 0 0)), (6, .yes, v1 (ci a0.Kind))], [(2, .box 37 [ci a0.Kind, ci a0.Op, ci a0.A, ci a0.B, ci a0.To, ci a0.Else, ci a0.Ins.Op, ci a0.Ins.A, ci a0.Ins.B, ci a0.Ins.C, ci a0.Ins.Imm])], 47⟩) (by kernel_rfl) (by kernel_rfl) (by kernel_rfl) (by kernel_rfl) rfl ?_
    refine StopP.advd tbOk [] 100000 1000 (by kernel_rfl) (by kernel_rfl) (ac_nil) ?_
    refine StopP.cond (b := (a0.Kind == (2 : Int))) (by kernel_rfl) (fun hb3 => ?_) (fun hb3 => ?_)
    · have h := cd_t hb3 h
      obtain ⟨hg4, h⟩ := gd_some h
      obtain ⟨hg5, h⟩ := gd_some h
      let i6 : Int := (Go.bits .or .u16 (a1.getD a0.To.toNat 0) (a1.getD a0.Else.toNat 0))
      obtain ⟨r7, hc7, h⟩ := bd_some h
      obtain ⟨r8, hc8, h⟩ := bd_some h
      refine StopP.advd tbOk [(5, [(18, .call [] [] (v1 (.t (.ro 1 eI 0 r7)))), (19, .call [] [] (v1 (cu .u16 r8)))])] 100000 1000 (by kernel_rfl) (by kernel_rfl) (ac_y hg4 <| ac_y hg5 <| ac_y (g43_flow_Reads_fz K (⟨a0.Op, a0.A, a0.B, (0 : Int), (0 : Int)⟩ : Ins) r7 hc7) <| ac_y (g42_live_set_ok K r7 r8 hc8) <| ac_nil) ?_
      have h := sm h; subst h
      refine StopP.out .ret (by kernel_rfl) ?_
      exact ret_box (.inr rfl) [.keep [4] []] (by kernel_rfl) (by kernel_rfl) [] (by kernel_rfl)
    · have h := cd_f hb3 h
      refine StopP.advd tbOk [] 100000 1000 (by kernel_rfl) (by kernel_rfl) (ac_nil) ?_
      refine StopP.cond (b := (a0.Kind == (3 : Int))) (by kernel_rfl) (fun hb9 => ?_) (fun hb9 => ?_)
      · have h := cd_t hb9 h
        let b10 : Bool := (a0.Ins.Op != (21 : Int))
        refine StopP.advd tbOk [] 100000 1000 (by kernel_rfl) (by kernel_rfl) (ac_nil) ?_
        refine StopP.cond (b := b10) (by kernel_rfl) (fun hb11 => ?_) (fun hb11 => ?_)
        · have h := cd_t hb11 h
          obtain ⟨r12, hc12, h⟩ := bd_some h
          obtain ⟨r13, hc13, h⟩ := bd_some h
          refine StopP.advd tbOk [(8, [(2, .call [] [] (v1 (.t (.ro 1 eI 0 r12)))), (3, .call [] [] (v1 (cu .u16 r13)))])] 100000 1000 (by kernel_rfl) (by kernel_rfl) (ac_y (g43_flow_Reads_fz K a0.Ins r12 hc12) <| ac_y (g42_live_set_ok K r12 r13 hc13) <| ac_nil) ?_
          have h := sm h; subst h
          refine StopP.out .ret (by kernel_rfl) ?_
          exact ret_box (.inr rfl) [.keep [4] []] (by kernel_rfl) (by kernel_rfl) [] (by kernel_rfl)
        · have h := cd_f hb11 h
          refine StopP.advd tbOk [] 100000 1000 (by kernel_rfl) (by kernel_rfl) (ac_nil) ?_
          have h := sm h; subst h
          refine StopP.out .ret (by kernel_rfl) ?_
          exact ret_box (.inr rfl) [.keep [4] []] (by kernel_rfl) (by kernel_rfl) [] (by kernel_rfl)
      · have h := cd_f hb9 h
        refine StopP.advd tbOk [] 100000 1000 (by kernel_rfl) (by kernel_rfl) (ac_nil) ?_
        have h := sm h; subst h
        refine StopP.out .ret (by kernel_rfl) ?_
        exact ret_box (.inr rfl) [.keep [4] []] (by kernel_rfl) (by kernel_rfl) [] (by kernel_rfl)

def g44_live_ahead.l0 (K : Nat) (a0 : Block) : Nat → Int → Int → Option (Int)
  | 0, _, _ => none
  | k + 1, x7, x8 =>
    let b13 : Bool := (decide (x8 ≥ (0 : Int)))
    bif b13 then
      gd (0 ≤ x8 ∧ x8 < (a0.Ops.length : Int)) <|
      (g35_live_Before K (a0.Ops.getD x8.toNat zOp) x7).bind fun r16 =>
      g44_live_ahead.l0 K a0 k r16 (IntKind.i64.wrap (x8 - (1 : Int)))
    else
      some x7

def g44_live_ahead.h0 (a0 : Block) (x7 : Int) (x8 : Int) : Abs.St := ⟨[(2, .yes, v1 (.ptr 2 0 0)), (5, .yes, v1 (cu .u16 x7)), (6, .yes, v1 (ci x8))], [(2, .box 39 [.t (.ro 9 cOp zOp a0.Ops), ci a0.End.Kind, ci a0.End.Op, ci a0.End.A, ci a0.End.B, ci a0.End.To, ci a0.End.Else, ci a0.End.Ins.Op, ci a0.End.Ins.A, ci a0.End.Ins.B, ci a0.End.Ins.C, ci a0.End.Ins.Imm])], 27⟩

def g44_live_ahead.j0_0 (a0 : Block) (o : Int) : Abs.St := ⟨[(5, .yes, v1 (cu .u16 o))], [], 27⟩

theorem g44_live_ahead.l0_ok {W : World} {A Kf : Nat → Prop} (K : Nat) (a0 : Block) : ∀ (k : Nat) (x7 : Int) (x8 : Int) (o : Int), g44_live_ahead.l0 K a0 k x7 x8 = some o → WPR Try.prog W A Kf (kid [true, true, false, true, false, false] (bodyAt Try.f44)) (Out (.exit 0) (g44_live_ahead.j0_0 a0 o)) k (g44_live_ahead.h0 a0 x7 x8)
  | 0, x7, x8, o, h => by cases h
  | k + 1, x7, x8, o, h => by
    refine WPR.round ?_
    let b13 : Bool := (decide (x8 ≥ (0 : Int)))
    refine StopP.advd tbOk [] 100000 1000 (by kernel_rfl) (by kernel_rfl) (ac_nil) ?_
    refine StopP.cond (b := b13) (by kernel_rfl) (fun hb14 => ?_) (fun hb14 => ?_)
    · have h := cd_t hb14 h
      obtain ⟨hg15, h⟩ := gd_some h
      obtain ⟨r16, hc16, h⟩ := bd_some h
      refine StopP.advd tbOk [(5, [(6, .call [] [] (v1 (cu .u16 r16)))])] 100000 1000 (by kernel_rfl) (by kernel_rfl) (ac_y hg15 <| ac_y (g35_live_Before_ok K (a0.Ops.getD x8.toNat zOp) x7 r16 hc16) <| ac_nil) ?_
      refine StopP.out .normal (by kernel_rfl) ?_
      exact WPR.chg [.keep [2, 5, 6] [2]] (by kernel_rfl) (g44_live_ahead.l0_ok K a0 k r16 (IntKind.i64.wrap (x8 - (1 : Int))) o h)
    · have h := cd_f hb14 h
      refine StopP.advd tbOk [] 100000 1000 (by kernel_rfl) (by kernel_rfl) (ac_nil) ?_
      have h := sm h; subst h
      exact StopP.out (.exit 0) (by kernel_rfl) ⟨rfl, [.keep [5] []], by kernel_rfl⟩

def g44_live_ahead (K : Nat) (a0 : Block) (a1 : (List Int)) : Option (Int) :=
  (g33_live_end K a0.End a1).bind fun r1 =>
  (g44_live_ahead.l0 K a0 K r1 (IntKind.i64.wrap ((a0.Ops.length : Int) - (1 : Int)))).bind fun o17 =>
  some o17

theorem g44_live_ahead_ok (K : Nat) (a0 : Block) (a1 : (List Int)) (r : Int) (h : g44_live_ahead K a0 a1 = some r) : AC Try.prog 44 [] [.v true [.t (.ro 9 cOp zOp a0.Ops), ci a0.End.Kind, ci a0.End.Op, ci a0.End.A, ci a0.End.B, ci a0.End.To, ci a0.End.Else, ci a0.End.Ins.Op, ci a0.End.Ins.A, ci a0.End.Ins.B, ci a0.End.Ins.C, ci a0.End.Ins.Imm], v1 (.t (.ro 1 eU16 0 a1))] [] (v1 (cu .u16 r)) := by
  refine AC.intro (fn := Try.f44) tbOk (by kernel_rfl) rfl (by kernel_rfl) (fun W A Kf => ?_)
  obtain ⟨r1, hc1, h⟩ := bd_some h
  refine StopP.advd tbOk [(1, [(3, .call [] [] (v1 (cu .u16 r1)))])] 100000 1000 (by kernel_rfl) (by kernel_rfl) (ac_y (g33_live_end_ok K a0.End a1 r1 hc1) <| ac_nil) ?_
  obtain ⟨o17, ho17, h⟩ := bd_some h
  refine StopP.lp (by kernel_rfl) [.keep [2, 5, 6] [2]] (s := g44_live_ahead.h0 a0 r1 (IntKind.i64.wrap ((a0.Ops.length : Int) - (1 : Int)))) (by kernel_rfl) (c := (kid [true, true, false, true, false, false] (bodyAt Try.f44))) (by kernel_rfl) (e := (.exit 0)) (J := g44_live_ahead.j0_0 a0 o17) K (g44_live_ahead.l0_ok K a0 K r1 (IntKind.i64.wrap ((a0.Ops.length : Int) - (1 : Int))) o17 ho17) ?_
  refine StopP.advd tbOk [] 100000 1000 (by kernel_rfl) (by kernel_rfl) (ac_nil) ?_
  have h := sm h; subst h
  refine StopP.out .ret (by kernel_rfl) ?_
  exact ret_box (.inr rfl) [.keep [4] []] (by kernel_rfl) (by kernel_rfl) [] (by kernel_rfl)

def g34_live_In.l1 (K : Nat) (a0 : Graph) : Nat → (List Int) → Bool → Int → Option (Bool × (List Int))
  | 0, _, _, _ => none
  | k + 1, x80, x81, x82 =>
    let b91 : Bool := (decide (x82 ≥ (0 : Int)))
    bif b91 then
      gd (0 ≤ x82 ∧ x82 < (a0.Blocks.length : Int)) <|
      (g44_live_ahead K (a0.Blocks.getD x82.toNat zBlock) x80).bind fun r94 =>
      gd (0 ≤ x82 ∧ x82 < (x80.length : Int)) <|
      let b96 : Bool := (r94 != (x80.getD x82.toNat 0))
      bif b96 then
        gd (0 ≤ x82 ∧ x82 < (x80.length : Int)) <|
        g34_live_In.l1 K a0 k (x80.set x82.toNat r94) true (IntKind.i64.wrap (x82 - (1 : Int)))
      else
        g34_live_In.l1 K a0 k x80 x81 (IntKind.i64.wrap (x82 - (1 : Int)))
    else
      some (x81, x80)

def g34_live_In.h1 (a0 : Graph) (x80 : (List Int)) (x81 : Bool) (x82 : Int) : Abs.St := ⟨[(1, .yes, v1 (.ptr 1 0 0)), (3, .yes, v1 (.own 10)), (4, .yes, v1 (cb x81)), (5, .yes, v1 (ci x82))], [(1, .box 24 [cs a0.Name, cb a0.Keep, cb a0.Leaf, .t (.ro 12 cBlock zBlock a0.Blocks)]), (10, .rows 50 1 eU16 0 x80)], 37⟩

def g34_live_In.j1_0 (a0 : Graph) (o : Bool × (List Int)) : Abs.St := ⟨[(1, .yes, v1 (.ptr 1 0 0)), (3, .yes, v1 (.own 10)), (4, .yes, v1 (cb o.1))], [(1, .box 24 [cs a0.Name, cb a0.Keep, cb a0.Leaf, .t (.ro 12 cBlock zBlock a0.Blocks)]), (10, .rows 50 1 eU16 0 o.2)], 37⟩

theorem g34_live_In.l1_ok {W : World} {A Kf : Nat → Prop} (K : Nat) (a0 : Graph) : ∀ (k : Nat) (x80 : (List Int)) (x81 : Bool) (x82 : Int) (o : Bool × (List Int)), g34_live_In.l1 K a0 k x80 x81 x82 = some o → WPR Try.prog W A Kf (kid [true, true, false, true, false, false, true, false, true, true, false, false] (bodyAt Try.f34)) (Out (.exit 2) (g34_live_In.j1_0 a0 o)) k (g34_live_In.h1 a0 x80 x81 x82)
  | 0, x80, x81, x82, o, h => by cases h
  | k + 1, x80, x81, x82, o, h => by
    refine WPR.round ?_
    let b91 : Bool := (decide (x82 ≥ (0 : Int)))
    refine StopP.advd tbOk [] 100000 1000 (by kernel_rfl) (by kernel_rfl) (ac_nil) ?_
    refine StopP.cond (b := b91) (by kernel_rfl) (fun hb92 => ?_) (fun hb92 => ?_)
    · have h := cd_t hb92 h
      obtain ⟨hg93, h⟩ := gd_some h
      obtain ⟨r94, hc94, h⟩ := bd_some h
      obtain ⟨hg95, h⟩ := gd_some h
      let b96 : Bool := (r94 != (x80.getD x82.toNat 0))
      refine StopP.advd tbOk [(8, [(6, .call [] [] (v1 (cu .u16 r94)))])] 100000 1000 (by kernel_rfl) (by kernel_rfl) (ac_y hg93 <| ac_y (g44_live_ahead_ok K (a0.Blocks.getD x82.toNat zBlock) x80 r94 hc94) <| ac_c (show Plain [] (v1 (cu .u16 r94)) from ⟨rfl, fun _ h => by cases h⟩) <| ac_y hg95 <| ac_y (tn hg95) <| ac_nil) ?_
      refine StopP.cond (b := b96) (by kernel_rfl) (fun hb97 => ?_) (fun hb97 => ?_)
      · have h := cd_t hb97 h
        obtain ⟨hg98, h⟩ := gd_some h
        refine StopP.advd tbOk [(10, [(4, .obj (.rows 50 1 eU16 0 (x80.set x82.toNat r94)))])] 100000 1000 (by kernel_rfl) (by kernel_rfl) (ac_y hg98 <| ac_c (Stored.mk (ty := 50) (es := 1) (enc := eU16) (z := 0) (xs := x80) (i := x82.toNat) (j := 0) (n := 1) r94 (tn hg98) (by decide) rfl rfl rfl) <| ac_nil) ?_
        refine StopP.out .normal (by kernel_rfl) ?_
        exact WPR.chg [.keep [1, 3, 4, 5] [1, 10]] (by kernel_rfl) (g34_live_In.l1_ok K a0 k (x80.set x82.toNat r94) true (IntKind.i64.wrap (x82 - (1 : Int))) o h)
      · have h := cd_f hb97 h
        refine StopP.advd tbOk [] 100000 1000 (by kernel_rfl) (by kernel_rfl) (ac_nil) ?_
        refine StopP.out .normal (by kernel_rfl) ?_
        exact WPR.chg [.keep [1, 3, 4, 5] [1, 10]] (by kernel_rfl) (g34_live_In.l1_ok K a0 k x80 x81 (IntKind.i64.wrap (x82 - (1 : Int))) o h)
    · have h := cd_f hb92 h
      refine StopP.advd tbOk [] 100000 1000 (by kernel_rfl) (by kernel_rfl) (ac_nil) ?_
      have h := sm h; subst h
      exact StopP.out (.exit 2) (by kernel_rfl) ⟨rfl, [.keep [1, 3, 4] [1, 10]], by kernel_rfl⟩

def g34_live_In.l0 (K : Nat) (a0 : Graph) : Nat → (List Int) → Bool → Option ((List Int))
  | 0, _, _ => none
  | k + 1, x34, x35 =>
    bif x35 then
      (g34_live_In.l1 K a0 K x34 false (IntKind.i64.wrap ((x34.length : Int) - (1 : Int)))).bind fun o99 =>
      g34_live_In.l0 K a0 k o99.2 o99.1
    else
      some x34

def g34_live_In.h0 (a0 : Graph) (x34 : (List Int)) (x35 : Bool) : Abs.St := ⟨[(1, .yes, v1 (.ptr 1 0 0)), (3, .yes, v1 (.own 10)), (4, .yes, v1 (cb x35))], [(1, .box 24 [cs a0.Name, cb a0.Keep, cb a0.Leaf, .t (.ro 12 cBlock zBlock a0.Blocks)]), (10, .rows 50 1 eU16 0 x34)], 37⟩

def g34_live_In.j0_0 (a0 : Graph) (o : (List Int)) : Abs.St := ⟨[(3, .yes, v1 (.own 10))], [(10, .rows 50 1 eU16 0 o)], 37⟩

theorem g34_live_In.l0_ok {W : World} {A Kf : Nat → Prop} (K : Nat) (a0 : Graph) : ∀ (k : Nat) (x34 : (List Int)) (x35 : Bool) (o : (List Int)), g34_live_In.l0 K a0 k x34 x35 = some o → WPR Try.prog W A Kf (kid [true, true, false, true, false, false] (bodyAt Try.f34)) (Out (.exit 0) (g34_live_In.j0_0 a0 o)) k (g34_live_In.h0 a0 x34 x35)
  | 0, x34, x35, o, h => by cases h
  | k + 1, x34, x35, o, h => by
    refine WPR.round ?_
    refine StopP.advd tbOk [] 100000 1000 (by kernel_rfl) (by kernel_rfl) (ac_nil) ?_
    refine StopP.cond (b := x35) (by kernel_rfl) (fun hb68 => ?_) (fun hb68 => ?_)
    · have h := cd_t hb68 h
      refine StopP.advd tbOk [] 100000 1000 (by kernel_rfl) (by kernel_rfl) (ac_nil) ?_
      obtain ⟨o99, ho99, h⟩ := bd_some h
      refine StopP.lp (by kernel_rfl) [.keep [1, 3, 4, 5] [1, 10]] (s := g34_live_In.h1 a0 x34 false (IntKind.i64.wrap ((x34.length : Int) - (1 : Int)))) (by kernel_rfl) (c := (kid [true, true, false, true, false, false, true, false, true, true, false, false] (bodyAt Try.f34))) (by kernel_rfl) (e := (.exit 2)) (J := g34_live_In.j1_0 a0 o99) K (g34_live_In.l1_ok K a0 K x34 false (IntKind.i64.wrap ((x34.length : Int) - (1 : Int))) o99 ho99) ?_
      refine StopP.out .normal (by kernel_rfl) ?_
      exact WPR.chg [.keep [1, 3, 4] [1, 10]] (by kernel_rfl) (g34_live_In.l0_ok K a0 k o99.2 o99.1 o h)
    · have h := cd_f hb68 h
      refine StopP.advd tbOk [] 100000 1000 (by kernel_rfl) (by kernel_rfl) (ac_nil) ?_
      have h := sm h; subst h
      exact StopP.out (.exit 0) (by kernel_rfl) ⟨rfl, [.keep [3] [10]], by kernel_rfl⟩

def g34_live_In (K : Nat) (a0 : Graph) : Option ((List Int)) :=
  gd (0 ≤ (a0.Blocks.length : Int) ∧ (a0.Blocks.length : Int).toNat ≤ 1073741824) <|
  (g34_live_In.l0 K a0 K (List.replicate (a0.Blocks.length : Int).toNat 0) true).bind fun o100 =>
  some o100

theorem g34_live_In_ok (K : Nat) (a0 : Graph) (r : (List Int)) (h : g34_live_In K a0 = some r) : AC Try.prog 34 [] [.v true [cs a0.Name, cb a0.Keep, cb a0.Leaf, .t (.ro 12 cBlock zBlock a0.Blocks)]] [(7000, .rows 50 1 eU16 0 r)] (v1 (.own 7000)) := by
  refine AC.intro (fn := Try.f34) tbOk (by kernel_rfl) rfl (by kernel_rfl) (fun W A Kf => ?_)
  obtain ⟨hg1, h⟩ := gd_some h
  refine StopP.advd tbOk [(1, [(3, .obj (.rows 50 1 eU16 0 (List.replicate (a0.Blocks.length : Int).toNat 0)))])] 100000 1000 (by kernel_rfl) (by kernel_rfl) (ac_c (rfl : (a0.Blocks.length : Int) = (a0.Blocks.length : Int)) <| ac_c (Made.mk (ty := 50) (es := 1) (by_ := 2) (enc := eU16) (z := 0) (n := (a0.Blocks.length : Int)) hg1.1 rfl (sl hg1.2) (sb2 hg1.2 (by decide))) <| ac_nil) ?_
  obtain ⟨o100, ho100, h⟩ := bd_some h
  refine StopP.lp (by kernel_rfl) [.keep [1, 3, 4] [1, 10]] (s := g34_live_In.h0 a0 (List.replicate (a0.Blocks.length : Int).toNat 0) true) (by kernel_rfl) (c := (kid [true, true, false, true, false, false] (bodyAt Try.f34))) (by kernel_rfl) (e := (.exit 0)) (J := g34_live_In.j0_0 a0 o100) K (g34_live_In.l0_ok K a0 K (List.replicate (a0.Blocks.length : Int).toNat 0) true o100 ho100) ?_
  refine StopP.advd tbOk [] 100000 1000 (by kernel_rfl) (by kernel_rfl) (ac_nil) ?_
  have h := sm h; subst h
  refine StopP.out .ret (by kernel_rfl) ?_
  exact ret_box (.inr rfl) [.keep [2] [10], .ren [(10, 7000)]] (by kernel_rfl) (by kernel_rfl) [7000] (by kernel_rfl)

theorem g34_live_In_fz (K : Nat) (a0 : Graph) (r : (List Int)) (h : g34_live_In K a0 = some r) : AC Try.prog 34 [] [.v true [cs a0.Name, cb a0.Keep, cb a0.Leaf, .t (.ro 12 cBlock zBlock a0.Blocks)]] [] (v1 (.t (.ro 1 eU16 0 r))) :=
  AC.cast (AC.fz (g34_live_In_ok K a0 r h) 7000 (o := .rows 50 1 eU16 0 r) (t := .ro 1 eU16 0 r) (by kernel_rfl) (by kernel_rfl)) (by kernel_rfl) (by kernel_rfl)

def g27_live_After.l0 (K : Nat) (a0 : Graph) (a1 : Int) : Nat → (List Int) → Int → Int → Option ((List Int))
  | 0, _, _, _ => none
  | k + 1, x13, x14, x15 =>
    let b21 : Bool := (decide (x15 ≥ (0 : Int)))
    bif b21 then
      gd (0 ≤ x15 ∧ x15 < (x13.length : Int)) <|
      gd (0 ≤ x15 ∧ x15 < (((a0.Blocks.getD a1.toNat zBlock).Ops).length : Int)) <|
      (g35_live_Before K (((a0.Blocks.getD a1.toNat zBlock).Ops).getD x15.toNat zOp) x14).bind fun r25 =>
      g27_live_After.l0 K a0 a1 k (x13.set x15.toNat x14) r25 (IntKind.i64.wrap (x15 - (1 : Int)))
    else
      some x13

def g27_live_After.h0 (a0 : Graph) (a1 : Int) (x13 : (List Int)) (x14 : Int) (x15 : Int) : Abs.St := ⟨[(5, .yes, v1 (.t (.ro 9 cOp zOp ((a0.Blocks.getD a1.toNat zBlock).Ops)))), (6, .yes, v1 (.own 17)), (7, .yes, v1 (cu .u16 x14)), (8, .yes, v1 (ci x15))], [(17, .rows 50 1 eU16 0 x13)], 45⟩

def g27_live_After.j0_0 (a0 : Graph) (a1 : Int) (o : (List Int)) : Abs.St := ⟨[(6, .yes, v1 (.own 17))], [(17, .rows 50 1 eU16 0 o)], 45⟩

theorem g27_live_After.l0_ok {W : World} {A Kf : Nat → Prop} (K : Nat) (a0 : Graph) (a1 : Int) : ∀ (k : Nat) (x13 : (List Int)) (x14 : Int) (x15 : Int) (o : (List Int)), g27_live_After.l0 K a0 a1 k x13 x14 x15 = some o → WPR Try.prog W A Kf (kid [true, true, true, true, false, true, false, false] (bodyAt Try.f27)) (Out (.exit 0) (g27_live_After.j0_0 a0 a1 o)) k (g27_live_After.h0 a0 a1 x13 x14 x15)
  | 0, x13, x14, x15, o, h => by cases h
  | k + 1, x13, x14, x15, o, h => by
    refine WPR.round ?_
    let b21 : Bool := (decide (x15 ≥ (0 : Int)))
    refine StopP.advd tbOk [] 100000 1000 (by kernel_rfl) (by kernel_rfl) (ac_nil) ?_
    refine StopP.cond (b := b21) (by kernel_rfl) (fun hb22 => ?_) (fun hb22 => ?_)
    · have h := cd_t hb22 h
      obtain ⟨hg23, h⟩ := gd_some h
      obtain ⟨hg24, h⟩ := gd_some h
      obtain ⟨r25, hc25, h⟩ := bd_some h
      refine StopP.advd tbOk [(7, [(4, .obj (.rows 50 1 eU16 0 (x13.set x15.toNat x14)))]), (8, [(5, .call [] [] (v1 (cu .u16 r25)))])] 100000 1000 (by kernel_rfl) (by kernel_rfl) (ac_y hg23 <| ac_c (Stored.mk (ty := 50) (es := 1) (enc := eU16) (z := 0) (xs := x13) (i := x15.toNat) (j := 0) (n := 1) x14 (tn hg23) (by decide) rfl rfl rfl) <| ac_y hg24 <| ac_y (g35_live_Before_ok K (((a0.Blocks.getD a1.toNat zBlock).Ops).getD x15.toNat zOp) x14 r25 hc25) <| ac_nil) ?_
      refine StopP.out .normal (by kernel_rfl) ?_
      exact WPR.chg [.keep [5, 6, 7, 8] [17]] (by kernel_rfl) (g27_live_After.l0_ok K a0 a1 k (x13.set x15.toNat x14) r25 (IntKind.i64.wrap (x15 - (1 : Int))) o h)
    · have h := cd_f hb22 h
      refine StopP.advd tbOk [] 100000 1000 (by kernel_rfl) (by kernel_rfl) (ac_nil) ?_
      have h := sm h; subst h
      exact StopP.out (.exit 0) (by kernel_rfl) ⟨rfl, [.keep [6] [17]], by kernel_rfl⟩

def g27_live_After (K : Nat) (a0 : Graph) (a1 : Int) : Option ((List Int)) :=
  gd (0 ≤ a1 ∧ a1 < (a0.Blocks.length : Int)) <|
  gd (0 ≤ (((a0.Blocks.getD a1.toNat zBlock).Ops).length : Int) ∧ (((a0.Blocks.getD a1.toNat zBlock).Ops).length : Int).toNat ≤ 1073741824) <|
  let y3 : List Int := (List.replicate (((a0.Blocks.getD a1.toNat zBlock).Ops).length : Int).toNat 0)
  gd (0 ≤ a1 ∧ a1 < (a0.Blocks.length : Int)) <|
  (g34_live_In K a0).bind fun r5 =>
  (g33_live_end K ((a0.Blocks.getD a1.toNat zBlock).End) r5).bind fun r6 =>
  let i7 : Int := (IntKind.i64.wrap ((((a0.Blocks.getD a1.toNat zBlock).Ops).length : Int) - (1 : Int)))
  (g27_live_After.l0 K a0 a1 K y3 r6 i7).bind fun o26 =>
  some o26

theorem g27_live_After_ok (K : Nat) (a0 : Graph) (a1 : Int) (r : (List Int)) (h : g27_live_After K a0 a1 = some r) : AC Try.prog 27 [] [.v true [cs a0.Name, cb a0.Keep, cb a0.Leaf, .t (.ro 12 cBlock zBlock a0.Blocks)], v1 (ci a1)] [(7000, .rows 50 1 eU16 0 r)] (v1 (.own 7000)) := by
  refine AC.intro (fn := Try.f27) tbOk (by kernel_rfl) rfl (by kernel_rfl) (fun W A Kf => ?_)
  obtain ⟨hg1, h⟩ := gd_some h
  obtain ⟨hg2, h⟩ := gd_some h
  let y3 : List Int := (List.replicate (((a0.Blocks.getD a1.toNat zBlock).Ops).length : Int).toNat 0)
  obtain ⟨hg4, h⟩ := gd_some h
  obtain ⟨r5, hc5, h⟩ := bd_some h
  obtain ⟨r6, hc6, h⟩ := bd_some h
  let i7 : Int := (IntKind.i64.wrap ((((a0.Blocks.getD a1.toNat zBlock).Ops).length : Int) - (1 : Int)))
  refine StopP.advd tbOk [(2, [(2, .obj (.rows 50 1 eU16 0 (List.replicate (((a0.Blocks.getD a1.toNat zBlock).Ops).length : Int).toNat 0)))]), (3, [(7, .call [] [] (v1 (.t (.ro 1 eU16 0 r5)))), (8, .call [] [] (v1 (cu .u16 r6)))])] 100000 1000 (by kernel_rfl) (by kernel_rfl) (ac_y hg1 <| ac_c (rfl : (((a0.Blocks.getD a1.toNat zBlock).Ops).length : Int) = (((a0.Blocks.getD a1.toNat zBlock).Ops).length : Int)) <| ac_c (Made.mk (ty := 50) (es := 1) (by_ := 2) (enc := eU16) (z := 0) (n := (((a0.Blocks.getD a1.toNat zBlock).Ops).length : Int)) hg2.1 rfl (sl hg2.2) (sb2 hg2.2 (by decide))) <| ac_y hg4 <| ac_y (g34_live_In_fz K a0 r5 hc5) <| ac_y (g33_live_end_ok K ((a0.Blocks.getD a1.toNat zBlock).End) r5 r6 hc6) <| ac_nil) ?_
  obtain ⟨o26, ho26, h⟩ := bd_some h
  refine StopP.lp (by kernel_rfl) [.keep [5, 6, 7, 8] [17]] (s := g27_live_After.h0 a0 a1 y3 r6 i7) (by kernel_rfl) (c := (kid [true, true, true, true, false, true, false, false] (bodyAt Try.f27))) (by kernel_rfl) (e := (.exit 0)) (J := g27_live_After.j0_0 a0 a1 o26) K (g27_live_After.l0_ok K a0 a1 K y3 r6 i7 o26 ho26) ?_
  refine StopP.advd tbOk [] 100000 1000 (by kernel_rfl) (by kernel_rfl) (ac_nil) ?_
  have h := sm h; subst h
  refine StopP.out .ret (by kernel_rfl) ?_
  exact ret_box (.inr rfl) [.keep [4] [17], .ren [(17, 7000)]] (by kernel_rfl) (by kernel_rfl) [7000] (by kernel_rfl)

theorem g27_live_After_fz (K : Nat) (a0 : Graph) (a1 : Int) (r : (List Int)) (h : g27_live_After K a0 a1 = some r) : AC Try.prog 27 [] [.v true [cs a0.Name, cb a0.Keep, cb a0.Leaf, .t (.ro 12 cBlock zBlock a0.Blocks)], v1 (ci a1)] [] (v1 (.t (.ro 1 eU16 0 r))) :=
  AC.cast (AC.fz (g27_live_After_ok K a0 a1 r h) 7000 (o := .rows 50 1 eU16 0 r) (t := .ro 1 eU16 0 r) (by kernel_rfl) (by kernel_rfl)) (by kernel_rfl) (by kernel_rfl)

def g15_dead_Sweep.l2 (K : Nat) (r1 : Graph) (x145 : ByteArray) (x146 : (List Block)) (x338 : (List Block)) (x339 : Bool) (x340 : Int) (r389 : (List Int)) : Nat → (List Op') → Int → Option ((List Op'))
  | 0, _, _ => none
  | k + 1, x409, x410 =>
    let b419 : Bool := (decide (x410 < (((x338.getD x340.toNat zBlock).Ops).length : Int)))
    bif b419 then
      gd (0 ≤ x410 ∧ x410 < (((x338.getD x340.toNat zBlock).Ops).length : Int)) <|
      gd (0 ≤ x410 ∧ x410 < (r389.length : Int)) <|
      (g28_dead_idle K (((x338.getD x340.toNat zBlock).Ops).getD x410.toNat zOp) (r389.getD x410.toNat 0)).bind fun r423 =>
      bif (!r423) then
        let y425 : List Op' := ([(((x338.getD x340.toNat zBlock).Ops).getD x410.toNat zOp)] : List Op')
        gd (x409.length + y425.length ≤ 1073741824) <|
        g15_dead_Sweep.l2 K r1 x145 x146 x338 x339 x340 r389 k (x409 ++ y425) (IntKind.i64.wrap (x410 + (1 : Int)))
      else
        g15_dead_Sweep.l2 K r1 x145 x146 x338 x339 x340 r389 k x409 (IntKind.i64.wrap (x410 + (1 : Int)))
    else
      some x409

def g15_dead_Sweep.h2 (r1 : Graph) (x145 : ByteArray) (x146 : (List Block)) (x338 : (List Block)) (x339 : Bool) (x340 : Int) (r389 : (List Int)) (x409 : (List Op')) (x410 : Int) : Abs.St := ⟨[(2, .yes, v1 (.ptr 2 0 0)), (3, .yes, v1 (.ptr 3 0 0)), (4, .yes, v1 (cb x339)), (5, .yes, v1 (ci x340)), (6, .yes, v1 (.own 20210)), (7, .yes, v1 (.own 5100)), (15, .yes, v1 (ci (x146.length : Int))), (16, .yes, v1 (ci x340)), (27, .yes, v1 (.t (.ro 9 cOp zOp ((x338.getD x340.toNat zBlock).Ops)))), (28, .yes, v1 (ci (((x338.getD x340.toNat zBlock).Ops).length : Int))), (29, .yes, v1 (ci x410))], [(2, .box 24 [cs x145, cb false, cb false, .t (.ro 12 cBlock zBlock ([]))]), (3, .box 24 [cs r1.Name, cb r1.Keep, cb r1.Leaf, .own 20110]), (5100, .rows 35 9 cOp zOp x409), (20110, .rows 39 12 cBlock zBlock x338), (20210, .rows 50 1 eU16 0 r389)], 62⟩

def g15_dead_Sweep.j2_0 (r1 : Graph) (x145 : ByteArray) (x146 : (List Block)) (x338 : (List Block)) (x339 : Bool) (x340 : Int) (r389 : (List Int)) (o : (List Op')) : Abs.St := ⟨[(2, .yes, v1 (.ptr 2 0 0)), (3, .yes, v1 (.ptr 3 0 0)), (4, .yes, v1 (cb x339)), (5, .yes, v1 (ci x340)), (6, .yes, v1 (.own 20210)), (7, .yes, v1 (.own 5100)), (15, .yes, v1 (ci (x146.length : Int))), (16, .yes, v1 (ci x340))], [(2, .box 24 [cs x145, cb false, cb false, .t (.ro 12 cBlock zBlock ([]))]), (3, .box 24 [cs r1.Name, cb r1.Keep, cb r1.Leaf, .own 20110]), (5100, .rows 35 9 cOp zOp o), (20110, .rows 39 12 cBlock zBlock x338), (20210, .rows 50 1 eU16 0 r389)], 62⟩

theorem g15_dead_Sweep.l2_ok {W : World} {A Kf : Nat → Prop} (K : Nat) (r1 : Graph) (x145 : ByteArray) (x146 : (List Block)) (x338 : (List Block)) (x339 : Bool) (x340 : Int) (r389 : (List Int)) : ∀ (k : Nat) (x409 : (List Op')) (x410 : Int) (o : (List Op')), g15_dead_Sweep.l2 K r1 x145 x146 x338 x339 x340 r389 k x409 x410 = some o → WPR Try.prog W A Kf (kid [true, true, false, true, false, false, true, false, true, true, false, false, true, true, false, false, true, true, true, false, true, false, false] (bodyAt Try.f15)) (Out (.exit 4) (g15_dead_Sweep.j2_0 r1 x145 x146 x338 x339 x340 r389 o)) k (g15_dead_Sweep.h2 r1 x145 x146 x338 x339 x340 r389 x409 x410)
  | 0, x409, x410, o, h => by cases h
  | k + 1, x409, x410, o, h => by
    refine WPR.round ?_
    let b419 : Bool := (decide (x410 < (((x338.getD x340.toNat zBlock).Ops).length : Int)))
    refine StopP.advd tbOk [] 100000 1000 (by kernel_rfl) (by kernel_rfl) (ac_nil) ?_
    refine StopP.cond (b := b419) (by kernel_rfl) (fun hb420 => ?_) (fun hb420 => ?_)
    · have h := cd_t hb420 h
      obtain ⟨hg421, h⟩ := gd_some h
      obtain ⟨hg422, h⟩ := gd_some h
      obtain ⟨r423, hc423, h⟩ := bd_some h
      refine StopP.advd tbOk [(13, [(5, .call [] [] (v1 (cb r423)))])] 100000 1000 (by kernel_rfl) (by kernel_rfl) (ac_y hg421 <| ac_y hg422 <| ac_y (tn hg422) <| ac_y (g28_dead_idle_ok K (((x338.getD x340.toNat zBlock).Ops).getD x410.toNat zOp) (r389.getD x410.toNat 0) r423 hc423) <| ac_nil) ?_
      refine StopP.cond (b := (!r423)) (by kernel_rfl) (fun hb424 => ?_) (fun hb424 => ?_)
      · have h := cd_t hb424 h
        let y425 : List Op' := ([(((x338.getD x340.toNat zBlock).Ops).getD x410.toNat zOp)] : List Op')
        obtain ⟨hg426, h⟩ := gd_some h
        refine StopP.advd tbOk [(14, [(2, .obj (.rows 35 9 cOp zOp ([(((x338.getD x340.toNat zBlock).Ops).getD x410.toNat zOp)] : List Op'))), (3, .obj (.rows 35 9 cOp zOp (x409 ++ y425)))])] 100000 1000 (by kernel_rfl) (by kernel_rfl) (ac_c (Built.mk (ty := 35) (es := 9) (enc := cOp) (z := zOp) (xs := ([(((x338.getD x340.toNat zBlock).Ops).getD x410.toNat zOp)] : List Op')) (fun _ _ => rfl) (by decide : (1 * 9 : Nat) ≤ 16777216)) <| ac_c (Appended.mk (ty := 35) (es := 9) (by_ := 72) (enc := cOp) (z := zOp) (z' := zOp) (xs := x409) (ys := y425) (fun _ _ => rfl) (sl hg426) (sb hg426 (by decide))) <| ac_nil) ?_
        refine StopP.out .normal (by kernel_rfl) ?_
        exact WPR.chg [.keep [2, 3, 4, 5, 6, 7, 15, 16, 27, 28, 29] [2, 3, 44, 20110, 20210], .ren [(44, 5100)]] (by kernel_rfl) (g15_dead_Sweep.l2_ok K r1 x145 x146 x338 x339 x340 r389 k (x409 ++ y425) (IntKind.i64.wrap (x410 + (1 : Int))) o h)
      · have h := cd_f hb424 h
        refine StopP.advd tbOk [] 100000 1000 (by kernel_rfl) (by kernel_rfl) (ac_nil) ?_
        refine StopP.out .normal (by kernel_rfl) ?_
        exact WPR.chg [.keep [2, 3, 4, 5, 6, 7, 15, 16, 27, 28, 29] [2, 3, 5100, 20110, 20210]] (by kernel_rfl) (g15_dead_Sweep.l2_ok K r1 x145 x146 x338 x339 x340 r389 k x409 (IntKind.i64.wrap (x410 + (1 : Int))) o h)
    · have h := cd_f hb420 h
      refine StopP.advd tbOk [] 100000 1000 (by kernel_rfl) (by kernel_rfl) (ac_nil) ?_
      have h := sm h; subst h
      exact StopP.out (.exit 4) (by kernel_rfl) ⟨rfl, [.keep [2, 3, 4, 5, 6, 7, 15, 16] [2, 3, 5100, 20110, 20210]], by kernel_rfl⟩

def g15_dead_Sweep.l1 (K : Nat) (r1 : Graph) (x145 : ByteArray) (x146 : (List Block)) : Nat → (List Block) → Bool → Int → Option (Bool × (List Block))
  | 0, _, _, _ => none
  | k + 1, x338, x339, x340 =>
    let b387 : Bool := (decide (x340 < (x146.length : Int)))
    bif b387 then
      (g27_live_After K (⟨r1.Name, r1.Keep, r1.Leaf, x338⟩ : Graph) x340).bind fun r389 =>
      gd (0 ≤ x340 ∧ x340 < (x338.length : Int)) <|
      (g15_dead_Sweep.l2 K r1 x145 x146 x338 x339 x340 r389 K ([]) (0 : Int)).bind fun o427 =>
      let b428 : Bool := (decide ((o427.length : Int) < (r389.length : Int)))
      let b429 : Bool := (bif x339 then true else b428)
      gd (0 ≤ x340 ∧ x340 < (x338.length : Int)) <|
      let y432 : List Block := (x338.set x340.toNat (⟨o427, (x338.getD x340.toNat zBlock).End⟩ : Block))
      g15_dead_Sweep.l1 K r1 x145 x146 k y432 b429 (IntKind.i64.wrap (x340 + (1 : Int)))
    else
      some (x339, x338)

def g15_dead_Sweep.h1 (r1 : Graph) (x145 : ByteArray) (x146 : (List Block)) (x338 : (List Block)) (x339 : Bool) (x340 : Int) : Abs.St := ⟨[(2, .yes, v1 (.ptr 2 0 0)), (3, .yes, v1 (.ptr 3 0 0)), (4, .yes, v1 (cb x339)), (15, .yes, v1 (ci (x146.length : Int))), (16, .yes, v1 (ci x340))], [(2, .box 24 [cs x145, cb false, cb false, .t (.ro 12 cBlock zBlock ([]))]), (3, .box 24 [cs r1.Name, cb r1.Keep, cb r1.Leaf, .own 20110]), (20110, .rows 39 12 cBlock zBlock x338)], 62⟩

def g15_dead_Sweep.j1_0 (r1 : Graph) (x145 : ByteArray) (x146 : (List Block)) (o : Bool × (List Block)) : Abs.St := ⟨[(2, .yes, v1 (.ptr 2 0 0)), (3, .yes, v1 (.ptr 3 0 0)), (4, .yes, v1 (cb o.1))], [(2, .box 24 [cs x145, cb false, cb false, .t (.ro 12 cBlock zBlock ([]))]), (3, .box 24 [cs r1.Name, cb r1.Keep, cb r1.Leaf, .own 20110]), (20110, .rows 39 12 cBlock zBlock o.2)], 62⟩

theorem g15_dead_Sweep.l1_ok {W : World} {A Kf : Nat → Prop} (K : Nat) (r1 : Graph) (x145 : ByteArray) (x146 : (List Block)) : ∀ (k : Nat) (x338 : (List Block)) (x339 : Bool) (x340 : Int) (o : Bool × (List Block)), g15_dead_Sweep.l1 K r1 x145 x146 k x338 x339 x340 = some o → WPR Try.prog W A Kf (kid [true, true, false, true, false, false, true, false, true, true, false, false] (bodyAt Try.f15)) (Out (.exit 2) (g15_dead_Sweep.j1_0 r1 x145 x146 o)) k (g15_dead_Sweep.h1 r1 x145 x146 x338 x339 x340)
  | 0, x338, x339, x340, o, h => by cases h
  | k + 1, x338, x339, x340, o, h => by
    refine WPR.round ?_
    let b387 : Bool := (decide (x340 < (x146.length : Int)))
    refine StopP.advd tbOk [] 100000 1000 (by kernel_rfl) (by kernel_rfl) (ac_nil) ?_
    refine StopP.cond (b := b387) (by kernel_rfl) (fun hb388 => ?_) (fun hb388 => ?_)
    · have h := cd_t hb388 h
      obtain ⟨r389, hc389, h⟩ := bd_some h
      obtain ⟨hg390, h⟩ := gd_some h
      refine StopP.advd tbOk [(8, [(2, .call [(7000, 20210)] [(7000, .rows 50 1 eU16 0 r389)] (v1 (.own 7000)))])] 100000 1000 (by kernel_rfl) (by kernel_rfl) (ac_y (g27_live_After_ok K (⟨r1.Name, r1.Keep, r1.Leaf, x338⟩ : Graph) x340 r389 hc389) <| ac_c (show Plain [(7000, .rows 50 1 eU16 0 r389)] (v1 (.own 7000)) from plain_one (plain_rows fun _ => rfl) rfl) <| ac_y hg390 <| ac_y (tn hg390) <| ac_nil) ?_
      obtain ⟨o427, ho427, h⟩ := bd_some h
      refine StopP.lp (by kernel_rfl) [.own (.slot 7 0) 5100 (.rows 35 9 cOp zOp []), .keep [2, 3, 4, 5, 6, 7, 15, 16, 27, 28, 29] [2, 3, 5100, 20110, 20210]] (s := g15_dead_Sweep.h2 r1 x145 x146 x338 x339 x340 r389 ([]) (0 : Int)) (by kernel_rfl) (c := (kid [true, true, false, true, false, false, true, false, true, true, false, false, true, true, false, false, true, true, true, false, true, false, false] (bodyAt Try.f15))) (by kernel_rfl) (e := (.exit 4)) (J := g15_dead_Sweep.j2_0 r1 x145 x146 x338 x339 x340 r389 o427) K (g15_dead_Sweep.l2_ok K r1 x145 x146 x338 x339 x340 r389 K ([]) (0 : Int) o427 ho427) ?_
      let b428 : Bool := (decide ((o427.length : Int) < (r389.length : Int)))
      let b429 : Bool := (bif x339 then true else b428)
      refine StopP.advd tbOk [] 17 1000 (by kernel_rfl) (by kernel_rfl) (ac_on (!x339) (pt (!x339)) <| ac_on (!x339) (pt (!x339)) <| ac_on (!x339) (pt (!x339)) <| ac_on (!x339) (pt (!x339)) <| ac_y (pn x339) <| ac_nil) ?_
      refine StopP.chgS [.fz 5100] (by kernel_rfl) (by kernel_rfl) ?_
      obtain ⟨hg431, h⟩ := gd_some h
      let y432 : List Block := (x338.set x340.toNat (⟨o427, (x338.getD x340.toNat zBlock).End⟩ : Block))
      refine StopP.advd tbOk [(17, [(6, .obj (.rows 39 12 cBlock zBlock (x338.set x340.toNat (⟨o427, (x338.getD x340.toNat zBlock).End⟩ : Block))))])] 100000 1000 (by kernel_rfl) (by kernel_rfl) (ac_y hg431 <| ac_c (Stored.mk (ty := 39) (es := 12) (enc := cBlock) (z := zBlock) (xs := x338) (i := x340.toNat) (j := 0) (n := 1) (⟨o427, (x338.getD x340.toNat zBlock).End⟩ : Block) (tn hg431) (by decide) rfl rfl rfl) <| ac_nil) ?_
      refine StopP.out .normal (by kernel_rfl) ?_
      exact WPR.chg [.keep [2, 3, 4, 15, 16] [2, 3, 20110]] (by kernel_rfl) (g15_dead_Sweep.l1_ok K r1 x145 x146 k y432 b429 (IntKind.i64.wrap (x340 + (1 : Int))) o h)
    · have h := cd_f hb388 h
      refine StopP.advd tbOk [] 100000 1000 (by kernel_rfl) (by kernel_rfl) (ac_nil) ?_
      have h := sm h; subst h
      exact StopP.out (.exit 2) (by kernel_rfl) ⟨rfl, [.keep [2, 3, 4] [2, 3, 20110]], by kernel_rfl⟩

def g15_dead_Sweep.l0 (K : Nat) (r1 : Graph) : Nat → ByteArray → (List Block) → Bool → Option (ByteArray × (List Block))
  | 0, _, _, _ => none
  | k + 1, x145, x146, x147 =>
    bif x147 then
      (g15_dead_Sweep.l1 K r1 x145 x146 K x146 false (0 : Int)).bind fun o433 =>
      g15_dead_Sweep.l0 K r1 k x145 o433.2 o433.1
    else
      some (x145, x146)

def g15_dead_Sweep.h0 (r1 : Graph) (x145 : ByteArray) (x146 : (List Block)) (x147 : Bool) : Abs.St := ⟨[(2, .yes, v1 (.ptr 2 0 0)), (3, .yes, v1 (.ptr 3 0 0)), (4, .yes, v1 (cb x147))], [(2, .box 24 [cs x145, cb false, cb false, .t (.ro 12 cBlock zBlock ([]))]), (3, .box 24 [cs r1.Name, cb r1.Keep, cb r1.Leaf, .own 20110]), (20110, .rows 39 12 cBlock zBlock x146)], 62⟩

def g15_dead_Sweep.j0_0 (r1 : Graph) (o : ByteArray × (List Block)) : Abs.St := ⟨[(2, .yes, v1 (.ptr 2 0 0)), (3, .yes, v1 (.ptr 3 0 0))], [(2, .box 24 [cs o.1, cb false, cb false, .t (.ro 12 cBlock zBlock ([]))]), (3, .box 24 [cs r1.Name, cb r1.Keep, cb r1.Leaf, .own 20110]), (20110, .rows 39 12 cBlock zBlock o.2)], 62⟩

theorem g15_dead_Sweep.l0_ok {W : World} {A Kf : Nat → Prop} (K : Nat) (r1 : Graph) : ∀ (k : Nat) (x145 : ByteArray) (x146 : (List Block)) (x147 : Bool) (o : ByteArray × (List Block)), g15_dead_Sweep.l0 K r1 k x145 x146 x147 = some o → WPR Try.prog W A Kf (kid [true, true, false, true, false, false] (bodyAt Try.f15)) (Out (.exit 0) (g15_dead_Sweep.j0_0 r1 o)) k (g15_dead_Sweep.h0 r1 x145 x146 x147)
  | 0, x145, x146, x147, o, h => by cases h
  | k + 1, x145, x146, x147, o, h => by
    refine WPR.round ?_
    refine StopP.advd tbOk [] 100000 1000 (by kernel_rfl) (by kernel_rfl) (ac_nil) ?_
    refine StopP.cond (b := x147) (by kernel_rfl) (fun hb291 => ?_) (fun hb291 => ?_)
    · have h := cd_t hb291 h
      refine StopP.advd tbOk [] 100000 1000 (by kernel_rfl) (by kernel_rfl) (ac_nil) ?_
      obtain ⟨o433, ho433, h⟩ := bd_some h
      refine StopP.lp (by kernel_rfl) [.keep [2, 3, 4, 15, 16] [2, 3, 20110]] (s := g15_dead_Sweep.h1 r1 x145 x146 x146 false (0 : Int)) (by kernel_rfl) (c := (kid [true, true, false, true, false, false, true, false, true, true, false, false] (bodyAt Try.f15))) (by kernel_rfl) (e := (.exit 2)) (J := g15_dead_Sweep.j1_0 r1 x145 x146 o433) K (g15_dead_Sweep.l1_ok K r1 x145 x146 K x146 false (0 : Int) o433 ho433) ?_
      refine StopP.out .normal (by kernel_rfl) ?_
      exact WPR.chg [.keep [2, 3, 4] [2, 3, 20110]] (by kernel_rfl) (g15_dead_Sweep.l0_ok K r1 k x145 o433.2 o433.1 o h)
    · have h := cd_f hb291 h
      refine StopP.advd tbOk [] 100000 1000 (by kernel_rfl) (by kernel_rfl) (ac_nil) ?_
      have h := sm h; subst h
      exact StopP.out (.exit 0) (by kernel_rfl) ⟨rfl, [.keep [2, 3] [2, 3, 20110]], by kernel_rfl⟩

def g15_dead_Sweep (K : Nat) (a0 : Graph) : Option (Graph) :=
  (g23_dead_copied K a0).bind fun r1 =>
  (g15_dead_Sweep.l0 K r1 K ByteArray.empty r1.Blocks true).bind fun o434 =>
  some (⟨r1.Name, r1.Keep, r1.Leaf, o434.2⟩ : Graph)

theorem g15_dead_Sweep_ok (K : Nat) (a0 : Graph) (r : Graph) (h : g15_dead_Sweep K a0 = some r) : AC Try.prog 15 [] [.v true [cs a0.Name, cb a0.Keep, cb a0.Leaf, .t (.ro 12 cBlock zBlock a0.Blocks)]] [(7000, .rows 39 12 cBlock zBlock r.Blocks)] (.v true [cs r.Name, cb r.Keep, cb r.Leaf, .own 7000]) := by
  refine AC.intro (fn := Try.f15) tbOk (by kernel_rfl) rfl (by kernel_rfl) (fun W A Kf => ?_)
  obtain ⟨r1, hc1, h⟩ := bd_some h
  refine StopP.advd tbOk [(1, [(1, .call [(7000, 20110)] [(7000, .rows 39 12 cBlock zBlock r1.Blocks)] (.v true [cs r1.Name, cb r1.Keep, cb r1.Leaf, .own 7000]))])] 100000 1000 (by kernel_rfl) (by kernel_rfl) (ac_y (g23_dead_copied_ok K a0 r1 hc1) <| ac_nil) ?_
  obtain ⟨o434, ho434, h⟩ := bd_some h
  refine StopP.lp (by kernel_rfl) [.keep [2, 3, 4] [2, 3, 20110]] (s := g15_dead_Sweep.h0 r1 ByteArray.empty r1.Blocks true) (by kernel_rfl) (c := (kid [true, true, false, true, false, false] (bodyAt Try.f15))) (by kernel_rfl) (e := (.exit 0)) (J := g15_dead_Sweep.j0_0 r1 o434) K (g15_dead_Sweep.l0_ok K r1 K ByteArray.empty r1.Blocks true o434 ho434) ?_
  refine StopP.advd tbOk [] 100000 1000 (by kernel_rfl) (by kernel_rfl) (ac_nil) ?_
  have h := sm h; subst h
  refine StopP.out .ret (by kernel_rfl) ?_
  exact ret_box (.inr rfl) [.keep [2] [2, 20110], .ren [(20110, 7000)]] (by kernel_rfl) (by kernel_rfl) [7000] (by kernel_rfl)

theorem g15_dead_Sweep_fz (K : Nat) (a0 : Graph) (r : Graph) (h : g15_dead_Sweep K a0 = some r) : AC Try.prog 15 [] [.v true [cs a0.Name, cb a0.Keep, cb a0.Leaf, .t (.ro 12 cBlock zBlock a0.Blocks)]] [] (.v true [cs r.Name, cb r.Keep, cb r.Leaf, .t (.ro 12 cBlock zBlock r.Blocks)]) :=
  AC.cast (AC.fz (g15_dead_Sweep_ok K a0 r h) 7000 (o := .rows 39 12 cBlock zBlock r.Blocks) (t := .ro 12 cBlock zBlock r.Blocks) (by kernel_rfl) (by kernel_rfl)) (by kernel_rfl) (by kernel_rfl)

def g17_dead_Graph (K : Nat) (a0 : Graph) : Option (Graph) :=
  bif a0.Keep then
    (g23_dead_copied K a0).bind fun r2 =>
    some r2
  else
    (g11_dead_Thread K a0).bind fun r3 =>
    (g13_dead_Trim K r3).bind fun r4 =>
    (g15_dead_Sweep K r4).bind fun r5 =>
    (g11_dead_Thread K r5).bind fun r6 =>
    (g13_dead_Trim K r6).bind fun r7 =>
    some r7

theorem g17_dead_Graph_ok (K : Nat) (a0 : Graph) (r : Graph) (h : g17_dead_Graph K a0 = some r) : AC Try.prog 17 [] [.v true [cs a0.Name, cb a0.Keep, cb a0.Leaf, .t (.ro 12 cBlock zBlock a0.Blocks)]] [] (.v true [cs r.Name, cb r.Keep, cb r.Leaf, .t (.ro 12 cBlock zBlock r.Blocks)]) := by
  refine AC.intro (fn := Try.f17) tbOk (by kernel_rfl) rfl (by kernel_rfl) (fun W A Kf => ?_)
  refine StopP.advd tbOk [] 100000 1000 (by kernel_rfl) (by kernel_rfl) (ac_nil) ?_
  refine StopP.cond (b := a0.Keep) (by kernel_rfl) (fun hb1 => ?_) (fun hb1 => ?_)
  · have h := cd_t hb1 h
    obtain ⟨r2, hc2, h⟩ := bd_some h
    refine StopP.advd tbOk [(2, [(1, .call [] [] (.v true [cs r2.Name, cb r2.Keep, cb r2.Leaf, .t (.ro 12 cBlock zBlock r2.Blocks)]))])] 100000 1000 (by kernel_rfl) (by kernel_rfl) (ac_y (g23_dead_copied_fz K a0 r2 hc2) <| ac_nil) ?_
    have h := sm h; subst h
    refine StopP.out .ret (by kernel_rfl) ?_
    exact ret_box (.inr rfl) [.keep [2] [2]] (by kernel_rfl) (by kernel_rfl) [] (by kernel_rfl)
  · have h := cd_f hb1 h
    obtain ⟨r3, hc3, h⟩ := bd_some h
    obtain ⟨r4, hc4, h⟩ := bd_some h
    obtain ⟨r5, hc5, h⟩ := bd_some h
    obtain ⟨r6, hc6, h⟩ := bd_some h
    obtain ⟨r7, hc7, h⟩ := bd_some h
    refine StopP.advd tbOk [(3, [(1, .call [] [] (.v true [cs r3.Name, cb r3.Keep, cb r3.Leaf, .t (.ro 12 cBlock zBlock r3.Blocks)])), (2, .call [] [] (.v true [cs r4.Name, cb r4.Keep, cb r4.Leaf, .t (.ro 12 cBlock zBlock r4.Blocks)])), (3, .call [] [] (.v true [cs r5.Name, cb r5.Keep, cb r5.Leaf, .t (.ro 12 cBlock zBlock r5.Blocks)])), (4, .call [] [] (.v true [cs r6.Name, cb r6.Keep, cb r6.Leaf, .t (.ro 12 cBlock zBlock r6.Blocks)])), (5, .call [] [] (.v true [cs r7.Name, cb r7.Keep, cb r7.Leaf, .t (.ro 12 cBlock zBlock r7.Blocks)]))])] 100000 1000 (by kernel_rfl) (by kernel_rfl) (ac_y (g11_dead_Thread_fz K a0 r3 hc3) <| ac_y (g13_dead_Trim_fz K r3 r4 hc4) <| ac_y (g15_dead_Sweep_fz K r4 r5 hc5) <| ac_y (g11_dead_Thread_fz K r5 r6 hc6) <| ac_y (g13_dead_Trim_fz K r6 r7 hc7) <| ac_nil) ?_
    have h := sm h; subst h
    refine StopP.out .ret (by kernel_rfl) ?_
    exact ret_box (.inr rfl) [.keep [2] [2]] (by kernel_rfl) (by kernel_rfl) [] (by kernel_rfl)

def g8_law22_awake (K : Nat)  : Option (Bool) :=
  let y1 : List Op' := ([(⟨(⟨(8 : Int), (1 : Int), (0 : Int), (0 : Int), (2 : Int)⟩ : Ins), false, (0 : Int), (0 : Int), (0 : Int)⟩ : Op'), (⟨(⟨(8 : Int), (1 : Int), (0 : Int), (0 : Int), (3 : Int)⟩ : Ins), false, (0 : Int), (0 : Int), (0 : Int)⟩ : Op')] : List Op')
  let y2 : List Block := ([(⟨y1, (⟨(1 : Int), (0 : Int), (0 : Int), (0 : Int), (2 : Int), (0 : Int), (⟨(0 : Int), (0 : Int), (0 : Int), (0 : Int), (0 : Int)⟩ : Ins)⟩ : Term)⟩ : Block), (⟨[], (⟨(1 : Int), (0 : Int), (0 : Int), (0 : Int), (0 : Int), (0 : Int), (⟨(0 : Int), (0 : Int), (0 : Int), (0 : Int), (0 : Int)⟩ : Ins)⟩ : Term)⟩ : Block), (⟨[], (⟨(1 : Int), (0 : Int), (0 : Int), (0 : Int), (3 : Int), (0 : Int), (⟨(0 : Int), (0 : Int), (0 : Int), (0 : Int), (0 : Int)⟩ : Ins)⟩ : Term)⟩ : Block), (⟨[], (⟨(3 : Int), (0 : Int), (0 : Int), (0 : Int), (0 : Int), (0 : Int), (⟨(0 : Int), (1 : Int), (0 : Int), (0 : Int), (0 : Int)⟩ : Ins)⟩ : Term)⟩ : Block)] : List Block)
  (g17_dead_Graph K (⟨ByteArray.empty, false, false, y2⟩ : Graph)).bind fun r3 =>
  let b4 : Bool := ((r3.Blocks.length : Int) == (2 : Int))
  gd (b4 = true → 0 ≤ (0 : Int) ∧ (0 : Int) < (r3.Blocks.length : Int)) <|
  let b6 : Bool := ((((r3.Blocks.getD (0 : Int).toNat zBlock).Ops).length : Int) == (1 : Int))
  let b7 : Bool := (bif b4 then b6 else false)
  gd (b7 = true → 0 ≤ (0 : Int) ∧ (0 : Int) < (r3.Blocks.length : Int)) <|
  gd (b7 = true → 0 ≤ (0 : Int) ∧ (0 : Int) < (((r3.Blocks.getD (0 : Int).toNat zBlock).Ops).length : Int)) <|
  let b10 : Bool := (((((r3.Blocks.getD (0 : Int).toNat zBlock).Ops).getD (0 : Int).toNat zOp).Ins.Op == (8 : Int)) && (((((r3.Blocks.getD (0 : Int).toNat zBlock).Ops).getD (0 : Int).toNat zOp).Ins.A == (1 : Int)) && (((((r3.Blocks.getD (0 : Int).toNat zBlock).Ops).getD (0 : Int).toNat zOp).Ins.B == (0 : Int)) && (((((r3.Blocks.getD (0 : Int).toNat zBlock).Ops).getD (0 : Int).toNat zOp).Ins.C == (0 : Int)) && (((((r3.Blocks.getD (0 : Int).toNat zBlock).Ops).getD (0 : Int).toNat zOp).Ins.Imm == (3 : Int)) && (((((r3.Blocks.getD (0 : Int).toNat zBlock).Ops).getD (0 : Int).toNat zOp).Rel == false) && (((((r3.Blocks.getD (0 : Int).toNat zBlock).Ops).getD (0 : Int).toNat zOp).Kind == (0 : Int)) && (((((r3.Blocks.getD (0 : Int).toNat zBlock).Ops).getD (0 : Int).toNat zOp).To == (0 : Int)) && (((((r3.Blocks.getD (0 : Int).toNat zBlock).Ops).getD (0 : Int).toNat zOp).Add == (0 : Int)) && true)))))))))
  let b11 : Bool := (bif b7 then b10 else false)
  gd (b11 = true → 0 ≤ (0 : Int) ∧ (0 : Int) < (r3.Blocks.length : Int)) <|
  let b13 : Bool := ((r3.Blocks.getD (0 : Int).toNat zBlock).End.To == (1 : Int))
  let b14 : Bool := (bif b11 then b13 else false)
  (bif b14 then g13_dead_Trim K (⟨ByteArray.empty, false, false, y2⟩ : Graph) else some zGraph).bind fun r15 =>
  let b16 : Bool := ((r15.Blocks.length : Int) == (3 : Int))
  let b17 : Bool := (bif b14 then b16 else false)
  (bif b17 then g11_dead_Thread K (⟨ByteArray.empty, false, false, y2⟩ : Graph) else some zGraph).bind fun r18 =>
  gd (b17 = true → 0 ≤ (0 : Int) ∧ (0 : Int) < (r18.Blocks.length : Int)) <|
  let b20 : Bool := ((r18.Blocks.getD (0 : Int).toNat zBlock).End.To == (3 : Int))
  let b21 : Bool := (bif b17 then b20 else false)
  (bif b21 then g15_dead_Sweep K (⟨ByteArray.empty, false, false, y2⟩ : Graph) else some zGraph).bind fun r22 =>
  gd (b21 = true → 0 ≤ (0 : Int) ∧ (0 : Int) < (r22.Blocks.length : Int)) <|
  let i24 : Int := (((r22.Blocks.getD (0 : Int).toNat zBlock).Ops).length : Int)
  let b25 : Bool := (bif b21 then (i24 == (1 : Int)) else false)
  some b25

theorem g8_law22_awake_ok (K : Nat)  (r : Bool) (h : g8_law22_awake K  = some r) : AC Try.prog 8 [] [] [] (v1 (cb r)) := by
  refine AC.intro (fn := Try.f8) tbOk (by kernel_rfl) rfl (by kernel_rfl) (fun W A Kf => ?_)
  let y1 : List Op' := ([(⟨(⟨(8 : Int), (1 : Int), (0 : Int), (0 : Int), (2 : Int)⟩ : Ins), false, (0 : Int), (0 : Int), (0 : Int)⟩ : Op'), (⟨(⟨(8 : Int), (1 : Int), (0 : Int), (0 : Int), (3 : Int)⟩ : Ins), false, (0 : Int), (0 : Int), (0 : Int)⟩ : Op')] : List Op')
  let y2 : List Block := ([(⟨y1, (⟨(1 : Int), (0 : Int), (0 : Int), (0 : Int), (2 : Int), (0 : Int), (⟨(0 : Int), (0 : Int), (0 : Int), (0 : Int), (0 : Int)⟩ : Ins)⟩ : Term)⟩ : Block), (⟨[], (⟨(1 : Int), (0 : Int), (0 : Int), (0 : Int), (0 : Int), (0 : Int), (⟨(0 : Int), (0 : Int), (0 : Int), (0 : Int), (0 : Int)⟩ : Ins)⟩ : Term)⟩ : Block), (⟨[], (⟨(1 : Int), (0 : Int), (0 : Int), (0 : Int), (3 : Int), (0 : Int), (⟨(0 : Int), (0 : Int), (0 : Int), (0 : Int), (0 : Int)⟩ : Ins)⟩ : Term)⟩ : Block), (⟨[], (⟨(3 : Int), (0 : Int), (0 : Int), (0 : Int), (0 : Int), (0 : Int), (⟨(0 : Int), (1 : Int), (0 : Int), (0 : Int), (0 : Int)⟩ : Ins)⟩ : Term)⟩ : Block)] : List Block)
  obtain ⟨r3, hc3, h⟩ := bd_some h
  let b4 : Bool := ((r3.Blocks.length : Int) == (2 : Int))
  obtain ⟨hg5, h⟩ := gd_some h
  let b6 : Bool := ((((r3.Blocks.getD (0 : Int).toNat zBlock).Ops).length : Int) == (1 : Int))
  let b7 : Bool := (bif b4 then b6 else false)
  obtain ⟨hg8, h⟩ := gd_some h
  obtain ⟨hg9, h⟩ := gd_some h
  let b10 : Bool := (((((r3.Blocks.getD (0 : Int).toNat zBlock).Ops).getD (0 : Int).toNat zOp).Ins.Op == (8 : Int)) && (((((r3.Blocks.getD (0 : Int).toNat zBlock).Ops).getD (0 : Int).toNat zOp).Ins.A == (1 : Int)) && (((((r3.Blocks.getD (0 : Int).toNat zBlock).Ops).getD (0 : Int).toNat zOp).Ins.B == (0 : Int)) && (((((r3.Blocks.getD (0 : Int).toNat zBlock).Ops).getD (0 : Int).toNat zOp).Ins.C == (0 : Int)) && (((((r3.Blocks.getD (0 : Int).toNat zBlock).Ops).getD (0 : Int).toNat zOp).Ins.Imm == (3 : Int)) && (((((r3.Blocks.getD (0 : Int).toNat zBlock).Ops).getD (0 : Int).toNat zOp).Rel == false) && (((((r3.Blocks.getD (0 : Int).toNat zBlock).Ops).getD (0 : Int).toNat zOp).Kind == (0 : Int)) && (((((r3.Blocks.getD (0 : Int).toNat zBlock).Ops).getD (0 : Int).toNat zOp).To == (0 : Int)) && (((((r3.Blocks.getD (0 : Int).toNat zBlock).Ops).getD (0 : Int).toNat zOp).Add == (0 : Int)) && true)))))))))
  let b11 : Bool := (bif b7 then b10 else false)
  obtain ⟨hg12, h⟩ := gd_some h
  let b13 : Bool := ((r3.Blocks.getD (0 : Int).toNat zBlock).End.To == (1 : Int))
  let b14 : Bool := (bif b11 then b13 else false)
  obtain ⟨r15, hc15, h⟩ := bd_some h
  let b16 : Bool := ((r15.Blocks.length : Int) == (3 : Int))
  let b17 : Bool := (bif b14 then b16 else false)
  obtain ⟨r18, hc18, h⟩ := bd_some h
  obtain ⟨hg19, h⟩ := gd_some h
  let b20 : Bool := ((r18.Blocks.getD (0 : Int).toNat zBlock).End.To == (3 : Int))
  let b21 : Bool := (bif b17 then b20 else false)
  obtain ⟨r22, hc22, h⟩ := bd_some h
  obtain ⟨hg23, h⟩ := gd_some h
  let i24 : Int := (((r22.Blocks.getD (0 : Int).toNat zBlock).Ops).length : Int)
  let b25 : Bool := (bif b21 then (i24 == (1 : Int)) else false)
  have q0 := ac_on b17 (pt b17) <| ac_y (pt b17) <| ac_on b21 (pt b21) <| ac_on b21 (fun h => g15_dead_Sweep_fz K (⟨ByteArray.empty, false, false, y2⟩ : Graph) r22 (cd_t h hc22)) <| ac_on b21 (pt b21) <| ac_on b21 (pt b21) <| ac_on b21 hg23 <| ac_on b21 (pt b21) <| ac_on b21 (pt b21) <| ac_on b21 (pt b21) <| ac_on b21 (pt b21) <| ac_y (pt b21) <| ac_nil
  have q1 := ac_on b14 (pt b14) <| ac_on b14 (pt b14) <| ac_on b14 (pt b14) <| ac_y (pt b14) <| ac_on b17 (pt b17) <| ac_on b17 (fun h => g11_dead_Thread_fz K (⟨ByteArray.empty, false, false, y2⟩ : Graph) r18 (cd_t h hc18)) <| ac_on b17 (pt b17) <| ac_on b17 (pt b17) <| ac_on b17 hg19 <| ac_on b17 (pt b17) <| ac_on b17 (pt b17) <| ac_on b17 (pt b17) <| q0
  have q2 := ac_on b7 (pt b7) <| ac_y (pt b7) <| ac_on b11 (pt b11) <| ac_on b11 (pt b11) <| ac_on b11 hg12 <| ac_on b11 (pt b11) <| ac_on b11 (pt b11) <| ac_on b11 (pt b11) <| ac_on b11 (pt b11) <| ac_y (pt b11) <| ac_on b14 (pt b14) <| ac_on b14 (fun h => g13_dead_Trim_fz K (⟨ByteArray.empty, false, false, y2⟩ : Graph) r15 (cd_t h hc15)) <| q1
  have q3 := ac_on b4 (pt b4) <| ac_on b4 (pt b4) <| ac_y (pt b4) <| ac_on b7 (pt b7) <| ac_on b7 (pt b7) <| ac_on b7 hg8 <| ac_on b7 (pt b7) <| ac_on b7 (pt b7) <| ac_on b7 (pt b7) <| ac_on b7 hg9 <| ac_on b7 (pt b7) <| ac_on b7 (pt b7) <| q2
  refine StopP.advd tbOk [(3, [(2, .fz (.rows 35 9 cOp zOp ([(⟨(⟨(8 : Int), (1 : Int), (0 : Int), (0 : Int), (2 : Int)⟩ : Ins), false, (0 : Int), (0 : Int), (0 : Int)⟩ : Op'), (⟨(⟨(8 : Int), (1 : Int), (0 : Int), (0 : Int), (3 : Int)⟩ : Ins), false, (0 : Int), (0 : Int), (0 : Int)⟩ : Op')] : List Op'))), (12, .fz (.rows 39 12 cBlock zBlock ([(⟨y1, (⟨(1 : Int), (0 : Int), (0 : Int), (0 : Int), (2 : Int), (0 : Int), (⟨(0 : Int), (0 : Int), (0 : Int), (0 : Int), (0 : Int)⟩ : Ins)⟩ : Term)⟩ : Block), (⟨[], (⟨(1 : Int), (0 : Int), (0 : Int), (0 : Int), (0 : Int), (0 : Int), (⟨(0 : Int), (0 : Int), (0 : Int), (0 : Int), (0 : Int)⟩ : Ins)⟩ : Term)⟩ : Block), (⟨[], (⟨(1 : Int), (0 : Int), (0 : Int), (0 : Int), (3 : Int), (0 : Int), (⟨(0 : Int), (0 : Int), (0 : Int), (0 : Int), (0 : Int)⟩ : Ins)⟩ : Term)⟩ : Block), (⟨[], (⟨(3 : Int), (0 : Int), (0 : Int), (0 : Int), (0 : Int), (0 : Int), (⟨(0 : Int), (1 : Int), (0 : Int), (0 : Int), (0 : Int)⟩ : Ins)⟩ : Term)⟩ : Block)] : List Block)))]), (4, [(1, .call [] [] (.v true [cs r3.Name, cb r3.Keep, cb r3.Leaf, .t (.ro 12 cBlock zBlock r3.Blocks)]))]), (5, [(35, .call [] [] (.v true [cs r15.Name, cb r15.Keep, cb r15.Leaf, .t (.ro 12 cBlock zBlock r15.Blocks)])), (42, .call [] [] (.v true [cs r18.Name, cb r18.Keep, cb r18.Leaf, .t (.ro 12 cBlock zBlock r18.Blocks)])), (52, .call [] [] (.v true [cs r22.Name, cb r22.Keep, cb r22.Leaf, .t (.ro 12 cBlock zBlock r22.Blocks)]))])] 100000 1000 (by kernel_rfl) (by kernel_rfl) (ac_c (Built.mk (ty := 35) (es := 9) (enc := cOp) (z := zOp) (xs := ([(⟨(⟨(8 : Int), (1 : Int), (0 : Int), (0 : Int), (2 : Int)⟩ : Ins), false, (0 : Int), (0 : Int), (0 : Int)⟩ : Op'), (⟨(⟨(8 : Int), (1 : Int), (0 : Int), (0 : Int), (3 : Int)⟩ : Ins), false, (0 : Int), (0 : Int), (0 : Int)⟩ : Op')] : List Op')) (fun _ _ => rfl) (by decide : (2 * 9 : Nat) ≤ 16777216)) <| ac_c (Built.mk (ty := 39) (es := 12) (enc := cBlock) (z := zBlock) (xs := ([(⟨y1, (⟨(1 : Int), (0 : Int), (0 : Int), (0 : Int), (2 : Int), (0 : Int), (⟨(0 : Int), (0 : Int), (0 : Int), (0 : Int), (0 : Int)⟩ : Ins)⟩ : Term)⟩ : Block), (⟨[], (⟨(1 : Int), (0 : Int), (0 : Int), (0 : Int), (0 : Int), (0 : Int), (⟨(0 : Int), (0 : Int), (0 : Int), (0 : Int), (0 : Int)⟩ : Ins)⟩ : Term)⟩ : Block), (⟨[], (⟨(1 : Int), (0 : Int), (0 : Int), (0 : Int), (3 : Int), (0 : Int), (⟨(0 : Int), (0 : Int), (0 : Int), (0 : Int), (0 : Int)⟩ : Ins)⟩ : Term)⟩ : Block), (⟨[], (⟨(3 : Int), (0 : Int), (0 : Int), (0 : Int), (0 : Int), (0 : Int), (⟨(0 : Int), (1 : Int), (0 : Int), (0 : Int), (0 : Int)⟩ : Ins)⟩ : Term)⟩ : Block)] : List Block)) (fun _ _ => rfl) (by decide : (4 * 12 : Nat) ≤ 16777216)) <| ac_y (g17_dead_Graph_ok K (⟨ByteArray.empty, false, false, y2⟩ : Graph) r3 hc3) <| ac_on b4 (pt b4) <| ac_on b4 (pt b4) <| ac_on b4 hg5 <| ac_on b4 (pt b4) <| ac_on b4 (pt b4) <| q3) ?_
  have h := sm h; subst h
  refine StopP.out .ret (by kernel_rfl) ?_
  exact ret_box (.inr rfl) [.keep [0] []] (by kernel_rfl) (by kernel_rfl) [] (by kernel_rfl)

end Go.Proofs.Ytoooalfhjcfinaa.T
