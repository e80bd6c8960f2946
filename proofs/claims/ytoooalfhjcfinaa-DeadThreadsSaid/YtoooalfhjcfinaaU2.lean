import Derived.Test.YtoooalfhjcfinaaU1
namespace Go.Proofs.Ytoooalfhjcfinaa.T
open Go.Abs
set_option linter.unusedVariables false
set_option maxRecDepth 100000
set_option maxHeartbeats 2000000

def g36_flow_Writes (K : Nat) (a0 : Ins) : Option (Int) :=
  let b1 : Bool := (decide (a0.Op ≥ (1 : Int)))
  let b2 : Bool := (decide (a0.Op ≤ (11 : Int)))
  let b3 : Bool := (bif b1 then b2 else false)
  let b4 : Bool := (bif b3 then true else (a0.Op == (13 : Int)))
  let b5 : Bool := (bif b4 then true else (a0.Op == (22 : Int)))
  let b6 : Bool := (bif (!b5) then true else (a0.A == (0 : Int)))
  bif b6 then
    some (-1 : Int)
  else
    some a0.A

theorem g36_flow_Writes_ok (K : Nat) (a0 : Ins) (r : Int) (h : g36_flow_Writes K a0 = some r) : AC Try.prog 36 [] [.v true [ci a0.Op, ci a0.A, ci a0.B, ci a0.C, ci a0.Imm]] [] (v1 (ci r)) := by
  refine AC.intro (fn := Try.f36) tbOk (by kernel_rfl) rfl (by kernel_rfl) (fun W A Kf => ?_)
  let b1 : Bool := (decide (a0.Op ≥ (1 : Int)))
  let b2 : Bool := (decide (a0.Op ≤ (11 : Int)))
  let b3 : Bool := (bif b1 then b2 else false)
  let b4 : Bool := (bif b3 then true else (a0.Op == (13 : Int)))
  let b5 : Bool := (bif b4 then true else (a0.Op == (22 : Int)))
  let b6 : Bool := (bif (!b5) then true else (a0.A == (0 : Int)))
  refine StopP.advd tbOk [] 100000 1000 (by kernel_rfl) (by kernel_rfl) (ac_on b1 (pt b1) <| ac_on b1 (pt b1) <| ac_y (pt b1) <| ac_on (!b3) (pt (!b3)) <| ac_on (!b3) (pt (!b3)) <| ac_y (pn b3) <| ac_on (!b4) (pt (!b4)) <| ac_on (!b4) (pt (!b4)) <| ac_y (pn b4) <| ac_on (!(!b5)) (pt (!(!b5))) <| ac_on (!(!b5)) (pt (!(!b5))) <| ac_y (pn (!b5)) <| ac_nil) ?_
  refine StopP.cond (b := b6) (by kernel_rfl) (fun hb7 => ?_) (fun hb7 => ?_)
  · have h := cd_t hb7 h
    refine StopP.advd tbOk [] 100000 1000 (by kernel_rfl) (by kernel_rfl) (ac_nil) ?_
    have h := sm h; subst h
    refine StopP.out .ret (by kernel_rfl) ?_
    exact ret_box (.inr rfl) [.keep [2] []] (by kernel_rfl) (by kernel_rfl) [] (by kernel_rfl)
  · have h := cd_f hb7 h
    refine StopP.advd tbOk [] 100000 1000 (by kernel_rfl) (by kernel_rfl) (ac_nil) ?_
    have h := sm h; subst h
    refine StopP.out .ret (by kernel_rfl) ?_
    exact ret_box (.inr rfl) [.keep [2] []] (by kernel_rfl) (by kernel_rfl) [] (by kernel_rfl)

def g37_flow_Kind (K : Nat) (a0 : Ins) : Option (Int) :=
  bif (a0.Op == (11 : Int)) then
    some (1 : Int)
  else
    bif (a0.Op == (12 : Int)) then
      some (1 : Int)
    else
      bif (a0.Op == (13 : Int)) then
        some (1 : Int)
      else
        bif (a0.Op == (14 : Int)) then
          some (1 : Int)
        else
          bif (a0.Op == (22 : Int)) then
            some (1 : Int)
          else
            bif (a0.Op == (23 : Int)) then
              some (1 : Int)
            else
              bif (a0.Op == (15 : Int)) then
                some (2 : Int)
              else
                bif (a0.Op == (16 : Int)) then
                  some (2 : Int)
                else
                  bif (a0.Op == (17 : Int)) then
                    some (2 : Int)
                  else
                    bif (a0.Op == (18 : Int)) then
                      some (2 : Int)
                    else
                      bif (a0.Op == (19 : Int)) then
                        some (3 : Int)
                      else
                        bif (a0.Op == (20 : Int)) then
                          some (4 : Int)
                        else
                          bif (a0.Op == (0 : Int)) then
                            some (5 : Int)
                          else
                            bif (a0.Op == (21 : Int)) then
                              some (5 : Int)
                            else
                              bif (a0.Op == (25 : Int)) then
                                some (5 : Int)
                              else
                                some (0 : Int)

theorem g37_flow_Kind_ok (K : Nat) (a0 : Ins) (r : Int) (h : g37_flow_Kind K a0 = some r) : AC Try.prog 37 [] [.v true [ci a0.Op, ci a0.A, ci a0.B, ci a0.C, ci a0.Imm]] [] (v1 (ci r)) := by
  refine AC.intro (fn := Try.f37) tbOk (by kernel_rfl) rfl (by kernel_rfl) (fun W A Kf => ?_)
  refine StopP.advd tbOk [] 100000 1000 (by kernel_rfl) (by kernel_rfl) (ac_nil) ?_
  refine StopP.cond (b := (a0.Op == (11 : Int))) (by kernel_rfl) (fun hb1 => ?_) (fun hb1 => ?_)
  · have h := cd_t hb1 h
    refine StopP.advd tbOk [] 100000 1000 (by kernel_rfl) (by kernel_rfl) (ac_nil) ?_
    refine StopP.condK (b := (a0.Op == (11 : Int))) hb1 (by kernel_rfl) ?_
    refine StopP.advd tbOk [] 100000 1000 (by kernel_rfl) (by kernel_rfl) (ac_nil) ?_
    have h := sm h; subst h
    refine StopP.out .ret (by kernel_rfl) ?_
    exact ret_box (.inr rfl) [.keep [2] []] (by kernel_rfl) (by kernel_rfl) [] (by kernel_rfl)
  · have h := cd_f hb1 h
    refine StopP.advd tbOk [] 100000 1000 (by kernel_rfl) (by kernel_rfl) (ac_nil) ?_
    refine StopP.cond (b := (a0.Op == (12 : Int))) (by kernel_rfl) (fun hb2 => ?_) (fun hb2 => ?_)
    · have h := cd_t hb2 h
      refine StopP.advd tbOk [] 100000 1000 (by kernel_rfl) (by kernel_rfl) (ac_nil) ?_
      refine StopP.condK (b := (a0.Op == (12 : Int))) hb2 (by kernel_rfl) ?_
      refine StopP.advd tbOk [] 100000 1000 (by kernel_rfl) (by kernel_rfl) (ac_nil) ?_
      have h := sm h; subst h
      refine StopP.out .ret (by kernel_rfl) ?_
      exact ret_box (.inr rfl) [.keep [2] []] (by kernel_rfl) (by kernel_rfl) [] (by kernel_rfl)
    · have h := cd_f hb2 h
      refine StopP.advd tbOk [] 100000 1000 (by kernel_rfl) (by kernel_rfl) (ac_nil) ?_
      refine StopP.cond (b := (a0.Op == (13 : Int))) (by kernel_rfl) (fun hb3 => ?_) (fun hb3 => ?_)
      · have h := cd_t hb3 h
        refine StopP.advd tbOk [] 100000 1000 (by kernel_rfl) (by kernel_rfl) (ac_nil) ?_
        refine StopP.condK (b := (a0.Op == (13 : Int))) hb3 (by kernel_rfl) ?_
        refine StopP.reb [.keep [] []] (st' := .at (kid [true, false, true, false, false, false, false, false, false, false, false, false, false, false, false, false, false, true, false] (bodyAt Try.f37)) [.code (kid [true, false, true, false, false, false, false, false, false, false, false, false, false, false, false, false, true] (bodyAt Try.f37)), .code (kid [true, false, true, false, false, false, false, false, false, false, false, false, false, false, false, true] (bodyAt Try.f37)), .blk 1, .blk 2, .code (kid [true, false, true, false, false, false, false, false, false, false, false, false, true] (bodyAt Try.f37)), .blk 3, .code (kid [true, false, true, false, false, false, false, false, false, false, true] (bodyAt Try.f37)), .blk 4, .code (kid [true, false, true, false, false, false, false, false, true] (bodyAt Try.f37)), .blk 5, .code (kid [true, false, true, false, false, false, true] (bodyAt Try.f37)), .blk 6, .code (kid [true, false, true, false, true] (bodyAt Try.f37)), .blk 0, .code (kid [true, true] (bodyAt Try.f37))] ⟨[], [], 26⟩) (by kernel_rfl) (by kernel_rfl) (by kernel_rfl) (by kernel_rfl) rfl ?_
        refine StopP.advd tbOk [] 100000 1000 (by kernel_rfl) (by kernel_rfl) (ac_nil) ?_
        have h := sm h; subst h
        refine StopP.out .ret (by kernel_rfl) ?_
        exact ret_box (.inr rfl) [.keep [2] []] (by kernel_rfl) (by kernel_rfl) [] (by kernel_rfl)
      · have h := cd_f hb3 h
        refine StopP.advd tbOk [] 100000 1000 (by kernel_rfl) (by kernel_rfl) (ac_nil) ?_
        refine StopP.cond (b := (a0.Op == (14 : Int))) (by kernel_rfl) (fun hb4 => ?_) (fun hb4 => ?_)
        · have h := cd_t hb4 h
          refine StopP.reb [.keep [] []] (st' := .at (kid [true, false, true, false, false, false, false, false, false, false, false, false, false, false, false, false, false, true, false] (bodyAt Try.f37)) [.code (kid [true, false, true, false, false, false, false, false, false, false, false, false, false, false, false, false, true] (bodyAt Try.f37)), .code (kid [true, false, true, false, false, false, false, false, false, false, false, false, false, false, false, true] (bodyAt Try.f37)), .blk 1, .blk 2, .code (kid [true, false, true, false, false, false, false, false, false, false, false, false, true] (bodyAt Try.f37)), .blk 3, .code (kid [true, false, true, false, false, false, false, false, false, false, true] (bodyAt Try.f37)), .blk 4, .code (kid [true, false, true, false, false, false, false, false, true] (bodyAt Try.f37)), .blk 5, .code (kid [true, false, true, false, false, false, true] (bodyAt Try.f37)), .blk 6, .code (kid [true, false, true, false, true] (bodyAt Try.f37)), .blk 0, .code (kid [true, true] (bodyAt Try.f37))] ⟨[], [], 26⟩) (by kernel_rfl) (by kernel_rfl) (by kernel_rfl) (by kernel_rfl) rfl ?_
          refine StopP.advd tbOk [] 100000 1000 (by kernel_rfl) (by kernel_rfl) (ac_nil) ?_
          have h := sm h; subst h
          refine StopP.out .ret (by kernel_rfl) ?_
          exact ret_box (.inr rfl) [.keep [2] []] (by kernel_rfl) (by kernel_rfl) [] (by kernel_rfl)
        · have h := cd_f hb4 h
          refine StopP.advd tbOk [] 100000 1000 (by kernel_rfl) (by kernel_rfl) (ac_nil) ?_
          refine StopP.cond (b := (a0.Op == (22 : Int))) (by kernel_rfl) (fun hb5 => ?_) (fun hb5 => ?_)
          · have h := cd_t hb5 h
            refine StopP.advd tbOk [] 100000 1000 (by kernel_rfl) (by kernel_rfl) (ac_nil) ?_
            refine StopP.condK (b := (a0.Op == (22 : Int))) hb5 (by kernel_rfl) ?_
            refine StopP.reb [.keep [] []] (st' := .at (kid [true, false, true, false, false, false, false, false, false, false, false, false, false, false, false, false, true, false, true, false] (bodyAt Try.f37)) [.code (kid [true, false, true, false, false, false, false, false, false, false, false, false, false, false, false, false, true, true] (bodyAt Try.f37)), .code (kid [true, false, true, false, false, false, false, false, false, false, false, false, false, false, false, true] (bodyAt Try.f37)), .blk 1, .blk 2, .code (kid [true, false, true, false, false, false, false, false, false, false, false, false, true] (bodyAt Try.f37)), .blk 3, .code (kid [true, false, true, false, false, false, false, false, false, false, true] (bodyAt Try.f37)), .blk 4, .code (kid [true, false, true, false, false, false, false, false, true] (bodyAt Try.f37)), .blk 5, .code (kid [true, false, true, false, false, false, true] (bodyAt Try.f37)), .blk 6, .code (kid [true, false, true, false, true] (bodyAt Try.f37)), .blk 0, .code (kid [true, true] (bodyAt Try.f37))] ⟨[], [], 26⟩) (by kernel_rfl) (by kernel_rfl) (by kernel_rfl) (by kernel_rfl) rfl ?_
            refine StopP.advd tbOk [] 100000 1000 (by kernel_rfl) (by kernel_rfl) (ac_nil) ?_
            have h := sm h; subst h
            refine StopP.out .ret (by kernel_rfl) ?_
            exact ret_box (.inr rfl) [.keep [2] []] (by kernel_rfl) (by kernel_rfl) [] (by kernel_rfl)
          · have h := cd_f hb5 h
            refine StopP.reb [.keep [4] []] (st' := .at (kid [true, false, true, false, false, false, false, false, false, false, false, false, false, false, false, false, true, false, false, true, true] (bodyAt Try.f37)) [.code (kid [true, false, true, false, false, false, false, false, false, false, false, false, false, false, false, false, true, false, true] (bodyAt Try.f37)), .code (kid [true, false, true, false, false, false, false, false, false, false, false, false, false, false, false, false, true, true] (bodyAt Try.f37)), .code (kid [true, false, true, false, false, false, false, false, false, false, false, false, false, false, false, true] (bodyAt Try.f37)), .blk 1, .blk 2, .code (kid [true, false, true, false, false, false, false, false, false, false, false, false, true] (bodyAt Try.f37)), .blk 3, .code (kid [true, false, true, false, false, false, false, false, false, false, true] (bodyAt Try.f37)), .blk 4, .code (kid [true, false, true, false, false, false, false, false, true] (bodyAt Try.f37)), .blk 5, .code (kid [true, false, true, false, false, false, true] (bodyAt Try.f37)), .blk 6, .code (kid [true, false, true, false, true] (bodyAt Try.f37)), .blk 0, .code (kid [true, true] (bodyAt Try.f37))] ⟨[(4, .yes, v1 (ci a0.Op))], [], 26⟩) (by kernel_rfl) (by kernel_rfl) (by kernel_rfl) (by kernel_rfl) rfl ?_
            refine StopP.advd tbOk [] 100000 1000 (by kernel_rfl) (by kernel_rfl) (ac_nil) ?_
            refine StopP.cond (b := (a0.Op == (23 : Int))) (by kernel_rfl) (fun hb6 => ?_) (fun hb6 => ?_)
            · have h := cd_t hb6 h
              refine StopP.advd tbOk [] 100000 1000 (by kernel_rfl) (by kernel_rfl) (ac_nil) ?_
              have h := sm h; subst h
              refine StopP.out .ret (by kernel_rfl) ?_
              exact ret_box (.inr rfl) [.keep [2] []] (by kernel_rfl) (by kernel_rfl) [] (by kernel_rfl)
            · have h := cd_f hb6 h
              refine StopP.advd tbOk [] 100000 1000 (by kernel_rfl) (by kernel_rfl) (ac_nil) ?_
              refine StopP.cond (b := (a0.Op == (15 : Int))) (by kernel_rfl) (fun hb7 => ?_) (fun hb7 => ?_)
              · have h := cd_t hb7 h
                refine StopP.advd tbOk [] 100000 1000 (by kernel_rfl) (by kernel_rfl) (ac_nil) ?_
                refine StopP.condK (b := (a0.Op == (15 : Int))) hb7 (by kernel_rfl) ?_
                refine StopP.advd tbOk [] 100000 1000 (by kernel_rfl) (by kernel_rfl) (ac_nil) ?_
                have h := sm h; subst h
                refine StopP.out .ret (by kernel_rfl) ?_
                exact ret_box (.inr rfl) [.keep [2] []] (by kernel_rfl) (by kernel_rfl) [] (by kernel_rfl)
              · have h := cd_f hb7 h
                refine StopP.advd tbOk [] 100000 1000 (by kernel_rfl) (by kernel_rfl) (ac_nil) ?_
                refine StopP.cond (b := (a0.Op == (16 : Int))) (by kernel_rfl) (fun hb8 => ?_) (fun hb8 => ?_)
                · have h := cd_t hb8 h
                  refine StopP.advd tbOk [] 100000 1000 (by kernel_rfl) (by kernel_rfl) (ac_nil) ?_
                  refine StopP.condK (b := (a0.Op == (16 : Int))) hb8 (by kernel_rfl) ?_
                  refine StopP.reb [.keep [] []] (st' := .at (kid [true, false, true, false, false, false, false, false, false, false, false, false, false, false, false, false, true, true, false, true, false] (bodyAt Try.f37)) [.code (kid [true, false, true, false, false, false, false, false, false, false, false, false, false, false, false, false, true, true, true] (bodyAt Try.f37)), .code (kid [true, false, true, false, false, false, false, false, false, false, false, false, false, false, false, true] (bodyAt Try.f37)), .blk 1, .blk 2, .code (kid [true, false, true, false, false, false, false, false, false, false, false, false, true] (bodyAt Try.f37)), .blk 3, .code (kid [true, false, true, false, false, false, false, false, false, false, true] (bodyAt Try.f37)), .blk 4, .code (kid [true, false, true, false, false, false, false, false, true] (bodyAt Try.f37)), .blk 5, .code (kid [true, false, true, false, false, false, true] (bodyAt Try.f37)), .blk 6, .code (kid [true, false, true, false, true] (bodyAt Try.f37)), .blk 0, .code (kid [true, true] (bodyAt Try.f37))] ⟨[], [], 26⟩) (by kernel_rfl) (by kernel_rfl) (by kernel_rfl) (by kernel_rfl) rfl ?_
                  refine StopP.advd tbOk [] 100000 1000 (by kernel_rfl) (by kernel_rfl) (ac_nil) ?_
                  have h := sm h; subst h
                  refine StopP.out .ret (by kernel_rfl) ?_
                  exact ret_box (.inr rfl) [.keep [2] []] (by kernel_rfl) (by kernel_rfl) [] (by kernel_rfl)
                · have h := cd_f hb8 h
                  refine StopP.advd tbOk [] 100000 1000 (by kernel_rfl) (by kernel_rfl) (ac_nil) ?_
                  refine StopP.cond (b := (a0.Op == (17 : Int))) (by kernel_rfl) (fun hb9 => ?_) (fun hb9 => ?_)
                  · have h := cd_t hb9 h
                    refine StopP.advd tbOk [] 100000 1000 (by kernel_rfl) (by kernel_rfl) (ac_nil) ?_
                    refine StopP.condK (b := (a0.Op == (17 : Int))) hb9 (by kernel_rfl) ?_
                    refine StopP.reb [.keep [] []] (st' := .at (kid [true, false, true, false, false, false, false, false, false, false, false, false, false, false, false, false, true, true, false, true, false] (bodyAt Try.f37)) [.code (kid [true, false, true, false, false, false, false, false, false, false, false, false, false, false, false, false, true, true, true] (bodyAt Try.f37)), .code (kid [true, false, true, false, false, false, false, false, false, false, false, false, false, false, false, true] (bodyAt Try.f37)), .blk 1, .blk 2, .code (kid [true, false, true, false, false, false, false, false, false, false, false, false, true] (bodyAt Try.f37)), .blk 3, .code (kid [true, false, true, false, false, false, false, false, false, false, true] (bodyAt Try.f37)), .blk 4, .code (kid [true, false, true, false, false, false, false, false, true] (bodyAt Try.f37)), .blk 5, .code (kid [true, false, true, false, false, false, true] (bodyAt Try.f37)), .blk 6, .code (kid [true, false, true, false, true] (bodyAt Try.f37)), .blk 0, .code (kid [true, true] (bodyAt Try.f37))] ⟨[], [], 26⟩) (by kernel_rfl) (by kernel_rfl) (by kernel_rfl) (by kernel_rfl) rfl ?_
                    refine StopP.advd tbOk [] 100000 1000 (by kernel_rfl) (by kernel_rfl) (ac_nil) ?_
                    have h := sm h; subst h
                    refine StopP.out .ret (by kernel_rfl) ?_
                    exact ret_box (.inr rfl) [.keep [2] []] (by kernel_rfl) (by kernel_rfl) [] (by kernel_rfl)
                  · have h := cd_f hb9 h
                    refine StopP.reb [.keep [4] []] (st' := .at (kid [true, false, true, false, false, false, false, false, false, false, false, false, false, false, false, false, true, true, false, false, true, true, true, true, true, true] (bodyAt Try.f37)) [.code (kid [true, false, true, false, false, false, false, false, false, false, false, false, false, false, false, false, true, true, false, true] (bodyAt Try.f37)), .code (kid [true, false, true, false, false, false, false, false, false, false, false, false, false, false, false, false, true, true, true] (bodyAt Try.f37)), .code (kid [true, false, true, false, false, false, false, false, false, false, false, false, false, false, false, true] (bodyAt Try.f37)), .blk 1, .blk 2, .code (kid [true, false, true, false, false, false, false, false, false, false, false, false, true] (bodyAt Try.f37)), .blk 3, .code (kid [true, false, true, false, false, false, false, false, false, false, true] (bodyAt Try.f37)), .blk 4, .code (kid [true, false, true, false, false, false, false, false, true] (bodyAt Try.f37)), .blk 5, .code (kid [true, false, true, false, false, false, true] (bodyAt Try.f37)), .blk 6, .code (kid [true, false, true, false, true] (bodyAt Try.f37)), .blk 0, .code (kid [true, true] (bodyAt Try.f37))] ⟨[(4, .yes, v1 (ci a0.Op))], [], 26⟩) (by kernel_rfl) (by kernel_rfl) (by kernel_rfl) (by kernel_rfl) rfl ?_
                    refine StopP.advd tbOk [] 100000 1000 (by kernel_rfl) (by kernel_rfl) (ac_nil) ?_
                    refine StopP.cond (b := (a0.Op == (18 : Int))) (by kernel_rfl) (fun hb10 => ?_) (fun hb10 => ?_)
                    · have h := cd_t hb10 h
                      refine StopP.advd tbOk [] 100000 1000 (by kernel_rfl) (by kernel_rfl) (ac_nil) ?_
                      have h := sm h; subst h
                      refine StopP.out .ret (by kernel_rfl) ?_
                      exact ret_box (.inr rfl) [.keep [2] []] (by kernel_rfl) (by kernel_rfl) [] (by kernel_rfl)
                    · have h := cd_f hb10 h
                      refine StopP.advd tbOk [] 100000 1000 (by kernel_rfl) (by kernel_rfl) (ac_nil) ?_
                      refine StopP.cond (b := (a0.Op == (19 : Int))) (by kernel_rfl) (fun hb11 => ?_) (fun hb11 => ?_)
                      · have h := cd_t hb11 h
                        refine StopP.advd tbOk [] 100000 1000 (by kernel_rfl) (by kernel_rfl) (ac_nil) ?_
                        have h := sm h; subst h
                        refine StopP.out .ret (by kernel_rfl) ?_
                        exact ret_box (.inr rfl) [.keep [2] []] (by kernel_rfl) (by kernel_rfl) [] (by kernel_rfl)
                      · have h := cd_f hb11 h
                        refine StopP.advd tbOk [] 100000 1000 (by kernel_rfl) (by kernel_rfl) (ac_nil) ?_
                        refine StopP.cond (b := (a0.Op == (20 : Int))) (by kernel_rfl) (fun hb12 => ?_) (fun hb12 => ?_)
                        · have h := cd_t hb12 h
                          refine StopP.advd tbOk [] 100000 1000 (by kernel_rfl) (by kernel_rfl) (ac_nil) ?_
                          have h := sm h; subst h
                          refine StopP.out .ret (by kernel_rfl) ?_
                          exact ret_box (.inr rfl) [.keep [2] []] (by kernel_rfl) (by kernel_rfl) [] (by kernel_rfl)
                        · have h := cd_f hb12 h
                          refine StopP.advd tbOk [] 100000 1000 (by kernel_rfl) (by kernel_rfl) (ac_nil) ?_
                          refine StopP.cond (b := (a0.Op == (0 : Int))) (by kernel_rfl) (fun hb13 => ?_) (fun hb13 => ?_)
                          · have h := cd_t hb13 h
                            refine StopP.advd tbOk [] 100000 1000 (by kernel_rfl) (by kernel_rfl) (ac_nil) ?_
                            refine StopP.condK (b := (a0.Op == (0 : Int))) hb13 (by kernel_rfl) ?_
                            refine StopP.reb [.keep [] []] (st' := .at (kid [true, false, true, false, false, false, false, false, false, false, false, false, false, false, false, false, true, true, true, true, true, true, false] (bodyAt Try.f37)) [.code (kid [true, false, true, false, false, false, false, false, false, false, false, false, false, false, false, true] (bodyAt Try.f37)), .blk 1, .blk 2, .code (kid [true, false, true, false, false, false, false, false, false, false, false, false, true] (bodyAt Try.f37)), .blk 3, .code (kid [true, false, true, false, false, false, false, false, false, false, true] (bodyAt Try.f37)), .blk 4, .code (kid [true, false, true, false, false, false, false, false, true] (bodyAt Try.f37)), .blk 5, .code (kid [true, false, true, false, false, false, true] (bodyAt Try.f37)), .blk 6, .code (kid [true, false, true, false, true] (bodyAt Try.f37)), .blk 0, .code (kid [true, true] (bodyAt Try.f37))] ⟨[], [], 26⟩) (by kernel_rfl) (by kernel_rfl) (by kernel_rfl) (by kernel_rfl) rfl ?_
                            refine StopP.advd tbOk [] 100000 1000 (by kernel_rfl) (by kernel_rfl) (ac_nil) ?_
                            have h := sm h; subst h
                            refine StopP.out .ret (by kernel_rfl) ?_
                            exact ret_box (.inr rfl) [.keep [2] []] (by kernel_rfl) (by kernel_rfl) [] (by kernel_rfl)
                          · have h := cd_f hb13 h
                            refine StopP.reb [.keep [4] []] (st' := .at (kid [true, false, true, false, false, false, false, false, false, false, false, false, false, false, false, false, true, true, true, true, true, false, true, true] (bodyAt Try.f37)) [.code (kid [true, false, true, false, false, false, false, false, false, false, false, false, false, false, false, false, true, true, true, true, true, true] (bodyAt Try.f37)), .code (kid [true, false, true, false, false, false, false, false, false, false, false, false, false, false, false, true] (bodyAt Try.f37)), .blk 1, .blk 2, .code (kid [true, false, true, false, false, false, false, false, false, false, false, false, true] (bodyAt Try.f37)), .blk 3, .code (kid [true, false, true, false, false, false, false, false, false, false, true] (bodyAt Try.f37)), .blk 4, .code (kid [true, false, true, false, false, false, false, false, true] (bodyAt Try.f37)), .blk 5, .code (kid [true, false, true, false, false, false, true] (bodyAt Try.f37)), .blk 6, .code (kid [true, false, true, false, true] (bodyAt Try.f37)), .blk 0, .code (kid [true, true] (bodyAt Try.f37))] ⟨[(4, .yes, v1 (ci a0.Op))], [], 26⟩) (by kernel_rfl) (by kernel_rfl) (by kernel_rfl) (by kernel_rfl) rfl ?_
                            refine StopP.advd tbOk [] 100000 1000 (by kernel_rfl) (by kernel_rfl) (ac_nil) ?_
                            refine StopP.cond (b := (a0.Op == (21 : Int))) (by kernel_rfl) (fun hb14 => ?_) (fun hb14 => ?_)
                            · have h := cd_t hb14 h
                              refine StopP.advd tbOk [] 100000 1000 (by kernel_rfl) (by kernel_rfl) (ac_nil) ?_
                              refine StopP.condK (b := (a0.Op == (21 : Int))) hb14 (by kernel_rfl) ?_
                              refine StopP.advd tbOk [] 100000 1000 (by kernel_rfl) (by kernel_rfl) (ac_nil) ?_
                              have h := sm h; subst h
                              refine StopP.out .ret (by kernel_rfl) ?_
                              exact ret_box (.inr rfl) [.keep [2] []] (by kernel_rfl) (by kernel_rfl) [] (by kernel_rfl)
                            · have h := cd_f hb14 h
                              refine StopP.advd tbOk [] 100000 1000 (by kernel_rfl) (by kernel_rfl) (ac_nil) ?_
                              refine StopP.cond (b := (a0.Op == (25 : Int))) (by kernel_rfl) (fun hb15 => ?_) (fun hb15 => ?_)
                              · have h := cd_t hb15 h
                                refine StopP.advd tbOk [] 100000 1000 (by kernel_rfl) (by kernel_rfl) (ac_nil) ?_
                                have h := sm h; subst h
                                refine StopP.out .ret (by kernel_rfl) ?_
                                exact ret_box (.inr rfl) [.keep [2] []] (by kernel_rfl) (by kernel_rfl) [] (by kernel_rfl)
                              · have h := cd_f hb15 h
                                refine StopP.advd tbOk [] 100000 1000 (by kernel_rfl) (by kernel_rfl) (ac_nil) ?_
                                have h := sm h; subst h
                                refine StopP.out .ret (by kernel_rfl) ?_
                                exact ret_box (.inr rfl) [.keep [2] []] (by kernel_rfl) (by kernel_rfl) [] (by kernel_rfl)

def g42_live_set.l0 (K : Nat) (a0 : (List Int)) : Nat → Int → Int → Option (Int)
  | 0, _, _ => none
  | k + 1, x6, x7 =>
    let b13 : Bool := (decide (x7 < (a0.length : Int)))
    bif b13 then
      gd (0 ≤ x7 ∧ x7 < (a0.length : Int)) <|
      gd (0 ≤ (a0.getD x7.toNat 0)) <|
      let i17 : Int := (IntKind.u16.wrap ((1 : Int) * 2 ^ min (a0.getD x7.toNat 0).toNat (IntKind.bits .u16)))
      g42_live_set.l0 K a0 k (Go.bits .or .u16 x6 i17) (IntKind.i64.wrap (x7 + (1 : Int)))
    else
      some x6

def g42_live_set.h0 (a0 : (List Int)) (x6 : Int) (x7 : Int) : Abs.St := ⟨[(3, .yes, v1 (cu .u16 x6)), (6, .yes, v1 (.t (.ro 1 eI 0 a0))), (7, .yes, v1 (ci (a0.length : Int))), (8, .yes, v1 (ci x7))], [], 18⟩

def g42_live_set.j0_0 (a0 : (List Int)) (o : Int) : Abs.St := ⟨[(3, .yes, v1 (cu .u16 o))], [], 18⟩

theorem g42_live_set.l0_ok {W : World} {A Kf : Nat → Prop} (K : Nat) (a0 : (List Int)) : ∀ (k : Nat) (x6 : Int) (x7 : Int) (o : Int), g42_live_set.l0 K a0 k x6 x7 = some o → WPR Try.prog W A Kf (kid [true, true, false, true, false, false] (bodyAt Try.f42)) (Out (.exit 0) (g42_live_set.j0_0 a0 o)) k (g42_live_set.h0 a0 x6 x7)
  | 0, x6, x7, o, h => by cases h
  | k + 1, x6, x7, o, h => by
    refine WPR.round ?_
    let b13 : Bool := (decide (x7 < (a0.length : Int)))
    refine StopP.advd tbOk [] 100000 1000 (by kernel_rfl) (by kernel_rfl) (ac_nil) ?_
    refine StopP.cond (b := b13) (by kernel_rfl) (fun hb14 => ?_) (fun hb14 => ?_)
    · have h := cd_t hb14 h
      obtain ⟨hg15, h⟩ := gd_some h
      obtain ⟨hg16, h⟩ := gd_some h
      let i17 : Int := (IntKind.u16.wrap ((1 : Int) * 2 ^ min (a0.getD x7.toNat 0).toNat (IntKind.bits .u16)))
      refine StopP.advd tbOk [] 100000 1000 (by kernel_rfl) (by kernel_rfl) (ac_y hg15 <| ac_y hg16 <| ac_nil) ?_
      refine StopP.out .normal (by kernel_rfl) ?_
      exact WPR.chg [.keep [3, 6, 7, 8] []] (by kernel_rfl) (g42_live_set.l0_ok K a0 k (Go.bits .or .u16 x6 i17) (IntKind.i64.wrap (x7 + (1 : Int))) o h)
    · have h := cd_f hb14 h
      refine StopP.advd tbOk [] 100000 1000 (by kernel_rfl) (by kernel_rfl) (ac_nil) ?_
      have h := sm h; subst h
      exact StopP.out (.exit 0) (by kernel_rfl) ⟨rfl, [.keep [3] []], by kernel_rfl⟩

def g42_live_set (K : Nat) (a0 : (List Int)) : Option (Int) :=
  (g42_live_set.l0 K a0 K (0 : Int) (0 : Int)).bind fun o18 =>
  some o18

theorem g42_live_set_ok (K : Nat) (a0 : (List Int)) (r : Int) (h : g42_live_set K a0 = some r) : AC Try.prog 42 [] [v1 (.t (.ro 1 eI 0 a0))] [] (v1 (cu .u16 r)) := by
  refine AC.intro (fn := Try.f42) tbOk (by kernel_rfl) rfl (by kernel_rfl) (fun W A Kf => ?_)
  refine StopP.advd tbOk [] 100000 1000 (by kernel_rfl) (by kernel_rfl) (ac_nil) ?_
  obtain ⟨o18, ho18, h⟩ := bd_some h
  refine StopP.lp (by kernel_rfl) [.keep [3, 6, 7, 8] []] (s := g42_live_set.h0 a0 (0 : Int) (0 : Int)) (by kernel_rfl) (c := (kid [true, true, false, true, false, false] (bodyAt Try.f42))) (by kernel_rfl) (e := (.exit 0)) (J := g42_live_set.j0_0 a0 o18) K (g42_live_set.l0_ok K a0 K (0 : Int) (0 : Int) o18 ho18) ?_
  refine StopP.advd tbOk [] 100000 1000 (by kernel_rfl) (by kernel_rfl) (ac_nil) ?_
  have h := sm h; subst h
  refine StopP.out .ret (by kernel_rfl) ?_
  exact ret_box (.inr rfl) [.keep [2] []] (by kernel_rfl) (by kernel_rfl) [] (by kernel_rfl)

def g28_dead_idle (K : Nat) (a0 : Op') (a1 : Int) : Option (Bool) :=
  (g36_flow_Writes K a0.Ins).bind fun r1 =>
  (g37_flow_Kind K a0.Ins).bind fun r2 =>
  let b3 : Bool := (decide (r1 < (0 : Int)))
  gd (((r2 == (0 : Int)) && (!b3)) = true → 0 ≤ r1) <|
  let i5 : Int := (Go.bits .and .u16 (Int.fdiv a1 (2 ^ min r1.toNat (IntKind.bits .u16))) (1 : Int))
  let b6 : Bool := (bif b3 then true else (i5 == (0 : Int)))
  let b7 : Bool := (bif (r2 == (0 : Int)) then b6 else false)
  some b7

theorem g28_dead_idle_ok (K : Nat) (a0 : Op') (a1 : Int) (r : Bool) (h : g28_dead_idle K a0 a1 = some r) : AC Try.prog 28 [] [.v true [ci a0.Ins.Op, ci a0.Ins.A, ci a0.Ins.B, ci a0.Ins.C, ci a0.Ins.Imm, cb a0.Rel, ci a0.Kind, ci a0.To, ci a0.Add], v1 (cu .u16 a1)] [] (v1 (cb r)) := by
  refine AC.intro (fn := Try.f28) tbOk (by kernel_rfl) rfl (by kernel_rfl) (fun W A Kf => ?_)
  obtain ⟨r1, hc1, h⟩ := bd_some h
  obtain ⟨r2, hc2, h⟩ := bd_some h
  let b3 : Bool := (decide (r1 < (0 : Int)))
  obtain ⟨hg4, h⟩ := gd_some h
  let i5 : Int := (Go.bits .and .u16 (Int.fdiv a1 (2 ^ min r1.toNat (IntKind.bits .u16))) (1 : Int))
  let b6 : Bool := (bif b3 then true else (i5 == (0 : Int)))
  let b7 : Bool := (bif (r2 == (0 : Int)) then b6 else false)
  refine StopP.advd tbOk [(1, [(2, .call [] [] (v1 (ci r1)))]), (2, [(2, .call [] [] (v1 (ci r2)))])] 100000 1000 (by kernel_rfl) (by kernel_rfl) (ac_y (g36_flow_Writes_ok K a0.Ins r1 hc1) <| ac_y (g37_flow_Kind_ok K a0.Ins r2 hc2) <| ac_on (r2 == (0 : Int)) (pt (r2 == (0 : Int))) <| ac_on (r2 == (0 : Int)) (pt (r2 == (0 : Int))) <| ac_on ((r2 == (0 : Int)) && (!b3)) (pt ((r2 == (0 : Int)) && (!b3))) <| ac_on ((r2 == (0 : Int)) && (!b3)) (pt ((r2 == (0 : Int)) && (!b3))) <| ac_on ((r2 == (0 : Int)) && (!b3)) hg4 <| ac_on ((r2 == (0 : Int)) && (!b3)) (pt ((r2 == (0 : Int)) && (!b3))) <| ac_on ((r2 == (0 : Int)) && (!b3)) (pt ((r2 == (0 : Int)) && (!b3))) <| ac_on (r2 == (0 : Int)) (pt (r2 == (0 : Int))) <| ac_on (r2 == (0 : Int)) (fun h => png b3 h) <| ac_y (pt (r2 == (0 : Int))) <| ac_nil) ?_
  have h := sm h; subst h
  refine StopP.out .ret (by kernel_rfl) ?_
  exact ret_box (.inr rfl) [.keep [4] []] (by kernel_rfl) (by kernel_rfl) [] (by kernel_rfl)

def g47_ref19_before (K : Nat) (a0 : Op') (a1 : Int) (a2 : Bool) : Option (Bool) :=
  let b1 : Bool := (a0.Ins.Op == (20 : Int))
  bif b1 then
    some true
  else
    (g58_ref03_Reads K a0.Ins a1).bind fun r3 =>
    (bif ((!r3) && a2) then g38_ref03_Writes K a0.Ins else some 0).bind fun r4 =>
    let b5 : Bool := (bif a2 then (r4 != a1) else false)
    let b6 : Bool := (bif r3 then true else b5)
    some b6

theorem g47_ref19_before_ok (K : Nat) (a0 : Op') (a1 : Int) (a2 : Bool) (r : Bool) (h : g47_ref19_before K a0 a1 a2 = some r) : AC Try.prog 47 [] [.v true [ci a0.Ins.Op, ci a0.Ins.A, ci a0.Ins.B, ci a0.Ins.C, ci a0.Ins.Imm, cb a0.Rel, ci a0.Kind, ci a0.To, ci a0.Add], v1 (ci a1), v1 (cb a2)] [] (v1 (cb r)) := by
  refine AC.intro (fn := Try.f47) tbOk (by kernel_rfl) rfl (by kernel_rfl) (fun W A Kf => ?_)
  let b1 : Bool := (a0.Ins.Op == (20 : Int))
  refine StopP.advd tbOk [] 100000 1000 (by kernel_rfl) (by kernel_rfl) (ac_nil) ?_
  refine StopP.cond (b := b1) (by kernel_rfl) (fun hb2 => ?_) (fun hb2 => ?_)
  · have h := cd_t hb2 h
    refine StopP.advd tbOk [] 100000 1000 (by kernel_rfl) (by kernel_rfl) (ac_nil) ?_
    have h := sm h; subst h
    refine StopP.out .ret (by kernel_rfl) ?_
    exact ret_box (.inr rfl) [.keep [6] []] (by kernel_rfl) (by kernel_rfl) [] (by kernel_rfl)
  · have h := cd_f hb2 h
    obtain ⟨r3, hc3, h⟩ := bd_some h
    obtain ⟨r4, hc4, h⟩ := bd_some h
    let b5 : Bool := (bif a2 then (r4 != a1) else false)
    let b6 : Bool := (bif r3 then true else b5)
    refine StopP.advd tbOk [(3, [(3, .call [] [] (v1 (cb r3))), (9, .call [] [] (v1 (ci r4)))])] 100000 1000 (by kernel_rfl) (by kernel_rfl) (ac_y (g58_ref03_Reads_ok K a0.Ins a1 r3 hc3) <| ac_on (!r3) (pt (!r3)) <| ac_on ((!r3) && a2) (pt ((!r3) && a2)) <| ac_on ((!r3) && a2) (pt ((!r3) && a2)) <| ac_on ((!r3) && a2) (fun h => g38_ref03_Writes_ok K a0.Ins r4 (cd_t h hc4)) <| ac_on ((!r3) && a2) (pt ((!r3) && a2)) <| ac_on ((!r3) && a2) (pt ((!r3) && a2)) <| ac_on (!r3) (pt (!r3)) <| ac_on (!r3) (fun h => ptg a2 h) <| ac_y (pn r3) <| ac_nil) ?_
    have h := sm h; subst h
    refine StopP.out .ret (by kernel_rfl) ?_
    exact ret_box (.inr rfl) [.keep [6] []] (by kernel_rfl) (by kernel_rfl) [] (by kernel_rfl)

def g45_ref19_end (K : Nat) (a0 : Term) (a1 : Int) (a2 : (List Bool)) : Option (Bool) :=
  bif (a0.Kind == (1 : Int)) then
    gd (0 ≤ a0.To ∧ a0.To < (a2.length : Int)) <|
    let b3 : Bool := (a2.getD a0.To.toNat false)
    some b3
  else
    bif (a0.Kind == (2 : Int)) then
      gd (0 ≤ a0.To ∧ a0.To < (a2.length : Int)) <|
      let b6 : Bool := (a2.getD a0.To.toNat false)
      gd ((!b6) = true → 0 ≤ a0.Else ∧ a0.Else < (a2.length : Int)) <|
      let b8 : Bool := (a2.getD a0.Else.toNat false)
      let b9 : Bool := (bif b6 then true else b8)
      let b10 : Bool := (bif b9 then true else (a0.A == a1))
      let b11 : Bool := (bif b10 then true else (a0.B == a1))
      some b11
    else
      let b12 : Bool := (a0.Ins.Op != (21 : Int))
      let b13 : Bool := (bif (a0.Kind == (3 : Int)) then b12 else false)
      bif b13 then
        (g58_ref03_Reads K a0.Ins a1).bind fun r15 =>
        some r15
      else
        some true

theorem g45_ref19_end_ok (K : Nat) (a0 : Term) (a1 : Int) (a2 : (List Bool)) (r : Bool) (h : g45_ref19_end K a0 a1 a2 = some r) : AC Try.prog 45 [] [.v true [ci a0.Kind, ci a0.Op, ci a0.A, ci a0.B, ci a0.To, ci a0.Else, ci a0.Ins.Op, ci a0.Ins.A, ci a0.Ins.B, ci a0.Ins.C, ci a0.Ins.Imm], v1 (ci a1), v1 (.t (.ro 1 eB false a2))] [] (v1 (cb r)) := by
  refine AC.intro (fn := Try.f45) tbOk (by kernel_rfl) rfl (by kernel_rfl) (fun W A Kf => ?_)
  refine StopP.advd tbOk [] 100000 1000 (by kernel_rfl) (by kernel_rfl) (ac_nil) ?_
  refine StopP.cond (b := (a0.Kind == (1 : Int))) (by kernel_rfl) (fun hb1 => ?_) (fun hb1 => ?_)
  · have h := cd_t hb1 h
    obtain ⟨hg2, h⟩ := gd_some h
    let b3 : Bool := (a2.getD a0.To.toNat false)
    refine StopP.advd tbOk [] 100000 1000 (by kernel_rfl) (by kernel_rfl) (ac_y hg2 <| ac_nil) ?_
    have h := sm h; subst h
    refine StopP.out .ret (by kernel_rfl) ?_
    exact ret_box (.inr rfl) [.keep [6] []] (by kernel_rfl) (by kernel_rfl) [] (by kernel_rfl)
  · have h := cd_f hb1 h
    refine StopP.advd tbOk [] 100000 1000 (by kernel_rfl) (by kernel_rfl) (ac_nil) ?_
    refine StopP.cond (b := (a0.Kind == (2 : Int))) (by kernel_rfl) (fun hb4 => ?_) (fun hb4 => ?_)
    · have h := cd_t hb4 h
      obtain ⟨hg5, h⟩ := gd_some h
      let b6 : Bool := (a2.getD a0.To.toNat false)
      obtain ⟨hg7, h⟩ := gd_some h
      let b8 : Bool := (a2.getD a0.Else.toNat false)
      let b9 : Bool := (bif b6 then true else b8)
      let b10 : Bool := (bif b9 then true else (a0.A == a1))
      let b11 : Bool := (bif b10 then true else (a0.B == a1))
      have q0 := ac_on (!b6) (pt (!b6)) <| ac_on (!b6) hg7 <| ac_on (!b6) (pt (!b6)) <| ac_y (pn b6) <| ac_on (!b9) (pt (!b9)) <| ac_on (!b9) (pt (!b9)) <| ac_on (!b9) (pt (!b9)) <| ac_y (pn b9) <| ac_on (!b10) (pt (!b10)) <| ac_on (!b10) (pt (!b10)) <| ac_on (!b10) (pt (!b10)) <| ac_y (pn b10) <| ac_nil
      refine StopP.advd tbOk [] 100000 1000 (by kernel_rfl) (by kernel_rfl) (ac_y hg5 <| ac_on (!b6) (pt (!b6)) <| ac_on (!b6) (pt (!b6)) <| q0) ?_
      have h := sm h; subst h
      refine StopP.out .ret (by kernel_rfl) ?_
      exact ret_box (.inr rfl) [.keep [6] []] (by kernel_rfl) (by kernel_rfl) [] (by kernel_rfl)
    · have h := cd_f hb4 h
      let b12 : Bool := (a0.Ins.Op != (21 : Int))
      let b13 : Bool := (bif (a0.Kind == (3 : Int)) then b12 else false)
      refine StopP.advd tbOk [] 100000 1000 (by kernel_rfl) (by kernel_rfl) (ac_on (a0.Kind == (3 : Int)) (pt (a0.Kind == (3 : Int))) <| ac_on (a0.Kind == (3 : Int)) (pt (a0.Kind == (3 : Int))) <| ac_on (a0.Kind == (3 : Int)) (pt (a0.Kind == (3 : Int))) <| ac_y (pt (a0.Kind == (3 : Int))) <| ac_nil) ?_
      refine StopP.cond (b := b13) (by kernel_rfl) (fun hb14 => ?_) (fun hb14 => ?_)
      · have h := cd_t hb14 h
        obtain ⟨r15, hc15, h⟩ := bd_some h
        refine StopP.advd tbOk [(6, [(3, .call [] [] (v1 (cb r15)))])] 100000 1000 (by kernel_rfl) (by kernel_rfl) (ac_y (g58_ref03_Reads_ok K a0.Ins a1 r15 hc15) <| ac_nil) ?_
        have h := sm h; subst h
        refine StopP.out .ret (by kernel_rfl) ?_
        exact ret_box (.inr rfl) [.keep [6] []] (by kernel_rfl) (by kernel_rfl) [] (by kernel_rfl)
      · have h := cd_f hb14 h
        refine StopP.advd tbOk [] 100000 1000 (by kernel_rfl) (by kernel_rfl) (ac_nil) ?_
        have h := sm h; subst h
        refine StopP.out .ret (by kernel_rfl) ?_
        exact ret_box (.inr rfl) [.keep [6] []] (by kernel_rfl) (by kernel_rfl) [] (by kernel_rfl)

def g46_ref19_In.l2 (K : Nat) (a0 : Graph) (a1 : Int) (x95 : Int) (x215 : (List Bool)) (x216 : Int) : Nat → Bool → Int → Option (Bool)
  | 0, _, _ => none
  | k + 1, x256, x257 =>
    let b263 : Bool := (decide (x257 ≥ (0 : Int)))
    bif b263 then
      gd (0 ≤ x216 ∧ x216 < (a0.Blocks.length : Int)) <|
      gd (0 ≤ x257 ∧ x257 < (((a0.Blocks.getD x216.toNat zBlock).Ops).length : Int)) <|
      (g47_ref19_before K (((a0.Blocks.getD x216.toNat zBlock).Ops).getD x257.toNat zOp) a1 x256).bind fun r267 =>
      g46_ref19_In.l2 K a0 a1 x95 x215 x216 k r267 (IntKind.i64.wrap (x257 - (1 : Int)))
    else
      some x256

def g46_ref19_In.h2 (a0 : Graph) (a1 : Int) (x95 : Int) (x215 : (List Bool)) (x216 : Int) (x256 : Bool) (x257 : Int) : Abs.St := ⟨[(1, .yes, v1 (ci a1)), (2, .yes, v1 (.ptr 2 0 0)), (5, .yes, v1 (.own 13)), (6, .yes, v1 (ci x95)), (7, .yes, v1 (ci x216)), (8, .yes, v1 (cb x256)), (9, .yes, v1 (ci x257))], [(2, .box 24 [cs a0.Name, cb a0.Keep, cb a0.Leaf, .t (.ro 12 cBlock zBlock a0.Blocks)]), (13, .rows 4 1 eB false x215)], 70⟩

def g46_ref19_In.j2_0 (a0 : Graph) (a1 : Int) (x95 : Int) (x215 : (List Bool)) (x216 : Int) (o : Bool) : Abs.St := ⟨[(1, .yes, v1 (ci a1)), (2, .yes, v1 (.ptr 2 0 0)), (5, .yes, v1 (.own 13)), (6, .yes, v1 (ci x95)), (7, .yes, v1 (ci x216)), (8, .yes, v1 (cb o))], [(2, .box 24 [cs a0.Name, cb a0.Keep, cb a0.Leaf, .t (.ro 12 cBlock zBlock a0.Blocks)]), (13, .rows 4 1 eB false x215)], 70⟩

theorem g46_ref19_In.l2_ok {W : World} {A Kf : Nat → Prop} (K : Nat) (a0 : Graph) (a1 : Int) (x95 : Int) (x215 : (List Bool)) (x216 : Int) : ∀ (k : Nat) (x256 : Bool) (x257 : Int) (o : Bool), g46_ref19_In.l2 K a0 a1 x95 x215 x216 k x256 x257 = some o → WPR Try.prog W A Kf (kid [true, true, false, true, false, false, true, false, false, true, false, false, true, false, false, true, false, true, false, false] (bodyAt Try.f46)) (Out (.exit 4) (g46_ref19_In.j2_0 a0 a1 x95 x215 x216 o)) k (g46_ref19_In.h2 a0 a1 x95 x215 x216 x256 x257)
  | 0, x256, x257, o, h => by cases h
  | k + 1, x256, x257, o, h => by
    refine WPR.round ?_
    let b263 : Bool := (decide (x257 ≥ (0 : Int)))
    refine StopP.advd tbOk [] 100000 1000 (by kernel_rfl) (by kernel_rfl) (ac_nil) ?_
    refine StopP.cond (b := b263) (by kernel_rfl) (fun hb264 => ?_) (fun hb264 => ?_)
    · have h := cd_t hb264 h
      obtain ⟨hg265, h⟩ := gd_some h
      obtain ⟨hg266, h⟩ := gd_some h
      obtain ⟨r267, hc267, h⟩ := bd_some h
      refine StopP.advd tbOk [(12, [(11, .call [] [] (v1 (cb r267)))])] 100000 1000 (by kernel_rfl) (by kernel_rfl) (ac_y hg265 <| ac_y hg266 <| ac_y (g47_ref19_before_ok K (((a0.Blocks.getD x216.toNat zBlock).Ops).getD x257.toNat zOp) a1 x256 r267 hc267) <| ac_nil) ?_
      refine StopP.out .normal (by kernel_rfl) ?_
      exact WPR.chg [.keep [1, 2, 5, 6, 7, 8, 9] [2, 13]] (by kernel_rfl) (g46_ref19_In.l2_ok K a0 a1 x95 x215 x216 k r267 (IntKind.i64.wrap (x257 - (1 : Int))) o h)
    · have h := cd_f hb264 h
      refine StopP.advd tbOk [] 100000 1000 (by kernel_rfl) (by kernel_rfl) (ac_nil) ?_
      have h := sm h; subst h
      exact StopP.out (.exit 4) (by kernel_rfl) ⟨rfl, [.keep [1, 2, 5, 6, 7, 8] [2, 13]], by kernel_rfl⟩

def g46_ref19_In.l1 (K : Nat) (a0 : Graph) (a1 : Int) (x95 : Int) : Nat → (List Bool) → Int → Option ((List Bool))
  | 0, _, _ => none
  | k + 1, x215, x216 =>
    let b245 : Bool := (decide (x216 < (x215.length : Int)))
    bif b245 then
      gd (0 ≤ x216 ∧ x216 < (a0.Blocks.length : Int)) <|
      (g45_ref19_end K ((a0.Blocks.getD x216.toNat zBlock).End) a1 x215).bind fun r248 =>
      gd (0 ≤ x216 ∧ x216 < (a0.Blocks.length : Int)) <|
      let i250 : Int := (IntKind.i64.wrap ((((a0.Blocks.getD x216.toNat zBlock).Ops).length : Int) - (1 : Int)))
      (g46_ref19_In.l2 K a0 a1 x95 x215 x216 K r248 i250).bind fun o268 =>
      gd (0 ≤ x216 ∧ x216 < (x215.length : Int)) <|
      let b270 : Bool := (x215.getD x216.toNat false)
      let b271 : Bool := (bif b270 then true else o268)
      gd (0 ≤ x216 ∧ x216 < (x215.length : Int)) <|
      g46_ref19_In.l1 K a0 a1 x95 k (x215.set x216.toNat b271) (IntKind.i64.wrap (x216 + (1 : Int)))
    else
      some x215

def g46_ref19_In.h1 (a0 : Graph) (a1 : Int) (x95 : Int) (x215 : (List Bool)) (x216 : Int) : Abs.St := ⟨[(1, .yes, v1 (ci a1)), (2, .yes, v1 (.ptr 2 0 0)), (5, .yes, v1 (.own 13)), (6, .yes, v1 (ci x95)), (7, .yes, v1 (ci x216))], [(2, .box 24 [cs a0.Name, cb a0.Keep, cb a0.Leaf, .t (.ro 12 cBlock zBlock a0.Blocks)]), (13, .rows 4 1 eB false x215)], 70⟩

def g46_ref19_In.j1_0 (a0 : Graph) (a1 : Int) (x95 : Int) (o : (List Bool)) : Abs.St := ⟨[(1, .yes, v1 (ci a1)), (2, .yes, v1 (.ptr 2 0 0)), (5, .yes, v1 (.own 13)), (6, .yes, v1 (ci x95))], [(2, .box 24 [cs a0.Name, cb a0.Keep, cb a0.Leaf, .t (.ro 12 cBlock zBlock a0.Blocks)]), (13, .rows 4 1 eB false o)], 70⟩

theorem g46_ref19_In.l1_ok {W : World} {A Kf : Nat → Prop} (K : Nat) (a0 : Graph) (a1 : Int) (x95 : Int) : ∀ (k : Nat) (x215 : (List Bool)) (x216 : Int) (o : (List Bool)), g46_ref19_In.l1 K a0 a1 x95 k x215 x216 = some o → WPR Try.prog W A Kf (kid [true, true, false, true, false, false, true, false, false, true, false, false] (bodyAt Try.f46)) (Out (.exit 2) (g46_ref19_In.j1_0 a0 a1 x95 o)) k (g46_ref19_In.h1 a0 a1 x95 x215 x216)
  | 0, x215, x216, o, h => by cases h
  | k + 1, x215, x216, o, h => by
    refine WPR.round ?_
    let b245 : Bool := (decide (x216 < (x215.length : Int)))
    refine StopP.advd tbOk [] 100000 1000 (by kernel_rfl) (by kernel_rfl) (ac_nil) ?_
    refine StopP.cond (b := b245) (by kernel_rfl) (fun hb246 => ?_) (fun hb246 => ?_)
    · have h := cd_t hb246 h
      obtain ⟨hg247, h⟩ := gd_some h
      obtain ⟨r248, hc248, h⟩ := bd_some h
      obtain ⟨hg249, h⟩ := gd_some h
      let i250 : Int := (IntKind.i64.wrap ((((a0.Blocks.getD x216.toNat zBlock).Ops).length : Int) - (1 : Int)))
      refine StopP.advd tbOk [(8, [(8, .call [] [] (v1 (cb r248)))])] 100000 1000 (by kernel_rfl) (by kernel_rfl) (ac_y hg247 <| ac_y (g45_ref19_end_ok K ((a0.Blocks.getD x216.toNat zBlock).End) a1 x215 r248 hc248) <| ac_c (show Plain [] (v1 (cb r248)) from ⟨rfl, fun _ h => by cases h⟩) <| ac_y hg249 <| ac_nil) ?_
      obtain ⟨o268, ho268, h⟩ := bd_some h
      refine StopP.lp (by kernel_rfl) [.keep [1, 2, 5, 6, 7, 8, 9] [2, 13]] (s := g46_ref19_In.h2 a0 a1 x95 x215 x216 r248 i250) (by kernel_rfl) (c := (kid [true, true, false, true, false, false, true, false, false, true, false, false, true, false, false, true, false, true, false, false] (bodyAt Try.f46))) (by kernel_rfl) (e := (.exit 4)) (J := g46_ref19_In.j2_0 a0 a1 x95 x215 x216 o268) K (g46_ref19_In.l2_ok K a0 a1 x95 x215 x216 K r248 i250 o268 ho268) ?_
      obtain ⟨hg269, h⟩ := gd_some h
      let b270 : Bool := (x215.getD x216.toNat false)
      let b271 : Bool := (bif b270 then true else o268)
      obtain ⟨hg272, h⟩ := gd_some h
      refine StopP.advd tbOk [(13, [(10, .obj (.rows 4 1 eB false (x215.set x216.toNat b271)))])] 100000 1000 (by kernel_rfl) (by kernel_rfl) (ac_y hg269 <| ac_y (tn hg269) <| ac_y (pn b270) <| ac_y hg272 <| ac_c (Stored.mk (ty := 4) (es := 1) (enc := eB) (z := false) (xs := x215) (i := x216.toNat) (j := 0) (n := 1) b271 (tn hg272) (by decide) rfl rfl rfl) <| ac_nil) ?_
      refine StopP.out .normal (by kernel_rfl) ?_
      exact WPR.chg [.keep [1, 2, 5, 6, 7] [2, 13]] (by kernel_rfl) (g46_ref19_In.l1_ok K a0 a1 x95 k (x215.set x216.toNat b271) (IntKind.i64.wrap (x216 + (1 : Int))) o h)
    · have h := cd_f hb246 h
      refine StopP.advd tbOk [] 100000 1000 (by kernel_rfl) (by kernel_rfl) (ac_nil) ?_
      have h := sm h; subst h
      exact StopP.out (.exit 2) (by kernel_rfl) ⟨rfl, [.keep [1, 2, 5, 6] [2, 13]], by kernel_rfl⟩

def g46_ref19_In.l0 (K : Nat) (a0 : Graph) (a1 : Int) : Nat → (List Bool) → Int → Option ((List Bool))
  | 0, _, _ => none
  | k + 1, x94, x95 =>
    let b185 : Bool := (decide (x95 ≤ (x94.length : Int)))
    bif b185 then
      (g46_ref19_In.l1 K a0 a1 x95 K x94 (0 : Int)).bind fun o273 =>
      g46_ref19_In.l0 K a0 a1 k o273 (IntKind.i64.wrap (x95 + (1 : Int)))
    else
      some x94

def g46_ref19_In.h0 (a0 : Graph) (a1 : Int) (x94 : (List Bool)) (x95 : Int) : Abs.St := ⟨[(1, .yes, v1 (ci a1)), (2, .yes, v1 (.ptr 2 0 0)), (5, .yes, v1 (.own 13)), (6, .yes, v1 (ci x95))], [(2, .box 24 [cs a0.Name, cb a0.Keep, cb a0.Leaf, .t (.ro 12 cBlock zBlock a0.Blocks)]), (13, .rows 4 1 eB false x94)], 70⟩

def g46_ref19_In.j0_0 (a0 : Graph) (a1 : Int) (o : (List Bool)) : Abs.St := ⟨[(5, .yes, v1 (.own 13))], [(13, .rows 4 1 eB false o)], 70⟩

theorem g46_ref19_In.l0_ok {W : World} {A Kf : Nat → Prop} (K : Nat) (a0 : Graph) (a1 : Int) : ∀ (k : Nat) (x94 : (List Bool)) (x95 : Int) (o : (List Bool)), g46_ref19_In.l0 K a0 a1 k x94 x95 = some o → WPR Try.prog W A Kf (kid [true, true, false, true, false, false] (bodyAt Try.f46)) (Out (.exit 0) (g46_ref19_In.j0_0 a0 a1 o)) k (g46_ref19_In.h0 a0 a1 x94 x95)
  | 0, x94, x95, o, h => by cases h
  | k + 1, x94, x95, o, h => by
    refine WPR.round ?_
    let b185 : Bool := (decide (x95 ≤ (x94.length : Int)))
    refine StopP.advd tbOk [] 100000 1000 (by kernel_rfl) (by kernel_rfl) (ac_nil) ?_
    refine StopP.cond (b := b185) (by kernel_rfl) (fun hb186 => ?_) (fun hb186 => ?_)
    · have h := cd_t hb186 h
      refine StopP.advd tbOk [] 100000 1000 (by kernel_rfl) (by kernel_rfl) (ac_nil) ?_
      obtain ⟨o273, ho273, h⟩ := bd_some h
      refine StopP.lp (by kernel_rfl) [.keep [1, 2, 5, 6, 7] [2, 13]] (s := g46_ref19_In.h1 a0 a1 x95 x94 (0 : Int)) (by kernel_rfl) (c := (kid [true, true, false, true, false, false, true, false, false, true, false, false] (bodyAt Try.f46))) (by kernel_rfl) (e := (.exit 2)) (J := g46_ref19_In.j1_0 a0 a1 x95 o273) K (g46_ref19_In.l1_ok K a0 a1 x95 K x94 (0 : Int) o273 ho273) ?_
      refine StopP.advd tbOk [] 100000 1000 (by kernel_rfl) (by kernel_rfl) (ac_nil) ?_
      refine StopP.out .normal (by kernel_rfl) ?_
      exact WPR.chg [.keep [1, 2, 5, 6] [2, 13]] (by kernel_rfl) (g46_ref19_In.l0_ok K a0 a1 k o273 (IntKind.i64.wrap (x95 + (1 : Int))) o h)
    · have h := cd_f hb186 h
      refine StopP.advd tbOk [] 100000 1000 (by kernel_rfl) (by kernel_rfl) (ac_nil) ?_
      have h := sm h; subst h
      exact StopP.out (.exit 0) (by kernel_rfl) ⟨rfl, [.keep [5] [13]], by kernel_rfl⟩

def g46_ref19_In (K : Nat) (a0 : Graph) (a1 : Int) : Option ((List Bool)) :=
  gd (0 ≤ (a0.Blocks.length : Int) ∧ (a0.Blocks.length : Int).toNat ≤ 1073741824) <|
  (g46_ref19_In.l0 K a0 a1 K (List.replicate (a0.Blocks.length : Int).toNat false) (0 : Int)).bind fun o274 =>
  some o274

theorem g46_ref19_In_ok (K : Nat) (a0 : Graph) (a1 : Int) (r : (List Bool)) (h : g46_ref19_In K a0 a1 = some r) : AC Try.prog 46 [] [.v true [cs a0.Name, cb a0.Keep, cb a0.Leaf, .t (.ro 12 cBlock zBlock a0.Blocks)], v1 (ci a1)] [(7000, .rows 4 1 eB false r)] (v1 (.own 7000)) := by
  refine AC.intro (fn := Try.f46) tbOk (by kernel_rfl) rfl (by kernel_rfl) (fun W A Kf => ?_)
  obtain ⟨hg1, h⟩ := gd_some h
  refine StopP.advd tbOk [(1, [(3, .obj (.rows 4 1 eB false (List.replicate (a0.Blocks.length : Int).toNat false)))])] 100000 1000 (by kernel_rfl) (by kernel_rfl) (ac_c (rfl : (a0.Blocks.length : Int) = (a0.Blocks.length : Int)) <| ac_c (Made.mk (ty := 4) (es := 1) (by_ := 1) (enc := eB) (z := false) (n := (a0.Blocks.length : Int)) hg1.1 rfl (sl hg1.2) (sb2 hg1.2 (by decide))) <| ac_nil) ?_
  obtain ⟨o274, ho274, h⟩ := bd_some h
  refine StopP.lp (by kernel_rfl) [.keep [1, 2, 5, 6] [2, 13]] (s := g46_ref19_In.h0 a0 a1 (List.replicate (a0.Blocks.length : Int).toNat false) (0 : Int)) (by kernel_rfl) (c := (kid [true, true, false, true, false, false] (bodyAt Try.f46))) (by kernel_rfl) (e := (.exit 0)) (J := g46_ref19_In.j0_0 a0 a1 o274) K (g46_ref19_In.l0_ok K a0 a1 K (List.replicate (a0.Blocks.length : Int).toNat false) (0 : Int) o274 ho274) ?_
  refine StopP.advd tbOk [] 100000 1000 (by kernel_rfl) (by kernel_rfl) (ac_nil) ?_
  have h := sm h; subst h
  refine StopP.out .ret (by kernel_rfl) ?_
  exact ret_box (.inr rfl) [.keep [4] [13], .ren [(13, 7000)]] (by kernel_rfl) (by kernel_rfl) [7000] (by kernel_rfl)

theorem g46_ref19_In_fz (K : Nat) (a0 : Graph) (a1 : Int) (r : (List Bool)) (h : g46_ref19_In K a0 a1 = some r) : AC Try.prog 46 [] [.v true [cs a0.Name, cb a0.Keep, cb a0.Leaf, .t (.ro 12 cBlock zBlock a0.Blocks)], v1 (ci a1)] [] (v1 (.t (.ro 1 eB false r))) :=
  AC.cast (AC.fz (g46_ref19_In_ok K a0 a1 r h) 7000 (o := .rows 4 1 eB false r) (t := .ro 1 eB false r) (by kernel_rfl) (by kernel_rfl)) (by kernel_rfl) (by kernel_rfl)

def g40_ref19_After.l0 (K : Nat) (a0 : Graph) (a1 : Int) (a2 : Int) : Nat → (List Bool) → Bool → Int → Option ((List Bool))
  | 0, _, _, _ => none
  | k + 1, x13, x14, x15 =>
    let b21 : Bool := (decide (x15 ≥ (0 : Int)))
    bif b21 then
      gd (0 ≤ x15 ∧ x15 < (x13.length : Int)) <|
      gd (0 ≤ x15 ∧ x15 < (((a0.Blocks.getD a1.toNat zBlock).Ops).length : Int)) <|
      (g47_ref19_before K (((a0.Blocks.getD a1.toNat zBlock).Ops).getD x15.toNat zOp) a2 x14).bind fun r25 =>
      g40_ref19_After.l0 K a0 a1 a2 k (x13.set x15.toNat x14) r25 (IntKind.i64.wrap (x15 - (1 : Int)))
    else
      some x13

def g40_ref19_After.h0 (a0 : Graph) (a1 : Int) (a2 : Int) (x13 : (List Bool)) (x14 : Bool) (x15 : Int) : Abs.St := ⟨[(2, .yes, v1 (ci a2)), (7, .yes, v1 (.t (.ro 9 cOp zOp ((a0.Blocks.getD a1.toNat zBlock).Ops)))), (8, .yes, v1 (.own 19)), (9, .yes, v1 (cb x14)), (10, .yes, v1 (ci x15))], [(19, .rows 4 1 eB false x13)], 50⟩

def g40_ref19_After.j0_0 (a0 : Graph) (a1 : Int) (a2 : Int) (o : (List Bool)) : Abs.St := ⟨[(8, .yes, v1 (.own 19))], [(19, .rows 4 1 eB false o)], 50⟩

theorem g40_ref19_After.l0_ok {W : World} {A Kf : Nat → Prop} (K : Nat) (a0 : Graph) (a1 : Int) (a2 : Int) : ∀ (k : Nat) (x13 : (List Bool)) (x14 : Bool) (x15 : Int) (o : (List Bool)), g40_ref19_After.l0 K a0 a1 a2 k x13 x14 x15 = some o → WPR Try.prog W A Kf (kid [true, true, true, true, false, true, false, false] (bodyAt Try.f40)) (Out (.exit 0) (g40_ref19_After.j0_0 a0 a1 a2 o)) k (g40_ref19_After.h0 a0 a1 a2 x13 x14 x15)
  | 0, x13, x14, x15, o, h => by cases h
  | k + 1, x13, x14, x15, o, h => by
    refine WPR.round ?_
    let b21 : Bool := (decide (x15 ≥ (0 : Int)))
    refine StopP.advd tbOk [] 100000 1000 (by kernel_rfl) (by kernel_rfl) (ac_nil) ?_
    refine StopP.cond (b := b21) (by kernel_rfl) (fun hb22 => ?_) (fun hb22 => ?_)
    · have h := cd_t hb22 h
      obtain ⟨hg23, h⟩ := gd_some h
      obtain ⟨hg24, h⟩ := gd_some h
      obtain ⟨r25, hc25, h⟩ := bd_some h
      refine StopP.advd tbOk [(7, [(4, .obj (.rows 4 1 eB false (x13.set x15.toNat x14)))]), (8, [(6, .call [] [] (v1 (cb r25)))])] 100000 1000 (by kernel_rfl) (by kernel_rfl) (ac_y hg23 <| ac_c (Stored.mk (ty := 4) (es := 1) (enc := eB) (z := false) (xs := x13) (i := x15.toNat) (j := 0) (n := 1) x14 (tn hg23) (by decide) rfl rfl rfl) <| ac_y hg24 <| ac_y (g47_ref19_before_ok K (((a0.Blocks.getD a1.toNat zBlock).Ops).getD x15.toNat zOp) a2 x14 r25 hc25) <| ac_nil) ?_
      refine StopP.out .normal (by kernel_rfl) ?_
      exact WPR.chg [.keep [2, 7, 8, 9, 10] [19]] (by kernel_rfl) (g40_ref19_After.l0_ok K a0 a1 a2 k (x13.set x15.toNat x14) r25 (IntKind.i64.wrap (x15 - (1 : Int))) o h)
    · have h := cd_f hb22 h
      refine StopP.advd tbOk [] 100000 1000 (by kernel_rfl) (by kernel_rfl) (ac_nil) ?_
      have h := sm h; subst h
      exact StopP.out (.exit 0) (by kernel_rfl) ⟨rfl, [.keep [8] [19]], by kernel_rfl⟩

def g40_ref19_After (K : Nat) (a0 : Graph) (a1 : Int) (a2 : Int) : Option ((List Bool)) :=
  gd (0 ≤ a1 ∧ a1 < (a0.Blocks.length : Int)) <|
  gd (0 ≤ (((a0.Blocks.getD a1.toNat zBlock).Ops).length : Int) ∧ (((a0.Blocks.getD a1.toNat zBlock).Ops).length : Int).toNat ≤ 1073741824) <|
  let y3 : List Bool := (List.replicate (((a0.Blocks.getD a1.toNat zBlock).Ops).length : Int).toNat false)
  gd (0 ≤ a1 ∧ a1 < (a0.Blocks.length : Int)) <|
  (g46_ref19_In K a0 a2).bind fun r5 =>
  (g45_ref19_end K ((a0.Blocks.getD a1.toNat zBlock).End) a2 r5).bind fun r6 =>
  let i7 : Int := (IntKind.i64.wrap ((((a0.Blocks.getD a1.toNat zBlock).Ops).length : Int) - (1 : Int)))
  (g40_ref19_After.l0 K a0 a1 a2 K y3 r6 i7).bind fun o26 =>
  some o26

theorem g40_ref19_After_ok (K : Nat) (a0 : Graph) (a1 : Int) (a2 : Int) (r : (List Bool)) (h : g40_ref19_After K a0 a1 a2 = some r) : AC Try.prog 40 [] [.v true [cs a0.Name, cb a0.Keep, cb a0.Leaf, .t (.ro 12 cBlock zBlock a0.Blocks)], v1 (ci a1), v1 (ci a2)] [(7000, .rows 4 1 eB false r)] (v1 (.own 7000)) := by
  refine AC.intro (fn := Try.f40) tbOk (by kernel_rfl) rfl (by kernel_rfl) (fun W A Kf => ?_)
  obtain ⟨hg1, h⟩ := gd_some h
  obtain ⟨hg2, h⟩ := gd_some h
  let y3 : List Bool := (List.replicate (((a0.Blocks.getD a1.toNat zBlock).Ops).length : Int).toNat false)
  obtain ⟨hg4, h⟩ := gd_some h
  obtain ⟨r5, hc5, h⟩ := bd_some h
  obtain ⟨r6, hc6, h⟩ := bd_some h
  let i7 : Int := (IntKind.i64.wrap ((((a0.Blocks.getD a1.toNat zBlock).Ops).length : Int) - (1 : Int)))
  refine StopP.advd tbOk [(2, [(2, .obj (.rows 4 1 eB false (List.replicate (((a0.Blocks.getD a1.toNat zBlock).Ops).length : Int).toNat false)))]), (3, [(9, .call [] [] (v1 (.t (.ro 1 eB false r5)))), (10, .call [] [] (v1 (cb r6)))])] 100000 1000 (by kernel_rfl) (by kernel_rfl) (ac_y hg1 <| ac_c (rfl : (((a0.Blocks.getD a1.toNat zBlock).Ops).length : Int) = (((a0.Blocks.getD a1.toNat zBlock).Ops).length : Int)) <| ac_c (Made.mk (ty := 4) (es := 1) (by_ := 1) (enc := eB) (z := false) (n := (((a0.Blocks.getD a1.toNat zBlock).Ops).length : Int)) hg2.1 rfl (sl hg2.2) (sb2 hg2.2 (by decide))) <| ac_y hg4 <| ac_y (g46_ref19_In_fz K a0 a2 r5 hc5) <| ac_y (g45_ref19_end_ok K ((a0.Blocks.getD a1.toNat zBlock).End) a2 r5 r6 hc6) <| ac_nil) ?_
  obtain ⟨o26, ho26, h⟩ := bd_some h
  refine StopP.lp (by kernel_rfl) [.keep [2, 7, 8, 9, 10] [19]] (s := g40_ref19_After.h0 a0 a1 a2 y3 r6 i7) (by kernel_rfl) (c := (kid [true, true, true, true, false, true, false, false] (bodyAt Try.f40))) (by kernel_rfl) (e := (.exit 0)) (J := g40_ref19_After.j0_0 a0 a1 a2 o26) K (g40_ref19_After.l0_ok K a0 a1 a2 K y3 r6 i7 o26 ho26) ?_
  refine StopP.advd tbOk [] 100000 1000 (by kernel_rfl) (by kernel_rfl) (ac_nil) ?_
  have h := sm h; subst h
  refine StopP.out .ret (by kernel_rfl) ?_
  exact ret_box (.inr rfl) [.keep [6] [19], .ren [(19, 7000)]] (by kernel_rfl) (by kernel_rfl) [7000] (by kernel_rfl)

theorem g40_ref19_After_fz (K : Nat) (a0 : Graph) (a1 : Int) (a2 : Int) (r : (List Bool)) (h : g40_ref19_After K a0 a1 a2 = some r) : AC Try.prog 40 [] [.v true [cs a0.Name, cb a0.Keep, cb a0.Leaf, .t (.ro 12 cBlock zBlock a0.Blocks)], v1 (ci a1), v1 (ci a2)] [] (v1 (.t (.ro 1 eB false r))) :=
  AC.cast (AC.fz (g40_ref19_After_ok K a0 a1 a2 r h) 7000 (o := .rows 4 1 eB false r) (t := .ro 1 eB false r) (by kernel_rfl) (by kernel_rfl)) (by kernel_rfl) (by kernel_rfl)

def g29_ref22_idle (K : Nat) (a0 : Graph) (a1 : Int) (a2 : Int) : Option (Bool) :=
  gd (0 ≤ a1 ∧ a1 < (a0.Blocks.length : Int)) <|
  gd (0 ≤ a2 ∧ a2 < (((a0.Blocks.getD a1.toNat zBlock).Ops).length : Int)) <|
  (g38_ref03_Writes K ((((a0.Blocks.getD a1.toNat zBlock).Ops).getD a2.toNat zOp).Ins)).bind fun r3 =>
  (g39_ref03_Kind K ((((a0.Blocks.getD a1.toNat zBlock).Ops).getD a2.toNat zOp).Ins)).bind fun r4 =>
  let b5 : Bool := (decide (r3 < (0 : Int)))
  (bif ((r4 == (0 : Int)) && (!b5)) then g40_ref19_After K a0 a1 r3 else some []).bind fun r6 =>
  gd (((r4 == (0 : Int)) && (!b5)) = true → 0 ≤ a2 ∧ a2 < (r6.length : Int)) <|
  let b8 : Bool := (!(r6.getD a2.toNat false))
  let b9 : Bool := (bif b5 then true else b8)
  let b10 : Bool := (bif (r4 == (0 : Int)) then b9 else false)
  some b10

theorem g29_ref22_idle_ok (K : Nat) (a0 : Graph) (a1 : Int) (a2 : Int) (r : Bool) (h : g29_ref22_idle K a0 a1 a2 = some r) : AC Try.prog 29 [] [.v true [cs a0.Name, cb a0.Keep, cb a0.Leaf, .t (.ro 12 cBlock zBlock a0.Blocks)], v1 (ci a1), v1 (ci a2)] [] (v1 (cb r)) := by
  refine AC.intro (fn := Try.f29) tbOk (by kernel_rfl) rfl (by kernel_rfl) (fun W A Kf => ?_)
  obtain ⟨hg1, h⟩ := gd_some h
  obtain ⟨hg2, h⟩ := gd_some h
  obtain ⟨r3, hc3, h⟩ := bd_some h
  obtain ⟨r4, hc4, h⟩ := bd_some h
  let b5 : Bool := (decide (r3 < (0 : Int)))
  obtain ⟨r6, hc6, h⟩ := bd_some h
  obtain ⟨hg7, h⟩ := gd_some h
  let b8 : Bool := (!(r6.getD a2.toNat false))
  let b9 : Bool := (bif b5 then true else b8)
  let b10 : Bool := (bif (r4 == (0 : Int)) then b9 else false)
  have q0 := ac_on ((r4 == (0 : Int)) && (!b5)) (pt ((r4 == (0 : Int)) && (!b5))) <| ac_on ((r4 == (0 : Int)) && (!b5)) (pt ((r4 == (0 : Int)) && (!b5))) <| ac_on ((r4 == (0 : Int)) && (!b5)) (pt ((r4 == (0 : Int)) && (!b5))) <| ac_on ((r4 == (0 : Int)) && (!b5)) (fun h => g40_ref19_After_fz K a0 a1 r3 r6 (cd_t h hc6)) <| ac_on ((r4 == (0 : Int)) && (!b5)) (pt ((r4 == (0 : Int)) && (!b5))) <| ac_on ((r4 == (0 : Int)) && (!b5)) (pt ((r4 == (0 : Int)) && (!b5))) <| ac_on ((r4 == (0 : Int)) && (!b5)) hg7 <| ac_on ((r4 == (0 : Int)) && (!b5)) (pt ((r4 == (0 : Int)) && (!b5))) <| ac_on ((r4 == (0 : Int)) && (!b5)) (pt ((r4 == (0 : Int)) && (!b5))) <| ac_on (r4 == (0 : Int)) (pt (r4 == (0 : Int))) <| ac_on (r4 == (0 : Int)) (fun h => png b5 h) <| ac_y (pt (r4 == (0 : Int))) <| ac_nil
  refine StopP.advd tbOk [(2, [(2, .call [] [] (v1 (ci r3)))]), (3, [(2, .call [] [] (v1 (ci r4))), (11, .call [] [] (v1 (.t (.ro 1 eB false r6))))])] 100000 1000 (by kernel_rfl) (by kernel_rfl) (ac_y hg1 <| ac_y hg2 <| ac_y (g38_ref03_Writes_ok K ((((a0.Blocks.getD a1.toNat zBlock).Ops).getD a2.toNat zOp).Ins) r3 hc3) <| ac_y (g39_ref03_Kind_ok K ((((a0.Blocks.getD a1.toNat zBlock).Ops).getD a2.toNat zOp).Ins) r4 hc4) <| ac_on (r4 == (0 : Int)) (pt (r4 == (0 : Int))) <| ac_on (r4 == (0 : Int)) (pt (r4 == (0 : Int))) <| q0) ?_
  have h := sm h; subst h
  refine StopP.out .ret (by kernel_rfl) ?_
  exact ret_box (.inr rfl) [.keep [6] []] (by kernel_rfl) (by kernel_rfl) [] (by kernel_rfl)

def g21_ref16_Copy.l0 (K : Nat) (a0 : Graph) : Nat → (List Block) → Int → Option (ByteArray × (List Block))
  | 0, _, _ => none
  | k + 1, x23, x24 =>
    let b32 : Bool := (decide (x24 < (a0.Blocks.length : Int)))
    bif b32 then
      gd (0 ≤ x24 ∧ x24 < (a0.Blocks.length : Int)) <|
      gd (([] : List Op').length + ((a0.Blocks.getD x24.toNat zBlock).Ops).length ≤ 1073741824) <|
      gd (0 ≤ x24 ∧ x24 < (a0.Blocks.length : Int)) <|
      let y37 : List Block := ([(⟨(([] : List Op') ++ (a0.Blocks.getD x24.toNat zBlock).Ops), (a0.Blocks.getD x24.toNat zBlock).End⟩ : Block)] : List Block)
      gd (x23.length + y37.length ≤ 1073741824) <|
      g21_ref16_Copy.l0 K a0 k (x23 ++ y37) (IntKind.i64.wrap (x24 + (1 : Int)))
    else
      some (ByteArray.empty, x23)

def g21_ref16_Copy.h0 (a0 : Graph) (x23 : (List Block)) (x24 : Int) : Abs.St := ⟨[(1, .yes, v1 (.ptr 1 0 0)), (2, .yes, v1 (.ptr 2 0 0)), (3, .yes, v1 (.ptr 3 0 0)), (4, .yes, v1 (ci x24))], [(1, .box 24 [cs a0.Name, cb a0.Keep, cb a0.Leaf, .t (.ro 12 cBlock zBlock a0.Blocks)]), (2, .box 24 [cs ByteArray.empty, cb false, cb false, .t (.ro 12 cBlock zBlock ([]))]), (3, .box 24 [cs a0.Name, cb a0.Keep, cb a0.Leaf, .own 5000]), (5000, .rows 39 12 cBlock zBlock x23)], 35⟩

def g21_ref16_Copy.j0_0 (a0 : Graph) (o : ByteArray × (List Block)) : Abs.St := ⟨[(2, .yes, v1 (.ptr 2 0 0)), (3, .yes, v1 (.ptr 3 0 0))], [(2, .box 24 [cs o.1, cb false, cb false, .t (.ro 12 cBlock zBlock ([]))]), (3, .box 24 [cs a0.Name, cb a0.Keep, cb a0.Leaf, .own 5000]), (5000, .rows 39 12 cBlock zBlock o.2)], 35⟩

theorem g21_ref16_Copy.l0_ok {W : World} {A Kf : Nat → Prop} (K : Nat) (a0 : Graph) : ∀ (k : Nat) (x23 : (List Block)) (x24 : Int) (o : ByteArray × (List Block)), g21_ref16_Copy.l0 K a0 k x23 x24 = some o → WPR Try.prog W A Kf (kid [true, true, true, false, true, false, false] (bodyAt Try.f21)) (Out (.exit 0) (g21_ref16_Copy.j0_0 a0 o)) k (g21_ref16_Copy.h0 a0 x23 x24)
  | 0, x23, x24, o, h => by cases h
  | k + 1, x23, x24, o, h => by
    refine WPR.round ?_
    let b32 : Bool := (decide (x24 < (a0.Blocks.length : Int)))
    refine StopP.advd tbOk [] 100000 1000 (by kernel_rfl) (by kernel_rfl) (ac_nil) ?_
    refine StopP.cond (b := b32) (by kernel_rfl) (fun hb33 => ?_) (fun hb33 => ?_)
    · have h := cd_t hb33 h
      obtain ⟨hg34, h⟩ := gd_some h
      obtain ⟨hg35, h⟩ := gd_some h
      obtain ⟨hg36, h⟩ := gd_some h
      let y37 : List Block := ([(⟨(([] : List Op') ++ (a0.Blocks.getD x24.toNat zBlock).Ops), (a0.Blocks.getD x24.toNat zBlock).End⟩ : Block)] : List Block)
      obtain ⟨hg38, h⟩ := gd_some h
      refine StopP.advd tbOk [(6, [(2, .obj (.rows 35 9 cOp zOp ([] : List Op'))), (9, .fz (.rows 35 9 cOp zOp (([] : List Op') ++ (a0.Blocks.getD x24.toNat zBlock).Ops))), (17, .obj (.rows 39 12 cBlock zBlock ([(⟨(([] : List Op') ++ (a0.Blocks.getD x24.toNat zBlock).Ops), (a0.Blocks.getD x24.toNat zBlock).End⟩ : Block)] : List Block))), (18, .obj (.rows 39 12 cBlock zBlock (x23 ++ y37)))])] 100000 1000 (by kernel_rfl) (by kernel_rfl) (ac_c (Built.mk (ty := 35) (es := 9) (enc := cOp) (z := zOp) (xs := ([] : List Op')) (fun _ _ => rfl) (by decide : (0 * 9 : Nat) ≤ 16777216)) <| ac_y hg34 <| ac_c (Appended.mk (ty := 35) (es := 9) (by_ := 72) (enc := cOp) (z := zOp) (z' := zOp) (xs := ([] : List Op')) (ys := (a0.Blocks.getD x24.toNat zBlock).Ops) (fun _ _ => rfl) (sl hg35) (sb hg35 (by decide))) <| ac_y hg36 <| ac_c (Built.mk (ty := 39) (es := 12) (enc := cBlock) (z := zBlock) (xs := ([(⟨(([] : List Op') ++ (a0.Blocks.getD x24.toNat zBlock).Ops), (a0.Blocks.getD x24.toNat zBlock).End⟩ : Block)] : List Block)) (fun _ _ => rfl) (by decide : (1 * 12 : Nat) ≤ 16777216)) <| ac_c (Appended.mk (ty := 39) (es := 12) (by_ := 112) (enc := cBlock) (z := zBlock) (z' := zBlock) (xs := x23) (ys := y37) (fun _ _ => rfl) (sl hg38) (sb hg38 (by decide))) <| ac_nil) ?_
      refine StopP.out .normal (by kernel_rfl) ?_
      exact WPR.chg [.keep [1, 2, 3, 4] [1, 2, 3, 32], .ren [(32, 5000)]] (by kernel_rfl) (g21_ref16_Copy.l0_ok K a0 k (x23 ++ y37) (IntKind.i64.wrap (x24 + (1 : Int))) o h)
    · have h := cd_f hb33 h
      refine StopP.advd tbOk [] 100000 1000 (by kernel_rfl) (by kernel_rfl) (ac_nil) ?_
      have h := sm h; subst h
      exact StopP.out (.exit 0) (by kernel_rfl) ⟨rfl, [.keep [2, 3] [2, 3, 5000]], by kernel_rfl⟩

def g21_ref16_Copy (K : Nat) (a0 : Graph) : Option (Graph) :=
  (g21_ref16_Copy.l0 K a0 K ([]) (0 : Int)).bind fun o39 =>
  some (⟨a0.Name, a0.Keep, a0.Leaf, o39.2⟩ : Graph)

theorem g21_ref16_Copy_ok (K : Nat) (a0 : Graph) (r : Graph) (h : g21_ref16_Copy K a0 = some r) : AC Try.prog 21 [] [.v true [cs a0.Name, cb a0.Keep, cb a0.Leaf, .t (.ro 12 cBlock zBlock a0.Blocks)]] [(7000, .rows 39 12 cBlock zBlock r.Blocks)] (.v true [cs r.Name, cb r.Keep, cb r.Leaf, .own 7000]) := by
  refine AC.intro (fn := Try.f21) tbOk (by kernel_rfl) rfl (by kernel_rfl) (fun W A Kf => ?_)
  refine StopP.advd tbOk [] 100000 1000 (by kernel_rfl) (by kernel_rfl) (ac_nil) ?_
  obtain ⟨o39, ho39, h⟩ := bd_some h
  refine StopP.lp (by kernel_rfl) [.own (.box 3 3) 5000 (.rows 39 12 cBlock zBlock []), .keep [1, 2, 3, 4] [1, 2, 3, 5000]] (s := g21_ref16_Copy.h0 a0 ([]) (0 : Int)) (by kernel_rfl) (c := (kid [true, true, true, false, true, false, false] (bodyAt Try.f21))) (by kernel_rfl) (e := (.exit 0)) (J := g21_ref16_Copy.j0_0 a0 o39) K (g21_ref16_Copy.l0_ok K a0 K ([]) (0 : Int) o39 ho39) ?_
  refine StopP.advd tbOk [] 100000 1000 (by kernel_rfl) (by kernel_rfl) (ac_nil) ?_
  have h := sm h; subst h
  refine StopP.out .ret (by kernel_rfl) ?_
  exact ret_box (.inr rfl) [.keep [2] [2, 5000], .ren [(5000, 7000)]] (by kernel_rfl) (by kernel_rfl) [7000] (by kernel_rfl)

theorem g21_ref16_Copy_fz (K : Nat) (a0 : Graph) (r : Graph) (h : g21_ref16_Copy K a0 = some r) : AC Try.prog 21 [] [.v true [cs a0.Name, cb a0.Keep, cb a0.Leaf, .t (.ro 12 cBlock zBlock a0.Blocks)]] [] (.v true [cs r.Name, cb r.Keep, cb r.Leaf, .t (.ro 12 cBlock zBlock r.Blocks)]) :=
  AC.cast (AC.fz (g21_ref16_Copy_ok K a0 r h) 7000 (o := .rows 39 12 cBlock zBlock r.Blocks) (t := .ro 12 cBlock zBlock r.Blocks) (by kernel_rfl) (by kernel_rfl)) (by kernel_rfl) (by kernel_rfl)

def g12_ref22_Thread.l0 (K : Nat) (a0 : Graph) (r1 : Graph) : Nat → (List Block) → Int → Option (ByteArray × (List Block))
  | 0, _, _ => none
  | k + 1, x31, x32 =>
    let b62 : Bool := (decide (x32 < (x31.length : Int)))
    bif b62 then
      gd (0 ≤ x32 ∧ x32 < (a0.Blocks.length : Int)) <|
      let b65 : Bool := ((a0.Blocks.getD x32.toNat zBlock).End.Kind == (1 : Int))
      let b66 : Bool := ((a0.Blocks.getD x32.toNat zBlock).End.Kind == (2 : Int))
      let b67 : Bool := (bif b65 then true else b66)
      bif b67 then
        (g25_ref22_through K a0 ((a0.Blocks.getD x32.toNat zBlock).End.To)).bind fun r69 =>
        let b70 : Bool := ((a0.Blocks.getD x32.toNat zBlock).End.Kind == (2 : Int))
        bif b70 then
          (g25_ref22_through K a0 ((a0.Blocks.getD x32.toNat zBlock).End.Else)).bind fun r72 =>
          bif (r72 == r69) then
            gd (0 ≤ x32 ∧ x32 < (x31.length : Int)) <|
            let y75 : List Block := (x31.set x32.toNat (⟨(x31.getD x32.toNat zBlock).Ops, (⟨(1 : Int), (0 : Int), (0 : Int), (0 : Int), r69, (0 : Int), (⟨(0 : Int), (0 : Int), (0 : Int), (0 : Int), (0 : Int)⟩ : Ins)⟩ : Term)⟩ : Block))
            g12_ref22_Thread.l0 K a0 r1 k y75 (IntKind.i64.wrap (x32 + (1 : Int)))
          else
            gd (0 ≤ x32 ∧ x32 < (x31.length : Int)) <|
            let y77 : List Block := (x31.set x32.toNat (⟨(x31.getD x32.toNat zBlock).Ops, (⟨(a0.Blocks.getD x32.toNat zBlock).End.Kind, (a0.Blocks.getD x32.toNat zBlock).End.Op, (a0.Blocks.getD x32.toNat zBlock).End.A, (a0.Blocks.getD x32.toNat zBlock).End.B, r69, r72, (a0.Blocks.getD x32.toNat zBlock).End.Ins⟩ : Term)⟩ : Block))
            g12_ref22_Thread.l0 K a0 r1 k y77 (IntKind.i64.wrap (x32 + (1 : Int)))
        else
          gd (0 ≤ x32 ∧ x32 < (x31.length : Int)) <|
          let y79 : List Block := (x31.set x32.toNat (⟨(x31.getD x32.toNat zBlock).Ops, (⟨(a0.Blocks.getD x32.toNat zBlock).End.Kind, (a0.Blocks.getD x32.toNat zBlock).End.Op, (a0.Blocks.getD x32.toNat zBlock).End.A, (a0.Blocks.getD x32.toNat zBlock).End.B, r69, (a0.Blocks.getD x32.toNat zBlock).End.Else, (a0.Blocks.getD x32.toNat zBlock).End.Ins⟩ : Term)⟩ : Block))
          g12_ref22_Thread.l0 K a0 r1 k y79 (IntKind.i64.wrap (x32 + (1 : Int)))
      else
        let b80 : Bool := ((a0.Blocks.getD x32.toNat zBlock).End.Kind == (2 : Int))
        bif b80 then
          (g25_ref22_through K a0 ((a0.Blocks.getD x32.toNat zBlock).End.Else)).bind fun r82 =>
          let b83 : Bool := (r82 == (a0.Blocks.getD x32.toNat zBlock).End.To)
          bif b83 then
            gd (0 ≤ x32 ∧ x32 < (x31.length : Int)) <|
            let y86 : List Block := (x31.set x32.toNat (⟨(x31.getD x32.toNat zBlock).Ops, (⟨(1 : Int), (0 : Int), (0 : Int), (0 : Int), (a0.Blocks.getD x32.toNat zBlock).End.To, (0 : Int), (⟨(0 : Int), (0 : Int), (0 : Int), (0 : Int), (0 : Int)⟩ : Ins)⟩ : Term)⟩ : Block))
            g12_ref22_Thread.l0 K a0 r1 k y86 (IntKind.i64.wrap (x32 + (1 : Int)))
          else
            gd (0 ≤ x32 ∧ x32 < (x31.length : Int)) <|
            let y88 : List Block := (x31.set x32.toNat (⟨(x31.getD x32.toNat zBlock).Ops, (⟨(a0.Blocks.getD x32.toNat zBlock).End.Kind, (a0.Blocks.getD x32.toNat zBlock).End.Op, (a0.Blocks.getD x32.toNat zBlock).End.A, (a0.Blocks.getD x32.toNat zBlock).End.B, (a0.Blocks.getD x32.toNat zBlock).End.To, r82, (a0.Blocks.getD x32.toNat zBlock).End.Ins⟩ : Term)⟩ : Block))
            g12_ref22_Thread.l0 K a0 r1 k y88 (IntKind.i64.wrap (x32 + (1 : Int)))
        else
          gd (0 ≤ x32 ∧ x32 < (x31.length : Int)) <|
          let y90 : List Block := (x31.set x32.toNat (⟨(x31.getD x32.toNat zBlock).Ops, (a0.Blocks.getD x32.toNat zBlock).End⟩ : Block))
          g12_ref22_Thread.l0 K a0 r1 k y90 (IntKind.i64.wrap (x32 + (1 : Int)))
    else
      some (ByteArray.empty, x31)

def g12_ref22_Thread.h0 (a0 : Graph) (r1 : Graph) (x31 : (List Block)) (x32 : Int) : Abs.St := ⟨[(1, .yes, v1 (.ptr 1 0 0)), (2, .yes, v1 (.ptr 2 0 0)), (3, .yes, v1 (.ptr 3 0 0)), (4, .yes, v1 (ci x32))], [(1, .box 24 [cs a0.Name, cb a0.Keep, cb a0.Leaf, .t (.ro 12 cBlock zBlock a0.Blocks)]), (2, .box 24 [cs ByteArray.empty, cb false, cb false, .t (.ro 12 cBlock zBlock ([]))]), (3, .box 24 [cs r1.Name, cb r1.Keep, cb r1.Leaf, .own 20070]), (20070, .rows 39 12 cBlock zBlock x31)], 57⟩

def g12_ref22_Thread.j0_0 (a0 : Graph) (r1 : Graph) (o : ByteArray × (List Block)) : Abs.St := ⟨[(2, .yes, v1 (.ptr 2 0 0)), (3, .yes, v1 (.ptr 3 0 0))], [(2, .box 24 [cs o.1, cb false, cb false, .t (.ro 12 cBlock zBlock ([]))]), (3, .box 24 [cs r1.Name, cb r1.Keep, cb r1.Leaf, .own 20070]), (20070, .rows 39 12 cBlock zBlock o.2)], 57⟩

theorem g12_ref22_Thread.l0_ok {W : World} {A Kf : Nat → Prop} (K : Nat) (a0 : Graph) (r1 : Graph) : ∀ (k : Nat) (x31 : (List Block)) (x32 : Int) (o : ByteArray × (List Block)), g12_ref22_Thread.l0 K a0 r1 k x31 x32 = some o → WPR Try.prog W A Kf (kid [true, true, false, true, false, false] (bodyAt Try.f12)) (Out (.exit 0) (g12_ref22_Thread.j0_0 a0 r1 o)) k (g12_ref22_Thread.h0 a0 r1 x31 x32)
  | 0, x31, x32, o, h => by cases h
  | k + 1, x31, x32, o, h => by
    refine WPR.round ?_
    let b62 : Bool := (decide (x32 < (x31.length : Int)))
    refine StopP.advd tbOk [] 100000 1000 (by kernel_rfl) (by kernel_rfl) (ac_nil) ?_
    refine StopP.cond (b := b62) (by kernel_rfl) (fun hb63 => ?_) (fun hb63 => ?_)
    · have h := cd_t hb63 h
      obtain ⟨hg64, h⟩ := gd_some h
      let b65 : Bool := ((a0.Blocks.getD x32.toNat zBlock).End.Kind == (1 : Int))
      let b66 : Bool := ((a0.Blocks.getD x32.toNat zBlock).End.Kind == (2 : Int))
      let b67 : Bool := (bif b65 then true else b66)
      refine StopP.advd tbOk [] 100000 1000 (by kernel_rfl) (by kernel_rfl) (ac_y hg64 <| ac_on (!b65) (pt (!b65)) <| ac_on (!b65) (pt (!b65)) <| ac_y (pn b65) <| ac_nil) ?_
      refine StopP.cond (b := b67) (by kernel_rfl) (fun hb68 => ?_) (fun hb68 => ?_)
      · have h := cd_t hb68 h
        obtain ⟨r69, hc69, h⟩ := bd_some h
        let b70 : Bool := ((a0.Blocks.getD x32.toNat zBlock).End.Kind == (2 : Int))
        refine StopP.advd tbOk [(7, [(3, .call [] [] (v1 (ci r69)))])] 100000 1000 (by kernel_rfl) (by kernel_rfl) (ac_y (g25_ref22_through_ok K a0 ((a0.Blocks.getD x32.toNat zBlock).End.To) r69 hc69) <| ac_nil) ?_
        refine StopP.cond (b := b70) (by kernel_rfl) (fun hb71 => ?_) (fun hb71 => ?_)
        · have h := cd_t hb71 h
          obtain ⟨r72, hc72, h⟩ := bd_some h
          refine StopP.advd tbOk [(9, [(3, .call [] [] (v1 (ci r72)))])] 100000 1000 (by kernel_rfl) (by kernel_rfl) (ac_y (g25_ref22_through_ok K a0 ((a0.Blocks.getD x32.toNat zBlock).End.Else) r72 hc72) <| ac_nil) ?_
          refine StopP.cond (b := (r72 == r69)) (by kernel_rfl) (fun hb73 => ?_) (fun hb73 => ?_)
          · have h := cd_t hb73 h
            refine StopP.reb [.keep [1, 2, 3, 4, 5] [1, 2, 3, 5, 20070]] (st' := .at (kid [true, true, false, true, false, false, true, false, false, true, true, false, true, false, true, true, false] (bodyAt Try.f12)) [.code (kid [true, true, false, true, false, false, true, false, false, true, true, true] (bodyAt Try.f12)), .blk 1, .code (kid [true, true, false, true, false, false, true, true] (bodyAt Try.f12))] ⟨[(1, .yes, v1 (.ptr 1 0 0)), (2, .yes, v1 (.ptr 2 0 0)), (3, .yes, v1 (.ptr 3 0 0)), (4, .yes, v1 (ci x32)), (5, .yes, v1 (.ptr 5 0 0))], [(1, .box 24 [cs a0.Name, cb a0.Keep, cb a0.Leaf, .t (.ro 12 cBlock zBlock a0.Blocks)]), (2, .box 24 [cs ByteArray.empty, cb false, cb false, .t (.ro 12 cBlock zBlock ([]))]), (3, .box 24 [cs r1.Name, cb r1.Keep, cb r1.Leaf, .own 20070]), (5, .box 37 [ci ((a0.Blocks.getD x32.toNat zBlock).End.Kind), ci ((a0.Blocks.getD x32.toNat zBlock).End.Op), ci ((a0.Blocks.getD x32.toNat zBlock).End.A), ci ((a0.Blocks.getD x32.toNat zBlock).End.B), ci r69, ci r72, ci ((a0.Blocks.getD x32.toNat zBlock).End.Ins.Op), ci ((a0.Blocks.getD x32.toNat zBlock).End.Ins.A), ci ((a0.Blocks.getD x32.toNat zBlock).End.Ins.B), ci ((a0.Blocks.getD x32.toNat zBlock).End.Ins.C), ci ((a0.Blocks.getD x32.toNat zBlock).End.Ins.Imm)]), (20070, .rows 39 12 cBlock zBlock x31)], 57⟩) (by kernel_rfl) (by kernel_rfl) (by kernel_rfl) (by kernel_rfl) rfl ?_
            obtain ⟨hg74, h⟩ := gd_some h
            let y75 : List Block := (x31.set x32.toNat (⟨(x31.getD x32.toNat zBlock).Ops, (⟨(1 : Int), (0 : Int), (0 : Int), (0 : Int), r69, (0 : Int), (⟨(0 : Int), (0 : Int), (0 : Int), (0 : Int), (0 : Int)⟩ : Ins)⟩ : Term)⟩ : Block))
            refine StopP.advd tbOk [(12, [(6, .obj (.rows 39 12 cBlock zBlock (x31.set x32.toNat (⟨(x31.getD x32.toNat zBlock).Ops, (⟨(1 : Int), (0 : Int), (0 : Int), (0 : Int), r69, (0 : Int), (⟨(0 : Int), (0 : Int), (0 : Int), (0 : Int), (0 : Int)⟩ : Ins)⟩ : Term)⟩ : Block))))])] 100000 1000 (by kernel_rfl) (by kernel_rfl) (ac_y hg74 <| ac_c (Stored.mk (ty := 39) (es := 12) (enc := cBlock) (z := zBlock) (xs := x31) (i := x32.toNat) (j := 1) (n := 11) (⟨(x31.getD x32.toNat zBlock).Ops, (⟨(1 : Int), (0 : Int), (0 : Int), (0 : Int), r69, (0 : Int), (⟨(0 : Int), (0 : Int), (0 : Int), (0 : Int), (0 : Int)⟩ : Ins)⟩ : Term)⟩ : Block) (tn hg74) (by decide) rfl rfl rfl) <| ac_nil) ?_
            refine StopP.out .normal (by kernel_rfl) ?_
            exact WPR.chg [.keep [1, 2, 3, 4] [1, 2, 3, 20070]] (by kernel_rfl) (g12_ref22_Thread.l0_ok K a0 r1 k y75 (IntKind.i64.wrap (x32 + (1 : Int))) o h)
          · have h := cd_f hb73 h
            obtain ⟨hg76, h⟩ := gd_some h
            let y77 : List Block := (x31.set x32.toNat (⟨(x31.getD x32.toNat zBlock).Ops, (⟨(a0.Blocks.getD x32.toNat zBlock).End.Kind, (a0.Blocks.getD x32.toNat zBlock).End.Op, (a0.Blocks.getD x32.toNat zBlock).End.A, (a0.Blocks.getD x32.toNat zBlock).End.B, r69, r72, (a0.Blocks.getD x32.toNat zBlock).End.Ins⟩ : Term)⟩ : Block))
            refine StopP.advd tbOk [(12, [(6, .obj (.rows 39 12 cBlock zBlock (x31.set x32.toNat (⟨(x31.getD x32.toNat zBlock).Ops, (⟨(a0.Blocks.getD x32.toNat zBlock).End.Kind, (a0.Blocks.getD x32.toNat zBlock).End.Op, (a0.Blocks.getD x32.toNat zBlock).End.A, (a0.Blocks.getD x32.toNat zBlock).End.B, r69, r72, (a0.Blocks.getD x32.toNat zBlock).End.Ins⟩ : Term)⟩ : Block))))])] 100000 1000 (by kernel_rfl) (by kernel_rfl) (ac_y hg76 <| ac_c (Stored.mk (ty := 39) (es := 12) (enc := cBlock) (z := zBlock) (xs := x31) (i := x32.toNat) (j := 1) (n := 11) (⟨(x31.getD x32.toNat zBlock).Ops, (⟨(a0.Blocks.getD x32.toNat zBlock).End.Kind, (a0.Blocks.getD x32.toNat zBlock).End.Op, (a0.Blocks.getD x32.toNat zBlock).End.A, (a0.Blocks.getD x32.toNat zBlock).End.B, r69, r72, (a0.Blocks.getD x32.toNat zBlock).End.Ins⟩ : Term)⟩ : Block) (tn hg76) (by decide) rfl rfl rfl) <| ac_nil) ?_
            refine StopP.out .normal (by kernel_rfl) ?_
            exact WPR.chg [.keep [1, 2, 3, 4] [1, 2, 3, 20070]] (by kernel_rfl) (g12_ref22_Thread.l0_ok K a0 r1 k y77 (IntKind.i64.wrap (x32 + (1 : Int))) o h)
        · have h := cd_f hb71 h
          obtain ⟨hg78, h⟩ := gd_some h
          let y79 : List Block := (x31.set x32.toNat (⟨(x31.getD x32.toNat zBlock).Ops, (⟨(a0.Blocks.getD x32.toNat zBlock).End.Kind, (a0.Blocks.getD x32.toNat zBlock).End.Op, (a0.Blocks.getD x32.toNat zBlock).End.A, (a0.Blocks.getD x32.toNat zBlock).End.B, r69, (a0.Blocks.getD x32.toNat zBlock).End.Else, (a0.Blocks.getD x32.toNat zBlock).End.Ins⟩ : Term)⟩ : Block))
          refine StopP.advd tbOk [(12, [(6, .obj (.rows 39 12 cBlock zBlock (x31.set x32.toNat (⟨(x31.getD x32.toNat zBlock).Ops, (⟨(a0.Blocks.getD x32.toNat zBlock).End.Kind, (a0.Blocks.getD x32.toNat zBlock).End.Op, (a0.Blocks.getD x32.toNat zBlock).End.A, (a0.Blocks.getD x32.toNat zBlock).End.B, r69, (a0.Blocks.getD x32.toNat zBlock).End.Else, (a0.Blocks.getD x32.toNat zBlock).End.Ins⟩ : Term)⟩ : Block))))])] 100000 1000 (by kernel_rfl) (by kernel_rfl) (ac_y hg78 <| ac_c (Stored.mk (ty := 39) (es := 12) (enc := cBlock) (z := zBlock) (xs := x31) (i := x32.toNat) (j := 1) (n := 11) (⟨(x31.getD x32.toNat zBlock).Ops, (⟨(a0.Blocks.getD x32.toNat zBlock).End.Kind, (a0.Blocks.getD x32.toNat zBlock).End.Op, (a0.Blocks.getD x32.toNat zBlock).End.A, (a0.Blocks.getD x32.toNat zBlock).End.B, r69, (a0.Blocks.getD x32.toNat zBlock).End.Else, (a0.Blocks.getD x32.toNat zBlock).End.Ins⟩ : Term)⟩ : Block) (tn hg78) (by decide) rfl rfl rfl) <| ac_nil) ?_
          refine StopP.out .normal (by kernel_rfl) ?_
          exact WPR.chg [.keep [1, 2, 3, 4] [1, 2, 3, 20070]] (by kernel_rfl) (g12_ref22_Thread.l0_ok K a0 r1 k y79 (IntKind.i64.wrap (x32 + (1 : Int))) o h)
      · have h := cd_f hb68 h
        let b80 : Bool := ((a0.Blocks.getD x32.toNat zBlock).End.Kind == (2 : Int))
        refine StopP.advd tbOk [] 100000 1000 (by kernel_rfl) (by kernel_rfl) (ac_nil) ?_
        refine StopP.cond (b := b80) (by kernel_rfl) (fun hb81 => ?_) (fun hb81 => ?_)
        · have h := cd_t hb81 h
          obtain ⟨r82, hc82, h⟩ := bd_some h
          let b83 : Bool := (r82 == (a0.Blocks.getD x32.toNat zBlock).End.To)
          refine StopP.advd tbOk [(9, [(3, .call [] [] (v1 (ci r82)))])] 100000 1000 (by kernel_rfl) (by kernel_rfl) (ac_y (g25_ref22_through_ok K a0 ((a0.Blocks.getD x32.toNat zBlock).End.Else) r82 hc82) <| ac_nil) ?_
          refine StopP.cond (b := b83) (by kernel_rfl) (fun hb84 => ?_) (fun hb84 => ?_)
          · have h := cd_t hb84 h
            refine StopP.reb [.keep [1, 2, 3, 4, 5] [1, 2, 3, 5, 20070]] (st' := .at (kid [true, true, false, true, false, false, true, false, false, true, true, false, true, false, true, true, false] (bodyAt Try.f12)) [.code (kid [true, true, false, true, false, false, true, false, false, true, true, true] (bodyAt Try.f12)), .blk 1, .code (kid [true, true, false, true, false, false, true, true] (bodyAt Try.f12))] ⟨[(1, .yes, v1 (.ptr 1 0 0)), (2, .yes, v1 (.ptr 2 0 0)), (3, .yes, v1 (.ptr 3 0 0)), (4, .yes, v1 (ci x32)), (5, .yes, v1 (.ptr 5 0 0))], [(1, .box 24 [cs a0.Name, cb a0.Keep, cb a0.Leaf, .t (.ro 12 cBlock zBlock a0.Blocks)]), (2, .box 24 [cs ByteArray.empty, cb false, cb false, .t (.ro 12 cBlock zBlock ([]))]), (3, .box 24 [cs r1.Name, cb r1.Keep, cb r1.Leaf, .own 20070]), (5, .box 37 [ci ((a0.Blocks.getD x32.toNat zBlock).End.Kind), ci ((a0.Blocks.getD x32.toNat zBlock).End.Op), ci ((a0.Blocks.getD x32.toNat zBlock).End.A), ci ((a0.Blocks.getD x32.toNat zBlock).End.B), ci ((a0.Blocks.getD x32.toNat zBlock).End.To), ci r82, ci ((a0.Blocks.getD x32.toNat zBlock).End.Ins.Op), ci ((a0.Blocks.getD x32.toNat zBlock).End.Ins.A), ci ((a0.Blocks.getD x32.toNat zBlock).End.Ins.B), ci ((a0.Blocks.getD x32.toNat zBlock).End.Ins.C), ci ((a0.Blocks.getD x32.toNat zBlock).End.Ins.Imm)]), (20070, .rows 39 12 cBlock zBlock x31)], 57⟩) (by kernel_rfl) (by kernel_rfl) (by kernel_rfl) (by kernel_rfl) rfl ?_
            obtain ⟨hg85, h⟩ := gd_some h
            let y86 : List Block := (x31.set x32.toNat (⟨(x31.getD x32.toNat zBlock).Ops, (⟨(1 : Int), (0 : Int), (0 : Int), (0 : Int), (a0.Blocks.getD x32.toNat zBlock).End.To, (0 : Int), (⟨(0 : Int), (0 : Int), (0 : Int), (0 : Int), (0 : Int)⟩ : Ins)⟩ : Term)⟩ : Block))
            refine StopP.advd tbOk [(12, [(6, .obj (.rows 39 12 cBlock zBlock (x31.set x32.toNat (⟨(x31.getD x32.toNat zBlock).Ops, (⟨(1 : Int), (0 : Int), (0 : Int), (0 : Int), (a0.Blocks.getD x32.toNat zBlock).End.To, (0 : Int), (⟨(0 : Int), (0 : Int), (0 : Int), (0 : Int), (0 : Int)⟩ : Ins)⟩ : Term)⟩ : Block))))])] 100000 1000 (by kernel_rfl) (by kernel_rfl) (ac_y hg85 <| ac_c (Stored.mk (ty := 39) (es := 12) (enc := cBlock) (z := zBlock) (xs := x31) (i := x32.toNat) (j := 1) (n := 11) (⟨(x31.getD x32.toNat zBlock).Ops, (⟨(1 : Int), (0 : Int), (0 : Int), (0 : Int), (a0.Blocks.getD x32.toNat zBlock).End.To, (0 : Int), (⟨(0 : Int), (0 : Int), (0 : Int), (0 : Int), (0 : Int)⟩ : Ins)⟩ : Term)⟩ : Block) (tn hg85) (by decide) rfl rfl rfl) <| ac_nil) ?_
            refine StopP.out .normal (by kernel_rfl) ?_
            exact WPR.chg [.keep [1, 2, 3, 4] [1, 2, 3, 20070]] (by kernel_rfl) (g12_ref22_Thread.l0_ok K a0 r1 k y86 (IntKind.i64.wrap (x32 + (1 : Int))) o h)
          · have h := cd_f hb84 h
            obtain ⟨hg87, h⟩ := gd_some h
            let y88 : List Block := (x31.set x32.toNat (⟨(x31.getD x32.toNat zBlock).Ops, (⟨(a0.Blocks.getD x32.toNat zBlock).End.Kind, (a0.Blocks.getD x32.toNat zBlock).End.Op, (a0.Blocks.getD x32.toNat zBlock).End.A, (a0.Blocks.getD x32.toNat zBlock).End.B, (a0.Blocks.getD x32.toNat zBlock).End.To, r82, (a0.Blocks.getD x32.toNat zBlock).End.Ins⟩ : Term)⟩ : Block))
            refine StopP.advd tbOk [(12, [(6, .obj (.rows 39 12 cBlock zBlock (x31.set x32.toNat (⟨(x31.getD x32.toNat zBlock).Ops, (⟨(a0.Blocks.getD x32.toNat zBlock).End.Kind, (a0.Blocks.getD x32.toNat zBlock).End.Op, (a0.Blocks.getD x32.toNat zBlock).End.A, (a0.Blocks.getD x32.toNat zBlock).End.B, (a0.Blocks.getD x32.toNat zBlock).End.To, r82, (a0.Blocks.getD x32.toNat zBlock).End.Ins⟩ : Term)⟩ : Block))))])] 100000 1000 (by kernel_rfl) (by kernel_rfl) (ac_y hg87 <| ac_c (Stored.mk (ty := 39) (es := 12) (enc := cBlock) (z := zBlock) (xs := x31) (i := x32.toNat) (j := 1) (n := 11) (⟨(x31.getD x32.toNat zBlock).Ops, (⟨(a0.Blocks.getD x32.toNat zBlock).End.Kind, (a0.Blocks.getD x32.toNat zBlock).End.Op, (a0.Blocks.getD x32.toNat zBlock).End.A, (a0.Blocks.getD x32.toNat zBlock).End.B, (a0.Blocks.getD x32.toNat zBlock).End.To, r82, (a0.Blocks.getD x32.toNat zBlock).End.Ins⟩ : Term)⟩ : Block) (tn hg87) (by decide) rfl rfl rfl) <| ac_nil) ?_
            refine StopP.out .normal (by kernel_rfl) ?_
            exact WPR.chg [.keep [1, 2, 3, 4] [1, 2, 3, 20070]] (by kernel_rfl) (g12_ref22_Thread.l0_ok K a0 r1 k y88 (IntKind.i64.wrap (x32 + (1 : Int))) o h)
        · have h := cd_f hb81 h
          obtain ⟨hg89, h⟩ := gd_some h
          let y90 : List Block := (x31.set x32.toNat (⟨(x31.getD x32.toNat zBlock).Ops, (a0.Blocks.getD x32.toNat zBlock).End⟩ : Block))
          refine StopP.advd tbOk [(12, [(6, .obj (.rows 39 12 cBlock zBlock (x31.set x32.toNat (⟨(x31.getD x32.toNat zBlock).Ops, (a0.Blocks.getD x32.toNat zBlock).End⟩ : Block))))])] 100000 1000 (by kernel_rfl) (by kernel_rfl) (ac_y hg89 <| ac_c (Stored.mk (ty := 39) (es := 12) (enc := cBlock) (z := zBlock) (xs := x31) (i := x32.toNat) (j := 1) (n := 11) (⟨(x31.getD x32.toNat zBlock).Ops, (a0.Blocks.getD x32.toNat zBlock).End⟩ : Block) (tn hg89) (by decide) rfl rfl rfl) <| ac_nil) ?_
          refine StopP.out .normal (by kernel_rfl) ?_
          exact WPR.chg [.keep [1, 2, 3, 4] [1, 2, 3, 20070]] (by kernel_rfl) (g12_ref22_Thread.l0_ok K a0 r1 k y90 (IntKind.i64.wrap (x32 + (1 : Int))) o h)
    · have h := cd_f hb63 h
      refine StopP.advd tbOk [] 100000 1000 (by kernel_rfl) (by kernel_rfl) (ac_nil) ?_
      have h := sm h; subst h
      exact StopP.out (.exit 0) (by kernel_rfl) ⟨rfl, [.keep [2, 3] [2, 3, 20070]], by kernel_rfl⟩

def g12_ref22_Thread (K : Nat) (a0 : Graph) : Option (Graph) :=
  (g21_ref16_Copy K a0).bind fun r1 =>
  (g12_ref22_Thread.l0 K a0 r1 K r1.Blocks (0 : Int)).bind fun o91 =>
  some (⟨r1.Name, r1.Keep, r1.Leaf, o91.2⟩ : Graph)

theorem g12_ref22_Thread_ok (K : Nat) (a0 : Graph) (r : Graph) (h : g12_ref22_Thread K a0 = some r) : AC Try.prog 12 [] [.v true [cs a0.Name, cb a0.Keep, cb a0.Leaf, .t (.ro 12 cBlock zBlock a0.Blocks)]] [(7000, .rows 39 12 cBlock zBlock r.Blocks)] (.v true [cs r.Name, cb r.Keep, cb r.Leaf, .own 7000]) := by
  refine AC.intro (fn := Try.f12) tbOk (by kernel_rfl) rfl (by kernel_rfl) (fun W A Kf => ?_)
  obtain ⟨r1, hc1, h⟩ := bd_some h
  refine StopP.advd tbOk [(1, [(1, .call [(7000, 20070)] [(7000, .rows 39 12 cBlock zBlock r1.Blocks)] (.v true [cs r1.Name, cb r1.Keep, cb r1.Leaf, .own 7000]))])] 100000 1000 (by kernel_rfl) (by kernel_rfl) (ac_y (g21_ref16_Copy_ok K a0 r1 hc1) <| ac_nil) ?_
  obtain ⟨o91, ho91, h⟩ := bd_some h
  refine StopP.lp (by kernel_rfl) [.keep [1, 2, 3, 4] [1, 2, 3, 20070]] (s := g12_ref22_Thread.h0 a0 r1 r1.Blocks (0 : Int)) (by kernel_rfl) (c := (kid [true, true, false, true, false, false] (bodyAt Try.f12))) (by kernel_rfl) (e := (.exit 0)) (J := g12_ref22_Thread.j0_0 a0 r1 o91) K (g12_ref22_Thread.l0_ok K a0 r1 K r1.Blocks (0 : Int) o91 ho91) ?_
  refine StopP.advd tbOk [] 100000 1000 (by kernel_rfl) (by kernel_rfl) (ac_nil) ?_
  have h := sm h; subst h
  refine StopP.out .ret (by kernel_rfl) ?_
  exact ret_box (.inr rfl) [.keep [2] [2, 20070], .ren [(20070, 7000)]] (by kernel_rfl) (by kernel_rfl) [7000] (by kernel_rfl)

theorem g12_ref22_Thread_fz (K : Nat) (a0 : Graph) (r : Graph) (h : g12_ref22_Thread K a0 = some r) : AC Try.prog 12 [] [.v true [cs a0.Name, cb a0.Keep, cb a0.Leaf, .t (.ro 12 cBlock zBlock a0.Blocks)]] [] (.v true [cs r.Name, cb r.Keep, cb r.Leaf, .t (.ro 12 cBlock zBlock r.Blocks)]) :=
  AC.cast (AC.fz (g12_ref22_Thread_ok K a0 r h) 7000 (o := .rows 39 12 cBlock zBlock r.Blocks) (t := .ro 12 cBlock zBlock r.Blocks) (by kernel_rfl) (by kernel_rfl)) (by kernel_rfl) (by kernel_rfl)

def g16_ref22_Sweep.l2 (K : Nat) (r1 : Graph) (x164 : ByteArray) (x381 : Int) : Nat → (List Block) → Bool → Int → Option (Bool × (List Block))
  | 0, _, _, _ => none
  | k + 1, x452, x453, x454 =>
    gd (0 ≤ x381 ∧ x381 < (x452.length : Int)) <|
    let b471 : Bool := (decide (x454 < (((x452.getD x381.toNat zBlock).Ops).length : Int)))
    let b472 : Bool := (bif b471 then (!x453) else false)
    bif b472 then
      (g29_ref22_idle K (⟨r1.Name, r1.Keep, r1.Leaf, x452⟩ : Graph) x381 x454).bind fun r474 =>
      bif r474 then
        gd (0 ≤ x381 ∧ x381 < (x452.length : Int)) <|
        gd (0 ≤ x454 ∧ x454 ≤ (((x452.getD x381.toNat zBlock).Ops).length : Int)) <|
        gd (([] : List Op').length + (((x452.getD x381.toNat zBlock).Ops).take x454.toNat).length ≤ 1073741824) <|
        let y479 : List Op' := (([] : List Op') ++ (((x452.getD x381.toNat zBlock).Ops).take x454.toNat))
        gd (0 ≤ (IntKind.i64.wrap (x454 + (1 : Int))) ∧ (IntKind.i64.wrap (x454 + (1 : Int))) ≤ (((x452.getD x381.toNat zBlock).Ops).length : Int)) <|
        gd (y479.length + (((x452.getD x381.toNat zBlock).Ops).drop (IntKind.i64.wrap (x454 + (1 : Int))).toNat).length ≤ 1073741824) <|
        let y482 : List Op' := (y479 ++ (((x452.getD x381.toNat zBlock).Ops).drop (IntKind.i64.wrap (x454 + (1 : Int))).toNat))
        gd (0 ≤ x381 ∧ x381 < (x452.length : Int)) <|
        let y484 : List Block := (x452.set x381.toNat (⟨y482, (x452.getD x381.toNat zBlock).End⟩ : Block))
        g16_ref22_Sweep.l2 K r1 x164 x381 k y484 true (IntKind.i64.wrap (x454 + (1 : Int)))
      else
        g16_ref22_Sweep.l2 K r1 x164 x381 k x452 x453 (IntKind.i64.wrap (x454 + (1 : Int)))
    else
      some (x453, x452)

def g16_ref22_Sweep.h2 (r1 : Graph) (x164 : ByteArray) (x381 : Int) (x452 : (List Block)) (x453 : Bool) (x454 : Int) : Abs.St := ⟨[(2, .yes, v1 (.ptr 2 0 0)), (3, .yes, v1 (.ptr 3 0 0)), (4, .yes, v1 (cb x453)), (5, .yes, v1 (ci x381)), (6, .yes, v1 (ci x454))], [(2, .box 24 [cs x164, cb false, cb false, .t (.ro 12 cBlock zBlock ([]))]), (3, .box 24 [cs r1.Name, cb r1.Keep, cb r1.Leaf, .own 20090]), (20090, .rows 39 12 cBlock zBlock x452)], 64⟩

def g16_ref22_Sweep.j2_0 (r1 : Graph) (x164 : ByteArray) (x381 : Int) (o : Bool × (List Block)) : Abs.St := ⟨[(2, .yes, v1 (.ptr 2 0 0)), (3, .yes, v1 (.ptr 3 0 0)), (4, .yes, v1 (cb o.1)), (5, .yes, v1 (ci x381))], [(2, .box 24 [cs x164, cb false, cb false, .t (.ro 12 cBlock zBlock ([]))]), (3, .box 24 [cs r1.Name, cb r1.Keep, cb r1.Leaf, .own 20090]), (20090, .rows 39 12 cBlock zBlock o.2)], 64⟩

theorem g16_ref22_Sweep.l2_ok {W : World} {A Kf : Nat → Prop} (K : Nat) (r1 : Graph) (x164 : ByteArray) (x381 : Int) : ∀ (k : Nat) (x452 : (List Block)) (x453 : Bool) (x454 : Int) (o : Bool × (List Block)), g16_ref22_Sweep.l2 K r1 x164 x381 k x452 x453 x454 = some o → WPR Try.prog W A Kf (kid [true, true, false, false, false, true, false, true, false, false, true, false, false, true, false, false] (bodyAt Try.f16)) (Out (.exit 4) (g16_ref22_Sweep.j2_0 r1 x164 x381 o)) k (g16_ref22_Sweep.h2 r1 x164 x381 x452 x453 x454)
  | 0, x452, x453, x454, o, h => by cases h
  | k + 1, x452, x453, x454, o, h => by
    refine WPR.round ?_
    obtain ⟨hg470, h⟩ := gd_some h
    let b471 : Bool := (decide (x454 < (((x452.getD x381.toNat zBlock).Ops).length : Int)))
    let b472 : Bool := (bif b471 then (!x453) else false)
    refine StopP.advd tbOk [] 100000 1000 (by kernel_rfl) (by kernel_rfl) (ac_y hg470 <| ac_y (tn hg470) <| ac_on b471 (pt b471) <| ac_y (pt b471) <| ac_nil) ?_
    refine StopP.cond (b := b472) (by kernel_rfl) (fun hb473 => ?_) (fun hb473 => ?_)
    · have h := cd_t hb473 h
      obtain ⟨r474, hc474, h⟩ := bd_some h
      refine StopP.advd tbOk [(9, [(3, .call [] [] (v1 (cb r474)))])] 100000 1000 (by kernel_rfl) (by kernel_rfl) (ac_y (g29_ref22_idle_ok K (⟨r1.Name, r1.Keep, r1.Leaf, x452⟩ : Graph) x381 x454 r474 hc474) <| ac_c (show Plain [] (v1 (cb r474)) from ⟨rfl, fun _ h => by cases h⟩) <| ac_nil) ?_
      refine StopP.cond (b := r474) (by kernel_rfl) (fun hb475 => ?_) (fun hb475 => ?_)
      · have h := cd_t hb475 h
        obtain ⟨hg476, h⟩ := gd_some h
        obtain ⟨hg477, h⟩ := gd_some h
        obtain ⟨hg478, h⟩ := gd_some h
        let y479 : List Op' := (([] : List Op') ++ (((x452.getD x381.toNat zBlock).Ops).take x454.toNat))
        obtain ⟨hg480, h⟩ := gd_some h
        obtain ⟨hg481, h⟩ := gd_some h
        let y482 : List Op' := (y479 ++ (((x452.getD x381.toNat zBlock).Ops).drop (IntKind.i64.wrap (x454 + (1 : Int))).toNat))
        obtain ⟨hg483, h⟩ := gd_some h
        let y484 : List Block := (x452.set x381.toNat (⟨y482, (x452.getD x381.toNat zBlock).End⟩ : Block))
        refine StopP.advd tbOk [(12, [(3, .obj (.rows 35 9 cOp zOp ([] : List Op'))), (7, .obj (.rows 35 9 cOp zOp (([] : List Op') ++ (((x452.getD x381.toNat zBlock).Ops).take x454.toNat)))), (12, .fz (.rows 35 9 cOp zOp (y479 ++ (((x452.getD x381.toNat zBlock).Ops).drop (IntKind.i64.wrap (x454 + (1 : Int))).toNat)))), (15, .obj (.rows 39 12 cBlock zBlock (x452.set x381.toNat (⟨y482, (x452.getD x381.toNat zBlock).End⟩ : Block))))])] 100000 1000 (by kernel_rfl) (by kernel_rfl) (ac_y hg476 <| ac_y (tn hg476) <| ac_c (Built.mk (ty := 35) (es := 9) (enc := cOp) (z := zOp) (xs := ([] : List Op')) (fun _ _ => rfl) (by decide : (0 * 9 : Nat) ≤ 16777216)) <| ac_y hg477 <| ac_c (Appended.mk (ty := 35) (es := 9) (by_ := 72) (enc := cOp) (z := zOp) (z' := zOp) (xs := ([] : List Op')) (ys := (((x452.getD x381.toNat zBlock).Ops).take x454.toNat)) (fun _ _ => rfl) (sl hg478) (sb hg478 (by decide))) <| ac_y hg480 <| ac_c (Appended.mk (ty := 35) (es := 9) (by_ := 72) (enc := cOp) (z := zOp) (z' := zOp) (xs := y479) (ys := (((x452.getD x381.toNat zBlock).Ops).drop (IntKind.i64.wrap (x454 + (1 : Int))).toNat)) (fun _ _ => rfl) (sl hg481) (sb hg481 (by decide))) <| ac_y hg483 <| ac_c (Stored.mk (ty := 39) (es := 12) (enc := cBlock) (z := zBlock) (xs := x452) (i := x381.toNat) (j := 0) (n := 1) (⟨y482, (x452.getD x381.toNat zBlock).End⟩ : Block) (tn hg483) (by decide) rfl rfl rfl) <| ac_nil) ?_
        refine StopP.out .normal (by kernel_rfl) ?_
        exact WPR.chg [.keep [2, 3, 4, 5, 6] [2, 3, 20090]] (by kernel_rfl) (g16_ref22_Sweep.l2_ok K r1 x164 x381 k y484 true (IntKind.i64.wrap (x454 + (1 : Int))) o h)
      · have h := cd_f hb475 h
        refine StopP.advd tbOk [] 100000 1000 (by kernel_rfl) (by kernel_rfl) (ac_nil) ?_
        refine StopP.out .normal (by kernel_rfl) ?_
        exact WPR.chg [.keep [2, 3, 4, 5, 6] [2, 3, 20090]] (by kernel_rfl) (g16_ref22_Sweep.l2_ok K r1 x164 x381 k x452 x453 (IntKind.i64.wrap (x454 + (1 : Int))) o h)
    · have h := cd_f hb473 h
      refine StopP.advd tbOk [] 100000 1000 (by kernel_rfl) (by kernel_rfl) (ac_nil) ?_
      have h := sm h; subst h
      exact StopP.out (.exit 4) (by kernel_rfl) ⟨rfl, [.keep [2, 3, 4, 5] [2, 3, 20090]], by kernel_rfl⟩

def g16_ref22_Sweep.l1 (K : Nat) (r1 : Graph) (x164 : ByteArray) : Nat → (List Block) → Bool → Int → Option (Bool × (List Block))
  | 0, _, _, _ => none
  | k + 1, x379, x380, x381 =>
    let b434 : Bool := (decide (x381 < (x379.length : Int)))
    let b435 : Bool := (bif b434 then (!x380) else false)
    bif b435 then
      (g16_ref22_Sweep.l2 K r1 x164 x381 K x379 x380 (0 : Int)).bind fun o485 =>
      g16_ref22_Sweep.l1 K r1 x164 k o485.2 o485.1 (IntKind.i64.wrap (x381 + (1 : Int)))
    else
      some (x380, x379)

def g16_ref22_Sweep.h1 (r1 : Graph) (x164 : ByteArray) (x379 : (List Block)) (x380 : Bool) (x381 : Int) : Abs.St := ⟨[(2, .yes, v1 (.ptr 2 0 0)), (3, .yes, v1 (.ptr 3 0 0)), (4, .yes, v1 (cb x380)), (5, .yes, v1 (ci x381))], [(2, .box 24 [cs x164, cb false, cb false, .t (.ro 12 cBlock zBlock ([]))]), (3, .box 24 [cs r1.Name, cb r1.Keep, cb r1.Leaf, .own 20090]), (20090, .rows 39 12 cBlock zBlock x379)], 64⟩

def g16_ref22_Sweep.j1_0 (r1 : Graph) (x164 : ByteArray) (o : Bool × (List Block)) : Abs.St := ⟨[(2, .yes, v1 (.ptr 2 0 0)), (3, .yes, v1 (.ptr 3 0 0)), (4, .yes, v1 (cb o.1))], [(2, .box 24 [cs x164, cb false, cb false, .t (.ro 12 cBlock zBlock ([]))]), (3, .box 24 [cs r1.Name, cb r1.Keep, cb r1.Leaf, .own 20090]), (20090, .rows 39 12 cBlock zBlock o.2)], 64⟩

theorem g16_ref22_Sweep.l1_ok {W : World} {A Kf : Nat → Prop} (K : Nat) (r1 : Graph) (x164 : ByteArray) : ∀ (k : Nat) (x379 : (List Block)) (x380 : Bool) (x381 : Int) (o : Bool × (List Block)), g16_ref22_Sweep.l1 K r1 x164 k x379 x380 x381 = some o → WPR Try.prog W A Kf (kid [true, true, false, false, false, true, false, true, false, false] (bodyAt Try.f16)) (Out (.exit 2) (g16_ref22_Sweep.j1_0 r1 x164 o)) k (g16_ref22_Sweep.h1 r1 x164 x379 x380 x381)
  | 0, x379, x380, x381, o, h => by cases h
  | k + 1, x379, x380, x381, o, h => by
    refine WPR.round ?_
    let b434 : Bool := (decide (x381 < (x379.length : Int)))
    let b435 : Bool := (bif b434 then (!x380) else false)
    refine StopP.advd tbOk [] 100000 1000 (by kernel_rfl) (by kernel_rfl) (ac_on b434 (pt b434) <| ac_y (pt b434) <| ac_nil) ?_
    refine StopP.cond (b := b435) (by kernel_rfl) (fun hb436 => ?_) (fun hb436 => ?_)
    · have h := cd_t hb436 h
      refine StopP.advd tbOk [] 100000 1000 (by kernel_rfl) (by kernel_rfl) (ac_nil) ?_
      obtain ⟨o485, ho485, h⟩ := bd_some h
      refine StopP.lp (by kernel_rfl) [.keep [2, 3, 4, 5, 6] [2, 3, 20090]] (s := g16_ref22_Sweep.h2 r1 x164 x381 x379 x380 (0 : Int)) (by kernel_rfl) (c := (kid [true, true, false, false, false, true, false, true, false, false, true, false, false, true, false, false] (bodyAt Try.f16))) (by kernel_rfl) (e := (.exit 4)) (J := g16_ref22_Sweep.j2_0 r1 x164 x381 o485) K (g16_ref22_Sweep.l2_ok K r1 x164 x381 K x379 x380 (0 : Int) o485 ho485) ?_
      refine StopP.advd tbOk [] 100000 1000 (by kernel_rfl) (by kernel_rfl) (ac_nil) ?_
      refine StopP.out .normal (by kernel_rfl) ?_
      exact WPR.chg [.keep [2, 3, 4, 5] [2, 3, 20090]] (by kernel_rfl) (g16_ref22_Sweep.l1_ok K r1 x164 k o485.2 o485.1 (IntKind.i64.wrap (x381 + (1 : Int))) o h)
    · have h := cd_f hb436 h
      refine StopP.advd tbOk [] 100000 1000 (by kernel_rfl) (by kernel_rfl) (ac_nil) ?_
      have h := sm h; subst h
      exact StopP.out (.exit 2) (by kernel_rfl) ⟨rfl, [.keep [2, 3, 4] [2, 3, 20090]], by kernel_rfl⟩

def g16_ref22_Sweep.l0 (K : Nat) (r1 : Graph) : Nat → ByteArray → (List Block) → Option ((List Block))
  | 0, _, _ => none
  | k + 1, x164, x165 =>
    (g16_ref22_Sweep.l1 K r1 x164 K x165 false (0 : Int)).bind fun o486 =>
    bif (!o486.1) then
      some o486.2
    else
      g16_ref22_Sweep.l0 K r1 k x164 o486.2

def g16_ref22_Sweep.h0 (r1 : Graph) (x164 : ByteArray) (x165 : (List Block)) : Abs.St := ⟨[(2, .yes, v1 (.ptr 2 0 0)), (3, .yes, v1 (.ptr 3 0 0))], [(2, .box 24 [cs x164, cb false, cb false, .t (.ro 12 cBlock zBlock ([]))]), (3, .box 24 [cs r1.Name, cb r1.Keep, cb r1.Leaf, .own 20090]), (20090, .rows 39 12 cBlock zBlock x165)], 64⟩

def g16_ref22_Sweep.j0_0 (r1 : Graph) (o : (List Block)) : Abs.St := ⟨[(2, .yes, v1 (.ptr 2 0 0))], [(2, .box 24 [cs r1.Name, cb r1.Keep, cb r1.Leaf, .own 20090]), (20090, .rows 39 12 cBlock zBlock o)], 64⟩

theorem g16_ref22_Sweep.l0_ok {W : World} {A Kf : Nat → Prop} (K : Nat) (r1 : Graph) : ∀ (k : Nat) (x164 : ByteArray) (x165 : (List Block)) (o : (List Block)), g16_ref22_Sweep.l0 K r1 k x164 x165 = some o → WPR Try.prog W A Kf (kid [true, true, false, false] (bodyAt Try.f16)) (Out .ret (g16_ref22_Sweep.j0_0 r1 o)) k (g16_ref22_Sweep.h0 r1 x164 x165)
  | 0, x164, x165, o, h => by cases h
  | k + 1, x164, x165, o, h => by
    refine WPR.round ?_
    refine StopP.advd tbOk [] 100000 1000 (by kernel_rfl) (by kernel_rfl) (ac_nil) ?_
    obtain ⟨o486, ho486, h⟩ := bd_some h
    refine StopP.lp (by kernel_rfl) [.keep [2, 3, 4, 5] [2, 3, 20090]] (s := g16_ref22_Sweep.h1 r1 x164 x165 false (0 : Int)) (by kernel_rfl) (c := (kid [true, true, false, false, false, true, false, true, false, false] (bodyAt Try.f16))) (by kernel_rfl) (e := (.exit 2)) (J := g16_ref22_Sweep.j1_0 r1 x164 o486) K (g16_ref22_Sweep.l1_ok K r1 x164 K x165 false (0 : Int) o486 ho486) ?_
    refine StopP.advd tbOk [] 100000 1000 (by kernel_rfl) (by kernel_rfl) (ac_nil) ?_
    refine StopP.cond (b := (!o486.1)) (by kernel_rfl) (fun hb487 => ?_) (fun hb487 => ?_)
    · have h := cd_t hb487 h
      refine StopP.advd tbOk [] 100000 1000 (by kernel_rfl) (by kernel_rfl) (ac_nil) ?_
      have h := sm h; subst h
      exact StopP.out .ret (by kernel_rfl) ⟨rfl, [.keep [2] [2, 20090]], by kernel_rfl⟩
    · have h := cd_f hb487 h
      refine StopP.advd tbOk [] 100000 1000 (by kernel_rfl) (by kernel_rfl) (ac_nil) ?_
      refine StopP.out .normal (by kernel_rfl) ?_
      exact WPR.chg [.keep [2, 3] [2, 3, 20090]] (by kernel_rfl) (g16_ref22_Sweep.l0_ok K r1 k x164 o486.2 o h)

def g16_ref22_Sweep (K : Nat) (a0 : Graph) : Option (Graph) :=
  (g21_ref16_Copy K a0).bind fun r1 =>
  (g16_ref22_Sweep.l0 K r1 K ByteArray.empty r1.Blocks).bind fun o488 =>
  some (⟨r1.Name, r1.Keep, r1.Leaf, o488⟩ : Graph)

theorem g16_ref22_Sweep_ok (K : Nat) (a0 : Graph) (r : Graph) (h : g16_ref22_Sweep K a0 = some r) : AC Try.prog 16 [] [.v true [cs a0.Name, cb a0.Keep, cb a0.Leaf, .t (.ro 12 cBlock zBlock a0.Blocks)]] [(7000, .rows 39 12 cBlock zBlock r.Blocks)] (.v true [cs r.Name, cb r.Keep, cb r.Leaf, .own 7000]) := by
  refine AC.intro (fn := Try.f16) tbOk (by kernel_rfl) rfl (by kernel_rfl) (fun W A Kf => ?_)
  obtain ⟨r1, hc1, h⟩ := bd_some h
  refine StopP.advd tbOk [(1, [(1, .call [(7000, 20090)] [(7000, .rows 39 12 cBlock zBlock r1.Blocks)] (.v true [cs r1.Name, cb r1.Keep, cb r1.Leaf, .own 7000]))])] 100000 1000 (by kernel_rfl) (by kernel_rfl) (ac_y (g21_ref16_Copy_ok K a0 r1 hc1) <| ac_nil) ?_
  obtain ⟨o488, ho488, h⟩ := bd_some h
  refine StopP.lp (by kernel_rfl) [.keep [2, 3] [2, 3, 20090]] (s := g16_ref22_Sweep.h0 r1 ByteArray.empty r1.Blocks) (by kernel_rfl) (c := (kid [true, true, false, false] (bodyAt Try.f16))) (by kernel_rfl) (e := .ret) (J := g16_ref22_Sweep.j0_0 r1 o488) K (g16_ref22_Sweep.l0_ok K r1 K ByteArray.empty r1.Blocks o488 ho488) ?_
  have h := sm h; subst h
  refine StopP.out .ret (by kernel_rfl) ?_
  exact ret_box (.inr rfl) [.keep [2] [2, 20090], .ren [(20090, 7000)]] (by kernel_rfl) (by kernel_rfl) [7000] (by kernel_rfl)

theorem g16_ref22_Sweep_fz (K : Nat) (a0 : Graph) (r : Graph) (h : g16_ref22_Sweep K a0 = some r) : AC Try.prog 16 [] [.v true [cs a0.Name, cb a0.Keep, cb a0.Leaf, .t (.ro 12 cBlock zBlock a0.Blocks)]] [] (.v true [cs r.Name, cb r.Keep, cb r.Leaf, .t (.ro 12 cBlock zBlock r.Blocks)]) :=
  AC.cast (AC.fz (g16_ref22_Sweep_ok K a0 r h) 7000 (o := .rows 39 12 cBlock zBlock r.Blocks) (t := .ro 12 cBlock zBlock r.Blocks) (by kernel_rfl) (by kernel_rfl)) (by kernel_rfl) (by kernel_rfl)

end Go.Proofs.Ytoooalfhjcfinaa.T
