import Derived.Test.YtoooalfhjcfinaaU4
namespace Go.Proofs.Ytoooalfhjcfinaa.T
open Go.Abs
set_option linter.unusedVariables false
set_option maxRecDepth 100000
set_option maxHeartbeats 2000000

def g43_flow_Reads.b0 (K : Nat) (a0 : Ins) : Option ((List Int)) :=
  bif (a0.Op == (1 : Int)) then
    gd (([] : List Int).length + ([a0.C] : List Int).length ≤ 1073741824) <|
    gd ((([] : List Int) ++ ([a0.C] : List Int)).length + ([a0.B] : List Int).length ≤ 1073741824) <|
    let y88 : List Int := ((([] : List Int) ++ ([a0.C] : List Int)) ++ ([a0.B] : List Int))
    some y88
  else
    bif (a0.Op == (2 : Int)) then
      gd (([] : List Int).length + ([a0.C] : List Int).length ≤ 1073741824) <|
      gd ((([] : List Int) ++ ([a0.C] : List Int)).length + ([a0.B] : List Int).length ≤ 1073741824) <|
      let y93 : List Int := ((([] : List Int) ++ ([a0.C] : List Int)) ++ ([a0.B] : List Int))
      some y93
    else
      bif (a0.Op == (3 : Int)) then
        gd (([] : List Int).length + ([a0.C] : List Int).length ≤ 1073741824) <|
        gd ((([] : List Int) ++ ([a0.C] : List Int)).length + ([a0.B] : List Int).length ≤ 1073741824) <|
        let y98 : List Int := ((([] : List Int) ++ ([a0.C] : List Int)) ++ ([a0.B] : List Int))
        some y98
      else
        bif (a0.Op == (4 : Int)) then
          gd (([] : List Int).length + ([a0.C] : List Int).length ≤ 1073741824) <|
          gd ((([] : List Int) ++ ([a0.C] : List Int)).length + ([a0.B] : List Int).length ≤ 1073741824) <|
          let y103 : List Int := ((([] : List Int) ++ ([a0.C] : List Int)) ++ ([a0.B] : List Int))
          some y103
        else
          bif (a0.Op == (5 : Int)) then
            gd (([] : List Int).length + ([a0.C] : List Int).length ≤ 1073741824) <|
            gd ((([] : List Int) ++ ([a0.C] : List Int)).length + ([a0.B] : List Int).length ≤ 1073741824) <|
            let y108 : List Int := ((([] : List Int) ++ ([a0.C] : List Int)) ++ ([a0.B] : List Int))
            some y108
          else
            bif (a0.Op == (6 : Int)) then
              gd (([] : List Int).length + ([a0.C] : List Int).length ≤ 1073741824) <|
              gd ((([] : List Int) ++ ([a0.C] : List Int)).length + ([a0.B] : List Int).length ≤ 1073741824) <|
              let y113 : List Int := ((([] : List Int) ++ ([a0.C] : List Int)) ++ ([a0.B] : List Int))
              some y113
            else
              bif (a0.Op == (7 : Int)) then
                gd (([] : List Int).length + ([a0.C] : List Int).length ≤ 1073741824) <|
                gd ((([] : List Int) ++ ([a0.C] : List Int)).length + ([a0.B] : List Int).length ≤ 1073741824) <|
                let y118 : List Int := ((([] : List Int) ++ ([a0.C] : List Int)) ++ ([a0.B] : List Int))
                some y118
              else
                bif (a0.Op == (8 : Int)) then
                  gd (([] : List Int).length + ([a0.B] : List Int).length ≤ 1073741824) <|
                  some (([] : List Int) ++ ([a0.B] : List Int))
                else
                  bif (a0.Op == (10 : Int)) then
                    gd (([] : List Int).length + ([a0.B] : List Int).length ≤ 1073741824) <|
                    some (([] : List Int) ++ ([a0.B] : List Int))
                  else
                    bif (a0.Op == (11 : Int)) then
                      gd (([] : List Int).length + ([a0.B] : List Int).length ≤ 1073741824) <|
                      some (([] : List Int) ++ ([a0.B] : List Int))
                    else
                      bif (a0.Op == (13 : Int)) then
                        gd (([] : List Int).length + ([a0.B] : List Int).length ≤ 1073741824) <|
                        some (([] : List Int) ++ ([a0.B] : List Int))
                      else
                        bif (a0.Op == (12 : Int)) then
                          gd (([] : List Int).length + ([a0.B] : List Int).length ≤ 1073741824) <|
                          gd ((([] : List Int) ++ ([a0.B] : List Int)).length + ([a0.A] : List Int).length ≤ 1073741824) <|
                          let y135 : List Int := ((([] : List Int) ++ ([a0.B] : List Int)) ++ ([a0.A] : List Int))
                          some y135
                        else
                          bif (a0.Op == (14 : Int)) then
                            gd (([] : List Int).length + ([a0.B] : List Int).length ≤ 1073741824) <|
                            gd ((([] : List Int) ++ ([a0.B] : List Int)).length + ([a0.A] : List Int).length ≤ 1073741824) <|
                            let y140 : List Int := ((([] : List Int) ++ ([a0.B] : List Int)) ++ ([a0.A] : List Int))
                            some y140
                          else
                            bif (a0.Op == (15 : Int)) then
                              gd (([] : List Int).length + ([a0.B] : List Int).length ≤ 1073741824) <|
                              gd ((([] : List Int) ++ ([a0.B] : List Int)).length + ([a0.A] : List Int).length ≤ 1073741824) <|
                              let y145 : List Int := ((([] : List Int) ++ ([a0.B] : List Int)) ++ ([a0.A] : List Int))
                              some y145
                            else
                              bif (a0.Op == (16 : Int)) then
                                gd (([] : List Int).length + ([a0.B] : List Int).length ≤ 1073741824) <|
                                gd ((([] : List Int) ++ ([a0.B] : List Int)).length + ([a0.A] : List Int).length ≤ 1073741824) <|
                                let y150 : List Int := ((([] : List Int) ++ ([a0.B] : List Int)) ++ ([a0.A] : List Int))
                                some y150
                              else
                                bif (a0.Op == (17 : Int)) then
                                  gd (([] : List Int).length + ([a0.B] : List Int).length ≤ 1073741824) <|
                                  gd ((([] : List Int) ++ ([a0.B] : List Int)).length + ([a0.A] : List Int).length ≤ 1073741824) <|
                                  let y155 : List Int := ((([] : List Int) ++ ([a0.B] : List Int)) ++ ([a0.A] : List Int))
                                  some y155
                                else
                                  bif (a0.Op == (18 : Int)) then
                                    gd (([] : List Int).length + ([a0.B] : List Int).length ≤ 1073741824) <|
                                    gd ((([] : List Int) ++ ([a0.B] : List Int)).length + ([a0.A] : List Int).length ≤ 1073741824) <|
                                    let y160 : List Int := ((([] : List Int) ++ ([a0.B] : List Int)) ++ ([a0.A] : List Int))
                                    some y160
                                  else
                                    bif (a0.Op == (0 : Int)) then
                                      gd (([] : List Int).length + ([a0.A] : List Int).length ≤ 1073741824) <|
                                      some (([] : List Int) ++ ([a0.A] : List Int))
                                    else
                                      bif (a0.Op == (23 : Int)) then
                                        gd (([] : List Int).length + ([a0.A] : List Int).length ≤ 1073741824) <|
                                        some (([] : List Int) ++ ([a0.A] : List Int))
                                      else
                                        some ([])

def g43_flow_Reads.h0 (a0 : Ins) : Abs.St := ⟨[(1, .yes, v1 (.ptr 1 0 0)), (3, .yes, v1 (cn)), (5, .yes, v1 (ci a0.Op))], [(1, .box 33 [ci a0.Op, ci a0.A, ci a0.B, ci a0.C, ci a0.Imm])], 55⟩

def g43_flow_Reads.j0_0 (a0 : Ins) (o : (List Int)) : Abs.St := ⟨[(3, .yes, v1 (.own 38))], [(38, .rows 3 1 eI 0 o)], 55⟩

theorem g43_flow_Reads.b0_ok {W : World} {A Kf : Nat → Prop} (K : Nat) (a0 : Ins) (o : (List Int)) (h : g43_flow_Reads.b0 K a0 = some o) : StopP Try.prog W A Kf (Out .normal (g43_flow_Reads.j0_0 a0 o)) (.at (kid [true, true, false, true] (bodyAt Try.f43)) [] (g43_flow_Reads.h0 a0)) := by
  unfold g43_flow_Reads.b0 at h
  refine StopP.advd tbOk [] 100000 1000 (by kernel_rfl) (by kernel_rfl) (ac_nil) ?_
  refine StopP.cond (b := (a0.Op == (1 : Int))) (by kernel_rfl) (fun hb84 => ?_) (fun hb84 => ?_)
  · have h := cd_t hb84 h
    refine StopP.advd tbOk [] 100000 1000 (by kernel_rfl) (by kernel_rfl) (ac_nil) ?_
    refine StopP.condK (b := (a0.Op == (1 : Int))) hb84 (by kernel_rfl) ?_
    refine StopP.advd tbOk [] 22 1000 (by kernel_rfl) (by kernel_rfl) (ac_nil) ?_
    refine StopP.chgS [.own (.slot 3 0) 30085 (.rows 3 1 eI 0 [])] (by kernel_rfl) (by kernel_rfl) ?_
    obtain ⟨hg86, h⟩ := gd_some h
    obtain ⟨hg87, h⟩ := gd_some h
    let y88 : List Int := ((([] : List Int) ++ ([a0.C] : List Int)) ++ ([a0.B] : List Int))
    refine StopP.advd tbOk [(22, [(3, .obj (.rows 3 1 eI 0 ([a0.C] : List Int))), (4, .obj (.rows 3 1 eI 0 (([] : List Int) ++ ([a0.C] : List Int))))]), (23, [(3, .obj (.rows 3 1 eI 0 ([a0.B] : List Int))), (4, .obj (.rows 3 1 eI 0 ((([] : List Int) ++ ([a0.C] : List Int)) ++ ([a0.B] : List Int))))])] 100000 1000 (by kernel_rfl) (by kernel_rfl) (ac_c (Built.mk (ty := 3) (es := 1) (enc := eI) (z := 0) (xs := ([a0.C] : List Int)) (fun _ _ => rfl) (by decide : (1 * 1 : Nat) ≤ 16777216)) <| ac_c (Appended.mk (ty := 3) (es := 1) (by_ := 8) (enc := eI) (z := 0) (z' := 0) (xs := ([] : List Int)) (ys := ([a0.C] : List Int)) (fun _ _ => rfl) (sl hg86) (sb hg86 (by decide))) <| ac_c (Built.mk (ty := 3) (es := 1) (enc := eI) (z := 0) (xs := ([a0.B] : List Int)) (fun _ _ => rfl) (by decide : (1 * 1 : Nat) ≤ 16777216)) <| ac_c (Appended.mk (ty := 3) (es := 1) (by_ := 8) (enc := eI) (z := 0) (z' := 0) (xs := (([] : List Int) ++ ([a0.C] : List Int))) (ys := ([a0.B] : List Int)) (fun _ _ => rfl) (sl hg87) (sb hg87 (by decide))) <| ac_nil) ?_
    have h := sm h; subst h
    exact StopP.out .normal (by kernel_rfl) ⟨rfl, [.keep [3] [38]], by kernel_rfl⟩
  · have h := cd_f hb84 h
    refine StopP.advd tbOk [] 100000 1000 (by kernel_rfl) (by kernel_rfl) (ac_nil) ?_
    refine StopP.cond (b := (a0.Op == (2 : Int))) (by kernel_rfl) (fun hb89 => ?_) (fun hb89 => ?_)
    · have h := cd_t hb89 h
      refine StopP.advd tbOk [] 100000 1000 (by kernel_rfl) (by kernel_rfl) (ac_nil) ?_
      refine StopP.condK (b := (a0.Op == (2 : Int))) hb89 (by kernel_rfl) ?_
      refine StopP.advd tbOk [] 22 1000 (by kernel_rfl) (by kernel_rfl) (ac_nil) ?_
      refine StopP.chgS [.own (.slot 3 0) 30090 (.rows 3 1 eI 0 [])] (by kernel_rfl) (by kernel_rfl) ?_
      refine StopP.reb [.keep [1, 3] [1, 30090]] (st' := .at (kid [true, true, false, true, false, false, false, false, false, false, false, true] (bodyAt Try.f43)) [.blk 2, .code (kid [true, true, false, true, false, false, false, false, false, true] (bodyAt Try.f43)), .blk 3, .code (kid [true, true, false, true, false, false, false, true] (bodyAt Try.f43)), .blk 4, .code (kid [true, true, false, true, false, true] (bodyAt Try.f43)), .blk 0] ⟨[(1, .yes, v1 (.ptr 1 0 0)), (3, .yes, v1 (.own 30090))], [(1, .box 33 [ci a0.Op, ci a0.A, ci a0.B, ci a0.C, ci a0.Imm]), (30090, .rows 3 1 eI 0 ([]))], 55⟩) (by kernel_rfl) (by kernel_rfl) (by kernel_rfl) (by kernel_rfl) rfl ?_
      obtain ⟨hg91, h⟩ := gd_some h
      obtain ⟨hg92, h⟩ := gd_some h
      let y93 : List Int := ((([] : List Int) ++ ([a0.C] : List Int)) ++ ([a0.B] : List Int))
      refine StopP.advd tbOk [(22, [(3, .obj (.rows 3 1 eI 0 ([a0.C] : List Int))), (4, .obj (.rows 3 1 eI 0 (([] : List Int) ++ ([a0.C] : List Int))))]), (23, [(3, .obj (.rows 3 1 eI 0 ([a0.B] : List Int))), (4, .obj (.rows 3 1 eI 0 ((([] : List Int) ++ ([a0.C] : List Int)) ++ ([a0.B] : List Int))))])] 100000 1000 (by kernel_rfl) (by kernel_rfl) (ac_c (Built.mk (ty := 3) (es := 1) (enc := eI) (z := 0) (xs := ([a0.C] : List Int)) (fun _ _ => rfl) (by decide : (1 * 1 : Nat) ≤ 16777216)) <| ac_c (Appended.mk (ty := 3) (es := 1) (by_ := 8) (enc := eI) (z := 0) (z' := 0) (xs := ([] : List Int)) (ys := ([a0.C] : List Int)) (fun _ _ => rfl) (sl hg91) (sb hg91 (by decide))) <| ac_c (Built.mk (ty := 3) (es := 1) (enc := eI) (z := 0) (xs := ([a0.B] : List Int)) (fun _ _ => rfl) (by decide : (1 * 1 : Nat) ≤ 16777216)) <| ac_c (Appended.mk (ty := 3) (es := 1) (by_ := 8) (enc := eI) (z := 0) (z' := 0) (xs := (([] : List Int) ++ ([a0.C] : List Int))) (ys := ([a0.B] : List Int)) (fun _ _ => rfl) (sl hg92) (sb hg92 (by decide))) <| ac_nil) ?_
      have h := sm h; subst h
      exact StopP.out .normal (by kernel_rfl) ⟨rfl, [.keep [3] [38]], by kernel_rfl⟩
    · have h := cd_f hb89 h
      refine StopP.advd tbOk [] 100000 1000 (by kernel_rfl) (by kernel_rfl) (ac_nil) ?_
      refine StopP.cond (b := (a0.Op == (3 : Int))) (by kernel_rfl) (fun hb94 => ?_) (fun hb94 => ?_)
      · have h := cd_t hb94 h
        refine StopP.advd tbOk [] 100000 1000 (by kernel_rfl) (by kernel_rfl) (ac_nil) ?_
        refine StopP.condK (b := (a0.Op == (3 : Int))) hb94 (by kernel_rfl) ?_
        refine StopP.reb [.keep [1, 3] [1]] (st' := .at (kid [true, true, false, true, false, false, false, false, false, false, false, false, false, false, false, true, false] (bodyAt Try.f43)) [.code (kid [true, true, false, true, false, false, false, false, false, false, false, false, false, false, true] (bodyAt Try.f43)), .code (kid [true, true, false, true, false, false, false, false, false, false, false, false, false, true] (bodyAt Try.f43)), .blk 1, .code (kid [true, true, false, true, false, false, false, false, false, false, false, true] (bodyAt Try.f43)), .blk 2, .code (kid [true, true, false, true, false, false, false, false, false, true] (bodyAt Try.f43)), .blk 3, .code (kid [true, true, false, true, false, false, false, true] (bodyAt Try.f43)), .blk 4, .code (kid [true, true, false, true, false, true] (bodyAt Try.f43)), .blk 0] ⟨[(1, .yes, v1 (.ptr 1 0 0)), (3, .yes, v1 (cn))], [(1, .box 33 [ci a0.Op, ci a0.A, ci a0.B, ci a0.C, ci a0.Imm])], 55⟩) (by kernel_rfl) (by kernel_rfl) (by kernel_rfl) (by kernel_rfl) rfl ?_
        refine StopP.advd tbOk [] 22 1000 (by kernel_rfl) (by kernel_rfl) (ac_nil) ?_
        refine StopP.chgS [.own (.slot 3 0) 30095 (.rows 3 1 eI 0 [])] (by kernel_rfl) (by kernel_rfl) ?_
        obtain ⟨hg96, h⟩ := gd_some h
        obtain ⟨hg97, h⟩ := gd_some h
        let y98 : List Int := ((([] : List Int) ++ ([a0.C] : List Int)) ++ ([a0.B] : List Int))
        refine StopP.advd tbOk [(22, [(3, .obj (.rows 3 1 eI 0 ([a0.C] : List Int))), (4, .obj (.rows 3 1 eI 0 (([] : List Int) ++ ([a0.C] : List Int))))]), (23, [(3, .obj (.rows 3 1 eI 0 ([a0.B] : List Int))), (4, .obj (.rows 3 1 eI 0 ((([] : List Int) ++ ([a0.C] : List Int)) ++ ([a0.B] : List Int))))])] 100000 1000 (by kernel_rfl) (by kernel_rfl) (ac_c (Built.mk (ty := 3) (es := 1) (enc := eI) (z := 0) (xs := ([a0.C] : List Int)) (fun _ _ => rfl) (by decide : (1 * 1 : Nat) ≤ 16777216)) <| ac_c (Appended.mk (ty := 3) (es := 1) (by_ := 8) (enc := eI) (z := 0) (z' := 0) (xs := ([] : List Int)) (ys := ([a0.C] : List Int)) (fun _ _ => rfl) (sl hg96) (sb hg96 (by decide))) <| ac_c (Built.mk (ty := 3) (es := 1) (enc := eI) (z := 0) (xs := ([a0.B] : List Int)) (fun _ _ => rfl) (by decide : (1 * 1 : Nat) ≤ 16777216)) <| ac_c (Appended.mk (ty := 3) (es := 1) (by_ := 8) (enc := eI) (z := 0) (z' := 0) (xs := (([] : List Int) ++ ([a0.C] : List Int))) (ys := ([a0.B] : List Int)) (fun _ _ => rfl) (sl hg97) (sb hg97 (by decide))) <| ac_nil) ?_
        have h := sm h; subst h
        exact StopP.out .normal (by kernel_rfl) ⟨rfl, [.keep [3] [38]], by kernel_rfl⟩
      · have h := cd_f hb94 h
        refine StopP.advd tbOk [] 100000 1000 (by kernel_rfl) (by kernel_rfl) (ac_nil) ?_
        refine StopP.cond (b := (a0.Op == (4 : Int))) (by kernel_rfl) (fun hb99 => ?_) (fun hb99 => ?_)
        · have h := cd_t hb99 h
          refine StopP.advd tbOk [] 100000 1000 (by kernel_rfl) (by kernel_rfl) (ac_nil) ?_
          refine StopP.condK (b := (a0.Op == (4 : Int))) hb99 (by kernel_rfl) ?_
          refine StopP.reb [.keep [1, 3] [1]] (st' := .at (kid [true, true, false, true, false, false, false, false, false, false, false, false, false, false, false, true, false] (bodyAt Try.f43)) [.code (kid [true, true, false, true, false, false, false, false, false, false, false, false, false, false, true] (bodyAt Try.f43)), .code (kid [true, true, false, true, false, false, false, false, false, false, false, false, false, true] (bodyAt Try.f43)), .blk 1, .code (kid [true, true, false, true, false, false, false, false, false, false, false, true] (bodyAt Try.f43)), .blk 2, .code (kid [true, true, false, true, false, false, false, false, false, true] (bodyAt Try.f43)), .blk 3, .code (kid [true, true, false, true, false, false, false, true] (bodyAt Try.f43)), .blk 4, .code (kid [true, true, false, true, false, true] (bodyAt Try.f43)), .blk 0] ⟨[(1, .yes, v1 (.ptr 1 0 0)), (3, .yes, v1 (cn))], [(1, .box 33 [ci a0.Op, ci a0.A, ci a0.B, ci a0.C, ci a0.Imm])], 55⟩) (by kernel_rfl) (by kernel_rfl) (by kernel_rfl) (by kernel_rfl) rfl ?_
          refine StopP.advd tbOk [] 22 1000 (by kernel_rfl) (by kernel_rfl) (ac_nil) ?_
          refine StopP.chgS [.own (.slot 3 0) 30100 (.rows 3 1 eI 0 [])] (by kernel_rfl) (by kernel_rfl) ?_
          obtain ⟨hg101, h⟩ := gd_some h
          obtain ⟨hg102, h⟩ := gd_some h
          let y103 : List Int := ((([] : List Int) ++ ([a0.C] : List Int)) ++ ([a0.B] : List Int))
          refine StopP.advd tbOk [(22, [(3, .obj (.rows 3 1 eI 0 ([a0.C] : List Int))), (4, .obj (.rows 3 1 eI 0 (([] : List Int) ++ ([a0.C] : List Int))))]), (23, [(3, .obj (.rows 3 1 eI 0 ([a0.B] : List Int))), (4, .obj (.rows 3 1 eI 0 ((([] : List Int) ++ ([a0.C] : List Int)) ++ ([a0.B] : List Int))))])] 100000 1000 (by kernel_rfl) (by kernel_rfl) (ac_c (Built.mk (ty := 3) (es := 1) (enc := eI) (z := 0) (xs := ([a0.C] : List Int)) (fun _ _ => rfl) (by decide : (1 * 1 : Nat) ≤ 16777216)) <| ac_c (Appended.mk (ty := 3) (es := 1) (by_ := 8) (enc := eI) (z := 0) (z' := 0) (xs := ([] : List Int)) (ys := ([a0.C] : List Int)) (fun _ _ => rfl) (sl hg101) (sb hg101 (by decide))) <| ac_c (Built.mk (ty := 3) (es := 1) (enc := eI) (z := 0) (xs := ([a0.B] : List Int)) (fun _ _ => rfl) (by decide : (1 * 1 : Nat) ≤ 16777216)) <| ac_c (Appended.mk (ty := 3) (es := 1) (by_ := 8) (enc := eI) (z := 0) (z' := 0) (xs := (([] : List Int) ++ ([a0.C] : List Int))) (ys := ([a0.B] : List Int)) (fun _ _ => rfl) (sl hg102) (sb hg102 (by decide))) <| ac_nil) ?_
          have h := sm h; subst h
          exact StopP.out .normal (by kernel_rfl) ⟨rfl, [.keep [3] [38]], by kernel_rfl⟩
        · have h := cd_f hb99 h
          refine StopP.reb [.keep [1, 3, 5] [1]] (st' := .at (kid [true, true, false, true, false, false, false, false, false, false, false, false, false, false, false, false, true, true, true, true, true, true, true, true] (bodyAt Try.f43)) [.code (kid [true, true, false, true, false, false, false, false, false, false, false, false, false, false, false, true] (bodyAt Try.f43)), .code (kid [true, true, false, true, false, false, false, false, false, false, false, false, false, false, true] (bodyAt Try.f43)), .code (kid [true, true, false, true, false, false, false, false, false, false, false, false, false, true] (bodyAt Try.f43)), .blk 1, .code (kid [true, true, false, true, false, false, false, false, false, false, false, true] (bodyAt Try.f43)), .blk 2, .code (kid [true, true, false, true, false, false, false, false, false, true] (bodyAt Try.f43)), .blk 3, .code (kid [true, true, false, true, false, false, false, true] (bodyAt Try.f43)), .blk 4, .code (kid [true, true, false, true, false, true] (bodyAt Try.f43)), .blk 0] ⟨[(1, .yes, v1 (.ptr 1 0 0)), (3, .yes, v1 (cn)), (5, .yes, v1 (ci a0.Op))], [(1, .box 33 [ci a0.Op, ci a0.A, ci a0.B, ci a0.C, ci a0.Imm])], 55⟩) (by kernel_rfl) (by kernel_rfl) (by kernel_rfl) (by kernel_rfl) rfl ?_
          refine StopP.advd tbOk [] 100000 1000 (by kernel_rfl) (by kernel_rfl) (ac_nil) ?_
          refine StopP.cond (b := (a0.Op == (5 : Int))) (by kernel_rfl) (fun hb104 => ?_) (fun hb104 => ?_)
          · have h := cd_t hb104 h
            refine StopP.advd tbOk [] 100000 1000 (by kernel_rfl) (by kernel_rfl) (ac_nil) ?_
            refine StopP.condK (b := (a0.Op == (5 : Int))) hb104 (by kernel_rfl) ?_
            refine StopP.advd tbOk [] 22 1000 (by kernel_rfl) (by kernel_rfl) (ac_nil) ?_
            refine StopP.chgS [.own (.slot 3 0) 30105 (.rows 3 1 eI 0 [])] (by kernel_rfl) (by kernel_rfl) ?_
            obtain ⟨hg106, h⟩ := gd_some h
            obtain ⟨hg107, h⟩ := gd_some h
            let y108 : List Int := ((([] : List Int) ++ ([a0.C] : List Int)) ++ ([a0.B] : List Int))
            refine StopP.advd tbOk [(22, [(3, .obj (.rows 3 1 eI 0 ([a0.C] : List Int))), (4, .obj (.rows 3 1 eI 0 (([] : List Int) ++ ([a0.C] : List Int))))]), (23, [(3, .obj (.rows 3 1 eI 0 ([a0.B] : List Int))), (4, .obj (.rows 3 1 eI 0 ((([] : List Int) ++ ([a0.C] : List Int)) ++ ([a0.B] : List Int))))])] 100000 1000 (by kernel_rfl) (by kernel_rfl) (ac_c (Built.mk (ty := 3) (es := 1) (enc := eI) (z := 0) (xs := ([a0.C] : List Int)) (fun _ _ => rfl) (by decide : (1 * 1 : Nat) ≤ 16777216)) <| ac_c (Appended.mk (ty := 3) (es := 1) (by_ := 8) (enc := eI) (z := 0) (z' := 0) (xs := ([] : List Int)) (ys := ([a0.C] : List Int)) (fun _ _ => rfl) (sl hg106) (sb hg106 (by decide))) <| ac_c (Built.mk (ty := 3) (es := 1) (enc := eI) (z := 0) (xs := ([a0.B] : List Int)) (fun _ _ => rfl) (by decide : (1 * 1 : Nat) ≤ 16777216)) <| ac_c (Appended.mk (ty := 3) (es := 1) (by_ := 8) (enc := eI) (z := 0) (z' := 0) (xs := (([] : List Int) ++ ([a0.C] : List Int))) (ys := ([a0.B] : List Int)) (fun _ _ => rfl) (sl hg107) (sb hg107 (by decide))) <| ac_nil) ?_
            have h := sm h; subst h
            exact StopP.out .normal (by kernel_rfl) ⟨rfl, [.keep [3] [38]], by kernel_rfl⟩
          · have h := cd_f hb104 h
            refine StopP.advd tbOk [] 100000 1000 (by kernel_rfl) (by kernel_rfl) (ac_nil) ?_
            refine StopP.cond (b := (a0.Op == (6 : Int))) (by kernel_rfl) (fun hb109 => ?_) (fun hb109 => ?_)
            · have h := cd_t hb109 h
              refine StopP.advd tbOk [] 100000 1000 (by kernel_rfl) (by kernel_rfl) (ac_nil) ?_
              refine StopP.condK (b := (a0.Op == (6 : Int))) hb109 (by kernel_rfl) ?_
              refine StopP.advd tbOk [] 22 1000 (by kernel_rfl) (by kernel_rfl) (ac_nil) ?_
              refine StopP.chgS [.own (.slot 3 0) 30110 (.rows 3 1 eI 0 [])] (by kernel_rfl) (by kernel_rfl) ?_
              refine StopP.reb [.keep [1, 3] [1, 30110]] (st' := .at (kid [true, true, false, true, false, false, false, false, false, false, false, true] (bodyAt Try.f43)) [.blk 2, .code (kid [true, true, false, true, false, false, false, false, false, true] (bodyAt Try.f43)), .blk 3, .code (kid [true, true, false, true, false, false, false, true] (bodyAt Try.f43)), .blk 4, .code (kid [true, true, false, true, false, true] (bodyAt Try.f43)), .blk 0] ⟨[(1, .yes, v1 (.ptr 1 0 0)), (3, .yes, v1 (.own 30110))], [(1, .box 33 [ci a0.Op, ci a0.A, ci a0.B, ci a0.C, ci a0.Imm]), (30110, .rows 3 1 eI 0 ([]))], 55⟩) (by kernel_rfl) (by kernel_rfl) (by kernel_rfl) (by kernel_rfl) rfl ?_
              obtain ⟨hg111, h⟩ := gd_some h
              obtain ⟨hg112, h⟩ := gd_some h
              let y113 : List Int := ((([] : List Int) ++ ([a0.C] : List Int)) ++ ([a0.B] : List Int))
              refine StopP.advd tbOk [(22, [(3, .obj (.rows 3 1 eI 0 ([a0.C] : List Int))), (4, .obj (.rows 3 1 eI 0 (([] : List Int) ++ ([a0.C] : List Int))))]), (23, [(3, .obj (.rows 3 1 eI 0 ([a0.B] : List Int))), (4, .obj (.rows 3 1 eI 0 ((([] : List Int) ++ ([a0.C] : List Int)) ++ ([a0.B] : List Int))))])] 100000 1000 (by kernel_rfl) (by kernel_rfl) (ac_c (Built.mk (ty := 3) (es := 1) (enc := eI) (z := 0) (xs := ([a0.C] : List Int)) (fun _ _ => rfl) (by decide : (1 * 1 : Nat) ≤ 16777216)) <| ac_c (Appended.mk (ty := 3) (es := 1) (by_ := 8) (enc := eI) (z := 0) (z' := 0) (xs := ([] : List Int)) (ys := ([a0.C] : List Int)) (fun _ _ => rfl) (sl hg111) (sb hg111 (by decide))) <| ac_c (Built.mk (ty := 3) (es := 1) (enc := eI) (z := 0) (xs := ([a0.B] : List Int)) (fun _ _ => rfl) (by decide : (1 * 1 : Nat) ≤ 16777216)) <| ac_c (Appended.mk (ty := 3) (es := 1) (by_ := 8) (enc := eI) (z := 0) (z' := 0) (xs := (([] : List Int) ++ ([a0.C] : List Int))) (ys := ([a0.B] : List Int)) (fun _ _ => rfl) (sl hg112) (sb hg112 (by decide))) <| ac_nil) ?_
              have h := sm h; subst h
              exact StopP.out .normal (by kernel_rfl) ⟨rfl, [.keep [3] [38]], by kernel_rfl⟩
            · have h := cd_f hb109 h
              refine StopP.advd tbOk [] 100000 1000 (by kernel_rfl) (by kernel_rfl) (ac_nil) ?_
              refine StopP.cond (b := (a0.Op == (7 : Int))) (by kernel_rfl) (fun hb114 => ?_) (fun hb114 => ?_)
              · have h := cd_t hb114 h
                refine StopP.advd tbOk [] 22 1000 (by kernel_rfl) (by kernel_rfl) (ac_nil) ?_
                refine StopP.chgS [.own (.slot 3 0) 30115 (.rows 3 1 eI 0 [])] (by kernel_rfl) (by kernel_rfl) ?_
                refine StopP.reb [.keep [1, 3] [1, 30115]] (st' := .at (kid [true, true, false, true, false, false, false, false, false, false, false, true] (bodyAt Try.f43)) [.blk 2, .code (kid [true, true, false, true, false, false, false, false, false, true] (bodyAt Try.f43)), .blk 3, .code (kid [true, true, false, true, false, false, false, true] (bodyAt Try.f43)), .blk 4, .code (kid [true, true, false, true, false, true] (bodyAt Try.f43)), .blk 0] ⟨[(1, .yes, v1 (.ptr 1 0 0)), (3, .yes, v1 (.own 30115))], [(1, .box 33 [ci a0.Op, ci a0.A, ci a0.B, ci a0.C, ci a0.Imm]), (30115, .rows 3 1 eI 0 ([]))], 55⟩) (by kernel_rfl) (by kernel_rfl) (by kernel_rfl) (by kernel_rfl) rfl ?_
                obtain ⟨hg116, h⟩ := gd_some h
                obtain ⟨hg117, h⟩ := gd_some h
                let y118 : List Int := ((([] : List Int) ++ ([a0.C] : List Int)) ++ ([a0.B] : List Int))
                refine StopP.advd tbOk [(22, [(3, .obj (.rows 3 1 eI 0 ([a0.C] : List Int))), (4, .obj (.rows 3 1 eI 0 (([] : List Int) ++ ([a0.C] : List Int))))]), (23, [(3, .obj (.rows 3 1 eI 0 ([a0.B] : List Int))), (4, .obj (.rows 3 1 eI 0 ((([] : List Int) ++ ([a0.C] : List Int)) ++ ([a0.B] : List Int))))])] 100000 1000 (by kernel_rfl) (by kernel_rfl) (ac_c (Built.mk (ty := 3) (es := 1) (enc := eI) (z := 0) (xs := ([a0.C] : List Int)) (fun _ _ => rfl) (by decide : (1 * 1 : Nat) ≤ 16777216)) <| ac_c (Appended.mk (ty := 3) (es := 1) (by_ := 8) (enc := eI) (z := 0) (z' := 0) (xs := ([] : List Int)) (ys := ([a0.C] : List Int)) (fun _ _ => rfl) (sl hg116) (sb hg116 (by decide))) <| ac_c (Built.mk (ty := 3) (es := 1) (enc := eI) (z := 0) (xs := ([a0.B] : List Int)) (fun _ _ => rfl) (by decide : (1 * 1 : Nat) ≤ 16777216)) <| ac_c (Appended.mk (ty := 3) (es := 1) (by_ := 8) (enc := eI) (z := 0) (z' := 0) (xs := (([] : List Int) ++ ([a0.C] : List Int))) (ys := ([a0.B] : List Int)) (fun _ _ => rfl) (sl hg117) (sb hg117 (by decide))) <| ac_nil) ?_
                have h := sm h; subst h
                exact StopP.out .normal (by kernel_rfl) ⟨rfl, [.keep [3] [38]], by kernel_rfl⟩
              · have h := cd_f hb114 h
                refine StopP.advd tbOk [] 100000 1000 (by kernel_rfl) (by kernel_rfl) (ac_nil) ?_
                refine StopP.cond (b := (a0.Op == (8 : Int))) (by kernel_rfl) (fun hb119 => ?_) (fun hb119 => ?_)
                · have h := cd_t hb119 h
                  refine StopP.advd tbOk [] 100000 1000 (by kernel_rfl) (by kernel_rfl) (ac_nil) ?_
                  refine StopP.condK (b := (a0.Op == (8 : Int))) hb119 (by kernel_rfl) ?_
                  refine StopP.reb [.keep [1, 3] [1]] (st' := .at (kid [true, true, false, true, false, false, false, false, false, false, false, false, false, false, true, false, true, false] (bodyAt Try.f43)) [.code (kid [true, true, false, true, false, false, false, false, false, false, false, false, false, false, true, true] (bodyAt Try.f43)), .code (kid [true, true, false, true, false, false, false, false, false, false, false, false, false, true] (bodyAt Try.f43)), .blk 1, .code (kid [true, true, false, true, false, false, false, false, false, false, false, true] (bodyAt Try.f43)), .blk 2, .code (kid [true, true, false, true, false, false, false, false, false, true] (bodyAt Try.f43)), .blk 3, .code (kid [true, true, false, true, false, false, false, true] (bodyAt Try.f43)), .blk 4, .code (kid [true, true, false, true, false, true] (bodyAt Try.f43)), .blk 0] ⟨[(1, .yes, v1 (.ptr 1 0 0)), (3, .yes, v1 (cn))], [(1, .box 33 [ci a0.Op, ci a0.A, ci a0.B, ci a0.C, ci a0.Imm])], 55⟩) (by kernel_rfl) (by kernel_rfl) (by kernel_rfl) (by kernel_rfl) rfl ?_
                  refine StopP.advd tbOk [] 23 1000 (by kernel_rfl) (by kernel_rfl) (ac_nil) ?_
                  refine StopP.chgS [.own (.slot 3 0) 30120 (.rows 3 1 eI 0 [])] (by kernel_rfl) (by kernel_rfl) ?_
                  obtain ⟨hg121, h⟩ := gd_some h
                  refine StopP.advd tbOk [(23, [(3, .obj (.rows 3 1 eI 0 ([a0.B] : List Int))), (4, .obj (.rows 3 1 eI 0 (([] : List Int) ++ ([a0.B] : List Int))))])] 100000 1000 (by kernel_rfl) (by kernel_rfl) (ac_c (Built.mk (ty := 3) (es := 1) (enc := eI) (z := 0) (xs := ([a0.B] : List Int)) (fun _ _ => rfl) (by decide : (1 * 1 : Nat) ≤ 16777216)) <| ac_c (Appended.mk (ty := 3) (es := 1) (by_ := 8) (enc := eI) (z := 0) (z' := 0) (xs := ([] : List Int)) (ys := ([a0.B] : List Int)) (fun _ _ => rfl) (sl hg121) (sb hg121 (by decide))) <| ac_nil) ?_
                  have h := sm h; subst h
                  exact StopP.out .normal (by kernel_rfl) ⟨rfl, [.keep [3] [38]], by kernel_rfl⟩
                · have h := cd_f hb119 h
                  refine StopP.reb [.keep [1, 3, 5] [1]] (st' := .at (kid [true, true, false, true, false, false, false, false, false, false, false, false, false, false, true, false, false, true, true] (bodyAt Try.f43)) [.code (kid [true, true, false, true, false, false, false, false, false, false, false, false, false, false, true, false, true] (bodyAt Try.f43)), .code (kid [true, true, false, true, false, false, false, false, false, false, false, false, false, false, true, true] (bodyAt Try.f43)), .code (kid [true, true, false, true, false, false, false, false, false, false, false, false, false, true] (bodyAt Try.f43)), .blk 1, .code (kid [true, true, false, true, false, false, false, false, false, false, false, true] (bodyAt Try.f43)), .blk 2, .code (kid [true, true, false, true, false, false, false, false, false, true] (bodyAt Try.f43)), .blk 3, .code (kid [true, true, false, true, false, false, false, true] (bodyAt Try.f43)), .blk 4, .code (kid [true, true, false, true, false, true] (bodyAt Try.f43)), .blk 0] ⟨[(1, .yes, v1 (.ptr 1 0 0)), (3, .yes, v1 (cn)), (5, .yes, v1 (ci a0.Op))], [(1, .box 33 [ci a0.Op, ci a0.A, ci a0.B, ci a0.C, ci a0.Imm])], 55⟩) (by kernel_rfl) (by kernel_rfl) (by kernel_rfl) (by kernel_rfl) rfl ?_
                  refine StopP.advd tbOk [] 100000 1000 (by kernel_rfl) (by kernel_rfl) (ac_nil) ?_
                  refine StopP.cond (b := (a0.Op == (10 : Int))) (by kernel_rfl) (fun hb122 => ?_) (fun hb122 => ?_)
                  · have h := cd_t hb122 h
                    refine StopP.advd tbOk [] 100000 1000 (by kernel_rfl) (by kernel_rfl) (ac_nil) ?_
                    refine StopP.condK (b := (a0.Op == (10 : Int))) hb122 (by kernel_rfl) ?_
                    refine StopP.advd tbOk [] 23 1000 (by kernel_rfl) (by kernel_rfl) (ac_nil) ?_
                    refine StopP.chgS [.own (.slot 3 0) 30123 (.rows 3 1 eI 0 [])] (by kernel_rfl) (by kernel_rfl) ?_
                    obtain ⟨hg124, h⟩ := gd_some h
                    refine StopP.advd tbOk [(23, [(3, .obj (.rows 3 1 eI 0 ([a0.B] : List Int))), (4, .obj (.rows 3 1 eI 0 (([] : List Int) ++ ([a0.B] : List Int))))])] 100000 1000 (by kernel_rfl) (by kernel_rfl) (ac_c (Built.mk (ty := 3) (es := 1) (enc := eI) (z := 0) (xs := ([a0.B] : List Int)) (fun _ _ => rfl) (by decide : (1 * 1 : Nat) ≤ 16777216)) <| ac_c (Appended.mk (ty := 3) (es := 1) (by_ := 8) (enc := eI) (z := 0) (z' := 0) (xs := ([] : List Int)) (ys := ([a0.B] : List Int)) (fun _ _ => rfl) (sl hg124) (sb hg124 (by decide))) <| ac_nil) ?_
                    have h := sm h; subst h
                    exact StopP.out .normal (by kernel_rfl) ⟨rfl, [.keep [3] [38]], by kernel_rfl⟩
                  · have h := cd_f hb122 h
                    refine StopP.advd tbOk [] 100000 1000 (by kernel_rfl) (by kernel_rfl) (ac_nil) ?_
                    refine StopP.cond (b := (a0.Op == (11 : Int))) (by kernel_rfl) (fun hb125 => ?_) (fun hb125 => ?_)
                    · have h := cd_t hb125 h
                      refine StopP.advd tbOk [] 100000 1000 (by kernel_rfl) (by kernel_rfl) (ac_nil) ?_
                      refine StopP.condK (b := (a0.Op == (11 : Int))) hb125 (by kernel_rfl) ?_
                      refine StopP.advd tbOk [] 23 1000 (by kernel_rfl) (by kernel_rfl) (ac_nil) ?_
                      refine StopP.chgS [.own (.slot 3 0) 30126 (.rows 3 1 eI 0 [])] (by kernel_rfl) (by kernel_rfl) ?_
                      refine StopP.reb [.keep [1, 3] [1, 30126]] (st' := .at (kid [true, true, false, true, false, false, false, false, false, true, false] (bodyAt Try.f43)) [.code (kid [true, true, false, true, false, false, false, false, false, true, true] (bodyAt Try.f43)), .blk 3, .code (kid [true, true, false, true, false, false, false, true] (bodyAt Try.f43)), .blk 4, .code (kid [true, true, false, true, false, true] (bodyAt Try.f43)), .blk 0] ⟨[(1, .yes, v1 (.ptr 1 0 0)), (3, .yes, v1 (.own 30126))], [(1, .box 33 [ci a0.Op, ci a0.A, ci a0.B, ci a0.C, ci a0.Imm]), (30126, .rows 3 1 eI 0 ([]))], 55⟩) (by kernel_rfl) (by kernel_rfl) (by kernel_rfl) (by kernel_rfl) rfl ?_
                      obtain ⟨hg127, h⟩ := gd_some h
                      refine StopP.advd tbOk [(23, [(3, .obj (.rows 3 1 eI 0 ([a0.B] : List Int))), (4, .obj (.rows 3 1 eI 0 (([] : List Int) ++ ([a0.B] : List Int))))])] 100000 1000 (by kernel_rfl) (by kernel_rfl) (ac_c (Built.mk (ty := 3) (es := 1) (enc := eI) (z := 0) (xs := ([a0.B] : List Int)) (fun _ _ => rfl) (by decide : (1 * 1 : Nat) ≤ 16777216)) <| ac_c (Appended.mk (ty := 3) (es := 1) (by_ := 8) (enc := eI) (z := 0) (z' := 0) (xs := ([] : List Int)) (ys := ([a0.B] : List Int)) (fun _ _ => rfl) (sl hg127) (sb hg127 (by decide))) <| ac_nil) ?_
                      have h := sm h; subst h
                      exact StopP.out .normal (by kernel_rfl) ⟨rfl, [.keep [3] [38]], by kernel_rfl⟩
                    · have h := cd_f hb125 h
                      refine StopP.advd tbOk [] 100000 1000 (by kernel_rfl) (by kernel_rfl) (ac_nil) ?_
                      refine StopP.cond (b := (a0.Op == (13 : Int))) (by kernel_rfl) (fun hb128 => ?_) (fun hb128 => ?_)
                      · have h := cd_t hb128 h
                        refine StopP.advd tbOk [] 23 1000 (by kernel_rfl) (by kernel_rfl) (ac_nil) ?_
                        refine StopP.chgS [.own (.slot 3 0) 30129 (.rows 3 1 eI 0 [])] (by kernel_rfl) (by kernel_rfl) ?_
                        refine StopP.reb [.keep [1, 3] [1, 30129]] (st' := .at (kid [true, true, false, true, false, false, false, false, false, true, false] (bodyAt Try.f43)) [.code (kid [true, true, false, true, false, false, false, false, false, true, true] (bodyAt Try.f43)), .blk 3, .code (kid [true, true, false, true, false, false, false, true] (bodyAt Try.f43)), .blk 4, .code (kid [true, true, false, true, false, true] (bodyAt Try.f43)), .blk 0] ⟨[(1, .yes, v1 (.ptr 1 0 0)), (3, .yes, v1 (.own 30129))], [(1, .box 33 [ci a0.Op, ci a0.A, ci a0.B, ci a0.C, ci a0.Imm]), (30129, .rows 3 1 eI 0 ([]))], 55⟩) (by kernel_rfl) (by kernel_rfl) (by kernel_rfl) (by kernel_rfl) rfl ?_
                        obtain ⟨hg130, h⟩ := gd_some h
                        refine StopP.advd tbOk [(23, [(3, .obj (.rows 3 1 eI 0 ([a0.B] : List Int))), (4, .obj (.rows 3 1 eI 0 (([] : List Int) ++ ([a0.B] : List Int))))])] 100000 1000 (by kernel_rfl) (by kernel_rfl) (ac_c (Built.mk (ty := 3) (es := 1) (enc := eI) (z := 0) (xs := ([a0.B] : List Int)) (fun _ _ => rfl) (by decide : (1 * 1 : Nat) ≤ 16777216)) <| ac_c (Appended.mk (ty := 3) (es := 1) (by_ := 8) (enc := eI) (z := 0) (z' := 0) (xs := ([] : List Int)) (ys := ([a0.B] : List Int)) (fun _ _ => rfl) (sl hg130) (sb hg130 (by decide))) <| ac_nil) ?_
                        have h := sm h; subst h
                        exact StopP.out .normal (by kernel_rfl) ⟨rfl, [.keep [3] [38]], by kernel_rfl⟩
                      · have h := cd_f hb128 h
                        refine StopP.advd tbOk [] 100000 1000 (by kernel_rfl) (by kernel_rfl) (ac_nil) ?_
                        refine StopP.cond (b := (a0.Op == (12 : Int))) (by kernel_rfl) (fun hb131 => ?_) (fun hb131 => ?_)
                        · have h := cd_t hb131 h
                          refine StopP.advd tbOk [] 100000 1000 (by kernel_rfl) (by kernel_rfl) (ac_nil) ?_
                          refine StopP.condK (b := (a0.Op == (12 : Int))) hb131 (by kernel_rfl) ?_
                          refine StopP.reb [.keep [1, 3] [1]] (st' := .at (kid [true, true, false, true, false, false, false, false, false, false, false, false, false, false, true, true, false, true, false] (bodyAt Try.f43)) [.code (kid [true, true, false, true, false, false, false, false, false, false, false, false, false, false, true, true, true] (bodyAt Try.f43)), .code (kid [true, true, false, true, false, false, false, false, false, false, false, false, false, true] (bodyAt Try.f43)), .blk 1, .code (kid [true, true, false, true, false, false, false, false, false, false, false, true] (bodyAt Try.f43)), .blk 2, .code (kid [true, true, false, true, false, false, false, false, false, true] (bodyAt Try.f43)), .blk 3, .code (kid [true, true, false, true, false, false, false, true] (bodyAt Try.f43)), .blk 4, .code (kid [true, true, false, true, false, true] (bodyAt Try.f43)), .blk 0] ⟨[(1, .yes, v1 (.ptr 1 0 0)), (3, .yes, v1 (cn))], [(1, .box 33 [ci a0.Op, ci a0.A, ci a0.B, ci a0.C, ci a0.Imm])], 55⟩) (by kernel_rfl) (by kernel_rfl) (by kernel_rfl) (by kernel_rfl) rfl ?_
                          refine StopP.advd tbOk [] 24 1000 (by kernel_rfl) (by kernel_rfl) (ac_nil) ?_
                          refine StopP.chgS [.own (.slot 3 0) 30132 (.rows 3 1 eI 0 [])] (by kernel_rfl) (by kernel_rfl) ?_
                          obtain ⟨hg133, h⟩ := gd_some h
                          obtain ⟨hg134, h⟩ := gd_some h
                          let y135 : List Int := ((([] : List Int) ++ ([a0.B] : List Int)) ++ ([a0.A] : List Int))
                          refine StopP.advd tbOk [(24, [(3, .obj (.rows 3 1 eI 0 ([a0.B] : List Int))), (4, .obj (.rows 3 1 eI 0 (([] : List Int) ++ ([a0.B] : List Int))))]), (25, [(3, .obj (.rows 3 1 eI 0 ([a0.A] : List Int))), (4, .obj (.rows 3 1 eI 0 ((([] : List Int) ++ ([a0.B] : List Int)) ++ ([a0.A] : List Int))))])] 100000 1000 (by kernel_rfl) (by kernel_rfl) (ac_c (Built.mk (ty := 3) (es := 1) (enc := eI) (z := 0) (xs := ([a0.B] : List Int)) (fun _ _ => rfl) (by decide : (1 * 1 : Nat) ≤ 16777216)) <| ac_c (Appended.mk (ty := 3) (es := 1) (by_ := 8) (enc := eI) (z := 0) (z' := 0) (xs := ([] : List Int)) (ys := ([a0.B] : List Int)) (fun _ _ => rfl) (sl hg133) (sb hg133 (by decide))) <| ac_c (Built.mk (ty := 3) (es := 1) (enc := eI) (z := 0) (xs := ([a0.A] : List Int)) (fun _ _ => rfl) (by decide : (1 * 1 : Nat) ≤ 16777216)) <| ac_c (Appended.mk (ty := 3) (es := 1) (by_ := 8) (enc := eI) (z := 0) (z' := 0) (xs := (([] : List Int) ++ ([a0.B] : List Int))) (ys := ([a0.A] : List Int)) (fun _ _ => rfl) (sl hg134) (sb hg134 (by decide))) <| ac_nil) ?_
                          have h := sm h; subst h
                          exact StopP.out .normal (by kernel_rfl) ⟨rfl, [.keep [3] [48], .ren [(48, 38)]], by kernel_rfl⟩
                        · have h := cd_f hb131 h
                          refine StopP.reb [.keep [1, 3, 5] [1]] (st' := .at (kid [true, true, false, true, false, false, false, false, false, false, false, false, false, false, true, true, false, false, true, true] (bodyAt Try.f43)) [.code (kid [true, true, false, true, false, false, false, false, false, false, false, false, false, false, true, true, false, true] (bodyAt Try.f43)), .code (kid [true, true, false, true, false, false, false, false, false, false, false, false, false, false, true, true, true] (bodyAt Try.f43)), .code (kid [true, true, false, true, false, false, false, false, false, false, false, false, false, true] (bodyAt Try.f43)), .blk 1, .code (kid [true, true, false, true, false, false, false, false, false, false, false, true] (bodyAt Try.f43)), .blk 2, .code (kid [true, true, false, true, false, false, false, false, false, true] (bodyAt Try.f43)), .blk 3, .code (kid [true, true, false, true, false, false, false, true] (bodyAt Try.f43)), .blk 4, .code (kid [true, true, false, true, false, true] (bodyAt Try.f43)), .blk 0] ⟨[(1, .yes, v1 (.ptr 1 0 0)), (3, .yes, v1 (cn)), (5, .yes, v1 (ci a0.Op))], [(1, .box 33 [ci a0.Op, ci a0.A, ci a0.B, ci a0.C, ci a0.Imm])], 55⟩) (by kernel_rfl) (by kernel_rfl) (by kernel_rfl) (by kernel_rfl) rfl ?_
                          refine StopP.advd tbOk [] 100000 1000 (by kernel_rfl) (by kernel_rfl) (ac_nil) ?_
                          refine StopP.cond (b := (a0.Op == (14 : Int))) (by kernel_rfl) (fun hb136 => ?_) (fun hb136 => ?_)
                          · have h := cd_t hb136 h
                            refine StopP.advd tbOk [] 100000 1000 (by kernel_rfl) (by kernel_rfl) (ac_nil) ?_
                            refine StopP.condK (b := (a0.Op == (14 : Int))) hb136 (by kernel_rfl) ?_
                            refine StopP.advd tbOk [] 24 1000 (by kernel_rfl) (by kernel_rfl) (ac_nil) ?_
                            refine StopP.chgS [.own (.slot 3 0) 30137 (.rows 3 1 eI 0 [])] (by kernel_rfl) (by kernel_rfl) ?_
                            obtain ⟨hg138, h⟩ := gd_some h
                            obtain ⟨hg139, h⟩ := gd_some h
                            let y140 : List Int := ((([] : List Int) ++ ([a0.B] : List Int)) ++ ([a0.A] : List Int))
                            refine StopP.advd tbOk [(24, [(3, .obj (.rows 3 1 eI 0 ([a0.B] : List Int))), (4, .obj (.rows 3 1 eI 0 (([] : List Int) ++ ([a0.B] : List Int))))]), (25, [(3, .obj (.rows 3 1 eI 0 ([a0.A] : List Int))), (4, .obj (.rows 3 1 eI 0 ((([] : List Int) ++ ([a0.B] : List Int)) ++ ([a0.A] : List Int))))])] 100000 1000 (by kernel_rfl) (by kernel_rfl) (ac_c (Built.mk (ty := 3) (es := 1) (enc := eI) (z := 0) (xs := ([a0.B] : List Int)) (fun _ _ => rfl) (by decide : (1 * 1 : Nat) ≤ 16777216)) <| ac_c (Appended.mk (ty := 3) (es := 1) (by_ := 8) (enc := eI) (z := 0) (z' := 0) (xs := ([] : List Int)) (ys := ([a0.B] : List Int)) (fun _ _ => rfl) (sl hg138) (sb hg138 (by decide))) <| ac_c (Built.mk (ty := 3) (es := 1) (enc := eI) (z := 0) (xs := ([a0.A] : List Int)) (fun _ _ => rfl) (by decide : (1 * 1 : Nat) ≤ 16777216)) <| ac_c (Appended.mk (ty := 3) (es := 1) (by_ := 8) (enc := eI) (z := 0) (z' := 0) (xs := (([] : List Int) ++ ([a0.B] : List Int))) (ys := ([a0.A] : List Int)) (fun _ _ => rfl) (sl hg139) (sb hg139 (by decide))) <| ac_nil) ?_
                            have h := sm h; subst h
                            exact StopP.out .normal (by kernel_rfl) ⟨rfl, [.keep [3] [48], .ren [(48, 38)]], by kernel_rfl⟩
                          · have h := cd_f hb136 h
                            refine StopP.advd tbOk [] 100000 1000 (by kernel_rfl) (by kernel_rfl) (ac_nil) ?_
                            refine StopP.cond (b := (a0.Op == (15 : Int))) (by kernel_rfl) (fun hb141 => ?_) (fun hb141 => ?_)
                            · have h := cd_t hb141 h
                              refine StopP.advd tbOk [] 100000 1000 (by kernel_rfl) (by kernel_rfl) (ac_nil) ?_
                              refine StopP.condK (b := (a0.Op == (15 : Int))) hb141 (by kernel_rfl) ?_
                              refine StopP.advd tbOk [] 24 1000 (by kernel_rfl) (by kernel_rfl) (ac_nil) ?_
                              refine StopP.chgS [.own (.slot 3 0) 30142 (.rows 3 1 eI 0 [])] (by kernel_rfl) (by kernel_rfl) ?_
                              refine StopP.reb [.keep [1, 3] [1, 30142]] (st' := .at (kid [true, true, false, true, false, false, false, true] (bodyAt Try.f43)) [.blk 4, .code (kid [true, true, false, true, false, true] (bodyAt Try.f43)), .blk 0] ⟨[(1, .yes, v1 (.ptr 1 0 0)), (3, .yes, v1 (.own 30142))], [(1, .box 33 [ci a0.Op, ci a0.A, ci a0.B, ci a0.C, ci a0.Imm]), (30142, .rows 3 1 eI 0 ([]))], 55⟩) (by kernel_rfl) (by kernel_rfl) (by kernel_rfl) (by kernel_rfl) rfl ?_
                              obtain ⟨hg143, h⟩ := gd_some h
                              obtain ⟨hg144, h⟩ := gd_some h
                              let y145 : List Int := ((([] : List Int) ++ ([a0.B] : List Int)) ++ ([a0.A] : List Int))
                              refine StopP.advd tbOk [(24, [(3, .obj (.rows 3 1 eI 0 ([a0.B] : List Int))), (4, .obj (.rows 3 1 eI 0 (([] : List Int) ++ ([a0.B] : List Int))))]), (25, [(3, .obj (.rows 3 1 eI 0 ([a0.A] : List Int))), (4, .obj (.rows 3 1 eI 0 ((([] : List Int) ++ ([a0.B] : List Int)) ++ ([a0.A] : List Int))))])] 100000 1000 (by kernel_rfl) (by kernel_rfl) (ac_c (Built.mk (ty := 3) (es := 1) (enc := eI) (z := 0) (xs := ([a0.B] : List Int)) (fun _ _ => rfl) (by decide : (1 * 1 : Nat) ≤ 16777216)) <| ac_c (Appended.mk (ty := 3) (es := 1) (by_ := 8) (enc := eI) (z := 0) (z' := 0) (xs := ([] : List Int)) (ys := ([a0.B] : List Int)) (fun _ _ => rfl) (sl hg143) (sb hg143 (by decide))) <| ac_c (Built.mk (ty := 3) (es := 1) (enc := eI) (z := 0) (xs := ([a0.A] : List Int)) (fun _ _ => rfl) (by decide : (1 * 1 : Nat) ≤ 16777216)) <| ac_c (Appended.mk (ty := 3) (es := 1) (by_ := 8) (enc := eI) (z := 0) (z' := 0) (xs := (([] : List Int) ++ ([a0.B] : List Int))) (ys := ([a0.A] : List Int)) (fun _ _ => rfl) (sl hg144) (sb hg144 (by decide))) <| ac_nil) ?_
                              have h := sm h; subst h
                              exact StopP.out .normal (by kernel_rfl) ⟨rfl, [.keep [3] [48], .ren [(48, 38)]], by kernel_rfl⟩
                            · have h := cd_f hb141 h
                              refine StopP.advd tbOk [] 100000 1000 (by kernel_rfl) (by kernel_rfl) (ac_nil) ?_
                              refine StopP.cond (b := (a0.Op == (16 : Int))) (by kernel_rfl) (fun hb146 => ?_) (fun hb146 => ?_)
                              · have h := cd_t hb146 h
                                refine StopP.advd tbOk [] 100000 1000 (by kernel_rfl) (by kernel_rfl) (ac_nil) ?_
                                refine StopP.condK (b := (a0.Op == (16 : Int))) hb146 (by kernel_rfl) ?_
                                refine StopP.reb [.keep [1, 3] [1]] (st' := .at (kid [true, true, false, true, false, false, false, false, false, false, false, false, false, false, true, true, false, true, false] (bodyAt Try.f43)) [.code (kid [true, true, false, true, false, false, false, false, false, false, false, false, false, false, true, true, true] (bodyAt Try.f43)), .code (kid [true, true, false, true, false, false, false, false, false, false, false, false, false, true] (bodyAt Try.f43)), .blk 1, .code (kid [true, true, false, true, false, false, false, false, false, false, false, true] (bodyAt Try.f43)), .blk 2, .code (kid [true, true, false, true, false, false, false, false, false, true] (bodyAt Try.f43)), .blk 3, .code (kid [true, true, false, true, false, false, false, true] (bodyAt Try.f43)), .blk 4, .code (kid [true, true, false, true, false, true] (bodyAt Try.f43)), .blk 0] ⟨[(1, .yes, v1 (.ptr 1 0 0)), (3, .yes, v1 (cn))], [(1, .box 33 [ci a0.Op, ci a0.A, ci a0.B, ci a0.C, ci a0.Imm])], 55⟩) (by kernel_rfl) (by kernel_rfl) (by kernel_rfl) (by kernel_rfl) rfl ?_
                                refine StopP.advd tbOk [] 24 1000 (by kernel_rfl) (by kernel_rfl) (ac_nil) ?_
                                refine StopP.chgS [.own (.slot 3 0) 30147 (.rows 3 1 eI 0 [])] (by kernel_rfl) (by kernel_rfl) ?_
                                obtain ⟨hg148, h⟩ := gd_some h
                                obtain ⟨hg149, h⟩ := gd_some h
                                let y150 : List Int := ((([] : List Int) ++ ([a0.B] : List Int)) ++ ([a0.A] : List Int))
                                refine StopP.advd tbOk [(24, [(3, .obj (.rows 3 1 eI 0 ([a0.B] : List Int))), (4, .obj (.rows 3 1 eI 0 (([] : List Int) ++ ([a0.B] : List Int))))]), (25, [(3, .obj (.rows 3 1 eI 0 ([a0.A] : List Int))), (4, .obj (.rows 3 1 eI 0 ((([] : List Int) ++ ([a0.B] : List Int)) ++ ([a0.A] : List Int))))])] 100000 1000 (by kernel_rfl) (by kernel_rfl) (ac_c (Built.mk (ty := 3) (es := 1) (enc := eI) (z := 0) (xs := ([a0.B] : List Int)) (fun _ _ => rfl) (by decide : (1 * 1 : Nat) ≤ 16777216)) <| ac_c (Appended.mk (ty := 3) (es := 1) (by_ := 8) (enc := eI) (z := 0) (z' := 0) (xs := ([] : List Int)) (ys := ([a0.B] : List Int)) (fun _ _ => rfl) (sl hg148) (sb hg148 (by decide))) <| ac_c (Built.mk (ty := 3) (es := 1) (enc := eI) (z := 0) (xs := ([a0.A] : List Int)) (fun _ _ => rfl) (by decide : (1 * 1 : Nat) ≤ 16777216)) <| ac_c (Appended.mk (ty := 3) (es := 1) (by_ := 8) (enc := eI) (z := 0) (z' := 0) (xs := (([] : List Int) ++ ([a0.B] : List Int))) (ys := ([a0.A] : List Int)) (fun _ _ => rfl) (sl hg149) (sb hg149 (by decide))) <| ac_nil) ?_
                                have h := sm h; subst h
                                exact StopP.out .normal (by kernel_rfl) ⟨rfl, [.keep [3] [48], .ren [(48, 38)]], by kernel_rfl⟩
                              · have h := cd_f hb146 h
                                refine StopP.advd tbOk [] 100000 1000 (by kernel_rfl) (by kernel_rfl) (ac_nil) ?_
                                refine StopP.cond (b := (a0.Op == (17 : Int))) (by kernel_rfl) (fun hb151 => ?_) (fun hb151 => ?_)
                                · have h := cd_t hb151 h
                                  refine StopP.advd tbOk [] 100000 1000 (by kernel_rfl) (by kernel_rfl) (ac_nil) ?_
                                  refine StopP.condK (b := (a0.Op == (17 : Int))) hb151 (by kernel_rfl) ?_
                                  refine StopP.reb [.keep [1, 3] [1]] (st' := .at (kid [true, true, false, true, false, false, false, false, false, false, false, false, false, false, true, true, false, true, false] (bodyAt Try.f43)) [.code (kid [true, true, false, true, false, false, false, false, false, false, false, false, false, false, true, true, true] (bodyAt Try.f43)), .code (kid [true, true, false, true, false, false, false, false, false, false, false, false, false, true] (bodyAt Try.f43)), .blk 1, .code (kid [true, true, false, true, false, false, false, false, false, false, false, true] (bodyAt Try.f43)), .blk 2, .code (kid [true, true, false, true, false, false, false, false, false, true] (bodyAt Try.f43)), .blk 3, .code (kid [true, true, false, true, false, false, false, true] (bodyAt Try.f43)), .blk 4, .code (kid [true, true, false, true, false, true] (bodyAt Try.f43)), .blk 0] ⟨[(1, .yes, v1 (.ptr 1 0 0)), (3, .yes, v1 (cn))], [(1, .box 33 [ci a0.Op, ci a0.A, ci a0.B, ci a0.C, ci a0.Imm])], 55⟩) (by kernel_rfl) (by kernel_rfl) (by kernel_rfl) (by kernel_rfl) rfl ?_
                                  refine StopP.advd tbOk [] 24 1000 (by kernel_rfl) (by kernel_rfl) (ac_nil) ?_
                                  refine StopP.chgS [.own (.slot 3 0) 30152 (.rows 3 1 eI 0 [])] (by kernel_rfl) (by kernel_rfl) ?_
                                  obtain ⟨hg153, h⟩ := gd_some h
                                  obtain ⟨hg154, h⟩ := gd_some h
                                  let y155 : List Int := ((([] : List Int) ++ ([a0.B] : List Int)) ++ ([a0.A] : List Int))
                                  refine StopP.advd tbOk [(24, [(3, .obj (.rows 3 1 eI 0 ([a0.B] : List Int))), (4, .obj (.rows 3 1 eI 0 (([] : List Int) ++ ([a0.B] : List Int))))]), (25, [(3, .obj (.rows 3 1 eI 0 ([a0.A] : List Int))), (4, .obj (.rows 3 1 eI 0 ((([] : List Int) ++ ([a0.B] : List Int)) ++ ([a0.A] : List Int))))])] 100000 1000 (by kernel_rfl) (by kernel_rfl) (ac_c (Built.mk (ty := 3) (es := 1) (enc := eI) (z := 0) (xs := ([a0.B] : List Int)) (fun _ _ => rfl) (by decide : (1 * 1 : Nat) ≤ 16777216)) <| ac_c (Appended.mk (ty := 3) (es := 1) (by_ := 8) (enc := eI) (z := 0) (z' := 0) (xs := ([] : List Int)) (ys := ([a0.B] : List Int)) (fun _ _ => rfl) (sl hg153) (sb hg153 (by decide))) <| ac_c (Built.mk (ty := 3) (es := 1) (enc := eI) (z := 0) (xs := ([a0.A] : List Int)) (fun _ _ => rfl) (by decide : (1 * 1 : Nat) ≤ 16777216)) <| ac_c (Appended.mk (ty := 3) (es := 1) (by_ := 8) (enc := eI) (z := 0) (z' := 0) (xs := (([] : List Int) ++ ([a0.B] : List Int))) (ys := ([a0.A] : List Int)) (fun _ _ => rfl) (sl hg154) (sb hg154 (by decide))) <| ac_nil) ?_
                                  have h := sm h; subst h
                                  exact StopP.out .normal (by kernel_rfl) ⟨rfl, [.keep [3] [48], .ren [(48, 38)]], by kernel_rfl⟩
                                · have h := cd_f hb151 h
                                  refine StopP.reb [.keep [1, 3, 5] [1]] (st' := .at (kid [true, true, false, true, false, false, false, false, false, false, false, false, false, false, true, true, false, false, true, true, true, true, true, true, true, true, true, true] (bodyAt Try.f43)) [.code (kid [true, true, false, true, false, false, false, false, false, false, false, false, false, false, true, true, false, true] (bodyAt Try.f43)), .code (kid [true, true, false, true, false, false, false, false, false, false, false, false, false, false, true, true, true] (bodyAt Try.f43)), .code (kid [true, true, false, true, false, false, false, false, false, false, false, false, false, true] (bodyAt Try.f43)), .blk 1, .code (kid [true, true, false, true, false, false, false, false, false, false, false, true] (bodyAt Try.f43)), .blk 2, .code (kid [true, true, false, true, false, false, false, false, false, true] (bodyAt Try.f43)), .blk 3, .code (kid [true, true, false, true, false, false, false, true] (bodyAt Try.f43)), .blk 4, .code (kid [true, true, false, true, false, true] (bodyAt Try.f43)), .blk 0] ⟨[(1, .yes, v1 (.ptr 1 0 0)), (3, .yes, v1 (cn)), (5, .yes, v1 (ci a0.Op))], [(1, .box 33 [ci a0.Op, ci a0.A, ci a0.B, ci a0.C, ci a0.Imm])], 55⟩) (by kernel_rfl) (by kernel_rfl) (by kernel_rfl) (by kernel_rfl) rfl ?_
                                  refine StopP.advd tbOk [] 100000 1000 (by kernel_rfl) (by kernel_rfl) (ac_nil) ?_
                                  refine StopP.cond (b := (a0.Op == (18 : Int))) (by kernel_rfl) (fun hb156 => ?_) (fun hb156 => ?_)
                                  · have h := cd_t hb156 h
                                    refine StopP.advd tbOk [] 24 1000 (by kernel_rfl) (by kernel_rfl) (ac_nil) ?_
                                    refine StopP.chgS [.own (.slot 3 0) 30157 (.rows 3 1 eI 0 [])] (by kernel_rfl) (by kernel_rfl) ?_
                                    obtain ⟨hg158, h⟩ := gd_some h
                                    obtain ⟨hg159, h⟩ := gd_some h
                                    let y160 : List Int := ((([] : List Int) ++ ([a0.B] : List Int)) ++ ([a0.A] : List Int))
                                    refine StopP.advd tbOk [(24, [(3, .obj (.rows 3 1 eI 0 ([a0.B] : List Int))), (4, .obj (.rows 3 1 eI 0 (([] : List Int) ++ ([a0.B] : List Int))))]), (25, [(3, .obj (.rows 3 1 eI 0 ([a0.A] : List Int))), (4, .obj (.rows 3 1 eI 0 ((([] : List Int) ++ ([a0.B] : List Int)) ++ ([a0.A] : List Int))))])] 100000 1000 (by kernel_rfl) (by kernel_rfl) (ac_c (Built.mk (ty := 3) (es := 1) (enc := eI) (z := 0) (xs := ([a0.B] : List Int)) (fun _ _ => rfl) (by decide : (1 * 1 : Nat) ≤ 16777216)) <| ac_c (Appended.mk (ty := 3) (es := 1) (by_ := 8) (enc := eI) (z := 0) (z' := 0) (xs := ([] : List Int)) (ys := ([a0.B] : List Int)) (fun _ _ => rfl) (sl hg158) (sb hg158 (by decide))) <| ac_c (Built.mk (ty := 3) (es := 1) (enc := eI) (z := 0) (xs := ([a0.A] : List Int)) (fun _ _ => rfl) (by decide : (1 * 1 : Nat) ≤ 16777216)) <| ac_c (Appended.mk (ty := 3) (es := 1) (by_ := 8) (enc := eI) (z := 0) (z' := 0) (xs := (([] : List Int) ++ ([a0.B] : List Int))) (ys := ([a0.A] : List Int)) (fun _ _ => rfl) (sl hg159) (sb hg159 (by decide))) <| ac_nil) ?_
                                    have h := sm h; subst h
                                    exact StopP.out .normal (by kernel_rfl) ⟨rfl, [.keep [3] [48], .ren [(48, 38)]], by kernel_rfl⟩
                                  · have h := cd_f hb156 h
                                    refine StopP.advd tbOk [] 100000 1000 (by kernel_rfl) (by kernel_rfl) (ac_nil) ?_
                                    refine StopP.cond (b := (a0.Op == (0 : Int))) (by kernel_rfl) (fun hb161 => ?_) (fun hb161 => ?_)
                                    · have h := cd_t hb161 h
                                      refine StopP.advd tbOk [] 100000 1000 (by kernel_rfl) (by kernel_rfl) (ac_nil) ?_
                                      refine StopP.condK (b := (a0.Op == (0 : Int))) hb161 (by kernel_rfl) ?_
                                      refine StopP.advd tbOk [] 25 1000 (by kernel_rfl) (by kernel_rfl) (ac_nil) ?_
                                      refine StopP.chgS [.own (.slot 3 0) 30162 (.rows 3 1 eI 0 [])] (by kernel_rfl) (by kernel_rfl) ?_
                                      refine StopP.reb [.keep [1, 3] [1, 30162]] (st' := .at (kid [true, true, false, true, false, true, false] (bodyAt Try.f43)) [.code (kid [true, true, false, true, false, true, true] (bodyAt Try.f43)), .blk 0] ⟨[(1, .yes, v1 (.ptr 1 0 0)), (3, .yes, v1 (.own 30162))], [(1, .box 33 [ci a0.Op, ci a0.A, ci a0.B, ci a0.C, ci a0.Imm]), (30162, .rows 3 1 eI 0 ([]))], 55⟩) (by kernel_rfl) (by kernel_rfl) (by kernel_rfl) (by kernel_rfl) rfl ?_
                                      obtain ⟨hg163, h⟩ := gd_some h
                                      refine StopP.advd tbOk [(25, [(3, .obj (.rows 3 1 eI 0 ([a0.A] : List Int))), (4, .obj (.rows 3 1 eI 0 (([] : List Int) ++ ([a0.A] : List Int))))])] 100000 1000 (by kernel_rfl) (by kernel_rfl) (ac_c (Built.mk (ty := 3) (es := 1) (enc := eI) (z := 0) (xs := ([a0.A] : List Int)) (fun _ _ => rfl) (by decide : (1 * 1 : Nat) ≤ 16777216)) <| ac_c (Appended.mk (ty := 3) (es := 1) (by_ := 8) (enc := eI) (z := 0) (z' := 0) (xs := ([] : List Int)) (ys := ([a0.A] : List Int)) (fun _ _ => rfl) (sl hg163) (sb hg163 (by decide))) <| ac_nil) ?_
                                      have h := sm h; subst h
                                      exact StopP.out .normal (by kernel_rfl) ⟨rfl, [.keep [3] [48], .ren [(48, 38)]], by kernel_rfl⟩
                                    · have h := cd_f hb161 h
                                      refine StopP.advd tbOk [] 100000 1000 (by kernel_rfl) (by kernel_rfl) (ac_nil) ?_
                                      refine StopP.cond (b := (a0.Op == (23 : Int))) (by kernel_rfl) (fun hb164 => ?_) (fun hb164 => ?_)
                                      · have h := cd_t hb164 h
                                        refine StopP.advd tbOk [] 25 1000 (by kernel_rfl) (by kernel_rfl) (ac_nil) ?_
                                        refine StopP.chgS [.own (.slot 3 0) 30165 (.rows 3 1 eI 0 [])] (by kernel_rfl) (by kernel_rfl) ?_
                                        refine StopP.reb [.keep [1, 3] [1, 30165]] (st' := .at (kid [true, true, false, true, false, true, false] (bodyAt Try.f43)) [.code (kid [true, true, false, true, false, true, true] (bodyAt Try.f43)), .blk 0] ⟨[(1, .yes, v1 (.ptr 1 0 0)), (3, .yes, v1 (.own 30165))], [(1, .box 33 [ci a0.Op, ci a0.A, ci a0.B, ci a0.C, ci a0.Imm]), (30165, .rows 3 1 eI 0 ([]))], 55⟩) (by kernel_rfl) (by kernel_rfl) (by kernel_rfl) (by kernel_rfl) rfl ?_
                                        obtain ⟨hg166, h⟩ := gd_some h
                                        refine StopP.advd tbOk [(25, [(3, .obj (.rows 3 1 eI 0 ([a0.A] : List Int))), (4, .obj (.rows 3 1 eI 0 (([] : List Int) ++ ([a0.A] : List Int))))])] 100000 1000 (by kernel_rfl) (by kernel_rfl) (ac_c (Built.mk (ty := 3) (es := 1) (enc := eI) (z := 0) (xs := ([a0.A] : List Int)) (fun _ _ => rfl) (by decide : (1 * 1 : Nat) ≤ 16777216)) <| ac_c (Appended.mk (ty := 3) (es := 1) (by_ := 8) (enc := eI) (z := 0) (z' := 0) (xs := ([] : List Int)) (ys := ([a0.A] : List Int)) (fun _ _ => rfl) (sl hg166) (sb hg166 (by decide))) <| ac_nil) ?_
                                        have h := sm h; subst h
                                        exact StopP.out .normal (by kernel_rfl) ⟨rfl, [.keep [3] [48], .ren [(48, 38)]], by kernel_rfl⟩
                                      · have h := cd_f hb164 h
                                        refine StopP.advd tbOk [] 100000 1000 (by kernel_rfl) (by kernel_rfl) (ac_nil) ?_
                                        have h := sm h; subst h
                                        exact StopP.out .normal (by kernel_rfl) ⟨rfl, [.own (.slot 3 0) 38 (.rows 3 1 eI 0 []), .keep [3] [38]], by kernel_rfl⟩

def g43_flow_Reads (K : Nat) (a0 : Ins) : Option ((List Int)) :=
  (g43_flow_Reads.b0 K a0).bind fun o167 =>
  gd (o167.length ≤ 1073741824) <|
  gd ((sortI o167).length ≤ 1073741824) <|
  gd ((compactI (sortI o167)).length ≤ 1073741824) <|
  some (nonzero (compactI (sortI o167)))

theorem g43_flow_Reads_ok (K : Nat) (a0 : Ins) (r : (List Int)) (h : g43_flow_Reads K a0 = some r) : AC Try.prog 43 [] [.v true [ci a0.Op, ci a0.A, ci a0.B, ci a0.C, ci a0.Imm]] [(7000, .rows 3 1 eI 0 r)] (v1 (.own 7000)) := by
  refine AC.intro (fn := Try.f43) tbOk (by kernel_rfl) rfl (by kernel_rfl) (fun W A Kf => ?_)
  refine StopP.advd tbOk [] 100000 7 (by kernel_rfl) (by kernel_rfl) (ac_nil) ?_
  obtain ⟨o167, ho167, h⟩ := bd_some h
  refine StopP.bl (by kernel_rfl) [.keep [1, 3, 5] [1]] (s := g43_flow_Reads.h0 a0) (by kernel_rfl) (c := (kid [true, true, false, true] (bodyAt Try.f43))) (by kernel_rfl) (e := .normal) (J := g43_flow_Reads.j0_0 a0 o167) (g43_flow_Reads.b0_ok K a0 o167 ho167) ?_
  obtain ⟨hg168, h⟩ := gd_some h
  obtain ⟨hg169, h⟩ := gd_some h
  obtain ⟨hg170, h⟩ := gd_some h
  refine StopP.advd tbOk [(26, [(1, .callM [38] [38] [] [(38, .rows 3 1 eI 0 (sortI o167))] (.tp []))]), (27, [(1, .callM [38] [] [] [(20520, .rows 3 1 eI 0 (compactI (sortI o167)))] (v1 (.own 20520)))]), (28, [(1, .callM [20520] [] [] [(20540, .rows 3 1 eI 0 (nonzero (compactI (sortI o167))))] (v1 (.own 20540)))])] 100000 1000 (by kernel_rfl) (by kernel_rfl) (ac_c (sort_ok 38 o167 hg168) <| ac_c (compact_ok 38 20520 (by decide) (sortI o167) hg169) <| ac_c (del_ok 20520 20540 (by decide) (compactI (sortI o167)) hg170) <| ac_nil) ?_
  have h := sm h; subst h
  refine StopP.out .ret (by kernel_rfl) ?_
  exact ret_box (.inr rfl) [.keep [2] [20540], .ren [(20540, 7000)]] (by kernel_rfl) (by kernel_rfl) [7000] (by kernel_rfl)

theorem g43_flow_Reads_fz (K : Nat) (a0 : Ins) (r : (List Int)) (h : g43_flow_Reads K a0 = some r) : AC Try.prog 43 [] [.v true [ci a0.Op, ci a0.A, ci a0.B, ci a0.C, ci a0.Imm]] [] (v1 (.t (.ro 1 eI 0 r))) :=
  AC.cast (AC.fz (g43_flow_Reads_ok K a0 r h) 7000 (o := .rows 3 1 eI 0 r) (t := .ro 1 eI 0 r) (by kernel_rfl) (by kernel_rfl)) (by kernel_rfl) (by kernel_rfl)

end Go.Proofs.Ytoooalfhjcfinaa.T
