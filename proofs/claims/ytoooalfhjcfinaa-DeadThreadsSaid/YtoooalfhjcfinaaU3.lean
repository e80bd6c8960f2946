import Derived.Test.YtoooalfhjcfinaaU2
namespace Go.Proofs.Ytoooalfhjcfinaa.T
open Go.Abs
set_option linter.unusedVariables false
set_option maxRecDepth 100000
set_option maxHeartbeats 2000000

def g14_ref22_Trim.l1 (K : Nat) (a0 : Graph) (x87 : ByteArray) (x89 : Int) : Nat → (List Bool) → Int → Option ((List Bool))
  | 0, _, _ => none
  | k + 1, x201, x202 =>
    let b229 : Bool := (decide (x202 < (x201.length : Int)))
    bif b229 then
      gd (0 ≤ x202 ∧ x202 < (a0.Blocks.length : Int)) <|
      gd (0 ≤ x202 ∧ x202 < (x201.length : Int)) <|
      let b233 : Bool := (x201.getD x202.toNat false)
      let b234 : Bool := ((a0.Blocks.getD x202.toNat zBlock).End.Kind == (1 : Int))
      let b235 : Bool := ((a0.Blocks.getD x202.toNat zBlock).End.Kind == (2 : Int))
      let b236 : Bool := (bif b234 then true else b235)
      let b237 : Bool := (bif b233 then b236 else false)
      bif b237 then
        gd (0 ≤ (a0.Blocks.getD x202.toNat zBlock).End.To ∧ (a0.Blocks.getD x202.toNat zBlock).End.To < (x201.length : Int)) <|
        let y240 : List Bool := (x201.set ((a0.Blocks.getD x202.toNat zBlock).End.To).toNat true)
        gd (0 ≤ x202 ∧ x202 < (y240.length : Int)) <|
        let b242 : Bool := (y240.getD x202.toNat false)
        let b243 : Bool := ((a0.Blocks.getD x202.toNat zBlock).End.Kind == (2 : Int))
        let b244 : Bool := (bif b242 then b243 else false)
        bif b244 then
          gd (0 ≤ (a0.Blocks.getD x202.toNat zBlock).End.Else ∧ (a0.Blocks.getD x202.toNat zBlock).End.Else < (y240.length : Int)) <|
          let y247 : List Bool := (y240.set ((a0.Blocks.getD x202.toNat zBlock).End.Else).toNat true)
          g14_ref22_Trim.l1 K a0 x87 x89 k y247 (IntKind.i64.wrap (x202 + (1 : Int)))
        else
          g14_ref22_Trim.l1 K a0 x87 x89 k y240 (IntKind.i64.wrap (x202 + (1 : Int)))
      else
        gd (0 ≤ x202 ∧ x202 < (x201.length : Int)) <|
        let b249 : Bool := (x201.getD x202.toNat false)
        let b250 : Bool := ((a0.Blocks.getD x202.toNat zBlock).End.Kind == (2 : Int))
        let b251 : Bool := (bif b249 then b250 else false)
        bif b251 then
          gd (0 ≤ (a0.Blocks.getD x202.toNat zBlock).End.Else ∧ (a0.Blocks.getD x202.toNat zBlock).End.Else < (x201.length : Int)) <|
          let y254 : List Bool := (x201.set ((a0.Blocks.getD x202.toNat zBlock).End.Else).toNat true)
          g14_ref22_Trim.l1 K a0 x87 x89 k y254 (IntKind.i64.wrap (x202 + (1 : Int)))
        else
          g14_ref22_Trim.l1 K a0 x87 x89 k x201 (IntKind.i64.wrap (x202 + (1 : Int)))
    else
      some x201

def g14_ref22_Trim.h1 (a0 : Graph) (x87 : ByteArray) (x89 : Int) (x201 : (List Bool)) (x202 : Int) : Abs.St := ⟨[(1, .yes, v1 (.ptr 1 0 0)), (2, .yes, v1 (.ptr 2 0 0)), (3, .yes, v1 (.own 16)), (4, .yes, v1 (ci x89)), (5, .yes, v1 (ci x202))], [(1, .box 24 [cs a0.Name, cb a0.Keep, cb a0.Leaf, .t (.ro 12 cBlock zBlock a0.Blocks)]), (2, .box 24 [cs x87, cb false, cb false, .t (.ro 12 cBlock zBlock ([]))]), (16, .rows 4 1 eB false x201)], 150⟩

def g14_ref22_Trim.j1_0 (a0 : Graph) (x87 : ByteArray) (x89 : Int) (o : (List Bool)) : Abs.St := ⟨[(1, .yes, v1 (.ptr 1 0 0)), (2, .yes, v1 (.ptr 2 0 0)), (3, .yes, v1 (.own 16)), (4, .yes, v1 (ci x89))], [(1, .box 24 [cs a0.Name, cb a0.Keep, cb a0.Leaf, .t (.ro 12 cBlock zBlock a0.Blocks)]), (2, .box 24 [cs x87, cb false, cb false, .t (.ro 12 cBlock zBlock ([]))]), (16, .rows 4 1 eB false o)], 150⟩

theorem g14_ref22_Trim.l1_ok {W : World} {A Kf : Nat → Prop} (K : Nat) (a0 : Graph) (x87 : ByteArray) (x89 : Int) : ∀ (k : Nat) (x201 : (List Bool)) (x202 : Int) (o : (List Bool)), g14_ref22_Trim.l1 K a0 x87 x89 k x201 x202 = some o → WPR Try.prog W A Kf (kid [true, true, true, false, true, false, false, true, false, false, true, false, false] (bodyAt Try.f14)) (Out (.exit 2) (g14_ref22_Trim.j1_0 a0 x87 x89 o)) k (g14_ref22_Trim.h1 a0 x87 x89 x201 x202)
  | 0, x201, x202, o, h => by cases h
  | k + 1, x201, x202, o, h => by
    refine WPR.round ?_
    let b229 : Bool := (decide (x202 < (x201.length : Int)))
    refine StopP.advd tbOk [] 100000 1000 (by kernel_rfl) (by kernel_rfl) (ac_nil) ?_
    refine StopP.cond (b := b229) (by kernel_rfl) (fun hb230 => ?_) (fun hb230 => ?_)
    · have h := cd_t hb230 h
      obtain ⟨hg231, h⟩ := gd_some h
      obtain ⟨hg232, h⟩ := gd_some h
      let b233 : Bool := (x201.getD x202.toNat false)
      let b234 : Bool := ((a0.Blocks.getD x202.toNat zBlock).End.Kind == (1 : Int))
      let b235 : Bool := ((a0.Blocks.getD x202.toNat zBlock).End.Kind == (2 : Int))
      let b236 : Bool := (bif b234 then true else b235)
      let b237 : Bool := (bif b233 then b236 else false)
      refine StopP.advd tbOk [] 100000 1000 (by kernel_rfl) (by kernel_rfl) (ac_y hg231 <| ac_y hg232 <| ac_y (tn hg232) <| ac_on b233 (pt b233) <| ac_on b233 (pt b233) <| ac_on b233 (pt b233) <| ac_on (b233 && (!b234)) (pt (b233 && (!b234))) <| ac_on (b233 && (!b234)) (pt (b233 && (!b234))) <| ac_on b233 (pt b233) <| ac_on b233 (fun h => png b234 h) <| ac_y (pt b233) <| ac_nil) ?_
      refine StopP.cond (b := b237) (by kernel_rfl) (fun hb238 => ?_) (fun hb238 => ?_)
      · have h := cd_t hb238 h
        obtain ⟨hg239, h⟩ := gd_some h
        let y240 : List Bool := (x201.set ((a0.Blocks.getD x202.toNat zBlock).End.To).toNat true)
        obtain ⟨hg241, h⟩ := gd_some h
        let b242 : Bool := (y240.getD x202.toNat false)
        let b243 : Bool := ((a0.Blocks.getD x202.toNat zBlock).End.Kind == (2 : Int))
        let b244 : Bool := (bif b242 then b243 else false)
        refine StopP.advd tbOk [(11, [(4, .obj (.rows 4 1 eB false (x201.set ((a0.Blocks.getD x202.toNat zBlock).End.To).toNat true)))])] 100000 1000 (by kernel_rfl) (by kernel_rfl) (ac_y hg239 <| ac_c (Stored.mk (ty := 4) (es := 1) (enc := eB) (z := false) (xs := x201) (i := ((a0.Blocks.getD x202.toNat zBlock).End.To).toNat) (j := 0) (n := 1) true (tn hg239) (by decide) rfl rfl rfl) <| ac_y hg241 <| ac_y (tn hg241) <| ac_on b242 (pt b242) <| ac_on b242 (pt b242) <| ac_y (pt b242) <| ac_nil) ?_
        refine StopP.cond (b := b244) (by kernel_rfl) (fun hb245 => ?_) (fun hb245 => ?_)
        · have h := cd_t hb245 h
          obtain ⟨hg246, h⟩ := gd_some h
          let y247 : List Bool := (y240.set ((a0.Blocks.getD x202.toNat zBlock).End.Else).toNat true)
          refine StopP.advd tbOk [(13, [(4, .obj (.rows 4 1 eB false (y240.set ((a0.Blocks.getD x202.toNat zBlock).End.Else).toNat true)))])] 100000 1000 (by kernel_rfl) (by kernel_rfl) (ac_y hg246 <| ac_c (Stored.mk (ty := 4) (es := 1) (enc := eB) (z := false) (xs := y240) (i := ((a0.Blocks.getD x202.toNat zBlock).End.Else).toNat) (j := 0) (n := 1) true (tn hg246) (by decide) rfl rfl rfl) <| ac_nil) ?_
          refine StopP.out .normal (by kernel_rfl) ?_
          exact WPR.chg [.keep [1, 2, 3, 4, 5] [1, 2, 16]] (by kernel_rfl) (g14_ref22_Trim.l1_ok K a0 x87 x89 k y247 (IntKind.i64.wrap (x202 + (1 : Int))) o h)
        · have h := cd_f hb245 h
          refine StopP.advd tbOk [] 100000 1000 (by kernel_rfl) (by kernel_rfl) (ac_nil) ?_
          refine StopP.out .normal (by kernel_rfl) ?_
          exact WPR.chg [.keep [1, 2, 3, 4, 5] [1, 2, 16]] (by kernel_rfl) (g14_ref22_Trim.l1_ok K a0 x87 x89 k y240 (IntKind.i64.wrap (x202 + (1 : Int))) o h)
      · have h := cd_f hb238 h
        obtain ⟨hg248, h⟩ := gd_some h
        let b249 : Bool := (x201.getD x202.toNat false)
        let b250 : Bool := ((a0.Blocks.getD x202.toNat zBlock).End.Kind == (2 : Int))
        let b251 : Bool := (bif b249 then b250 else false)
        refine StopP.advd tbOk [] 100000 1000 (by kernel_rfl) (by kernel_rfl) (ac_y hg248 <| ac_y (tn hg248) <| ac_on b249 (pt b249) <| ac_on b249 (pt b249) <| ac_y (pt b249) <| ac_nil) ?_
        refine StopP.cond (b := b251) (by kernel_rfl) (fun hb252 => ?_) (fun hb252 => ?_)
        · have h := cd_t hb252 h
          obtain ⟨hg253, h⟩ := gd_some h
          let y254 : List Bool := (x201.set ((a0.Blocks.getD x202.toNat zBlock).End.Else).toNat true)
          refine StopP.advd tbOk [(13, [(4, .obj (.rows 4 1 eB false (x201.set ((a0.Blocks.getD x202.toNat zBlock).End.Else).toNat true)))])] 100000 1000 (by kernel_rfl) (by kernel_rfl) (ac_y hg253 <| ac_c (Stored.mk (ty := 4) (es := 1) (enc := eB) (z := false) (xs := x201) (i := ((a0.Blocks.getD x202.toNat zBlock).End.Else).toNat) (j := 0) (n := 1) true (tn hg253) (by decide) rfl rfl rfl) <| ac_nil) ?_
          refine StopP.out .normal (by kernel_rfl) ?_
          exact WPR.chg [.keep [1, 2, 3, 4, 5] [1, 2, 16]] (by kernel_rfl) (g14_ref22_Trim.l1_ok K a0 x87 x89 k y254 (IntKind.i64.wrap (x202 + (1 : Int))) o h)
        · have h := cd_f hb252 h
          refine StopP.advd tbOk [] 100000 1000 (by kernel_rfl) (by kernel_rfl) (ac_nil) ?_
          refine StopP.out .normal (by kernel_rfl) ?_
          exact WPR.chg [.keep [1, 2, 3, 4, 5] [1, 2, 16]] (by kernel_rfl) (g14_ref22_Trim.l1_ok K a0 x87 x89 k x201 (IntKind.i64.wrap (x202 + (1 : Int))) o h)
    · have h := cd_f hb230 h
      refine StopP.advd tbOk [] 100000 1000 (by kernel_rfl) (by kernel_rfl) (ac_nil) ?_
      have h := sm h; subst h
      exact StopP.out (.exit 2) (by kernel_rfl) ⟨rfl, [.keep [1, 2, 3, 4] [1, 2, 16]], by kernel_rfl⟩

def g14_ref22_Trim.l0 (K : Nat) (a0 : Graph) : Nat → ByteArray → (List Bool) → Int → Option (ByteArray × (List Bool))
  | 0, _, _, _ => none
  | k + 1, x87, x88, x89 =>
    let b173 : Bool := (decide (x89 < (x88.length : Int)))
    bif b173 then
      (g14_ref22_Trim.l1 K a0 x87 x89 K x88 (0 : Int)).bind fun o255 =>
      g14_ref22_Trim.l0 K a0 k x87 o255 (IntKind.i64.wrap (x89 + (1 : Int)))
    else
      some (x87, x88)

def g14_ref22_Trim.h0 (a0 : Graph) (x87 : ByteArray) (x88 : (List Bool)) (x89 : Int) : Abs.St := ⟨[(1, .yes, v1 (.ptr 1 0 0)), (2, .yes, v1 (.ptr 2 0 0)), (3, .yes, v1 (.own 16)), (4, .yes, v1 (ci x89))], [(1, .box 24 [cs a0.Name, cb a0.Keep, cb a0.Leaf, .t (.ro 12 cBlock zBlock a0.Blocks)]), (2, .box 24 [cs x87, cb false, cb false, .t (.ro 12 cBlock zBlock ([]))]), (16, .rows 4 1 eB false x88)], 150⟩

def g14_ref22_Trim.j0_0 (a0 : Graph) (o : ByteArray × (List Bool)) : Abs.St := ⟨[(1, .yes, v1 (.ptr 1 0 0)), (2, .yes, v1 (.ptr 2 0 0)), (3, .yes, v1 (.own 16))], [(1, .box 24 [cs a0.Name, cb a0.Keep, cb a0.Leaf, .t (.ro 12 cBlock zBlock a0.Blocks)]), (2, .box 24 [cs o.1, cb false, cb false, .t (.ro 12 cBlock zBlock ([]))]), (16, .rows 4 1 eB false o.2)], 150⟩

theorem g14_ref22_Trim.l0_ok {W : World} {A Kf : Nat → Prop} (K : Nat) (a0 : Graph) : ∀ (k : Nat) (x87 : ByteArray) (x88 : (List Bool)) (x89 : Int) (o : ByteArray × (List Bool)), g14_ref22_Trim.l0 K a0 k x87 x88 x89 = some o → WPR Try.prog W A Kf (kid [true, true, true, false, true, false, false] (bodyAt Try.f14)) (Out (.exit 0) (g14_ref22_Trim.j0_0 a0 o)) k (g14_ref22_Trim.h0 a0 x87 x88 x89)
  | 0, x87, x88, x89, o, h => by cases h
  | k + 1, x87, x88, x89, o, h => by
    refine WPR.round ?_
    let b173 : Bool := (decide (x89 < (x88.length : Int)))
    refine StopP.advd tbOk [] 100000 1000 (by kernel_rfl) (by kernel_rfl) (ac_nil) ?_
    refine StopP.cond (b := b173) (by kernel_rfl) (fun hb174 => ?_) (fun hb174 => ?_)
    · have h := cd_t hb174 h
      refine StopP.advd tbOk [] 100000 1000 (by kernel_rfl) (by kernel_rfl) (ac_nil) ?_
      obtain ⟨o255, ho255, h⟩ := bd_some h
      refine StopP.lp (by kernel_rfl) [.keep [1, 2, 3, 4, 5] [1, 2, 16]] (s := g14_ref22_Trim.h1 a0 x87 x89 x88 (0 : Int)) (by kernel_rfl) (c := (kid [true, true, true, false, true, false, false, true, false, false, true, false, false] (bodyAt Try.f14))) (by kernel_rfl) (e := (.exit 2)) (J := g14_ref22_Trim.j1_0 a0 x87 x89 o255) K (g14_ref22_Trim.l1_ok K a0 x87 x89 K x88 (0 : Int) o255 ho255) ?_
      refine StopP.advd tbOk [] 100000 1000 (by kernel_rfl) (by kernel_rfl) (ac_nil) ?_
      refine StopP.out .normal (by kernel_rfl) ?_
      exact WPR.chg [.keep [1, 2, 3, 4] [1, 2, 16]] (by kernel_rfl) (g14_ref22_Trim.l0_ok K a0 k x87 o255 (IntKind.i64.wrap (x89 + (1 : Int))) o h)
    · have h := cd_f hb174 h
      refine StopP.advd tbOk [] 100000 1000 (by kernel_rfl) (by kernel_rfl) (ac_nil) ?_
      have h := sm h; subst h
      exact StopP.out (.exit 0) (by kernel_rfl) ⟨rfl, [.keep [1, 2, 3] [1, 2, 16]], by kernel_rfl⟩

def g14_ref22_Trim.l3 (K : Nat) (a0 : Graph) (o256 : ByteArray × (List Bool)) (x289 : Int) : Nat → (List Int) → Int → Option ((List Int))
  | 0, _, _ => none
  | k + 1, x327, x328 =>
    bif (decide (x328 < x289)) then
      gd (0 ≤ x328 ∧ x328 < (o256.2.length : Int)) <|
      let b338 : Bool := (o256.2.getD x328.toNat false)
      bif b338 then
        gd (0 ≤ x289 ∧ x289 < (x327.length : Int)) <|
        gd (0 ≤ x289 ∧ x289 < (x327.length : Int)) <|
        let y342 : List Int := (x327.set x289.toNat (IntKind.i64.wrap ((x327.getD x289.toNat 0) + (1 : Int))))
        g14_ref22_Trim.l3 K a0 o256 x289 k y342 (IntKind.i64.wrap (x328 + (1 : Int)))
      else
        g14_ref22_Trim.l3 K a0 o256 x289 k x327 (IntKind.i64.wrap (x328 + (1 : Int)))
    else
      some x327

def g14_ref22_Trim.h3 (a0 : Graph) (o256 : ByteArray × (List Bool)) (x289 : Int) (x327 : (List Int)) (x328 : Int) : Abs.St := ⟨[(1, .yes, v1 (.ptr 1 0 0)), (2, .yes, v1 (.ptr 2 0 0)), (3, .yes, v1 (.own 16)), (7, .yes, v1 (.own 70)), (8, .yes, v1 (ci x289)), (9, .yes, v1 (ci x328))], [(1, .box 24 [cs a0.Name, cb a0.Keep, cb a0.Leaf, .t (.ro 12 cBlock zBlock a0.Blocks)]), (2, .box 24 [cs o256.1, cb false, cb false, .t (.ro 12 cBlock zBlock ([]))]), (16, .rows 4 1 eB false o256.2), (70, .rows 3 1 eI 0 x327)], 150⟩

def g14_ref22_Trim.j3_0 (a0 : Graph) (o256 : ByteArray × (List Bool)) (x289 : Int) (o : (List Int)) : Abs.St := ⟨[(1, .yes, v1 (.ptr 1 0 0)), (2, .yes, v1 (.ptr 2 0 0)), (3, .yes, v1 (.own 16)), (7, .yes, v1 (.own 70)), (8, .yes, v1 (ci x289))], [(1, .box 24 [cs a0.Name, cb a0.Keep, cb a0.Leaf, .t (.ro 12 cBlock zBlock a0.Blocks)]), (2, .box 24 [cs o256.1, cb false, cb false, .t (.ro 12 cBlock zBlock ([]))]), (16, .rows 4 1 eB false o256.2), (70, .rows 3 1 eI 0 o)], 150⟩

theorem g14_ref22_Trim.l3_ok {W : World} {A Kf : Nat → Prop} (K : Nat) (a0 : Graph) (o256 : ByteArray × (List Bool)) (x289 : Int) : ∀ (k : Nat) (x327 : (List Int)) (x328 : Int) (o : (List Int)), g14_ref22_Trim.l3 K a0 o256 x289 k x327 x328 = some o → WPR Try.prog W A Kf (kid [true, true, true, true, true, false, true, false, false, true, false, false, true, false, false] (bodyAt Try.f14)) (Out (.exit 6) (g14_ref22_Trim.j3_0 a0 o256 x289 o)) k (g14_ref22_Trim.h3 a0 o256 x289 x327 x328)
  | 0, x327, x328, o, h => by cases h
  | k + 1, x327, x328, o, h => by
    refine WPR.round ?_
    refine StopP.advd tbOk [] 100000 1000 (by kernel_rfl) (by kernel_rfl) (ac_nil) ?_
    refine StopP.cond (b := (decide (x328 < x289))) (by kernel_rfl) (fun hb336 => ?_) (fun hb336 => ?_)
    · have h := cd_t hb336 h
      obtain ⟨hg337, h⟩ := gd_some h
      let b338 : Bool := (o256.2.getD x328.toNat false)
      refine StopP.advd tbOk [] 100000 1000 (by kernel_rfl) (by kernel_rfl) (ac_y hg337 <| ac_y (tn hg337) <| ac_nil) ?_
      refine StopP.cond (b := b338) (by kernel_rfl) (fun hb339 => ?_) (fun hb339 => ?_)
      · have h := cd_t hb339 h
        obtain ⟨hg340, h⟩ := gd_some h
        obtain ⟨hg341, h⟩ := gd_some h
        let y342 : List Int := (x327.set x289.toNat (IntKind.i64.wrap ((x327.getD x289.toNat 0) + (1 : Int))))
        refine StopP.advd tbOk [(22, [(6, .obj (.rows 3 1 eI 0 (x327.set x289.toNat (IntKind.i64.wrap ((x327.getD x289.toNat 0) + (1 : Int))))))])] 100000 1000 (by kernel_rfl) (by kernel_rfl) (ac_y hg340 <| ac_y (tn hg340) <| ac_y hg341 <| ac_c (Stored.mk (ty := 3) (es := 1) (enc := eI) (z := 0) (xs := x327) (i := x289.toNat) (j := 0) (n := 1) (IntKind.i64.wrap ((x327.getD x289.toNat 0) + (1 : Int))) (tn hg341) (by decide) rfl rfl rfl) <| ac_nil) ?_
        refine StopP.out .normal (by kernel_rfl) ?_
        exact WPR.chg [.keep [1, 2, 3, 7, 8, 9] [1, 2, 16, 70]] (by kernel_rfl) (g14_ref22_Trim.l3_ok K a0 o256 x289 k y342 (IntKind.i64.wrap (x328 + (1 : Int))) o h)
      · have h := cd_f hb339 h
        refine StopP.advd tbOk [] 100000 1000 (by kernel_rfl) (by kernel_rfl) (ac_nil) ?_
        refine StopP.out .normal (by kernel_rfl) ?_
        exact WPR.chg [.keep [1, 2, 3, 7, 8, 9] [1, 2, 16, 70]] (by kernel_rfl) (g14_ref22_Trim.l3_ok K a0 o256 x289 k x327 (IntKind.i64.wrap (x328 + (1 : Int))) o h)
    · have h := cd_f hb336 h
      refine StopP.advd tbOk [] 100000 1000 (by kernel_rfl) (by kernel_rfl) (ac_nil) ?_
      have h := sm h; subst h
      exact StopP.out (.exit 6) (by kernel_rfl) ⟨rfl, [.keep [1, 2, 3, 7, 8] [1, 2, 16, 70]], by kernel_rfl⟩

def g14_ref22_Trim.l2 (K : Nat) (a0 : Graph) (o256 : ByteArray × (List Bool)) : Nat → (List Int) → Int → Option ((List Int))
  | 0, _, _ => none
  | k + 1, x288, x289 =>
    let b317 : Bool := (decide (x289 < (o256.2.length : Int)))
    bif b317 then
      (g14_ref22_Trim.l3 K a0 o256 x289 K x288 (0 : Int)).bind fun o343 =>
      g14_ref22_Trim.l2 K a0 o256 k o343 (IntKind.i64.wrap (x289 + (1 : Int)))
    else
      some x288

def g14_ref22_Trim.h2 (a0 : Graph) (o256 : ByteArray × (List Bool)) (x288 : (List Int)) (x289 : Int) : Abs.St := ⟨[(1, .yes, v1 (.ptr 1 0 0)), (2, .yes, v1 (.ptr 2 0 0)), (3, .yes, v1 (.own 16)), (7, .yes, v1 (.own 70)), (8, .yes, v1 (ci x289))], [(1, .box 24 [cs a0.Name, cb a0.Keep, cb a0.Leaf, .t (.ro 12 cBlock zBlock a0.Blocks)]), (2, .box 24 [cs o256.1, cb false, cb false, .t (.ro 12 cBlock zBlock ([]))]), (16, .rows 4 1 eB false o256.2), (70, .rows 3 1 eI 0 x288)], 150⟩

def g14_ref22_Trim.j2_0 (a0 : Graph) (o256 : ByteArray × (List Bool)) (o : (List Int)) : Abs.St := ⟨[(1, .yes, v1 (.ptr 1 0 0)), (2, .yes, v1 (.ptr 2 0 0)), (3, .yes, v1 (.own 16)), (7, .yes, v1 (.own 70))], [(1, .box 24 [cs a0.Name, cb a0.Keep, cb a0.Leaf, .t (.ro 12 cBlock zBlock a0.Blocks)]), (2, .box 24 [cs o256.1, cb false, cb false, .t (.ro 12 cBlock zBlock ([]))]), (16, .rows 4 1 eB false o256.2), (70, .rows 3 1 eI 0 o)], 150⟩

theorem g14_ref22_Trim.l2_ok {W : World} {A Kf : Nat → Prop} (K : Nat) (a0 : Graph) (o256 : ByteArray × (List Bool)) : ∀ (k : Nat) (x288 : (List Int)) (x289 : Int) (o : (List Int)), g14_ref22_Trim.l2 K a0 o256 k x288 x289 = some o → WPR Try.prog W A Kf (kid [true, true, true, true, true, false, true, false, false] (bodyAt Try.f14)) (Out (.exit 4) (g14_ref22_Trim.j2_0 a0 o256 o)) k (g14_ref22_Trim.h2 a0 o256 x288 x289)
  | 0, x288, x289, o, h => by cases h
  | k + 1, x288, x289, o, h => by
    refine WPR.round ?_
    let b317 : Bool := (decide (x289 < (o256.2.length : Int)))
    refine StopP.advd tbOk [] 100000 1000 (by kernel_rfl) (by kernel_rfl) (ac_nil) ?_
    refine StopP.cond (b := b317) (by kernel_rfl) (fun hb318 => ?_) (fun hb318 => ?_)
    · have h := cd_t hb318 h
      refine StopP.advd tbOk [] 100000 1000 (by kernel_rfl) (by kernel_rfl) (ac_nil) ?_
      obtain ⟨o343, ho343, h⟩ := bd_some h
      refine StopP.lp (by kernel_rfl) [.keep [1, 2, 3, 7, 8, 9] [1, 2, 16, 70]] (s := g14_ref22_Trim.h3 a0 o256 x289 x288 (0 : Int)) (by kernel_rfl) (c := (kid [true, true, true, true, true, false, true, false, false, true, false, false, true, false, false] (bodyAt Try.f14))) (by kernel_rfl) (e := (.exit 6)) (J := g14_ref22_Trim.j3_0 a0 o256 x289 o343) K (g14_ref22_Trim.l3_ok K a0 o256 x289 K x288 (0 : Int) o343 ho343) ?_
      refine StopP.advd tbOk [] 100000 1000 (by kernel_rfl) (by kernel_rfl) (ac_nil) ?_
      refine StopP.out .normal (by kernel_rfl) ?_
      exact WPR.chg [.keep [1, 2, 3, 7, 8] [1, 2, 16, 70]] (by kernel_rfl) (g14_ref22_Trim.l2_ok K a0 o256 k o343 (IntKind.i64.wrap (x289 + (1 : Int))) o h)
    · have h := cd_f hb318 h
      refine StopP.advd tbOk [] 100000 1000 (by kernel_rfl) (by kernel_rfl) (ac_nil) ?_
      have h := sm h; subst h
      exact StopP.out (.exit 4) (by kernel_rfl) ⟨rfl, [.keep [1, 2, 3, 7] [1, 2, 16, 70]], by kernel_rfl⟩

def g14_ref22_Trim.l4 (K : Nat) (a0 : Graph) (o256 : ByteArray × (List Bool)) (o344 : (List Int)) (r345 : Graph) : Nat → (List Block) → Int → Option ((List Block))
  | 0, _, _ => none
  | k + 1, x446, x447 =>
    let b484 : Bool := (decide (x447 < (o256.2.length : Int)))
    bif b484 then
      gd (0 ≤ x447 ∧ x447 < (o256.2.length : Int)) <|
      let b487 : Bool := (o256.2.getD x447.toNat false)
      bif b487 then
        gd (0 ≤ x447 ∧ x447 < (a0.Blocks.length : Int)) <|
        let b490 : Bool := ((a0.Blocks.getD x447.toNat zBlock).End.Kind == (1 : Int))
        let b491 : Bool := ((a0.Blocks.getD x447.toNat zBlock).End.Kind == (2 : Int))
        let b492 : Bool := (bif b490 then true else b491)
        bif b492 then
          gd (0 ≤ (a0.Blocks.getD x447.toNat zBlock).End.To ∧ (a0.Blocks.getD x447.toNat zBlock).End.To < (o344.length : Int)) <|
          let i495 : Int := (o344.getD ((a0.Blocks.getD x447.toNat zBlock).End.To).toNat 0)
          let b496 : Bool := ((a0.Blocks.getD x447.toNat zBlock).End.Kind == (2 : Int))
          bif b496 then
            gd (0 ≤ (a0.Blocks.getD x447.toNat zBlock).End.Else ∧ (a0.Blocks.getD x447.toNat zBlock).End.Else < (o344.length : Int)) <|
            let i499 : Int := (o344.getD ((a0.Blocks.getD x447.toNat zBlock).End.Else).toNat 0)
            gd (0 ≤ x447 ∧ x447 < (a0.Blocks.length : Int)) <|
            gd (([] : List Op').length + ((a0.Blocks.getD x447.toNat zBlock).Ops).length ≤ 1073741824) <|
            let y502 : List Block := ([(⟨(([] : List Op') ++ (a0.Blocks.getD x447.toNat zBlock).Ops), (⟨(a0.Blocks.getD x447.toNat zBlock).End.Kind, (a0.Blocks.getD x447.toNat zBlock).End.Op, (a0.Blocks.getD x447.toNat zBlock).End.A, (a0.Blocks.getD x447.toNat zBlock).End.B, i495, i499, (a0.Blocks.getD x447.toNat zBlock).End.Ins⟩ : Term)⟩ : Block)] : List Block)
            gd (x446.length + y502.length ≤ 1073741824) <|
            g14_ref22_Trim.l4 K a0 o256 o344 r345 k (x446 ++ y502) (IntKind.i64.wrap (x447 + (1 : Int)))
          else
            gd (0 ≤ x447 ∧ x447 < (a0.Blocks.length : Int)) <|
            gd (([] : List Op').length + ((a0.Blocks.getD x447.toNat zBlock).Ops).length ≤ 1073741824) <|
            let y506 : List Block := ([(⟨(([] : List Op') ++ (a0.Blocks.getD x447.toNat zBlock).Ops), (⟨(a0.Blocks.getD x447.toNat zBlock).End.Kind, (a0.Blocks.getD x447.toNat zBlock).End.Op, (a0.Blocks.getD x447.toNat zBlock).End.A, (a0.Blocks.getD x447.toNat zBlock).End.B, i495, (a0.Blocks.getD x447.toNat zBlock).End.Else, (a0.Blocks.getD x447.toNat zBlock).End.Ins⟩ : Term)⟩ : Block)] : List Block)
            gd (x446.length + y506.length ≤ 1073741824) <|
            g14_ref22_Trim.l4 K a0 o256 o344 r345 k (x446 ++ y506) (IntKind.i64.wrap (x447 + (1 : Int)))
        else
          let b508 : Bool := ((a0.Blocks.getD x447.toNat zBlock).End.Kind == (2 : Int))
          bif b508 then
            gd (0 ≤ (a0.Blocks.getD x447.toNat zBlock).End.Else ∧ (a0.Blocks.getD x447.toNat zBlock).End.Else < (o344.length : Int)) <|
            let i511 : Int := (o344.getD ((a0.Blocks.getD x447.toNat zBlock).End.Else).toNat 0)
            gd (0 ≤ x447 ∧ x447 < (a0.Blocks.length : Int)) <|
            gd (([] : List Op').length + ((a0.Blocks.getD x447.toNat zBlock).Ops).length ≤ 1073741824) <|
            let y514 : List Block := ([(⟨(([] : List Op') ++ (a0.Blocks.getD x447.toNat zBlock).Ops), (⟨(a0.Blocks.getD x447.toNat zBlock).End.Kind, (a0.Blocks.getD x447.toNat zBlock).End.Op, (a0.Blocks.getD x447.toNat zBlock).End.A, (a0.Blocks.getD x447.toNat zBlock).End.B, (a0.Blocks.getD x447.toNat zBlock).End.To, i511, (a0.Blocks.getD x447.toNat zBlock).End.Ins⟩ : Term)⟩ : Block)] : List Block)
            gd (x446.length + y514.length ≤ 1073741824) <|
            g14_ref22_Trim.l4 K a0 o256 o344 r345 k (x446 ++ y514) (IntKind.i64.wrap (x447 + (1 : Int)))
          else
            gd (0 ≤ x447 ∧ x447 < (a0.Blocks.length : Int)) <|
            gd (([] : List Op').length + ((a0.Blocks.getD x447.toNat zBlock).Ops).length ≤ 1073741824) <|
            let y518 : List Block := ([(⟨(([] : List Op') ++ (a0.Blocks.getD x447.toNat zBlock).Ops), (a0.Blocks.getD x447.toNat zBlock).End⟩ : Block)] : List Block)
            gd (x446.length + y518.length ≤ 1073741824) <|
            g14_ref22_Trim.l4 K a0 o256 o344 r345 k (x446 ++ y518) (IntKind.i64.wrap (x447 + (1 : Int)))
      else
        g14_ref22_Trim.l4 K a0 o256 o344 r345 k x446 (IntKind.i64.wrap (x447 + (1 : Int)))
    else
      some x446

def g14_ref22_Trim.h4 (a0 : Graph) (o256 : ByteArray × (List Bool)) (o344 : (List Int)) (r345 : Graph) (x446 : (List Block)) (x447 : Int) : Abs.St := ⟨[(1, .yes, v1 (.ptr 1 0 0)), (2, .yes, v1 (.ptr 2 0 0)), (3, .yes, v1 (.own 16)), (7, .yes, v1 (.own 70)), (10, .yes, v1 (.ptr 10 0 0)), (11, .yes, v1 (ci x447))], [(1, .box 24 [cs a0.Name, cb a0.Keep, cb a0.Leaf, .t (.ro 12 cBlock zBlock a0.Blocks)]), (2, .box 24 [cs o256.1, cb false, cb false, .t (.ro 12 cBlock zBlock ([]))]), (10, .box 24 [cs r345.Name, cb r345.Keep, cb r345.Leaf, .own 5200]), (16, .rows 4 1 eB false o256.2), (70, .rows 3 1 eI 0 o344), (5200, .rows 39 12 cBlock zBlock x446)], 150⟩

def g14_ref22_Trim.j4_0 (a0 : Graph) (o256 : ByteArray × (List Bool)) (o344 : (List Int)) (r345 : Graph) (o : (List Block)) : Abs.St := ⟨[(2, .yes, v1 (.ptr 2 0 0)), (10, .yes, v1 (.ptr 10 0 0))], [(2, .box 24 [cs o256.1, cb false, cb false, .t (.ro 12 cBlock zBlock ([]))]), (10, .box 24 [cs r345.Name, cb r345.Keep, cb r345.Leaf, .own 5200]), (5200, .rows 39 12 cBlock zBlock o)], 150⟩

theorem g14_ref22_Trim.l4_ok {W : World} {A Kf : Nat → Prop} (K : Nat) (a0 : Graph) (o256 : ByteArray × (List Bool)) (o344 : (List Int)) (r345 : Graph) : ∀ (k : Nat) (x446 : (List Block)) (x447 : Int) (o : (List Block)), g14_ref22_Trim.l4 K a0 o256 o344 r345 k x446 x447 = some o → WPR Try.prog W A Kf (kid [true, true, true, true, true, true, true, true, false, true, false, false] (bodyAt Try.f14)) (Out (.exit 8) (g14_ref22_Trim.j4_0 a0 o256 o344 r345 o)) k (g14_ref22_Trim.h4 a0 o256 o344 r345 x446 x447)
  | 0, x446, x447, o, h => by cases h
  | k + 1, x446, x447, o, h => by
    refine WPR.round ?_
    let b484 : Bool := (decide (x447 < (o256.2.length : Int)))
    refine StopP.advd tbOk [] 100000 1000 (by kernel_rfl) (by kernel_rfl) (ac_nil) ?_
    refine StopP.cond (b := b484) (by kernel_rfl) (fun hb485 => ?_) (fun hb485 => ?_)
    · have h := cd_t hb485 h
      obtain ⟨hg486, h⟩ := gd_some h
      let b487 : Bool := (o256.2.getD x447.toNat false)
      refine StopP.advd tbOk [] 100000 1000 (by kernel_rfl) (by kernel_rfl) (ac_y hg486 <| ac_y (tn hg486) <| ac_nil) ?_
      refine StopP.cond (b := b487) (by kernel_rfl) (fun hb488 => ?_) (fun hb488 => ?_)
      · have h := cd_t hb488 h
        obtain ⟨hg489, h⟩ := gd_some h
        let b490 : Bool := ((a0.Blocks.getD x447.toNat zBlock).End.Kind == (1 : Int))
        let b491 : Bool := ((a0.Blocks.getD x447.toNat zBlock).End.Kind == (2 : Int))
        let b492 : Bool := (bif b490 then true else b491)
        refine StopP.advd tbOk [] 100000 1000 (by kernel_rfl) (by kernel_rfl) (ac_y hg489 <| ac_on (!b490) (pt (!b490)) <| ac_on (!b490) (pt (!b490)) <| ac_y (pn b490) <| ac_nil) ?_
        refine StopP.cond (b := b492) (by kernel_rfl) (fun hb493 => ?_) (fun hb493 => ?_)
        · have h := cd_t hb493 h
          obtain ⟨hg494, h⟩ := gd_some h
          let i495 : Int := (o344.getD ((a0.Blocks.getD x447.toNat zBlock).End.To).toNat 0)
          let b496 : Bool := ((a0.Blocks.getD x447.toNat zBlock).End.Kind == (2 : Int))
          refine StopP.advd tbOk [] 100000 1000 (by kernel_rfl) (by kernel_rfl) (ac_y hg494 <| ac_y (tn hg494) <| ac_nil) ?_
          refine StopP.cond (b := b496) (by kernel_rfl) (fun hb497 => ?_) (fun hb497 => ?_)
          · have h := cd_t hb497 h
            refine StopP.reb [.keep [1, 2, 3, 7, 10, 11, 12] [1, 2, 10, 12, 16, 70, 5200]] (st' := .at (kid [true, true, true, true, true, true, true, true, false, true, false, false, true, false, false, true, false, true, true, false, true, false] (bodyAt Try.f14)) [.code (kid [true, true, true, true, true, true, true, true, false, true, false, false, true, false, false, true, false, true, true, true] (bodyAt Try.f14)), .blk 9, .code (kid [true, true, true, true, true, true, true, true, false, true, false, false, true, true] (bodyAt Try.f14))] ⟨[(1, .yes, v1 (.ptr 1 0 0)), (2, .yes, v1 (.ptr 2 0 0)), (3, .yes, v1 (.own 16)), (7, .yes, v1 (.own 70)), (10, .yes, v1 (.ptr 10 0 0)), (11, .yes, v1 (ci x447)), (12, .yes, v1 (.ptr 12 0 0))], [(1, .box 24 [cs a0.Name, cb a0.Keep, cb a0.Leaf, .t (.ro 12 cBlock zBlock a0.Blocks)]), (2, .box 24 [cs o256.1, cb false, cb false, .t (.ro 12 cBlock zBlock ([]))]), (10, .box 24 [cs r345.Name, cb r345.Keep, cb r345.Leaf, .own 5200]), (12, .box 37 [ci ((a0.Blocks.getD x447.toNat zBlock).End.Kind), ci ((a0.Blocks.getD x447.toNat zBlock).End.Op), ci ((a0.Blocks.getD x447.toNat zBlock).End.A), ci ((a0.Blocks.getD x447.toNat zBlock).End.B), ci i495, ci ((a0.Blocks.getD x447.toNat zBlock).End.Else), ci ((a0.Blocks.getD x447.toNat zBlock).End.Ins.Op), ci ((a0.Blocks.getD x447.toNat zBlock).End.Ins.A), ci ((a0.Blocks.getD x447.toNat zBlock).End.Ins.B), ci ((a0.Blocks.getD x447.toNat zBlock).End.Ins.C), ci ((a0.Blocks.getD x447.toNat zBlock).End.Ins.Imm)]), (16, .rows 4 1 eB false o256.2), (70, .rows 3 1 eI 0 o344), (5200, .rows 39 12 cBlock zBlock x446)], 150⟩) (by kernel_rfl) (by kernel_rfl) (by kernel_rfl) (by kernel_rfl) rfl ?_
            obtain ⟨hg498, h⟩ := gd_some h
            let i499 : Int := (o344.getD ((a0.Blocks.getD x447.toNat zBlock).End.Else).toNat 0)
            obtain ⟨hg500, h⟩ := gd_some h
            obtain ⟨hg501, h⟩ := gd_some h
            let y502 : List Block := ([(⟨(([] : List Op') ++ (a0.Blocks.getD x447.toNat zBlock).Ops), (⟨(a0.Blocks.getD x447.toNat zBlock).End.Kind, (a0.Blocks.getD x447.toNat zBlock).End.Op, (a0.Blocks.getD x447.toNat zBlock).End.A, (a0.Blocks.getD x447.toNat zBlock).End.B, i495, i499, (a0.Blocks.getD x447.toNat zBlock).End.Ins⟩ : Term)⟩ : Block)] : List Block)
            obtain ⟨hg503, h⟩ := gd_some h
            refine StopP.advd tbOk [(34, [(2, .obj (.rows 35 9 cOp zOp ([] : List Op'))), (9, .fz (.rows 35 9 cOp zOp (([] : List Op') ++ (a0.Blocks.getD x447.toNat zBlock).Ops))), (12, .obj (.rows 39 12 cBlock zBlock ([(⟨(([] : List Op') ++ (a0.Blocks.getD x447.toNat zBlock).Ops), (⟨(a0.Blocks.getD x447.toNat zBlock).End.Kind, (a0.Blocks.getD x447.toNat zBlock).End.Op, (a0.Blocks.getD x447.toNat zBlock).End.A, (a0.Blocks.getD x447.toNat zBlock).End.B, i495, i499, (a0.Blocks.getD x447.toNat zBlock).End.Ins⟩ : Term)⟩ : Block)] : List Block))), (13, .obj (.rows 39 12 cBlock zBlock (x446 ++ y502)))])] 100000 1000 (by kernel_rfl) (by kernel_rfl) (ac_y hg498 <| ac_y (tn hg498) <| ac_c (Built.mk (ty := 35) (es := 9) (enc := cOp) (z := zOp) (xs := ([] : List Op')) (fun _ _ => rfl) (by decide : (0 * 9 : Nat) ≤ 16777216)) <| ac_y hg500 <| ac_c (Appended.mk (ty := 35) (es := 9) (by_ := 72) (enc := cOp) (z := zOp) (z' := zOp) (xs := ([] : List Op')) (ys := (a0.Blocks.getD x447.toNat zBlock).Ops) (fun _ _ => rfl) (sl hg501) (sb hg501 (by decide))) <| ac_c (Built.mk (ty := 39) (es := 12) (enc := cBlock) (z := zBlock) (xs := ([(⟨(([] : List Op') ++ (a0.Blocks.getD x447.toNat zBlock).Ops), (⟨(a0.Blocks.getD x447.toNat zBlock).End.Kind, (a0.Blocks.getD x447.toNat zBlock).End.Op, (a0.Blocks.getD x447.toNat zBlock).End.A, (a0.Blocks.getD x447.toNat zBlock).End.B, i495, i499, (a0.Blocks.getD x447.toNat zBlock).End.Ins⟩ : Term)⟩ : Block)] : List Block)) (fun _ _ => rfl) (by decide : (1 * 12 : Nat) ≤ 16777216)) <| ac_c (Appended.mk (ty := 39) (es := 12) (by_ := 112) (enc := cBlock) (z := zBlock) (z' := zBlock) (xs := x446) (ys := y502) (fun _ _ => rfl) (sl hg503) (sb hg503 (by decide))) <| ac_nil) ?_
            refine StopP.out .normal (by kernel_rfl) ?_
            exact WPR.chg [.keep [1, 2, 3, 7, 10, 11] [1, 2, 10, 16, 70, 147], .ren [(147, 5200)]] (by kernel_rfl) (g14_ref22_Trim.l4_ok K a0 o256 o344 r345 k (x446 ++ y502) (IntKind.i64.wrap (x447 + (1 : Int))) o h)
          · have h := cd_f hb497 h
            obtain ⟨hg504, h⟩ := gd_some h
            obtain ⟨hg505, h⟩ := gd_some h
            let y506 : List Block := ([(⟨(([] : List Op') ++ (a0.Blocks.getD x447.toNat zBlock).Ops), (⟨(a0.Blocks.getD x447.toNat zBlock).End.Kind, (a0.Blocks.getD x447.toNat zBlock).End.Op, (a0.Blocks.getD x447.toNat zBlock).End.A, (a0.Blocks.getD x447.toNat zBlock).End.B, i495, (a0.Blocks.getD x447.toNat zBlock).End.Else, (a0.Blocks.getD x447.toNat zBlock).End.Ins⟩ : Term)⟩ : Block)] : List Block)
            obtain ⟨hg507, h⟩ := gd_some h
            refine StopP.advd tbOk [(34, [(2, .obj (.rows 35 9 cOp zOp ([] : List Op'))), (9, .fz (.rows 35 9 cOp zOp (([] : List Op') ++ (a0.Blocks.getD x447.toNat zBlock).Ops))), (12, .obj (.rows 39 12 cBlock zBlock ([(⟨(([] : List Op') ++ (a0.Blocks.getD x447.toNat zBlock).Ops), (⟨(a0.Blocks.getD x447.toNat zBlock).End.Kind, (a0.Blocks.getD x447.toNat zBlock).End.Op, (a0.Blocks.getD x447.toNat zBlock).End.A, (a0.Blocks.getD x447.toNat zBlock).End.B, i495, (a0.Blocks.getD x447.toNat zBlock).End.Else, (a0.Blocks.getD x447.toNat zBlock).End.Ins⟩ : Term)⟩ : Block)] : List Block))), (13, .obj (.rows 39 12 cBlock zBlock (x446 ++ y506)))])] 100000 1000 (by kernel_rfl) (by kernel_rfl) (ac_c (Built.mk (ty := 35) (es := 9) (enc := cOp) (z := zOp) (xs := ([] : List Op')) (fun _ _ => rfl) (by decide : (0 * 9 : Nat) ≤ 16777216)) <| ac_y hg504 <| ac_c (Appended.mk (ty := 35) (es := 9) (by_ := 72) (enc := cOp) (z := zOp) (z' := zOp) (xs := ([] : List Op')) (ys := (a0.Blocks.getD x447.toNat zBlock).Ops) (fun _ _ => rfl) (sl hg505) (sb hg505 (by decide))) <| ac_c (Built.mk (ty := 39) (es := 12) (enc := cBlock) (z := zBlock) (xs := ([(⟨(([] : List Op') ++ (a0.Blocks.getD x447.toNat zBlock).Ops), (⟨(a0.Blocks.getD x447.toNat zBlock).End.Kind, (a0.Blocks.getD x447.toNat zBlock).End.Op, (a0.Blocks.getD x447.toNat zBlock).End.A, (a0.Blocks.getD x447.toNat zBlock).End.B, i495, (a0.Blocks.getD x447.toNat zBlock).End.Else, (a0.Blocks.getD x447.toNat zBlock).End.Ins⟩ : Term)⟩ : Block)] : List Block)) (fun _ _ => rfl) (by decide : (1 * 12 : Nat) ≤ 16777216)) <| ac_c (Appended.mk (ty := 39) (es := 12) (by_ := 112) (enc := cBlock) (z := zBlock) (z' := zBlock) (xs := x446) (ys := y506) (fun _ _ => rfl) (sl hg507) (sb hg507 (by decide))) <| ac_nil) ?_
            refine StopP.out .normal (by kernel_rfl) ?_
            exact WPR.chg [.keep [1, 2, 3, 7, 10, 11] [1, 2, 10, 16, 70, 147], .ren [(147, 5200)]] (by kernel_rfl) (g14_ref22_Trim.l4_ok K a0 o256 o344 r345 k (x446 ++ y506) (IntKind.i64.wrap (x447 + (1 : Int))) o h)
        · have h := cd_f hb493 h
          let b508 : Bool := ((a0.Blocks.getD x447.toNat zBlock).End.Kind == (2 : Int))
          refine StopP.advd tbOk [] 100000 1000 (by kernel_rfl) (by kernel_rfl) (ac_nil) ?_
          refine StopP.cond (b := b508) (by kernel_rfl) (fun hb509 => ?_) (fun hb509 => ?_)
          · have h := cd_t hb509 h
            refine StopP.reb [.keep [1, 2, 3, 7, 10, 11, 12] [1, 2, 10, 12, 16, 70, 5200]] (st' := .at (kid [true, true, true, true, true, true, true, true, false, true, false, false, true, false, false, true, false, true, true, false, true, false] (bodyAt Try.f14)) [.code (kid [true, true, true, true, true, true, true, true, false, true, false, false, true, false, false, true, false, true, true, true] (bodyAt Try.f14)), .blk 9, .code (kid [true, true, true, true, true, true, true, true, false, true, false, false, true, true] (bodyAt Try.f14))] ⟨[(1, .yes, v1 (.ptr 1 0 0)), (2, .yes, v1 (.ptr 2 0 0)), (3, .yes, v1 (.own 16)), (7, .yes, v1 (.own 70)), (10, .yes, v1 (.ptr 10 0 0)), (11, .yes, v1 (ci x447)), (12, .yes, v1 (.ptr 12 0 0))], [(1, .box 24 [cs a0.Name, cb a0.Keep, cb a0.Leaf, .t (.ro 12 cBlock zBlock a0.Blocks)]), (2, .box 24 [cs o256.1, cb false, cb false, .t (.ro 12 cBlock zBlock ([]))]), (10, .box 24 [cs r345.Name, cb r345.Keep, cb r345.Leaf, .own 5200]), (12, .box 37 [ci ((a0.Blocks.getD x447.toNat zBlock).End.Kind), ci ((a0.Blocks.getD x447.toNat zBlock).End.Op), ci ((a0.Blocks.getD x447.toNat zBlock).End.A), ci ((a0.Blocks.getD x447.toNat zBlock).End.B), ci ((a0.Blocks.getD x447.toNat zBlock).End.To), ci ((a0.Blocks.getD x447.toNat zBlock).End.Else), ci ((a0.Blocks.getD x447.toNat zBlock).End.Ins.Op), ci ((a0.Blocks.getD x447.toNat zBlock).End.Ins.A), ci ((a0.Blocks.getD x447.toNat zBlock).End.Ins.B), ci ((a0.Blocks.getD x447.toNat zBlock).End.Ins.C), ci ((a0.Blocks.getD x447.toNat zBlock).End.Ins.Imm)]), (16, .rows 4 1 eB false o256.2), (70, .rows 3 1 eI 0 o344), (5200, .rows 39 12 cBlock zBlock x446)], 150⟩) (by kernel_rfl) (by kernel_rfl) (by kernel_rfl) (by kernel_rfl) rfl ?_
            obtain ⟨hg510, h⟩ := gd_some h
            let i511 : Int := (o344.getD ((a0.Blocks.getD x447.toNat zBlock).End.Else).toNat 0)
            obtain ⟨hg512, h⟩ := gd_some h
            obtain ⟨hg513, h⟩ := gd_some h
            let y514 : List Block := ([(⟨(([] : List Op') ++ (a0.Blocks.getD x447.toNat zBlock).Ops), (⟨(a0.Blocks.getD x447.toNat zBlock).End.Kind, (a0.Blocks.getD x447.toNat zBlock).End.Op, (a0.Blocks.getD x447.toNat zBlock).End.A, (a0.Blocks.getD x447.toNat zBlock).End.B, (a0.Blocks.getD x447.toNat zBlock).End.To, i511, (a0.Blocks.getD x447.toNat zBlock).End.Ins⟩ : Term)⟩ : Block)] : List Block)
            obtain ⟨hg515, h⟩ := gd_some h
            refine StopP.advd tbOk [(34, [(2, .obj (.rows 35 9 cOp zOp ([] : List Op'))), (9, .fz (.rows 35 9 cOp zOp (([] : List Op') ++ (a0.Blocks.getD x447.toNat zBlock).Ops))), (12, .obj (.rows 39 12 cBlock zBlock ([(⟨(([] : List Op') ++ (a0.Blocks.getD x447.toNat zBlock).Ops), (⟨(a0.Blocks.getD x447.toNat zBlock).End.Kind, (a0.Blocks.getD x447.toNat zBlock).End.Op, (a0.Blocks.getD x447.toNat zBlock).End.A, (a0.Blocks.getD x447.toNat zBlock).End.B, (a0.Blocks.getD x447.toNat zBlock).End.To, i511, (a0.Blocks.getD x447.toNat zBlock).End.Ins⟩ : Term)⟩ : Block)] : List Block))), (13, .obj (.rows 39 12 cBlock zBlock (x446 ++ y514)))])] 100000 1000 (by kernel_rfl) (by kernel_rfl) (ac_y hg510 <| ac_y (tn hg510) <| ac_c (Built.mk (ty := 35) (es := 9) (enc := cOp) (z := zOp) (xs := ([] : List Op')) (fun _ _ => rfl) (by decide : (0 * 9 : Nat) ≤ 16777216)) <| ac_y hg512 <| ac_c (Appended.mk (ty := 35) (es := 9) (by_ := 72) (enc := cOp) (z := zOp) (z' := zOp) (xs := ([] : List Op')) (ys := (a0.Blocks.getD x447.toNat zBlock).Ops) (fun _ _ => rfl) (sl hg513) (sb hg513 (by decide))) <| ac_c (Built.mk (ty := 39) (es := 12) (enc := cBlock) (z := zBlock) (xs := ([(⟨(([] : List Op') ++ (a0.Blocks.getD x447.toNat zBlock).Ops), (⟨(a0.Blocks.getD x447.toNat zBlock).End.Kind, (a0.Blocks.getD x447.toNat zBlock).End.Op, (a0.Blocks.getD x447.toNat zBlock).End.A, (a0.Blocks.getD x447.toNat zBlock).End.B, (a0.Blocks.getD x447.toNat zBlock).End.To, i511, (a0.Blocks.getD x447.toNat zBlock).End.Ins⟩ : Term)⟩ : Block)] : List Block)) (fun _ _ => rfl) (by decide : (1 * 12 : Nat) ≤ 16777216)) <| ac_c (Appended.mk (ty := 39) (es := 12) (by_ := 112) (enc := cBlock) (z := zBlock) (z' := zBlock) (xs := x446) (ys := y514) (fun _ _ => rfl) (sl hg515) (sb hg515 (by decide))) <| ac_nil) ?_
            refine StopP.out .normal (by kernel_rfl) ?_
            exact WPR.chg [.keep [1, 2, 3, 7, 10, 11] [1, 2, 10, 16, 70, 147], .ren [(147, 5200)]] (by kernel_rfl) (g14_ref22_Trim.l4_ok K a0 o256 o344 r345 k (x446 ++ y514) (IntKind.i64.wrap (x447 + (1 : Int))) o h)
          · have h := cd_f hb509 h
            obtain ⟨hg516, h⟩ := gd_some h
            obtain ⟨hg517, h⟩ := gd_some h
            let y518 : List Block := ([(⟨(([] : List Op') ++ (a0.Blocks.getD x447.toNat zBlock).Ops), (a0.Blocks.getD x447.toNat zBlock).End⟩ : Block)] : List Block)
            obtain ⟨hg519, h⟩ := gd_some h
            refine StopP.advd tbOk [(34, [(2, .obj (.rows 35 9 cOp zOp ([] : List Op'))), (9, .fz (.rows 35 9 cOp zOp (([] : List Op') ++ (a0.Blocks.getD x447.toNat zBlock).Ops))), (12, .obj (.rows 39 12 cBlock zBlock ([(⟨(([] : List Op') ++ (a0.Blocks.getD x447.toNat zBlock).Ops), (a0.Blocks.getD x447.toNat zBlock).End⟩ : Block)] : List Block))), (13, .obj (.rows 39 12 cBlock zBlock (x446 ++ y518)))])] 100000 1000 (by kernel_rfl) (by kernel_rfl) (ac_c (Built.mk (ty := 35) (es := 9) (enc := cOp) (z := zOp) (xs := ([] : List Op')) (fun _ _ => rfl) (by decide : (0 * 9 : Nat) ≤ 16777216)) <| ac_y hg516 <| ac_c (Appended.mk (ty := 35) (es := 9) (by_ := 72) (enc := cOp) (z := zOp) (z' := zOp) (xs := ([] : List Op')) (ys := (a0.Blocks.getD x447.toNat zBlock).Ops) (fun _ _ => rfl) (sl hg517) (sb hg517 (by decide))) <| ac_c (Built.mk (ty := 39) (es := 12) (enc := cBlock) (z := zBlock) (xs := ([(⟨(([] : List Op') ++ (a0.Blocks.getD x447.toNat zBlock).Ops), (a0.Blocks.getD x447.toNat zBlock).End⟩ : Block)] : List Block)) (fun _ _ => rfl) (by decide : (1 * 12 : Nat) ≤ 16777216)) <| ac_c (Appended.mk (ty := 39) (es := 12) (by_ := 112) (enc := cBlock) (z := zBlock) (z' := zBlock) (xs := x446) (ys := y518) (fun _ _ => rfl) (sl hg519) (sb hg519 (by decide))) <| ac_nil) ?_
            refine StopP.out .normal (by kernel_rfl) ?_
            exact WPR.chg [.keep [1, 2, 3, 7, 10, 11] [1, 2, 10, 16, 70, 147], .ren [(147, 5200)]] (by kernel_rfl) (g14_ref22_Trim.l4_ok K a0 o256 o344 r345 k (x446 ++ y518) (IntKind.i64.wrap (x447 + (1 : Int))) o h)
      · have h := cd_f hb488 h
        refine StopP.advd tbOk [] 100000 1000 (by kernel_rfl) (by kernel_rfl) (ac_nil) ?_
        refine StopP.out .normal (by kernel_rfl) ?_
        exact WPR.chg [.keep [1, 2, 3, 7, 10, 11] [1, 2, 10, 16, 70, 5200]] (by kernel_rfl) (g14_ref22_Trim.l4_ok K a0 o256 o344 r345 k x446 (IntKind.i64.wrap (x447 + (1 : Int))) o h)
    · have h := cd_f hb485 h
      refine StopP.advd tbOk [] 100000 1000 (by kernel_rfl) (by kernel_rfl) (ac_nil) ?_
      have h := sm h; subst h
      exact StopP.out (.exit 8) (by kernel_rfl) ⟨rfl, [.keep [2, 10] [2, 10, 5200]], by kernel_rfl⟩

def g14_ref22_Trim (K : Nat) (a0 : Graph) : Option (Graph) :=
  gd (0 ≤ (a0.Blocks.length : Int) ∧ (a0.Blocks.length : Int).toNat ≤ 1073741824) <|
  gd (0 ≤ (0 : Int) ∧ (0 : Int) < ((List.replicate (a0.Blocks.length : Int).toNat false).length : Int)) <|
  let y3 : List Bool := ((List.replicate (a0.Blocks.length : Int).toNat false).set (0 : Int).toNat true)
  (g14_ref22_Trim.l0 K a0 K ByteArray.empty y3 (0 : Int)).bind fun o256 =>
  gd (0 ≤ (o256.2.length : Int) ∧ (o256.2.length : Int).toNat ≤ 1073741824) <|
  (g14_ref22_Trim.l2 K a0 o256 K (List.replicate (o256.2.length : Int).toNat 0) (0 : Int)).bind fun o344 =>
  (g21_ref16_Copy K a0).bind fun r345 =>
  (g14_ref22_Trim.l4 K a0 o256 o344 r345 K ([]) (0 : Int)).bind fun o520 =>
  some (⟨r345.Name, r345.Keep, r345.Leaf, o520⟩ : Graph)

theorem g14_ref22_Trim_ok (K : Nat) (a0 : Graph) (r : Graph) (h : g14_ref22_Trim K a0 = some r) : AC Try.prog 14 [] [.v true [cs a0.Name, cb a0.Keep, cb a0.Leaf, .t (.ro 12 cBlock zBlock a0.Blocks)]] [(7000, .rows 39 12 cBlock zBlock r.Blocks)] (.v true [cs r.Name, cb r.Keep, cb r.Leaf, .own 7000]) := by
  refine AC.intro (fn := Try.f14) tbOk (by kernel_rfl) rfl (by kernel_rfl) (fun W A Kf => ?_)
  obtain ⟨hg1, h⟩ := gd_some h
  obtain ⟨hg2, h⟩ := gd_some h
  let y3 : List Bool := ((List.replicate (a0.Blocks.length : Int).toNat false).set (0 : Int).toNat true)
  refine StopP.advd tbOk [(1, [(3, .obj (.rows 4 1 eB false (List.replicate (a0.Blocks.length : Int).toNat false)))]), (2, [(2, .obj (.rows 4 1 eB false ((List.replicate (a0.Blocks.length : Int).toNat false).set (0 : Int).toNat true)))])] 100000 1000 (by kernel_rfl) (by kernel_rfl) (ac_c (rfl : (a0.Blocks.length : Int) = (a0.Blocks.length : Int)) <| ac_c (Made.mk (ty := 4) (es := 1) (by_ := 1) (enc := eB) (z := false) (n := (a0.Blocks.length : Int)) hg1.1 rfl (sl hg1.2) (sb2 hg1.2 (by decide))) <| ac_y hg2 <| ac_c (Stored.mk (ty := 4) (es := 1) (enc := eB) (z := false) (xs := (List.replicate (a0.Blocks.length : Int).toNat false)) (i := (0 : Int).toNat) (j := 0) (n := 1) true (tn hg2) (by decide) rfl rfl rfl) <| ac_nil) ?_
  obtain ⟨o256, ho256, h⟩ := bd_some h
  refine StopP.lp (by kernel_rfl) [.keep [1, 2, 3, 4] [1, 2, 16]] (s := g14_ref22_Trim.h0 a0 ByteArray.empty y3 (0 : Int)) (by kernel_rfl) (c := (kid [true, true, true, false, true, false, false] (bodyAt Try.f14))) (by kernel_rfl) (e := (.exit 0)) (J := g14_ref22_Trim.j0_0 a0 o256) K (g14_ref22_Trim.l0_ok K a0 K ByteArray.empty y3 (0 : Int) o256 ho256) ?_
  obtain ⟨hg257, h⟩ := gd_some h
  refine StopP.advd tbOk [(14, [(2, .obj (.rows 3 1 eI 0 (List.replicate (o256.2.length : Int).toNat 0)))])] 100000 1000 (by kernel_rfl) (by kernel_rfl) (ac_c (rfl : (o256.2.length : Int) = (o256.2.length : Int)) <| ac_c (Made.mk (ty := 3) (es := 1) (by_ := 8) (enc := eI) (z := 0) (n := (o256.2.length : Int)) hg257.1 rfl (sl hg257.2) (sb2 hg257.2 (by decide))) <| ac_nil) ?_
  obtain ⟨o344, ho344, h⟩ := bd_some h
  refine StopP.lp (by kernel_rfl) [.keep [1, 2, 3, 7, 8] [1, 2, 16, 70]] (s := g14_ref22_Trim.h2 a0 o256 (List.replicate (o256.2.length : Int).toNat 0) (0 : Int)) (by kernel_rfl) (c := (kid [true, true, true, true, true, false, true, false, false] (bodyAt Try.f14))) (by kernel_rfl) (e := (.exit 4)) (J := g14_ref22_Trim.j2_0 a0 o256 o344) K (g14_ref22_Trim.l2_ok K a0 o256 K (List.replicate (o256.2.length : Int).toNat 0) (0 : Int) o344 ho344) ?_
  obtain ⟨r345, hc345, h⟩ := bd_some h
  refine StopP.advd tbOk [(23, [(1, .call [] [] (.v true [cs r345.Name, cb r345.Keep, cb r345.Leaf, .t (.ro 12 cBlock zBlock r345.Blocks)]))])] 100000 1000 (by kernel_rfl) (by kernel_rfl) (ac_y (g21_ref16_Copy_fz K a0 r345 hc345) <| ac_nil) ?_
  obtain ⟨o520, ho520, h⟩ := bd_some h
  refine StopP.lp (by kernel_rfl) [.own (.box 10 3) 5200 (.rows 39 12 cBlock zBlock []), .keep [1, 2, 3, 7, 10, 11] [1, 2, 10, 16, 70, 5200]] (s := g14_ref22_Trim.h4 a0 o256 o344 r345 ([]) (0 : Int)) (by kernel_rfl) (c := (kid [true, true, true, true, true, true, true, true, false, true, false, false] (bodyAt Try.f14))) (by kernel_rfl) (e := (.exit 8)) (J := g14_ref22_Trim.j4_0 a0 o256 o344 r345 o520) K (g14_ref22_Trim.l4_ok K a0 o256 o344 r345 K ([]) (0 : Int) o520 ho520) ?_
  refine StopP.advd tbOk [] 100000 1000 (by kernel_rfl) (by kernel_rfl) (ac_nil) ?_
  have h := sm h; subst h
  refine StopP.out .ret (by kernel_rfl) ?_
  exact ret_box (.inr rfl) [.keep [2] [2, 5200], .ren [(5200, 7000)]] (by kernel_rfl) (by kernel_rfl) [7000] (by kernel_rfl)

theorem g14_ref22_Trim_fz (K : Nat) (a0 : Graph) (r : Graph) (h : g14_ref22_Trim K a0 = some r) : AC Try.prog 14 [] [.v true [cs a0.Name, cb a0.Keep, cb a0.Leaf, .t (.ro 12 cBlock zBlock a0.Blocks)]] [] (.v true [cs r.Name, cb r.Keep, cb r.Leaf, .t (.ro 12 cBlock zBlock r.Blocks)]) :=
  AC.cast (AC.fz (g14_ref22_Trim_ok K a0 r h) 7000 (o := .rows 39 12 cBlock zBlock r.Blocks) (t := .ro 12 cBlock zBlock r.Blocks) (by kernel_rfl) (by kernel_rfl)) (by kernel_rfl) (by kernel_rfl)

def g18_ref22_Graph (K : Nat) (a0 : Graph) : Option (Graph) :=
  bif a0.Keep then
    (g21_ref16_Copy K a0).bind fun r2 =>
    some r2
  else
    (g12_ref22_Thread K a0).bind fun r3 =>
    (g14_ref22_Trim K r3).bind fun r4 =>
    (g16_ref22_Sweep K r4).bind fun r5 =>
    (g12_ref22_Thread K r5).bind fun r6 =>
    (g14_ref22_Trim K r6).bind fun r7 =>
    some r7

theorem g18_ref22_Graph_ok (K : Nat) (a0 : Graph) (r : Graph) (h : g18_ref22_Graph K a0 = some r) : AC Try.prog 18 [] [.v true [cs a0.Name, cb a0.Keep, cb a0.Leaf, .t (.ro 12 cBlock zBlock a0.Blocks)]] [] (.v true [cs r.Name, cb r.Keep, cb r.Leaf, .t (.ro 12 cBlock zBlock r.Blocks)]) := by
  refine AC.intro (fn := Try.f18) tbOk (by kernel_rfl) rfl (by kernel_rfl) (fun W A Kf => ?_)
  refine StopP.advd tbOk [] 100000 1000 (by kernel_rfl) (by kernel_rfl) (ac_nil) ?_
  refine StopP.cond (b := a0.Keep) (by kernel_rfl) (fun hb1 => ?_) (fun hb1 => ?_)
  · have h := cd_t hb1 h
    refine StopP.reb [.keep [1, 2] [1, 2]] (st' := .at (kid [true, false, true, false] (bodyAt Try.f18)) [.code (kid [true, true] (bodyAt Try.f18))] ⟨[(1, .yes, v1 (.ptr 1 0 0)), (2, .yes, v1 (.ptr 2 0 0))], [(1, .box 24 [cs a0.Name, cb a0.Keep, cb a0.Leaf, .t (.ro 12 cBlock zBlock a0.Blocks)]), (2, .box 24 [cs ByteArray.empty, cb false, cb false, .t (.ro 12 cBlock zBlock ([]))])], 13⟩) (by kernel_rfl) (by kernel_rfl) (by kernel_rfl) (by kernel_rfl) rfl ?_
    obtain ⟨r2, hc2, h⟩ := bd_some h
    refine StopP.advd tbOk [(2, [(1, .call [] [] (.v true [cs r2.Name, cb r2.Keep, cb r2.Leaf, .t (.ro 12 cBlock zBlock r2.Blocks)]))])] 100000 1000 (by kernel_rfl) (by kernel_rfl) (ac_y (g21_ref16_Copy_fz K a0 r2 hc2) <| ac_nil) ?_
    have h := sm h; subst h
    refine StopP.out .ret (by kernel_rfl) ?_
    exact ret_box (.inr rfl) [.keep [2] [2]] (by kernel_rfl) (by kernel_rfl) [] (by kernel_rfl)
  · have h := cd_f hb1 h
    obtain ⟨r3, hc3, h⟩ := bd_some h
    obtain ⟨r4, hc4, h⟩ := bd_some h
    obtain ⟨r5, hc5, h⟩ := bd_some h
    obtain ⟨r6, hc6, h⟩ := bd_some h
    obtain ⟨r7, hc7, h⟩ := bd_some h
    refine StopP.advd tbOk [(3, [(1, .call [] [] (.v true [cs r3.Name, cb r3.Keep, cb r3.Leaf, .t (.ro 12 cBlock zBlock r3.Blocks)])), (2, .call [] [] (.v true [cs r4.Name, cb r4.Keep, cb r4.Leaf, .t (.ro 12 cBlock zBlock r4.Blocks)])), (3, .call [] [] (.v true [cs r5.Name, cb r5.Keep, cb r5.Leaf, .t (.ro 12 cBlock zBlock r5.Blocks)])), (4, .call [] [] (.v true [cs r6.Name, cb r6.Keep, cb r6.Leaf, .t (.ro 12 cBlock zBlock r6.Blocks)])), (5, .call [] [] (.v true [cs r7.Name, cb r7.Keep, cb r7.Leaf, .t (.ro 12 cBlock zBlock r7.Blocks)]))])] 100000 1000 (by kernel_rfl) (by kernel_rfl) (ac_y (g12_ref22_Thread_fz K a0 r3 hc3) <| ac_y (g14_ref22_Trim_fz K r3 r4 hc4) <| ac_y (g16_ref22_Sweep_fz K r4 r5 hc5) <| ac_y (g12_ref22_Thread_fz K r5 r6 hc6) <| ac_y (g14_ref22_Trim_fz K r6 r7 hc7) <| ac_nil) ?_
    have h := sm h; subst h
    refine StopP.out .ret (by kernel_rfl) ?_
    exact ret_box (.inr rfl) [.keep [2] [2]] (by kernel_rfl) (by kernel_rfl) [] (by kernel_rfl)

/-! ### slices.Clone -/
def g32_slices_Clone (K : Nat) (a0 : List Op') : Option (List Op') := gd (a0.length ≤ 1073741824) <| some a0

theorem g32_slices_Clone_ok (K : Nat) (a0 : List Op') (r : List Op') (h : g32_slices_Clone K a0 = some r) : AC Try.prog 32 [] [v1 (.t (.ro 9 cOp zOp a0))] [(7000, .rows 35 9 cOp zOp r)] (v1 (.own 7000)) := by
  obtain ⟨hg, h⟩ := gd_some h
  have h := sm h; subst h
  refine AC.roNil (fun x r he => ?_) (fun he => ?_) (fun he a c => ?_)
  · subst he
    refine AC.intro (fn := Try.f32) tbOk (by kernel_rfl) rfl (by kernel_rfl) (fun W A Kf => ?_)
    refine StopP.advd tbOk [] 100000 1000 (by kernel_rfl) (by kernel_rfl) (ac_nil) ?_
    refine StopP.condF (by kernel_rfl) ?_
    refine StopP.advd tbOk [(3, [(0, .obj (.rows 35 9 cOp zOp ([] : List Op'))), (2, .obj (.rows 35 9 cOp zOp (([] : List Op') ++ (x :: r))))])] 100000 1000 (by kernel_rfl) (by kernel_rfl) (ac_c (Built.mk (ty := 35) (es := 9) (enc := cOp) (z := zOp) (xs := ([] : List Op')) (fun _ _ => rfl) (by decide : (0 * 9 : Nat) ≤ 16777216)) <| ac_c (Appended.mk (ty := 35) (es := 9) (by_ := 72) (enc := cOp) (z := zOp) (z' := zOp) (xs := ([] : List Op')) (ys := x :: r) (fun _ _ => rfl) (sl (by simpa using hg)) (sb (by simpa using hg) (by decide))) <| ac_nil) ?_
    refine StopP.out .ret (by kernel_rfl) ?_
    exact ret_box (.inr rfl) [.keep [2] [7], .ren [(7, 7000)]] (by kernel_rfl) (by kernel_rfl) [7000] (by kernel_rfl)
  · subst he
    refine AC.intro (fn := Try.f32) tbOk (by kernel_rfl) rfl (by kernel_rfl) (fun W A Kf => ?_)
    refine StopP.advd tbOk [] 100000 1000 (by kernel_rfl) (by kernel_rfl) (ac_nil) ?_
    refine StopP.condT (by kernel_rfl) ?_
    refine StopP.advd tbOk [] 100000 1000 (by kernel_rfl) (by kernel_rfl) (ac_nil) ?_
    refine StopP.out .ret (by kernel_rfl) ?_
    exact ret_box (.inr rfl) [.own (.slot 2 0) 7000 (.rows 35 9 cOp zOp []), .keep [2] [7000]] (by kernel_rfl) (by kernel_rfl) [7000] (by kernel_rfl)
  · subst he
    refine AC.intro (fn := Try.f32) tbOk (by kernel_rfl) rfl (by kernel_rfl) (fun W A Kf => ?_)
    refine StopP.advd tbOk [] 100000 1000 (by kernel_rfl) (by kernel_rfl) (ac_nil) ?_
    refine StopP.condF (by kernel_rfl) ?_
    refine StopP.advd tbOk [(3, [(0, .obj (.rows 35 9 cOp zOp ([] : List Op'))), (2, .obj (.rows 35 9 cOp zOp ([] : List Op')))])] 100000 1000 (by kernel_rfl) (by kernel_rfl) (ac_c (Built.mk (ty := 35) (es := 9) (enc := cOp) (z := zOp) (xs := ([] : List Op')) (fun _ _ => rfl) (by decide : (0 * 9 : Nat) ≤ 16777216)) <| ac_c (Appended.nil (ty := 35) (es := 9) (by_ := 72) (enc := cOp) (z := zOp) (xs := ([] : List Op')) (p := some a) (c := c) (fun h => by cases h) (by decide) (by decide)) <| ac_nil) ?_
    refine StopP.out .ret (by kernel_rfl) ?_
    exact ret_box (.inr rfl) [.keep [2] [7], .ren [(7, 7000)]] (by kernel_rfl) (by kernel_rfl) [7000] (by kernel_rfl)

theorem g32_slices_Clone_fz (K : Nat) (a0 : List Op') (r : List Op') (h : g32_slices_Clone K a0 = some r) : AC Try.prog 32 [] [v1 (.t (.ro 9 cOp zOp a0))] [] (v1 (.t (.ro 9 cOp zOp r))) :=
  AC.cast (AC.fz (g32_slices_Clone_ok K a0 r h) 7000 (o := .rows 35 9 cOp zOp r) (t := .ro 9 cOp zOp r) (by kernel_rfl) (by kernel_rfl)) (by kernel_rfl) (by kernel_rfl)

def g23_dead_copied.l0 (K : Nat) (a0 : Graph) : Nat → (List Block) → Int → Option (ByteArray × (List Block))
  | 0, _, _ => none
  | k + 1, x16, x17 =>
    let b24 : Bool := (decide (x17 < (a0.Blocks.length : Int)))
    bif b24 then
      gd (0 ≤ x17 ∧ x17 < (a0.Blocks.length : Int)) <|
      (g32_slices_Clone K ((a0.Blocks.getD x17.toNat zBlock).Ops)).bind fun r27 =>
      let y28 : List Block := ([(⟨r27, (a0.Blocks.getD x17.toNat zBlock).End⟩ : Block)] : List Block)
      gd (x16.length + y28.length ≤ 1073741824) <|
      g23_dead_copied.l0 K a0 k (x16 ++ y28) (IntKind.i64.wrap (x17 + (1 : Int)))
    else
      some (ByteArray.empty, x16)

def g23_dead_copied.h0 (a0 : Graph) (x16 : (List Block)) (x17 : Int) : Abs.St := ⟨[(2, .yes, v1 (.ptr 2 0 0)), (3, .yes, v1 (.ptr 3 0 0)), (9, .yes, v1 (.t (.ro 12 cBlock zBlock a0.Blocks))), (10, .yes, v1 (ci (a0.Blocks.length : Int))), (11, .yes, v1 (ci x17))], [(2, .box 24 [cs ByteArray.empty, cb false, cb false, .t (.ro 12 cBlock zBlock ([]))]), (3, .box 24 [cs a0.Name, cb a0.Keep, cb a0.Leaf, .own 5000]), (5000, .rows 39 12 cBlock zBlock x16)], 28⟩

def g23_dead_copied.j0_0 (a0 : Graph) (o : ByteArray × (List Block)) : Abs.St := ⟨[(2, .yes, v1 (.ptr 2 0 0)), (3, .yes, v1 (.ptr 3 0 0))], [(2, .box 24 [cs o.1, cb false, cb false, .t (.ro 12 cBlock zBlock ([]))]), (3, .box 24 [cs a0.Name, cb a0.Keep, cb a0.Leaf, .own 5000]), (5000, .rows 39 12 cBlock zBlock o.2)], 28⟩

theorem g23_dead_copied.l0_ok {W : World} {A Kf : Nat → Prop} (K : Nat) (a0 : Graph) : ∀ (k : Nat) (x16 : (List Block)) (x17 : Int) (o : ByteArray × (List Block)), g23_dead_copied.l0 K a0 k x16 x17 = some o → WPR Try.prog W A Kf (kid [true, true, true, false, true, false, false] (bodyAt Try.f23)) (Out (.exit 0) (g23_dead_copied.j0_0 a0 o)) k (g23_dead_copied.h0 a0 x16 x17)
  | 0, x16, x17, o, h => by cases h
  | k + 1, x16, x17, o, h => by
    refine WPR.round ?_
    let b24 : Bool := (decide (x17 < (a0.Blocks.length : Int)))
    refine StopP.advd tbOk [] 100000 1000 (by kernel_rfl) (by kernel_rfl) (ac_nil) ?_
    refine StopP.cond (b := b24) (by kernel_rfl) (fun hb25 => ?_) (fun hb25 => ?_)
    · have h := cd_t hb25 h
      obtain ⟨hg26, h⟩ := gd_some h
      obtain ⟨r27, hc27, h⟩ := bd_some h
      let y28 : List Block := ([(⟨r27, (a0.Blocks.getD x17.toNat zBlock).End⟩ : Block)] : List Block)
      obtain ⟨hg29, h⟩ := gd_some h
      refine StopP.advd tbOk [(6, [(4, .call [] [] (v1 (.t (.ro 9 cOp zOp r27)))), (8, .obj (.rows 39 12 cBlock zBlock ([(⟨r27, (a0.Blocks.getD x17.toNat zBlock).End⟩ : Block)] : List Block))), (9, .obj (.rows 39 12 cBlock zBlock (x16 ++ y28)))])] 100000 1000 (by kernel_rfl) (by kernel_rfl) (ac_y hg26 <| ac_y (g32_slices_Clone_fz K ((a0.Blocks.getD x17.toNat zBlock).Ops) r27 hc27) <| ac_c (Built.mk (ty := 39) (es := 12) (enc := cBlock) (z := zBlock) (xs := ([(⟨r27, (a0.Blocks.getD x17.toNat zBlock).End⟩ : Block)] : List Block)) (fun _ _ => rfl) (by decide : (1 * 12 : Nat) ≤ 16777216)) <| ac_c (Appended.mk (ty := 39) (es := 12) (by_ := 112) (enc := cBlock) (z := zBlock) (z' := zBlock) (xs := x16) (ys := y28) (fun _ _ => rfl) (sl hg29) (sb hg29 (by decide))) <| ac_nil) ?_
      refine StopP.out .normal (by kernel_rfl) ?_
      exact WPR.chg [.keep [2, 3, 9, 10, 11] [2, 3, 24], .ren [(24, 5000)]] (by kernel_rfl) (g23_dead_copied.l0_ok K a0 k (x16 ++ y28) (IntKind.i64.wrap (x17 + (1 : Int))) o h)
    · have h := cd_f hb25 h
      refine StopP.advd tbOk [] 100000 1000 (by kernel_rfl) (by kernel_rfl) (ac_nil) ?_
      have h := sm h; subst h
      exact StopP.out (.exit 0) (by kernel_rfl) ⟨rfl, [.keep [2, 3] [2, 3, 5000]], by kernel_rfl⟩

def g23_dead_copied (K : Nat) (a0 : Graph) : Option (Graph) :=
  (g23_dead_copied.l0 K a0 K ([]) (0 : Int)).bind fun o30 =>
  some (⟨a0.Name, a0.Keep, a0.Leaf, o30.2⟩ : Graph)

theorem g23_dead_copied_ok (K : Nat) (a0 : Graph) (r : Graph) (h : g23_dead_copied K a0 = some r) : AC Try.prog 23 [] [.v true [cs a0.Name, cb a0.Keep, cb a0.Leaf, .t (.ro 12 cBlock zBlock a0.Blocks)]] [(7000, .rows 39 12 cBlock zBlock r.Blocks)] (.v true [cs r.Name, cb r.Keep, cb r.Leaf, .own 7000]) := by
  refine AC.intro (fn := Try.f23) tbOk (by kernel_rfl) rfl (by kernel_rfl) (fun W A Kf => ?_)
  refine StopP.advd tbOk [] 100000 1000 (by kernel_rfl) (by kernel_rfl) (ac_nil) ?_
  obtain ⟨o30, ho30, h⟩ := bd_some h
  refine StopP.lp (by kernel_rfl) [.own (.box 3 3) 5000 (.rows 39 12 cBlock zBlock []), .keep [2, 3, 9, 10, 11] [2, 3, 5000]] (s := g23_dead_copied.h0 a0 ([]) (0 : Int)) (by kernel_rfl) (c := (kid [true, true, true, false, true, false, false] (bodyAt Try.f23))) (by kernel_rfl) (e := (.exit 0)) (J := g23_dead_copied.j0_0 a0 o30) K (g23_dead_copied.l0_ok K a0 K ([]) (0 : Int) o30 ho30) ?_
  refine StopP.advd tbOk [] 100000 1000 (by kernel_rfl) (by kernel_rfl) (ac_nil) ?_
  have h := sm h; subst h
  refine StopP.out .ret (by kernel_rfl) ?_
  exact ret_box (.inr rfl) [.keep [2] [2, 5000], .ren [(5000, 7000)]] (by kernel_rfl) (by kernel_rfl) [7000] (by kernel_rfl)

theorem g23_dead_copied_fz (K : Nat) (a0 : Graph) (r : Graph) (h : g23_dead_copied K a0 = some r) : AC Try.prog 23 [] [.v true [cs a0.Name, cb a0.Keep, cb a0.Leaf, .t (.ro 12 cBlock zBlock a0.Blocks)]] [] (.v true [cs r.Name, cb r.Keep, cb r.Leaf, .t (.ro 12 cBlock zBlock r.Blocks)]) :=
  AC.cast (AC.fz (g23_dead_copied_ok K a0 r h) 7000 (o := .rows 39 12 cBlock zBlock r.Blocks) (t := .ro 12 cBlock zBlock r.Blocks) (by kernel_rfl) (by kernel_rfl)) (by kernel_rfl) (by kernel_rfl)

def g11_dead_Thread.l0 (K : Nat) (a0 : Graph) (r1 : Graph) : Nat → (List Block) → Int → Option (ByteArray × (List Block))
  | 0, _, _ => none
  | k + 1, x44, x45 =>
    let b88 : Bool := (decide (x45 < (r1.Blocks.length : Int)))
    bif b88 then
      gd (0 ≤ x45 ∧ x45 < (x44.length : Int)) <|
      let b91 : Bool := ((x44.getD x45.toNat zBlock).End.Kind == (2 : Int))
      bif b91 then
        (g24_dead_through K a0 ((x44.getD x45.toNat zBlock).End.Else)).bind fun r93 =>
        let y94 : List Block := (x44.set x45.toNat (⟨(x44.getD x45.toNat zBlock).Ops, (⟨(x44.getD x45.toNat zBlock).End.Kind, (x44.getD x45.toNat zBlock).End.Op, (x44.getD x45.toNat zBlock).End.A, (x44.getD x45.toNat zBlock).End.B, (x44.getD x45.toNat zBlock).End.To, r93, (x44.getD x45.toNat zBlock).End.Ins⟩ : Term)⟩ : Block))
        gd (x45.toNat < y94.length) <|
        (g24_dead_through K a0 ((y94.getD x45.toNat zBlock).End.To)).bind fun r96 =>
        gd (x45.toNat < y94.length) <|
        let y98 : List Block := (y94.set x45.toNat (⟨(y94.getD x45.toNat zBlock).Ops, (⟨(y94.getD x45.toNat zBlock).End.Kind, (y94.getD x45.toNat zBlock).End.Op, (y94.getD x45.toNat zBlock).End.A, (y94.getD x45.toNat zBlock).End.B, r96, (y94.getD x45.toNat zBlock).End.Else, (y94.getD x45.toNat zBlock).End.Ins⟩ : Term)⟩ : Block))
        gd (x45.toNat < y98.length) <|
        let b100 : Bool := ((y98.getD x45.toNat zBlock).End.Kind == (2 : Int))
        gd (b100 = true → x45.toNat < y98.length) <|
        gd (b100 = true → x45.toNat < y98.length) <|
        let b103 : Bool := ((y98.getD x45.toNat zBlock).End.To == (y98.getD x45.toNat zBlock).End.Else)
        let b104 : Bool := (bif b100 then b103 else false)
        bif b104 then
          gd (x45.toNat < y98.length) <|
          gd (x45.toNat < y98.length) <|
          let y108 : List Block := (y98.set x45.toNat (⟨(y98.getD x45.toNat zBlock).Ops, (⟨(1 : Int), (0 : Int), (0 : Int), (0 : Int), (y98.getD x45.toNat zBlock).End.To, (0 : Int), (⟨(0 : Int), (0 : Int), (0 : Int), (0 : Int), (0 : Int)⟩ : Ins)⟩ : Term)⟩ : Block))
          g11_dead_Thread.l0 K a0 r1 k y108 (IntKind.i64.wrap (x45 + (1 : Int)))
        else
          g11_dead_Thread.l0 K a0 r1 k y98 (IntKind.i64.wrap (x45 + (1 : Int)))
      else
        let b109 : Bool := ((x44.getD x45.toNat zBlock).End.Kind == (1 : Int))
        bif b109 then
          (g24_dead_through K a0 ((x44.getD x45.toNat zBlock).End.To)).bind fun r111 =>
          let y112 : List Block := (x44.set x45.toNat (⟨(x44.getD x45.toNat zBlock).Ops, (⟨(x44.getD x45.toNat zBlock).End.Kind, (x44.getD x45.toNat zBlock).End.Op, (x44.getD x45.toNat zBlock).End.A, (x44.getD x45.toNat zBlock).End.B, r111, (x44.getD x45.toNat zBlock).End.Else, (x44.getD x45.toNat zBlock).End.Ins⟩ : Term)⟩ : Block))
          gd (x45.toNat < y112.length) <|
          let b114 : Bool := ((y112.getD x45.toNat zBlock).End.Kind == (2 : Int))
          gd (b114 = true → x45.toNat < y112.length) <|
          gd (b114 = true → x45.toNat < y112.length) <|
          let b117 : Bool := ((y112.getD x45.toNat zBlock).End.To == (y112.getD x45.toNat zBlock).End.Else)
          let b118 : Bool := (bif b114 then b117 else false)
          bif b118 then
            gd (x45.toNat < y112.length) <|
            gd (x45.toNat < y112.length) <|
            let y122 : List Block := (y112.set x45.toNat (⟨(y112.getD x45.toNat zBlock).Ops, (⟨(1 : Int), (0 : Int), (0 : Int), (0 : Int), (y112.getD x45.toNat zBlock).End.To, (0 : Int), (⟨(0 : Int), (0 : Int), (0 : Int), (0 : Int), (0 : Int)⟩ : Ins)⟩ : Term)⟩ : Block))
            g11_dead_Thread.l0 K a0 r1 k y122 (IntKind.i64.wrap (x45 + (1 : Int)))
          else
            g11_dead_Thread.l0 K a0 r1 k y112 (IntKind.i64.wrap (x45 + (1 : Int)))
        else
          let b123 : Bool := ((x44.getD x45.toNat zBlock).End.Kind == (2 : Int))
          gd (b123 = true → x45.toNat < x44.length) <|
          gd (b123 = true → x45.toNat < x44.length) <|
          let b126 : Bool := ((x44.getD x45.toNat zBlock).End.To == (x44.getD x45.toNat zBlock).End.Else)
          let b127 : Bool := (bif b123 then b126 else false)
          bif b127 then
            let y129 : List Block := (x44.set x45.toNat (⟨(x44.getD x45.toNat zBlock).Ops, (⟨(1 : Int), (0 : Int), (0 : Int), (0 : Int), (x44.getD x45.toNat zBlock).End.To, (0 : Int), (⟨(0 : Int), (0 : Int), (0 : Int), (0 : Int), (0 : Int)⟩ : Ins)⟩ : Term)⟩ : Block))
            g11_dead_Thread.l0 K a0 r1 k y129 (IntKind.i64.wrap (x45 + (1 : Int)))
          else
            g11_dead_Thread.l0 K a0 r1 k x44 (IntKind.i64.wrap (x45 + (1 : Int)))
    else
      some (ByteArray.empty, x44)

def g11_dead_Thread.h0 (a0 : Graph) (r1 : Graph) (x44 : (List Block)) (x45 : Int) : Abs.St := ⟨[(1, .yes, v1 (.ptr 1 0 0)), (2, .yes, v1 (.ptr 2 0 0)), (3, .yes, v1 (.ptr 3 0 0)), (10, .yes, v1 (ci (r1.Blocks.length : Int))), (11, .yes, v1 (ci x45))], [(1, .box 24 [cs a0.Name, cb a0.Keep, cb a0.Leaf, .t (.ro 12 cBlock zBlock a0.Blocks)]), (2, .box 24 [cs ByteArray.empty, cb false, cb false, .t (.ro 12 cBlock zBlock ([]))]), (3, .box 24 [cs r1.Name, cb r1.Keep, cb r1.Leaf, .own 20070]), (20070, .rows 39 12 cBlock zBlock x44)], 70⟩

def g11_dead_Thread.j0_0 (a0 : Graph) (r1 : Graph) (o : ByteArray × (List Block)) : Abs.St := ⟨[(2, .yes, v1 (.ptr 2 0 0)), (3, .yes, v1 (.ptr 3 0 0))], [(2, .box 24 [cs o.1, cb false, cb false, .t (.ro 12 cBlock zBlock ([]))]), (3, .box 24 [cs r1.Name, cb r1.Keep, cb r1.Leaf, .own 20070]), (20070, .rows 39 12 cBlock zBlock o.2)], 70⟩

theorem g11_dead_Thread.l0_ok {W : World} {A Kf : Nat → Prop} (K : Nat) (a0 : Graph) (r1 : Graph) : ∀ (k : Nat) (x44 : (List Block)) (x45 : Int) (o : ByteArray × (List Block)), g11_dead_Thread.l0 K a0 r1 k x44 x45 = some o → WPR Try.prog W A Kf (kid [true, true, false, true, false, false] (bodyAt Try.f11)) (Out (.exit 0) (g11_dead_Thread.j0_0 a0 r1 o)) k (g11_dead_Thread.h0 a0 r1 x44 x45)
  | 0, x44, x45, o, h => by cases h
  | k + 1, x44, x45, o, h => by
    refine WPR.round ?_
    let b88 : Bool := (decide (x45 < (r1.Blocks.length : Int)))
    refine StopP.advd tbOk [] 100000 1000 (by kernel_rfl) (by kernel_rfl) (ac_nil) ?_
    refine StopP.cond (b := b88) (by kernel_rfl) (fun hb89 => ?_) (fun hb89 => ?_)
    · have h := cd_t hb89 h
      obtain ⟨hg90, h⟩ := gd_some h
      let b91 : Bool := ((x44.getD x45.toNat zBlock).End.Kind == (2 : Int))
      refine StopP.advd tbOk [] 100000 1000 (by kernel_rfl) (by kernel_rfl) (ac_y hg90 <| ac_y (tn hg90) <| ac_nil) ?_
      refine StopP.cond (b := b91) (by kernel_rfl) (fun hb92 => ?_) (fun hb92 => ?_)
      · have h := cd_t hb92 h
        obtain ⟨r93, hc93, h⟩ := bd_some h
        let y94 : List Block := (x44.set x45.toNat (⟨(x44.getD x45.toNat zBlock).Ops, (⟨(x44.getD x45.toNat zBlock).End.Kind, (x44.getD x45.toNat zBlock).End.Op, (x44.getD x45.toNat zBlock).End.A, (x44.getD x45.toNat zBlock).End.B, (x44.getD x45.toNat zBlock).End.To, r93, (x44.getD x45.toNat zBlock).End.Ins⟩ : Term)⟩ : Block))
        obtain ⟨hg95, h⟩ := gd_some h
        obtain ⟨r96, hc96, h⟩ := bd_some h
        obtain ⟨hg97, h⟩ := gd_some h
        let y98 : List Block := (y94.set x45.toNat (⟨(y94.getD x45.toNat zBlock).Ops, (⟨(y94.getD x45.toNat zBlock).End.Kind, (y94.getD x45.toNat zBlock).End.Op, (y94.getD x45.toNat zBlock).End.A, (y94.getD x45.toNat zBlock).End.B, r96, (y94.getD x45.toNat zBlock).End.Else, (y94.getD x45.toNat zBlock).End.Ins⟩ : Term)⟩ : Block))
        obtain ⟨hg99, h⟩ := gd_some h
        let b100 : Bool := ((y98.getD x45.toNat zBlock).End.Kind == (2 : Int))
        obtain ⟨hg101, h⟩ := gd_some h
        obtain ⟨hg102, h⟩ := gd_some h
        let b103 : Bool := ((y98.getD x45.toNat zBlock).End.To == (y98.getD x45.toNat zBlock).End.Else)
        let b104 : Bool := (bif b100 then b103 else false)
        have q0 := ac_y hg99 <| ac_on b100 (pt b100) <| ac_on b100 (pt b100) <| ac_on b100 (pt b100) <| ac_on b100 hg101 <| ac_on b100 (pt b100) <| ac_on b100 (pt b100) <| ac_on b100 (pt b100) <| ac_on b100 hg102 <| ac_on b100 (pt b100) <| ac_on b100 (pt b100) <| ac_y (pt b100) <| ac_nil
        refine StopP.advd tbOk [(9, [(6, .call [] [] (v1 (ci r93))), (9, .obj (.rows 39 12 cBlock zBlock (x44.set x45.toNat (⟨(x44.getD x45.toNat zBlock).Ops, (⟨(x44.getD x45.toNat zBlock).End.Kind, (x44.getD x45.toNat zBlock).End.Op, (x44.getD x45.toNat zBlock).End.A, (x44.getD x45.toNat zBlock).End.B, (x44.getD x45.toNat zBlock).End.To, r93, (x44.getD x45.toNat zBlock).End.Ins⟩ : Term)⟩ : Block))))]), (10, [(6, .call [] [] (v1 (ci r96))), (9, .obj (.rows 39 12 cBlock zBlock (y94.set x45.toNat (⟨(y94.getD x45.toNat zBlock).Ops, (⟨(y94.getD x45.toNat zBlock).End.Kind, (y94.getD x45.toNat zBlock).End.Op, (y94.getD x45.toNat zBlock).End.A, (y94.getD x45.toNat zBlock).End.B, r96, (y94.getD x45.toNat zBlock).End.Else, (y94.getD x45.toNat zBlock).End.Ins⟩ : Term)⟩ : Block))))])] 100000 1000 (by kernel_rfl) (by kernel_rfl) (ac_y (tn hg90) <| ac_y (g24_dead_through_ok K a0 ((x44.getD x45.toNat zBlock).End.Else) r93 hc93) <| ac_c (Stored.mk (ty := 39) (es := 12) (enc := cBlock) (z := zBlock) (xs := x44) (i := x45.toNat) (j := 6) (n := 1) (⟨(x44.getD x45.toNat zBlock).Ops, (⟨(x44.getD x45.toNat zBlock).End.Kind, (x44.getD x45.toNat zBlock).End.Op, (x44.getD x45.toNat zBlock).End.A, (x44.getD x45.toNat zBlock).End.B, (x44.getD x45.toNat zBlock).End.To, r93, (x44.getD x45.toNat zBlock).End.Ins⟩ : Term)⟩ : Block) (tn hg90) (by decide) rfl rfl rfl) <| ac_y hg95 <| ac_y (g24_dead_through_ok K a0 ((y94.getD x45.toNat zBlock).End.To) r96 hc96) <| ac_c (Stored.mk (ty := 39) (es := 12) (enc := cBlock) (z := zBlock) (xs := y94) (i := x45.toNat) (j := 5) (n := 1) (⟨(y94.getD x45.toNat zBlock).Ops, (⟨(y94.getD x45.toNat zBlock).End.Kind, (y94.getD x45.toNat zBlock).End.Op, (y94.getD x45.toNat zBlock).End.A, (y94.getD x45.toNat zBlock).End.B, r96, (y94.getD x45.toNat zBlock).End.Else, (y94.getD x45.toNat zBlock).End.Ins⟩ : Term)⟩ : Block) hg97 (by decide) rfl rfl rfl) <| q0) ?_
        refine StopP.cond (b := b104) (by kernel_rfl) (fun hb105 => ?_) (fun hb105 => ?_)
        · have h := cd_t hb105 h
          obtain ⟨hg106, h⟩ := gd_some h
          obtain ⟨hg107, h⟩ := gd_some h
          let y108 : List Block := (y98.set x45.toNat (⟨(y98.getD x45.toNat zBlock).Ops, (⟨(1 : Int), (0 : Int), (0 : Int), (0 : Int), (y98.getD x45.toNat zBlock).End.To, (0 : Int), (⟨(0 : Int), (0 : Int), (0 : Int), (0 : Int), (0 : Int)⟩ : Ins)⟩ : Term)⟩ : Block))
          refine StopP.advd tbOk [(12, [(7, .obj (.rows 39 12 cBlock zBlock (y98.set x45.toNat (⟨(y98.getD x45.toNat zBlock).Ops, (⟨(1 : Int), (0 : Int), (0 : Int), (0 : Int), (y98.getD x45.toNat zBlock).End.To, (0 : Int), (⟨(0 : Int), (0 : Int), (0 : Int), (0 : Int), (0 : Int)⟩ : Ins)⟩ : Term)⟩ : Block))))])] 100000 1000 (by kernel_rfl) (by kernel_rfl) (ac_y hg106 <| ac_c (Stored.mk (ty := 39) (es := 12) (enc := cBlock) (z := zBlock) (xs := y98) (i := x45.toNat) (j := 1) (n := 11) (⟨(y98.getD x45.toNat zBlock).Ops, (⟨(1 : Int), (0 : Int), (0 : Int), (0 : Int), (y98.getD x45.toNat zBlock).End.To, (0 : Int), (⟨(0 : Int), (0 : Int), (0 : Int), (0 : Int), (0 : Int)⟩ : Ins)⟩ : Term)⟩ : Block) hg107 (by decide) rfl rfl rfl) <| ac_nil) ?_
          refine StopP.out .normal (by kernel_rfl) ?_
          exact WPR.chg [.keep [1, 2, 3, 10, 11] [1, 2, 3, 20070]] (by kernel_rfl) (g11_dead_Thread.l0_ok K a0 r1 k y108 (IntKind.i64.wrap (x45 + (1 : Int))) o h)
        · have h := cd_f hb105 h
          refine StopP.advd tbOk [] 100000 1000 (by kernel_rfl) (by kernel_rfl) (ac_nil) ?_
          refine StopP.out .normal (by kernel_rfl) ?_
          exact WPR.chg [.keep [1, 2, 3, 10, 11] [1, 2, 3, 20070]] (by kernel_rfl) (g11_dead_Thread.l0_ok K a0 r1 k y98 (IntKind.i64.wrap (x45 + (1 : Int))) o h)
      · have h := cd_f hb92 h
        let b109 : Bool := ((x44.getD x45.toNat zBlock).End.Kind == (1 : Int))
        refine StopP.advd tbOk [] 100000 1000 (by kernel_rfl) (by kernel_rfl) (ac_nil) ?_
        refine StopP.cond (b := b109) (by kernel_rfl) (fun hb110 => ?_) (fun hb110 => ?_)
        · have h := cd_t hb110 h
          obtain ⟨r111, hc111, h⟩ := bd_some h
          let y112 : List Block := (x44.set x45.toNat (⟨(x44.getD x45.toNat zBlock).Ops, (⟨(x44.getD x45.toNat zBlock).End.Kind, (x44.getD x45.toNat zBlock).End.Op, (x44.getD x45.toNat zBlock).End.A, (x44.getD x45.toNat zBlock).End.B, r111, (x44.getD x45.toNat zBlock).End.Else, (x44.getD x45.toNat zBlock).End.Ins⟩ : Term)⟩ : Block))
          obtain ⟨hg113, h⟩ := gd_some h
          let b114 : Bool := ((y112.getD x45.toNat zBlock).End.Kind == (2 : Int))
          obtain ⟨hg115, h⟩ := gd_some h
          obtain ⟨hg116, h⟩ := gd_some h
          let b117 : Bool := ((y112.getD x45.toNat zBlock).End.To == (y112.getD x45.toNat zBlock).End.Else)
          let b118 : Bool := (bif b114 then b117 else false)
          have q0 := ac_y hg113 <| ac_on b114 (pt b114) <| ac_on b114 (pt b114) <| ac_on b114 (pt b114) <| ac_on b114 hg115 <| ac_on b114 (pt b114) <| ac_on b114 (pt b114) <| ac_on b114 (pt b114) <| ac_on b114 hg116 <| ac_on b114 (pt b114) <| ac_on b114 (pt b114) <| ac_y (pt b114) <| ac_nil
          refine StopP.advd tbOk [(10, [(6, .call [] [] (v1 (ci r111))), (9, .obj (.rows 39 12 cBlock zBlock (x44.set x45.toNat (⟨(x44.getD x45.toNat zBlock).Ops, (⟨(x44.getD x45.toNat zBlock).End.Kind, (x44.getD x45.toNat zBlock).End.Op, (x44.getD x45.toNat zBlock).End.A, (x44.getD x45.toNat zBlock).End.B, r111, (x44.getD x45.toNat zBlock).End.Else, (x44.getD x45.toNat zBlock).End.Ins⟩ : Term)⟩ : Block))))])] 100000 1000 (by kernel_rfl) (by kernel_rfl) (ac_y (tn hg90) <| ac_y (g24_dead_through_ok K a0 ((x44.getD x45.toNat zBlock).End.To) r111 hc111) <| ac_c (Stored.mk (ty := 39) (es := 12) (enc := cBlock) (z := zBlock) (xs := x44) (i := x45.toNat) (j := 5) (n := 1) (⟨(x44.getD x45.toNat zBlock).Ops, (⟨(x44.getD x45.toNat zBlock).End.Kind, (x44.getD x45.toNat zBlock).End.Op, (x44.getD x45.toNat zBlock).End.A, (x44.getD x45.toNat zBlock).End.B, r111, (x44.getD x45.toNat zBlock).End.Else, (x44.getD x45.toNat zBlock).End.Ins⟩ : Term)⟩ : Block) (tn hg90) (by decide) rfl rfl rfl) <| q0) ?_
          refine StopP.cond (b := b118) (by kernel_rfl) (fun hb119 => ?_) (fun hb119 => ?_)
          · have h := cd_t hb119 h
            refine StopP.reb [.keep [1, 2, 3, 5, 10, 11] [1, 2, 3, 20070]] (st' := .at (kid [true, true, false, true, false, false, true, true, false, false, true, true, true, true, false] (bodyAt Try.f11)) [.blk 1, .code (kid [true, true, false, true, false, false, true, true, true] (bodyAt Try.f11))] ⟨[(1, .yes, v1 (.ptr 1 0 0)), (2, .yes, v1 (.ptr 2 0 0)), (3, .yes, v1 (.ptr 3 0 0)), (5, .yes, v1 (.ptr 20070 x45.toNat 1)), (10, .yes, v1 (ci (r1.Blocks.length : Int))), (11, .yes, v1 (ci x45))], [(1, .box 24 [cs a0.Name, cb a0.Keep, cb a0.Leaf, .t (.ro 12 cBlock zBlock a0.Blocks)]), (2, .box 24 [cs ByteArray.empty, cb false, cb false, .t (.ro 12 cBlock zBlock ([]))]), (3, .box 24 [cs r1.Name, cb r1.Keep, cb r1.Leaf, .own 20070]), (20070, .rows 39 12 cBlock zBlock y112)], 70⟩) (by kernel_rfl) (by kernel_rfl) (by kernel_rfl) (by kernel_rfl) rfl ?_
            obtain ⟨hg120, h⟩ := gd_some h
            obtain ⟨hg121, h⟩ := gd_some h
            let y122 : List Block := (y112.set x45.toNat (⟨(y112.getD x45.toNat zBlock).Ops, (⟨(1 : Int), (0 : Int), (0 : Int), (0 : Int), (y112.getD x45.toNat zBlock).End.To, (0 : Int), (⟨(0 : Int), (0 : Int), (0 : Int), (0 : Int), (0 : Int)⟩ : Ins)⟩ : Term)⟩ : Block))
            refine StopP.advd tbOk [(12, [(7, .obj (.rows 39 12 cBlock zBlock (y112.set x45.toNat (⟨(y112.getD x45.toNat zBlock).Ops, (⟨(1 : Int), (0 : Int), (0 : Int), (0 : Int), (y112.getD x45.toNat zBlock).End.To, (0 : Int), (⟨(0 : Int), (0 : Int), (0 : Int), (0 : Int), (0 : Int)⟩ : Ins)⟩ : Term)⟩ : Block))))])] 100000 1000 (by kernel_rfl) (by kernel_rfl) (ac_y hg120 <| ac_c (Stored.mk (ty := 39) (es := 12) (enc := cBlock) (z := zBlock) (xs := y112) (i := x45.toNat) (j := 1) (n := 11) (⟨(y112.getD x45.toNat zBlock).Ops, (⟨(1 : Int), (0 : Int), (0 : Int), (0 : Int), (y112.getD x45.toNat zBlock).End.To, (0 : Int), (⟨(0 : Int), (0 : Int), (0 : Int), (0 : Int), (0 : Int)⟩ : Ins)⟩ : Term)⟩ : Block) hg121 (by decide) rfl rfl rfl) <| ac_nil) ?_
            refine StopP.out .normal (by kernel_rfl) ?_
            exact WPR.chg [.keep [1, 2, 3, 10, 11] [1, 2, 3, 20070]] (by kernel_rfl) (g11_dead_Thread.l0_ok K a0 r1 k y122 (IntKind.i64.wrap (x45 + (1 : Int))) o h)
          · have h := cd_f hb119 h
            refine StopP.advd tbOk [] 100000 1000 (by kernel_rfl) (by kernel_rfl) (ac_nil) ?_
            refine StopP.out .normal (by kernel_rfl) ?_
            exact WPR.chg [.keep [1, 2, 3, 10, 11] [1, 2, 3, 20070]] (by kernel_rfl) (g11_dead_Thread.l0_ok K a0 r1 k y112 (IntKind.i64.wrap (x45 + (1 : Int))) o h)
        · have h := cd_f hb110 h
          let b123 : Bool := ((x44.getD x45.toNat zBlock).End.Kind == (2 : Int))
          obtain ⟨hg124, h⟩ := gd_some h
          obtain ⟨hg125, h⟩ := gd_some h
          let b126 : Bool := ((x44.getD x45.toNat zBlock).End.To == (x44.getD x45.toNat zBlock).End.Else)
          let b127 : Bool := (bif b123 then b126 else false)
          refine StopP.advd tbOk [] 100000 1000 (by kernel_rfl) (by kernel_rfl) (ac_y (tn hg90) <| ac_on b123 (pt b123) <| ac_on b123 (pt b123) <| ac_on b123 (pt b123) <| ac_on b123 hg124 <| ac_on b123 (pt b123) <| ac_on b123 (pt b123) <| ac_on b123 (pt b123) <| ac_on b123 hg125 <| ac_on b123 (pt b123) <| ac_on b123 (pt b123) <| ac_y (pt b123) <| ac_nil) ?_
          refine StopP.cond (b := b127) (by kernel_rfl) (fun hb128 => ?_) (fun hb128 => ?_)
          · have h := cd_t hb128 h
            refine StopP.reb [.keep [1, 2, 3, 5, 10, 11] [1, 2, 3, 20070]] (st' := .at (kid [true, true, false, true, false, false, true, true, false, false, true, true, true, true, false] (bodyAt Try.f11)) [.blk 1, .code (kid [true, true, false, true, false, false, true, true, true] (bodyAt Try.f11))] ⟨[(1, .yes, v1 (.ptr 1 0 0)), (2, .yes, v1 (.ptr 2 0 0)), (3, .yes, v1 (.ptr 3 0 0)), (5, .yes, v1 (.ptr 20070 x45.toNat 1)), (10, .yes, v1 (ci (r1.Blocks.length : Int))), (11, .yes, v1 (ci x45))], [(1, .box 24 [cs a0.Name, cb a0.Keep, cb a0.Leaf, .t (.ro 12 cBlock zBlock a0.Blocks)]), (2, .box 24 [cs ByteArray.empty, cb false, cb false, .t (.ro 12 cBlock zBlock ([]))]), (3, .box 24 [cs r1.Name, cb r1.Keep, cb r1.Leaf, .own 20070]), (20070, .rows 39 12 cBlock zBlock x44)], 70⟩) (by kernel_rfl) (by kernel_rfl) (by kernel_rfl) (by kernel_rfl) rfl ?_
            let y129 : List Block := (x44.set x45.toNat (⟨(x44.getD x45.toNat zBlock).Ops, (⟨(1 : Int), (0 : Int), (0 : Int), (0 : Int), (x44.getD x45.toNat zBlock).End.To, (0 : Int), (⟨(0 : Int), (0 : Int), (0 : Int), (0 : Int), (0 : Int)⟩ : Ins)⟩ : Term)⟩ : Block))
            refine StopP.advd tbOk [(12, [(7, .obj (.rows 39 12 cBlock zBlock (x44.set x45.toNat (⟨(x44.getD x45.toNat zBlock).Ops, (⟨(1 : Int), (0 : Int), (0 : Int), (0 : Int), (x44.getD x45.toNat zBlock).End.To, (0 : Int), (⟨(0 : Int), (0 : Int), (0 : Int), (0 : Int), (0 : Int)⟩ : Ins)⟩ : Term)⟩ : Block))))])] 100000 1000 (by kernel_rfl) (by kernel_rfl) (ac_y (tn hg90) <| ac_c (Stored.mk (ty := 39) (es := 12) (enc := cBlock) (z := zBlock) (xs := x44) (i := x45.toNat) (j := 1) (n := 11) (⟨(x44.getD x45.toNat zBlock).Ops, (⟨(1 : Int), (0 : Int), (0 : Int), (0 : Int), (x44.getD x45.toNat zBlock).End.To, (0 : Int), (⟨(0 : Int), (0 : Int), (0 : Int), (0 : Int), (0 : Int)⟩ : Ins)⟩ : Term)⟩ : Block) (tn hg90) (by decide) rfl rfl rfl) <| ac_nil) ?_
            refine StopP.out .normal (by kernel_rfl) ?_
            exact WPR.chg [.keep [1, 2, 3, 10, 11] [1, 2, 3, 20070]] (by kernel_rfl) (g11_dead_Thread.l0_ok K a0 r1 k y129 (IntKind.i64.wrap (x45 + (1 : Int))) o h)
          · have h := cd_f hb128 h
            refine StopP.advd tbOk [] 100000 1000 (by kernel_rfl) (by kernel_rfl) (ac_nil) ?_
            refine StopP.out .normal (by kernel_rfl) ?_
            exact WPR.chg [.keep [1, 2, 3, 10, 11] [1, 2, 3, 20070]] (by kernel_rfl) (g11_dead_Thread.l0_ok K a0 r1 k x44 (IntKind.i64.wrap (x45 + (1 : Int))) o h)
    · have h := cd_f hb89 h
      refine StopP.advd tbOk [] 100000 1000 (by kernel_rfl) (by kernel_rfl) (ac_nil) ?_
      have h := sm h; subst h
      exact StopP.out (.exit 0) (by kernel_rfl) ⟨rfl, [.keep [2, 3] [2, 3, 20070]], by kernel_rfl⟩

def g11_dead_Thread (K : Nat) (a0 : Graph) : Option (Graph) :=
  (g23_dead_copied K a0).bind fun r1 =>
  (g11_dead_Thread.l0 K a0 r1 K r1.Blocks (0 : Int)).bind fun o130 =>
  some (⟨r1.Name, r1.Keep, r1.Leaf, o130.2⟩ : Graph)

theorem g11_dead_Thread_ok (K : Nat) (a0 : Graph) (r : Graph) (h : g11_dead_Thread K a0 = some r) : AC Try.prog 11 [] [.v true [cs a0.Name, cb a0.Keep, cb a0.Leaf, .t (.ro 12 cBlock zBlock a0.Blocks)]] [(7000, .rows 39 12 cBlock zBlock r.Blocks)] (.v true [cs r.Name, cb r.Keep, cb r.Leaf, .own 7000]) := by
  refine AC.intro (fn := Try.f11) tbOk (by kernel_rfl) rfl (by kernel_rfl) (fun W A Kf => ?_)
  obtain ⟨r1, hc1, h⟩ := bd_some h
  refine StopP.advd tbOk [(1, [(1, .call [(7000, 20070)] [(7000, .rows 39 12 cBlock zBlock r1.Blocks)] (.v true [cs r1.Name, cb r1.Keep, cb r1.Leaf, .own 7000]))])] 100000 1000 (by kernel_rfl) (by kernel_rfl) (ac_y (g23_dead_copied_ok K a0 r1 hc1) <| ac_nil) ?_
  obtain ⟨o130, ho130, h⟩ := bd_some h
  refine StopP.lp (by kernel_rfl) [.keep [1, 2, 3, 10, 11] [1, 2, 3, 20070]] (s := g11_dead_Thread.h0 a0 r1 r1.Blocks (0 : Int)) (by kernel_rfl) (c := (kid [true, true, false, true, false, false] (bodyAt Try.f11))) (by kernel_rfl) (e := (.exit 0)) (J := g11_dead_Thread.j0_0 a0 r1 o130) K (g11_dead_Thread.l0_ok K a0 r1 K r1.Blocks (0 : Int) o130 ho130) ?_
  refine StopP.advd tbOk [] 100000 1000 (by kernel_rfl) (by kernel_rfl) (ac_nil) ?_
  have h := sm h; subst h
  refine StopP.out .ret (by kernel_rfl) ?_
  exact ret_box (.inr rfl) [.keep [2] [2, 20070], .ren [(20070, 7000)]] (by kernel_rfl) (by kernel_rfl) [7000] (by kernel_rfl)

theorem g11_dead_Thread_fz (K : Nat) (a0 : Graph) (r : Graph) (h : g11_dead_Thread K a0 = some r) : AC Try.prog 11 [] [.v true [cs a0.Name, cb a0.Keep, cb a0.Leaf, .t (.ro 12 cBlock zBlock a0.Blocks)]] [] (.v true [cs r.Name, cb r.Keep, cb r.Leaf, .t (.ro 12 cBlock zBlock r.Blocks)]) :=
  AC.cast (AC.fz (g11_dead_Thread_ok K a0 r h) 7000 (o := .rows 39 12 cBlock zBlock r.Blocks) (t := .ro 12 cBlock zBlock r.Blocks) (by kernel_rfl) (by kernel_rfl)) (by kernel_rfl) (by kernel_rfl)

end Go.Proofs.Ytoooalfhjcfinaa.T
