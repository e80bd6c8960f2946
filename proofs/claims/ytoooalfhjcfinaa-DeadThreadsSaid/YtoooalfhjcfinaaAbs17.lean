import Derived.Test.YtoooalfhjcfinaaAbs15
import Derived.Orders
namespace Go.Abs
set_option linter.unusedVariables false
set_option linter.unusedSimpArgs false
variable {P : Program}

/-! ### What a step looks at -/
def quietP (hi : Hint) : Op → Bool
  | .alloc _ | .box .. | .store .. | .makeSlice .. | .buildSlice .. => false
  | .call c => match hi with
    | .call _ [] _ => true
    | .call _ _ _ => false
    | .callM .. => false
    | _ => match c.callee with
      | .builtin .len => true
      | _ => false
  | _ => true

def quietO (hi : Hint) (o : Op) : Bool :=
  match hi with
  | .fz _ => false
  | .callM .. => false
  | hi => quietP hi o

def newIds (hi : Hint) (dst : Option Nat) : List Nat :=
  match hi with
  | .call names H' _ => H'.map fun x => nameOf names x.1
  | .callM _ kept names H' _ => (H'.filter fun x => !memL x.1 kept).map fun x => nameOf names x.1
  | _ => dst.toList

section
variable {e e' : List (Nat × Gd × AT)} {H : List (Nat × Obj)} {n : Nat}

theorem fillA_congr {fs : List (Nat × Nat × Bool)} {g : Gd} : ∀ {l : List (Nat × Operand)} {cs : List Cell}, (∀ p ∈ l, opT ⟨e, H, n⟩ p.2 = opT ⟨e', H, n⟩ p.2) → fillA fs ⟨e, H, n⟩ g l cs = fillA fs ⟨e', H, n⟩ g l cs
  | [], _, _ => rfl
  | (k, x) :: r, cs, h => by
    have h0 : opT ⟨e, H, n⟩ x = opT ⟨e', H, n⟩ x := h (k, x) (by simp)
    have ih : ∀ cs, fillA fs ⟨e, H, n⟩ g r cs = fillA fs ⟨e', H, n⟩ g r cs := fun cs => fillA_congr fun p hp => h p (by simp [hp])
    simp only [fillA, h0, ih]

theorem elemsA_congr {es : Nat} {g : Gd} : ∀ {l : List (Nat × Operand)} {i : Nat}, (∀ p ∈ l, opT ⟨e, H, n⟩ p.2 = opT ⟨e', H, n⟩ p.2) → elemsA ⟨e, H, n⟩ g es i l = elemsA ⟨e', H, n⟩ g es i l
  | [], _, _ => rfl
  | (k, x) :: r, i, h => by
    simp only [elemsA]
    rw [h (k, x) (by simp), elemsA_congr fun p hp => h p (by simp [hp])]

theorem capsA_congr {g : Gd} : ∀ {l : List Operand}, (∀ p ∈ l, opT ⟨e, H, n⟩ p = opT ⟨e', H, n⟩ p) → capsA ⟨e, H, n⟩ g l = capsA ⟨e', H, n⟩ g l
  | [], _ => rfl
  | x :: r, h => by
    simp only [capsA]
    rw [h x (by simp), capsA_congr fun p hp => h p (by simp [hp])]

theorem viewL_congr : ∀ {l : List Cell}, viewL ⟨e, H, n⟩ l = viewL ⟨e', H, n⟩ l
  | [] => rfl
  | c :: r => by
    simp only [viewL]
    rw [viewL_congr (l := r)]
    have : viewC ⟨e, H, n⟩ c = viewC ⟨e', H, n⟩ c := by cases c <;> rfl
    rw [this]

theorem argsV_congr {g : Gd} : ∀ {l : List Operand}, (∀ p ∈ l, opT ⟨e, H, n⟩ p = opT ⟨e', H, n⟩ p) → argsV ⟨e, H, n⟩ g l = argsV ⟨e', H, n⟩ g l
  | [], _ => rfl
  | x :: r, h => by
    simp only [argsV]
    rw [h x (by simp), argsV_congr fun p hp => h p (by simp [hp])]
    simp only [viewL_congr (e := e) (e' := e')]

theorem freshB_congr {names : List (Nat × Nat)} {H' : List (Nat × Obj)} (h : ∀ x ∈ H', St.has (nameOf names x.1) ⟨e, H, n⟩ = St.has (nameOf names x.1) ⟨e', H, n⟩) : freshB names H' ⟨e, H, n⟩ = freshB names H' ⟨e', H, n⟩ := by
  unfold freshB
  congr 1
  induction H' with
  | nil => rfl
  | cons x r ih => simp only [List.all_cons]; rw [h x (by simp), ih fun y hy => h y (by simp [hy])]

theorem callStep_congr {tb : Tab} {names : List (Nat × Nat)} {H' : List (Nat × Obj)} {res : AT} {g : Gd} {o : Op} (hx : ∀ x ∈ o.operands, opT ⟨e, H, n⟩ x = opT ⟨e', H, n⟩ x)
    (hd : ∀ x ∈ H', St.has (nameOf names x.1) ⟨e, H, n⟩ = St.has (nameOf names x.1) ⟨e', H, n⟩) : callStep P tb names H' res ⟨e, H, n⟩ g o = callStep P tb names H' res ⟨e', H, n⟩ g o := by
  cases o <;> try rfl
  case call c =>
    simp only [callStep]
    cases hc : c.callee <;> try rfl
    case value fo =>
      simp only
      rw [hx fo (by simp [Op.operands, Call.operands, hc]), argsV_congr fun x hm => hx x (by simp [Op.operands, Call.operands, hc]; exact .inr (by simpa using hm)), freshB_congr hd]

theorem freshM_congr {names : List (Nat × Nat)} {kept : List Nat} {Hc H' : List (Nat × Obj)} {args : List Cell} (h : ∀ x ∈ H', memL x.1 kept = false → St.has (nameOf names x.1) ⟨e, H, n⟩ = St.has (nameOf names x.1) ⟨e', H, n⟩) :
    freshM names kept Hc H' args ⟨e, H, n⟩ = freshM names kept Hc H' args ⟨e', H, n⟩ := by
  unfold freshM
  rw [Bool.eq_iff_iff, List.all_eq_true, List.all_eq_true]
  refine forall_congr' fun x => forall_congr' fun hx => ?_
  cases hk : memL x.1 kept with
  | true => exact Iff.rfl
  | false => rw [h x hx hk]

theorem callStepM_congr {tb : Tab} {ids kept : List Nat} {names : List (Nat × Nat)} {H' : List (Nat × Obj)} {res : AT} {g : Gd} {o : Op} (hx : ∀ x ∈ o.operands, opT ⟨e, H, n⟩ x = opT ⟨e', H, n⟩ x)
    (hd : ∀ x ∈ H', memL x.1 kept = false → St.has (nameOf names x.1) ⟨e, H, n⟩ = St.has (nameOf names x.1) ⟨e', H, n⟩) : callStepM P tb ids kept names H' res ⟨e, H, n⟩ g o = callStepM P tb ids kept names H' res ⟨e', H, n⟩ g o := by
  cases g <;> try rfl
  cases o <;> try rfl
  case call c =>
    simp only [callStepM]
    cases hc : c.callee <;> try rfl
    case value fo =>
      simp only
      rw [hx fo (by simp [Op.operands, Call.operands, hc]), capsA_congr fun x hm => hx x (by simp [Op.operands, Call.operands, hc]; exact .inr (by simpa using hm))]
      simp only [freshM_congr hd]

theorem step_congr {tb : Tab} {hi : Hint} {g : Gd} {dst : Option Nat} {o : Op} (hx : ∀ x ∈ o.operands, opT ⟨e, H, n⟩ x = opT ⟨e', H, n⟩ x)
    (hd : quietO .no o = true ∨ ∀ d, dst = some d → St.has d ⟨e, H, n⟩ = St.has d ⟨e', H, n⟩) : step tb hi ⟨e, H, n⟩ g dst o = step tb hi ⟨e', H, n⟩ g dst o := by
  cases o <;> try rfl
  case move x => simp only [step]; rw [hx x (by simp [Op.operands])]
  case assign x => simp only [step]; rw [hx x (by simp [Op.operands])]
  case pick c x y => simp only [step]; rw [hx x (by simp [Op.operands]), hx y (by simp [Op.operands]), hx c (by simp [Op.operands])]
  case alloc t =>
    simp only [step]
    cases dst with
    | none => rfl
    | some d =>
      have hd' := (hd.resolve_left (by simp [quietO, quietP])) d rfl
      repeat' split
      all_goals simp_all
  case box t x =>
    simp only [step]
    rw [hx x (by simp [Op.operands])]
    cases dst with
    | none => rfl
    | some d =>
      have hd' := (hd.resolve_left (by simp [quietO, quietP])) d rfl
      repeat' split
      all_goals simp_all
  case load t x => simp only [step]; rw [hx x (by simp [Op.operands])]; first | done | rfl
  case store t x y => simp only [step]; rw [hx x (by simp [Op.operands]), hx y (by simp [Op.operands])]; first | done | rfl
  case nilCheck x => simp only [step]; rw [hx x (by simp [Op.operands])]; first | done | rfl
  case binOp op t x y u => simp only [step]; rw [hx x (by simp [Op.operands]), hx y (by simp [Op.operands])]
  case unOp op t x => simp only [step]; rw [hx x (by simp [Op.operands])]
  case convert u t x => simp only [step]; rw [hx x (by simp [Op.operands])]
  case makeFunc fo first caps =>
    cases fo <;> try rfl
    simp only [step]
    rw [capsA_congr fun x hm => hx x (by simp [Op.operands]; exact .inr (by simpa using hm))]
  case makeSlice t l c =>
    simp only [step]
    rw [hx l (by simp [Op.operands]), hx c (by simp [Op.operands])]
    cases dst with
    | none => rfl
    | some d =>
      have hd' := (hd.resolve_left (by simp [quietO, quietP])) d rfl
      repeat' split
      all_goals simp_all
  case fieldAddr t x k => simp only [step]; rw [hx x (by simp [Op.operands])]; first | done | rfl
  case field t x k => simp only [step]; rw [hx x (by simp [Op.operands])]
  case indexAddr t x i => simp only [step]; rw [hx x (by simp [Op.operands]), hx i (by simp [Op.operands])]; first | done | rfl
  case build t parts =>
    have hf : ∀ fs cs, fillA fs ⟨e, H, n⟩ g parts.toList cs = fillA fs ⟨e', H, n⟩ g parts.toList cs := fun fs cs => fillA_congr fun p hm => hx p.2 (by simp [Op.operands]; exact ⟨p.1, by simpa using hm⟩)
    simp only [step, hf]
  case buildSlice t len parts =>
    simp only [step]
    have : ∀ g es, elemsA ⟨e, H, n⟩ g es 0 parts.toList = elemsA ⟨e', H, n⟩ g es 0 parts.toList := fun g es => elemsA_congr fun p hm => hx p.2 (by simp [Op.operands]; exact ⟨p.1, by simpa using hm⟩)
    simp only [this]
    cases dst with
    | none => rfl
    | some d =>
      have hd' := (hd.resolve_left (by simp [quietO, quietP])) d rfl
      repeat' split
      all_goals simp_all
  case slice t x lo hi mx =>
    have h1 := hx x (by simp [Op.operands])
    cases lo with
    | none =>
      cases hi with
      | none => simp only [step, h1]
      | some u => simp only [step, h1, hx u (by simp [Op.operands])]
    | some l =>
      cases hi with
      | none => simp only [step, h1, hx l (by simp [Op.operands])]
      | some u => simp only [step, h1, hx l (by simp [Op.operands]), hx u (by simp [Op.operands])]
  case extract x k => simp only [step]; rw [hx x (by simp [Op.operands])]
  case call c =>
    have ha : ∀ x ∈ c.args.toList, opT ⟨e, H, n⟩ x = opT ⟨e', H, n⟩ x := fun x hm => hx x (by simp [Op.operands, Call.operands]; exact .inr (by simpa using hm))
    simp only [step]
    split
    · rename_i h1 h2 h3
      rw [ha _ (by rw [h2]; simp)]
      rfl
    · rename_i h1 h2 h3
      rw [ha _ (by rw [h2]; simp)]
      rename_i x y _ _
      rw [ha y (by rw [h2]; simp)]
      cases dst with
      | none => rfl
      | some d =>
        have hd' := (hd.resolve_left (by simp [quietO, quietP, h1])) d rfl
        have hH : ∀ id, St.H ⟨e, H, n⟩ id = St.H ⟨e', H, n⟩ id := fun _ => rfl
        have hT : ∀ c, elemsT ⟨e, H, n⟩ c = elemsT ⟨e', H, n⟩ c := fun c => by cases c <;> rfl
        simp only [hT, hH]
        repeat' split
        all_goals simp_all
    · rfl
end
end Go.Abs
