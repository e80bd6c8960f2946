import Derived.Test.YtoooalfhjcfinaaTy
namespace Go.Abs
set_option linter.unusedVariables false

/-! ### What the printed texts use -/
def gd {α : Type} (p : Prop) [Decidable p] (x : Option α) : Option α := if p then x else none
theorem gd_some {α : Type} {p : Prop} [Decidable p] {x : Option α} {r : α} (h : gd p x = some r) : p ∧ x = some r := by
  unfold gd at h; split at h
  · exact ⟨‹p›, h⟩
  · cases h
theorem bd_some {α β : Type} {x : Option β} {f : β → Option α} {r : α} (h : Option.bind x f = some r) : ∃ b, x = some b ∧ f b = some r := Option.bind_eq_some_iff.1 h
theorem cd_t {α : Type} {b : Bool} {x y : Option α} {r : Option α} (hb : b = true) (h : (bif b then x else y) = r) : x = r := by subst hb; exact h
theorem cd_f {α : Type} {b : Bool} {x y : Option α} {r : Option α} (hb : b = false) (h : (bif b then x else y) = r) : y = r := by subst hb; exact h
theorem sm {α : Type} {a b : α} (h : some a = some b) : a = b := by injection h

theorem ac_nil : AllC [] := trivial
theorem ac_c {p : Prop} {l : List Prop} (h : p) (t : AllC l) : AllC (p :: l) := ⟨h, t⟩
theorem ac_y {p : Prop} {l : List Prop} (h : p) (t : AllC l) : AllC ((Gd.val .yes = true → p) :: l) := ⟨fun _ => h, t⟩
theorem ac_on (c : Bool) {p : Prop} {l : List Prop} (h : c = true → p) (t : AllC l) : AllC ((Gd.val (.on c) = true → p) :: l) := ⟨h, t⟩
theorem and_l {a b : Bool} (h : (a && b) = true) : a = true := by cases a <;> simp_all
theorem pt (b : Bool) : b = true → b = true := fun h => h
theorem pn (b : Bool) : b = false → (!b) = true := fun h => by subst h; rfl
theorem ptg {p : Bool} (b : Bool) (hp : p = true) : b = true → (p && b) = true := fun h => by subst h; subst hp; rfl
theorem png {p : Bool} (b : Bool) (hp : p = true) : b = false → (p && !b) = true := fun h => by subst h; subst hp; rfl
theorem nt {b : Bool} (h : b = false) : (!b) = true := by subst h; rfl
theorem nf {b : Bool} (h : b = true) : (!b) = false := by subst h; rfl
theorem tn {n : Int} {m : Nat} (h : 0 ≤ n ∧ n < m) : n.toNat < m := by omega

theorem plain_one {id : Nat} {o : Obj} {res : AT} (hp : PlainO o) (hr : plainA res = true) : Plain [(id, o)] res := by
  refine ⟨hr, fun x hx => ?_⟩
  rw [List.mem_singleton] at hx; subst hx; exact hp
theorem plain_rows {T : Type} {ty es : Nat} {enc : T → List Tree} {z : T} {xs : List T} (h : ∀ x, (enc x).all Tree.isLit = true) : PlainO (.rows ty es enc z xs) :=
  fun x _ t ht => List.all_eq_true.1 (h x) t ht

def kid : List Bool → Code → Code
  | [], c => c
  | b :: r, .seq x y => kid r (bif b then y else x)
  | b :: r, .cond _ x y => kid r (bif b then y else x)
  | _ :: r, .loop c => kid r c
  | _ :: r, .block _ c => kid r c
  | _, c => c

abbrev ci (n : Int) : Cell := .t (.lit (.int .i64 n))
abbrev cu (k : IntKind) (n : Int) : Cell := .t (.lit (.int k n))
abbrev cb (b : Bool) : Cell := .t (.lit (.bool b))
abbrev cs (b : ByteArray) : Cell := .t (.lit (.string b))
abbrev cn : Cell := .t (.lit (.slice none 0 0))
abbrev v1 (c : Cell) : AT := .v false [c]
abbrev va (l : List Tree) : AT := .v true (l.map Cell.t)
def eI (n : Int) : List Tree := [.lit (.int .i64 n)]
def eB (n : Bool) : List Tree := [.lit (.bool n)]
def eU16 (n : Int) : List Tree := [.lit (.int .u16 n)]

theorem AC.roNil {P : Program} {f : FuncId} {T : Type} {es : Nat} {enc : T → List Tree} {z : T} {xs : List T} {H' : List (Nat × Obj)} {res : AT}
    (hA : ∀ x r, xs = x :: r → AC P f [] [v1 (.t (.ro es enc z xs))] H' res) (hB : xs = [] → AC P f [] [v1 cn] H' res) (hC : xs = [] → ∀ a c, AC P f [] [v1 (.t (.lit (.slice (some a) 0 c)))] H' res) :
    AC P f [] [v1 (.t (.ro es enc z xs))] H' res := by
  intro W A ρ vs hA0 hmr hlow hargs
  cases xs with
  | cons x r => exact hA x r rfl W A ρ vs hA0 hmr hlow hargs
  | nil =>
    obtain ⟨hl, hr⟩ := hargs
    match vs, hl with
    | [v], _ =>
      obtain ⟨c, hc, hv⟩ := hr 0 v _ rfl rfl
      simp at hc; subst hc
      have one : ∀ {x : AT} {v : Value}, AR (fun b => A b ∨ owned ρ (look · ([] : List (Nat × Obj))) b) ρ (look · ([] : List (Nat × Obj))) W v x → ARs (fun b => A b ∨ owned ρ (look · ([] : List (Nat × Obj))) b) ρ (look · ([] : List (Nat × Obj))) W [v] [x] := by
        intro x v h
        refine ⟨rfl, fun k u y hu hy => ?_⟩
        cases k with
        | zero => simp at hu hy; subst hu; subst hy; exact h
        | succ k => simp at hu
      have ht := hv.tr
      cases ht with
      | nil => exact hB rfl W A ρ _ hA0 hmr hlow (one ⟨_, rfl, .t (.lit _ rfl)⟩)
      | ro a cap => exact hC rfl a cap W A ρ _ hA0 hmr hlow (one ⟨_, rfl, .t (.lit _ rfl)⟩)

def chgSt (l : List Chg) (s : St) : St := (chgs l s).getD ⟨[], [], 0⟩

section
variable {P : Program} {W : World} {A K : Nat → Prop}

theorem StopP.lp {R : Exit → St → Prop} {st : Stop} (hl : isLoop st = true) (l : List Chg) {s : St} (hs : chgs l (stateOf st) = some s) {c : Code} (hc : bodyOf st = c) {e : Exit} {J : St} (n : Nat) (h : WPR P W A K c (Out e J) n s)
    (h2 : StopP P W A K R (leave (restOf st) e J)) : StopP P W A K R st := by
  subst hc; exact StopP.loop hl l hs n h h2

theorem StopP.bl {R : Exit → St → Prop} {st : Stop} (ha : isAt st = true) (l : List Chg) {s : St} (hs : chgs l (stateOf st) = some s) {c : Code} (hc : codeOf st = c) {e : Exit} {J : St} (h : StopP P W A K (Out e J) (.at c [] s))
    (h2 : StopP P W A K R (leave (restOf st) e J)) : StopP P W A K R st := by
  subst hc
  cases st with
  | out e s => cases ha
  | «at» c k s0 =>
    intro a w ρ hr
    obtain ⟨ρ', hr'⟩ := hr.chgs hs
    exact out_weaken h h2 a w ρ' hr'

/-- The same place, told by its path in the code. -/
theorem StopP.reb (l : List Chg) {R : Exit → St → Prop} {st st' : Stop} (hs : chgs l (stateOf st) = some (stateOf st')) (hc : codeOf st = codeOf st') (hk : restOf st = restOf st') (ha : isAt st = true) (ha' : isAt st' = true) (h : StopP P W A K R st') : StopP P W A K R st := by
  cases st' with
  | out => cases ha'
  | «at» c' k' s' =>
    cases st with
    | out => cases ha
    | «at» c k s =>
      simp only [codeOf, restOf, stateOf] at hc hk hs
      subst hc; subst hk
      exact fun a w ρ hr => let ⟨ρ', hr'⟩ := hr.chgs hs; h a w ρ' hr'

theorem StopP.condK {R : Exit → St → Prop} {st : Stop} {b : Bool} (h : b = true) (hb : boolOf st = some b) (ht : StopP P W A K R (thenOf st)) : StopP P W A K R st :=
  StopP.cond hb (fun _ => ht) (fun h' => by rw [h] at h'; cases h')
theorem StopP.condKF {R : Exit → St → Prop} {st : Stop} {b : Bool} (h : b = false) (hb : boolOf st = some b) (ht : StopP P W A K R (elseOf st)) : StopP P W A K R st :=
  StopP.cond hb (fun h' => by rw [h] at h'; cases h') (fun _ => ht)

theorem StopP.chgS (l : List Chg) {R : Exit → St → Prop} {st : Stop} (h1 : (chgs l (stateOf st)).isSome = true) (ha : isAt st = true) (h : StopP P W A K R (withSt (chgSt l (stateOf st)) st)) : StopP P W A K R st := by
  obtain ⟨s2, h2⟩ := Option.isSome_iff_exists.1 h1
  refine StopP.chg l h2 ?_ ha
  have : chgSt l (stateOf st) = s2 := by simp [chgSt, h2]
  rw [this] at h; exact h

/-- One of two ways out. -/
def Out2 {α β : Type} (r : α ⊕ β) (e1 : Exit) (J1 : α → St) (e2 : Exit) (J2 : β → St) : Exit → St → Prop :=
  match r with
  | .inl a => Out e1 (J1 a)
  | .inr b => Out e2 (J2 b)

theorem AC.cast {f : FuncId} {H : List (Nat × Obj)} {args : List AT} {H1 H2 : List (Nat × Obj)} {r1 r2 : AT} (h : AC P f H args H1 r1) (hH : H1 = H2) (hr : r1 = r2) : AC P f H args H2 r2 := by subst hH; subst hr; exact h

theorem ret_box {tb : Tab} {fn : Func} {H' : List (Nat × Obj)} {res : AT} {e : Exit} {s' : St} (he : e = .normal ∨ e = .ret) (l : List Chg) (h1 : (chgs l s').isSome = true) (h2 : resOf tb (chgSt l s') fn.results.toList = some res) (ids : List Nat)
    (h3 : pick ids (chgSt l s').heap = H') : Ret tb fn H' res e s' := by
  obtain ⟨s2, h⟩ := Option.isSome_iff_exists.1 h1
  have hc : chgSt l s' = s2 := by simp [chgSt, h]
  rw [hc] at h2 h3
  exact ⟨he, l, s2, ids, h, h2, h3⟩

theorem ret2_box {tb : Tab} {fn : Func} {gid : Nat} {vs : List Value} {args : List Cell} {H' : List (Nat × Obj)} {res : AT} {e : Exit} {s' : St} (he : e = .normal ∨ e = .ret) (l : List Chg) (h1 : (chgs l s').isSome = true) (h2 : resOf tb (chgSt l s') fn.results.toList = some res) (ids : List Nat)
    (h3 : pick ids (chgSt l s').heap = H') (h4 : look gid (chgSt l s').heap = some (.ghost vs args)) : Ret2 tb fn gid vs args H' res e s' := by
  obtain ⟨s2, h⟩ := Option.isSome_iff_exists.1 h1
  have hc : chgSt l s' = s2 := by simp [chgSt, h]
  rw [hc] at h2 h3 h4
  exact ⟨he, l, s2, ids, h, h2, h3, h4⟩

theorem sl {n : Nat} (h : n ≤ 1073741824) : n ≤ maxLen := by simp only [maxLen]; omega
theorem sb {n b : Nat} (h : n ≤ 1073741824) (hb : b ≤ 131072) : n * b ≤ 140737488355328 := Nat.le_trans (Nat.mul_le_mul h hb) (by decide)
theorem sb2 {n b : Nat} (h : n ≤ 1073741824) (hb : b ≤ 131072) : b * n ≤ 281474976710656 := Nat.le_trans (Nat.mul_le_mul hb h) (by decide)
theorem se {n e : Nat} (h : n ≤ 1024) (he : e ≤ 1024) : n * e ≤ 16777216 := Nat.le_trans (Nat.mul_le_mul h he) (by decide)
end
end Go.Abs
