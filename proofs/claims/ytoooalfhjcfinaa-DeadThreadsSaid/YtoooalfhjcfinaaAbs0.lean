import Derived.WalkKit
import Derived.KernelRfl
import Derived.Below
import Derived.LoopN
import Derived.Orders
import Derived.Deep.MidRow
import Derived.Laws.OwnMore
namespace Go.Abs
set_option linter.unusedVariables false
set_option linter.unusedSimpArgs false

universe u

/-- Under which condition a slot is told: always, or where p holds (else it is undefined). -/
inductive Gd where
  | yes
  | on (p : Bool)
def Gd.val : Gd → Bool
  | .yes => true
  | .on p => p

/-- What is only read: a cell's value, or a slice (nil or not) whose elements are these. -/
inductive Tree : Type 1
  | lit (v : Value)
  | ro {T : Type} (es : Nat) (enc : T → List Tree) (z : T) (xs : List T)

/-- A cell as a state tells it. -/
inductive Cell : Type 1
  | t (x : Tree)
  | own (id : Nat)
  | ptr (id i j : Nat)
  | rop (cells : List Tree)
  | clo (f : Nat) (caps : List Cell)

/-- A value in a slot. -/
inductive AT : Type 1
  | v (agg : Bool) (cells : List Cell)
  | tp (xs : List (Bool × List Cell))

/-- What the call owns: a variable, or a slice whose elements are these. -/
inductive Obj : Type 1
  | box (ty : Nat) (cells : List Cell)
  | rows {T : Type} (ty es : Nat) (enc : T → List Tree) (z : T) (xs : List T)
  | ghost (vs : List Value) (cells : List Cell)

def Obj.es : Obj → Nat
  | .box _ _ => 0
  | .rows _ es _ _ _ => es
  | .ghost _ _ => 0

/-- What a state tells: slots (with the condition under which one is told), memory that the call owns, how many slots there are. -/
structure St : Type 1 where
  env : List (Nat × Gd × AT)
  heap : List (Nat × Obj)
  n : Nat

def look {α : Type u} (t : Nat) : List (Nat × α) → Option α
  | [] => none
  | (u, x) :: r => bif Nat.beq u t then some x else look t r

def blk : Value → Option Nat
  | .slice (some a) _ _ => some a.block
  | .pointer (some a) => some a.block
  | .map r => r
  | _ => none

/-- The value v reads as the tree, in blocks outside O. -/
inductive TR (O : Nat → Prop) (w : World) : Value → Tree → Prop
  | lit (v : Value) (h : v.oneCell' = true) : TR O w v (.lit v)
  | nil {T : Type} (es : Nat) (enc : T → List Tree) (z : T) : TR O w (.slice none 0 0) (.ro es enc z [])
  | ro {T : Type} {es : Nat} {enc : T → List Tree} {z : T} {xs : List T} (a : Addr) (cap : Nat) (vals : List Value) (hcap : xs.length ≤ cap) (hmax : cap ≤ maxLen)
      (hes : ∀ x ∈ xs, (enc x).length = es) (hlen : vals.length = (xs.flatMap enc).length)
      (hcell : ∀ (k : Nat) v, vals[k]? = some v → w.cell? (a.add k) = some v) (hO : vals = [] ∨ ¬ O a.block)
      (hrel : ∀ (k : Nat) v t, vals[k]? = some v → (xs.flatMap enc)[k]? = some t → TR O w v t) : TR O w (.slice (some a) xs.length cap) (.ro es enc z xs)

theorem TR.oneCell {O : Nat → Prop} {w : World} {v : Value} {t : Tree} (h : TR O w v t) : v.oneCell' = true := by
  cases h <;> first | assumption | rfl

theorem TR.mono {O O' : Nat → Prop} {w w' : World} {v : Value} {t : Tree} (h : TR O w v t)
    (hw : ∀ b, ¬ O b → b < w.heap.size → w'.heap[b]? = w.heap[b]?) (hO : ∀ b, b < w.heap.size → O' b → O b) : TR O' w' v t := by
  induction h with
  | lit v h => exact .lit v h
  | nil => exact .nil ..
  | ro a cap vals hcap hmax hes hlen hcell hO1 hrel ih =>
    refine .ro a cap vals hcap hmax hes hlen ?_ ?_ ih
    · intro k v hk
      have hc := hcell k v hk
      have hlt := World.block_lt_of_cell? w _ hc
      have hb : (a.add k).block = a.block := by unfold Addr.add; split <;> rfl
      rw [World.cell?_of_block (w := w)]
      · exact hc
      · refine hw _ ?_ hlt
        rcases hO1 with h0 | h0
        · subst h0; simp at hk
        · rw [hb]; exact h0
    · rcases hO1 with h0 | h0
      · exact .inl h0
      · cases vals with
        | nil => exact .inl rfl
        | cons x r =>
          refine .inr fun hc => h0 (hO a.block ?_ hc)
          have hc := hcell 0 x rfl
          have hlt := World.block_lt_of_cell? w _ hc
          have hb : (a.add 0).block = a.block := by unfold Addr.add; split <;> rfl
          rwa [hb] at hlt


def TRs (O : Nat → Prop) (w : World) (vs : List Value) (ts : List Tree) : Prop :=
  vs.length = ts.length ∧ ∀ (k : Nat) v t, vs[k]? = some v → ts[k]? = some t → TR O w v t

theorem TRs.mono {O O' : Nat → Prop} {w w' : World} {vs : List Value} {ts : List Tree} (h : TRs O w vs ts)
    (hw : ∀ b, ¬ O b → b < w.heap.size → w'.heap[b]? = w.heap[b]?) (hO : ∀ b, b < w.heap.size → O' b → O b) : TRs O' w' vs ts :=
  ⟨h.1, fun k v t hv ht => (h.2 k v t hv ht).mono hw hO⟩

/-- The cell holds v: in blocks outside O, or in what the call owns under its name. -/
inductive CR (O : Nat → Prop) (ρ : Nat → Value) (H : Nat → Option Obj) (w : World) : Value → Cell → Prop
  | t {v : Value} {x : Tree} (h : TR O w v x) : CR O ρ H w v (.t x)
  | own {id : Nat} {o : Obj} (h : H id = some o) (h1 : (ρ id).oneCell' = true) : CR O ρ H w (ρ id) (.own id)
  | ownj {id : Nat} {v : Value} (h : H id = none) (h1 : v.oneCell' = true) : CR O ρ H w v (.own id)
  | ptr {id i j g : Nat} {o : Obj} (h : H id = some o) (hb : blk (ρ id) = some g) : CR O ρ H w (.pointer (some ⟨g, i * o.es + j, none⟩)) (.ptr id i j)
  | ptrj {id i j : Nat} {v : Value} (h : H id = none) (h1 : v.oneCell' = true) : CR O ρ H w v (.ptr id i j)
  | rop {cells : List Tree} (a : Addr) (vals : List Value) (hlen : vals.length = cells.length) (hcell : ∀ (k : Nat) v, vals[k]? = some v → w.cell? (a.add k) = some v)
      (hO : vals = [] ∨ ¬ O a.block) (hrel : ∀ (k : Nat) v t, vals[k]? = some v → cells[k]? = some t → TR O w v t) : CR O ρ H w (.pointer (some a)) (.rop cells)
  | clo {f : Nat} {caps : List Cell} (vals : List Value) (hlen : vals.length = caps.length)
      (hrel : ∀ (k : Nat) v c, vals[k]? = some v → caps[k]? = some c → CR O ρ H w v c) : CR O ρ H w (.func (.func f) #[] vals.toArray) (.clo f caps)

theorem CR.oneCell {O : Nat → Prop} {ρ : Nat → Value} {H : Nat → Option Obj} {w : World} {v : Value} {c : Cell} (h : CR O ρ H w v c) : v.oneCell' = true := by
  cases h <;> first | assumption | rfl | exact TR.oneCell (by assumption)

mutual
def Cell.has (id : Nat) : Cell → Bool
  | .t _ => false
  | .own i => Nat.beq i id
  | .ptr i _ _ => Nat.beq i id
  | .rop _ => false
  | .clo _ caps => hasL id caps
def hasL (id : Nat) : List Cell → Bool
  | [] => false
  | c :: r => c.has id || hasL id r
end

theorem hasL_false {id : Nat} {l : List Cell} (h : hasL id l = false) : ∀ c ∈ l, c.has id = false := by
  induction l with
  | nil => intro c hc; cases hc
  | cons x r ih =>
    simp only [hasL, Bool.or_eq_false_iff] at h
    intro c hc
    cases hc with
    | head => exact h.1
    | tail _ hm => exact ih h.2 c hm

theorem hasL_of_mem {id : Nat} {l : List Cell} {c : Cell} (hc : c ∈ l) (h : c.has id = true) : hasL id l = true := by
  cases hb : hasL id l with
  | true => rfl
  | false => rw [hasL_false hb c hc] at h; cases h

/-- The relation goes over to a later world and other names, where those that the cell names stay. -/
theorem CR.mono {O O' : Nat → Prop} {ρ ρ' : Nat → Value} {H H' : Nat → Option Obj} {w w' : World} {v : Value} {c : Cell} (h : CR O ρ H w v c)
    (hw : ∀ b, ¬ O b → b < w.heap.size → w'.heap[b]? = w.heap[b]?) (hO : ∀ b, b < w.heap.size → O' b → O b)
    (hid : ∀ id o', c.has id = true → H' id = some o' → ∃ o, H id = some o ∧ o.es = o'.es ∧ ρ' id = ρ id) : CR O' ρ' H' w' v c := by
  induction h with
  | t h => exact .t (h.mono hw hO)
  | @own id o h h1 =>
    cases hH : H' id with
    | none => exact .ownj hH h1
    | some o' =>
      obtain ⟨o2, _, _, hr⟩ := hid id o' (by simp [Cell.has, Nat.beq_refl]) hH
      rw [← hr]
      exact .own hH (by rw [hr]; exact h1)
  | @ownj id v h h1 =>
    cases hH : H' id with
    | none => exact .ownj hH h1
    | some o' =>
      obtain ⟨o2, h2, _, _⟩ := hid id o' (by simp [Cell.has, Nat.beq_refl]) hH
      rw [h] at h2; cases h2
  | @ptr id i j g o h hb =>
    cases hH : H' id with
    | none => exact .ptrj hH rfl
    | some o' =>
      obtain ⟨o2, h2, he, hr⟩ := hid id o' (by simp [Cell.has, Nat.beq_refl]) hH
      rw [h] at h2; cases h2
      rw [he]
      exact .ptr hH (by rw [hr]; exact hb)
  | @ptrj id i j v h h1 =>
    cases hH : H' id with
    | none => exact .ptrj hH h1
    | some o' =>
      obtain ⟨o2, h2, _, _⟩ := hid id o' (by simp [Cell.has, Nat.beq_refl]) hH
      rw [h] at h2; cases h2
  | rop a vals hlen hcell hO1 hrel =>
    refine .rop a vals hlen ?_ ?_ (fun k v t hv ht => (hrel k v t hv ht).mono hw hO)
    · intro k v hk
      have hc := hcell k v hk
      have hlt := World.block_lt_of_cell? w _ hc
      have hb : (a.add k).block = a.block := by unfold Addr.add; split <;> rfl
      rw [World.cell?_of_block (w := w)]
      · exact hc
      · refine hw _ ?_ hlt
        rcases hO1 with h0 | h0
        · subst h0; simp at hk
        · rw [hb]; exact h0
    · rcases hO1 with h0 | h0
      · exact .inl h0
      · cases vals with
        | nil => exact .inl rfl
        | cons x r =>
          refine .inr fun hc => h0 (hO a.block ?_ hc)
          have hc := hcell 0 x rfl
          have hlt := World.block_lt_of_cell? w _ hc
          have hb : (a.add 0).block = a.block := by unfold Addr.add; split <;> rfl
          rwa [hb] at hlt
  | @clo f caps vals hlen hrel ih =>
    refine .clo vals hlen fun k v c hv hc => ih k v c hv hc fun id o' hh => hid id o' ?_
    simp only [Cell.has]
    exact hasL_of_mem (List.mem_of_getElem? hc) hh

def CRs (O : Nat → Prop) (ρ : Nat → Value) (H : Nat → Option Obj) (w : World) (vs : List Value) (cs : List Cell) : Prop :=
  vs.length = cs.length ∧ ∀ (k : Nat) v c, vs[k]? = some v → cs[k]? = some c → CR O ρ H w v c

theorem CRs.mono {O O' : Nat → Prop} {ρ ρ' : Nat → Value} {H H' : Nat → Option Obj} {w w' : World} {vs : List Value} {cs : List Cell} (h : CRs O ρ H w vs cs)
    (hw : ∀ b, ¬ O b → b < w.heap.size → w'.heap[b]? = w.heap[b]?) (hO : ∀ b, b < w.heap.size → O' b → O b)
    (hid : ∀ id o', hasL id cs = true → H' id = some o' → ∃ o, H id = some o ∧ o.es = o'.es ∧ ρ' id = ρ id) : CRs O' ρ' H' w' vs cs :=
  ⟨h.1, fun k v c hv hc => (h.2 k v c hv hc).mono hw hO fun id o' hh => hid id o' (hasL_of_mem (List.mem_of_getElem? hc) hh)⟩

theorem CRs.nil {O : Nat → Prop} {ρ : Nat → Value} {H : Nat → Option Obj} {w : World} : CRs O ρ H w [] [] := ⟨rfl, fun k v c h => by simp at h⟩

theorem CRs.cons {O : Nat → Prop} {ρ : Nat → Value} {H : Nat → Option Obj} {w : World} {v : Value} {c : Cell} {vs : List Value} {cs : List Cell}
    (h : CR O ρ H w v c) (hs : CRs O ρ H w vs cs) : CRs O ρ H w (v :: vs) (c :: cs) := by
  refine ⟨by simp [hs.1], fun k u d hu hd => ?_⟩
  cases k with
  | zero => simp at hu hd; subst hu; subst hd; exact h
  | succ k => simp at hu hd; exact hs.2 k u d hu hd

theorem CRs.append {O : Nat → Prop} {ρ : Nat → Value} {H : Nat → Option Obj} {w : World} {vs vs' : List Value} {cs cs' : List Cell}
    (h : CRs O ρ H w vs cs) (h' : CRs O ρ H w vs' cs') : CRs O ρ H w (vs ++ vs') (cs ++ cs') := by
  induction vs generalizing cs with
  | nil =>
    have : cs = [] := by have := h.1; simp at this; exact List.length_eq_zero_iff.1 this.symm
    subst this; simpa using h'
  | cons v r ih =>
    cases cs with
    | nil => have := h.1; simp at this
    | cons c d =>
      refine CRs.cons (h.2 0 v c rfl rfl) (ih ⟨by have := h.1; simp at this; exact this, fun k u x hu hx => h.2 (k + 1) u x (by simpa using hu) (by simpa using hx)⟩)

theorem CRs.drop {O : Nat → Prop} {ρ : Nat → Value} {H : Nat → Option Obj} {w : World} {vs : List Value} {cs : List Cell}
    (h : CRs O ρ H w vs cs) (n : Nat) : CRs O ρ H w (vs.drop n) (cs.drop n) :=
  ⟨by simp [h.1], fun k v c hv hc => h.2 (n + k) v c (by simpa using hv) (by simpa using hc)⟩

theorem CRs.take {O : Nat → Prop} {ρ : Nat → Value} {H : Nat → Option Obj} {w : World} {vs : List Value} {cs : List Cell}
    (h : CRs O ρ H w vs cs) (n : Nat) : CRs O ρ H w (vs.take n) (cs.take n) := by
  refine ⟨by simp [h.1], fun k v c hv hc => ?_⟩
  rw [List.getElem?_take] at hv hc
  split at hv
  · rename_i hk; simp [hk] at hc; exact h.2 k v c hv hc
  · cases hv

theorem CRs.oneCell {O : Nat → Prop} {ρ : Nat → Value} {H : Nat → Option Obj} {w : World} {vs : List Value} {cs : List Cell}
    (h : CRs O ρ H w vs cs) : ∀ u ∈ vs, u.oneCell' = true := by
  intro u hu
  obtain ⟨k, hk⟩ := List.getElem?_of_mem hu
  have hlt := (List.getElem?_eq_some_iff.1 hk).1
  exact (h.2 k u (cs[k]'(by rw [← h.1]; exact hlt)) hk (by simp)).oneCell

theorem TRs.crs {O : Nat → Prop} {ρ : Nat → Value} {H : Nat → Option Obj} {w : World} {vs : List Value} {ts : List Tree} (h : TRs O w vs ts) : CRs O ρ H w vs (ts.map .t) :=
  ⟨by simp [h.1], fun k v c hv hc => by
    simp only [List.getElem?_map, Option.map_eq_some_iff] at hc
    obtain ⟨t, ht, rfl⟩ := hc
    exact .t (h.2 k v t hv ht)⟩

theorem CR.tr {O : Nat → Prop} {ρ : Nat → Value} {H : Nat → Option Obj} {w : World} {v : Value} {t : Tree} (h : CR O ρ H w v (.t t)) : TR O w v t := by
  cases h; assumption

theorem CRs.trs {O : Nat → Prop} {ρ : Nat → Value} {H : Nat → Option Obj} {w : World} {vs : List Value} {ts : List Tree} (h : CRs O ρ H w vs (ts.map .t)) : TRs O w vs ts :=
  ⟨by simpa using h.1, fun k v t hv ht => (h.2 k v (.t t) hv (by simp [ht])).tr⟩

/-- A value of one cell, or a struct's. -/
def VR (O : Nat → Prop) (ρ : Nat → Value) (H : Nat → Option Obj) (w : World) (v : Value) (agg : Bool) (cells : List Cell) : Prop :=
  match agg with
  | true => ∃ vs : List Value, v = .agg vs.toArray ∧ CRs O ρ H w vs cells
  | false => ∃ c, cells = [c] ∧ CR O ρ H w v c

def AR (O : Nat → Prop) (ρ : Nat → Value) (H : Nat → Option Obj) (w : World) (v : Value) : AT → Prop
  | .v agg cells => VR O ρ H w v agg cells
  | .tp xs => ∃ vs : List Value, v = .tuple vs.toArray ∧ vs.length = xs.length ∧ ∀ (k : Nat) u x, vs[k]? = some u → xs[k]? = some x → VR O ρ H w u x.1 x.2

def AT.has (id : Nat) : AT → Bool
  | .v _ cells => hasL id cells
  | .tp xs => xs.any fun x => hasL id x.2

theorem VR.mono {O O' : Nat → Prop} {ρ ρ' : Nat → Value} {H H' : Nat → Option Obj} {w w' : World} {v : Value} {b : Bool} {cs : List Cell} (h : VR O ρ H w v b cs)
    (hw : ∀ b, ¬ O b → b < w.heap.size → w'.heap[b]? = w.heap[b]?) (hO : ∀ b, b < w.heap.size → O' b → O b)
    (hid : ∀ id o', hasL id cs = true → H' id = some o' → ∃ o, H id = some o ∧ o.es = o'.es ∧ ρ' id = ρ id) : VR O' ρ' H' w' v b cs := by
  cases b with
  | true => obtain ⟨vs, rfl, h⟩ := h; exact ⟨vs, rfl, h.mono hw hO hid⟩
  | false => obtain ⟨c, rfl, h⟩ := h; exact ⟨c, rfl, h.mono hw hO fun id o' hh => hid id o' (by simp [hasL, hh])⟩

theorem AR.mono {O O' : Nat → Prop} {ρ ρ' : Nat → Value} {H H' : Nat → Option Obj} {w w' : World} {v : Value} {x : AT} (h : AR O ρ H w v x)
    (hw : ∀ b, ¬ O b → b < w.heap.size → w'.heap[b]? = w.heap[b]?) (hO : ∀ b, b < w.heap.size → O' b → O b)
    (hid : ∀ id o', x.has id = true → H' id = some o' → ∃ o, H id = some o ∧ o.es = o'.es ∧ ρ' id = ρ id) : AR O' ρ' H' w' v x := by
  cases x with
  | v agg cells => exact VR.mono h hw hO hid
  | tp xs =>
    obtain ⟨vs, rfl, hl, h⟩ := h
    refine ⟨vs, rfl, hl, fun k u x hu hx => (h k u x hu hx).mono hw hO fun id o' hh => hid id o' ?_⟩
    simp only [AT.has, List.any_eq_true]
    exact ⟨x, List.mem_of_getElem? hx, hh⟩

/-- What an owned block, or an owned slice, holds. -/
def OR (O : Nat → Prop) (ρ : Nat → Value) (H : Nat → Option Obj) (w : World) (id : Nat) : Obj → Prop
  | .box ty cells => ∃ (g : Nat) (vs : List Value), ρ id = .pointer (some ⟨g, 0, none⟩) ∧ w.heap[g]? = some (.cells vs.toArray ty (0, 0)) ∧ CRs O ρ H w vs cells
  | .rows ty es enc _ xs => ∃ vs : List Value, w.ownsRow 0 ty es (ρ id) xs.length vs ∧ (∀ x ∈ xs, (enc x).length = es) ∧ TRs O w vs (xs.flatMap enc)
  | .ghost vs cells => blk (ρ id) = none ∧ CRs O ρ H w vs cells

def Obj.has (id : Nat) : Obj → Bool
  | .box _ cells => hasL id cells
  | .rows .. => false
  | .ghost _ cells => hasL id cells

def owned (ρ : Nat → Value) (H : Nat → Option Obj) (b : Nat) : Prop := ∃ id o, H id = some o ∧ blk (ρ id) = some b

/-- Owned memory, apart, outside A. -/
structure MR (A : Nat → Prop) (ρ : Nat → Value) (H : Nat → Option Obj) (w : World) : Prop where
  obj : ∀ id o, H id = some o → OR (fun b => A b ∨ owned ρ H b) ρ H w id o
  disj : ∀ i j a b g, H i = some a → H j = some b → blk (ρ i) = some g → blk (ρ j) = some g → i = j
  av : ∀ id o g, H id = some o → blk (ρ id) = some g → ¬ A g

/-- The blocks of K are as they were. -/
structure Ext (K : Nat → Prop) (W w : World) : Prop where
  os : w.os = W.os
  tape : w.tape = W.tape
  output : w.output = W.output
  size : W.heap.size ≤ w.heap.size
  block : ∀ b, K b → w.heap[b]? = W.heap[b]?

theorem Ext.refl (K : Nat → Prop) (w : World) : Ext K w w := ⟨rfl, rfl, rfl, Nat.le_refl _, fun _ _ => rfl⟩
theorem Ext.trans {K K' : Nat → Prop} {a b c : World} (h : Ext K a b) (h' : Ext K' b c) (hk : ∀ x, K x → K' x) : Ext K a c :=
  ⟨h'.os.trans h.os, h'.tape.trans h.tape, h'.output.trans h.output, Nat.le_trans h.size h'.size, fun x hx => (h'.block x (hk x hx)).trans (h.block x hx)⟩

abbrev St.H (s : St) (id : Nat) : Option Obj := look id s.heap
abbrev St.O (s : St) (A : Nat → Prop) (ρ : Nat → Value) (b : Nat) : Prop := A b ∨ owned ρ s.H b

def St.has (id : Nat) (s : St) : Bool := s.env.any (fun x => x.2.2.has id) || s.heap.any (fun x => x.2.has id)

theorem look_mem {α : Type u} {t : Nat} {l : List (Nat × α)} {x : α} (h : look t l = some x) : (t, x) ∈ l := by
  induction l with
  | nil => cases h
  | cons y r ih =>
    obtain ⟨u, z⟩ := y
    simp only [look] at h
    cases hb : Nat.beq u t with
    | true =>
      rw [hb] at h; simp at h; subst h
      have := Nat.eq_of_beq_eq_true hb; subst this
      exact .head _
    | false => rw [hb] at h; exact .tail _ (ih h)

theorem St.has_env {s : St} {id t : Nat} {p : Gd} {x : AT} (h : look t s.env = some (p, x)) (hx : x.has id = true) : s.has id = true := by
  simp only [St.has, Bool.or_eq_true, List.any_eq_true]
  exact .inl ⟨_, look_mem h, hx⟩
theorem St.has_heap {s : St} {id k : Nat} {o : Obj} (h : s.H k = some o) (hx : o.has id = true) : s.has id = true := by
  simp only [St.has, Bool.or_eq_true, List.any_eq_true]
  exact .inr ⟨_, look_mem h, hx⟩

/-- The state tells the call's slots and memory. -/
structure Rel (W : World) (A K : Nat → Prop) (s : St) (a : Act) (w : World) (ρ : Nat → Value) : Prop where
  ext : Ext K W w
  kl : ∀ b, K b → b < W.heap.size
  al : ∀ b, A b → b < W.heap.size
  mr : MR A ρ s.H w
  low : ∀ id o g, s.H id = some o → blk (ρ id) = some g → ¬ K g ∧ g < w.heap.size
  env : ∀ t g x, look t s.env = some (g, x) → ∃ v, a.tmps[t]? = some v ∧ (g.val = true → AR (s.O A ρ) ρ s.H w v x) ∧ (g.val = false → v = undef)
  defers : a.defers = []
  size : a.tmps.size = s.n

/-- One step of memory: what is told of the names in D turns, nothing else. -/
structure Turn (s s' : St) (w w' : World) (ρ ρ' : Nat → Value) (D : Nat → Prop) : Prop where
  os : w'.os = w.os
  tape : w'.tape = w.tape
  output : w'.output = w.output
  grow : w.heap.size ≤ w'.heap.size
  block : ∀ b, b < w.heap.size → (∀ id o, D id → s.H id = some o → blk (ρ id) ≠ some b) → w'.heap[b]? = w.heap[b]?
  same : ∀ id, ¬ D id → s'.H id = s.H id ∧ ρ' id = ρ id
  place : ∀ id o g, D id → s'.H id = some o → blk (ρ' id) = some g → g < w'.heap.size ∧ (w.heap.size ≤ g ∨ ∃ id2 o2, D id2 ∧ s.H id2 = some o2 ∧ blk (ρ id2) = some g)
  apart : ∀ i j a b g, D i → D j → s'.H i = some a → s'.H j = some b → blk (ρ' i) = some g → blk (ρ' j) = some g → i = j
  names : ∀ id o', D id → s'.H id = some o' → s.has id = false ∨ ∃ o, s.H id = some o ∧ o.es = o'.es ∧ ρ' id = ρ id

section
variable {W : World} {A K : Nat → Prop} {s s' : St} {a : Act} {w w' : World} {ρ ρ' : Nat → Value} {D : Nat → Prop}

theorem Turn.hw (h : Turn s s' w w' ρ ρ' D) : ∀ b, ¬ s.O A ρ b → b < w.heap.size → w'.heap[b]? = w.heap[b]? :=
  fun b hb hl => h.block b hl fun id o _ ho hk => hb (.inr ⟨id, o, ho, hk⟩)

theorem Turn.hO (h : Turn s s' w w' ρ ρ' D) : ∀ b, b < w.heap.size → s'.O A ρ' b → s.O A ρ b := by
  rintro b hl (hA | ⟨id, o, ho, hk⟩)
  · exact .inl hA
  · by_cases hD : D id
    · rcases (h.place id o b hD ho hk).2 with hge | ⟨id2, o2, _, h2, hk2⟩
      · omega
      · exact .inr ⟨id2, o2, h2, hk2⟩
    · obtain ⟨e1, e2⟩ := h.same id hD
      exact .inr ⟨id, o, e1 ▸ ho, e2 ▸ hk⟩

theorem Turn.hid (h : Turn s s' w w' ρ ρ' D) {id : Nat} {o' : Obj} (hs : s.has id = true) (ho : s'.H id = some o') : ∃ o, s.H id = some o ∧ o.es = o'.es ∧ ρ' id = ρ id := by
  by_cases hD : D id
  · rcases h.names id o' hD ho with hn | hn
    · rw [hs] at hn; cases hn
    · exact hn
  · obtain ⟨e1, e2⟩ := h.same id hD
    exact ⟨o', e1 ▸ ho, rfl, e2⟩

theorem Turn.ar (h : Turn s s' w w' ρ ρ' D) {v : Value} {x : AT} (hx : ∀ id, x.has id = true → s.has id = true) (hr : AR (s.O A ρ) ρ s.H w v x) : AR (s'.O A ρ') ρ' s'.H w' v x :=
  hr.mono h.hw h.hO fun id _ hh ho => h.hid (hx id hh) ho

theorem Turn.crs (h : Turn s s' w w' ρ ρ' D) {vs : List Value} {cs : List Cell} (hx : ∀ id, hasL id cs = true → s.has id = true) (hr : CRs (s.O A ρ) ρ s.H w vs cs) : CRs (s'.O A ρ') ρ' s'.H w' vs cs :=
  hr.mono h.hw h.hO fun id _ hh ho => h.hid (hx id hh) ho

theorem Turn.trs (h : Turn s s' w w' ρ ρ' D) {vs : List Value} {ts : List Tree} (hr : TRs (s.O A ρ) w vs ts) : TRs (s'.O A ρ') w' vs ts := hr.mono h.hw h.hO

theorem ownsRow_block {w w' : World} {e sz n : Nat} {v : Value} {vs : List Value} (h : w.ownsRow 0 e sz v n vs) (hb : ∀ g, blk v = some g → w'.heap[g]? = w.heap[g]?) : w'.ownsRow 0 e sz v n vs := by
  obtain ⟨h1, h2⟩ := h
  refine ⟨h1, ?_⟩
  rcases h2 with h2 | ⟨g, cap, cur, rfl, hg, hh, r⟩
  · exact .inl h2
  · exact .inr ⟨g, cap, cur, rfl, hg, by rw [hb g rfl]; exact hh, r⟩

theorem Rel.turn (h : Rel W A K s a w ρ) (t : Turn s s' w w' ρ ρ' D) (henv : s'.env = s.env) (hn : s'.n = s.n)
    (ho : ∀ id o, D id → s'.H id = some o → OR (s'.O A ρ') ρ' s'.H w' id o) : Rel W A K s' a w' ρ' := by
  have hK : ∀ id o g, s'.H id = some o → blk (ρ' id) = some g → ¬ K g ∧ ¬ A g ∧ g < w'.heap.size := by
    intro id o g hi hk
    by_cases hD : D id
    · obtain ⟨hl, hg | ⟨id2, o2, _, h2, hk2⟩⟩ := t.place id o g hD hi hk
      · have := h.ext.size
        exact ⟨fun hk => by have := h.kl g hk; omega, fun hk => by have := h.al g hk; omega, hl⟩
      · exact ⟨(h.low id2 o2 g h2 hk2).1, h.mr.av id2 o2 g h2 hk2, hl⟩
    · obtain ⟨e1, e2⟩ := t.same id hD
      rw [e1] at hi; rw [e2] at hk
      have := h.low id o g hi hk
      exact ⟨this.1, h.mr.av id o g hi hk, by have := t.grow; omega⟩
  refine ⟨⟨t.os.trans h.ext.os, t.tape.trans h.ext.tape, t.output.trans h.ext.output, Nat.le_trans h.ext.size t.grow, fun b hb => ?_⟩, h.kl, h.al, ⟨?_, ?_, fun id o g hi hk => (hK id o g hi hk).2.1⟩,
    fun id o g hi hk => ⟨(hK id o g hi hk).1, (hK id o g hi hk).2.2⟩, ?_, h.defers, h.size.trans hn.symm⟩
  · rw [t.block b (Nat.lt_of_lt_of_le (h.kl b hb) h.ext.size) (fun id o _ hi hk => (h.low id o b hi hk).1 hb)]
    exact h.ext.block b hb
  · intro id o hi
    by_cases hD : D id
    · exact ho id o hD hi
    · obtain ⟨e1, e2⟩ := t.same id hD
      have hi' : s.H id = some o := e1 ▸ hi
      have hor := h.mr.obj id o hi'
      have hsame : ∀ g, blk (ρ id) = some g → w'.heap[g]? = w.heap[g]? := fun g hg =>
        t.block g (h.low id o g hi' hg).2 fun id2 o2 hD2 h2 hk2 => hD (h.mr.disj id id2 o o2 g hi' h2 hg hk2 ▸ hD2)
      cases o with
      | box ty cells =>
        obtain ⟨g, vs, hp, hg, hc⟩ := hor
        refine ⟨g, vs, e2.trans hp, ?_, t.crs (fun i hi2 => St.has_heap hi' hi2) hc⟩
        rw [hsame g (by rw [hp]; rfl)]; exact hg
      | rows ty es enc z xs =>
        obtain ⟨vs, hown, hes, hc⟩ := hor
        exact ⟨vs, by rw [e2]; exact ownsRow_block hown hsame, hes, t.trs hc⟩
      | ghost vs cells => exact ⟨by rw [e2]; exact hor.1, t.crs (fun i hi2 => St.has_heap hi' hi2) hor.2⟩
  · intro i j x y g hi hj hbi hbj
    by_cases hDi : D i
    · by_cases hDj : D j
      · exact t.apart i j x y g hDi hDj hi hj hbi hbj
      · obtain ⟨e1, e2⟩ := t.same j hDj
        rw [e1] at hj; rw [e2] at hbj
        rcases (t.place i x g hDi hi hbi).2 with hge | ⟨id2, o2, hD2, h2, hk2⟩
        · have := (h.low j y g hj hbj).2; omega
        · exact absurd (h.mr.disj id2 j o2 y g h2 hj hk2 hbj ▸ hD2) hDj
    · obtain ⟨e1, e2⟩ := t.same i hDi
      rw [e1] at hi; rw [e2] at hbi
      by_cases hDj : D j
      · rcases (t.place j y g hDj hj hbj).2 with hge | ⟨id2, o2, hD2, h2, hk2⟩
        · have := (h.low i x g hi hbi).2; omega
        · exact absurd (h.mr.disj id2 i o2 x g h2 hi hk2 hbi ▸ hD2) hDi
      · obtain ⟨e3, e4⟩ := t.same j hDj
        rw [e3] at hj; rw [e4] at hbj
        exact h.mr.disj i j x y g hi hj hbi hbj
  · intro tt p x hl
    rw [henv] at hl
    obtain ⟨v, hv, hr, hu⟩ := h.env tt p x hl
    exact ⟨v, hv, fun hp => t.ar (fun id hh => St.has_env hl hh) (hr hp), hu⟩

/-- A slot is written. -/
def St.put (s : St) (d : Option Nat) (g : Gd) (x : AT) : St :=
  match d with
  | some d => { s with env := (d, g, x) :: s.env }
  | none => s

theorem Rel.put (h : Rel W A K s a w ρ) {d : Option Nat} {g : Gd} {x : AT} {v : Value} (hd : ∀ k, d = some k → k < s.n) (hv : g.val = true → AR (s.O A ρ) ρ s.H w v x) (hu : g.val = false → v = undef) :
    Rel W A K (s.put d g x) (a.put d v) w ρ := by
  cases d with
  | none => exact h
  | some d =>
    refine ⟨h.ext, h.kl, h.al, h.mr, h.low, ?_, h.defers, by simpa [Act.put, St.put] using h.size⟩
    intro t q y hl
    have hlt : d < a.tmps.size := by rw [h.size]; exact hd d rfl
    simp only [St.put, look] at hl
    cases hb : Nat.beq d t with
    | true =>
      rw [hb] at hl; simp at hl
      obtain ⟨rfl, rfl⟩ := hl
      have := Nat.eq_of_beq_eq_true hb; subst this
      exact ⟨v, by simp [Act.put, hlt], hv, hu⟩
    | false =>
      rw [hb] at hl
      obtain ⟨u, hu2, hr⟩ := h.env t q y hl
      have hne : d ≠ t := fun e => by subst e; rw [Nat.beq_refl] at hb; cases hb
      exact ⟨u, by simp [Act.put, Array.getElem?_setIfInBounds_ne hne, hu2], hr⟩

end

end Go.Abs
