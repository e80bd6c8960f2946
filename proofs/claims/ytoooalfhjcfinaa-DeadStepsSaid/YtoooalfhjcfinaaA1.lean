/- A part of the proofs of this seat: what functions of the program compute, and what follows from it; without conditions. -/
import Derived.WalkKit
import Derived.KernelRfl
import Derived.Below
import Derived.LoopN
import Derived.Orders
import Derived.Deep.MidRow
import Derived.Laws.OwnMore

namespace Go.Abs
set_option linter.unusedVariables false
set_option linter.unusedSimpArgs false

universe u

/-- Under which condition a slot is told: always, or where p holds (else it is undefined). -/
inductive Gd where
  | yes
  | on (p : Bool)
def Gd.val : Gd → Bool
  | .yes => true
  | .on p => p

/-- What is only read: a cell's value, or a slice (nil or not) whose elements are these. -/
inductive Tree : Type 1
  | lit (v : Value)
  | ro {T : Type} (es : Nat) (enc : T → List Tree) (z : T) (xs : List T)

/-- A cell as a state tells it. -/
inductive Cell : Type 1
  | t (x : Tree)
  | own (id : Nat)
  | ptr (id i j : Nat)
  | rop (cells : List Tree)
  | clo (f : Nat) (caps : List Cell)

/-- A value in a slot. -/
inductive AT : Type 1
  | v (agg : Bool) (cells : List Cell)
  | tp (xs : List (Bool × List Cell))

/-- What the call owns: a variable, or a slice whose elements are these. -/
inductive Obj : Type 1
  | box (ty : Nat) (cells : List Cell)
  | rows {T : Type} (ty es : Nat) (enc : T → List Tree) (z : T) (xs : List T)
  | ghost (vs : List Value) (cells : List Cell)

def Obj.es : Obj → Nat
  | .box _ _ => 0
  | .rows _ es _ _ _ => es
  | .ghost _ _ => 0

/-- What a state tells: slots (with the condition under which one is told), memory that the call owns, how many slots there are. -/
structure St : Type 1 where
  env : List (Nat × Gd × AT)
  heap : List (Nat × Obj)
  n : Nat

def look {α : Type u} (t : Nat) : List (Nat × α) → Option α
  | [] => none
  | (u, x) :: r => bif Nat.beq u t then some x else look t r

def blk : Value → Option Nat
  | .slice (some a) _ _ => some a.block
  | .pointer (some a) => some a.block
  | .map r => r
  | _ => none

/-- The value v reads as the tree, in blocks outside O. -/
inductive TR (O : Nat → Prop) (w : World) : Value → Tree → Prop
  | lit (v : Value) (h : v.oneCell' = true) : TR O w v (.lit v)
  | nil {T : Type} (es : Nat) (enc : T → List Tree) (z : T) : TR O w (.slice none 0 0) (.ro es enc z [])
  | ro {T : Type} {es : Nat} {enc : T → List Tree} {z : T} {xs : List T} (a : Addr) (cap : Nat) (vals : List Value) (hcap : xs.length ≤ cap) (hmax : cap ≤ maxLen)
      (hes : ∀ x ∈ xs, (enc x).length = es) (hlen : vals.length = (xs.flatMap enc).length)
      (hcell : ∀ (k : Nat) v, vals[k]? = some v → w.cell? (a.add k) = some v) (hO : vals = [] ∨ ¬ O a.block)
      (hrel : ∀ (k : Nat) v t, vals[k]? = some v → (xs.flatMap enc)[k]? = some t → TR O w v t) : TR O w (.slice (some a) xs.length cap) (.ro es enc z xs)

theorem TR.oneCell {O : Nat → Prop} {w : World} {v : Value} {t : Tree} (h : TR O w v t) : v.oneCell' = true := by
  cases h <;> first | assumption | rfl

theorem TR.mono {O O' : Nat → Prop} {w w' : World} {v : Value} {t : Tree} (h : TR O w v t)
    (hw : ∀ b, ¬ O b → b < w.heap.size → w'.heap[b]? = w.heap[b]?) (hO : ∀ b, b < w.heap.size → O' b → O b) : TR O' w' v t := by
  induction h with
  | lit v h => exact .lit v h
  | nil => exact .nil ..
  | ro a cap vals hcap hmax hes hlen hcell hO1 hrel ih =>
    refine .ro a cap vals hcap hmax hes hlen ?_ ?_ ih
    · intro k v hk
      have hc := hcell k v hk
      have hlt := World.block_lt_of_cell? w _ hc
      have hb : (a.add k).block = a.block := by unfold Addr.add; split <;> rfl
      rw [World.cell?_of_block (w := w)]
      · exact hc
      · refine hw _ ?_ hlt
        rcases hO1 with h0 | h0
        · subst h0; simp at hk
        · rw [hb]; exact h0
    · rcases hO1 with h0 | h0
      · exact .inl h0
      · cases vals with
        | nil => exact .inl rfl
        | cons x r =>
          refine .inr fun hc => h0 (hO a.block ?_ hc)
          have hc := hcell 0 x rfl
          have hlt := World.block_lt_of_cell? w _ hc
          have hb : (a.add 0).block = a.block := by unfold Addr.add; split <;> rfl
          rwa [hb] at hlt


def TRs (O : Nat → Prop) (w : World) (vs : List Value) (ts : List Tree) : Prop :=
  vs.length = ts.length ∧ ∀ (k : Nat) v t, vs[k]? = some v → ts[k]? = some t → TR O w v t

theorem TRs.mono {O O' : Nat → Prop} {w w' : World} {vs : List Value} {ts : List Tree} (h : TRs O w vs ts)
    (hw : ∀ b, ¬ O b → b < w.heap.size → w'.heap[b]? = w.heap[b]?) (hO : ∀ b, b < w.heap.size → O' b → O b) : TRs O' w' vs ts :=
  ⟨h.1, fun k v t hv ht => (h.2 k v t hv ht).mono hw hO⟩

/-- The cell holds v: in blocks outside O, or in what the call owns under its name. -/
inductive CR (O : Nat → Prop) (ρ : Nat → Value) (H : Nat → Option Obj) (w : World) : Value → Cell → Prop
  | t {v : Value} {x : Tree} (h : TR O w v x) : CR O ρ H w v (.t x)
  | own {id : Nat} {o : Obj} (h : H id = some o) (h1 : (ρ id).oneCell' = true) : CR O ρ H w (ρ id) (.own id)
  | ownj {id : Nat} {v : Value} (h : H id = none) (h1 : v.oneCell' = true) : CR O ρ H w v (.own id)
  | ptr {id i j g : Nat} {o : Obj} (h : H id = some o) (hb : blk (ρ id) = some g) : CR O ρ H w (.pointer (some ⟨g, i * o.es + j, none⟩)) (.ptr id i j)
  | ptrj {id i j : Nat} {v : Value} (h : H id = none) (h1 : v.oneCell' = true) : CR O ρ H w v (.ptr id i j)
  | rop {cells : List Tree} (a : Addr) (vals : List Value) (hlen : vals.length = cells.length) (hcell : ∀ (k : Nat) v, vals[k]? = some v → w.cell? (a.add k) = some v)
      (hO : vals = [] ∨ ¬ O a.block) (hrel : ∀ (k : Nat) v t, vals[k]? = some v → cells[k]? = some t → TR O w v t) : CR O ρ H w (.pointer (some a)) (.rop cells)
  | clo {f : Nat} {caps : List Cell} (vals : List Value) (hlen : vals.length = caps.length)
      (hrel : ∀ (k : Nat) v c, vals[k]? = some v → caps[k]? = some c → CR O ρ H w v c) : CR O ρ H w (.func (.func f) #[] vals.toArray) (.clo f caps)

theorem CR.oneCell {O : Nat → Prop} {ρ : Nat → Value} {H : Nat → Option Obj} {w : World} {v : Value} {c : Cell} (h : CR O ρ H w v c) : v.oneCell' = true := by
  cases h <;> first | assumption | rfl | exact TR.oneCell (by assumption)

mutual
def Cell.has (id : Nat) : Cell → Bool
  | .t _ => false
  | .own i => Nat.beq i id
  | .ptr i _ _ => Nat.beq i id
  | .rop _ => false
  | .clo _ caps => hasL id caps
def hasL (id : Nat) : List Cell → Bool
  | [] => false
  | c :: r => c.has id || hasL id r
end

theorem hasL_false {id : Nat} {l : List Cell} (h : hasL id l = false) : ∀ c ∈ l, c.has id = false := by
  induction l with
  | nil => intro c hc; cases hc
  | cons x r ih =>
    simp only [hasL, Bool.or_eq_false_iff] at h
    intro c hc
    cases hc with
    | head => exact h.1
    | tail _ hm => exact ih h.2 c hm

theorem hasL_of_mem {id : Nat} {l : List Cell} {c : Cell} (hc : c ∈ l) (h : c.has id = true) : hasL id l = true := by
  cases hb : hasL id l with
  | true => rfl
  | false => rw [hasL_false hb c hc] at h; cases h

/-- The relation goes over to a later world and other names, where those that the cell names stay. -/
theorem CR.mono {O O' : Nat → Prop} {ρ ρ' : Nat → Value} {H H' : Nat → Option Obj} {w w' : World} {v : Value} {c : Cell} (h : CR O ρ H w v c)
    (hw : ∀ b, ¬ O b → b < w.heap.size → w'.heap[b]? = w.heap[b]?) (hO : ∀ b, b < w.heap.size → O' b → O b)
    (hid : ∀ id o', c.has id = true → H' id = some o' → ∃ o, H id = some o ∧ o.es = o'.es ∧ ρ' id = ρ id) : CR O' ρ' H' w' v c := by
  induction h with
  | t h => exact .t (h.mono hw hO)
  | @own id o h h1 =>
    cases hH : H' id with
    | none => exact .ownj hH h1
    | some o' =>
      obtain ⟨o2, _, _, hr⟩ := hid id o' (by simp [Cell.has, Nat.beq_refl]) hH
      rw [← hr]
      exact .own hH (by rw [hr]; exact h1)
  | @ownj id v h h1 =>
    cases hH : H' id with
    | none => exact .ownj hH h1
    | some o' =>
      obtain ⟨o2, h2, _, _⟩ := hid id o' (by simp [Cell.has, Nat.beq_refl]) hH
      rw [h] at h2; cases h2
  | @ptr id i j g o h hb =>
    cases hH : H' id with
    | none => exact .ptrj hH rfl
    | some o' =>
      obtain ⟨o2, h2, he, hr⟩ := hid id o' (by simp [Cell.has, Nat.beq_refl]) hH
      rw [h] at h2; cases h2
      rw [he]
      exact .ptr hH (by rw [hr]; exact hb)
  | @ptrj id i j v h h1 =>
    cases hH : H' id with
    | none => exact .ptrj hH h1
    | some o' =>
      obtain ⟨o2, h2, _, _⟩ := hid id o' (by simp [Cell.has, Nat.beq_refl]) hH
      rw [h] at h2; cases h2
  | rop a vals hlen hcell hO1 hrel =>
    refine .rop a vals hlen ?_ ?_ (fun k v t hv ht => (hrel k v t hv ht).mono hw hO)
    · intro k v hk
      have hc := hcell k v hk
      have hlt := World.block_lt_of_cell? w _ hc
      have hb : (a.add k).block = a.block := by unfold Addr.add; split <;> rfl
      rw [World.cell?_of_block (w := w)]
      · exact hc
      · refine hw _ ?_ hlt
        rcases hO1 with h0 | h0
        · subst h0; simp at hk
        · rw [hb]; exact h0
    · rcases hO1 with h0 | h0
      · exact .inl h0
      · cases vals with
        | nil => exact .inl rfl
        | cons x r =>
          refine .inr fun hc => h0 (hO a.block ?_ hc)
          have hc := hcell 0 x rfl
          have hlt := World.block_lt_of_cell? w _ hc
          have hb : (a.add 0).block = a.block := by unfold Addr.add; split <;> rfl
          rwa [hb] at hlt
  | @clo f caps vals hlen hrel ih =>
    refine .clo vals hlen fun k v c hv hc => ih k v c hv hc fun id o' hh => hid id o' ?_
    simp only [Cell.has]
    exact hasL_of_mem (List.mem_of_getElem? hc) hh

def CRs (O : Nat → Prop) (ρ : Nat → Value) (H : Nat → Option Obj) (w : World) (vs : List Value) (cs : List Cell) : Prop :=
  vs.length = cs.length ∧ ∀ (k : Nat) v c, vs[k]? = some v → cs[k]? = some c → CR O ρ H w v c

theorem CRs.mono {O O' : Nat → Prop} {ρ ρ' : Nat → Value} {H H' : Nat → Option Obj} {w w' : World} {vs : List Value} {cs : List Cell} (h : CRs O ρ H w vs cs)
    (hw : ∀ b, ¬ O b → b < w.heap.size → w'.heap[b]? = w.heap[b]?) (hO : ∀ b, b < w.heap.size → O' b → O b)
    (hid : ∀ id o', hasL id cs = true → H' id = some o' → ∃ o, H id = some o ∧ o.es = o'.es ∧ ρ' id = ρ id) : CRs O' ρ' H' w' vs cs :=
  ⟨h.1, fun k v c hv hc => (h.2 k v c hv hc).mono hw hO fun id o' hh => hid id o' (hasL_of_mem (List.mem_of_getElem? hc) hh)⟩

theorem CRs.nil {O : Nat → Prop} {ρ : Nat → Value} {H : Nat → Option Obj} {w : World} : CRs O ρ H w [] [] := ⟨rfl, fun k v c h => by simp at h⟩

theorem CRs.cons {O : Nat → Prop} {ρ : Nat → Value} {H : Nat → Option Obj} {w : World} {v : Value} {c : Cell} {vs : List Value} {cs : List Cell}
    (h : CR O ρ H w v c) (hs : CRs O ρ H w vs cs) : CRs O ρ H w (v :: vs) (c :: cs) := by
  refine ⟨by simp [hs.1], fun k u d hu hd => ?_⟩
  cases k with
  | zero => simp at hu hd; subst hu; subst hd; exact h
  | succ k => simp at hu hd; exact hs.2 k u d hu hd

theorem CRs.append {O : Nat → Prop} {ρ : Nat → Value} {H : Nat → Option Obj} {w : World} {vs vs' : List Value} {cs cs' : List Cell}
    (h : CRs O ρ H w vs cs) (h' : CRs O ρ H w vs' cs') : CRs O ρ H w (vs ++ vs') (cs ++ cs') := by
  induction vs generalizing cs with
  | nil =>
    have : cs = [] := by have := h.1; simp at this; exact List.length_eq_zero_iff.1 this.symm
    subst this; simpa using h'
  | cons v r ih =>
    cases cs with
    | nil => have := h.1; simp at this
    | cons c d =>
      refine CRs.cons (h.2 0 v c rfl rfl) (ih ⟨by have := h.1; simp at this; exact this, fun k u x hu hx => h.2 (k + 1) u x (by simpa using hu) (by simpa using hx)⟩)

theorem CRs.drop {O : Nat → Prop} {ρ : Nat → Value} {H : Nat → Option Obj} {w : World} {vs : List Value} {cs : List Cell}
    (h : CRs O ρ H w vs cs) (n : Nat) : CRs O ρ H w (vs.drop n) (cs.drop n) :=
  ⟨by simp [h.1], fun k v c hv hc => h.2 (n + k) v c (by simpa using hv) (by simpa using hc)⟩

theorem CRs.take {O : Nat → Prop} {ρ : Nat → Value} {H : Nat → Option Obj} {w : World} {vs : List Value} {cs : List Cell}
    (h : CRs O ρ H w vs cs) (n : Nat) : CRs O ρ H w (vs.take n) (cs.take n) := by
  refine ⟨by simp [h.1], fun k v c hv hc => ?_⟩
  rw [List.getElem?_take] at hv hc
  split at hv
  · rename_i hk; simp [hk] at hc; exact h.2 k v c hv hc
  · cases hv

theorem CRs.oneCell {O : Nat → Prop} {ρ : Nat → Value} {H : Nat → Option Obj} {w : World} {vs : List Value} {cs : List Cell}
    (h : CRs O ρ H w vs cs) : ∀ u ∈ vs, u.oneCell' = true := by
  intro u hu
  obtain ⟨k, hk⟩ := List.getElem?_of_mem hu
  have hlt := (List.getElem?_eq_some_iff.1 hk).1
  exact (h.2 k u (cs[k]'(by rw [← h.1]; exact hlt)) hk (by simp)).oneCell

theorem TRs.crs {O : Nat → Prop} {ρ : Nat → Value} {H : Nat → Option Obj} {w : World} {vs : List Value} {ts : List Tree} (h : TRs O w vs ts) : CRs O ρ H w vs (ts.map .t) :=
  ⟨by simp [h.1], fun k v c hv hc => by
    simp only [List.getElem?_map, Option.map_eq_some_iff] at hc
    obtain ⟨t, ht, rfl⟩ := hc
    exact .t (h.2 k v t hv ht)⟩

theorem CR.tr {O : Nat → Prop} {ρ : Nat → Value} {H : Nat → Option Obj} {w : World} {v : Value} {t : Tree} (h : CR O ρ H w v (.t t)) : TR O w v t := by
  cases h; assumption

theorem CRs.trs {O : Nat → Prop} {ρ : Nat → Value} {H : Nat → Option Obj} {w : World} {vs : List Value} {ts : List Tree} (h : CRs O ρ H w vs (ts.map .t)) : TRs O w vs ts :=
  ⟨by simpa using h.1, fun k v t hv ht => (h.2 k v (.t t) hv (by simp [ht])).tr⟩

/-- A value of one cell, or a struct's. -/
def VR (O : Nat → Prop) (ρ : Nat → Value) (H : Nat → Option Obj) (w : World) (v : Value) (agg : Bool) (cells : List Cell) : Prop :=
  match agg with
  | true => ∃ vs : List Value, v = .agg vs.toArray ∧ CRs O ρ H w vs cells
  | false => ∃ c, cells = [c] ∧ CR O ρ H w v c

def AR (O : Nat → Prop) (ρ : Nat → Value) (H : Nat → Option Obj) (w : World) (v : Value) : AT → Prop
  | .v agg cells => VR O ρ H w v agg cells
  | .tp xs => ∃ vs : List Value, v = .tuple vs.toArray ∧ vs.length = xs.length ∧ ∀ (k : Nat) u x, vs[k]? = some u → xs[k]? = some x → VR O ρ H w u x.1 x.2

def AT.has (id : Nat) : AT → Bool
  | .v _ cells => hasL id cells
  | .tp xs => xs.any fun x => hasL id x.2

theorem VR.mono {O O' : Nat → Prop} {ρ ρ' : Nat → Value} {H H' : Nat → Option Obj} {w w' : World} {v : Value} {b : Bool} {cs : List Cell} (h : VR O ρ H w v b cs)
    (hw : ∀ b, ¬ O b → b < w.heap.size → w'.heap[b]? = w.heap[b]?) (hO : ∀ b, b < w.heap.size → O' b → O b)
    (hid : ∀ id o', hasL id cs = true → H' id = some o' → ∃ o, H id = some o ∧ o.es = o'.es ∧ ρ' id = ρ id) : VR O' ρ' H' w' v b cs := by
  cases b with
  | true => obtain ⟨vs, rfl, h⟩ := h; exact ⟨vs, rfl, h.mono hw hO hid⟩
  | false => obtain ⟨c, rfl, h⟩ := h; exact ⟨c, rfl, h.mono hw hO fun id o' hh => hid id o' (by simp [hasL, hh])⟩

theorem AR.mono {O O' : Nat → Prop} {ρ ρ' : Nat → Value} {H H' : Nat → Option Obj} {w w' : World} {v : Value} {x : AT} (h : AR O ρ H w v x)
    (hw : ∀ b, ¬ O b → b < w.heap.size → w'.heap[b]? = w.heap[b]?) (hO : ∀ b, b < w.heap.size → O' b → O b)
    (hid : ∀ id o', x.has id = true → H' id = some o' → ∃ o, H id = some o ∧ o.es = o'.es ∧ ρ' id = ρ id) : AR O' ρ' H' w' v x := by
  cases x with
  | v agg cells => exact VR.mono h hw hO hid
  | tp xs =>
    obtain ⟨vs, rfl, hl, h⟩ := h
    refine ⟨vs, rfl, hl, fun k u x hu hx => (h k u x hu hx).mono hw hO fun id o' hh => hid id o' ?_⟩
    simp only [AT.has, List.any_eq_true]
    exact ⟨x, List.mem_of_getElem? hx, hh⟩

/-- What an owned block, or an owned slice, holds. -/
def OR (O : Nat → Prop) (ρ : Nat → Value) (H : Nat → Option Obj) (w : World) (id : Nat) : Obj → Prop
  | .box ty cells => ∃ (g : Nat) (vs : List Value), ρ id = .pointer (some ⟨g, 0, none⟩) ∧ w.heap[g]? = some (.cells vs.toArray ty (0, 0)) ∧ CRs O ρ H w vs cells
  | .rows ty es enc _ xs => ∃ vs : List Value, w.ownsRow 0 ty es (ρ id) xs.length vs ∧ (∀ x ∈ xs, (enc x).length = es) ∧ TRs O w vs (xs.flatMap enc)
  | .ghost vs cells => blk (ρ id) = none ∧ CRs O ρ H w vs cells

def Obj.has (id : Nat) : Obj → Bool
  | .box _ cells => hasL id cells
  | .rows .. => false
  | .ghost _ cells => hasL id cells

def owned (ρ : Nat → Value) (H : Nat → Option Obj) (b : Nat) : Prop := ∃ id o, H id = some o ∧ blk (ρ id) = some b

/-- Owned memory, apart, outside A. -/
structure MR (A : Nat → Prop) (ρ : Nat → Value) (H : Nat → Option Obj) (w : World) : Prop where
  obj : ∀ id o, H id = some o → OR (fun b => A b ∨ owned ρ H b) ρ H w id o
  disj : ∀ i j a b g, H i = some a → H j = some b → blk (ρ i) = some g → blk (ρ j) = some g → i = j
  av : ∀ id o g, H id = some o → blk (ρ id) = some g → ¬ A g

/-- The blocks of K are as they were. -/
structure Ext (K : Nat → Prop) (W w : World) : Prop where
  os : w.os = W.os
  tape : w.tape = W.tape
  output : w.output = W.output
  size : W.heap.size ≤ w.heap.size
  block : ∀ b, K b → w.heap[b]? = W.heap[b]?

theorem Ext.refl (K : Nat → Prop) (w : World) : Ext K w w := ⟨rfl, rfl, rfl, Nat.le_refl _, fun _ _ => rfl⟩
theorem Ext.trans {K K' : Nat → Prop} {a b c : World} (h : Ext K a b) (h' : Ext K' b c) (hk : ∀ x, K x → K' x) : Ext K a c :=
  ⟨h'.os.trans h.os, h'.tape.trans h.tape, h'.output.trans h.output, Nat.le_trans h.size h'.size, fun x hx => (h'.block x (hk x hx)).trans (h.block x hx)⟩

abbrev St.H (s : St) (id : Nat) : Option Obj := look id s.heap
abbrev St.O (s : St) (A : Nat → Prop) (ρ : Nat → Value) (b : Nat) : Prop := A b ∨ owned ρ s.H b

def St.has (id : Nat) (s : St) : Bool := s.env.any (fun x => x.2.2.has id) || s.heap.any (fun x => x.2.has id)

theorem look_mem {α : Type u} {t : Nat} {l : List (Nat × α)} {x : α} (h : look t l = some x) : (t, x) ∈ l := by
  induction l with
  | nil => cases h
  | cons y r ih =>
    obtain ⟨u, z⟩ := y
    simp only [look] at h
    cases hb : Nat.beq u t with
    | true =>
      rw [hb] at h; simp at h; subst h
      have := Nat.eq_of_beq_eq_true hb; subst this
      exact .head _
    | false => rw [hb] at h; exact .tail _ (ih h)

theorem St.has_env {s : St} {id t : Nat} {p : Gd} {x : AT} (h : look t s.env = some (p, x)) (hx : x.has id = true) : s.has id = true := by
  simp only [St.has, Bool.or_eq_true, List.any_eq_true]
  exact .inl ⟨_, look_mem h, hx⟩
theorem St.has_heap {s : St} {id k : Nat} {o : Obj} (h : s.H k = some o) (hx : o.has id = true) : s.has id = true := by
  simp only [St.has, Bool.or_eq_true, List.any_eq_true]
  exact .inr ⟨_, look_mem h, hx⟩

/-- The state tells the call's slots and memory. -/
structure Rel (W : World) (A K : Nat → Prop) (s : St) (a : Act) (w : World) (ρ : Nat → Value) : Prop where
  ext : Ext K W w
  kl : ∀ b, K b → b < W.heap.size
  al : ∀ b, A b → b < W.heap.size
  mr : MR A ρ s.H w
  low : ∀ id o g, s.H id = some o → blk (ρ id) = some g → ¬ K g ∧ g < w.heap.size
  env : ∀ t g x, look t s.env = some (g, x) → ∃ v, a.tmps[t]? = some v ∧ (g.val = true → AR (s.O A ρ) ρ s.H w v x) ∧ (g.val = false → v = undef)
  defers : a.defers = []
  size : a.tmps.size = s.n

/-- One step of memory: what is told of the names in D turns, nothing else. -/
structure Turn (s s' : St) (w w' : World) (ρ ρ' : Nat → Value) (D : Nat → Prop) : Prop where
  os : w'.os = w.os
  tape : w'.tape = w.tape
  output : w'.output = w.output
  grow : w.heap.size ≤ w'.heap.size
  block : ∀ b, b < w.heap.size → (∀ id o, D id → s.H id = some o → blk (ρ id) ≠ some b) → w'.heap[b]? = w.heap[b]?
  same : ∀ id, ¬ D id → s'.H id = s.H id ∧ ρ' id = ρ id
  place : ∀ id o g, D id → s'.H id = some o → blk (ρ' id) = some g → g < w'.heap.size ∧ (w.heap.size ≤ g ∨ ∃ id2 o2, D id2 ∧ s.H id2 = some o2 ∧ blk (ρ id2) = some g)
  apart : ∀ i j a b g, D i → D j → s'.H i = some a → s'.H j = some b → blk (ρ' i) = some g → blk (ρ' j) = some g → i = j
  names : ∀ id o', D id → s'.H id = some o' → s.has id = false ∨ ∃ o, s.H id = some o ∧ o.es = o'.es ∧ ρ' id = ρ id

section
variable {W : World} {A K : Nat → Prop} {s s' : St} {a : Act} {w w' : World} {ρ ρ' : Nat → Value} {D : Nat → Prop}

theorem Turn.hw (h : Turn s s' w w' ρ ρ' D) : ∀ b, ¬ s.O A ρ b → b < w.heap.size → w'.heap[b]? = w.heap[b]? :=
  fun b hb hl => h.block b hl fun id o _ ho hk => hb (.inr ⟨id, o, ho, hk⟩)

theorem Turn.hO (h : Turn s s' w w' ρ ρ' D) : ∀ b, b < w.heap.size → s'.O A ρ' b → s.O A ρ b := by
  rintro b hl (hA | ⟨id, o, ho, hk⟩)
  · exact .inl hA
  · by_cases hD : D id
    · rcases (h.place id o b hD ho hk).2 with hge | ⟨id2, o2, _, h2, hk2⟩
      · omega
      · exact .inr ⟨id2, o2, h2, hk2⟩
    · obtain ⟨e1, e2⟩ := h.same id hD
      exact .inr ⟨id, o, e1 ▸ ho, e2 ▸ hk⟩

theorem Turn.hid (h : Turn s s' w w' ρ ρ' D) {id : Nat} {o' : Obj} (hs : s.has id = true) (ho : s'.H id = some o') : ∃ o, s.H id = some o ∧ o.es = o'.es ∧ ρ' id = ρ id := by
  by_cases hD : D id
  · rcases h.names id o' hD ho with hn | hn
    · rw [hs] at hn; cases hn
    · exact hn
  · obtain ⟨e1, e2⟩ := h.same id hD
    exact ⟨o', e1 ▸ ho, rfl, e2⟩

theorem Turn.ar (h : Turn s s' w w' ρ ρ' D) {v : Value} {x : AT} (hx : ∀ id, x.has id = true → s.has id = true) (hr : AR (s.O A ρ) ρ s.H w v x) : AR (s'.O A ρ') ρ' s'.H w' v x :=
  hr.mono h.hw h.hO fun id _ hh ho => h.hid (hx id hh) ho

theorem Turn.crs (h : Turn s s' w w' ρ ρ' D) {vs : List Value} {cs : List Cell} (hx : ∀ id, hasL id cs = true → s.has id = true) (hr : CRs (s.O A ρ) ρ s.H w vs cs) : CRs (s'.O A ρ') ρ' s'.H w' vs cs :=
  hr.mono h.hw h.hO fun id _ hh ho => h.hid (hx id hh) ho

theorem Turn.trs (h : Turn s s' w w' ρ ρ' D) {vs : List Value} {ts : List Tree} (hr : TRs (s.O A ρ) w vs ts) : TRs (s'.O A ρ') w' vs ts := hr.mono h.hw h.hO

theorem ownsRow_block {w w' : World} {e sz n : Nat} {v : Value} {vs : List Value} (h : w.ownsRow 0 e sz v n vs) (hb : ∀ g, blk v = some g → w'.heap[g]? = w.heap[g]?) : w'.ownsRow 0 e sz v n vs := by
  obtain ⟨h1, h2⟩ := h
  refine ⟨h1, ?_⟩
  rcases h2 with h2 | ⟨g, cap, cur, rfl, hg, hh, r⟩
  · exact .inl h2
  · exact .inr ⟨g, cap, cur, rfl, hg, by rw [hb g rfl]; exact hh, r⟩

theorem Rel.turn (h : Rel W A K s a w ρ) (t : Turn s s' w w' ρ ρ' D) (henv : s'.env = s.env) (hn : s'.n = s.n)
    (ho : ∀ id o, D id → s'.H id = some o → OR (s'.O A ρ') ρ' s'.H w' id o) : Rel W A K s' a w' ρ' := by
  have hK : ∀ id o g, s'.H id = some o → blk (ρ' id) = some g → ¬ K g ∧ ¬ A g ∧ g < w'.heap.size := by
    intro id o g hi hk
    by_cases hD : D id
    · obtain ⟨hl, hg | ⟨id2, o2, _, h2, hk2⟩⟩ := t.place id o g hD hi hk
      · have := h.ext.size
        exact ⟨fun hk => by have := h.kl g hk; omega, fun hk => by have := h.al g hk; omega, hl⟩
      · exact ⟨(h.low id2 o2 g h2 hk2).1, h.mr.av id2 o2 g h2 hk2, hl⟩
    · obtain ⟨e1, e2⟩ := t.same id hD
      rw [e1] at hi; rw [e2] at hk
      have := h.low id o g hi hk
      exact ⟨this.1, h.mr.av id o g hi hk, by have := t.grow; omega⟩
  refine ⟨⟨t.os.trans h.ext.os, t.tape.trans h.ext.tape, t.output.trans h.ext.output, Nat.le_trans h.ext.size t.grow, fun b hb => ?_⟩, h.kl, h.al, ⟨?_, ?_, fun id o g hi hk => (hK id o g hi hk).2.1⟩,
    fun id o g hi hk => ⟨(hK id o g hi hk).1, (hK id o g hi hk).2.2⟩, ?_, h.defers, h.size.trans hn.symm⟩
  · rw [t.block b (Nat.lt_of_lt_of_le (h.kl b hb) h.ext.size) (fun id o _ hi hk => (h.low id o b hi hk).1 hb)]
    exact h.ext.block b hb
  · intro id o hi
    by_cases hD : D id
    · exact ho id o hD hi
    · obtain ⟨e1, e2⟩ := t.same id hD
      have hi' : s.H id = some o := e1 ▸ hi
      have hor := h.mr.obj id o hi'
      have hsame : ∀ g, blk (ρ id) = some g → w'.heap[g]? = w.heap[g]? := fun g hg =>
        t.block g (h.low id o g hi' hg).2 fun id2 o2 hD2 h2 hk2 => hD (h.mr.disj id id2 o o2 g hi' h2 hg hk2 ▸ hD2)
      cases o with
      | box ty cells =>
        obtain ⟨g, vs, hp, hg, hc⟩ := hor
        refine ⟨g, vs, e2.trans hp, ?_, t.crs (fun i hi2 => St.has_heap hi' hi2) hc⟩
        rw [hsame g (by rw [hp]; rfl)]; exact hg
      | rows ty es enc z xs =>
        obtain ⟨vs, hown, hes, hc⟩ := hor
        exact ⟨vs, by rw [e2]; exact ownsRow_block hown hsame, hes, t.trs hc⟩
      | ghost vs cells => exact ⟨by rw [e2]; exact hor.1, t.crs (fun i hi2 => St.has_heap hi' hi2) hor.2⟩
  · intro i j x y g hi hj hbi hbj
    by_cases hDi : D i
    · by_cases hDj : D j
      · exact t.apart i j x y g hDi hDj hi hj hbi hbj
      · obtain ⟨e1, e2⟩ := t.same j hDj
        rw [e1] at hj; rw [e2] at hbj
        rcases (t.place i x g hDi hi hbi).2 with hge | ⟨id2, o2, hD2, h2, hk2⟩
        · have := (h.low j y g hj hbj).2; omega
        · exact absurd (h.mr.disj id2 j o2 y g h2 hj hk2 hbj ▸ hD2) hDj
    · obtain ⟨e1, e2⟩ := t.same i hDi
      rw [e1] at hi; rw [e2] at hbi
      by_cases hDj : D j
      · rcases (t.place j y g hDj hj hbj).2 with hge | ⟨id2, o2, hD2, h2, hk2⟩
        · have := (h.low i x g hi hbi).2; omega
        · exact absurd (h.mr.disj id2 i o2 x g h2 hi hk2 hbi ▸ hD2) hDi
      · obtain ⟨e3, e4⟩ := t.same j hDj
        rw [e3] at hj; rw [e4] at hbj
        exact h.mr.disj i j x y g hi hj hbi hbj
  · intro tt p x hl
    rw [henv] at hl
    obtain ⟨v, hv, hr, hu⟩ := h.env tt p x hl
    exact ⟨v, hv, fun hp => t.ar (fun id hh => St.has_env hl hh) (hr hp), hu⟩

/-- A slot is written. -/
def St.put (s : St) (d : Option Nat) (g : Gd) (x : AT) : St :=
  match d with
  | some d => { s with env := (d, g, x) :: s.env }
  | none => s

theorem Rel.put (h : Rel W A K s a w ρ) {d : Option Nat} {g : Gd} {x : AT} {v : Value} (hd : ∀ k, d = some k → k < s.n) (hv : g.val = true → AR (s.O A ρ) ρ s.H w v x) (hu : g.val = false → v = undef) :
    Rel W A K (s.put d g x) (a.put d v) w ρ := by
  cases d with
  | none => exact h
  | some d =>
    refine ⟨h.ext, h.kl, h.al, h.mr, h.low, ?_, h.defers, by simpa [Act.put, St.put] using h.size⟩
    intro t q y hl
    have hlt : d < a.tmps.size := by rw [h.size]; exact hd d rfl
    simp only [St.put, look] at hl
    cases hb : Nat.beq d t with
    | true =>
      rw [hb] at hl; simp at hl
      obtain ⟨rfl, rfl⟩ := hl
      have := Nat.eq_of_beq_eq_true hb; subst this
      exact ⟨v, by simp [Act.put, hlt], hv, hu⟩
    | false =>
      rw [hb] at hl
      obtain ⟨u, hu2, hr⟩ := h.env t q y hl
      have hne : d ≠ t := fun e => by subst e; rw [Nat.beq_refl] at hb; cases hb
      exact ⟨u, by simp [Act.put, Array.getElem?_setIfInBounds_ne hne, hu2], hr⟩

end

end Go.Abs

namespace Go.Abs
set_option linter.unusedVariables false
set_option linter.unusedSimpArgs false
variable {P : Program}

/-- A type's size in cells, and whether it is a struct or an array. -/
def lay (P : Program) (t : TypeId) : Option (Nat × Bool) :=
  match P.info? t, P.underlying t with
  | some i, some d => some (i.size, d.isRow)
  | _, _ => none

theorem lay_spec {t : TypeId} {n : Nat} {b : Bool} (h : lay P t = some (n, b)) : ∃ i d, P.info? t = some i ∧ P.underlying t = some d ∧ i.size = n ∧ d.isRow = b := by
  unfold lay at h
  split at h
  · rename_i i d hi hd
    simp only [Option.some.injEq, Prod.mk.injEq] at h
    exact ⟨i, d, hi, hd, h.1, h.2⟩
  · cases h

theorem run_isAgg {t : TypeId} {d : TypeDesc} (hu : P.underlying t = some d) (w : World) : (isAgg t).run P w = .ok d.isRow w := by
  unfold isAgg
  rw [Sem.run_bind, run_underlying hu w]
  cases d <;> rfl

/-- What stands from an address on, read by a type's size. -/
theorem run_loadAt {t : TypeId} {n : Nat} {b : Bool} (h : lay P t = some (n, b)) (w : World) (a : Addr) (vs : List Value) (hl : vs.length = n) (h1 : b = false → n = 1)
    (hc : ∀ (k : Nat) v, vs[k]? = some v → w.cell? (a.add k) = some v) :
    ∃ v, (Instr.loadAt t (.pointer (some a))).run P w = .ok v w ∧ (match b with | true => v = .agg vs.toArray | false => vs = [v]) := by
  obtain ⟨i, d, hi, hd, hs, hb⟩ := lay_spec h
  have hag := run_isAgg hd w
  cases b with
  | true =>
    have hlc := run_loadCells_list (P := P) w a vs hc
    refine ⟨.agg vs.toArray, ?_, rfl⟩
    simp [Instr.loadAt, Instr.sureAddr, loadVar, hag, hb, sizeOf, typeInfo, hi, hs, ← hl, hlc]
  | false =>
    have hn := h1 rfl
    match vs, hl.trans hn with
    | [v], _ =>
      refine ⟨v, ?_, rfl⟩
      have hv := hc 0 v rfl
      rw [Addr.add_zero'] at hv
      simp [Instr.loadAt, Instr.sureAddr, loadVar, hag, hb, hv]

theorem getD_mem {T : Type} {xs : List T} {i : Nat} {z : T} (hi : i < xs.length) : xs.getD i z ∈ xs := by
  simp [List.getD, List.getElem?_eq_getElem hi]

theorem flat_get {T : Type} {es : Nat} {enc : T → List Tree} {z : T} : ∀ {xs : List T}, (∀ x ∈ xs, (enc x).length = es) → ∀ (i j : Nat), i < xs.length → j < es →
    (xs.flatMap enc)[i * es + j]? = (enc (xs.getD i z))[j]?
  | [], _, _, _, h, _ => by cases h
  | x :: r, hes, 0, j, _, hj => by
    have := hes x (by simp)
    simp only [List.flatMap_cons, Nat.zero_mul, Nat.zero_add, List.getD_cons_zero]
    rw [List.getElem?_append_left (by omega)]
  | x :: r, hes, i + 1, j, hi, hj => by
    have hx := hes x (by simp)
    simp only [List.flatMap_cons, List.getD_cons_succ]
    rw [List.getElem?_append_right (by rw [hx, Nat.succ_mul]; omega), hx, show (i + 1) * es + j - es = i * es + j by rw [Nat.succ_mul]; omega]
    exact flat_get (fun y hy => hes y (by simp [hy])) i j (by simpa using hi) hj

theorem flat_len {T : Type} {es : Nat} {enc : T → List Tree} : ∀ {xs : List T}, (∀ x ∈ xs, (enc x).length = es) → (xs.flatMap enc).length = xs.length * es
  | [], _ => by simp
  | x :: r, hes => by
    rw [List.flatMap_cons, List.length_append, hes x (by simp), flat_len (fun y hy => hes y (by simp [hy])), List.length_cons, Nat.succ_mul, Nat.add_comm]

theorem flat_seg {T : Type} {es : Nat} {enc : T → List Tree} {z : T} {xs : List T} (hes : ∀ x ∈ xs, (enc x).length = es) {i : Nat} (hi : i < xs.length) (j : Nat) :
    ((xs.flatMap enc).drop (i * es + j)).take (es - j) = (enc (xs.getD i z)).drop j := by
  have hx : (enc (xs.getD i z)).length = es := hes _ (getD_mem hi)
  apply List.ext_getElem?
  intro k
  rw [List.getElem?_take, List.getElem?_drop, List.getElem?_drop]
  split
  · rename_i hk
    rw [Nat.add_assoc, flat_get hes i (j + k) hi (by omega)]
  · rename_i hk
    rw [List.getElem?_eq_none (by omega)]

section
variable {W : World} {A K : Nat → Prop} {s : St} {a : Act} {w : World} {ρ : Nat → Value}

/-- A box's cells, from some place on. -/
theorem box_at (h : Rel W A K s a w ρ) {id ty : Nat} {cells : List Cell} (ho : s.H id = some (.box ty cells)) {v : Value} {i j : Nat} (hv : CR (s.O A ρ) ρ s.H w v (.ptr id i j)) (hi : i * 0 = 0 := by rfl) :
    ∃ g vs, v = .pointer (some ⟨g, j, none⟩) ∧ ρ id = .pointer (some ⟨g, 0, none⟩) ∧ w.heap[g]? = some (.cells vs.toArray ty (0, 0)) ∧ CRs (s.O A ρ) ρ s.H w vs cells := by
  obtain ⟨g, vs, hp, hg, hc⟩ := h.mr.obj id _ ho
  cases hv with
  | @ptr _ _ _ g' o' h' hb =>
    have : o' = .box ty cells := by have := h'.symm.trans ho; simpa using this
    subst this
    rw [hp] at hb
    simp [blk] at hb
    subst hb
    exact ⟨g, vs, by simp [Obj.es], hp, hg, hc⟩
  | ptrj h' => have := h'.symm.trans ho; simp at this

theorem cell_box {w : World} {g ty : Nat} {vs : List Value} (hg : w.heap[g]? = some (.cells vs.toArray ty (0, 0))) (j : Nat) : w.cell? ⟨g, j, none⟩ = vs[j]? := by
  simp [World.cell?, hg]

theorem load_box (h : Rel W A K s a w ρ) {t : TypeId} {n : Nat} {b : Bool} (hl : lay P t = some (n, b)) {id ty : Nat} {cells : List Cell} (ho : s.H id = some (.box ty cells)) {v : Value} {i j : Nat}
    (hv : CR (s.O A ρ) ρ s.H w v (.ptr id i j)) (hn : ((cells.drop j).take n).length = n) (h1 : b = false → n = 1) :
    ∃ u, (Instr.loadAt t v).run P w = .ok u w ∧ VR (s.O A ρ) ρ s.H w u b ((cells.drop j).take n) := by
  obtain ⟨g, vs, rfl, hp, hg, hc⟩ := box_at h ho hv
  have hseg := (hc.drop j).take n
  obtain ⟨u, hu, hm⟩ := run_loadAt hl w ⟨g, j, none⟩ ((vs.drop j).take n) (by rw [hseg.1]; exact hn) h1 (by
    intro k x hk
    rw [Addr.add_mid, cell_box hg]
    rw [List.getElem?_take] at hk
    split at hk
    · simpa using hk
    · cases hk)
  refine ⟨u, hu, ?_⟩
  cases b with
  | true => simp only at hm; subst hm; exact ⟨_, rfl, hseg⟩
  | false =>
    simp only at hm
    rw [hm] at hseg
    match hcs : (cells.drop j).take n, hseg with
    | [c], hseg => exact ⟨c, rfl, hseg.2 0 u c rfl rfl⟩
    | [], hseg => have := hseg.1; simp at this
    | _ :: _ :: _, hseg => have := hseg.1; simp at this

/-- A row's cells, from some place on. -/
theorem rows_at (h : Rel W A K s a w ρ) {id ty es : Nat} {T : Type} {enc : T → List Tree} {z : T} {xs : List T} (ho : s.H id = some (.rows ty es enc z xs)) {v : Value} {i j : Nat} (hv : CR (s.O A ρ) ρ s.H w v (.ptr id i j)) :
    ∃ g cap cur, v = .pointer (some ⟨g, i * es + j, none⟩) ∧ ρ id = .slice (some ⟨g, 0, none⟩) xs.length cap ∧ w.heap[g]? = some (.cells cur ty (0, 0)) ∧ xs.length ≤ cap ∧ cap ≤ maxLen ∧ cur.size = cap * es ∧ (∀ x ∈ xs, (enc x).length = es) ∧
      TRs (s.O A ρ) w (cur.toList.take (xs.length * es)) (xs.flatMap enc) := by
  obtain ⟨vs, ⟨hl, hown⟩, hes, hc⟩ := h.mr.obj id _ ho
  cases hv with
  | @ptr _ _ _ g' o' h' hb =>
    have : o' = .rows ty es enc z xs := by have := h'.symm.trans ho; simpa using this
    subst this
    rcases hown with ⟨hn, _⟩ | ⟨g, cap, cur, hr, _, hg, h1, h2, h3, h4⟩
    · rw [hn] at hb; simp [blk] at hb
    · rw [hr] at hb
      simp [blk] at hb
      subst hb
      exact ⟨g, cap, cur, rfl, hr, hg, h1, h2, h3, hes, by rw [h4]; exact hc⟩
  | ptrj h' => have := h'.symm.trans ho; simp at this

theorem load_rows (h : Rel W A K s a w ρ) {t : TypeId} {n : Nat} {b : Bool} (hl : lay P t = some (n, b)) {id ty es : Nat} {T : Type} {enc : T → List Tree} {z : T} {xs : List T} (ho : s.H id = some (.rows ty es enc z xs)) {v : Value} {i j : Nat}
    (hv : CR (s.O A ρ) ρ s.H w v (.ptr id i j)) (hi : i < xs.length) (hn : (((enc (xs.getD i z)).drop j).take n).length = n) (h1 : b = false → n = 1) :
    ∃ u, (Instr.loadAt t v).run P w = .ok u w ∧ VR (s.O A ρ) ρ s.H w u b ((((enc (xs.getD i z)).drop j).take n).map .t) := by
  obtain ⟨g, cap, cur, rfl, hr, hg, hcl, hcm, hsz, hes, hc⟩ := rows_at h ho hv
  have hx : (enc (xs.getD i z)).length = es := hes _ (getD_mem hi)
  have hnj : n ≤ es - j := by simp only [List.length_take, List.length_drop] at hn; omega
  have hseg : TRs (s.O A ρ) w (((cur.toList.take (xs.length * es)).drop (i * es + j)).take n) (((enc (xs.getD i z)).drop j).take n) := by
    rw [← flat_seg hes hi j, List.take_take, Nat.min_eq_left hnj]
    refine ⟨by simp [hc.1], fun k x t hk ht => ?_⟩
    rw [List.getElem?_take] at hk ht
    split at hk
    · rename_i hkn; simp only [hkn, if_true] at ht
      rw [List.getElem?_drop] at hk ht
      exact hc.2 _ _ _ hk ht
    · cases hk
  obtain ⟨u, hu, hm⟩ := run_loadAt hl w ⟨g, i * es + j, none⟩ (((cur.toList.take (xs.length * es)).drop (i * es + j)).take n) (by rw [hseg.1]; exact hn) h1 (by
    intro k x hk
    rw [Addr.add_mid]
    rw [List.getElem?_take] at hk
    split at hk
    · rw [List.getElem?_drop, List.getElem?_take] at hk
      split at hk
      · simp [World.cell?, hg]; simpa using hk
      · cases hk
    · cases hk)
  refine ⟨u, hu, ?_⟩
  have hseg' := hseg.crs (ρ := ρ) (H := s.H)
  cases b with
  | true => simp only at hm; subst hm; exact ⟨_, rfl, hseg'⟩
  | false =>
    simp only at hm
    rw [hm] at hseg'
    match hcs : (((enc (xs.getD i z)).drop j).take n).map Cell.t, hseg' with
    | [c], hseg' => exact ⟨c, rfl, hseg'.2 0 u c rfl rfl⟩
    | [], hseg' => have := hseg'.1; simp at this
    | _ :: _ :: _, hseg' => have := hseg'.1; simp at this

theorem load_rop {O : Nat → Prop} {H : Nat → Option Obj} {t : TypeId} {n : Nat} {b : Bool} (hl : lay P t = some (n, b)) {cells : List Tree} {v : Value}
    (hv : CR O ρ H w v (.rop cells)) (hn : (cells.take n).length = n) (h1 : b = false → n = 1) :
    ∃ u, (Instr.loadAt t v).run P w = .ok u w ∧ VR O ρ H w u b ((cells.take n).map .t) := by
  cases hv with
  | rop ad vals hlen hcell hO hrel =>
    have hseg : TRs O w (vals.take n) (cells.take n) := by
      refine ⟨by simp [hlen], fun k x t hk ht => ?_⟩
      rw [List.getElem?_take] at hk ht
      split at hk
      · rename_i hkn; simp only [hkn, if_true] at ht; exact hrel k x t hk ht
      · cases hk
    obtain ⟨u, hu, hm⟩ := run_loadAt hl w ad (vals.take n) (by rw [hseg.1]; exact hn) h1 (by
      intro k x hk
      rw [List.getElem?_take] at hk
      split at hk
      · exact hcell k x hk
      · cases hk)
    refine ⟨u, hu, ?_⟩
    have hseg' := hseg.crs (ρ := ρ) (H := H)
    cases b with
    | true => simp only at hm; subst hm; exact ⟨_, rfl, hseg'⟩
    | false =>
      simp only at hm
      rw [hm] at hseg'
      match hcs : (cells.take n).map Cell.t, hseg' with
      | [c], hseg' => exact ⟨c, rfl, hseg'.2 0 u c rfl rfl⟩
      | [], hseg' => have := hseg'.1; simp at this
      | _ :: _ :: _, hseg' => have := hseg'.1; simp at this

end
end Go.Abs

namespace Go.Abs
set_option linter.unusedVariables false
set_option linter.unusedSimpArgs false
variable {P : Program}

universe u
def del {α : Type u} (id : Nat) (l : List (Nat × α)) : List (Nat × α) := l.filter fun x => !Nat.beq x.1 id

theorem look_del {α : Type u} (id k : Nat) (l : List (Nat × α)) : look k (del id l) = if k = id then none else look k l := by
  induction l with
  | nil => simp [del, look]
  | cons y r ih =>
    obtain ⟨u, x⟩ := y
    unfold del at ih ⊢
    simp only [List.filter_cons]
    cases hb : Nat.beq u id with
    | true =>
      have := Nat.eq_of_beq_eq_true hb; subst this
      simp only [Bool.not_true, Bool.false_eq_true, if_false, ih]
      split
      · rfl
      · rename_i hne
        have : Nat.beq u k = false := by
          cases h2 : Nat.beq u k with
          | true => exact absurd (Nat.eq_of_beq_eq_true h2).symm hne
          | false => rfl
        simp [look, this]
    | false =>
      simp only [Bool.not_false, if_true, look, ih]
      cases h2 : Nat.beq u k with
      | true =>
        have := Nat.eq_of_beq_eq_true h2; subst this
        have hne : u ≠ id := fun e => by subst e; rw [Nat.beq_refl] at hb; cases hb
        simp [hne]
      | false => simp

def hset (id : Nat) (o : Obj) (l : List (Nat × Obj)) : List (Nat × Obj) := (id, o) :: del id l

theorem look_hset (id k : Nat) (o : Obj) (l : List (Nat × Obj)) : look k (hset id o l) = if k = id then some o else look k l := by
  simp only [hset, look, look_del]
  cases hb : Nat.beq id k with
  | true => have := Nat.eq_of_beq_eq_true hb; simp [this]
  | false =>
    have hne : k ≠ id := fun e => by subst e; rw [Nat.beq_refl] at hb; cases hb
    simp [hne]

def St.setH (s : St) (id : Nat) (o : Obj) : St := { s with heap := hset id o s.heap }

@[simp] theorem St.setH_H (s : St) (id k : Nat) (o : Obj) : (s.setH id o).H k = if k = id then some o else s.H k := look_hset id k o s.heap

def upd (ρ : Nat → Value) (d : Nat) (v : Value) (k : Nat) : Value := if k = d then v else ρ k

theorem VR.cells {O : Nat → Prop} {ρ : Nat → Value} {H : Nat → Option Obj} {w : World} {v : Value} {b : Bool} {cs : List Cell} (h : VR O ρ H w v b cs) : ∃ vs : List Value, v.cells = vs.toArray ∧ CRs O ρ H w vs cs := by
  cases b with
  | true => obtain ⟨vs, rfl, h⟩ := h; exact ⟨vs, rfl, h⟩
  | false =>
    obtain ⟨c, rfl, h⟩ := h
    refine ⟨[v], ?_, CRs.cons h CRs.nil⟩
    have h1 := h.oneCell
    cases v <;> first | rfl | (simp [Value.oneCell'] at h1)

section
variable {W : World} {A K : Nat → Prop} {s : St} {a : Act} {w : World} {ρ : Nat → Value}

theorem run_storeAt {t : TypeId} {n : Nat} {b : Bool} (h : lay P t = some (n, b)) (w : World) (g o ty : Nat) (cur : Array Value) (hg : w.heap[g]? = some (.cells cur ty (0, 0))) (u : Value) (vs : List Value) (hu : u.cells = vs.toArray)
    (hl : vs.length = n) (h1 : ∀ v ∈ vs, v.oneCell' = true) (hfit : o + n ≤ cur.size) :
    (Instr.storeAt t (.pointer (some ⟨g, o, none⟩)) u).run P w = .ok () (w.setRow g (cur.toList.take o ++ vs ++ cur.toList.drop (o + n)).toArray) := by
  obtain ⟨i, d, hi, hd, hs, hb⟩ := lay_spec h
  have hst := run_storeCells_at P g o ty vs 0 cur w hg (by omega) h1
  subst hl
  simp only [Nat.add_zero] at hst
  simp [Instr.storeAt, Instr.sureAddr, storeVar, hu, sizeOf, typeInfo, hi, hs, hst]

theorem store_box (h : Rel W A K s a w ρ) {t : TypeId} {n : Nat} {b b' : Bool} (hl : lay P t = some (n, b)) {id ty : Nat} {cells : List Cell} (ho : s.H id = some (.box ty cells)) {v : Value} {i j : Nat}
    (hv : CR (s.O A ρ) ρ s.H w v (.ptr id i j)) {u : Value} {cs : List Cell} (hu : VR (s.O A ρ) ρ s.H w u b' cs) (hcs : ∀ k, hasL k cs = true → s.has k = true) (hn : cs.length = n) (hj : j + n ≤ cells.length) :
    ∃ w', (Instr.storeAt t v u).run P w = .ok () w' ∧ Rel W A K (s.setH id (.box ty (cells.take j ++ cs ++ cells.drop (j + n)))) a w' ρ := by
  obtain ⟨g, vs, rfl, hp, hg, hc⟩ := box_at h ho hv
  obtain ⟨us, hus, hcu⟩ := hu.cells
  have hrun := run_storeAt hl w g j ty vs.toArray hg u us hus (by rw [hcu.1, hn]) hcu.oneCell (by simpa [hc.1] using hj)
  refine ⟨_, hrun, ?_⟩
  have hbk : blk (ρ id) = some g := by rw [hp]; rfl
  have T : Turn s (s.setH id (.box ty (cells.take j ++ cs ++ cells.drop (j + n)))) w (w.setRow g (vs.toArray.toList.take j ++ us ++ vs.toArray.toList.drop (j + n)).toArray) ρ ρ (· = id) := by
    refine ⟨rfl, rfl, rfl, by simp, ?_, ?_, ?_, ?_, ?_⟩
    · intro b _ hb
      exact setRow_other w g b _ fun e => hb id _ rfl ho (e ▸ hbk)
    · intro k hk; simp [hk]
    · rintro k o k2 rfl hk hb
      exact ⟨by simp; exact (h.low k _ k2 ho hb).2, .inr ⟨k, _, rfl, ho, hb⟩⟩
    · rintro i j a b g rfl rfl _ _ _ _; rfl
    · rintro k o rfl hk
      simp at hk; subst hk
      exact .inr ⟨_, ho, rfl, rfl⟩
  refine h.turn T rfl rfl ?_
  rintro k o rfl hk
  rw [St.setH_H, if_pos rfl] at hk; injection hk with hk; subst hk
  have hc' := T.crs (fun i hi => St.has_heap ho (by simpa [Obj.has] using hi)) hc
  have hcu' := T.crs hcs hcu
  exact ⟨g, vs.take j ++ us ++ vs.drop (j + n), hp, setRow_heap w g vs.toArray _ ty (0, 0) hg, (hc'.take j).append hcu' |>.append (hc'.drop (j + n))⟩

theorem setRow_owns {w : World} {g cap e sz n : Nat} {cur : Array Value} {vs vs' : List Value} (h : w.ownsRow 0 e sz (.slice (some ⟨g, 0, none⟩) n cap) n vs) (hg : w.heap[g]? = some (.cells cur e (0, 0))) (cur' : Array Value)
    (hs : cur'.size = cur.size) (hl : vs'.length = vs.length) (ht : cur'.toList.take (n * sz) = vs') : (w.setRow g cur').ownsRow 0 e sz (.slice (some ⟨g, 0, none⟩) n cap) n vs' := by
  obtain ⟨h1, h2⟩ := h
  refine ⟨hl.trans h1, ?_⟩
  rcases h2 with ⟨h2, _⟩ | ⟨g', cap', cur2, he, _, hh, r1, r2, r3, _⟩
  · cases h2
  · simp at he
    obtain ⟨rfl, rfl⟩ := he
    have : cur2 = cur := by have := hh.symm.trans hg; simpa using this
    subst this
    exact .inr ⟨g, cap, cur', rfl, Nat.zero_le _, setRow_heap w g cur2 _ e (0, 0) hg, r1, r2, hs.trans r3, ht⟩

theorem flat_take {T : Type} {es : Nat} {enc : T → List Tree} {xs : List T} (hes : ∀ y ∈ xs, (enc y).length = es) (i : Nat) (hi : i ≤ xs.length) :
    (xs.flatMap enc).take (i * es) = (xs.take i).flatMap enc ∧ (xs.flatMap enc).drop (i * es) = (xs.drop i).flatMap enc := by
  have h1 : ((xs.take i).flatMap enc).length = i * es := by
    rw [flat_len (fun y hy => hes y (List.mem_of_mem_take hy)), List.length_take, Nat.min_eq_left hi]
  have h2 : xs.flatMap enc = (xs.take i).flatMap enc ++ (xs.drop i).flatMap enc := by rw [← List.flatMap_append, List.take_append_drop]
  rw [h2]
  exact ⟨by rw [← h1, List.take_left], by rw [← h1, List.drop_left]⟩

theorem flat_set {T : Type} {es : Nat} {enc : T → List Tree} {x : T} {xs : List T} {i : Nat} (hes : ∀ y ∈ xs, (enc y).length = es) (hx : (enc x).length = es) (hi : i < xs.length) :
    (xs.set i x).flatMap enc = (xs.flatMap enc).take (i * es) ++ enc x ++ (xs.flatMap enc).drop (i * es + es) := by
  rw [show i * es + es = (i + 1) * es from (Nat.succ_mul i es).symm, (flat_take hes i (by omega)).1, (flat_take hes (i + 1) (by omega)).2, List.set_eq_take_append_cons_drop, if_pos hi, List.flatMap_append, List.flatMap_cons, List.append_assoc]

theorem splice_list {α : Type} (L us : List α) (p j n es m : Nat) (hus : us.length = n) (hj : j + n ≤ es) (hp : p + es ≤ m) (hm : m ≤ L.length) :
    (L.take (p + j) ++ us ++ L.drop (p + j + n)).take m =
      (L.take m).take p ++ ((((L.take m).drop p).take es).take j ++ us ++ (((L.take m).drop p).take es).drop (j + n)) ++ (L.take m).drop (p + es) := by
  apply List.ext_getElem?
  intro q
  simp only [List.getElem?_take, List.getElem?_append, List.getElem?_drop, List.length_append, List.length_take, List.length_drop, hus]
  by_cases h1 : q < p
  · have a1 : q < m := by omega
    have a2 : q < min (p + j) L.length := by omega
    have a3 : q < min (p + j) L.length + n := by omega
    have a4 : q < p + j := by omega
    have a5 : q < min p (min m L.length) := by omega
    have a6 : q < min p (min m L.length) + (min j (min es (min m L.length - p)) + n + (min es (min m L.length - p) - (j + n))) := by omega
    simp [a1, a2, a3, a4, a5, a6, h1]
  · by_cases h2 : q < p + es
    · have e0 : min p (min m L.length) = p := by omega
      have e1 : min es (min m L.length - p) = es := by omega
      have e2 : min j es = j := by omega
      have e3 : min (p + j) L.length = p + j := by omega
      have a1 : q < m := by omega
      have a6 : q < p + (j + n + (es - (j + n))) := by omega
      simp only [e0, e1, e2, e3, a1, a6, h1, if_true, if_false]
      by_cases h3 : q < p + j
      · have b1 : q < p + j + n := by omega
        have b2 : q - p < j + n := by omega
        have b3 : q - p < j := by omega
        have b4 : q - p < es := by omega
        have b5 : p + (q - p) = q := by omega
        simp [h3, b1, b2, b3, b4, b5, a1]
      · by_cases h4 : q < p + j + n
        · have b2 : q - p < j + n := by omega
          have b3 : ¬ q - p < j := by omega
          have b5 : q - (p + j) = q - p - j := by omega
          simp [h3, h4, b2, b3, b5]
        · have b2 : ¬ q - p < j + n := by omega
          have b4 : j + n + (q - p - (j + n)) < es := by omega
          have b5 : p + (j + n + (q - p - (j + n))) = q := by omega
          have b6 : p + j + n + (q - (p + j + n)) = q := by omega
          simp only [h3, h4, b2, b4, b5, b6, if_true, if_false, a1]
    · have e0 : min p (min m L.length) = p := by omega
      have e1 : min es (min m L.length - p) = es := by omega
      have e2 : min j es = j := by omega
      have e3 : min (p + j) L.length = p + j := by omega
      have a6 : ¬ q < p + (j + n + (es - (j + n))) := by omega
      have b1 : ¬ q < p + j + n := by omega
      have b6 : p + j + n + (q - (p + j + n)) = q := by omega
      have b7 : p + es + (q - (p + (j + n + (es - (j + n))))) = q := by omega
      simp only [e0, e1, e2, e3, a6, b1, b6, b7, if_false]

theorem hasL_map_t (id : Nat) (l : List Tree) : hasL id (l.map Cell.t) = false := by
  induction l with
  | nil => rfl
  | cons c r ih => simp [hasL, Cell.has, ih]

theorem hasL_append (id : Nat) (l r : List Cell) : hasL id (l ++ r) = (hasL id l || hasL id r) := by
  induction l with
  | nil => simp [hasL]
  | cons c l ih => simp [hasL, ih, Bool.or_assoc]

theorem store_rows (h : Rel W A K s a w ρ) {t : TypeId} {n : Nat} {b b' : Bool} (hl : lay P t = some (n, b)) {id ty es : Nat} {T : Type} {enc : T → List Tree} {z : T} {xs : List T} (ho : s.H id = some (.rows ty es enc z xs)) {v : Value} {i j : Nat}
    (hv : CR (s.O A ρ) ρ s.H w v (.ptr id i j)) {u : Value} {cs : List Cell} (hu : VR (s.O A ρ) ρ s.H w u b' cs) (hn : cs.length = n) (hi : i < xs.length) (x : T) (hjn : j + n ≤ es) (hxl : (enc x).length = es)
    (hx : (enc x).map Cell.t = ((enc (xs.getD i z)).map Cell.t).take j ++ cs ++ ((enc (xs.getD i z)).map Cell.t).drop (j + n)) :
    ∃ w', (Instr.storeAt t v u).run P w = .ok () w' ∧ Rel W A K (s.setH id (.rows ty es enc z (xs.set i x))) a w' ρ := by
  obtain ⟨g, cap, cur, rfl, hr, hg, hcl, hcm, hsz, hes, hc⟩ := rows_at h ho hv
  obtain ⟨us, hus, hcu⟩ := hu.cells
  have hul : us.length = n := by rw [hcu.1, hn]
  have hle : i * es + es ≤ xs.length * es := by rw [← Nat.succ_mul]; exact Nat.mul_le_mul_right es hi
  have hle2 : xs.length * es ≤ cap * es := Nat.mul_le_mul_right es hcl
  have hcur : cur.toList.length = cur.size := Array.length_toList
  have hrun := run_storeAt hl w g (i * es + j) ty cur hg u us hus hul hcu.oneCell (by omega)
  refine ⟨_, hrun, ?_⟩
  have hbk : blk (ρ id) = some g := by rw [hr]; rfl
  obtain ⟨vs0, hown0, _, hc0⟩ := h.mr.obj id _ ho
  have hown : w.ownsRow 0 ty es (.slice (some ⟨g, 0, none⟩) xs.length cap) xs.length (cur.toList.take (xs.length * es)) := by
    rw [hr] at hown0
    obtain ⟨q1, q2⟩ := hown0
    rcases q2 with ⟨q2, _⟩ | ⟨g', cap', cur2, he, q0, hh, r1, r2, r3, r4⟩
    · cases q2
    · simp at he
      obtain ⟨rfl, rfl⟩ := he
      have : cur2 = cur := by have := hh.symm.trans hg; simpa using this
      subst this
      exact ⟨by rw [List.length_take]; omega, .inr ⟨g, cap, cur2, rfl, q0, hh, r1, r2, r3, rfl⟩⟩
  generalize hs' : s.setH id (.rows ty es enc z (xs.set i x)) = s'
  generalize hw' : w.setRow g (cur.toList.take (i * es + j) ++ us ++ cur.toList.drop (i * es + j + n)).toArray = w'
  have hH : ∀ k, s'.H k = if k = id then some (.rows ty es enc z (xs.set i x)) else s.H k := fun k => by rw [← hs']; exact St.setH_H s id k _
  have T : Turn s s' w w' ρ ρ (· = id) := by
    refine ⟨by rw [← hw']; rfl, by rw [← hw']; rfl, by rw [← hw']; rfl, by rw [← hw']; simp, ?_, ?_, ?_, ?_, ?_⟩
    · intro b _ hb
      rw [← hw']
      exact setRow_other w g b _ fun e => hb id _ rfl ho (e ▸ hbk)
    · intro k hk; rw [hH, if_neg hk]; exact ⟨rfl, rfl⟩
    · rintro k o k2 rfl hk hb
      exact ⟨by rw [← hw']; simp; exact (h.low k _ k2 ho hb).2, .inr ⟨k, _, rfl, ho, hb⟩⟩
    · rintro i j a b g rfl rfl _ _ _ _; rfl
    · rintro k o rfl hk
      rw [hH, if_pos rfl] at hk; injection hk with hk; subst hk
      exact .inr ⟨_, ho, rfl, rfl⟩
  refine h.turn T (by rw [← hs']; rfl) (by rw [← hs']; rfl) ?_
  rintro k o rfl hk
  rw [hH, if_pos rfl] at hk; injection hk with hk; subst hk
  have hflat := flat_set (xs := xs) (i := i) hes hxl hi
  have hnew := splice_list cur.toList us (i * es) j n es (xs.length * es) hul hjn hle (by omega)
  refine ⟨(cur.toList.take (i * es + j) ++ us ++ cur.toList.drop (i * es + j + n)).take (xs.length * es), ?_, fun y hy => ?_, ?_⟩
  · rw [hr, List.length_set, ← hw']
    refine setRow_owns hown hg _ ?_ ?_ rfl
    · simp only [List.size_toArray, List.length_append, List.length_take, List.length_drop, hul]; omega
    · simp only [List.length_append, List.length_take, List.length_drop, hul]; omega
  · rcases List.mem_or_eq_of_mem_set hy with hm | rfl
    · exact hes y hm
    · exact hxl
  · have hc' := T.trs hc
    have hcu' : CRs (s'.O A ρ) ρ s'.H w' us cs := by
      refine hcu.mono T.hw T.hO fun id o' hh _ => ?_
      have h1 := hasL_map_t id (enc x)
      rw [hx, hasL_append, hasL_append, hh] at h1
      simp at h1
    have e1 : ((enc (xs.getD i z)).map Cell.t) = (((xs.flatMap enc).drop (i * es)).take es).map Cell.t := by
      have := flat_seg (z := z) hes hi 0
      simp only [Nat.add_zero, Nat.sub_zero, List.drop_zero] at this
      rw [this]
    rw [hnew, hflat]
    have hq := (hc'.crs (ρ := ρ) (H := s'.H))
    have hseg : CRs (s'.O A ρ) ρ s'.H w' ((((cur.toList.take (xs.length * es)).drop (i * es)).take es).take j ++ us ++ (((cur.toList.take (xs.length * es)).drop (i * es)).take es).drop (j + n)) ((enc x).map Cell.t) := by
      rw [hx, e1]
      have hq2 := (hq.drop (i * es)).take es
      simp only [List.map_take, List.map_drop] at hq2 ⊢
      exact ((hq2.take j).append hcu').append (hq2.drop (j + n))
    apply CRs.trs (ρ := ρ) (H := s'.H)
    simp only [List.map_append, List.map_take, List.map_drop]
    exact ((hq.take (i * es)).append hseg).append (hq.drop (i * es + es))

end
end Go.Abs

namespace Go.Abs
set_option linter.unusedVariables false
set_option linter.unusedSimpArgs false
variable {P : Program}

section
variable {W : World} {A K : Nat → Prop} {s : St} {a : Act} {w : World} {ρ : Nat → Value}

/-- Every owned block is there already. -/
theorem Rel.owned_lt (h : Rel W A K s a w ρ) {b : Nat} (hb : owned ρ s.H b) : b < w.heap.size := by
  obtain ⟨id, o, ho, hk⟩ := hb
  exact (h.low id o b ho hk).2

/-- A new block under a new name. -/
theorem turn_new (h : Rel W A K s a w ρ) {d : Nat} (hd : s.has d = false) {w' : World} (o : Obj) (v : Value) (ho : w'.os = w.os) (ht : w'.tape = w.tape) (hu : w'.output = w.output)
    (hs : w.heap.size < w'.heap.size) (hb : ∀ b, b < w.heap.size → w'.heap[b]? = w.heap[b]?) (hv : ∀ g, blk v = some g → g = w.heap.size) :
    Turn s (s.setH d o) w w' ρ (upd ρ d v) (· = d) := by
  refine ⟨ho, ht, hu, Nat.le_of_lt hs, fun b hl _ => hb b hl, ?_, ?_, ?_, ?_⟩
  · intro k hk; simp [hk, upd]
  · rintro k o k2 rfl hk hb2
    simp [upd] at hb2
    have := hv k2 hb2
    exact ⟨by omega, .inl (by omega)⟩
  · rintro i j a b g rfl rfl _ _ _ _; rfl
  · rintro k o rfl _
    exact .inl hd

theorem new_box (h : Rel W A K s a w ρ) {d : Nat} (hd : s.has d = false) (ty : Nat) {vs : List Value} {cs : List Cell} (hc : CRs (s.O A ρ) ρ s.H w vs cs) (hcs : ∀ k, hasL k cs = true → s.has k = true) :
    Rel W A K (s.setH d (.box ty cs)) a (w.alloc (.cells vs.toArray ty)) (upd ρ d (.pointer (some ⟨w.heap.size, 0, none⟩))) := by
  have T := turn_new h hd (w' := w.alloc (.cells vs.toArray ty)) (.box ty cs) (.pointer (some ⟨w.heap.size, 0, none⟩)) rfl rfl rfl (by simp) (fun b hl => heap_alloc_old w _ hl) (by simp [blk])
  refine h.turn T rfl rfl ?_
  rintro k o rfl hk
  rw [St.setH_H, if_pos rfl] at hk; injection hk with hk; subst hk
  exact ⟨w.heap.size, vs, by simp [upd], heap_alloc_new w _, T.crs hcs hc⟩

theorem new_ptr {d ty : Nat} {cs : List Cell} {O : Nat → Prop} {w' : World} {g : Nat} {H : Nat → Option Obj} (hH : H d = some (.box ty cs)) : CR O (upd ρ d (.pointer (some ⟨g, 0, none⟩))) H w' (.pointer (some ⟨g, 0, none⟩)) (.ptr d 0 0) := by
  have := CR.ptr (O := O) (ρ := upd ρ d (.pointer (some ⟨g, 0, none⟩))) (H := H) (w := w') (id := d) (i := 0) (j := 0) (g := g) hH (by simp [upd, blk])
  simpa using this

/-- A new slice of the call's own. -/
theorem new_rows (h : Rel W A K s a w ρ) {d : Nat} (hd : s.has d = false) {ty es : Nat} {T : Type} {enc : T → List Tree} {z : T} {xs : List T} {w' : World} {cap : Nat} {vs : List Value}
    (hg : w.grownBy w' none) (hs : w.heap.size < w'.heap.size) (hown : w'.ownsRow 0 ty es (.slice (some ⟨w.heap.size, 0, none⟩) xs.length cap) xs.length vs) (hes : ∀ x ∈ xs, (enc x).length = es) (hc : TRs (s.O A ρ) w vs (xs.flatMap enc)) :
    Rel W A K (s.setH d (.rows ty es enc z xs)) a w' (upd ρ d (.slice (some ⟨w.heap.size, 0, none⟩) xs.length cap)) := by
  have T := turn_new h hd (w' := w') (.rows ty es enc z xs) (.slice (some ⟨w.heap.size, 0, none⟩) xs.length cap) hg.os hg.tape hg.output hs (fun b hl => hg.block b hl (by simp)) (by simp [blk])
  refine h.turn T rfl rfl ?_
  rintro k o rfl hk
  rw [St.setH_H, if_pos rfl] at hk; injection hk with hk; subst hk
  exact ⟨vs, by simpa [upd] using hown, hes, T.trs hc⟩

/-- A nil slice, taken for one of the call's own. -/
theorem new_nil (h : Rel W A K s a w ρ) {d : Nat} (hd : s.has d = false) (ty es : Nat) {T : Type} (enc : T → List Tree) (z : T) :
    Rel W A K (s.setH d (.rows ty es enc z [])) a w (upd ρ d (.slice none 0 0)) := by
  have T : Turn s (s.setH d (.rows ty es enc z [])) w w ρ (upd ρ d (.slice none 0 0)) (· = d) := by
    refine ⟨rfl, rfl, rfl, Nat.le_refl _, fun _ _ _ => rfl, ?_, ?_, ?_, ?_⟩
    · intro k hk; simp [hk, upd]
    · rintro k o k2 rfl _ hb2
      simp [upd, blk] at hb2
    · rintro i j a b g rfl rfl _ _ _ _; rfl
    · rintro k o rfl _
      exact .inl hd
  refine h.turn T rfl rfl ?_
  rintro k o rfl hk
  rw [St.setH_H, if_pos rfl] at hk; injection hk with hk; subst hk
  exact ⟨[], by simpa [upd] using World.ownsRow_nil w 0 ty es, by simp, ⟨rfl, by simp⟩⟩

theorem grow_fits {need cap bytes : Nat} (h : cap < need) (hb : need * bytes ≤ 140737488355328) : Builtin.nextslicecap need cap * bytes ≤ 281474976710656 := growslice_fits h hb

/-- append: what the call owns under id goes on under d. -/
theorem append_rows (h : Rel W A K s a w ρ) {t e ety : TypeId} {i : TypeInfo} {zv : Value} {es by_ : Nat} (ht : P.underlying t = some (.slice e)) (hi : P.info? e = some i) (hz : i.zero = some zv) (hsize : i.size = es) (hby : i.bytes = by_)
    (hzs : zv.cells.size = es) (hpos : 0 < es) {id d : Nat} {T : Type} {enc : T → List Tree} {z : T} {xs ys : List T} (ho : s.H id = some (.rows e es enc z xs)) (hd : s.has d = false) (hne : d ≠ id)
    {sv : Value} {news : List Value} (hsv : (sv = .slice none 0 0 ∧ ys = []) ∨ ∃ ad c, sv = .slice (some ad) ys.length c ∧ ∀ (j : Nat) u, news[j]? = some u → w.cell? (ad.add j) = some u)
    (hes : ∀ y ∈ ys, (enc y).length = es) (hn : TRs (s.O A ρ) w news (ys.flatMap enc)) (h63 : xs.length + ys.length ≤ maxLen) (hbytes : (xs.length + ys.length) * by_ ≤ 140737488355328) :
    ∃ v' w' ρ', (Builtin.append_ #[t, t] ety #[ρ id, sv]).run P w = .ok v' w' ∧ ρ' d = v' ∧ (∀ k, k ≠ d → ρ' k = ρ k) ∧ v'.oneCell' = true ∧
      Rel W A K { s with heap := (d, .rows e es enc z (xs ++ ys)) :: del id s.heap } a w' ρ' := by
  obtain ⟨vs, hown, hesx, hc⟩ := h.mr.obj id _ ho
  have hH : ∀ k, ({ s with heap := (d, Obj.rows e es enc z (xs ++ ys)) :: del id s.heap } : St).H k = if k = d then some (.rows e es enc z (xs ++ ys)) else if k = id then none else s.H k := by
    intro k
    simp only [St.H, look]
    cases hb : Nat.beq d k with
    | true => have := Nat.eq_of_beq_eq_true hb; simp [this]
    | false =>
      have hne : k ≠ d := fun e => by subst e; rw [Nat.beq_refl] at hb; cases hb
      simp [hne, look_del]
  have hall : ∀ y ∈ xs ++ ys, (enc y).length = es := fun y hy => by
    rcases List.mem_append.1 hy with hy | hy
    · exact hesx y hy
    · exact hes y hy
  -- what any way comes to
  have fin : ∀ (v' : Value) (w' : World), (Builtin.append_ #[t, t] ety #[ρ id, sv]).run P w = .ok v' w' → w'.os = w.os → w'.tape = w.tape → w'.output = w.output → w.heap.size ≤ w'.heap.size →
      (∀ b, b < w.heap.size → blk (ρ id) ≠ some b → w'.heap[b]? = w.heap[b]?) → (∀ g, blk v' = some g → g < w'.heap.size ∧ (w.heap.size ≤ g ∨ blk (ρ id) = some g)) →
      v'.oneCell' = true → w'.ownsRow 0 e es v' (xs ++ ys).length (vs ++ news) →
      ∃ v' w' ρ', (Builtin.append_ #[t, t] ety #[ρ id, sv]).run P w = .ok v' w' ∧ ρ' d = v' ∧ (∀ k, k ≠ d → ρ' k = ρ k) ∧ v'.oneCell' = true ∧
        Rel W A K { s with heap := (d, .rows e es enc z (xs ++ ys)) :: del id s.heap } a w' ρ' := by
    intro v' w' hrun h1 h2 h3 h4 h5 h6 h7 h8
    refine ⟨v', w', upd ρ d v', hrun, by simp [upd], fun k hk => by simp [upd, hk], h7, ?_⟩
    have T : Turn s { s with heap := (d, .rows e es enc z (xs ++ ys)) :: del id s.heap } w w' ρ (upd ρ d v') (fun k => k = id ∨ k = d) := by
      refine ⟨h1, h2, h3, h4, fun b hl hb => h5 b hl (hb id _ (.inl rfl) ho), ?_, ?_, ?_, ?_⟩
      · intro k hk
        have n1 : k ≠ id := fun e => hk (.inl e)
        have n2 : k ≠ d := fun e => hk (.inr e)
        rw [hH]; simp [n1, n2, upd]
      · rintro k o g hk hko hb
        rw [hH] at hko
        rcases hk with rfl | rfl
        · rw [if_neg (Ne.symm hne), if_pos rfl] at hko; cases hko
        · simp [upd] at hb
          obtain ⟨q1, q2⟩ := h6 g hb
          exact ⟨q1, q2.imp (fun x => x) fun q2 => ⟨id, _, .inl rfl, ho, q2⟩⟩
      · intro i j a b g hi hj hia hjb hbi hbj
        rw [hH] at hia hjb
        rcases hi with rfl | rfl <;> rcases hj with rfl | rfl
        · rfl
        · rw [if_neg (Ne.symm hne), if_pos rfl] at hia; cases hia
        · rw [if_neg (Ne.symm hne), if_pos rfl] at hjb; cases hjb
        · rfl
      · intro k o' hk hko
        rw [hH] at hko
        rcases hk with rfl | rfl
        · rw [if_neg (Ne.symm hne), if_pos rfl] at hko; cases hko
        · exact .inl hd
    refine h.turn T rfl rfl ?_
    intro k o hk hko
    rw [hH] at hko
    rcases hk with rfl | rfl
    · rw [if_neg (Ne.symm hne), if_pos rfl] at hko; cases hko
    · rw [if_pos rfl] at hko; injection hko with hko; subst hko
      refine ⟨vs ++ news, by simpa [upd] using h8, hall, ?_⟩
      rw [List.flatMap_append]
      exact CRs.trs (ρ := ρ) (H := s.H) (by rw [List.map_append]; exact (T.trs hc).crs.append (T.trs hn).crs)
  have hvl : vs.length = xs.length * es := hown.1
  have hnl : news.length = ys.length * es := by rw [hn.1]; exact flat_len hes
  have h1 : ∀ u ∈ news, u.oneCell' = true := (hn.crs (ρ := ρ) (H := s.H)).oneCell
  subst hsize
  rcases hsv with ⟨rfl, rfl⟩ | ⟨ad, c, rfl, hcell⟩
  · have hnn : news = [] := by simpa using hnl
    subst hnn
    have hrun := run_append_owned_none (P := P) (w := w) 0 t ety e i i.size ht hi (ρ id) xs.length vs hown
    refine fin (ρ id) w hrun rfl rfl rfl (Nat.le_refl _) (fun _ _ _ => rfl) (fun g hg => ⟨(h.low id _ g ho hg).2, .inr hg⟩) ?_ (by simpa using hown)
    rcases hown.2 with ⟨e, _⟩ | ⟨g, cap, cur, e, _⟩ <;> rw [e] <;> rfl
  · rcases hown.2 with ⟨e0, hx0⟩ | ⟨g, cap, cur, e0, _, hg, hle, hcm, hsz, htk⟩
    · -- from nil
      have hxs : xs = [] := List.length_eq_zero_iff.1 hx0
      subst hxs
      have hvn : vs = [] := by simpa using hvl
      subst hvn
      by_cases hm : ys.length = 0
      · have hys : ys = [] := List.length_eq_zero_iff.1 hm
        subst hys
        have hnn : news = [] := by simpa using hnl
        subst hnn
        have hrun : (Builtin.append_ #[t, t] ety #[ρ id, .slice (some ad) ([] : List T).length c]).run P w = .ok (.slice none 0 0) w := by
          rw [e0]
          simp [Builtin.append_, run_underlying ht, sizeOf, typeInfo, hi, Builtin.lenOf, Builtin.firstCells, loadCells, loadCellsFrom]
        exact fin _ w hrun rfl rfl rfl (Nat.le_refl _) (fun _ _ _ => rfl) (fun g hg => by simp [blk] at hg) rfl (by simpa using World.ownsRow_nil w 0 e i.size)
      · have hrun := run_append_nil (P := P) w t ety e i zv ht hi hz ad ys.length c news hnl hcell (by omega) (by simp [maxLen] at h63; omega) (by rw [hby]; simp at hbytes; omega)
        rw [← e0] at hrun
        have hcap := grownCap_ge w ys.length 0 e
        refine fin _ _ hrun rfl rfl rfl (by simp) (fun b hl _ => heap_alloc_old w.drew _ hl) (fun g hg => ?_) rfl ?_
        · simp [blk] at hg; subst hg; exact ⟨by simp, .inl (Nat.le_refl _)⟩
        · refine ⟨by simp [hnl], .inr ⟨w.heap.size, grownCap w ys.length 0 e, _, by simp, Nat.zero_le _, heap_alloc_new w.drew _, by simpa using hcap, grownCap_le_maxLen w _ _ e (by simp at h63; omega), ?_, ?_⟩⟩
          · simp only [Array.size_append, List.size_toArray, size_zeroCells, hzs, hnl]
            rw [← Nat.add_mul]; congr 1; omega
          · simp [hnl, List.take_append]
    · have hcells : ∀ (j : Nat) u, vs[j]? = some u → w.cell? ((⟨g, 0, none⟩ : Addr).add j) = some u := hown.cells (g := g) (by rw [e0]; rfl)
      by_cases hroom : xs.length + ys.length ≤ cap
      · have hfit : xs.length * i.size + news.length ≤ cur.size := by rw [hnl, hsz, ← Nat.add_mul]; exact Nat.mul_le_mul_right _ hroom
        have hrun := run_append_room (P := P) w t ety e i ht hi g xs.length cap cur hg ad ys.length c news hnl hcell h1 hroom hfit
        rw [← e0] at hrun
        refine fin _ _ hrun rfl rfl rfl (by simp) (fun b hl hb => setRow_other w g b _ fun e => hb (by rw [e0, e]; rfl)) (fun g' hg' => ?_) rfl ?_
        · simp [blk] at hg'; subst hg'
          exact ⟨by simp; exact (Array.getElem?_eq_some_iff.1 hg).1, .inr (by rw [e0]; rfl)⟩
        · have hcl : cur.toList.length = cur.size := Array.length_toList
          refine ⟨by simp [hvl, hnl, Nat.add_mul], .inr ⟨g, cap, _, by simp, Nat.zero_le _, setRow_heap w g cur _ e _ hg, by simpa using hroom, hcm, ?_, ?_⟩⟩
          · simp only [List.size_toArray, List.length_append, List.length_take, List.length_drop, hcl]
            omega
          · have e1 : (xs ++ ys).length * i.size = (vs ++ news).length := by simp [hvl, hnl, Nat.add_mul]
            rw [e1, htk]
            exact List.take_left
      · have hrun := run_append_grow (P := P) w t ety e i zv ht hi hz ⟨g, 0, none⟩ xs.length cap vs hown.1 hcells ad ys.length c news hnl hcell (by omega) (by simp [maxLen] at h63; omega) (grow_fits (by omega) (by rw [hby]; exact hbytes))
        rw [← e0] at hrun
        have hcap := grownCap_ge w (xs.length + ys.length) cap e
        refine fin _ _ hrun rfl rfl rfl (by simp) (fun b hl _ => heap_alloc_old w.drew _ hl) (fun g hg => ?_) rfl ?_
        · simp [blk] at hg; subst hg; exact ⟨by simp, .inl (Nat.le_refl _)⟩
        · refine ⟨by simp [hvl, hnl, Nat.add_mul], .inr ⟨w.heap.size, grownCap w (xs.length + ys.length) cap e, _, by simp, Nat.zero_le _, heap_alloc_new w.drew _, by simpa using hcap, grownCap_le_maxLen w _ _ e h63, ?_, ?_⟩⟩
          · simp only [Array.size_append, List.size_toArray, size_zeroCells, hzs, hvl, hnl]
            rw [← Nat.add_mul, ← Nat.add_mul]; congr 1; omega
          · have e1 : (xs ++ ys).length * i.size = (vs ++ news).length := by simp [hvl, hnl, Nat.add_mul]
            rw [e1]
            simp only [Array.toList_append, List.toList_toArray]
            exact List.take_left

end
end Go.Abs

namespace Go.Abs
set_option linter.unusedVariables false
set_option linter.unusedSimpArgs false
variable {P : Program}

/-! ### Tables of types -/
inductive Kin where
  | int (k : IntKind) | bool | str | float (k : FloatKind)
  deriving DecidableEq

/-- What is told of a program's types. -/
structure Tab : Type 1 where
  lay : List (Nat × (Nat × Bool))
  fld : List (Nat × List (Nat × Nat × Bool))
  slc : List (Nat × (Nat × Nat × Nat))
  arr : List (Nat × (Nat × Nat))
  kin : List (Nat × Kin)
  zero : List (Nat × List Tree)
  eqs : List (Nat × List Kin)
  fns : List Nat

def kinOf (P : Program) (t : TypeId) : Option Kin :=
  match P.underlying t with
  | some (.int k) => some (.int k)
  | some .bool => some .bool
  | some .string => some .str
  | some (.float k) => some (.float k)
  | _ => none

/-- A struct's fields: where each begins, its size, whether it is a struct or an array. -/
def fieldsAt (P : Program) (t : TypeId) : Option (List (Nat × Nat × Bool)) :=
  match P.underlying t with
  | some (.struct fs) => fs.toList.mapM fun f => (lay P f.type).bind fun x => if x.1 = 0 then none else some (f.offset, x.1, x.2)
  | _ => none

def sliceAt (P : Program) (t : TypeId) : Option (Nat × Nat × Nat) :=
  match P.underlying t with
  | some (.slice e) => (P.info? e).bind fun i => (i.zero).bind fun z => if i.size = 0 ∨ z.cells.size ≠ i.size then none else some (e, i.size, i.bytes)
  | _ => none

def arrayAt (P : Program) (t : TypeId) : Option (Nat × Nat) :=
  match P.underlying t with
  | some (.array n e) => (P.info? e).map fun i => (n, i.size)
  | _ => none

def leavesL (P : Program) (g : TypeId → Option (List Kin)) : List Field → Nat → Option (List Kin)
  | [], _ => some []
  | f :: r, o =>
    if f.name = "_" ∨ f.offset ≠ o then none else
    match g f.type, lay P f.type with
    | some m, some (n, _) => if n = m.length ∧ 0 < n then (leavesL P g r (o + n)).map (m ++ ·) else none
    | _, _ => none

/-- A struct's cells, each of a plain kind: what two of them are held against each other by. -/
def leaves (P : Program) : Nat → TypeId → Option (List Kin)
  | 0, _ => none
  | d + 1, t =>
    match P.underlying t with
    | some (.int k) => some [.int k]
    | some .bool => some [.bool]
    | some .string => some [.str]
    | some (.struct fs) => if P.stoodInHeld t then none else leavesL P (leaves P d) fs.toList 0
    | _ => none

/-- The values that are told of a type's zero. -/
def veq : Value → Value → Bool
  | .bool a, .bool b => a == b
  | .int k a, .int j b => k == j && a == b
  | .float k a, .float j b => k == j && a == b
  | .string a, .string b => a.size == 0 && b.size == 0
  | .pointer none, .pointer none => true
  | .map none, .map none => true
  | .nilFunc, .nilFunc => true
  | .nilIface, .nilIface => true
  | .slice none a b, .slice none c d => a == 0 && b == 0 && c == 0 && d == 0
  | _, _ => false

theorem veq_eq {a b : Value} (h : veq a b = true) : a = b ∧ a.oneCell' = true := by
  unfold veq at h
  split at h <;> simp at h
  · subst h; exact ⟨rfl, rfl⟩
  · obtain ⟨rfl, rfl⟩ := h; exact ⟨rfl, rfl⟩
  · obtain ⟨rfl, rfl⟩ := h; exact ⟨rfl, rfl⟩
  · obtain ⟨rfl, rfl⟩ := h; exact ⟨rfl, rfl⟩
  · exact ⟨rfl, rfl⟩
  · exact ⟨rfl, rfl⟩
  · exact ⟨rfl, rfl⟩
  · exact ⟨rfl, rfl⟩
  · obtain ⟨⟨⟨rfl, rfl⟩, rfl⟩, rfl⟩ := h; exact ⟨rfl, rfl⟩

def zeroOne : Value → Tree → Bool
  | .slice none 0 0, .ro _ _ _ xs => match xs with | [] => true | _ => false
  | v, .lit u => veq v u
  | _, _ => false

def zeroChk : List Value → List Tree → Bool
  | [], [] => true
  | v :: r, t :: l => zeroOne v t && zeroChk r l
  | _, _ => false

theorem zeroOne_tr {O : Nat → Prop} {w : World} {v : Value} {t : Tree} (h : zeroOne v t = true) : TR O w v t := by
  unfold zeroOne at h
  split at h
  · split at h
    · exact .nil ..
    · cases h
  · obtain ⟨rfl, h1⟩ := veq_eq h; exact .lit _ h1
  · cases h

theorem TRs.cons {O : Nat → Prop} {w : World} {v : Value} {t : Tree} {vs : List Value} {ts : List Tree} (h : TR O w v t) (hs : TRs O w vs ts) : TRs O w (v :: vs) (t :: ts) := by
  refine ⟨by simp [hs.1], fun k u d hu hd => ?_⟩
  cases k with
  | zero => simp at hu hd; subst hu; subst hd; exact h
  | succ k => simp at hu hd; exact hs.2 k u d hu hd

theorem zeroChk_trs {O : Nat → Prop} {w : World} : ∀ {vs : List Value} {ts : List Tree}, zeroChk vs ts = true → TRs O w vs ts
  | [], [], _ => ⟨rfl, by simp⟩
  | v :: r, t :: l, h => by
    simp only [zeroChk, Bool.and_eq_true] at h
    exact .cons (zeroOne_tr h.1) (zeroChk_trs h.2)
  | [], _ :: _, h => by simp [zeroChk] at h
  | _ :: _, [], h => by simp [zeroChk] at h

def zeroAt (P : Program) (t : TypeId) (ts : List Tree) : Bool :=
  match P.info? t with
  | some i => match i.zero with
    | some z => zeroChk z.cells.toList ts
    | none => false
  | none => false

/-- A function that is entered by its number. -/
def entered (P : Program) (f : Nat) : Bool :=
  match P.funcs[f]? with
  | some fn => !(fn.name == "runtime.NumGoroutine") && !fn.body.isNone
  | none => false

/-- The tables tell what the program has. -/
def Tab.chk (tb : Tab) (P : Program) : Bool :=
  (tb.lay.all fun x => Abs.lay P x.1 == some x.2) && (tb.fld.all fun x => fieldsAt P x.1 == some x.2) && (tb.slc.all fun x => Abs.sliceAt P x.1 == some x.2) && (tb.arr.all fun x => Abs.arrayAt P x.1 == some x.2) &&
  (tb.kin.all fun x => kinOf P x.1 == some x.2) && (tb.zero.all fun x => zeroAt P x.1 x.2) && (tb.eqs.all fun x => leaves P 100 x.1 == some x.2 && !P.eqGuardType P.depth x.1 && Abs.lay P x.1 == some (x.2.length, true)) && (tb.fns.all fun f => entered P f) && P.follows .mixedOrders

structure TabOk (P : Program) (tb : Tab) : Prop where
  lay : ∀ {t x}, look t tb.lay = some x → Abs.lay P t = some x
  fld : ∀ {t x}, look t tb.fld = some x → fieldsAt P t = some x
  slc : ∀ {t x}, look t tb.slc = some x → Abs.sliceAt P t = some x
  arr : ∀ {t x}, look t tb.arr = some x → Abs.arrayAt P t = some x
  kin : ∀ {t x}, look t tb.kin = some x → kinOf P t = some x
  zero : ∀ {t x}, look t tb.zero = some x → zeroAt P t x = true
  eqs : ∀ {t x}, look t tb.eqs = some x → (leaves P 100 t = some x ∧ P.eqGuardType P.depth t = false) ∧ Abs.lay P t = some (x.length, true)
  fns : ∀ {f}, f ∈ tb.fns → entered P f = true
  mixed : P.follows .mixedOrders = true

theorem TabOk.of_chk {tb : Tab} (h : tb.chk P = true) : TabOk P tb := by
  simp only [Tab.chk, Bool.and_eq_true, List.all_eq_true, beq_iff_eq, Bool.not_eq_true'] at h
  obtain ⟨⟨⟨⟨⟨⟨⟨⟨h1, h2⟩, h3⟩, h4⟩, h5⟩, h6⟩, h7⟩, h8⟩, h9⟩ := h
  exact ⟨fun h => h1 _ (look_mem h), fun h => h2 _ (look_mem h), fun h => h3 _ (look_mem h), fun h => h4 _ (look_mem h), fun h => h5 _ (look_mem h), fun h => h6 _ (look_mem h), fun h => h7 _ (look_mem h), fun h => h8 _ h, h9⟩

/-! ### Operands -/
def constAT (v : Value) : Option AT :=
  match v with
  | .agg cs => bif cs.toList.all Value.oneCell' then some (.v true (cs.toList.map fun u => .t (.lit u))) else none
  | .tuple cs => match cs.toList with | [] => some (.tp []) | _ => none
  | v => some (.v false [.t (.lit v)])

def opT (s : St) : Operand → Option (Gd × AT)
  | .tmp t => look t s.env
  | .const v => (constAT v).map fun x => (.yes, x)
  | .func f => some (.yes, .v false [.clo f []])
  | .global _ => none

section
variable {W : World} {A K : Nat → Prop} {s : St} {a : Act} {w : World} {ρ : Nat → Value}

theorem constAT_ar {O : Nat → Prop} {H : Nat → Option Obj} {v : Value} {x : AT} (h : constAT v = some x) : AR O ρ H w v x := by
  unfold constAT at h
  split at h
  · rename_i cs
    cases hb : cs.toList.all Value.oneCell' with
    | false => rw [hb] at h; cases h
    | true =>
      rw [hb] at h; simp at h; subst h
      refine ⟨cs.toList, by simp, ⟨by simp, fun k v c hv hc => ?_⟩⟩
      simp only [List.getElem?_map, Option.map_eq_some_iff] at hc
      obtain ⟨u, hu, rfl⟩ := hc
      rw [hv] at hu; simp at hu; subst hu
      refine .t (.lit _ ?_)
      rw [List.all_eq_true] at hb
      exact hb v (List.mem_of_getElem? hv)
  · rename_i cs
    split at h
    · rename_i hn
      injection h with h; subst h
      refine ⟨[], ?_, rfl, by simp⟩
      obtain ⟨l⟩ := cs
      simp at hn; subst hn; rfl
    · cases h
  · injection h with h; subst h
    rename_i h1 h2
    refine ⟨_, rfl, .t (.lit _ ?_)⟩
    cases v <;> first | rfl | (exact absurd rfl (h1 _)) | (exact absurd rfl (h2 _))

theorem opT_sound (h : Rel W A K s a w ρ) {x : Operand} {g : Gd} {t : AT} (hx : opT s x = some (g, t)) (hg : g.val = true) : AR (s.O A ρ) ρ s.H w (a.eval x) t := by
  cases x with
  | tmp k =>
    obtain ⟨v, hv, hr, _⟩ := h.env k g t hx
    have : a.eval (.tmp k) = v := by simp [Act.eval, Array.getD_eq_getD_getElem?, hv]
    rw [this]; exact hr hg
  | const v =>
    simp only [opT, Option.map_eq_some_iff] at hx
    obtain ⟨y, hy, he⟩ := hx
    injection he with _ he; subst he
    exact constAT_ar hy
  | func f =>
    simp only [opT] at hx
    injection hx with hx; injection hx with _ hx; subst hx
    refine ⟨_, rfl, ?_⟩
    exact CR.clo (f := f) (caps := []) [] rfl (by simp)
  | global g => cases hx

theorem opT_has {x : Operand} {g : Gd} {t : AT} (hx : opT s x = some (g, t)) (id : Nat) (hi : t.has id = true) : s.has id = true := by
  cases x with
  | tmp k => exact St.has_env hx hi
  | const v =>
    exfalso
    simp only [opT, Option.map_eq_some_iff] at hx
    obtain ⟨y, hy, he⟩ := hx
    injection he with _ he; subst he
    unfold constAT at hy
    split at hy
    · rename_i cs
      cases hb : cs.toList.all Value.oneCell' with
      | false => rw [hb] at hy; cases hy
      | true =>
        rw [hb] at hy; simp at hy; subst hy
        simp only [AT.has] at hi
        have : ∀ l : List Value, hasL id (l.map fun u => Cell.t (.lit u)) = false := fun l => by
          induction l with
          | nil => rfl
          | cons c r ih => simp [hasL, Cell.has, ih]
        rw [this] at hi; cases hi
    · split at hy
      · injection hy with hy; subst hy; simp [AT.has] at hi
      · cases hy
    · injection hy with hy; subst hy; simp [AT.has, hasL, Cell.has] at hi
  | func f =>
    simp only [opT] at hx
    injection hx with hx; injection hx with _ hx; subst hx
    simp [AT.has, hasL, Cell.has] at hi
  | global g => cases hx

end
end Go.Abs

namespace Go.Abs
set_option linter.unusedVariables false
set_option linter.unusedSimpArgs false
variable {P : Program}

/-! ### Structs held against each other -/
def leafEq : Kin → Value → Value → Option Bool
  | .int _, .int k a, .int j b => if k = j then some (a == b) else none
  | .bool, .bool a, .bool b => some (a == b)
  | .str, .string a, .string b => some (a.toList == b.toList)
  | _, _, _ => none

def eqVals : List Kin → List Value → List Value → Option Bool
  | [], [], [] => some true
  | k :: ks, a :: as, b :: bs => (leafEq k a b).bind fun x => (eqVals ks as bs).map fun y => x && y
  | _, _, _ => none

theorem eqVals_len : ∀ {ks : List Kin} {as bs : List Value} {x : Bool}, eqVals ks as bs = some x → as.length = ks.length ∧ bs.length = ks.length
  | [], [], [], _, _ => ⟨rfl, rfl⟩
  | k :: ks, a :: as, b :: bs, x, h => by
    simp only [eqVals, Option.bind_eq_some_iff, Option.map_eq_some_iff] at h
    obtain ⟨_, _, y, hy, _⟩ := h
    have := eqVals_len hy
    simp [this.1, this.2]
  | [], _ :: _, _, _, h => by simp [eqVals] at h
  | [], [], _ :: _, _, h => by simp [eqVals] at h
  | _ :: _, [], _, _, h => by simp [eqVals] at h
  | _ :: _, _ :: _, [], _, h => by simp [eqVals] at h

theorem eqVals_split : ∀ {ks ms : List Kin} {as bs : List Value} {x : Bool}, eqVals (ks ++ ms) as bs = some x →
    ∃ y z, eqVals ks (as.take ks.length) (bs.take ks.length) = some y ∧ eqVals ms (as.drop ks.length) (bs.drop ks.length) = some z ∧ x = (y && z)
  | [], ms, as, bs, x, h => ⟨true, x, by simp [eqVals], by simpa using h, by simp⟩
  | k :: ks, ms, a :: as, b :: bs, x, h => by
    simp only [List.cons_append, eqVals, Option.bind_eq_some_iff, Option.map_eq_some_iff] at h
    obtain ⟨u, hu, v, hv, rfl⟩ := h
    obtain ⟨y, z, hy, hz, rfl⟩ := eqVals_split hv
    refine ⟨u && y, z, ?_, by simpa using hz, by simp [Bool.and_assoc]⟩
    simp only [List.length_cons, List.take_succ_cons, eqVals, hu, hy, Option.bind_some, Option.map_some]
  | _ :: _, _, [], _, _, h => by simp [eqVals] at h
  | _ :: _, _, _ :: _, [], _, h => by simp [eqVals] at h

theorem run_part {t : TypeId} {n : Nat} {b : Bool} (h : lay P t = some (n, b)) (w : World) (vs : List Value) (off : Nat) (hl : off + n ≤ vs.length) (h1 : b = false → n = 1) :
    ∃ v, (part t vs.toArray off).run P w = .ok v w ∧ (match b with | true => v = .agg ((vs.drop off).take n).toArray | false => (vs.drop off).take n = [v]) := by
  obtain ⟨i, d, hi, hd, hs, hb⟩ := lay_spec h
  have hag := run_isAgg hd w
  cases b with
  | true =>
    refine ⟨.agg ((vs.drop off).take n).toArray, ?_, rfl⟩
    simp [part, hag, hb, sizeOf, typeInfo, hi, hs]
  | false =>
    have hn := h1 rfl
    subst hn
    have hlt : off < vs.length := by omega
    refine ⟨vs[off], ?_, ?_⟩
    · simp [part, hag, hb, hlt]
    · rw [List.drop_eq_getElem_cons hlt]; rfl

def valOf (b : Bool) (vs : List Value) : Value := match b, vs with
  | true, vs => .agg vs.toArray
  | false, v :: _ => v
  | false, [] => undef

theorem run_part' {t : TypeId} {n : Nat} {b : Bool} (h : lay P t = some (n, b)) (w : World) (vs : List Value) (off : Nat) (hl : off + n ≤ vs.length) (h1 : b = false → n = 1) :
    (part t vs.toArray off).run P w = .ok (valOf b ((vs.drop off).take n)) w := by
  obtain ⟨v, hv, hm⟩ := run_part h w vs off hl h1
  rw [hv]
  cases b with
  | true => simp only at hm; rw [hm]; rfl
  | false => simp only at hm; rw [hm]; rfl

theorem leaves_row {d : Nat} {t : TypeId} {ks : List Kin} (h : leaves P d t = some ks) {n : Nat} {b : Bool} (hl : lay P t = some (n, b)) : b = false → ks.length = 1 := by
  intro hb
  obtain ⟨i, de, hi, hd, hs, hb'⟩ := lay_spec hl
  cases d with
  | zero => simp [leaves] at h
  | succ d =>
    simp only [leaves, hd] at h
    cases de <;> simp [TypeDesc.isRow] at hb' h <;> first
      | (rw [← h]; rfl)
      | (rw [hb] at hb'; cases hb')

theorem leaves_equal : ∀ (d : Nat) (t : TypeId) (ks : List Kin), leaves P d t = some ks → ∀ {n : Nat} {b : Bool}, lay P t = some (n, b) → ∀ (e : Nat), d ≤ e → ∀ (w : World) (as bs : List Value) (x : Bool), eqVals ks as bs = some x →
    (Op.equalIn e t (valOf b as) (valOf b bs)).run P w = .ok x w
  | 0, t, ks, h, _, _, _, _, _, _, _, _, _, _ => by simp [leaves] at h
  | d + 1, t, ks, h, n, b, hl, 0, he, _, _, _, _, _ => by omega
  | d + 1, t, ks, h, n, b, hl, e + 1, he, w, as, bs, x, hx => by
    obtain ⟨i, de, hi, hd, hs, hb⟩ := lay_spec hl
    simp only [leaves, hd] at h
    have one : ∀ k : Kin, ks = [k] → ∃ u v, as = [u] ∧ bs = [v] ∧ leafEq k u v = some x := by
      rintro k rfl
      match as, bs, hx with
      | [u], [v], hx =>
        refine ⟨u, v, rfl, rfl, ?_⟩
        simp only [eqVals, Option.bind_eq_some_iff, Option.map_some, Option.some.injEq] at hx
        obtain ⟨y, hy, rfl⟩ := hx
        simpa using hy
      | [], _, hx => simp [eqVals] at hx
      | _ :: _, [], hx => simp [eqVals] at hx
      | [_], _ :: _ :: _, hx => simp [eqVals] at hx
      | _ :: _ :: _, [_], hx => simp [eqVals] at hx
      | _ :: _ :: _, _ :: _ :: _, hx => simp [eqVals] at hx
    cases de with
    | int k =>
      simp at h
      obtain ⟨u, v, rfl, rfl, hu⟩ := one _ h.symm
      have hbf : b = false := hb.symm
      subst hbf
      unfold leafEq at hu
      split at hu
      · split at hu
        · rename_i hk; simp at hu; subst hu; subst hk; exact run_equalIn_int w e t _ _ _ _ hd
        · cases hu
      · rename_i h1; simp at h1
      · rename_i h1; simp at h1
      · cases hu
    | bool =>
      simp at h
      obtain ⟨u, v, rfl, rfl, hu⟩ := one _ h.symm
      have hbf : b = false := hb.symm
      subst hbf
      unfold leafEq at hu
      split at hu
      · rename_i h1; simp at h1
      · simp at hu; subst hu; exact run_equalIn_bool' w e t _ _ hd
      · rename_i h1; simp at h1
      · cases hu
    | string =>
      simp at h
      obtain ⟨u, v, rfl, rfl, hu⟩ := one _ h.symm
      have hbf : b = false := hb.symm
      subst hbf
      unfold leafEq at hu
      split at hu
      · rename_i h1; simp at h1
      · rename_i h1; simp at h1
      · simp at hu; subst hu; exact run_equalIn_string w e t _ _ hd
      · cases hu
    | struct fs =>
      have hbt : b = true := hb.symm
      subst hbt
      simp only at h
      split at h
      · cases h
      rename_i hp
      have hfo : P.fieldsOf t = fs := by simp [Program.fieldsOf, hd]
      show (Op.equalIn (e + 1) t (.agg as.toArray) (.agg bs.toArray)).run P w = .ok x w
      rw [run_equalIn_agg w e t _ _ (by rw [hfo]; exact hd) (by simpa using hp), hfo]
      have key : ∀ (l : List Field) (o : Nat) (ks : List Kin), leavesL P (leaves P d) l o = some ks → ∀ x, eqVals ks (as.drop o) (bs.drop o) = some x → (Op.eqFields e as.toArray bs.toArray l).run P w = .ok x w := by
        intro l
        induction l with
        | nil =>
          intro o ks h x hx
          simp only [leavesL, Option.some.injEq] at h
          subst h
          have hl := eqVals_len hx
          have e1 : as.drop o = [] := List.length_eq_zero_iff.1 hl.1
          have e2 : bs.drop o = [] := List.length_eq_zero_iff.1 hl.2
          rw [e1, e2] at hx
          simp [eqVals] at hx
          subst hx
          simp [Op.eqFields]
        | cons f r ih =>
          intro o ks h x hx
          simp only [leavesL] at h
          split at h
          · cases h
          rename_i hno
          have hnm : ¬ f.name = "_" := fun e => hno (.inl e)
          have hof : f.offset = o := Classical.byContradiction fun e => hno (.inr e)
          split at h
          · rename_i m nf bf hm hlf
            split at h
            · rename_i hnm0
              obtain ⟨hnm2, hnpos⟩ := hnm0
              simp only [Option.map_eq_some_iff] at h
              obtain ⟨ks', hk', rfl⟩ := h
              obtain ⟨y, z, hy, hz, rfl⟩ := eqVals_split hx
              have hlen := eqVals_len hx
              simp only [List.length_drop, List.length_append] at hlen
              have hrow := leaves_row hm hlf
              have pa := run_part' hlf w as o (by omega) (fun e => by rw [hnm2]; exact hrow e)
              have pb := run_part' hlf w bs o (by omega) (fun e => by rw [hnm2]; exact hrow e)
              have hq := leaves_equal d f.type m hm hlf e (by omega) w _ _ y hy
              rw [hnm2] at pa pb
              have hrest := ih (o + nf) ks' hk' z (by rw [hnm2, ← List.drop_drop, ← List.drop_drop]; exact hz)
              simp only [Op.eqFields, ne_eq, hnm, not_false_eq_true, if_true, Sem.run_bind, hof, pa, pb, Result.andThen_ok, hq]
              cases y with
              | false => simp
              | true => simpa using hrest
            · cases h
          · cases h
      exact key fs.toList 0 ks h x (by simpa using hx)
    | _ => simp at h

end Go.Abs
