/- A part of the proofs of this seat: what functions of the program compute, and what follows from it; without conditions. -/
import Derived.Test.YtoooalfhjcfinaaA5
import Derived.Deep.Slices
import Derived.WideShapes
import Derived.Below
import Derived.Test.YtoooalfhjcfinaaChecked

namespace Go.Abs
open Go.ChangeShapes Go.WideShapes Go.Deep Go.RowKit
set_option linter.unusedVariables false

/-! ### Arguments, as they are read -/
section
variable {H : Type} {enc0 : TypeId × Value → H} {P : Program} {w : World} {base : Nat} {spare : Nat → Bool} {held : Bool}

abbrev no (_ : Nat) : Prop := False

/-- Whatever is read of type t is told by enc, and Q holds of it. -/
def Rds (enc0 : TypeId × Value → H) (P : Program) (w : World) (base : Nat) (spare : Nat → Bool) (held : Bool) (t : TypeId) {T : Type} (enc : T → List Tree) (Q : T → Prop) : Prop :=
  ∀ fuel cs x, DataW.trod enc0 P w base spare held fuel t cs = some x → ∃ z, TRs no w cs (enc z) ∧ Q z

theorem TRs.one {O : Nat → Prop} {v : Value} {t : Tree} (h : TR O w v t) : TRs O w [v] [t] := by
  refine ⟨rfl, fun k u x hu hx => ?_⟩
  cases k with
  | zero => simp at hu hx; subst hu; subst hx; exact h
  | succ k => simp at hu

theorem TRs.app {O : Nat → Prop} {vs vs' : List Value} {ts ts' : List Tree} (h : TRs O w vs ts) (h' : TRs O w vs' ts') : TRs O w (vs ++ vs') (ts ++ ts') := by
  refine ⟨by simp [h.1, h'.1], fun k v t hv ht => ?_⟩
  by_cases hk : k < vs.length
  · rw [List.getElem?_append_left hk] at hv
    rw [List.getElem?_append_left (by rw [← h.1]; exact hk)] at ht
    exact h.2 k v t hv ht
  · have hk' : vs.length ≤ k := Nat.le_of_not_lt hk
    rw [List.getElem?_append_right hk'] at hv
    rw [List.getElem?_append_right (by rw [← h.1]; exact hk'), ← h.1] at ht
    exact h'.2 _ v t hv ht

theorem TRs.glue {O : Nat → Prop} {cs : List Value} {off n off' : Nat} {ts rest : List Tree} (h : TRs O w ((cs.drop off).take n) ts) (e : off + n = off') (h' : TRs O w (cs.drop off') rest) : TRs O w (cs.drop off) (ts ++ rest) := by
  have := h.app h'
  rwa [← e, ← List.drop_drop, List.take_append_drop] at this

theorem TRs.fin {O : Nat → Prop} {cs : List Value} {off : Nat} (h : cs.length = off) : TRs O w (cs.drop off) [] := by
  rw [List.drop_of_length_le (by omega)]
  exact ⟨rfl, by simp⟩

theorem rd_int {t : TypeId} {k : IntKind} (ht : P.underlying t = some (.int k)) : Rds enc0 P w base spare held t (fun n : Int => [.lit (.int k n)]) (fun n => (Lit.int k n).wf = true) := by
  intro fuel cs x h
  obtain ⟨n, rfl, _, hw⟩ := DataW.trod_int ht h
  exact ⟨n, .one (.lit _ rfl), hw⟩

theorem rd_bool {t : TypeId} (ht : P.underlying t = some .bool) : Rds enc0 P w base spare held t (fun b : Bool => [.lit (.bool b)]) (fun _ => True) := by
  intro fuel cs x h
  obtain ⟨n, rfl, _⟩ := DataW.trod_bool ht h
  exact ⟨n, .one (.lit _ rfl), trivial⟩

theorem rd_str {t : TypeId} (ht : P.underlying t = some .string) : Rds enc0 P w base spare held t (fun b : ByteArray => [.lit (.string b)]) (fun b => b.size ≤ maxLen) := by
  intro fuel cs x h
  obtain ⟨n, rfl, _, hw⟩ := DataW.trod_string ht h
  exact ⟨n, .one (.lit _ rfl), hw⟩

theorem rd_slice {t e : TypeId} {T : Type} {enc : T → List Tree} {Q : T → Prop} {es : Nat} (z0 : T) (ht : P.underlying t = some (.slice e)) (he : P.cellsOf e = es) (hlen : ∀ z, (enc z).length = es) (hr : ∀ {base}, Rds enc0 P w base spare held e enc Q) :
    Rds enc0 P w base spare held t (fun xs : List T => [.ro es enc z0 xs]) (fun xs => xs.length ≤ maxLen ∧ ∀ x ∈ xs, Q x) := by
  intro fuel cs x h
  rcases open_slice ht h with ⟨rfl, _⟩ | ⟨a, len, cap, m, n, D, Pl, rfl, hb, hl, hm, hmm, _, hx⟩
  · exact ⟨[], .one (.nil ..), by simp, by simp⟩
  · have hlm : len ≤ m := by rw [hmm]; split <;> omega
    haveI : Inhabited (List Value × T) := ⟨([], z0)⟩
    obtain ⟨F, hF⟩ := choose_lt (α := List Value × T) (n := len) (p := fun i y => w.cells? base (a.add (i * es)) es = some y.1 ∧ TRs no w y.1 (enc y.2) ∧ Q y.2) (fun i hi => by
      obtain ⟨cs', h1, h2⟩ := hx i (by omega)
      obtain ⟨z, hz, hq⟩ := hr n cs' _ h2
      exact ⟨(cs', z), by rw [← he]; exact h1, hz, hq⟩)
    have key : ∀ l, l ≤ len → ((List.range l).flatMap fun i => (F i).1).length = l * es ∧ TRs no w ((List.range l).flatMap fun i => (F i).1) (((List.range l).map fun i => (F i).2).flatMap enc) ∧
        ∀ (k : Nat) v, ((List.range l).flatMap fun i => (F i).1)[k]? = some v → w.cell? (a.add k) = some v := by
      intro l
      induction l with
      | zero => intro _; exact ⟨by simp, ⟨rfl, by simp⟩, by simp⟩
      | succ l ih =>
        intro hle
        obtain ⟨i1, i2, i3⟩ := ih (by omega)
        obtain ⟨f1, f2, f3⟩ := hF l (by omega)
        obtain ⟨_, c1, c2⟩ := World.cells?_some f1
        rw [List.range_succ, List.flatMap_append, List.map_append, List.flatMap_append]
        simp only [List.flatMap_cons, List.flatMap_nil, List.append_nil, List.map_cons, List.map_nil]
        refine ⟨by rw [List.length_append, i1, c1, Nat.succ_mul], i2.app f2, fun k v hk => ?_⟩
        by_cases hlt : k < l * es
        · rw [List.getElem?_append_left (by rw [i1]; exact hlt)] at hk
          exact i3 k v hk
        · rw [List.getElem?_append_right (by rw [i1]; omega), i1] at hk
          have hj : k - l * es < es := by have := (List.getElem?_eq_some_iff.1 hk).1; omega
          have := c2 (k - l * es) hj
          rw [Deep.add_add, show l * es + (k - l * es) = k by omega] at this
          rw [this, hk]
    obtain ⟨k1, k2, k3⟩ := key len (Nat.le_refl _)
    have hxl : ((List.range len).map fun i => (F i).2).length = len := by simp
    refine ⟨(List.range len).map fun i => (F i).2, .one ?_, by rw [hxl]; omega, fun x hx => ?_⟩
    · have := TR.ro (O := no) (w := w) (es := es) (enc := enc) (z := z0) (xs := (List.range len).map fun i => (F i).2) a cap ((List.range len).flatMap fun i => (F i).1) (by rw [hxl]; exact hl) hm (fun x _ => hlen x) k2.1 k3 (.inr fun h => h) k2.2
      rwa [hxl] at this
    · simp only [List.mem_map, List.mem_range] at hx
      obtain ⟨i, hi, rfl⟩ := hx
      exact (hF i hi).2.2

theorem rd_field {T : Type} {enc : T → List Tree} {Q : T → Prop} {t : TypeId} {n i : Nat} {cs : List Value} {xs : List (DataW H × List MemPlace)} (h : Rds enc0 P w base spare held t enc Q)
    (hf : DataW.trod enc0 P w base spare held n t cs = xs[i]?) (hi : i < xs.length) : ∃ z, TRs no w cs (enc z) ∧ Q z := by
  rw [List.getElem?_eq_getElem hi] at hf
  exact h n cs _ hf

/-- What a call leaves, told as the row wants it. -/
theorem Ext.below {K : Nat → Prop} {W w : World} (h : Ext K W w) (hK : ∀ b, b < W.heap.size → K b) : Below W.heap.size W w :=
  ⟨h.os, h.tape, h.output, h.size, fun b hb => h.block b (hK b hb)⟩

theorem TRs.ars {vs : List Value} {ts : List Tree} {O : Nat → Prop} {ρ : Nat → Value} (hO : ∀ b, ¬ O b) (h : TRs no w vs ts) : AR O ρ (fun _ => none) w (.agg vs.toArray) (.v true (ts.map .t)) :=
  ⟨vs, rfl, (h.mono (fun _ _ _ => rfl) (fun b _ hb => hO b hb)).crs⟩

/-- A call that is handed nothing of its caller's own, and answers true. -/
theorem AC.law {f : FuncId} {vs : List Value} {args : List AT} {W : World} (h : AC P f [] args [] (v1 (cb true))) (hargs : ARs no (fun _ => undef) (fun _ => none) W vs args) :
    Calls P f vs.toArray W fun e w' => e = .returned (.bool true) ∧ Below W.heap.size W w' := by
  have hn : ∀ {ρ : Nat → Value} {b : Nat}, ¬ owned ρ (look · ([] : List (Nat × Obj))) b := by
    rintro ρ b ⟨id, o, ho, _⟩; simp [look] at ho
  refine (h W no (fun _ => undef) vs (fun b hb => hb.elim) ⟨fun id o ho => by simp [look] at ho, fun i j a b g hi => by simp [look] at hi, fun id o g ho => by simp [look] at ho⟩ (fun id o g ho => by simp [look] at ho) ?_).mono ?_
  · exact ⟨hargs.1, fun k v x hv hx => (hargs.2 k v x hv hx).mono (fun _ _ _ => rfl) (fun b _ hb => (hb.elim (fun h => h) (fun h => hn h))) (fun id o' _ ho => by simp [look] at ho)⟩
  · rintro e w' ⟨ρ', v, rfl, hext, _, _, hv⟩
    obtain ⟨c, hc, hv⟩ := hv
    simp at hc; subst hc
    have := hv.tr
    cases this with
    | lit => exact ⟨rfl, hext.below fun b hb => ⟨hb, hn⟩⟩
end
end Go.Abs

namespace Go.Proofs.Ytoooalfhjcfinaa.T
open Go.Abs
set_option linter.unusedVariables false
set_option maxRecDepth 100000

def i64 (n : Int) : Prop := (Lit.int .i64 n).wf = true
theorem cell9 : Try.prog.cellsOf 9 = 1 := by kernel_rfl
theorem cell4 : Try.prog.cellsOf 4 = 1 := by kernel_rfl
theorem cell22 : Try.prog.cellsOf 22 = 1 := by kernel_rfl
theorem cell31 : Try.prog.cellsOf 31 = 1 := by kernel_rfl
theorem cell33 : Try.prog.cellsOf 33 = 5 := by kernel_rfl
theorem cell3 : Try.prog.cellsOf 3 = 1 := by kernel_rfl
def qIns (x : Ins) : Prop := (Lit.int .i64 x.Op).wf = true ∧ (Lit.int .i64 x.A).wf = true ∧ (Lit.int .i64 x.B).wf = true ∧ (Lit.int .i64 x.C).wf = true ∧ (Lit.int .i64 x.Imm).wf = true
theorem rd33 {H : Type} {enc0 : TypeId × Value → H} {w : World} {base : Nat} {spare : Nat → Bool} {held : Bool} : Rds enc0 Try.prog w base spare held 33 cIns qIns := by
  intro fuel cs x h
  obtain ⟨xs, n, _, _, hl, hx, hf⟩ := DataW.trod_struct Try.underlying33 h
  have hx : xs.length = 5 := hx
  have hl : cs.length = 5 := hl.trans cell33
  have g0 : DataW.trod enc0 Try.prog w base spare held n 3 ((cs.drop 0).take (Try.prog.cellsOf 3)) = xs[0]? := hf 0 _ rfl
  rw [cell3] at g0
  obtain ⟨z0, t0, q0⟩ := rd_field (rd_int Try.underlying3) g0 (by omega)
  have g1 : DataW.trod enc0 Try.prog w base spare held n 3 ((cs.drop 1).take (Try.prog.cellsOf 3)) = xs[1]? := hf 1 _ rfl
  rw [cell3] at g1
  obtain ⟨z1, t1, q1⟩ := rd_field (rd_int Try.underlying3) g1 (by omega)
  have g2 : DataW.trod enc0 Try.prog w base spare held n 3 ((cs.drop 2).take (Try.prog.cellsOf 3)) = xs[2]? := hf 2 _ rfl
  rw [cell3] at g2
  obtain ⟨z2, t2, q2⟩ := rd_field (rd_int Try.underlying3) g2 (by omega)
  have g3 : DataW.trod enc0 Try.prog w base spare held n 3 ((cs.drop 3).take (Try.prog.cellsOf 3)) = xs[3]? := hf 3 _ rfl
  rw [cell3] at g3
  obtain ⟨z3, t3, q3⟩ := rd_field (rd_int Try.underlying3) g3 (by omega)
  have g4 : DataW.trod enc0 Try.prog w base spare held n 3 ((cs.drop 4).take (Try.prog.cellsOf 3)) = xs[4]? := hf 4 _ rfl
  rw [cell3] at g4
  obtain ⟨z4, t4, q4⟩ := rd_field (rd_int Try.underlying3) g4 (by omega)
  refine ⟨⟨z0, z1, z2, z3, z4⟩, ?_, q0, q1, q2, q3, q4⟩
  exact TRs.glue (off := 0) (n := 1) (off' := 1) t0 rfl (TRs.glue (off := 1) (n := 1) (off' := 2) t1 rfl (TRs.glue (off := 2) (n := 1) (off' := 3) t2 rfl (TRs.glue (off := 3) (n := 1) (off' := 4) t3 rfl (TRs.glue (off := 4) (n := 1) (off' := 5) t4 rfl (TRs.fin hl)))))
theorem cell35 : Try.prog.cellsOf 35 = 9 := by kernel_rfl
def qOp (x : Op') : Prop := qIns x.Ins ∧ True ∧ (Lit.int .i64 x.Kind).wf = true ∧ (Lit.int .i64 x.To).wf = true ∧ (Lit.int .i64 x.Add).wf = true
theorem rd35 {H : Type} {enc0 : TypeId × Value → H} {w : World} {base : Nat} {spare : Nat → Bool} {held : Bool} : Rds enc0 Try.prog w base spare held 35 cOp qOp := by
  intro fuel cs x h
  obtain ⟨xs, n, _, _, hl, hx, hf⟩ := DataW.trod_struct Try.underlying35 h
  have hx : xs.length = 5 := hx
  have hl : cs.length = 9 := hl.trans cell35
  have g0 : DataW.trod enc0 Try.prog w base spare held n 33 ((cs.drop 0).take (Try.prog.cellsOf 33)) = xs[0]? := hf 0 _ rfl
  rw [cell33] at g0
  obtain ⟨z0, t0, q0⟩ := rd_field rd33 g0 (by omega)
  have g1 : DataW.trod enc0 Try.prog w base spare held n 4 ((cs.drop 5).take (Try.prog.cellsOf 4)) = xs[1]? := hf 1 _ rfl
  rw [cell4] at g1
  obtain ⟨z1, t1, q1⟩ := rd_field (rd_bool Try.underlying4) g1 (by omega)
  have g2 : DataW.trod enc0 Try.prog w base spare held n 3 ((cs.drop 6).take (Try.prog.cellsOf 3)) = xs[2]? := hf 2 _ rfl
  rw [cell3] at g2
  obtain ⟨z2, t2, q2⟩ := rd_field (rd_int Try.underlying3) g2 (by omega)
  have g3 : DataW.trod enc0 Try.prog w base spare held n 3 ((cs.drop 7).take (Try.prog.cellsOf 3)) = xs[3]? := hf 3 _ rfl
  rw [cell3] at g3
  obtain ⟨z3, t3, q3⟩ := rd_field (rd_int Try.underlying3) g3 (by omega)
  have g4 : DataW.trod enc0 Try.prog w base spare held n 3 ((cs.drop 8).take (Try.prog.cellsOf 3)) = xs[4]? := hf 4 _ rfl
  rw [cell3] at g4
  obtain ⟨z4, t4, q4⟩ := rd_field (rd_int Try.underlying3) g4 (by omega)
  refine ⟨⟨z0, z1, z2, z3, z4⟩, ?_, q0, q1, q2, q3, q4⟩
  exact TRs.glue (off := 0) (n := 5) (off' := 5) t0 rfl (TRs.glue (off := 5) (n := 1) (off' := 6) t1 rfl (TRs.glue (off := 6) (n := 1) (off' := 7) t2 rfl (TRs.glue (off := 7) (n := 1) (off' := 8) t3 rfl (TRs.glue (off := 8) (n := 1) (off' := 9) t4 rfl (TRs.fin hl)))))
theorem cell37 : Try.prog.cellsOf 37 = 11 := by kernel_rfl
def qTerm (x : Term) : Prop := (Lit.int .i64 x.Kind).wf = true ∧ (Lit.int .i64 x.Op).wf = true ∧ (Lit.int .i64 x.A).wf = true ∧ (Lit.int .i64 x.B).wf = true ∧ (Lit.int .i64 x.To).wf = true ∧ (Lit.int .i64 x.Else).wf = true ∧ qIns x.Ins
theorem rd37 {H : Type} {enc0 : TypeId × Value → H} {w : World} {base : Nat} {spare : Nat → Bool} {held : Bool} : Rds enc0 Try.prog w base spare held 37 cTerm qTerm := by
  intro fuel cs x h
  obtain ⟨xs, n, _, _, hl, hx, hf⟩ := DataW.trod_struct Try.underlying37 h
  have hx : xs.length = 7 := hx
  have hl : cs.length = 11 := hl.trans cell37
  have g0 : DataW.trod enc0 Try.prog w base spare held n 3 ((cs.drop 0).take (Try.prog.cellsOf 3)) = xs[0]? := hf 0 _ rfl
  rw [cell3] at g0
  obtain ⟨z0, t0, q0⟩ := rd_field (rd_int Try.underlying3) g0 (by omega)
  have g1 : DataW.trod enc0 Try.prog w base spare held n 3 ((cs.drop 1).take (Try.prog.cellsOf 3)) = xs[1]? := hf 1 _ rfl
  rw [cell3] at g1
  obtain ⟨z1, t1, q1⟩ := rd_field (rd_int Try.underlying3) g1 (by omega)
  have g2 : DataW.trod enc0 Try.prog w base spare held n 3 ((cs.drop 2).take (Try.prog.cellsOf 3)) = xs[2]? := hf 2 _ rfl
  rw [cell3] at g2
  obtain ⟨z2, t2, q2⟩ := rd_field (rd_int Try.underlying3) g2 (by omega)
  have g3 : DataW.trod enc0 Try.prog w base spare held n 3 ((cs.drop 3).take (Try.prog.cellsOf 3)) = xs[3]? := hf 3 _ rfl
  rw [cell3] at g3
  obtain ⟨z3, t3, q3⟩ := rd_field (rd_int Try.underlying3) g3 (by omega)
  have g4 : DataW.trod enc0 Try.prog w base spare held n 3 ((cs.drop 4).take (Try.prog.cellsOf 3)) = xs[4]? := hf 4 _ rfl
  rw [cell3] at g4
  obtain ⟨z4, t4, q4⟩ := rd_field (rd_int Try.underlying3) g4 (by omega)
  have g5 : DataW.trod enc0 Try.prog w base spare held n 3 ((cs.drop 5).take (Try.prog.cellsOf 3)) = xs[5]? := hf 5 _ rfl
  rw [cell3] at g5
  obtain ⟨z5, t5, q5⟩ := rd_field (rd_int Try.underlying3) g5 (by omega)
  have g6 : DataW.trod enc0 Try.prog w base spare held n 33 ((cs.drop 6).take (Try.prog.cellsOf 33)) = xs[6]? := hf 6 _ rfl
  rw [cell33] at g6
  obtain ⟨z6, t6, q6⟩ := rd_field rd33 g6 (by omega)
  refine ⟨⟨z0, z1, z2, z3, z4, z5, z6⟩, ?_, q0, q1, q2, q3, q4, q5, q6⟩
  exact TRs.glue (off := 0) (n := 1) (off' := 1) t0 rfl (TRs.glue (off := 1) (n := 1) (off' := 2) t1 rfl (TRs.glue (off := 2) (n := 1) (off' := 3) t2 rfl (TRs.glue (off := 3) (n := 1) (off' := 4) t3 rfl (TRs.glue (off := 4) (n := 1) (off' := 5) t4 rfl (TRs.glue (off := 5) (n := 1) (off' := 6) t5 rfl (TRs.glue (off := 6) (n := 5) (off' := 11) t6 rfl (TRs.fin hl)))))))
theorem cell39 : Try.prog.cellsOf 39 = 12 := by kernel_rfl
def qBlock (x : Block) : Prop := (x.Ops.length ≤ maxLen ∧ ∀ y ∈ x.Ops, qOp y) ∧ qTerm x.End
theorem rd39 {H : Type} {enc0 : TypeId × Value → H} {w : World} {base : Nat} {spare : Nat → Bool} {held : Bool} : Rds enc0 Try.prog w base spare held 39 cBlock qBlock := by
  intro fuel cs x h
  obtain ⟨xs, n, _, _, hl, hx, hf⟩ := DataW.trod_struct Try.underlying39 h
  have hx : xs.length = 2 := hx
  have hl : cs.length = 12 := hl.trans cell39
  have g0 : DataW.trod enc0 Try.prog w base spare held n 31 ((cs.drop 0).take (Try.prog.cellsOf 31)) = xs[0]? := hf 0 _ rfl
  rw [cell31] at g0
  obtain ⟨z0, t0, q0⟩ := rd_field (rd_slice zOp Try.underlying31 cell35 (fun _ => rfl) (fun {base} => rd35)) g0 (by omega)
  have g1 : DataW.trod enc0 Try.prog w base spare held n 37 ((cs.drop 1).take (Try.prog.cellsOf 37)) = xs[1]? := hf 1 _ rfl
  rw [cell37] at g1
  obtain ⟨z1, t1, q1⟩ := rd_field rd37 g1 (by omega)
  refine ⟨⟨z0, z1⟩, ?_, q0, q1⟩
  exact TRs.glue (off := 0) (n := 1) (off' := 1) t0 rfl (TRs.glue (off := 1) (n := 11) (off' := 12) t1 rfl (TRs.fin hl))
theorem cell24 : Try.prog.cellsOf 24 = 4 := by kernel_rfl
def qGraph (x : Graph) : Prop := x.Name.size ≤ maxLen ∧ True ∧ True ∧ (x.Blocks.length ≤ maxLen ∧ ∀ y ∈ x.Blocks, qBlock y)
theorem rd24 {H : Type} {enc0 : TypeId × Value → H} {w : World} {base : Nat} {spare : Nat → Bool} {held : Bool} : Rds enc0 Try.prog w base spare held 24 cGraph qGraph := by
  intro fuel cs x h
  obtain ⟨xs, n, _, _, hl, hx, hf⟩ := DataW.trod_struct Try.underlying24 h
  have hx : xs.length = 4 := hx
  have hl : cs.length = 4 := hl.trans cell24
  have g0 : DataW.trod enc0 Try.prog w base spare held n 9 ((cs.drop 0).take (Try.prog.cellsOf 9)) = xs[0]? := hf 0 _ rfl
  rw [cell9] at g0
  obtain ⟨z0, t0, q0⟩ := rd_field (rd_str Try.underlying9) g0 (by omega)
  have g1 : DataW.trod enc0 Try.prog w base spare held n 4 ((cs.drop 1).take (Try.prog.cellsOf 4)) = xs[1]? := hf 1 _ rfl
  rw [cell4] at g1
  obtain ⟨z1, t1, q1⟩ := rd_field (rd_bool Try.underlying4) g1 (by omega)
  have g2 : DataW.trod enc0 Try.prog w base spare held n 4 ((cs.drop 2).take (Try.prog.cellsOf 4)) = xs[2]? := hf 2 _ rfl
  rw [cell4] at g2
  obtain ⟨z2, t2, q2⟩ := rd_field (rd_bool Try.underlying4) g2 (by omega)
  have g3 : DataW.trod enc0 Try.prog w base spare held n 22 ((cs.drop 3).take (Try.prog.cellsOf 22)) = xs[3]? := hf 3 _ rfl
  rw [cell22] at g3
  obtain ⟨z3, t3, q3⟩ := rd_field (rd_slice zBlock Try.underlying22 cell39 (fun _ => rfl) (fun {base} => rd39)) g3 (by omega)
  refine ⟨⟨z0, z1, z2, z3⟩, ?_, q0, q1, q2, q3⟩
  exact TRs.glue (off := 0) (n := 1) (off' := 1) t0 rfl (TRs.glue (off := 1) (n := 1) (off' := 2) t1 rfl (TRs.glue (off := 2) (n := 1) (off' := 3) t2 rfl (TRs.glue (off := 3) (n := 1) (off' := 4) t3 rfl (TRs.fin hl))))
end Go.Proofs.Ytoooalfhjcfinaa.T
