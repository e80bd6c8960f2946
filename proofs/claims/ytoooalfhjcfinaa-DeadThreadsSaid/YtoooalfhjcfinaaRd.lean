import Derived.Test.YtoooalfhjcfinaaRow
import Derived.Test.YtoooalfhjcfinaaChecked
namespace Go.Proofs.Ytoooalfhjcfinaa.T
open Go.Abs
set_option linter.unusedVariables false
set_option maxRecDepth 100000

def i64 (n : Int) : Prop := (Lit.int .i64 n).wf = true
theorem cell9 : Try.prog.cellsOf 9 = 1 := by kernel_rfl
theorem cell4 : Try.prog.cellsOf 4 = 1 := by kernel_rfl
theorem cell22 : Try.prog.cellsOf 22 = 1 := by kernel_rfl
theorem cell31 : Try.prog.cellsOf 31 = 1 := by kernel_rfl
theorem cell33 : Try.prog.cellsOf 33 = 5 := by kernel_rfl
theorem cell3 : Try.prog.cellsOf 3 = 1 := by kernel_rfl
def qIns (x : Ins) : Prop := (Lit.int .i64 x.Op).wf = true ∧ (Lit.int .i64 x.A).wf = true ∧ (Lit.int .i64 x.B).wf = true ∧ (Lit.int .i64 x.C).wf = true ∧ (Lit.int .i64 x.Imm).wf = true
theorem rd33 {H : Type} {enc0 : TypeId × Value → H} {w : World} {base : Nat} {spare : Nat → Bool} {held : Bool} : Rds enc0 Try.prog w base spare held 33 cIns qIns := by
  intro fuel cs x h
  obtain ⟨xs, n, _, _, hl, hx, hf⟩ := DataW.trod_struct Try.underlying33 h
  have hx : xs.length = 5 := hx
  have hl : cs.length = 5 := hl.trans cell33
  have g0 : DataW.trod enc0 Try.prog w base spare held n 3 ((cs.drop 0).take (Try.prog.cellsOf 3)) = xs[0]? := hf 0 _ rfl
  rw [cell3] at g0
  obtain ⟨z0, t0, q0⟩ := rd_field (rd_int Try.underlying3) g0 (by omega)
  have g1 : DataW.trod enc0 Try.prog w base spare held n 3 ((cs.drop 1).take (Try.prog.cellsOf 3)) = xs[1]? := hf 1 _ rfl
  rw [cell3] at g1
  obtain ⟨z1, t1, q1⟩ := rd_field (rd_int Try.underlying3) g1 (by omega)
  have g2 : DataW.trod enc0 Try.prog w base spare held n 3 ((cs.drop 2).take (Try.prog.cellsOf 3)) = xs[2]? := hf 2 _ rfl
  rw [cell3] at g2
  obtain ⟨z2, t2, q2⟩ := rd_field (rd_int Try.underlying3) g2 (by omega)
  have g3 : DataW.trod enc0 Try.prog w base spare held n 3 ((cs.drop 3).take (Try.prog.cellsOf 3)) = xs[3]? := hf 3 _ rfl
  rw [cell3] at g3
  obtain ⟨z3, t3, q3⟩ := rd_field (rd_int Try.underlying3) g3 (by omega)
  have g4 : DataW.trod enc0 Try.prog w base spare held n 3 ((cs.drop 4).take (Try.prog.cellsOf 3)) = xs[4]? := hf 4 _ rfl
  rw [cell3] at g4
  obtain ⟨z4, t4, q4⟩ := rd_field (rd_int Try.underlying3) g4 (by omega)
  refine ⟨⟨z0, z1, z2, z3, z4⟩, ?_, q0, q1, q2, q3, q4⟩
  exact TRs.glue (off := 0) (n := 1) (off' := 1) t0 rfl (TRs.glue (off := 1) (n := 1) (off' := 2) t1 rfl (TRs.glue (off := 2) (n := 1) (off' := 3) t2 rfl (TRs.glue (off := 3) (n := 1) (off' := 4) t3 rfl (TRs.glue (off := 4) (n := 1) (off' := 5) t4 rfl (TRs.fin hl)))))
theorem cell35 : Try.prog.cellsOf 35 = 9 := by kernel_rfl
def qOp (x : Op') : Prop := qIns x.Ins ∧ True ∧ (Lit.int .i64 x.Kind).wf = true ∧ (Lit.int .i64 x.To).wf = true ∧ (Lit.int .i64 x.Add).wf = true
theorem rd35 {H : Type} {enc0 : TypeId × Value → H} {w : World} {base : Nat} {spare : Nat → Bool} {held : Bool} : Rds enc0 Try.prog w base spare held 35 cOp qOp := by
  intro fuel cs x h
  obtain ⟨xs, n, _, _, hl, hx, hf⟩ := DataW.trod_struct Try.underlying35 h
  have hx : xs.length = 5 := hx
  have hl : cs.length = 9 := hl.trans cell35
  have g0 : DataW.trod enc0 Try.prog w base spare held n 33 ((cs.drop 0).take (Try.prog.cellsOf 33)) = xs[0]? := hf 0 _ rfl
  rw [cell33] at g0
  obtain ⟨z0, t0, q0⟩ := rd_field rd33 g0 (by omega)
  have g1 : DataW.trod enc0 Try.prog w base spare held n 4 ((cs.drop 5).take (Try.prog.cellsOf 4)) = xs[1]? := hf 1 _ rfl
  rw [cell4] at g1
  obtain ⟨z1, t1, q1⟩ := rd_field (rd_bool Try.underlying4) g1 (by omega)
  have g2 : DataW.trod enc0 Try.prog w base spare held n 3 ((cs.drop 6).take (Try.prog.cellsOf 3)) = xs[2]? := hf 2 _ rfl
  rw [cell3] at g2
  obtain ⟨z2, t2, q2⟩ := rd_field (rd_int Try.underlying3) g2 (by omega)
  have g3 : DataW.trod enc0 Try.prog w base spare held n 3 ((cs.drop 7).take (Try.prog.cellsOf 3)) = xs[3]? := hf 3 _ rfl
  rw [cell3] at g3
  obtain ⟨z3, t3, q3⟩ := rd_field (rd_int Try.underlying3) g3 (by omega)
  have g4 : DataW.trod enc0 Try.prog w base spare held n 3 ((cs.drop 8).take (Try.prog.cellsOf 3)) = xs[4]? := hf 4 _ rfl
  rw [cell3] at g4
  obtain ⟨z4, t4, q4⟩ := rd_field (rd_int Try.underlying3) g4 (by omega)
  refine ⟨⟨z0, z1, z2, z3, z4⟩, ?_, q0, q1, q2, q3, q4⟩
  exact TRs.glue (off := 0) (n := 5) (off' := 5) t0 rfl (TRs.glue (off := 5) (n := 1) (off' := 6) t1 rfl (TRs.glue (off := 6) (n := 1) (off' := 7) t2 rfl (TRs.glue (off := 7) (n := 1) (off' := 8) t3 rfl (TRs.glue (off := 8) (n := 1) (off' := 9) t4 rfl (TRs.fin hl)))))
theorem cell37 : Try.prog.cellsOf 37 = 11 := by kernel_rfl
def qTerm (x : Term) : Prop := (Lit.int .i64 x.Kind).wf = true ∧ (Lit.int .i64 x.Op).wf = true ∧ (Lit.int .i64 x.A).wf = true ∧ (Lit.int .i64 x.B).wf = true ∧ (Lit.int .i64 x.To).wf = true ∧ (Lit.int .i64 x.Else).wf = true ∧ qIns x.Ins
theorem rd37 {H : Type} {enc0 : TypeId × Value → H} {w : World} {base : Nat} {spare : Nat → Bool} {held : Bool} : Rds enc0 Try.prog w base spare held 37 cTerm qTerm := by
  intro fuel cs x h
  obtain ⟨xs, n, _, _, hl, hx, hf⟩ := DataW.trod_struct Try.underlying37 h
  have hx : xs.length = 7 := hx
  have hl : cs.length = 11 := hl.trans cell37
  have g0 : DataW.trod enc0 Try.prog w base spare held n 3 ((cs.drop 0).take (Try.prog.cellsOf 3)) = xs[0]? := hf 0 _ rfl
  rw [cell3] at g0
  obtain ⟨z0, t0, q0⟩ := rd_field (rd_int Try.underlying3) g0 (by omega)
  have g1 : DataW.trod enc0 Try.prog w base spare held n 3 ((cs.drop 1).take (Try.prog.cellsOf 3)) = xs[1]? := hf 1 _ rfl
  rw [cell3] at g1
  obtain ⟨z1, t1, q1⟩ := rd_field (rd_int Try.underlying3) g1 (by omega)
  have g2 : DataW.trod enc0 Try.prog w base spare held n 3 ((cs.drop 2).take (Try.prog.cellsOf 3)) = xs[2]? := hf 2 _ rfl
  rw [cell3] at g2
  obtain ⟨z2, t2, q2⟩ := rd_field (rd_int Try.underlying3) g2 (by omega)
  have g3 : DataW.trod enc0 Try.prog w base spare held n 3 ((cs.drop 3).take (Try.prog.cellsOf 3)) = xs[3]? := hf 3 _ rfl
  rw [cell3] at g3
  obtain ⟨z3, t3, q3⟩ := rd_field (rd_int Try.underlying3) g3 (by omega)
  have g4 : DataW.trod enc0 Try.prog w base spare held n 3 ((cs.drop 4).take (Try.prog.cellsOf 3)) = xs[4]? := hf 4 _ rfl
  rw [cell3] at g4
  obtain ⟨z4, t4, q4⟩ := rd_field (rd_int Try.underlying3) g4 (by omega)
  have g5 : DataW.trod enc0 Try.prog w base spare held n 3 ((cs.drop 5).take (Try.prog.cellsOf 3)) = xs[5]? := hf 5 _ rfl
  rw [cell3] at g5
  obtain ⟨z5, t5, q5⟩ := rd_field (rd_int Try.underlying3) g5 (by omega)
  have g6 : DataW.trod enc0 Try.prog w base spare held n 33 ((cs.drop 6).take (Try.prog.cellsOf 33)) = xs[6]? := hf 6 _ rfl
  rw [cell33] at g6
  obtain ⟨z6, t6, q6⟩ := rd_field rd33 g6 (by omega)
  refine ⟨⟨z0, z1, z2, z3, z4, z5, z6⟩, ?_, q0, q1, q2, q3, q4, q5, q6⟩
  exact TRs.glue (off := 0) (n := 1) (off' := 1) t0 rfl (TRs.glue (off := 1) (n := 1) (off' := 2) t1 rfl (TRs.glue (off := 2) (n := 1) (off' := 3) t2 rfl (TRs.glue (off := 3) (n := 1) (off' := 4) t3 rfl (TRs.glue (off := 4) (n := 1) (off' := 5) t4 rfl (TRs.glue (off := 5) (n := 1) (off' := 6) t5 rfl (TRs.glue (off := 6) (n := 5) (off' := 11) t6 rfl (TRs.fin hl)))))))
theorem cell39 : Try.prog.cellsOf 39 = 12 := by kernel_rfl
def qBlock (x : Block) : Prop := (x.Ops.length ≤ maxLen ∧ ∀ y ∈ x.Ops, qOp y) ∧ qTerm x.End
theorem rd39 {H : Type} {enc0 : TypeId × Value → H} {w : World} {base : Nat} {spare : Nat → Bool} {held : Bool} : Rds enc0 Try.prog w base spare held 39 cBlock qBlock := by
  intro fuel cs x h
  obtain ⟨xs, n, _, _, hl, hx, hf⟩ := DataW.trod_struct Try.underlying39 h
  have hx : xs.length = 2 := hx
  have hl : cs.length = 12 := hl.trans cell39
  have g0 : DataW.trod enc0 Try.prog w base spare held n 31 ((cs.drop 0).take (Try.prog.cellsOf 31)) = xs[0]? := hf 0 _ rfl
  rw [cell31] at g0
  obtain ⟨z0, t0, q0⟩ := rd_field (rd_slice zOp Try.underlying31 cell35 (fun _ => rfl) (fun {base} => rd35)) g0 (by omega)
  have g1 : DataW.trod enc0 Try.prog w base spare held n 37 ((cs.drop 1).take (Try.prog.cellsOf 37)) = xs[1]? := hf 1 _ rfl
  rw [cell37] at g1
  obtain ⟨z1, t1, q1⟩ := rd_field rd37 g1 (by omega)
  refine ⟨⟨z0, z1⟩, ?_, q0, q1⟩
  exact TRs.glue (off := 0) (n := 1) (off' := 1) t0 rfl (TRs.glue (off := 1) (n := 11) (off' := 12) t1 rfl (TRs.fin hl))
theorem cell24 : Try.prog.cellsOf 24 = 4 := by kernel_rfl
def qGraph (x : Graph) : Prop := x.Name.size ≤ maxLen ∧ True ∧ True ∧ (x.Blocks.length ≤ maxLen ∧ ∀ y ∈ x.Blocks, qBlock y)
theorem rd24 {H : Type} {enc0 : TypeId × Value → H} {w : World} {base : Nat} {spare : Nat → Bool} {held : Bool} : Rds enc0 Try.prog w base spare held 24 cGraph qGraph := by
  intro fuel cs x h
  obtain ⟨xs, n, _, _, hl, hx, hf⟩ := DataW.trod_struct Try.underlying24 h
  have hx : xs.length = 4 := hx
  have hl : cs.length = 4 := hl.trans cell24
  have g0 : DataW.trod enc0 Try.prog w base spare held n 9 ((cs.drop 0).take (Try.prog.cellsOf 9)) = xs[0]? := hf 0 _ rfl
  rw [cell9] at g0
  obtain ⟨z0, t0, q0⟩ := rd_field (rd_str Try.underlying9) g0 (by omega)
  have g1 : DataW.trod enc0 Try.prog w base spare held n 4 ((cs.drop 1).take (Try.prog.cellsOf 4)) = xs[1]? := hf 1 _ rfl
  rw [cell4] at g1
  obtain ⟨z1, t1, q1⟩ := rd_field (rd_bool Try.underlying4) g1 (by omega)
  have g2 : DataW.trod enc0 Try.prog w base spare held n 4 ((cs.drop 2).take (Try.prog.cellsOf 4)) = xs[2]? := hf 2 _ rfl
  rw [cell4] at g2
  obtain ⟨z2, t2, q2⟩ := rd_field (rd_bool Try.underlying4) g2 (by omega)
  have g3 : DataW.trod enc0 Try.prog w base spare held n 22 ((cs.drop 3).take (Try.prog.cellsOf 22)) = xs[3]? := hf 3 _ rfl
  rw [cell22] at g3
  obtain ⟨z3, t3, q3⟩ := rd_field (rd_slice zBlock Try.underlying22 cell39 (fun _ => rfl) (fun {base} => rd39)) g3 (by omega)
  refine ⟨⟨z0, z1, z2, z3⟩, ?_, q0, q1, q2, q3⟩
  exact TRs.glue (off := 0) (n := 1) (off' := 1) t0 rfl (TRs.glue (off := 1) (n := 1) (off' := 2) t1 rfl (TRs.glue (off := 2) (n := 1) (off' := 3) t2 rfl (TRs.glue (off := 3) (n := 1) (off' := 4) t3 rfl (TRs.fin hl))))
end Go.Proofs.Ytoooalfhjcfinaa.T
