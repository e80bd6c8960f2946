import Derived.Test.YtoooalfhjcfinaaAbs26
import Derived.Test.YtoooalfhjcfinaaAbs24
namespace Go.Abs

abbrev I (n : Int) : Tree := .lit (.int .i64 n)
abbrev Bo (b : Bool) : Tree := .lit (.bool b)

structure Ins where
  Op : Int
  A : Int
  B : Int
  C : Int
  Imm : Int
structure Op' where
  Ins : Ins
  Rel : Bool
  Kind : Int
  To : Int
  Add : Int
structure Term where
  Kind : Int
  Op : Int
  A : Int
  B : Int
  To : Int
  Else : Int
  Ins : Ins
structure Block where
  Ops : List Op'
  End : Term
structure Graph where
  Name : ByteArray
  Keep : Bool
  Leaf : Bool
  Blocks : List Block
def zIns : Ins := ⟨0, 0, 0, 0, 0⟩
def zOp : Op' := ⟨zIns, false, 0, 0, 0⟩
def zTerm : Term := ⟨0, 0, 0, 0, 0, 0, zIns⟩
def zBlock : Block := ⟨[], zTerm⟩
def zGraph : Graph := ⟨ByteArray.empty, false, false, []⟩
def cIns (x : Ins) : List Tree := [I x.Op, I x.A, I x.B, I x.C, I x.Imm]
def cOp (x : Op') : List Tree := [I x.Ins.Op, I x.Ins.A, I x.Ins.B, I x.Ins.C, I x.Ins.Imm, Bo x.Rel, I x.Kind, I x.To, I x.Add]
def cTerm (x : Term) : List Tree := [I x.Kind, I x.Op, I x.A, I x.B, I x.To, I x.Else, I x.Ins.Op, I x.Ins.A, I x.Ins.B, I x.Ins.C, I x.Ins.Imm]
def cBlock (x : Block) : List Tree := .ro 9 cOp zOp x.Ops :: cTerm x.End
def cGraph (x : Graph) : List Tree := [.lit (.string x.Name), Bo x.Keep, Bo x.Leaf, .ro 12 cBlock zBlock x.Blocks]

end Go.Abs
