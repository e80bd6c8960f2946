/- DeadLess of the dead layer, for every graph: the law answers true, and what is handed in stays; there are no conditions. -/
import Derived.Test.YtoooalfhjcfinaaLaw4
import Derived.Test.YtoooalfhjcfinaaPlLess

namespace Go.Proofs.Ytoooalfhjcfinaa
/-- The row, for the claim. -/
theorem deadLess_holds : Rows.DeadLessSaid :=
  deadLessRow.said fun g hq => ⟨1000, T.law4 g hq.2.2.2.1⟩
#print axioms deadLess_holds
end Go.Proofs.Ytoooalfhjcfinaa
