/- DeadGraphs of the dead layer, for every graph: the law answers true, and what is handed in stays; there are no conditions. -/
import Derived.Test.YtoooalfhjcfinaaLaw3
import Derived.Test.YtoooalfhjcfinaaPl16

namespace Go.Proofs.Ytoooalfhjcfinaa
/-- The row, for the claim. -/
theorem deadGraphs_holds : Rows.DeadGraphsSaid :=
  deadGraphsRow.said fun g hq => ⟨1000, T.law3 g hq.2.2.2.1⟩
#print axioms deadGraphs_holds
end Go.Proofs.Ytoooalfhjcfinaa
