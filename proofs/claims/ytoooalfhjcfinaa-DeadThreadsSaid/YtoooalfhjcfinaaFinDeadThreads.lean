/- DeadThreads of the dead layer, for every graph: the law answers true, and what is handed in stays; there are no conditions. -/
import Derived.Test.YtoooalfhjcfinaaLaw7
import Derived.Test.YtoooalfhjcfinaaPl7
namespace Go.Proofs.Ytoooalfhjcfinaa
/-- The row, for the claim. -/
theorem deadThreads_holds : Rows.DeadThreadsSaid :=
  deadThreadsRow.said fun g hq => ⟨1000, T.law7 g hq.2.2.2.1⟩
#print axioms deadThreads_holds
end Go.Proofs.Ytoooalfhjcfinaa
