import Derived.Test.YtoooalfhjcfinaaLibT
import Derived.Test.YtoooalfhjcfinaaProg
namespace Go.Proofs.Ytoooalfhjcfinaa.T
open Go.Abs
set_option linter.unusedVariables false
set_option maxRecDepth 100000
set_option maxHeartbeats 2000000

def tb : Tab where
  lay := [(3, (1, false)), (4, (1, false)), (9, (1, false)), (22, (1, false)), (24, (4, true)), (31, (1, false)), (33, (5, true)), (35, (9, true)), (37, (11, true)), (39, (12, true)), (44, (1, false)), (45, (1, false)), (50, (1, false))]
  fld := [(24, [(0, 1, false), (1, 1, false), (2, 1, false), (3, 1, false)]), (33, [(0, 1, false), (1, 1, false), (2, 1, false), (3, 1, false), (4, 1, false)]), (35, [(0, 5, true), (5, 1, false), (6, 1, false), (7, 1, false), (8, 1, false)]), (37, [(0, 1, false), (1, 1, false), (2, 1, false), (3, 1, false), (4, 1, false), (5, 1, false), (6, 5, true)]), (39, [(0, 1, false), (1, 11, true)])]
  slc := [(22, (39, 12, 112)), (31, (35, 9, 72)), (41, (24, 4, 48)), (44, (4, 1, 1)), (46, (3, 1, 8)), (47, (50, 1, 2))]
  arr := []
  kin := [(3, .int .i64), (4, .bool), (5, .int .u8)]
  zero := [(3, eI 0), (4, eB false), (24, cGraph zGraph), (33, cIns zIns), (35, cOp zOp), (37, cTerm zTerm), (39, cBlock zBlock), (44, [.lit (.slice none 0 0)]), (45, [.lit .nilFunc]), (50, eU16 0)]
  eqs := [(33, [.int .i64, .int .i64, .int .i64, .int .i64, .int .i64]), (35, [.int .i64, .int .i64, .int .i64, .int .i64, .int .i64, .bool, .int .i64, .int .i64, .int .i64]), (37, [.int .i64, .int .i64, .int .i64, .int .i64, .int .i64, .int .i64, .int .i64, .int .i64, .int .i64, .int .i64, .int .i64])]
  fns := [8, 9, 10, 11, 12, 13, 14, 15, 16, 17, 18, 19, 20, 21, 22, 23, 24, 25, 26, 27, 28, 29, 30, 31, 32, 33, 34, 35, 36, 37, 38, 39, 40, 41, 42, 43, 44, 45, 46, 47, 48, 49, 50, 51, 52, 53, 54, 55, 56, 58]
theorem tbOk : TabOk Try.prog tb := TabOk.of_chk (by kernel_rfl)

end Go.Proofs.Ytoooalfhjcfinaa.T
