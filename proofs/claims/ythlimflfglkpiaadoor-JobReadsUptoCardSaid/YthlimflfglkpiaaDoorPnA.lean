/-
  Panes, walked over abstract values: what compares, which may be, which rows may be.
-/
import Derived.Test.YthlimflfglkpiaaDoorAvQ
import Derived.Test.YthlimflfglkpiaaDoorPnS
namespace Go.Proofs.YthlimflfglkpiaaDoor
open Go.RowKit
set_option linter.unusedSimpArgs false
set_option linter.unusedVariables false
def Pn.av (p : Pn) : List AV := [.v (.int .i64 p.lo), .v (.int .i64 p.hi), .v (.string p.key), .v (.int .i64 p.n), .v (.int .i64 p.a), .v (.int .i64 p.b)]
theorem keyB_int (s : ByteArray) : keyB s = (decide ((1 : Int) ≤ s.size) && decide ((s.size : Int) ≤ 16)) := by
  unfold keyB
  congr 1
  · exact decide_eq_decide.2 (by omega)
  · exact decide_eq_decide.2 (by omega)
end Go.Proofs.YthlimflfglkpiaaDoor
