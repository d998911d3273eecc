/-
  Panes, walked over abstract values: the laws on what is due and on results.
-/
import Derived.Test.YtagfjnjpgphnjaaPnL
import Derived.Test.YtagfjnjpgphnjaaPnH
namespace Go.Proofs.Ytagfjnjpgphnjaa
open Go.RowKit
set_option linter.unusedSimpArgs false
set_option linter.unusedVariables false
end Go.Proofs.Ytagfjnjpgphnjaa
