/-
  Folds, walked over abstract values: one value, and two joined.
-/
import Derived.Test.YtagfjnjpgphnjaaPnG
import Derived.Test.YtagfjnjpgphnjaaAvX
namespace Go.Proofs.Ytagfjnjpgphnjaa
open Go.RowKit
set_option linter.unusedSimpArgs false
set_option linter.unusedVariables false
def fJoinO (k n a b n' a' b' : Int) : List AV := [.v (.int .i64 (fJoin k ⟨n, a, b⟩ ⟨n', a', b'⟩).n), .v (.int .i64 (fJoin k ⟨n, a, b⟩ ⟨n', a', b'⟩).a), .v (.int .i64 (fJoin k ⟨n, a, b⟩ ⟨n', a', b'⟩).b)]
end Go.Proofs.Ytagfjnjpgphnjaa
