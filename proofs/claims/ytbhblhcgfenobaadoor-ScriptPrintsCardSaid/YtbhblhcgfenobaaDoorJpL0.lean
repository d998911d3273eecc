/-
  The world in which the listed tables stand, for a witness; from a row's condition to the table that is used.
-/
import Derived.Test.YtbhblhcgfenobaaDoorJpA
import Derived.Test.YtbhblhcgfenobaaDoorTie
import Derived.LaidLaws
import Derived.LaidHandle
import Derived.LaidSub
import Derived.Lib.LaidTab
namespace Go.Proofs.YtbhblhcgfenobaaDoor
open Go.RowKit
set_option linter.unusedVariables false
def putT (cs : List Value) : Obj → Obj
  | .cells _ t fr => .cells cs.toArray t fr
  | o => o
noncomputable def laidW (os : Os) : World :=
  { World.holding Tryd.prog os ⟨#[], #[], []⟩ with heap := (((World.holding Tryd.prog os ⟨#[], #[], []⟩).heap.modify 1 (putT (([0, 1, 28, 2, 29, 14, 24, 3, 30, 22, 20, 15, 25, 17, 4, 8, 31, 27, 13, 23, 21, 19, 16, 7, 26, 12, 18, 6, 11, 5, 10, 9] : List Int).map fun z => Value.int .u8 z))).modify 2 (putT (([0, 1, 56, 2, 57, 49, 28, 3, 61, 58, 42, 50, 38, 29, 17, 4, 62, 47, 59, 36, 45, 43, 51, 22, 53, 39, 33, 30, 24, 18, 12, 5, 63, 55, 48, 27, 60, 41, 37, 16, 46, 35, 44, 21, 52, 32, 23, 11, 54, 26, 40, 15, 34, 20, 31, 10, 25, 14, 19, 9, 13, 8, 7, 6] : List Int).map fun z => Value.int .u8 z))).modify 0 (putT (([1, 10, 100, 1000, 10000, 100000, 1000000, 10000000, 100000000, 1000000000, 10000000000, 100000000000, 1000000000000, 10000000000000, 100000000000000, 1000000000000000, 10000000000000000, 100000000000000000, 1000000000000000000, 10000000000000000000] : List Int).map fun z => Value.int .u64 z)) }
theorem pow_type : (Tryd.prog.globals[0]?).map (·.type) = some 90 := by kernel_rfl
theorem pow_cells : Tryd.prog.cellsOf 90 = 20 := by kernel_rfl
theorem u64_cells : Tryd.prog.cellsOf 83 = 1 := by kernel_rfl
/-- the table off the row's condition -/
theorem tab_of {W : World} {l : List (String × DataW Unit)} (h : laidMetH Tryd.prog l W) (hl : (l.filter fun x => x.1 == "internal/strconv.uint64pow10") = [("internal/strconv.uint64pow10", Rows.laid_internal_strconv_uint64pow10)]) : TabT W := by
  have h1 := h.filter fun x => x.1 == "internal/strconv.uint64pow10"
  rw [hl] at h1
  have h2 : laidMet Tryd.prog [("internal/strconv.uint64pow10", Lib.tabData .u64 Lib.pow10Tab)] W := h1
  exact Lib.tabIs_of_head g_pow pow_type Tryd.underlying90 Tryd.underlying83 u64_cells pow_cells h2
end Go.Proofs.YtbhblhcgfenobaaDoor
