/-
  The world in which all listed variables stand, for a witness; from a row's condition to what is used of them.
-/
import Derived.Test.YthlimflfglkpiaaDoorJpL0
import Derived.Test.YthlimflfglkpiaaDoorJpD
import Derived.Stop.LaidErr
import Derived.Deep.DeepHandedRow
import Derived.Stop.Joined
import Derived.JoinedCond
import GoSem.PinnedTables
namespace Go.Proofs.YthlimflfglkpiaaDoor
open Go.RowKit
set_option linter.unusedVariables false
def synS : ByteArray := ⟨#[105, 110, 118, 97, 108, 105, 100, 32, 115, 121, 110, 116, 97, 120]⟩
def rngS : ByteArray := ⟨#[118, 97, 108, 117, 101, 32, 111, 117, 116, 32, 111, 102, 32, 114, 97, 110, 103, 101]⟩
noncomputable def lowW : Nat := (World.holding Tryd.prog default ⟨#[], #[], []⟩).heap.size
noncomputable def laidV (os : Os) : World :=
  let w0 := World.holding Tryd.prog os ⟨#[.cells #[.string synS] 170, .cells #[.string rngS] 170], #[], []⟩
  { w0 with heap := ((((((w0.heap.modify 4 (putT (([0, 1, 28, 2, 29, 14, 24, 3, 30, 22, 20, 15, 25, 17, 4, 8, 31, 27, 13, 23, 21, 19, 16, 7, 26, 12, 18, 6, 11, 5, 10, 9] : List Int).map fun z => Value.int .u8 z))).modify 5 (putT (([0, 1, 56, 2, 57, 49, 28, 3, 61, 58, 42, 50, 38, 29, 17, 4, 62, 47, 59, 36, 45, 43, 51, 22, 53, 39, 33, 30, 24, 18, 12, 5, 63, 55, 48, 27, 60, 41, 37, 16, 46, 35, 44, 21, 52, 32, 23, 11, 54, 26, 40, 15, 34, 20, 31, 10, 25, 14, 19, 9, 13, 8, 7, 6] : List Int).map fun z => Value.int .u8 z))).modify 0 (putT (([1, 10, 100, 1000, 10000, 100000, 1000000, 10000000, 100000000, 1000000000, 10000000000, 100000000000, 1000000000000, 10000000000000, 100000000000000, 1000000000000000, 10000000000000000, 100000000000000000, 1000000000000000000, 10000000000000000000] : List Int).map fun z => Value.int .u64 z))).modify 3 (putT (([128, 191, 160, 191, 128, 159, 144, 191, 128, 143, 0, 0, 0, 0, 0, 0, 0, 0, 0, 0, 0, 0, 0, 0, 0, 0, 0, 0, 0, 0, 0, 0] : List Int).map fun z => Value.int .u8 z))).modify 2 (putT (Pinned.utf8FirstZ.map fun (z : Nat) => Value.int .u8 (z : Int)))).modify 6 (putT [.iface 168 (.pointer (some ⟨lowW, 0, none⟩))])).modify 7 (putT [.iface 168 (.pointer (some ⟨lowW + 1, 0, none⟩))]) }
set_option maxRecDepth 100000 in
theorem laidV_met (os : Os) (args : Array Value) : laidMetH Tryd.prog Rows.jobReadsRow.laid ((laidV os).forCall (fun _ _ => 0) ⟨#[], args, []⟩).memory :=
  laidMet_of_run' 8 (by kernel_rfl) (by kernel_rfl)
theorem syn_type : (Tryd.prog.globals[6]?).map (·.type) = some 86 := by kernel_rfl
theorem ran_type : (Tryd.prog.globals[7]?).map (·.type) = some 86 := by kernel_rfl
theorem es_cells : Tryd.prog.cellsOf 170 = 1 := by kernel_rfl
theorem st_cells : Tryd.prog.cellsOf 9 = 1 := by kernel_rfl
theorem star : "*" ++ "errors.errorString" = "*errors.errorString" := by decide
theorem row_es (u : TypeId) (h : Tryd.prog.typeName? 3 u = some "*errors.errorString") : u = 168 :=
  typeName_ptr_named (nm := "errors.errorString") (by rw [star]; kernel_rfl) (by kernel_rfl) (by decide) u (by rw [star]; exact h)
/-- the variables off the row's condition -/
theorem tabP_of {W : World} {l : List (String × DataW Unit)} (h : laidMetH Tryd.prog l W) (hsh : W.ShapedOpen Tryd.prog) (hl : (l.filter fun x => x.1 == "internal/strconv.uint64pow10") = [("internal/strconv.uint64pow10", Rows.laid_internal_strconv_uint64pow10)]) (h2 : (l.filter fun x => x.1 == "strconv.ErrSyntax") = [("strconv.ErrSyntax", Rows.laid_strconv_ErrSyntax)]) (h3 : (l.filter fun x => x.1 == "strconv.ErrRange") = [("strconv.ErrRange", Rows.laid_strconv_ErrRange)]) : TabP W := by
  refine ⟨tab_of h hl, layCut.s1_3 W hsh, ?_, ?_⟩
  · have h1 := h.filter fun x => x.1 == "strconv.ErrSyntax"
    rw [h2] at h1
    have h4 : laidMet Tryd.prog [("strconv.ErrSyntax", Rows.laid_strconv_ErrSyntax)] W := h1
    obtain ⟨a0, s0, hv0, _⟩ := laid_sentinel h4 g_syn syn_type Tryd.underlying86 row_es Tryd.underlying168 Tryd.underlying170 rfl rfl Tryd.underlying9 es_cells st_cells
    exact ⟨_, _, hv0⟩
  · have h1 := h.filter fun x => x.1 == "strconv.ErrRange"
    rw [h3] at h1
    have h4 : laidMet Tryd.prog [("strconv.ErrRange", Rows.laid_strconv_ErrRange)] W := h1
    obtain ⟨a0, s0, hv0, _⟩ := laid_sentinel h4 g_ran ran_type Tryd.underlying86 row_es Tryd.underlying168 Tryd.underlying170 rfl rfl Tryd.underlying9 es_cells st_cells
    exact ⟨_, _, hv0⟩
end Go.Proofs.YthlimflfglkpiaaDoor
