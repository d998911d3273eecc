/-
  How the arguments of the laws of panes, groups and the model read.
  How events read.
-/
import Derived.Test.YteooamoagkcgnaaPnH
import Derived.Test.YteooamoagkcgnaaLaw
namespace Go.Proofs.Yteooamoagkcgnaa
open Go.RowKit Go.WideShapes Go.ChangeShapes Go.ChangeAt
set_option linter.unusedSimpArgs false
set_option linter.unusedVariables false
theorem A_laidOut : laidOutB Try.prog = true := by kernel_rfl
/-- a slice of panes as it reads -/
def PnsRd (w : World) (v : Value) (xs : List Pn) : Prop := xs.length ≤ 9223372036854775807 ∧ rep [] (fun _ => undef) w (fun _ => False) (.sl 6 (xs.map Pn.av)) v
theorem pnsRd {w : World} {A : Option Addr} {n c : Nat} {xs : List Pn} (hn : n ≤ c) (hc : c ≤ 9223372036854775807) (HN : n = xs.length) (hr : Reads w w.heap.size 6 A n (xs.flatMap Pn.cells)) : PnsRd w (.slice A n c) xs :=
  ⟨by omega, rep_sl Pn.cells Pn.av hr HN hn hc (fun _ => rfl) (fun x _ => repC_con (cs := Pn.cells x) rfl)⟩
/-- a group as it stands for its abstract value -/
theorem rep_Group {w : World} {no mark : Int} {v : Value} {xs : List Pn} (h1 : v.oneCell' = true) (h : PnsRd w v xs) : rep [] (fun _ => undef) w (fun _ => False) (.agg [.v (.int .i64 no), .v (.int .i64 mark), .sl 6 (xs.map Pn.av)]) (.agg #[.int .i64 no, .int .i64 mark, v]) := by
  have h2 := h.2
  simp only [rep, repC] at h2 ⊢
  exact ⟨_, rfl, _, _, rfl, rfl, ⟨rfl, rfl⟩, _, _, rfl, rfl, ⟨rfl, rfl⟩, _, _, rfl, h1, h2, rfl⟩
theorem rep_Job {w : World} {g s d k fu li de id : Int} : rep [] (fun _ => undef) w (fun _ => False) (.agg [.v (.int .i64 g), .v (.int .i64 s), .v (.int .i64 d), .v (.int .i64 k), .v (.int .i64 fu), .v (.int .i64 li), .v (.int .i64 de), .v (.int .i64 id)]) (.agg #[.int .i64 g, .int .i64 s, .int .i64 d, .int .i64 k, .int .i64 fu, .int .i64 li, .int .i64 de, .int .i64 id]) := by
  simp only [rep]
  exact ⟨_, rfl, repC_con (cs := [.int .i64 g, .int .i64 s, .int .i64 d, .int .i64 k, .int .i64 fu, .int .i64 li, .int .i64 de, .int .i64 id]) rfl⟩
theorem rep_int {w : World} {x : Int} : rep [] (fun _ => undef) w (fun _ => False) (.v (.int .i64 x)) (.int .i64 x) := by simp [rep, scal]
theorem rep_str {w : World} {x : ByteArray} : rep [] (fun _ => undef) w (fun _ => False) (.v (.string x)) (.string x) := by simp [rep, scal]
end Go.Proofs.Yteooamoagkcgnaa
namespace Go.Proofs.Yteooamoagkcgnaa
open Go.RowKit Go.WideShapes Go.ChangeShapes Go.ChangeAt
set_option linter.unusedSimpArgs false
set_option linter.unusedVariables false
theorem rep_Ev {w : World} {k : ByteArray} {a v : Int} : rep [] (fun _ => undef) w (fun _ => False) (.agg [.v (.string k), .v (.int .i64 a), .v (.int .i64 v)]) (.agg #[.string k, .int .i64 a, .int .i64 v]) := by
  simp only [rep]
  exact ⟨_, rfl, repC_con (cs := [.string k, .int .i64 a, .int .i64 v]) rfl⟩
end Go.Proofs.Yteooamoagkcgnaa
