/-
  Panes, walked over abstract values: what is due by the reference; results.
-/
import Derived.Test.YteooamoagkcgnaaPnF
namespace Go.Proofs.Yteooamoagkcgnaa
open Go.RowKit
set_option linter.unusedSimpArgs false
set_option linter.unusedVariables false
theorem dueA_snoc (l : List Pn) (x : Pn) (m : Int) : dueA (l ++ [x]) m = dueA l m ++ (if x.hi ≤ m then [x] else []) := by
  unfold dueA
  rw [List.filter_append]
  by_cases h : x.hi ≤ m <;> simp [h]
theorem dueB_snoc (l : List Pn) (x : Pn) (m : Int) : dueB (l ++ [x]) m = dueB l m ++ (if x.hi ≤ m then [] else [x]) := by
  unfold dueB
  rw [List.filter_append]
  by_cases h : x.hi ≤ m <;> simp [h]
theorem dueA_le (l : List Pn) (m : Int) : (dueA l m).length ≤ l.length := List.length_filter_le _ _
theorem dueB_le (l : List Pn) (m : Int) : (dueB l m).length ≤ l.length := List.length_filter_le _ _
structure Rs where
  lo : Int
  hi : Int
  key : ByteArray
  n : Int
  val : Int
def Rs.av (r : Rs) : List AV := [.v (.int .i64 r.lo), .v (.int .i64 r.hi), .v (.string r.key), .v (.int .i64 r.n), .v (.int .i64 r.val)]
def resOf (k : Int) (p : Pn) : Rs := ⟨p.lo, p.hi, p.key, p.n, fVal k ⟨p.n, p.a, p.b⟩⟩
def resultsL (k : Int) (l : List Pn) : List Rs := if rightL l && fRight k then l.map (resOf k) else []
end Go.Proofs.Yteooamoagkcgnaa
