/-
  Groups, walked over abstract values: time that goes on.
-/
import Derived.Test.YthlimflfglkpiaaGrA
namespace Go.Proofs.Ythlimflfglkpiaa
open Go.RowKit
set_option linter.unusedSimpArgs false
set_option linter.unusedVariables false
structure AdvR where
  no : Int
  mark : Int
  ps : List Pn
  rs : List Rs
  e : Int
def adv (s d k no mark : Int) (ps : List Pn) (m : Int) : AdvR :=
  if jobR s d k = false then ⟨0, 0, [], [], 130⟩
  else if grR no mark ps = false then ⟨0, 0, [], [], 1⟩
  else if m ≤ mark then ⟨no, mark, ps, [], 0⟩
  else ⟨no, min m 1099511627776, dueRB ps (min m 1099511627776), resultsL k (dueRA ps (min m 1099511627776)), 0⟩
def AdvR.av (r : AdvR) : AV := .tup [.agg [.v (.int .i64 r.no), .v (.int .i64 r.mark), .sl 6 (r.ps.map Pn.av)], .sl 5 (r.rs.map Rs.av), .v (.int .i64 r.e)]
end Go.Proofs.Ythlimflfglkpiaa
