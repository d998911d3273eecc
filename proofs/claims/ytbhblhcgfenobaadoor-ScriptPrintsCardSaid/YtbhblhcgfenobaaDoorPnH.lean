/-
  Panes, walked over abstract values: likeness.
-/
import Derived.Test.YtbhblhcgfenobaaDoorPnG
namespace Go.Proofs.YtbhblhcgfenobaaDoor
open Go.RowKit
set_option linter.unusedSimpArgs false
set_option linter.unusedVariables false
def Pn.vals (p : Pn) : List Value := [.int .i64 p.lo, .int .i64 p.hi, .string p.key, .int .i64 p.n, .int .i64 p.a, .int .i64 p.b]
def Rs.vals (p : Rs) : List Value := [.int .i64 p.lo, .int .i64 p.hi, .string p.key, .int .i64 p.n, .int .i64 p.val]
section
variable {Γ : Ctx} {s : ASt} {dst : Option Tmp} {ty yt : TypeId} {pos : String} {after : Array Edge} {x y : Operand}
end
theorem dueRA_le (ps : List Pn) (m : Int) : (dueRA ps m).length ≤ ps.length := by
  unfold dueRA
  split
  · exact dueA_le _ _
  · simp
theorem dueRB_le (ps : List Pn) (m : Int) : (dueRB ps m).length ≤ ps.length := by
  unfold dueRB
  split
  · exact dueB_le _ _
  · simp
def fewL (ps : List Pn) : List Pn := if 60 < ps.length ∧ ps.length < 2000 then ps.take 60 else ps
theorem fewL_le (ps : List Pn) : (fewL ps).length ≤ ps.length := by
  unfold fewL
  split
  · simp only [List.length_take]; omega
  · exact Nat.le_refl _
theorem resultsL_le (k : Int) (l : List Pn) : (resultsL k l).length ≤ l.length := by
  unfold resultsL
  split <;> simp
theorem rightL_mk {l : List Pn} (h1 : l.length ≤ 2000) (h2 : ∀ p ∈ l, mayB p = true) (h3 : l.Pairwise (fun p q => ahead p q = true)) : rightL l = true := by
  simp only [rightL, Bool.and_eq_true, decide_eq_true_eq]
  exact ⟨h1, (okPn_iff l).2 ⟨h2, h3⟩⟩
theorem rightL_sub {l l' : List Pn} (hs : l'.Sublist l) (h : rightL l = true) : rightL l' = true := by
  obtain ⟨h1, h2, h3⟩ := rightL_ok h
  exact rightL_mk (by have := hs.length_le; omega) (fun p hp => h2 p (hs.subset hp)) (h3.sublist hs)
end Go.Proofs.YtbhblhcgfenobaaDoor
