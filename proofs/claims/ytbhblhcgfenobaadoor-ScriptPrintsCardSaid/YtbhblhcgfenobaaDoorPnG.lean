/-
  Panes, walked over abstract values: what is due by the reference; results.
-/
import Derived.Test.YtbhblhcgfenobaaDoorPnF
namespace Go.Proofs.YtbhblhcgfenobaaDoor
open Go.RowKit
set_option linter.unusedSimpArgs false
set_option linter.unusedVariables false
theorem dueA_snoc (l : List Pn) (x : Pn) (m : Int) : dueA (l ++ [x]) m = dueA l m ++ (if x.hi ≤ m then [x] else []) := by
  unfold dueA
  rw [List.filter_append]
  by_cases h : x.hi ≤ m <;> simp [h]
theorem dueB_snoc (l : List Pn) (x : Pn) (m : Int) : dueB (l ++ [x]) m = dueB l m ++ (if x.hi ≤ m then [] else [x]) := by
  unfold dueB
  rw [List.filter_append]
  by_cases h : x.hi ≤ m <;> simp [h]
theorem dueA_le (l : List Pn) (m : Int) : (dueA l m).length ≤ l.length := List.length_filter_le _ _
theorem dueB_le (l : List Pn) (m : Int) : (dueB l m).length ≤ l.length := List.length_filter_le _ _
structure Rs where
  lo : Int
  hi : Int
  key : ByteArray
  n : Int
  val : Int
def Rs.av (r : Rs) : List AV := [.v (.int .i64 r.lo), .v (.int .i64 r.hi), .v (.string r.key), .v (.int .i64 r.n), .v (.int .i64 r.val)]
def resOf (k : Int) (p : Pn) : Rs := ⟨p.lo, p.hi, p.key, p.n, fVal k ⟨p.n, p.a, p.b⟩⟩
def resultsL (k : Int) (l : List Pn) : List Rs := if rightL l && fRight k then l.map (resOf k) else []
theorem p_fRight (k : Int) : PC Tryd.prog 43 [.v (.int .i64 k)] (.v (.bool (fRight k))) := by
  refine PC.mk (ac_body tab_ok Tryd.func43 rfl (by kernel_rfl) rfl ?_); intro w0 M μ0; simp only [Tryd.ntmps43, List.length_cons, List.length_nil, Nat.reduceAdd, Nat.reduceSub, numb]
  repeat' (first | ((first | apply o_do | apply d_do | apply d_yes rfl rfl rfl); exact lsq) | refine a_seq ?_ | refine a_region ?_ | refine o_nil ?_ | refine a_block ?_ | refine a_ret ?_ | refine a_exit ?_ | refine a_skip ?_ | refine a_draw mixed ?_ | refine d_nil (by kernel_rfl) ?_ | refine o_yes rfl rfl rfl ?_ | refine o_no rfl rfl rfl (by decide) ?_ | refine o_no' rfl rfl rfl ?_ | refine a_condT rfl ?_ | refine a_condF rfl ?_ | refine d_no rfl rfl rfl (by decide) ?_ | refine d_no' rfl rfl rfl ?_ | (refine wq2 (fun hb => ?_) (fun hb => ?_) <;> (simp only [hb]; try simp only [hbs, ne_eq] at hb; try (exfalso; first | omega | exact hb trivial))) | fail)
  all_goals refine ⟨by first | exact .inr rfl | exact .inl rfl, _, rfl, ?_, by repeat' (first | exact trivial | refine ⟨⟨_, rfl, by first | rfl | (simp [renO, *]; done)⟩, by first | rfl | assumption, ?_⟩)⟩
  all_goals (first | refine FinA.tup ?_ | refine FinA.one ?_); repeat' (first | exact FinBs.nil | exact FinCs.nil | refine FinBs.cons ?_ ?_ | refine FinCs.cons ?_ ?_ | refine FinB.cell (FinC.v ?_) | refine FinB.cell (FinC.own rfl rfl rfl ?_) | exact FinB.cell FinC.nil | refine FinB.cell (FinC.sl ?_) | exact FinB.agg' rfl rfl | exact FinB.cell (FinC.same rfl) | refine FinB.agg ?_ | refine FinC.v ?_ | refine FinC.own rfl rfl rfl ?_ | exact FinC.nil | refine FinC.sl ?_ | exact FinC.same rfl); all_goals try rfl
  all_goals simp [fRight, *]
theorem p_rFold (k : Int) : PC Tryd.prog 56 [.v (.int .i64 k)] (.v (.bool (fRight k))) := by
  refine PC.mk (ac_body tab_ok Tryd.func56 rfl (by kernel_rfl) rfl ?_); intro w0 M μ0; simp only [Tryd.ntmps56, List.length_cons, List.length_nil, Nat.reduceAdd, Nat.reduceSub, numb]
  repeat' (first | ((first | apply o_do | apply d_do | apply d_yes rfl rfl rfl); exact lsq) | refine a_seq ?_ | refine a_region ?_ | refine o_nil ?_ | refine a_block ?_ | refine a_ret ?_ | refine a_exit ?_ | refine a_skip ?_ | refine a_draw mixed ?_ | refine d_nil (by kernel_rfl) ?_ | refine o_yes rfl rfl rfl ?_ | refine o_no rfl rfl rfl (by decide) ?_ | refine o_no' rfl rfl rfl ?_ | refine a_condT rfl ?_ | refine a_condF rfl ?_ | refine d_no rfl rfl rfl (by decide) ?_ | refine d_no' rfl rfl rfl ?_ | (refine wq2 (fun hb => ?_) (fun hb => ?_) <;> (simp only [hb]; try simp only [hbs, ne_eq] at hb; try (exfalso; first | omega | exact hb trivial))) | fail)
  all_goals refine ⟨by first | exact .inr rfl | exact .inl rfl, _, rfl, ?_, by repeat' (first | exact trivial | refine ⟨⟨_, rfl, by first | rfl | (simp [renO, *]; done)⟩, by first | rfl | assumption, ?_⟩)⟩
  all_goals (first | refine FinA.tup ?_ | refine FinA.one ?_); repeat' (first | exact FinBs.nil | exact FinCs.nil | refine FinBs.cons ?_ ?_ | refine FinCs.cons ?_ ?_ | refine FinB.cell (FinC.v ?_) | refine FinB.cell (FinC.own rfl rfl rfl ?_) | exact FinB.cell FinC.nil | refine FinB.cell (FinC.sl ?_) | exact FinB.agg' rfl rfl | exact FinB.cell (FinC.same rfl) | refine FinB.agg ?_ | refine FinC.v ?_ | refine FinC.own rfl rfl rfl ?_ | exact FinC.nil | refine FinC.sl ?_ | exact FinC.same rfl); all_goals try rfl
  all_goals simp [fRight, *]
end Go.Proofs.YtbhblhcgfenobaaDoor
