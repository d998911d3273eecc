/-
  Groups, walked over abstract values: which may be; time that goes on.
-/
import Derived.Test.YtbhblhcgfenobaaDoorPnH
namespace Go.Proofs.YtbhblhcgfenobaaDoor
open Go.RowKit
set_option linter.unusedSimpArgs false
set_option linter.unusedVariables false
def grR (no mark : Int) (ps : List Pn) : Bool := decide (0 ≤ no) && (decide (no < 32) && (decide (0 ≤ mark) && (decide (mark ≤ 1099511627776) && (rightL ps && ps.all fun p => decide (mark < p.hi)))))
def closed (mark : Int) (p : Pn) : Bool := decide (p.hi ≤ mark)
theorem ok_wRight : CallOK Tryd.prog 42 := ⟨_, Tryd.func42, by kernel_rfl, rfl⟩
theorem ok_rwRight : CallOK Tryd.prog 55 := ⟨_, Tryd.func55, by kernel_rfl, rfl⟩
theorem p_wRight (s d : Int) : PC Tryd.prog 42 [.v (.int .i64 s), .v (.int .i64 d)] (.v (.bool (winB s d))) :=
  pc_of_calls (xs := [.int .i64 s, .int .i64 d]) ok_wRight (fun w => (window_Right s d w).mono fun e w' ⟨h1, h2⟩ => ⟨h1, by rw [← h2]; exact Below.refl _ _⟩) rfl
theorem p_rwRight (s d : Int) : PC Tryd.prog 55 [.v (.int .i64 s), .v (.int .i64 d)] (.v (.bool (winB s d))) :=
  pc_of_calls (xs := [.int .i64 s, .int .i64 d]) ok_rwRight (fun w => (ref05_Right s d w).mono fun e w' ⟨h1, h2⟩ => ⟨h1, by rw [← h2]; exact Below.refl _ _⟩) rfl
def jobR (s d k : Int) : Bool := winB s d && fRight k
theorem g_rJob (g s d k fu li de id : Int) : PC Tryd.prog 40 [.agg [.v (.int .i64 g), .v (.int .i64 s), .v (.int .i64 d), .v (.int .i64 k), .v (.int .i64 fu), .v (.int .i64 li), .v (.int .i64 de), .v (.int .i64 id)]] (.v (.bool (jobR s d k))) := by
  refine PC.mk (ac_body tab_ok Tryd.func40 rfl (by kernel_rfl) rfl ?_); intro w0 M μ0; simp only [Tryd.ntmps40, List.length_cons, List.length_nil, Nat.reduceAdd, Nat.reduceSub, numb]
  repeat' (first | ((first | apply o_do | apply d_do | apply d_yes rfl rfl rfl); first | exact lsc ((p_rwRight _ _)) | exact lsc ((p_rFold _)) | exact lsq) | refine a_seq ?_ | refine a_region ?_ | refine o_nil ?_ | refine a_block ?_ | refine a_ret ?_ | refine a_exit ?_ | refine a_skip ?_ | refine a_draw mixed ?_ | refine d_nil (by kernel_rfl) ?_ | refine o_yes rfl rfl rfl ?_ | refine o_no rfl rfl rfl (by decide) ?_ | refine o_no' rfl rfl rfl ?_ | refine a_condT rfl ?_ | refine a_condF rfl ?_ | refine d_no rfl rfl rfl (by decide) ?_ | refine d_no' rfl rfl rfl ?_ | (refine wq2 (fun hb => ?_) (fun hb => ?_) <;> (simp only [hb]; try simp only [hbs, ne_eq] at hb; try (exfalso; first | omega | exact hb trivial))) | fail)
  all_goals refine ⟨by first | exact .inr rfl | exact .inl rfl, _, rfl, ?_, by repeat' (first | exact trivial | refine ⟨⟨_, rfl, by first | rfl | (simp [renO, *]; done)⟩, by first | rfl | assumption, ?_⟩)⟩
  all_goals (first | refine FinA.tup ?_ | refine FinA.one ?_); repeat' (first | exact FinBs.nil | exact FinCs.nil | refine FinBs.cons ?_ ?_ | refine FinCs.cons ?_ ?_ | refine FinB.cell (FinC.v ?_) | refine FinB.cell (FinC.own rfl rfl rfl ?_) | exact FinB.cell FinC.nil | refine FinB.cell (FinC.sl ?_) | exact FinB.agg' rfl rfl | exact FinB.cell (FinC.same rfl) | refine FinB.agg ?_ | refine FinC.v ?_ | refine FinC.own rfl rfl rfl ?_ | exact FinC.nil | refine FinC.sl ?_ | exact FinC.same rfl); all_goals try rfl
  all_goals simp [jobR, *]
end Go.Proofs.YtbhblhcgfenobaaDoor
