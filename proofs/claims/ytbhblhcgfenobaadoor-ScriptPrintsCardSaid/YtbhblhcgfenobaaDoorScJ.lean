/-
  Script: a plan that may not be is not written; the reference's text.
-/
import Derived.Test.YtbhblhcgfenobaaDoorScI
import Derived.Test.YtbhblhcgfenobaaDoorBtS
namespace Go.Proofs.YtbhblhcgfenobaaDoor
open Go.RowKit
set_option linter.unusedSimpArgs false
set_option linter.unusedVariables false
set_option maxHeartbeats 2000000 in
theorem s_PrintNo (p : Pl) (hx : Small p.ls) (hxa : p.xs.length ≤ 9223372036854775807) (hok : p.ok = false) : PC Tryd.prog 4 [.agg p.av] (.tup [.v (.string ⟨#[]⟩), .v (.int .i64 240)]) := by
  have hR := s_Right p hx hxa
  rw [hok] at hR
  unfold Pl.av at *
  refine PC.mk (ac_body tab_ok Tryd.func4 rfl (by kernel_rfl) rfl ?_); intro w0 M μ0; simp only [Tryd.ntmps4, List.length_cons, List.length_nil, Nat.reduceAdd, Nat.reduceSub, numb]
  repeat' (first | ((first | apply o_do | apply d_do | apply d_yes rfl rfl rfl); first | exact lsc (hR) | exact lsq) | refine a_seq ?_ | refine a_region ?_ | refine o_nil ?_ | refine a_block ?_ | refine a_ret ?_ | refine a_exit ?_ | refine a_skip ?_ | refine a_draw mixed ?_ | refine d_nil (by kernel_rfl) ?_ | refine o_yes rfl rfl rfl ?_ | refine o_no rfl rfl rfl (by decide) ?_ | refine o_no' rfl rfl rfl ?_ | refine a_condT rfl ?_ | refine a_condF rfl ?_ | refine d_no rfl rfl rfl (by decide) ?_ | refine d_no' rfl rfl rfl ?_ | (refine wq2 (fun hb => ?_) (fun hb => ?_) <;> (simp only [hb]; try simp only [hbs, ne_eq] at hb; try (exfalso; first | omega | exact hb trivial))) | fail)
  all_goals refine ⟨by first | exact .inr rfl | exact .inl rfl, _, rfl, ?_, by repeat' (first | exact trivial | refine ⟨⟨_, rfl, by first | rfl | (simp [renO, *]; done)⟩, by first | rfl | assumption, ?_⟩)⟩
  all_goals (first | refine FinA.tup ?_ | refine FinA.one ?_); repeat' (first | exact FinBs.nil | exact FinCs.nil | refine FinBs.cons ?_ ?_ | refine FinCs.cons ?_ ?_ | refine FinB.cell (FinC.v ?_) | refine FinB.cell (FinC.own rfl rfl rfl ?_) | exact FinB.cell FinC.nil | refine FinB.cell (FinC.sl ?_) | exact FinB.agg' rfl rfl | exact FinB.cell (FinC.same rfl) | refine FinB.agg ?_ | refine FinC.v ?_ | refine FinC.own rfl rfl rfl ?_ | exact FinC.nil | refine FinC.sl ?_ | exact FinC.same rfl); all_goals try rfl
/-- the head of a plan's text -/
theorem head_eq (T z : ByteArray) : (((T ++ ⟨#[119, 111, 114, 107, 101, 114, 115, 32]⟩) ++ z) ++ ⟨#[10]⟩ : ByteArray).data.toList = T.data.toList ++ lineW [wksB, z] := by
  simp [lineW, join2, wksB]
end Go.Proofs.YtbhblhcgfenobaaDoor
