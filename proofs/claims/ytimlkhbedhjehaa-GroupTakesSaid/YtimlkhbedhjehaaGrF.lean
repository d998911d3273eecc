/-
  Groups, walked over abstract values: the law of an event that is taken.
-/
import Derived.Test.YtimlkhbedhjehaaGrE
namespace Go.Proofs.Ytimlkhbedhjehaa
open Go.RowKit
set_option linter.unusedSimpArgs false
set_option linter.unusedVariables false
theorem takeR_le (s d k no mark : Int) (ps : List Pn) (key : ByteArray) (at' v : Int) (hx : ps.length ≤ 9223372036854775807) : (takeR s d k no mark ps key at' v).ps.length ≤ 9223372036854775807 := by
  have h := takeW_le (k := k) (key := key) (v := v) (ws := openL s d at' mark) hx
  unfold takeR
  repeat' split
  all_goals simp only [List.length_nil]
  all_goals omega
section
variable (g s d k fu li de id no mark : Int) (ps : List Pn) (key : ByteArray) (at' v : Int)
set_option maxHeartbeats 8000000 in
set_option maxRecDepth 20000 in
theorem g_takes (hx : ps.length ≤ 9223372036854775807) (hv : -9223372036854775808 ≤ v ∧ v ≤ 9223372036854775807) :
    PC Try.prog 14 [.agg [.v (.int .i64 g), .v (.int .i64 s), .v (.int .i64 d), .v (.int .i64 k), .v (.int .i64 fu), .v (.int .i64 li), .v (.int .i64 de), .v (.int .i64 id)], .agg [.v (.int .i64 no), .v (.int .i64 mark), .sl 6 (ps.map Pn.av)], .agg [.v (.string key), .v (.int .i64 at'), .v (.int .i64 v)]] (.v (.bool true)) := by
  have hf := g_few no mark ps hx
  have hx1 := Nat.le_trans (fewL_le ps) hx
  generalize fewL ps = qs at *
  have h1 := g_Take g s d k fu li de id no mark qs key at' v hx1
  have h2 := g_rTake g s d k fu li de id no mark qs key at' v hx1 hv
  have h3 := g_Job g s d k fu li de id
  have h4 := g_rJob g s d k fu li de id
  have h5 := g_Right no mark qs hx1
  have h6 := g_rRight no mark qs hx1
  have hle := takeR_le s d k no mark qs key at' v hx1
  have h8 := g_alive
  generalize takeR s d k no mark qs key at' v = r at *
  obtain ⟨no', mark', A, n, e⟩ := r
  have h7 := g_Like no' mark' A hle
  dsimp only [TkR.av] at h1 h2
  cases hj : jobR s d k <;> cases hr : grR no mark qs
  all_goals
    rw [hj] at h3 h4
    rw [hr] at h5 h6
    refine PC.mk (ac_body tab_ok Try.func14 rfl (by kernel_rfl) rfl ?_); intro w0 M μ0; simp only [Try.ntmps14, List.length_cons, List.length_nil, Nat.reduceAdd, Nat.reduceSub, numb]
    repeat' (first | ((first | apply o_do | apply d_do | apply d_yes rfl rfl rfl); first | exact lsc (hf) | exact lsc (h1) | exact lsc (h2) | exact lsc (h3) | exact lsc (h4) | exact lsc (h5) | exact lsc (h6) | exact lsc (h7) | exact lsc (h8) | exact lsq) | first | refine a_seq ?_ | refine a_region ?_ | refine o_nil ?_ | refine a_block ?_ | refine a_ret ?_ | refine a_exit ?_ | refine a_skip ?_ | refine a_draw mixed ?_ | refine d_nil (by kernel_rfl) ?_ | first | refine o_yes rfl rfl rfl ?_ | refine o_no rfl rfl rfl (by decide) ?_ | refine o_no' rfl rfl rfl ?_ | refine a_condT rfl ?_ | refine a_condF rfl ?_ | refine d_no rfl rfl rfl (by decide) ?_ | refine d_no' rfl rfl rfl ?_ | ((first | refine o_split_t rfl rfl rfl (fun hb => ?_) (fun hb => ?_) | refine o_split_f rfl rfl rfl (fun hb => ?_) (fun hb => ?_) | refine a_cond rfl (fun hb => ?_) (fun hb => ?_) | refine d_split rfl rfl (fun hb => ?_) (fun hb => ?_)) <;> (simp only [hb]; try simp only [decide_eq_true_eq, decide_eq_false_iff_not, Bool.not_eq_true', Bool.not_eq_false', Bool.not_eq_true, Bool.not_eq_false, ne_eq, Decidable.not_not] at hb; try (exfalso; first | omega | exact hb trivial))))
    all_goals refine ⟨by first | exact .inr rfl | exact .inl rfl, _, rfl, ?_, by repeat' (first | exact trivial | refine ⟨⟨_, rfl, by first | rfl | (simp [renO, *]; done)⟩, by first | rfl | assumption, ?_⟩)⟩
    all_goals (first | refine FinA.tup ?_ | refine FinA.one ?_); repeat' (first | exact FinBs.nil | exact FinCs.nil | refine FinBs.cons ?_ ?_ | refine FinCs.cons ?_ ?_ | refine FinB.cell (FinC.v ?_) | refine FinB.cell (FinC.own rfl rfl rfl ?_) | exact FinB.cell FinC.nil | refine FinB.cell (FinC.sl ?_) | exact FinB.agg' rfl rfl | exact FinB.cell (FinC.same rfl) | refine FinB.agg ?_ | refine FinC.v ?_ | refine FinC.own rfl rfl rfl ?_ | exact FinC.nil | refine FinC.sl ?_ | exact FinC.same rfl); all_goals try rfl
    all_goals simp
end
end Go.Proofs.Ytimlkhbedhjehaa
