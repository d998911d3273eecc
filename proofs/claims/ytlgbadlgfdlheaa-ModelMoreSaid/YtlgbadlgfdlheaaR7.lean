/-
  Folds, walked over abstract values: one value, and two joined.
  A row of the store turned by a library's call.
  slices.Insert of one pane into a row of one's own: every row, every place in it.
-/
import Derived.Shelf.Spec.SlicesInsertGrow
import Derived.Test.YtlgbadlgfdlheaaR3
import Derived.Test.YtlgbadlgfdlheaaR4
set_option linter.unusedSimpArgs false
set_option linter.unusedVariables false
set_option maxHeartbeats 20000000
namespace Go.Proofs.Ytlgbadlgfdlheaa
open Go.RowKit
theorem p_plus (x y : Int) : PC Try.prog 62 [.v (.int .i64 x), .v (.int .i64 y)] (.v (.int .i64 (wrap64 (x + y)))) := by
 refine PC.mk (ac_body tab_ok Try.func62 rfl (by kernel_rfl) rfl ?_); intro w0 M μ0; simp only [Try.ntmps62, List.length_cons, List.length_nil, Nat.reduceAdd, Nat.reduceSub, numb]
 repeat' (first | ((first | apply o_do | apply d_do | apply d_yes rfl rfl rfl); exact lsq) | refine a_seq ?_ | refine a_region ?_ | refine o_nil ?_ | refine a_block ?_ | refine a_ret ?_ | refine a_exit ?_ | refine a_skip ?_ | refine a_draw mixed ?_ | refine d_nil (by kernel_rfl) ?_ | refine o_yes rfl rfl rfl ?_ | refine o_no rfl rfl rfl (by decide) ?_ | refine o_no' rfl rfl rfl ?_ | refine a_condT rfl ?_ | refine a_condF rfl ?_ | refine d_no rfl rfl rfl (by decide) ?_ | refine d_no' rfl rfl rfl ?_ | (refine wq2 (fun hb => ?_) (fun hb => ?_) <;> (simp only [hb]; try simp only [hbs, ne_eq] at hb; try (exfalso; first | omega | exact hb trivial))) | fail)
 all_goals refine rq rfl ?_
 all_goals (first | refine FinA.tup ?_ | refine FinA.one ?_); repeat' (first | exact FinBs.nil | exact FinCs.nil | refine FinBs.cons ?_ ?_ | refine FinCs.cons ?_ ?_ | refine FinB.cell (FinC.v ?_) | refine FinB.cell (FinC.own rfl rfl rfl ?_) | exact FinB.cell FinC.nil | refine FinB.cell (FinC.sl ?_) | exact FinB.agg' rfl rfl | exact FinB.cell (FinC.same rfl) | refine FinB.agg ?_ | refine FinC.v ?_ | refine FinC.own rfl rfl rfl ?_ | exact FinC.nil | refine FinC.sl ?_ | exact FinC.same rfl); all_goals try rfl
 simp only [IntKind.wrap_i64, wrap64]
theorem p_none (x y : Int) : PC Try.prog 63 [.v (.int .i64 x), .v (.int .i64 y)] (.v (.int .i64 0)) := by
 refine PC.mk (ac_body tab_ok Try.func63 rfl (by kernel_rfl) rfl ?_); intro w0 M μ0; simp only [Try.ntmps63, List.length_cons, List.length_nil, Nat.reduceAdd, Nat.reduceSub, numb]
 repeat' (first | ((first | apply o_do | apply d_do | apply d_yes rfl rfl rfl); exact lsq) | refine a_seq ?_ | refine a_region ?_ | refine o_nil ?_ | refine a_block ?_ | refine a_ret ?_ | refine a_exit ?_ | refine a_skip ?_ | refine a_draw mixed ?_ | refine d_nil (by kernel_rfl) ?_ | refine o_yes rfl rfl rfl ?_ | refine o_no rfl rfl rfl (by decide) ?_ | refine o_no' rfl rfl rfl ?_ | refine a_condT rfl ?_ | refine a_condF rfl ?_ | refine d_no rfl rfl rfl (by decide) ?_ | refine d_no' rfl rfl rfl ?_ | (refine wq2 (fun hb => ?_) (fun hb => ?_) <;> (simp only [hb]; try simp only [hbs, ne_eq] at hb; try (exfalso; first | omega | exact hb trivial))) | fail)
 all_goals refine rq rfl ?_
 all_goals exact fnq
theorem p_least (x y : Int) : PC Try.prog 64 [.v (.int .i64 x), .v (.int .i64 y)] (.v (.int .i64 (min x y))) := by
 refine PC.mk (ac_body tab_ok Try.func64 rfl (by kernel_rfl) rfl ?_); intro w0 M μ0; simp only [Try.ntmps64, List.length_cons, List.length_nil, Nat.reduceAdd, Nat.reduceSub, numb]
 repeat' (first | ((first | apply o_do | apply d_do | apply d_yes rfl rfl rfl); exact lsq) | refine a_seq ?_ | refine a_region ?_ | refine o_nil ?_ | refine a_block ?_ | refine a_ret ?_ | refine a_exit ?_ | refine a_skip ?_ | refine a_draw mixed ?_ | refine d_nil (by kernel_rfl) ?_ | refine o_yes rfl rfl rfl ?_ | refine o_no rfl rfl rfl (by decide) ?_ | refine o_no' rfl rfl rfl ?_ | refine a_condT rfl ?_ | refine a_condF rfl ?_ | refine d_no rfl rfl rfl (by decide) ?_ | refine d_no' rfl rfl rfl ?_ | (refine wq2 (fun hb => ?_) (fun hb => ?_) <;> (simp only [hb]; try simp only [hbs, ne_eq] at hb; try (exfalso; first | omega | exact hb trivial))) | fail)
 all_goals refine rq rfl ?_
 all_goals exact fnq
theorem p_most (x y : Int) : PC Try.prog 65 [.v (.int .i64 x), .v (.int .i64 y)] (.v (.int .i64 (max x y))) := by
 refine PC.mk (ac_body tab_ok Try.func65 rfl (by kernel_rfl) rfl ?_); intro w0 M μ0; simp only [Try.ntmps65, List.length_cons, List.length_nil, Nat.reduceAdd, Nat.reduceSub, numb]
 repeat' (first | ((first | apply o_do | apply d_do | apply d_yes rfl rfl rfl); exact lsq) | refine a_seq ?_ | refine a_region ?_ | refine o_nil ?_ | refine a_block ?_ | refine a_ret ?_ | refine a_exit ?_ | refine a_skip ?_ | refine a_draw mixed ?_ | refine d_nil (by kernel_rfl) ?_ | refine o_yes rfl rfl rfl ?_ | refine o_no rfl rfl rfl (by decide) ?_ | refine o_no' rfl rfl rfl ?_ | refine a_condT rfl ?_ | refine a_condF rfl ?_ | refine d_no rfl rfl rfl (by decide) ?_ | refine d_no' rfl rfl rfl ?_ | (refine wq2 (fun hb => ?_) (fun hb => ?_) <;> (simp only [hb]; try simp only [hbs, ne_eq] at hb; try (exfalso; first | omega | exact hb trivial))) | fail)
 all_goals refine rq rfl ?_
 all_goals exact fnq
theorem p_fields1 : PC Try.prog 58 [.v (.int .i64 1)] (.tup [.clo (.func 63) [] [], .clo (.func 63) [] []]) := by
 refine PC.mk (ac_body tab_ok Try.func58 rfl (by kernel_rfl) rfl ?_); intro w0 M μ0; simp only [Try.ntmps58, List.length_cons, List.length_nil, Nat.reduceAdd, Nat.reduceSub, numb]
 repeat' (first | ((first | apply o_do | apply d_do | apply d_yes rfl rfl rfl); exact lsq) | refine a_seq ?_ | refine a_region ?_ | refine o_nil ?_ | refine a_block ?_ | refine a_ret ?_ | refine a_exit ?_ | refine a_skip ?_ | refine a_draw mixed ?_ | refine d_nil (by kernel_rfl) ?_ | refine o_yes rfl rfl rfl ?_ | refine o_no rfl rfl rfl (by decide) ?_ | refine o_no' rfl rfl rfl ?_ | refine a_condT rfl ?_ | refine a_condF rfl ?_ | refine d_no rfl rfl rfl (by decide) ?_ | refine d_no' rfl rfl rfl ?_ | (refine wq2 (fun hb => ?_) (fun hb => ?_) <;> (simp only [hb]; try simp only [hbs, ne_eq] at hb; try (exfalso; first | omega | exact hb trivial))) | fail)
 all_goals refine rq rfl ?_
 all_goals exact fnq
theorem p_fields2 : PC Try.prog 58 [.v (.int .i64 2)] (.tup [.clo (.func 62) [] [], .clo (.func 63) [] []]) := by
 refine PC.mk (ac_body tab_ok Try.func58 rfl (by kernel_rfl) rfl ?_); intro w0 M μ0; simp only [Try.ntmps58, List.length_cons, List.length_nil, Nat.reduceAdd, Nat.reduceSub, numb]
 repeat' (first | ((first | apply o_do | apply d_do | apply d_yes rfl rfl rfl); exact lsq) | refine a_seq ?_ | refine a_region ?_ | refine o_nil ?_ | refine a_block ?_ | refine a_ret ?_ | refine a_exit ?_ | refine a_skip ?_ | refine a_draw mixed ?_ | refine d_nil (by kernel_rfl) ?_ | refine o_yes rfl rfl rfl ?_ | refine o_no rfl rfl rfl (by decide) ?_ | refine o_no' rfl rfl rfl ?_ | refine a_condT rfl ?_ | refine a_condF rfl ?_ | refine d_no rfl rfl rfl (by decide) ?_ | refine d_no' rfl rfl rfl ?_ | (refine wq2 (fun hb => ?_) (fun hb => ?_) <;> (simp only [hb]; try simp only [hbs, ne_eq] at hb; try (exfalso; first | omega | exact hb trivial))) | fail)
 all_goals refine rq rfl ?_
 all_goals exact fnq
theorem p_fields3 : PC Try.prog 58 [.v (.int .i64 3)] (.tup [.clo (.func 64) [] [], .clo (.func 63) [] []]) := by
 refine PC.mk (ac_body tab_ok Try.func58 rfl (by kernel_rfl) rfl ?_); intro w0 M μ0; simp only [Try.ntmps58, List.length_cons, List.length_nil, Nat.reduceAdd, Nat.reduceSub, numb]
 repeat' (first | ((first | apply o_do | apply d_do | apply d_yes rfl rfl rfl); exact lsq) | refine a_seq ?_ | refine a_region ?_ | refine o_nil ?_ | refine a_block ?_ | refine a_ret ?_ | refine a_exit ?_ | refine a_skip ?_ | refine a_draw mixed ?_ | refine d_nil (by kernel_rfl) ?_ | refine o_yes rfl rfl rfl ?_ | refine o_no rfl rfl rfl (by decide) ?_ | refine o_no' rfl rfl rfl ?_ | refine a_condT rfl ?_ | refine a_condF rfl ?_ | refine d_no rfl rfl rfl (by decide) ?_ | refine d_no' rfl rfl rfl ?_ | (refine wq2 (fun hb => ?_) (fun hb => ?_) <;> (simp only [hb]; try simp only [hbs, ne_eq] at hb; try (exfalso; first | omega | exact hb trivial))) | fail)
 all_goals refine rq rfl ?_
 all_goals exact fnq
theorem p_fields4 : PC Try.prog 58 [.v (.int .i64 4)] (.tup [.clo (.func 65) [] [], .clo (.func 63) [] []]) := by
 refine PC.mk (ac_body tab_ok Try.func58 rfl (by kernel_rfl) rfl ?_); intro w0 M μ0; simp only [Try.ntmps58, List.length_cons, List.length_nil, Nat.reduceAdd, Nat.reduceSub, numb]
 repeat' (first | ((first | apply o_do | apply d_do | apply d_yes rfl rfl rfl); exact lsq) | refine a_seq ?_ | refine a_region ?_ | refine o_nil ?_ | refine a_block ?_ | refine a_ret ?_ | refine a_exit ?_ | refine a_skip ?_ | refine a_draw mixed ?_ | refine d_nil (by kernel_rfl) ?_ | refine o_yes rfl rfl rfl ?_ | refine o_no rfl rfl rfl (by decide) ?_ | refine o_no' rfl rfl rfl ?_ | refine a_condT rfl ?_ | refine a_condF rfl ?_ | refine d_no rfl rfl rfl (by decide) ?_ | refine d_no' rfl rfl rfl ?_ | (refine wq2 (fun hb => ?_) (fun hb => ?_) <;> (simp only [hb]; try simp only [hbs, ne_eq] at hb; try (exfalso; first | omega | exact hb trivial))) | fail)
 all_goals refine rq rfl ?_
 all_goals exact fnq
theorem p_fields5 : PC Try.prog 58 [.v (.int .i64 5)] (.tup [.clo (.func 64) [] [], .clo (.func 65) [] []]) := by
 refine PC.mk (ac_body tab_ok Try.func58 rfl (by kernel_rfl) rfl ?_); intro w0 M μ0; simp only [Try.ntmps58, List.length_cons, List.length_nil, Nat.reduceAdd, Nat.reduceSub, numb]
 repeat' (first | ((first | apply o_do | apply d_do | apply d_yes rfl rfl rfl); exact lsq) | refine a_seq ?_ | refine a_region ?_ | refine o_nil ?_ | refine a_block ?_ | refine a_ret ?_ | refine a_exit ?_ | refine a_skip ?_ | refine a_draw mixed ?_ | refine d_nil (by kernel_rfl) ?_ | refine o_yes rfl rfl rfl ?_ | refine o_no rfl rfl rfl (by decide) ?_ | refine o_no' rfl rfl rfl ?_ | refine a_condT rfl ?_ | refine a_condF rfl ?_ | refine d_no rfl rfl rfl (by decide) ?_ | refine d_no' rfl rfl rfl ?_ | (refine wq2 (fun hb => ?_) (fun hb => ?_) <;> (simp only [hb]; try simp only [hbs, ne_eq] at hb; try (exfalso; first | omega | exact hb trivial))) | fail)
 all_goals refine rq rfl ?_
 all_goals exact fnq
theorem p_One (k v : Int) : PC Try.prog 31 [.v (.int .i64 k), .v (.int .i64 v)] (.agg [.v (.int .i64 (fOne k v).n), .v (.int .i64 (fOne k v).a), .v (.int .i64 (fOne k v).b)]) := by
 cases hk : fRight k
 ·rw [fOne_not hk]
  have := right_not hk
  refine PC.mk (ac_body tab_ok Try.func31 rfl (by kernel_rfl) rfl ?_); intro w0 M μ0; simp only [Try.ntmps31, List.length_cons, List.length_nil, Nat.reduceAdd, Nat.reduceSub, numb]
  repeat' (first | ((first | apply o_do | apply d_do | apply d_yes rfl rfl rfl); exact lsq) | refine a_seq ?_ | refine a_region ?_ | refine o_nil ?_ | refine a_block ?_ | refine a_ret ?_ | refine a_exit ?_ | refine a_skip ?_ | refine a_draw mixed ?_ | refine d_nil (by kernel_rfl) ?_ | refine o_yes rfl rfl rfl ?_ | refine o_no rfl rfl rfl (by decide) ?_ | refine o_no' rfl rfl rfl ?_ | refine a_condT rfl ?_ | refine a_condF rfl ?_ | refine d_no rfl rfl rfl (by decide) ?_ | refine d_no' rfl rfl rfl ?_ | (refine wq2 (fun hb => ?_) (fun hb => ?_) <;> (simp only [hb]; try simp only [hbs, ne_eq] at hb; try (exfalso; first | omega | exact hb trivial))) | fail)
  all_goals refine rq rfl ?_
  all_goals exact fnq
 ·rcases right_cases hk with rfl | rfl | rfl | rfl | rfl
  all_goals (refine PC.mk (ac_body tab_ok Try.func31 rfl (by kernel_rfl) rfl ?_); intro w0 M μ0; simp only [Try.ntmps31, List.length_cons, List.length_nil, Nat.reduceAdd, Nat.reduceSub, numb]; repeat' (first | ((first | apply o_do | apply d_do | apply d_yes rfl rfl rfl); exact lsq) | refine a_seq ?_ | refine a_region ?_ | refine o_nil ?_ | refine a_block ?_ | refine a_ret ?_ | refine a_exit ?_ | refine a_skip ?_ | refine a_draw mixed ?_ | refine d_nil (by kernel_rfl) ?_ | refine o_yes rfl rfl rfl ?_ | refine o_no rfl rfl rfl (by decide) ?_ | refine o_no' rfl rfl rfl ?_ | refine a_condT rfl ?_ | refine a_condF rfl ?_ | refine d_no rfl rfl rfl (by decide) ?_ | refine d_no' rfl rfl rfl ?_ | (refine wq2 (fun hb => ?_) (fun hb => ?_) <;> (simp only [hb]; try simp only [hbs, ne_eq] at hb; try (exfalso; first | omega | exact hb trivial))) | fail))
  all_goals refine rq rfl ?_
  all_goals exact fnq
def fJoinO (k n a b n' a' b' : Int) : List AV := [.v (.int .i64 (fJoin k ⟨n, a, b⟩ ⟨n', a', b'⟩).n), .v (.int .i64 (fJoin k ⟨n, a, b⟩ ⟨n', a', b'⟩).a), .v (.int .i64 (fJoin k ⟨n, a, b⟩ ⟨n', a', b'⟩).b)]
theorem p_Join (k n a b n' a' b' : Int) : PC Try.prog 49 [.v (.int .i64 k), .agg [.v (.int .i64 n), .v (.int .i64 a), .v (.int .i64 b)], .agg [.v (.int .i64 n'), .v (.int .i64 a'), .v (.int .i64 b')]] (.agg (fJoinO k n a b n' a' b')) := by
 have hr := p_fRight k
 unfold fJoinO
 cases hk : fRight k
 ·rw [fJoin_not hk]
  rw [hk] at hr
  refine PC.mk (ac_body tab_ok Try.func49 rfl (by kernel_rfl) rfl ?_); intro w0 M μ0; simp only [Try.ntmps49, List.length_cons, List.length_nil, Nat.reduceAdd, Nat.reduceSub, numb]
  repeat' (first | ((first | apply o_do | apply d_do | apply d_yes rfl rfl rfl); first | exact lsc (hr) | exact lsq) | refine a_seq ?_ | refine a_region ?_ | refine o_nil ?_ | refine a_block ?_ | refine a_ret ?_ | refine a_exit ?_ | refine a_skip ?_ | refine a_draw mixed ?_ | refine d_nil (by kernel_rfl) ?_ | refine o_yes rfl rfl rfl ?_ | refine o_no rfl rfl rfl (by decide) ?_ | refine o_no' rfl rfl rfl ?_ | refine a_condT rfl ?_ | refine a_condF rfl ?_ | refine d_no rfl rfl rfl (by decide) ?_ | refine d_no' rfl rfl rfl ?_ | (refine wq2 (fun hb => ?_) (fun hb => ?_) <;> (simp only [hb]; try simp only [hbs, ne_eq] at hb; try (exfalso; first | omega | exact hb trivial))) | fail)
  all_goals refine rq rfl ?_
  all_goals exact fnq
 rw [hk] at hr
 by_cases h1 : n = 0
 ·rw [show fJoin k ⟨n, a, b⟩ ⟨n', a', b'⟩ = ⟨n', a', b'⟩ by simp [fJoin, hk, h1]]
  refine PC.mk (ac_body tab_ok Try.func49 rfl (by kernel_rfl) rfl ?_); intro w0 M μ0; simp only [Try.ntmps49, List.length_cons, List.length_nil, Nat.reduceAdd, Nat.reduceSub, numb]
  repeat' (first | ((first | apply o_do | apply d_do | apply d_yes rfl rfl rfl); first | exact lsc (hr) | exact lsq) | refine a_seq ?_ | refine a_region ?_ | refine o_nil ?_ | refine a_block ?_ | refine a_ret ?_ | refine a_exit ?_ | refine a_skip ?_ | refine a_draw mixed ?_ | refine d_nil (by kernel_rfl) ?_ | refine o_yes rfl rfl rfl ?_ | refine o_no rfl rfl rfl (by decide) ?_ | refine o_no' rfl rfl rfl ?_ | refine a_condT rfl ?_ | refine a_condF rfl ?_ | refine d_no rfl rfl rfl (by decide) ?_ | refine d_no' rfl rfl rfl ?_ | (refine wq2 (fun hb => ?_) (fun hb => ?_) <;> (simp only [hb]; try simp only [hbs, ne_eq] at hb; try (exfalso; first | omega | exact hb trivial))) | fail)
  all_goals refine rq rfl ?_
  all_goals exact fnq
 by_cases h2 : n' = 0
 ·rw [show fJoin k ⟨n, a, b⟩ ⟨n', a', b'⟩ = ⟨n, a, b⟩ by simp [fJoin, hk, h1, h2]]
  refine PC.mk (ac_body tab_ok Try.func49 rfl (by kernel_rfl) rfl ?_); intro w0 M μ0; simp only [Try.ntmps49, List.length_cons, List.length_nil, Nat.reduceAdd, Nat.reduceSub, numb]
  repeat' (first | ((first | apply o_do | apply d_do | apply d_yes rfl rfl rfl); first | exact lsc (hr) | exact lsq) | refine a_seq ?_ | refine a_region ?_ | refine o_nil ?_ | refine a_block ?_ | refine a_ret ?_ | refine a_exit ?_ | refine a_skip ?_ | refine a_draw mixed ?_ | refine d_nil (by kernel_rfl) ?_ | refine o_yes rfl rfl rfl ?_ | refine o_no rfl rfl rfl (by decide) ?_ | refine o_no' rfl rfl rfl ?_ | refine a_condT rfl ?_ | refine a_condF rfl ?_ | refine d_no rfl rfl rfl (by decide) ?_ | refine d_no' rfl rfl rfl ?_ | (refine wq2 (fun hb => ?_) (fun hb => ?_) <;> (simp only [hb]; try simp only [hbs, ne_eq] at hb; try (exfalso; first | omega | exact hb trivial))) | fail)
  all_goals refine rq rfl ?_
  all_goals exact fnq
 rw [show fJoin k ⟨n, a, b⟩ ⟨n', a', b'⟩ = ⟨wrap64 (n + n'), joinA k a a', joinB k b b'⟩ by simp [fJoin, hk, h1, h2]]
 dsimp only
 rcases right_cases hk with rfl | rfl | rfl | rfl | rfl
 ·have q1 := p_fields1
  have q2 := p_none a a'
  have q3 := p_none b b'
  refine PC.mk (ac_body tab_ok Try.func49 rfl (by kernel_rfl) rfl ?_); intro w0 M μ0; simp only [Try.ntmps49, List.length_cons, List.length_nil, Nat.reduceAdd, Nat.reduceSub, numb]
  repeat' (first | ((first | apply o_do | apply d_do | apply d_yes rfl rfl rfl); first | exact lsc (hr) | exact lsc (q1) | exact lsc (q2) | exact lsc (q3) | exact lsq) | refine a_seq ?_ | refine a_region ?_ | refine o_nil ?_ | refine a_block ?_ | refine a_ret ?_ | refine a_exit ?_ | refine a_skip ?_ | refine a_draw mixed ?_ | refine d_nil (by kernel_rfl) ?_ | refine o_yes rfl rfl rfl ?_ | refine o_no rfl rfl rfl (by decide) ?_ | refine o_no' rfl rfl rfl ?_ | refine a_condT rfl ?_ | refine a_condF rfl ?_ | refine d_no rfl rfl rfl (by decide) ?_ | refine d_no' rfl rfl rfl ?_ | (refine wq2 (fun hb => ?_) (fun hb => ?_) <;> (simp only [hb]; try simp only [hbs, ne_eq] at hb; try (exfalso; first | omega | exact hb trivial))) | fail)
  all_goals refine rq rfl ?_
  all_goals (first | refine FinA.tup ?_ | refine FinA.one ?_); repeat' (first | exact FinBs.nil | exact FinCs.nil | refine FinBs.cons ?_ ?_ | refine FinCs.cons ?_ ?_ | refine FinB.cell (FinC.v ?_) | refine FinB.cell (FinC.own rfl rfl rfl ?_) | exact FinB.cell FinC.nil | refine FinB.cell (FinC.sl ?_) | exact FinB.agg' rfl rfl | exact FinB.cell (FinC.same rfl) | refine FinB.agg ?_ | refine FinC.v ?_ | refine FinC.own rfl rfl rfl ?_ | exact FinC.nil | refine FinC.sl ?_ | exact FinC.same rfl); all_goals try rfl
  all_goals simp [IntKind.wrap_i64, wrap64, joinA, joinB]
 ·have q1 := p_fields2
  have q2 := p_plus a a'
  have q3 := p_none b b'
  refine PC.mk (ac_body tab_ok Try.func49 rfl (by kernel_rfl) rfl ?_); intro w0 M μ0; simp only [Try.ntmps49, List.length_cons, List.length_nil, Nat.reduceAdd, Nat.reduceSub, numb]
  repeat' (first | ((first | apply o_do | apply d_do | apply d_yes rfl rfl rfl); first | exact lsc (hr) | exact lsc (q1) | exact lsc (q2) | exact lsc (q3) | exact lsq) | refine a_seq ?_ | refine a_region ?_ | refine o_nil ?_ | refine a_block ?_ | refine a_ret ?_ | refine a_exit ?_ | refine a_skip ?_ | refine a_draw mixed ?_ | refine d_nil (by kernel_rfl) ?_ | refine o_yes rfl rfl rfl ?_ | refine o_no rfl rfl rfl (by decide) ?_ | refine o_no' rfl rfl rfl ?_ | refine a_condT rfl ?_ | refine a_condF rfl ?_ | refine d_no rfl rfl rfl (by decide) ?_ | refine d_no' rfl rfl rfl ?_ | (refine wq2 (fun hb => ?_) (fun hb => ?_) <;> (simp only [hb]; try simp only [hbs, ne_eq] at hb; try (exfalso; first | omega | exact hb trivial))) | fail)
  all_goals refine rq rfl ?_
  all_goals (first | refine FinA.tup ?_ | refine FinA.one ?_); repeat' (first | exact FinBs.nil | exact FinCs.nil | refine FinBs.cons ?_ ?_ | refine FinCs.cons ?_ ?_ | refine FinB.cell (FinC.v ?_) | refine FinB.cell (FinC.own rfl rfl rfl ?_) | exact FinB.cell FinC.nil | refine FinB.cell (FinC.sl ?_) | exact FinB.agg' rfl rfl | exact FinB.cell (FinC.same rfl) | refine FinB.agg ?_ | refine FinC.v ?_ | refine FinC.own rfl rfl rfl ?_ | exact FinC.nil | refine FinC.sl ?_ | exact FinC.same rfl); all_goals try rfl
  all_goals simp [IntKind.wrap_i64, wrap64, joinA, joinB]
 ·have q1 := p_fields3
  have q2 := p_least a a'
  have q3 := p_none b b'
  refine PC.mk (ac_body tab_ok Try.func49 rfl (by kernel_rfl) rfl ?_); intro w0 M μ0; simp only [Try.ntmps49, List.length_cons, List.length_nil, Nat.reduceAdd, Nat.reduceSub, numb]
  repeat' (first | ((first | apply o_do | apply d_do | apply d_yes rfl rfl rfl); first | exact lsc (hr) | exact lsc (q1) | exact lsc (q2) | exact lsc (q3) | exact lsq) | refine a_seq ?_ | refine a_region ?_ | refine o_nil ?_ | refine a_block ?_ | refine a_ret ?_ | refine a_exit ?_ | refine a_skip ?_ | refine a_draw mixed ?_ | refine d_nil (by kernel_rfl) ?_ | refine o_yes rfl rfl rfl ?_ | refine o_no rfl rfl rfl (by decide) ?_ | refine o_no' rfl rfl rfl ?_ | refine a_condT rfl ?_ | refine a_condF rfl ?_ | refine d_no rfl rfl rfl (by decide) ?_ | refine d_no' rfl rfl rfl ?_ | (refine wq2 (fun hb => ?_) (fun hb => ?_) <;> (simp only [hb]; try simp only [hbs, ne_eq] at hb; try (exfalso; first | omega | exact hb trivial))) | fail)
  all_goals refine rq rfl ?_
  all_goals (first | refine FinA.tup ?_ | refine FinA.one ?_); repeat' (first | exact FinBs.nil | exact FinCs.nil | refine FinBs.cons ?_ ?_ | refine FinCs.cons ?_ ?_ | refine FinB.cell (FinC.v ?_) | refine FinB.cell (FinC.own rfl rfl rfl ?_) | exact FinB.cell FinC.nil | refine FinB.cell (FinC.sl ?_) | exact FinB.agg' rfl rfl | exact FinB.cell (FinC.same rfl) | refine FinB.agg ?_ | refine FinC.v ?_ | refine FinC.own rfl rfl rfl ?_ | exact FinC.nil | refine FinC.sl ?_ | exact FinC.same rfl); all_goals try rfl
  all_goals simp [IntKind.wrap_i64, wrap64, joinA, joinB]
 ·have q1 := p_fields4
  have q2 := p_most a a'
  have q3 := p_none b b'
  refine PC.mk (ac_body tab_ok Try.func49 rfl (by kernel_rfl) rfl ?_); intro w0 M μ0; simp only [Try.ntmps49, List.length_cons, List.length_nil, Nat.reduceAdd, Nat.reduceSub, numb]
  repeat' (first | ((first | apply o_do | apply d_do | apply d_yes rfl rfl rfl); first | exact lsc (hr) | exact lsc (q1) | exact lsc (q2) | exact lsc (q3) | exact lsq) | refine a_seq ?_ | refine a_region ?_ | refine o_nil ?_ | refine a_block ?_ | refine a_ret ?_ | refine a_exit ?_ | refine a_skip ?_ | refine a_draw mixed ?_ | refine d_nil (by kernel_rfl) ?_ | refine o_yes rfl rfl rfl ?_ | refine o_no rfl rfl rfl (by decide) ?_ | refine o_no' rfl rfl rfl ?_ | refine a_condT rfl ?_ | refine a_condF rfl ?_ | refine d_no rfl rfl rfl (by decide) ?_ | refine d_no' rfl rfl rfl ?_ | (refine wq2 (fun hb => ?_) (fun hb => ?_) <;> (simp only [hb]; try simp only [hbs, ne_eq] at hb; try (exfalso; first | omega | exact hb trivial))) | fail)
  all_goals refine rq rfl ?_
  all_goals (first | refine FinA.tup ?_ | refine FinA.one ?_); repeat' (first | exact FinBs.nil | exact FinCs.nil | refine FinBs.cons ?_ ?_ | refine FinCs.cons ?_ ?_ | refine FinB.cell (FinC.v ?_) | refine FinB.cell (FinC.own rfl rfl rfl ?_) | exact FinB.cell FinC.nil | refine FinB.cell (FinC.sl ?_) | exact FinB.agg' rfl rfl | exact FinB.cell (FinC.same rfl) | refine FinB.agg ?_ | refine FinC.v ?_ | refine FinC.own rfl rfl rfl ?_ | exact FinC.nil | refine FinC.sl ?_ | exact FinC.same rfl); all_goals try rfl
  all_goals simp [IntKind.wrap_i64, wrap64, joinA, joinB]
 ·have q1 := p_fields5
  have q2 := p_least a a'
  have q3 := p_most b b'
  refine PC.mk (ac_body tab_ok Try.func49 rfl (by kernel_rfl) rfl ?_); intro w0 M μ0; simp only [Try.ntmps49, List.length_cons, List.length_nil, Nat.reduceAdd, Nat.reduceSub, numb]
  repeat' (first | ((first | apply o_do | apply d_do | apply d_yes rfl rfl rfl); first | exact lsc (hr) | exact lsc (q1) | exact lsc (q2) | exact lsc (q3) | exact lsq) | refine a_seq ?_ | refine a_region ?_ | refine o_nil ?_ | refine a_block ?_ | refine a_ret ?_ | refine a_exit ?_ | refine a_skip ?_ | refine a_draw mixed ?_ | refine d_nil (by kernel_rfl) ?_ | refine o_yes rfl rfl rfl ?_ | refine o_no rfl rfl rfl (by decide) ?_ | refine o_no' rfl rfl rfl ?_ | refine a_condT rfl ?_ | refine a_condF rfl ?_ | refine d_no rfl rfl rfl (by decide) ?_ | refine d_no' rfl rfl rfl ?_ | (refine wq2 (fun hb => ?_) (fun hb => ?_) <;> (simp only [hb]; try simp only [hbs, ne_eq] at hb; try (exfalso; first | omega | exact hb trivial))) | fail)
  all_goals refine rq rfl ?_
  all_goals (first | refine FinA.tup ?_ | refine FinA.one ?_); repeat' (first | exact FinBs.nil | exact FinCs.nil | refine FinBs.cons ?_ ?_ | refine FinCs.cons ?_ ?_ | refine FinB.cell (FinC.v ?_) | refine FinB.cell (FinC.own rfl rfl rfl ?_) | exact FinB.cell FinC.nil | refine FinB.cell (FinC.sl ?_) | exact FinB.agg' rfl rfl | exact FinB.cell (FinC.same rfl) | refine FinB.agg ?_ | refine FinC.v ?_ | refine FinC.own rfl rfl rfl ?_ | exact FinC.nil | refine FinC.sl ?_ | exact FinC.same rfl); all_goals try rfl
  all_goals simp [IntKind.wrap_i64, wrap64, joinA, joinB]
theorem row_turn {σ σ' : Store} {μ : Nat → Value} {w w' : World} {M : Nat → Prop} {id e size : Nat} {xs xs' : List (List AV)} {v' : Value} {us us' : List Value} (hs : SRel σ μ w M) (e0 : find σ id = some (.row e size xs)) (hσ : ∀ i, find σ' i = if id = i then some (.row e size xs') else find σ i)
  (e11 : OwnS w e size (μ id) xs.length us) (hown : OwnS w' e size v' xs'.length us') (hrep : ∀ μ' A, Step σ μ w (av σ μ M) σ' μ' w' A → repLL [] μ' w' A size xs' us') (hgr : w.grownBy w' (μ id).ownBlock) (hbk : v'.ownBlock = (μ id).ownBlock ∨ ∃ b, v'.ownBlock = some b ∧ w.heap.size ≤ b) (hle : xs.length ≤ xs'.length) (hsame : xs'.length = xs.length → v' = μ id) :
  Gro σ μ w σ' (setμ μ id v') w' ∧ SRel σ' (setμ μ id v') w' M := by
 have hblk : ∀ y : Value, y.ownBlock = blk y ∨ (∃ p, y = .pointer p) ∨ ∃ p, y = .map p := by
  intro y
  cases y with
  | slice a n c => cases a <;> exact .inl rfl
  | pointer p => exact .inr (.inl ⟨p, rfl⟩)
  | map p => exact .inr (.inr ⟨p, rfl⟩)
  | _ => exact .inl rfl
 have hb0 : (μ id).ownBlock = blk (μ id) := by
  rcases hblk (μ id) with h | ⟨p, h⟩ | ⟨p, h⟩
  ·exact h
  all_goals
   obtain ⟨A', c', h2, _⟩ := e11.slice
   rw [h] at h2; cases h2
 have hb1 : v'.ownBlock = blk v' := by
  rcases hblk v' with h | ⟨p, h⟩ | ⟨p, h⟩
  ·exact h
  all_goals
   obtain ⟨A', c', h2, _⟩ := hown.slice
   rw [h] at h2; cases h2
 have hother : ∀ i o b, i ≠ id → find σ i = some o → blk (μ i) = some b → some b ≠ (μ id).ownBlock := by
  intro i o b h1 h2 h3 h4
  rw [hb0] at h4
  exact h1 (hs.inj i id o _ b h2 e0 h3 h4.symm)
 have hgro : Gro σ μ w σ' (setμ μ id v') w' := by
  refine ⟨hgr.os, hgr.tape, hgr.output, hgr.size, fun b hl hn => hgr.block b hl (fun h => ?_), fun i o b hf hb hl => ?_, fun i t cs hf => ?_, fun i e' size' ys hf => ?_, fun i es hf => ?_, fun i hf => ?_⟩
  ·rw [hb0] at h
   exact hn id _ e0 h.symm
  ·rw [hσ] at hf
   split at hf
   ·rename_i h; subst h
    rw [setμ_same, ← hb1] at hb
    rcases hbk with h | ⟨c, h, hc⟩
    ·rw [h, hb0] at hb; exact ⟨_, _, e0, hb⟩
    ·rw [h] at hb; injection hb with hb; omega
   ·rename_i h
    rw [setμ_ne μ v' (Ne.symm h)] at hb
    exact ⟨i, o, hf, hb⟩
  ·have h : id ≠ i := fun h => by subst h; rw [e0] at hf; cases hf
   exact ⟨cs, by rw [hσ, if_neg h]; exact hf, rfl, setμ_ne μ v' (Ne.symm h)⟩
  ·by_cases h : id = i
   ·subst h
    rw [e0] at hf; injection hf with hf; injection hf with h1 h2 h3; subst h1 h2 h3
    refine .inr ⟨xs', by rw [hσ, if_pos rfl], hle, fun hl => ?_⟩
    rw [setμ_same]
    exact hsame hl
   ·exact .inr ⟨ys, by rw [hσ, if_neg h]; exact hf, Nat.le_refl _, fun _ => setμ_ne μ v' (Ne.symm h)⟩
  ·have h : id ≠ i := fun h => by subst h; rw [e0] at hf; cases hf
   exact ⟨es, by rw [hσ, if_neg h]; exact hf, setμ_ne μ v' (Ne.symm h)⟩
  ·have h : id ≠ i := fun h => by subst h; rw [e0] at hf; cases hf
   rw [hσ, if_neg h]; exact hf
 refine ⟨hgro, hs.at_ hgro id (fun i h => by rw [hσ, if_neg (Ne.symm h)]) (fun i h => setμ_ne μ v' h) (fun i o b h1 h2 h3 => hgr.block b (ObjRel.lt hs h2 h3) (hother i o b h1 h2 h3)) (fun o ho => ?_) (fun i o b h1 h2 h3 h4 => ?_) (fun b h1 h2 => ?_)⟩
 ·rw [hσ, if_pos rfl] at ho
  injection ho with ho; subst ho
  refine ⟨us', ?_, hrep _ _ hgro.step⟩
  rw [setμ_same]
  exact hown
 ·rw [setμ_same, ← hb1] at h4
  rcases hbk with h | ⟨c, h, hc⟩
  ·rw [h] at h4
   exact hother i o b h1 h2 h3 h4.symm
  ·rw [h] at h4; injection h4 with h4
   have := ObjRel.lt hs h2 h3
   omega
 ·rw [setμ_same, ← hb1] at h1
  rcases hbk with h | ⟨c, h, hc⟩
  ·rw [h, hb0] at h1
   exact hs.dis id _ b e0 h1 h2
  ·rw [h] at h1; injection h1 with h1
   have := hs.lt b h2
   omega
section
variable {P : Program}
theorem run_copy_at (w : World) (dT sT ty elem : TypeId) (i : TypeInfo) (hu : P.underlying dT = some (.slice elem)) (hi : P.info? elem = some i) (g o dLen dCap : Nat) (a : Addr) (sLen sCap k bt : Nat) (cur : Array Value) (cs : List Value)
  (hk : k = Nat.min sLen dLen) (hn : cs.length = k * i.size) (hsrc : ∀ j v, cs[j]? = some v → w.cell? (a.add j) = some v) (hg : w.heap[g]? = some (.cells cur bt (0, 0))) (hl : o + cs.length ≤ cur.size) (h1 : ∀ v ∈ cs, v.oneCell' = true) :
  (Builtin.copy_ #[dT, sT] ty #[.slice (some ⟨g, o, none⟩) dLen dCap, .slice (some a) sLen sCap]).run P w = .ok (goInt k) (w.setRow g (cur.toList.take o ++ cs ++ cur.toList.drop (o + cs.length)).toArray) := by
 have hl' := run_firstCells_some (P := P) w i.size k a sLen sCap cs hn hsrc
 have hst := run_storeCells_at (P := P) g o bt cs 0 cur w hg (by simpa using hl) h1
 simp only [Nat.add_zero] at hst
 simp [Builtin.copy_, run_underlying hu, Builtin.lenOf, sizeOf, typeInfo, hi, ← hk, hl', hst]
end
def Ins (w : World) (v : Value) (n : Nat) (cs : List Value) (e : Ending) (w' : World) : Prop :=
 ∃ v', e = .returned v' ∧ w'.ownsRow 0 67 6 v' (n + 1) cs ∧ w.grownBy w' v.ownBlock ∧ (v'.ownBlock = v.ownBlock ∨ ∃ b, v'.ownBlock = some b ∧ w.heap.size ≤ b)
theorem info_PaneI : ∃ j, Try.prog.info? 67 = some j ∧ j.size = 6 ∧ j.bytes = 56 ∧ j.zero = some (.agg #[.int .i64 0, .int .i64 0, .string ByteArray.empty, .int .i64 0, .int .i64 0, .int .i64 0]) := by
 have h := info_Pane
 cases hj : Try.prog.info? 67 with
 | none => rw [hj] at h; cases h
 | some j =>
  rw [hj] at h
  simp only [Option.map_some, Option.some.injEq, Prod.mk.injEq] at h
  exact ⟨j, rfl, h.2.1, h.2.2, h.1⟩
theorem grown_set {w w' : World} {r : Option Nat} (h : w.grownBy w' r) (g : Nat) (cs : Array Value) (hg : w.heap.size ≤ g ∨ r = some g) : w.grownBy (w'.setRow g cs) r :=
 ⟨h.os, h.tape, h.output, by rw [World.setRow]; simpa using h.size, fun k hk hne => by
  have : k ≠ g := by
   rcases hg with hg | hg
   ·omega
   ·intro e; subst e; exact hne hg.symm
  rw [setRow_other w' g k _ this]
  exact h.block k hk hne⟩
theorem grown_drew' {w w' : World} {r : Option Nat} (h : w.grownBy w' r) : w.grownBy w'.drew r := ⟨h.os, h.tape, h.output, h.size, h.block⟩
theorem ins_list {cur us news : List Value} {i n s : Nat} (hi : i ≤ n) (hu : us.length = n * s) (hnw : news.length = s) (hc : cur.take (i * s) = us.take (i * s)) (hlen : (n + 1) * s ≤ cur.length) :
  ((((cur.take ((i + 1) * s) ++ us.drop (i * s) ++ cur.drop ((i + 1) * s + (us.drop (i * s)).length)).take (i * s)) ++ news ++ ((cur.take ((i + 1) * s) ++ us.drop (i * s) ++ cur.drop ((i + 1) * s + (us.drop (i * s)).length)).drop (i * s + news.length))).take ((n + 1) * s)) = us.take (i * s) ++ news ++ us.drop (i * s) := by
 have h1 : i * s ≤ n * s := Nat.mul_le_mul_right _ hi
 have h2 : (i + 1) * s = i * s + s := by rw [Nat.add_mul]; omega
 have h3 : (n + 1) * s = n * s + s := by rw [Nat.add_mul]; omega
 have h4 : (cur.take ((i + 1) * s)).length = i * s + s := by rw [List.length_take]; omega
 have h5 : (us.drop (i * s)).length = n * s - i * s := by rw [List.length_drop]; omega
 have h6 : (cur.take ((i + 1) * s) ++ us.drop (i * s) ++ cur.drop ((i + 1) * s + (us.drop (i * s)).length)).take (i * s) = us.take (i * s) := by
  rw [List.append_assoc, List.take_append_of_le_length (by omega), List.take_take, ← hc]
  congr 1; omega
 have h7 : (cur.take ((i + 1) * s) ++ us.drop (i * s) ++ cur.drop ((i + 1) * s + (us.drop (i * s)).length)).drop (i * s + news.length) = us.drop (i * s) ++ cur.drop ((i + 1) * s + (us.drop (i * s)).length) := by
  rw [hnw, ← h4, List.append_assoc, List.drop_left]
 have h8 : (us.take (i * s)).length = i * s := by rw [List.length_take]; omega
 rw [h6, h7, ← List.append_assoc, List.take_append_of_le_length (by simp only [List.length_append, h8, h5, hnw]; omega), List.take_of_length_le (by simp only [List.length_append, h8, h5, hnw]; omega)]
theorem ins_list' {cur us news : List Value} {i n s : Nat} (hi : i ≤ n) (hu : us.length = n * s) (hnw : news.length = s) (hc : cur.take (i * s) = us.take (i * s)) (hlen : (n + 1) * s ≤ cur.length) :
  ((((cur.take (i * s) ++ news ++ cur.drop (i * s + news.length)).take ((i + 1) * s)) ++ us.drop (i * s) ++ ((cur.take (i * s) ++ news ++ cur.drop (i * s + news.length)).drop ((i + 1) * s + (us.drop (i * s)).length))).take ((n + 1) * s)) = us.take (i * s) ++ news ++ us.drop (i * s) := by
 have h1 : i * s ≤ n * s := Nat.mul_le_mul_right _ hi
 have h2 : (i + 1) * s = i * s + s := by rw [Nat.add_mul]; omega
 have h3 : (n + 1) * s = n * s + s := by rw [Nat.add_mul]; omega
 have h4 : (cur.take (i * s)).length = i * s := by rw [List.length_take]; omega
 have h5 : (us.drop (i * s)).length = n * s - i * s := by rw [List.length_drop]; omega
 have h6 : (cur.take (i * s) ++ news ++ cur.drop (i * s + news.length)).take ((i + 1) * s) = us.take (i * s) ++ news := by
  rw [List.take_append_of_le_length (by simp only [List.length_append, h4, hnw]; omega), List.take_of_length_le (by simp only [List.length_append, h4, hnw]; omega), hc]
 have h8 : (us.take (i * s)).length = i * s := by rw [List.length_take]; omega
 rw [h6, List.take_append_of_le_length (by simp only [List.length_append, h8, h5, hnw]; omega), List.take_of_length_le (by simp only [List.length_append, h8, h5, hnw]; omega)]

set_option maxRecDepth 100000 in
theorem insert_end (v : Value) (n : Nat) (us : List Value) (gb c1 : Nat) (news : List Value) (w : World) (hown : w.ownsRow 0 67 6 v n us) (hnew : w.ownsRow 0 67 6 (.slice (some ⟨gb, 0, none⟩) 1 c1) 1 news) (h1 : ∀ u ∈ news, u.oneCell' = true) (hn : n ≤ 1000000) :
  Calls Try.prog 48 #[v, .int .i64 n, .slice (some ⟨gb, 0, none⟩) 1 c1] w (Ins w v n (us ++ news)) := by
 obtain ⟨j, hj, hj1, hj2, hj3⟩ := info_PaneI
 obtain ⟨v', w', hrun, ho, hg, hb⟩ := run_append_any (P := Try.prog) w 0 41 41 67 j _ 6 56 Try.underlying41 hj hj3 hj1 hj2 rfl (by omega) v n us hown w.heap.size (some ⟨gb, 0, none⟩) 1 c1 news (Reads.of_own hnew) h1 (by simp only [maxLen]; omega) (by omega) (Nat.zero_le _)
 have hrun' : ∀ ty, (Builtin.append_ #[41, 41] ty #[v, .slice (some ⟨gb, 0, none⟩) 1 c1]).run Try.prog w = .ok v' w' := fun ty => hrun
 obtain ⟨A, c, rfl, hnc, hc⟩ := own_slice hown
 have hA : ∀ b, (A.map fun x => x.add b) = A.map (·.add b) := fun _ => rfl
 have hp : Ins w (.slice A n c) n (us ++ news) (.returned v') w' := ⟨v', rfl, ho, hg, by
  rcases hb with h | h
  ·exact .inl h
  ·exact .inr ⟨_, h, Nat.le_refl _⟩⟩
 clear hrun ho hg hb
 go_enter Try.func48, Try.ntmps48
 go_wp2_with (at_builtin; refine Lib.wpList_append_run _ rfl _ _ _ _ rfl _ _ rfl rfl _ _ (hrun' _) ?_)
 all_goals go_ret
 all_goals (try subst_vars)
 all_goals exact hp

theorem cell_heap {W w : World} (h : W.heap = w.heap) (a : Addr) : W.cell? a = w.cell? a := by simp [World.cell?, h]
theorem setRow_at {w : World} {g : Nat} {cur cs : Array Value} {t : TypeId} {fr : Nat × Nat} (h : w.heap[g]? = some (.cells cur t fr)) : (w.setRow g cs).heap[g]? = some (.cells cs t fr) := by
 simp [World.setRow, Array.getElem?_modify, h]
theorem setRow_heap {W w : World} (h : W.heap = w.heap) (g : Nat) (cs : Array Value) : (W.setRow g cs).heap = (w.setRow g cs).heap := by simp [World.setRow, h]
theorem cell_row {w : World} {g : Nat} {cur : Array Value} {t : TypeId} {fr : Nat × Nat} (h : w.heap[g]? = some (.cells cur t fr)) (k : Nat) : w.cell? ⟨g, k, none⟩ = cur[k]? := by simp [World.cell?, h]
theorem sizeP : ∀ w, (Go.sizeOf 67).run Try.prog w = .ok 6 w := fun w => by
 obtain ⟨j, hj, hj1, _⟩ := info_PaneI
 simp [sizeOf, typeInfo, hj, hj1]
set_option maxRecDepth 100000 in
theorem insert_room (g n c i : Nat) (cur : Array Value) (us : List Value) (gb c1 : Nat) (curb : Array Value) (news : List Value) (w : World) (hg : w.heap[g]? = some (.cells cur 67 (0, 0))) (hcur : cur.size = c * 6) (hus : cur.toList.take (n * 6) = us) (hi : i < n) (hroom : n + 1 ≤ c) (hc63 : c ≤ 9223372036854775807) (hn : n ≤ 1000000)
  (hgb : w.heap[gb]? = some (.cells curb 67 (0, 0))) (hcurb : curb.size = c1 * 6) (hnews : curb.toList.take (1 * 6) = news) (hne : gb ≠ g) (hc1 : 1 ≤ c1) (h1 : ∀ u ∈ us, u.oneCell' = true) (h1n : ∀ u ∈ news, u.oneCell' = true) :
  Calls Try.prog 48 #[.slice (some ⟨g, 0, none⟩) n c, .int .i64 i, .slice (some ⟨gb, 0, none⟩) 1 c1] w (Ins w (.slice (some ⟨g, 0, none⟩) n c) n (us.take (i * 6) ++ news ++ us.drop (i * 6))) := by
 obtain ⟨j, hj, hj1, hj2, hj3⟩ := info_PaneI
 have hul : us.length = n * 6 := by rw [← hus, List.length_take, Array.length_toList]; omega
 have hnl : news.length = 6 := by rw [← hnews, List.length_take, Array.length_toList]; omega
 have hdl : (us.drop (i * 6)).length = (n - i) * 6 := by rw [List.length_drop]; omega
 have hov : ∀ lb cb, (callFunc 56 #[.slice (some ⟨gb, 0, none⟩) 1 c1, .slice (some ⟨g, (i + 1) * 6, none⟩) lb cb]).run Try.prog w = .ok (.value (.bool false)) w := fun lb cb => by
  rw [run_callFunc_extern Try.func56 (by kernel_rfl) (by kernel_rfl) (by kernel_rfl) (e := Extern.SlicesOverlaps.overlaps #[41, 41] #[4]) (by kernel_rfl),
   Lib.run_overlaps_apart w 41 4 67 Try.underlying41 6 sizeP ⟨gb, 0, none⟩ ⟨g, (i + 1) * 6, none⟩ 1 c1 lb cb hne 67 67 curb.size cur.size (by simp [World.shape?, hgb]) (by simp [World.shape?, hg]) (by omega) (by simp [World.frozen?, hgb]) (by simp [World.frozen?, hgb])]
  rfl
 obtain ⟨R1, hR1⟩ : ∃ R1 : Array Value, R1 = (cur.toList.take ((i + 1) * 6) ++ us.drop (i * 6) ++ cur.toList.drop ((i + 1) * 6 + (us.drop (i * 6)).length)).toArray := ⟨_, rfl⟩
 have hR1s : R1.size = cur.size := by
  rw [hR1]; simp only [List.size_toArray, List.length_append, List.length_take, List.length_drop, Array.length_toList]; omega
 obtain ⟨R2, hR2⟩ : ∃ R2 : Array Value, R2 = (R1.toList.take (i * 6) ++ news ++ R1.toList.drop (i * 6 + news.length)).toArray := ⟨_, rfl⟩
 have hR2s : R2.size = cur.size := by
  rw [hR2]; simp only [List.size_toArray, List.length_append, List.length_take, List.length_drop, Array.length_toList]; omega
 have hcp1 : ∀ W : World, W.heap = w.heap → ∀ ty dc sc, (Builtin.copy_ #[41, 41] ty #[.slice (some ⟨g, (i + 1) * 6, none⟩) (n - i) dc, .slice (some ⟨g, i * 6, none⟩) (n + 1 - i) sc]).run Try.prog W = .ok (goInt (n - i : Nat)) (W.setRow g R1) := fun W hW ty dc sc => by
  have := run_copy_at (P := Try.prog) W 41 41 ty 67 j Try.underlying41 hj g ((i + 1) * 6) (n - i) dc ⟨g, i * 6, none⟩ (n + 1 - i) sc (n - i) 67 cur (us.drop (i * 6)) (by simp only [Nat.min_def]; split <;> omega) (by rw [hdl, hj1])
   (fun k u hk => by
    rw [Go.WideShapes.add_plain, cell_heap hW, cell_row hg]
    rw [List.getElem?_drop, ← hus, List.getElem?_take] at hk
    split at hk
    ·simpa using hk
    ·cases hk) (by rw [hW]; exact hg) (by rw [hdl]; omega) (fun u hu => h1 u (List.mem_of_mem_drop hu))
  rw [this, hR1]
 have hcp2 : ∀ W : World, W.heap = (w.setRow g R1).heap → ∀ ty dc, (Builtin.copy_ #[41, 41] ty #[.slice (some ⟨g, i * 6, none⟩) (n + 1 - i) dc, .slice (some ⟨gb, 0, none⟩) 1 c1]).run Try.prog W = .ok (goInt (1 : Nat)) (W.setRow g R2) := fun W hW ty dc => by
  have := run_copy_at (P := Try.prog) W 41 41 ty 67 j Try.underlying41 hj g (i * 6) (n + 1 - i) dc ⟨gb, 0, none⟩ 1 c1 1 67 R1 news (by simp only [Nat.min_def]; split <;> omega) (by rw [hnl, hj1])
   (fun k u hk => by
    have hgb2 : (w.setRow g R1).heap[gb]? = some (.cells curb 67 (0, 0)) := by rw [setRow_other w g gb _ hne]; exact hgb
    rw [Go.WideShapes.add_plain, cell_heap hW, cell_row hgb2, Nat.zero_add]
    rw [← hnews, List.getElem?_take] at hk
    split at hk
    ·simpa using hk
    ·cases hk) (by rw [hW]; exact setRow_at hg) (by rw [hnl]; omega) h1n
  rw [this, hR2]
 have hfin : ∀ W : World, w.grownBy W (some g) → W.heap = ((w.setRow g R1).setRow g R2).heap → Ins w (.slice (some ⟨g, 0, none⟩) n c) n (us.take (i * 6) ++ news ++ us.drop (i * 6)) (.returned (.slice (some ⟨g, 0, none⟩) (n + 1) c)) W := fun W hW hh => by
  refine ⟨_, rfl, ⟨by simp only [List.length_append, List.length_take, List.length_drop]; omega, .inr ⟨g, c, R2, rfl, Nat.zero_le _, ?_, hroom, by simpa [maxLen] using hc63, by omega, ?_⟩⟩, hW, .inl rfl⟩
  ·rw [hh]; exact setRow_at (setRow_at hg)
  ·rw [hR2, hR1]
   exact ins_list (Nat.le_of_lt hi) hul hnl (by rw [← hus, List.take_take]; congr 1; omega) (by rw [Array.length_toList]; omega)
 have hw1 : IntKind.i64.wrap ((i : Int) + 1) = (i : Int) + 1 := by rw [IntKind.wrap_i64]; omega
 have hw2 : IntKind.i64.wrap ((n : Int) + 1) = (n : Int) + 1 := by rw [IntKind.wrap_i64]; omega
 have hz2 : ¬ ((i : Int) = (n : Int)) := by omega
 have hb1 : (0 : Int) ≤ (i : Int) + 1 := by omega
 have hin : i ≤ n := by omega
 have htn : ((i : Int) + 1).toNat = i + 1 := by omega
 have htn2 : ((n : Int) + 1).toNat = n + 1 := by omega
 have hb2 : ¬ (c = i + 1) := by omega
 have hb3 : (i : Int) ≤ (n : Int) + 1 := by omega
 have hb4 : ¬ (c = i) := by omega
 have hg0 : w.grownBy w (some g) := World.grownBy.refl w _
 have mixed := mixed
 generalize us.take (i * 6) ++ news ++ us.drop (i * 6) = L at *
 clear hR1 hR2 hus hdl hul hnl hnews
 go_enter Try.func48, Try.ntmps48
 go_wp2_with (simp only [hov])
 go_region_law_o (refine step_copy_runI rfl _ _ 41 41 rfl (.slice (some ⟨g, (i + 1) * 6, none⟩) (n - i) (c - (i + 1))) (.slice (some ⟨g, i * 6, none⟩) (n + 1 - i) (c - i)) (by simp [Act.eval, Act.put]) (by simp [Act.eval, Act.put]) (hcp1 w.drew rfl _ _ _) ?_)
 have hcp3 := hcp2 (w.drew.setRow g R1) rfl
 go_wp2_with (simp only [hcp3])

 go_ret
 exact hfin _ (by repeat' (first | exact hg0 | refine grown_set ?_ _ _ (.inr rfl) | refine grown_drew' ?_)) rfl

set_option maxRecDepth 100000 in
theorem insert_grow (g n c i : Nat) (cur : Array Value) (us : List Value) (gb c1 : Nat) (curb : Array Value) (news : List Value) (w : World) (hg : w.heap[g]? = some (.cells cur 67 (0, 0))) (hcur : cur.size = c * 6) (hus : cur.toList.take (n * 6) = us) (hi : i < n) (hnc : n ≤ c) (hroom : c < n + 1) (hn : n ≤ 1000000)
  (hgb : w.heap[gb]? = some (.cells curb 67 (0, 0))) (hcurb : curb.size = c1 * 6) (hnews : curb.toList.take (1 * 6) = news) (hc1 : 1 ≤ c1) (h1 : ∀ u ∈ us, u.oneCell' = true) (h1n : ∀ u ∈ news, u.oneCell' = true) :
  Calls Try.prog 48 #[.slice (some ⟨g, 0, none⟩) n c, .int .i64 i, .slice (some ⟨gb, 0, none⟩) 1 c1] w (Ins w (.slice (some ⟨g, 0, none⟩) n c) n (us.take (i * 6) ++ news ++ us.drop (i * 6))) := by
 obtain ⟨j, hj, hj1, hj2, hj3⟩ := info_PaneI
 have hgl : g < w.heap.size := Blk.lt (t := 67) (cs := cur) hg
 have hgbl : gb < w.heap.size := Blk.lt (t := 67) (cs := curb) hgb
 have hul : us.length = n * 6 := by rw [← hus, List.length_take, Array.length_toList]; omega
 have hnl : news.length = 6 := by rw [← hnews, List.length_take, Array.length_toList]; omega
 have hdl : (us.drop (i * 6)).length = (n - i) * 6 := by rw [List.length_drop]; omega
 have htl : (us.take (i * 6)).length = i * 6 := by rw [List.length_take]; omega
 have hold : (Builtin.firstCells j.size i (.slice (some ⟨g, 0, none⟩) i c)).run Try.prog w.drew = .ok (us.take (i * 6)).toArray w.drew := by
  rw [hj1]
  exact run_firstCells_some w.drew 6 i ⟨g, 0, none⟩ i c (us.take (i * 6)) htl (fun k u hk => by
   rw [Go.WideShapes.add_plain, cell_heap (W := w.drew) (w := w) rfl, cell_row hg, Nat.zero_add]
   rw [← hus, List.take_take, List.getElem?_take] at hk
   split at hk
   ·simpa using hk
   ·cases hk)
 have hkk : (n : Int) + 1 - (i : Int) = ((n + 1 - i : Nat) : Int) := by omega
 obtain ⟨G, hG⟩ : ∃ G, G = grownCap w (n + 1) c 67 := ⟨_, rfl⟩
 obtain ⟨ROW, hROW⟩ : ∃ ROW : Array Value, ROW = (us.take (i * 6)).toArray ++ Builtin.zeroCells (Value.agg #[.int .i64 0, .int .i64 0, .string ByteArray.empty, .int .i64 0, .int .i64 0, .int .i64 0]).cells (n + 1 - i) ++ Builtin.zeroCells (Value.agg #[.int .i64 0, .int .i64 0, .string ByteArray.empty, .int .i64 0, .int .i64 0, .int .i64 0]).cells (G - (n + 1)) := ⟨_, rfl⟩
 have hGn : n + 1 ≤ G := by rw [hG]; exact grownCap_ge w _ _ _
 have hG63 : G ≤ maxLen := by rw [hG]; exact grownCap_le_maxLen w (n + 1) c _ (by unfold maxLen; omega)
 have hROWs : ROW.size = G * 6 := by
  rw [hROW]
  simp only [Array.size_append, size_zeroCells, List.size_toArray, htl]
  simp only [Value.cells, List.size_toArray, List.length_cons, List.length_nil]
  omega
 have hROWt : ROW.toList.take (i * 6) = us.take (i * 6) := by
  rw [hROW]
  simp only [Array.toList_append, List.append_assoc]
  rw [List.take_append_of_le_length (by omega), List.take_of_length_le (by omega)]
 have hrz : ∀ ty, (Builtin.append_ #[41, 3] ty #[.slice (some ⟨g, 0, none⟩) i c, .int .i64 ((n : Int) + 1 - (i : Int))]).run Try.prog w =
   .ok (.slice (some ⟨w.heap.size, 0, none⟩) (n + 1) G) (w.drew.alloc (.cells ROW 67)) := fun ty => by
  have h := Lib.run_append_grow_zeros w 41 3 ty 67 j _ .i64 .i64 Try.underlying41 Try.underlying3 hj hj3 (some ⟨g, 0, none⟩) i c (us.take (i * 6)) hold (n + 1 - i) (by omega) (by omega) (by omega) (by omega) (by rw [hj2]; omega) (by
   rw [hj2, show i + (n + 1 - i) = n + 1 by omega]
   exact growslice_fits hroom (by omega))
  rw [show i + (n + 1 - i) = n + 1 by omega, ← hG] at h
  rw [hkk, h, hROW]
 obtain ⟨W1, hW1⟩ : ∃ W1, W1 = w.drew.alloc (.cells ROW 67) := ⟨_, rfl⟩
 have hb1 : Below w.heap.size w W1 := by rw [hW1]; exact (Below.refl _ w).drew.alloc (Nat.le_refl _) _
 have hN : W1.heap[w.heap.size]? = some (.cells ROW 67 (0, 0)) := by rw [hW1]; exact Blk.new w.drew 67 ROW
 have hO : W1.heap[g]? = some (.cells cur 67 (0, 0)) := (hb1.block g hgl).trans hg
 have hOb : W1.heap[gb]? = some (.cells curb 67 (0, 0)) := (hb1.block gb hgbl).trans hgb
 obtain ⟨g2, hg2⟩ : ∃ g2, g2 = w.heap.size := ⟨_, rfl⟩
 rw [← hg2] at hN
 obtain ⟨R1, hR1⟩ : ∃ R1 : Array Value, R1 = (ROW.toList.take (i * 6) ++ news ++ ROW.toList.drop (i * 6 + news.length)).toArray := ⟨_, rfl⟩
 have hR1s : R1.size = ROW.size := by
  rw [hR1]; simp only [List.size_toArray, List.length_append, List.length_take, List.length_drop, Array.length_toList]; omega
 obtain ⟨R2, hR2⟩ : ∃ R2 : Array Value, R2 = (R1.toList.take ((i + 1) * 6) ++ us.drop (i * 6) ++ R1.toList.drop ((i + 1) * 6 + (us.drop (i * 6)).length)).toArray := ⟨_, rfl⟩
 have hR2s : R2.size = ROW.size := by
  rw [hR2]; simp only [List.size_toArray, List.length_append, List.length_take, List.length_drop, Array.length_toList]; omega
 have hcp1 : ∀ W : World, W.heap = W1.heap → ∀ ty dc, (Builtin.copy_ #[41, 41] ty #[.slice (some ⟨g2, i * 6, none⟩) (n + 1 - i) dc, .slice (some ⟨gb, 0, none⟩) 1 c1]).run Try.prog W = .ok (goInt (1 : Nat)) (W.setRow g2 R1) := fun W hW ty dc => by
  have := run_copy_at (P := Try.prog) W 41 41 ty 67 j Try.underlying41 hj g2 (i * 6) (n + 1 - i) dc ⟨gb, 0, none⟩ 1 c1 1 67 ROW news (by simp only [Nat.min_def]; split <;> omega) (by rw [hnl, hj1])
   (fun k u hk => by
    rw [Go.WideShapes.add_plain, cell_heap hW, cell_row hOb, Nat.zero_add]
    rw [← hnews, List.getElem?_take] at hk
    split at hk
    ·simpa using hk
    ·cases hk) (by rw [hW]; exact hN) (by rw [hnl]; omega) h1n
  rw [this, hR1]
 have hcp2 : ∀ W : World, W.heap = (W1.setRow g2 R1).heap → ∀ ty dc sc, (Builtin.copy_ #[41, 41] ty #[.slice (some ⟨g2, (i + 1) * 6, none⟩) (n - i) dc, .slice (some ⟨g, i * 6, none⟩) (n - i) sc]).run Try.prog W = .ok (goInt (n - i : Nat)) (W.setRow g2 R2) := fun W hW ty dc sc => by
  have := run_copy_at (P := Try.prog) W 41 41 ty 67 j Try.underlying41 hj g2 ((i + 1) * 6) (n - i) dc ⟨g, i * 6, none⟩ (n - i) sc (n - i) 67 R1 (us.drop (i * 6)) (by simp only [Nat.min_def]; split <;> omega) (by rw [hdl, hj1])
   (fun k u hk => by
    have hO2 : (W1.setRow g2 R1).heap[g]? = some (.cells cur 67 (0, 0)) := by rw [setRow_other W1 g2 g _ (by omega)]; exact hO
    rw [Go.WideShapes.add_plain, cell_heap hW, cell_row hO2]
    rw [List.getElem?_drop, ← hus, List.getElem?_take] at hk
    split at hk
    ·simpa using hk
    ·cases hk) (by rw [hW]; exact setRow_at hN) (by rw [hdl]; omega) (fun u hu => h1 u (List.mem_of_mem_drop hu))
  rw [this, hR2]
 have hfin : ∀ W : World, w.grownBy W (some g) → W.heap = ((W1.setRow g2 R1).setRow g2 R2).heap → Ins w (.slice (some ⟨g, 0, none⟩) n c) n (us.take (i * 6) ++ news ++ us.drop (i * 6)) (.returned (.slice (some ⟨g2, 0, none⟩) (n + 1) G)) W := fun W hW hh => by
  refine ⟨_, rfl, ⟨by simp only [List.length_append, List.length_take, List.length_drop]; omega, .inr ⟨g2, G, R2, rfl, Nat.zero_le _, ?_, hGn, hG63, by omega, ?_⟩⟩, hW, .inr ⟨g2, rfl, by omega⟩⟩
  ·rw [hh]; exact setRow_at (setRow_at hN)
  ·rw [hR2, hR1]
   exact ins_list' (Nat.le_of_lt hi) hul hnl hROWt (by rw [Array.length_toList]; omega)
 have hw1 : IntKind.i64.wrap ((i : Int) + 1) = (i : Int) + 1 := by rw [IntKind.wrap_i64]; omega
 have hw2 : IntKind.i64.wrap ((n : Int) + 1) = (n : Int) + 1 := by rw [IntKind.wrap_i64]; omega
 have hw3 : IntKind.i64.wrap ((n : Int) + 1 - (i : Int)) = (n : Int) + 1 - (i : Int) := by rw [IntKind.wrap_i64]; omega
 have hz2 : ¬ ((i : Int) = (n : Int)) := by omega
 have hz3 : (c : Int) < (n : Int) + 1 := by omega
 have hbb : (0 : Int) ≤ (i : Int) + 1 := by omega
 have hin : i ≤ n := by omega
 have htn : ((i : Int) + 1).toNat = i + 1 := by omega
 have hGi : ¬ (G = i) := by omega
 have hGim : ¬ (G = i + 1) := by omega
 have hci : ¬ (c = i) := by omega
 have hb3 : (i : Int) ≤ (n : Int) := by omega
 have hg0 : w.grownBy W1 (some g) := ⟨hb1.os, hb1.tape, hb1.output, hb1.size, fun k hk _ => hb1.block k hk⟩
 have hg2' : w.heap.size ≤ g2 := by omega
 have hG63' : G ≤ 9223372036854775807 := hG63
 have mixed := mixed
 rw [← hW1, ← hg2] at hrz
 have hcp3 := hcp1 W1 rfl
 generalize us.take (i * 6) ++ news ++ us.drop (i * 6) = L at *
 clear hR1 hR2 hus hdl hul hnl hnews hkk hold hROW hG hROWt hW1 hg2
 go_enter Try.func48, Try.ntmps48
 go_wp2_with (first | (at_builtin; refine Lib.wpList_append_run _ rfl _ _ _ _ rfl _ _ rfl rfl _ _ (hrz _) ?_) | (simp only [hcp3]))
 go_region_law_o (refine step_copy_runI rfl _ _ 41 41 rfl (.slice (some ⟨g2, (i + 1) * 6, none⟩) (n - i) (G - (i + 1))) (.slice (some ⟨g, i * 6, none⟩) (n - i) (c - i)) (by simp [Act.eval, Act.put]) (by simp [Act.eval, Act.put]) (hcp2 (W1.setRow g2 R1).drew rfl _ _ _) ?_)
 go_wp2
 go_ret
 exact hfin _ (by repeat' (first | exact hg0 | refine grown_set ?_ _ _ (.inl hg2') | refine grown_drew' ?_)) rfl

theorem ok_Insert : CallOK Try.prog 48 := ⟨_, Try.func48, by kernel_rfl, rfl⟩
theorem p_Insert (xs : List (List AV)) (x : List AV) (i : Nat) (hi : i ≤ xs.length) (hx : xs.length ≤ 1000000) :
  AC Try.prog 48 [.own 0 xs.length, .v (.int .i64 i), .own 1 1] [(0, .row 67 6 xs), (1, .row 67 6 [x])] (.own 0 (xs.take i ++ [x] ++ xs.drop i).length) [(0, .row 67 6 (xs.take i ++ [x] ++ xs.drop i)), (1, .row 67 6 [x])] := by
 refine ⟨ok_Insert, fun w M μ vs hs hrep => ?_⟩
 simp only [repL, rep] at hrep
 obtain ⟨y0, _, rfl, hf, y1, _, rfl, ⟨rfl, _⟩, y2, _, rfl, hg, rfl⟩ := hrep
 have hf0 : find [((0 : Nat), SObj.row 67 6 xs), (1, .row 67 6 [x])] 0 = some (.row 67 6 xs) := rfl
 have hf1 : find [((0 : Nat), SObj.row 67 6 xs), (1, .row 67 6 [x])] 1 = some (.row 67 6 [x]) := rfl
 obtain ⟨_, e, size, zs, f0, f1, f2⟩ := live hf0 hf
 obtain ⟨_, e', size', zs', g0, g1, g2⟩ := live hf1 hg
 rw [hf0] at f0
 rw [hf1] at g0
 injection f0 with f0; injection f0 with a1 a2 a3; subst a1 a2 a3
 injection g0 with g0; injection g0 with a1 a2 a3; subst a1 a2 a3
 have f2 := f2 rfl
 have g2 := g2 rfl
 subst f2 g2
 obtain ⟨us, h1, h2⟩ := hs.obj 0 _ hf0
 obtain ⟨news, h3, h4⟩ := hs.obj 1 _ hf1
 have h1 := h1.own rfl
 have h3 := h3.own rfl
 have hone := repLL_one h2
 have hone2 := repLL_one h4
 have hul : us.length = xs.length * 6 := repLL_len h2
 have key : Calls Try.prog 48 #[μ 0, .int .i64 i, μ 1] w (Ins w (μ 0) xs.length (us.take (i * 6) ++ news ++ us.drop (i * 6))) := by
  rcases h3.2 with ⟨_, h5⟩ | ⟨gb, c1, curb, hv1, _, hgb, hc1, _, hcb, hnb⟩
  ·simp at h5
  ·have hd : ∀ g, blk (μ 0) = some g → gb ≠ g := fun g hg e => by
    subst e
    have := hs.inj 0 1 _ _ gb hf0 hf1 hg (by rw [hv1]; rfl)
    cases this
   rw [hv1] at h3 ⊢
   simp only [List.length_singleton] at h3 hnb hc1 ⊢
   rcases Nat.lt_or_ge i xs.length with hlt | hge
   ·rcases h1.2 with ⟨_, h6⟩ | ⟨g, c, cur, hv0, _, hg, hnc, hc63, hcc, hcu⟩
    ·omega
    ·rw [hv0]
     by_cases hroom : xs.length + 1 ≤ c
     ·exact insert_room g xs.length c i cur us gb c1 curb news w hg hcc hcu hlt hroom (by simpa [maxLen] using hc63) hx hgb hcb hnb (hd g (by rw [hv0]; rfl)) hc1 hone hone2
     ·exact insert_grow g xs.length c i cur us gb c1 curb news w hg hcc hcu hlt hnc (by omega) hx hgb hcb hnb hc1 hone hone2
   ·obtain rfl : i = xs.length := by omega
    rw [List.take_of_length_le (by omega), List.drop_of_length_le (by omega), List.append_nil]
    exact insert_end (μ 0) xs.length us gb c1 news w h1 h3 hone2 hx
 have hlen : (xs.take i ++ [x] ++ xs.drop i).length = xs.length + 1 := by simp only [List.length_append, List.length_take, List.length_drop, List.length_singleton]; omega
 refine Calls.mono key ?_
 rintro e w' ⟨v', rfl, ho, hg, hb⟩
 rw [← hlen] at ho
 obtain ⟨k1, k2⟩ := row_turn (σ' := [(0, .row 67 6 (xs.take i ++ [x] ++ xs.drop i)), (1, .row 67 6 [x])]) hs hf0 (fun j => by
  simp only [find_cons]
  by_cases h0 : 0 = j
  ·simp [h0]
  ·simp [h0]) (OwnS.of h1 rfl) (OwnS.of ho rfl) (fun μ' A hst => by
   have a1 := repLL_mono hst.pure h2
   have a2 := repLL_mono hst.pure h4
   have := repLL_append (repLL_append (repLL_take (n := i) a1) a2) (repLL_drop (n := i) a1)
   exact this) hg hb (by omega) (by omega)
 refine ⟨v', _, rfl, k2, ?_, k1⟩
 obtain ⟨A', c', hv, _⟩ := own_slice ho
 simp only [rep]
 exact ⟨by rw [hv]; rfl, .inr ⟨_, _, _, rfl, Nat.le_refl _, fun _ => (setμ_same _ _ _).symm⟩⟩
end Go.Proofs.Ytlgbadlgfdlheaa
