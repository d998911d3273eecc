/-
  Panes, walked over abstract values: the document's way to put one more.
    Panes, walked over abstract values: the document's way to add a value.
    Panes, walked over abstract values: the document's way to put one more into a row.
    Panes, walked over abstract values: the document's way to put one more, where its like is.
  Rows of panes in plain Lean: one put into a sorted row; rows joined. No program in sight.
  Panes, walked over abstract values: the document's way to add a value; the law.
  Groups, walked over abstract values: time that goes on.
  Groups, walked over abstract values: an event that is taken.
    Groups, walked over abstract values: the law of an event that is taken.
-/
import Derived.Test.YtagfjnjpgphnjaaGreatK4
import Derived.Test.YtagfjnjpgphnjaaGreatK5
import Derived.Test.YtagfjnjpgphnjaaGreatK6
import Derived.Test.YtagfjnjpgphnjaaGreatK7
import Derived.Test.YtagfjnjpgphnjaaGreatK9
namespace Go.Proofs.YtagfjnjpgphnjaaGreat
open Go.RowKit
set_option linter.unusedSimpArgs false
set_option linter.unusedVariables false
theorem run_eq_Win (x y : Operand) (lo hi lo' hi' : Int) (w : World) : (do eqGuard .eql 59 x y (.agg [Value.int .i64 lo, .int .i64 hi].toArray) (.agg [Value.int .i64 lo', .int .i64 hi'].toArray); binOp .eql 59 (.agg [Value.int .i64 lo, .int .i64 hi].toArray) (.agg [Value.int .i64 lo', .int .i64 hi'].toArray) : Sem Value).run Tryz.prog w = .ok (.bool (decide (lo = lo') && decide (hi = hi'))) w := by
  go_simp
  by_cases h1 : lo = lo' <;> by_cases h2 : hi = hi' <;> simp [h1, h2]
section
variable {Γ : Ctx} {s : ASt} {dst : Option Tmp} {ty yt : TypeId} {pos : String} {after : Array Edge} {x y : Operand}
theorem ls_eqWin (lo hi lo' hi' : Int) (hx : ev s x = some (.agg [.v (.int .i64 lo), .v (.int .i64 hi)])) (hy : ev s y = some (.agg [.v (.int .i64 lo'), .v (.int .i64 hi')])) (hd : okDst Γ.n dst = true) : LS Tryz.prog Γ ⟨dst, .binOp .eql 59 x y yt, ty, pos, after, none⟩ s (rd x (rd y [])) (dst1 dst (.v (.bool (decide (lo = lo') && decide (hi = hi'))))) [] :=
  ls_eqA [Value.int .i64 lo, .int .i64 hi] [Value.int .i64 lo', .int .i64 hi'] (run_eq_Win x y lo hi lo' hi') hx hy rfl rfl hd
end
theorem p_same (lo hi : Int) (k : ByteArray) (n a b lo' hi' : Int) (k' : ByteArray) (n' a' b' : Int) : PC Tryz.prog 206 [.agg [.v (.int .i64 lo), .v (.int .i64 hi), .v (.string k), .v (.int .i64 n), .v (.int .i64 a), .v (.int .i64 b)], .agg [.v (.int .i64 lo'), .v (.int .i64 hi'), .v (.string k'), .v (.int .i64 n'), .v (.int .i64 a'), .v (.int .i64 b')]] (.v (.bool (decide (sameP ⟨lo, hi, k, n, a, b⟩ ⟨lo', hi', k', n', a', b'⟩)))) := by
  refine PC.mk (ac_body tab_ok Tryz.func206 rfl (by kernel_rfl) rfl ?_); intro w0 M μ0; simp only [Tryz.ntmps206, List.length_cons, List.length_nil, Nat.reduceAdd, Nat.reduceSub, numb]
  repeat' (first | ((first | apply o_do | apply d_do | apply d_yes rfl rfl rfl); first | exact ls_eqWin lo hi lo' hi' rfl rfl rfl | exact lsq) | refine a_seq ?_ | refine a_region ?_ | refine o_nil ?_ | refine a_block ?_ | refine a_ret ?_ | refine a_exit ?_ | refine a_skip ?_ | refine a_draw mixed ?_ | refine d_nil (by kernel_rfl) ?_ | refine o_yes rfl rfl rfl ?_ | refine o_no rfl rfl rfl (by decide) ?_ | refine o_no' rfl rfl rfl ?_ | refine a_condT rfl ?_ | refine a_condF rfl ?_ | refine d_no rfl rfl rfl (by decide) ?_ | refine d_no' rfl rfl rfl ?_ | (refine wq2 (fun hb => ?_) (fun hb => ?_) <;> (simp only [hb]; try simp only [hbs, ne_eq] at hb; try (exfalso; first | omega | exact hb trivial))) | fail)
  all_goals refine rq rfl ?_
  all_goals (first | refine FinA.tup ?_ | refine FinA.one ?_); repeat' (first | exact FinBs.nil | exact FinCs.nil | refine FinBs.cons ?_ ?_ | refine FinCs.cons ?_ ?_ | refine FinB.cell (FinC.v ?_) | refine FinB.cell (FinC.own rfl rfl rfl ?_) | exact FinB.cell FinC.nil | refine FinB.cell (FinC.sl ?_) | exact FinB.agg' rfl rfl | exact FinB.cell (FinC.same rfl) | refine FinB.agg ?_ | refine FinC.v ?_ | refine FinC.own rfl rfl rfl ?_ | exact FinC.nil | refine FinC.sl ?_ | exact FinC.same rfl); all_goals try rfl
  · simp only [Bool.and_eq_true, decide_eq_true_eq] at hb
    obtain ⟨rfl, rfl⟩ := hb
    congr 1
    rw [Bool.eq_iff_iff]
    simp only [beq_iff_eq, decide_eq_true_eq, sameP, true_and]
    exact ⟨fun h => bytes_ext h, fun h => by rw [h]⟩
  · simp only [Bool.and_eq_false_iff, decide_eq_false_iff_not] at hb
    congr 1
    symm
    rw [decide_eq_false_iff_not]
    rintro ⟨h1, h2, _⟩
    dsimp only at h1 h2
    rcases hb with h | h
    · exact h h2
    · exact h h1
theorem p_rleast (x y : Int) : PC Tryz.prog 214 [.v (.int .i64 x), .v (.int .i64 y)] (.v (.int .i64 (min x y))) := by
  refine PC.mk (ac_body tab_ok Tryz.func214 rfl (by kernel_rfl) rfl ?_); intro w0 M μ0; simp only [Tryz.ntmps214, List.length_cons, List.length_nil, Nat.reduceAdd, Nat.reduceSub, numb]
  repeat' (first | ((first | apply o_do | apply d_do | apply d_yes rfl rfl rfl); exact lsq) | refine a_seq ?_ | refine a_region ?_ | refine o_nil ?_ | refine a_block ?_ | refine a_ret ?_ | refine a_exit ?_ | refine a_skip ?_ | refine a_draw mixed ?_ | refine d_nil (by kernel_rfl) ?_ | refine o_yes rfl rfl rfl ?_ | refine o_no rfl rfl rfl (by decide) ?_ | refine o_no' rfl rfl rfl ?_ | refine a_condT rfl ?_ | refine a_condF rfl ?_ | refine d_no rfl rfl rfl (by decide) ?_ | refine d_no' rfl rfl rfl ?_ | (refine wq2 (fun hb => ?_) (fun hb => ?_) <;> (simp only [hb]; try simp only [hbs, ne_eq] at hb; try (exfalso; first | omega | exact hb trivial))) | fail)
  all_goals refine rq rfl ?_
  all_goals (first | refine FinA.tup ?_ | refine FinA.one ?_); repeat' (first | exact FinBs.nil | exact FinCs.nil | refine FinBs.cons ?_ ?_ | refine FinCs.cons ?_ ?_ | refine FinB.cell (FinC.v ?_) | refine FinB.cell (FinC.own rfl rfl rfl ?_) | exact FinB.cell FinC.nil | refine FinB.cell (FinC.sl ?_) | exact FinB.agg' rfl rfl | exact FinB.cell (FinC.same rfl) | refine FinB.agg ?_ | refine FinC.v ?_ | refine FinC.own rfl rfl rfl ?_ | exact FinC.nil | refine FinC.sl ?_ | exact FinC.same rfl); all_goals try rfl
  all_goals (congr 1; omega)
theorem p_rmost (x y : Int) : PC Tryz.prog 215 [.v (.int .i64 x), .v (.int .i64 y)] (.v (.int .i64 (max x y))) := by
  refine PC.mk (ac_body tab_ok Tryz.func215 rfl (by kernel_rfl) rfl ?_); intro w0 M μ0; simp only [Tryz.ntmps215, List.length_cons, List.length_nil, Nat.reduceAdd, Nat.reduceSub, numb]
  repeat' (first | ((first | apply o_do | apply d_do | apply d_yes rfl rfl rfl); exact lsq) | refine a_seq ?_ | refine a_region ?_ | refine o_nil ?_ | refine a_block ?_ | refine a_ret ?_ | refine a_exit ?_ | refine a_skip ?_ | refine a_draw mixed ?_ | refine d_nil (by kernel_rfl) ?_ | refine o_yes rfl rfl rfl ?_ | refine o_no rfl rfl rfl (by decide) ?_ | refine o_no' rfl rfl rfl ?_ | refine a_condT rfl ?_ | refine a_condF rfl ?_ | refine d_no rfl rfl rfl (by decide) ?_ | refine d_no' rfl rfl rfl ?_ | (refine wq2 (fun hb => ?_) (fun hb => ?_) <;> (simp only [hb]; try simp only [hbs, ne_eq] at hb; try (exfalso; first | omega | exact hb trivial))) | fail)
  all_goals refine rq rfl ?_
  all_goals (first | refine FinA.tup ?_ | refine FinA.one ?_); repeat' (first | exact FinBs.nil | exact FinCs.nil | refine FinBs.cons ?_ ?_ | refine FinCs.cons ?_ ?_ | refine FinB.cell (FinC.v ?_) | refine FinB.cell (FinC.own rfl rfl rfl ?_) | exact FinB.cell FinC.nil | refine FinB.cell (FinC.sl ?_) | exact FinB.agg' rfl rfl | exact FinB.cell (FinC.same rfl) | refine FinB.agg ?_ | refine FinC.v ?_ | refine FinC.own rfl rfl rfl ?_ | exact FinC.nil | refine FinC.sl ?_ | exact FinC.same rfl); all_goals try rfl
  all_goals (congr 1; omega)
set_option maxHeartbeats 4000000 in
theorem p_rJoin (k n a b n' a' b' : Int) : PC Tryz.prog 207 [.v (.int .i64 k), .agg [.v (.int .i64 n), .v (.int .i64 a), .v (.int .i64 b)], .agg [.v (.int .i64 n'), .v (.int .i64 a'), .v (.int .i64 b')]] (.agg (fJoinO k n a b n' a' b')) := by
  unfold fJoinO
  cases hk : fRight k
  · rw [fJoin_not hk]
    have := right_not hk
    refine PC.mk (ac_body tab_ok Tryz.func207 rfl (by kernel_rfl) rfl ?_); intro w0 M μ0; simp only [Tryz.ntmps207, List.length_cons, List.length_nil, Nat.reduceAdd, Nat.reduceSub, numb]
    repeat' (first | ((first | apply o_do | apply d_do | apply d_yes rfl rfl rfl); exact lsq) | refine a_seq ?_ | refine a_region ?_ | refine o_nil ?_ | refine a_block ?_ | refine a_ret ?_ | refine a_exit ?_ | refine a_skip ?_ | refine a_draw mixed ?_ | refine d_nil (by kernel_rfl) ?_ | refine o_yes rfl rfl rfl ?_ | refine o_no rfl rfl rfl (by decide) ?_ | refine o_no' rfl rfl rfl ?_ | refine a_condT rfl ?_ | refine a_condF rfl ?_ | refine d_no rfl rfl rfl (by decide) ?_ | refine d_no' rfl rfl rfl ?_ | (refine wq2 (fun hb => ?_) (fun hb => ?_) <;> (simp only [hb]; try simp only [hbs, ne_eq] at hb; try (exfalso; first | omega | exact hb trivial))) | fail)
    all_goals refine rq rfl ?_
    all_goals exact fnq
  have hk1 : 1 ≤ k ∧ k ≤ 5 := by simp [fRight] at hk; omega
  by_cases h1 : n = 0
  · rw [show fJoin k ⟨n, a, b⟩ ⟨n', a', b'⟩ = ⟨n', a', b'⟩ by simp [fJoin, hk, h1]]
    refine PC.mk (ac_body tab_ok Tryz.func207 rfl (by kernel_rfl) rfl ?_); intro w0 M μ0; simp only [Tryz.ntmps207, List.length_cons, List.length_nil, Nat.reduceAdd, Nat.reduceSub, numb]
    repeat' (first | ((first | apply o_do | apply d_do | apply d_yes rfl rfl rfl); exact lsq) | refine a_seq ?_ | refine a_region ?_ | refine o_nil ?_ | refine a_block ?_ | refine a_ret ?_ | refine a_exit ?_ | refine a_skip ?_ | refine a_draw mixed ?_ | refine d_nil (by kernel_rfl) ?_ | refine o_yes rfl rfl rfl ?_ | refine o_no rfl rfl rfl (by decide) ?_ | refine o_no' rfl rfl rfl ?_ | refine a_condT rfl ?_ | refine a_condF rfl ?_ | refine d_no rfl rfl rfl (by decide) ?_ | refine d_no' rfl rfl rfl ?_ | (refine wq2 (fun hb => ?_) (fun hb => ?_) <;> (simp only [hb]; try simp only [hbs, ne_eq] at hb; try (exfalso; first | omega | exact hb trivial))) | fail)
    all_goals refine rq rfl ?_
    all_goals exact fnq
  by_cases h2 : n' = 0
  · rw [show fJoin k ⟨n, a, b⟩ ⟨n', a', b'⟩ = ⟨n, a, b⟩ by simp [fJoin, hk, h1, h2]]
    refine PC.mk (ac_body tab_ok Tryz.func207 rfl (by kernel_rfl) rfl ?_); intro w0 M μ0; simp only [Tryz.ntmps207, List.length_cons, List.length_nil, Nat.reduceAdd, Nat.reduceSub, numb]
    repeat' (first | ((first | apply o_do | apply d_do | apply d_yes rfl rfl rfl); exact lsq) | refine a_seq ?_ | refine a_region ?_ | refine o_nil ?_ | refine a_block ?_ | refine a_ret ?_ | refine a_exit ?_ | refine a_skip ?_ | refine a_draw mixed ?_ | refine d_nil (by kernel_rfl) ?_ | refine o_yes rfl rfl rfl ?_ | refine o_no rfl rfl rfl (by decide) ?_ | refine o_no' rfl rfl rfl ?_ | refine a_condT rfl ?_ | refine a_condF rfl ?_ | refine d_no rfl rfl rfl (by decide) ?_ | refine d_no' rfl rfl rfl ?_ | (refine wq2 (fun hb => ?_) (fun hb => ?_) <;> (simp only [hb]; try simp only [hbs, ne_eq] at hb; try (exfalso; first | omega | exact hb trivial))) | fail)
    all_goals refine rq rfl ?_
    all_goals exact fnq
  rw [show fJoin k ⟨n, a, b⟩ ⟨n', a', b'⟩ = ⟨wrap64 (n + n'), joinA k a a', joinB k b b'⟩ by simp [fJoin, hk, h1, h2]]
  dsimp only
  have q1 := p_rleast a a'
  have q2 := p_rmost a a'
  have q3 := p_rmost b b'
  rcases right_cases hk with rfl | rfl | rfl | rfl | rfl
  all_goals (refine PC.mk (ac_body tab_ok Tryz.func207 rfl (by kernel_rfl) rfl ?_); intro w0 M μ0; simp only [Tryz.ntmps207, List.length_cons, List.length_nil, Nat.reduceAdd, Nat.reduceSub, numb]; repeat' (first | ((first | apply o_do | apply d_do | apply d_yes rfl rfl rfl); first | exact lsc (q1) | exact lsc (q2) | exact lsc (q3) | exact lsq) | refine a_seq ?_ | refine a_region ?_ | refine o_nil ?_ | refine a_block ?_ | refine a_ret ?_ | refine a_exit ?_ | refine a_skip ?_ | refine a_draw mixed ?_ | refine d_nil (by kernel_rfl) ?_ | refine o_yes rfl rfl rfl ?_ | refine o_no rfl rfl rfl (by decide) ?_ | refine o_no' rfl rfl rfl ?_ | refine a_condT rfl ?_ | refine a_condF rfl ?_ | refine d_no rfl rfl rfl (by decide) ?_ | refine d_no' rfl rfl rfl ?_ | (refine wq2 (fun hb => ?_) (fun hb => ?_) <;> (simp only [hb]; try simp only [hbs, ne_eq] at hb; try (exfalso; first | omega | exact hb trivial))) | fail))
  all_goals refine rq rfl ?_
  all_goals (first | refine FinA.tup ?_ | refine FinA.one ?_); repeat' (first | exact FinBs.nil | exact FinCs.nil | refine FinBs.cons ?_ ?_ | refine FinCs.cons ?_ ?_ | refine FinB.cell (FinC.v ?_) | refine FinB.cell (FinC.own rfl rfl rfl ?_) | exact FinB.cell FinC.nil | refine FinB.cell (FinC.sl ?_) | exact FinB.agg' rfl rfl | exact FinB.cell (FinC.same rfl) | refine FinB.agg ?_ | refine FinC.v ?_ | refine FinC.own rfl rfl rfl ?_ | exact FinC.nil | refine FinC.sl ?_ | exact FinC.same rfl); all_goals try rfl
  all_goals simp [IntKind.wrap_i64, wrap64, joinA, joinB]
end Go.Proofs.YtagfjnjpgphnjaaGreat
namespace Go.Proofs.YtagfjnjpgphnjaaGreat
open Go.RowKit
set_option linter.unusedSimpArgs false
set_option linter.unusedVariables false
end Go.Proofs.YtagfjnjpgphnjaaGreat
namespace Go.Proofs.YtagfjnjpgphnjaaGreat
open Go.RowKit
set_option linter.unusedSimpArgs false
set_option linter.unusedVariables false
section
variable {xs : List Pn} {x : Pn}
theorem at_lt (hs : xs.Pairwise (fun p q => ahead p q = true)) {q : Nat} (h : q < xs.length) (hq : q < atL xs x) : ahead x xs[q] = false ∧ ¬ sameP xs[q] x := by
  have h1 := (atL_iff hs h).2 hq
  exact ⟨ahead_asymm h1, fun h2 => by rw [same_ahead h2] at h1; cases h1⟩
theorem at_new (hs : xs.Pairwise (fun p q => ahead p q = true)) {q : Nat} (h : q < xs.length) (hq : q = atL xs x) (hi : isL xs x = false) : ahead x xs[q] = true ∧ ¬ sameP xs[q] x := by
  have h1 : ahead xs[q] x = false := by
    cases h2 : ahead xs[q] x
    · rfl
    · have := (atL_iff hs h).1 h2; omega
  rw [isL_at h hq] at hi
  have h3 : ¬ sameP xs[q] x := fun h4 => by simp [cmpP_zero.2 h4] at hi
  refine ⟨?_, h3⟩
  cases h5 : ahead x xs[q]
  · exact absurd (ahead_total h1 h5) h3
  · rfl
theorem at_is {q : Nat} (h : q < xs.length) (hq : q = atL xs x) (hi : isL xs x = true) : sameP xs[q] x := by
  rw [isL_at h hq] at hi
  exact cmpP_zero.1 (by simpa using hi)
theorem at_gt (hs : xs.Pairwise (fun p q => ahead p q = true)) {q : Nat} (h : q < xs.length) (hq : atL xs x < q) : ¬ sameP xs[q] x := by
  have hl : atL xs x < xs.length := by omega
  have h1 : ahead xs[atL xs x] xs[q] = true := List.pairwise_iff_getElem.1 hs _ _ hl h hq
  intro h2
  rw [sameP.right h2] at h1
  have := (atL_iff hs hl).1 h1
  omega
end
/-- what the loop has put, up to q -/
def outN (xs : List Pn) (x : Pn) (q : Nat) : List Pn := if q ≤ atL xs x then xs.take q else xs.take (atL xs x) ++ [x] ++ (xs.take q).drop (atL xs x)
theorem outN_le (xs : List Pn) (x : Pn) (q : Nat) : (outN xs x q).length ≤ xs.length + 1 := by
  unfold outN
  have := atL_le xs x
  split <;> simp only [List.length_append, List.length_take, List.length_drop, List.length_cons, List.length_nil] <;> omega
theorem outN_lt {xs : List Pn} {x : Pn} {q : Nat} (h : q < xs.length) (hq : q < atL xs x) : outN xs x (q + 1) = outN xs x q ++ [xs[q]] := by
  unfold outN
  rw [if_pos (by omega), if_pos (by omega), take_snoc xs q h]
theorem outN_at {xs : List Pn} {x : Pn} {q : Nat} (h : q < xs.length) (hq : q = atL xs x) : outN xs x (q + 1) = outN xs x q ++ [x] ++ [xs[q]] := by
  unfold outN
  rw [if_neg (by omega), if_pos (by omega), take_snoc xs q h, ← hq]
  rw [List.drop_append_of_le_length (by rw [List.length_take]; omega), List.drop_eq_nil_of_le (by rw [List.length_take]; omega)]
  simp
theorem outN_gt {xs : List Pn} {x : Pn} {q : Nat} (h : q < xs.length) (hq : atL xs x < q) : outN xs x (q + 1) = outN xs x q ++ [xs[q]] := by
  unfold outN
  rw [if_neg (by omega), if_neg (by omega), take_snoc xs q h]
  rw [List.drop_append_of_le_length (by rw [List.length_take]; omega)]
  simp
theorem outN_end (xs : List Pn) (x : Pn) : (if atL xs x < xs.length then outN xs x xs.length else outN xs x xs.length ++ [x]) = xs.take (atL xs x) ++ [x] ++ xs.drop (atL xs x) := by
  have := atL_le xs x
  unfold outN
  by_cases h : atL xs x < xs.length
  · rw [if_pos h, if_neg (by omega), List.take_length]
  · rw [if_neg h, if_pos (by omega), List.take_of_length_le (Nat.le_refl _), List.take_of_length_le (by omega), List.drop_eq_nil_of_le (by omega)]
    simp
section
variable (xs : List Pn) (k lo hi : Int) (key : ByteArray) (n a b : Int)
set_option maxHeartbeats 8000000 in
theorem w_new (hs : xs.Pairwise (fun p q => ahead p q = true)) (hx : xs.length ≤ 2000) (h1 : isL xs ⟨lo, hi, key, n, a, b⟩ = false) :
    PC Tryz.prog 195 [.sl 6 (xs.map Pn.av), .v (.int .i64 k), .agg [.v (.int .i64 lo), .v (.int .i64 hi), .v (.string key), .v (.int .i64 n), .v (.int .i64 a), .v (.int .i64 b)]] (PR.av (putR k xs ⟨lo, hi, key, n, a, b⟩)) := by
  have hle := atL_le xs ⟨lo, hi, key, n, a, b⟩
  have hE := outN_end xs ⟨lo, hi, key, n, a, b⟩
  have hlen : (xs.take (atL xs ⟨lo, hi, key, n, a, b⟩) ++ [Pn.mk lo hi key n a b] ++ xs.drop (atL xs ⟨lo, hi, key, n, a, b⟩)).length = xs.length + 1 := by
    simp only [List.length_append, List.length_take, List.length_drop, List.length_cons, List.length_nil]; omega
  rw [show putR k xs ⟨lo, hi, key, n, a, b⟩ = (if 2000 ≤ xs.length then ([], 3) else (xs.take (atL xs ⟨lo, hi, key, n, a, b⟩) ++ [Pn.mk lo hi key n a b] ++ xs.drop (atL xs ⟨lo, hi, key, n, a, b⟩), 0)) by simp only [putR, putL, h1]; by_cases hf : 2000 ≤ xs.length <;> simp [hf]]
  generalize hrs : xs.take (atL xs ⟨lo, hi, key, n, a, b⟩) ++ [Pn.mk lo hi key n a b] ++ xs.drop (atL xs ⟨lo, hi, key, n, a, b⟩) = rs at *
  refine PC.mk (ac_body tab_ok Tryz.func195 rfl (by kernel_rfl) rfl ?_); intro w0 M μ0; simp only [Tryz.ntmps195, List.length_cons, List.length_nil, Nat.reduceAdd, Nat.reduceSub, numb]
  repeat' (first | ((first | apply o_do | apply d_do | apply d_yes rfl rfl rfl); exact lsq) | refine a_seq ?_ | refine a_region ?_ | refine o_nil ?_ | refine a_block ?_ | refine a_ret ?_ | refine a_exit ?_ | refine a_skip ?_ | refine a_draw mixed ?_ | refine d_nil (by kernel_rfl) ?_ | refine o_yes rfl rfl rfl ?_ | refine o_no rfl rfl rfl (by decide) ?_ | refine o_no' rfl rfl rfl ?_ | refine a_condT rfl ?_ | refine a_condF rfl ?_ | refine d_no rfl rfl rfl (by decide) ?_ | refine d_no' rfl rfl rfl ?_ | (refine wq2 (fun hb => ?_) (fun hb => ?_) <;> (simp only [hb]; try simp only [hbs, ne_eq] at hb; try (exfalso; first | omega | exact hb trivial))) | fail)
  refine a_loop (X := {q : Nat // q ≤ xs.length}) (fun x => ⟨[(0, .sl 6 (xs.map Pn.av)), (1, .v (.int .i64 k)), (5, .ref 0 0), (8, .own 1 ((outN xs ⟨lo, hi, key, n, a, b⟩ x.1).map Pn.av).length), (9, .v (.bool (decide (atL xs ⟨lo, hi, key, n, a, b⟩ < x.1)))), (13, .sl 6 (xs.map Pn.av)), (14, .v (.int .i64 xs.length)), (15, .v (.int .i64 x.1))], [(0, .box 155 [.v (.int .i64 lo), .v (.int .i64 hi), .v (.string key), .v (.int .i64 n), .v (.int .i64 a), .v (.int .i64 b)]), (1, .row 155 6 ((outN xs ⟨lo, hi, key, n, a, b⟩ x.1).map Pn.av))]⟩) (fun x => xs.length - x.1) ⟨0, Nat.zero_le _⟩ ?_ ?_
  · refine ⟨by repeat' (first | exact trivial | exact FinA.one (FinB.cell (FinC.same rfl)) | exact FinA.one (FinB.cell FinC.nil) | exact FinA.bound rfl | exact FinA.one (FinB.cell (FinC.own rfl rfl rfl rfl)) | exact FinA.one (FinB.cell (FinC.v (by first | rfl | (simp [outN])))) | exact FinA.one (FinB.cell (FinC.ow rfl (by first | rfl | (simp [outN])))) | exact FinA.one (FinB.agg' rfl rfl) | refine ⟨⟨_, rfl, ?_⟩, ?_⟩), by repeat' (first | exact trivial | refine ⟨⟨_, rfl, by first | rfl | (simp [outN]; done) | (simp [renO, *]; done)⟩, by first | rfl | assumption, ?_⟩), rfl⟩
  rintro ⟨q, hq⟩
  dsimp only
  have hol : ((outN xs ⟨lo, hi, key, n, a, b⟩ q).map Pn.av).length ≤ 2001 := by have := outN_le xs ⟨lo, hi, key, n, a, b⟩ q; rw [List.length_map]; omega
  have hol1 : (outN xs ⟨lo, hi, key, n, a, b⟩ q).length ≤ 2001 := by rw [← List.length_map (f := Pn.av)]; exact hol
  by_cases hlt : q < xs.length
  · have hel : (xs.map Pn.av)[q]? = some (Pn.av xs[q]) := by simp [hlt]
    have hS := p_same xs[q].lo xs[q].hi xs[q].key xs[q].n xs[q].a xs[q].b lo hi key n a b
    have hA := p_rAhead lo hi key n a b xs[q].lo xs[q].hi xs[q].key xs[q].n xs[q].a xs[q].b
    rcases Nat.lt_trichotomy q (atL xs ⟨lo, hi, key, n, a, b⟩) with h | h | h
    · obtain ⟨g1, g2⟩ := at_lt (x := ⟨lo, hi, key, n, a, b⟩) hs hlt h
      have hN := congrArg (List.map Pn.av) (outN_lt hlt h)
      rw [List.map_append] at hN
      rw [show decide (sameP ⟨xs[q].lo, xs[q].hi, xs[q].key, xs[q].n, xs[q].a, xs[q].b⟩ ⟨lo, hi, key, n, a, b⟩) = false from decide_eq_false g2] at hS
      rw [show ahead ⟨lo, hi, key, n, a, b⟩ ⟨xs[q].lo, xs[q].hi, xs[q].key, xs[q].n, xs[q].a, xs[q].b⟩ = false from g1] at hA
      have hd1 : decide (atL xs ⟨lo, hi, key, n, a, b⟩ < q) = false := by simp; omega
      have hd2 : decide (atL xs ⟨lo, hi, key, n, a, b⟩ < q + 1) = false := by simp; omega
      rw [hd1]
      generalize xs[q] = p at *
      generalize outN xs ⟨lo, hi, key, n, a, b⟩ q = o at *
      repeat' (first | ((first | apply o_do | apply d_do | apply d_yes rfl rfl rfl); first | exact ls_indexAddr_sl tab_ok rfl rfl rfl rfl (by assumption) rfl | exact lsc (hS) | exact lsc (hA) | exact ls_append tab_ok rfl rfl rfl rfl (by first | exact SrcIs.sl | exact SrcIs.nil | exact SrcIs.own rfl rfl) rfl (by (try simp only [List.length_cons, List.length_nil]); omega) rfl rfl | exact lsq) | refine a_seq ?_ | refine a_region ?_ | refine o_nil ?_ | refine a_block ?_ | refine a_ret ?_ | refine a_exit ?_ | refine a_skip ?_ | refine a_draw mixed ?_ | refine d_nil (by kernel_rfl) ?_ | refine o_yes rfl rfl rfl ?_ | refine o_no rfl rfl rfl (by decide) ?_ | refine o_no' rfl rfl rfl ?_ | refine a_condT rfl ?_ | refine a_condF rfl ?_ | refine d_no rfl rfl rfl (by decide) ?_ | refine d_no' rfl rfl rfl ?_ | (refine wq2 (fun hb => ?_) (fun hb => ?_) <;> (simp only [hb]; try simp only [hbs, ne_eq] at hb; try (exfalso; first | omega | exact hb trivial))) | fail)
      refine ⟨⟨q + 1, by omega⟩, by dsimp only; omega, ?_⟩
      refine ⟨by repeat' (first | exact trivial | exact FinA.one (FinB.cell (FinC.same rfl)) | exact FinA.one (FinB.cell FinC.nil) | exact FinA.bound rfl | exact FinA.one (FinB.cell (FinC.own rfl rfl rfl rfl)) | exact FinA.one (FinB.cell (FinC.v (by first | rfl | ((first | (simp only [hN]; rfl) | (simp only [hd2]; done)))))) | exact FinA.one (FinB.cell (FinC.ow rfl (by first | rfl | ((first | (simp only [hN]; rfl) | (simp only [hd2]; done)))))) | exact FinA.one (FinB.agg' rfl rfl) | refine ⟨⟨_, rfl, ?_⟩, ?_⟩), by repeat' (first | exact trivial | refine ⟨⟨_, rfl, by first | rfl | ((first | (simp only [hN]; rfl) | (simp only [hd2]; done)); done) | (simp [renO, *]; done)⟩, by first | rfl | assumption, ?_⟩), rfl⟩
    · obtain ⟨g1, g2⟩ := at_new (x := ⟨lo, hi, key, n, a, b⟩) hs hlt h h1
      have hN := congrArg (List.map Pn.av) (outN_at hlt h)
      rw [List.map_append, List.map_append] at hN
      rw [show decide (sameP ⟨xs[q].lo, xs[q].hi, xs[q].key, xs[q].n, xs[q].a, xs[q].b⟩ ⟨lo, hi, key, n, a, b⟩) = false from decide_eq_false g2] at hS
      rw [show ahead ⟨lo, hi, key, n, a, b⟩ ⟨xs[q].lo, xs[q].hi, xs[q].key, xs[q].n, xs[q].a, xs[q].b⟩ = true from g1] at hA
      have hd1 : decide (atL xs ⟨lo, hi, key, n, a, b⟩ < q) = false := by simp; omega
      have hd2 : decide (atL xs ⟨lo, hi, key, n, a, b⟩ < q + 1) = true := by simp; omega
      rw [hd1]
      generalize xs[q] = p at *
      generalize outN xs ⟨lo, hi, key, n, a, b⟩ q = o at *
      repeat' (first | ((first | apply o_do | apply d_do | apply d_yes rfl rfl rfl); first | exact ls_indexAddr_sl tab_ok rfl rfl rfl rfl (by assumption) rfl | exact lsc (hS) | exact lsc (hA) | exact ls_append tab_ok rfl rfl rfl rfl (by first | exact SrcIs.sl | exact SrcIs.nil | exact SrcIs.own rfl rfl) rfl (by (try simp only [List.length_cons, List.length_nil]); (first | omega | (simp; omega))) rfl rfl | exact lsq) | refine a_seq ?_ | refine a_region ?_ | refine o_nil ?_ | refine a_block ?_ | refine a_ret ?_ | refine a_exit ?_ | refine a_skip ?_ | refine a_draw mixed ?_ | refine d_nil (by kernel_rfl) ?_ | refine o_yes rfl rfl rfl ?_ | refine o_no rfl rfl rfl (by decide) ?_ | refine o_no' rfl rfl rfl ?_ | refine a_condT rfl ?_ | refine a_condF rfl ?_ | refine d_no rfl rfl rfl (by decide) ?_ | refine d_no' rfl rfl rfl ?_ | (refine wq2 (fun hb => ?_) (fun hb => ?_) <;> (simp only [hb]; try simp only [hbs, ne_eq] at hb; try (exfalso; first | omega | exact hb trivial))) | fail)
      refine ⟨⟨q + 1, by omega⟩, by dsimp only; omega, ?_⟩
      refine ⟨by repeat' (first | exact trivial | exact FinA.one (FinB.cell (FinC.same rfl)) | exact FinA.one (FinB.cell FinC.nil) | exact FinA.bound rfl | exact FinA.one (FinB.cell (FinC.own rfl rfl rfl rfl)) | exact FinA.one (FinB.cell (FinC.v (by first | rfl | ((first | (simp only [hN]; rfl) | (simp only [hd2]; done)))))) | exact FinA.one (FinB.cell (FinC.ow rfl (by first | rfl | ((first | (simp only [hN]; rfl) | (simp only [hd2]; done)))))) | exact FinA.one (FinB.agg' rfl rfl) | refine ⟨⟨_, rfl, ?_⟩, ?_⟩), by repeat' (first | exact trivial | refine ⟨⟨_, rfl, by first | rfl | ((first | (simp only [hN]; rfl) | (simp only [hd2]; done)); done) | (simp [renO, *]; done)⟩, by first | rfl | assumption, ?_⟩), rfl⟩
    · have g2 := at_gt (x := ⟨lo, hi, key, n, a, b⟩) hs hlt h
      have hN := congrArg (List.map Pn.av) (outN_gt hlt h)
      rw [List.map_append] at hN
      rw [show decide (sameP ⟨xs[q].lo, xs[q].hi, xs[q].key, xs[q].n, xs[q].a, xs[q].b⟩ ⟨lo, hi, key, n, a, b⟩) = false from decide_eq_false g2] at hS
      have hd1 : decide (atL xs ⟨lo, hi, key, n, a, b⟩ < q) = true := by simp; omega
      have hd2 : decide (atL xs ⟨lo, hi, key, n, a, b⟩ < q + 1) = true := by simp; omega
      rw [hd1]
      generalize xs[q] = p at *
      generalize outN xs ⟨lo, hi, key, n, a, b⟩ q = o at *
      repeat' (first | ((first | apply o_do | apply d_do | apply d_yes rfl rfl rfl); first | exact ls_indexAddr_sl tab_ok rfl rfl rfl rfl (by assumption) rfl | exact lsc (hS) | exact lsc (hA) | exact ls_append tab_ok rfl rfl rfl rfl (by first | exact SrcIs.sl | exact SrcIs.nil | exact SrcIs.own rfl rfl) rfl (by (try simp only [List.length_cons, List.length_nil]); omega) rfl rfl | exact lsq) | refine a_seq ?_ | refine a_region ?_ | refine o_nil ?_ | refine a_block ?_ | refine a_ret ?_ | refine a_exit ?_ | refine a_skip ?_ | refine a_draw mixed ?_ | refine d_nil (by kernel_rfl) ?_ | refine o_yes rfl rfl rfl ?_ | refine o_no rfl rfl rfl (by decide) ?_ | refine o_no' rfl rfl rfl ?_ | refine a_condT rfl ?_ | refine a_condF rfl ?_ | refine d_no rfl rfl rfl (by decide) ?_ | refine d_no' rfl rfl rfl ?_ | (refine wq2 (fun hb => ?_) (fun hb => ?_) <;> (simp only [hb]; try simp only [hbs, ne_eq] at hb; try (exfalso; first | omega | exact hb trivial))) | fail)
      refine ⟨⟨q + 1, by omega⟩, by dsimp only; omega, ?_⟩
      refine ⟨by repeat' (first | exact trivial | exact FinA.one (FinB.cell (FinC.same rfl)) | exact FinA.one (FinB.cell FinC.nil) | exact FinA.bound rfl | exact FinA.one (FinB.cell (FinC.own rfl rfl rfl rfl)) | exact FinA.one (FinB.cell (FinC.v (by first | rfl | ((first | (simp only [hN]; rfl) | (simp only [hd2]; done)))))) | exact FinA.one (FinB.cell (FinC.ow rfl (by first | rfl | ((first | (simp only [hN]; rfl) | (simp only [hd2]; done)))))) | exact FinA.one (FinB.agg' rfl rfl) | refine ⟨⟨_, rfl, ?_⟩, ?_⟩), by repeat' (first | exact trivial | refine ⟨⟨_, rfl, by first | rfl | ((first | (simp only [hN]; rfl) | (simp only [hd2]; done)); done) | (simp [renO, *]; done)⟩, by first | rfl | assumption, ?_⟩), rfl⟩
  · obtain rfl : q = xs.length := by omega
    by_cases hat : atL xs ⟨lo, hi, key, n, a, b⟩ < xs.length
    · rw [if_pos hat] at hE
      rw [hE] at hol ⊢
      rw [decide_eq_true hat]
      have hol3 : (rs.map Pn.av).length = xs.length + 1 := by rw [List.length_map]; exact hlen
      by_cases hf : 2000 ≤ xs.length
      · rw [if_pos hf]
        repeat' (first | ((first | apply o_do | apply d_do | apply d_yes rfl rfl rfl); exact lsq) | refine a_seq ?_ | refine a_region ?_ | refine o_nil ?_ | refine a_block ?_ | refine a_ret ?_ | refine a_exit ?_ | refine a_skip ?_ | refine a_draw mixed ?_ | refine d_nil (by kernel_rfl) ?_ | refine o_yes rfl rfl rfl ?_ | refine o_no rfl rfl rfl (by decide) ?_ | refine o_no' rfl rfl rfl ?_ | refine a_condT rfl ?_ | refine a_condF rfl ?_ | refine d_no rfl rfl rfl (by decide) ?_ | refine d_no' rfl rfl rfl ?_ | (refine wq2 (fun hb => ?_) (fun hb => ?_) <;> (simp only [hb]; try simp only [hbs, ne_eq] at hb; try (exfalso; first | omega | exact hb trivial))) | fail)
        all_goals refine rq rfl ?_
        all_goals exact fnq
      · rw [if_neg hf]
        repeat' (first | ((first | apply o_do | apply d_do | apply d_yes rfl rfl rfl); exact lsq) | refine a_seq ?_ | refine a_region ?_ | refine o_nil ?_ | refine a_block ?_ | refine a_ret ?_ | refine a_exit ?_ | refine a_skip ?_ | refine a_draw mixed ?_ | refine d_nil (by kernel_rfl) ?_ | refine o_yes rfl rfl rfl ?_ | refine o_no rfl rfl rfl (by decide) ?_ | refine o_no' rfl rfl rfl ?_ | refine a_condT rfl ?_ | refine a_condF rfl ?_ | refine d_no rfl rfl rfl (by decide) ?_ | refine d_no' rfl rfl rfl ?_ | (refine wq2 (fun hb => ?_) (fun hb => ?_) <;> (simp only [hb]; try simp only [hbs, ne_eq] at hb; try (exfalso; first | omega | exact hb trivial))) | fail)
        all_goals refine rq rfl ?_
        all_goals exact fnq
    · rw [if_neg hat] at hE
      rw [decide_eq_false hat]
      have hol2 : ∀ y, ((outN xs ⟨lo, hi, key, n, a, b⟩ xs.length).map Pn.av ++ [y]).length = xs.length + 1 := by
        intro y
        rw [List.length_append, List.length_map]
        have := congrArg List.length hE
        rw [List.length_append] at this
        simp only [List.length_cons, List.length_nil] at this ⊢
        omega
      rw [← hE]
      generalize outN xs ⟨lo, hi, key, n, a, b⟩ xs.length = o at *
      by_cases hf : 2000 ≤ xs.length
      · rw [if_pos hf]
        repeat' (first | ((first | apply o_do | apply d_do | apply d_yes rfl rfl rfl); first | exact ls_append tab_ok rfl rfl rfl rfl (by first | exact SrcIs.sl | exact SrcIs.nil | exact SrcIs.own rfl rfl) rfl (by (try simp only [List.length_cons, List.length_nil]); omega) rfl rfl | exact lsq) | refine a_seq ?_ | refine a_region ?_ | refine o_nil ?_ | refine a_block ?_ | refine a_ret ?_ | refine a_exit ?_ | refine a_skip ?_ | refine a_draw mixed ?_ | refine d_nil (by kernel_rfl) ?_ | refine o_yes rfl rfl rfl ?_ | refine o_no rfl rfl rfl (by decide) ?_ | refine o_no' rfl rfl rfl ?_ | refine a_condT rfl ?_ | refine a_condF rfl ?_ | refine d_no rfl rfl rfl (by decide) ?_ | refine d_no' rfl rfl rfl ?_ | (refine wq2 (fun hb => ?_) (fun hb => ?_) <;> (simp only [hb]; try simp only [hbs, ne_eq] at hb; try (exfalso; first | omega | exact hb trivial))) | fail)
        · refine rq rfl ?_
          exact fnq
        · exfalso; rw [hol2] at hb; omega
      · rw [if_neg hf]
        rw [show PR.av (o ++ [⟨lo, hi, key, n, a, b⟩], 0) = .tup [.sl 6 (o.map Pn.av ++ [Pn.av ⟨lo, hi, key, n, a, b⟩]), .v (.int .i64 0)] by simp [PR.av]]
        repeat' (first | ((first | apply o_do | apply d_do | apply d_yes rfl rfl rfl); first | exact ls_append tab_ok rfl rfl rfl rfl (by first | exact SrcIs.sl | exact SrcIs.nil | exact SrcIs.own rfl rfl) rfl (by (try simp only [List.length_cons, List.length_nil]); omega) rfl rfl | exact lsq) | refine a_seq ?_ | refine a_region ?_ | refine o_nil ?_ | refine a_block ?_ | refine a_ret ?_ | refine a_exit ?_ | refine a_skip ?_ | refine a_draw mixed ?_ | refine d_nil (by kernel_rfl) ?_ | refine o_yes rfl rfl rfl ?_ | refine o_no rfl rfl rfl (by decide) ?_ | refine o_no' rfl rfl rfl ?_ | refine a_condT rfl ?_ | refine a_condF rfl ?_ | refine d_no rfl rfl rfl (by decide) ?_ | refine d_no' rfl rfl rfl ?_ | (refine wq2 (fun hb => ?_) (fun hb => ?_) <;> (simp only [hb]; try simp only [hbs, ne_eq] at hb; try (exfalso; first | omega | exact hb trivial))) | fail)
        · exfalso; rw [hol2] at hb; omega
        · refine rq rfl ?_
          exact fnq
end
end Go.Proofs.YtagfjnjpgphnjaaGreat
namespace Go.Proofs.YtagfjnjpgphnjaaGreat
open Go.RowKit
set_option linter.unusedSimpArgs false
set_option linter.unusedVariables false
theorem set_take_lt {xs : List Pn} {at' q : Nat} (j : Pn) (h : q < xs.length) (hq : q ≠ at') : (xs.set at' j).take (q + 1) = (xs.set at' j).take q ++ [xs[q]] := by
  have h2 : q < (xs.set at' j).length := by rw [List.length_set]; exact h
  rw [take_snoc _ q h2, List.getElem_set_ne (by omega)]
theorem set_take_at {xs : List Pn} {q : Nat} (j : Pn) (h : q < xs.length) : (xs.set q j).take (q + 1) = (xs.set q j).take q ++ [j] := by
  have h2 : q < (xs.set q j).length := by rw [List.length_set]; exact h
  rw [take_snoc _ q h2, List.getElem_set_self]
section
variable (xs : List Pn) (k lo hi : Int) (key : ByteArray) (n a b : Int)
set_option maxHeartbeats 8000000 in
theorem w_join (hs : xs.Pairwise (fun p q => ahead p q = true)) (hx : xs.length ≤ 2000) (p0 : Pn) (h1 : isL xs ⟨lo, hi, key, n, a, b⟩ = true) (hp0 : xs[atL xs ⟨lo, hi, key, n, a, b⟩]? = some p0) (h2 : ¬ (joinP k p0 ⟨lo, hi, key, n, a, b⟩).n < 1) :
    PC Tryz.prog 195 [.sl 6 (xs.map Pn.av), .v (.int .i64 k), .agg [.v (.int .i64 lo), .v (.int .i64 hi), .v (.string key), .v (.int .i64 n), .v (.int .i64 a), .v (.int .i64 b)]] (PR.av (xs.set (atL xs ⟨lo, hi, key, n, a, b⟩) (joinP k p0 ⟨lo, hi, key, n, a, b⟩), 0)) := by
  have hat : atL xs ⟨lo, hi, key, n, a, b⟩ < xs.length := by
    rcases Nat.lt_or_ge (atL xs ⟨lo, hi, key, n, a, b⟩) xs.length with h | h
    · exact h
    · rw [List.getElem?_eq_none h] at hp0; cases hp0
  have hp1 : xs[atL xs ⟨lo, hi, key, n, a, b⟩] = p0 := by rw [List.getElem?_eq_getElem hat] at hp0; injection hp0
  have h3 : ¬ (fJoin k ⟨p0.n, p0.a, p0.b⟩ ⟨n, a, b⟩).n < 1 := h2
  have hsl : (xs.set (atL xs ⟨lo, hi, key, n, a, b⟩) (joinP k p0 ⟨lo, hi, key, n, a, b⟩)).length = xs.length := by rw [List.length_set]
  generalize hj : joinP k p0 ⟨lo, hi, key, n, a, b⟩ = j at *
  have hjv : Pn.av j = [.v (.int .i64 p0.lo), .v (.int .i64 p0.hi), .v (.string p0.key), .v (.int .i64 (fJoin k ⟨p0.n, p0.a, p0.b⟩ ⟨n, a, b⟩).n), .v (.int .i64 (fJoin k ⟨p0.n, p0.a, p0.b⟩ ⟨n, a, b⟩).a), .v (.int .i64 (fJoin k ⟨p0.n, p0.a, p0.b⟩ ⟨n, a, b⟩).b)] := by rw [← hj]; rfl
  refine PC.mk (ac_body tab_ok Tryz.func195 rfl (by kernel_rfl) rfl ?_); intro w0 M μ0; simp only [Tryz.ntmps195, List.length_cons, List.length_nil, Nat.reduceAdd, Nat.reduceSub, numb]
  repeat' (first | ((first | apply o_do | apply d_do | apply d_yes rfl rfl rfl); exact lsq) | refine a_seq ?_ | refine a_region ?_ | refine o_nil ?_ | refine a_block ?_ | refine a_ret ?_ | refine a_exit ?_ | refine a_skip ?_ | refine a_draw mixed ?_ | refine d_nil (by kernel_rfl) ?_ | refine o_yes rfl rfl rfl ?_ | refine o_no rfl rfl rfl (by decide) ?_ | refine o_no' rfl rfl rfl ?_ | refine a_condT rfl ?_ | refine a_condF rfl ?_ | refine d_no rfl rfl rfl (by decide) ?_ | refine d_no' rfl rfl rfl ?_ | (refine wq2 (fun hb => ?_) (fun hb => ?_) <;> (simp only [hb]; try simp only [hbs, ne_eq] at hb; try (exfalso; first | omega | exact hb trivial))) | fail)
  refine a_loop (X := {q : Nat // q ≤ xs.length}) (fun x => ⟨[(0, .sl 6 (xs.map Pn.av)), (1, .v (.int .i64 k)), (5, .ref 0 0), (8, .own 1 (((xs.set (atL xs ⟨lo, hi, key, n, a, b⟩) j).take x.1).map Pn.av).length), (9, .v (.bool (decide (atL xs ⟨lo, hi, key, n, a, b⟩ < x.1)))), (13, .sl 6 (xs.map Pn.av)), (14, .v (.int .i64 xs.length)), (15, .v (.int .i64 x.1))], [(0, .box 155 [.v (.int .i64 lo), .v (.int .i64 hi), .v (.string key), .v (.int .i64 n), .v (.int .i64 a), .v (.int .i64 b)]), (1, .row 155 6 (((xs.set (atL xs ⟨lo, hi, key, n, a, b⟩) j).take x.1).map Pn.av))]⟩) (fun x => xs.length - x.1) ⟨0, Nat.zero_le _⟩ ?_ ?_
  · exact wkS
  rintro ⟨q, hq⟩
  dsimp only
  have hol : (((xs.set (atL xs ⟨lo, hi, key, n, a, b⟩) j).take q).map Pn.av).length ≤ 2000 := by rw [List.length_map, List.length_take]; omega
  by_cases hlt : q < xs.length
  · have hel : (xs.map Pn.av)[q]? = some (Pn.av xs[q]) := by simp [hlt]
    have hS := p_same xs[q].lo xs[q].hi xs[q].key xs[q].n xs[q].a xs[q].b lo hi key n a b
    have hA := p_rAhead lo hi key n a b xs[q].lo xs[q].hi xs[q].key xs[q].n xs[q].a xs[q].b
    rcases Nat.lt_trichotomy q (atL xs ⟨lo, hi, key, n, a, b⟩) with h | h | h
    · obtain ⟨g1, g2⟩ := at_lt (x := ⟨lo, hi, key, n, a, b⟩) hs hlt h
      have hN := congrArg (List.map Pn.av) (set_take_lt j hlt (show q ≠ atL xs ⟨lo, hi, key, n, a, b⟩ by omega))
      rw [List.map_append] at hN
      rw [show decide (sameP ⟨xs[q].lo, xs[q].hi, xs[q].key, xs[q].n, xs[q].a, xs[q].b⟩ ⟨lo, hi, key, n, a, b⟩) = false from decide_eq_false g2] at hS
      rw [show ahead ⟨lo, hi, key, n, a, b⟩ ⟨xs[q].lo, xs[q].hi, xs[q].key, xs[q].n, xs[q].a, xs[q].b⟩ = false from g1] at hA
      have hd1 : decide (atL xs ⟨lo, hi, key, n, a, b⟩ < q) = false := by simp; omega
      have hd2 : decide (atL xs ⟨lo, hi, key, n, a, b⟩ < q + 1) = false := by simp; omega
      rw [hd1]
      generalize xs[q] = p at *
      generalize (xs.set (atL xs ⟨lo, hi, key, n, a, b⟩) j).take q = o at *
      repeat' (first | ((first | apply o_do | apply d_do | apply d_yes rfl rfl rfl); first | exact ls_indexAddr_sl tab_ok rfl rfl rfl rfl (by assumption) rfl | exact lsc (hS) | exact lsc (hA) | exact ls_append tab_ok rfl rfl rfl rfl (by first | exact SrcIs.sl | exact SrcIs.nil | exact SrcIs.own rfl rfl) rfl (by (try simp only [List.length_cons, List.length_nil]); omega) rfl rfl | exact lsq) | refine a_seq ?_ | refine a_region ?_ | refine o_nil ?_ | refine a_block ?_ | refine a_ret ?_ | refine a_exit ?_ | refine a_skip ?_ | refine a_draw mixed ?_ | refine d_nil (by kernel_rfl) ?_ | refine o_yes rfl rfl rfl ?_ | refine o_no rfl rfl rfl (by decide) ?_ | refine o_no' rfl rfl rfl ?_ | refine a_condT rfl ?_ | refine a_condF rfl ?_ | refine d_no rfl rfl rfl (by decide) ?_ | refine d_no' rfl rfl rfl ?_ | (refine wq2 (fun hb => ?_) (fun hb => ?_) <;> (simp only [hb]; try simp only [hbs, ne_eq] at hb; try (exfalso; first | omega | exact hb trivial))) | fail)
      refine ⟨⟨q + 1, by omega⟩, by dsimp only; omega, ?_⟩
      refine ⟨by repeat' (first | exact trivial | exact FinA.one (FinB.cell (FinC.same rfl)) | exact FinA.one (FinB.cell FinC.nil) | exact FinA.bound rfl | exact FinA.one (FinB.cell (FinC.own rfl rfl rfl rfl)) | exact FinA.one (FinB.cell (FinC.v (by first | rfl | ((first | (simp only [hN]; rfl) | (simp only [hd2]; done)))))) | exact FinA.one (FinB.cell (FinC.ow rfl (by first | rfl | ((first | (simp only [hN]; rfl) | (simp only [hd2]; done)))))) | exact FinA.one (FinB.agg' rfl rfl) | refine ⟨⟨_, rfl, ?_⟩, ?_⟩), by repeat' (first | exact trivial | refine ⟨⟨_, rfl, by first | rfl | ((first | (simp only [hN]; rfl) | (simp only [hd2]; done)); done) | (simp [renO, *]; done)⟩, by first | rfl | assumption, ?_⟩), rfl⟩
    · have g2 := at_is (x := ⟨lo, hi, key, n, a, b⟩) hlt h h1
      subst h
      have hN := congrArg (List.map Pn.av) (set_take_at j hlt)
      rw [List.map_append, show List.map Pn.av [j] = [Pn.av j] from rfl, hjv] at hN
      rw [hp1] at hel hS hA g2
      rw [show decide (sameP ⟨p0.lo, p0.hi, p0.key, p0.n, p0.a, p0.b⟩ ⟨lo, hi, key, n, a, b⟩) = true from decide_eq_true g2] at hS
      have hd1 : decide (atL xs ⟨lo, hi, key, n, a, b⟩ < atL xs ⟨lo, hi, key, n, a, b⟩) = false := by simp
      have hd2 : decide (atL xs ⟨lo, hi, key, n, a, b⟩ < atL xs ⟨lo, hi, key, n, a, b⟩ + 1) = true := by simp
      rw [hd1]
      generalize (xs.set (atL xs ⟨lo, hi, key, n, a, b⟩) j).take (atL xs ⟨lo, hi, key, n, a, b⟩) = o at *
      have hJ := p_rJoin k p0.n p0.a p0.b n a b
      repeat' (first | ((first | apply o_do | apply d_do | apply d_yes rfl rfl rfl); first | exact ls_indexAddr_sl tab_ok rfl rfl rfl rfl (by assumption) rfl | exact lsc (hS) | exact lsc (hA) | exact lsc (hJ) | exact ls_append tab_ok rfl rfl rfl rfl (by first | exact SrcIs.sl | exact SrcIs.nil | exact SrcIs.own rfl rfl) rfl (by (try simp only [List.length_cons, List.length_nil]); omega) rfl rfl | exact lsq) | refine a_seq ?_ | refine a_region ?_ | refine o_nil ?_ | refine a_block ?_ | refine a_ret ?_ | refine a_exit ?_ | refine a_skip ?_ | refine a_draw mixed ?_ | refine d_nil (by kernel_rfl) ?_ | refine o_yes rfl rfl rfl ?_ | refine o_no rfl rfl rfl (by decide) ?_ | refine o_no' rfl rfl rfl ?_ | refine a_condT rfl ?_ | refine a_condF rfl ?_ | refine d_no rfl rfl rfl (by decide) ?_ | refine d_no' rfl rfl rfl ?_ | (refine wq2 (fun hb => ?_) (fun hb => ?_) <;> (simp only [hb]; try simp only [hbs, ne_eq] at hb; try (exfalso; first | omega | exact hb trivial))) | fail)
      refine ⟨⟨atL xs ⟨lo, hi, key, n, a, b⟩ + 1, by omega⟩, by dsimp only; omega, ?_⟩
      refine ⟨by repeat' (first | exact trivial | exact FinA.one (FinB.cell (FinC.same rfl)) | exact FinA.one (FinB.cell FinC.nil) | exact FinA.bound rfl | exact FinA.one (FinB.cell (FinC.own rfl rfl rfl rfl)) | exact FinA.one (FinB.cell (FinC.v (by first | rfl | ((first | (simp only [hN]; rfl) | (simp only [hd2]; done)))))) | exact FinA.one (FinB.cell (FinC.ow rfl (by first | rfl | ((first | (simp only [hN]; rfl) | (simp only [hd2]; done)))))) | exact FinA.one (FinB.agg' rfl rfl) | refine ⟨⟨_, rfl, ?_⟩, ?_⟩), by repeat' (first | exact trivial | refine ⟨⟨_, rfl, by first | rfl | ((first | (simp only [hN]; rfl) | (simp only [hd2]; done)); done) | (simp [renO, *]; done)⟩, by first | rfl | assumption, ?_⟩), rfl⟩
    · have g2 := at_gt (x := ⟨lo, hi, key, n, a, b⟩) hs hlt h
      have hN := congrArg (List.map Pn.av) (set_take_lt j hlt (show q ≠ atL xs ⟨lo, hi, key, n, a, b⟩ by omega))
      rw [List.map_append] at hN
      rw [show decide (sameP ⟨xs[q].lo, xs[q].hi, xs[q].key, xs[q].n, xs[q].a, xs[q].b⟩ ⟨lo, hi, key, n, a, b⟩) = false from decide_eq_false g2] at hS
      have hd1 : decide (atL xs ⟨lo, hi, key, n, a, b⟩ < q) = true := by simp; omega
      have hd2 : decide (atL xs ⟨lo, hi, key, n, a, b⟩ < q + 1) = true := by simp; omega
      rw [hd1]
      generalize xs[q] = p at *
      generalize (xs.set (atL xs ⟨lo, hi, key, n, a, b⟩) j).take q = o at *
      repeat' (first | ((first | apply o_do | apply d_do | apply d_yes rfl rfl rfl); first | exact ls_indexAddr_sl tab_ok rfl rfl rfl rfl (by assumption) rfl | exact lsc (hS) | exact lsc (hA) | exact ls_append tab_ok rfl rfl rfl rfl (by first | exact SrcIs.sl | exact SrcIs.nil | exact SrcIs.own rfl rfl) rfl (by (try simp only [List.length_cons, List.length_nil]); omega) rfl rfl | exact lsq) | refine a_seq ?_ | refine a_region ?_ | refine o_nil ?_ | refine a_block ?_ | refine a_ret ?_ | refine a_exit ?_ | refine a_skip ?_ | refine a_draw mixed ?_ | refine d_nil (by kernel_rfl) ?_ | refine o_yes rfl rfl rfl ?_ | refine o_no rfl rfl rfl (by decide) ?_ | refine o_no' rfl rfl rfl ?_ | refine a_condT rfl ?_ | refine a_condF rfl ?_ | refine d_no rfl rfl rfl (by decide) ?_ | refine d_no' rfl rfl rfl ?_ | (refine wq2 (fun hb => ?_) (fun hb => ?_) <;> (simp only [hb]; try simp only [hbs, ne_eq] at hb; try (exfalso; first | omega | exact hb trivial))) | fail)
      refine ⟨⟨q + 1, by omega⟩, by dsimp only; omega, ?_⟩
      refine ⟨by repeat' (first | exact trivial | exact FinA.one (FinB.cell (FinC.same rfl)) | exact FinA.one (FinB.cell FinC.nil) | exact FinA.bound rfl | exact FinA.one (FinB.cell (FinC.own rfl rfl rfl rfl)) | exact FinA.one (FinB.cell (FinC.v (by first | rfl | ((first | (simp only [hN]; rfl) | (simp only [hd2]; done)))))) | exact FinA.one (FinB.cell (FinC.ow rfl (by first | rfl | ((first | (simp only [hN]; rfl) | (simp only [hd2]; done)))))) | exact FinA.one (FinB.agg' rfl rfl) | refine ⟨⟨_, rfl, ?_⟩, ?_⟩), by repeat' (first | exact trivial | refine ⟨⟨_, rfl, by first | rfl | ((first | (simp only [hN]; rfl) | (simp only [hd2]; done)); done) | (simp [renO, *]; done)⟩, by first | rfl | assumption, ?_⟩), rfl⟩
  · obtain rfl : q = xs.length := by omega
    rw [decide_eq_true hat]
    rw [List.take_of_length_le (by omega)] at hol ⊢
    repeat' (first | ((first | apply o_do | apply d_do | apply d_yes rfl rfl rfl); exact lsq) | refine a_seq ?_ | refine a_region ?_ | refine o_nil ?_ | refine a_block ?_ | refine a_ret ?_ | refine a_exit ?_ | refine a_skip ?_ | refine a_draw mixed ?_ | refine d_nil (by kernel_rfl) ?_ | refine o_yes rfl rfl rfl ?_ | refine o_no rfl rfl rfl (by decide) ?_ | refine o_no' rfl rfl rfl ?_ | refine a_condT rfl ?_ | refine a_condF rfl ?_ | refine d_no rfl rfl rfl (by decide) ?_ | refine d_no' rfl rfl rfl ?_ | (refine wq2 (fun hb => ?_) (fun hb => ?_) <;> (simp only [hb]; try simp only [hbs, ne_eq] at hb; try (exfalso; first | omega | exact hb trivial))) | fail)
    all_goals refine rq rfl ?_
    all_goals exact fnq
set_option maxHeartbeats 8000000 in
theorem w_over (hs : xs.Pairwise (fun p q => ahead p q = true)) (hx : xs.length ≤ 2000) (p0 : Pn) (h1 : isL xs ⟨lo, hi, key, n, a, b⟩ = true) (hp0 : xs[atL xs ⟨lo, hi, key, n, a, b⟩]? = some p0) (h2 : (joinP k p0 ⟨lo, hi, key, n, a, b⟩).n < 1) :
    PC Tryz.prog 195 [.sl 6 (xs.map Pn.av), .v (.int .i64 k), .agg [.v (.int .i64 lo), .v (.int .i64 hi), .v (.string key), .v (.int .i64 n), .v (.int .i64 a), .v (.int .i64 b)]] (PR.av ([], 3)) := by
  have hat : atL xs ⟨lo, hi, key, n, a, b⟩ < xs.length := by
    rcases Nat.lt_or_ge (atL xs ⟨lo, hi, key, n, a, b⟩) xs.length with h | h
    · exact h
    · rw [List.getElem?_eq_none h] at hp0; cases hp0
  have hp1 : xs[atL xs ⟨lo, hi, key, n, a, b⟩] = p0 := by rw [List.getElem?_eq_getElem hat] at hp0; injection hp0
  have h3 : (fJoin k ⟨p0.n, p0.a, p0.b⟩ ⟨n, a, b⟩).n < 1 := h2
  refine PC.mk (ac_body tab_ok Tryz.func195 rfl (by kernel_rfl) rfl ?_); intro w0 M μ0; simp only [Tryz.ntmps195, List.length_cons, List.length_nil, Nat.reduceAdd, Nat.reduceSub, numb]
  repeat' (first | ((first | apply o_do | apply d_do | apply d_yes rfl rfl rfl); exact lsq) | refine a_seq ?_ | refine a_region ?_ | refine o_nil ?_ | refine a_block ?_ | refine a_ret ?_ | refine a_exit ?_ | refine a_skip ?_ | refine a_draw mixed ?_ | refine d_nil (by kernel_rfl) ?_ | refine o_yes rfl rfl rfl ?_ | refine o_no rfl rfl rfl (by decide) ?_ | refine o_no' rfl rfl rfl ?_ | refine a_condT rfl ?_ | refine a_condF rfl ?_ | refine d_no rfl rfl rfl (by decide) ?_ | refine d_no' rfl rfl rfl ?_ | (refine wq2 (fun hb => ?_) (fun hb => ?_) <;> (simp only [hb]; try simp only [hbs, ne_eq] at hb; try (exfalso; first | omega | exact hb trivial))) | fail)
  refine a_loop (X := {q : Nat // q ≤ atL xs ⟨lo, hi, key, n, a, b⟩}) (fun x => ⟨[(0, .sl 6 (xs.map Pn.av)), (1, .v (.int .i64 k)), (5, .ref 0 0), (8, .own 1 ((xs.take x.1).map Pn.av).length), (9, .v (.bool false)), (13, .sl 6 (xs.map Pn.av)), (14, .v (.int .i64 xs.length)), (15, .v (.int .i64 x.1))], [(0, .box 155 [.v (.int .i64 lo), .v (.int .i64 hi), .v (.string key), .v (.int .i64 n), .v (.int .i64 a), .v (.int .i64 b)]), (1, .row 155 6 ((xs.take x.1).map Pn.av))]⟩) (fun x => xs.length - x.1) ⟨0, Nat.zero_le _⟩ ?_ ?_
  · exact wkS
  rintro ⟨q, hq⟩
  dsimp only
  have hol : ((xs.take q).map Pn.av).length ≤ 2000 := by rw [List.length_map, List.length_take]; omega
  have hlt : q < xs.length := by omega
  have hel : (xs.map Pn.av)[q]? = some (Pn.av xs[q]) := by simp [hlt]
  have hS := p_same xs[q].lo xs[q].hi xs[q].key xs[q].n xs[q].a xs[q].b lo hi key n a b
  have hA := p_rAhead lo hi key n a b xs[q].lo xs[q].hi xs[q].key xs[q].n xs[q].a xs[q].b
  rcases Nat.lt_or_eq_of_le hq with h | h
  · obtain ⟨g1, g2⟩ := at_lt (x := ⟨lo, hi, key, n, a, b⟩) hs hlt h
    have hN := congrArg (List.map Pn.av) (take_snoc xs q hlt)
    rw [List.map_append] at hN
    rw [show decide (sameP ⟨xs[q].lo, xs[q].hi, xs[q].key, xs[q].n, xs[q].a, xs[q].b⟩ ⟨lo, hi, key, n, a, b⟩) = false from decide_eq_false g2] at hS
    rw [show ahead ⟨lo, hi, key, n, a, b⟩ ⟨xs[q].lo, xs[q].hi, xs[q].key, xs[q].n, xs[q].a, xs[q].b⟩ = false from g1] at hA
    generalize xs[q] = p at *
    generalize xs.take q = o at *
    repeat' (first | ((first | apply o_do | apply d_do | apply d_yes rfl rfl rfl); first | exact ls_indexAddr_sl tab_ok rfl rfl rfl rfl (by assumption) rfl | exact lsc (hS) | exact lsc (hA) | exact ls_append tab_ok rfl rfl rfl rfl (by first | exact SrcIs.sl | exact SrcIs.nil | exact SrcIs.own rfl rfl) rfl (by (try simp only [List.length_cons, List.length_nil]); omega) rfl rfl | exact lsq) | refine a_seq ?_ | refine a_region ?_ | refine o_nil ?_ | refine a_block ?_ | refine a_ret ?_ | refine a_exit ?_ | refine a_skip ?_ | refine a_draw mixed ?_ | refine d_nil (by kernel_rfl) ?_ | refine o_yes rfl rfl rfl ?_ | refine o_no rfl rfl rfl (by decide) ?_ | refine o_no' rfl rfl rfl ?_ | refine a_condT rfl ?_ | refine a_condF rfl ?_ | refine d_no rfl rfl rfl (by decide) ?_ | refine d_no' rfl rfl rfl ?_ | (refine wq2 (fun hb => ?_) (fun hb => ?_) <;> (simp only [hb]; try simp only [hbs, ne_eq] at hb; try (exfalso; first | omega | exact hb trivial))) | fail)
    refine ⟨⟨q + 1, by omega⟩, by dsimp only; omega, ?_⟩
    refine ⟨by repeat' (first | exact trivial | exact FinA.one (FinB.cell (FinC.same rfl)) | exact FinA.one (FinB.cell FinC.nil) | exact FinA.bound rfl | exact FinA.one (FinB.cell (FinC.own rfl rfl rfl rfl)) | exact FinA.one (FinB.cell (FinC.v (by first | rfl | ((simp only [hN]; rfl))))) | exact FinA.one (FinB.cell (FinC.ow rfl (by first | rfl | ((simp only [hN]; rfl))))) | exact FinA.one (FinB.agg' rfl rfl) | refine ⟨⟨_, rfl, ?_⟩, ?_⟩), by repeat' (first | exact trivial | refine ⟨⟨_, rfl, by first | rfl | ((simp only [hN]; rfl); done) | (simp [renO, *]; done)⟩, by first | rfl | assumption, ?_⟩), rfl⟩
  · have g2 := at_is (x := ⟨lo, hi, key, n, a, b⟩) hlt h h1
    have hp2 : xs[q] = p0 := by rw [← hp1]; congr 1
    rw [hp2] at hel hS hA g2
    rw [show decide (sameP ⟨p0.lo, p0.hi, p0.key, p0.n, p0.a, p0.b⟩ ⟨lo, hi, key, n, a, b⟩) = true from decide_eq_true g2] at hS
    have hJ := p_rJoin k p0.n p0.a p0.b n a b
    repeat' (first | ((first | apply o_do | apply d_do | apply d_yes rfl rfl rfl); first | exact ls_indexAddr_sl tab_ok rfl rfl rfl rfl (by assumption) rfl | exact lsc (hS) | exact lsc (hA) | exact lsc (hJ) | exact ls_append tab_ok rfl rfl rfl rfl (by first | exact SrcIs.sl | exact SrcIs.nil | exact SrcIs.own rfl rfl) rfl (by (try simp only [List.length_cons, List.length_nil]); omega) rfl rfl | exact lsq) | refine a_seq ?_ | refine a_region ?_ | refine o_nil ?_ | refine a_block ?_ | refine a_ret ?_ | refine a_exit ?_ | refine a_skip ?_ | refine a_draw mixed ?_ | refine d_nil (by kernel_rfl) ?_ | refine o_yes rfl rfl rfl ?_ | refine o_no rfl rfl rfl (by decide) ?_ | refine o_no' rfl rfl rfl ?_ | refine a_condT rfl ?_ | refine a_condF rfl ?_ | refine d_no rfl rfl rfl (by decide) ?_ | refine d_no' rfl rfl rfl ?_ | (refine wq2 (fun hb => ?_) (fun hb => ?_) <;> (simp only [hb]; try simp only [hbs, ne_eq] at hb; try (exfalso; first | omega | exact hb trivial))) | fail)
    all_goals refine rq rfl ?_
    all_goals exact fnq
theorem p_With (hx : rightL xs = true) :
    PC Tryz.prog 195 [.sl 6 (xs.map Pn.av), .v (.int .i64 k), .agg [.v (.int .i64 lo), .v (.int .i64 hi), .v (.string key), .v (.int .i64 n), .v (.int .i64 a), .v (.int .i64 b)]] (PR.av (putR k xs ⟨lo, hi, key, n, a, b⟩)) := by
  obtain ⟨r1, r2, r3⟩ := rightL_ok hx
  cases hI : isL xs ⟨lo, hi, key, n, a, b⟩
  · exact w_new xs k lo hi key n a b r3 r1 hI
  · obtain ⟨p, hp, _⟩ := isL_some hI
    by_cases hover : (joinP k p ⟨lo, hi, key, n, a, b⟩).n < 1
    · rw [show putR k xs ⟨lo, hi, key, n, a, b⟩ = ([], 3) by simp [putR, putL, hI, hp, hover]]
      exact w_over xs k lo hi key n a b r3 r1 p hI hp hover
    · rw [show putR k xs ⟨lo, hi, key, n, a, b⟩ = (xs.set (atL xs ⟨lo, hi, key, n, a, b⟩) (joinP k p ⟨lo, hi, key, n, a, b⟩), 0) by simp [putR, putL, hI, hp, hover]]
      exact w_join xs k lo hi key n a b r3 r1 p hI hp hover
end
end Go.Proofs.YtagfjnjpgphnjaaGreat
namespace Go.Proofs.YtagfjnjpgphnjaaGreat
open Go.RowKit
set_option linter.unusedSimpArgs false
set_option linter.unusedVariables false
/-- a pane put into a row -/
def insP (k : Int) : List Pn → Pn → List Pn
  | [], x => [x]
  | p :: l, x => if ahead p x = true then p :: insP k l x else if ahead x p = true then x :: p :: l else joinP k p x :: l
section
variable {k : Int} {l xs : List Pn} {p q x y : Pn}
theorem rel3 (p x : Pn) : ahead p x = true ∨ sameP p x ∨ ahead x p = true := by
  cases h : ahead p x
  · cases h2 : ahead x p
    · exact .inr (.inl (ahead_total h h2))
    · exact .inr (.inr rfl)
  · exact .inl rfl
theorem ins_a (h : ahead p x = true) : insP k (p :: l) x = p :: insP k l x := by simp [insP, h]
theorem ins_s (h : sameP p x) : insP k (p :: l) x = joinP k p x :: l := by simp [insP, same_ahead h, same_ahead h.symm]
theorem ins_b (h : ahead x p = true) : insP k (p :: l) x = x :: p :: l := by simp [insP, h, ahead_asymm h]
theorem joinP_same (p x : Pn) : sameP (joinP k p x) p := ⟨rfl, rfl, rfl⟩
theorem ins_new : isL xs x = false → insP k xs x = xs.take (atL xs x) ++ [x] ++ xs.drop (atL xs x) := by
  induction xs with
  | nil => intro _; rfl
  | cons p l ih =>
    intro h
    rcases rel3 p x with h1 | h1 | h1
    · rw [ins_a h1]
      have e : atL (p :: l) x = atL l x + 1 := by rw [atL_cons, if_pos h1]
      rw [e]
      have h2 : isL l x = false := by unfold isL at h ⊢; rw [e] at h; simpa using h
      rw [ih h2]
      simp
    · exfalso
      have e : atL (p :: l) x = 0 := by rw [atL_cons, if_neg (by rw [same_ahead h1]; simp)]
      unfold isL at h
      rw [e] at h
      simp [cmpP_zero.2 h1] at h
    · rw [ins_b h1]
      have e : atL (p :: l) x = 0 := by rw [atL_cons, if_neg (by rw [ahead_asymm h1]; simp)]
      rw [e]; simp
theorem ins_join : isL xs x = true → xs[atL xs x]? = some p → insP k xs x = xs.set (atL xs x) (joinP k p x) := by
  induction xs with
  | nil => intro h; simp [isL] at h
  | cons r l ih =>
    intro h hp
    rcases rel3 r x with h1 | h1 | h1
    · rw [ins_a h1]
      have e : atL (r :: l) x = atL l x + 1 := by rw [atL_cons, if_pos h1]
      rw [e] at hp ⊢
      have h2 : isL l x = true := by unfold isL at h ⊢; rw [e] at h; simpa using h
      rw [ih h2 (by simpa using hp)]
      simp
    · rw [ins_s h1]
      have e : atL (r :: l) x = 0 := by rw [atL_cons, if_neg (by rw [same_ahead h1]; simp)]
      rw [e] at hp ⊢
      simp at hp
      subst hp
      simp
    · exfalso
      have e : atL (r :: l) x = 0 := by rw [atL_cons, if_neg (by rw [ahead_asymm h1]; simp)]
      unfold isL at h
      rw [e] at h
      simp only [List.getElem?_cons_zero, decide_eq_true_eq] at h
      rw [same_ahead (cmpP_zero.1 h).symm] at h1
      cases h1
theorem putL_ins {r : List Pn} (h : putL k xs x = some r) : r = insP k xs x := by
  unfold putL at h
  cases hI : isL xs x
  · rw [hI] at h
    dsimp only at h
    split at h
    · cases h
    · injection h with h
      rw [ins_new hI, ← h]
  · obtain ⟨p, hp, _⟩ := isL_some hI
    rw [hI, hp] at h
    dsimp only at h
    split at h
    · cases h
    · injection h with h
      rw [ins_join hI hp, ← h]
theorem ins_ahead {r : Pn} (h1 : ∀ p ∈ l, ahead r p = true) (h2 : ahead r x = true) : ∀ p ∈ insP k l x, ahead r p = true := by
  induction l with
  | nil => intro p hp; simp [insP] at hp; subst hp; exact h2
  | cons q l ih =>
    have ih := ih (fun p hp => h1 p (List.mem_cons_of_mem _ hp))
    intro p hp
    rcases rel3 q x with h | h | h
    · rw [ins_a h] at hp
      rcases List.mem_cons.1 hp with rfl | hp
      · exact h1 _ List.mem_cons_self
      · exact ih p hp
    · rw [ins_s h] at hp
      rcases List.mem_cons.1 hp with rfl | hp
      · rw [sameP.right (joinP_same q x)]; exact h1 _ List.mem_cons_self
      · exact h1 _ (List.mem_cons_of_mem _ hp)
    · rw [ins_b h] at hp
      rcases List.mem_cons.1 hp with rfl | hp
      · exact h2
      · exact h1 _ hp
theorem ins_sorted (h : l.Pairwise (fun p q => ahead p q = true)) : (insP k l x).Pairwise (fun p q => ahead p q = true) := by
  induction l with
  | nil => simp [insP]
  | cons q l ih =>
    rw [List.pairwise_cons] at h
    rcases rel3 q x with h1 | h1 | h1
    · rw [ins_a h1, List.pairwise_cons]
      exact ⟨ins_ahead h.1 h1, ih h.2⟩
    · rw [ins_s h1, List.pairwise_cons]
      exact ⟨fun p hp => by rw [sameP.left (joinP_same q x)]; exact h.1 p hp, h.2⟩
    · rw [ins_b h1, List.pairwise_cons, List.pairwise_cons]
      refine ⟨fun p hp => ?_, h⟩
      rcases List.mem_cons.1 hp with rfl | hp
      · exact h1
      · exact ahead_trans h1 (h.1 p hp)
theorem ins_mem : ∀ q ∈ insP k l x, q ∈ l ∨ q = x ∨ ∃ p ∈ l, q = joinP k p x ∧ isL l x = true ∧ l[atL l x]? = some p := by
  induction l with
  | nil => intro q hq; simp [insP] at hq; exact .inr (.inl hq)
  | cons p l ih =>
    intro q hq
    rcases rel3 p x with h | h | h
    · rw [ins_a h] at hq
      have e : atL (p :: l) x = atL l x + 1 := by rw [atL_cons, if_pos h]
      rcases List.mem_cons.1 hq with rfl | hq
      · exact .inl List.mem_cons_self
      · rcases ih q hq with h1 | h1 | ⟨r, h1, h2, h3, h4⟩
        · exact .inl (List.mem_cons_of_mem _ h1)
        · exact .inr (.inl h1)
        · refine .inr (.inr ⟨r, List.mem_cons_of_mem _ h1, h2, ?_, ?_⟩)
          · unfold isL at h3 ⊢; rw [e]; simpa using h3
          · rw [e]; simpa using h4
    · rw [ins_s h] at hq
      have e : atL (p :: l) x = 0 := by rw [atL_cons, if_neg (by rw [same_ahead h]; simp)]
      rcases List.mem_cons.1 hq with rfl | hq
      · refine .inr (.inr ⟨p, List.mem_cons_self, rfl, ?_, ?_⟩)
        · unfold isL; rw [e]; simp [cmpP_zero.2 h]
        · rw [e]; simp
      · exact .inl (List.mem_cons_of_mem _ hq)
    · rw [ins_b h] at hq
      rcases List.mem_cons.1 hq with rfl | hq
      · exact .inr (.inl rfl)
      · exact .inl hq
theorem putL_len {r : List Pn} (h : putL k xs x = some r) (hx : xs.length ≤ 2000) : r.length ≤ 2000 := by
  unfold putL at h
  cases hI : isL xs x
  · rw [hI] at h
    dsimp only at h
    split at h
    · cases h
    · injection h with h
      rw [← h]
      have := atL_le xs x
      simp only [List.length_append, List.length_take, List.length_drop, List.length_cons, List.length_nil]
      omega
  · obtain ⟨p, hp, _⟩ := isL_some hI
    rw [hI, hp] at h
    dsimp only at h
    split at h
    · cases h
    · injection h with h
      rw [← h, List.length_set]; exact hx
theorem putL_join {r : List Pn} (h : putL k xs x = some r) (hI : isL xs x = true) (hp : xs[atL xs x]? = some p) : 1 ≤ (joinP k p x).n := by
  unfold putL at h
  rw [hI, hp] at h
  dsimp only at h
  split at h
  · cases h
  · omega
theorem may_join (h1 : mayB p = true) (h2 : 1 ≤ (joinP k p x).n) : mayB (joinP k p x) = true := by
  simp only [mayB, Bool.and_eq_true, decide_eq_true_eq] at h1 ⊢
  exact ⟨h1.1, h2⟩
theorem putL_right {r : List Pn} (h : putL k xs x = some r) (hx : rightL xs = true) (hm : mayB x = true) : rightL r = true := by
  obtain ⟨r1, r2, r3⟩ := rightL_ok hx
  have e := putL_ins h
  have hl := putL_len h r1
  refine rightL_mk hl ?_ ?_
  · intro q hq
    rw [e] at hq
    rcases ins_mem q hq with h1 | h1 | ⟨p, h1, h2, h3, h4⟩
    · exact r2 q h1
    · rw [h1]; exact hm
    · rw [h2]; exact may_join (r2 p h1) (putL_join h h3 h4)
  · rw [e]; exact ins_sorted r3
end
section
variable {k : Int} {l xs : List Pn} {p q x y : Pn}
end
end Go.Proofs.YtagfjnjpgphnjaaGreat
namespace Go.Proofs.YtagfjnjpgphnjaaGreat
open Go.RowKit
set_option linter.unusedSimpArgs false
set_option linter.unusedVariables false
theorem putR_le {k : Int} {xs : List Pn} {x : Pn} (h : rightL xs = true) : (putR k xs x).1.length ≤ 2000 := by
  unfold putR
  split
  · rename_i l h1
    exact putL_len h1 (rightL_ok h).1
  · simp
theorem addR_le (k : Int) (xs : List Pn) (x : Pn) : (addR k xs x).1.length ≤ 2000 := by
  unfold addR
  split
  · rename_i h
    simp only [Bool.and_eq_true] at h
    exact putR_le h.1.1
  · simp
end Go.Proofs.YtagfjnjpgphnjaaGreat
namespace Go.Proofs.YtagfjnjpgphnjaaGreat
open Go.RowKit
set_option linter.unusedSimpArgs false
set_option linter.unusedVariables false
structure AdvR where
  no : Int
  mark : Int
  ps : List Pn
  rs : List Rs
  e : Int
def adv (s d k no mark : Int) (ps : List Pn) (m : Int) : AdvR :=
  if jobR s d k = false then ⟨0, 0, [], [], 130⟩
  else if grR no mark ps = false then ⟨0, 0, [], [], 1⟩
  else if m ≤ mark then ⟨no, mark, ps, [], 0⟩
  else ⟨no, min m 1099511627776, dueRB ps (min m 1099511627776), resultsL k (dueRA ps (min m 1099511627776)), 0⟩
def AdvR.av (r : AdvR) : AV := .tup [.agg [.v (.int .i64 r.no), .v (.int .i64 r.mark), .sl 6 (r.ps.map Pn.av)], .sl 5 (r.rs.map Rs.av), .v (.int .i64 r.e)]
end Go.Proofs.YtagfjnjpgphnjaaGreat
namespace Go.Proofs.YtagfjnjpgphnjaaGreat
open Go.RowKit
set_option linter.unusedSimpArgs false
set_option linter.unusedVariables false
def evR (key : ByteArray) (at' : Int) : Bool := keyB key && (decide (0 ≤ at') && decide (at' < 1099511627776))
theorem p_ikey (k : ByteArray) : PC Tryz.prog 133 [.v (.string k)] (.v (.bool (keyB k))) := by
  refine PC.mk (ac_body tab_ok Tryz.func133 rfl (by kernel_rfl) rfl ?_); intro w0 M μ0; simp only [Tryz.ntmps133, List.length_cons, List.length_nil, Nat.reduceAdd, Nat.reduceSub, numb]
  repeat' (first | ((first | apply o_do | apply d_do | apply d_yes rfl rfl rfl); exact lsq) | refine a_seq ?_ | refine a_region ?_ | refine o_nil ?_ | refine a_block ?_ | refine a_ret ?_ | refine a_exit ?_ | refine a_skip ?_ | refine a_draw mixed ?_ | refine d_nil (by kernel_rfl) ?_ | refine o_yes rfl rfl rfl ?_ | refine o_no rfl rfl rfl (by decide) ?_ | refine o_no' rfl rfl rfl ?_ | refine a_condT rfl ?_ | refine a_condF rfl ?_ | refine d_no rfl rfl rfl (by decide) ?_ | refine d_no' rfl rfl rfl ?_ | (refine wq2 (fun hb => ?_) (fun hb => ?_) <;> (simp only [hb]; try simp only [hbs, ne_eq] at hb; try (exfalso; first | omega | exact hb trivial))) | fail)
  all_goals refine rq rfl ?_
  all_goals (first | refine FinA.tup ?_ | refine FinA.one ?_); repeat' (first | exact FinBs.nil | exact FinCs.nil | refine FinBs.cons ?_ ?_ | refine FinCs.cons ?_ ?_ | refine FinB.cell (FinC.v ?_) | refine FinB.cell (FinC.own rfl rfl rfl ?_) | exact FinB.cell FinC.nil | refine FinB.cell (FinC.sl ?_) | exact FinB.agg' rfl rfl | exact FinB.cell (FinC.same rfl) | refine FinB.agg ?_ | refine FinC.v ?_ | refine FinC.own rfl rfl rfl ?_ | exact FinC.nil | refine FinC.sl ?_ | exact FinC.same rfl); all_goals try rfl
  all_goals simp only [bytes_nil', decide_eq_true_eq, decide_eq_false_iff_not] at *
  all_goals simp [keyB_int, *]
  all_goals try omega
theorem p_Event (key : ByteArray) (at' v : Int) : PC Tryz.prog 87 [.agg [.v (.string key), .v (.int .i64 at'), .v (.int .i64 v)]] (.v (.bool (evR key at'))) := by
  have h := p_ikey key
  unfold evR
  cases hk : keyB key
  · rw [hk] at h
    refine PC.mk (ac_body tab_ok Tryz.func87 rfl (by kernel_rfl) rfl ?_); intro w0 M μ0; simp only [Tryz.ntmps87, List.length_cons, List.length_nil, Nat.reduceAdd, Nat.reduceSub, numb]
    repeat' (first | ((first | apply o_do | apply d_do | apply d_yes rfl rfl rfl); first | exact lsc (h) | exact lsq) | refine a_seq ?_ | refine a_region ?_ | refine o_nil ?_ | refine a_block ?_ | refine a_ret ?_ | refine a_exit ?_ | refine a_skip ?_ | refine a_draw mixed ?_ | refine d_nil (by kernel_rfl) ?_ | refine o_yes rfl rfl rfl ?_ | refine o_no rfl rfl rfl (by decide) ?_ | refine o_no' rfl rfl rfl ?_ | refine a_condT rfl ?_ | refine a_condF rfl ?_ | refine d_no rfl rfl rfl (by decide) ?_ | refine d_no' rfl rfl rfl ?_ | (refine wq2 (fun hb => ?_) (fun hb => ?_) <;> (simp only [hb]; try simp only [hbs, ne_eq] at hb; try (exfalso; first | omega | exact hb trivial))) | fail)
    all_goals refine rq rfl ?_
    all_goals exact fnq
  · rw [hk] at h
    refine PC.mk (ac_body tab_ok Tryz.func87 rfl (by kernel_rfl) rfl ?_); intro w0 M μ0; simp only [Tryz.ntmps87, List.length_cons, List.length_nil, Nat.reduceAdd, Nat.reduceSub, numb]
    repeat' (first | ((first | apply o_do | apply d_do | apply d_yes rfl rfl rfl); first | exact lsc (h) | exact lsq) | refine a_seq ?_ | refine a_region ?_ | refine o_nil ?_ | refine a_block ?_ | refine a_ret ?_ | refine a_exit ?_ | refine a_skip ?_ | refine a_draw mixed ?_ | refine d_nil (by kernel_rfl) ?_ | refine o_yes rfl rfl rfl ?_ | refine o_no rfl rfl rfl (by decide) ?_ | refine o_no' rfl rfl rfl ?_ | refine a_condT rfl ?_ | refine a_condF rfl ?_ | refine d_no rfl rfl rfl (by decide) ?_ | refine d_no' rfl rfl rfl ?_ | (refine wq2 (fun hb => ?_) (fun hb => ?_) <;> (simp only [hb]; try simp only [hbs, ne_eq] at hb; try (exfalso; first | omega | exact hb trivial))) | fail)
    all_goals refine rq rfl ?_
    all_goals (first | refine FinA.tup ?_ | refine FinA.one ?_); repeat' (first | exact FinBs.nil | exact FinCs.nil | refine FinBs.cons ?_ ?_ | refine FinCs.cons ?_ ?_ | refine FinB.cell (FinC.v ?_) | refine FinB.cell (FinC.own rfl rfl rfl ?_) | exact FinB.cell FinC.nil | refine FinB.cell (FinC.sl ?_) | exact FinB.agg' rfl rfl | exact FinB.cell (FinC.same rfl) | refine FinB.agg ?_ | refine FinC.v ?_ | refine FinC.own rfl rfl rfl ?_ | exact FinC.nil | refine FinC.sl ?_ | exact FinC.same rfl); all_goals try rfl
    all_goals simp [*]
theorem p_rEvent (key : ByteArray) (at' v : Int) : PC Tryz.prog 111 [.agg [.v (.string key), .v (.int .i64 at'), .v (.int .i64 v)]] (.v (.bool (evR key at'))) := by
  have h := p_Key key
  unfold evR
  cases hk : keyB key
  · rw [hk] at h
    refine PC.mk (ac_body tab_ok Tryz.func111 rfl (by kernel_rfl) rfl ?_); intro w0 M μ0; simp only [Tryz.ntmps111, List.length_cons, List.length_nil, Nat.reduceAdd, Nat.reduceSub, numb]
    repeat' (first | ((first | apply o_do | apply d_do | apply d_yes rfl rfl rfl); first | exact lsc (h) | exact lsq) | refine a_seq ?_ | refine a_region ?_ | refine o_nil ?_ | refine a_block ?_ | refine a_ret ?_ | refine a_exit ?_ | refine a_skip ?_ | refine a_draw mixed ?_ | refine d_nil (by kernel_rfl) ?_ | refine o_yes rfl rfl rfl ?_ | refine o_no rfl rfl rfl (by decide) ?_ | refine o_no' rfl rfl rfl ?_ | refine a_condT rfl ?_ | refine a_condF rfl ?_ | refine d_no rfl rfl rfl (by decide) ?_ | refine d_no' rfl rfl rfl ?_ | (refine wq2 (fun hb => ?_) (fun hb => ?_) <;> (simp only [hb]; try simp only [hbs, ne_eq] at hb; try (exfalso; first | omega | exact hb trivial))) | fail)
    all_goals refine rq rfl ?_
    all_goals exact fnq
  · rw [hk] at h
    refine PC.mk (ac_body tab_ok Tryz.func111 rfl (by kernel_rfl) rfl ?_); intro w0 M μ0; simp only [Tryz.ntmps111, List.length_cons, List.length_nil, Nat.reduceAdd, Nat.reduceSub, numb]
    repeat' (first | ((first | apply o_do | apply d_do | apply d_yes rfl rfl rfl); first | exact lsc (h) | exact lsq) | refine a_seq ?_ | refine a_region ?_ | refine o_nil ?_ | refine a_block ?_ | refine a_ret ?_ | refine a_exit ?_ | refine a_skip ?_ | refine a_draw mixed ?_ | refine d_nil (by kernel_rfl) ?_ | refine o_yes rfl rfl rfl ?_ | refine o_no rfl rfl rfl (by decide) ?_ | refine o_no' rfl rfl rfl ?_ | refine a_condT rfl ?_ | refine a_condF rfl ?_ | refine d_no rfl rfl rfl (by decide) ?_ | refine d_no' rfl rfl rfl ?_ | (refine wq2 (fun hb => ?_) (fun hb => ?_) <;> (simp only [hb]; try simp only [hbs, ne_eq] at hb; try (exfalso; first | omega | exact hb trivial))) | fail)
    all_goals refine rq rfl ?_
    all_goals (first | refine FinA.tup ?_ | refine FinA.one ?_); repeat' (first | exact FinBs.nil | exact FinCs.nil | refine FinBs.cons ?_ ?_ | refine FinCs.cons ?_ ?_ | refine FinB.cell (FinC.v ?_) | refine FinB.cell (FinC.own rfl rfl rfl ?_) | exact FinB.cell FinC.nil | refine FinB.cell (FinC.sl ?_) | exact FinB.agg' rfl rfl | exact FinB.cell (FinC.same rfl) | refine FinB.agg ?_ | refine FinC.v ?_ | refine FinC.own rfl rfl rfl ?_ | exact FinC.nil | refine FinC.sl ?_ | exact FinC.same rfl); all_goals try rfl
    all_goals simp [*]
/-- a value put into windows, one behind the other -/
def takeW (k : Int) (key : ByteArray) (v : Int) : List Pn → List Wn → List Pn × Int
  | ps, [] => (ps, 0)
  | ps, w :: ws => if (addR k ps (oneP k w.lo w.hi key v)).2 = 0 then takeW k key v (addR k ps (oneP k w.lo w.hi key v)).1 ws else ([], (addR k ps (oneP k w.lo w.hi key v)).2)
structure TkR where
  no : Int
  mark : Int
  ps : List Pn
  n : Int
  e : Int
def TkR.av (r : TkR) : AV := .tup [.agg [.v (.int .i64 r.no), .v (.int .i64 r.mark), .sl 6 (r.ps.map Pn.av)], .v (.int .i64 r.n), .v (.int .i64 r.e)]
def takeR (s d k no mark : Int) (ps : List Pn) (key : ByteArray) (at' v : Int) : TkR :=
  if jobR s d k = false then ⟨0, 0, [], 0, 130⟩
  else if (grR no mark ps && evR key at') = false then ⟨0, 0, [], 0, 1⟩
  else if (takeW k key v ps (openL s d at' mark)).2 = 0 then ⟨no, mark, (takeW k key v ps (openL s d at' mark)).1, (openL s d at' mark).length, 0⟩
  else ⟨0, 0, [], 0, (takeW k key v ps (openL s d at' mark)).2⟩
theorem addR_form (k : Int) (xs : List Pn) (x : Pn) : (∃ l, addR k xs x = (l, 0) ∧ l.length ≤ 2000) ∨ (∃ e, addR k xs x = ([], e) ∧ e ≠ 0) := by
  have h := addR_le k xs x
  unfold addR at *
  split
  · rename_i hc
    rw [if_pos hc] at h
    unfold putR at *
    cases hp : putL k xs x with
    | none => right; exact ⟨3, rfl, by omega⟩
    | some l => rw [hp] at h; exact .inl ⟨l, rfl, h⟩
  · exact .inr ⟨1, rfl, by omega⟩
section
variable (g s d k fu li de id no mark : Int) (ps : List Pn) (key : ByteArray) (at' v : Int)
end
end Go.Proofs.YtagfjnjpgphnjaaGreat
namespace Go.Proofs.YtagfjnjpgphnjaaGreat
open Go.RowKit
set_option linter.unusedSimpArgs false
set_option linter.unusedVariables false
section
variable (g s d k fu li de id no mark : Int) (ps : List Pn) (key : ByteArray) (at' v : Int)
end
end Go.Proofs.YtagfjnjpgphnjaaGreat
