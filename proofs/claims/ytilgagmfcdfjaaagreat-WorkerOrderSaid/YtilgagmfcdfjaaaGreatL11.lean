/-
  Items, walked over abstract values: which may be.
  Workers: what the parts of one are; which may be. Plain.
  Walks over abstract values: rows that are made with their zero elements. Over whatever program. No condition.
  Marks, walked over abstract values: which may be.
-/
import Derived.Laws.OwnMore
import Derived.Test.YtilgagmfcdfjaaaGreatL3
import Derived.Test.YtilgagmfcdfjaaaGreatL4
import Derived.Test.YtilgagmfcdfjaaaGreatL8
import Derived.Test.YtilgagmfcdfjaaaGreatL9
namespace Go.Proofs.YtilgagmfcdfjaaaGreat
open Go.RowKit
set_option linter.unusedSimpArgs false
set_option linter.unusedVariables false
structure It where
  kind : Int
  key : ByteArray
  at' : Int
  val : Int
  mark : Int
  n : Int
  lo : Int
  hi : Int
  rkey : ByteArray
  rn : Int
  rval : Int
deriving DecidableEq
def It.vals (x : It) : List Value := [.int .i64 x.kind, .string x.key, .int .i64 x.at', .int .i64 x.val, .int .i64 x.mark, .int .i64 x.n, .int .i64 x.lo, .int .i64 x.hi, .string x.rkey, .int .i64 x.rn, .int .i64 x.rval]
def It.av (x : It) : List AV := [.v (.int .i64 x.kind), .v (.string x.key), .v (.int .i64 x.at'), .v (.int .i64 x.val), .v (.int .i64 x.mark), .v (.int .i64 x.n), .v (.int .i64 x.lo), .v (.int .i64 x.hi), .v (.string x.rkey), .v (.int .i64 x.rn), .v (.int .i64 x.rval)]
def noE (k : ByteArray) (a v : Int) : Bool := decide (k = .empty) && (decide (a = 0) && decide (v = 0))
def noR (lo hi : Int) (k : ByteArray) (n v : Int) : Bool := decide (lo = 0) && (decide (hi = 0) && (decide (k = .empty) && (decide (n = 0) && decide (v = 0))))
def resR (lo hi : Int) (k : ByteArray) (n : Int) : Bool := keyB k && (decide (0 ≤ lo) && (decide (lo < hi) && (decide (hi ≤ 1099511627776) && (decide (1 ≤ n) && decide (n ≤ 1073741824)))))
/-- may an item be? -/
def itR (x : It) : Bool := match x with
  | ⟨kind, k, a, v, m, n, lo, hi, rk, rn, rv⟩ =>
    if kind = 1 then decide (m = 0) && (decide (n = 0) && (noR lo hi rk rn rv && evR k a))
    else if kind = 2 then noE k a v && (decide (n = 0) && (noR lo hi rk rn rv && (decide (0 ≤ m) && decide (m ≤ 1099511627776))))
    else if kind = 3 then noE k a v && (decide (m = 0) && (decide (n = 0) && noR lo hi rk rn rv))
    else if kind = 4 then noE k a v && (decide (m = 0) && (noR lo hi rk rn rv && (decide (1 ≤ n) && decide (n ≤ 1073741824))))
    else if kind = 5 then noE k a v && (decide (m = 0) && (decide (n = 0) && resR lo hi rk rn))
    else false
theorem p_iresult (lo hi : Int) (k : ByteArray) (n v : Int) : PC Tryz.prog 127 [.agg [.v (.int .i64 lo), .v (.int .i64 hi), .v (.string k), .v (.int .i64 n), .v (.int .i64 v)]] (.v (.bool (resR lo hi k n))) := by
  have h := p_ikey k
  unfold resR
  cases hk : keyB k
  all_goals
    rw [hk] at h
    refine PC.mk (ac_body tab_ok Tryz.func127 rfl (by kernel_rfl) rfl ?_); intro w0 M μ0; simp only [Tryz.ntmps127, List.length_cons, List.length_nil, Nat.reduceAdd, Nat.reduceSub, numb]
    repeat' (first | ((first | apply o_do | apply d_do | apply d_yes rfl rfl rfl); first | exact lsc (h) | exact lsq) | refine a_seq ?_ | refine a_region ?_ | refine o_nil ?_ | refine a_block ?_ | refine a_ret ?_ | refine a_exit ?_ | refine a_skip ?_ | refine a_draw mixed ?_ | refine d_nil (by kernel_rfl) ?_ | refine o_yes rfl rfl rfl ?_ | refine o_no rfl rfl rfl (by decide) ?_ | refine o_no' rfl rfl rfl ?_ | refine a_condT rfl ?_ | refine a_condF rfl ?_ | refine d_no rfl rfl rfl (by decide) ?_ | refine d_no' rfl rfl rfl ?_ | (refine wq2 (fun hb => ?_) (fun hb => ?_) <;> (simp only [hb]; try simp only [hbs, ne_eq] at hb; try (exfalso; first | omega | exact hb trivial))) | fail)
    all_goals refine rq rfl ?_
    all_goals (first | refine FinA.tup ?_ | refine FinA.one ?_); repeat' (first | exact FinBs.nil | exact FinCs.nil | refine FinBs.cons ?_ ?_ | refine FinCs.cons ?_ ?_ | refine FinB.cell (FinC.v ?_) | refine FinB.cell (FinC.own rfl rfl rfl ?_) | exact FinB.cell FinC.nil | refine FinB.cell (FinC.sl ?_) | exact FinB.agg' rfl rfl | exact FinB.cell (FinC.same rfl) | refine FinB.agg ?_ | refine FinC.v ?_ | refine FinC.own rfl rfl rfl ?_ | exact FinC.nil | refine FinC.sl ?_ | exact FinC.same rfl); all_goals try rfl
    all_goals simp [*]
theorem bytes_same {a b : ByteArray} : a.toList = b.toList ↔ a = b := by
  rw [ByteArray.toList_eq, ByteArray.toList_eq]
  exact ⟨fun h => ByteArray.ext (Array.toList_inj.1 h), fun h => by rw [h]⟩
set_option maxHeartbeats 4000000 in
theorem run_eql_It (x y : Operand) (p q : It) (w : World) : (do eqGuard .eql 63 x y (.agg p.vals.toArray) (.agg q.vals.toArray); binOp .eql 63 (.agg p.vals.toArray) (.agg q.vals.toArray) : Sem Value).run Tryz.prog w = .ok (.bool (decide (p = q))) w := by
  obtain ⟨a1, a2, a3, a4, a5, a6, a7, a8, a9, a10, a11⟩ := p
  obtain ⟨b1, b2, b3, b4, b5, b6, b7, b8, b9, b10, b11⟩ := q
  unfold It.vals
  simp only [It.mk.injEq]
  by_cases h1 : a1 = b1
  · by_cases h2 : a2 = b2
    · by_cases h3 : a3 = b3
      · by_cases h4 : a4 = b4
        · by_cases h5 : a5 = b5
          · by_cases h6 : a6 = b6
            · by_cases h7 : a7 = b7
              · by_cases h8 : a8 = b8
                · by_cases h9 : a9 = b9
                  · by_cases h10 : a10 = b10
                    · by_cases h11 : a11 = b11
                      · subst h1 h2 h3 h4 h5 h6 h7 h8 h9 h10 h11; go_simp
                      · subst h1 h2 h3 h4 h5 h6 h7 h8 h9 h10; go_simp; first | done | simp [h11]
                    · subst h1 h2 h3 h4 h5 h6 h7 h8 h9; go_simp; first | done | simp [h10]
                  · subst h1 h2 h3 h4 h5 h6 h7 h8; go_simp; first | done | simp [h9, bytes_same] | (intro h'; exact h9 (bytes_same.1 h'))
                · subst h1 h2 h3 h4 h5 h6 h7; go_simp; first | done | simp [h8]
              · subst h1 h2 h3 h4 h5 h6; go_simp; first | done | simp [h7]
            · subst h1 h2 h3 h4 h5; go_simp; first | done | simp [h6]
          · subst h1 h2 h3 h4; go_simp; first | done | simp [h5]
        · subst h1 h2 h3; go_simp; first | done | simp [h4]
      · subst h1 h2; go_simp; first | done | simp [h3]
    · subst h1; go_simp; first | done | simp [h2, bytes_same] | (intro h'; exact h2 (bytes_same.1 h'))
  · go_simp; first | done | simp [h1]
/-- the fields of its kind alone -/
def bareIt (x : It) : It := match x with
  | ⟨kind, k, a, v, m, n, lo, hi, rk, rn, rv⟩ =>
    if kind = 1 then ⟨kind, k, a, v, 0, 0, 0, 0, .empty, 0, 0⟩
    else if kind = 2 then ⟨kind, .empty, 0, 0, m, 0, 0, 0, .empty, 0, 0⟩
    else if kind = 4 then ⟨kind, .empty, 0, 0, 0, n, 0, 0, .empty, 0, 0⟩
    else if kind = 5 then ⟨kind, .empty, 0, 0, 0, 0, lo, hi, rk, rn, rv⟩
    else ⟨kind, .empty, 0, 0, 0, 0, 0, 0, .empty, 0, 0⟩
def bareOk (x : It) : Bool := match x with
  | ⟨kind, k, a, v, m, n, lo, hi, rk, rn, rv⟩ =>
    if kind = 1 then evR k a
    else if kind = 2 then decide (0 ≤ m) && decide (m ≤ 1099511627776)
    else if kind = 3 then true
    else if kind = 4 then decide (1 ≤ n) && decide (n ≤ 1073741824)
    else if kind = 5 then resR lo hi rk rn
    else false
theorem itR_bare (x : It) : itR x = (bareOk x && decide (bareIt x = x)) := by
  obtain ⟨kind, k, a, v, m, n, lo, hi, rk, rn, rv⟩ := x
  simp only [itR, bareOk, bareIt]
  split
  · subst kind
    simp only [It.mk.injEq, noR]
    rw [Bool.eq_iff_iff]
    simp only [Bool.and_eq_true, decide_eq_true_eq]
    constructor
    · rintro ⟨h1, h2, ⟨h3, h4, h5, h6, h7⟩, h8⟩; simp [*]
    · rintro ⟨h1, _, _, _, _, h2, h3, h4, h5, h6, h7, h8⟩; exact ⟨h2.symm, h3.symm, ⟨h4.symm, h5.symm, h6.symm, h7.symm, h8.symm⟩, h1⟩
  split
  · subst kind
    simp only [It.mk.injEq, noR, noE]
    rw [Bool.eq_iff_iff]
    simp only [Bool.and_eq_true, decide_eq_true_eq]
    constructor
    · rintro ⟨⟨h1, h2, h2'⟩, h3, ⟨h4, h5, h6, h7, h8⟩, h9, h10⟩; simp [*]
    · rintro ⟨⟨h9, h10⟩, _, h1, h2, h2', _, h3, h4, h5, h6, h7, h8⟩; exact ⟨⟨h1.symm, h2.symm, h2'.symm⟩, h3.symm, ⟨h4.symm, h5.symm, h6.symm, h7.symm, h8.symm⟩, h9, h10⟩
  split
  · subst kind
    simp only [It.mk.injEq, noR, noE]
    rw [Bool.eq_iff_iff]
    simp only [Bool.and_eq_true, decide_eq_true_eq]
    simp only [show ¬ (3 : Int) = 4 by decide, show ¬ (3 : Int) = 5 by decide, if_false, It.mk.injEq, true_and]
    constructor
    · rintro ⟨⟨h1, h2, h2'⟩, h3, h4, h5, h6, h7, h8, h9⟩; simp [*]
    · rintro ⟨h1, h2, h2', h3, h4, h5, h6, h7, h8, h9⟩; exact ⟨⟨h1.symm, h2.symm, h2'.symm⟩, h3.symm, h4.symm, h5.symm, h6.symm, h7.symm, h8.symm, h9.symm⟩
  split
  · subst kind
    simp only [It.mk.injEq, noR, noE]
    rw [Bool.eq_iff_iff]
    simp only [Bool.and_eq_true, decide_eq_true_eq]
    constructor
    · rintro ⟨⟨h1, h2, h2'⟩, h3, ⟨h4, h5, h6, h7, h8⟩, h9, h10⟩; simp [*]
    · rintro ⟨⟨h9, h10⟩, _, h1, h2, h2', h3, _, h4, h5, h6, h7, h8⟩; exact ⟨⟨h1.symm, h2.symm, h2'.symm⟩, h3.symm, ⟨h4.symm, h5.symm, h6.symm, h7.symm, h8.symm⟩, h9, h10⟩
  split
  · subst kind
    simp only [It.mk.injEq, noR, noE]
    rw [Bool.eq_iff_iff]
    simp only [Bool.and_eq_true, decide_eq_true_eq]
    constructor
    · rintro ⟨⟨h1, h2, h2'⟩, h3, h4, h5⟩; simp [*]
    · rintro ⟨h5, _, h1, h2, h2', h3, h4, _⟩; exact ⟨⟨h1.symm, h2.symm, h2'.symm⟩, h3.symm, h4.symm, h5⟩
  · simp
def iTup (b : It) (o : Bool) : AV := .tup [.agg b.av, .v (.bool o)]
set_option maxHeartbeats 2000000 in
theorem i_bare (x : It) : PC Tryz.prog 96 [.agg x.av] (iTup (bareIt x) (bareOk x)) := by
  obtain ⟨kind, k, a, v, m, n, lo, hi, rk, rn, rv⟩ := x
  have h1 := p_Event k a v
  have h2 := p_iresult lo hi rk rn rv
  simp only [bareIt, bareOk, iTup, It.av]
  by_cases k1 : kind = 1
  · subst k1
    simp only [if_true]
    refine PC.mk (ac_body tab_ok Tryz.func96 rfl (by kernel_rfl) rfl ?_); intro w0 M μ0; simp only [Tryz.ntmps96, List.length_cons, List.length_nil, Nat.reduceAdd, Nat.reduceSub, numb]
    repeat' (first | ((first | apply o_do | apply d_do | apply d_yes rfl rfl rfl); first | exact lsc (h1) | exact lsq) | refine a_seq ?_ | refine a_region ?_ | refine o_nil ?_ | refine a_block ?_ | refine a_ret ?_ | refine a_exit ?_ | refine a_skip ?_ | refine a_draw mixed ?_ | refine d_nil (by kernel_rfl) ?_ | refine o_yes rfl rfl rfl ?_ | refine o_no rfl rfl rfl (by decide) ?_ | refine o_no' rfl rfl rfl ?_ | refine a_condT rfl ?_ | refine a_condF rfl ?_ | refine d_no rfl rfl rfl (by decide) ?_ | refine d_no' rfl rfl rfl ?_ | (refine wq2 (fun hb => ?_) (fun hb => ?_) <;> (simp only [hb]; try simp only [hbs, ne_eq] at hb; try (exfalso; first | omega | exact hb trivial))) | fail)
    all_goals refine rq rfl ?_
    all_goals exact fnq
  by_cases k2 : kind = 2
  · subst k2
    simp only [show ¬ (2 : Int) = 1 by decide, if_true, if_false]
    refine PC.mk (ac_body tab_ok Tryz.func96 rfl (by kernel_rfl) rfl ?_); intro w0 M μ0; simp only [Tryz.ntmps96, List.length_cons, List.length_nil, Nat.reduceAdd, Nat.reduceSub, numb]
    repeat' (first | ((first | apply o_do | apply d_do | apply d_yes rfl rfl rfl); exact lsq) | refine a_seq ?_ | refine a_region ?_ | refine o_nil ?_ | refine a_block ?_ | refine a_ret ?_ | refine a_exit ?_ | refine a_skip ?_ | refine a_draw mixed ?_ | refine d_nil (by kernel_rfl) ?_ | refine o_yes rfl rfl rfl ?_ | refine o_no rfl rfl rfl (by decide) ?_ | refine o_no' rfl rfl rfl ?_ | refine a_condT rfl ?_ | refine a_condF rfl ?_ | refine d_no rfl rfl rfl (by decide) ?_ | refine d_no' rfl rfl rfl ?_ | (refine wq2 (fun hb => ?_) (fun hb => ?_) <;> (simp only [hb]; try simp only [hbs, ne_eq] at hb; try (exfalso; first | omega | exact hb trivial))) | fail)
    all_goals refine rq rfl ?_
    all_goals (first | refine FinA.tup ?_ | refine FinA.one ?_); repeat' (first | exact FinBs.nil | exact FinCs.nil | refine FinBs.cons ?_ ?_ | refine FinCs.cons ?_ ?_ | refine FinB.cell (FinC.v ?_) | refine FinB.cell (FinC.own rfl rfl rfl ?_) | exact FinB.cell FinC.nil | refine FinB.cell (FinC.sl ?_) | exact FinB.agg' rfl rfl | exact FinB.cell (FinC.same rfl) | refine FinB.agg ?_ | refine FinC.v ?_ | refine FinC.own rfl rfl rfl ?_ | exact FinC.nil | refine FinC.sl ?_ | exact FinC.same rfl); all_goals try rfl
    all_goals simp [*]
  by_cases k3 : kind = 3
  · subst k3
    simp only [show ¬ (3 : Int) = 1 by decide, show ¬ (3 : Int) = 2 by decide, show ¬ (3 : Int) = 4 by decide, show ¬ (3 : Int) = 5 by decide, if_true, if_false]
    refine PC.mk (ac_body tab_ok Tryz.func96 rfl (by kernel_rfl) rfl ?_); intro w0 M μ0; simp only [Tryz.ntmps96, List.length_cons, List.length_nil, Nat.reduceAdd, Nat.reduceSub, numb]
    repeat' (first | ((first | apply o_do | apply d_do | apply d_yes rfl rfl rfl); exact lsq) | refine a_seq ?_ | refine a_region ?_ | refine o_nil ?_ | refine a_block ?_ | refine a_ret ?_ | refine a_exit ?_ | refine a_skip ?_ | refine a_draw mixed ?_ | refine d_nil (by kernel_rfl) ?_ | refine o_yes rfl rfl rfl ?_ | refine o_no rfl rfl rfl (by decide) ?_ | refine o_no' rfl rfl rfl ?_ | refine a_condT rfl ?_ | refine a_condF rfl ?_ | refine d_no rfl rfl rfl (by decide) ?_ | refine d_no' rfl rfl rfl ?_ | (refine wq2 (fun hb => ?_) (fun hb => ?_) <;> (simp only [hb]; try simp only [hbs, ne_eq] at hb; try (exfalso; first | omega | exact hb trivial))) | fail)
    all_goals refine rq rfl ?_
    all_goals exact fnq
  by_cases k4 : kind = 4
  · subst k4
    simp only [show ¬ (4 : Int) = 1 by decide, show ¬ (4 : Int) = 2 by decide, show ¬ (4 : Int) = 3 by decide, if_true, if_false]
    refine PC.mk (ac_body tab_ok Tryz.func96 rfl (by kernel_rfl) rfl ?_); intro w0 M μ0; simp only [Tryz.ntmps96, List.length_cons, List.length_nil, Nat.reduceAdd, Nat.reduceSub, numb]
    repeat' (first | ((first | apply o_do | apply d_do | apply d_yes rfl rfl rfl); exact lsq) | refine a_seq ?_ | refine a_region ?_ | refine o_nil ?_ | refine a_block ?_ | refine a_ret ?_ | refine a_exit ?_ | refine a_skip ?_ | refine a_draw mixed ?_ | refine d_nil (by kernel_rfl) ?_ | refine o_yes rfl rfl rfl ?_ | refine o_no rfl rfl rfl (by decide) ?_ | refine o_no' rfl rfl rfl ?_ | refine a_condT rfl ?_ | refine a_condF rfl ?_ | refine d_no rfl rfl rfl (by decide) ?_ | refine d_no' rfl rfl rfl ?_ | (refine wq2 (fun hb => ?_) (fun hb => ?_) <;> (simp only [hb]; try simp only [hbs, ne_eq] at hb; try (exfalso; first | omega | exact hb trivial))) | fail)
    all_goals refine rq rfl ?_
    all_goals (first | refine FinA.tup ?_ | refine FinA.one ?_); repeat' (first | exact FinBs.nil | exact FinCs.nil | refine FinBs.cons ?_ ?_ | refine FinCs.cons ?_ ?_ | refine FinB.cell (FinC.v ?_) | refine FinB.cell (FinC.own rfl rfl rfl ?_) | exact FinB.cell FinC.nil | refine FinB.cell (FinC.sl ?_) | exact FinB.agg' rfl rfl | exact FinB.cell (FinC.same rfl) | refine FinB.agg ?_ | refine FinC.v ?_ | refine FinC.own rfl rfl rfl ?_ | exact FinC.nil | refine FinC.sl ?_ | exact FinC.same rfl); all_goals try rfl
    all_goals simp [*]
  by_cases k5 : kind = 5
  · subst k5
    simp only [show ¬ (5 : Int) = 1 by decide, show ¬ (5 : Int) = 2 by decide, show ¬ (5 : Int) = 3 by decide, show ¬ (5 : Int) = 4 by decide, if_true, if_false]
    refine PC.mk (ac_body tab_ok Tryz.func96 rfl (by kernel_rfl) rfl ?_); intro w0 M μ0; simp only [Tryz.ntmps96, List.length_cons, List.length_nil, Nat.reduceAdd, Nat.reduceSub, numb]
    repeat' (first | ((first | apply o_do | apply d_do | apply d_yes rfl rfl rfl); first | exact lsc (h2) | exact lsq) | refine a_seq ?_ | refine a_region ?_ | refine o_nil ?_ | refine a_block ?_ | refine a_ret ?_ | refine a_exit ?_ | refine a_skip ?_ | refine a_draw mixed ?_ | refine d_nil (by kernel_rfl) ?_ | refine o_yes rfl rfl rfl ?_ | refine o_no rfl rfl rfl (by decide) ?_ | refine o_no' rfl rfl rfl ?_ | refine a_condT rfl ?_ | refine a_condF rfl ?_ | refine d_no rfl rfl rfl (by decide) ?_ | refine d_no' rfl rfl rfl ?_ | (refine wq2 (fun hb => ?_) (fun hb => ?_) <;> (simp only [hb]; try simp only [hbs, ne_eq] at hb; try (exfalso; first | omega | exact hb trivial))) | fail)
    all_goals refine rq rfl ?_
    all_goals exact fnq
  · simp only [k1, k2, k3, k4, k5, if_false]
    refine PC.mk (ac_body tab_ok Tryz.func96 rfl (by kernel_rfl) rfl ?_); intro w0 M μ0; simp only [Tryz.ntmps96, List.length_cons, List.length_nil, Nat.reduceAdd, Nat.reduceSub, numb]
    repeat' (first | ((first | apply o_do | apply d_do | apply d_yes rfl rfl rfl); exact lsq) | refine a_seq ?_ | refine a_region ?_ | refine o_nil ?_ | refine a_block ?_ | refine a_ret ?_ | refine a_exit ?_ | refine a_skip ?_ | refine a_draw mixed ?_ | refine d_nil (by kernel_rfl) ?_ | refine o_yes rfl rfl rfl ?_ | refine o_no rfl rfl rfl (by decide) ?_ | refine o_no' rfl rfl rfl ?_ | refine a_condT rfl ?_ | refine a_condF rfl ?_ | refine d_no rfl rfl rfl (by decide) ?_ | refine d_no' rfl rfl rfl ?_ | (refine wq2 (fun hb => ?_) (fun hb => ?_) <;> (simp only [hb]; try simp only [hbs, ne_eq] at hb; try (exfalso; first | omega | exact hb trivial))) | fail)
    all_goals refine rq rfl ?_
    all_goals exact fnq
set_option maxHeartbeats 2000000 in
theorem i_Right (x : It) : PC Tryz.prog 69 [.agg x.av] (.v (.bool (itR x))) := by
  have h := i_bare x
  rw [itR_bare]
  unfold iTup at h
  cases hb : bareOk x
  all_goals
    rw [hb] at h
    refine PC.mk (ac_body tab_ok Tryz.func69 rfl (by kernel_rfl) rfl ?_); intro w0 M μ0; simp only [Tryz.ntmps69, List.length_cons, List.length_nil, Nat.reduceAdd, Nat.reduceSub, numb]
    repeat' (first | ((first | apply o_do | apply d_do | apply d_yes rfl rfl rfl); first | exact lsc (h) | exact ls_eqA (It.vals (bareIt x)) (It.vals x) (run_eql_It _ _ _ _) rfl rfl rfl rfl rfl | exact lsq) | refine a_seq ?_ | refine a_region ?_ | refine o_nil ?_ | refine a_block ?_ | refine a_ret ?_ | refine a_exit ?_ | refine a_skip ?_ | refine a_draw mixed ?_ | refine d_nil (by kernel_rfl) ?_ | refine o_yes rfl rfl rfl ?_ | refine o_no rfl rfl rfl (by decide) ?_ | refine o_no' rfl rfl rfl ?_ | refine a_condT rfl ?_ | refine a_condF rfl ?_ | refine d_no rfl rfl rfl (by decide) ?_ | refine d_no' rfl rfl rfl ?_ | (refine wq2 (fun hb => ?_) (fun hb => ?_) <;> (simp only [hb]; try simp only [hbs, ne_eq] at hb; try (exfalso; first | omega | exact hb trivial))) | fail)
    all_goals refine rq rfl ?_
    all_goals exact fnq
/-- marks -/
structure Mk where
  ins : List (Int × Bool)
  hs : List (Int × Int)
  out : Int
def inAvM (x : Int × Bool) : List AV := [.v (.int .i64 x.1), .v (.bool x.2)]
def hoAv (x : Int × Int) : List AV := [.v (.int .i64 x.1), .v (.int .i64 x.2)]
def Mk.av (m : Mk) : List AV := [.sl 2 (m.ins.map inAvM), .sl 2 (m.hs.map hoAv), .v (.int .i64 m.out)]
def tmR (t : Int) : Bool := decide (0 ≤ t) && decide (t ≤ 1099511627776)
def hoG (hs : List (Int × Int)) (i : Nat) : Bool := decide (0 ≤ (hs.getD i (0, 0)).1) && (tmR (hs.getD i (0, 0)).2 && (decide (i = 0) || decide ((hs.getD (i - 1) (0, 0)).1 < (hs.getD i (0, 0)).1)))
def mkR (m : Mk) : Bool := decide (1 ≤ m.ins.length) && (decide (m.ins.length ≤ 8) && (decide (m.hs.length ≤ 32) && (tmR m.out && ((List.range m.hs.length).all (hoG m.hs) && m.ins.all fun x => tmR x.1))))
/-- an aligner -/
structure Al where
  n : Int
  got : List Bool
  held : List (List It)
def boAv (b : Bool) : List AV := [.v (.bool b)]
def heAv (l : List It) : List AV := [.sl 11 (l.map It.av)]
def Al.av (a : Al) : List AV := [.v (.int .i64 a.n), .sl 1 (a.got.map boAv), .sl 1 (a.held.map heAv)]
def heG (got : List Bool) (held : List (List It)) (i : Nat) : Bool := decide ((held.getD i []).length ≤ 16) && ((decide ((held.getD i []).length = 0) || got.getD i false) && (held.getD i []).all itR)
def alR (a : Al) : Bool := decide (1 ≤ a.got.length) && (decide (a.got.length ≤ 8) && (decide (a.held.length = a.got.length) && (decide (0 ≤ a.n) && (decide (a.n ≤ 1073741824) && ((a.got.any id == decide (0 < a.n)) && (a.got.any (!·) && (List.range a.held.length).all (heG a.got a.held)))))))
/-- a worker -/
structure Gp where
  no : Int
  mark : Int
  ps : List Pn
def Gp.av (g : Gp) : List AV := [.v (.int .i64 g.no), .v (.int .i64 g.mark), .sl 6 (g.ps.map Pn.av)]
structure Wk where
  gs : List Gp
  mks : Mk
  al : Al
  told : Int
def Wk.av (k : Wk) : List AV := [.sl 3 (k.gs.map Gp.av), .sl 2 (k.mks.ins.map inAvM), .sl 2 (k.mks.hs.map hoAv), .v (.int .i64 k.mks.out), .v (.int .i64 k.al.n), .sl 1 (k.al.got.map boAv), .sl 1 (k.al.held.map heAv), .v (.int .i64 k.told)]
def gpG (gs : List Gp) (i : Nat) : Bool := grR (gs.getD i ⟨0, 0, []⟩).no (gs.getD i ⟨0, 0, []⟩).mark (gs.getD i ⟨0, 0, []⟩).ps && (decide (i = 0) || decide ((gs.getD (i - 1) ⟨0, 0, []⟩).no < (gs.getD i ⟨0, 0, []⟩).no))
def gsR (gs : List Gp) : Bool := (List.range gs.length).all (gpG gs)
def wkR (k : Wk) : Bool := gsR k.gs && (mkR k.mks && (decide (k.mks.hs.length = 0) && (alR k.al && (decide (k.al.got.length = k.mks.ins.length) && (decide (0 ≤ k.told) && decide (k.told ≤ 1099511627776))))))
/-! all of a range -/
theorem rall_snoc (p : Nat → Bool) (q : Nat) : (List.range (q + 1)).all p = ((List.range q).all p && p q) := by
  rw [List.range_succ, List.all_append]; simp
theorem rall_fail {p : Nat → Bool} {n q : Nat} (h : q < n) (hp : p q = false) : (List.range n).all p = false := by
  rw [List.all_eq_false]
  exact ⟨q, List.mem_range.2 h, by simp [hp]⟩
theorem getD_at {α : Type} {l : List α} {i : Nat} {d : α} (h : i < l.length) : l.getD i d = l[i] := by
  simp [List.getD, h]
/-- groups in order are not too many -/
theorem gsR_le {gs : List Gp} (h : gsR gs = true) : gs.length ≤ 32 := by
  have h1 : ∀ i, i < gs.length → gpG gs i = true := fun i hi => List.all_eq_true.1 h i (List.mem_range.2 hi)
  have h2 : ∀ i, i < gs.length → (i : Int) ≤ (gs.getD i ⟨0, 0, []⟩).no := by
    intro i
    induction i with
    | zero =>
      intro hi
      have := h1 0 hi
      simp only [gpG, grR, Bool.and_eq_true, decide_eq_true_eq] at this
      have := this.1.1
      simpa using this
    | succ i ih =>
      intro hi
      have h3 := ih (by omega)
      have := h1 (i + 1) hi
      simp only [gpG, Bool.and_eq_true, Bool.or_eq_true, decide_eq_true_eq, Nat.add_sub_cancel] at this
      rcases this.2 with h4 | h4
      · omega
      · omega
  rcases Nat.lt_or_ge 32 gs.length with hlt | hge
  · have h3 := h2 32 hlt
    have h4 := h1 32 hlt
    simp only [gpG, grR, Bool.and_eq_true, decide_eq_true_eq] at h4
    have := h4.1.2.1
    omega
  · exact hge
theorem made_list (zs : List Value) (hp : 0 < zs.length) (n : Nat) : (madeCells zs.toArray (n * zs.length)).toList = (List.replicate n zs).flatten := by
  have h : ∀ n, (List.range (n * zs.length)).map (fun i => zs.toArray[i % zs.toArray.size]!) = (List.replicate n zs).flatten := by
    intro n
    induction n with
    | zero => simp
    | succ n ih =>
      rw [Nat.succ_mul, List.range_add, List.map_append, ih, List.replicate_succ', List.flatten_append, List.flatten_singleton]
      congr 1
      apply List.ext_getElem
      · simp
      · intro i h1 h2
        have h3 : i < zs.length := h2
        have h4 : (n * zs.length + i) % zs.length = i := by rw [Nat.mul_comm, Nat.mul_add_mod]; exact Nat.mod_eq_of_lt h3
        simp only [List.getElem_map, List.getElem_range, List.size_toArray, h4]
        simp [h3]
  rw [← h n]
  simp [madeCells, Array.toList_map, Array.toList_range]
section
variable {P : Program} {Γ : Ctx} {s : ASt} {σ : Store} {μ : Nat → Value} {w : World} {A : Nat → Prop} {T : List TyI}
variable {dst : Option Tmp} {ty : TypeId} {pos : String} {after : Array Edge}
theorem repLL_rep (zs : List Value) (hs : (zs.all fun c => scal c && c.oneCell') = true) {size : Nat} (hl : zs.length = size) : ∀ n, repLL σ μ w A size (List.replicate n (zs.map .v)) (List.replicate n zs).flatten
  | 0 => by simp [repLL]
  | n + 1 => by
    simp only [List.replicate_succ, List.flatten_cons, repLL]
    exact ⟨zs, _, rfl, hl, repC_con hs, repLL_rep zs hs hl n⟩
/-- make([]T, n) -/
theorem ls_make (hT : okTab P T = true) (hZ : okZero P T = true) {x y : Operand} {t e size bytes n k : Nat} {kl kc : IntKind} {L C : Int} {zs : List Value} (hx : ev s x = some (.v (.int kl L))) (hy : ev s y = some (.v (.int kc C))) (hL : L = (n : Int)) (hC : C = (n : Int))
    (hty : nth T t = some (.slice e size bytes)) (hz : zcells T 10 e = some zs) (hs : (zs.all fun c => scal c && c.oneCell') = true) (hn : n ≤ 1000000) (hby : Nat.ble bytes 1000 = true) (hk : find s.σ k = none) (hd : okDst Γ.n dst = true) (htag : Nat.blt e 1048576 = true := by rfl) :
    LS P Γ ⟨dst, .makeSlice t x y, ty, pos, after, none⟩ s (rd x (rd y [.obj k])) (dst1 dst (.own k (List.replicate n (zs.map AV.v)).length)) [(k, .row e size (List.replicate n (zs.map .v)))] := by
  refine ⟨fun t' ht Q μ a w hr K hK => ?_⟩
  obtain ⟨h1, ht⟩ := ht.ev hx
  obtain ⟨h2, ht⟩ := ht.ev hy
  have hk' : find t'.σ k = none := ht.1.trans hk
  have h1 := hr.ev h1
  have h2 := hr.ev h2
  simp only [rep] at h1 h2
  obtain ⟨hu, hpos, j, z, hj, hj2, hj3, hj4, hj5⟩ := slice_ty hT hty
  obtain ⟨i, z', hi, hiz, hzc⟩ := okZero_at hZ hz
  rw [hj] at hi; injection hi with hi; subst hi
  rw [hj4] at hiz; injection hiz with hiz; subst hiz
  have hlen : zs.length = size := by rw [hzc] at hj5; simpa using hj5
  have hby := Nat.le_of_ble_eq_true hby
  have hrun := run_make (P := P) w t e j z hu hj hj4 kl kc n n (by omega) (Int.le_refl _) (by
    have : ((j.bytes * n : Nat) : Int) ≤ 281474976710656 := by
      have h5 : j.bytes * n ≤ 1000 * 1000000 := Nat.mul_le_mul (by omega) hn
      omega
    rwa [Int.natCast_mul] at this) (by omega)
  simp only [Int.toNat_natCast, hj2] at hrun
  rw [hzc, ← hlen] at hrun
  have hrow := World.ownsRow_lit (base := 0) (e := e) (size := size) w (madeCells zs.toArray (n * zs.length)) n (Nat.zero_le _) (by simp only [maxLen]; omega) (by rw [size_madeCells, hlen])
  rw [made_list zs (by omega)] at hrow
  have hn2 := hr.new (w' := w.alloc (.cells (madeCells zs.toArray (n * zs.length)) e)) (v := .slice (some ⟨w.heap.size, 0, none⟩) n n) (o := .row e size (List.replicate n (zs.map .v))) hk' (below_alloc _ _) (by simp [blk]) (fun μ' A hμ hμk hA hst => by
    refine ⟨_, ?_, repLL_rep zs hs hlen n⟩
    rw [hμk, List.length_replicate]
    exact OwnS.of hrow htag)
  have hfin := hn2.put (d := dst) (x := .own k (List.replicate n (zs.map AV.v)).length) (y := .slice (some ⟨w.heap.size, 0, none⟩) n n) hd (by
    simp only [rep, ASt.eff, List.cons_append, List.nil_append, find_cons, if_true]
    exact ⟨rfl, .inr ⟨e, size, _, rfl, Nat.le_refl _, fun _ => (setμ_same _ _ _).symm⟩⟩)
  unfold Oper.wp
  have hrun2 : (execOp a.eval ⟨dst, .makeSlice t x y, ty, pos, after, none⟩).run P w = .ok (.value (.slice (some ⟨w.heap.size, 0, none⟩) n n)) (w.alloc (.cells (madeCells zs.toArray (n * zs.length)) e)) := by
    simp only [execOp, h1.1, h2.1, hL, hC]
    simp [hrun]
  rw [hrun2]
  refine hK (setμ μ k (.slice (some ⟨w.heap.size, 0, none⟩) n n)) _ _ ?_
  cases dst <;> exact hfin
theorem repC_set {x : AV} {u : Value} : ∀ {cs : List AV} {us : List Value} {i : Nat}, repC σ μ w A cs us → cs[i]? = some (.v u) → (u.oneCell' = true → rep σ μ w A x u) → repC σ μ w A (cs.set i x) us
  | [], us, i, h, hc, hx => by simp at hc
  | c :: cs, us, 0, h, hc, hx => by
    simp only [repC] at h
    obtain ⟨v, us', rfl, h1, h2, h3⟩ := h
    simp only [List.getElem?_cons_zero, Option.some.injEq] at hc
    subst hc
    simp only [rep] at h2
    obtain ⟨rfl, _⟩ := h2
    simp only [List.set_cons_zero, repC]
    exact ⟨v, us', rfl, h1, hx h1, h3⟩
  | c :: cs, us, i + 1, h, hc, hx => by
    simp only [repC] at h
    obtain ⟨v, us', rfl, h1, h2, h3⟩ := h
    simp only [List.getElem?_cons_succ] at hc
    simp only [List.set_cons_succ, repC]
    exact ⟨v, us', rfl, h1, h2, repC_set h3 hc hx⟩
/-- A nil slice in a variable that will be appended to. -/
theorem a_adoptB {Q : Exit → ASt → Prop} {c : Code} (b i k e size : Nat) {t : TypeId} {cs : List AV} (hb : find s.σ b = some (.box t cs)) (hv : cs[i]? = some (.v (.slice none 0 0))) (hk : find s.σ k = none) (h : AWP P Γ c Q ⟨s.regs, (b, .box t (cs.set i (.own k 0))) :: (k, .row e size []) :: s.σ⟩) : AWP P Γ c Q s := by
  refine ⟨fun μ a w hr => h.out (setμ μ k (.slice none 0 0)) a w ?_⟩
  have hn := hr.new (w' := w) (v := .slice none 0 0) (o := .row e size []) hk (Below.refl _ w) (by simp [blk]) (fun μ' A hμ hμk hA hst => ⟨[], by rw [hμk]; exact OwnS.nil, by simp [repLL]⟩)
  have hbk : k ≠ b := fun e1 => by subst e1; rw [hk] at hb; cases hb
  have hb' : find ((k, SObj.row e size []) :: s.σ) b = some (.box t cs) := by rw [find_cons, if_neg hbk]; exact hb
  obtain ⟨g, us, hg1, hg2, hg3⟩ := hn.store.obj b _ hb'
  have hs := store_rel (s := s.eff [] [(k, .row e size [])]) (o' := .box t (cs.set i (.own k 0))) (g := g) hn hb' (by rw [hg1]; rfl) rfl rfl rfl rfl (fun _ _ => rfl) ⟨rfl, List.length_set⟩ (fun A hst hA => by
    refine ⟨g, us, hg1, hg2, repC_set (repC_mono hst hg3) hv (fun _ => ?_)⟩
    simp only [rep]
    refine ⟨rfl, .inr ⟨e, size, [], ?_, Nat.le_refl _, fun _ => (setμ_same _ _ _).symm⟩⟩
    rw [find_cons, if_neg (Ne.symm hbk)]
    simp [ASt.eff, find_cons])
  exact hs
end
theorem m_time (t : Int) : PC Tryz.prog 108 [.v (.int .i64 t)] (.v (.bool (tmR t))) := by
  unfold tmR
  refine PC.mk (ac_body tab_ok Tryz.func108 rfl (by kernel_rfl) rfl ?_); intro w0 M μ0; simp only [Tryz.ntmps108, List.length_cons, List.length_nil, Nat.reduceAdd, Nat.reduceSub, numb]
  repeat' (first | ((first | apply o_do | apply d_do | apply d_yes rfl rfl rfl); exact lsq) | refine a_seq ?_ | refine a_region ?_ | refine o_nil ?_ | refine a_block ?_ | refine a_ret ?_ | refine a_exit ?_ | refine a_skip ?_ | refine a_draw mixed ?_ | refine d_nil (by kernel_rfl) ?_ | refine o_yes rfl rfl rfl ?_ | refine o_no rfl rfl rfl (by decide) ?_ | refine o_no' rfl rfl rfl ?_ | refine a_condT rfl ?_ | refine a_condF rfl ?_ | refine d_no rfl rfl rfl (by decide) ?_ | refine d_no' rfl rfl rfl ?_ | (refine wq2 (fun hb => ?_) (fun hb => ?_) <;> (simp only [hb]; try simp only [hbs, ne_eq] at hb; try (exfalso; first | omega | exact hb trivial))) | fail)
  all_goals refine rq rfl ?_
  all_goals (first | refine FinA.tup ?_ | refine FinA.one ?_); repeat' (first | exact FinBs.nil | exact FinCs.nil | refine FinBs.cons ?_ ?_ | refine FinCs.cons ?_ ?_ | refine FinB.cell (FinC.v ?_) | refine FinB.cell (FinC.own rfl rfl rfl ?_) | exact FinB.cell FinC.nil | refine FinB.cell (FinC.sl ?_) | exact FinB.agg' rfl rfl | exact FinB.cell (FinC.same rfl) | refine FinB.agg ?_ | refine FinC.v ?_ | refine FinC.own rfl rfl rfl ?_ | exact FinC.nil | refine FinC.sl ?_ | exact FinC.same rfl); all_goals try rfl
  all_goals simp [*]
theorem m_Right1 (x : Int × Bool) : PC Tryz.prog 110 [.agg (inAvM x)] (.v (.bool (!tmR x.1))) := by
  obtain ⟨a, b⟩ := x
  have h := m_time a
  refine PC.mk (ac_body tab_ok Tryz.func110 rfl (by kernel_rfl) rfl ?_); intro w0 M μ0; simp only [Tryz.ntmps110, List.length_cons, List.length_nil, Nat.reduceAdd, Nat.reduceSub, numb]
  repeat' (first | ((first | apply o_do | apply d_do | apply d_yes rfl rfl rfl); first | exact lsc (h) | exact lsq) | refine a_seq ?_ | refine a_region ?_ | refine o_nil ?_ | refine a_block ?_ | refine a_ret ?_ | refine a_exit ?_ | refine a_skip ?_ | refine a_draw mixed ?_ | refine d_nil (by kernel_rfl) ?_ | refine o_yes rfl rfl rfl ?_ | refine o_no rfl rfl rfl (by decide) ?_ | refine o_no' rfl rfl rfl ?_ | refine a_condT rfl ?_ | refine a_condF rfl ?_ | refine d_no rfl rfl rfl (by decide) ?_ | refine d_no' rfl rfl rfl ?_ | (refine wq2 (fun hb => ?_) (fun hb => ?_) <;> (simp only [hb]; try simp only [hbs, ne_eq] at hb; try (exfalso; first | omega | exact hb trivial))) | fail)
  all_goals refine rq rfl ?_
  all_goals exact fnq
set_option maxHeartbeats 1000000 in
theorem m_IdxI (es : List (Int × Bool)) (hx : es.length ≤ 9223372036854775807) : ∃ i : Int, (decide (0 ≤ i) = !es.all fun e => tmR e.1) ∧ PC Tryz.prog 143 [.sl 2 (es.map inAvM), .clo (.func 110) [] []] (.v (.int .i64 i)) := by
  rcases fst_all (fun e : Int × Bool => tmR e.1) es with hall | ⟨q0, hq0, h1, h2⟩
  · refine ⟨-1, by rw [hall]; rfl, ?_⟩
    refine PC.mk (ac_body tab_ok Tryz.func143 rfl (by kernel_rfl) rfl ?_); intro w0 M μ0; simp only [Tryz.ntmps143, List.length_cons, List.length_nil, Nat.reduceAdd, Nat.reduceSub, numb]
    repeat' (first | ((first | apply o_do | apply d_do | apply d_yes rfl rfl rfl); exact lsq) | refine a_seq ?_ | refine a_region ?_ | refine o_nil ?_ | refine a_block ?_ | refine a_ret ?_ | refine a_exit ?_ | refine a_skip ?_ | refine a_draw mixed ?_ | refine d_nil (by kernel_rfl) ?_ | refine o_yes rfl rfl rfl ?_ | refine o_no rfl rfl rfl (by decide) ?_ | refine o_no' rfl rfl rfl ?_ | refine a_condT rfl ?_ | refine a_condF rfl ?_ | refine d_no rfl rfl rfl (by decide) ?_ | refine d_no' rfl rfl rfl ?_ | (refine wq2 (fun hb => ?_) (fun hb => ?_) <;> (simp only [hb]; try simp only [hbs, ne_eq] at hb; try (exfalso; first | omega | exact hb trivial))) | fail)
    refine a_loop (X := {q : Nat // q ≤ es.length}) (fun x => ⟨[(0, .sl 2 (es.map inAvM)), (1, .clo (.func 110) [] []), (7, .v (.int .i64 es.length)), (8, .v (.int .i64 x.1))], []⟩) (fun x => es.length - x.1) ⟨0, Nat.zero_le _⟩ ?_ ?_
    · exact wkS
    rintro ⟨q, hq⟩
    dsimp only
    by_cases hlt : q < es.length
    · have hel : (es.map inAvM)[q]? = some (inAvM es[q]) := by simp [hlt]
      have hbd := m_Right1 es[q]
      rw [show tmR es[q].1 = true from List.all_eq_true.1 hall _ (List.getElem_mem hlt)] at hbd
      generalize es[q] = x at *
      repeat' (first | ((first | apply o_do | apply d_do | apply d_yes rfl rfl rfl); first | exact lsc (hbd) | exact lsq) | refine a_seq ?_ | refine a_region ?_ | refine o_nil ?_ | refine a_block ?_ | refine a_ret ?_ | refine a_exit ?_ | refine a_skip ?_ | refine a_draw mixed ?_ | refine d_nil (by kernel_rfl) ?_ | refine o_yes rfl rfl rfl ?_ | refine o_no rfl rfl rfl (by decide) ?_ | refine o_no' rfl rfl rfl ?_ | refine a_condT rfl ?_ | refine a_condF rfl ?_ | refine d_no rfl rfl rfl (by decide) ?_ | refine d_no' rfl rfl rfl ?_ | (refine wq2 (fun hb => ?_) (fun hb => ?_) <;> (simp only [hb]; try simp only [hbs, ne_eq] at hb; try (exfalso; first | omega | exact hb trivial))) | fail)
      refine ⟨⟨q + 1, by omega⟩, by dsimp only; omega, ?_⟩
      exact wkS
    · repeat' (first | ((first | apply o_do | apply d_do | apply d_yes rfl rfl rfl); exact lsq) | refine a_seq ?_ | refine a_region ?_ | refine o_nil ?_ | refine a_block ?_ | refine a_ret ?_ | refine a_exit ?_ | refine a_skip ?_ | refine a_draw mixed ?_ | refine d_nil (by kernel_rfl) ?_ | refine o_yes rfl rfl rfl ?_ | refine o_no rfl rfl rfl (by decide) ?_ | refine o_no' rfl rfl rfl ?_ | refine a_condT rfl ?_ | refine a_condF rfl ?_ | refine d_no rfl rfl rfl (by decide) ?_ | refine d_no' rfl rfl rfl ?_ | (refine wq2 (fun hb => ?_) (fun hb => ?_) <;> (simp only [hb]; try simp only [hbs, ne_eq] at hb; try (exfalso; first | omega | exact hb trivial))) | fail)
      refine rq rfl ?_
      exact fnq
  · refine ⟨(q0 : Int), ?_, ?_⟩
    · have : (es.all fun e => tmR e.1) = false := by
        rw [List.all_eq_false]
        exact ⟨es[q0], List.getElem_mem hq0, by simp [h2]⟩
      rw [this]; simp
    refine PC.mk (ac_body tab_ok Tryz.func143 rfl (by kernel_rfl) rfl ?_); intro w0 M μ0; simp only [Tryz.ntmps143, List.length_cons, List.length_nil, Nat.reduceAdd, Nat.reduceSub, numb]
    repeat' (first | ((first | apply o_do | apply d_do | apply d_yes rfl rfl rfl); exact lsq) | refine a_seq ?_ | refine a_region ?_ | refine o_nil ?_ | refine a_block ?_ | refine a_ret ?_ | refine a_exit ?_ | refine a_skip ?_ | refine a_draw mixed ?_ | refine d_nil (by kernel_rfl) ?_ | refine o_yes rfl rfl rfl ?_ | refine o_no rfl rfl rfl (by decide) ?_ | refine o_no' rfl rfl rfl ?_ | refine a_condT rfl ?_ | refine a_condF rfl ?_ | refine d_no rfl rfl rfl (by decide) ?_ | refine d_no' rfl rfl rfl ?_ | (refine wq2 (fun hb => ?_) (fun hb => ?_) <;> (simp only [hb]; try simp only [hbs, ne_eq] at hb; try (exfalso; first | omega | exact hb trivial))) | fail)
    refine a_loop (X := {q : Nat // q ≤ q0}) (fun x => ⟨[(0, .sl 2 (es.map inAvM)), (1, .clo (.func 110) [] []), (7, .v (.int .i64 es.length)), (8, .v (.int .i64 x.1))], []⟩) (fun x => es.length - x.1) ⟨0, Nat.zero_le _⟩ ?_ ?_
    · exact wkS
    rintro ⟨q, hq⟩
    dsimp only
    have hlt : q < es.length := by omega
    have hel : (es.map inAvM)[q]? = some (inAvM es[q]) := by simp [hlt]
    have hbd := m_Right1 es[q]
    rcases Nat.lt_or_eq_of_le hq with h | h
    · have hm : es[q] ∈ es.take q0 := by
        rw [List.mem_take_iff_getElem]
        exact ⟨q, by omega, rfl⟩
      rw [show tmR es[q].1 = true from List.all_eq_true.1 h1 _ hm] at hbd
      generalize es[q] = x at *
      repeat' (first | ((first | apply o_do | apply d_do | apply d_yes rfl rfl rfl); first | exact lsc (hbd) | exact lsq) | refine a_seq ?_ | refine a_region ?_ | refine o_nil ?_ | refine a_block ?_ | refine a_ret ?_ | refine a_exit ?_ | refine a_skip ?_ | refine a_draw mixed ?_ | refine d_nil (by kernel_rfl) ?_ | refine o_yes rfl rfl rfl ?_ | refine o_no rfl rfl rfl (by decide) ?_ | refine o_no' rfl rfl rfl ?_ | refine a_condT rfl ?_ | refine a_condF rfl ?_ | refine d_no rfl rfl rfl (by decide) ?_ | refine d_no' rfl rfl rfl ?_ | (refine wq2 (fun hb => ?_) (fun hb => ?_) <;> (simp only [hb]; try simp only [hbs, ne_eq] at hb; try (exfalso; first | omega | exact hb trivial))) | fail)
      refine ⟨⟨q + 1, by omega⟩, by dsimp only; omega, ?_⟩
      exact wkS
    · subst h
      rw [show tmR es[q].1 = false from h2] at hbd
      generalize es[q] = x at *
      repeat' (first | ((first | apply o_do | apply d_do | apply d_yes rfl rfl rfl); first | exact lsc (hbd) | exact lsq) | refine a_seq ?_ | refine a_region ?_ | refine o_nil ?_ | refine a_block ?_ | refine a_ret ?_ | refine a_exit ?_ | refine a_skip ?_ | refine a_draw mixed ?_ | refine d_nil (by kernel_rfl) ?_ | refine o_yes rfl rfl rfl ?_ | refine o_no rfl rfl rfl (by decide) ?_ | refine o_no' rfl rfl rfl ?_ | refine a_condT rfl ?_ | refine a_condF rfl ?_ | refine d_no rfl rfl rfl (by decide) ?_ | refine d_no' rfl rfl rfl ?_ | (refine wq2 (fun hb => ?_) (fun hb => ?_) <;> (simp only [hb]; try simp only [hbs, ne_eq] at hb; try (exfalso; first | omega | exact hb trivial))) | fail)
      refine rq rfl ?_
      exact fnq
theorem m_ConI (es : List (Int × Bool)) (hx : es.length ≤ 9223372036854775807) : PC Tryz.prog 109 [.sl 2 (es.map inAvM), .clo (.func 110) [] []] (.v (.bool (!es.all fun e => tmR e.1))) := by
  obtain ⟨i, h1, h2⟩ := m_IdxI es hx
  rw [← h1]
  refine PC.mk (ac_body tab_ok Tryz.func109 rfl (by kernel_rfl) rfl ?_); intro w0 M μ0; simp only [Tryz.ntmps109, List.length_cons, List.length_nil, Nat.reduceAdd, Nat.reduceSub, numb]
  repeat' (first | ((first | apply o_do | apply d_do | apply d_yes rfl rfl rfl); first | exact lsc (h2) | exact lsq) | refine a_seq ?_ | refine a_region ?_ | refine o_nil ?_ | refine a_block ?_ | refine a_ret ?_ | refine a_exit ?_ | refine a_skip ?_ | refine a_draw mixed ?_ | refine d_nil (by kernel_rfl) ?_ | refine o_yes rfl rfl rfl ?_ | refine o_no rfl rfl rfl (by decide) ?_ | refine o_no' rfl rfl rfl ?_ | refine a_condT rfl ?_ | refine a_condF rfl ?_ | refine d_no rfl rfl rfl (by decide) ?_ | refine d_no' rfl rfl rfl ?_ | (refine wq2 (fun hb => ?_) (fun hb => ?_) <;> (simp only [hb]; try simp only [hbs, ne_eq] at hb; try (exfalso; first | omega | exact hb trivial))) | fail)
  all_goals refine rq rfl ?_
  all_goals exact fnq
theorem mkR_pre {ins : List (Int × Bool)} {hs : List (Int × Int)} {out : Int} (h : ¬ (1 ≤ ins.length ∧ ins.length ≤ 8 ∧ hs.length ≤ 32 ∧ tmR out = true)) : mkR ⟨ins, hs, out⟩ = false := by
  cases hm : mkR ⟨ins, hs, out⟩
  · rfl
  · simp only [mkR, Bool.and_eq_true, decide_eq_true_eq] at hm
    exact absurd ⟨hm.1, hm.2.1, hm.2.2.1, hm.2.2.2.1⟩ h
set_option maxHeartbeats 2000000 in
theorem m_Right (m : Mk) (hi : m.ins.length ≤ 9223372036854775807) (hh : m.hs.length ≤ 9223372036854775807) : PC Tryz.prog 74 [.agg m.av] (.v (.bool (mkR m))) := by
  obtain ⟨ins, hs, out⟩ := m
  dsimp only at hi hh
  have hcon := m_ConI ins hi
  have hto := m_time out
  have hn1 : (ins.map inAvM).length = ins.length := List.length_map _
  have hn2 : (hs.map hoAv).length = hs.length := List.length_map _
  simp only [Mk.av]
  by_cases hpre : 1 ≤ ins.length ∧ ins.length ≤ 8 ∧ hs.length ≤ 32 ∧ tmR out = true
  · obtain ⟨a1, a2, a3, a4⟩ := hpre
    rw [a4] at hto
    refine PC.mk (ac_body tab_ok Tryz.func74 rfl (by kernel_rfl) rfl ?_); intro w0 M μ0; simp only [Tryz.ntmps74, List.length_cons, List.length_nil, Nat.reduceAdd, Nat.reduceSub, numb]
    repeat' (first | ((first | apply o_do | apply d_do | apply d_yes rfl rfl rfl); first | exact lsc (hto) | exact lsq) | refine a_seq ?_ | refine a_region ?_ | refine o_nil ?_ | refine a_block ?_ | refine a_ret ?_ | refine a_exit ?_ | refine a_skip ?_ | refine a_draw mixed ?_ | refine d_nil (by kernel_rfl) ?_ | refine o_yes rfl rfl rfl ?_ | refine o_no rfl rfl rfl (by decide) ?_ | refine o_no' rfl rfl rfl ?_ | refine a_condT rfl ?_ | refine a_condF rfl ?_ | refine d_no rfl rfl rfl (by decide) ?_ | refine d_no' rfl rfl rfl ?_ | (refine wq2 (fun hb => ?_) (fun hb => ?_) <;> (simp only [hb]; try simp only [hbs, ne_eq] at hb; try (exfalso; first | omega | exact hb trivial))) | fail)
    refine a_loop (X := {q : Nat // q ≤ hs.length ∧ (List.range q).all (hoG hs) = true}) (fun x => ⟨[(1, .ref 0 0), (28, .sl 2 (hs.map hoAv)), (29, .v (.int .i64 hs.length)), (30, .v (.int .i64 x.1))], [(0, .box 36 [.sl 2 (ins.map inAvM), .sl 2 (hs.map hoAv), .v (.int .i64 out)])]⟩) (fun x => hs.length - x.1) ⟨0, Nat.zero_le _, rfl⟩ ?_ ?_
    · exact wkS
    rintro ⟨q, hq, hok⟩
    dsimp only
    by_cases hlt : q < hs.length
    · have hel : (hs.map hoAv)[q]? = some (hoAv hs[q]) := by simp [hlt]
      have hbad : hoG hs q = false → mkR ⟨ins, hs, out⟩ = false := fun h => by simp [mkR, rall_fail hlt h]
      have hgo : hoG hs q = true → (List.range (q + 1)).all (hoG hs) = true := fun h => by rw [rall_snoc, hok, h]; rfl
      have htm := m_time hs[q].2
      rcases Nat.eq_zero_or_pos q with rfl | hq0
      · have hG : hoG hs 0 = (decide (0 ≤ hs[0].1) && tmR hs[0].2) := by simp only [hoG, getD_at hlt]; simp
        generalize hs[0] = x at *
        obtain ⟨no, at'⟩ := x
        dsimp only at *
        rcases Bool.eq_false_or_eq_true (hoG hs 0) with hg0 | hg0 <;> cases htR : tmR at'
        all_goals
          rw [htR] at htm hG
          repeat' (first | ((first | apply o_do | apply d_do | apply d_yes rfl rfl rfl); first | exact ls_indexAddr_sl tab_ok rfl rfl rfl rfl (by assumption) rfl | exact lsc (htm) | exact lsq) | refine a_seq ?_ | refine a_region ?_ | refine o_nil ?_ | refine a_block ?_ | refine a_ret ?_ | refine a_exit ?_ | refine a_skip ?_ | refine a_draw mixed ?_ | refine d_nil (by kernel_rfl) ?_ | refine o_yes rfl rfl rfl ?_ | refine o_no rfl rfl rfl (by decide) ?_ | refine o_no' rfl rfl rfl ?_ | refine a_condT rfl ?_ | refine a_condF rfl ?_ | refine d_no rfl rfl rfl (by decide) ?_ | refine d_no' rfl rfl rfl ?_ | (refine wq2 (fun hb => ?_) (fun hb => ?_) <;> (simp only [hb]; try simp only [hbs, ne_eq] at hb; try (exfalso; first | omega | exact hb trivial))) | fail)
          all_goals first
            | (exfalso; rw [hG] at hg0; simp [*] at hg0; done)
            | (exfalso; rw [hG] at hg0; simp [*] at hg0; omega)
            | (refine rq rfl ?_; ((first | refine FinA.tup ?_ | refine FinA.one ?_); repeat' (first | exact FinBs.nil | exact FinCs.nil | refine FinBs.cons ?_ ?_ | refine FinCs.cons ?_ ?_ | refine FinB.cell (FinC.v ?_) | refine FinB.cell (FinC.own rfl rfl rfl ?_) | exact FinB.cell FinC.nil | refine FinB.cell (FinC.sl ?_) | exact FinB.agg' rfl rfl | exact FinB.cell (FinC.same rfl) | refine FinB.agg ?_ | refine FinC.v ?_ | refine FinC.own rfl rfl rfl ?_ | exact FinC.nil | refine FinC.sl ?_ | exact FinC.same rfl); all_goals try rfl); rw [hbad hg0]; done)
            | (refine ⟨⟨0 + 1, by omega, hgo hg0⟩, by dsimp only; omega, ?_⟩; exact wkS; done)
      · obtain ⟨j, rfl⟩ : ∃ j, q = j + 1 := ⟨q - 1, by omega⟩
        have hj : ((j + 1 : Nat) : Int) - 1 = (j : Int) := by omega
        have hlj : j < hs.length := by omega
        have hel2 : (hs.map hoAv)[j]? = some (hoAv hs[j]) := by simp [hlj]
        have hG : hoG hs (j + 1) = (decide (0 ≤ hs[j + 1].1) && (tmR hs[j + 1].2 && decide (hs[j].1 < hs[j + 1].1))) := by simp [hoG, hlt, hlj]
        generalize hs[j + 1] = x at *
        generalize hs[j] = y at *
        obtain ⟨no, at'⟩ := x
        obtain ⟨no', at''⟩ := y
        dsimp only at *
        rcases Bool.eq_false_or_eq_true (hoG hs (j + 1)) with hg0 | hg0 <;> cases htR : tmR at'
        all_goals
          rw [htR] at htm hG
          repeat' (first | ((first | apply o_do | apply d_do | apply d_yes rfl rfl rfl); first | exact ls_indexAddr_sl tab_ok rfl rfl rfl rfl (by assumption) rfl | exact ls_indexAddr_sl tab_ok rfl rfl rfl hj hel2 rfl | exact lsc (htm) | exact lsq) | refine a_seq ?_ | refine a_region ?_ | refine o_nil ?_ | refine a_block ?_ | refine a_ret ?_ | refine a_exit ?_ | refine a_skip ?_ | refine a_draw mixed ?_ | refine d_nil (by kernel_rfl) ?_ | refine o_yes rfl rfl rfl ?_ | refine o_no rfl rfl rfl (by decide) ?_ | refine o_no' rfl rfl rfl ?_ | refine a_condT rfl ?_ | refine a_condF rfl ?_ | refine d_no rfl rfl rfl (by decide) ?_ | refine d_no' rfl rfl rfl ?_ | (refine wq2 (fun hb => ?_) (fun hb => ?_) <;> (simp only [hb]; try simp only [hbs, ne_eq] at hb; try (exfalso; first | omega | exact hb trivial))) | fail)
          all_goals first
            | (exfalso; rw [hG] at hg0; simp [*] at hg0; done)
            | (exfalso; rw [hG] at hg0; simp [*] at hg0; omega)
            | (refine rq rfl ?_; ((first | refine FinA.tup ?_ | refine FinA.one ?_); repeat' (first | exact FinBs.nil | exact FinCs.nil | refine FinBs.cons ?_ ?_ | refine FinCs.cons ?_ ?_ | refine FinB.cell (FinC.v ?_) | refine FinB.cell (FinC.own rfl rfl rfl ?_) | exact FinB.cell FinC.nil | refine FinB.cell (FinC.sl ?_) | exact FinB.agg' rfl rfl | exact FinB.cell (FinC.same rfl) | refine FinB.agg ?_ | refine FinC.v ?_ | refine FinC.own rfl rfl rfl ?_ | exact FinC.nil | refine FinC.sl ?_ | exact FinC.same rfl); all_goals try rfl); rw [hbad hg0]; done)
            | (refine ⟨⟨j + 1 + 1, by omega, hgo hg0⟩, by dsimp only; omega, ?_⟩; exact wkS; done)
    · obtain rfl : q = hs.length := by omega
      have hend : mkR ⟨ins, hs, out⟩ = ins.all fun x => tmR x.1 := by simp [mkR, *]
      rw [hend]
      cases hall : ins.all fun x => tmR x.1
      all_goals
        rw [hall] at hcon
        repeat' (first | ((first | apply o_do | apply d_do | apply d_yes rfl rfl rfl); first | exact lsc (hcon) | exact lsq) | refine a_seq ?_ | refine a_region ?_ | refine o_nil ?_ | refine a_block ?_ | refine a_ret ?_ | refine a_exit ?_ | refine a_skip ?_ | refine a_draw mixed ?_ | refine d_nil (by kernel_rfl) ?_ | refine o_yes rfl rfl rfl ?_ | refine o_no rfl rfl rfl (by decide) ?_ | refine o_no' rfl rfl rfl ?_ | refine a_condT rfl ?_ | refine a_condF rfl ?_ | refine d_no rfl rfl rfl (by decide) ?_ | refine d_no' rfl rfl rfl ?_ | (refine wq2 (fun hb => ?_) (fun hb => ?_) <;> (simp only [hb]; try simp only [hbs, ne_eq] at hb; try (exfalso; first | omega | exact hb trivial))) | fail)
        refine rq rfl ?_
        exact fnq
  · rw [mkR_pre hpre]
    cases hto2 : tmR out
    all_goals
      rw [hto2] at hto
      refine PC.mk (ac_body tab_ok Tryz.func74 rfl (by kernel_rfl) rfl ?_); intro w0 M μ0; simp only [Tryz.ntmps74, List.length_cons, List.length_nil, Nat.reduceAdd, Nat.reduceSub, numb]
      repeat' (first | ((first | apply o_do | apply d_do | apply d_yes rfl rfl rfl); first | exact lsc (hto) | exact lsq) | refine a_seq ?_ | refine a_region ?_ | refine o_nil ?_ | refine a_block ?_ | refine a_ret ?_ | refine a_exit ?_ | refine a_skip ?_ | refine a_draw mixed ?_ | refine d_nil (by kernel_rfl) ?_ | refine o_yes rfl rfl rfl ?_ | refine o_no rfl rfl rfl (by decide) ?_ | refine o_no' rfl rfl rfl ?_ | refine a_condT rfl ?_ | refine a_condF rfl ?_ | refine d_no rfl rfl rfl (by decide) ?_ | refine d_no' rfl rfl rfl ?_ | (refine wq2 (fun hb => ?_) (fun hb => ?_) <;> (simp only [hb]; try simp only [hbs, ne_eq] at hb; try (exfalso; first | omega | exact hb trivial))) | fail)
      all_goals first
        | (exfalso; apply hpre; refine ⟨?_, ?_, ?_, hto2⟩ <;> omega)
        | (refine rq rfl ?_; (exact fnq); done)
end Go.Proofs.YtilgagmfcdfjaaaGreat
