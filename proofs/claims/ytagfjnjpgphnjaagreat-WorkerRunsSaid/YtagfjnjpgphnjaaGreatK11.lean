/-
  Items, walked over abstract values: which may be.
  Workers: what the parts of one are; which may be. Plain.
  Walks over abstract values: a method's value (a function with a bound receiver) called; a nil check; a shift by one. Over whatever program. No condition.
  Events; a value put into the windows that hold its time, as a chain of puts.
  Which jobs and inputs may be, walked over abstract values.
    Which inputs may be, and whether a job and inputs may, walked over abstract values.
  Walks over abstract values: rows that are made with their zero elements. Over whatever program. No condition.
-/
import Derived.Laws.OwnMore
import Derived.Test.YtagfjnjpgphnjaaGreatK3
import Derived.Test.YtagfjnjpgphnjaaGreatK4
import Derived.Test.YtagfjnjpgphnjaaGreatK6
import Derived.Test.YtagfjnjpgphnjaaGreatK10
namespace Go.Proofs.YtagfjnjpgphnjaaGreat
open Go.RowKit
set_option linter.unusedSimpArgs false
set_option linter.unusedVariables false
structure It where
  kind : Int
  key : ByteArray
  at' : Int
  val : Int
  mark : Int
  n : Int
  lo : Int
  hi : Int
  rkey : ByteArray
  rn : Int
  rval : Int
deriving DecidableEq
def It.vals (x : It) : List Value := [.int .i64 x.kind, .string x.key, .int .i64 x.at', .int .i64 x.val, .int .i64 x.mark, .int .i64 x.n, .int .i64 x.lo, .int .i64 x.hi, .string x.rkey, .int .i64 x.rn, .int .i64 x.rval]
def It.av (x : It) : List AV := [.v (.int .i64 x.kind), .v (.string x.key), .v (.int .i64 x.at'), .v (.int .i64 x.val), .v (.int .i64 x.mark), .v (.int .i64 x.n), .v (.int .i64 x.lo), .v (.int .i64 x.hi), .v (.string x.rkey), .v (.int .i64 x.rn), .v (.int .i64 x.rval)]
def noE (k : ByteArray) (a v : Int) : Bool := decide (k = .empty) && (decide (a = 0) && decide (v = 0))
def noR (lo hi : Int) (k : ByteArray) (n v : Int) : Bool := decide (lo = 0) && (decide (hi = 0) && (decide (k = .empty) && (decide (n = 0) && decide (v = 0))))
def resR (lo hi : Int) (k : ByteArray) (n : Int) : Bool := keyB k && (decide (0 ≤ lo) && (decide (lo < hi) && (decide (hi ≤ 1099511627776) && (decide (1 ≤ n) && decide (n ≤ 1073741824)))))
/-- may an item be? -/
def itR (x : It) : Bool := match x with
  | ⟨kind, k, a, v, m, n, lo, hi, rk, rn, rv⟩ =>
    if kind = 1 then decide (m = 0) && (decide (n = 0) && (noR lo hi rk rn rv && evR k a))
    else if kind = 2 then noE k a v && (decide (n = 0) && (noR lo hi rk rn rv && (decide (0 ≤ m) && decide (m ≤ 1099511627776))))
    else if kind = 3 then noE k a v && (decide (m = 0) && (decide (n = 0) && noR lo hi rk rn rv))
    else if kind = 4 then noE k a v && (decide (m = 0) && (noR lo hi rk rn rv && (decide (1 ≤ n) && decide (n ≤ 1073741824))))
    else if kind = 5 then noE k a v && (decide (m = 0) && (decide (n = 0) && resR lo hi rk rn))
    else false
theorem p_iresult (lo hi : Int) (k : ByteArray) (n v : Int) : PC Tryz.prog 144 [.agg [.v (.int .i64 lo), .v (.int .i64 hi), .v (.string k), .v (.int .i64 n), .v (.int .i64 v)]] (.v (.bool (resR lo hi k n))) := by
  have h := p_ikey k
  unfold resR
  cases hk : keyB k
  all_goals
    rw [hk] at h
    refine PC.mk (ac_body tab_ok Tryz.func144 rfl (by kernel_rfl) rfl ?_); intro w0 M μ0; simp only [Tryz.ntmps144, List.length_cons, List.length_nil, Nat.reduceAdd, Nat.reduceSub, numb]
    repeat' (first | ((first | apply o_do | apply d_do | apply d_yes rfl rfl rfl); first | exact lsc (h) | exact lsq) | refine a_seq ?_ | refine a_region ?_ | refine o_nil ?_ | refine a_block ?_ | refine a_ret ?_ | refine a_exit ?_ | refine a_skip ?_ | refine a_draw mixed ?_ | refine d_nil (by kernel_rfl) ?_ | refine o_yes rfl rfl rfl ?_ | refine o_no rfl rfl rfl (by decide) ?_ | refine o_no' rfl rfl rfl ?_ | refine a_condT rfl ?_ | refine a_condF rfl ?_ | refine d_no rfl rfl rfl (by decide) ?_ | refine d_no' rfl rfl rfl ?_ | (refine wq2 (fun hb => ?_) (fun hb => ?_) <;> (simp only [hb]; try simp only [hbs, ne_eq] at hb; try (exfalso; first | omega | exact hb trivial))) | fail)
    all_goals refine rq rfl ?_
    all_goals (first | refine FinA.tup ?_ | refine FinA.one ?_); repeat' (first | exact FinBs.nil | exact FinCs.nil | refine FinBs.cons ?_ ?_ | refine FinCs.cons ?_ ?_ | refine FinB.cell (FinC.v ?_) | refine FinB.cell (FinC.own rfl rfl rfl ?_) | exact FinB.cell FinC.nil | refine FinB.cell (FinC.sl ?_) | exact FinB.agg' rfl rfl | exact FinB.cell (FinC.same rfl) | refine FinB.agg ?_ | refine FinC.v ?_ | refine FinC.own rfl rfl rfl ?_ | exact FinC.nil | refine FinC.sl ?_ | exact FinC.same rfl); all_goals try rfl
    all_goals simp [*]
theorem p_rResult (lo hi : Int) (k : ByteArray) (n v : Int) : PC Tryz.prog 112 [.agg [.v (.int .i64 lo), .v (.int .i64 hi), .v (.string k), .v (.int .i64 n), .v (.int .i64 v)]] (.v (.bool (resR lo hi k n))) := by
  have h := p_Key k
  unfold resR
  cases hk : keyB k
  all_goals
    rw [hk] at h
    refine PC.mk (ac_body tab_ok Tryz.func112 rfl (by kernel_rfl) rfl ?_); intro w0 M μ0; simp only [Tryz.ntmps112, List.length_cons, List.length_nil, Nat.reduceAdd, Nat.reduceSub, numb]
    repeat' (first | ((first | apply o_do | apply d_do | apply d_yes rfl rfl rfl); first | exact lsc (h) | exact lsq) | refine a_seq ?_ | refine a_region ?_ | refine o_nil ?_ | refine a_block ?_ | refine a_ret ?_ | refine a_exit ?_ | refine a_skip ?_ | refine a_draw mixed ?_ | refine d_nil (by kernel_rfl) ?_ | refine o_yes rfl rfl rfl ?_ | refine o_no rfl rfl rfl (by decide) ?_ | refine o_no' rfl rfl rfl ?_ | refine a_condT rfl ?_ | refine a_condF rfl ?_ | refine d_no rfl rfl rfl (by decide) ?_ | refine d_no' rfl rfl rfl ?_ | (refine wq2 (fun hb => ?_) (fun hb => ?_) <;> (simp only [hb]; try simp only [hbs, ne_eq] at hb; try (exfalso; first | omega | exact hb trivial))) | fail)
    all_goals refine rq rfl ?_
    all_goals (first | refine FinA.tup ?_ | refine FinA.one ?_); repeat' (first | exact FinBs.nil | exact FinCs.nil | refine FinBs.cons ?_ ?_ | refine FinCs.cons ?_ ?_ | refine FinB.cell (FinC.v ?_) | refine FinB.cell (FinC.own rfl rfl rfl ?_) | exact FinB.cell FinC.nil | refine FinB.cell (FinC.sl ?_) | exact FinB.agg' rfl rfl | exact FinB.cell (FinC.same rfl) | refine FinB.agg ?_ | refine FinC.v ?_ | refine FinC.own rfl rfl rfl ?_ | exact FinC.nil | refine FinC.sl ?_ | exact FinC.same rfl); all_goals try rfl
    all_goals simp [*]
theorem bytes_emptyL {k : ByteArray} : k.toList = [] ↔ k = .empty := by
  rw [ByteArray.toList_eq]
  exact ⟨fun h => ByteArray.ext (Array.toList_inj.1 h), fun h => by rw [h]; rfl⟩
theorem bytes_same {a b : ByteArray} : a.toList = b.toList ↔ a = b := by
  rw [ByteArray.toList_eq, ByteArray.toList_eq]
  exact ⟨fun h => ByteArray.ext (Array.toList_inj.1 h), fun h => by rw [h]⟩
theorem run_neq_Ev (x y : Operand) (k : ByteArray) (a v : Int) (w : World) : (do eqGuard .neq 57 x y (.agg [.string k, .int .i64 a, .int .i64 v].toArray) (.agg [.string ByteArray.empty, .int .i64 0, .int .i64 0].toArray); binOp .neq 57 (.agg [.string k, .int .i64 a, .int .i64 v].toArray) (.agg [.string ByteArray.empty, .int .i64 0, .int .i64 0].toArray) : Sem Value).run Tryz.prog w = .ok (.bool (!noE k a v)) w := by
  unfold noE
  by_cases h1 : k = ByteArray.empty <;> by_cases h2 : a = 0 <;> by_cases h3 : v = 0 <;> go_simp
  all_goals first | done | (intro h; exact h1 (bytes_emptyL.1 h))
theorem run_neq_Rz (x y : Operand) (lo hi : Int) (k : ByteArray) (n v : Int) (w : World) : (do eqGuard .neq 61 x y (.agg [.int .i64 lo, .int .i64 hi, .string k, .int .i64 n, .int .i64 v].toArray) (.agg [.int .i64 0, .int .i64 0, .string ByteArray.empty, .int .i64 0, .int .i64 0].toArray); binOp .neq 61 (.agg [.int .i64 lo, .int .i64 hi, .string k, .int .i64 n, .int .i64 v].toArray) (.agg [.int .i64 0, .int .i64 0, .string ByteArray.empty, .int .i64 0, .int .i64 0].toArray) : Sem Value).run Tryz.prog w = .ok (.bool (!noR lo hi k n v)) w := by
  unfold noR
  by_cases h0 : lo = 0 <;> by_cases h4 : hi = 0 <;> by_cases h1 : k = ByteArray.empty <;> by_cases h2 : n = 0 <;> by_cases h3 : v = 0 <;> go_simp
  all_goals first | done | (intro h; exact h1 (bytes_emptyL.1 h))
set_option maxHeartbeats 4000000 in
theorem run_eql_It (x y : Operand) (p q : It) (w : World) : (do eqGuard .eql 63 x y (.agg p.vals.toArray) (.agg q.vals.toArray); binOp .eql 63 (.agg p.vals.toArray) (.agg q.vals.toArray) : Sem Value).run Tryz.prog w = .ok (.bool (decide (p = q))) w := by
  obtain ⟨a1, a2, a3, a4, a5, a6, a7, a8, a9, a10, a11⟩ := p
  obtain ⟨b1, b2, b3, b4, b5, b6, b7, b8, b9, b10, b11⟩ := q
  unfold It.vals
  simp only [It.mk.injEq]
  by_cases h1 : a1 = b1
  · by_cases h2 : a2 = b2
    · by_cases h3 : a3 = b3
      · by_cases h4 : a4 = b4
        · by_cases h5 : a5 = b5
          · by_cases h6 : a6 = b6
            · by_cases h7 : a7 = b7
              · by_cases h8 : a8 = b8
                · by_cases h9 : a9 = b9
                  · by_cases h10 : a10 = b10
                    · by_cases h11 : a11 = b11
                      · subst h1 h2 h3 h4 h5 h6 h7 h8 h9 h10 h11; go_simp
                      · subst h1 h2 h3 h4 h5 h6 h7 h8 h9 h10; go_simp; first | done | simp [h11]
                    · subst h1 h2 h3 h4 h5 h6 h7 h8 h9; go_simp; first | done | simp [h10]
                  · subst h1 h2 h3 h4 h5 h6 h7 h8; go_simp; first | done | simp [h9, bytes_same] | (intro h'; exact h9 (bytes_same.1 h'))
                · subst h1 h2 h3 h4 h5 h6 h7; go_simp; first | done | simp [h8]
              · subst h1 h2 h3 h4 h5 h6; go_simp; first | done | simp [h7]
            · subst h1 h2 h3 h4 h5; go_simp; first | done | simp [h6]
          · subst h1 h2 h3 h4; go_simp; first | done | simp [h5]
        · subst h1 h2 h3; go_simp; first | done | simp [h4]
      · subst h1 h2; go_simp; first | done | simp [h3]
    · subst h1; go_simp; first | done | simp [h2, bytes_same] | (intro h'; exact h2 (bytes_same.1 h'))
  · go_simp; first | done | simp [h1]
/-- the fields of its kind alone -/
def bareIt (x : It) : It := match x with
  | ⟨kind, k, a, v, m, n, lo, hi, rk, rn, rv⟩ =>
    if kind = 1 then ⟨kind, k, a, v, 0, 0, 0, 0, .empty, 0, 0⟩
    else if kind = 2 then ⟨kind, .empty, 0, 0, m, 0, 0, 0, .empty, 0, 0⟩
    else if kind = 4 then ⟨kind, .empty, 0, 0, 0, n, 0, 0, .empty, 0, 0⟩
    else if kind = 5 then ⟨kind, .empty, 0, 0, 0, 0, lo, hi, rk, rn, rv⟩
    else ⟨kind, .empty, 0, 0, 0, 0, 0, 0, .empty, 0, 0⟩
def bareOk (x : It) : Bool := match x with
  | ⟨kind, k, a, v, m, n, lo, hi, rk, rn, rv⟩ =>
    if kind = 1 then evR k a
    else if kind = 2 then decide (0 ≤ m) && decide (m ≤ 1099511627776)
    else if kind = 3 then true
    else if kind = 4 then decide (1 ≤ n) && decide (n ≤ 1073741824)
    else if kind = 5 then resR lo hi rk rn
    else false
theorem itR_bare (x : It) : itR x = (bareOk x && decide (bareIt x = x)) := by
  obtain ⟨kind, k, a, v, m, n, lo, hi, rk, rn, rv⟩ := x
  simp only [itR, bareOk, bareIt]
  split
  · subst kind
    simp only [It.mk.injEq, noR]
    rw [Bool.eq_iff_iff]
    simp only [Bool.and_eq_true, decide_eq_true_eq]
    constructor
    · rintro ⟨h1, h2, ⟨h3, h4, h5, h6, h7⟩, h8⟩; simp [*]
    · rintro ⟨h1, _, _, _, _, h2, h3, h4, h5, h6, h7, h8⟩; exact ⟨h2.symm, h3.symm, ⟨h4.symm, h5.symm, h6.symm, h7.symm, h8.symm⟩, h1⟩
  split
  · subst kind
    simp only [It.mk.injEq, noR, noE]
    rw [Bool.eq_iff_iff]
    simp only [Bool.and_eq_true, decide_eq_true_eq]
    constructor
    · rintro ⟨⟨h1, h2, h2'⟩, h3, ⟨h4, h5, h6, h7, h8⟩, h9, h10⟩; simp [*]
    · rintro ⟨⟨h9, h10⟩, _, h1, h2, h2', _, h3, h4, h5, h6, h7, h8⟩; exact ⟨⟨h1.symm, h2.symm, h2'.symm⟩, h3.symm, ⟨h4.symm, h5.symm, h6.symm, h7.symm, h8.symm⟩, h9, h10⟩
  split
  · subst kind
    simp only [It.mk.injEq, noR, noE]
    rw [Bool.eq_iff_iff]
    simp only [Bool.and_eq_true, decide_eq_true_eq]
    simp only [show ¬ (3 : Int) = 4 by decide, show ¬ (3 : Int) = 5 by decide, if_false, It.mk.injEq, true_and]
    constructor
    · rintro ⟨⟨h1, h2, h2'⟩, h3, h4, h5, h6, h7, h8, h9⟩; simp [*]
    · rintro ⟨h1, h2, h2', h3, h4, h5, h6, h7, h8, h9⟩; exact ⟨⟨h1.symm, h2.symm, h2'.symm⟩, h3.symm, h4.symm, h5.symm, h6.symm, h7.symm, h8.symm, h9.symm⟩
  split
  · subst kind
    simp only [It.mk.injEq, noR, noE]
    rw [Bool.eq_iff_iff]
    simp only [Bool.and_eq_true, decide_eq_true_eq]
    constructor
    · rintro ⟨⟨h1, h2, h2'⟩, h3, ⟨h4, h5, h6, h7, h8⟩, h9, h10⟩; simp [*]
    · rintro ⟨⟨h9, h10⟩, _, h1, h2, h2', h3, _, h4, h5, h6, h7, h8⟩; exact ⟨⟨h1.symm, h2.symm, h2'.symm⟩, h3.symm, ⟨h4.symm, h5.symm, h6.symm, h7.symm, h8.symm⟩, h9, h10⟩
  split
  · subst kind
    simp only [It.mk.injEq, noR, noE]
    rw [Bool.eq_iff_iff]
    simp only [Bool.and_eq_true, decide_eq_true_eq]
    constructor
    · rintro ⟨⟨h1, h2, h2'⟩, h3, h4, h5⟩; simp [*]
    · rintro ⟨h5, _, h1, h2, h2', h3, h4, _⟩; exact ⟨⟨h1.symm, h2.symm, h2'.symm⟩, h3.symm, h4.symm, h5⟩
  · simp
def iTup (b : It) (o : Bool) : AV := .tup [.agg b.av, .v (.bool o)]
set_option maxHeartbeats 2000000 in
theorem i_bare (x : It) : PC Tryz.prog 95 [.agg x.av] (iTup (bareIt x) (bareOk x)) := by
  obtain ⟨kind, k, a, v, m, n, lo, hi, rk, rn, rv⟩ := x
  have h1 := p_Event k a v
  have h2 := p_iresult lo hi rk rn rv
  simp only [bareIt, bareOk, iTup, It.av]
  by_cases k1 : kind = 1
  · subst k1
    simp only [if_true]
    refine PC.mk (ac_body tab_ok Tryz.func95 rfl (by kernel_rfl) rfl ?_); intro w0 M μ0; simp only [Tryz.ntmps95, List.length_cons, List.length_nil, Nat.reduceAdd, Nat.reduceSub, numb]
    repeat' (first | ((first | apply o_do | apply d_do | apply d_yes rfl rfl rfl); first | exact lsc (h1) | exact lsq) | refine a_seq ?_ | refine a_region ?_ | refine o_nil ?_ | refine a_block ?_ | refine a_ret ?_ | refine a_exit ?_ | refine a_skip ?_ | refine a_draw mixed ?_ | refine d_nil (by kernel_rfl) ?_ | refine o_yes rfl rfl rfl ?_ | refine o_no rfl rfl rfl (by decide) ?_ | refine o_no' rfl rfl rfl ?_ | refine a_condT rfl ?_ | refine a_condF rfl ?_ | refine d_no rfl rfl rfl (by decide) ?_ | refine d_no' rfl rfl rfl ?_ | (refine wq2 (fun hb => ?_) (fun hb => ?_) <;> (simp only [hb]; try simp only [hbs, ne_eq] at hb; try (exfalso; first | omega | exact hb trivial))) | fail)
    all_goals refine rq rfl ?_
    all_goals exact fnq
  by_cases k2 : kind = 2
  · subst k2
    simp only [show ¬ (2 : Int) = 1 by decide, if_true, if_false]
    refine PC.mk (ac_body tab_ok Tryz.func95 rfl (by kernel_rfl) rfl ?_); intro w0 M μ0; simp only [Tryz.ntmps95, List.length_cons, List.length_nil, Nat.reduceAdd, Nat.reduceSub, numb]
    repeat' (first | ((first | apply o_do | apply d_do | apply d_yes rfl rfl rfl); exact lsq) | refine a_seq ?_ | refine a_region ?_ | refine o_nil ?_ | refine a_block ?_ | refine a_ret ?_ | refine a_exit ?_ | refine a_skip ?_ | refine a_draw mixed ?_ | refine d_nil (by kernel_rfl) ?_ | refine o_yes rfl rfl rfl ?_ | refine o_no rfl rfl rfl (by decide) ?_ | refine o_no' rfl rfl rfl ?_ | refine a_condT rfl ?_ | refine a_condF rfl ?_ | refine d_no rfl rfl rfl (by decide) ?_ | refine d_no' rfl rfl rfl ?_ | (refine wq2 (fun hb => ?_) (fun hb => ?_) <;> (simp only [hb]; try simp only [hbs, ne_eq] at hb; try (exfalso; first | omega | exact hb trivial))) | fail)
    all_goals refine rq rfl ?_
    all_goals (first | refine FinA.tup ?_ | refine FinA.one ?_); repeat' (first | exact FinBs.nil | exact FinCs.nil | refine FinBs.cons ?_ ?_ | refine FinCs.cons ?_ ?_ | refine FinB.cell (FinC.v ?_) | refine FinB.cell (FinC.own rfl rfl rfl ?_) | exact FinB.cell FinC.nil | refine FinB.cell (FinC.sl ?_) | exact FinB.agg' rfl rfl | exact FinB.cell (FinC.same rfl) | refine FinB.agg ?_ | refine FinC.v ?_ | refine FinC.own rfl rfl rfl ?_ | exact FinC.nil | refine FinC.sl ?_ | exact FinC.same rfl); all_goals try rfl
    all_goals simp [*]
  by_cases k3 : kind = 3
  · subst k3
    simp only [show ¬ (3 : Int) = 1 by decide, show ¬ (3 : Int) = 2 by decide, show ¬ (3 : Int) = 4 by decide, show ¬ (3 : Int) = 5 by decide, if_true, if_false]
    refine PC.mk (ac_body tab_ok Tryz.func95 rfl (by kernel_rfl) rfl ?_); intro w0 M μ0; simp only [Tryz.ntmps95, List.length_cons, List.length_nil, Nat.reduceAdd, Nat.reduceSub, numb]
    repeat' (first | ((first | apply o_do | apply d_do | apply d_yes rfl rfl rfl); exact lsq) | refine a_seq ?_ | refine a_region ?_ | refine o_nil ?_ | refine a_block ?_ | refine a_ret ?_ | refine a_exit ?_ | refine a_skip ?_ | refine a_draw mixed ?_ | refine d_nil (by kernel_rfl) ?_ | refine o_yes rfl rfl rfl ?_ | refine o_no rfl rfl rfl (by decide) ?_ | refine o_no' rfl rfl rfl ?_ | refine a_condT rfl ?_ | refine a_condF rfl ?_ | refine d_no rfl rfl rfl (by decide) ?_ | refine d_no' rfl rfl rfl ?_ | (refine wq2 (fun hb => ?_) (fun hb => ?_) <;> (simp only [hb]; try simp only [hbs, ne_eq] at hb; try (exfalso; first | omega | exact hb trivial))) | fail)
    all_goals refine rq rfl ?_
    all_goals exact fnq
  by_cases k4 : kind = 4
  · subst k4
    simp only [show ¬ (4 : Int) = 1 by decide, show ¬ (4 : Int) = 2 by decide, show ¬ (4 : Int) = 3 by decide, if_true, if_false]
    refine PC.mk (ac_body tab_ok Tryz.func95 rfl (by kernel_rfl) rfl ?_); intro w0 M μ0; simp only [Tryz.ntmps95, List.length_cons, List.length_nil, Nat.reduceAdd, Nat.reduceSub, numb]
    repeat' (first | ((first | apply o_do | apply d_do | apply d_yes rfl rfl rfl); exact lsq) | refine a_seq ?_ | refine a_region ?_ | refine o_nil ?_ | refine a_block ?_ | refine a_ret ?_ | refine a_exit ?_ | refine a_skip ?_ | refine a_draw mixed ?_ | refine d_nil (by kernel_rfl) ?_ | refine o_yes rfl rfl rfl ?_ | refine o_no rfl rfl rfl (by decide) ?_ | refine o_no' rfl rfl rfl ?_ | refine a_condT rfl ?_ | refine a_condF rfl ?_ | refine d_no rfl rfl rfl (by decide) ?_ | refine d_no' rfl rfl rfl ?_ | (refine wq2 (fun hb => ?_) (fun hb => ?_) <;> (simp only [hb]; try simp only [hbs, ne_eq] at hb; try (exfalso; first | omega | exact hb trivial))) | fail)
    all_goals refine rq rfl ?_
    all_goals (first | refine FinA.tup ?_ | refine FinA.one ?_); repeat' (first | exact FinBs.nil | exact FinCs.nil | refine FinBs.cons ?_ ?_ | refine FinCs.cons ?_ ?_ | refine FinB.cell (FinC.v ?_) | refine FinB.cell (FinC.own rfl rfl rfl ?_) | exact FinB.cell FinC.nil | refine FinB.cell (FinC.sl ?_) | exact FinB.agg' rfl rfl | exact FinB.cell (FinC.same rfl) | refine FinB.agg ?_ | refine FinC.v ?_ | refine FinC.own rfl rfl rfl ?_ | exact FinC.nil | refine FinC.sl ?_ | exact FinC.same rfl); all_goals try rfl
    all_goals simp [*]
  by_cases k5 : kind = 5
  · subst k5
    simp only [show ¬ (5 : Int) = 1 by decide, show ¬ (5 : Int) = 2 by decide, show ¬ (5 : Int) = 3 by decide, show ¬ (5 : Int) = 4 by decide, if_true, if_false]
    refine PC.mk (ac_body tab_ok Tryz.func95 rfl (by kernel_rfl) rfl ?_); intro w0 M μ0; simp only [Tryz.ntmps95, List.length_cons, List.length_nil, Nat.reduceAdd, Nat.reduceSub, numb]
    repeat' (first | ((first | apply o_do | apply d_do | apply d_yes rfl rfl rfl); first | exact lsc (h2) | exact lsq) | refine a_seq ?_ | refine a_region ?_ | refine o_nil ?_ | refine a_block ?_ | refine a_ret ?_ | refine a_exit ?_ | refine a_skip ?_ | refine a_draw mixed ?_ | refine d_nil (by kernel_rfl) ?_ | refine o_yes rfl rfl rfl ?_ | refine o_no rfl rfl rfl (by decide) ?_ | refine o_no' rfl rfl rfl ?_ | refine a_condT rfl ?_ | refine a_condF rfl ?_ | refine d_no rfl rfl rfl (by decide) ?_ | refine d_no' rfl rfl rfl ?_ | (refine wq2 (fun hb => ?_) (fun hb => ?_) <;> (simp only [hb]; try simp only [hbs, ne_eq] at hb; try (exfalso; first | omega | exact hb trivial))) | fail)
    all_goals refine rq rfl ?_
    all_goals exact fnq
  · simp only [k1, k2, k3, k4, k5, if_false]
    refine PC.mk (ac_body tab_ok Tryz.func95 rfl (by kernel_rfl) rfl ?_); intro w0 M μ0; simp only [Tryz.ntmps95, List.length_cons, List.length_nil, Nat.reduceAdd, Nat.reduceSub, numb]
    repeat' (first | ((first | apply o_do | apply d_do | apply d_yes rfl rfl rfl); exact lsq) | refine a_seq ?_ | refine a_region ?_ | refine o_nil ?_ | refine a_block ?_ | refine a_ret ?_ | refine a_exit ?_ | refine a_skip ?_ | refine a_draw mixed ?_ | refine d_nil (by kernel_rfl) ?_ | refine o_yes rfl rfl rfl ?_ | refine o_no rfl rfl rfl (by decide) ?_ | refine o_no' rfl rfl rfl ?_ | refine a_condT rfl ?_ | refine a_condF rfl ?_ | refine d_no rfl rfl rfl (by decide) ?_ | refine d_no' rfl rfl rfl ?_ | (refine wq2 (fun hb => ?_) (fun hb => ?_) <;> (simp only [hb]; try simp only [hbs, ne_eq] at hb; try (exfalso; first | omega | exact hb trivial))) | fail)
    all_goals refine rq rfl ?_
    all_goals exact fnq
set_option maxHeartbeats 2000000 in
theorem i_Right (x : It) : PC Tryz.prog 55 [.agg x.av] (.v (.bool (itR x))) := by
  have h := i_bare x
  rw [itR_bare]
  unfold iTup at h
  cases hb : bareOk x
  all_goals
    rw [hb] at h
    refine PC.mk (ac_body tab_ok Tryz.func55 rfl (by kernel_rfl) rfl ?_); intro w0 M μ0; simp only [Tryz.ntmps55, List.length_cons, List.length_nil, Nat.reduceAdd, Nat.reduceSub, numb]
    repeat' (first | ((first | apply o_do | apply d_do | apply d_yes rfl rfl rfl); first | exact lsc (h) | exact ls_eqA (It.vals (bareIt x)) (It.vals x) (run_eql_It _ _ _ _) rfl rfl rfl rfl rfl | exact lsq) | refine a_seq ?_ | refine a_region ?_ | refine o_nil ?_ | refine a_block ?_ | refine a_ret ?_ | refine a_exit ?_ | refine a_skip ?_ | refine a_draw mixed ?_ | refine d_nil (by kernel_rfl) ?_ | refine o_yes rfl rfl rfl ?_ | refine o_no rfl rfl rfl (by decide) ?_ | refine o_no' rfl rfl rfl ?_ | refine a_condT rfl ?_ | refine a_condF rfl ?_ | refine d_no rfl rfl rfl (by decide) ?_ | refine d_no' rfl rfl rfl ?_ | (refine wq2 (fun hb => ?_) (fun hb => ?_) <;> (simp only [hb]; try simp only [hbs, ne_eq] at hb; try (exfalso; first | omega | exact hb trivial))) | fail)
    all_goals refine rq rfl ?_
    all_goals exact fnq
end Go.Proofs.YtagfjnjpgphnjaaGreat
namespace Go.Proofs.YtagfjnjpgphnjaaGreat
open Go.RowKit
set_option linter.unusedSimpArgs false
set_option linter.unusedVariables false
/-- marks -/
structure Mk where
  ins : List (Int × Bool)
  hs : List (Int × Int)
  out : Int
def inAvM (x : Int × Bool) : List AV := [.v (.int .i64 x.1), .v (.bool x.2)]
def hoAv (x : Int × Int) : List AV := [.v (.int .i64 x.1), .v (.int .i64 x.2)]
def Mk.av (m : Mk) : List AV := [.sl 2 (m.ins.map inAvM), .sl 2 (m.hs.map hoAv), .v (.int .i64 m.out)]
def tmR (t : Int) : Bool := decide (0 ≤ t) && decide (t ≤ 1099511627776)
def hoG (hs : List (Int × Int)) (i : Nat) : Bool := decide (0 ≤ (hs.getD i (0, 0)).1) && (tmR (hs.getD i (0, 0)).2 && (decide (i = 0) || decide ((hs.getD (i - 1) (0, 0)).1 < (hs.getD i (0, 0)).1)))
def mkR (m : Mk) : Bool := decide (1 ≤ m.ins.length) && (decide (m.ins.length ≤ 8) && (decide (m.hs.length ≤ 32) && (tmR m.out && ((List.range m.hs.length).all (hoG m.hs) && m.ins.all fun x => tmR x.1))))
/-- an aligner -/
structure Al where
  n : Int
  got : List Bool
  held : List (List It)
def boAv (b : Bool) : List AV := [.v (.bool b)]
def heAv (l : List It) : List AV := [.sl 11 (l.map It.av)]
def Al.av (a : Al) : List AV := [.v (.int .i64 a.n), .sl 1 (a.got.map boAv), .sl 1 (a.held.map heAv)]
def heG (got : List Bool) (held : List (List It)) (i : Nat) : Bool := decide ((held.getD i []).length ≤ 16) && ((decide ((held.getD i []).length = 0) || got.getD i false) && (held.getD i []).all itR)
def alR (a : Al) : Bool := decide (1 ≤ a.got.length) && (decide (a.got.length ≤ 8) && (decide (a.held.length = a.got.length) && (decide (0 ≤ a.n) && (decide (a.n ≤ 1073741824) && ((a.got.any id == decide (0 < a.n)) && (a.got.any (!·) && (List.range a.held.length).all (heG a.got a.held)))))))
/-- a worker -/
structure Gp where
  no : Int
  mark : Int
  ps : List Pn
def Gp.av (g : Gp) : List AV := [.v (.int .i64 g.no), .v (.int .i64 g.mark), .sl 6 (g.ps.map Pn.av)]
structure Wk where
  gs : List Gp
  mks : Mk
  al : Al
  told : Int
def Wk.av (k : Wk) : List AV := [.sl 3 (k.gs.map Gp.av), .sl 2 (k.mks.ins.map inAvM), .sl 2 (k.mks.hs.map hoAv), .v (.int .i64 k.mks.out), .v (.int .i64 k.al.n), .sl 1 (k.al.got.map boAv), .sl 1 (k.al.held.map heAv), .v (.int .i64 k.told)]
def gpG (gs : List Gp) (i : Nat) : Bool := grR (gs.getD i ⟨0, 0, []⟩).no (gs.getD i ⟨0, 0, []⟩).mark (gs.getD i ⟨0, 0, []⟩).ps && (decide (i = 0) || decide ((gs.getD (i - 1) ⟨0, 0, []⟩).no < (gs.getD i ⟨0, 0, []⟩).no))
def gsR (gs : List Gp) : Bool := (List.range gs.length).all (gpG gs)
def wkR (k : Wk) : Bool := gsR k.gs && (mkR k.mks && (decide (k.mks.hs.length = 0) && (alR k.al && (decide (k.al.got.length = k.mks.ins.length) && (decide (0 ≤ k.told) && decide (k.told ≤ 1099511627776))))))
/-! all of a range -/
theorem rall_snoc (p : Nat → Bool) (q : Nat) : (List.range (q + 1)).all p = ((List.range q).all p && p q) := by
  rw [List.range_succ, List.all_append]; simp
theorem rall_fail {p : Nat → Bool} {n q : Nat} (h : q < n) (hp : p q = false) : (List.range n).all p = false := by
  rw [List.all_eq_false]
  exact ⟨q, List.mem_range.2 h, by simp [hp]⟩
theorem getD_at {α : Type} {l : List α} {i : Nat} {d : α} (h : i < l.length) : l.getD i d = l[i] := by
  simp [List.getD, h]
/-- groups in order are not too many -/
theorem gsR_le {gs : List Gp} (h : gsR gs = true) : gs.length ≤ 32 := by
  have h1 : ∀ i, i < gs.length → gpG gs i = true := fun i hi => List.all_eq_true.1 h i (List.mem_range.2 hi)
  have h2 : ∀ i, i < gs.length → (i : Int) ≤ (gs.getD i ⟨0, 0, []⟩).no := by
    intro i
    induction i with
    | zero =>
      intro hi
      have := h1 0 hi
      simp only [gpG, grR, Bool.and_eq_true, decide_eq_true_eq] at this
      have := this.1.1
      simpa using this
    | succ i ih =>
      intro hi
      have h3 := ih (by omega)
      have := h1 (i + 1) hi
      simp only [gpG, Bool.and_eq_true, Bool.or_eq_true, decide_eq_true_eq, Nat.add_sub_cancel] at this
      rcases this.2 with h4 | h4
      · omega
      · omega
  rcases Nat.lt_or_ge 32 gs.length with hlt | hge
  · have h3 := h2 32 hlt
    have h4 := h1 32 hlt
    simp only [gpG, grR, Bool.and_eq_true, decide_eq_true_eq] at h4
    have := h4.1.2.1
    omega
  · exact hge
end Go.Proofs.YtagfjnjpgphnjaaGreat
namespace Go.Proofs.YtagfjnjpgphnjaaGreat
open Go.RowKit
set_option linter.unusedSimpArgs false
set_option linter.unusedVariables false
section
variable {P : Program} {T : List TyI} {Γ : Ctx} {s : ASt} {μ : Nat → Value} {w : World} {dst : Option Tmp} {ty : TypeId} {pos : String} {after : Array Edge}
theorem run_callB {f : FuncId} (h : CallOK P f) {c : Operand} {args : Array Operand} {argTypes : Array TypeId} {a : Act} {fs ks : List Value} (hc : a.eval c = .func (.func f) fs.toArray ks.toArray) : (execOp a.eval ⟨dst, .call { callee := .value c, args := args, argTypes := argTypes }, ty, pos, after, none⟩).run P w = .ok (.enter f (fs ++ args.toList.map a.eval ++ ks).toArray) w := by
  obtain ⟨fn, h1, h2, h3⟩ := h
  have h4 : args.map a.eval = (args.toList.map a.eval).toArray := by simp [← Array.toList_map]
  have h2' : ¬ fn.name = "runtime.NumGoroutine" := by simpa using h2
  have h3' : fn.body ≠ none := by
    intro h; rw [h] at h3; cases h3
  simp [execOp, resolve, hc, Deferred.ofValue, invoke, callFunc, h1, h2', h3', h4]
theorem Rel.calleeB {t : ASt} {a : Act} (hr : Rel Γ t μ a w) {c : Operand} {f : FuncId} {first caps : List AV} (h : Proofs.YtagfjnjpgphnjaaGreat.ev t c = some (.clo (.func f) first caps)) : ∃ fs ks : List Value, a.eval c = .func (.func f) fs.toArray ks.toArray ∧ repL t.σ μ w (av t.σ μ Γ.M) first fs ∧ repL t.σ μ w (av t.σ μ Γ.M) caps ks := by
  have h1 := hr.ev h
  simp only [rep] at h1
  obtain ⟨us, ks, h2, h3, h4⟩ := h1
  exact ⟨us, ks, h2, h3, h4⟩
/-- A pointer into a box is not nil. -/
theorem ls_nilCheck {x : Operand} {id off : Nat} (hx : ev s x = some (.ref id off)) (hd : okDst Γ.n dst = true) :
    LS P Γ ⟨dst, .nilCheck x, ty, pos, after, none⟩ s (rd x []) (dst1 dst (.ref id off)) [] :=
  ls_pure hd fun t' ht μ a w hr => by
    obtain ⟨e1, ht⟩ := ht.ev hx
    have e1 := hr.ev e1
    simp only [rep] at e1 ⊢
    obtain ⟨t, cs, g, h1, h2, h3, h4⟩ := e1
    refine ⟨.pointer (some ⟨g, off, none⟩), ?_, t, cs, g, h1, h2, h3, rfl⟩
    simp [execOp, h4]
theorem ls_callAB {f : FuncId} {args : Array Operand} {argTypes : Array TypeId} {c : Operand} {first vs us caps : List AV} {r : AV} {σc σc' : Store} (l : List Nat) (b : Nat) (h : AC P f us σc r σc') (hc : ev s c = some (.clo (.func f) first caps)) (hargs : evL s args.toList = some vs) (hn : NilL (first ++ vs ++ caps) (us.map (renB (rho l b)))) (hcl : us.all (closB σc) = true)
    (hpass : Pass (rho l b) s σc) (hco : σc.all (fun p => closO σc p.2) = true) (hinj : injB (rho l b) (σc.map Prod.fst) = true) (hinj' : injB (rho l b) (σc'.map Prod.fst) = true)
    (hnew : σc'.all (fun p => has σc p.1 || !has s.σ (rho l b p.1)) = true) (hcr : closA σc' r = true) (hco' : σc'.all (fun p => closO σc' p.2) = true) (hd : okDst Γ.n dst = true) :
    LS P Γ ⟨dst, .call { callee := .value c, args := args, argTypes := argTypes }, ty, pos, after, none⟩ s (rd c (rdL args.toList (objs (rho l b) σc ++ (objs (rho l b) σc' ++ [])))) (dst1 dst (renA (rho l b) r)) (σc'.map fun p => (rho l b p.1, renO (rho l b) p.2)) := by
  refine ⟨fun t ht Q μ a w hr K hK => ?_⟩
  generalize hρ : rho l b = ρ at *
  obtain ⟨h0, ht⟩ := ht.ev hc
  obtain ⟨fs, ks, hks, hfs, h0⟩ := hr.calleeB h0
  obtain ⟨h1, ht⟩ := ht.evL hr hargs
  have h1 := repL_append (repL_append hfs h1) h0
  obtain ⟨hag, ht⟩ := ht.objs
  obtain ⟨hag', _⟩ := ht.objs
  have hp : ∀ id o, find σc id = some o → find t.σ (ρ id) = some (renO ρ o) := fun id o hf => (hag id o hf).trans (hpass.at_ hf)
  have hfr : ∀ id o, find σc' id = some o → has σc id = true ∨ find t.σ (ρ id) = none := by
    intro id o hf
    have h2 := List.all_eq_true.1 hnew _ (find_mem hf)
    simp only [Bool.or_eq_true, Bool.not_eq_true'] at h2
    rcases h2 with h2 | h2
    · exact .inl h2
    · right
      rw [hag' id o hf]
      unfold has at h2
      split at h2
      · cases h2
      · assumption
  have hsrel := hr.store
  have hinto : Into ρ σc (fun i => μ (ρ i)) t.σ μ := ⟨hp, fun _ _ _ => rfl⟩
  obtain ⟨Mc, hMc⟩ : ∃ Mc : Nat → Prop, Mc = fun b => Γ.M b ∨ ∃ id o, find t.σ id = some o ∧ blk (μ id) = some b ∧ ∀ i, has σc i = true → ρ i ≠ id := ⟨_, rfl⟩
  have hav : ∀ b, ¬ av t.σ μ Γ.M b → ¬ av σc (fun i => μ (ρ i)) Mc b := by
    intro b hb hc
    rcases hc with hc | ⟨id, o, h2, h3⟩
    · rw [hMc] at hc
      rcases hc with hc | ⟨id, o, h2, h3, _⟩
      · exact hb (.inl hc)
      · exact hb (.inr ⟨id, o, h2, h3⟩)
    · exact hb (.inr ⟨ρ id, _, hp id o h2, h3⟩)
  have hsc : SRel σc (fun i => μ (ρ i)) w Mc := by
    refine ⟨fun id o hf => ?_, fun id id' o o' g h2 h3 h4 h5 => ?_, fun b hb => ?_, fun id o b h2 h3 hc => ?_⟩
    · have h2 := hsrel.obj _ _ (hp id o hf)
      have h3 := List.all_eq_true.1 hco _ (find_mem hf)
      cases o with
      | box bt cs =>
        obtain ⟨g, us', h4, h5, h6⟩ := h2
        exact ⟨g, us', h4, h5, repC_back hinto hav h3 h6⟩
      | row e size xs =>
        obtain ⟨us', h4, h5⟩ := h2
        exact ⟨us', h4, repLL_mono (Step.same_world hav) h5⟩
      | mp es => exact h2
    · have := hsrel.inj _ _ _ _ g (hp id o h2) (hp id' o' h3) h4 h5
      exact injB_inj hinj id (find_some_iff.2 ⟨o, h2⟩) id' (find_some_iff.2 ⟨o', h3⟩) this
    · rw [hMc] at hb
      rcases hb with hb | ⟨id, o, h2, h3, _⟩
      · exact hsrel.lt b hb
      · exact ObjRel.lt hsrel h2 h3
    · rw [hMc] at hc
      rcases hc with hc | ⟨id', o', h4, h5, h6⟩
      · exact hsrel.dis _ _ b (hp id o h2) h3 hc
      · exact h6 id (has_of h2) (hsrel.inj _ _ _ _ b (hp id o h2) h4 h3 h5)
  have hargs2 : repL σc (fun i => μ (ρ i)) w (av σc (fun i => μ (ρ i)) Mc) us (fs ++ args.toList.map a.eval ++ ks) := repL_back_B hinto hav hcl (repL_nil hn h1)
  have h3 := h.out w Mc _ _ hsc hargs2
  unfold Oper.wp
  rw [run_callB h.ok hks]
  refine Calls.mono h3 ?_
  rintro e w' ⟨y, μ', rfl, hs', hry, hg⟩
  obtain ⟨μ'', hμ''⟩ : ∃ μ'' : Nat → Value, μ'' = fun i => match inv ρ σc' i with | some j => μ' j | none => μ i := ⟨_, rfl⟩
  have hμs : ∀ i j, inv ρ σc' i = some j → μ'' i = μ' j := fun i j h => by rw [hμ'']; simp only [h]
  have hμn : ∀ i, inv ρ σc' i = none → μ'' i = μ i := fun i h => by rw [hμ'']; simp only [h]
  have hkeep : ∀ i, has σc i = true → has σc' i = true := by
    intro i hi
    obtain ⟨o, ho⟩ := has_iff hi
    cases o with
    | box bt cs => obtain ⟨cs', h4, _⟩ := hg.box i bt cs ho; exact has_of h4
    | row e size xs => obtain ⟨xs', h4, _⟩ := hg.row i e size xs ho; exact has_of h4
    | mp es => obtain ⟨es', h4, _⟩ := hg.mp i es ho; exact has_of h4
  have hinv : ∀ j, has σc' j = true → inv ρ σc' (ρ j) = some j := by
    intro j hj
    cases hv : inv ρ σc' (ρ j) with
    | none => exact absurd rfl ((inv_none hv).1 j hj)
    | some j' =>
      obtain ⟨h4, h5⟩ := inv_some hv
      obtain ⟨o, ho⟩ := has_iff hj
      obtain ⟨o', ho'⟩ := has_iff h5
      rw [injB_inj hinj' j (find_some_iff.2 ⟨o, ho⟩) j' (find_some_iff.2 ⟨o', ho'⟩) h4]
  obtain ⟨σ'', hσ''⟩ : ∃ σ'' : Store, σ'' = (σc'.map fun p => (ρ p.1, renO ρ p.2)) ++ t.σ := ⟨_, rfl⟩
  have hfs : ∀ i j o, inv ρ σc' i = some j → find σc' j = some o → find σ'' i = some (renO ρ o) := by
    intro i j o h4 h5
    obtain ⟨rfl, _⟩ := inv_some h4
    rw [hσ'', find_app, find_map_ren hinj' h5]
  have hfn : ∀ i, inv ρ σc' i = none → find σ'' i = find t.σ i := by
    intro i h4
    rw [hσ'', find_app, (inv_none h4).2]
  have hinto' : Into ρ σc' μ' σ'' μ'' := ⟨fun id o hf => hfs _ _ _ (hinv id (has_of hf)) hf, fun id o hf => hμs _ _ (hinv id (has_of hf))⟩
  have hfs' : ∀ i j o, inv ρ σc' i = some j → find σ'' i = some o → ∃ o', find σc' j = some o' ∧ o = renO ρ o' := by
    intro i j o h4 h5
    obtain ⟨_, h6⟩ := inv_some h4
    obtain ⟨o', ho'⟩ := has_iff h6
    rw [hfs i j o' h4 ho'] at h5
    injection h5 with h5
    exact ⟨o', ho', h5.symm⟩
  have hav' : ∀ b, ¬ av σc' μ' Mc b → ¬ av σ'' μ'' Γ.M b := by
    intro b hb hc
    rcases hc with hc | ⟨id, o, h4, h5⟩
    · exact hb (.inl (by rw [hMc]; exact .inl hc))
    · cases hv : inv ρ σc' id with
      | some j =>
        obtain ⟨o', h6, _⟩ := hfs' id j o hv h4
        rw [hμs id j hv] at h5
        exact hb (.inr ⟨j, o', h6, h5⟩)
      | none =>
        rw [hfn id hv] at h4
        rw [hμn id hv] at h5
        exact hb (.inl (by rw [hMc]; exact .inr ⟨id, o, h4, h5, fun i hi => (inv_none hv).1 i (hkeep i hi)⟩))
  have hgro : Gro t.σ μ w σ'' μ'' w' := by
    refine ⟨hg.os, hg.tape, hg.output, hg.size, fun b hl hn => hg.same b hl (fun id o hf => hn _ _ (hp id o hf)), fun id o b hf hb hl => ?_, fun id bt cs hf => ?_, fun id e size xs hf => ?_, fun id es hf => ?_⟩
    · cases hv : inv ρ σc' id with
      | some j =>
        obtain ⟨o', h6, _⟩ := hfs' id j o hv hf
        rw [hμs id j hv] at hb
        obtain ⟨id0, o0, h7, h8⟩ := hg.fresh j o' b h6 hb hl
        exact ⟨ρ id0, _, hp id0 o0 h7, h8⟩
      | none =>
        rw [hfn id hv] at hf
        rw [hμn id hv] at hb
        exact ⟨id, o, hf, hb⟩
    · cases hv : inv ρ σc' id with
      | some j =>
        obtain ⟨rfl, h5⟩ := inv_some hv
        obtain ⟨o', ho'⟩ := has_iff h5
        rcases hfr j o' ho' with h6 | h6
        · obtain ⟨oc, hoc⟩ := has_iff h6
          have h7 := hp j oc hoc
          rw [hf] at h7; injection h7 with h7
          cases oc with
          | row _ _ _ => cases h7
          | mp _ => cases h7
          | box bt0 cs0 =>
            simp only [renO] at h7
            injection h7 with h8 h9; subst h8 h9
            obtain ⟨cs', h10, h11, h12⟩ := hg.box j _ _ hoc
            exact ⟨_, hfs _ j _ hv h10, by simp [h11], (hμs _ j hv).trans h12⟩
        · rw [hf] at h6; cases h6
      | none => exact ⟨cs, by rw [hfn id hv]; exact hf, rfl, hμn id hv⟩
    · cases hv : inv ρ σc' id with
      | some j =>
        obtain ⟨rfl, h5⟩ := inv_some hv
        obtain ⟨o', ho'⟩ := has_iff h5
        rcases hfr j o' ho' with h6 | h6
        · obtain ⟨oc, hoc⟩ := has_iff h6
          have h7 := hp j oc hoc
          rw [hf] at h7; injection h7 with h7
          cases oc with
          | box _ _ => cases h7
          | mp _ => cases h7
          | row e0 n0 xs0 =>
            simp only [renO] at h7
            injection h7 with h8 h9 h10; subst h8 h9 h10
            obtain ⟨xs', h10, h11, h12⟩ := hg.row j _ _ _ hoc
            exact ⟨_, hfs _ j _ hv h10, h11, fun hl => (hμs _ j hv).trans (h12 hl)⟩
        · rw [hf] at h6; cases h6
      | none => exact ⟨xs, by rw [hfn id hv]; exact hf, Nat.le_refl _, fun _ => hμn id hv⟩
    · cases hv : inv ρ σc' id with
      | some j =>
        obtain ⟨rfl, h5⟩ := inv_some hv
        obtain ⟨o', ho'⟩ := has_iff h5
        rcases hfr j o' ho' with h6 | h6
        · obtain ⟨oc, hoc⟩ := has_iff h6
          have h7 := hp j oc hoc
          rw [hf] at h7; injection h7 with h7
          cases oc with
          | box _ _ => cases h7
          | row _ _ _ => cases h7
          | mp es0 =>
            obtain ⟨es', h10, h12⟩ := hg.mp j _ hoc
            exact ⟨es', hfs _ j _ hv h10, (hμs _ j hv).trans h12⟩
        · rw [hf] at h6; cases h6
      | none => exact ⟨es, by rw [hfn id hv]; exact hf, hμn id hv⟩
  have hst : Step t.σ μ w (av t.σ μ Γ.M) σ'' μ'' w' (av σ'' μ'' Γ.M) := hgro.step
  have hkeepblk : ∀ id o b, inv ρ σc' id = none → find t.σ id = some o → blk (μ id) = some b → w'.heap[b]? = w.heap[b]? := by
    intro id o b hv hf hb
    refine hg.same b (ObjRel.lt hsrel hf hb) (fun id' o' hf' hb' => ?_)
    exact (inv_none hv).1 id' (hkeep id' (has_of hf')) (hsrel.inj _ _ _ _ b (hp id' o' hf') hf hb' hb)
  have hsrel'' : SRel σ'' μ'' w' Γ.M := by
    refine ⟨fun id o hf => ?_, fun id id' o o' g h4 h5 h6 h7 => ?_, fun b hb => Nat.lt_of_lt_of_le (hsrel.lt b hb) hg.size, fun id o b h4 h5 hc => ?_⟩
    · cases hv : inv ρ σc' id with
      | some j =>
        obtain ⟨o', h6, rfl⟩ := hfs' id j o hv hf
        have h7 := hs'.obj j o' h6
        have h8 := List.all_eq_true.1 hco' _ (find_mem h6)
        cases o' with
        | box bt cs =>
          obtain ⟨g, us', h9, h10, h11⟩ := h7
          exact ⟨g, us', (hμs id j hv).trans h9, h10, repC_ren hinto' hav' h8 h11⟩
        | row e size xs =>
          obtain ⟨us', h9, h10⟩ := h7
          refine ⟨us', by rw [hμs id j hv]; exact h9, repLL_mono (Step.same_world hav') h10⟩
        | mp es =>
          obtain ⟨g, ents, ck, h9, h10, h11⟩ := h7
          exact ⟨g, ents, ck, (hμs id j hv).trans h9, h10, h11⟩
      | none =>
        rw [hfn id hv] at hf
        have h7 := hsrel.obj id o hf
        cases o with
        | box bt cs =>
          obtain ⟨g, us', h9, h10, h11⟩ := h7
          exact ⟨g, us', (hμn id hv).trans h9, (hkeepblk id _ g hv hf (by rw [h9]; rfl)).trans h10, repC_mono hst h11⟩
        | row e size xs =>
          obtain ⟨us', h9, h10⟩ := h7
          refine ⟨us', ⟨h9.1, ?_⟩, repLL_mono hst.pure h10⟩
          rw [hμn id hv]
          rcases h9.2 with h11 | ⟨g, cap, cur, h11, h12, h13, h14⟩
          · exact .inl h11
          · exact .inr ⟨g, cap, cur, h11, h12, (hkeepblk id _ g hv hf (by rw [h11]; rfl)).trans h13, h14⟩
        | mp es =>
          obtain ⟨g, ents, ck, h9, h10, h11⟩ := h7
          exact ⟨g, ents, ck, (hμn id hv).trans h9, (hkeepblk id _ g hv hf (by rw [h9]; rfl)).trans h10, h11⟩
    · cases hv : inv ρ σc' id with
      | some j =>
        obtain ⟨o1, h8, _⟩ := hfs' id j o hv h4
        rw [hμs id j hv] at h6
        cases hv' : inv ρ σc' id' with
        | some j' =>
          obtain ⟨o2, h9, _⟩ := hfs' id' j' o' hv' h5
          rw [hμs id' j' hv'] at h7
          rw [(inv_some hv).1, (inv_some hv').1, hs'.inj j j' o1 o2 g h8 h9 h6 h7]
        | none =>
          rw [hfn id' hv'] at h5
          rw [hμn id' hv'] at h7
          exact (hs'.dis j o1 g h8 h6 (by rw [hMc]; exact .inr ⟨id', o', h5, h7, fun i hi => (inv_none hv').1 i (hkeep i hi)⟩)).elim
      | none =>
        rw [hfn id hv] at h4
        rw [hμn id hv] at h6
        cases hv' : inv ρ σc' id' with
        | some j' =>
          obtain ⟨o2, h9, _⟩ := hfs' id' j' o' hv' h5
          rw [hμs id' j' hv'] at h7
          exact (hs'.dis j' o2 g h9 h7 (by rw [hMc]; exact .inr ⟨id, o, h4, h6, fun i hi => (inv_none hv).1 i (hkeep i hi)⟩)).elim
        | none =>
          rw [hfn id' hv'] at h5
          rw [hμn id' hv'] at h7
          exact hsrel.inj id id' o o' g h4 h5 h6 h7
    · cases hv : inv ρ σc' id with
      | some j =>
        obtain ⟨o1, h8, _⟩ := hfs' id j o hv h4
        rw [hμs id j hv] at h5
        exact hs'.dis j o1 b h8 h5 (by rw [hMc]; exact .inl hc)
      | none =>
        rw [hfn id hv] at h4
        rw [hμn id hv] at h5
        exact hsrel.dis id o b h4 h5 hc
  have hrel2 := hr.goes hgro hsrel''
  have hfin := hrel2.put hd (x := renA ρ r) (y := y) (rep_ren hinto' hav' hcr hry)
  refine hK μ'' _ _ ?_
  subst hσ''
  exact hfin
end
end Go.Proofs.YtagfjnjpgphnjaaGreat
namespace Go.Proofs.YtagfjnjpgphnjaaGreat
open Go.RowKit
set_option linter.unusedSimpArgs false
set_option linter.unusedVariables false
structure Et where
  key : ByteArray
  at' : Int
  v : Int
def Et.av (e : Et) : List AV := [.v (.string e.key), .v (.int .i64 e.at'), .v (.int .i64 e.v)]
def Et.cells (e : Et) : List Value := [.string e.key, .int .i64 e.at', .int .i64 e.v]
section
variable {s d t mark : Int}
theorem winK_hi (h : okT s d t = true) {k : Int} (h0 : 0 ≤ k) (h1 : k ≤ lastK d t) : (winK s d k).hi = min (k * d + s) 1099511627776 := by
  obtain ⟨⟨h2, h3, h4, h5⟩, h6, h7⟩ := okT_iff.1 h
  have e := (last_iff h2 k).1 h1
  have e2 := Int.mul_nonneg h0 (show 0 ≤ d by omega)
  exact addT_eq e2 (by omega) (by omega) (by omega)
theorem winL_get (h : okT s d t = true) {i : Nat} (hi : i < cntK s d t) : (winL s d t)[i]? = some (winK s d (firstK s d t + (i : Int))) := by
  unfold winL
  rw [if_pos h, List.getElem?_map, List.getElem?_range hi]
  rfl
theorem winL_length (h : okT s d t = true) : (winL s d t).length = cntK s d t := by
  unfold winL
  rw [if_pos h]; simp
end
section
variable {s d k no mark : Int}
theorem win_may {t : Int} (h : okT s d t = true) {w : Wn} (hw : w ∈ winL s d t) : 0 ≤ w.lo ∧ w.lo < w.hi ∧ w.hi ≤ 1099511627776 := by
  obtain ⟨i, hi, rfl⟩ := List.getElem_of_mem hw
  rw [winL_length h] at hi
  have h2 := winL_get h hi
  rw [List.getElem?_eq_getElem (by rw [winL_length h]; exact hi)] at h2
  injection h2 with h2
  rw [h2]
  obtain ⟨⟨q1, q2, q3, q4⟩, q5, q6⟩ := okT_iff.1 h
  have hc := cntK_eq h
  have f0 := first_nonneg s d t
  rw [winK_hi h (by omega) (by omega)]
  have e1 := (first_iff (size := s) (t := t) q1 (firstK s d t + (i : Int))).1 (by omega)
  have e2 := (last_iff (t := t) q1 (firstK s d t + (i : Int))).1 (by omega)
  have e3 : (winK s d (firstK s d t + (i : Int))).lo = (firstK s d t + (i : Int)) * d := rfl
  have e4 := Int.mul_nonneg (show 0 ≤ firstK s d t + (i : Int) by omega) (show 0 ≤ d by omega)
  rw [e3]
  omega
theorem takeW_fold (hk : fRight k = true) {key : ByteArray} {v : Int} : ∀ {ws : List Wn} {ps : List Pn}, rightL ps = true → (∀ w ∈ ws, mayB (oneP k w.lo w.hi key v) = true) →
    takeW k key v ps ws = match (ws.map fun w => oneP k w.lo w.hi key v).foldlM (putL k) ps with | some r => (r, 0) | none => ([], 3)
  | [], ps, _, _ => rfl
  | w :: ws, ps, hr, hm => by
    have hx := hm w List.mem_cons_self
    have hadd : addR k ps (oneP k w.lo w.hi key v) = putR k ps (oneP k w.lo w.hi key v) := by simp [addR, hr, hk, hx]
    unfold takeW
    rw [hadd, List.map_cons, List.foldlM_cons]
    unfold putR
    cases hp : putL k ps (oneP k w.lo w.hi key v) with
    | none => simp
    | some l =>
      simp only [if_true]
      rw [takeW_fold hk (putL_right hp hr hx) (fun w' h => hm w' (List.mem_cons_of_mem _ h))]
      rfl
end
end Go.Proofs.YtagfjnjpgphnjaaGreat
namespace Go.Proofs.YtagfjnjpgphnjaaGreat
open Go.RowKit
set_option linter.unusedSimpArgs false
set_option linter.unusedVariables false
def jobOK (g s d k fu li de id : Int) : Bool := decide (1 ≤ g) && (decide (g ≤ 32) && (winB s d && (fRight k && (decide (0 ≤ fu) && (decide (fu ≤ 40) && (decide (0 ≤ li) && (decide (0 ≤ de) && (decide (de ≤ 1099511627776) && (decide (0 ≤ id) && decide (id ≤ 1048576))))))))))
set_option maxHeartbeats 2000000 in
theorem j_Right (g s d k fu li de id : Int) : PC Tryz.prog 43 [.agg [.v (.int .i64 g), .v (.int .i64 s), .v (.int .i64 d), .v (.int .i64 k), .v (.int .i64 fu), .v (.int .i64 li), .v (.int .i64 de), .v (.int .i64 id)]] (.v (.bool (jobOK g s d k fu li de id))) := by
  have h1 := p_wRight s d
  have h2 := p_fRight k
  unfold jobOK
  cases hw : winB s d <;> cases hf : fRight k
  all_goals
    rw [hw] at h1
    rw [hf] at h2
    refine PC.mk (ac_body tab_ok Tryz.func43 rfl (by kernel_rfl) rfl ?_); intro w0 M μ0; simp only [Tryz.ntmps43, List.length_cons, List.length_nil, Nat.reduceAdd, Nat.reduceSub, numb]
    repeat' (first | ((first | apply o_do | apply d_do | apply d_yes rfl rfl rfl); first | exact lsc (h1) | exact lsc (h2) | exact lsq) | refine a_seq ?_ | refine a_region ?_ | refine o_nil ?_ | refine a_block ?_ | refine a_ret ?_ | refine a_exit ?_ | refine a_skip ?_ | refine a_draw mixed ?_ | refine d_nil (by kernel_rfl) ?_ | refine o_yes rfl rfl rfl ?_ | refine o_no rfl rfl rfl (by decide) ?_ | refine o_no' rfl rfl rfl ?_ | refine a_condT rfl ?_ | refine a_condF rfl ?_ | refine d_no rfl rfl rfl (by decide) ?_ | refine d_no' rfl rfl rfl ?_ | (refine wq2 (fun hb => ?_) (fun hb => ?_) <;> (simp only [hb]; try simp only [hbs, ne_eq] at hb; try (exfalso; first | omega | exact hb trivial))) | fail)
    all_goals refine rq rfl ?_
    all_goals (first | refine FinA.tup ?_ | refine FinA.one ?_); repeat' (first | exact FinBs.nil | exact FinCs.nil | refine FinBs.cons ?_ ?_ | refine FinCs.cons ?_ ?_ | refine FinB.cell (FinC.v ?_) | refine FinB.cell (FinC.own rfl rfl rfl ?_) | exact FinB.cell FinC.nil | refine FinB.cell (FinC.sl ?_) | exact FinB.agg' rfl rfl | exact FinB.cell (FinC.same rfl) | refine FinB.agg ?_ | refine FinC.v ?_ | refine FinC.own rfl rfl rfl ?_ | exact FinC.nil | refine FinC.sl ?_ | exact FinC.same rfl); all_goals try rfl
    all_goals first | (simp [*]; done) | (simp [*]; omega)
set_option maxHeartbeats 2000000 in
theorem j_rRight (g s d k fu li de id : Int) : PC Tryz.prog 60 [.agg [.v (.int .i64 g), .v (.int .i64 s), .v (.int .i64 d), .v (.int .i64 k), .v (.int .i64 fu), .v (.int .i64 li), .v (.int .i64 de), .v (.int .i64 id)]] (.v (.bool (jobOK g s d k fu li de id))) := by
  have h1 := g_rJob g s d k fu li de id
  unfold jobR at h1
  unfold jobOK
  cases hw : winB s d <;> cases hf : fRight k
  all_goals
    rw [hw, hf] at h1
    refine PC.mk (ac_body tab_ok Tryz.func60 rfl (by kernel_rfl) rfl ?_); intro w0 M μ0; simp only [Tryz.ntmps60, List.length_cons, List.length_nil, Nat.reduceAdd, Nat.reduceSub, numb]
    repeat' (first | ((first | apply o_do | apply d_do | apply d_yes rfl rfl rfl); first | exact lsc (h1) | exact lsq) | refine a_seq ?_ | refine a_region ?_ | refine o_nil ?_ | refine a_block ?_ | refine a_ret ?_ | refine a_exit ?_ | refine a_skip ?_ | refine a_draw mixed ?_ | refine d_nil (by kernel_rfl) ?_ | refine o_yes rfl rfl rfl ?_ | refine o_no rfl rfl rfl (by decide) ?_ | refine o_no' rfl rfl rfl ?_ | refine a_condT rfl ?_ | refine a_condF rfl ?_ | refine d_no rfl rfl rfl (by decide) ?_ | refine d_no' rfl rfl rfl ?_ | (refine wq2 (fun hb => ?_) (fun hb => ?_) <;> (simp only [hb]; try simp only [hbs, ne_eq] at hb; try (exfalso; first | omega | exact hb trivial))) | fail)
    all_goals refine rq rfl ?_
    all_goals (first | refine FinA.tup ?_ | refine FinA.one ?_); repeat' (first | exact FinBs.nil | exact FinCs.nil | refine FinBs.cons ?_ ?_ | refine FinCs.cons ?_ ?_ | refine FinB.cell (FinC.v ?_) | refine FinB.cell (FinC.own rfl rfl rfl ?_) | exact FinB.cell FinC.nil | refine FinB.cell (FinC.sl ?_) | exact FinB.agg' rfl rfl | exact FinB.cell (FinC.same rfl) | refine FinB.agg ?_ | refine FinC.v ?_ | refine FinC.own rfl rfl rfl ?_ | exact FinC.nil | refine FinC.sl ?_ | exact FinC.same rfl); all_goals try rfl
    all_goals first | (simp [*]; done) | (simp [*]; omega) | (have a1 : 1 ≤ g := (by omega); have a2 : g ≤ 32 := (by omega); have a3 : 0 ≤ fu := (by omega); have a4 : fu ≤ 40 := (by omega); have a5 : 0 ≤ li := (by omega); simp [*])
/-! inputs -/
theorem fst_all {α : Type} (p : α → Bool) (l : List α) : (l.all p = true) ∨ ∃ q, ∃ h : q < l.length, (l.take q).all p = true ∧ p l[q] = false := by
  induction l with
  | nil => exact .inl rfl
  | cons x l ih =>
    cases hx : p x
    · exact .inr ⟨0, by simp, by simp, by simpa using hx⟩
    · rcases ih with h | ⟨q, hq, h1, h2⟩
      · exact .inl (by simp [hx]; simpa using h)
      · exact .inr ⟨q + 1, by simp; omega, by simp [hx]; simpa using h1, by simpa using h2⟩
end Go.Proofs.YtagfjnjpgphnjaaGreat
namespace Go.Proofs.YtagfjnjpgphnjaaGreat
open Go.RowKit
set_option linter.unusedSimpArgs false
set_option linter.unusedVariables false
end Go.Proofs.YtagfjnjpgphnjaaGreat
namespace Go.Proofs.YtagfjnjpgphnjaaGreat
open Go.RowKit
set_option linter.unusedSimpArgs false
set_option linter.unusedVariables false
theorem made_list (zs : List Value) (hp : 0 < zs.length) (n : Nat) : (madeCells zs.toArray (n * zs.length)).toList = (List.replicate n zs).flatten := by
  have h : ∀ n, (List.range (n * zs.length)).map (fun i => zs.toArray[i % zs.toArray.size]!) = (List.replicate n zs).flatten := by
    intro n
    induction n with
    | zero => simp
    | succ n ih =>
      rw [Nat.succ_mul, List.range_add, List.map_append, ih, List.replicate_succ', List.flatten_append, List.flatten_singleton]
      congr 1
      apply List.ext_getElem
      · simp
      · intro i h1 h2
        have h3 : i < zs.length := h2
        have h4 : (n * zs.length + i) % zs.length = i := by rw [Nat.mul_comm, Nat.mul_add_mod]; exact Nat.mod_eq_of_lt h3
        simp only [List.getElem_map, List.getElem_range, List.size_toArray, h4]
        simp [h3]
  rw [← h n]
  simp [madeCells, Array.toList_map, Array.toList_range]
section
variable {P : Program} {Γ : Ctx} {s : ASt} {σ : Store} {μ : Nat → Value} {w : World} {A : Nat → Prop} {T : List TyI}
variable {dst : Option Tmp} {ty : TypeId} {pos : String} {after : Array Edge}
theorem repLL_rep (zs : List Value) (hs : (zs.all fun c => scal c && c.oneCell') = true) {size : Nat} (hl : zs.length = size) : ∀ n, repLL σ μ w A size (List.replicate n (zs.map .v)) (List.replicate n zs).flatten
  | 0 => by simp [repLL]
  | n + 1 => by
    simp only [List.replicate_succ, List.flatten_cons, repLL]
    exact ⟨zs, _, rfl, hl, repC_con hs, repLL_rep zs hs hl n⟩
/-- make([]T, n) -/
theorem ls_make (hT : okTab P T = true) (hZ : okZero P T = true) {x y : Operand} {t e size bytes n k : Nat} {kl kc : IntKind} {L C : Int} {zs : List Value} (hx : ev s x = some (.v (.int kl L))) (hy : ev s y = some (.v (.int kc C))) (hL : L = (n : Int)) (hC : C = (n : Int))
    (hty : nth T t = some (.slice e size bytes)) (hz : zcells T 10 e = some zs) (hs : (zs.all fun c => scal c && c.oneCell') = true) (hn : n ≤ 1000000) (hby : Nat.ble bytes 1000 = true) (hk : find s.σ k = none) (hd : okDst Γ.n dst = true) :
    LS P Γ ⟨dst, .makeSlice t x y, ty, pos, after, none⟩ s (rd x (rd y [.obj k])) (dst1 dst (.own k (List.replicate n (zs.map AV.v)).length)) [(k, .row e size (List.replicate n (zs.map .v)))] := by
  refine ⟨fun t' ht Q μ a w hr K hK => ?_⟩
  obtain ⟨h1, ht⟩ := ht.ev hx
  obtain ⟨h2, ht⟩ := ht.ev hy
  have hk' : find t'.σ k = none := ht.1.trans hk
  have h1 := hr.ev h1
  have h2 := hr.ev h2
  simp only [rep] at h1 h2
  obtain ⟨hu, hpos, j, z, hj, hj2, hj3, hj4, hj5⟩ := slice_ty hT hty
  obtain ⟨i, z', hi, hiz, hzc⟩ := okZero_at hZ hz
  rw [hj] at hi; injection hi with hi; subst hi
  rw [hj4] at hiz; injection hiz with hiz; subst hiz
  have hlen : zs.length = size := by rw [hzc] at hj5; simpa using hj5
  have hby := Nat.le_of_ble_eq_true hby
  have hrun := run_make (P := P) w t e j z hu hj hj4 kl kc n n (by omega) (Int.le_refl _) (by
    have : ((j.bytes * n : Nat) : Int) ≤ 281474976710656 := by
      have h5 : j.bytes * n ≤ 1000 * 1000000 := Nat.mul_le_mul (by omega) hn
      omega
    rwa [Int.natCast_mul] at this) (by omega)
  simp only [Int.toNat_natCast, hj2] at hrun
  rw [hzc, ← hlen] at hrun
  have hrow := World.ownsRow_lit (base := 0) (e := e) (size := size) w (madeCells zs.toArray (n * zs.length)) n (Nat.zero_le _) (by simp only [maxLen]; omega) (by rw [size_madeCells, hlen])
  rw [made_list zs (by omega)] at hrow
  have hn2 := hr.new (w' := w.alloc (.cells (madeCells zs.toArray (n * zs.length)) e)) (v := .slice (some ⟨w.heap.size, 0, none⟩) n n) (o := .row e size (List.replicate n (zs.map .v))) hk' (below_alloc _ _) (by simp [blk]) (fun μ' A hμ hμk hA hst => by
    refine ⟨_, ?_, repLL_rep zs hs hlen n⟩
    rw [hμk, List.length_replicate]
    exact hrow)
  have hfin := hn2.put (d := dst) (x := .own k (List.replicate n (zs.map AV.v)).length) (y := .slice (some ⟨w.heap.size, 0, none⟩) n n) hd (by
    simp only [rep, ASt.eff, List.cons_append, List.nil_append, find_cons, if_true]
    exact ⟨rfl, e, size, _, rfl, Nat.le_refl _, fun _ => (setμ_same _ _ _).symm⟩)
  unfold Oper.wp
  have hrun2 : (execOp a.eval ⟨dst, .makeSlice t x y, ty, pos, after, none⟩).run P w = .ok (.value (.slice (some ⟨w.heap.size, 0, none⟩) n n)) (w.alloc (.cells (madeCells zs.toArray (n * zs.length)) e)) := by
    simp only [execOp, h1.1, h2.1, hL, hC]
    simp [hrun]
  rw [hrun2]
  refine hK (setμ μ k (.slice (some ⟨w.heap.size, 0, none⟩) n n)) _ _ ?_
  cases dst <;> exact hfin
theorem repC_set {x : AV} {u : Value} : ∀ {cs : List AV} {us : List Value} {i : Nat}, repC σ μ w A cs us → cs[i]? = some (.v u) → (u.oneCell' = true → rep σ μ w A x u) → repC σ μ w A (cs.set i x) us
  | [], us, i, h, hc, hx => by simp at hc
  | c :: cs, us, 0, h, hc, hx => by
    simp only [repC] at h
    obtain ⟨v, us', rfl, h1, h2, h3⟩ := h
    simp only [List.getElem?_cons_zero, Option.some.injEq] at hc
    subst hc
    simp only [rep] at h2
    obtain ⟨rfl, _⟩ := h2
    simp only [List.set_cons_zero, repC]
    exact ⟨v, us', rfl, h1, hx h1, h3⟩
  | c :: cs, us, i + 1, h, hc, hx => by
    simp only [repC] at h
    obtain ⟨v, us', rfl, h1, h2, h3⟩ := h
    simp only [List.getElem?_cons_succ] at hc
    simp only [List.set_cons_succ, repC]
    exact ⟨v, us', rfl, h1, h2, repC_set h3 hc hx⟩
/-- A nil slice in a variable that will be appended to. -/
theorem a_adoptB {Q : Exit → ASt → Prop} {c : Code} (b i k e size : Nat) {t : TypeId} {cs : List AV} (hb : find s.σ b = some (.box t cs)) (hv : cs[i]? = some (.v (.slice none 0 0))) (hk : find s.σ k = none) (h : AWP P Γ c Q ⟨s.regs, (b, .box t (cs.set i (.own k 0))) :: (k, .row e size []) :: s.σ⟩) : AWP P Γ c Q s := by
  refine ⟨fun μ a w hr => h.out (setμ μ k (.slice none 0 0)) a w ?_⟩
  have hn := hr.new (w' := w) (v := .slice none 0 0) (o := .row e size []) hk (Below.refl _ w) (by simp [blk]) (fun μ' A hμ hμk hA hst => ⟨[], by rw [hμk]; exact own_nil, by simp [repLL]⟩)
  have hbk : k ≠ b := fun e1 => by subst e1; rw [hk] at hb; cases hb
  have hb' : find ((k, SObj.row e size []) :: s.σ) b = some (.box t cs) := by rw [find_cons, if_neg hbk]; exact hb
  obtain ⟨g, us, hg1, hg2, hg3⟩ := hn.store.obj b _ hb'
  have hs := store_rel (s := s.eff [] [(k, .row e size [])]) (o' := .box t (cs.set i (.own k 0))) (g := g) hn hb' (by rw [hg1]; rfl) rfl rfl rfl rfl (fun _ _ => rfl) ⟨rfl, List.length_set⟩ (fun A hst hA => by
    refine ⟨g, us, hg1, hg2, repC_set (repC_mono hst hg3) hv (fun _ => ?_)⟩
    simp only [rep]
    refine ⟨rfl, e, size, [], ?_, Nat.le_refl _, fun _ => (setμ_same _ _ _).symm⟩
    rw [find_cons, if_neg (Ne.symm hbk)]
    simp [ASt.eff, find_cons])
  exact hs
end
end Go.Proofs.YtagfjnjpgphnjaaGreat
