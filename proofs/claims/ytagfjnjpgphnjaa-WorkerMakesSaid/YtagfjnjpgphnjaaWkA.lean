/-
  Items, walked over abstract values: which may be.
-/
import Derived.Test.YtagfjnjpgphnjaaGrE
namespace Go.Proofs.Ytagfjnjpgphnjaa
open Go.RowKit
set_option linter.unusedSimpArgs false
set_option linter.unusedVariables false
structure It where
  kind : Int
  key : ByteArray
  at' : Int
  val : Int
  mark : Int
  n : Int
  lo : Int
  hi : Int
  rkey : ByteArray
  rn : Int
  rval : Int
deriving DecidableEq
def It.vals (x : It) : List Value := [.int .i64 x.kind, .string x.key, .int .i64 x.at', .int .i64 x.val, .int .i64 x.mark, .int .i64 x.n, .int .i64 x.lo, .int .i64 x.hi, .string x.rkey, .int .i64 x.rn, .int .i64 x.rval]
def It.av (x : It) : List AV := [.v (.int .i64 x.kind), .v (.string x.key), .v (.int .i64 x.at'), .v (.int .i64 x.val), .v (.int .i64 x.mark), .v (.int .i64 x.n), .v (.int .i64 x.lo), .v (.int .i64 x.hi), .v (.string x.rkey), .v (.int .i64 x.rn), .v (.int .i64 x.rval)]
theorem It.av_vals (x : It) : x.av = x.vals.map .v := rfl
def noE (k : ByteArray) (a v : Int) : Bool := decide (k = .empty) && (decide (a = 0) && decide (v = 0))
def noR (lo hi : Int) (k : ByteArray) (n v : Int) : Bool := decide (lo = 0) && (decide (hi = 0) && (decide (k = .empty) && (decide (n = 0) && decide (v = 0))))
def resR (lo hi : Int) (k : ByteArray) (n : Int) : Bool := keyB k && (decide (0 ≤ lo) && (decide (lo < hi) && (decide (hi ≤ 1099511627776) && (decide (1 ≤ n) && decide (n ≤ 1073741824)))))
/-- may an item be? -/
def itR (x : It) : Bool := match x with
  | ⟨kind, k, a, v, m, n, lo, hi, rk, rn, rv⟩ =>
    if kind = 1 then decide (m = 0) && (decide (n = 0) && (noR lo hi rk rn rv && evR k a))
    else if kind = 2 then noE k a v && (decide (n = 0) && (noR lo hi rk rn rv && (decide (0 ≤ m) && decide (m ≤ 1099511627776))))
    else if kind = 3 then noE k a v && (decide (m = 0) && (decide (n = 0) && noR lo hi rk rn rv))
    else if kind = 4 then noE k a v && (decide (m = 0) && (noR lo hi rk rn rv && (decide (1 ≤ n) && decide (n ≤ 1073741824))))
    else if kind = 5 then noE k a v && (decide (m = 0) && (decide (n = 0) && resR lo hi rk rn))
    else false
theorem p_iresult (lo hi : Int) (k : ByteArray) (n v : Int) : PC Try.prog 63 [.agg [.v (.int .i64 lo), .v (.int .i64 hi), .v (.string k), .v (.int .i64 n), .v (.int .i64 v)]] (.v (.bool (resR lo hi k n))) := by
  have h := p_ikey k
  unfold resR
  cases hk : keyB k
  all_goals
    rw [hk] at h
    refine PC.mk (ac_body tab_ok Try.func63 rfl (by kernel_rfl) rfl ?_); intro w0 M μ0; simp only [Try.ntmps63, List.length_cons, List.length_nil, Nat.reduceAdd, Nat.reduceSub, numb]
    repeat' (first | ((first | apply o_do | apply d_do | apply d_yes rfl rfl rfl); first | exact lsc (h) | exact lsq) | first | refine a_seq ?_ | refine a_region ?_ | refine o_nil ?_ | refine a_block ?_ | refine a_ret ?_ | refine a_exit ?_ | refine a_skip ?_ | refine a_draw mixed ?_ | refine d_nil (by kernel_rfl) ?_ | first | refine o_yes rfl rfl rfl ?_ | refine o_no rfl rfl rfl (by decide) ?_ | refine o_no' rfl rfl rfl ?_ | refine a_condT rfl ?_ | refine a_condF rfl ?_ | refine d_no rfl rfl rfl (by decide) ?_ | refine d_no' rfl rfl rfl ?_ | ((first | refine o_split_t rfl rfl rfl (fun hb => ?_) (fun hb => ?_) | refine o_split_f rfl rfl rfl (fun hb => ?_) (fun hb => ?_) | refine a_cond rfl (fun hb => ?_) (fun hb => ?_) | refine d_split rfl rfl (fun hb => ?_) (fun hb => ?_)) <;> (simp only [hb]; try simp only [decide_eq_true_eq, decide_eq_false_iff_not, Bool.not_eq_true', Bool.not_eq_false', Bool.not_eq_true, Bool.not_eq_false, ne_eq, Decidable.not_not] at hb; try (exfalso; first | omega | exact hb trivial))))
    all_goals refine ⟨by first | exact .inr rfl | exact .inl rfl, _, rfl, ?_, by repeat' (first | exact trivial | refine ⟨⟨_, rfl, by first | rfl | (simp [renO, *]; done)⟩, by first | rfl | assumption, ?_⟩)⟩
    all_goals (first | refine FinA.tup ?_ | refine FinA.one ?_); repeat' (first | exact FinBs.nil | exact FinCs.nil | refine FinBs.cons ?_ ?_ | refine FinCs.cons ?_ ?_ | refine FinB.cell (FinC.v ?_) | refine FinB.cell (FinC.own rfl rfl rfl ?_) | exact FinB.cell FinC.nil | refine FinB.cell (FinC.sl ?_) | exact FinB.agg' rfl rfl | exact FinB.cell (FinC.same rfl) | refine FinB.agg ?_ | refine FinC.v ?_ | refine FinC.own rfl rfl rfl ?_ | exact FinC.nil | refine FinC.sl ?_ | exact FinC.same rfl); all_goals try rfl
    all_goals simp [*]
theorem p_rResult (lo hi : Int) (k : ByteArray) (n v : Int) : PC Try.prog 56 [.agg [.v (.int .i64 lo), .v (.int .i64 hi), .v (.string k), .v (.int .i64 n), .v (.int .i64 v)]] (.v (.bool (resR lo hi k n))) := by
  have h := p_Key k
  unfold resR
  cases hk : keyB k
  all_goals
    rw [hk] at h
    refine PC.mk (ac_body tab_ok Try.func56 rfl (by kernel_rfl) rfl ?_); intro w0 M μ0; simp only [Try.ntmps56, List.length_cons, List.length_nil, Nat.reduceAdd, Nat.reduceSub, numb]
    repeat' (first | ((first | apply o_do | apply d_do | apply d_yes rfl rfl rfl); first | exact lsc (h) | exact lsq) | first | refine a_seq ?_ | refine a_region ?_ | refine o_nil ?_ | refine a_block ?_ | refine a_ret ?_ | refine a_exit ?_ | refine a_skip ?_ | refine a_draw mixed ?_ | refine d_nil (by kernel_rfl) ?_ | first | refine o_yes rfl rfl rfl ?_ | refine o_no rfl rfl rfl (by decide) ?_ | refine o_no' rfl rfl rfl ?_ | refine a_condT rfl ?_ | refine a_condF rfl ?_ | refine d_no rfl rfl rfl (by decide) ?_ | refine d_no' rfl rfl rfl ?_ | ((first | refine o_split_t rfl rfl rfl (fun hb => ?_) (fun hb => ?_) | refine o_split_f rfl rfl rfl (fun hb => ?_) (fun hb => ?_) | refine a_cond rfl (fun hb => ?_) (fun hb => ?_) | refine d_split rfl rfl (fun hb => ?_) (fun hb => ?_)) <;> (simp only [hb]; try simp only [decide_eq_true_eq, decide_eq_false_iff_not, Bool.not_eq_true', Bool.not_eq_false', Bool.not_eq_true, Bool.not_eq_false, ne_eq, Decidable.not_not] at hb; try (exfalso; first | omega | exact hb trivial))))
    all_goals refine ⟨by first | exact .inr rfl | exact .inl rfl, _, rfl, ?_, by repeat' (first | exact trivial | refine ⟨⟨_, rfl, by first | rfl | (simp [renO, *]; done)⟩, by first | rfl | assumption, ?_⟩)⟩
    all_goals (first | refine FinA.tup ?_ | refine FinA.one ?_); repeat' (first | exact FinBs.nil | exact FinCs.nil | refine FinBs.cons ?_ ?_ | refine FinCs.cons ?_ ?_ | refine FinB.cell (FinC.v ?_) | refine FinB.cell (FinC.own rfl rfl rfl ?_) | exact FinB.cell FinC.nil | refine FinB.cell (FinC.sl ?_) | exact FinB.agg' rfl rfl | exact FinB.cell (FinC.same rfl) | refine FinB.agg ?_ | refine FinC.v ?_ | refine FinC.own rfl rfl rfl ?_ | exact FinC.nil | refine FinC.sl ?_ | exact FinC.same rfl); all_goals try rfl
    all_goals simp [*]
theorem bytes_emptyL {k : ByteArray} : k.toList = [] ↔ k = .empty := by
  rw [ByteArray.toList_eq]
  exact ⟨fun h => ByteArray.ext (Array.toList_inj.1 h), fun h => by rw [h]; rfl⟩
theorem bytes_same {a b : ByteArray} : a.toList = b.toList ↔ a = b := by
  rw [ByteArray.toList_eq, ByteArray.toList_eq]
  exact ⟨fun h => ByteArray.ext (Array.toList_inj.1 h), fun h => by rw [h]⟩
theorem run_neq_Ev (x y : Operand) (k : ByteArray) (a v : Int) (w : World) : (do eqGuard .neq 73 x y (.agg [.string k, .int .i64 a, .int .i64 v].toArray) (.agg [.string ByteArray.empty, .int .i64 0, .int .i64 0].toArray); binOp .neq 73 (.agg [.string k, .int .i64 a, .int .i64 v].toArray) (.agg [.string ByteArray.empty, .int .i64 0, .int .i64 0].toArray) : Sem Value).run Try.prog w = .ok (.bool (!noE k a v)) w := by
  unfold noE
  by_cases h1 : k = ByteArray.empty <;> by_cases h2 : a = 0 <;> by_cases h3 : v = 0 <;> go_simp
  all_goals first | done | (intro h; exact h1 (bytes_emptyL.1 h))
theorem run_neq_Rz (x y : Operand) (lo hi : Int) (k : ByteArray) (n v : Int) (w : World) : (do eqGuard .neq 77 x y (.agg [.int .i64 lo, .int .i64 hi, .string k, .int .i64 n, .int .i64 v].toArray) (.agg [.int .i64 0, .int .i64 0, .string ByteArray.empty, .int .i64 0, .int .i64 0].toArray); binOp .neq 77 (.agg [.int .i64 lo, .int .i64 hi, .string k, .int .i64 n, .int .i64 v].toArray) (.agg [.int .i64 0, .int .i64 0, .string ByteArray.empty, .int .i64 0, .int .i64 0].toArray) : Sem Value).run Try.prog w = .ok (.bool (!noR lo hi k n v)) w := by
  unfold noR
  by_cases h0 : lo = 0 <;> by_cases h4 : hi = 0 <;> by_cases h1 : k = ByteArray.empty <;> by_cases h2 : n = 0 <;> by_cases h3 : v = 0 <;> go_simp
  all_goals first | done | (intro h; exact h1 (bytes_emptyL.1 h))
set_option maxHeartbeats 4000000 in
theorem run_eql_It (x y : Operand) (p q : It) (w : World) : (do eqGuard .eql 79 x y (.agg p.vals.toArray) (.agg q.vals.toArray); binOp .eql 79 (.agg p.vals.toArray) (.agg q.vals.toArray) : Sem Value).run Try.prog w = .ok (.bool (decide (p = q))) w := by
  obtain ⟨a1, a2, a3, a4, a5, a6, a7, a8, a9, a10, a11⟩ := p
  obtain ⟨b1, b2, b3, b4, b5, b6, b7, b8, b9, b10, b11⟩ := q
  unfold It.vals
  simp only [It.mk.injEq]
  by_cases h1 : a1 = b1
  · by_cases h2 : a2 = b2
    · by_cases h3 : a3 = b3
      · by_cases h4 : a4 = b4
        · by_cases h5 : a5 = b5
          · by_cases h6 : a6 = b6
            · by_cases h7 : a7 = b7
              · by_cases h8 : a8 = b8
                · by_cases h9 : a9 = b9
                  · by_cases h10 : a10 = b10
                    · by_cases h11 : a11 = b11
                      · subst h1 h2 h3 h4 h5 h6 h7 h8 h9 h10 h11; go_simp
                      · subst h1 h2 h3 h4 h5 h6 h7 h8 h9 h10; go_simp; first | done | simp [h11]
                    · subst h1 h2 h3 h4 h5 h6 h7 h8 h9; go_simp; first | done | simp [h10]
                  · subst h1 h2 h3 h4 h5 h6 h7 h8; go_simp; first | done | simp [h9, bytes_same] | (intro h'; exact h9 (bytes_same.1 h'))
                · subst h1 h2 h3 h4 h5 h6 h7; go_simp; first | done | simp [h8]
              · subst h1 h2 h3 h4 h5 h6; go_simp; first | done | simp [h7]
            · subst h1 h2 h3 h4 h5; go_simp; first | done | simp [h6]
          · subst h1 h2 h3 h4; go_simp; first | done | simp [h5]
        · subst h1 h2 h3; go_simp; first | done | simp [h4]
      · subst h1 h2; go_simp; first | done | simp [h3]
    · subst h1; go_simp; first | done | simp [h2, bytes_same] | (intro h'; exact h2 (bytes_same.1 h'))
  · go_simp; first | done | simp [h1]
/-- the fields of its kind alone -/
def bareIt (x : It) : It := match x with
  | ⟨kind, k, a, v, m, n, lo, hi, rk, rn, rv⟩ =>
    if kind = 1 then ⟨kind, k, a, v, 0, 0, 0, 0, .empty, 0, 0⟩
    else if kind = 2 then ⟨kind, .empty, 0, 0, m, 0, 0, 0, .empty, 0, 0⟩
    else if kind = 4 then ⟨kind, .empty, 0, 0, 0, n, 0, 0, .empty, 0, 0⟩
    else if kind = 5 then ⟨kind, .empty, 0, 0, 0, 0, lo, hi, rk, rn, rv⟩
    else ⟨kind, .empty, 0, 0, 0, 0, 0, 0, .empty, 0, 0⟩
def bareOk (x : It) : Bool := match x with
  | ⟨kind, k, a, v, m, n, lo, hi, rk, rn, rv⟩ =>
    if kind = 1 then evR k a
    else if kind = 2 then decide (0 ≤ m) && decide (m ≤ 1099511627776)
    else if kind = 3 then true
    else if kind = 4 then decide (1 ≤ n) && decide (n ≤ 1073741824)
    else if kind = 5 then resR lo hi rk rn
    else false
theorem itR_bare (x : It) : itR x = (bareOk x && decide (bareIt x = x)) := by
  obtain ⟨kind, k, a, v, m, n, lo, hi, rk, rn, rv⟩ := x
  simp only [itR, bareOk, bareIt]
  split
  · subst kind
    simp only [It.mk.injEq, noR]
    rw [Bool.eq_iff_iff]
    simp only [Bool.and_eq_true, decide_eq_true_eq]
    constructor
    · rintro ⟨h1, h2, ⟨h3, h4, h5, h6, h7⟩, h8⟩; simp [*]
    · rintro ⟨h1, _, _, _, _, h2, h3, h4, h5, h6, h7, h8⟩; exact ⟨h2.symm, h3.symm, ⟨h4.symm, h5.symm, h6.symm, h7.symm, h8.symm⟩, h1⟩
  split
  · subst kind
    simp only [It.mk.injEq, noR, noE]
    rw [Bool.eq_iff_iff]
    simp only [Bool.and_eq_true, decide_eq_true_eq]
    constructor
    · rintro ⟨⟨h1, h2, h2'⟩, h3, ⟨h4, h5, h6, h7, h8⟩, h9, h10⟩; simp [*]
    · rintro ⟨⟨h9, h10⟩, _, h1, h2, h2', _, h3, h4, h5, h6, h7, h8⟩; exact ⟨⟨h1.symm, h2.symm, h2'.symm⟩, h3.symm, ⟨h4.symm, h5.symm, h6.symm, h7.symm, h8.symm⟩, h9, h10⟩
  split
  · subst kind
    simp only [It.mk.injEq, noR, noE]
    rw [Bool.eq_iff_iff]
    simp only [Bool.and_eq_true, decide_eq_true_eq]
    simp only [show ¬ (3 : Int) = 4 by decide, show ¬ (3 : Int) = 5 by decide, if_false, It.mk.injEq, true_and]
    constructor
    · rintro ⟨⟨h1, h2, h2'⟩, h3, h4, h5, h6, h7, h8, h9⟩; simp [*]
    · rintro ⟨h1, h2, h2', h3, h4, h5, h6, h7, h8, h9⟩; exact ⟨⟨h1.symm, h2.symm, h2'.symm⟩, h3.symm, h4.symm, h5.symm, h6.symm, h7.symm, h8.symm, h9.symm⟩
  split
  · subst kind
    simp only [It.mk.injEq, noR, noE]
    rw [Bool.eq_iff_iff]
    simp only [Bool.and_eq_true, decide_eq_true_eq]
    constructor
    · rintro ⟨⟨h1, h2, h2'⟩, h3, ⟨h4, h5, h6, h7, h8⟩, h9, h10⟩; simp [*]
    · rintro ⟨⟨h9, h10⟩, _, h1, h2, h2', h3, _, h4, h5, h6, h7, h8⟩; exact ⟨⟨h1.symm, h2.symm, h2'.symm⟩, h3.symm, ⟨h4.symm, h5.symm, h6.symm, h7.symm, h8.symm⟩, h9, h10⟩
  split
  · subst kind
    simp only [It.mk.injEq, noR, noE]
    rw [Bool.eq_iff_iff]
    simp only [Bool.and_eq_true, decide_eq_true_eq]
    constructor
    · rintro ⟨⟨h1, h2, h2'⟩, h3, h4, h5⟩; simp [*]
    · rintro ⟨h5, _, h1, h2, h2', h3, h4, _⟩; exact ⟨⟨h1.symm, h2.symm, h2'.symm⟩, h3.symm, h4.symm, h5⟩
  · simp
def iTup (b : It) (o : Bool) : AV := .tup [.agg b.av, .v (.bool o)]
set_option maxHeartbeats 2000000 in
theorem i_bare (x : It) : PC Try.prog 54 [.agg x.av] (iTup (bareIt x) (bareOk x)) := by
  obtain ⟨kind, k, a, v, m, n, lo, hi, rk, rn, rv⟩ := x
  have h1 := p_Event k a v
  have h2 := p_iresult lo hi rk rn rv
  simp only [bareIt, bareOk, iTup, It.av]
  by_cases k1 : kind = 1
  · subst k1
    simp only [if_true]
    refine PC.mk (ac_body tab_ok Try.func54 rfl (by kernel_rfl) rfl ?_); intro w0 M μ0; simp only [Try.ntmps54, List.length_cons, List.length_nil, Nat.reduceAdd, Nat.reduceSub, numb]
    repeat' (first | ((first | apply o_do | apply d_do | apply d_yes rfl rfl rfl); first | exact lsc (h1) | exact lsq) | first | refine a_seq ?_ | refine a_region ?_ | refine o_nil ?_ | refine a_block ?_ | refine a_ret ?_ | refine a_exit ?_ | refine a_skip ?_ | refine a_draw mixed ?_ | refine d_nil (by kernel_rfl) ?_ | first | refine o_yes rfl rfl rfl ?_ | refine o_no rfl rfl rfl (by decide) ?_ | refine o_no' rfl rfl rfl ?_ | refine a_condT rfl ?_ | refine a_condF rfl ?_ | refine d_no rfl rfl rfl (by decide) ?_ | refine d_no' rfl rfl rfl ?_ | ((first | refine o_split_t rfl rfl rfl (fun hb => ?_) (fun hb => ?_) | refine o_split_f rfl rfl rfl (fun hb => ?_) (fun hb => ?_) | refine a_cond rfl (fun hb => ?_) (fun hb => ?_) | refine d_split rfl rfl (fun hb => ?_) (fun hb => ?_)) <;> (simp only [hb]; try simp only [decide_eq_true_eq, decide_eq_false_iff_not, Bool.not_eq_true', Bool.not_eq_false', Bool.not_eq_true, Bool.not_eq_false, ne_eq, Decidable.not_not] at hb; try (exfalso; first | omega | exact hb trivial))))
    all_goals refine ⟨by first | exact .inr rfl | exact .inl rfl, _, rfl, ?_, by repeat' (first | exact trivial | refine ⟨⟨_, rfl, by first | rfl | (simp [renO, *]; done)⟩, by first | rfl | assumption, ?_⟩)⟩
    all_goals (first | refine FinA.tup ?_ | refine FinA.one ?_); repeat' (first | exact FinBs.nil | exact FinCs.nil | refine FinBs.cons ?_ ?_ | refine FinCs.cons ?_ ?_ | refine FinB.cell (FinC.v ?_) | refine FinB.cell (FinC.own rfl rfl rfl ?_) | exact FinB.cell FinC.nil | refine FinB.cell (FinC.sl ?_) | exact FinB.agg' rfl rfl | exact FinB.cell (FinC.same rfl) | refine FinB.agg ?_ | refine FinC.v ?_ | refine FinC.own rfl rfl rfl ?_ | exact FinC.nil | refine FinC.sl ?_ | exact FinC.same rfl); all_goals try rfl
  by_cases k2 : kind = 2
  · subst k2
    simp only [show ¬ (2 : Int) = 1 by decide, if_true, if_false]
    refine PC.mk (ac_body tab_ok Try.func54 rfl (by kernel_rfl) rfl ?_); intro w0 M μ0; simp only [Try.ntmps54, List.length_cons, List.length_nil, Nat.reduceAdd, Nat.reduceSub, numb]
    repeat' (first | ((first | apply o_do | apply d_do | apply d_yes rfl rfl rfl); exact lsq) | first | refine a_seq ?_ | refine a_region ?_ | refine o_nil ?_ | refine a_block ?_ | refine a_ret ?_ | refine a_exit ?_ | refine a_skip ?_ | refine a_draw mixed ?_ | refine d_nil (by kernel_rfl) ?_ | first | refine o_yes rfl rfl rfl ?_ | refine o_no rfl rfl rfl (by decide) ?_ | refine o_no' rfl rfl rfl ?_ | refine a_condT rfl ?_ | refine a_condF rfl ?_ | refine d_no rfl rfl rfl (by decide) ?_ | refine d_no' rfl rfl rfl ?_ | ((first | refine o_split_t rfl rfl rfl (fun hb => ?_) (fun hb => ?_) | refine o_split_f rfl rfl rfl (fun hb => ?_) (fun hb => ?_) | refine a_cond rfl (fun hb => ?_) (fun hb => ?_) | refine d_split rfl rfl (fun hb => ?_) (fun hb => ?_)) <;> (simp only [hb]; try simp only [decide_eq_true_eq, decide_eq_false_iff_not, Bool.not_eq_true', Bool.not_eq_false', Bool.not_eq_true, Bool.not_eq_false, ne_eq, Decidable.not_not] at hb; try (exfalso; first | omega | exact hb trivial))))
    all_goals refine ⟨by first | exact .inr rfl | exact .inl rfl, _, rfl, ?_, by repeat' (first | exact trivial | refine ⟨⟨_, rfl, by first | rfl | (simp [renO, *]; done)⟩, by first | rfl | assumption, ?_⟩)⟩
    all_goals (first | refine FinA.tup ?_ | refine FinA.one ?_); repeat' (first | exact FinBs.nil | exact FinCs.nil | refine FinBs.cons ?_ ?_ | refine FinCs.cons ?_ ?_ | refine FinB.cell (FinC.v ?_) | refine FinB.cell (FinC.own rfl rfl rfl ?_) | exact FinB.cell FinC.nil | refine FinB.cell (FinC.sl ?_) | exact FinB.agg' rfl rfl | exact FinB.cell (FinC.same rfl) | refine FinB.agg ?_ | refine FinC.v ?_ | refine FinC.own rfl rfl rfl ?_ | exact FinC.nil | refine FinC.sl ?_ | exact FinC.same rfl); all_goals try rfl
    all_goals simp [*]
  by_cases k3 : kind = 3
  · subst k3
    simp only [show ¬ (3 : Int) = 1 by decide, show ¬ (3 : Int) = 2 by decide, show ¬ (3 : Int) = 4 by decide, show ¬ (3 : Int) = 5 by decide, if_true, if_false]
    refine PC.mk (ac_body tab_ok Try.func54 rfl (by kernel_rfl) rfl ?_); intro w0 M μ0; simp only [Try.ntmps54, List.length_cons, List.length_nil, Nat.reduceAdd, Nat.reduceSub, numb]
    repeat' (first | ((first | apply o_do | apply d_do | apply d_yes rfl rfl rfl); exact lsq) | first | refine a_seq ?_ | refine a_region ?_ | refine o_nil ?_ | refine a_block ?_ | refine a_ret ?_ | refine a_exit ?_ | refine a_skip ?_ | refine a_draw mixed ?_ | refine d_nil (by kernel_rfl) ?_ | first | refine o_yes rfl rfl rfl ?_ | refine o_no rfl rfl rfl (by decide) ?_ | refine o_no' rfl rfl rfl ?_ | refine a_condT rfl ?_ | refine a_condF rfl ?_ | refine d_no rfl rfl rfl (by decide) ?_ | refine d_no' rfl rfl rfl ?_ | ((first | refine o_split_t rfl rfl rfl (fun hb => ?_) (fun hb => ?_) | refine o_split_f rfl rfl rfl (fun hb => ?_) (fun hb => ?_) | refine a_cond rfl (fun hb => ?_) (fun hb => ?_) | refine d_split rfl rfl (fun hb => ?_) (fun hb => ?_)) <;> (simp only [hb]; try simp only [decide_eq_true_eq, decide_eq_false_iff_not, Bool.not_eq_true', Bool.not_eq_false', Bool.not_eq_true, Bool.not_eq_false, ne_eq, Decidable.not_not] at hb; try (exfalso; first | omega | exact hb trivial))))
    all_goals refine ⟨by first | exact .inr rfl | exact .inl rfl, _, rfl, ?_, by repeat' (first | exact trivial | refine ⟨⟨_, rfl, by first | rfl | (simp [renO, *]; done)⟩, by first | rfl | assumption, ?_⟩)⟩
    all_goals (first | refine FinA.tup ?_ | refine FinA.one ?_); repeat' (first | exact FinBs.nil | exact FinCs.nil | refine FinBs.cons ?_ ?_ | refine FinCs.cons ?_ ?_ | refine FinB.cell (FinC.v ?_) | refine FinB.cell (FinC.own rfl rfl rfl ?_) | exact FinB.cell FinC.nil | refine FinB.cell (FinC.sl ?_) | exact FinB.agg' rfl rfl | exact FinB.cell (FinC.same rfl) | refine FinB.agg ?_ | refine FinC.v ?_ | refine FinC.own rfl rfl rfl ?_ | exact FinC.nil | refine FinC.sl ?_ | exact FinC.same rfl); all_goals try rfl
  by_cases k4 : kind = 4
  · subst k4
    simp only [show ¬ (4 : Int) = 1 by decide, show ¬ (4 : Int) = 2 by decide, show ¬ (4 : Int) = 3 by decide, if_true, if_false]
    refine PC.mk (ac_body tab_ok Try.func54 rfl (by kernel_rfl) rfl ?_); intro w0 M μ0; simp only [Try.ntmps54, List.length_cons, List.length_nil, Nat.reduceAdd, Nat.reduceSub, numb]
    repeat' (first | ((first | apply o_do | apply d_do | apply d_yes rfl rfl rfl); exact lsq) | first | refine a_seq ?_ | refine a_region ?_ | refine o_nil ?_ | refine a_block ?_ | refine a_ret ?_ | refine a_exit ?_ | refine a_skip ?_ | refine a_draw mixed ?_ | refine d_nil (by kernel_rfl) ?_ | first | refine o_yes rfl rfl rfl ?_ | refine o_no rfl rfl rfl (by decide) ?_ | refine o_no' rfl rfl rfl ?_ | refine a_condT rfl ?_ | refine a_condF rfl ?_ | refine d_no rfl rfl rfl (by decide) ?_ | refine d_no' rfl rfl rfl ?_ | ((first | refine o_split_t rfl rfl rfl (fun hb => ?_) (fun hb => ?_) | refine o_split_f rfl rfl rfl (fun hb => ?_) (fun hb => ?_) | refine a_cond rfl (fun hb => ?_) (fun hb => ?_) | refine d_split rfl rfl (fun hb => ?_) (fun hb => ?_)) <;> (simp only [hb]; try simp only [decide_eq_true_eq, decide_eq_false_iff_not, Bool.not_eq_true', Bool.not_eq_false', Bool.not_eq_true, Bool.not_eq_false, ne_eq, Decidable.not_not] at hb; try (exfalso; first | omega | exact hb trivial))))
    all_goals refine ⟨by first | exact .inr rfl | exact .inl rfl, _, rfl, ?_, by repeat' (first | exact trivial | refine ⟨⟨_, rfl, by first | rfl | (simp [renO, *]; done)⟩, by first | rfl | assumption, ?_⟩)⟩
    all_goals (first | refine FinA.tup ?_ | refine FinA.one ?_); repeat' (first | exact FinBs.nil | exact FinCs.nil | refine FinBs.cons ?_ ?_ | refine FinCs.cons ?_ ?_ | refine FinB.cell (FinC.v ?_) | refine FinB.cell (FinC.own rfl rfl rfl ?_) | exact FinB.cell FinC.nil | refine FinB.cell (FinC.sl ?_) | exact FinB.agg' rfl rfl | exact FinB.cell (FinC.same rfl) | refine FinB.agg ?_ | refine FinC.v ?_ | refine FinC.own rfl rfl rfl ?_ | exact FinC.nil | refine FinC.sl ?_ | exact FinC.same rfl); all_goals try rfl
    all_goals simp [*]
  by_cases k5 : kind = 5
  · subst k5
    simp only [show ¬ (5 : Int) = 1 by decide, show ¬ (5 : Int) = 2 by decide, show ¬ (5 : Int) = 3 by decide, show ¬ (5 : Int) = 4 by decide, if_true, if_false]
    refine PC.mk (ac_body tab_ok Try.func54 rfl (by kernel_rfl) rfl ?_); intro w0 M μ0; simp only [Try.ntmps54, List.length_cons, List.length_nil, Nat.reduceAdd, Nat.reduceSub, numb]
    repeat' (first | ((first | apply o_do | apply d_do | apply d_yes rfl rfl rfl); first | exact lsc (h2) | exact lsq) | first | refine a_seq ?_ | refine a_region ?_ | refine o_nil ?_ | refine a_block ?_ | refine a_ret ?_ | refine a_exit ?_ | refine a_skip ?_ | refine a_draw mixed ?_ | refine d_nil (by kernel_rfl) ?_ | first | refine o_yes rfl rfl rfl ?_ | refine o_no rfl rfl rfl (by decide) ?_ | refine o_no' rfl rfl rfl ?_ | refine a_condT rfl ?_ | refine a_condF rfl ?_ | refine d_no rfl rfl rfl (by decide) ?_ | refine d_no' rfl rfl rfl ?_ | ((first | refine o_split_t rfl rfl rfl (fun hb => ?_) (fun hb => ?_) | refine o_split_f rfl rfl rfl (fun hb => ?_) (fun hb => ?_) | refine a_cond rfl (fun hb => ?_) (fun hb => ?_) | refine d_split rfl rfl (fun hb => ?_) (fun hb => ?_)) <;> (simp only [hb]; try simp only [decide_eq_true_eq, decide_eq_false_iff_not, Bool.not_eq_true', Bool.not_eq_false', Bool.not_eq_true, Bool.not_eq_false, ne_eq, Decidable.not_not] at hb; try (exfalso; first | omega | exact hb trivial))))
    all_goals refine ⟨by first | exact .inr rfl | exact .inl rfl, _, rfl, ?_, by repeat' (first | exact trivial | refine ⟨⟨_, rfl, by first | rfl | (simp [renO, *]; done)⟩, by first | rfl | assumption, ?_⟩)⟩
    all_goals (first | refine FinA.tup ?_ | refine FinA.one ?_); repeat' (first | exact FinBs.nil | exact FinCs.nil | refine FinBs.cons ?_ ?_ | refine FinCs.cons ?_ ?_ | refine FinB.cell (FinC.v ?_) | refine FinB.cell (FinC.own rfl rfl rfl ?_) | exact FinB.cell FinC.nil | refine FinB.cell (FinC.sl ?_) | exact FinB.agg' rfl rfl | exact FinB.cell (FinC.same rfl) | refine FinB.agg ?_ | refine FinC.v ?_ | refine FinC.own rfl rfl rfl ?_ | exact FinC.nil | refine FinC.sl ?_ | exact FinC.same rfl); all_goals try rfl
  · simp only [k1, k2, k3, k4, k5, if_false]
    refine PC.mk (ac_body tab_ok Try.func54 rfl (by kernel_rfl) rfl ?_); intro w0 M μ0; simp only [Try.ntmps54, List.length_cons, List.length_nil, Nat.reduceAdd, Nat.reduceSub, numb]
    repeat' (first | ((first | apply o_do | apply d_do | apply d_yes rfl rfl rfl); exact lsq) | first | refine a_seq ?_ | refine a_region ?_ | refine o_nil ?_ | refine a_block ?_ | refine a_ret ?_ | refine a_exit ?_ | refine a_skip ?_ | refine a_draw mixed ?_ | refine d_nil (by kernel_rfl) ?_ | first | refine o_yes rfl rfl rfl ?_ | refine o_no rfl rfl rfl (by decide) ?_ | refine o_no' rfl rfl rfl ?_ | refine a_condT rfl ?_ | refine a_condF rfl ?_ | refine d_no rfl rfl rfl (by decide) ?_ | refine d_no' rfl rfl rfl ?_ | ((first | refine o_split_t rfl rfl rfl (fun hb => ?_) (fun hb => ?_) | refine o_split_f rfl rfl rfl (fun hb => ?_) (fun hb => ?_) | refine a_cond rfl (fun hb => ?_) (fun hb => ?_) | refine d_split rfl rfl (fun hb => ?_) (fun hb => ?_)) <;> (simp only [hb]; try simp only [decide_eq_true_eq, decide_eq_false_iff_not, Bool.not_eq_true', Bool.not_eq_false', Bool.not_eq_true, Bool.not_eq_false, ne_eq, Decidable.not_not] at hb; try (exfalso; first | omega | exact hb trivial))))
    all_goals refine ⟨by first | exact .inr rfl | exact .inl rfl, _, rfl, ?_, by repeat' (first | exact trivial | refine ⟨⟨_, rfl, by first | rfl | (simp [renO, *]; done)⟩, by first | rfl | assumption, ?_⟩)⟩
    all_goals (first | refine FinA.tup ?_ | refine FinA.one ?_); repeat' (first | exact FinBs.nil | exact FinCs.nil | refine FinBs.cons ?_ ?_ | refine FinCs.cons ?_ ?_ | refine FinB.cell (FinC.v ?_) | refine FinB.cell (FinC.own rfl rfl rfl ?_) | exact FinB.cell FinC.nil | refine FinB.cell (FinC.sl ?_) | exact FinB.agg' rfl rfl | exact FinB.cell (FinC.same rfl) | refine FinB.agg ?_ | refine FinC.v ?_ | refine FinC.own rfl rfl rfl ?_ | exact FinC.nil | refine FinC.sl ?_ | exact FinC.same rfl); all_goals try rfl
set_option maxHeartbeats 2000000 in
theorem i_Right (x : It) : PC Try.prog 40 [.agg x.av] (.v (.bool (itR x))) := by
  have h := i_bare x
  rw [itR_bare]
  unfold iTup at h
  cases hb : bareOk x
  all_goals
    rw [hb] at h
    refine PC.mk (ac_body tab_ok Try.func40 rfl (by kernel_rfl) rfl ?_); intro w0 M μ0; simp only [Try.ntmps40, List.length_cons, List.length_nil, Nat.reduceAdd, Nat.reduceSub, numb]
    repeat' (first | ((first | apply o_do | apply d_do | apply d_yes rfl rfl rfl); first | exact lsc (h) | exact ls_eqA (It.vals (bareIt x)) (It.vals x) (run_eql_It _ _ _ _) rfl rfl rfl rfl rfl | exact lsq) | first | refine a_seq ?_ | refine a_region ?_ | refine o_nil ?_ | refine a_block ?_ | refine a_ret ?_ | refine a_exit ?_ | refine a_skip ?_ | refine a_draw mixed ?_ | refine d_nil (by kernel_rfl) ?_ | first | refine o_yes rfl rfl rfl ?_ | refine o_no rfl rfl rfl (by decide) ?_ | refine o_no' rfl rfl rfl ?_ | refine a_condT rfl ?_ | refine a_condF rfl ?_ | refine d_no rfl rfl rfl (by decide) ?_ | refine d_no' rfl rfl rfl ?_ | ((first | refine o_split_t rfl rfl rfl (fun hb => ?_) (fun hb => ?_) | refine o_split_f rfl rfl rfl (fun hb => ?_) (fun hb => ?_) | refine a_cond rfl (fun hb => ?_) (fun hb => ?_) | refine d_split rfl rfl (fun hb => ?_) (fun hb => ?_)) <;> (simp only [hb]; try simp only [decide_eq_true_eq, decide_eq_false_iff_not, Bool.not_eq_true', Bool.not_eq_false', Bool.not_eq_true, Bool.not_eq_false, ne_eq, Decidable.not_not] at hb; try (exfalso; first | omega | exact hb trivial))))
    all_goals refine ⟨by first | exact .inr rfl | exact .inl rfl, _, rfl, ?_, by repeat' (first | exact trivial | refine ⟨⟨_, rfl, by first | rfl | (simp [renO, *]; done)⟩, by first | rfl | assumption, ?_⟩)⟩
    all_goals (first | refine FinA.tup ?_ | refine FinA.one ?_); repeat' (first | exact FinBs.nil | exact FinCs.nil | refine FinBs.cons ?_ ?_ | refine FinCs.cons ?_ ?_ | refine FinB.cell (FinC.v ?_) | refine FinB.cell (FinC.own rfl rfl rfl ?_) | exact FinB.cell FinC.nil | refine FinB.cell (FinC.sl ?_) | exact FinB.agg' rfl rfl | exact FinB.cell (FinC.same rfl) | refine FinB.agg ?_ | refine FinC.v ?_ | refine FinC.own rfl rfl rfl ?_ | exact FinC.nil | refine FinC.sl ?_ | exact FinC.same rfl); all_goals try rfl
end Go.Proofs.Ytagfjnjpgphnjaa
