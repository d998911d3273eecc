/-
  Panes, walked over abstract values: how the program compares; which rows may be.
  Panes, walked over abstract values: what is due.
  Panes, walked over abstract values: what is due by the reference; results.
  Panes, walked over abstract values: likeness.
-/
import Derived.Test.YtagfjnjpgphnjaaGreatK4
namespace Go.Proofs.YtagfjnjpgphnjaaGreat
open Go.RowKit
set_option linter.unusedSimpArgs false
set_option linter.unusedVariables false
def cmpI (x y : Int) : Int := if x < y then -1 else if y < x then 1 else 0
def cmpT (x y : ByteArray) : Int := if sless x y then -1 else if sless y x then 1 else 0
def orI : List Int → Int
  | [] => 0
  | x :: l => if x ≠ 0 then x else orI l
theorem orI_drop {xs : List Int} {q : Nat} (h : q < xs.length) (h0 : xs[q] = 0) (e : orI xs = orI (xs.drop q)) : orI xs = orI (xs.drop (q + 1)) := by
  rw [e, List.drop_eq_getElem_cons h]
  simp [orI, h0]
theorem bytes_nil' (s : ByteArray) : (s.toList == ByteArray.toList ⟨#[]⟩) = decide ((s.size : Int) = 0) := by
  have h := bytes_nil s
  have e : ByteArray.toList ⟨#[]⟩ = [] := by rw [ByteArray.toList_eq]
  rw [e]
  by_cases h0 : s.size = 0
  · rw [h.2 h0]; simp [h0]
  · have h1 : ¬ s.toList = [] := fun h1 => h0 (h.1 h1)
    simp [h1, h0]
theorem p_may (lo hi : Int) (k : ByteArray) (n a b : Int) : PC Tryz.prog 124 [.agg [.v (.int .i64 lo), .v (.int .i64 hi), .v (.string k), .v (.int .i64 n), .v (.int .i64 a), .v (.int .i64 b)]] (.v (.bool (mayB ⟨lo, hi, k, n, a, b⟩))) := by
  refine PC.mk (ac_body tab_ok Tryz.func124 rfl (by kernel_rfl) rfl ?_); intro w0 M μ0; simp only [Tryz.ntmps124, List.length_cons, List.length_nil, Nat.reduceAdd, Nat.reduceSub, numb]
  repeat' (first | ((first | apply o_do | apply d_do | apply d_yes rfl rfl rfl); exact lsq) | refine a_seq ?_ | refine a_region ?_ | refine o_nil ?_ | refine a_block ?_ | refine a_ret ?_ | refine a_exit ?_ | refine a_skip ?_ | refine a_draw mixed ?_ | refine d_nil (by kernel_rfl) ?_ | refine o_yes rfl rfl rfl ?_ | refine o_no rfl rfl rfl (by decide) ?_ | refine o_no' rfl rfl rfl ?_ | refine a_condT rfl ?_ | refine a_condF rfl ?_ | refine d_no rfl rfl rfl (by decide) ?_ | refine d_no' rfl rfl rfl ?_ | (refine wq2 (fun hb => ?_) (fun hb => ?_) <;> (simp only [hb]; try simp only [hbs, ne_eq] at hb; try (exfalso; first | omega | exact hb trivial))) | fail)
  all_goals refine rq rfl ?_
  all_goals (first | refine FinA.tup ?_ | refine FinA.one ?_); repeat' (first | exact FinBs.nil | exact FinCs.nil | refine FinBs.cons ?_ ?_ | refine FinCs.cons ?_ ?_ | refine FinB.cell (FinC.v ?_) | refine FinB.cell (FinC.own rfl rfl rfl ?_) | exact FinB.cell FinC.nil | refine FinB.cell (FinC.sl ?_) | exact FinB.agg' rfl rfl | exact FinB.cell (FinC.same rfl) | refine FinB.agg ?_ | refine FinC.v ?_ | refine FinC.own rfl rfl rfl ?_ | exact FinC.nil | refine FinC.sl ?_ | exact FinC.same rfl); all_goals try rfl
  all_goals simp only [bytes_nil', decide_eq_true_eq, decide_eq_false_iff_not] at *
  all_goals simp [mayB, keyB_int, *]
  all_goals try omega
theorem p_nanI (x : Int) : PC Tryz.prog 201 [.v (.int .i64 x)] (.v (.bool false)) := by
  refine PC.mk (ac_body tab_ok Tryz.func201 rfl (by kernel_rfl) rfl ?_); intro w0 M μ0; simp only [Tryz.ntmps201, List.length_cons, List.length_nil, Nat.reduceAdd, Nat.reduceSub, numb]
  repeat' (first | ((first | apply o_do | apply d_do | apply d_yes rfl rfl rfl); exact lsq) | refine a_seq ?_ | refine a_region ?_ | refine o_nil ?_ | refine a_block ?_ | refine a_ret ?_ | refine a_exit ?_ | refine a_skip ?_ | refine a_draw mixed ?_ | refine d_nil (by kernel_rfl) ?_ | refine o_yes rfl rfl rfl ?_ | refine o_no rfl rfl rfl (by decide) ?_ | refine o_no' rfl rfl rfl ?_ | refine a_condT rfl ?_ | refine a_condF rfl ?_ | refine d_no rfl rfl rfl (by decide) ?_ | refine d_no' rfl rfl rfl ?_ | (refine wq2 (fun hb => ?_) (fun hb => ?_) <;> (simp only [hb]; try simp only [hbs, ne_eq] at hb; try (exfalso; first | omega | exact hb trivial))) | fail)
  refine rq rfl ?_
  (first | refine FinA.tup ?_ | refine FinA.one ?_); repeat' (first | exact FinBs.nil | exact FinCs.nil | refine FinBs.cons ?_ ?_ | refine FinCs.cons ?_ ?_ | refine FinB.cell (FinC.v ?_) | refine FinB.cell (FinC.own rfl rfl rfl ?_) | exact FinB.cell FinC.nil | refine FinB.cell (FinC.sl ?_) | exact FinB.agg' rfl rfl | exact FinB.cell (FinC.same rfl) | refine FinB.agg ?_ | refine FinC.v ?_ | refine FinC.own rfl rfl rfl ?_ | exact FinC.nil | refine FinC.sl ?_ | exact FinC.same rfl); all_goals try rfl
  simp
theorem p_nanT (x : ByteArray) : PC Tryz.prog 202 [.v (.string x)] (.v (.bool false)) := by
  refine PC.mk (ac_body tab_ok Tryz.func202 rfl (by kernel_rfl) rfl ?_); intro w0 M μ0; simp only [Tryz.ntmps202, List.length_cons, List.length_nil, Nat.reduceAdd, Nat.reduceSub, numb]
  repeat' (first | ((first | apply o_do | apply d_do | apply d_yes rfl rfl rfl); exact lsq) | refine a_seq ?_ | refine a_region ?_ | refine o_nil ?_ | refine a_block ?_ | refine a_ret ?_ | refine a_exit ?_ | refine a_skip ?_ | refine a_draw mixed ?_ | refine d_nil (by kernel_rfl) ?_ | refine o_yes rfl rfl rfl ?_ | refine o_no rfl rfl rfl (by decide) ?_ | refine o_no' rfl rfl rfl ?_ | refine a_condT rfl ?_ | refine a_condF rfl ?_ | refine d_no rfl rfl rfl (by decide) ?_ | refine d_no' rfl rfl rfl ?_ | (refine wq2 (fun hb => ?_) (fun hb => ?_) <;> (simp only [hb]; try simp only [hbs, ne_eq] at hb; try (exfalso; first | omega | exact hb trivial))) | fail)
  refine rq rfl ?_
  (first | refine FinA.tup ?_ | refine FinA.one ?_); repeat' (first | exact FinBs.nil | exact FinCs.nil | refine FinBs.cons ?_ ?_ | refine FinCs.cons ?_ ?_ | refine FinB.cell (FinC.v ?_) | refine FinB.cell (FinC.own rfl rfl rfl ?_) | exact FinB.cell FinC.nil | refine FinB.cell (FinC.sl ?_) | exact FinB.agg' rfl rfl | exact FinB.cell (FinC.same rfl) | refine FinB.agg ?_ | refine FinC.v ?_ | refine FinC.own rfl rfl rfl ?_ | exact FinC.nil | refine FinC.sl ?_ | exact FinC.same rfl); all_goals try rfl
  simp
theorem p_cmpI (x y : Int) : PC Tryz.prog 177 [.v (.int .i64 x), .v (.int .i64 y)] (.v (.int .i64 (cmpI x y))) := by
  refine PC.mk (ac_body tab_ok Tryz.func177 rfl (by kernel_rfl) rfl ?_); intro w0 M μ0; simp only [Tryz.ntmps177, List.length_cons, List.length_nil, Nat.reduceAdd, Nat.reduceSub, numb]
  repeat' (first | ((first | apply o_do | apply d_do | apply d_yes rfl rfl rfl); first | exact lsc ((p_nanI _)) | exact lsq) | refine a_seq ?_ | refine a_region ?_ | refine o_nil ?_ | refine a_block ?_ | refine a_ret ?_ | refine a_exit ?_ | refine a_skip ?_ | refine a_draw mixed ?_ | refine d_nil (by kernel_rfl) ?_ | refine o_yes rfl rfl rfl ?_ | refine o_no rfl rfl rfl (by decide) ?_ | refine o_no' rfl rfl rfl ?_ | refine a_condT rfl ?_ | refine a_condF rfl ?_ | refine d_no rfl rfl rfl (by decide) ?_ | refine d_no' rfl rfl rfl ?_ | (refine wq2 (fun hb => ?_) (fun hb => ?_) <;> (simp only [hb]; try simp only [hbs, ne_eq] at hb; try (exfalso; first | omega | exact hb trivial))) | fail)
  all_goals refine rq rfl ?_
  all_goals (first | refine FinA.tup ?_ | refine FinA.one ?_); repeat' (first | exact FinBs.nil | exact FinCs.nil | refine FinBs.cons ?_ ?_ | refine FinCs.cons ?_ ?_ | refine FinB.cell (FinC.v ?_) | refine FinB.cell (FinC.own rfl rfl rfl ?_) | exact FinB.cell FinC.nil | refine FinB.cell (FinC.sl ?_) | exact FinB.agg' rfl rfl | exact FinB.cell (FinC.same rfl) | refine FinB.agg ?_ | refine FinC.v ?_ | refine FinC.own rfl rfl rfl ?_ | exact FinC.nil | refine FinC.sl ?_ | exact FinC.same rfl); all_goals try rfl
  all_goals simp [cmpI, *]
theorem p_cmpT (x y : ByteArray) : PC Tryz.prog 178 [.v (.string x), .v (.string y)] (.v (.int .i64 (cmpT x y))) := by
  refine PC.mk (ac_body tab_ok Tryz.func178 rfl (by kernel_rfl) rfl ?_); intro w0 M μ0; simp only [Tryz.ntmps178, List.length_cons, List.length_nil, Nat.reduceAdd, Nat.reduceSub, numb]
  repeat' (first | ((first | apply o_do | apply d_do | apply d_yes rfl rfl rfl); first | exact lsc ((p_nanT _)) | exact lsq) | refine a_seq ?_ | refine a_region ?_ | refine o_nil ?_ | refine a_block ?_ | refine a_ret ?_ | refine a_exit ?_ | refine a_skip ?_ | refine a_draw mixed ?_ | refine d_nil (by kernel_rfl) ?_ | refine o_yes rfl rfl rfl ?_ | refine o_no rfl rfl rfl (by decide) ?_ | refine o_no' rfl rfl rfl ?_ | refine a_condT rfl ?_ | refine a_condF rfl ?_ | refine d_no rfl rfl rfl (by decide) ?_ | refine d_no' rfl rfl rfl ?_ | (refine wq2 (fun hb => ?_) (fun hb => ?_) <;> (simp only [hb]; try simp only [hbs, ne_eq] at hb; try (exfalso; first | omega | exact hb trivial))) | fail)
  all_goals refine rq rfl ?_
  all_goals (first | refine FinA.tup ?_ | refine FinA.one ?_); repeat' (first | exact FinBs.nil | exact FinCs.nil | refine FinBs.cons ?_ ?_ | refine FinCs.cons ?_ ?_ | refine FinB.cell (FinC.v ?_) | refine FinB.cell (FinC.own rfl rfl rfl ?_) | exact FinB.cell FinC.nil | refine FinB.cell (FinC.sl ?_) | exact FinB.agg' rfl rfl | exact FinB.cell (FinC.same rfl) | refine FinB.agg ?_ | refine FinC.v ?_ | refine FinC.own rfl rfl rfl ?_ | exact FinC.nil | refine FinC.sl ?_ | exact FinC.same rfl); all_goals try rfl
  · simp [cmpT, sless, hb]
  · have h1 : Op.bytesLess x.toList y.toList = false := by assumption
    rw [h1, Bool.false_or] at hb
    have h2 : Op.bytesLess y.toList x.toList = true := by
      cases h : Op.bytesLess y.toList x.toList
      · rw [bless_total _ _ h1 h] at hb; simp at hb
      · rfl
    simp [cmpT, sless, h1, h2]
  · have h1 : Op.bytesLess x.toList y.toList = false := by assumption
    rw [h1, Bool.false_or] at hb
    have e : x.toList = y.toList := by simpa using hb
    simp [cmpT, sless, e, bless_irrefl]
theorem p_Or (xs : List Int) (hx : xs.length ≤ 9223372036854775807) : PC Tryz.prog 176 [.sl 1 (xs.map fun x => [.v (.int .i64 x)])] (.v (.int .i64 (orI xs))) := by
  refine PC.mk (ac_body tab_ok Tryz.func176 rfl (by kernel_rfl) rfl ?_); intro w0 M μ0; simp only [Tryz.ntmps176, List.length_cons, List.length_nil, Nat.reduceAdd, Nat.reduceSub, numb]
  repeat (first | (apply o_do; exact lsq) | first | refine a_seq ?_ | refine a_region ?_ | refine o_nil ?_ | refine a_block ?_ | refine a_ret ?_ | refine a_exit ?_ | refine a_skip ?_ | refine a_draw mixed ?_ | refine d_nil (by kernel_rfl) ?_)
  refine a_loop (X := {q : Nat // q ≤ xs.length ∧ orI xs = orI (xs.drop q)}) (fun x => ⟨[(3, .v (.int .i64 0)), (6, .sl 1 (xs.map fun x => [.v (.int .i64 x)])), (7, .v (.int .i64 xs.length)), (8, .v (.int .i64 x.1))], []⟩) (fun x => xs.length - x.1) ⟨0, Nat.zero_le _, rfl⟩ ?_ ?_
  · exact wkS
  rintro ⟨q, hq, hor⟩
  dsimp only
  by_cases hlt : q < xs.length
  · have hel : (xs.map fun x => [AV.v (.int .i64 x)])[q]? = some [AV.v (.int .i64 xs[q])] := by simp [hlt]
    have hnx := fun h => orI_drop hlt h hor
    have hthis := List.drop_eq_getElem_cons hlt
    generalize xs[q] = x at *
    repeat' (first | ((first | apply o_do | apply d_do | apply d_yes rfl rfl rfl); first | exact ls_indexAddr_sl tab_ok rfl rfl rfl rfl (by assumption) rfl | exact lsq) | refine a_seq ?_ | refine a_region ?_ | refine o_nil ?_ | refine a_block ?_ | refine a_ret ?_ | refine a_exit ?_ | refine a_skip ?_ | refine a_draw mixed ?_ | refine d_nil (by kernel_rfl) ?_ | refine o_yes rfl rfl rfl ?_ | refine o_no rfl rfl rfl (by decide) ?_ | refine o_no' rfl rfl rfl ?_ | refine a_condT rfl ?_ | refine a_condF rfl ?_ | refine d_no rfl rfl rfl (by decide) ?_ | refine d_no' rfl rfl rfl ?_ | (refine wq2 (fun hb => ?_) (fun hb => ?_) <;> (simp only [hb]; try simp only [hbs, ne_eq] at hb; try (exfalso; first | omega | exact hb trivial))) | fail)
    · refine rq rfl ?_
      (first | refine FinA.tup ?_ | refine FinA.one ?_); repeat' (first | exact FinBs.nil | exact FinCs.nil | refine FinBs.cons ?_ ?_ | refine FinCs.cons ?_ ?_ | refine FinB.cell (FinC.v ?_) | refine FinB.cell (FinC.own rfl rfl rfl ?_) | exact FinB.cell FinC.nil | refine FinB.cell (FinC.sl ?_) | exact FinB.agg' rfl rfl | exact FinB.cell (FinC.same rfl) | refine FinB.agg ?_ | refine FinC.v ?_ | refine FinC.own rfl rfl rfl ?_ | exact FinC.nil | refine FinC.sl ?_ | exact FinC.same rfl); all_goals try rfl
      rw [hor, hthis]
      simp [orI, hb]
    · refine ⟨⟨q + 1, by omega, hnx hb⟩, by dsimp only; omega, ?_⟩
      exact wkS
  · repeat' (first | ((first | apply o_do | apply d_do | apply d_yes rfl rfl rfl); exact lsq) | refine a_seq ?_ | refine a_region ?_ | refine o_nil ?_ | refine a_block ?_ | refine a_ret ?_ | refine a_exit ?_ | refine a_skip ?_ | refine a_draw mixed ?_ | refine d_nil (by kernel_rfl) ?_ | refine o_yes rfl rfl rfl ?_ | refine o_no rfl rfl rfl (by decide) ?_ | refine o_no' rfl rfl rfl ?_ | refine a_condT rfl ?_ | refine a_condF rfl ?_ | refine d_no rfl rfl rfl (by decide) ?_ | refine d_no' rfl rfl rfl ?_ | (refine wq2 (fun hb => ?_) (fun hb => ?_) <;> (simp only [hb]; try simp only [hbs, ne_eq] at hb; try (exfalso; first | omega | exact hb trivial))) | fail)
    refine rq rfl ?_
    (first | refine FinA.tup ?_ | refine FinA.one ?_); repeat' (first | exact FinBs.nil | exact FinCs.nil | refine FinBs.cons ?_ ?_ | refine FinCs.cons ?_ ?_ | refine FinB.cell (FinC.v ?_) | refine FinB.cell (FinC.own rfl rfl rfl ?_) | exact FinB.cell FinC.nil | refine FinB.cell (FinC.sl ?_) | exact FinB.agg' rfl rfl | exact FinB.cell (FinC.same rfl) | refine FinB.agg ?_ | refine FinC.v ?_ | refine FinC.own rfl rfl rfl ?_ | exact FinC.nil | refine FinC.sl ?_ | exact FinC.same rfl); all_goals try rfl
    obtain rfl : q = xs.length := by omega
    rw [hor]; simp [orI]
theorem or_cmp (p q : Pn) : orI [cmpI p.hi q.hi, cmpI p.lo q.lo, cmpT p.key q.key] = cmpP p q := by
  unfold cmpP
  cases h1 : ahead p q
  · cases h2 : ahead q p
    · obtain ⟨e1, e2, e3⟩ := ahead_total h1 h2
      simp [e1, e2, e3, cmpI, cmpT, sless_irrefl, orI]
    · have h3 := ahead_iff.1 h2
      have h4 : ¬ ahead p q = true := by simp [h1]
      rw [ahead_iff] at h4
      rcases h3 with h | ⟨e1, h | ⟨e2, h⟩⟩
      · have h5 : ¬ p.hi < q.hi := by omega
        simp [cmpI, orI, h, h5]
      · have h5 : ¬ p.lo < q.lo := by omega
        simp [cmpI, orI, e1, h, h5]
      · have h5 : sless p.key q.key = false := by
          cases h6 : sless p.key q.key
          · rfl
          · have := sless_trans h h6; rw [sless_irrefl] at this; cases this
        simp [cmpI, cmpT, orI, e1, e2, h, h5]
  · rcases ahead_iff.1 h1 with h | ⟨e1, h | ⟨e2, h⟩⟩
    · simp [cmpI, orI, h]
    · simp [cmpI, orI, e1, h]
    · simp [cmpI, cmpT, orI, e1, e2, h]
theorem p_Or3 (x y z : Int) : PC Tryz.prog 176 [.sl 1 [[.v (.int .i64 x)], [.v (.int .i64 y)], [.v (.int .i64 z)]]] (.v (.int .i64 (orI [x, y, z]))) := p_Or [x, y, z] (by simp)
set_option maxHeartbeats 1000000 in
theorem p_compare (lo hi : Int) (k : ByteArray) (n a b lo' hi' : Int) (k' : ByteArray) (n' a' b' : Int) : PC Tryz.prog 127 [.agg [.v (.int .i64 lo), .v (.int .i64 hi), .v (.string k), .v (.int .i64 n), .v (.int .i64 a), .v (.int .i64 b)], .agg [.v (.int .i64 lo'), .v (.int .i64 hi'), .v (.string k'), .v (.int .i64 n'), .v (.int .i64 a'), .v (.int .i64 b')]] (.v (.int .i64 (cmpP ⟨lo, hi, k, n, a, b⟩ ⟨lo', hi', k', n', a', b'⟩))) := by
  rw [← or_cmp]
  refine PC.mk (ac_body tab_ok Tryz.func127 rfl (by kernel_rfl) rfl ?_); intro w0 M μ0; simp only [Tryz.ntmps127, List.length_cons, List.length_nil, Nat.reduceAdd, Nat.reduceSub, numb]
  repeat' (first | ((first | apply o_do | apply d_do | apply d_yes rfl rfl rfl); first | exact lsc ((p_cmpI _ _)) | exact lsc ((p_cmpT _ _)) | exact lsc ((p_Or3 _ _ _)) | exact lsq) | refine a_seq ?_ | refine a_region ?_ | refine o_nil ?_ | refine a_block ?_ | refine a_ret ?_ | refine a_exit ?_ | refine a_skip ?_ | refine a_draw mixed ?_ | refine d_nil (by kernel_rfl) ?_ | refine o_yes rfl rfl rfl ?_ | refine o_no rfl rfl rfl (by decide) ?_ | refine o_no' rfl rfl rfl ?_ | refine a_condT rfl ?_ | refine a_condF rfl ?_ | refine d_no rfl rfl rfl (by decide) ?_ | refine d_no' rfl rfl rfl ?_ | (refine wq2 (fun hb => ?_) (fun hb => ?_) <;> (simp only [hb]; try simp only [hbs, ne_eq] at hb; try (exfalso; first | omega | exact hb trivial))) | fail)
  all_goals refine rq rfl ?_
  all_goals exact fnq
theorem cmpP_ge {p q : Pn} : (0 ≤ cmpP p q) ↔ ahead p q = false := by
  unfold cmpP
  cases h : ahead p q
  · simp only [Bool.false_eq_true, if_false, iff_true]
    split <;> omega
  · simp
theorem cmpP_lt {p q : Pn} : (cmpP p q < 0) ↔ ahead p q = true := by
  have h := @cmpP_ge p q
  cases h1 : ahead p q
  · rw [h1] at h; simp only [iff_true] at h; simp; omega
  · rw [h1] at h; simp only [Bool.true_eq_false, iff_false] at h; simp; omega
set_option maxHeartbeats 1000000 in
theorem p_Right (xs : List Pn) (hx : xs.length ≤ 9223372036854775807) : PC Tryz.prog 78 [.sl 6 (xs.map Pn.av)] (.v (.bool (rightL xs))) := by
  refine PC.mk (ac_body tab_ok Tryz.func78 rfl (by kernel_rfl) rfl ?_); intro w0 M μ0; simp only [Tryz.ntmps78, List.length_cons, List.length_nil, Nat.reduceAdd, Nat.reduceSub, numb]
  by_cases hbig : 2000 < xs.length
  · have hb0 : (2000 : Int) < ((xs.map Pn.av).length : Int) := by rw [List.length_map]; omega
    repeat' (first | ((first | apply o_do | apply d_do | apply d_yes rfl rfl rfl); exact lsq) | refine a_seq ?_ | refine a_region ?_ | refine o_nil ?_ | refine a_block ?_ | refine a_ret ?_ | refine a_exit ?_ | refine a_skip ?_ | refine a_draw mixed ?_ | refine d_nil (by kernel_rfl) ?_ | refine o_yes rfl rfl rfl ?_ | refine o_no rfl rfl rfl (by decide) ?_ | refine o_no' rfl rfl rfl ?_ | refine a_condT rfl ?_ | refine a_condF rfl ?_ | refine d_no rfl rfl rfl (by decide) ?_ | refine d_no' rfl rfl rfl ?_ | (refine wq2 (fun hb => ?_) (fun hb => ?_) <;> (simp only [hb]; try simp only [hbs, ne_eq] at hb; try (exfalso; first | omega | exact hb trivial))) | fail)
    refine rq rfl ?_
    (first | refine FinA.tup ?_ | refine FinA.one ?_); repeat' (first | exact FinBs.nil | exact FinCs.nil | refine FinBs.cons ?_ ?_ | refine FinCs.cons ?_ ?_ | refine FinB.cell (FinC.v ?_) | refine FinB.cell (FinC.own rfl rfl rfl ?_) | exact FinB.cell FinC.nil | refine FinB.cell (FinC.sl ?_) | exact FinB.agg' rfl rfl | exact FinB.cell (FinC.same rfl) | refine FinB.agg ?_ | refine FinC.v ?_ | refine FinC.own rfl rfl rfl ?_ | exact FinC.nil | refine FinC.sl ?_ | exact FinC.same rfl); all_goals try rfl
    simp [rightL]; omega
  have hsm : xs.length ≤ 2000 := by omega
  have hb0 : ¬ (2000 : Int) < ((xs.map Pn.av).length : Int) := by rw [List.length_map]; omega
  repeat' (first | ((first | apply o_do | apply d_do | apply d_yes rfl rfl rfl); exact lsq) | refine a_seq ?_ | refine a_region ?_ | refine o_nil ?_ | refine a_block ?_ | refine a_ret ?_ | refine a_exit ?_ | refine a_skip ?_ | refine a_draw mixed ?_ | refine d_nil (by kernel_rfl) ?_ | refine o_yes rfl rfl rfl ?_ | refine o_no rfl rfl rfl (by decide) ?_ | refine o_no' rfl rfl rfl ?_ | refine a_condT rfl ?_ | refine a_condF rfl ?_ | refine d_no rfl rfl rfl (by decide) ?_ | refine d_no' rfl rfl rfl ?_ | (refine wq2 (fun hb => ?_) (fun hb => ?_) <;> (simp only [hb]; try simp only [hbs, ne_eq] at hb; try (exfalso; first | omega | exact hb trivial))) | fail)
  refine a_loop (X := {q : Nat // q ≤ xs.length ∧ okPn xs q = true}) (fun x => ⟨[(0, .sl 6 (xs.map Pn.av)), (8, .sl 6 (xs.map Pn.av)), (9, .v (.int .i64 xs.length)), (10, .v (.int .i64 x.1))], []⟩) (fun x => xs.length - x.1) ⟨0, Nat.zero_le _, rfl⟩ ?_ ?_
  · exact wkS
  rintro ⟨q, hq, hok⟩
  dsimp only
  by_cases hlt : q < xs.length
  · have hel : (xs.map Pn.av)[q]? = some (Pn.av xs[q]) := by simp [hlt]
    have hbad : okPn xs (q + 1) = false → rightL xs = false := fun h => by
      have := okPn_false xs (k := q + 1) (n := xs.length) (by omega) h
      simp [rightL, this]
    rcases Nat.eq_zero_or_pos q with rfl | hq0
    · have hone := okPn_one xs hlt
      generalize xs[0] = p at *
      repeat' (first | ((first | apply o_do | apply d_do | apply d_yes rfl rfl rfl); first | exact ls_indexAddr_sl tab_ok rfl rfl rfl rfl (by assumption) rfl | exact lsc ((p_may _ _ _ _ _ _)) | exact lsc ((p_compare _ _ _ _ _ _ _ _ _ _ _ _)) | exact lsq) | refine a_seq ?_ | refine a_region ?_ | refine o_nil ?_ | refine a_block ?_ | refine a_ret ?_ | refine a_exit ?_ | refine a_skip ?_ | refine a_draw mixed ?_ | refine d_nil (by kernel_rfl) ?_ | refine o_yes rfl rfl rfl ?_ | refine o_no rfl rfl rfl (by decide) ?_ | refine o_no' rfl rfl rfl ?_ | refine a_condT rfl ?_ | refine a_condF rfl ?_ | refine d_no rfl rfl rfl (by decide) ?_ | refine d_no' rfl rfl rfl ?_ | (refine wq2 (fun hb => ?_) (fun hb => ?_) <;> (simp only [hb]; try simp only [hbs, ne_eq] at hb; try (exfalso; first | omega | exact hb trivial))) | fail)
      · refine rq rfl ?_
        (first | refine FinA.tup ?_ | refine FinA.one ?_); repeat' (first | exact FinBs.nil | exact FinCs.nil | refine FinBs.cons ?_ ?_ | refine FinCs.cons ?_ ?_ | refine FinB.cell (FinC.v ?_) | refine FinB.cell (FinC.own rfl rfl rfl ?_) | exact FinB.cell FinC.nil | refine FinB.cell (FinC.sl ?_) | exact FinB.agg' rfl rfl | exact FinB.cell (FinC.same rfl) | refine FinB.agg ?_ | refine FinC.v ?_ | refine FinC.own rfl rfl rfl ?_ | exact FinC.nil | refine FinC.sl ?_ | exact FinC.same rfl); all_goals try rfl
        rw [hbad (hone.trans hb)]
      · refine ⟨⟨1, by omega, hone.trans hb⟩, by dsimp only; omega, ?_⟩
        exact wkS
    · obtain ⟨j, rfl⟩ : ∃ j, q = j + 1 := ⟨q - 1, by omega⟩
      have hj : ((j + 1 : Nat) : Int) - 1 = (j : Int) := by omega
      have hel2 : (xs.map Pn.av)[j]? = some (Pn.av xs[j]) := by simp [show j < xs.length by omega]
      have hsucc := okPn_succ xs j hlt
      generalize xs[j + 1] = p at *
      generalize xs[j] = p' at *
      repeat' (first | ((first | apply o_do | apply d_do | apply d_yes rfl rfl rfl); first | exact ls_indexAddr_sl tab_ok rfl rfl rfl rfl (by assumption) rfl | exact ls_indexAddr_sl tab_ok rfl rfl rfl hj hel2 rfl | exact lsc ((p_may _ _ _ _ _ _)) | exact lsc ((p_compare _ _ _ _ _ _ _ _ _ _ _ _)) | exact lsq) | refine a_seq ?_ | refine a_region ?_ | refine o_nil ?_ | refine a_block ?_ | refine a_ret ?_ | refine a_exit ?_ | refine a_skip ?_ | refine a_draw mixed ?_ | refine d_nil (by kernel_rfl) ?_ | refine o_yes rfl rfl rfl ?_ | refine o_no rfl rfl rfl (by decide) ?_ | refine o_no' rfl rfl rfl ?_ | refine a_condT rfl ?_ | refine a_condF rfl ?_ | refine d_no rfl rfl rfl (by decide) ?_ | refine d_no' rfl rfl rfl ?_ | (refine wq2 (fun hb => ?_) (fun hb => ?_) <;> (simp only [hb]; try simp only [hbs, ne_eq] at hb; try (exfalso; first | omega | exact hb trivial))) | fail)
      · refine rq rfl ?_
        (first | refine FinA.tup ?_ | refine FinA.one ?_); repeat' (first | exact FinBs.nil | exact FinCs.nil | refine FinBs.cons ?_ ?_ | refine FinCs.cons ?_ ?_ | refine FinB.cell (FinC.v ?_) | refine FinB.cell (FinC.own rfl rfl rfl ?_) | exact FinB.cell FinC.nil | refine FinB.cell (FinC.sl ?_) | exact FinB.agg' rfl rfl | exact FinB.cell (FinC.same rfl) | refine FinB.agg ?_ | refine FinC.v ?_ | refine FinC.own rfl rfl rfl ?_ | exact FinC.nil | refine FinC.sl ?_ | exact FinC.same rfl); all_goals try rfl
        rw [hbad (by rw [hsucc, show mayB p = false from hb]; simp)]
      · refine rq rfl ?_
        (first | refine FinA.tup ?_ | refine FinA.one ?_); repeat' (first | exact FinBs.nil | exact FinCs.nil | refine FinBs.cons ?_ ?_ | refine FinCs.cons ?_ ?_ | refine FinB.cell (FinC.v ?_) | refine FinB.cell (FinC.own rfl rfl rfl ?_) | exact FinB.cell FinC.nil | refine FinB.cell (FinC.sl ?_) | exact FinB.agg' rfl rfl | exact FinB.cell (FinC.same rfl) | refine FinB.agg ?_ | refine FinC.v ?_ | refine FinC.own rfl rfl rfl ?_ | exact FinC.nil | refine FinC.sl ?_ | exact FinC.same rfl); all_goals try rfl
        rw [hbad (by rw [hsucc, show ahead p' p = false from cmpP_ge.1 hb]; simp)]
      · refine ⟨⟨j + 1 + 1, by omega, by rw [hsucc, hok, show ahead p' p = true from cmpP_lt.1 (Int.not_le.1 hb)]; simp; assumption⟩, by dsimp only; omega, ?_⟩
        exact wkS
  · repeat' (first | ((first | apply o_do | apply d_do | apply d_yes rfl rfl rfl); exact lsq) | refine a_seq ?_ | refine a_region ?_ | refine o_nil ?_ | refine a_block ?_ | refine a_ret ?_ | refine a_exit ?_ | refine a_skip ?_ | refine a_draw mixed ?_ | refine d_nil (by kernel_rfl) ?_ | refine o_yes rfl rfl rfl ?_ | refine o_no rfl rfl rfl (by decide) ?_ | refine o_no' rfl rfl rfl ?_ | refine a_condT rfl ?_ | refine a_condF rfl ?_ | refine d_no rfl rfl rfl (by decide) ?_ | refine d_no' rfl rfl rfl ?_ | (refine wq2 (fun hb => ?_) (fun hb => ?_) <;> (simp only [hb]; try simp only [hbs, ne_eq] at hb; try (exfalso; first | omega | exact hb trivial))) | fail)
    refine rq rfl ?_
    (first | refine FinA.tup ?_ | refine FinA.one ?_); repeat' (first | exact FinBs.nil | exact FinCs.nil | refine FinBs.cons ?_ ?_ | refine FinCs.cons ?_ ?_ | refine FinB.cell (FinC.v ?_) | refine FinB.cell (FinC.own rfl rfl rfl ?_) | exact FinB.cell FinC.nil | refine FinB.cell (FinC.sl ?_) | exact FinB.agg' rfl rfl | exact FinB.cell (FinC.same rfl) | refine FinB.agg ?_ | refine FinC.v ?_ | refine FinC.own rfl rfl rfl ?_ | exact FinC.nil | refine FinC.sl ?_ | exact FinC.same rfl); all_goals try rfl
    obtain rfl : q = xs.length := by omega
    simp [rightL, hok]
    omega
end Go.Proofs.YtagfjnjpgphnjaaGreat
namespace Go.Proofs.YtagfjnjpgphnjaaGreat
open Go.RowKit
set_option linter.unusedSimpArgs false
set_option linter.unusedVariables false
def dueA (l : List Pn) (m : Int) : List Pn := l.filter fun p => decide (p.hi ≤ m)
def dueB (l : List Pn) (m : Int) : List Pn := l.filter fun p => !decide (p.hi ≤ m)
theorem ahead_hi {p q : Pn} (h : ahead p q = true) : p.hi ≤ q.hi := by
  rcases ahead_iff.1 h with h | ⟨h, _⟩ <;> omega
def notDue (m : Int) (p : Pn) : Bool := !decide (p.hi ≤ m)
theorem due_parts (l : List Pn) (m : Int) (h : l.Pairwise (fun p q => ahead p q = true)) : l.take (fidx (notDue m) l) = dueA l m ∧ l.drop (fidx (notDue m) l) = dueB l m := by
  induction l with
  | nil => simp [fidx, dueA, dueB]
  | cons p l ih =>
    rw [List.pairwise_cons] at h
    obtain ⟨h1, h2⟩ := h
    obtain ⟨ih1, ih2⟩ := ih h2
    by_cases hp : p.hi ≤ m
    · have e : fidx (notDue m) (p :: l) = fidx (notDue m) l + 1 := by simp [fidx, notDue, List.takeWhile_cons, hp]
      rw [e]
      simp only [List.take_succ_cons, List.drop_succ_cons, ih1, ih2, dueA, dueB, List.filter_cons, hp, decide_true, Bool.not_true, if_true, Bool.false_eq_true, if_false]
      exact ⟨trivial, trivial⟩
    · have e : fidx (notDue m) (p :: l) = 0 := by simp [fidx, notDue, List.takeWhile_cons, hp]
      rw [e]
      have ha : l.filter (fun q => decide (q.hi ≤ m)) = [] := by
        rw [List.filter_eq_nil_iff]
        intro q hq
        have := ahead_hi (h1 q hq)
        simp; omega
      have hb : l.filter (fun q => !decide (q.hi ≤ m)) = l := by
        rw [List.filter_eq_self]
        intro q hq
        have := ahead_hi (h1 q hq)
        simp; omega
      simp only [List.take_zero, List.drop_zero, dueA, dueB, List.filter_cons, hp, decide_false, Bool.not_false, if_true, Bool.false_eq_true, if_false, ha, hb]
      exact ⟨trivial, trivial⟩
def dueRA (l : List Pn) (m : Int) : List Pn := if rightL l then dueA l m else []
def dueRB (l : List Pn) (m : Int) : List Pn := if rightL l then dueB l m else []
theorem rightL_ok {l : List Pn} (h : rightL l = true) : l.length ≤ 2000 ∧ (∀ p ∈ l, mayB p = true) ∧ l.Pairwise (fun p q => ahead p q = true) := by
  simp only [rightL, Bool.and_eq_true, decide_eq_true_eq] at h
  exact ⟨h.1, (okPn_iff l).1 h.2⟩
set_option maxHeartbeats 1000000 in
theorem p_Due (xs : List Pn) (m : Int) (hx : xs.length ≤ 9223372036854775807) : PC Tryz.prog 159 [.sl 6 (xs.map Pn.av), .v (.int .i64 m)] (.tup [.sl 6 ((dueRA xs m).map Pn.av), .sl 6 ((dueRB xs m).map Pn.av)]) := by
  cases hR : rightL xs
  · have e1 : (dueRA xs m).map Pn.av = [] := by simp [dueRA, hR]
    have e2 : (dueRB xs m).map Pn.av = [] := by simp [dueRB, hR]
    have hp := p_Right xs hx
    rw [hR] at hp
    rw [e1, e2]
    refine PC.mk (ac_body tab_ok Tryz.func159 rfl (by kernel_rfl) rfl ?_); intro w0 M μ0; simp only [Tryz.ntmps159, List.length_cons, List.length_nil, Nat.reduceAdd, Nat.reduceSub, numb]
    repeat' (first | ((first | apply o_do | apply d_do | apply d_yes rfl rfl rfl); first | exact lsc (hp) | exact lsq) | refine a_seq ?_ | refine a_region ?_ | refine o_nil ?_ | refine a_block ?_ | refine a_ret ?_ | refine a_exit ?_ | refine a_skip ?_ | refine a_draw mixed ?_ | refine d_nil (by kernel_rfl) ?_ | refine o_yes rfl rfl rfl ?_ | refine o_no rfl rfl rfl (by decide) ?_ | refine o_no' rfl rfl rfl ?_ | refine a_condT rfl ?_ | refine a_condF rfl ?_ | refine d_no rfl rfl rfl (by decide) ?_ | refine d_no' rfl rfl rfl ?_ | (refine wq2 (fun hb => ?_) (fun hb => ?_) <;> (simp only [hb]; try simp only [hbs, ne_eq] at hb; try (exfalso; first | omega | exact hb trivial))) | fail)
    refine rq rfl ?_
    exact fnq
  · obtain ⟨h1, h2, h3⟩ := rightL_ok hR
    obtain ⟨hA, hB⟩ := due_parts xs m h3
    have hI := p_Index 190 (notDue m) 2 [.v (.int .i64 m)] rfl (fun ρ => rfl) (fun lo hi k n a b => c_Due1 m lo hi k n a b) xs hx
    have hle := fidx_le (notDue m) xs
    have hp := p_Right xs hx
    rw [hR] at hp
    have hn : (xs.map Pn.av).length = xs.length := List.length_map ..
    have eA : (xs.map Pn.av).take (fidx (notDue m) xs) = (dueRA xs m).map Pn.av := by rw [← List.map_take, hA, dueRA, hR]; rfl
    have eB : (xs.map Pn.av).drop (fidx (notDue m) xs) = (dueRB xs m).map Pn.av := by rw [← List.map_drop, hB, dueRB, hR]; rfl
    rcases Nat.lt_or_ge (fidx (notDue m) xs) xs.length with hlt | hge
    · rw [show ridx (notDue m) xs = (fidx (notDue m) xs : Int) by rw [ridx, if_pos hlt]] at hI
      generalize fidx (notDue m) xs = N at *
      have hneg : ¬ (N : Int) < 0 := by omega
      have hc1 := p_Clone ((xs.map Pn.av).take N) (by simp; omega)
      have hc2 := p_Clone ((xs.map Pn.av).drop N) (by simp; omega)
      refine PC.mk (ac_body tab_ok Tryz.func159 rfl (by kernel_rfl) rfl ?_); intro w0 M μ0; simp only [Tryz.ntmps159, List.length_cons, List.length_nil, Nat.reduceAdd, Nat.reduceSub, numb]
      repeat' (first | ((first | apply o_do | apply d_do | apply d_yes rfl rfl rfl); first | exact lsc (hp) | exact ls_callA [0] 1 hI rfl rfl (by (repeat' (first | exact NilL.nil | refine NilL.cons Nil.same ?_ | refine NilL.cons Nil.nil ?_ | refine NilL.cons (Nil.agg ?_) ?_ | exact Nil1s.nil | refine Nil1s.cons Nil1.same ?_ | refine Nil1s.cons Nil1.nil ?_)); first | done | fail) rfl (by repeat' (first | exact trivial | refine ⟨⟨_, rfl, by first | rfl | (simp [renO, *]; done)⟩, ?_⟩)) (by first | rfl | simp [closO, *]) rfl rfl rfl rfl (by first | rfl | simp [closO, *]) rfl | exact ls_slice_to tab_ok rfl rfl rfl rfl (by rw [hn]; omega) rfl | exact ls_slice_from tab_ok rfl rfl rfl rfl (by rw [hn]; omega) rfl | exact ls_callA [] 1 hc1 rfl rfl (by (repeat' (first | exact NilL.nil | refine NilL.cons Nil.same ?_ | refine NilL.cons Nil.nil ?_ | refine NilL.cons (Nil.agg ?_) ?_ | exact Nil1s.nil | refine Nil1s.cons Nil1.same ?_ | refine Nil1s.cons Nil1.nil ?_)); first | done | fail) rfl (by repeat' (first | exact trivial | refine ⟨⟨_, rfl, by first | rfl | (simp [renO, *]; done)⟩, ?_⟩)) (by first | rfl | simp [closO, *]) rfl rfl rfl rfl (by first | rfl | simp [closO, *]) rfl | exact ls_callA [] 2 hc2 rfl rfl (by (repeat' (first | exact NilL.nil | refine NilL.cons Nil.same ?_ | refine NilL.cons Nil.nil ?_ | refine NilL.cons (Nil.agg ?_) ?_ | exact Nil1s.nil | refine Nil1s.cons Nil1.same ?_ | refine Nil1s.cons Nil1.nil ?_)); first | done | fail) rfl (by repeat' (first | exact trivial | refine ⟨⟨_, rfl, by first | rfl | (simp [renO, *]; done)⟩, ?_⟩)) (by first | rfl | simp [closO, *]) rfl rfl rfl rfl (by first | rfl | simp [closO, *]) rfl | exact lsq) | refine a_seq ?_ | refine a_region ?_ | refine o_nil ?_ | refine a_block ?_ | refine a_ret ?_ | refine a_exit ?_ | refine a_skip ?_ | refine a_draw mixed ?_ | refine d_nil (by kernel_rfl) ?_ | refine o_yes rfl rfl rfl ?_ | refine o_no rfl rfl rfl (by decide) ?_ | refine o_no' rfl rfl rfl ?_ | refine a_condT rfl ?_ | refine a_condF rfl ?_ | refine d_no rfl rfl rfl (by decide) ?_ | refine d_no' rfl rfl rfl ?_ | (refine wq2 (fun hb => ?_) (fun hb => ?_) <;> (simp only [hb]; try simp only [hbs, ne_eq] at hb; try (exfalso; first | omega | exact hb trivial))) | fail)
      refine rq rfl ?_
      (first | refine FinA.tup ?_ | refine FinA.one ?_); repeat' (first | exact FinBs.nil | exact FinCs.nil | refine FinBs.cons ?_ ?_ | refine FinCs.cons ?_ ?_ | refine FinB.cell (FinC.v ?_) | refine FinB.cell (FinC.own rfl rfl rfl ?_) | exact FinB.cell FinC.nil | refine FinB.cell (FinC.sl ?_) | exact FinB.agg' rfl rfl | exact FinB.cell (FinC.same rfl) | refine FinB.agg ?_ | refine FinC.v ?_ | refine FinC.own rfl rfl rfl ?_ | exact FinC.nil | refine FinC.sl ?_ | exact FinC.same rfl); all_goals try rfl
      · exact eA
      · exact eB
    · rw [show ridx (notDue m) xs = -1 by rw [ridx, if_neg (by omega)]] at hI
      have hN : fidx (notDue m) xs = (xs.map Pn.av).length := by omega
      rw [hN] at eA eB
      have hc1 := p_Clone ((xs.map Pn.av).take (xs.map Pn.av).length) (by simp; omega)
      have hc2 := p_Clone ((xs.map Pn.av).drop (xs.map Pn.av).length) (by simp)
      refine PC.mk (ac_body tab_ok Tryz.func159 rfl (by kernel_rfl) rfl ?_); intro w0 M μ0; simp only [Tryz.ntmps159, List.length_cons, List.length_nil, Nat.reduceAdd, Nat.reduceSub, numb]
      repeat' (first | ((first | apply o_do | apply d_do | apply d_yes rfl rfl rfl); first | exact lsc (hp) | exact ls_callA [0] 1 hI rfl rfl (by (repeat' (first | exact NilL.nil | refine NilL.cons Nil.same ?_ | refine NilL.cons Nil.nil ?_ | refine NilL.cons (Nil.agg ?_) ?_ | exact Nil1s.nil | refine Nil1s.cons Nil1.same ?_ | refine Nil1s.cons Nil1.nil ?_)); first | done | fail) rfl (by repeat' (first | exact trivial | refine ⟨⟨_, rfl, by first | rfl | (simp [renO, *]; done)⟩, ?_⟩)) (by first | rfl | simp [closO, *]) rfl rfl rfl rfl (by first | rfl | simp [closO, *]) rfl | exact ls_slice_to tab_ok rfl rfl rfl rfl (by omega) rfl | exact ls_slice_from tab_ok rfl rfl rfl rfl (by omega) rfl | exact ls_callA [] 1 hc1 rfl rfl (by (repeat' (first | exact NilL.nil | refine NilL.cons Nil.same ?_ | refine NilL.cons Nil.nil ?_ | refine NilL.cons (Nil.agg ?_) ?_ | exact Nil1s.nil | refine Nil1s.cons Nil1.same ?_ | refine Nil1s.cons Nil1.nil ?_)); first | done | fail) rfl (by repeat' (first | exact trivial | refine ⟨⟨_, rfl, by first | rfl | (simp [renO, *]; done)⟩, ?_⟩)) (by first | rfl | simp [closO, *]) rfl rfl rfl rfl (by first | rfl | simp [closO, *]) rfl | exact ls_callA [] 2 hc2 rfl rfl (by (repeat' (first | exact NilL.nil | refine NilL.cons Nil.same ?_ | refine NilL.cons Nil.nil ?_ | refine NilL.cons (Nil.agg ?_) ?_ | exact Nil1s.nil | refine Nil1s.cons Nil1.same ?_ | refine Nil1s.cons Nil1.nil ?_)); first | done | fail) rfl (by repeat' (first | exact trivial | refine ⟨⟨_, rfl, by first | rfl | (simp [renO, *]; done)⟩, ?_⟩)) (by first | rfl | simp [closO, *]) rfl rfl rfl rfl (by first | rfl | simp [closO, *]) rfl | exact lsq) | refine a_seq ?_ | refine a_region ?_ | refine o_nil ?_ | refine a_block ?_ | refine a_ret ?_ | refine a_exit ?_ | refine a_skip ?_ | refine a_draw mixed ?_ | refine d_nil (by kernel_rfl) ?_ | refine o_yes rfl rfl rfl ?_ | refine o_no rfl rfl rfl (by decide) ?_ | refine o_no' rfl rfl rfl ?_ | refine a_condT rfl ?_ | refine a_condF rfl ?_ | refine d_no rfl rfl rfl (by decide) ?_ | refine d_no' rfl rfl rfl ?_ | (refine wq2 (fun hb => ?_) (fun hb => ?_) <;> (simp only [hb]; try simp only [hbs, ne_eq] at hb; try (exfalso; first | omega | exact hb trivial))) | fail)
      refine rq rfl ?_
      (first | refine FinA.tup ?_ | refine FinA.one ?_); repeat' (first | exact FinBs.nil | exact FinCs.nil | refine FinBs.cons ?_ ?_ | refine FinCs.cons ?_ ?_ | refine FinB.cell (FinC.v ?_) | refine FinB.cell (FinC.own rfl rfl rfl ?_) | exact FinB.cell FinC.nil | refine FinB.cell (FinC.sl ?_) | exact FinB.agg' rfl rfl | exact FinB.cell (FinC.same rfl) | refine FinB.agg ?_ | refine FinC.v ?_ | refine FinC.own rfl rfl rfl ?_ | exact FinC.nil | refine FinC.sl ?_ | exact FinC.same rfl); all_goals try rfl
      · exact eA
      · exact eB
end Go.Proofs.YtagfjnjpgphnjaaGreat
namespace Go.Proofs.YtagfjnjpgphnjaaGreat
open Go.RowKit
set_option linter.unusedSimpArgs false
set_option linter.unusedVariables false
theorem dueA_snoc (l : List Pn) (x : Pn) (m : Int) : dueA (l ++ [x]) m = dueA l m ++ (if x.hi ≤ m then [x] else []) := by
  unfold dueA
  rw [List.filter_append]
  by_cases h : x.hi ≤ m <;> simp [h]
theorem dueB_snoc (l : List Pn) (x : Pn) (m : Int) : dueB (l ++ [x]) m = dueB l m ++ (if x.hi ≤ m then [] else [x]) := by
  unfold dueB
  rw [List.filter_append]
  by_cases h : x.hi ≤ m <;> simp [h]
theorem dueA_le (l : List Pn) (m : Int) : (dueA l m).length ≤ l.length := List.length_filter_le _ _
theorem dueB_le (l : List Pn) (m : Int) : (dueB l m).length ≤ l.length := List.length_filter_le _ _
set_option maxHeartbeats 1000000 in
theorem p_rDue (xs : List Pn) (m : Int) (hx : xs.length ≤ 9223372036854775807) : PC Tryz.prog 167 [.sl 6 (xs.map Pn.av), .v (.int .i64 m)] (.tup [.sl 6 ((dueRA xs m).map Pn.av), .sl 6 ((dueRB xs m).map Pn.av)]) := by
  have hp := p_rRight xs hx
  cases hR : rightL xs
  · have e1 : (dueRA xs m).map Pn.av = [] := by simp [dueRA, hR]
    have e2 : (dueRB xs m).map Pn.av = [] := by simp [dueRB, hR]
    rw [hR] at hp
    rw [e1, e2]
    refine PC.mk (ac_body tab_ok Tryz.func167 rfl (by kernel_rfl) rfl ?_); intro w0 M μ0; simp only [Tryz.ntmps167, List.length_cons, List.length_nil, Nat.reduceAdd, Nat.reduceSub, numb]
    repeat' (first | ((first | apply o_do | apply d_do | apply d_yes rfl rfl rfl); first | exact lsc (hp) | exact lsq) | refine a_seq ?_ | refine a_region ?_ | refine o_nil ?_ | refine a_block ?_ | refine a_ret ?_ | refine a_exit ?_ | refine a_skip ?_ | refine a_draw mixed ?_ | refine d_nil (by kernel_rfl) ?_ | refine o_yes rfl rfl rfl ?_ | refine o_no rfl rfl rfl (by decide) ?_ | refine o_no' rfl rfl rfl ?_ | refine a_condT rfl ?_ | refine a_condF rfl ?_ | refine d_no rfl rfl rfl (by decide) ?_ | refine d_no' rfl rfl rfl ?_ | (refine wq2 (fun hb => ?_) (fun hb => ?_) <;> (simp only [hb]; try simp only [hbs, ne_eq] at hb; try (exfalso; first | omega | exact hb trivial))) | fail)
    refine rq rfl ?_
    exact fnq
  · rw [hR] at hp
    have hsm := (rightL_ok hR).1
    have e1 : dueRA xs m = dueA xs m := by simp [dueRA, hR]
    have e2 : dueRB xs m = dueB xs m := by simp [dueRB, hR]
    rw [e1, e2]
    refine PC.mk (ac_body tab_ok Tryz.func167 rfl (by kernel_rfl) rfl ?_); intro w0 M μ0; simp only [Tryz.ntmps167, List.length_cons, List.length_nil, Nat.reduceAdd, Nat.reduceSub, numb]
    repeat' (first | ((first | apply o_do | apply d_do | apply d_yes rfl rfl rfl); first | exact lsc (hp) | exact lsq) | refine a_seq ?_ | refine a_region ?_ | refine o_nil ?_ | refine a_block ?_ | refine a_ret ?_ | refine a_exit ?_ | refine a_skip ?_ | refine a_draw mixed ?_ | refine d_nil (by kernel_rfl) ?_ | refine o_yes rfl rfl rfl ?_ | refine o_no rfl rfl rfl (by decide) ?_ | refine o_no' rfl rfl rfl ?_ | refine a_condT rfl ?_ | refine a_condF rfl ?_ | refine d_no rfl rfl rfl (by decide) ?_ | refine d_no' rfl rfl rfl ?_ | (refine wq2 (fun hb => ?_) (fun hb => ?_) <;> (simp only [hb]; try simp only [hbs, ne_eq] at hb; try (exfalso; first | omega | exact hb trivial))) | fail)
    refine a_loop (X := {q : Nat // q ≤ xs.length}) (fun x => ⟨[(1, .v (.int .i64 m)), (6, .own 0 ((dueA (xs.take x.1) m).map Pn.av).length), (7, .own 1 ((dueB (xs.take x.1) m).map Pn.av).length), (17, .sl 6 (xs.map Pn.av)), (18, .v (.int .i64 xs.length)), (19, .v (.int .i64 x.1))], [(0, .row 155 6 ((dueA (xs.take x.1) m).map Pn.av)), (1, .row 155 6 ((dueB (xs.take x.1) m).map Pn.av))]⟩) (fun x => xs.length - x.1) ⟨0, Nat.zero_le _⟩ ?_ ?_
    · exact wkS
    rintro ⟨q, hq⟩
    dsimp only
    by_cases hlt : q < xs.length
    · have hel : (xs.map Pn.av)[q]? = some (Pn.av xs[q]) := by simp [hlt]
      have hsn := take_snoc xs q hlt
      have hlA := dueA_le (xs.take q) m
      have hlB := dueB_le (xs.take q) m
      have hlt2 : (xs.take q).length ≤ 2000 := by rw [List.length_take]; omega
      have hA := dueA_snoc (xs.take q) xs[q] m
      have hB := dueB_snoc (xs.take q) xs[q] m
      rw [← hsn] at hA hB
      have hlA2 : ((dueA (xs.take q) m).map Pn.av).length ≤ 2000 := by rw [List.length_map]; omega
      have hlB2 : ((dueB (xs.take q) m).map Pn.av).length ≤ 2000 := by rw [List.length_map]; omega
      generalize xs[q] = x at *
      repeat' (first | ((first | apply o_do | apply d_do | apply d_yes rfl rfl rfl); first | exact ls_indexAddr_sl tab_ok rfl rfl rfl rfl (by assumption) rfl | exact ls_append tab_ok rfl rfl rfl rfl (by first | exact SrcIs.sl | exact SrcIs.nil | exact SrcIs.own rfl rfl) rfl (by (try simp only [List.length_cons, List.length_nil]); omega) rfl rfl | exact lsq) | refine a_seq ?_ | refine a_region ?_ | refine o_nil ?_ | refine a_block ?_ | refine a_ret ?_ | refine a_exit ?_ | refine a_skip ?_ | refine a_draw mixed ?_ | refine d_nil (by kernel_rfl) ?_ | refine o_yes rfl rfl rfl ?_ | refine o_no rfl rfl rfl (by decide) ?_ | refine o_no' rfl rfl rfl ?_ | refine a_condT rfl ?_ | refine a_condF rfl ?_ | refine d_no rfl rfl rfl (by decide) ?_ | refine d_no' rfl rfl rfl ?_ | (refine wq2 (fun hb => ?_) (fun hb => ?_) <;> (simp only [hb]; try simp only [hbs, ne_eq] at hb; try (exfalso; first | omega | exact hb trivial))) | fail)
      · rw [if_pos hb, List.append_nil] at hB
        rw [if_pos hb] at hA
        refine ⟨⟨q + 1, by omega⟩, by dsimp only; omega, ?_⟩
        have hA2 : (dueA (xs.take (q + 1)) m).map Pn.av = (dueA (xs.take q) m).map Pn.av ++ [x.av] := by rw [hA]; simp
        refine ⟨by repeat' (first | exact trivial | exact FinA.one (FinB.cell (FinC.same rfl)) | exact FinA.one (FinB.cell FinC.nil) | exact FinA.bound rfl | exact FinA.one (FinB.cell (FinC.own rfl rfl rfl rfl)) | exact FinA.one (FinB.cell (FinC.v (by first | rfl | ((first | (simp only [hA2]; rfl) | (simp only [hB]; done) | (simp only [hB]; rfl)))))) | exact FinA.one (FinB.cell (FinC.ow rfl (by first | rfl | ((first | (simp only [hA2]; rfl) | (simp only [hB]; done) | (simp only [hB]; rfl)))))) | exact FinA.one (FinB.agg' rfl rfl) | refine ⟨⟨_, rfl, ?_⟩, ?_⟩), by repeat' (first | exact trivial | refine ⟨⟨_, rfl, by first | rfl | ((first | (simp only [hA2]; rfl) | (simp only [hB]; done) | (simp only [hB]; rfl)); done) | (simp [renO, *]; done)⟩, by first | rfl | assumption, ?_⟩), rfl⟩
      · rw [if_neg hb] at hB
        rw [if_neg hb, List.append_nil] at hA
        refine ⟨⟨q + 1, by omega⟩, by dsimp only; omega, ?_⟩
        have hB2 : (dueB (xs.take (q + 1)) m).map Pn.av = (dueB (xs.take q) m).map Pn.av ++ [x.av] := by rw [hB]; simp
        refine ⟨by repeat' (first | exact trivial | exact FinA.one (FinB.cell (FinC.same rfl)) | exact FinA.one (FinB.cell FinC.nil) | exact FinA.bound rfl | exact FinA.one (FinB.cell (FinC.own rfl rfl rfl rfl)) | exact FinA.one (FinB.cell (FinC.v (by first | rfl | ((first | (simp only [hB2]; rfl) | (simp only [hA]; done) | (simp only [hA]; rfl)))))) | exact FinA.one (FinB.cell (FinC.ow rfl (by first | rfl | ((first | (simp only [hB2]; rfl) | (simp only [hA]; done) | (simp only [hA]; rfl)))))) | exact FinA.one (FinB.agg' rfl rfl) | refine ⟨⟨_, rfl, ?_⟩, ?_⟩), by repeat' (first | exact trivial | refine ⟨⟨_, rfl, by first | rfl | ((first | (simp only [hB2]; rfl) | (simp only [hA]; done) | (simp only [hA]; rfl)); done) | (simp [renO, *]; done)⟩, by first | rfl | assumption, ?_⟩), rfl⟩
    · obtain rfl : q = xs.length := by omega
      simp only [List.take_length]
      repeat' (first | ((first | apply o_do | apply d_do | apply d_yes rfl rfl rfl); exact lsq) | refine a_seq ?_ | refine a_region ?_ | refine o_nil ?_ | refine a_block ?_ | refine a_ret ?_ | refine a_exit ?_ | refine a_skip ?_ | refine a_draw mixed ?_ | refine d_nil (by kernel_rfl) ?_ | refine o_yes rfl rfl rfl ?_ | refine o_no rfl rfl rfl (by decide) ?_ | refine o_no' rfl rfl rfl ?_ | refine a_condT rfl ?_ | refine a_condF rfl ?_ | refine d_no rfl rfl rfl (by decide) ?_ | refine d_no' rfl rfl rfl ?_ | (refine wq2 (fun hb => ?_) (fun hb => ?_) <;> (simp only [hb]; try simp only [hbs, ne_eq] at hb; try (exfalso; first | omega | exact hb trivial))) | fail)
      refine rq rfl ?_
      exact fnq
structure Rs where
  lo : Int
  hi : Int
  key : ByteArray
  n : Int
  val : Int
def Rs.av (r : Rs) : List AV := [.v (.int .i64 r.lo), .v (.int .i64 r.hi), .v (.string r.key), .v (.int .i64 r.n), .v (.int .i64 r.val)]
def resOf (k : Int) (p : Pn) : Rs := ⟨p.lo, p.hi, p.key, p.n, fVal k ⟨p.n, p.a, p.b⟩⟩
def resultsL (k : Int) (l : List Pn) : List Rs := if rightL l && fRight k then l.map (resOf k) else []
theorem p_fRight (k : Int) : PC Tryz.prog 79 [.v (.int .i64 k)] (.v (.bool (fRight k))) := by
  refine PC.mk (ac_body tab_ok Tryz.func79 rfl (by kernel_rfl) rfl ?_); intro w0 M μ0; simp only [Tryz.ntmps79, List.length_cons, List.length_nil, Nat.reduceAdd, Nat.reduceSub, numb]
  repeat' (first | ((first | apply o_do | apply d_do | apply d_yes rfl rfl rfl); exact lsq) | refine a_seq ?_ | refine a_region ?_ | refine o_nil ?_ | refine a_block ?_ | refine a_ret ?_ | refine a_exit ?_ | refine a_skip ?_ | refine a_draw mixed ?_ | refine d_nil (by kernel_rfl) ?_ | refine o_yes rfl rfl rfl ?_ | refine o_no rfl rfl rfl (by decide) ?_ | refine o_no' rfl rfl rfl ?_ | refine a_condT rfl ?_ | refine a_condF rfl ?_ | refine d_no rfl rfl rfl (by decide) ?_ | refine d_no' rfl rfl rfl ?_ | (refine wq2 (fun hb => ?_) (fun hb => ?_) <;> (simp only [hb]; try simp only [hbs, ne_eq] at hb; try (exfalso; first | omega | exact hb trivial))) | fail)
  all_goals refine rq rfl ?_
  all_goals (first | refine FinA.tup ?_ | refine FinA.one ?_); repeat' (first | exact FinBs.nil | exact FinCs.nil | refine FinBs.cons ?_ ?_ | refine FinCs.cons ?_ ?_ | refine FinB.cell (FinC.v ?_) | refine FinB.cell (FinC.own rfl rfl rfl ?_) | exact FinB.cell FinC.nil | refine FinB.cell (FinC.sl ?_) | exact FinB.agg' rfl rfl | exact FinB.cell (FinC.same rfl) | refine FinB.agg ?_ | refine FinC.v ?_ | refine FinC.own rfl rfl rfl ?_ | exact FinC.nil | refine FinC.sl ?_ | exact FinC.same rfl); all_goals try rfl
  all_goals simp [fRight, *]
theorem p_rFold (k : Int) : PC Tryz.prog 161 [.v (.int .i64 k)] (.v (.bool (fRight k))) := by
  refine PC.mk (ac_body tab_ok Tryz.func161 rfl (by kernel_rfl) rfl ?_); intro w0 M μ0; simp only [Tryz.ntmps161, List.length_cons, List.length_nil, Nat.reduceAdd, Nat.reduceSub, numb]
  repeat' (first | ((first | apply o_do | apply d_do | apply d_yes rfl rfl rfl); exact lsq) | refine a_seq ?_ | refine a_region ?_ | refine o_nil ?_ | refine a_block ?_ | refine a_ret ?_ | refine a_exit ?_ | refine a_skip ?_ | refine a_draw mixed ?_ | refine d_nil (by kernel_rfl) ?_ | refine o_yes rfl rfl rfl ?_ | refine o_no rfl rfl rfl (by decide) ?_ | refine o_no' rfl rfl rfl ?_ | refine a_condT rfl ?_ | refine a_condF rfl ?_ | refine d_no rfl rfl rfl (by decide) ?_ | refine d_no' rfl rfl rfl ?_ | (refine wq2 (fun hb => ?_) (fun hb => ?_) <;> (simp only [hb]; try simp only [hbs, ne_eq] at hb; try (exfalso; first | omega | exact hb trivial))) | fail)
  all_goals refine rq rfl ?_
  all_goals (first | refine FinA.tup ?_ | refine FinA.one ?_); repeat' (first | exact FinBs.nil | exact FinCs.nil | refine FinBs.cons ?_ ?_ | refine FinCs.cons ?_ ?_ | refine FinB.cell (FinC.v ?_) | refine FinB.cell (FinC.own rfl rfl rfl ?_) | exact FinB.cell FinC.nil | refine FinB.cell (FinC.sl ?_) | exact FinB.agg' rfl rfl | exact FinB.cell (FinC.same rfl) | refine FinB.agg ?_ | refine FinC.v ?_ | refine FinC.own rfl rfl rfl ?_ | exact FinC.nil | refine FinC.sl ?_ | exact FinC.same rfl); all_goals try rfl
  all_goals simp [fRight, *]
theorem p_Val (k n a b : Int) : PC Tryz.prog 80 [.v (.int .i64 k), .agg [.v (.int .i64 n), .v (.int .i64 a), .v (.int .i64 b)]] (.v (.int .i64 (fVal k ⟨n, a, b⟩))) := by
  refine PC.mk (ac_body tab_ok Tryz.func80 rfl (by kernel_rfl) rfl ?_); intro w0 M μ0; simp only [Tryz.ntmps80, List.length_cons, List.length_nil, Nat.reduceAdd, Nat.reduceSub, numb]
  repeat' (first | ((first | apply o_do | apply d_do | apply d_yes rfl rfl rfl); first | exact lsc ((p_fRight _)) | exact lsq) | refine a_seq ?_ | refine a_region ?_ | refine o_nil ?_ | refine a_block ?_ | refine a_ret ?_ | refine a_exit ?_ | refine a_skip ?_ | refine a_draw mixed ?_ | refine d_nil (by kernel_rfl) ?_ | refine o_yes rfl rfl rfl ?_ | refine o_no rfl rfl rfl (by decide) ?_ | refine o_no' rfl rfl rfl ?_ | refine a_condT rfl ?_ | refine a_condF rfl ?_ | refine d_no rfl rfl rfl (by decide) ?_ | refine d_no' rfl rfl rfl ?_ | (refine wq2 (fun hb => ?_) (fun hb => ?_) <;> (simp only [hb]; try simp only [hbs, ne_eq] at hb; try (exfalso; first | omega | exact hb trivial))) | fail)
  all_goals refine rq rfl ?_
  all_goals (first | refine FinA.tup ?_ | refine FinA.one ?_); repeat' (first | exact FinBs.nil | exact FinCs.nil | refine FinBs.cons ?_ ?_ | refine FinCs.cons ?_ ?_ | refine FinB.cell (FinC.v ?_) | refine FinB.cell (FinC.own rfl rfl rfl ?_) | exact FinB.cell FinC.nil | refine FinB.cell (FinC.sl ?_) | exact FinB.agg' rfl rfl | exact FinB.cell (FinC.same rfl) | refine FinB.agg ?_ | refine FinC.v ?_ | refine FinC.own rfl rfl rfl ?_ | exact FinC.nil | refine FinC.sl ?_ | exact FinC.same rfl); all_goals try rfl
  all_goals simp [fVal, show fRight 5 = true from rfl, *]
  all_goals first | rfl | (rw [IntKind.wrap_i64]; unfold wrap64; omega)
theorem p_rVal (k n a b : Int) : PC Tryz.prog 196 [.v (.int .i64 k), .agg [.v (.int .i64 n), .v (.int .i64 a), .v (.int .i64 b)]] (.v (.int .i64 (fVal k ⟨n, a, b⟩))) := by
  refine PC.mk (ac_body tab_ok Tryz.func196 rfl (by kernel_rfl) rfl ?_); intro w0 M μ0; simp only [Tryz.ntmps196, List.length_cons, List.length_nil, Nat.reduceAdd, Nat.reduceSub, numb]
  repeat' (first | ((first | apply o_do | apply d_do | apply d_yes rfl rfl rfl); exact lsq) | refine a_seq ?_ | refine a_region ?_ | refine o_nil ?_ | refine a_block ?_ | refine a_ret ?_ | refine a_exit ?_ | refine a_skip ?_ | refine a_draw mixed ?_ | refine d_nil (by kernel_rfl) ?_ | refine o_yes rfl rfl rfl ?_ | refine o_no rfl rfl rfl (by decide) ?_ | refine o_no' rfl rfl rfl ?_ | refine a_condT rfl ?_ | refine a_condF rfl ?_ | refine d_no rfl rfl rfl (by decide) ?_ | refine d_no' rfl rfl rfl ?_ | (refine wq2 (fun hb => ?_) (fun hb => ?_) <;> (simp only [hb]; try simp only [hbs, ne_eq] at hb; try (exfalso; first | omega | exact hb trivial))) | fail)
  all_goals refine rq rfl ?_
  all_goals (first | refine FinA.tup ?_ | refine FinA.one ?_); repeat' (first | exact FinBs.nil | exact FinCs.nil | refine FinBs.cons ?_ ?_ | refine FinCs.cons ?_ ?_ | refine FinB.cell (FinC.v ?_) | refine FinB.cell (FinC.own rfl rfl rfl ?_) | exact FinB.cell FinC.nil | refine FinB.cell (FinC.sl ?_) | exact FinB.agg' rfl rfl | exact FinB.cell (FinC.same rfl) | refine FinB.agg ?_ | refine FinC.v ?_ | refine FinC.own rfl rfl rfl ?_ | exact FinC.nil | refine FinC.sl ?_ | exact FinC.same rfl); all_goals try rfl
  all_goals simp [fVal, fRight, *]
  all_goals first | (intros; omega) | (rw [IntKind.wrap_i64]; unfold wrap64; omega)
set_option maxHeartbeats 2000000 in
theorem p_rResults (k : Int) (xs : List Pn) (hx : xs.length ≤ 9223372036854775807) : PC Tryz.prog 168 [.v (.int .i64 k), .sl 6 (xs.map Pn.av)] (.sl 5 ((resultsL k xs).map Rs.av)) := by
  have hp := p_rRight xs hx
  cases hR : rightL xs && fRight k
  · have e1 : (resultsL k xs).map Rs.av = [] := by simp only [resultsL, hR]; rfl
    rw [e1]
    refine PC.mk (ac_body tab_ok Tryz.func168 rfl (by kernel_rfl) rfl ?_); intro w0 M μ0; simp only [Tryz.ntmps168, List.length_cons, List.length_nil, Nat.reduceAdd, Nat.reduceSub, numb]
    repeat' (first | ((first | apply o_do | apply d_do | apply d_yes rfl rfl rfl); first | exact lsc (hp) | exact lsc ((p_rFold _)) | exact lsq) | refine a_seq ?_ | refine a_region ?_ | refine o_nil ?_ | refine a_block ?_ | refine a_ret ?_ | refine a_exit ?_ | refine a_skip ?_ | refine a_draw mixed ?_ | refine d_nil (by kernel_rfl) ?_ | refine o_yes rfl rfl rfl ?_ | refine o_no rfl rfl rfl (by decide) ?_ | refine o_no' rfl rfl rfl ?_ | refine a_condT rfl ?_ | refine a_condF rfl ?_ | refine d_no rfl rfl rfl (by decide) ?_ | refine d_no' rfl rfl rfl ?_ | (refine wq2 (fun hb => ?_) (fun hb => ?_) <;> (simp only [hb]; try simp only [hbs, ne_eq] at hb; try (exfalso; first | omega | exact hb trivial))) | fail)
    all_goals first
      | (refine rq rfl ?_; exact fnq; done)
      | (exfalso; simp_all; done)
  · simp only [Bool.and_eq_true] at hR
    obtain ⟨hR1, hR2⟩ := hR
    rw [hR1] at hp
    have hf := p_rFold k
    rw [hR2] at hf
    have hsm := (rightL_ok hR1).1
    have e1 : resultsL k xs = xs.map (resOf k) := by simp [resultsL, hR1, hR2]
    rw [e1]
    refine PC.mk (ac_body tab_ok Tryz.func168 rfl (by kernel_rfl) rfl ?_); intro w0 M μ0; simp only [Tryz.ntmps168, List.length_cons, List.length_nil, Nat.reduceAdd, Nat.reduceSub, numb]
    repeat' (first | ((first | apply o_do | apply d_do | apply d_yes rfl rfl rfl); first | exact lsc (hp) | exact lsc (hf) | exact lsq) | refine a_seq ?_ | refine a_region ?_ | refine o_nil ?_ | refine a_block ?_ | refine a_ret ?_ | refine a_exit ?_ | refine a_skip ?_ | refine a_draw mixed ?_ | refine d_nil (by kernel_rfl) ?_ | refine o_yes rfl rfl rfl ?_ | refine o_no rfl rfl rfl (by decide) ?_ | refine o_no' rfl rfl rfl ?_ | refine a_condT rfl ?_ | refine a_condF rfl ?_ | refine d_no rfl rfl rfl (by decide) ?_ | refine d_no' rfl rfl rfl ?_ | (refine wq2 (fun hb => ?_) (fun hb => ?_) <;> (simp only [hb]; try simp only [hbs, ne_eq] at hb; try (exfalso; first | omega | exact hb trivial))) | fail)
    refine a_loop (X := {q : Nat // q ≤ xs.length}) (fun x => ⟨[(0, .v (.int .i64 k)), (5, .own 0 (((xs.take x.1).map (resOf k)).map Rs.av).length), (18, .sl 6 (xs.map Pn.av)), (19, .v (.int .i64 xs.length)), (20, .v (.int .i64 x.1))], [(0, .row 61 5 (((xs.take x.1).map (resOf k)).map Rs.av))]⟩) (fun x => xs.length - x.1) ⟨0, Nat.zero_le _⟩ ?_ ?_
    · exact wkS
    rintro ⟨q, hq⟩
    dsimp only
    by_cases hlt : q < xs.length
    · have hel : (xs.map Pn.av)[q]? = some (Pn.av xs[q]) := by simp [hlt]
      have hsn := take_snoc xs q hlt
      have hl2 : (((xs.take q).map (resOf k)).map Rs.av).length ≤ 2000 := by simp only [List.length_map, List.length_take]; omega
      generalize xs[q] = x at *
      have hA : ((xs.take (q + 1)).map (resOf k)).map Rs.av = ((xs.take q).map (resOf k)).map Rs.av ++ [(resOf k x).av] := by rw [hsn]; simp
      clear hsn
      repeat' (first | ((first | apply o_do | apply d_do | apply d_yes rfl rfl rfl); first | exact ls_indexAddr_sl tab_ok rfl rfl rfl rfl (by assumption) rfl | exact lsc ((p_rVal _ _ _ _)) | exact ls_append tab_ok rfl rfl rfl rfl (by first | exact SrcIs.sl | exact SrcIs.nil | exact SrcIs.own rfl rfl) rfl (by (try simp only [List.length_cons, List.length_nil]); omega) rfl rfl | exact lsq) | refine a_seq ?_ | refine a_region ?_ | refine o_nil ?_ | refine a_block ?_ | refine a_ret ?_ | refine a_exit ?_ | refine a_skip ?_ | refine a_draw mixed ?_ | refine d_nil (by kernel_rfl) ?_ | refine o_yes rfl rfl rfl ?_ | refine o_no rfl rfl rfl (by decide) ?_ | refine o_no' rfl rfl rfl ?_ | refine a_condT rfl ?_ | refine a_condF rfl ?_ | refine d_no rfl rfl rfl (by decide) ?_ | refine d_no' rfl rfl rfl ?_ | (refine wq2 (fun hb => ?_) (fun hb => ?_) <;> (simp only [hb]; try simp only [hbs, ne_eq] at hb; try (exfalso; first | omega | exact hb trivial))) | fail)
      refine ⟨⟨q + 1, by omega⟩, by dsimp only; omega, ?_⟩
      refine ⟨by repeat' (first | exact trivial | exact FinA.one (FinB.cell (FinC.same rfl)) | exact FinA.one (FinB.cell FinC.nil) | exact FinA.bound rfl | exact FinA.one (FinB.cell (FinC.own rfl rfl rfl rfl)) | exact FinA.one (FinB.cell (FinC.v (by first | rfl | ((simp only [hA]; rfl))))) | exact FinA.one (FinB.cell (FinC.ow rfl (by first | rfl | ((simp only [hA]; rfl))))) | exact FinA.one (FinB.agg' rfl rfl) | refine ⟨⟨_, rfl, ?_⟩, ?_⟩), by repeat' (first | exact trivial | refine ⟨⟨_, rfl, by first | rfl | ((simp only [hA]; rfl); done) | (simp [renO, *]; done)⟩, by first | rfl | assumption, ?_⟩), rfl⟩
    · obtain rfl : q = xs.length := by omega
      simp only [List.take_length]
      repeat' (first | ((first | apply o_do | apply d_do | apply d_yes rfl rfl rfl); exact lsq) | refine a_seq ?_ | refine a_region ?_ | refine o_nil ?_ | refine a_block ?_ | refine a_ret ?_ | refine a_exit ?_ | refine a_skip ?_ | refine a_draw mixed ?_ | refine d_nil (by kernel_rfl) ?_ | refine o_yes rfl rfl rfl ?_ | refine o_no rfl rfl rfl (by decide) ?_ | refine o_no' rfl rfl rfl ?_ | refine a_condT rfl ?_ | refine a_condF rfl ?_ | refine d_no rfl rfl rfl (by decide) ?_ | refine d_no' rfl rfl rfl ?_ | (refine wq2 (fun hb => ?_) (fun hb => ?_) <;> (simp only [hb]; try simp only [hbs, ne_eq] at hb; try (exfalso; first | omega | exact hb trivial))) | fail)
      refine rq rfl ?_
      exact fnq
set_option maxHeartbeats 2000000 in
theorem p_Results (k : Int) (xs : List Pn) (hx : xs.length ≤ 9223372036854775807) : PC Tryz.prog 42 [.v (.int .i64 k), .sl 6 (xs.map Pn.av)] (.sl 5 ((resultsL k xs).map Rs.av)) := by
  have hp := p_Right xs hx
  cases hR : rightL xs && fRight k
  · have e1 : (resultsL k xs).map Rs.av = [] := by simp only [resultsL, hR]; rfl
    rw [e1]
    refine PC.mk (ac_body tab_ok Tryz.func42 rfl (by kernel_rfl) rfl ?_); intro w0 M μ0; simp only [Tryz.ntmps42, List.length_cons, List.length_nil, Nat.reduceAdd, Nat.reduceSub, numb]
    repeat' (first | ((first | apply o_do | apply d_do | apply d_yes rfl rfl rfl); first | exact lsc (hp) | exact lsc ((p_fRight _)) | exact lsq) | refine a_seq ?_ | refine a_region ?_ | refine o_nil ?_ | refine a_block ?_ | refine a_ret ?_ | refine a_exit ?_ | refine a_skip ?_ | refine a_draw mixed ?_ | refine d_nil (by kernel_rfl) ?_ | refine o_yes rfl rfl rfl ?_ | refine o_no rfl rfl rfl (by decide) ?_ | refine o_no' rfl rfl rfl ?_ | refine a_condT rfl ?_ | refine a_condF rfl ?_ | refine d_no rfl rfl rfl (by decide) ?_ | refine d_no' rfl rfl rfl ?_ | (refine wq2 (fun hb => ?_) (fun hb => ?_) <;> (simp only [hb]; try simp only [hbs, ne_eq] at hb; try (exfalso; first | omega | exact hb trivial))) | fail)
    all_goals first
      | (refine rq rfl ?_; exact fnq; done)
      | (exfalso; simp_all; done)
  · simp only [Bool.and_eq_true] at hR
    obtain ⟨hR1, hR2⟩ := hR
    rw [hR1] at hp
    have hf := p_fRight k
    rw [hR2] at hf
    have hsm := (rightL_ok hR1).1
    have e1 : resultsL k xs = xs.map (resOf k) := by simp [resultsL, hR1, hR2]
    rw [e1]
    refine PC.mk (ac_body tab_ok Tryz.func42 rfl (by kernel_rfl) rfl ?_); intro w0 M μ0; simp only [Tryz.ntmps42, List.length_cons, List.length_nil, Nat.reduceAdd, Nat.reduceSub, numb]
    repeat' (first | ((first | apply o_do | apply d_do | apply d_yes rfl rfl rfl); first | exact lsc (hp) | exact lsc (hf) | exact lsq) | refine a_seq ?_ | refine a_region ?_ | refine o_nil ?_ | refine a_block ?_ | refine a_ret ?_ | refine a_exit ?_ | refine a_skip ?_ | refine a_draw mixed ?_ | refine d_nil (by kernel_rfl) ?_ | refine o_yes rfl rfl rfl ?_ | refine o_no rfl rfl rfl (by decide) ?_ | refine o_no' rfl rfl rfl ?_ | refine a_condT rfl ?_ | refine a_condF rfl ?_ | refine d_no rfl rfl rfl (by decide) ?_ | refine d_no' rfl rfl rfl ?_ | (refine wq2 (fun hb => ?_) (fun hb => ?_) <;> (simp only [hb]; try simp only [hbs, ne_eq] at hb; try (exfalso; first | omega | exact hb trivial))) | fail)
    refine a_adopt 5 0 61 5 rfl rfl ?_
    refine a_loop (X := {q : Nat // q ≤ xs.length}) (fun x => ⟨[(0, .v (.int .i64 k)), (5, .own 0 (((xs.take x.1).map (resOf k)).map Rs.av).length), (16, .sl 6 (xs.map Pn.av)), (17, .v (.int .i64 xs.length)), (18, .v (.int .i64 x.1))], [(0, .row 61 5 (((xs.take x.1).map (resOf k)).map Rs.av))]⟩) (fun x => xs.length - x.1) ⟨0, Nat.zero_le _⟩ ?_ ?_
    · exact wkS
    rintro ⟨q, hq⟩
    dsimp only
    by_cases hlt : q < xs.length
    · have hel : (xs.map Pn.av)[q]? = some (Pn.av xs[q]) := by simp [hlt]
      have hsn := take_snoc xs q hlt
      have hl2 : (((xs.take q).map (resOf k)).map Rs.av).length ≤ 2000 := by simp only [List.length_map, List.length_take]; omega
      generalize xs[q] = x at *
      have hA : ((xs.take (q + 1)).map (resOf k)).map Rs.av = ((xs.take q).map (resOf k)).map Rs.av ++ [(resOf k x).av] := by rw [hsn]; simp
      clear hsn
      repeat' (first | ((first | apply o_do | apply d_do | apply d_yes rfl rfl rfl); first | exact ls_indexAddr_sl tab_ok rfl rfl rfl rfl (by assumption) rfl | exact lsc ((p_Val _ _ _ _)) | exact ls_append tab_ok rfl rfl rfl rfl (by first | exact SrcIs.sl | exact SrcIs.nil | exact SrcIs.own rfl rfl) rfl (by (try simp only [List.length_cons, List.length_nil]); omega) rfl rfl | exact lsq) | refine a_seq ?_ | refine a_region ?_ | refine o_nil ?_ | refine a_block ?_ | refine a_ret ?_ | refine a_exit ?_ | refine a_skip ?_ | refine a_draw mixed ?_ | refine d_nil (by kernel_rfl) ?_ | refine o_yes rfl rfl rfl ?_ | refine o_no rfl rfl rfl (by decide) ?_ | refine o_no' rfl rfl rfl ?_ | refine a_condT rfl ?_ | refine a_condF rfl ?_ | refine d_no rfl rfl rfl (by decide) ?_ | refine d_no' rfl rfl rfl ?_ | (refine wq2 (fun hb => ?_) (fun hb => ?_) <;> (simp only [hb]; try simp only [hbs, ne_eq] at hb; try (exfalso; first | omega | exact hb trivial))) | fail)
      refine ⟨⟨q + 1, by omega⟩, by dsimp only; omega, ?_⟩
      refine ⟨by repeat' (first | exact trivial | exact FinA.one (FinB.cell (FinC.same rfl)) | exact FinA.one (FinB.cell FinC.nil) | exact FinA.bound rfl | exact FinA.one (FinB.cell (FinC.own rfl rfl rfl rfl)) | exact FinA.one (FinB.cell (FinC.v (by first | rfl | ((simp only [hA]; rfl))))) | exact FinA.one (FinB.cell (FinC.ow rfl (by first | rfl | ((simp only [hA]; rfl))))) | exact FinA.one (FinB.agg' rfl rfl) | refine ⟨⟨_, rfl, ?_⟩, ?_⟩), by repeat' (first | exact trivial | refine ⟨⟨_, rfl, by first | rfl | ((simp only [hA]; rfl); done) | (simp [renO, *]; done)⟩, by first | rfl | assumption, ?_⟩), rfl⟩
    · obtain rfl : q = xs.length := by omega
      simp only [List.take_length]
      repeat' (first | ((first | apply o_do | apply d_do | apply d_yes rfl rfl rfl); exact lsq) | refine a_seq ?_ | refine a_region ?_ | refine o_nil ?_ | refine a_block ?_ | refine a_ret ?_ | refine a_exit ?_ | refine a_skip ?_ | refine a_draw mixed ?_ | refine d_nil (by kernel_rfl) ?_ | refine o_yes rfl rfl rfl ?_ | refine o_no rfl rfl rfl (by decide) ?_ | refine o_no' rfl rfl rfl ?_ | refine a_condT rfl ?_ | refine a_condF rfl ?_ | refine d_no rfl rfl rfl (by decide) ?_ | refine d_no' rfl rfl rfl ?_ | (refine wq2 (fun hb => ?_) (fun hb => ?_) <;> (simp only [hb]; try simp only [hbs, ne_eq] at hb; try (exfalso; first | omega | exact hb trivial))) | fail)
      refine rq rfl ?_
      exact fnq
end Go.Proofs.YtagfjnjpgphnjaaGreat
namespace Go.Proofs.YtagfjnjpgphnjaaGreat
open Go.RowKit
set_option linter.unusedSimpArgs false
set_option linter.unusedVariables false
def Pn.vals (p : Pn) : List Value := [.int .i64 p.lo, .int .i64 p.hi, .string p.key, .int .i64 p.n, .int .i64 p.a, .int .i64 p.b]
def Rs.vals (p : Rs) : List Value := [.int .i64 p.lo, .int .i64 p.hi, .string p.key, .int .i64 p.n, .int .i64 p.val]
theorem run_neq_Pn (x y : Operand) (p : Pn) (w : World) : (do eqGuard .neq 155 x y (.agg p.vals.toArray) (.agg p.vals.toArray); binOp .neq 155 (.agg p.vals.toArray) (.agg p.vals.toArray) : Sem Value).run Tryz.prog w = .ok (.bool false) w := by
  unfold Pn.vals
  go_simp
section
variable {Γ : Ctx} {s : ASt} {dst : Option Tmp} {ty yt : TypeId} {pos : String} {after : Array Edge} {x y : Operand}
theorem ls_neqPn (p : Pn) (hx : ev s x = some (.agg (p.vals.map .v))) (hy : ev s y = some (.agg (p.vals.map .v))) (hd : okDst Γ.n dst = true) : LS Tryz.prog Γ ⟨dst, .binOp .neq 155 x y yt, ty, pos, after, none⟩ s (rd x (rd y [])) (dst1 dst (.v (.bool false))) [] :=
  ls_eqA p.vals p.vals (run_neq_Pn x y p) hx hy rfl rfl hd
end
set_option maxHeartbeats 1000000 in
theorem p_Like (xs : List Pn) (hx : xs.length ≤ 9223372036854775807) : PC Tryz.prog 169 [.sl 6 (xs.map Pn.av), .sl 6 (xs.map Pn.av)] (.v (.bool true)) := by
  refine PC.mk (ac_body tab_ok Tryz.func169 rfl (by kernel_rfl) rfl ?_); intro w0 M μ0; simp only [Tryz.ntmps169, List.length_cons, List.length_nil, Nat.reduceAdd, Nat.reduceSub, numb]
  repeat' (first | ((first | apply o_do | apply d_do | apply d_yes rfl rfl rfl); exact lsq) | refine a_seq ?_ | refine a_region ?_ | refine o_nil ?_ | refine a_block ?_ | refine a_ret ?_ | refine a_exit ?_ | refine a_skip ?_ | refine a_draw mixed ?_ | refine d_nil (by kernel_rfl) ?_ | refine o_yes rfl rfl rfl ?_ | refine o_no rfl rfl rfl (by decide) ?_ | refine o_no' rfl rfl rfl ?_ | refine a_condT rfl ?_ | refine a_condF rfl ?_ | refine d_no rfl rfl rfl (by decide) ?_ | refine d_no' rfl rfl rfl ?_ | (refine wq2 (fun hb => ?_) (fun hb => ?_) <;> (simp only [hb]; try simp only [hbs, ne_eq] at hb; try (exfalso; first | omega | exact hb trivial))) | fail)
  refine a_loop (X := {q : Nat // q ≤ xs.length}) (fun x => ⟨[(0, .sl 6 (xs.map Pn.av)), (1, .sl 6 (xs.map Pn.av)), (12, .v (.int .i64 xs.length)), (13, .v (.int .i64 x.1))], []⟩) (fun x => xs.length - x.1) ⟨0, Nat.zero_le _⟩ ?_ ?_
  · exact wkS
  rintro ⟨q, hq⟩
  dsimp only
  by_cases hlt : q < xs.length
  · have hel : (xs.map Pn.av)[q]? = some (Pn.av xs[q]) := by simp [hlt]
    generalize xs[q] = x at *
    repeat' (first | ((first | apply o_do | apply d_do | apply d_yes rfl rfl rfl); first | exact ls_indexAddr_sl tab_ok rfl rfl rfl rfl (by assumption) rfl | exact ls_neqPn x rfl rfl rfl | exact lsq) | refine a_seq ?_ | refine a_region ?_ | refine o_nil ?_ | refine a_block ?_ | refine a_ret ?_ | refine a_exit ?_ | refine a_skip ?_ | refine a_draw mixed ?_ | refine d_nil (by kernel_rfl) ?_ | refine o_yes rfl rfl rfl ?_ | refine o_no rfl rfl rfl (by decide) ?_ | refine o_no' rfl rfl rfl ?_ | refine a_condT rfl ?_ | refine a_condF rfl ?_ | refine d_no rfl rfl rfl (by decide) ?_ | refine d_no' rfl rfl rfl ?_ | (refine wq2 (fun hb => ?_) (fun hb => ?_) <;> (simp only [hb]; try simp only [hbs, ne_eq] at hb; try (exfalso; first | omega | exact hb trivial))) | fail)
    refine ⟨⟨q + 1, by omega⟩, by dsimp only; omega, ?_⟩
    exact wkS
  · repeat' (first | ((first | apply o_do | apply d_do | apply d_yes rfl rfl rfl); exact lsq) | refine a_seq ?_ | refine a_region ?_ | refine o_nil ?_ | refine a_block ?_ | refine a_ret ?_ | refine a_exit ?_ | refine a_skip ?_ | refine a_draw mixed ?_ | refine d_nil (by kernel_rfl) ?_ | refine o_yes rfl rfl rfl ?_ | refine o_no rfl rfl rfl (by decide) ?_ | refine o_no' rfl rfl rfl ?_ | refine a_condT rfl ?_ | refine a_condF rfl ?_ | refine d_no rfl rfl rfl (by decide) ?_ | refine d_no' rfl rfl rfl ?_ | (refine wq2 (fun hb => ?_) (fun hb => ?_) <;> (simp only [hb]; try simp only [hbs, ne_eq] at hb; try (exfalso; first | omega | exact hb trivial))) | fail)
    refine rq rfl ?_
    exact fnq
theorem dueRA_le (ps : List Pn) (m : Int) : (dueRA ps m).length ≤ ps.length := by
  unfold dueRA
  split
  · exact dueA_le _ _
  · simp
theorem rightL_mk {l : List Pn} (h1 : l.length ≤ 2000) (h2 : ∀ p ∈ l, mayB p = true) (h3 : l.Pairwise (fun p q => ahead p q = true)) : rightL l = true := by
  simp only [rightL, Bool.and_eq_true, decide_eq_true_eq]
  exact ⟨h1, (okPn_iff l).2 ⟨h2, h3⟩⟩
end Go.Proofs.YtagfjnjpgphnjaaGreat
