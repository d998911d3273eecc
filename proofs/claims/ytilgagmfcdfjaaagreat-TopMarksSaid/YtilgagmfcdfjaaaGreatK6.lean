/-
  Times and windows, walked over abstract values: sums and floors of times; which windows hold one.
  Events that go round, and times taken back, walked over abstract values.
    Events that go round, walked over abstract values: how they leave; which jobs and inputs may be.
    A source on its way, walked over abstract values: which events are late, and how they leave.
  Walks over abstract values: the end of a row of one's own is cleared. Over whatever program. No condition.
  Groups, walked over abstract values: which may be; time that goes on.
-/
import Derived.Laws.CopyRow
import Derived.Test.YtilgagmfcdfjaaaGreatK3
import Derived.Test.YtilgagmfcdfjaaaGreatK4
import Derived.Test.YtilgagmfcdfjaaaGreatK5
namespace Go.Proofs.YtilgagmfcdfjaaaGreat
open Go.RowKit
set_option linter.unusedSimpArgs false
set_option linter.unusedVariables false
def clampT (x : Int) : Int := min (max x 0) 1099511627776
def addT (x y : Int) : Int := clampT (clampT x + clampT y)
def floorT (t s : Int) : Int := if s < 1 ∨ 1099511627776 < s then 0 else clampT t - (clampT t).tmod s
theorem clampT_range (x : Int) : 0 ≤ clampT x ∧ clampT x ≤ 1099511627776 := by unfold clampT; omega
theorem clampT_id {x : Int} (h : 0 ≤ x ∧ x ≤ 1099511627776) : clampT x = x := by unfold clampT; omega
theorem addT_eq {x y : Int} (h : 0 ≤ x) (h1 : x ≤ 1099511627776) (h2 : 0 ≤ y) (h3 : y ≤ 1099511627776) : addT x y = min (x + y) 1099511627776 := by unfold addT clampT; omega
theorem p_tat (x : Int) : PC Tryz.prog 126 [.v (.int .i64 x)] (.v (.int .i64 (clampT x))) := by
  refine PC.mk (ac_body tab_ok Tryz.func126 rfl (by kernel_rfl) rfl ?_); intro w0 M μ0; simp only [Tryz.ntmps126, List.length_cons, List.length_nil, Nat.reduceAdd, Nat.reduceSub, numb]
  repeat' (first | ((first | apply o_do | apply d_do | apply d_yes rfl rfl rfl); exact lsq) | refine a_seq ?_ | refine a_region ?_ | refine o_nil ?_ | refine a_block ?_ | refine a_ret ?_ | refine a_exit ?_ | refine a_skip ?_ | refine a_draw mixed ?_ | refine d_nil (by kernel_rfl) ?_ | refine o_yes rfl rfl rfl ?_ | refine o_no rfl rfl rfl (by decide) ?_ | refine o_no' rfl rfl rfl ?_ | refine a_condT rfl ?_ | refine a_condF rfl ?_ | refine d_no rfl rfl rfl (by decide) ?_ | refine d_no' rfl rfl rfl ?_ | (refine wq2 (fun hb => ?_) (fun hb => ?_) <;> (simp only [hb]; try simp only [hbs, ne_eq] at hb; try (exfalso; first | omega | exact hb trivial))) | fail)
  all_goals refine rq rfl ?_
  all_goals exact fnq
theorem p_plusT (x y : Int) (hx : 0 ≤ x ∧ x ≤ 1099511627776) (hy : 0 ≤ y ∧ y ≤ 1099511627776) : PC Tryz.prog 146 [.v (.int .i64 x), .v (.int .i64 y)] (.v (.int .i64 (clampT (x + y)))) := by
  have h := p_tat (x + y)
  refine PC.mk (ac_body tab_ok Tryz.func146 rfl (by kernel_rfl) rfl ?_); intro w0 M μ0; simp only [Tryz.ntmps146, List.length_cons, List.length_nil, Nat.reduceAdd, Nat.reduceSub, numb]
  repeat' (first | ((first | apply o_do | apply d_do | apply d_yes rfl rfl rfl); first | exact lsc (h) | exact lsq) | refine a_seq ?_ | refine a_region ?_ | refine o_nil ?_ | refine a_block ?_ | refine a_ret ?_ | refine a_exit ?_ | refine a_skip ?_ | refine a_draw mixed ?_ | refine d_nil (by kernel_rfl) ?_ | refine o_yes rfl rfl rfl ?_ | refine o_no rfl rfl rfl (by decide) ?_ | refine o_no' rfl rfl rfl ?_ | refine a_condT rfl ?_ | refine a_condF rfl ?_ | refine d_no rfl rfl rfl (by decide) ?_ | refine d_no' rfl rfl rfl ?_ | (refine wq2 (fun hb => ?_) (fun hb => ?_) <;> (simp only [hb]; try simp only [hbs, ne_eq] at hb; try (exfalso; first | omega | exact hb trivial))) | fail)
  all_goals refine rq rfl ?_
  all_goals exact fnq
theorem p_bothPlus (x y : Int) : PC Tryz.prog 94 [.v (.int .i64 x), .v (.int .i64 y), .clo (.func 146) [] []] (.v (.int .i64 (addT x y))) := by
  have h1 := p_tat x
  have h2 := p_tat y
  have h3 := p_plusT (clampT x) (clampT y) (clampT_range x) (clampT_range y)
  refine PC.mk (ac_body tab_ok Tryz.func94 rfl (by kernel_rfl) rfl ?_); intro w0 M μ0; simp only [Tryz.ntmps94, List.length_cons, List.length_nil, Nat.reduceAdd, Nat.reduceSub, numb]
  repeat' (first | ((first | apply o_do | apply d_do | apply d_yes rfl rfl rfl); first | exact lsc (h1) | exact lsc (h2) | exact lsc (h3) | exact lsq) | refine a_seq ?_ | refine a_region ?_ | refine o_nil ?_ | refine a_block ?_ | refine a_ret ?_ | refine a_exit ?_ | refine a_skip ?_ | refine a_draw mixed ?_ | refine d_nil (by kernel_rfl) ?_ | refine o_yes rfl rfl rfl ?_ | refine o_no rfl rfl rfl (by decide) ?_ | refine o_no' rfl rfl rfl ?_ | refine a_condT rfl ?_ | refine a_condF rfl ?_ | refine d_no rfl rfl rfl (by decide) ?_ | refine d_no' rfl rfl rfl ?_ | (refine wq2 (fun hb => ?_) (fun hb => ?_) <;> (simp only [hb]; try simp only [hbs, ne_eq] at hb; try (exfalso; first | omega | exact hb trivial))) | fail)
  all_goals refine rq rfl ?_
  all_goals exact fnq
theorem p_addT (x y : Int) : PC Tryz.prog 118 [.v (.int .i64 x), .v (.int .i64 y)] (.v (.int .i64 (addT x y))) := by
  have h := p_bothPlus x y
  refine PC.mk (ac_body tab_ok Tryz.func118 rfl (by kernel_rfl) rfl ?_); intro w0 M μ0; simp only [Tryz.ntmps118, List.length_cons, List.length_nil, Nat.reduceAdd, Nat.reduceSub, numb]
  repeat' (first | ((first | apply o_do | apply d_do | apply d_yes rfl rfl rfl); first | exact lsc (h) | exact lsq) | refine a_seq ?_ | refine a_region ?_ | refine o_nil ?_ | refine a_block ?_ | refine a_ret ?_ | refine a_exit ?_ | refine a_skip ?_ | refine a_draw mixed ?_ | refine d_nil (by kernel_rfl) ?_ | refine o_yes rfl rfl rfl ?_ | refine o_no rfl rfl rfl (by decide) ?_ | refine o_no' rfl rfl rfl ?_ | refine a_condT rfl ?_ | refine a_condF rfl ?_ | refine d_no rfl rfl rfl (by decide) ?_ | refine d_no' rfl rfl rfl ?_ | (refine wq2 (fun hb => ?_) (fun hb => ?_) <;> (simp only [hb]; try simp only [hbs, ne_eq] at hb; try (exfalso; first | omega | exact hb trivial))) | fail)
  all_goals refine rq rfl ?_
  all_goals exact fnq
theorem p_clamp (x : Int) : PC Tryz.prog 145 [.v (.int .i64 x)] (.v (.int .i64 (clampT x))) := by
  have h := p_tat x
  refine PC.mk (ac_body tab_ok Tryz.func145 rfl (by kernel_rfl) rfl ?_); intro w0 M μ0; simp only [Tryz.ntmps145, List.length_cons, List.length_nil, Nat.reduceAdd, Nat.reduceSub, numb]
  repeat' (first | ((first | apply o_do | apply d_do | apply d_yes rfl rfl rfl); first | exact lsc (h) | exact lsq) | refine a_seq ?_ | refine a_region ?_ | refine o_nil ?_ | refine a_block ?_ | refine a_ret ?_ | refine a_exit ?_ | refine a_skip ?_ | refine a_draw mixed ?_ | refine d_nil (by kernel_rfl) ?_ | refine o_yes rfl rfl rfl ?_ | refine o_no rfl rfl rfl (by decide) ?_ | refine o_no' rfl rfl rfl ?_ | refine a_condT rfl ?_ | refine a_condF rfl ?_ | refine d_no rfl rfl rfl (by decide) ?_ | refine d_no' rfl rfl rfl ?_ | (refine wq2 (fun hb => ?_) (fun hb => ?_) <;> (simp only [hb]; try simp only [hbs, ne_eq] at hb; try (exfalso; first | omega | exact hb trivial))) | fail)
  all_goals refine rq rfl ?_
  all_goals exact fnq
theorem p_floor (t s : Int) : PC Tryz.prog 117 [.v (.int .i64 t), .v (.int .i64 s)] (.v (.int .i64 (floorT t s))) := by
  have h := p_clamp t
  have hc := clampT_range t
  by_cases h1 : s < 1 ∨ 1099511627776 < s
  · rw [floorT, if_pos h1]
    refine PC.mk (ac_body tab_ok Tryz.func117 rfl (by kernel_rfl) rfl ?_); intro w0 M μ0; simp only [Tryz.ntmps117, List.length_cons, List.length_nil, Nat.reduceAdd, Nat.reduceSub, numb]
    repeat' (first | ((first | apply o_do | apply d_do | apply d_yes rfl rfl rfl); first | exact lsc (h) | exact lsq) | refine a_seq ?_ | refine a_region ?_ | refine o_nil ?_ | refine a_block ?_ | refine a_ret ?_ | refine a_exit ?_ | refine a_skip ?_ | refine a_draw mixed ?_ | refine d_nil (by kernel_rfl) ?_ | refine o_yes rfl rfl rfl ?_ | refine o_no rfl rfl rfl (by decide) ?_ | refine o_no' rfl rfl rfl ?_ | refine a_condT rfl ?_ | refine a_condF rfl ?_ | refine d_no rfl rfl rfl (by decide) ?_ | refine d_no' rfl rfl rfl ?_ | (refine wq2 (fun hb => ?_) (fun hb => ?_) <;> (simp only [hb]; try simp only [hbs, ne_eq] at hb; try (exfalso; first | omega | exact hb trivial))) | fail)
    all_goals refine rq rfl ?_
    all_goals exact fnq
  · rw [floorT, if_neg h1]
    obtain ⟨r, hr⟩ : ∃ r, (clampT t).tmod s = r := ⟨_, rfl⟩
    have hb := Int.tmod_nonneg s hc.1
    have hb2 := Int.tmod_lt_of_pos (clampT t) (show 0 < s by omega)
    rw [hr] at hb hb2 ⊢
    refine PC.mk (ac_body tab_ok Tryz.func117 rfl (by kernel_rfl) rfl ?_); intro w0 M μ0; simp only [Tryz.ntmps117, List.length_cons, List.length_nil, Nat.reduceAdd, Nat.reduceSub, numb]
    repeat' (first | ((first | apply o_do | apply d_do | apply d_yes rfl rfl rfl); first | exact lsc (h) | exact ls_rem64 hr rfl rfl (by omega) (by omega) rfl | exact lsq) | refine a_seq ?_ | refine a_region ?_ | refine o_nil ?_ | refine a_block ?_ | refine a_ret ?_ | refine a_exit ?_ | refine a_skip ?_ | refine a_draw mixed ?_ | refine d_nil (by kernel_rfl) ?_ | refine o_yes rfl rfl rfl ?_ | refine o_no rfl rfl rfl (by decide) ?_ | refine o_no' rfl rfl rfl ?_ | refine a_condT rfl ?_ | refine a_condF rfl ?_ | refine d_no rfl rfl rfl (by decide) ?_ | refine d_no' rfl rfl rfl ?_ | (refine wq2 (fun hb => ?_) (fun hb => ?_) <;> (simp only [hb]; try simp only [hbs, ne_eq] at hb; try (exfalso; first | omega | exact hb trivial))) | fail)
    all_goals refine rq rfl ?_
    all_goals exact fnq
structure Wn where
  lo : Int
  hi : Int
def Wn.av (x : Wn) : List AV := [.v (.int .i64 x.lo), .v (.int .i64 x.hi)]
def Wn.cells (x : Wn) : List Value := [.int .i64 x.lo, .int .i64 x.hi]
/-- the window of a size that begins at so many slides -/
def winK (size slide : Int) (k : Int) : Wn := ⟨k * slide, addT (k * slide) size⟩
/-- the first one, and the last one, that hold a time -/
def firstK (size slide t : Int) : Int := max 0 ((t - size) / slide + 1)
def lastK (slide t : Int) : Int := t / slide
def cntK (size slide t : Int) : Nat := (lastK slide t + 1 - firstK size slide t).toNat
def okT (size slide t : Int) : Bool := winB size slide && (decide (0 ≤ t) && decide (t < 1099511627776))
def winL (size slide t : Int) : List Wn := if okT size slide t then (List.range (cntK size slide t)).map (fun i : Nat => winK size slide (firstK size slide t + (i : Int))) else []
/-- the last ones first -/
def upto (size slide t : Int) (n : Nat) : List Wn := (List.range n).map (fun i : Nat => winK size slide (lastK slide t - (i : Int)))
theorem upto_succ (size slide t : Int) (n : Nat) : upto size slide t (n + 1) = upto size slide t n ++ [winK size slide (lastK slide t - (n : Int))] := by
  simp [upto, List.range_succ]
section
variable {size slide t : Int}
theorem winB_iff : winB size slide = true ↔ 1 ≤ slide ∧ slide ≤ size ∧ size ≤ 1048576 ∧ size ≤ 16 * slide := by
  simp [winB, and_assoc]
theorem okT_iff : okT size slide t = true ↔ (1 ≤ slide ∧ slide ≤ size ∧ size ≤ 1048576 ∧ size ≤ 16 * slide) ∧ 0 ≤ t ∧ t < 1099511627776 := by
  rw [okT, Bool.and_eq_true, winB_iff]; simp
/-- a window that begins at k slides is one of those -/
theorem first_iff (h : 1 ≤ slide) (k : Int) : firstK size slide t ≤ k ↔ 0 ≤ k ∧ t - size < k * slide := by
  unfold firstK
  have h1 : (t - size) / slide + 1 ≤ k ↔ t - size < k * slide := by
    rw [Int.add_one_le_iff, Int.ediv_lt_iff_lt_mul (by omega)]
  omega
theorem last_iff (h : 1 ≤ slide) (k : Int) : k ≤ lastK slide t ↔ k * slide ≤ t := by
  unfold lastK
  rw [Int.le_ediv_iff_mul_le (by omega)]
theorem last_nonneg (h : 1 ≤ slide) (ht : 0 ≤ t) : 0 ≤ lastK slide t := Int.ediv_nonneg ht (by omega)
theorem first_le_last (h : okT size slide t = true) : firstK size slide t ≤ lastK slide t := by
  obtain ⟨⟨h1, h2, h3, h4⟩, h5, h6⟩ := okT_iff.1 h
  rw [first_iff h1]
  refine ⟨last_nonneg h1 h5, ?_⟩
  have := Int.lt_ediv_add_one_mul_self t (show 0 < slide by omega)
  unfold lastK
  rw [Int.add_mul] at this
  omega
theorem cntK_eq (h : okT size slide t = true) : (cntK size slide t : Int) = lastK slide t + 1 - firstK size slide t := by
  have := first_le_last h
  unfold cntK
  omega
theorem cntK_le (h : okT size slide t = true) : cntK size slide t ≤ 16 := by
  obtain ⟨⟨h1, h2, h3, h4⟩, h5, h6⟩ := okT_iff.1 h
  have h7 := cntK_eq h
  have h8 := first_le_last h
  have h9 := (first_iff (size := size) (t := t) h1 (firstK size slide t)).1 (Int.le_refl _)
  have h10 := (last_iff (t := t) h1 (lastK slide t)).1 (Int.le_refl _)
  have h11 : (lastK slide t - firstK size slide t) * slide < 16 * slide := by rw [Int.sub_mul]; omega
  have h12 := Int.lt_of_mul_lt_mul_right h11 (show 0 ≤ slide by omega)
  omega
theorem floor_eq (h : okT size slide t = true) : floorT t slide = lastK slide t * slide := by
  obtain ⟨⟨h1, h2, h3, h4⟩, h5, h6⟩ := okT_iff.1 h
  unfold floorT lastK
  rw [if_neg (by omega), clampT_id ⟨by omega, by omega⟩, Int.tmod_eq_emod_of_nonneg h5]
  rw [Int.emod_def, Int.mul_comm (t / slide) slide]
  omega
theorem upto_rev (h : okT size slide t = true) : (upto size slide t (cntK size slide t)).reverse = winL size slide t := by
  have hc := cntK_eq h
  unfold upto winL
  rw [if_pos h, ← List.map_reverse]
  apply List.ext_getElem
  · simp
  · intro i h1 h2
    simp only [List.length_map, List.length_reverse, List.length_range] at h1
    simp only [List.getElem_map, List.getElem_reverse, List.getElem_range, List.length_range]
    congr 1
    omega
end
end Go.Proofs.YtilgagmfcdfjaaaGreat
namespace Go.Proofs.YtilgagmfcdfjaaaGreat
open Go.RowKit
set_option linter.unusedSimpArgs false
set_option linter.unusedVariables false
section
variable {P : Program} {Γ : Ctx} {s : ASt} {dst : Option Tmp} {ty xt yt : TypeId} {pos : String} {after : Array Edge} {x y : Operand}
theorem ls_negTo {a m : Int} (hm : -a = m) (hx : ev s x = some (.v (.int .i64 a))) (h : -9223372036854775808 ≤ m ∧ m ≤ 9223372036854775807) (hd : okDst Γ.n dst = true) : LS P Γ ⟨dst, .unOp .neg xt x, ty, pos, after, none⟩ s (rd x []) (dst1 dst (.v (.int .i64 m))) [] := by
  have := ls_neg (P := P) (Γ := Γ) (ty := ty) (pos := pos) (after := after) (xt := xt) hx hd
  rwa [show (0 : Int) - a = m by omega, IntWalk.i64_in _ (by omega)] at this
end
def subT (x y : Int) : Int := clampT (clampT x - clampT y)
theorem p_minusT (x y : Int) (hx : 0 ≤ x ∧ x ≤ 1099511627776) (hy : 0 ≤ y ∧ y ≤ 1099511627776) : PC Tryz.prog 95 [.v (.int .i64 x), .v (.int .i64 y)] (.v (.int .i64 (clampT (x - y)))) := by
  have h := p_tat (x - y)
  refine PC.mk (ac_body tab_ok Tryz.func95 rfl (by kernel_rfl) rfl ?_); intro w0 M μ0; simp only [Tryz.ntmps95, List.length_cons, List.length_nil, Nat.reduceAdd, Nat.reduceSub, numb]
  repeat' (first | ((first | apply o_do | apply d_do | apply d_yes rfl rfl rfl); first | exact lsc (h) | exact lsq) | refine a_seq ?_ | refine a_region ?_ | refine o_nil ?_ | refine a_block ?_ | refine a_ret ?_ | refine a_exit ?_ | refine a_skip ?_ | refine a_draw mixed ?_ | refine d_nil (by kernel_rfl) ?_ | refine o_yes rfl rfl rfl ?_ | refine o_no rfl rfl rfl (by decide) ?_ | refine o_no' rfl rfl rfl ?_ | refine a_condT rfl ?_ | refine a_condF rfl ?_ | refine d_no rfl rfl rfl (by decide) ?_ | refine d_no' rfl rfl rfl ?_ | (refine wq2 (fun hb => ?_) (fun hb => ?_) <;> (simp only [hb]; try simp only [hbs, ne_eq] at hb; try (exfalso; first | omega | exact hb trivial))) | fail)
  all_goals refine rq rfl ?_
  all_goals exact fnq
theorem p_bothMinus (x y : Int) : PC Tryz.prog 94 [.v (.int .i64 x), .v (.int .i64 y), .clo (.func 95) [] []] (.v (.int .i64 (subT x y))) := by
  have h1 := p_tat x
  have h2 := p_tat y
  have h3 := p_minusT (clampT x) (clampT y) (clampT_range x) (clampT_range y)
  refine PC.mk (ac_body tab_ok Tryz.func94 rfl (by kernel_rfl) rfl ?_); intro w0 M μ0; simp only [Tryz.ntmps94, List.length_cons, List.length_nil, Nat.reduceAdd, Nat.reduceSub, numb]
  repeat' (first | ((first | apply o_do | apply d_do | apply d_yes rfl rfl rfl); first | exact lsc (h1) | exact lsc (h2) | exact lsc (h3) | exact lsq) | refine a_seq ?_ | refine a_region ?_ | refine o_nil ?_ | refine a_block ?_ | refine a_ret ?_ | refine a_exit ?_ | refine a_skip ?_ | refine a_draw mixed ?_ | refine d_nil (by kernel_rfl) ?_ | refine o_yes rfl rfl rfl ?_ | refine o_no rfl rfl rfl (by decide) ?_ | refine o_no' rfl rfl rfl ?_ | refine a_condT rfl ?_ | refine a_condF rfl ?_ | refine d_no rfl rfl rfl (by decide) ?_ | refine d_no' rfl rfl rfl ?_ | (refine wq2 (fun hb => ?_) (fun hb => ?_) <;> (simp only [hb]; try simp only [hbs, ne_eq] at hb; try (exfalso; first | omega | exact hb trivial))) | fail)
  all_goals refine rq rfl ?_
  all_goals exact fnq
theorem p_subT (x y : Int) : PC Tryz.prog 67 [.v (.int .i64 x), .v (.int .i64 y)] (.v (.int .i64 (subT x y))) := by
  have h := p_bothMinus x y
  refine PC.mk (ac_body tab_ok Tryz.func67 rfl (by kernel_rfl) rfl ?_); intro w0 M μ0; simp only [Tryz.ntmps67, List.length_cons, List.length_nil, Nat.reduceAdd, Nat.reduceSub, numb]
  repeat' (first | ((first | apply o_do | apply d_do | apply d_yes rfl rfl rfl); first | exact lsc (h) | exact lsq) | refine a_seq ?_ | refine a_region ?_ | refine o_nil ?_ | refine a_block ?_ | refine a_ret ?_ | refine a_exit ?_ | refine a_skip ?_ | refine a_draw mixed ?_ | refine d_nil (by kernel_rfl) ?_ | refine o_yes rfl rfl rfl ?_ | refine o_no rfl rfl rfl (by decide) ?_ | refine o_no' rfl rfl rfl ?_ | refine a_condT rfl ?_ | refine a_condF rfl ?_ | refine d_no rfl rfl rfl (by decide) ?_ | refine d_no' rfl rfl rfl ?_ | (refine wq2 (fun hb => ?_) (fun hb => ?_) <;> (simp only [hb]; try simp only [hbs, ne_eq] at hb; try (exfalso; first | omega | exact hb trivial))) | fail)
  all_goals refine rq rfl ?_
  all_goals exact fnq
def halfI (v : Int) : Int := v.tdiv 2
theorem halfI_range {v : Int} (h : -9223372036854775808 ≤ v ∧ v ≤ 9223372036854775807) : -9223372036854775808 ≤ halfI v ∧ halfI v ≤ 9223372036854775807 := by
  unfold halfI
  rcases Int.lt_or_le v 0 with h0 | h0
  · have e : v.tdiv 2 = -((-v).tdiv 2) := by rw [Int.neg_tdiv, Int.neg_neg]
    have e2 : (-v).tdiv 2 = (-v) / 2 := Int.tdiv_eq_ediv_of_nonneg (by omega)
    rw [e2] at e
    omega
  · rw [Int.tdiv_eq_ediv_of_nonneg h0]; omega
theorem p_Half (v : Int) (h : -9223372036854775808 ≤ v ∧ v ≤ 9223372036854775807) : PC Tryz.prog 93 [.v (.int .i64 v)] (.v (.int .i64 (halfI v))) := by
  have hr := halfI_range h
  obtain ⟨m, hm⟩ : ∃ m, v.tdiv 2 = m := ⟨_, rfl⟩
  rw [halfI, hm] at hr ⊢
  refine PC.mk (ac_body tab_ok Tryz.func93 rfl (by kernel_rfl) rfl ?_); intro w0 M μ0; simp only [Tryz.ntmps93, List.length_cons, List.length_nil, Nat.reduceAdd, Nat.reduceSub, numb]
  repeat' (first | ((first | apply o_do | apply d_do | apply d_yes rfl rfl rfl); first | exact ls_quo64 hm rfl rfl (by omega) hr rfl | exact lsq) | refine a_seq ?_ | refine a_region ?_ | refine o_nil ?_ | refine a_block ?_ | refine a_ret ?_ | refine a_exit ?_ | refine a_skip ?_ | refine a_draw mixed ?_ | refine d_nil (by kernel_rfl) ?_ | refine o_yes rfl rfl rfl ?_ | refine o_no rfl rfl rfl (by decide) ?_ | refine o_no' rfl rfl rfl ?_ | refine a_condT rfl ?_ | refine a_condF rfl ?_ | refine d_no rfl rfl rfl (by decide) ?_ | refine d_no' rfl rfl rfl ?_ | (refine wq2 (fun hb => ?_) (fun hb => ?_) <;> (simp only [hb]; try simp only [hbs, ne_eq] at hb; try (exfalso; first | omega | exact hb trivial))) | fail)
  all_goals refine rq rfl ?_
  all_goals exact fnq
def limR (limit : Int) : Int := max limit 0
def fuelR (fuel : Int) : Int := min (max fuel 0) 40
def leavesB (lim fu v n : Int) : Bool := decide (fu ≤ n) || (decide (v ≤ lim) && decide (-lim ≤ v))
theorem p_ruleOf (limit fuel : Int) : PC Tryz.prog 91 [.v (.int .i64 limit), .v (.int .i64 fuel)] (.agg [.v (.int .i64 (limR limit)), .v (.int .i64 (fuelR fuel))]) := by
  refine PC.mk (ac_body tab_ok Tryz.func91 rfl (by kernel_rfl) rfl ?_); intro w0 M μ0; simp only [Tryz.ntmps91, List.length_cons, List.length_nil, Nat.reduceAdd, Nat.reduceSub, numb]
  repeat' (first | ((first | apply o_do | apply d_do | apply d_yes rfl rfl rfl); exact lsq) | refine a_seq ?_ | refine a_region ?_ | refine o_nil ?_ | refine a_block ?_ | refine a_ret ?_ | refine a_exit ?_ | refine a_skip ?_ | refine a_draw mixed ?_ | refine d_nil (by kernel_rfl) ?_ | refine o_yes rfl rfl rfl ?_ | refine o_no rfl rfl rfl (by decide) ?_ | refine o_no' rfl rfl rfl ?_ | refine a_condT rfl ?_ | refine a_condF rfl ?_ | refine d_no rfl rfl rfl (by decide) ?_ | refine d_no' rfl rfl rfl ?_ | (refine wq2 (fun hb => ?_) (fun hb => ?_) <;> (simp only [hb]; try simp only [hbs, ne_eq] at hb; try (exfalso; first | omega | exact hb trivial))) | fail)
  all_goals refine rq rfl ?_
  all_goals exact fnq
theorem p_leaves (lim fu v n : Int) (hl : 0 ≤ lim ∧ lim ≤ 9223372036854775807) : PC Tryz.prog 92 [.agg [.v (.int .i64 lim), .v (.int .i64 fu)], .v (.int .i64 v), .v (.int .i64 n)] (.v (.bool (leavesB lim fu v n))) := by
  obtain ⟨m, hm⟩ : ∃ m, -lim = m := ⟨_, rfl⟩
  unfold leavesB
  rw [hm]
  refine PC.mk (ac_body tab_ok Tryz.func92 rfl (by kernel_rfl) rfl ?_); intro w0 M μ0; simp only [Tryz.ntmps92, List.length_cons, List.length_nil, Nat.reduceAdd, Nat.reduceSub, numb]
  repeat' (first | ((first | apply o_do | apply d_do | apply d_yes rfl rfl rfl); first | exact ls_negTo hm rfl (by omega) rfl | exact lsq) | refine a_seq ?_ | refine a_region ?_ | refine o_nil ?_ | refine a_block ?_ | refine a_ret ?_ | refine a_exit ?_ | refine a_skip ?_ | refine a_draw mixed ?_ | refine d_nil (by kernel_rfl) ?_ | refine o_yes rfl rfl rfl ?_ | refine o_no rfl rfl rfl (by decide) ?_ | refine o_no' rfl rfl rfl ?_ | refine a_condT rfl ?_ | refine a_condF rfl ?_ | refine d_no rfl rfl rfl (by decide) ?_ | refine d_no' rfl rfl rfl ?_ | (refine wq2 (fun hb => ?_) (fun hb => ?_) <;> (simp only [hb]; try simp only [hbs, ne_eq] at hb; try (exfalso; first | omega | exact hb trivial))) | fail)
  all_goals refine rq rfl ?_
  all_goals (first | refine FinA.tup ?_ | refine FinA.one ?_); repeat' (first | exact FinBs.nil | exact FinCs.nil | refine FinBs.cons ?_ ?_ | refine FinCs.cons ?_ ?_ | refine FinB.cell (FinC.v ?_) | refine FinB.cell (FinC.own rfl rfl rfl ?_) | exact FinB.cell FinC.nil | refine FinB.cell (FinC.sl ?_) | exact FinB.agg' rfl rfl | exact FinB.cell (FinC.same rfl) | refine FinB.agg ?_ | refine FinC.v ?_ | refine FinC.own rfl rfl rfl ?_ | exact FinC.nil | refine FinC.sl ?_ | exact FinC.same rfl); all_goals try rfl
  all_goals simp [*]
/-- so many rounds are left -/
def goV (lim : Int) : Nat → Int → Nat → Int × Nat
  | 0, v, n => (v, n)
  | m + 1, v, n => if v ≤ lim ∧ -lim ≤ v then (v, n) else goV lim m (halfI v) (n + 1)
def runE (limit fuel v : Int) : Int × Nat := goV (limR limit) (fuelR fuel).toNat v 0
end Go.Proofs.YtilgagmfcdfjaaaGreat
namespace Go.Proofs.YtilgagmfcdfjaaaGreat
open Go.RowKit
set_option linter.unusedSimpArgs false
set_option linter.unusedVariables false
theorem goV_leave {lim fu v : Int} {n : Nat} (hf : 0 ≤ fu) (h : leavesB lim fu v n = true) : goV lim (fu.toNat - n) v n = (v, n) := by
  simp only [leavesB, Bool.or_eq_true, Bool.and_eq_true, decide_eq_true_eq] at h
  rcases h with h | h
  · rw [show fu.toNat - n = 0 by omega]; rfl
  · cases hm : fu.toNat - n with
    | zero => rfl
    | succ m => rw [goV, if_pos h]
theorem goV_on {lim fu v : Int} {n : Nat} (hf : 0 ≤ fu) (h : leavesB lim fu v n = false) : n < fu.toNat ∧ goV lim (fu.toNat - n) v n = goV lim (fu.toNat - (n + 1)) (halfI v) (n + 1) := by
  simp only [leavesB, Bool.or_eq_false_iff, Bool.and_eq_false_imp, decide_eq_false_iff_not, decide_eq_true_eq] at h
  obtain ⟨h1, h2⟩ := h
  have hn : n < fu.toNat := by omega
  refine ⟨hn, ?_⟩
  obtain ⟨m, hm⟩ : ∃ m, fu.toNat - n = m + 1 := ⟨fu.toNat - n - 1, by omega⟩
  rw [hm, show fu.toNat - (n + 1) = m by omega, goV, if_neg (by intro h3; exact h2 h3.1 h3.2)]
theorem fuelR_range (fuel : Int) : 0 ≤ fuelR fuel ∧ fuelR fuel ≤ 40 := by unfold fuelR; omega
set_option maxHeartbeats 2000000 in
theorem p_Run (key : ByteArray) (t v limit fuel : Int) (hv : -9223372036854775808 ≤ v ∧ v ≤ 9223372036854775807) (hl : limit ≤ 9223372036854775807) :
    PC Tryz.prog 65 [.agg [.v (.string key), .v (.int .i64 t), .v (.int .i64 v)], .v (.int .i64 limit), .v (.int .i64 fuel)] (.tup [.agg [.v (.string key), .v (.int .i64 t), .v (.int .i64 (runE limit fuel v).1)], .v (.int .i64 (runE limit fuel v).2)]) := by
  have hr := p_ruleOf limit fuel
  have hf := fuelR_range fuel
  have hlr : 0 ≤ limR limit ∧ limR limit ≤ 9223372036854775807 := by unfold limR; omega
  unfold runE
  generalize limR limit = lim at *
  generalize fuelR fuel = fu at *
  refine PC.mk (ac_body tab_ok Tryz.func65 rfl (by kernel_rfl) rfl ?_); intro w0 M μ0; simp only [Tryz.ntmps65, List.length_cons, List.length_nil, Nat.reduceAdd, Nat.reduceSub, numb]
  repeat' (first | ((first | apply o_do | apply d_do | apply d_yes rfl rfl rfl); first | exact lsc (hr) | exact lsq) | refine a_seq ?_ | refine a_region ?_ | refine o_nil ?_ | refine a_block ?_ | refine a_ret ?_ | refine a_exit ?_ | refine a_skip ?_ | refine a_draw mixed ?_ | refine d_nil (by kernel_rfl) ?_ | refine o_yes rfl rfl rfl ?_ | refine o_no rfl rfl rfl (by decide) ?_ | refine o_no' rfl rfl rfl ?_ | refine a_condT rfl ?_ | refine a_condF rfl ?_ | refine d_no rfl rfl rfl (by decide) ?_ | refine d_no' rfl rfl rfl ?_ | (refine wq2 (fun hb => ?_) (fun hb => ?_) <;> (simp only [hb]; try simp only [hbs, ne_eq] at hb; try (exfalso; first | omega | exact hb trivial))) | fail)
  refine a_loop (X := {x : Int × Nat // x.2 ≤ fu.toNat ∧ goV lim fu.toNat v 0 = goV lim (fu.toNat - x.2) x.1 x.2 ∧ (-9223372036854775808 ≤ x.1 ∧ x.1 ≤ 9223372036854775807)}) (fun x => ⟨[(3, .ref 0 0), (6, .ref 1 0), (8, .clo (.func 92) [.agg [.v (.int .i64 lim), .v (.int .i64 fu)]] []), (9, .v (.int .i64 x.1.2))], [(0, .box 57 [.v (.string key), .v (.int .i64 t), .v (.int .i64 x.1.1)]), (1, .box 57 [.v (.string ByteArray.empty), .v (.int .i64 0), .v (.int .i64 0)])]⟩) (fun x => fu.toNat - x.1.2) ⟨(v, 0), Nat.zero_le _, rfl, hv⟩ ?_ ?_
  · exact wkS
  rintro ⟨⟨c, n⟩, h1, h2, h3⟩
  dsimp only at h1 h2 h3 ⊢
  rw [h2]
  have hL := p_leaves lim fu c n hlr
  cases hb : leavesB lim fu c n
  · obtain ⟨g1, g2⟩ := goV_on hf.1 hb
    have hH := p_Half c h3
    have hh := halfI_range h3
    rw [hb] at hL
    rw [g2]
    generalize halfI c = c' at *
    repeat' (first | ((first | apply o_do | apply d_do | apply d_yes rfl rfl rfl); first | focus (apply ls_callB hL rfl rfl _ rfl rfl; (repeat' (first | exact NilL.nil | refine NilL.cons Nil.same ?_ | refine NilL.cons Nil.nil ?_ | refine NilL.cons (Nil.agg ?_) ?_ | exact Nil1s.nil | refine Nil1s.cons Nil1.same ?_ | refine Nil1s.cons Nil1.nil ?_)); done) | exact lsc (hH) | exact lsq) | refine a_seq ?_ | refine a_region ?_ | refine o_nil ?_ | refine a_block ?_ | refine a_ret ?_ | refine a_exit ?_ | refine a_skip ?_ | refine a_draw mixed ?_ | refine d_nil (by kernel_rfl) ?_ | refine o_yes rfl rfl rfl ?_ | refine o_no rfl rfl rfl (by decide) ?_ | refine o_no' rfl rfl rfl ?_ | refine a_condT rfl ?_ | refine a_condF rfl ?_ | refine d_no rfl rfl rfl (by decide) ?_ | refine d_no' rfl rfl rfl ?_ | (refine wq2 (fun hb => ?_) (fun hb => ?_) <;> (simp only [hb]; try simp only [hbs, ne_eq] at hb; try (exfalso; first | omega | exact hb trivial))) | fail)
    refine ⟨⟨(c', n + 1), by dsimp only; omega, rfl, hh⟩, by dsimp only; omega, ?_⟩
    exact wkS
  · have g := goV_leave (n := n) hf.1 hb
    rw [hb] at hL
    rw [g]
    repeat' (first | ((first | apply o_do | apply d_do | apply d_yes rfl rfl rfl); first | focus (apply ls_callB hL rfl rfl _ rfl rfl; (repeat' (first | exact NilL.nil | refine NilL.cons Nil.same ?_ | refine NilL.cons Nil.nil ?_ | refine NilL.cons (Nil.agg ?_) ?_ | exact Nil1s.nil | refine Nil1s.cons Nil1.same ?_ | refine Nil1s.cons Nil1.nil ?_)); done) | exact lsq) | refine a_seq ?_ | refine a_region ?_ | refine o_nil ?_ | refine a_block ?_ | refine a_ret ?_ | refine a_exit ?_ | refine a_skip ?_ | refine a_draw mixed ?_ | refine d_nil (by kernel_rfl) ?_ | refine o_yes rfl rfl rfl ?_ | refine o_no rfl rfl rfl (by decide) ?_ | refine o_no' rfl rfl rfl ?_ | refine a_condT rfl ?_ | refine a_condF rfl ?_ | refine d_no rfl rfl rfl (by decide) ?_ | refine d_no' rfl rfl rfl ?_ | (refine wq2 (fun hb => ?_) (fun hb => ?_) <;> (simp only [hb]; try simp only [hbs, ne_eq] at hb; try (exfalso; first | omega | exact hb trivial))) | fail)
    all_goals refine rq rfl ?_
    all_goals exact fnq
end Go.Proofs.YtilgagmfcdfjaaaGreat
namespace Go.Proofs.YtilgagmfcdfjaaaGreat
open Go.RowKit
set_option linter.unusedSimpArgs false
set_option linter.unusedVariables false
/-- the source's box -/
def srcAv (g s d k fu li de id mark : Int) : List AV := [.v (.int .i64 g), .v (.int .i64 s), .v (.int .i64 d), .v (.int .i64 k), .v (.int .i64 fu), .v (.int .i64 li), .v (.int .i64 de), .v (.int .i64 id), .v (.int .i64 mark)]
def srcCells (g s d k fu li de id mark : Int) : List Value := [.int .i64 g, .int .i64 s, .int .i64 d, .int .i64 k, .int .i64 fu, .int .i64 li, .int .i64 de, .int .i64 id, .int .i64 mark]
set_option maxHeartbeats 4000000 in
theorem c_see (g s d k fu li de id mark : Int) (key : ByteArray) (t v : Int) (hv : -9223372036854775808 ≤ v ∧ v ≤ 9223372036854775807) (hl : li ≤ 9223372036854775807) :
    AC Tryz.prog 50 [.ref 0 0, .agg [.v (.string key), .v (.int .i64 t), .v (.int .i64 v)]] [(0, .box 116 (srcAv g s d k fu li de id mark))] (.tup [.agg [.v (.string key), .v (.int .i64 t), .v (.int .i64 (runE li fu v).1)], .v (.bool (!decide (t < mark)))]) [(0, .box 116 (srcAv g s d k fu li de id (max mark (subT t de))))] := by
  have h1 := p_subT t de
  have h2 := p_Run key t v li fu hv hl
  generalize runE li fu v = r at *
  obtain ⟨v', n⟩ := r
  dsimp only at h2
  generalize subT t de = z at *
  refine (ac_body tab_ok Tryz.func50 rfl (by kernel_rfl) rfl ?_); intro w0 M μ0; simp only [Tryz.ntmps50, List.length_cons, List.length_nil, Nat.reduceAdd, Nat.reduceSub, numb]
  repeat' (first | ((first | apply o_do | apply d_do | apply d_yes rfl rfl rfl); first | exact ls_nilCheck rfl rfl | exact lsc (h1) | exact lsc (h2) | exact lsq) | refine a_seq ?_ | refine a_region ?_ | refine o_nil ?_ | refine a_block ?_ | refine a_ret ?_ | refine a_exit ?_ | refine a_skip ?_ | refine a_draw mixed ?_ | refine d_nil (by kernel_rfl) ?_ | refine o_yes rfl rfl rfl ?_ | refine o_no rfl rfl rfl (by decide) ?_ | refine o_no' rfl rfl rfl ?_ | refine a_condT rfl ?_ | refine a_condF rfl ?_ | refine d_no rfl rfl rfl (by decide) ?_ | refine d_no' rfl rfl rfl ?_ | (refine wq2 (fun hb => ?_) (fun hb => ?_) <;> (simp only [hb]; try simp only [hbs, ne_eq] at hb; try (exfalso; first | omega | exact hb trivial))) | fail)
  all_goals refine rq rfl ?_
  all_goals exact fnq
end Go.Proofs.YtilgagmfcdfjaaaGreat
namespace Go.Proofs.YtilgagmfcdfjaaaGreat
open Go.RowKit
set_option linter.unusedSimpArgs false
set_option linter.unusedVariables false
theorem o_weak {P : Program} {Γ : Ctx} {Q : Exit → ASt → Prop} {s t : ASt} {ops : Array Oper} {rest : List Oper} (h : Weak Γ s t) (hk : AOps P Γ ops rest Q t) : AOps P Γ ops rest Q s := ⟨fun hnd μ a w hr => hk.out hnd μ a w (h.rel hr)⟩
section
variable {P : Program} {T : List TyI} {Γ : Ctx} {s : ASt} {Q : Exit → ASt → Prop} {ops : Array Oper} {rest : List Oper} {ty ty' : TypeId} {pos pos' : String} {after after' : Array Edge}
theorem Rel.putFree {μ : Nat → Value} {w : World} {a : Act} (hr : Rel Γ s μ a w) {d : Nat} (y : Value) (hfree : find s.regs d = none) : Rel Γ s μ (a.put (some d) y) w := by
  refine ⟨hr.defers, by simpa [Act.put] using hr.tmps, fun t z hz => ?_, hr.store, hr.gro⟩
  have e : d ≠ t := fun e => by subst e; rw [hfree] at hz; cases hz
  have := hr.regs t z hz
  simpa [Act.put, Array.getD_eq_getD_getElem?, Array.getElem?_setIfInBounds_ne e] using this
theorem repLL_app {σ : Store} {μ : Nat → Value} {w : World} {A : Nat → Prop} {size : Nat} : ∀ {xs ys : List (List AV)} {us vs : List Value}, repLL σ μ w A size xs us → repLL σ μ w A size ys vs → repLL σ μ w A size (xs ++ ys) (us ++ vs)
  | [], ys, us, vs, h, k => by simp only [repLL] at h; subst h; exact k
  | x :: xs, ys, us, vs, h, k => by
    simp only [repLL] at h
    obtain ⟨u1, u2, rfl, h0, h1, h2⟩ := h
    exact ⟨u1, u2 ++ vs, by rw [List.append_assoc], h0, h1, repLL_app h2 k⟩
theorem repLL_repW {σ : Store} {μ : Nat → Value} {w : World} {A : Nat → Prop} {size : Nat} {zc : List AV} {zs : List Value} (hz : repC σ μ w A zc zs) (hl : zs.length = size) : ∀ m : Nat, repLL σ μ w A size (List.replicate m zc) (List.replicate m zs).flatten
  | 0 => rfl
  | m + 1 => ⟨zs, (List.replicate m zs).flatten, by simp [List.replicate_succ], hl, hz, repLL_repW hz hl m⟩
theorem flat_len {zs : List Value} {size : Nat} (hl : zs.length = size) : ∀ m : Nat, (List.replicate m zs).flatten.length = m * size
  | 0 => by simp
  | m + 1 => by rw [List.replicate_succ, List.flatten_cons, List.length_append, flat_len hl m, hl, Nat.add_mul]; omega
theorem zeros_list {z : Array Value} {size : Nat} (h0 : 0 < size) (hz : z.size = size) : ∀ m : Nat, (Builtin.zeroCells z m).toList = (List.replicate m z.toList).flatten := by
  intro m
  unfold Builtin.zeroCells
  rw [hz, Array.toList_map, Array.toList_range]
  induction m with
  | zero => simp
  | succ m ih =>
    rw [List.replicate_succ', List.flatten_concat, ← ih, Nat.add_mul, Nat.one_mul, List.range_add, List.map_append, List.map_map]
    congr 1
    apply List.ext_getElem
    · simp [hz]
    · intro j h1 h2
      simp only [List.length_map, List.length_range] at h1
      simp only [List.getElem_map, List.getElem_range, Function.comp]
      rw [Nat.mul_comm m size, Nat.mul_add_mod, Nat.mod_eq_of_lt h1, getElem!_pos z j (by omega)]
      simp
set_option maxHeartbeats 1000000 in
theorem o_sliceClear (hT : okTab P T = true) {x y : Operand} {t e id n q d : Nat} {i : Int} {k : IntKind} {size bytes : Nat} {xs : List (List AV)} {zc : List AV} {zv : Value}
    (hx : ev s x = some (.own id n)) (hσ : find s.σ id = some (.row e size xs)) (hn : n = xs.length) (hy : ev s y = some (.v (.int k i))) (hi : i = (q : Int)) (hq : q < xs.length) (hty : nth T t = some (.slice e size bytes))
    (hz : ∀ w, (zeroValue e).run P w = .ok zv w) (hzc : ∀ σ μ w A, repC σ μ w A zc zv.cells.toList) (hzl : zv.cells.size = size) (hfree : find s.regs d = none) (hd : okDst Γ.n (some d) = true)
    (hk : AOps P Γ ops rest Q ⟨s.regs, (id, .row e size (xs.take q ++ List.replicate (xs.length - q) zc)) :: s.σ⟩) (htag : Nat.blt e 1048576 = true := by rfl) :
    AOps P Γ ops (⟨some d, .slice t x (some y) none none, ty, pos, after, none⟩ :: ⟨none, .call { callee := .builtin .clear, args := #[.tmp d], argTypes := #[t] }, ty', pos', after', none⟩ :: rest) Q s := by
  refine ⟨fun hnd μ a w hr => plain_in hnd rfl fun K hK => ?_⟩
  have e1 := hr.ev hx
  have e2 := hr.ev hy
  simp only [rep] at e1 e2
  obtain ⟨_, e', size', xs', e3, e4, e5⟩ := live hσ e1
  rw [hσ] at e3
  injection e3 with e3; injection e3 with e3 e7 e8; subst e3 e7 e8
  have e5 := e5 hn
  obtain ⟨us, e11, e12⟩ := hr.store.obj id _ hσ
  have e11 := e11.own htag
  obtain ⟨hu, hpos, j, z, hj, hj2, _⟩ := slice_ty hT hty
  subst hi
  have hdl : d < a.tmps.size := by rw [hr.tmps]; exact Nat.le_of_ble_eq_true hd
  have hul := repLL_len e12
  rcases e11.2 with ⟨h9, h0⟩ | ⟨g, cap, cur, h9, _, h10, h11, h12, h13, h14⟩
  · omega
  have hnc : (q : Int) ≤ xs.length := by omega
  have hnc2 : (q : Int) ≤ cap := by omega
  have hcq : cap ≠ q := by omega
  have hle : q ≤ xs.length := by omega
  have hrun : (execOp a.eval ⟨some d, .slice t x (some y) none none, ty, pos, after, none⟩).run P w = .ok (.value (.slice (some ⟨g, q * size, none⟩) (xs.length - q) (cap - q))) w := by
    simp [execOp, e5, h9, e2.1, Instr.sliceAt, Instr.slice, run_underlying hu, Instr.sliceBounds, Instr.sliceBound, asIntOf, hnc, hle, sizeOf, typeInfo, hj, hj2, hcq, Addr.add]
    by_cases h0 : q * size = 0 <;> simp [h0]
  unfold Oper.wp
  rw [hrun]
  refine hK _ _ ?_
  refine plain_in (nodef_cons hnd).2 rfl fun K2 hK2 => ?_
  have hr2 : Rel Γ s μ (a.put (some d) (.slice (some ⟨g, q * size, none⟩) (xs.length - q) (cap - q))) w := hr.putFree _ hfree
  have hev : (a.put (some d) (.slice (some ⟨g, q * size, none⟩) (xs.length - q) (cap - q))).eval (.tmp d) = .slice (some ⟨g, q * size, none⟩) (xs.length - q) (cap - q) := by simp [Act.put, Act.eval, Array.getD_eq_getD_getElem?, hdl]
  have hzl' : zv.cells.toList.length = size := by simpa using hzl
  have hfl := flat_len hzl' (xs.length - q)
  have hqs : q * size + (xs.length - q) * size = xs.length * size := by rw [← Nat.add_mul]; congr 1; omega
  have hcs : xs.length * size ≤ cap * size := Nat.mul_le_mul_right _ h11
  have hone : ∀ v ∈ (List.replicate (xs.length - q) zv.cells.toList).flatten, v.oneCell' = true := by
    intro v hv
    obtain ⟨l, hl, hvl⟩ := List.mem_flatten.1 hv
    rw [(List.mem_replicate.1 hl).2] at hvl
    exact repC_one (hzc s.σ μ w (fun _ => False)) v hvl
  have hst := run_storeCells_at (P := P) g (q * size) e (List.replicate (xs.length - q) zv.cells.toList).flatten 0 cur w h10 (by rw [hfl]; omega) hone
  have hne : xs.length - q ≠ 0 := by omega
  have hclr : (Builtin.clear_ #[t] ty' #[.slice (some ⟨g, q * size, none⟩) (xs.length - q) (cap - q)]).run P w = .ok (.tuple #[]) (w.setRow g (cur.toList.take (q * size + 0) ++ (List.replicate (xs.length - q) zv.cells.toList).flatten ++ cur.toList.drop (q * size + 0 + (List.replicate (xs.length - q) zv.cells.toList).flatten.length)).toArray) := by
    rw [← zeros_list (by omega : 0 < size) hzl] at hst ⊢
    obtain ⟨m, hm⟩ : ∃ m, xs.length - q = m + 1 := ⟨xs.length - q - 1, by omega⟩
    rw [hm] at hst ⊢
    simp [Builtin.clear_, run_underlying hu, hz, hst]
  have hrun2 : (execOp (a.put (some d) (.slice (some ⟨g, q * size, none⟩) (xs.length - q) (cap - q))).eval ⟨none, .call { callee := .builtin .clear, args := #[.tmp d], argTypes := #[t] }, ty', pos', after', none⟩).run P w = .ok (.value (.tuple #[])) (w.setRow g (cur.toList.take (q * size + 0) ++ (List.replicate (xs.length - q) zv.cells.toList).flatten ++ cur.toList.drop (q * size + 0 + (List.replicate (xs.length - q) zv.cells.toList).flatten.length)).toArray) := by
    simp [execOp, resolve, invoke, builtin, hev, hclr, Result.andThen]
  unfold Oper.wp
  rw [hrun2]
  refine hK2 _ _ (hk.out (nodef_cons (nodef_cons hnd).2).2 μ _ _ ?_)
  have hlen : (xs.take q ++ List.replicate (xs.length - q) zc).length = xs.length := by rw [List.length_append, List.length_take, List.length_replicate]; omega
  refine store_rel hr2 hσ (g := g) (by rw [h9]; rfl) (by simp) rfl rfl rfl (fun b hb => setRow_other w g b _ hb) ⟨rfl, rfl, hlen⟩ (fun A hst hA => ?_)
  have e16 := repLL_mono hst.pure e12
  have hnew := repLL_app (repLL_take (n := q) e16) (repLL_repW (hzc [] μ _ A) hzl' (xs.length - q))
  refine ⟨_, OwnS.of ⟨repLL_len hnew, .inr ⟨g, cap, _, by rw [h9, hlen], Nat.zero_le _, Go.setRow_heap w g cur _ e (0, 0) h10, by omega, h12, ?_, ?_⟩⟩ htag, hnew⟩
  · simp only [List.size_toArray, List.length_append, List.length_take, List.length_drop, Array.length_toList, hfl]; omega
  · rw [hlen]
    simp only [Nat.add_zero, List.toList_toArray]
    have hA : (cur.toList.take (q * size)).length = q * size := by rw [List.length_take, Array.length_toList, h13]; exact Nat.min_eq_left (by omega)
    rw [List.take_append_of_le_length (by rw [List.length_append, hA, hfl]; omega), List.take_of_length_le (by rw [List.length_append, hA, hfl]; omega)]
    congr 1
    rw [← h14, List.take_take]
    congr 1
    have : q * size ≤ xs.length * size := Nat.mul_le_mul_right _ (by omega)
    omega
end
end Go.Proofs.YtilgagmfcdfjaaaGreat
namespace Go.Proofs.YtilgagmfcdfjaaaGreat
open Go.RowKit
set_option linter.unusedSimpArgs false
set_option linter.unusedVariables false
def grR (no mark : Int) (ps : List Pn) : Bool := decide (0 ≤ no) && (decide (no < 32) && (decide (0 ≤ mark) && (decide (mark ≤ 1099511627776) && (rightL ps && ps.all fun p => decide (mark < p.hi)))))
def closed (mark : Int) (p : Pn) : Bool := decide (p.hi ≤ mark)
theorem ok_wRight : CallOK Tryz.prog 56 := ⟨_, Tryz.func56, by kernel_rfl, rfl⟩
theorem p_wRight (s d : Int) : PC Tryz.prog 56 [.v (.int .i64 s), .v (.int .i64 d)] (.v (.bool (winB s d))) :=
  pc_of_calls (xs := [.int .i64 s, .int .i64 d]) ok_wRight (fun w => (window_Right s d w).mono fun e w' ⟨h1, h2⟩ => ⟨h1, by rw [← h2]; exact Below.refl _ _⟩) rfl
def jobR (s d k : Int) : Bool := winB s d && fRight k
end Go.Proofs.YtilgagmfcdfjaaaGreat
