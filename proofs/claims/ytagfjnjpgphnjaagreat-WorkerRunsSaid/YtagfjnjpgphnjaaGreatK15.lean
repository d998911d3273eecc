/-
  Workers, walked over abstract values: which may be; new ones, likeness.
  How workers, items and what they are made of read.
  Marks: what they hold back, and what can be told. Plain.
  Aligners: an item that is offered. Plain.
  Workers: an item that is taken. Plain.
-/
import Derived.Test.YtagfjnjpgphnjaaGreatK4
import Derived.Test.YtagfjnjpgphnjaaGreatK6
import Derived.Test.YtagfjnjpgphnjaaGreatK10
import Derived.Test.YtagfjnjpgphnjaaGreatK11
import Derived.Test.YtagfjnjpgphnjaaGreatK12
import Derived.Test.YtagfjnjpgphnjaaGreatK13
import Derived.Test.YtagfjnjpgphnjaaGreatK14
namespace Go.Proofs.YtagfjnjpgphnjaaGreat
open Go.RowKit
set_option linter.unusedSimpArgs false
set_option linter.unusedVariables false
/-- what is known of a worker's lengths -/
structure WkOk (k : Wk) : Prop where
  gs : k.gs.length ≤ 9223372036854775807
  ps : ∀ g ∈ k.gs, g.ps.length ≤ 9223372036854775807
  ins : k.mks.ins.length ≤ 9223372036854775807
  hs : k.mks.hs.length ≤ 9223372036854775807
  got : k.al.got.length ≤ 9223372036854775807
  held : k.al.held.length ≤ 9223372036854775807
  its : ∀ l ∈ k.al.held, l.length ≤ 9223372036854775807
set_option maxHeartbeats 2000000 in
theorem w_Right (k : Wk) (hk : WkOk k) : PC Tryz.prog 54 [.agg k.av] (.v (.bool (wkR k))) := by
  obtain ⟨k1, k2, k3, k4, k5, k6, k7⟩ := hk
  obtain ⟨gs, ⟨ins, hs, out⟩, ⟨n, got, held⟩, told⟩ := k
  dsimp only at k1 k2 k3 k4 k5 k6 k7
  have h1 := w_groups gs k1 k2
  have h2 := m_Right ⟨ins, hs, out⟩ k3 k4
  have h3 := l_Right ⟨n, got, held⟩ k5 k6 k7
  have n1 : (ins.map inAvM).length = ins.length := List.length_map _
  have n2 : (hs.map hoAv).length = hs.length := List.length_map _
  have n3 : (got.map boAv).length = got.length := List.length_map _
  simp only [Mk.av] at h2
  simp only [Al.av] at h3
  unfold wkR
  simp only [Wk.av]
  cases e1 : gsR gs <;> cases e2 : mkR ⟨ins, hs, out⟩ <;> cases e3 : alR ⟨n, got, held⟩
  all_goals
    rw [e1] at h1
    rw [e2] at h2
    rw [e3] at h3
    refine PC.mk (ac_body tab_ok Tryz.func54 rfl (by kernel_rfl) rfl ?_); intro w0 M μ0; simp only [Tryz.ntmps54, List.length_cons, List.length_nil, Nat.reduceAdd, Nat.reduceSub, numb]
    repeat' (first | ((first | apply o_do | apply d_do | apply d_yes rfl rfl rfl); first | exact lsc (h1) | exact lsc (h2) | exact lsc (h3) | exact lsq) | refine a_seq ?_ | refine a_region ?_ | refine o_nil ?_ | refine a_block ?_ | refine a_ret ?_ | refine a_exit ?_ | refine a_skip ?_ | refine a_draw mixed ?_ | refine d_nil (by kernel_rfl) ?_ | refine o_yes rfl rfl rfl ?_ | refine o_no rfl rfl rfl (by decide) ?_ | refine o_no' rfl rfl rfl ?_ | refine a_condT rfl ?_ | refine a_condF rfl ?_ | refine d_no rfl rfl rfl (by decide) ?_ | refine d_no' rfl rfl rfl ?_ | (refine wq2 (fun hb => ?_) (fun hb => ?_) <;> (simp only [hb]; try simp only [hbs, ne_eq] at hb; try (exfalso; first | omega | exact hb trivial))) | fail)
    all_goals refine rq rfl ?_
    all_goals (first | refine FinA.tup ?_ | refine FinA.one ?_); repeat' (first | exact FinBs.nil | exact FinCs.nil | refine FinBs.cons ?_ ?_ | refine FinCs.cons ?_ ?_ | refine FinB.cell (FinC.v ?_) | refine FinB.cell (FinC.own rfl rfl rfl ?_) | exact FinB.cell FinC.nil | refine FinB.cell (FinC.sl ?_) | exact FinB.agg' rfl rfl | exact FinB.cell (FinC.same rfl) | refine FinB.agg ?_ | refine FinC.v ?_ | refine FinC.own rfl rfl rfl ?_ | exact FinC.nil | refine FinC.sl ?_ | exact FinC.same rfl); all_goals try rfl
    all_goals first | (simp [*]; done) | (refine congrArg Value.bool ?_; rw [Bool.eq_iff_iff]; simp only [Bool.and_eq_true, decide_eq_true_eq, Bool.false_eq_true, true_and, false_and, and_true, false_iff, not_and]; omega)
set_option maxHeartbeats 2000000 in
theorem w_rRight (k : Wk) (hk : WkOk k) : PC Tryz.prog 61 [.agg k.av] (.v (.bool (wkR k))) := by
  obtain ⟨k1, k2, k3, k4, k5, k6, k7⟩ := hk
  obtain ⟨gs, ⟨ins, hs, out⟩, ⟨n, got, held⟩, told⟩ := k
  dsimp only at k1 k2 k3 k4 k5 k6 k7
  have h1 := w_rGroups gs k1 k2
  have h2 := m_rRight ⟨ins, hs, out⟩ k3 k4
  have h3 := l_rRight ⟨n, got, held⟩ k5 k6 k7
  have n1 : (ins.map inAvM).length = ins.length := List.length_map _
  have n2 : (hs.map hoAv).length = hs.length := List.length_map _
  have n3 : (got.map boAv).length = got.length := List.length_map _
  simp only [Mk.av] at h2
  simp only [Al.av] at h3
  unfold wkR
  simp only [Wk.av]
  cases e1 : gsR gs <;> cases e2 : mkR ⟨ins, hs, out⟩ <;> cases e3 : alR ⟨n, got, held⟩
  all_goals
    rw [e1] at h1
    rw [e2] at h2
    rw [e3] at h3
    refine PC.mk (ac_body tab_ok Tryz.func61 rfl (by kernel_rfl) rfl ?_); intro w0 M μ0; simp only [Tryz.ntmps61, List.length_cons, List.length_nil, Nat.reduceAdd, Nat.reduceSub, numb]
    repeat' (first | ((first | apply o_do | apply d_do | apply d_yes rfl rfl rfl); first | exact lsc (h1) | exact lsc (h2) | exact lsc (h3) | exact lsq) | refine a_seq ?_ | refine a_region ?_ | refine o_nil ?_ | refine a_block ?_ | refine a_ret ?_ | refine a_exit ?_ | refine a_skip ?_ | refine a_draw mixed ?_ | refine d_nil (by kernel_rfl) ?_ | refine o_yes rfl rfl rfl ?_ | refine o_no rfl rfl rfl (by decide) ?_ | refine o_no' rfl rfl rfl ?_ | refine a_condT rfl ?_ | refine a_condF rfl ?_ | refine d_no rfl rfl rfl (by decide) ?_ | refine d_no' rfl rfl rfl ?_ | (refine wq2 (fun hb => ?_) (fun hb => ?_) <;> (simp only [hb]; try simp only [hbs, ne_eq] at hb; try (exfalso; first | omega | exact hb trivial))) | fail)
    all_goals refine rq rfl ?_
    all_goals (first | refine FinA.tup ?_ | refine FinA.one ?_); repeat' (first | exact FinBs.nil | exact FinCs.nil | refine FinBs.cons ?_ ?_ | refine FinCs.cons ?_ ?_ | refine FinB.cell (FinC.v ?_) | refine FinB.cell (FinC.own rfl rfl rfl ?_) | exact FinB.cell FinC.nil | refine FinB.cell (FinC.sl ?_) | exact FinB.agg' rfl rfl | exact FinB.cell (FinC.same rfl) | refine FinB.agg ?_ | refine FinC.v ?_ | refine FinC.own rfl rfl rfl ?_ | exact FinC.nil | refine FinC.sl ?_ | exact FinC.same rfl); all_goals try rfl
    all_goals first | (simp [*]; done) | (refine congrArg Value.bool ?_; rw [Bool.eq_iff_iff]; simp only [Bool.and_eq_true, decide_eq_true_eq, Bool.false_eq_true, true_and, false_and, and_true, false_iff, not_and]; omega)
def wkZ : Wk := ⟨[], ⟨[], [], 0⟩, ⟨0, [], []⟩, 0⟩
structure WkN where
  w : Wk
  e : Int
def WkN.av (x : WkN) : AV := .tup [.agg x.w.av, .v (.int .i64 x.e)]
def newW (ok : Bool) (n : Int) (gs : List Gp) : WkN :=
  if ok = false then ⟨wkZ, 130⟩
  else if 1 ≤ n ∧ n ≤ 8 ∧ gsR gs = true then ⟨⟨gs, ⟨newIns n, [], 0⟩, ⟨0, newGot n, newHeld n⟩, 0⟩, 0⟩
  else ⟨wkZ, 1⟩
set_option maxHeartbeats 2000000 in
theorem w_New (g s d k fu li de id n : Int) (gs : List Gp) (hx : gs.length ≤ 9223372036854775807) (hp : ∀ g ∈ gs, g.ps.length ≤ 9223372036854775807) :
    PC Tryz.prog 12 [.agg [.v (.int .i64 g), .v (.int .i64 s), .v (.int .i64 d), .v (.int .i64 k), .v (.int .i64 fu), .v (.int .i64 li), .v (.int .i64 de), .v (.int .i64 id)], .v (.int .i64 n), .sl 3 (gs.map Gp.av)] (newW (jobOK g s d k fu li de id) n gs).av := by
  have h1 := j_Right g s d k fu li de id
  have h2 := m_New n
  have h3 := l_New n
  have h4 := w_groups gs hx hp
  simp only [Mk.av] at h2
  simp only [Al.av] at h3
  unfold newW
  by_cases hn : 1 ≤ n ∧ n ≤ 8
  · have e5 : newE n = 0 := by unfold newE; rw [if_pos hn]
    rw [e5] at h2 h3
    cases e1 : jobOK g s d k fu li de id <;> cases e4 : gsR gs
    all_goals
      rw [e1] at h1
      rw [e4] at h4
    · simp only [if_true, WkN.av, wkZ, Wk.av, List.map_nil]
      refine PC.mk (ac_body tab_ok Tryz.func12 rfl (by kernel_rfl) rfl ?_); intro w0 M μ0; simp only [Tryz.ntmps12, List.length_cons, List.length_nil, Nat.reduceAdd, Nat.reduceSub, numb]
      repeat' (first | ((first | apply o_do | apply d_do | apply d_yes rfl rfl rfl); first | exact lsc (h1) | exact lsc (h2) | exact lsc (h3) | exact lsc (h4) | exact lsq) | refine a_seq ?_ | refine a_region ?_ | refine o_nil ?_ | refine a_block ?_ | refine a_ret ?_ | refine a_exit ?_ | refine a_skip ?_ | refine a_draw mixed ?_ | refine d_nil (by kernel_rfl) ?_ | refine o_yes rfl rfl rfl ?_ | refine o_no rfl rfl rfl (by decide) ?_ | refine o_no' rfl rfl rfl ?_ | refine a_condT rfl ?_ | refine a_condF rfl ?_ | refine d_no rfl rfl rfl (by decide) ?_ | refine d_no' rfl rfl rfl ?_ | (refine wq2 (fun hb => ?_) (fun hb => ?_) <;> (simp only [hb]; try simp only [hbs, ne_eq] at hb; try (exfalso; first | omega | exact hb trivial))) | fail)
      refine rq rfl ?_
      exact fnq
    · simp only [if_true, WkN.av, wkZ, Wk.av, List.map_nil]
      refine PC.mk (ac_body tab_ok Tryz.func12 rfl (by kernel_rfl) rfl ?_); intro w0 M μ0; simp only [Tryz.ntmps12, List.length_cons, List.length_nil, Nat.reduceAdd, Nat.reduceSub, numb]
      repeat' (first | ((first | apply o_do | apply d_do | apply d_yes rfl rfl rfl); first | exact lsc (h1) | exact lsc (h2) | exact lsc (h3) | exact lsc (h4) | exact lsq) | refine a_seq ?_ | refine a_region ?_ | refine o_nil ?_ | refine a_block ?_ | refine a_ret ?_ | refine a_exit ?_ | refine a_skip ?_ | refine a_draw mixed ?_ | refine d_nil (by kernel_rfl) ?_ | refine o_yes rfl rfl rfl ?_ | refine o_no rfl rfl rfl (by decide) ?_ | refine o_no' rfl rfl rfl ?_ | refine a_condT rfl ?_ | refine a_condF rfl ?_ | refine d_no rfl rfl rfl (by decide) ?_ | refine d_no' rfl rfl rfl ?_ | (refine wq2 (fun hb => ?_) (fun hb => ?_) <;> (simp only [hb]; try simp only [hbs, ne_eq] at hb; try (exfalso; first | omega | exact hb trivial))) | fail)
      refine rq rfl ?_
      exact fnq
    · simp only [Bool.true_eq_false, Bool.false_eq_true, and_false, if_false, WkN.av, wkZ, Wk.av, List.map_nil]
      refine PC.mk (ac_body tab_ok Tryz.func12 rfl (by kernel_rfl) rfl ?_); intro w0 M μ0; simp only [Tryz.ntmps12, List.length_cons, List.length_nil, Nat.reduceAdd, Nat.reduceSub, numb]
      repeat' (first | ((first | apply o_do | apply d_do | apply d_yes rfl rfl rfl); first | exact lsc (h1) | exact lsc (h2) | exact lsc (h3) | exact lsc (h4) | exact lsq) | refine a_seq ?_ | refine a_region ?_ | refine o_nil ?_ | refine a_block ?_ | refine a_ret ?_ | refine a_exit ?_ | refine a_skip ?_ | refine a_draw mixed ?_ | refine d_nil (by kernel_rfl) ?_ | refine o_yes rfl rfl rfl ?_ | refine o_no rfl rfl rfl (by decide) ?_ | refine o_no' rfl rfl rfl ?_ | refine a_condT rfl ?_ | refine a_condF rfl ?_ | refine d_no rfl rfl rfl (by decide) ?_ | refine d_no' rfl rfl rfl ?_ | (refine wq2 (fun hb => ?_) (fun hb => ?_) <;> (simp only [hb]; try simp only [hbs, ne_eq] at hb; try (exfalso; first | omega | exact hb trivial))) | fail)
      refine rq rfl ?_
      exact fnq
    · simp only [Bool.true_eq_false, if_false, hn.1, hn.2, and_self, if_true, WkN.av, Wk.av, List.map_nil]
      have hc := cl_Grp (gs.map Gp.av) (by rw [List.length_map]; have := gsR_le e4; omega)
      refine PC.mk (ac_body tab_ok Tryz.func12 rfl (by kernel_rfl) rfl ?_); intro w0 M μ0; simp only [Tryz.ntmps12, List.length_cons, List.length_nil, Nat.reduceAdd, Nat.reduceSub, numb]
      repeat' (first | ((first | apply o_do | apply d_do | apply d_yes rfl rfl rfl); first | exact lsc (h1) | exact lsc (h2) | exact lsc (h3) | exact lsc (h4) | exact ls_callA [] 4 hc rfl rfl (by (repeat' (first | exact NilL.nil | refine NilL.cons Nil.same ?_ | refine NilL.cons Nil.nil ?_ | refine NilL.cons (Nil.agg ?_) ?_ | exact Nil1s.nil | refine Nil1s.cons Nil1.same ?_ | refine Nil1s.cons Nil1.nil ?_)); first | done | fail) rfl (by repeat' (first | exact trivial | refine ⟨⟨_, rfl, by first | rfl | (simp [renO, *]; done)⟩, ?_⟩)) (by first | rfl | simp [closO, *]) rfl rfl rfl rfl (by first | rfl | simp [closO, *]) rfl | exact lsq) | refine a_seq ?_ | refine a_region ?_ | refine o_nil ?_ | refine a_block ?_ | refine a_ret ?_ | refine a_exit ?_ | refine a_skip ?_ | refine a_draw mixed ?_ | refine d_nil (by kernel_rfl) ?_ | refine o_yes rfl rfl rfl ?_ | refine o_no rfl rfl rfl (by decide) ?_ | refine o_no' rfl rfl rfl ?_ | refine a_condT rfl ?_ | refine a_condF rfl ?_ | refine d_no rfl rfl rfl (by decide) ?_ | refine d_no' rfl rfl rfl ?_ | (refine wq2 (fun hb => ?_) (fun hb => ?_) <;> (simp only [hb]; try simp only [hbs, ne_eq] at hb; try (exfalso; first | omega | exact hb trivial))) | fail)
      refine rq rfl ?_
      exact fnq
  · have e5 : newE n = 1 := by unfold newE; rw [if_neg hn]
    rw [e5] at h2 h3
    have e6 : ¬ (1 ≤ n ∧ n ≤ 8 ∧ gsR gs = true) := fun h => hn ⟨h.1, h.2.1⟩
    cases e1 : jobOK g s d k fu li de id
    all_goals rw [e1] at h1
    · simp only [if_true, WkN.av, wkZ, Wk.av, List.map_nil]
      refine PC.mk (ac_body tab_ok Tryz.func12 rfl (by kernel_rfl) rfl ?_); intro w0 M μ0; simp only [Tryz.ntmps12, List.length_cons, List.length_nil, Nat.reduceAdd, Nat.reduceSub, numb]
      repeat' (first | ((first | apply o_do | apply d_do | apply d_yes rfl rfl rfl); first | exact lsc (h1) | exact lsc (h2) | exact lsc (h3) | exact lsc (h4) | exact lsq) | refine a_seq ?_ | refine a_region ?_ | refine o_nil ?_ | refine a_block ?_ | refine a_ret ?_ | refine a_exit ?_ | refine a_skip ?_ | refine a_draw mixed ?_ | refine d_nil (by kernel_rfl) ?_ | refine o_yes rfl rfl rfl ?_ | refine o_no rfl rfl rfl (by decide) ?_ | refine o_no' rfl rfl rfl ?_ | refine a_condT rfl ?_ | refine a_condF rfl ?_ | refine d_no rfl rfl rfl (by decide) ?_ | refine d_no' rfl rfl rfl ?_ | (refine wq2 (fun hb => ?_) (fun hb => ?_) <;> (simp only [hb]; try simp only [hbs, ne_eq] at hb; try (exfalso; first | omega | exact hb trivial))) | fail)
      refine rq rfl ?_
      exact fnq
    · rw [if_neg (by decide), if_neg e6]
      simp only [WkN.av, wkZ, Wk.av, List.map_nil]
      refine PC.mk (ac_body tab_ok Tryz.func12 rfl (by kernel_rfl) rfl ?_); intro w0 M μ0; simp only [Tryz.ntmps12, List.length_cons, List.length_nil, Nat.reduceAdd, Nat.reduceSub, numb]
      repeat' (first | ((first | apply o_do | apply d_do | apply d_yes rfl rfl rfl); first | exact lsc (h1) | exact lsc (h2) | exact lsc (h3) | exact lsc (h4) | exact lsq) | refine a_seq ?_ | refine a_region ?_ | refine o_nil ?_ | refine a_block ?_ | refine a_ret ?_ | refine a_exit ?_ | refine a_skip ?_ | refine a_draw mixed ?_ | refine d_nil (by kernel_rfl) ?_ | refine o_yes rfl rfl rfl ?_ | refine o_no rfl rfl rfl (by decide) ?_ | refine o_no' rfl rfl rfl ?_ | refine a_condT rfl ?_ | refine a_condF rfl ?_ | refine d_no rfl rfl rfl (by decide) ?_ | refine d_no' rfl rfl rfl ?_ | (refine wq2 (fun hb => ?_) (fun hb => ?_) <;> (simp only [hb]; try simp only [hbs, ne_eq] at hb; try (exfalso; first | omega | exact hb trivial))) | fail)
      refine rq rfl ?_
      exact fnq
set_option maxHeartbeats 1000000 in
theorem w_LikeG (gs : List Gp) (hx : gs.length ≤ 9223372036854775807) (hp : ∀ g ∈ gs, g.ps.length ≤ 9223372036854775807) : PC Tryz.prog 69 [.sl 3 (gs.map Gp.av), .sl 3 (gs.map Gp.av)] (.v (.bool true)) := by
  refine PC.mk (ac_body tab_ok Tryz.func69 rfl (by kernel_rfl) rfl ?_); intro w0 M μ0; simp only [Tryz.ntmps69, List.length_cons, List.length_nil, Nat.reduceAdd, Nat.reduceSub, numb]
  repeat' (first | ((first | apply o_do | apply d_do | apply d_yes rfl rfl rfl); exact lsq) | refine a_seq ?_ | refine a_region ?_ | refine o_nil ?_ | refine a_block ?_ | refine a_ret ?_ | refine a_exit ?_ | refine a_skip ?_ | refine a_draw mixed ?_ | refine d_nil (by kernel_rfl) ?_ | refine o_yes rfl rfl rfl ?_ | refine o_no rfl rfl rfl (by decide) ?_ | refine o_no' rfl rfl rfl ?_ | refine a_condT rfl ?_ | refine a_condF rfl ?_ | refine d_no rfl rfl rfl (by decide) ?_ | refine d_no' rfl rfl rfl ?_ | (refine wq2 (fun hb => ?_) (fun hb => ?_) <;> (simp only [hb]; try simp only [hbs, ne_eq] at hb; try (exfalso; first | omega | exact hb trivial))) | fail)
  refine a_loop (X := {q : Nat // q ≤ gs.length}) (fun x => ⟨[(0, .sl 3 (gs.map Gp.av)), (1, .sl 3 (gs.map Gp.av)), (12, .v (.int .i64 gs.length)), (13, .v (.int .i64 x.1))], []⟩) (fun x => gs.length - x.1) ⟨0, Nat.zero_le _⟩ ?_ ?_
  · exact wkS
  rintro ⟨q, hq⟩
  dsimp only
  by_cases hlt : q < gs.length
  · have hel : (gs.map Gp.av)[q]? = some (Gp.av gs[q]) := by simp [hlt]
    have hlk := g_Like gs[q].no gs[q].mark gs[q].ps (hp _ (List.getElem_mem hlt))
    generalize gs[q] = x at *
    repeat' (first | ((first | apply o_do | apply d_do | apply d_yes rfl rfl rfl); first | exact ls_indexAddr_sl tab_ok rfl rfl rfl rfl (by assumption) rfl | exact lsc (hlk) | exact lsq) | refine a_seq ?_ | refine a_region ?_ | refine o_nil ?_ | refine a_block ?_ | refine a_ret ?_ | refine a_exit ?_ | refine a_skip ?_ | refine a_draw mixed ?_ | refine d_nil (by kernel_rfl) ?_ | refine o_yes rfl rfl rfl ?_ | refine o_no rfl rfl rfl (by decide) ?_ | refine o_no' rfl rfl rfl ?_ | refine a_condT rfl ?_ | refine a_condF rfl ?_ | refine d_no rfl rfl rfl (by decide) ?_ | refine d_no' rfl rfl rfl ?_ | (refine wq2 (fun hb => ?_) (fun hb => ?_) <;> (simp only [hb]; try simp only [hbs, ne_eq] at hb; try (exfalso; first | omega | exact hb trivial))) | fail)
    refine ⟨⟨q + 1, by omega⟩, by dsimp only; omega, ?_⟩
    exact wkS
  · repeat' (first | ((first | apply o_do | apply d_do | apply d_yes rfl rfl rfl); exact lsq) | refine a_seq ?_ | refine a_region ?_ | refine o_nil ?_ | refine a_block ?_ | refine a_ret ?_ | refine a_exit ?_ | refine a_skip ?_ | refine a_draw mixed ?_ | refine d_nil (by kernel_rfl) ?_ | refine o_yes rfl rfl rfl ?_ | refine o_no rfl rfl rfl (by decide) ?_ | refine o_no' rfl rfl rfl ?_ | refine a_condT rfl ?_ | refine a_condF rfl ?_ | refine d_no rfl rfl rfl (by decide) ?_ | refine d_no' rfl rfl rfl ?_ | (refine wq2 (fun hb => ?_) (fun hb => ?_) <;> (simp only [hb]; try simp only [hbs, ne_eq] at hb; try (exfalso; first | omega | exact hb trivial))) | fail)
    refine rq rfl ?_
    exact fnq
theorem w_Like (k : Wk) (hk : WkOk k) : PC Tryz.prog 21 [.agg k.av, .agg k.av] (.v (.bool true)) := by
  obtain ⟨k1, k2, k3, k4, k5, k6, k7⟩ := hk
  obtain ⟨gs, ⟨ins, hs, out⟩, ⟨n, got, held⟩, told⟩ := k
  dsimp only at k1 k2 k3 k4 k5 k6 k7
  have h1 := w_LikeG gs k1 k2
  have h2 := m_Like ⟨ins, hs, out⟩ k3 k4
  have h3 := l_Like ⟨n, got, held⟩ k5 k6 k7
  simp only [Mk.av] at h2
  simp only [Al.av] at h3
  simp only [Wk.av]
  refine PC.mk (ac_body tab_ok Tryz.func21 rfl (by kernel_rfl) rfl ?_); intro w0 M μ0; simp only [Tryz.ntmps21, List.length_cons, List.length_nil, Nat.reduceAdd, Nat.reduceSub, numb]
  repeat' (first | ((first | apply o_do | apply d_do | apply d_yes rfl rfl rfl); first | exact lsc (h1) | exact lsc (h2) | exact lsc (h3) | exact lsq) | refine a_seq ?_ | refine a_region ?_ | refine o_nil ?_ | refine a_block ?_ | refine a_ret ?_ | refine a_exit ?_ | refine a_skip ?_ | refine a_draw mixed ?_ | refine d_nil (by kernel_rfl) ?_ | refine o_yes rfl rfl rfl ?_ | refine o_no rfl rfl rfl (by decide) ?_ | refine o_no' rfl rfl rfl ?_ | refine a_condT rfl ?_ | refine a_condF rfl ?_ | refine d_no rfl rfl rfl (by decide) ?_ | refine d_no' rfl rfl rfl ?_ | (refine wq2 (fun hb => ?_) (fun hb => ?_) <;> (simp only [hb]; try simp only [hbs, ne_eq] at hb; try (exfalso; first | omega | exact hb trivial))) | fail)
  refine rq rfl ?_
  exact fnq
end Go.Proofs.YtagfjnjpgphnjaaGreat
namespace Go.Proofs.YtagfjnjpgphnjaaGreat
open Go.RowKit Go.WideShapes Go.ChangeShapes Go.ChangeAt
set_option linter.unusedSimpArgs false
set_option linter.unusedVariables false
set_option maxRecDepth 100000
theorem rd_EvW {H : Type} {enc : TypeId × Value → H} {w : World} {base : Nat} {spare : Nat → Bool} {held : Bool} {fuel : Nat} {cs : List Value} {x : DataW H × List MemPlace} (h : DataW.trod enc Tryz.prog w base spare held fuel 57 cs = some x) :
    ∃ (k : ByteArray) (a : Int) (v : Int), cs = [.string k, .int .i64 a, .int .i64 v] ∧ k.size ≤ maxLen ∧ (-9223372036854775808 ≤ a ∧ a ≤ 9223372036854775807) ∧ (-9223372036854775808 ≤ v ∧ v ≤ 9223372036854775807) := by
  have hl := rd_len Tryz.underlying57 h
  have hl2 : cs.length = 3 := hl.trans (by kernel_rfl)
  obtain ⟨c0, c1, c2, rfl⟩ : ∃ c0 c1 c2, cs = [c0, c1, c2] := by
    match cs, hl2 with
    | [c0, c1, c2], _ => exact ⟨c0, c1, c2, rfl⟩
  clear hl hl2
  have hc0 : Tryz.prog.cellsOf 9 = 1 := by kernel_rfl
  have hc1 : Tryz.prog.cellsOf 2 = 1 := by kernel_rfl
  obtain ⟨n0, y0, g0⟩ := rd_field Tryz.underlying57 h 0 _ rfl
  obtain ⟨x0, e0, _, w0⟩ := DataW.trod_string Tryz.underlying9 g0
  simp [hc0] at e0
  subst e0
  obtain ⟨n1, y1, g1⟩ := rd_field Tryz.underlying57 h 1 _ rfl
  obtain ⟨x1, e1, _, w1⟩ := DataW.trod_int Tryz.underlying2 g1
  simp [hc1] at e1
  subst e1
  obtain ⟨n2, y2, g2⟩ := rd_field Tryz.underlying57 h 2 _ rfl
  obtain ⟨x2, e2, _, w2⟩ := DataW.trod_int Tryz.underlying2 g2
  simp [hc1] at e2
  subst e2
  exact ⟨x0, x1, x2, rfl, w0, wf_i64 w1, wf_i64 w2⟩
theorem rd_RsW {H : Type} {enc : TypeId × Value → H} {w : World} {base : Nat} {spare : Nat → Bool} {held : Bool} {fuel : Nat} {cs : List Value} {x : DataW H × List MemPlace} (h : DataW.trod enc Tryz.prog w base spare held fuel 61 cs = some x) :
    ∃ (lo : Int) (hi : Int) (key : ByteArray) (n : Int) (val : Int), cs = [.int .i64 lo, .int .i64 hi, .string key, .int .i64 n, .int .i64 val] ∧ (-9223372036854775808 ≤ lo ∧ lo ≤ 9223372036854775807) ∧ (-9223372036854775808 ≤ hi ∧ hi ≤ 9223372036854775807) ∧ key.size ≤ maxLen ∧ (-9223372036854775808 ≤ n ∧ n ≤ 9223372036854775807) ∧ (-9223372036854775808 ≤ val ∧ val ≤ 9223372036854775807) := by
  have hl := rd_len Tryz.underlying61 h
  have hl2 : cs.length = 5 := hl.trans (by kernel_rfl)
  obtain ⟨c0, c1, c2, c3, c4, rfl⟩ : ∃ c0 c1 c2 c3 c4, cs = [c0, c1, c2, c3, c4] := by
    match cs, hl2 with
    | [c0, c1, c2, c3, c4], _ => exact ⟨c0, c1, c2, c3, c4, rfl⟩
  clear hl hl2
  have hc0 : Tryz.prog.cellsOf 59 = 2 := by kernel_rfl
  have hc1 : Tryz.prog.cellsOf 9 = 1 := by kernel_rfl
  have hc2 : Tryz.prog.cellsOf 2 = 1 := by kernel_rfl
  obtain ⟨n0, y0, g0⟩ := rd_field Tryz.underlying61 h 0 _ rfl
  obtain ⟨x0_0, x0_1, e0, w0_0, w0_1⟩ := rd_Win g0
  simp [hc0] at e0
  obtain ⟨rfl, rfl⟩ := e0
  obtain ⟨n1, y1, g1⟩ := rd_field Tryz.underlying61 h 1 _ rfl
  obtain ⟨x1, e1, _, w1⟩ := DataW.trod_string Tryz.underlying9 g1
  simp [hc1] at e1
  subst e1
  obtain ⟨n2, y2, g2⟩ := rd_field Tryz.underlying61 h 2 _ rfl
  obtain ⟨x2, e2, _, w2⟩ := DataW.trod_int Tryz.underlying2 g2
  simp [hc2] at e2
  subst e2
  obtain ⟨n3, y3, g3⟩ := rd_field Tryz.underlying61 h 3 _ rfl
  obtain ⟨x3, e3, _, w3⟩ := DataW.trod_int Tryz.underlying2 g3
  simp [hc2] at e3
  subst e3
  exact ⟨x0_0, x0_1, x1, x2, x3, rfl, w0_0, w0_1, w1, wf_i64 w2, wf_i64 w3⟩
theorem rd_It {H : Type} {enc : TypeId × Value → H} {w : World} {base : Nat} {spare : Nat → Bool} {held : Bool} {fuel : Nat} {cs : List Value} {x : DataW H × List MemPlace} (h : DataW.trod enc Tryz.prog w base spare held fuel 63 cs = some x) :
    ∃ (kind : Int) (key : ByteArray) (at' : Int) (val : Int) (mark : Int) (n : Int) (lo : Int) (hi : Int) (rkey : ByteArray) (rn : Int) (rval : Int), cs = [.int .i64 kind, .string key, .int .i64 at', .int .i64 val, .int .i64 mark, .int .i64 n, .int .i64 lo, .int .i64 hi, .string rkey, .int .i64 rn, .int .i64 rval] ∧ (-9223372036854775808 ≤ kind ∧ kind ≤ 9223372036854775807) ∧ key.size ≤ maxLen ∧ (-9223372036854775808 ≤ at' ∧ at' ≤ 9223372036854775807) ∧ (-9223372036854775808 ≤ val ∧ val ≤ 9223372036854775807) ∧ (-9223372036854775808 ≤ mark ∧ mark ≤ 9223372036854775807) ∧ (-9223372036854775808 ≤ n ∧ n ≤ 9223372036854775807) ∧ (-9223372036854775808 ≤ lo ∧ lo ≤ 9223372036854775807) ∧ (-9223372036854775808 ≤ hi ∧ hi ≤ 9223372036854775807) ∧ rkey.size ≤ maxLen ∧ (-9223372036854775808 ≤ rn ∧ rn ≤ 9223372036854775807) ∧ (-9223372036854775808 ≤ rval ∧ rval ≤ 9223372036854775807) := by
  have hl := rd_len Tryz.underlying63 h
  have hl2 : cs.length = 11 := hl.trans (by kernel_rfl)
  obtain ⟨c0, c1, c2, c3, c4, c5, c6, c7, c8, c9, c10, rfl⟩ : ∃ c0 c1 c2 c3 c4 c5 c6 c7 c8 c9 c10, cs = [c0, c1, c2, c3, c4, c5, c6, c7, c8, c9, c10] := by
    match cs, hl2 with
    | [c0, c1, c2, c3, c4, c5, c6, c7, c8, c9, c10], _ => exact ⟨c0, c1, c2, c3, c4, c5, c6, c7, c8, c9, c10, rfl⟩
  clear hl hl2
  have hc0 : Tryz.prog.cellsOf 3 = 1 := by kernel_rfl
  have hc1 : Tryz.prog.cellsOf 57 = 3 := by kernel_rfl
  have hc2 : Tryz.prog.cellsOf 2 = 1 := by kernel_rfl
  have hc3 : Tryz.prog.cellsOf 61 = 5 := by kernel_rfl
  obtain ⟨n0, y0, g0⟩ := rd_field Tryz.underlying63 h 0 _ rfl
  obtain ⟨x0, e0, _, w0⟩ := DataW.trod_int Tryz.underlying3 g0
  simp [hc0] at e0
  subst e0
  obtain ⟨n1, y1, g1⟩ := rd_field Tryz.underlying63 h 1 _ rfl
  obtain ⟨x1_0, x1_1, x1_2, e1, w1_0, w1_1, w1_2⟩ := rd_EvW g1
  simp [hc1] at e1
  obtain ⟨rfl, rfl, rfl⟩ := e1
  obtain ⟨n2, y2, g2⟩ := rd_field Tryz.underlying63 h 2 _ rfl
  obtain ⟨x2, e2, _, w2⟩ := DataW.trod_int Tryz.underlying2 g2
  simp [hc2] at e2
  subst e2
  obtain ⟨n3, y3, g3⟩ := rd_field Tryz.underlying63 h 3 _ rfl
  obtain ⟨x3, e3, _, w3⟩ := DataW.trod_int Tryz.underlying3 g3
  simp [hc0] at e3
  subst e3
  obtain ⟨n4, y4, g4⟩ := rd_field Tryz.underlying63 h 4 _ rfl
  obtain ⟨x4_0, x4_1, x4_2, x4_3, x4_4, e4, w4_0, w4_1, w4_2, w4_3, w4_4⟩ := rd_RsW g4
  simp [hc3] at e4
  obtain ⟨rfl, rfl, rfl, rfl, rfl⟩ := e4
  exact ⟨x0, x1_0, x1_1, x1_2, x2, x3, x4_0, x4_1, x4_2, x4_3, x4_4, rfl, wf_i64 w0, w1_0, w1_1, w1_2, wf_i64 w2, wf_i64 w3, w4_0, w4_1, w4_2, w4_3, w4_4⟩
theorem rd_InM {H : Type} {enc : TypeId × Value → H} {w : World} {base : Nat} {spare : Nat → Bool} {held : Bool} {fuel : Nat} {cs : List Value} {x : DataW H × List MemPlace} (h : DataW.trod enc Tryz.prog w base spare held fuel 189 cs = some x) :
    ∃ (mark : Int) (idle : Bool), cs = [.int .i64 mark, .bool idle] ∧ (-9223372036854775808 ≤ mark ∧ mark ≤ 9223372036854775807) := by
  have hl := rd_len Tryz.underlying189 h
  have hl2 : cs.length = 2 := hl.trans (by kernel_rfl)
  obtain ⟨c0, c1, rfl⟩ : ∃ c0 c1, cs = [c0, c1] := by
    match cs, hl2 with
    | [c0, c1], _ => exact ⟨c0, c1, rfl⟩
  clear hl hl2
  have hc0 : Tryz.prog.cellsOf 2 = 1 := by kernel_rfl
  have hc1 : Tryz.prog.cellsOf 4 = 1 := by kernel_rfl
  obtain ⟨n0, y0, g0⟩ := rd_field Tryz.underlying189 h 0 _ rfl
  obtain ⟨x0, e0, _, w0⟩ := DataW.trod_int Tryz.underlying2 g0
  simp [hc0] at e0
  subst e0
  obtain ⟨n1, y1, g1⟩ := rd_field Tryz.underlying189 h 1 _ rfl
  obtain ⟨x1, e1, _⟩ := DataW.trod_bool Tryz.underlying4 g1
  simp [hc1] at e1
  subst e1
  exact ⟨x0, x1, rfl, wf_i64 w0⟩
theorem rd_Ho {H : Type} {enc : TypeId × Value → H} {w : World} {base : Nat} {spare : Nat → Bool} {held : Bool} {fuel : Nat} {cs : List Value} {x : DataW H × List MemPlace} (h : DataW.trod enc Tryz.prog w base spare held fuel 195 cs = some x) :
    ∃ (no : Int) (at' : Int), cs = [.int .i64 no, .int .i64 at'] ∧ (-9223372036854775808 ≤ no ∧ no ≤ 9223372036854775807) ∧ (-9223372036854775808 ≤ at' ∧ at' ≤ 9223372036854775807) := by
  have hl := rd_len Tryz.underlying195 h
  have hl2 : cs.length = 2 := hl.trans (by kernel_rfl)
  obtain ⟨c0, c1, rfl⟩ : ∃ c0 c1, cs = [c0, c1] := by
    match cs, hl2 with
    | [c0, c1], _ => exact ⟨c0, c1, rfl⟩
  clear hl hl2
  have hc0 : Tryz.prog.cellsOf 3 = 1 := by kernel_rfl
  have hc1 : Tryz.prog.cellsOf 2 = 1 := by kernel_rfl
  obtain ⟨n0, y0, g0⟩ := rd_field Tryz.underlying195 h 0 _ rfl
  obtain ⟨x0, e0, _, w0⟩ := DataW.trod_int Tryz.underlying3 g0
  simp [hc0] at e0
  subst e0
  obtain ⟨n1, y1, g1⟩ := rd_field Tryz.underlying195 h 1 _ rfl
  obtain ⟨x1, e1, _, w1⟩ := DataW.trod_int Tryz.underlying2 g1
  simp [hc1] at e1
  subst e1
  exact ⟨x0, x1, rfl, wf_i64 w0, wf_i64 w1⟩
abbrev rep0 (w : World) (x : AV) (y : Value) : Prop := rep [] (fun _ => undef) w (fun _ => False) x y
/-- a slice in memory, read whole -/
theorem rd_sl {α : Type} {H : Type} {enc : TypeId × Value → H} {w : World} {t e : TypeId} {size fuel : Nat} {cs : List Value} {y : DataW H × List MemPlace} (cells : α → List Value) (avs : α → List AV) (Ok : α → Prop) (ht : Tryz.prog.underlying t = some (.slice e)) (hC : Tryz.prog.cellsOf e = size) (hsz : 0 < size)
    (hel : ∀ (n : Nat) (cs : List Value) (y : DataW H × List MemPlace), cs.length = size → DataW.trod enc Tryz.prog w 0 (fun _ => true) true n e cs = some y → ∃ x, cs = cells x ∧ Ok x)
    (hl : ∀ x, (cells x).length = size) (hr : ∀ x, Ok x → repC [] (fun _ => undef) w (fun _ => False) (avs x) (cells x))
    (h : DataW.trod enc Tryz.prog w 0 (fun _ => true) true fuel t cs = some y) : ∃ (v : Value) (xs : List α), cs = [v] ∧ v.oneCell' = true ∧ xs.length ≤ 9223372036854775807 ∧ (∀ x ∈ xs, Ok x) ∧ rep0 w (.sl size (xs.map avs)) v := by
  obtain ⟨A, n, c, xs, h1, h2, h3, h4, h5, h6⟩ := open_rows cells Ok ht hC hsz hel h
  exact ⟨_, xs, h1, rfl, by omega, h6, rep_sl cells avs h5 h4 h2 h3 hl fun x hx => hr x (h6 x hx)⟩
section
variable {H : Type} {enc : TypeId × Value → H} {w : World}
theorem el_It (m : Nat) (cs : List Value) (y : DataW H × List MemPlace) (hl : cs.length = 11) (ht : DataW.trod enc Tryz.prog w 0 (fun _ => true) true m 63 cs = some y) : ∃ x : It, cs = x.vals ∧ True := by
  obtain ⟨kind, key, a, v, mark, n, lo, hi, rk, rn, rv, rfl, _⟩ := rd_It ht
  exact ⟨⟨kind, key, a, v, mark, n, lo, hi, rk, rn, rv⟩, rfl, trivial⟩
theorem el_InM (m : Nat) (cs : List Value) (y : DataW H × List MemPlace) (hl : cs.length = 2) (ht : DataW.trod enc Tryz.prog w 0 (fun _ => true) true m 189 cs = some y) : ∃ x : Int × Bool, cs = [.int .i64 x.1, .bool x.2] ∧ True := by
  obtain ⟨a, b, rfl, _⟩ := rd_InM ht
  exact ⟨(a, b), rfl, trivial⟩
theorem el_Ho (m : Nat) (cs : List Value) (y : DataW H × List MemPlace) (hl : cs.length = 2) (ht : DataW.trod enc Tryz.prog w 0 (fun _ => true) true m 195 cs = some y) : ∃ x : Int × Int, cs = [.int .i64 x.1, .int .i64 x.2] ∧ True := by
  obtain ⟨a, b, rfl, _⟩ := rd_Ho ht
  exact ⟨(a, b), rfl, trivial⟩
theorem el_Bo (m : Nat) (cs : List Value) (y : DataW H × List MemPlace) (hl : cs.length = 1) (ht : DataW.trod enc Tryz.prog w 0 (fun _ => true) true m 4 cs = some y) : ∃ x : Bool, cs = [.bool x] ∧ True := by
  obtain ⟨b, e, _⟩ := DataW.trod_bool Tryz.underlying4 ht
  exact ⟨b, e, trivial⟩
theorem el_Held (m : Nat) (cs : List Value) (y : DataW H × List MemPlace) (hl : cs.length = 1) (ht : DataW.trod enc Tryz.prog w 0 (fun _ => true) true m 53 cs = some y) : ∃ x : Value × List It, cs = [x.1] ∧ (x.1.oneCell' = true ∧ x.2.length ≤ 9223372036854775807 ∧ rep0 w (.sl 11 (x.2.map It.av)) x.1) := by
  obtain ⟨v, xs, h1, h2, h3, _, h4⟩ := rd_sl It.vals It.av (fun _ => True) Tryz.underlying53 (by kernel_rfl : Tryz.prog.cellsOf 63 = 11) (by omega) el_It (fun _ => rfl) (fun x _ => repC_con (cs := It.vals x) rfl) ht
  exact ⟨(v, xs), h1, h2, h3, h4⟩
theorem el_Gp (m : Nat) (cs : List Value) (y : DataW H × List MemPlace) (hl : cs.length = 3) (ht : DataW.trod enc Tryz.prog w 0 (fun _ => true) true m 109 cs = some y) : ∃ x : Value × Gp, cs = [.int .i64 x.2.no, .int .i64 x.2.mark, x.1] ∧ (x.1.oneCell' = true ∧ PnsRd w x.1 x.2.ps) := by
  obtain ⟨no, mark, v, xs, h1, h2, h3⟩ := rd_Group ht
  exact ⟨(v, ⟨no, mark, xs⟩), h1, h2, h3⟩
theorem rep_v (x : Value) (h : scal x = true) : rep0 w (.v x) x := by simp [rep0, rep, h]
theorem gp_rep (x : Value × Gp) (h : x.1.oneCell' = true ∧ PnsRd w x.1 x.2.ps) : repC [] (fun _ => undef) w (fun _ => False) (Gp.av x.2) [.int .i64 x.2.no, .int .i64 x.2.mark, x.1] := by
  simp only [Gp.av, repC]
  exact ⟨_, _, rfl, rfl, rep_v _ rfl, _, _, rfl, rfl, rep_v _ rfl, _, _, rfl, h.1, h.2.2, rfl⟩
theorem held_rep (x : Value × List It) (h : x.1.oneCell' = true ∧ x.2.length ≤ 9223372036854775807 ∧ rep0 w (.sl 11 (x.2.map It.av)) x.1) : repC [] (fun _ => undef) w (fun _ => False) (heAv x.2) [x.1] := by
  simp only [heAv, repC]
  exact ⟨_, _, rfl, h.1, h.2.2, rfl⟩
theorem rd_Marks {fuel : Nat} {cs : List Value} {x : DataW H × List MemPlace} (h : DataW.trod enc Tryz.prog w 0 (fun _ => true) true fuel 36 cs = some x) :
    ∃ (v0 v1 : Value) (m : Mk), cs = [v0, v1, .int .i64 m.out] ∧ v0.oneCell' = true ∧ v1.oneCell' = true ∧ m.ins.length ≤ 9223372036854775807 ∧ m.hs.length ≤ 9223372036854775807 ∧ rep0 w (.sl 2 (m.ins.map inAvM)) v0 ∧ rep0 w (.sl 2 (m.hs.map hoAv)) v1 := by
  have hl := rd_len Tryz.underlying36 h
  have hl2 : cs.length = 3 := hl.trans (by kernel_rfl)
  obtain ⟨c0, c1, c2, rfl⟩ := len3 hl2
  clear hl hl2
  have hc0 : Tryz.prog.cellsOf 33 = 1 := by kernel_rfl
  have hc1 : Tryz.prog.cellsOf 34 = 1 := by kernel_rfl
  have hc2 : Tryz.prog.cellsOf 2 = 1 := by kernel_rfl
  obtain ⟨n0, y0, g0⟩ := rd_field Tryz.underlying36 h 0 _ rfl
  obtain ⟨v0, xs, e0, h2, h3, _, h4⟩ := rd_sl (fun x : Int × Bool => [.int .i64 x.1, .bool x.2]) inAvM (fun _ => True) Tryz.underlying33 (by kernel_rfl : Tryz.prog.cellsOf 189 = 2) (by omega) el_InM (fun _ => rfl) (fun x _ => repC_con (cs := [.int .i64 x.1, .bool x.2]) rfl) g0
  simp [hc0] at e0
  subst e0
  obtain ⟨n1, y1, g1⟩ := rd_field Tryz.underlying36 h 1 _ rfl
  obtain ⟨v1, ys, e1, h5, h6, _, h7⟩ := rd_sl (fun x : Int × Int => [.int .i64 x.1, .int .i64 x.2]) hoAv (fun _ => True) Tryz.underlying34 (by kernel_rfl : Tryz.prog.cellsOf 195 = 2) (by omega) el_Ho (fun _ => rfl) (fun x _ => repC_con (cs := [.int .i64 x.1, .int .i64 x.2]) rfl) g1
  simp [hc1] at e1
  subst e1
  obtain ⟨n2, y2, g2⟩ := rd_field Tryz.underlying36 h 2 _ rfl
  obtain ⟨x2, e2, _, _⟩ := DataW.trod_int Tryz.underlying2 g2
  simp [hc2] at e2
  subst e2
  exact ⟨_, _, ⟨xs, ys, x2⟩, rfl, h2, h5, h3, h6, h4, h7⟩
theorem rd_Align {fuel : Nat} {cs : List Value} {x : DataW H × List MemPlace} (h : DataW.trod enc Tryz.prog w 0 (fun _ => true) true fuel 40 cs = some x) :
    ∃ (v0 v1 : Value) (m : Al), cs = [.int .i64 m.n, v0, v1] ∧ v0.oneCell' = true ∧ v1.oneCell' = true ∧ m.got.length ≤ 9223372036854775807 ∧ m.held.length ≤ 9223372036854775807 ∧ (∀ l ∈ m.held, l.length ≤ 9223372036854775807) ∧ rep0 w (.sl 1 (m.got.map boAv)) v0 ∧ rep0 w (.sl 1 (m.held.map heAv)) v1 := by
  have hl := rd_len Tryz.underlying40 h
  have hl2 : cs.length = 3 := hl.trans (by kernel_rfl)
  obtain ⟨c0, c1, c2, rfl⟩ := len3 hl2
  clear hl hl2
  have hc0 : Tryz.prog.cellsOf 3 = 1 := by kernel_rfl
  have hc1 : Tryz.prog.cellsOf 37 = 1 := by kernel_rfl
  have hc2 : Tryz.prog.cellsOf 38 = 1 := by kernel_rfl
  obtain ⟨n0, y0, g0⟩ := rd_field Tryz.underlying40 h 0 _ rfl
  obtain ⟨x0, e0, _, _⟩ := DataW.trod_int Tryz.underlying3 g0
  simp [hc0] at e0
  subst e0
  obtain ⟨n1, y1, g1⟩ := rd_field Tryz.underlying40 h 1 _ rfl
  obtain ⟨v0, xs, e1, h2, h3, _, h4⟩ := rd_sl (fun x : Bool => [.bool x]) boAv (fun _ => True) Tryz.underlying37 (by kernel_rfl : Tryz.prog.cellsOf 4 = 1) (by omega) el_Bo (fun _ => rfl) (fun x _ => repC_con (cs := [.bool x]) rfl) g1
  simp [hc1] at e1
  subst e1
  obtain ⟨n2, y2, g2⟩ := rd_field Tryz.underlying40 h 2 _ rfl
  obtain ⟨v1, ys, e2, h5, h6, h8, h7⟩ := rd_sl (fun x : Value × List It => [x.1]) (heAv ∘ Prod.snd) _ Tryz.underlying38 (by kernel_rfl : Tryz.prog.cellsOf 53 = 1) (by omega) el_Held (fun _ => rfl) (fun x hx => held_rep x hx) g2
  simp [hc2] at e2
  subst e2
  refine ⟨_, _, ⟨x0, xs, ys.map Prod.snd⟩, rfl, h2, h5, h3, by simpa using h6, fun l hl => ?_, h4, by rw [List.map_map]; exact h7⟩
  obtain ⟨z, hz, rfl⟩ := List.mem_map.1 hl
  exact (h8 z hz).2.1
theorem len8 {α : Type} {cs : List α} (h : cs.length = 8) : ∃ c0 c1 c2 c3 c4 c5 c6 c7, cs = [c0, c1, c2, c3, c4, c5, c6, c7] := by
  match cs, h with
  | [c0, c1, c2, c3, c4, c5, c6, c7], _ => exact ⟨c0, c1, c2, c3, c4, c5, c6, c7, rfl⟩
theorem open_wk_arg {b0 : Nat} {v : Value} {d : DataW H} {ps : List MemPlace} (hv : Value.okWide Tryz.prog w .any b0 42 v) (h : DataW.Trod enc Tryz.prog w 0 (fun _ => true) true 42 v d ps) :
    ∃ k : Wk, WkOk k ∧ rep0 w (.agg k.av) v := by
  obtain ⟨cs, rfl, fuel, x, h⟩ := open_struct_arg Tryz.underlying42 hv h
  have hl := rd_len Tryz.underlying42 h
  have hl2 : cs.length = 8 := hl.trans (by kernel_rfl)
  obtain ⟨c0, c1, c2, c3, c4, c5, c6, c7, rfl⟩ := len8 hl2
  clear hl hl2
  have hc0 : Tryz.prog.cellsOf 32 = 1 := by kernel_rfl
  have hc1 : Tryz.prog.cellsOf 36 = 3 := by kernel_rfl
  have hc2 : Tryz.prog.cellsOf 40 = 3 := by kernel_rfl
  have hc3 : Tryz.prog.cellsOf 2 = 1 := by kernel_rfl
  obtain ⟨n0, y0, g0⟩ := rd_field Tryz.underlying42 h 0 _ rfl
  obtain ⟨v0, gs, e0, a1, a2, a3, a4⟩ := rd_sl (fun x : Value × Gp => [.int .i64 x.2.no, .int .i64 x.2.mark, x.1]) (Gp.av ∘ Prod.snd) _ Tryz.underlying32 (by kernel_rfl : Tryz.prog.cellsOf 109 = 3) (by omega) el_Gp (fun _ => rfl) (fun x hx => gp_rep x hx) g0
  simp [hc0] at e0
  subst e0
  obtain ⟨n1, y1, g1⟩ := rd_field Tryz.underlying42 h 1 _ rfl
  obtain ⟨v1, v2, m, e1, b1, b2, b3, b4, b5, b6⟩ := rd_Marks g1
  simp [hc1] at e1
  obtain ⟨rfl, rfl, rfl⟩ := e1
  obtain ⟨n2, y2, g2⟩ := rd_field Tryz.underlying42 h 2 _ rfl
  obtain ⟨v3, v4, al, e2, d1, d2, d3, d4, d5, d6, d7⟩ := rd_Align g2
  simp [hc2] at e2
  obtain ⟨rfl, rfl, rfl⟩ := e2
  obtain ⟨n3, y3, g3⟩ := rd_field Tryz.underlying42 h 3 _ rfl
  obtain ⟨x3, e3, _, _⟩ := DataW.trod_int Tryz.underlying2 g3
  simp [hc3] at e3
  subst e3
  refine ⟨⟨gs.map Prod.snd, m, al, x3⟩, ⟨by simpa using a2, fun g hg => ?_, b3, b4, d3, d4, d5⟩, ?_⟩
  · obtain ⟨z, hz, rfl⟩ := List.mem_map.1 hg
    exact (a3 z hz).2.1
  · simp only [rep0, rep, Wk.av, repC]
    refine ⟨_, rfl, _, _, rfl, a1, by rw [List.map_map]; exact (by simpa only [rep] using a4), _, _, rfl, b1, (by simpa only [rep] using b5), _, _, rfl, b2, (by simpa only [rep] using b6), _, _, rfl, rfl, ⟨rfl, rfl⟩, _, _, rfl, rfl, ⟨rfl, rfl⟩, _, _, rfl, d1, (by simpa only [rep] using d6), _, _, rfl, d2, (by simpa only [rep] using d7), _, _, rfl, rfl, ⟨rfl, rfl⟩, rfl⟩
end
end Go.Proofs.YtagfjnjpgphnjaaGreat
namespace Go.Proofs.YtagfjnjpgphnjaaGreat
open Go.RowKit
set_option linter.unusedSimpArgs false
set_option linter.unusedVariables false
def tiA (t : Int) : List AV := [.v (.int .i64 t)]
def firstT (l : List Int) : Int := l.foldl (fun a t => min a (clampT t)) 1099511627776
def backI (ins : List (Int × Bool)) : List Int := (ins.filter (!·.2)).map (·.1)
def backH (hs : List (Int × Int)) : List Int := hs.map (·.2)
def leastT (a : Int) (l : List Int) : Int := l.foldl (fun a t => if a < 0 ∨ t < a then t else a) a
theorem firstT_snoc (l : List Int) (t : Int) : firstT (l ++ [t]) = min (firstT l) (clampT t) := by
  unfold firstT; rw [List.foldl_append]; rfl
theorem leastT_snoc (a : Int) (l : List Int) (t : Int) : leastT a (l ++ [t]) = (if leastT a l < 0 ∨ t < leastT a l then t else leastT a l) := by
  unfold leastT; rw [List.foldl_append]; rfl
theorem backI_snoc (l : List (Int × Bool)) (x : Int × Bool) : backI (l ++ [x]) = backI l ++ (if x.2 then [] else [x.1]) := by
  unfold backI
  rw [List.filter_append, List.map_append]
  cases h : x.2 <;> simp [h]
theorem backI_le (l : List (Int × Bool)) : (backI l).length ≤ l.length := by
  unfold backI; rw [List.length_map]; exact List.length_filter_le _ _
theorem backH_snoc (l : List (Int × Int)) (x : Int × Int) : backH (l ++ [x]) = backH l ++ [x.2] := by simp [backH]
structure MkT where
  m : Mk
  t : Int
  is : Bool
def mkZ : Mk := ⟨[], [], 0⟩
/-- what can be told -/
def mkTell (m : Mk) : MkT :=
  if mkR m = false then ⟨mkZ, 0, false⟩
  else if backI m.ins ++ backH m.hs = [] ∨ firstT (backI m.ins ++ backH m.hs) ≤ m.out then ⟨m, m.out, false⟩
  else ⟨{ m with out := firstT (backI m.ins ++ backH m.hs) }, firstT (backI m.ins ++ backH m.hs), true⟩
def mkIn (m : Mk) (i : Int) : Bool := mkR m && (decide (0 ≤ i) && decide (i < m.ins.length))
def mkPut (m : Mk) (i : Int) (x : Int × Bool) : Mk := { m with ins := m.ins.set i.toNat x }
structure MkE where
  m : Mk
  e : Int
def mkSet (m : Mk) (i t : Int) : MkE := if mkIn m i = false then ⟨mkZ, 1⟩ else ⟨mkPut m i (max (m.ins.getD i.toNat (0, false)).1 (clampT t), false), 0⟩
def mkIdle (m : Mk) (i : Int) : MkE := if mkIn m i = false then ⟨mkZ, 1⟩ else ⟨mkPut m i ((m.ins.getD i.toNat (0, false)).1, true), 0⟩
def MkE.av (x : MkE) : AV := .tup [.agg x.m.av, .v (.int .i64 x.e)]
def MkT.av (x : MkT) : AV := .tup [.agg x.m.av, .v (.int .i64 x.t), .v (.bool x.is)]
theorem rev_ind {α : Type} {p : List α → Prop} (h0 : p []) (h1 : ∀ l x, p l → p (l ++ [x])) (l : List α) : p l := by
  have h : ∀ n, n ≤ l.length → p (l.take n) := by
    intro n
    induction n with
    | zero => intro _; simpa using h0
    | succ n ih => intro hn; rw [take_snoc l n (by omega)]; exact h1 _ _ (ih (by omega))
  have := h l.length (Nat.le_refl _)
  rwa [List.take_length] at this
theorem clampT_in (t : Int) : 0 ≤ clampT t := by unfold clampT; omega
theorem firstT_in (l : List Int) : 0 ≤ firstT l := by
  refine rev_ind (p := fun l => 0 ≤ firstT l) (by decide) (fun l t ih => ?_) l
  rw [firstT_snoc]
  have := clampT_in t
  omega
theorem least_first {l : List Int} (h : ∀ t ∈ l, 0 ≤ t ∧ t ≤ 1099511627776) : leastT (-1) l = if l = [] then -1 else firstT l := by
  revert h
  refine rev_ind (p := fun l => (∀ t ∈ l, 0 ≤ t ∧ t ≤ 1099511627776) → leastT (-1) l = if l = [] then -1 else firstT l) (fun _ => rfl) (fun l t ih h => ?_) l
  have h1 := ih fun x hx => h x (by simp [hx])
  have ht := h t (by simp)
  have hc : clampT t = t := by unfold clampT; omega
  rw [leastT_snoc, firstT_snoc, if_neg (by simp : ¬ l ++ [t] = []), hc]
  by_cases hl : l = []
  · subst hl
    rw [h1, if_pos rfl, if_pos (.inl (by omega))]
    simp only [firstT, List.foldl_nil]
    omega
  · rw [h1, if_neg hl]
    have hge := firstT_in l
    by_cases hlt : t < firstT l
    · rw [if_pos (.inr hlt)]; omega
    · rw [if_neg (by omega)]; omega
theorem backs_in {m : Mk} (h : mkR m = true) : ∀ t ∈ backI m.ins ++ backH m.hs, 0 ≤ t ∧ t ≤ 1099511627776 := by
  obtain ⟨ins, hs, out⟩ := m
  simp only [mkR, Bool.and_eq_true, decide_eq_true_eq, List.all_eq_true] at h
  obtain ⟨_, _, _, _, h1, h2⟩ := h
  intro t ht
  rcases List.mem_append.1 ht with ht | ht
  · obtain ⟨x, hx, rfl⟩ := List.mem_map.1 ht
    have := h2 x (List.mem_filter.1 hx).1
    simpa [tmR] using this
  · obtain ⟨x, hx, rfl⟩ := List.mem_map.1 ht
    obtain ⟨i, hi, rfl⟩ := List.getElem_of_mem hx
    have := h1 i (List.mem_range.2 hi)
    simp only [hoG, getD_at hi, Bool.and_eq_true] at this
    simpa [tmR] using this.2.1
end Go.Proofs.YtagfjnjpgphnjaaGreat
namespace Go.Proofs.YtagfjnjpgphnjaaGreat
open Go.RowKit
set_option linter.unusedSimpArgs false
set_option linter.unusedVariables false
/-- an item that waited -/
structure Lt where
  input : Int
  it : It
def Lt.av (x : Lt) : List AV := [.v (.int .i64 x.input), .v (.int .i64 x.it.kind), .v (.string x.it.key), .v (.int .i64 x.it.at'), .v (.int .i64 x.it.val), .v (.int .i64 x.it.mark), .v (.int .i64 x.it.n), .v (.int .i64 x.it.lo), .v (.int .i64 x.it.hi), .v (.string x.it.rkey), .v (.int .i64 x.it.rn), .v (.int .i64 x.it.rval)]
def lts (k : Int) (l : List It) : List Lt := l.map fun x => ⟨k, x⟩
def latesN (held : List (List It)) (q : Nat) : List Lt := (List.range q).flatMap fun (k : Nat) => lts (k : Int) (held.getD k [])
theorem latesN_succ (held : List (List It)) (q : Nat) (h : q < held.length) : latesN held (q + 1) = latesN held q ++ lts q held[q] := by
  unfold latesN
  rw [List.range_succ, List.flatMap_append]
  simp [h]
theorem lts_snoc (k : Int) (l : List It) (x : It) : lts k (l ++ [x]) = lts k l ++ [⟨k, x⟩] := by simp [lts]
structure AlO where
  a : Al
  pass : Bool
  done : Int
  late : List Lt
  e : Int
def alZ : Al := ⟨0, [], []⟩
def alHas (a : Al) (i : Int) : Bool := alR a && (decide (0 ≤ i) && decide (i < a.got.length))
def alOffer (a : Al) (i : Int) (x : It) : AlO :=
  if (alHas a i && itR x) = false then ⟨alZ, false, 0, [], 1⟩
  else if a.got.getD i.toNat false = true then
    if 16 ≤ (a.held.getD i.toNat []).length then ⟨alZ, false, 0, [], 3⟩
    else ⟨⟨a.n, a.got, a.held.set i.toNat (a.held.getD i.toNat [] ++ [x])⟩, false, 0, [], 0⟩
  else if x.kind ≠ 4 then ⟨a, true, 0, [], 0⟩
  else if a.n ≠ 0 ∧ a.n ≠ x.n then ⟨alZ, false, 0, [], 190⟩
  else if (a.got.set i.toNat true).any (!·) = true then ⟨⟨x.n, a.got.set i.toNat true, a.held⟩, false, 0, [], 0⟩
  else ⟨⟨0, newGot a.got.length, newHeld a.got.length⟩, false, x.n, latesN a.held a.held.length, 0⟩
def AlO.av (o : AlO) : AV := .tup [.agg o.a.av, .v (.bool o.pass), .v (.int .i64 o.done), .sl 12 (o.late.map Lt.av), .v (.int .i64 o.e)]
def AlO.avR (o : AlO) : AV := .agg [.v (.int .i64 o.a.n), .sl 1 (o.a.got.map boAv), .sl 1 (o.a.held.map heAv), .v (.bool o.pass), .v (.int .i64 o.done), .sl 12 (o.late.map Lt.av), .v (.int .i64 o.e)]
theorem latesN_le {held : List (List It)} (h1 : held.length ≤ 8) (h2 : ∀ l ∈ held, l.length ≤ 16) : ∀ q, q ≤ held.length → (latesN held q).length ≤ 16 * q := by
  intro q
  induction q with
  | zero => intro _; simp [latesN]
  | succ q ih =>
    intro hq
    rw [latesN_succ held q (by omega), List.length_append]
    have := ih (by omega)
    have h3 := h2 held[q] (List.getElem_mem _)
    simp only [lts, List.length_map]
    omega
/-- what is known of an aligner that may be -/
theorem alR_ok {a : Al} (h : alR a = true) : 1 ≤ a.got.length ∧ a.got.length ≤ 8 ∧ a.held.length = a.got.length ∧ 0 ≤ a.n ∧ a.n ≤ 1073741824 ∧ (a.got.any id = true ↔ 0 < a.n) ∧ a.got.any (!·) = true ∧ (∀ l ∈ a.held, l.length ≤ 16) := by
  simp only [alR, Bool.and_eq_true, decide_eq_true_eq] at h
  obtain ⟨h1, h2, h3, h4, h5, h6, h7, h8⟩ := h
  refine ⟨h1, h2, h3, h4, h5, ?_, h7, fun l hl => ?_⟩
  · rw [beq_iff_eq] at h6
    rw [h6]; simp
  · obtain ⟨i, hi, rfl⟩ := List.getElem_of_mem hl
    have := List.all_eq_true.1 h8 i (List.mem_range.2 hi)
    simp only [heG, getD_at hi, Bool.and_eq_true, decide_eq_true_eq] at this
    exact this.1
end Go.Proofs.YtagfjnjpgphnjaaGreat
namespace Go.Proofs.YtagfjnjpgphnjaaGreat
open Go.RowKit
set_option linter.unusedSimpArgs false
set_option linter.unusedVariables false
structure Jb where
  g : Int
  s : Int
  d : Int
  k : Int
  fu : Int
  li : Int
  de : Int
  id : Int
def Jb.av (j : Jb) : List AV := [.v (.int .i64 j.g), .v (.int .i64 j.s), .v (.int .i64 j.d), .v (.int .i64 j.k), .v (.int .i64 j.fu), .v (.int .i64 j.li), .v (.int .i64 j.de), .v (.int .i64 j.id)]
def gpTake (j : Jb) (x : It) (g : Gp) : TkR := takeR j.s j.d j.k g.no g.mark g.ps x.key x.at' x.val
def TkR.gp (t : TkR) : Gp := ⟨t.no, t.mark, t.ps⟩
def putM (j : Jb) (no : Int) (x : It) (l : List Gp) : List Gp := l.map fun g => if g.no = no then (gpTake j x g).gp else g
def putB (j : Jb) (no : Int) (x : It) (l : List Gp) : Int := l.foldl (fun b g => if g.no = no then (gpTake j x g).e else b) 160
theorem putM_snoc (j : Jb) (no : Int) (x : It) (l : List Gp) (g : Gp) : putM j no x (l ++ [g]) = putM j no x l ++ [if g.no = no then (gpTake j x g).gp else g] := by simp [putM]
theorem putB_snoc (j : Jb) (no : Int) (x : It) (l : List Gp) (g : Gp) : putB j no x (l ++ [g]) = if g.no = no then (gpTake j x g).e else putB j no x l := by
  unfold putB; rw [List.foldl_append]; rfl
def resItem (r : Rs) : It := ⟨5, .empty, 0, 0, 0, 0, r.lo, r.hi, r.key, r.n, r.val⟩
def markItem (t : Int) : It := ⟨2, .empty, 0, 0, t, 0, 0, 0, .empty, 0, 0⟩
def barItem (n : Int) : It := ⟨4, .empty, 0, 0, 0, n, 0, 0, .empty, 0, 0⟩
def gpAdv (j : Jb) (t : Int) (g : Gp) : AdvR := adv j.s j.d j.k g.no g.mark g.ps t
def AdvR.gp (a : AdvR) : Gp := ⟨a.no, a.mark, a.ps⟩
def advM (j : Jb) (t : Int) (l : List Gp) : List Gp := l.map fun g => (gpAdv j t g).gp
def advT (j : Jb) (t : Int) (l : List Gp) : List It := l.flatMap fun g => (gpAdv j t g).rs.map resItem
theorem advM_snoc (j : Jb) (t : Int) (l : List Gp) (g : Gp) : advM j t (l ++ [g]) = advM j t l ++ [(gpAdv j t g).gp] := by simp [advM]
theorem advT_snoc (j : Jb) (t : Int) (l : List Gp) (g : Gp) : advT j t (l ++ [g]) = advT j t l ++ (gpAdv j t g).rs.map resItem := by simp [advT]
structure TkW where
  w : Wk
  told : List It
  late : List Lt
  e : Int
def TkW.avR (x : TkW) : AV := .agg [.sl 3 (x.w.gs.map Gp.av), .sl 2 (x.w.mks.ins.map inAvM), .sl 2 (x.w.mks.hs.map hoAv), .v (.int .i64 x.w.mks.out), .v (.int .i64 x.w.al.n), .sl 1 (x.w.al.got.map boAv), .sl 1 (x.w.al.held.map heAv), .v (.int .i64 x.w.told), .sl 11 (x.told.map It.av), .sl 12 (x.late.map Lt.av), .v (.int .i64 x.e)]
def TkW.av (x : TkW) : AV := .tup [.agg x.w.av, .sl 11 (x.told.map It.av), .sl 12 (x.late.map Lt.av), .v (.int .i64 x.e)]
def wkFail (e : Int) : TkW := ⟨wkZ, [], [], e⟩
/-- time that goes on, if it does -/
def wkGo (j : Jb) (gs : List Gp) (m : Mk) (al : Al) (told : Int) : TkW :=
  if (mkTell m).is = true then ⟨⟨advM j (mkTell m).t gs, (mkTell m).m, al, (mkTell m).t⟩, advT j (mkTell m).t gs ++ [markItem (mkTell m).t], [], 0⟩
  else ⟨⟨gs, (mkTell m).m, al, told⟩, [], [], 0⟩
/-- an item of an input (the reference's words) -/
def wkTake (ok : Bool) (j : Jb) (no : Int) (w : Wk) (input : Int) (x : It) : TkW :=
  if ok = false then wkFail 130
  else if (wkR w && itR x) = false ∨ x.kind = 5 then wkFail 1
  else if (alOffer w.al input x).e ≠ 0 then wkFail (alOffer w.al input x).e
  else if 0 < (alOffer w.al input x).done then ⟨{ w with al := (alOffer w.al input x).a }, [barItem (alOffer w.al input x).done], (alOffer w.al input x).late, 0⟩
  else if (alOffer w.al input x).pass = false then ⟨{ w with al := (alOffer w.al input x).a }, [], [], 0⟩
  else if x.kind = 1 then
    if putB j no x w.gs ≠ 0 then wkFail (putB j no x w.gs)
    else wkGo j (putM j no x w.gs) (mkSet w.mks input 0).m (alOffer w.al input x).a w.told
  else if x.kind = 2 then wkGo j w.gs (mkSet w.mks input x.mark).m (alOffer w.al input x).a w.told
  else if x.kind = 3 then wkGo j w.gs (mkIdle w.mks input).m (alOffer w.al input x).a w.told
  else wkGo j w.gs w.mks (alOffer w.al input x).a w.told
end Go.Proofs.YtagfjnjpgphnjaaGreat
