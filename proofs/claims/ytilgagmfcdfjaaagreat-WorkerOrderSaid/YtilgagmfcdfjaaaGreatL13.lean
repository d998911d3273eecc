/-
  Workers, walked over abstract values: which groups may be, which workers; new ones, likeness.
  More of the text GrB.
  Workers, walked over abstract values: which may be; new ones, likeness.
  Marks: what they hold back, and what can be told. Plain.
  Aligners: an item that is offered. Plain.
  Workers: an item that is taken. Plain.
  Sources, walked over abstract values.
  source.New and source.Next, walked over abstract values.
-/
import Derived.Test.YtilgagmfcdfjaaaGreatL4
import Derived.Test.YtilgagmfcdfjaaaGreatL5
import Derived.Test.YtilgagmfcdfjaaaGreatL8
import Derived.Test.YtilgagmfcdfjaaaGreatL10
import Derived.Test.YtilgagmfcdfjaaaGreatL11
import Derived.Test.YtilgagmfcdfjaaaGreatL12
namespace Go.Proofs.YtilgagmfcdfjaaaGreat
open Go.RowKit
set_option linter.unusedSimpArgs false
set_option linter.unusedVariables false
set_option maxHeartbeats 2000000 in
theorem w_groups (gs : List Gp) (hx : gs.length ≤ 9223372036854775807) (hp : ∀ g ∈ gs, g.ps.length ≤ 9223372036854775807) : PC Tryz.prog 37 [.sl 3 (gs.map Gp.av)] (.v (.bool (gsR gs))) := by
  have hn1 : (gs.map Gp.av).length = gs.length := List.length_map _
  by_cases hbig : 32 < gs.length
  · have e : gsR gs = false := by
      cases h : gsR gs
      · rfl
      · have := gsR_le h; omega
    rw [e]
    refine PC.mk (ac_body tab_ok Tryz.func37 rfl (by kernel_rfl) rfl ?_); intro w0 M μ0; simp only [Tryz.ntmps37, List.length_cons, List.length_nil, Nat.reduceAdd, Nat.reduceSub, numb]
    repeat' (first | ((first | apply o_do | apply d_do | apply d_yes rfl rfl rfl); exact lsq) | refine a_seq ?_ | refine a_region ?_ | refine o_nil ?_ | refine a_block ?_ | refine a_ret ?_ | refine a_exit ?_ | refine a_skip ?_ | refine a_draw mixed ?_ | refine d_nil (by kernel_rfl) ?_ | refine o_yes rfl rfl rfl ?_ | refine o_no rfl rfl rfl (by decide) ?_ | refine o_no' rfl rfl rfl ?_ | refine a_condT rfl ?_ | refine a_condF rfl ?_ | refine d_no rfl rfl rfl (by decide) ?_ | refine d_no' rfl rfl rfl ?_ | (refine wq2 (fun hb => ?_) (fun hb => ?_) <;> (simp only [hb]; try simp only [hbs, ne_eq] at hb; try (exfalso; first | omega | exact hb trivial))) | fail)
    all_goals refine rq rfl ?_
    all_goals exact fnq
  refine PC.mk (ac_body tab_ok Tryz.func37 rfl (by kernel_rfl) rfl ?_); intro w0 M μ0; simp only [Tryz.ntmps37, List.length_cons, List.length_nil, Nat.reduceAdd, Nat.reduceSub, numb]
  repeat' (first | ((first | apply o_do | apply d_do | apply d_yes rfl rfl rfl); exact lsq) | refine a_seq ?_ | refine a_region ?_ | refine o_nil ?_ | refine a_block ?_ | refine a_ret ?_ | refine a_exit ?_ | refine a_skip ?_ | refine a_draw mixed ?_ | refine d_nil (by kernel_rfl) ?_ | refine o_yes rfl rfl rfl ?_ | refine o_no rfl rfl rfl (by decide) ?_ | refine o_no' rfl rfl rfl ?_ | refine a_condT rfl ?_ | refine a_condF rfl ?_ | refine d_no rfl rfl rfl (by decide) ?_ | refine d_no' rfl rfl rfl ?_ | (refine wq2 (fun hb => ?_) (fun hb => ?_) <;> (simp only [hb]; try simp only [hbs, ne_eq] at hb; try (exfalso; first | omega | exact hb trivial))) | fail)
  refine a_loop (X := {q : Nat // q ≤ gs.length ∧ (List.range q).all (gpG gs) = true}) (fun x => ⟨[(0, .sl 3 (gs.map Gp.av)), (8, .sl 3 (gs.map Gp.av)), (9, .v (.int .i64 gs.length)), (10, .v (.int .i64 x.1))], []⟩) (fun x => gs.length - x.1) ⟨0, Nat.zero_le _, rfl⟩ ?_ ?_
  · exact wkS
  rintro ⟨q, hq, hok⟩
  dsimp only
  by_cases hlt : q < gs.length
  · have hel : (gs.map Gp.av)[q]? = some (Gp.av gs[q]) := by simp [hlt]
    have hbad : gpG gs q = false → gsR gs = false := fun h => rall_fail hlt h
    have hgo : gpG gs q = true → (List.range (q + 1)).all (gpG gs) = true := fun h => by rw [rall_snoc, hok, h]; rfl
    have hR := g_Right gs[q].no gs[q].mark gs[q].ps (hp _ (List.getElem_mem hlt))
    rcases Nat.eq_zero_or_pos q with rfl | hq0
    · have hG : gpG gs 0 = grR gs[0].no gs[0].mark gs[0].ps := by simp only [gpG, getD_at hlt]; simp
      generalize gs[0] = x at *
      obtain ⟨no, mark, ps⟩ := x
      dsimp only at *
      cases hr : grR no mark ps
      · rw [hr] at hR hG
        rw [hbad hG]
        repeat' (first | ((first | apply o_do | apply d_do | apply d_yes rfl rfl rfl); first | exact ls_indexAddr_sl tab_ok rfl rfl rfl rfl (by assumption) rfl | exact lsc (hR) | exact lsq) | refine a_seq ?_ | refine a_region ?_ | refine o_nil ?_ | refine a_block ?_ | refine a_ret ?_ | refine a_exit ?_ | refine a_skip ?_ | refine a_draw mixed ?_ | refine d_nil (by kernel_rfl) ?_ | refine o_yes rfl rfl rfl ?_ | refine o_no rfl rfl rfl (by decide) ?_ | refine o_no' rfl rfl rfl ?_ | refine a_condT rfl ?_ | refine a_condF rfl ?_ | refine d_no rfl rfl rfl (by decide) ?_ | refine d_no' rfl rfl rfl ?_ | (refine wq2 (fun hb => ?_) (fun hb => ?_) <;> (simp only [hb]; try simp only [hbs, ne_eq] at hb; try (exfalso; first | omega | exact hb trivial))) | fail)
        refine rq rfl ?_
        exact fnq
      · rw [hr] at hR hG
        repeat' (first | ((first | apply o_do | apply d_do | apply d_yes rfl rfl rfl); first | exact ls_indexAddr_sl tab_ok rfl rfl rfl rfl (by assumption) rfl | exact lsc (hR) | exact lsq) | refine a_seq ?_ | refine a_region ?_ | refine o_nil ?_ | refine a_block ?_ | refine a_ret ?_ | refine a_exit ?_ | refine a_skip ?_ | refine a_draw mixed ?_ | refine d_nil (by kernel_rfl) ?_ | refine o_yes rfl rfl rfl ?_ | refine o_no rfl rfl rfl (by decide) ?_ | refine o_no' rfl rfl rfl ?_ | refine a_condT rfl ?_ | refine a_condF rfl ?_ | refine d_no rfl rfl rfl (by decide) ?_ | refine d_no' rfl rfl rfl ?_ | (refine wq2 (fun hb => ?_) (fun hb => ?_) <;> (simp only [hb]; try simp only [hbs, ne_eq] at hb; try (exfalso; first | omega | exact hb trivial))) | fail)
        refine ⟨⟨0 + 1, by omega, hgo hG⟩, by dsimp only; omega, ?_⟩
        exact wkS
    · obtain ⟨j, rfl⟩ : ∃ j, q = j + 1 := ⟨q - 1, by omega⟩
      have hj : ((j + 1 : Nat) : Int) - 1 = (j : Int) := by omega
      have hlj : j < gs.length := by omega
      have hel2 : (gs.map Gp.av)[j]? = some (Gp.av gs[j]) := by simp [hlj]
      have hG : gpG gs (j + 1) = (grR gs[j + 1].no gs[j + 1].mark gs[j + 1].ps && decide (gs[j].no < gs[j + 1].no)) := by simp [gpG, hlt, hlj]
      generalize gs[j + 1] = x at *
      generalize gs[j] = y at *
      obtain ⟨no, mark, ps⟩ := x
      obtain ⟨no', mark', ps'⟩ := y
      dsimp only at *
      cases hr : grR no mark ps
      · rw [hr] at hR hG
        rw [hbad (by rw [hG]; rfl)]
        repeat' (first | ((first | apply o_do | apply d_do | apply d_yes rfl rfl rfl); first | exact ls_indexAddr_sl tab_ok rfl rfl rfl rfl (by assumption) rfl | exact ls_indexAddr_sl tab_ok rfl rfl rfl hj hel2 rfl | exact lsc (hR) | exact lsq) | refine a_seq ?_ | refine a_region ?_ | refine o_nil ?_ | refine a_block ?_ | refine a_ret ?_ | refine a_exit ?_ | refine a_skip ?_ | refine a_draw mixed ?_ | refine d_nil (by kernel_rfl) ?_ | refine o_yes rfl rfl rfl ?_ | refine o_no rfl rfl rfl (by decide) ?_ | refine o_no' rfl rfl rfl ?_ | refine a_condT rfl ?_ | refine a_condF rfl ?_ | refine d_no rfl rfl rfl (by decide) ?_ | refine d_no' rfl rfl rfl ?_ | (refine wq2 (fun hb => ?_) (fun hb => ?_) <;> (simp only [hb]; try simp only [hbs, ne_eq] at hb; try (exfalso; first | omega | exact hb trivial))) | fail)
        refine rq rfl ?_
        exact fnq
      · rw [hr] at hR hG
        by_cases hc : no' < no
        · have hg1 := hgo (by rw [hG]; simp [hc])
          repeat' (first | ((first | apply o_do | apply d_do | apply d_yes rfl rfl rfl); first | exact ls_indexAddr_sl tab_ok rfl rfl rfl rfl (by assumption) rfl | exact ls_indexAddr_sl tab_ok rfl rfl rfl hj hel2 rfl | exact lsc (hR) | exact lsq) | refine a_seq ?_ | refine a_region ?_ | refine o_nil ?_ | refine a_block ?_ | refine a_ret ?_ | refine a_exit ?_ | refine a_skip ?_ | refine a_draw mixed ?_ | refine d_nil (by kernel_rfl) ?_ | refine o_yes rfl rfl rfl ?_ | refine o_no rfl rfl rfl (by decide) ?_ | refine o_no' rfl rfl rfl ?_ | refine a_condT rfl ?_ | refine a_condF rfl ?_ | refine d_no rfl rfl rfl (by decide) ?_ | refine d_no' rfl rfl rfl ?_ | (refine wq2 (fun hb => ?_) (fun hb => ?_) <;> (simp only [hb]; try simp only [hbs, ne_eq] at hb; try (exfalso; first | omega | exact hb trivial))) | fail)
          refine ⟨⟨j + 1 + 1, by omega, hg1⟩, by dsimp only; omega, ?_⟩
          exact wkS
        · rw [hbad (by rw [hG]; simp; omega)]
          repeat' (first | ((first | apply o_do | apply d_do | apply d_yes rfl rfl rfl); first | exact ls_indexAddr_sl tab_ok rfl rfl rfl rfl (by assumption) rfl | exact ls_indexAddr_sl tab_ok rfl rfl rfl hj hel2 rfl | exact lsc (hR) | exact lsq) | refine a_seq ?_ | refine a_region ?_ | refine o_nil ?_ | refine a_block ?_ | refine a_ret ?_ | refine a_exit ?_ | refine a_skip ?_ | refine a_draw mixed ?_ | refine d_nil (by kernel_rfl) ?_ | refine o_yes rfl rfl rfl ?_ | refine o_no rfl rfl rfl (by decide) ?_ | refine o_no' rfl rfl rfl ?_ | refine a_condT rfl ?_ | refine a_condF rfl ?_ | refine d_no rfl rfl rfl (by decide) ?_ | refine d_no' rfl rfl rfl ?_ | (refine wq2 (fun hb => ?_) (fun hb => ?_) <;> (simp only [hb]; try simp only [hbs, ne_eq] at hb; try (exfalso; first | omega | exact hb trivial))) | fail)
          refine rq rfl ?_
          exact fnq
  · obtain rfl : q = gs.length := by omega
    have hend : gsR gs = true := hok
    rw [hend]
    repeat' (first | ((first | apply o_do | apply d_do | apply d_yes rfl rfl rfl); exact lsq) | refine a_seq ?_ | refine a_region ?_ | refine o_nil ?_ | refine a_block ?_ | refine a_ret ?_ | refine a_exit ?_ | refine a_skip ?_ | refine a_draw mixed ?_ | refine d_nil (by kernel_rfl) ?_ | refine o_yes rfl rfl rfl ?_ | refine o_no rfl rfl rfl (by decide) ?_ | refine o_no' rfl rfl rfl ?_ | refine a_condT rfl ?_ | refine a_condF rfl ?_ | refine d_no rfl rfl rfl (by decide) ?_ | refine d_no' rfl rfl rfl ?_ | (refine wq2 (fun hb => ?_) (fun hb => ?_) <;> (simp only [hb]; try simp only [hbs, ne_eq] at hb; try (exfalso; first | omega | exact hb trivial))) | fail)
    refine rq rfl ?_
    exact fnq
set_option maxHeartbeats 2000000 in
set_option maxRecDepth 10000 in
theorem g_Advance (g s d k fu li de id no mark : Int) (ps : List Pn) (m : Int) (hx : ps.length ≤ 9223372036854775807) :
    PC Tryz.prog 107 [.agg [.v (.int .i64 g), .v (.int .i64 s), .v (.int .i64 d), .v (.int .i64 k), .v (.int .i64 fu), .v (.int .i64 li), .v (.int .i64 de), .v (.int .i64 id)], .agg [.v (.int .i64 no), .v (.int .i64 mark), .sl 6 (ps.map Pn.av)], .v (.int .i64 m)] (adv s d k no mark ps m).av := by
  have hj := g_Job g s d k fu li de id
  have hr := g_Right no mark ps hx
  cases hJ : jobR s d k
  · rw [show adv s d k no mark ps m = ⟨0, 0, [], [], 130⟩ by simp [adv, hJ]]
    rw [hJ] at hj
    refine PC.mk (ac_body tab_ok Tryz.func107 rfl (by kernel_rfl) rfl ?_); intro w0 M μ0; simp only [Tryz.ntmps107, List.length_cons, List.length_nil, Nat.reduceAdd, Nat.reduceSub, numb]
    repeat' (first | ((first | apply o_do | apply d_do | apply d_yes rfl rfl rfl); first | exact lsc (hj) | exact lsq) | refine a_seq ?_ | refine a_region ?_ | refine o_nil ?_ | refine a_block ?_ | refine a_ret ?_ | refine a_exit ?_ | refine a_skip ?_ | refine a_draw mixed ?_ | refine d_nil (by kernel_rfl) ?_ | refine o_yes rfl rfl rfl ?_ | refine o_no rfl rfl rfl (by decide) ?_ | refine o_no' rfl rfl rfl ?_ | refine a_condT rfl ?_ | refine a_condF rfl ?_ | refine d_no rfl rfl rfl (by decide) ?_ | refine d_no' rfl rfl rfl ?_ | (refine wq2 (fun hb => ?_) (fun hb => ?_) <;> (simp only [hb]; try simp only [hbs, ne_eq] at hb; try (exfalso; first | omega | exact hb trivial))) | fail)
    refine rq rfl ?_
    exact fnq
  cases hG : grR no mark ps
  · rw [show adv s d k no mark ps m = ⟨0, 0, [], [], 1⟩ by simp [adv, hJ, hG]]
    rw [hJ] at hj
    rw [hG] at hr
    refine PC.mk (ac_body tab_ok Tryz.func107 rfl (by kernel_rfl) rfl ?_); intro w0 M μ0; simp only [Tryz.ntmps107, List.length_cons, List.length_nil, Nat.reduceAdd, Nat.reduceSub, numb]
    repeat' (first | ((first | apply o_do | apply d_do | apply d_yes rfl rfl rfl); first | exact lsc (hj) | exact lsc (hr) | exact lsq) | refine a_seq ?_ | refine a_region ?_ | refine o_nil ?_ | refine a_block ?_ | refine a_ret ?_ | refine a_exit ?_ | refine a_skip ?_ | refine a_draw mixed ?_ | refine d_nil (by kernel_rfl) ?_ | refine o_yes rfl rfl rfl ?_ | refine o_no rfl rfl rfl (by decide) ?_ | refine o_no' rfl rfl rfl ?_ | refine a_condT rfl ?_ | refine a_condF rfl ?_ | refine d_no rfl rfl rfl (by decide) ?_ | refine d_no' rfl rfl rfl ?_ | (refine wq2 (fun hb => ?_) (fun hb => ?_) <;> (simp only [hb]; try simp only [hbs, ne_eq] at hb; try (exfalso; first | omega | exact hb trivial))) | fail)
    refine rq rfl ?_
    exact fnq
  by_cases hm : m ≤ mark
  · rw [show adv s d k no mark ps m = ⟨no, mark, ps, [], 0⟩ by simp [adv, hJ, hG, hm]]
    rw [hJ] at hj
    rw [hG] at hr
    refine PC.mk (ac_body tab_ok Tryz.func107 rfl (by kernel_rfl) rfl ?_); intro w0 M μ0; simp only [Tryz.ntmps107, List.length_cons, List.length_nil, Nat.reduceAdd, Nat.reduceSub, numb]
    repeat' (first | ((first | apply o_do | apply d_do | apply d_yes rfl rfl rfl); first | exact lsc (hj) | exact lsc (hr) | exact lsq) | refine a_seq ?_ | refine a_region ?_ | refine o_nil ?_ | refine a_block ?_ | refine a_ret ?_ | refine a_exit ?_ | refine a_skip ?_ | refine a_draw mixed ?_ | refine d_nil (by kernel_rfl) ?_ | refine o_yes rfl rfl rfl ?_ | refine o_no rfl rfl rfl (by decide) ?_ | refine o_no' rfl rfl rfl ?_ | refine a_condT rfl ?_ | refine a_condF rfl ?_ | refine d_no rfl rfl rfl (by decide) ?_ | refine d_no' rfl rfl rfl ?_ | (refine wq2 (fun hb => ?_) (fun hb => ?_) <;> (simp only [hb]; try simp only [hbs, ne_eq] at hb; try (exfalso; first | omega | exact hb trivial))) | fail)
    refine rq rfl ?_
    exact fnq
  · rw [show adv s d k no mark ps m = ⟨no, min m 1099511627776, dueRB ps (min m 1099511627776), resultsL k (dueRA ps (min m 1099511627776)), 0⟩ by simp [adv, hJ, hG, hm]]
    rw [hJ] at hj
    rw [hG] at hr
    have hd := p_Due ps (min m 1099511627776) hx
    have hres := p_Results k (dueRA ps (min m 1099511627776)) (Nat.le_trans (dueRA_le _ _) hx)
    refine PC.mk (ac_body tab_ok Tryz.func107 rfl (by kernel_rfl) rfl ?_); intro w0 M μ0; simp only [Tryz.ntmps107, List.length_cons, List.length_nil, Nat.reduceAdd, Nat.reduceSub, numb]
    repeat' (first | ((first | apply o_do | apply d_do | apply d_yes rfl rfl rfl); first | exact lsc (hj) | exact lsc (hr) | exact lsc (hd) | exact lsc (hres) | exact lsq) | refine a_seq ?_ | refine a_region ?_ | refine o_nil ?_ | refine a_block ?_ | refine a_ret ?_ | refine a_exit ?_ | refine a_skip ?_ | refine a_draw mixed ?_ | refine d_nil (by kernel_rfl) ?_ | refine o_yes rfl rfl rfl ?_ | refine o_no rfl rfl rfl (by decide) ?_ | refine o_no' rfl rfl rfl ?_ | refine a_condT rfl ?_ | refine a_condF rfl ?_ | refine d_no rfl rfl rfl (by decide) ?_ | refine d_no' rfl rfl rfl ?_ | (refine wq2 (fun hb => ?_) (fun hb => ?_) <;> (simp only [hb]; try simp only [hbs, ne_eq] at hb; try (exfalso; first | omega | exact hb trivial))) | fail)
    refine rq rfl ?_
    exact fnq
/-- what is known of a worker's lengths -/
structure WkOk (k : Wk) : Prop where
  gs : k.gs.length ≤ 9223372036854775807
  ps : ∀ g ∈ k.gs, g.ps.length ≤ 9223372036854775807
  ins : k.mks.ins.length ≤ 9223372036854775807
  hs : k.mks.hs.length ≤ 9223372036854775807
  got : k.al.got.length ≤ 9223372036854775807
  held : k.al.held.length ≤ 9223372036854775807
  its : ∀ l ∈ k.al.held, l.length ≤ 9223372036854775807
set_option maxHeartbeats 2000000 in
theorem w_Right (k : Wk) (hk : WkOk k) : PC Tryz.prog 45 [.agg k.av] (.v (.bool (wkR k))) := by
  obtain ⟨k1, k2, k3, k4, k5, k6, k7⟩ := hk
  obtain ⟨gs, ⟨ins, hs, out⟩, ⟨n, got, held⟩, told⟩ := k
  dsimp only at k1 k2 k3 k4 k5 k6 k7
  have h1 := w_groups gs k1 k2
  have h2 := m_Right ⟨ins, hs, out⟩ k3 k4
  have h3 := l_Right ⟨n, got, held⟩ k5 k6 k7
  have n1 : (ins.map inAvM).length = ins.length := List.length_map _
  have n2 : (hs.map hoAv).length = hs.length := List.length_map _
  have n3 : (got.map boAv).length = got.length := List.length_map _
  simp only [Mk.av] at h2
  simp only [Al.av] at h3
  unfold wkR
  simp only [Wk.av]
  cases e1 : gsR gs <;> cases e2 : mkR ⟨ins, hs, out⟩ <;> cases e3 : alR ⟨n, got, held⟩
  all_goals
    rw [e1] at h1
    rw [e2] at h2
    rw [e3] at h3
    refine PC.mk (ac_body tab_ok Tryz.func45 rfl (by kernel_rfl) rfl ?_); intro w0 M μ0; simp only [Tryz.ntmps45, List.length_cons, List.length_nil, Nat.reduceAdd, Nat.reduceSub, numb]
    repeat' (first | ((first | apply o_do | apply d_do | apply d_yes rfl rfl rfl); first | exact lsc (h1) | exact lsc (h2) | exact lsc (h3) | exact lsq) | refine a_seq ?_ | refine a_region ?_ | refine o_nil ?_ | refine a_block ?_ | refine a_ret ?_ | refine a_exit ?_ | refine a_skip ?_ | refine a_draw mixed ?_ | refine d_nil (by kernel_rfl) ?_ | refine o_yes rfl rfl rfl ?_ | refine o_no rfl rfl rfl (by decide) ?_ | refine o_no' rfl rfl rfl ?_ | refine a_condT rfl ?_ | refine a_condF rfl ?_ | refine d_no rfl rfl rfl (by decide) ?_ | refine d_no' rfl rfl rfl ?_ | (refine wq2 (fun hb => ?_) (fun hb => ?_) <;> (simp only [hb]; try simp only [hbs, ne_eq] at hb; try (exfalso; first | omega | exact hb trivial))) | fail)
    all_goals refine rq rfl ?_
    all_goals (first | refine FinA.tup ?_ | refine FinA.one ?_); repeat' (first | exact FinBs.nil | exact FinCs.nil | refine FinBs.cons ?_ ?_ | refine FinCs.cons ?_ ?_ | refine FinB.cell (FinC.v ?_) | refine FinB.cell (FinC.own rfl rfl rfl ?_) | exact FinB.cell FinC.nil | refine FinB.cell (FinC.sl ?_) | exact FinB.agg' rfl rfl | exact FinB.cell (FinC.same rfl) | refine FinB.agg ?_ | refine FinC.v ?_ | refine FinC.own rfl rfl rfl ?_ | exact FinC.nil | refine FinC.sl ?_ | exact FinC.same rfl); all_goals try rfl
    all_goals first | (simp [*]; done) | (refine congrArg Value.bool ?_; rw [Bool.eq_iff_iff]; simp only [Bool.and_eq_true, decide_eq_true_eq, Bool.false_eq_true, true_and, false_and, and_true, false_iff, not_and]; omega)
def wkZ : Wk := ⟨[], ⟨[], [], 0⟩, ⟨0, [], []⟩, 0⟩
structure WkN where
  w : Wk
  e : Int
def WkN.av (x : WkN) : AV := .tup [.agg x.w.av, .v (.int .i64 x.e)]
def newW (ok : Bool) (n : Int) (gs : List Gp) : WkN :=
  if ok = false then ⟨wkZ, 130⟩
  else if 1 ≤ n ∧ n ≤ 8 ∧ gsR gs = true then ⟨⟨gs, ⟨newIns n, [], 0⟩, ⟨0, newGot n, newHeld n⟩, 0⟩, 0⟩
  else ⟨wkZ, 1⟩
set_option maxHeartbeats 2000000 in
theorem w_New (g s d k fu li de id n : Int) (gs : List Gp) (hx : gs.length ≤ 9223372036854775807) (hp : ∀ g ∈ gs, g.ps.length ≤ 9223372036854775807) :
    PC Tryz.prog 10 [.agg [.v (.int .i64 g), .v (.int .i64 s), .v (.int .i64 d), .v (.int .i64 k), .v (.int .i64 fu), .v (.int .i64 li), .v (.int .i64 de), .v (.int .i64 id)], .v (.int .i64 n), .sl 3 (gs.map Gp.av)] (newW (jobOK g s d k fu li de id) n gs).av := by
  have h1 := j_Right g s d k fu li de id
  have h2 := m_New n
  have h3 := l_New n
  have h4 := w_groups gs hx hp
  simp only [Mk.av] at h2
  simp only [Al.av] at h3
  unfold newW
  by_cases hn : 1 ≤ n ∧ n ≤ 8
  · have e5 : newE n = 0 := by unfold newE; rw [if_pos hn]
    rw [e5] at h2 h3
    cases e1 : jobOK g s d k fu li de id <;> cases e4 : gsR gs
    all_goals
      rw [e1] at h1
      rw [e4] at h4
    · simp only [if_true, WkN.av, wkZ, Wk.av, List.map_nil]
      refine PC.mk (ac_body tab_ok Tryz.func10 rfl (by kernel_rfl) rfl ?_); intro w0 M μ0; simp only [Tryz.ntmps10, List.length_cons, List.length_nil, Nat.reduceAdd, Nat.reduceSub, numb]
      repeat' (first | ((first | apply o_do | apply d_do | apply d_yes rfl rfl rfl); first | exact lsc (h1) | exact lsc (h2) | exact lsc (h3) | exact lsc (h4) | exact lsq) | refine a_seq ?_ | refine a_region ?_ | refine o_nil ?_ | refine a_block ?_ | refine a_ret ?_ | refine a_exit ?_ | refine a_skip ?_ | refine a_draw mixed ?_ | refine d_nil (by kernel_rfl) ?_ | refine o_yes rfl rfl rfl ?_ | refine o_no rfl rfl rfl (by decide) ?_ | refine o_no' rfl rfl rfl ?_ | refine a_condT rfl ?_ | refine a_condF rfl ?_ | refine d_no rfl rfl rfl (by decide) ?_ | refine d_no' rfl rfl rfl ?_ | (refine wq2 (fun hb => ?_) (fun hb => ?_) <;> (simp only [hb]; try simp only [hbs, ne_eq] at hb; try (exfalso; first | omega | exact hb trivial))) | fail)
      refine rq rfl ?_
      exact fnq
    · simp only [if_true, WkN.av, wkZ, Wk.av, List.map_nil]
      refine PC.mk (ac_body tab_ok Tryz.func10 rfl (by kernel_rfl) rfl ?_); intro w0 M μ0; simp only [Tryz.ntmps10, List.length_cons, List.length_nil, Nat.reduceAdd, Nat.reduceSub, numb]
      repeat' (first | ((first | apply o_do | apply d_do | apply d_yes rfl rfl rfl); first | exact lsc (h1) | exact lsc (h2) | exact lsc (h3) | exact lsc (h4) | exact lsq) | refine a_seq ?_ | refine a_region ?_ | refine o_nil ?_ | refine a_block ?_ | refine a_ret ?_ | refine a_exit ?_ | refine a_skip ?_ | refine a_draw mixed ?_ | refine d_nil (by kernel_rfl) ?_ | refine o_yes rfl rfl rfl ?_ | refine o_no rfl rfl rfl (by decide) ?_ | refine o_no' rfl rfl rfl ?_ | refine a_condT rfl ?_ | refine a_condF rfl ?_ | refine d_no rfl rfl rfl (by decide) ?_ | refine d_no' rfl rfl rfl ?_ | (refine wq2 (fun hb => ?_) (fun hb => ?_) <;> (simp only [hb]; try simp only [hbs, ne_eq] at hb; try (exfalso; first | omega | exact hb trivial))) | fail)
      refine rq rfl ?_
      exact fnq
    · simp only [Bool.true_eq_false, Bool.false_eq_true, and_false, if_false, WkN.av, wkZ, Wk.av, List.map_nil]
      refine PC.mk (ac_body tab_ok Tryz.func10 rfl (by kernel_rfl) rfl ?_); intro w0 M μ0; simp only [Tryz.ntmps10, List.length_cons, List.length_nil, Nat.reduceAdd, Nat.reduceSub, numb]
      repeat' (first | ((first | apply o_do | apply d_do | apply d_yes rfl rfl rfl); first | exact lsc (h1) | exact lsc (h2) | exact lsc (h3) | exact lsc (h4) | exact lsq) | refine a_seq ?_ | refine a_region ?_ | refine o_nil ?_ | refine a_block ?_ | refine a_ret ?_ | refine a_exit ?_ | refine a_skip ?_ | refine a_draw mixed ?_ | refine d_nil (by kernel_rfl) ?_ | refine o_yes rfl rfl rfl ?_ | refine o_no rfl rfl rfl (by decide) ?_ | refine o_no' rfl rfl rfl ?_ | refine a_condT rfl ?_ | refine a_condF rfl ?_ | refine d_no rfl rfl rfl (by decide) ?_ | refine d_no' rfl rfl rfl ?_ | (refine wq2 (fun hb => ?_) (fun hb => ?_) <;> (simp only [hb]; try simp only [hbs, ne_eq] at hb; try (exfalso; first | omega | exact hb trivial))) | fail)
      refine rq rfl ?_
      exact fnq
    · simp only [Bool.true_eq_false, if_false, hn.1, hn.2, and_self, if_true, WkN.av, Wk.av, List.map_nil]
      have hc := cl_Grp (gs.map Gp.av) (by rw [List.length_map]; have := gsR_le e4; omega)
      refine PC.mk (ac_body tab_ok Tryz.func10 rfl (by kernel_rfl) rfl ?_); intro w0 M μ0; simp only [Tryz.ntmps10, List.length_cons, List.length_nil, Nat.reduceAdd, Nat.reduceSub, numb]
      repeat' (first | ((first | apply o_do | apply d_do | apply d_yes rfl rfl rfl); first | exact lsc (h1) | exact lsc (h2) | exact lsc (h3) | exact lsc (h4) | exact ls_callA [] 4 hc rfl rfl (by (repeat' (first | exact NilL.nil | refine NilL.cons Nil.same ?_ | refine NilL.cons Nil.nil ?_ | refine NilL.cons (Nil.agg ?_) ?_ | exact Nil1s.nil | refine Nil1s.cons Nil1.same ?_ | refine Nil1s.cons Nil1.nil ?_)); first | done | fail) rfl (by repeat' (first | exact trivial | refine ⟨⟨_, rfl, by first | rfl | (simp [renO, *]; done)⟩, ?_⟩)) (by first | rfl | simp [closO, *]) rfl rfl rfl rfl (by first | rfl | simp [closO, *]) rfl | exact lsq) | refine a_seq ?_ | refine a_region ?_ | refine o_nil ?_ | refine a_block ?_ | refine a_ret ?_ | refine a_exit ?_ | refine a_skip ?_ | refine a_draw mixed ?_ | refine d_nil (by kernel_rfl) ?_ | refine o_yes rfl rfl rfl ?_ | refine o_no rfl rfl rfl (by decide) ?_ | refine o_no' rfl rfl rfl ?_ | refine a_condT rfl ?_ | refine a_condF rfl ?_ | refine d_no rfl rfl rfl (by decide) ?_ | refine d_no' rfl rfl rfl ?_ | (refine wq2 (fun hb => ?_) (fun hb => ?_) <;> (simp only [hb]; try simp only [hbs, ne_eq] at hb; try (exfalso; first | omega | exact hb trivial))) | fail)
      refine rq rfl ?_
      exact fnq
  · have e5 : newE n = 1 := by unfold newE; rw [if_neg hn]
    rw [e5] at h2 h3
    have e6 : ¬ (1 ≤ n ∧ n ≤ 8 ∧ gsR gs = true) := fun h => hn ⟨h.1, h.2.1⟩
    cases e1 : jobOK g s d k fu li de id
    all_goals rw [e1] at h1
    · simp only [if_true, WkN.av, wkZ, Wk.av, List.map_nil]
      refine PC.mk (ac_body tab_ok Tryz.func10 rfl (by kernel_rfl) rfl ?_); intro w0 M μ0; simp only [Tryz.ntmps10, List.length_cons, List.length_nil, Nat.reduceAdd, Nat.reduceSub, numb]
      repeat' (first | ((first | apply o_do | apply d_do | apply d_yes rfl rfl rfl); first | exact lsc (h1) | exact lsc (h2) | exact lsc (h3) | exact lsc (h4) | exact lsq) | refine a_seq ?_ | refine a_region ?_ | refine o_nil ?_ | refine a_block ?_ | refine a_ret ?_ | refine a_exit ?_ | refine a_skip ?_ | refine a_draw mixed ?_ | refine d_nil (by kernel_rfl) ?_ | refine o_yes rfl rfl rfl ?_ | refine o_no rfl rfl rfl (by decide) ?_ | refine o_no' rfl rfl rfl ?_ | refine a_condT rfl ?_ | refine a_condF rfl ?_ | refine d_no rfl rfl rfl (by decide) ?_ | refine d_no' rfl rfl rfl ?_ | (refine wq2 (fun hb => ?_) (fun hb => ?_) <;> (simp only [hb]; try simp only [hbs, ne_eq] at hb; try (exfalso; first | omega | exact hb trivial))) | fail)
      refine rq rfl ?_
      exact fnq
    · rw [if_neg (by decide), if_neg e6]
      simp only [WkN.av, wkZ, Wk.av, List.map_nil]
      refine PC.mk (ac_body tab_ok Tryz.func10 rfl (by kernel_rfl) rfl ?_); intro w0 M μ0; simp only [Tryz.ntmps10, List.length_cons, List.length_nil, Nat.reduceAdd, Nat.reduceSub, numb]
      repeat' (first | ((first | apply o_do | apply d_do | apply d_yes rfl rfl rfl); first | exact lsc (h1) | exact lsc (h2) | exact lsc (h3) | exact lsc (h4) | exact lsq) | refine a_seq ?_ | refine a_region ?_ | refine o_nil ?_ | refine a_block ?_ | refine a_ret ?_ | refine a_exit ?_ | refine a_skip ?_ | refine a_draw mixed ?_ | refine d_nil (by kernel_rfl) ?_ | refine o_yes rfl rfl rfl ?_ | refine o_no rfl rfl rfl (by decide) ?_ | refine o_no' rfl rfl rfl ?_ | refine a_condT rfl ?_ | refine a_condF rfl ?_ | refine d_no rfl rfl rfl (by decide) ?_ | refine d_no' rfl rfl rfl ?_ | (refine wq2 (fun hb => ?_) (fun hb => ?_) <;> (simp only [hb]; try simp only [hbs, ne_eq] at hb; try (exfalso; first | omega | exact hb trivial))) | fail)
      refine rq rfl ?_
      exact fnq
def tiA (t : Int) : List AV := [.v (.int .i64 t)]
def firstT (l : List Int) : Int := l.foldl (fun a t => min a (clampT t)) 1099511627776
def backI (ins : List (Int × Bool)) : List Int := (ins.filter (!·.2)).map (·.1)
def backH (hs : List (Int × Int)) : List Int := hs.map (·.2)
theorem firstT_snoc (l : List Int) (t : Int) : firstT (l ++ [t]) = min (firstT l) (clampT t) := by
  unfold firstT; rw [List.foldl_append]; rfl
theorem backI_snoc (l : List (Int × Bool)) (x : Int × Bool) : backI (l ++ [x]) = backI l ++ (if x.2 then [] else [x.1]) := by
  unfold backI
  rw [List.filter_append, List.map_append]
  cases h : x.2 <;> simp [h]
theorem backI_le (l : List (Int × Bool)) : (backI l).length ≤ l.length := by
  unfold backI; rw [List.length_map]; exact List.length_filter_le _ _
theorem backH_snoc (l : List (Int × Int)) (x : Int × Int) : backH (l ++ [x]) = backH l ++ [x.2] := by simp [backH]
structure MkT where
  m : Mk
  t : Int
  is : Bool
def mkZ : Mk := ⟨[], [], 0⟩
/-- what can be told -/
def mkTell (m : Mk) : MkT :=
  if mkR m = false then ⟨mkZ, 0, false⟩
  else if backI m.ins ++ backH m.hs = [] ∨ firstT (backI m.ins ++ backH m.hs) ≤ m.out then ⟨m, m.out, false⟩
  else ⟨{ m with out := firstT (backI m.ins ++ backH m.hs) }, firstT (backI m.ins ++ backH m.hs), true⟩
def mkIn (m : Mk) (i : Int) : Bool := mkR m && (decide (0 ≤ i) && decide (i < m.ins.length))
def mkPut (m : Mk) (i : Int) (x : Int × Bool) : Mk := { m with ins := m.ins.set i.toNat x }
structure MkE where
  m : Mk
  e : Int
def mkSet (m : Mk) (i t : Int) : MkE := if mkIn m i = false then ⟨mkZ, 1⟩ else ⟨mkPut m i (max (m.ins.getD i.toNat (0, false)).1 (clampT t), false), 0⟩
def mkIdle (m : Mk) (i : Int) : MkE := if mkIn m i = false then ⟨mkZ, 1⟩ else ⟨mkPut m i ((m.ins.getD i.toNat (0, false)).1, true), 0⟩
def MkE.av (x : MkE) : AV := .tup [.agg x.m.av, .v (.int .i64 x.e)]
def MkT.av (x : MkT) : AV := .tup [.agg x.m.av, .v (.int .i64 x.t), .v (.bool x.is)]
theorem rev_ind {α : Type} {p : List α → Prop} (h0 : p []) (h1 : ∀ l x, p l → p (l ++ [x])) (l : List α) : p l := by
  have h : ∀ n, n ≤ l.length → p (l.take n) := by
    intro n
    induction n with
    | zero => intro _; simpa using h0
    | succ n ih => intro hn; rw [take_snoc l n (by omega)]; exact h1 _ _ (ih (by omega))
  have := h l.length (Nat.le_refl _)
  rwa [List.take_length] at this
theorem clampT_in (t : Int) : 0 ≤ clampT t := by unfold clampT; omega
/-- an item that waited -/
structure Lt where
  input : Int
  it : It
def Lt.av (x : Lt) : List AV := [.v (.int .i64 x.input), .v (.int .i64 x.it.kind), .v (.string x.it.key), .v (.int .i64 x.it.at'), .v (.int .i64 x.it.val), .v (.int .i64 x.it.mark), .v (.int .i64 x.it.n), .v (.int .i64 x.it.lo), .v (.int .i64 x.it.hi), .v (.string x.it.rkey), .v (.int .i64 x.it.rn), .v (.int .i64 x.it.rval)]
def lts (k : Int) (l : List It) : List Lt := l.map fun x => ⟨k, x⟩
def latesN (held : List (List It)) (q : Nat) : List Lt := (List.range q).flatMap fun (k : Nat) => lts (k : Int) (held.getD k [])
theorem latesN_succ (held : List (List It)) (q : Nat) (h : q < held.length) : latesN held (q + 1) = latesN held q ++ lts q held[q] := by
  unfold latesN
  rw [List.range_succ, List.flatMap_append]
  simp [h]
theorem lts_snoc (k : Int) (l : List It) (x : It) : lts k (l ++ [x]) = lts k l ++ [⟨k, x⟩] := by simp [lts]
structure AlO where
  a : Al
  pass : Bool
  done : Int
  late : List Lt
  e : Int
def alZ : Al := ⟨0, [], []⟩
def alHas (a : Al) (i : Int) : Bool := alR a && (decide (0 ≤ i) && decide (i < a.got.length))
def alOffer (a : Al) (i : Int) (x : It) : AlO :=
  if (alHas a i && itR x) = false then ⟨alZ, false, 0, [], 1⟩
  else if a.got.getD i.toNat false = true then
    if 16 ≤ (a.held.getD i.toNat []).length then ⟨alZ, false, 0, [], 3⟩
    else ⟨⟨a.n, a.got, a.held.set i.toNat (a.held.getD i.toNat [] ++ [x])⟩, false, 0, [], 0⟩
  else if x.kind ≠ 4 then ⟨a, true, 0, [], 0⟩
  else if a.n ≠ 0 ∧ a.n ≠ x.n then ⟨alZ, false, 0, [], 190⟩
  else if (a.got.set i.toNat true).any (!·) = true then ⟨⟨x.n, a.got.set i.toNat true, a.held⟩, false, 0, [], 0⟩
  else ⟨⟨0, newGot a.got.length, newHeld a.got.length⟩, false, x.n, latesN a.held a.held.length, 0⟩
def AlO.av (o : AlO) : AV := .tup [.agg o.a.av, .v (.bool o.pass), .v (.int .i64 o.done), .sl 12 (o.late.map Lt.av), .v (.int .i64 o.e)]
theorem latesN_le {held : List (List It)} (h1 : held.length ≤ 8) (h2 : ∀ l ∈ held, l.length ≤ 16) : ∀ q, q ≤ held.length → (latesN held q).length ≤ 16 * q := by
  intro q
  induction q with
  | zero => intro _; simp [latesN]
  | succ q ih =>
    intro hq
    rw [latesN_succ held q (by omega), List.length_append]
    have := ih (by omega)
    have h3 := h2 held[q] (List.getElem_mem _)
    simp only [lts, List.length_map]
    omega
/-- what is known of an aligner that may be -/
theorem alR_ok {a : Al} (h : alR a = true) : 1 ≤ a.got.length ∧ a.got.length ≤ 8 ∧ a.held.length = a.got.length ∧ 0 ≤ a.n ∧ a.n ≤ 1073741824 ∧ (a.got.any id = true ↔ 0 < a.n) ∧ a.got.any (!·) = true ∧ (∀ l ∈ a.held, l.length ≤ 16) := by
  simp only [alR, Bool.and_eq_true, decide_eq_true_eq] at h
  obtain ⟨h1, h2, h3, h4, h5, h6, h7, h8⟩ := h
  refine ⟨h1, h2, h3, h4, h5, ?_, h7, fun l hl => ?_⟩
  · rw [beq_iff_eq] at h6
    rw [h6]; simp
  · obtain ⟨i, hi, rfl⟩ := List.getElem_of_mem hl
    have := List.all_eq_true.1 h8 i (List.mem_range.2 hi)
    simp only [heG, getD_at hi, Bool.and_eq_true, decide_eq_true_eq] at this
    exact this.1
structure Jb where
  g : Int
  s : Int
  d : Int
  k : Int
  fu : Int
  li : Int
  de : Int
  id : Int
def Jb.av (j : Jb) : List AV := [.v (.int .i64 j.g), .v (.int .i64 j.s), .v (.int .i64 j.d), .v (.int .i64 j.k), .v (.int .i64 j.fu), .v (.int .i64 j.li), .v (.int .i64 j.de), .v (.int .i64 j.id)]
def gpTake (j : Jb) (x : It) (g : Gp) : TkR := takeR j.s j.d j.k g.no g.mark g.ps x.key x.at' x.val
def TkR.gp (t : TkR) : Gp := ⟨t.no, t.mark, t.ps⟩
def putM (j : Jb) (no : Int) (x : It) (l : List Gp) : List Gp := l.map fun g => if g.no = no then (gpTake j x g).gp else g
def putB (j : Jb) (no : Int) (x : It) (l : List Gp) : Int := l.foldl (fun b g => if g.no = no then (gpTake j x g).e else b) 160
def resItem (r : Rs) : It := ⟨5, .empty, 0, 0, 0, 0, r.lo, r.hi, r.key, r.n, r.val⟩
def markItem (t : Int) : It := ⟨2, .empty, 0, 0, t, 0, 0, 0, .empty, 0, 0⟩
def barItem (n : Int) : It := ⟨4, .empty, 0, 0, 0, n, 0, 0, .empty, 0, 0⟩
def gpAdv (j : Jb) (t : Int) (g : Gp) : AdvR := adv j.s j.d j.k g.no g.mark g.ps t
def AdvR.gp (a : AdvR) : Gp := ⟨a.no, a.mark, a.ps⟩
def advM (j : Jb) (t : Int) (l : List Gp) : List Gp := l.map fun g => (gpAdv j t g).gp
def advT (j : Jb) (t : Int) (l : List Gp) : List It := l.flatMap fun g => (gpAdv j t g).rs.map resItem
theorem advM_snoc (j : Jb) (t : Int) (l : List Gp) (g : Gp) : advM j t (l ++ [g]) = advM j t l ++ [(gpAdv j t g).gp] := by simp [advM]
theorem advT_snoc (j : Jb) (t : Int) (l : List Gp) (g : Gp) : advT j t (l ++ [g]) = advT j t l ++ (gpAdv j t g).rs.map resItem := by simp [advT]
structure TkW where
  w : Wk
  told : List It
  late : List Lt
  e : Int
def TkW.av (x : TkW) : AV := .tup [.agg x.w.av, .sl 11 (x.told.map It.av), .sl 12 (x.late.map Lt.av), .v (.int .i64 x.e)]
def wkFail (e : Int) : TkW := ⟨wkZ, [], [], e⟩
/-- time that goes on, if it does -/
def wkGo (j : Jb) (gs : List Gp) (m : Mk) (al : Al) (told : Int) : TkW :=
  if (mkTell m).is = true then ⟨⟨advM j (mkTell m).t gs, (mkTell m).m, al, (mkTell m).t⟩, advT j (mkTell m).t gs ++ [markItem (mkTell m).t], [], 0⟩
  else ⟨⟨gs, (mkTell m).m, al, told⟩, [], [], 0⟩
/-- an item of an input (the reference's words) -/
def wkTake (ok : Bool) (j : Jb) (no : Int) (w : Wk) (input : Int) (x : It) : TkW :=
  if ok = false then wkFail 130
  else if (wkR w && itR x) = false ∨ x.kind = 5 then wkFail 1
  else if (alOffer w.al input x).e ≠ 0 then wkFail (alOffer w.al input x).e
  else if 0 < (alOffer w.al input x).done then ⟨{ w with al := (alOffer w.al input x).a }, [barItem (alOffer w.al input x).done], (alOffer w.al input x).late, 0⟩
  else if (alOffer w.al input x).pass = false then ⟨{ w with al := (alOffer w.al input x).a }, [], [], 0⟩
  else if x.kind = 1 then
    if putB j no x w.gs ≠ 0 then wkFail (putB j no x w.gs)
    else wkGo j (putM j no x w.gs) (mkSet w.mks input 0).m (alOffer w.al input x).a w.told
  else if x.kind = 2 then wkGo j w.gs (mkSet w.mks input x.mark).m (alOffer w.al input x).a w.told
  else if x.kind = 3 then wkGo j w.gs (mkIdle w.mks input).m (alOffer w.al input x).a w.told
  else wkGo j w.gs w.mks (alOffer w.al input x).a w.told
structure Sr where
  es : List Et
  done : Int
  mark : Int
  quiet : Int
  ended : Bool
def Sr.av (s : Sr) : List AV := [.sl 3 (s.es.map Et.av), .v (.int .i64 s.done), .v (.int .i64 s.mark), .v (.int .i64 s.quiet), .v (.bool s.ended)]
def zSr : Sr := ⟨[], 0, 0, 0, false⟩
def evItem (e : Et) : It := ⟨1, e.key, e.at', e.v, 0, 0, 0, 0, .empty, 0, 0⟩
def wayAv (j : Jb) (s : Sr) (x : AV) : List AV := [.v (.int .i64 j.g), .v (.int .i64 j.s), .v (.int .i64 j.d), .v (.int .i64 j.k), .v (.int .i64 j.fu), .v (.int .i64 j.li), .v (.int .i64 j.de), .v (.int .i64 j.id), .sl 3 (s.es.map Et.av), .v (.int .i64 s.done), .v (.int .i64 s.mark), .v (.int .i64 s.quiet), .v (.bool s.ended), x]
/-- a way's box and the items that it has told -/
def wayS (j : Jb) (s : Sr) (X : List (List AV)) : Store := [(0, .box 135 (wayAv j s (.own 1 X.length))), (1, .row 63 11 X)]
set_option maxRecDepth 10000
set_option maxHeartbeats 4000000
section
variable (j : Jb) (s : Sr) (X : List (List AV))
theorem s_tell (x : It) (hl : X.length ≤ 1000) : AC Tryz.prog 66 [.ref 0 0, .agg x.av] (wayS j s X) (.tup []) (wayS j s (X ++ [x.av])) := by
  unfold wayS wayAv It.av
  refine (ac_body tab_ok Tryz.func66 rfl (by kernel_rfl) rfl ?_); intro w0 M μ0; simp only [Tryz.ntmps66, List.length_cons, List.length_nil, Nat.reduceAdd, Nat.reduceSub, numb]
  repeat' (first | ((first | apply o_do | apply d_do | apply d_yes rfl rfl rfl); first | exact ls_nilCheck rfl rfl | focus (apply ls_append tab_ok rfl rfl ?hn rfl ?hsrc rfl ?hlen rfl rfl; (case hn => rfl); (case hsrc => first | exact SrcIs.sl | exact SrcIs.nil | exact SrcIs.own rfl rfl | fail); (case hlen => (try simp only [List.length_cons, List.length_nil]); omega); first | done | fail) | exact lsq) | refine a_seq ?_ | refine a_region ?_ | refine o_nil ?_ | refine a_block ?_ | refine a_ret ?_ | refine a_exit ?_ | refine a_skip ?_ | refine a_draw mixed ?_ | refine d_nil (by kernel_rfl) ?_ | refine o_yes rfl rfl rfl ?_ | refine o_no rfl rfl rfl (by decide) ?_ | refine o_no' rfl rfl rfl ?_ | refine a_condT rfl ?_ | refine a_condF rfl ?_ | refine d_no rfl rfl rfl (by decide) ?_ | refine d_no' rfl rfl rfl ?_ | (refine wq2 (fun hb => ?_) (fun hb => ?_) <;> (simp only [hb]; try simp only [hbs, ne_eq] at hb; try (exfalso; first | omega | exact hb trivial))) | fail)
  all_goals refine rq rfl ?_
  all_goals exact fnq
theorem s_mark (t : Int) (hl : X.length ≤ 1000) : AC Tryz.prog 64 [.ref 0 0, .v (.int .i64 t)] (wayS j s X) (.tup []) (wayS j s (X ++ [(markItem t).av])) := by
  have hT := s_tell j s X (markItem t) hl
  unfold wayS wayAv at *
  generalize hY : X ++ [(markItem t).av] = Y at *
  unfold markItem It.av at hT
  refine (ac_body tab_ok Tryz.func64 rfl (by kernel_rfl) rfl ?_); intro w0 M μ0; simp only [Tryz.ntmps64, List.length_cons, List.length_nil, Nat.reduceAdd, Nat.reduceSub, numb]
  repeat' (first | ((first | apply o_do | apply d_do | apply d_yes rfl rfl rfl); first | exact ls_callA [0, 1] 20 hT rfl rfl (by (repeat' (first | exact NilL.nil | refine NilL.cons Nil.same ?_ | refine NilL.cons Nil.nil ?_ | refine NilL.cons (Nil.agg ?_) ?_ | exact Nil1s.nil | refine Nil1s.cons Nil1.same ?_ | refine Nil1s.cons Nil1.nil ?_)); first | done | fail) rfl (by repeat' (first | exact trivial | refine ⟨⟨_, rfl, by first | rfl | (simp [renO, *]; done)⟩, ?_⟩)) (by first | rfl | simp [closO, *]) rfl rfl rfl rfl (by first | rfl | simp [closO, *]) rfl | exact lsq) | refine a_seq ?_ | refine a_region ?_ | refine o_nil ?_ | refine a_block ?_ | refine a_ret ?_ | refine a_exit ?_ | refine a_skip ?_ | refine a_draw mixed ?_ | refine d_nil (by kernel_rfl) ?_ | refine o_yes rfl rfl rfl ?_ | refine o_no rfl rfl rfl (by decide) ?_ | refine o_no' rfl rfl rfl ?_ | refine a_condT rfl ?_ | refine a_condF rfl ?_ | refine d_no rfl rfl rfl (by decide) ?_ | refine d_no' rfl rfl rfl ?_ | (refine wq2 (fun hb => ?_) (fun hb => ?_) <;> (simp only [hb]; try simp only [hbs, ne_eq] at hb; try (exfalso; first | omega | exact hb trivial))) | fail)
  all_goals refine rq rfl ?_
  all_goals exact fnq
theorem s_next1 (es : List Et) (mark quiet : Int) (hl : X.length ≤ 1000) (hn : es.length ≤ 1000000) : AC Tryz.prog 43 [.ref 0 0] (wayS j ⟨es, es.length, mark, quiet, false⟩ X) (.v (.int .i64 0)) (wayS j ⟨es, es.length, mark, quiet, true⟩ (X ++ [(markItem 1099511627776).av])) := by
  have hM := s_mark j ⟨es, es.length, mark, quiet, true⟩ X 1099511627776 hl
  unfold wayS wayAv at *
  generalize hY : X ++ [(markItem 1099511627776).av] = Y at *
  have hE : (es.map Et.av).length = es.length := by simp
  generalize es.map Et.av = E at *
  dsimp only at *
  refine (ac_body tab_ok Tryz.func43 rfl (by kernel_rfl) rfl ?_); intro w0 M μ0; simp only [Tryz.ntmps43, List.length_cons, List.length_nil, Nat.reduceAdd, Nat.reduceSub, numb]
  repeat' (first | ((first | apply o_do | apply d_do | apply d_yes rfl rfl rfl); first | exact ls_nilCheck rfl rfl | exact ls_callA [0, 1] 50 hM rfl rfl (by (repeat' (first | exact NilL.nil | refine NilL.cons Nil.same ?_ | refine NilL.cons Nil.nil ?_ | refine NilL.cons (Nil.agg ?_) ?_ | exact Nil1s.nil | refine Nil1s.cons Nil1.same ?_ | refine Nil1s.cons Nil1.nil ?_)); first | done | fail) rfl (by repeat' (first | exact trivial | refine ⟨⟨_, rfl, by first | rfl | (simp [renO, *]; done)⟩, ?_⟩)) (by first | rfl | simp [closO, *]) rfl rfl rfl rfl (by first | rfl | simp [closO, *]) rfl | exact lsq) | refine a_seq ?_ | refine a_region ?_ | refine o_nil ?_ | refine a_block ?_ | refine a_ret ?_ | refine a_exit ?_ | refine a_skip ?_ | refine a_draw mixed ?_ | refine d_nil (by kernel_rfl) ?_ | refine o_yes rfl rfl rfl ?_ | refine o_no rfl rfl rfl (by decide) ?_ | refine o_no' rfl rfl rfl ?_ | refine a_condT rfl ?_ | refine a_condF rfl ?_ | refine d_no rfl rfl rfl (by decide) ?_ | refine d_no' rfl rfl rfl ?_ | (refine wq2 (fun hb => ?_) (fun hb => ?_) <;> (simp only [hb]; try simp only [hbs, ne_eq] at hb; try (exfalso; first | omega | exact hb trivial))) | fail)
  all_goals refine rq rfl ?_
  all_goals exact fnq
/-- what a source tells of an event -/
def tellX (j : Jb) (m : Int) (e : Et) : List It := (if m ≤ e.at' then [evItem (e.ran j.li j.fu)] else []) ++ (if m < subT e.at' j.de then [markItem (subT e.at' j.de)] else [])
theorem s_next2 (es : List Et) (n : Nat) (mark quiet : Int) (e : Et) (hn : n < es.length) (he : es[n]? = some e) (hev : -9223372036854775808 ≤ e.v ∧ e.v ≤ 9223372036854775807) (hli : j.li ≤ 9223372036854775807) (hl : X.length ≤ 900) (hln : es.length ≤ 1000000) :
    AC Tryz.prog 43 [.ref 0 0] (wayS j ⟨es, n, mark, quiet, false⟩ X) (.v (.int .i64 0)) (wayS j ⟨es, n + 1, max mark (subT e.at' j.de), 0, false⟩ (X ++ (tellX j mark e).map It.av)) := by
  have h1 := p_subT e.at' j.de
  have h2 := p_Run e.key e.at' e.v j.li j.fu hev hli
  have hel : (es.map Et.av)[n]? = some e.av := by simp [List.getElem?_map, he]
  have hE : (es.map Et.av).length = es.length := by simp
  have hT := s_tell j ⟨es, n + 1, mark, 0, false⟩ X (evItem (e.ran j.li j.fu)) (by omega)
  have hM1 := s_mark j ⟨es, n + 1, subT e.at' j.de, 0, false⟩ (X ++ [(evItem (e.ran j.li j.fu)).av]) (subT e.at' j.de) (by simp; omega)
  have hM0 := s_mark j ⟨es, n + 1, subT e.at' j.de, 0, false⟩ X (subT e.at' j.de) (by omega)
  unfold wayS wayAv at *
  unfold tellX
  generalize es.map Et.av = E at *
  unfold Et.ran Et.av at *
  generalize hr : runE j.li j.fu e.v = r at *
  obtain ⟨v', c⟩ := r
  generalize subT e.at' j.de = t at *
  dsimp only at *
  have hz : (evItem ⟨e.key, e.at', v'⟩).av = [.v (.int .i64 1), .v (.string e.key), .v (.int .i64 e.at'), .v (.int .i64 v'), .v (.int .i64 0), .v (.int .i64 0), .v (.int .i64 0), .v (.int .i64 0), .v (.string .empty), .v (.int .i64 0), .v (.int .i64 0)] := rfl
  by_cases c1 : mark ≤ e.at' <;> by_cases c2 : mark < t
  · rw [if_pos c1, if_pos c2, show max mark t = t by omega]
    simp only [List.map_append, List.map_cons, List.map_nil, ← List.append_assoc]
    generalize hZ : X ++ [(evItem ⟨e.key, e.at', v'⟩).av] = Z at *
    generalize hY : Z ++ [(markItem t).av] = Y at *
    rw [hz] at hT
    refine (ac_body tab_ok Tryz.func43 rfl (by kernel_rfl) rfl ?_); intro w0 M μ0; simp only [Tryz.ntmps43, List.length_cons, List.length_nil, Nat.reduceAdd, Nat.reduceSub, numb]
    repeat' (first | ((first | apply o_do | apply d_do | apply d_yes rfl rfl rfl); first | exact ls_nilCheck rfl rfl | exact lsc (h1) | exact lsc (h2) | exact ls_indexAddr_sl tab_ok rfl rfl rfl rfl hel rfl | exact ls_callA [0, 1] 50 hT rfl rfl (by (repeat' (first | exact NilL.nil | refine NilL.cons Nil.same ?_ | refine NilL.cons Nil.nil ?_ | refine NilL.cons (Nil.agg ?_) ?_ | exact Nil1s.nil | refine Nil1s.cons Nil1.same ?_ | refine Nil1s.cons Nil1.nil ?_)); first | done | fail) rfl (by (repeat' (first | exact trivial | refine ⟨⟨_, rfl, by first | rfl | (simp [renO, *]; done) | fail⟩, ?_⟩)); first | done | fail) (by first | rfl | (simp [closO, *]; done) | fail) rfl rfl rfl rfl (by first | rfl | (simp [closO, *]; done) | fail) rfl | exact ls_callA [0, 1] 50 hM1 rfl rfl (by (repeat' (first | exact NilL.nil | refine NilL.cons Nil.same ?_ | refine NilL.cons Nil.nil ?_ | refine NilL.cons (Nil.agg ?_) ?_ | exact Nil1s.nil | refine Nil1s.cons Nil1.same ?_ | refine Nil1s.cons Nil1.nil ?_)); first | done | fail) rfl (by (repeat' (first | exact trivial | refine ⟨⟨_, rfl, by first | rfl | (simp [renO, *]; done) | fail⟩, ?_⟩)); first | done | fail) (by first | rfl | (simp [closO, *]; done) | fail) rfl rfl rfl rfl (by first | rfl | (simp [closO, *]; done) | fail) rfl | exact lsq) | refine a_seq ?_ | refine a_region ?_ | refine o_nil ?_ | refine a_block ?_ | refine a_ret ?_ | refine a_exit ?_ | refine a_skip ?_ | refine a_draw mixed ?_ | refine d_nil (by kernel_rfl) ?_ | refine o_yes rfl rfl rfl ?_ | refine o_no rfl rfl rfl (by decide) ?_ | refine o_no' rfl rfl rfl ?_ | refine a_condT rfl ?_ | refine a_condF rfl ?_ | refine d_no rfl rfl rfl (by decide) ?_ | refine d_no' rfl rfl rfl ?_ | (refine wq2 (fun hb => ?_) (fun hb => ?_) <;> (simp only [hb]; try simp only [hbs, ne_eq] at hb; try (exfalso; first | omega | exact hb trivial))) | fail)
    all_goals refine rq rfl ?_
    all_goals exact fnq
  · rw [if_pos c1, if_neg c2, show max mark t = mark by omega]
    simp only [List.map_append, List.map_cons, List.map_nil, List.append_nil]
    generalize hZ : X ++ [(evItem ⟨e.key, e.at', v'⟩).av] = Z at *
    rw [hz] at hT
    refine (ac_body tab_ok Tryz.func43 rfl (by kernel_rfl) rfl ?_); intro w0 M μ0; simp only [Tryz.ntmps43, List.length_cons, List.length_nil, Nat.reduceAdd, Nat.reduceSub, numb]
    repeat' (first | ((first | apply o_do | apply d_do | apply d_yes rfl rfl rfl); first | exact ls_nilCheck rfl rfl | exact lsc (h1) | exact lsc (h2) | exact ls_indexAddr_sl tab_ok rfl rfl rfl rfl hel rfl | exact ls_callA [0, 1] 50 hT rfl rfl (by (repeat' (first | exact NilL.nil | refine NilL.cons Nil.same ?_ | refine NilL.cons Nil.nil ?_ | refine NilL.cons (Nil.agg ?_) ?_ | exact Nil1s.nil | refine Nil1s.cons Nil1.same ?_ | refine Nil1s.cons Nil1.nil ?_)); first | done | fail) rfl (by (repeat' (first | exact trivial | refine ⟨⟨_, rfl, by first | rfl | (simp [renO, *]; done) | fail⟩, ?_⟩)); first | done | fail) (by first | rfl | (simp [closO, *]; done) | fail) rfl rfl rfl rfl (by first | rfl | (simp [closO, *]; done) | fail) rfl | exact lsq) | refine a_seq ?_ | refine a_region ?_ | refine o_nil ?_ | refine a_block ?_ | refine a_ret ?_ | refine a_exit ?_ | refine a_skip ?_ | refine a_draw mixed ?_ | refine d_nil (by kernel_rfl) ?_ | refine o_yes rfl rfl rfl ?_ | refine o_no rfl rfl rfl (by decide) ?_ | refine o_no' rfl rfl rfl ?_ | refine a_condT rfl ?_ | refine a_condF rfl ?_ | refine d_no rfl rfl rfl (by decide) ?_ | refine d_no' rfl rfl rfl ?_ | (refine wq2 (fun hb => ?_) (fun hb => ?_) <;> (simp only [hb]; try simp only [hbs, ne_eq] at hb; try (exfalso; first | omega | exact hb trivial))) | fail)
    all_goals refine rq rfl ?_
    all_goals exact fnq
  · rw [if_neg c1, if_pos c2, show max mark t = t by omega]
    simp only [List.map_append, List.map_cons, List.map_nil, List.nil_append]
    generalize hY : X ++ [(markItem t).av] = Y at *
    refine (ac_body tab_ok Tryz.func43 rfl (by kernel_rfl) rfl ?_); intro w0 M μ0; simp only [Tryz.ntmps43, List.length_cons, List.length_nil, Nat.reduceAdd, Nat.reduceSub, numb]
    repeat' (first | ((first | apply o_do | apply d_do | apply d_yes rfl rfl rfl); first | exact ls_nilCheck rfl rfl | exact lsc (h1) | exact lsc (h2) | exact ls_indexAddr_sl tab_ok rfl rfl rfl rfl hel rfl | exact ls_callA [0, 1] 50 hM0 rfl rfl (by (repeat' (first | exact NilL.nil | refine NilL.cons Nil.same ?_ | refine NilL.cons Nil.nil ?_ | refine NilL.cons (Nil.agg ?_) ?_ | exact Nil1s.nil | refine Nil1s.cons Nil1.same ?_ | refine Nil1s.cons Nil1.nil ?_)); first | done | fail) rfl (by (repeat' (first | exact trivial | refine ⟨⟨_, rfl, by first | rfl | (simp [renO, *]; done) | fail⟩, ?_⟩)); first | done | fail) (by first | rfl | (simp [closO, *]; done) | fail) rfl rfl rfl rfl (by first | rfl | (simp [closO, *]; done) | fail) rfl | exact lsq) | refine a_seq ?_ | refine a_region ?_ | refine o_nil ?_ | refine a_block ?_ | refine a_ret ?_ | refine a_exit ?_ | refine a_skip ?_ | refine a_draw mixed ?_ | refine d_nil (by kernel_rfl) ?_ | refine o_yes rfl rfl rfl ?_ | refine o_no rfl rfl rfl (by decide) ?_ | refine o_no' rfl rfl rfl ?_ | refine a_condT rfl ?_ | refine a_condF rfl ?_ | refine d_no rfl rfl rfl (by decide) ?_ | refine d_no' rfl rfl rfl ?_ | (refine wq2 (fun hb => ?_) (fun hb => ?_) <;> (simp only [hb]; try simp only [hbs, ne_eq] at hb; try (exfalso; first | omega | exact hb trivial))) | fail)
    all_goals refine rq rfl ?_
    all_goals exact fnq
  · rw [if_neg c1, if_neg c2, show max mark t = mark by omega]
    simp only [List.map_append, List.map_nil, List.append_nil]
    refine (ac_body tab_ok Tryz.func43 rfl (by kernel_rfl) rfl ?_); intro w0 M μ0; simp only [Tryz.ntmps43, List.length_cons, List.length_nil, Nat.reduceAdd, Nat.reduceSub, numb]
    repeat' (first | ((first | apply o_do | apply d_do | apply d_yes rfl rfl rfl); first | exact ls_nilCheck rfl rfl | exact lsc (h1) | exact lsc (h2) | exact ls_indexAddr_sl tab_ok rfl rfl rfl rfl hel rfl | exact lsq) | refine a_seq ?_ | refine a_region ?_ | refine o_nil ?_ | refine a_block ?_ | refine a_ret ?_ | refine a_exit ?_ | refine a_skip ?_ | refine a_draw mixed ?_ | refine d_nil (by kernel_rfl) ?_ | refine o_yes rfl rfl rfl ?_ | refine o_no rfl rfl rfl (by decide) ?_ | refine o_no' rfl rfl rfl ?_ | refine a_condT rfl ?_ | refine a_condF rfl ?_ | refine d_no rfl rfl rfl (by decide) ?_ | refine d_no' rfl rfl rfl ?_ | (refine wq2 (fun hb => ?_) (fun hb => ?_) <;> (simp only [hb]; try simp only [hbs, ne_eq] at hb; try (exfalso; first | omega | exact hb trivial))) | fail)
    all_goals refine rq rfl ?_
    all_goals exact fnq
theorem s_of : AC Tryz.prog 42 [.ref 0 0] (wayS j s X) (.clo (.func 43) [.ref 0 0] []) (wayS j s X) := by
  unfold wayS wayAv
  refine (ac_body tab_ok Tryz.func42 rfl (by kernel_rfl) rfl ?_); intro w0 M μ0; simp only [Tryz.ntmps42, List.length_cons, List.length_nil, Nat.reduceAdd, Nat.reduceSub, numb]
  repeat' (first | ((first | apply o_do | apply d_do | apply d_yes rfl rfl rfl); exact lsq) | refine a_seq ?_ | refine a_region ?_ | refine o_nil ?_ | refine a_block ?_ | refine a_ret ?_ | refine a_exit ?_ | refine a_skip ?_ | refine a_draw mixed ?_ | refine d_nil (by kernel_rfl) ?_ | refine o_yes rfl rfl rfl ?_ | refine o_no rfl rfl rfl (by decide) ?_ | refine o_no' rfl rfl rfl ?_ | refine a_condT rfl ?_ | refine a_condF rfl ?_ | refine d_no rfl rfl rfl (by decide) ?_ | refine d_no' rfl rfl rfl ?_ | (refine wq2 (fun hb => ?_) (fun hb => ?_) <;> (simp only [hb]; try simp only [hbs, ne_eq] at hb; try (exfalso; first | omega | exact hb trivial))) | fail)
  all_goals refine rq rfl ?_
  all_goals (first | refine FinA.tup ?_ | refine FinA.clo ?_ ?_ | refine FinA.one ?_); repeat' (first | exact FinBs.nil | exact FinCs.nil | refine FinBs.cons ?_ ?_ | refine FinCs.cons ?_ ?_ | refine FinB.cell (FinC.v ?_) | refine FinB.cell (FinC.own rfl rfl rfl ?_) | exact FinB.cell (FinC.el rfl rfl rfl rfl) | exact FinB.cell FinC.nil | refine FinB.cell (FinC.sl ?_) | exact FinB.agg' rfl rfl | exact FinB.cell (FinC.same rfl) | refine FinB.agg ?_ | refine FinC.v ?_ | refine FinC.own rfl rfl rfl ?_ | exact FinC.nil | refine FinC.sl ?_ | exact FinC.same rfl); all_goals try rfl
def srR (s : Sr) : Bool := okIn [s.es] && (decide (0 ≤ s.done) && (decide (s.done ≤ s.es.length) && (decide (0 ≤ s.mark) && (decide (s.mark ≤ 1099511627776) && (decide (0 ≤ s.quiet) && (decide (s.quiet ≤ 1048576) && (!s.ended || decide (s.done = s.es.length))))))))
theorem s_Right (hx : Small [s.es]) : PC Tryz.prog 63 [.agg s.av] (.v (.bool (srR s))) := by
  have h1 := j_Inputs [s.es] hx
  unfold srR
  obtain ⟨es, done, mark, quiet, ended⟩ := s
  dsimp only at *
  have hln := hx.2 es (by simp)
  generalize okIn [es] = r at *
  have h1 : PC Tryz.prog 39 [.sl 1 [[.sl 3 (es.map Et.av)]]] (.v (.bool r)) := h1
  unfold Sr.av
  dsimp only
  have hE : (es.map Et.av).length = es.length := by simp
  rw [← hE] at hln ⊢
  generalize es.map Et.av = E at *
  cases r
  · refine PC.mk (ac_body tab_ok Tryz.func63 rfl (by kernel_rfl) rfl ?_); intro w0 M μ0; simp only [Tryz.ntmps63, List.length_cons, List.length_nil, Nat.reduceAdd, Nat.reduceSub, numb]
    repeat' (first | ((first | apply o_do | apply d_do | apply d_yes rfl rfl rfl); first | exact lcs (h1) | exact lsq) | refine a_seq ?_ | refine a_region ?_ | refine o_nil ?_ | refine a_block ?_ | refine a_ret ?_ | refine a_exit ?_ | refine a_skip ?_ | refine a_draw mixed ?_ | refine d_nil (by kernel_rfl) ?_ | refine o_yes rfl rfl rfl ?_ | refine o_no rfl rfl rfl (by decide) ?_ | refine o_no' rfl rfl rfl ?_ | refine a_condT rfl ?_ | refine a_condF rfl ?_ | refine d_no rfl rfl rfl (by decide) ?_ | refine d_no' rfl rfl rfl ?_ | (refine wq2 (fun hb => ?_) (fun hb => ?_) <;> (simp only [hb]; try simp only [hbs, ne_eq] at hb; try (exfalso; first | omega | exact hb trivial))) | fail)
    all_goals refine rq rfl ?_
    all_goals exact fnq
  · cases ended
    · refine PC.mk (ac_body tab_ok Tryz.func63 rfl (by kernel_rfl) rfl ?_); intro w0 M μ0; simp only [Tryz.ntmps63, List.length_cons, List.length_nil, Nat.reduceAdd, Nat.reduceSub, numb]
      repeat' (first | ((first | apply o_do | apply d_do | apply d_yes rfl rfl rfl); first | exact lcs (h1) | exact lsq) | refine a_seq ?_ | refine a_region ?_ | refine o_nil ?_ | refine a_block ?_ | refine a_ret ?_ | refine a_exit ?_ | refine a_skip ?_ | refine a_draw mixed ?_ | refine d_nil (by kernel_rfl) ?_ | refine o_yes rfl rfl rfl ?_ | refine o_no rfl rfl rfl (by decide) ?_ | refine o_no' rfl rfl rfl ?_ | refine a_condT rfl ?_ | refine a_condF rfl ?_ | refine d_no rfl rfl rfl (by decide) ?_ | refine d_no' rfl rfl rfl ?_ | (refine wq2 (fun hb => ?_) (fun hb => ?_) <;> (simp only [hb]; try simp only [hbs, ne_eq] at hb; try (exfalso; first | omega | exact hb trivial))) | fail)
      all_goals refine rq rfl ?_
      all_goals exact fnq
    · refine PC.mk (ac_body tab_ok Tryz.func63 rfl (by kernel_rfl) rfl ?_); intro w0 M μ0; simp only [Tryz.ntmps63, List.length_cons, List.length_nil, Nat.reduceAdd, Nat.reduceSub, numb]
      repeat' (first | ((first | apply o_do | apply d_do | apply d_yes rfl rfl rfl); first | exact lcs (h1) | exact lsq) | refine a_seq ?_ | refine a_region ?_ | refine o_nil ?_ | refine a_block ?_ | refine a_ret ?_ | refine a_exit ?_ | refine a_skip ?_ | refine a_draw mixed ?_ | refine d_nil (by kernel_rfl) ?_ | refine o_yes rfl rfl rfl ?_ | refine o_no rfl rfl rfl (by decide) ?_ | refine o_no' rfl rfl rfl ?_ | refine a_condT rfl ?_ | refine a_condF rfl ?_ | refine d_no rfl rfl rfl (by decide) ?_ | refine d_no' rfl rfl rfl ?_ | (refine wq2 (fun hb => ?_) (fun hb => ?_) <;> (simp only [hb]; try simp only [hbs, ne_eq] at hb; try (exfalso; first | omega | exact hb trivial))) | fail)
      all_goals refine rq rfl ?_
      all_goals exact fnq
end
set_option maxRecDepth 10000
set_option maxHeartbeats 4000000
section
variable (j : Jb)
theorem s_step1 (es : List Et) (mark quiet : Int) (hj : jobOK j.g j.s j.d j.k j.fu j.li j.de j.id = true) (hx : Small [es]) (hln : es.length ≤ 1000000) (hR : srR ⟨es, es.length, mark, quiet, false⟩ = true) :
    PC Tryz.prog 41 [.agg j.av, .agg (Sr.av ⟨es, es.length, mark, quiet, false⟩), .clo (.func 42) [] []] (.tup [.agg (Sr.av ⟨es, es.length, mark, quiet, true⟩), .sl 11 [(markItem 1099511627776).av], .v (.int .i64 0)]) := by
  have h1 := j_Right j.g j.s j.d j.k j.fu j.li j.de j.id
  have h2 := s_Right ⟨es, es.length, mark, quiet, false⟩ hx
  have h3 := s_of j ⟨es, es.length, mark, quiet, false⟩ []
  have h4 := s_next1 j [] es mark quiet (by simp) hln
  rw [hj] at h1
  rw [hR] at h2
  rw [List.nil_append] at h4
  unfold wayS wayAv at *
  unfold Jb.av
  unfold Sr.av at *
  dsimp only at *
  generalize es.map Et.av = E at *
  generalize (markItem 1099511627776).av = Y at *
  refine PC.mk (ac_body tab_ok Tryz.func41 rfl (by kernel_rfl) rfl ?_); intro w0 M μ0; simp only [Tryz.ntmps41, List.length_cons, List.length_nil, Nat.reduceAdd, Nat.reduceSub, numb]
  repeat' (first | refine a_adoptB 3 13 4 63 11 rfl rfl rfl ?_  | ((first | apply o_do | apply d_do | apply d_yes rfl rfl rfl); first |  exact ls_nilCheck rfl rfl | exact lsc (h1) | exact lsc (h2) | exact ls_callAB [3, 4] 50 h3 rfl rfl (by (repeat' (first | exact NilL.nil | refine NilL.cons Nil.same ?_ | refine NilL.cons Nil.nil ?_ | refine NilL.cons (Nil.agg ?_) ?_ | exact Nil1s.nil | refine Nil1s.cons Nil1.same ?_ | refine Nil1s.cons Nil1.nil ?_)); first | done | fail) rfl (by repeat' (first | exact trivial | refine ⟨⟨_, rfl, by first | rfl | (simp [renO, *]; done)⟩, ?_⟩)) (by first | rfl | simp [closO, *]) rfl rfl rfl rfl (by first | rfl | simp [closO, *]) rfl | exact ls_callAB [3, 4] 50 h4 rfl rfl (by (repeat' (first | exact NilL.nil | refine NilL.cons Nil.same ?_ | refine NilL.cons Nil.nil ?_ | refine NilL.cons (Nil.agg ?_) ?_ | exact Nil1s.nil | refine Nil1s.cons Nil1.same ?_ | refine Nil1s.cons Nil1.nil ?_)); first | done | fail) rfl (by repeat' (first | exact trivial | refine ⟨⟨_, rfl, by first | rfl | (simp [renO, *]; done)⟩, ?_⟩)) (by first | rfl | simp [closO, *]) rfl rfl rfl rfl (by first | rfl | simp [closO, *]) rfl | exact lsq) | refine a_seq ?_ | refine a_region ?_ | refine o_nil ?_ | refine a_block ?_ | refine a_ret ?_ | refine a_exit ?_ | refine a_skip ?_ | refine a_draw mixed ?_ | refine d_nil (by kernel_rfl) ?_ | refine o_yes rfl rfl rfl ?_ | refine o_no rfl rfl rfl (by decide) ?_ | refine o_no' rfl rfl rfl ?_ | refine a_condT rfl ?_ | refine a_condF rfl ?_ | refine d_no rfl rfl rfl (by decide) ?_ | refine d_no' rfl rfl rfl ?_ | (refine wq2 (fun hb => ?_) (fun hb => ?_) <;> (simp only [hb]; try simp only [hbs, ne_eq] at hb; try (exfalso; first | omega | exact hb trivial))) | fail)
  all_goals refine rq rfl ?_
  all_goals exact fnq
theorem s_step2 (es : List Et) (n : Nat) (mark quiet : Int) (e : Et) (hj : jobOK j.g j.s j.d j.k j.fu j.li j.de j.id = true) (hx : Small [es]) (hn : n < es.length) (he : es[n]? = some e) (hev : -9223372036854775808 ≤ e.v ∧ e.v ≤ 9223372036854775807) (hli : j.li ≤ 9223372036854775807) (hln : es.length ≤ 1000000) (hR : srR ⟨es, n, mark, quiet, false⟩ = true) :
    PC Tryz.prog 41 [.agg j.av, .agg (Sr.av ⟨es, n, mark, quiet, false⟩), .clo (.func 42) [] []] (.tup [.agg (Sr.av ⟨es, n + 1, max mark (subT e.at' j.de), 0, false⟩), .sl 11 ((tellX j mark e).map It.av), .v (.int .i64 0)]) := by
  have h1 := j_Right j.g j.s j.d j.k j.fu j.li j.de j.id
  have h2 := s_Right ⟨es, n, mark, quiet, false⟩ hx
  have h3 := s_of j ⟨es, n, mark, quiet, false⟩ []
  have h4 := s_next2 j [] es n mark quiet e hn he hev hli (by simp) hln
  rw [hj] at h1
  rw [hR] at h2
  rw [List.nil_append] at h4
  unfold wayS wayAv at *
  unfold Jb.av
  unfold Sr.av at *
  dsimp only at *
  generalize es.map Et.av = E at *
  generalize (tellX j mark e).map It.av = Y at *
  generalize max mark (subT e.at' j.de) = m' at *
  refine PC.mk (ac_body tab_ok Tryz.func41 rfl (by kernel_rfl) rfl ?_); intro w0 M μ0; simp only [Tryz.ntmps41, List.length_cons, List.length_nil, Nat.reduceAdd, Nat.reduceSub, numb]
  repeat' (first | refine a_adoptB 3 13 4 63 11 rfl rfl rfl ?_  | ((first | apply o_do | apply d_do | apply d_yes rfl rfl rfl); first |  exact ls_nilCheck rfl rfl | exact lsc (h1) | exact lsc (h2) | exact ls_callAB [3, 4] 50 h3 rfl rfl (by (repeat' (first | exact NilL.nil | refine NilL.cons Nil.same ?_ | refine NilL.cons Nil.nil ?_ | refine NilL.cons (Nil.agg ?_) ?_ | exact Nil1s.nil | refine Nil1s.cons Nil1.same ?_ | refine Nil1s.cons Nil1.nil ?_)); first | done | fail) rfl (by repeat' (first | exact trivial | refine ⟨⟨_, rfl, by first | rfl | (simp [renO, *]; done)⟩, ?_⟩)) (by first | rfl | simp [closO, *]) rfl rfl rfl rfl (by first | rfl | simp [closO, *]) rfl | exact ls_callAB [3, 4] 50 h4 rfl rfl (by (repeat' (first | exact NilL.nil | refine NilL.cons Nil.same ?_ | refine NilL.cons Nil.nil ?_ | refine NilL.cons (Nil.agg ?_) ?_ | exact Nil1s.nil | refine Nil1s.cons Nil1.same ?_ | refine Nil1s.cons Nil1.nil ?_)); first | done | fail) rfl (by repeat' (first | exact trivial | refine ⟨⟨_, rfl, by first | rfl | (simp [renO, *]; done)⟩, ?_⟩)) (by first | rfl | simp [closO, *]) rfl rfl rfl rfl (by first | rfl | simp [closO, *]) rfl | exact lsq) | refine a_seq ?_ | refine a_region ?_ | refine o_nil ?_ | refine a_block ?_ | refine a_ret ?_ | refine a_exit ?_ | refine a_skip ?_ | refine a_draw mixed ?_ | refine d_nil (by kernel_rfl) ?_ | refine o_yes rfl rfl rfl ?_ | refine o_no rfl rfl rfl (by decide) ?_ | refine o_no' rfl rfl rfl ?_ | refine a_condT rfl ?_ | refine a_condF rfl ?_ | refine d_no rfl rfl rfl (by decide) ?_ | refine d_no' rfl rfl rfl ?_ | (refine wq2 (fun hb => ?_) (fun hb => ?_) <;> (simp only [hb]; try simp only [hbs, ne_eq] at hb; try (exfalso; first | omega | exact hb trivial))) | fail)
  all_goals refine rq rfl ?_
  all_goals exact fnq
/-- source.Next hands on what step makes -/
theorem s_Next {s s' : Sr} {Y : List (List AV)} {e : Int} (h : PC Tryz.prog 41 [.agg j.av, .agg s.av, .clo (.func 42) [] []] (.tup [.agg s'.av, .sl 11 Y, .v (.int .i64 e)])) :
    PC Tryz.prog 13 [.agg j.av, .agg s.av] (.tup [.agg s'.av, .sl 11 Y, .v (.int .i64 e)]) := by
  unfold Jb.av Sr.av at *
  generalize s.es.map Et.av = E at *
  generalize s'.es.map Et.av = E' at *
  refine PC.mk (ac_body tab_ok Tryz.func13 rfl (by kernel_rfl) rfl ?_); intro w0 M μ0; simp only [Tryz.ntmps13, List.length_cons, List.length_nil, Nat.reduceAdd, Nat.reduceSub, numb]
  repeat' (first | ((first | apply o_do | apply d_do | apply d_yes rfl rfl rfl); first | exact lsc (h) | exact lsq) | refine a_seq ?_ | refine a_region ?_ | refine o_nil ?_ | refine a_block ?_ | refine a_ret ?_ | refine a_exit ?_ | refine a_skip ?_ | refine a_draw mixed ?_ | refine d_nil (by kernel_rfl) ?_ | refine o_yes rfl rfl rfl ?_ | refine o_no rfl rfl rfl (by decide) ?_ | refine o_no' rfl rfl rfl ?_ | refine a_condT rfl ?_ | refine a_condF rfl ?_ | refine d_no rfl rfl rfl (by decide) ?_ | refine d_no' rfl rfl rfl ?_ | (refine wq2 (fun hb => ?_) (fun hb => ?_) <;> (simp only [hb]; try simp only [hbs, ne_eq] at hb; try (exfalso; first | omega | exact hb trivial))) | fail)
  all_goals refine rq rfl ?_
  all_goals exact fnq
/-- source.New at the beginning -/
theorem s_New0 (es : List Et) (hx : Small [es]) (hes : ∀ e ∈ es, -9223372036854775808 ≤ e.v ∧ e.v ≤ 9223372036854775807) (hli : j.li ≤ 9223372036854775807) (hj : jobOK j.g j.s j.d j.k j.fu j.li j.de j.id = true) (ho : okIn [es] = true) :
    PC Tryz.prog 12 [.agg j.av, .sl 3 (es.map Et.av), .v (.int .i64 0)] (.tup [.agg (Sr.av ⟨es, 0, 0, 0, false⟩), .v (.int .i64 0)]) := by
  have h1 := j_Right j.g j.s j.d j.k j.fu j.li j.de j.id
  have h2 : PC Tryz.prog 39 [.sl 1 [[.sl 3 (es.map Et.av)]]] (.v (.bool (okIn [es]))) := j_Inputs [es] hx
  have h3 : PC Tryz.prog 40 [.agg j.av, .sl 3 []] (.v (.int .i64 (markN j.g j.s j.d j.k j.fu j.li j.de j.id []))) := m_Mark j.g j.s j.d j.k j.fu j.li j.de j.id [] ⟨by simp, by simp⟩ (by simp) hli
  have e3 : markN j.g j.s j.d j.k j.fu j.li j.de j.id [] = 0 := by unfold markN; split <;> rfl
  rw [hj] at h1
  rw [ho] at h2
  rw [e3] at h3
  have hE : (es.map Et.av).length = es.length := by simp
  have hln := hx.2 es (by simp)
  rw [← hE] at hln
  unfold Sr.av Jb.av at *
  dsimp only
  generalize es.map Et.av = E at *
  refine PC.mk (ac_body tab_ok Tryz.func12 rfl (by kernel_rfl) rfl ?_); intro w0 M μ0; simp only [Tryz.ntmps12, List.length_cons, List.length_nil, Nat.reduceAdd, Nat.reduceSub, numb]
  repeat' (first | ((first | apply o_do | apply d_do | apply d_yes rfl rfl rfl); first | exact lcs (h1) | exact lcs (h2) | exact lcs (h3) | exact ls_slice_to (n := 0) tab_ok rfl rfl rfl rfl (Nat.zero_le _) rfl | exact lsq) | refine a_seq ?_ | refine a_region ?_ | refine o_nil ?_ | refine a_block ?_ | refine a_ret ?_ | refine a_exit ?_ | refine a_skip ?_ | refine a_draw mixed ?_ | refine d_nil (by kernel_rfl) ?_ | refine o_yes rfl rfl rfl ?_ | refine o_no rfl rfl rfl (by decide) ?_ | refine o_no' rfl rfl rfl ?_ | refine a_condT rfl ?_ | refine a_condF rfl ?_ | refine d_no rfl rfl rfl (by decide) ?_ | refine d_no' rfl rfl rfl ?_ | (refine wq2 (fun hb => ?_) (fun hb => ?_) <;> (simp only [hb]; try simp only [hbs, ne_eq] at hb; try (exfalso; first | omega | exact hb trivial))) | fail)
  all_goals refine rq rfl ?_
  all_goals exact fnq
end
end Go.Proofs.YtilgagmfcdfjaaaGreat
