/-
  Marks, walked over abstract values: which may be.
  Marks, walked over abstract values: which may be, by the reference.
  Aligners, walked over abstract values: which may be, new ones, likeness.
-/
import Derived.Test.YtagfjnjpgphnjaaGreatK4
import Derived.Test.YtagfjnjpgphnjaaGreatK11
namespace Go.Proofs.YtagfjnjpgphnjaaGreat
open Go.RowKit
set_option linter.unusedSimpArgs false
set_option linter.unusedVariables false
theorem m_time (t : Int) : PC Tryz.prog 139 [.v (.int .i64 t)] (.v (.bool (tmR t))) := by
  unfold tmR
  refine PC.mk (ac_body tab_ok Tryz.func139 rfl (by kernel_rfl) rfl ?_); intro w0 M μ0; simp only [Tryz.ntmps139, List.length_cons, List.length_nil, Nat.reduceAdd, Nat.reduceSub, numb]
  repeat' (first | ((first | apply o_do | apply d_do | apply d_yes rfl rfl rfl); exact lsq) | refine a_seq ?_ | refine a_region ?_ | refine o_nil ?_ | refine a_block ?_ | refine a_ret ?_ | refine a_exit ?_ | refine a_skip ?_ | refine a_draw mixed ?_ | refine d_nil (by kernel_rfl) ?_ | refine o_yes rfl rfl rfl ?_ | refine o_no rfl rfl rfl (by decide) ?_ | refine o_no' rfl rfl rfl ?_ | refine a_condT rfl ?_ | refine a_condF rfl ?_ | refine d_no rfl rfl rfl (by decide) ?_ | refine d_no' rfl rfl rfl ?_ | (refine wq2 (fun hb => ?_) (fun hb => ?_) <;> (simp only [hb]; try simp only [hbs, ne_eq] at hb; try (exfalso; first | omega | exact hb trivial))) | fail)
  all_goals refine rq rfl ?_
  all_goals (first | refine FinA.tup ?_ | refine FinA.one ?_); repeat' (first | exact FinBs.nil | exact FinCs.nil | refine FinBs.cons ?_ ?_ | refine FinCs.cons ?_ ?_ | refine FinB.cell (FinC.v ?_) | refine FinB.cell (FinC.own rfl rfl rfl ?_) | exact FinB.cell FinC.nil | refine FinB.cell (FinC.sl ?_) | exact FinB.agg' rfl rfl | exact FinB.cell (FinC.same rfl) | refine FinB.agg ?_ | refine FinC.v ?_ | refine FinC.own rfl rfl rfl ?_ | exact FinC.nil | refine FinC.sl ?_ | exact FinC.same rfl); all_goals try rfl
  all_goals simp [*]
theorem m_rtime (t : Int) : PC Tryz.prog 163 [.v (.int .i64 t)] (.v (.bool (tmR t))) := by
  unfold tmR
  refine PC.mk (ac_body tab_ok Tryz.func163 rfl (by kernel_rfl) rfl ?_); intro w0 M μ0; simp only [Tryz.ntmps163, List.length_cons, List.length_nil, Nat.reduceAdd, Nat.reduceSub, numb]
  repeat' (first | ((first | apply o_do | apply d_do | apply d_yes rfl rfl rfl); exact lsq) | refine a_seq ?_ | refine a_region ?_ | refine o_nil ?_ | refine a_block ?_ | refine a_ret ?_ | refine a_exit ?_ | refine a_skip ?_ | refine a_draw mixed ?_ | refine d_nil (by kernel_rfl) ?_ | refine o_yes rfl rfl rfl ?_ | refine o_no rfl rfl rfl (by decide) ?_ | refine o_no' rfl rfl rfl ?_ | refine a_condT rfl ?_ | refine a_condF rfl ?_ | refine d_no rfl rfl rfl (by decide) ?_ | refine d_no' rfl rfl rfl ?_ | (refine wq2 (fun hb => ?_) (fun hb => ?_) <;> (simp only [hb]; try simp only [hbs, ne_eq] at hb; try (exfalso; first | omega | exact hb trivial))) | fail)
  all_goals refine rq rfl ?_
  all_goals (first | refine FinA.tup ?_ | refine FinA.one ?_); repeat' (first | exact FinBs.nil | exact FinCs.nil | refine FinBs.cons ?_ ?_ | refine FinCs.cons ?_ ?_ | refine FinB.cell (FinC.v ?_) | refine FinB.cell (FinC.own rfl rfl rfl ?_) | exact FinB.cell FinC.nil | refine FinB.cell (FinC.sl ?_) | exact FinB.agg' rfl rfl | exact FinB.cell (FinC.same rfl) | refine FinB.agg ?_ | refine FinC.v ?_ | refine FinC.own rfl rfl rfl ?_ | exact FinC.nil | refine FinC.sl ?_ | exact FinC.same rfl); all_goals try rfl
  all_goals simp [*]
theorem m_Right1 (x : Int × Bool) : PC Tryz.prog 141 [.agg (inAvM x)] (.v (.bool (!tmR x.1))) := by
  obtain ⟨a, b⟩ := x
  have h := m_time a
  refine PC.mk (ac_body tab_ok Tryz.func141 rfl (by kernel_rfl) rfl ?_); intro w0 M μ0; simp only [Tryz.ntmps141, List.length_cons, List.length_nil, Nat.reduceAdd, Nat.reduceSub, numb]
  repeat' (first | ((first | apply o_do | apply d_do | apply d_yes rfl rfl rfl); first | exact lsc (h) | exact lsq) | refine a_seq ?_ | refine a_region ?_ | refine o_nil ?_ | refine a_block ?_ | refine a_ret ?_ | refine a_exit ?_ | refine a_skip ?_ | refine a_draw mixed ?_ | refine d_nil (by kernel_rfl) ?_ | refine o_yes rfl rfl rfl ?_ | refine o_no rfl rfl rfl (by decide) ?_ | refine o_no' rfl rfl rfl ?_ | refine a_condT rfl ?_ | refine a_condF rfl ?_ | refine d_no rfl rfl rfl (by decide) ?_ | refine d_no' rfl rfl rfl ?_ | (refine wq2 (fun hb => ?_) (fun hb => ?_) <;> (simp only [hb]; try simp only [hbs, ne_eq] at hb; try (exfalso; first | omega | exact hb trivial))) | fail)
  all_goals refine rq rfl ?_
  all_goals exact fnq
set_option maxHeartbeats 1000000 in
theorem m_IdxI (es : List (Int × Bool)) (hx : es.length ≤ 9223372036854775807) : ∃ i : Int, (decide (0 ≤ i) = !es.all fun e => tmR e.1) ∧ PC Tryz.prog 181 [.sl 2 (es.map inAvM), .clo (.func 141) [] []] (.v (.int .i64 i)) := by
  rcases fst_all (fun e : Int × Bool => tmR e.1) es with hall | ⟨q0, hq0, h1, h2⟩
  · refine ⟨-1, by rw [hall]; rfl, ?_⟩
    refine PC.mk (ac_body tab_ok Tryz.func181 rfl (by kernel_rfl) rfl ?_); intro w0 M μ0; simp only [Tryz.ntmps181, List.length_cons, List.length_nil, Nat.reduceAdd, Nat.reduceSub, numb]
    repeat' (first | ((first | apply o_do | apply d_do | apply d_yes rfl rfl rfl); exact lsq) | refine a_seq ?_ | refine a_region ?_ | refine o_nil ?_ | refine a_block ?_ | refine a_ret ?_ | refine a_exit ?_ | refine a_skip ?_ | refine a_draw mixed ?_ | refine d_nil (by kernel_rfl) ?_ | refine o_yes rfl rfl rfl ?_ | refine o_no rfl rfl rfl (by decide) ?_ | refine o_no' rfl rfl rfl ?_ | refine a_condT rfl ?_ | refine a_condF rfl ?_ | refine d_no rfl rfl rfl (by decide) ?_ | refine d_no' rfl rfl rfl ?_ | (refine wq2 (fun hb => ?_) (fun hb => ?_) <;> (simp only [hb]; try simp only [hbs, ne_eq] at hb; try (exfalso; first | omega | exact hb trivial))) | fail)
    refine a_loop (X := {q : Nat // q ≤ es.length}) (fun x => ⟨[(0, .sl 2 (es.map inAvM)), (1, .clo (.func 141) [] []), (7, .v (.int .i64 es.length)), (8, .v (.int .i64 x.1))], []⟩) (fun x => es.length - x.1) ⟨0, Nat.zero_le _⟩ ?_ ?_
    · exact wkS
    rintro ⟨q, hq⟩
    dsimp only
    by_cases hlt : q < es.length
    · have hel : (es.map inAvM)[q]? = some (inAvM es[q]) := by simp [hlt]
      have hbd := m_Right1 es[q]
      rw [show tmR es[q].1 = true from List.all_eq_true.1 hall _ (List.getElem_mem hlt)] at hbd
      generalize es[q] = x at *
      repeat' (first | ((first | apply o_do | apply d_do | apply d_yes rfl rfl rfl); first | exact lsc (hbd) | exact lsq) | refine a_seq ?_ | refine a_region ?_ | refine o_nil ?_ | refine a_block ?_ | refine a_ret ?_ | refine a_exit ?_ | refine a_skip ?_ | refine a_draw mixed ?_ | refine d_nil (by kernel_rfl) ?_ | refine o_yes rfl rfl rfl ?_ | refine o_no rfl rfl rfl (by decide) ?_ | refine o_no' rfl rfl rfl ?_ | refine a_condT rfl ?_ | refine a_condF rfl ?_ | refine d_no rfl rfl rfl (by decide) ?_ | refine d_no' rfl rfl rfl ?_ | (refine wq2 (fun hb => ?_) (fun hb => ?_) <;> (simp only [hb]; try simp only [hbs, ne_eq] at hb; try (exfalso; first | omega | exact hb trivial))) | fail)
      refine ⟨⟨q + 1, by omega⟩, by dsimp only; omega, ?_⟩
      exact wkS
    · repeat' (first | ((first | apply o_do | apply d_do | apply d_yes rfl rfl rfl); exact lsq) | refine a_seq ?_ | refine a_region ?_ | refine o_nil ?_ | refine a_block ?_ | refine a_ret ?_ | refine a_exit ?_ | refine a_skip ?_ | refine a_draw mixed ?_ | refine d_nil (by kernel_rfl) ?_ | refine o_yes rfl rfl rfl ?_ | refine o_no rfl rfl rfl (by decide) ?_ | refine o_no' rfl rfl rfl ?_ | refine a_condT rfl ?_ | refine a_condF rfl ?_ | refine d_no rfl rfl rfl (by decide) ?_ | refine d_no' rfl rfl rfl ?_ | (refine wq2 (fun hb => ?_) (fun hb => ?_) <;> (simp only [hb]; try simp only [hbs, ne_eq] at hb; try (exfalso; first | omega | exact hb trivial))) | fail)
      refine rq rfl ?_
      exact fnq
  · refine ⟨(q0 : Int), ?_, ?_⟩
    · have : (es.all fun e => tmR e.1) = false := by
        rw [List.all_eq_false]
        exact ⟨es[q0], List.getElem_mem hq0, by simp [h2]⟩
      rw [this]; simp
    refine PC.mk (ac_body tab_ok Tryz.func181 rfl (by kernel_rfl) rfl ?_); intro w0 M μ0; simp only [Tryz.ntmps181, List.length_cons, List.length_nil, Nat.reduceAdd, Nat.reduceSub, numb]
    repeat' (first | ((first | apply o_do | apply d_do | apply d_yes rfl rfl rfl); exact lsq) | refine a_seq ?_ | refine a_region ?_ | refine o_nil ?_ | refine a_block ?_ | refine a_ret ?_ | refine a_exit ?_ | refine a_skip ?_ | refine a_draw mixed ?_ | refine d_nil (by kernel_rfl) ?_ | refine o_yes rfl rfl rfl ?_ | refine o_no rfl rfl rfl (by decide) ?_ | refine o_no' rfl rfl rfl ?_ | refine a_condT rfl ?_ | refine a_condF rfl ?_ | refine d_no rfl rfl rfl (by decide) ?_ | refine d_no' rfl rfl rfl ?_ | (refine wq2 (fun hb => ?_) (fun hb => ?_) <;> (simp only [hb]; try simp only [hbs, ne_eq] at hb; try (exfalso; first | omega | exact hb trivial))) | fail)
    refine a_loop (X := {q : Nat // q ≤ q0}) (fun x => ⟨[(0, .sl 2 (es.map inAvM)), (1, .clo (.func 141) [] []), (7, .v (.int .i64 es.length)), (8, .v (.int .i64 x.1))], []⟩) (fun x => es.length - x.1) ⟨0, Nat.zero_le _⟩ ?_ ?_
    · exact wkS
    rintro ⟨q, hq⟩
    dsimp only
    have hlt : q < es.length := by omega
    have hel : (es.map inAvM)[q]? = some (inAvM es[q]) := by simp [hlt]
    have hbd := m_Right1 es[q]
    rcases Nat.lt_or_eq_of_le hq with h | h
    · have hm : es[q] ∈ es.take q0 := by
        rw [List.mem_take_iff_getElem]
        exact ⟨q, by omega, rfl⟩
      rw [show tmR es[q].1 = true from List.all_eq_true.1 h1 _ hm] at hbd
      generalize es[q] = x at *
      repeat' (first | ((first | apply o_do | apply d_do | apply d_yes rfl rfl rfl); first | exact lsc (hbd) | exact lsq) | refine a_seq ?_ | refine a_region ?_ | refine o_nil ?_ | refine a_block ?_ | refine a_ret ?_ | refine a_exit ?_ | refine a_skip ?_ | refine a_draw mixed ?_ | refine d_nil (by kernel_rfl) ?_ | refine o_yes rfl rfl rfl ?_ | refine o_no rfl rfl rfl (by decide) ?_ | refine o_no' rfl rfl rfl ?_ | refine a_condT rfl ?_ | refine a_condF rfl ?_ | refine d_no rfl rfl rfl (by decide) ?_ | refine d_no' rfl rfl rfl ?_ | (refine wq2 (fun hb => ?_) (fun hb => ?_) <;> (simp only [hb]; try simp only [hbs, ne_eq] at hb; try (exfalso; first | omega | exact hb trivial))) | fail)
      refine ⟨⟨q + 1, by omega⟩, by dsimp only; omega, ?_⟩
      exact wkS
    · subst h
      rw [show tmR es[q].1 = false from h2] at hbd
      generalize es[q] = x at *
      repeat' (first | ((first | apply o_do | apply d_do | apply d_yes rfl rfl rfl); first | exact lsc (hbd) | exact lsq) | refine a_seq ?_ | refine a_region ?_ | refine o_nil ?_ | refine a_block ?_ | refine a_ret ?_ | refine a_exit ?_ | refine a_skip ?_ | refine a_draw mixed ?_ | refine d_nil (by kernel_rfl) ?_ | refine o_yes rfl rfl rfl ?_ | refine o_no rfl rfl rfl (by decide) ?_ | refine o_no' rfl rfl rfl ?_ | refine a_condT rfl ?_ | refine a_condF rfl ?_ | refine d_no rfl rfl rfl (by decide) ?_ | refine d_no' rfl rfl rfl ?_ | (refine wq2 (fun hb => ?_) (fun hb => ?_) <;> (simp only [hb]; try simp only [hbs, ne_eq] at hb; try (exfalso; first | omega | exact hb trivial))) | fail)
      refine rq rfl ?_
      exact fnq
theorem m_ConI (es : List (Int × Bool)) (hx : es.length ≤ 9223372036854775807) : PC Tryz.prog 140 [.sl 2 (es.map inAvM), .clo (.func 141) [] []] (.v (.bool (!es.all fun e => tmR e.1))) := by
  obtain ⟨i, h1, h2⟩ := m_IdxI es hx
  rw [← h1]
  refine PC.mk (ac_body tab_ok Tryz.func140 rfl (by kernel_rfl) rfl ?_); intro w0 M μ0; simp only [Tryz.ntmps140, List.length_cons, List.length_nil, Nat.reduceAdd, Nat.reduceSub, numb]
  repeat' (first | ((first | apply o_do | apply d_do | apply d_yes rfl rfl rfl); first | exact lsc (h2) | exact lsq) | refine a_seq ?_ | refine a_region ?_ | refine o_nil ?_ | refine a_block ?_ | refine a_ret ?_ | refine a_exit ?_ | refine a_skip ?_ | refine a_draw mixed ?_ | refine d_nil (by kernel_rfl) ?_ | refine o_yes rfl rfl rfl ?_ | refine o_no rfl rfl rfl (by decide) ?_ | refine o_no' rfl rfl rfl ?_ | refine a_condT rfl ?_ | refine a_condF rfl ?_ | refine d_no rfl rfl rfl (by decide) ?_ | refine d_no' rfl rfl rfl ?_ | (refine wq2 (fun hb => ?_) (fun hb => ?_) <;> (simp only [hb]; try simp only [hbs, ne_eq] at hb; try (exfalso; first | omega | exact hb trivial))) | fail)
  all_goals refine rq rfl ?_
  all_goals exact fnq
theorem mkR_pre {ins : List (Int × Bool)} {hs : List (Int × Int)} {out : Int} (h : ¬ (1 ≤ ins.length ∧ ins.length ≤ 8 ∧ hs.length ≤ 32 ∧ tmR out = true)) : mkR ⟨ins, hs, out⟩ = false := by
  cases hm : mkR ⟨ins, hs, out⟩
  · rfl
  · simp only [mkR, Bool.and_eq_true, decide_eq_true_eq] at hm
    exact absurd ⟨hm.1, hm.2.1, hm.2.2.1, hm.2.2.2.1⟩ h
set_option maxHeartbeats 2000000 in
theorem m_Right (m : Mk) (hi : m.ins.length ≤ 9223372036854775807) (hh : m.hs.length ≤ 9223372036854775807) : PC Tryz.prog 93 [.agg m.av] (.v (.bool (mkR m))) := by
  obtain ⟨ins, hs, out⟩ := m
  dsimp only at hi hh
  have hcon := m_ConI ins hi
  have hto := m_time out
  have hn1 : (ins.map inAvM).length = ins.length := List.length_map _
  have hn2 : (hs.map hoAv).length = hs.length := List.length_map _
  simp only [Mk.av]
  by_cases hpre : 1 ≤ ins.length ∧ ins.length ≤ 8 ∧ hs.length ≤ 32 ∧ tmR out = true
  · obtain ⟨a1, a2, a3, a4⟩ := hpre
    rw [a4] at hto
    refine PC.mk (ac_body tab_ok Tryz.func93 rfl (by kernel_rfl) rfl ?_); intro w0 M μ0; simp only [Tryz.ntmps93, List.length_cons, List.length_nil, Nat.reduceAdd, Nat.reduceSub, numb]
    repeat' (first | ((first | apply o_do | apply d_do | apply d_yes rfl rfl rfl); first | exact lsc (hto) | exact lsq) | refine a_seq ?_ | refine a_region ?_ | refine o_nil ?_ | refine a_block ?_ | refine a_ret ?_ | refine a_exit ?_ | refine a_skip ?_ | refine a_draw mixed ?_ | refine d_nil (by kernel_rfl) ?_ | refine o_yes rfl rfl rfl ?_ | refine o_no rfl rfl rfl (by decide) ?_ | refine o_no' rfl rfl rfl ?_ | refine a_condT rfl ?_ | refine a_condF rfl ?_ | refine d_no rfl rfl rfl (by decide) ?_ | refine d_no' rfl rfl rfl ?_ | (refine wq2 (fun hb => ?_) (fun hb => ?_) <;> (simp only [hb]; try simp only [hbs, ne_eq] at hb; try (exfalso; first | omega | exact hb trivial))) | fail)
    refine a_loop (X := {q : Nat // q ≤ hs.length ∧ (List.range q).all (hoG hs) = true}) (fun x => ⟨[(1, .ref 0 0), (28, .sl 2 (hs.map hoAv)), (29, .v (.int .i64 hs.length)), (30, .v (.int .i64 x.1))], [(0, .box 36 [.sl 2 (ins.map inAvM), .sl 2 (hs.map hoAv), .v (.int .i64 out)])]⟩) (fun x => hs.length - x.1) ⟨0, Nat.zero_le _, rfl⟩ ?_ ?_
    · exact wkS
    rintro ⟨q, hq, hok⟩
    dsimp only
    by_cases hlt : q < hs.length
    · have hel : (hs.map hoAv)[q]? = some (hoAv hs[q]) := by simp [hlt]
      have hbad : hoG hs q = false → mkR ⟨ins, hs, out⟩ = false := fun h => by simp [mkR, rall_fail hlt h]
      have hgo : hoG hs q = true → (List.range (q + 1)).all (hoG hs) = true := fun h => by rw [rall_snoc, hok, h]; rfl
      have htm := m_time hs[q].2
      rcases Nat.eq_zero_or_pos q with rfl | hq0
      · have hG : hoG hs 0 = (decide (0 ≤ hs[0].1) && tmR hs[0].2) := by simp only [hoG, getD_at hlt]; simp
        generalize hs[0] = x at *
        obtain ⟨no, at'⟩ := x
        dsimp only at *
        rcases Bool.eq_false_or_eq_true (hoG hs 0) with hg0 | hg0 <;> cases htR : tmR at'
        all_goals
          rw [htR] at htm hG
          repeat' (first | ((first | apply o_do | apply d_do | apply d_yes rfl rfl rfl); first | exact ls_indexAddr_sl tab_ok rfl rfl rfl rfl (by assumption) rfl | exact lsc (htm) | exact lsq) | refine a_seq ?_ | refine a_region ?_ | refine o_nil ?_ | refine a_block ?_ | refine a_ret ?_ | refine a_exit ?_ | refine a_skip ?_ | refine a_draw mixed ?_ | refine d_nil (by kernel_rfl) ?_ | refine o_yes rfl rfl rfl ?_ | refine o_no rfl rfl rfl (by decide) ?_ | refine o_no' rfl rfl rfl ?_ | refine a_condT rfl ?_ | refine a_condF rfl ?_ | refine d_no rfl rfl rfl (by decide) ?_ | refine d_no' rfl rfl rfl ?_ | (refine wq2 (fun hb => ?_) (fun hb => ?_) <;> (simp only [hb]; try simp only [hbs, ne_eq] at hb; try (exfalso; first | omega | exact hb trivial))) | fail)
          all_goals first
            | (exfalso; rw [hG] at hg0; simp [*] at hg0; done)
            | (exfalso; rw [hG] at hg0; simp [*] at hg0; omega)
            | (refine rq rfl ?_; ((first | refine FinA.tup ?_ | refine FinA.one ?_); repeat' (first | exact FinBs.nil | exact FinCs.nil | refine FinBs.cons ?_ ?_ | refine FinCs.cons ?_ ?_ | refine FinB.cell (FinC.v ?_) | refine FinB.cell (FinC.own rfl rfl rfl ?_) | exact FinB.cell FinC.nil | refine FinB.cell (FinC.sl ?_) | exact FinB.agg' rfl rfl | exact FinB.cell (FinC.same rfl) | refine FinB.agg ?_ | refine FinC.v ?_ | refine FinC.own rfl rfl rfl ?_ | exact FinC.nil | refine FinC.sl ?_ | exact FinC.same rfl); all_goals try rfl); rw [hbad hg0]; done)
            | (refine ⟨⟨0 + 1, by omega, hgo hg0⟩, by dsimp only; omega, ?_⟩; exact wkS; done)
      · obtain ⟨j, rfl⟩ : ∃ j, q = j + 1 := ⟨q - 1, by omega⟩
        have hj : ((j + 1 : Nat) : Int) - 1 = (j : Int) := by omega
        have hlj : j < hs.length := by omega
        have hel2 : (hs.map hoAv)[j]? = some (hoAv hs[j]) := by simp [hlj]
        have hG : hoG hs (j + 1) = (decide (0 ≤ hs[j + 1].1) && (tmR hs[j + 1].2 && decide (hs[j].1 < hs[j + 1].1))) := by simp [hoG, hlt, hlj]
        generalize hs[j + 1] = x at *
        generalize hs[j] = y at *
        obtain ⟨no, at'⟩ := x
        obtain ⟨no', at''⟩ := y
        dsimp only at *
        rcases Bool.eq_false_or_eq_true (hoG hs (j + 1)) with hg0 | hg0 <;> cases htR : tmR at'
        all_goals
          rw [htR] at htm hG
          repeat' (first | ((first | apply o_do | apply d_do | apply d_yes rfl rfl rfl); first | exact ls_indexAddr_sl tab_ok rfl rfl rfl rfl (by assumption) rfl | exact ls_indexAddr_sl tab_ok rfl rfl rfl hj hel2 rfl | exact lsc (htm) | exact lsq) | refine a_seq ?_ | refine a_region ?_ | refine o_nil ?_ | refine a_block ?_ | refine a_ret ?_ | refine a_exit ?_ | refine a_skip ?_ | refine a_draw mixed ?_ | refine d_nil (by kernel_rfl) ?_ | refine o_yes rfl rfl rfl ?_ | refine o_no rfl rfl rfl (by decide) ?_ | refine o_no' rfl rfl rfl ?_ | refine a_condT rfl ?_ | refine a_condF rfl ?_ | refine d_no rfl rfl rfl (by decide) ?_ | refine d_no' rfl rfl rfl ?_ | (refine wq2 (fun hb => ?_) (fun hb => ?_) <;> (simp only [hb]; try simp only [hbs, ne_eq] at hb; try (exfalso; first | omega | exact hb trivial))) | fail)
          all_goals first
            | (exfalso; rw [hG] at hg0; simp [*] at hg0; done)
            | (exfalso; rw [hG] at hg0; simp [*] at hg0; omega)
            | (refine rq rfl ?_; ((first | refine FinA.tup ?_ | refine FinA.one ?_); repeat' (first | exact FinBs.nil | exact FinCs.nil | refine FinBs.cons ?_ ?_ | refine FinCs.cons ?_ ?_ | refine FinB.cell (FinC.v ?_) | refine FinB.cell (FinC.own rfl rfl rfl ?_) | exact FinB.cell FinC.nil | refine FinB.cell (FinC.sl ?_) | exact FinB.agg' rfl rfl | exact FinB.cell (FinC.same rfl) | refine FinB.agg ?_ | refine FinC.v ?_ | refine FinC.own rfl rfl rfl ?_ | exact FinC.nil | refine FinC.sl ?_ | exact FinC.same rfl); all_goals try rfl); rw [hbad hg0]; done)
            | (refine ⟨⟨j + 1 + 1, by omega, hgo hg0⟩, by dsimp only; omega, ?_⟩; exact wkS; done)
    · obtain rfl : q = hs.length := by omega
      have hend : mkR ⟨ins, hs, out⟩ = ins.all fun x => tmR x.1 := by simp [mkR, *]
      rw [hend]
      cases hall : ins.all fun x => tmR x.1
      all_goals
        rw [hall] at hcon
        repeat' (first | ((first | apply o_do | apply d_do | apply d_yes rfl rfl rfl); first | exact lsc (hcon) | exact lsq) | refine a_seq ?_ | refine a_region ?_ | refine o_nil ?_ | refine a_block ?_ | refine a_ret ?_ | refine a_exit ?_ | refine a_skip ?_ | refine a_draw mixed ?_ | refine d_nil (by kernel_rfl) ?_ | refine o_yes rfl rfl rfl ?_ | refine o_no rfl rfl rfl (by decide) ?_ | refine o_no' rfl rfl rfl ?_ | refine a_condT rfl ?_ | refine a_condF rfl ?_ | refine d_no rfl rfl rfl (by decide) ?_ | refine d_no' rfl rfl rfl ?_ | (refine wq2 (fun hb => ?_) (fun hb => ?_) <;> (simp only [hb]; try simp only [hbs, ne_eq] at hb; try (exfalso; first | omega | exact hb trivial))) | fail)
        refine rq rfl ?_
        exact fnq
  · rw [mkR_pre hpre]
    cases hto2 : tmR out
    all_goals
      rw [hto2] at hto
      refine PC.mk (ac_body tab_ok Tryz.func93 rfl (by kernel_rfl) rfl ?_); intro w0 M μ0; simp only [Tryz.ntmps93, List.length_cons, List.length_nil, Nat.reduceAdd, Nat.reduceSub, numb]
      repeat' (first | ((first | apply o_do | apply d_do | apply d_yes rfl rfl rfl); first | exact lsc (hto) | exact lsq) | refine a_seq ?_ | refine a_region ?_ | refine o_nil ?_ | refine a_block ?_ | refine a_ret ?_ | refine a_exit ?_ | refine a_skip ?_ | refine a_draw mixed ?_ | refine d_nil (by kernel_rfl) ?_ | refine o_yes rfl rfl rfl ?_ | refine o_no rfl rfl rfl (by decide) ?_ | refine o_no' rfl rfl rfl ?_ | refine a_condT rfl ?_ | refine a_condF rfl ?_ | refine d_no rfl rfl rfl (by decide) ?_ | refine d_no' rfl rfl rfl ?_ | (refine wq2 (fun hb => ?_) (fun hb => ?_) <;> (simp only [hb]; try simp only [hbs, ne_eq] at hb; try (exfalso; first | omega | exact hb trivial))) | fail)
      all_goals first
        | (exfalso; apply hpre; refine ⟨?_, ?_, ?_, hto2⟩ <;> omega)
        | (refine rq rfl ?_; (exact fnq); done)
end Go.Proofs.YtagfjnjpgphnjaaGreat
namespace Go.Proofs.YtagfjnjpgphnjaaGreat
open Go.RowKit
set_option linter.unusedSimpArgs false
set_option linter.unusedVariables false
set_option maxHeartbeats 2000000 in
theorem m_rRight (m : Mk) (hi : m.ins.length ≤ 9223372036854775807) (hh : m.hs.length ≤ 9223372036854775807) : PC Tryz.prog 109 [.agg m.av] (.v (.bool (mkR m))) := by
  obtain ⟨ins, hs, out⟩ := m
  dsimp only at hi hh
  have hto := m_rtime out
  have hn1 : (ins.map inAvM).length = ins.length := List.length_map _
  have hn2 : (hs.map hoAv).length = hs.length := List.length_map _
  simp only [Mk.av]
  by_cases hpre : 1 ≤ ins.length ∧ ins.length ≤ 8 ∧ hs.length ≤ 32 ∧ tmR out = true
  · obtain ⟨a1, a2, a3, a4⟩ := hpre
    rw [a4] at hto
    refine PC.mk (ac_body tab_ok Tryz.func109 rfl (by kernel_rfl) rfl ?_); intro w0 M μ0; simp only [Tryz.ntmps109, List.length_cons, List.length_nil, Nat.reduceAdd, Nat.reduceSub, numb]
    repeat' (first | ((first | apply o_do | apply d_do | apply d_yes rfl rfl rfl); first | exact lsc (hto) | exact lsq) | refine a_seq ?_ | refine a_region ?_ | refine o_nil ?_ | refine a_block ?_ | refine a_ret ?_ | refine a_exit ?_ | refine a_skip ?_ | refine a_draw mixed ?_ | refine d_nil (by kernel_rfl) ?_ | refine o_yes rfl rfl rfl ?_ | refine o_no rfl rfl rfl (by decide) ?_ | refine o_no' rfl rfl rfl ?_ | refine a_condT rfl ?_ | refine a_condF rfl ?_ | refine d_no rfl rfl rfl (by decide) ?_ | refine d_no' rfl rfl rfl ?_ | (refine wq2 (fun hb => ?_) (fun hb => ?_) <;> (simp only [hb]; try simp only [hbs, ne_eq] at hb; try (exfalso; first | omega | exact hb trivial))) | fail)
    refine a_loop (X := {q : Nat // q ≤ ins.length ∧ (ins.take q).all (fun x => tmR x.1) = true}) (fun x => ⟨[(1, .ref 0 0), (30, .sl 2 (ins.map inAvM)), (31, .v (.int .i64 ins.length)), (32, .v (.int .i64 x.1))], [(0, .box 36 [.sl 2 (ins.map inAvM), .sl 2 (hs.map hoAv), .v (.int .i64 out)])]⟩) (fun x => ins.length - x.1) ⟨0, Nat.zero_le _, rfl⟩ ?_ ?_
    · exact wkS
    rintro ⟨q, hq, hok⟩
    dsimp only
    by_cases hlt : q < ins.length
    · have hel : (ins.map inAvM)[q]? = some (inAvM ins[q]) := by simp [hlt]
      have hsn := take_snoc ins q hlt
      have htm := m_rtime ins[q].1
      have hbad : tmR ins[q].1 = false → mkR ⟨ins, hs, out⟩ = false := fun h => by
        have : (ins.all fun x => tmR x.1) = false := by
          rw [List.all_eq_false]
          exact ⟨ins[q], List.getElem_mem hlt, by simp [h]⟩
        simp [mkR, this]
      have hgo : tmR ins[q].1 = true → (ins.take (q + 1)).all (fun x => tmR x.1) = true := fun h => by rw [hsn, List.all_append, hok]; simp [h]
      generalize ins[q] = x at *
      obtain ⟨a, b⟩ := x
      dsimp only at *
      cases htR : tmR a
      · rw [htR] at htm
        rw [hbad htR]
        repeat' (first | ((first | apply o_do | apply d_do | apply d_yes rfl rfl rfl); first | exact ls_indexAddr_sl tab_ok rfl rfl rfl rfl (by assumption) rfl | exact lsc (htm) | exact lsq) | refine a_seq ?_ | refine a_region ?_ | refine o_nil ?_ | refine a_block ?_ | refine a_ret ?_ | refine a_exit ?_ | refine a_skip ?_ | refine a_draw mixed ?_ | refine d_nil (by kernel_rfl) ?_ | refine o_yes rfl rfl rfl ?_ | refine o_no rfl rfl rfl (by decide) ?_ | refine o_no' rfl rfl rfl ?_ | refine a_condT rfl ?_ | refine a_condF rfl ?_ | refine d_no rfl rfl rfl (by decide) ?_ | refine d_no' rfl rfl rfl ?_ | (refine wq2 (fun hb => ?_) (fun hb => ?_) <;> (simp only [hb]; try simp only [hbs, ne_eq] at hb; try (exfalso; first | omega | exact hb trivial))) | fail)
        refine rq rfl ?_
        exact fnq
      · rw [htR] at htm
        repeat' (first | ((first | apply o_do | apply d_do | apply d_yes rfl rfl rfl); first | exact ls_indexAddr_sl tab_ok rfl rfl rfl rfl (by assumption) rfl | exact lsc (htm) | exact lsq) | refine a_seq ?_ | refine a_region ?_ | refine o_nil ?_ | refine a_block ?_ | refine a_ret ?_ | refine a_exit ?_ | refine a_skip ?_ | refine a_draw mixed ?_ | refine d_nil (by kernel_rfl) ?_ | refine o_yes rfl rfl rfl ?_ | refine o_no rfl rfl rfl (by decide) ?_ | refine o_no' rfl rfl rfl ?_ | refine a_condT rfl ?_ | refine a_condF rfl ?_ | refine d_no rfl rfl rfl (by decide) ?_ | refine d_no' rfl rfl rfl ?_ | (refine wq2 (fun hb => ?_) (fun hb => ?_) <;> (simp only [hb]; try simp only [hbs, ne_eq] at hb; try (exfalso; first | omega | exact hb trivial))) | fail)
        refine ⟨⟨q + 1, by omega, hgo htR⟩, by dsimp only; omega, ?_⟩
        exact wkS
    · obtain rfl : q = ins.length := by omega
      rw [List.take_length] at hok
      have hai := hok
      clear hok
      repeat' (first | ((first | apply o_do | apply d_do | apply d_yes rfl rfl rfl); exact lsq) | refine a_seq ?_ | refine a_region ?_ | refine o_nil ?_ | refine a_block ?_ | refine a_ret ?_ | refine a_exit ?_ | refine a_skip ?_ | refine a_draw mixed ?_ | refine d_nil (by kernel_rfl) ?_ | refine o_yes rfl rfl rfl ?_ | refine o_no rfl rfl rfl (by decide) ?_ | refine o_no' rfl rfl rfl ?_ | refine a_condT rfl ?_ | refine a_condF rfl ?_ | refine d_no rfl rfl rfl (by decide) ?_ | refine d_no' rfl rfl rfl ?_ | (refine wq2 (fun hb => ?_) (fun hb => ?_) <;> (simp only [hb]; try simp only [hbs, ne_eq] at hb; try (exfalso; first | omega | exact hb trivial))) | fail)
      refine a_loop (X := {q : Nat // q ≤ hs.length ∧ (List.range q).all (hoG hs) = true}) (fun x => ⟨[(1, .ref 0 0), (42, .sl 2 (hs.map hoAv)), (43, .v (.int .i64 hs.length)), (44, .v (.int .i64 x.1))], [(0, .box 36 [.sl 2 (ins.map inAvM), .sl 2 (hs.map hoAv), .v (.int .i64 out)])]⟩) (fun x => hs.length - x.1) ⟨0, Nat.zero_le _, rfl⟩ ?_ ?_
      · exact wkS
      rintro ⟨q, hq, hok⟩
      dsimp only
      by_cases hlt : q < hs.length
      · have hel : (hs.map hoAv)[q]? = some (hoAv hs[q]) := by simp [hlt]
        have hbad : hoG hs q = false → mkR ⟨ins, hs, out⟩ = false := fun h => by simp [mkR, rall_fail hlt h]
        have hgo : hoG hs q = true → (List.range (q + 1)).all (hoG hs) = true := fun h => by rw [rall_snoc, hok, h]; rfl
        have htm := m_rtime hs[q].2
        rcases Nat.eq_zero_or_pos q with rfl | hq0
        · have hG : hoG hs 0 = (decide (0 ≤ hs[0].1) && tmR hs[0].2) := by simp only [hoG, getD_at hlt]; simp
          generalize hs[0] = x at *
          obtain ⟨no, at'⟩ := x
          dsimp only at *
          rcases Bool.eq_false_or_eq_true (hoG hs 0) with hg0 | hg0 <;> cases htR : tmR at'
          all_goals
            rw [htR] at htm hG
            repeat' (first | ((first | apply o_do | apply d_do | apply d_yes rfl rfl rfl); first | exact ls_indexAddr_sl tab_ok rfl rfl rfl rfl (by assumption) rfl | exact lsc (htm) | exact lsq) | refine a_seq ?_ | refine a_region ?_ | refine o_nil ?_ | refine a_block ?_ | refine a_ret ?_ | refine a_exit ?_ | refine a_skip ?_ | refine a_draw mixed ?_ | refine d_nil (by kernel_rfl) ?_ | refine o_yes rfl rfl rfl ?_ | refine o_no rfl rfl rfl (by decide) ?_ | refine o_no' rfl rfl rfl ?_ | refine a_condT rfl ?_ | refine a_condF rfl ?_ | refine d_no rfl rfl rfl (by decide) ?_ | refine d_no' rfl rfl rfl ?_ | (refine wq2 (fun hb => ?_) (fun hb => ?_) <;> (simp only [hb]; try simp only [hbs, ne_eq] at hb; try (exfalso; first | omega | exact hb trivial))) | fail)
            all_goals first
              | (exfalso; rw [hG] at hg0; simp [*] at hg0; done)
              | (exfalso; rw [hG] at hg0; simp [*] at hg0; omega)
              | (refine rq rfl ?_; ((first | refine FinA.tup ?_ | refine FinA.one ?_); repeat' (first | exact FinBs.nil | exact FinCs.nil | refine FinBs.cons ?_ ?_ | refine FinCs.cons ?_ ?_ | refine FinB.cell (FinC.v ?_) | refine FinB.cell (FinC.own rfl rfl rfl ?_) | exact FinB.cell FinC.nil | refine FinB.cell (FinC.sl ?_) | exact FinB.agg' rfl rfl | exact FinB.cell (FinC.same rfl) | refine FinB.agg ?_ | refine FinC.v ?_ | refine FinC.own rfl rfl rfl ?_ | exact FinC.nil | refine FinC.sl ?_ | exact FinC.same rfl); all_goals try rfl); rw [hbad hg0]; done)
              | (refine ⟨⟨0 + 1, by omega, hgo hg0⟩, by dsimp only; omega, ?_⟩; exact wkS; done)
        · obtain ⟨j, rfl⟩ : ∃ j, q = j + 1 := ⟨q - 1, by omega⟩
          have hj : ((j + 1 : Nat) : Int) - 1 = (j : Int) := by omega
          have hlj : j < hs.length := by omega
          have hel2 : (hs.map hoAv)[j]? = some (hoAv hs[j]) := by simp [hlj]
          have hG : hoG hs (j + 1) = (decide (0 ≤ hs[j + 1].1) && (tmR hs[j + 1].2 && decide (hs[j].1 < hs[j + 1].1))) := by simp [hoG, hlt, hlj]
          generalize hs[j + 1] = x at *
          generalize hs[j] = y at *
          obtain ⟨no, at'⟩ := x
          obtain ⟨no', at''⟩ := y
          dsimp only at *
          rcases Bool.eq_false_or_eq_true (hoG hs (j + 1)) with hg0 | hg0 <;> cases htR : tmR at'
          all_goals
            rw [htR] at htm hG
            repeat' (first | ((first | apply o_do | apply d_do | apply d_yes rfl rfl rfl); first | exact ls_indexAddr_sl tab_ok rfl rfl rfl rfl (by assumption) rfl | exact ls_indexAddr_sl tab_ok rfl rfl rfl hj hel2 rfl | exact lsc (htm) | exact lsq) | refine a_seq ?_ | refine a_region ?_ | refine o_nil ?_ | refine a_block ?_ | refine a_ret ?_ | refine a_exit ?_ | refine a_skip ?_ | refine a_draw mixed ?_ | refine d_nil (by kernel_rfl) ?_ | refine o_yes rfl rfl rfl ?_ | refine o_no rfl rfl rfl (by decide) ?_ | refine o_no' rfl rfl rfl ?_ | refine a_condT rfl ?_ | refine a_condF rfl ?_ | refine d_no rfl rfl rfl (by decide) ?_ | refine d_no' rfl rfl rfl ?_ | (refine wq2 (fun hb => ?_) (fun hb => ?_) <;> (simp only [hb]; try simp only [hbs, ne_eq] at hb; try (exfalso; first | omega | exact hb trivial))) | fail)
            all_goals first
              | (exfalso; rw [hG] at hg0; simp [*] at hg0; done)
              | (exfalso; rw [hG] at hg0; simp [*] at hg0; omega)
              | (refine rq rfl ?_; ((first | refine FinA.tup ?_ | refine FinA.one ?_); repeat' (first | exact FinBs.nil | exact FinCs.nil | refine FinBs.cons ?_ ?_ | refine FinCs.cons ?_ ?_ | refine FinB.cell (FinC.v ?_) | refine FinB.cell (FinC.own rfl rfl rfl ?_) | exact FinB.cell FinC.nil | refine FinB.cell (FinC.sl ?_) | exact FinB.agg' rfl rfl | exact FinB.cell (FinC.same rfl) | refine FinB.agg ?_ | refine FinC.v ?_ | refine FinC.own rfl rfl rfl ?_ | exact FinC.nil | refine FinC.sl ?_ | exact FinC.same rfl); all_goals try rfl); rw [hbad hg0]; done)
              | (refine ⟨⟨j + 1 + 1, by omega, hgo hg0⟩, by dsimp only; omega, ?_⟩; exact wkS; done)
      · obtain rfl : q = hs.length := by omega
        have hend : mkR ⟨ins, hs, out⟩ = true := by simp [mkR, *]
        rw [hend]
        repeat' (first | ((first | apply o_do | apply d_do | apply d_yes rfl rfl rfl); exact lsq) | refine a_seq ?_ | refine a_region ?_ | refine o_nil ?_ | refine a_block ?_ | refine a_ret ?_ | refine a_exit ?_ | refine a_skip ?_ | refine a_draw mixed ?_ | refine d_nil (by kernel_rfl) ?_ | refine o_yes rfl rfl rfl ?_ | refine o_no rfl rfl rfl (by decide) ?_ | refine o_no' rfl rfl rfl ?_ | refine a_condT rfl ?_ | refine a_condF rfl ?_ | refine d_no rfl rfl rfl (by decide) ?_ | refine d_no' rfl rfl rfl ?_ | (refine wq2 (fun hb => ?_) (fun hb => ?_) <;> (simp only [hb]; try simp only [hbs, ne_eq] at hb; try (exfalso; first | omega | exact hb trivial))) | fail)
        refine rq rfl ?_
        exact fnq
  · rw [mkR_pre hpre]
    cases hto2 : tmR out
    all_goals
      rw [hto2] at hto
      refine PC.mk (ac_body tab_ok Tryz.func109 rfl (by kernel_rfl) rfl ?_); intro w0 M μ0; simp only [Tryz.ntmps109, List.length_cons, List.length_nil, Nat.reduceAdd, Nat.reduceSub, numb]
      repeat' (first | ((first | apply o_do | apply d_do | apply d_yes rfl rfl rfl); first | exact lsc (hto) | exact lsq) | refine a_seq ?_ | refine a_region ?_ | refine o_nil ?_ | refine a_block ?_ | refine a_ret ?_ | refine a_exit ?_ | refine a_skip ?_ | refine a_draw mixed ?_ | refine d_nil (by kernel_rfl) ?_ | refine o_yes rfl rfl rfl ?_ | refine o_no rfl rfl rfl (by decide) ?_ | refine o_no' rfl rfl rfl ?_ | refine a_condT rfl ?_ | refine a_condF rfl ?_ | refine d_no rfl rfl rfl (by decide) ?_ | refine d_no' rfl rfl rfl ?_ | (refine wq2 (fun hb => ?_) (fun hb => ?_) <;> (simp only [hb]; try simp only [hbs, ne_eq] at hb; try (exfalso; first | omega | exact hb trivial))) | fail)
      all_goals first
        | (exfalso; apply hpre; refine ⟨?_, ?_, ?_, hto2⟩ <;> omega)
        | (refine rq rfl ?_; (exact fnq); done)
end Go.Proofs.YtagfjnjpgphnjaaGreat
namespace Go.Proofs.YtagfjnjpgphnjaaGreat
open Go.RowKit
set_option linter.unusedSimpArgs false
set_option linter.unusedVariables false
/-! a flag among flags -/
set_option maxHeartbeats 1000000 in
theorem b_Index (es : List Bool) (v : Bool) (hx : es.length ≤ 9223372036854775807) : ∃ i : Int, (decide (0 ≤ i) = es.any fun e => v == e) ∧ PC Tryz.prog 147 [.sl 1 (es.map boAv), .v (.bool v)] (.v (.int .i64 i)) := by
  rcases fst_all (fun e : Bool => !(v == e)) es with hall | ⟨q0, hq0, h1, h2⟩
  · refine ⟨-1, ?_, ?_⟩
    · have : (es.any fun e => v == e) = false := by
        rw [List.any_eq_false]
        intro x hx
        have := List.all_eq_true.1 hall x hx
        simpa using this
      rw [this]; rfl
    refine PC.mk (ac_body tab_ok Tryz.func147 rfl (by kernel_rfl) rfl ?_); intro w0 M μ0; simp only [Tryz.ntmps147, List.length_cons, List.length_nil, Nat.reduceAdd, Nat.reduceSub, numb]
    repeat' (first | ((first | apply o_do | apply d_do | apply d_yes rfl rfl rfl); exact lsq) | refine a_seq ?_ | refine a_region ?_ | refine o_nil ?_ | refine a_block ?_ | refine a_ret ?_ | refine a_exit ?_ | refine a_skip ?_ | refine a_draw mixed ?_ | refine d_nil (by kernel_rfl) ?_ | refine o_yes rfl rfl rfl ?_ | refine o_no rfl rfl rfl (by decide) ?_ | refine o_no' rfl rfl rfl ?_ | refine a_condT rfl ?_ | refine a_condF rfl ?_ | refine d_no rfl rfl rfl (by decide) ?_ | refine d_no' rfl rfl rfl ?_ | (refine wq2 (fun hb => ?_) (fun hb => ?_) <;> (simp only [hb]; try simp only [hbs, ne_eq] at hb; try (exfalso; first | omega | exact hb trivial))) | fail)
    refine a_loop (X := {q : Nat // q ≤ es.length}) (fun x => ⟨[(0, .sl 1 (es.map boAv)), (1, .v (.bool v)), (7, .v (.int .i64 es.length)), (8, .v (.int .i64 x.1))], []⟩) (fun x => es.length - x.1) ⟨0, Nat.zero_le _⟩ ?_ ?_
    · exact wkS
    rintro ⟨q, hq⟩
    dsimp only
    by_cases hlt : q < es.length
    · have hel : (es.map boAv)[q]? = some (boAv es[q]) := by simp [hlt]
      have hbd := List.all_eq_true.1 hall _ (List.getElem_mem hlt)
      generalize es[q] = x at *
      cases v <;> cases x <;> first | (simp at hbd; done) | skip
      all_goals
        repeat' (first | ((first | apply o_do | apply d_do | apply d_yes rfl rfl rfl); first | exact ls_indexAddr_sl tab_ok rfl rfl rfl rfl (by assumption) rfl | exact lsq) | refine a_seq ?_ | refine a_region ?_ | refine o_nil ?_ | refine a_block ?_ | refine a_ret ?_ | refine a_exit ?_ | refine a_skip ?_ | refine a_draw mixed ?_ | refine d_nil (by kernel_rfl) ?_ | refine o_yes rfl rfl rfl ?_ | refine o_no rfl rfl rfl (by decide) ?_ | refine o_no' rfl rfl rfl ?_ | refine a_condT rfl ?_ | refine a_condF rfl ?_ | refine d_no rfl rfl rfl (by decide) ?_ | refine d_no' rfl rfl rfl ?_ | (refine wq2 (fun hb => ?_) (fun hb => ?_) <;> (simp only [hb]; try simp only [hbs, ne_eq] at hb; try (exfalso; first | omega | exact hb trivial))) | fail)
        refine ⟨⟨q + 1, by omega⟩, by dsimp only; omega, ?_⟩
        exact wkS
    · repeat' (first | ((first | apply o_do | apply d_do | apply d_yes rfl rfl rfl); exact lsq) | refine a_seq ?_ | refine a_region ?_ | refine o_nil ?_ | refine a_block ?_ | refine a_ret ?_ | refine a_exit ?_ | refine a_skip ?_ | refine a_draw mixed ?_ | refine d_nil (by kernel_rfl) ?_ | refine o_yes rfl rfl rfl ?_ | refine o_no rfl rfl rfl (by decide) ?_ | refine o_no' rfl rfl rfl ?_ | refine a_condT rfl ?_ | refine a_condF rfl ?_ | refine d_no rfl rfl rfl (by decide) ?_ | refine d_no' rfl rfl rfl ?_ | (refine wq2 (fun hb => ?_) (fun hb => ?_) <;> (simp only [hb]; try simp only [hbs, ne_eq] at hb; try (exfalso; first | omega | exact hb trivial))) | fail)
      refine rq rfl ?_
      exact fnq
  · refine ⟨(q0 : Int), ?_, ?_⟩
    · have : (es.any fun e => v == e) = true := by
        rw [List.any_eq_true]
        exact ⟨es[q0], List.getElem_mem hq0, by simpa using h2⟩
      rw [this]; simp
    refine PC.mk (ac_body tab_ok Tryz.func147 rfl (by kernel_rfl) rfl ?_); intro w0 M μ0; simp only [Tryz.ntmps147, List.length_cons, List.length_nil, Nat.reduceAdd, Nat.reduceSub, numb]
    repeat' (first | ((first | apply o_do | apply d_do | apply d_yes rfl rfl rfl); exact lsq) | refine a_seq ?_ | refine a_region ?_ | refine o_nil ?_ | refine a_block ?_ | refine a_ret ?_ | refine a_exit ?_ | refine a_skip ?_ | refine a_draw mixed ?_ | refine d_nil (by kernel_rfl) ?_ | refine o_yes rfl rfl rfl ?_ | refine o_no rfl rfl rfl (by decide) ?_ | refine o_no' rfl rfl rfl ?_ | refine a_condT rfl ?_ | refine a_condF rfl ?_ | refine d_no rfl rfl rfl (by decide) ?_ | refine d_no' rfl rfl rfl ?_ | (refine wq2 (fun hb => ?_) (fun hb => ?_) <;> (simp only [hb]; try simp only [hbs, ne_eq] at hb; try (exfalso; first | omega | exact hb trivial))) | fail)
    refine a_loop (X := {q : Nat // q ≤ q0}) (fun x => ⟨[(0, .sl 1 (es.map boAv)), (1, .v (.bool v)), (7, .v (.int .i64 es.length)), (8, .v (.int .i64 x.1))], []⟩) (fun x => es.length - x.1) ⟨0, Nat.zero_le _⟩ ?_ ?_
    · exact wkS
    rintro ⟨q, hq⟩
    dsimp only
    have hlt : q < es.length := by omega
    have hel : (es.map boAv)[q]? = some (boAv es[q]) := by simp [hlt]
    rcases Nat.lt_or_eq_of_le hq with h | h
    · have hm : es[q] ∈ es.take q0 := by
        rw [List.mem_take_iff_getElem]
        exact ⟨q, by omega, rfl⟩
      have hbd := List.all_eq_true.1 h1 _ hm
      generalize es[q] = x at *
      cases v <;> cases x <;> first | (simp at hbd; done) | skip
      all_goals
        repeat' (first | ((first | apply o_do | apply d_do | apply d_yes rfl rfl rfl); first | exact ls_indexAddr_sl tab_ok rfl rfl rfl rfl (by assumption) rfl | exact lsq) | refine a_seq ?_ | refine a_region ?_ | refine o_nil ?_ | refine a_block ?_ | refine a_ret ?_ | refine a_exit ?_ | refine a_skip ?_ | refine a_draw mixed ?_ | refine d_nil (by kernel_rfl) ?_ | refine o_yes rfl rfl rfl ?_ | refine o_no rfl rfl rfl (by decide) ?_ | refine o_no' rfl rfl rfl ?_ | refine a_condT rfl ?_ | refine a_condF rfl ?_ | refine d_no rfl rfl rfl (by decide) ?_ | refine d_no' rfl rfl rfl ?_ | (refine wq2 (fun hb => ?_) (fun hb => ?_) <;> (simp only [hb]; try simp only [hbs, ne_eq] at hb; try (exfalso; first | omega | exact hb trivial))) | fail)
        refine ⟨⟨q + 1, by omega⟩, by dsimp only; omega, ?_⟩
        exact wkS
    · subst h
      generalize es[q] = x at *
      cases v <;> cases x <;> first | (simp at h2; done) | skip
      all_goals
        repeat' (first | ((first | apply o_do | apply d_do | apply d_yes rfl rfl rfl); first | exact ls_indexAddr_sl tab_ok rfl rfl rfl rfl (by assumption) rfl | exact lsq) | refine a_seq ?_ | refine a_region ?_ | refine o_nil ?_ | refine a_block ?_ | refine a_ret ?_ | refine a_exit ?_ | refine a_skip ?_ | refine a_draw mixed ?_ | refine d_nil (by kernel_rfl) ?_ | refine o_yes rfl rfl rfl ?_ | refine o_no rfl rfl rfl (by decide) ?_ | refine o_no' rfl rfl rfl ?_ | refine a_condT rfl ?_ | refine a_condF rfl ?_ | refine d_no rfl rfl rfl (by decide) ?_ | refine d_no' rfl rfl rfl ?_ | (refine wq2 (fun hb => ?_) (fun hb => ?_) <;> (simp only [hb]; try simp only [hbs, ne_eq] at hb; try (exfalso; first | omega | exact hb trivial))) | fail)
        refine rq rfl ?_
        exact fnq
theorem b_Contains (es : List Bool) (v : Bool) (hx : es.length ≤ 9223372036854775807) : PC Tryz.prog 100 [.sl 1 (es.map boAv), .v (.bool v)] (.v (.bool (es.any fun e => v == e))) := by
  obtain ⟨i, h1, h2⟩ := b_Index es v hx
  rw [← h1]
  refine PC.mk (ac_body tab_ok Tryz.func100 rfl (by kernel_rfl) rfl ?_); intro w0 M μ0; simp only [Tryz.ntmps100, List.length_cons, List.length_nil, Nat.reduceAdd, Nat.reduceSub, numb]
  repeat' (first | ((first | apply o_do | apply d_do | apply d_yes rfl rfl rfl); first | exact lsc (h2) | exact lsq) | refine a_seq ?_ | refine a_region ?_ | refine o_nil ?_ | refine a_block ?_ | refine a_ret ?_ | refine a_exit ?_ | refine a_skip ?_ | refine a_draw mixed ?_ | refine d_nil (by kernel_rfl) ?_ | refine o_yes rfl rfl rfl ?_ | refine o_no rfl rfl rfl (by decide) ?_ | refine o_no' rfl rfl rfl ?_ | refine a_condT rfl ?_ | refine a_condF rfl ?_ | refine d_no rfl rfl rfl (by decide) ?_ | refine d_no' rfl rfl rfl ?_ | (refine wq2 (fun hb => ?_) (fun hb => ?_) <;> (simp only [hb]; try simp only [hbs, ne_eq] at hb; try (exfalso; first | omega | exact hb trivial))) | fail)
  all_goals refine rq rfl ?_
  all_goals exact fnq
/-! items among items -/
theorem l_Right1 (x : It) : PC Tryz.prog 143 [.agg x.av] (.v (.bool (!itR x))) := by
  have h := i_Right x
  refine PC.mk (ac_body tab_ok Tryz.func143 rfl (by kernel_rfl) rfl ?_); intro w0 M μ0; simp only [Tryz.ntmps143, List.length_cons, List.length_nil, Nat.reduceAdd, Nat.reduceSub, numb]
  repeat' (first | ((first | apply o_do | apply d_do | apply d_yes rfl rfl rfl); first | exact lsc (h) | exact lsq) | refine a_seq ?_ | refine a_region ?_ | refine o_nil ?_ | refine a_block ?_ | refine a_ret ?_ | refine a_exit ?_ | refine a_skip ?_ | refine a_draw mixed ?_ | refine d_nil (by kernel_rfl) ?_ | refine o_yes rfl rfl rfl ?_ | refine o_no rfl rfl rfl (by decide) ?_ | refine o_no' rfl rfl rfl ?_ | refine a_condT rfl ?_ | refine a_condF rfl ?_ | refine d_no rfl rfl rfl (by decide) ?_ | refine d_no' rfl rfl rfl ?_ | (refine wq2 (fun hb => ?_) (fun hb => ?_) <;> (simp only [hb]; try simp only [hbs, ne_eq] at hb; try (exfalso; first | omega | exact hb trivial))) | fail)
  all_goals refine rq rfl ?_
  all_goals exact fnq
set_option maxHeartbeats 1000000 in
theorem l_IdxT (es : List It) (hx : es.length ≤ 9223372036854775807) : ∃ i : Int, (decide (0 ≤ i) = !es.all itR) ∧ PC Tryz.prog 182 [.sl 11 (es.map It.av), .clo (.func 143) [] []] (.v (.int .i64 i)) := by
  rcases fst_all itR es with hall | ⟨q0, hq0, h1, h2⟩
  · refine ⟨-1, by rw [hall]; rfl, ?_⟩
    refine PC.mk (ac_body tab_ok Tryz.func182 rfl (by kernel_rfl) rfl ?_); intro w0 M μ0; simp only [Tryz.ntmps182, List.length_cons, List.length_nil, Nat.reduceAdd, Nat.reduceSub, numb]
    repeat' (first | ((first | apply o_do | apply d_do | apply d_yes rfl rfl rfl); exact lsq) | refine a_seq ?_ | refine a_region ?_ | refine o_nil ?_ | refine a_block ?_ | refine a_ret ?_ | refine a_exit ?_ | refine a_skip ?_ | refine a_draw mixed ?_ | refine d_nil (by kernel_rfl) ?_ | refine o_yes rfl rfl rfl ?_ | refine o_no rfl rfl rfl (by decide) ?_ | refine o_no' rfl rfl rfl ?_ | refine a_condT rfl ?_ | refine a_condF rfl ?_ | refine d_no rfl rfl rfl (by decide) ?_ | refine d_no' rfl rfl rfl ?_ | (refine wq2 (fun hb => ?_) (fun hb => ?_) <;> (simp only [hb]; try simp only [hbs, ne_eq] at hb; try (exfalso; first | omega | exact hb trivial))) | fail)
    refine a_loop (X := {q : Nat // q ≤ es.length}) (fun x => ⟨[(0, .sl 11 (es.map It.av)), (1, .clo (.func 143) [] []), (7, .v (.int .i64 es.length)), (8, .v (.int .i64 x.1))], []⟩) (fun x => es.length - x.1) ⟨0, Nat.zero_le _⟩ ?_ ?_
    · exact wkS
    rintro ⟨q, hq⟩
    dsimp only
    by_cases hlt : q < es.length
    · have hel : (es.map It.av)[q]? = some (It.av es[q]) := by simp [hlt]
      have hbd := l_Right1 es[q]
      rw [show itR es[q] = true from List.all_eq_true.1 hall _ (List.getElem_mem hlt)] at hbd
      generalize es[q] = x at *
      repeat' (first | ((first | apply o_do | apply d_do | apply d_yes rfl rfl rfl); first | exact lsc (hbd) | exact lsq) | refine a_seq ?_ | refine a_region ?_ | refine o_nil ?_ | refine a_block ?_ | refine a_ret ?_ | refine a_exit ?_ | refine a_skip ?_ | refine a_draw mixed ?_ | refine d_nil (by kernel_rfl) ?_ | refine o_yes rfl rfl rfl ?_ | refine o_no rfl rfl rfl (by decide) ?_ | refine o_no' rfl rfl rfl ?_ | refine a_condT rfl ?_ | refine a_condF rfl ?_ | refine d_no rfl rfl rfl (by decide) ?_ | refine d_no' rfl rfl rfl ?_ | (refine wq2 (fun hb => ?_) (fun hb => ?_) <;> (simp only [hb]; try simp only [hbs, ne_eq] at hb; try (exfalso; first | omega | exact hb trivial))) | fail)
      refine ⟨⟨q + 1, by omega⟩, by dsimp only; omega, ?_⟩
      exact wkS
    · repeat' (first | ((first | apply o_do | apply d_do | apply d_yes rfl rfl rfl); exact lsq) | refine a_seq ?_ | refine a_region ?_ | refine o_nil ?_ | refine a_block ?_ | refine a_ret ?_ | refine a_exit ?_ | refine a_skip ?_ | refine a_draw mixed ?_ | refine d_nil (by kernel_rfl) ?_ | refine o_yes rfl rfl rfl ?_ | refine o_no rfl rfl rfl (by decide) ?_ | refine o_no' rfl rfl rfl ?_ | refine a_condT rfl ?_ | refine a_condF rfl ?_ | refine d_no rfl rfl rfl (by decide) ?_ | refine d_no' rfl rfl rfl ?_ | (refine wq2 (fun hb => ?_) (fun hb => ?_) <;> (simp only [hb]; try simp only [hbs, ne_eq] at hb; try (exfalso; first | omega | exact hb trivial))) | fail)
      refine rq rfl ?_
      exact fnq
  · refine ⟨(q0 : Int), ?_, ?_⟩
    · have : (es.all itR) = false := by
        rw [List.all_eq_false]
        exact ⟨es[q0], List.getElem_mem hq0, by simp [h2]⟩
      rw [this]; simp
    refine PC.mk (ac_body tab_ok Tryz.func182 rfl (by kernel_rfl) rfl ?_); intro w0 M μ0; simp only [Tryz.ntmps182, List.length_cons, List.length_nil, Nat.reduceAdd, Nat.reduceSub, numb]
    repeat' (first | ((first | apply o_do | apply d_do | apply d_yes rfl rfl rfl); exact lsq) | refine a_seq ?_ | refine a_region ?_ | refine o_nil ?_ | refine a_block ?_ | refine a_ret ?_ | refine a_exit ?_ | refine a_skip ?_ | refine a_draw mixed ?_ | refine d_nil (by kernel_rfl) ?_ | refine o_yes rfl rfl rfl ?_ | refine o_no rfl rfl rfl (by decide) ?_ | refine o_no' rfl rfl rfl ?_ | refine a_condT rfl ?_ | refine a_condF rfl ?_ | refine d_no rfl rfl rfl (by decide) ?_ | refine d_no' rfl rfl rfl ?_ | (refine wq2 (fun hb => ?_) (fun hb => ?_) <;> (simp only [hb]; try simp only [hbs, ne_eq] at hb; try (exfalso; first | omega | exact hb trivial))) | fail)
    refine a_loop (X := {q : Nat // q ≤ q0}) (fun x => ⟨[(0, .sl 11 (es.map It.av)), (1, .clo (.func 143) [] []), (7, .v (.int .i64 es.length)), (8, .v (.int .i64 x.1))], []⟩) (fun x => es.length - x.1) ⟨0, Nat.zero_le _⟩ ?_ ?_
    · exact wkS
    rintro ⟨q, hq⟩
    dsimp only
    have hlt : q < es.length := by omega
    have hel : (es.map It.av)[q]? = some (It.av es[q]) := by simp [hlt]
    have hbd := l_Right1 es[q]
    rcases Nat.lt_or_eq_of_le hq with h | h
    · have hm : es[q] ∈ es.take q0 := by
        rw [List.mem_take_iff_getElem]
        exact ⟨q, by omega, rfl⟩
      rw [show itR es[q] = true from List.all_eq_true.1 h1 _ hm] at hbd
      generalize es[q] = x at *
      repeat' (first | ((first | apply o_do | apply d_do | apply d_yes rfl rfl rfl); first | exact lsc (hbd) | exact lsq) | refine a_seq ?_ | refine a_region ?_ | refine o_nil ?_ | refine a_block ?_ | refine a_ret ?_ | refine a_exit ?_ | refine a_skip ?_ | refine a_draw mixed ?_ | refine d_nil (by kernel_rfl) ?_ | refine o_yes rfl rfl rfl ?_ | refine o_no rfl rfl rfl (by decide) ?_ | refine o_no' rfl rfl rfl ?_ | refine a_condT rfl ?_ | refine a_condF rfl ?_ | refine d_no rfl rfl rfl (by decide) ?_ | refine d_no' rfl rfl rfl ?_ | (refine wq2 (fun hb => ?_) (fun hb => ?_) <;> (simp only [hb]; try simp only [hbs, ne_eq] at hb; try (exfalso; first | omega | exact hb trivial))) | fail)
      refine ⟨⟨q + 1, by omega⟩, by dsimp only; omega, ?_⟩
      exact wkS
    · subst h
      rw [show itR es[q] = false from h2] at hbd
      generalize es[q] = x at *
      repeat' (first | ((first | apply o_do | apply d_do | apply d_yes rfl rfl rfl); first | exact lsc (hbd) | exact lsq) | refine a_seq ?_ | refine a_region ?_ | refine o_nil ?_ | refine a_block ?_ | refine a_ret ?_ | refine a_exit ?_ | refine a_skip ?_ | refine a_draw mixed ?_ | refine d_nil (by kernel_rfl) ?_ | refine o_yes rfl rfl rfl ?_ | refine o_no rfl rfl rfl (by decide) ?_ | refine o_no' rfl rfl rfl ?_ | refine a_condT rfl ?_ | refine a_condF rfl ?_ | refine d_no rfl rfl rfl (by decide) ?_ | refine d_no' rfl rfl rfl ?_ | (refine wq2 (fun hb => ?_) (fun hb => ?_) <;> (simp only [hb]; try simp only [hbs, ne_eq] at hb; try (exfalso; first | omega | exact hb trivial))) | fail)
      refine rq rfl ?_
      exact fnq
theorem l_ConT (es : List It) (hx : es.length ≤ 9223372036854775807) : PC Tryz.prog 142 [.sl 11 (es.map It.av), .clo (.func 143) [] []] (.v (.bool (!es.all itR))) := by
  obtain ⟨i, h1, h2⟩ := l_IdxT es hx
  rw [← h1]
  refine PC.mk (ac_body tab_ok Tryz.func142 rfl (by kernel_rfl) rfl ?_); intro w0 M μ0; simp only [Tryz.ntmps142, List.length_cons, List.length_nil, Nat.reduceAdd, Nat.reduceSub, numb]
  repeat' (first | ((first | apply o_do | apply d_do | apply d_yes rfl rfl rfl); first | exact lsc (h2) | exact lsq) | refine a_seq ?_ | refine a_region ?_ | refine o_nil ?_ | refine a_block ?_ | refine a_ret ?_ | refine a_exit ?_ | refine a_skip ?_ | refine a_draw mixed ?_ | refine d_nil (by kernel_rfl) ?_ | refine o_yes rfl rfl rfl ?_ | refine o_no rfl rfl rfl (by decide) ?_ | refine o_no' rfl rfl rfl ?_ | refine a_condT rfl ?_ | refine a_condF rfl ?_ | refine d_no rfl rfl rfl (by decide) ?_ | refine d_no' rfl rfl rfl ?_ | (refine wq2 (fun hb => ?_) (fun hb => ?_) <;> (simp only [hb]; try simp only [hbs, ne_eq] at hb; try (exfalso; first | omega | exact hb trivial))) | fail)
  all_goals refine rq rfl ?_
  all_goals exact fnq
/-! which may be -/
def alP (n : Int) (got : List Bool) (held : List (List It)) : Prop := 1 ≤ got.length ∧ got.length ≤ 8 ∧ held.length = got.length ∧ 0 ≤ n ∧ n ≤ 1073741824
def alQ (n : Int) (got : List Bool) : Bool := (got.any id == decide (0 < n)) && got.any (!·)
theorem any_true (l : List Bool) : (l.any fun e => true == e) = l.any id := by congr 1; funext e; cases e <;> rfl
theorem any_false (l : List Bool) : (l.any fun e => false == e) = l.any (!·) := by congr 1; funext e; cases e <;> rfl
theorem alR_eq {n : Int} {got : List Bool} {held : List (List It)} (h : alP n got held) : alR ⟨n, got, held⟩ = (alQ n got && (List.range held.length).all (heG got held)) := by
  obtain ⟨h1, h2, h3, h4, h5⟩ := h
  simp [alR, alQ, h1, h2, h3, h4, h5, Bool.and_assoc]
theorem alR_pre {n : Int} {got : List Bool} {held : List (List It)} (h : ¬ alP n got held) : alR ⟨n, got, held⟩ = false := by
  cases hm : alR ⟨n, got, held⟩
  · rfl
  · simp only [alR, Bool.and_eq_true, decide_eq_true_eq] at hm
    exact absurd ⟨hm.1, hm.2.1, hm.2.2.1, hm.2.2.2.1, hm.2.2.2.2.1⟩ h
set_option maxHeartbeats 2000000 in
theorem l_Right (a : Al) (hg : a.got.length ≤ 9223372036854775807) (hh : a.held.length ≤ 9223372036854775807) (hi : ∀ l ∈ a.held, l.length ≤ 9223372036854775807) : PC Tryz.prog 94 [.agg a.av] (.v (.bool (alR a))) := by
  obtain ⟨n, got, held⟩ := a
  dsimp only at hg hh hi
  have hc1 := b_Contains got true hg
  have hc2 := b_Contains got false hg
  rw [any_true] at hc1
  rw [any_false] at hc2
  have hn1 : (got.map boAv).length = got.length := List.length_map _
  have hn2 : (held.map heAv).length = held.length := List.length_map _
  simp only [Al.av]
  by_cases hpre : alP n got held
  · rw [alR_eq hpre]
    have hp := hpre
    obtain ⟨a1, a2, a3, a4, a5⟩ := hp
    cases hQ : alQ n got
    · rw [Bool.false_and]
      unfold alQ at hQ
      cases e1 : got.any id <;> cases e2 : got.any (!·) <;> rw [e1] at hc1 hQ <;> rw [e2] at hc2 hQ
      all_goals
        refine PC.mk (ac_body tab_ok Tryz.func94 rfl (by kernel_rfl) rfl ?_); intro w0 M μ0; simp only [Tryz.ntmps94, List.length_cons, List.length_nil, Nat.reduceAdd, Nat.reduceSub, numb]
        repeat' (first | ((first | apply o_do | apply d_do | apply d_yes rfl rfl rfl); first | exact lsc (hc1) | exact lsc (hc2) | exact lsq) | refine a_seq ?_ | refine a_region ?_ | refine o_nil ?_ | refine a_block ?_ | refine a_ret ?_ | refine a_exit ?_ | refine a_skip ?_ | refine a_draw mixed ?_ | refine d_nil (by kernel_rfl) ?_ | refine o_yes rfl rfl rfl ?_ | refine o_no rfl rfl rfl (by decide) ?_ | refine o_no' rfl rfl rfl ?_ | refine a_condT rfl ?_ | refine a_condF rfl ?_ | refine d_no rfl rfl rfl (by decide) ?_ | refine d_no' rfl rfl rfl ?_ | (refine wq2 (fun hb => ?_) (fun hb => ?_) <;> (simp only [hb]; try simp only [hbs, ne_eq] at hb; try (exfalso; first | omega | exact hb trivial))) | fail)
        all_goals first
          | (exfalso; simp_all; done)
          | (refine rq rfl ?_; (exact fnq); done)
    · rw [Bool.true_and]
      have hQ2 := hQ
      unfold alQ at hQ2
      simp only [Bool.and_eq_true, beq_iff_eq] at hQ2
      obtain ⟨e1, e2⟩ := hQ2
      rw [e1] at hc1
      rw [e2] at hc2
      refine PC.mk (ac_body tab_ok Tryz.func94 rfl (by kernel_rfl) rfl ?_); intro w0 M μ0; simp only [Tryz.ntmps94, List.length_cons, List.length_nil, Nat.reduceAdd, Nat.reduceSub, numb]
      repeat' (first | ((first | apply o_do | apply d_do | apply d_yes rfl rfl rfl); first | exact lsc (hc1) | exact lsc (hc2) | exact lsq) | refine a_seq ?_ | refine a_region ?_ | refine o_nil ?_ | refine a_block ?_ | refine a_ret ?_ | refine a_exit ?_ | refine a_skip ?_ | refine a_draw mixed ?_ | refine d_nil (by kernel_rfl) ?_ | refine o_yes rfl rfl rfl ?_ | refine o_no rfl rfl rfl (by decide) ?_ | refine o_no' rfl rfl rfl ?_ | refine a_condT rfl ?_ | refine a_condF rfl ?_ | refine d_no rfl rfl rfl (by decide) ?_ | refine d_no' rfl rfl rfl ?_ | (refine wq2 (fun hb => ?_) (fun hb => ?_) <;> (simp only [hb]; try simp only [hbs, ne_eq] at hb; try (exfalso; first | omega | exact hb trivial))) | fail)
      · exfalso
        simp_all
      refine a_loop (X := {q : Nat // q ≤ held.length ∧ (List.range q).all (heG got held) = true}) (fun x => ⟨[(1, .ref 0 0), (48, .sl 1 (held.map heAv)), (49, .v (.int .i64 held.length)), (50, .v (.int .i64 x.1))], [(0, .box 40 [.v (.int .i64 n), .sl 1 (got.map boAv), .sl 1 (held.map heAv)])]⟩) (fun x => held.length - x.1) ⟨0, Nat.zero_le _, rfl⟩ ?_ ?_
      · exact wkS
      rintro ⟨q, hq, hok⟩
      dsimp only
      by_cases hlt : q < held.length
      · have hel : (held.map heAv)[q]? = some (heAv held[q]) := by simp [hlt]
        have hlg : q < got.length := by omega
        have hel2 : (got.map boAv)[q]? = some (boAv got[q]) := by simp [hlg]
        have hG : heG got held q = (decide (held[q].length ≤ 16) && ((decide (held[q].length = 0) || got[q]) && held[q].all itR)) := by simp only [heG, getD_at hlt, getD_at hlg]
        have hbad : heG got held q = false → (List.range held.length).all (heG got held) = false := fun h => rall_fail hlt h
        have hgo : heG got held q = true → (List.range (q + 1)).all (heG got held) = true := fun h => by rw [rall_snoc, hok, h]; rfl
        have hlen := hi _ (List.getElem_mem hlt)
        have hcT := l_ConT held[q] hlen
        generalize held[q] = l at *
        generalize got[q] = g at *
        have hn3 : (l.map It.av).length = l.length := List.length_map _
        have hl0 : ∀ b : Bool, (decide (l.length = 0) || b) = (if l.length = 0 then true else b) := fun b => by by_cases h : l.length = 0 <;> simp [h]
        by_cases h16 : l.length ≤ 16
        · by_cases h0 : l.length = 0
          · obtain rfl : l = [] := List.length_eq_zero_iff.1 h0
            have hg1 := hgo (by rw [hG]; rfl)
            repeat' (first | ((first | apply o_do | apply d_do | apply d_yes rfl rfl rfl); first | exact ls_indexAddr_sl tab_ok rfl rfl rfl rfl hel rfl | exact ls_indexAddr_sl tab_ok rfl rfl rfl rfl hel2 rfl | exact lsc (hcT) | exact lsq) | refine a_seq ?_ | refine a_region ?_ | refine o_nil ?_ | refine a_block ?_ | refine a_ret ?_ | refine a_exit ?_ | refine a_skip ?_ | refine a_draw mixed ?_ | refine d_nil (by kernel_rfl) ?_ | refine o_yes rfl rfl rfl ?_ | refine o_no rfl rfl rfl (by decide) ?_ | refine o_no' rfl rfl rfl ?_ | refine a_condT rfl ?_ | refine a_condF rfl ?_ | refine d_no rfl rfl rfl (by decide) ?_ | refine d_no' rfl rfl rfl ?_ | (refine wq2 (fun hb => ?_) (fun hb => ?_) <;> (simp only [hb]; try simp only [hbs, ne_eq] at hb; try (exfalso; first | omega | exact hb trivial))) | fail)
            refine ⟨⟨q + 1, by omega, hg1⟩, by dsimp only; omega, ?_⟩
            exact wkS
          · cases g
            · rw [hbad (by rw [hG]; simp; intro _ h; exact absurd h (by simpa using h0))]
              repeat' (first | ((first | apply o_do | apply d_do | apply d_yes rfl rfl rfl); first | exact ls_indexAddr_sl tab_ok rfl rfl rfl rfl hel rfl | exact ls_indexAddr_sl tab_ok rfl rfl rfl rfl hel2 rfl | exact lsc (hcT) | exact lsq) | refine a_seq ?_ | refine a_region ?_ | refine o_nil ?_ | refine a_block ?_ | refine a_ret ?_ | refine a_exit ?_ | refine a_skip ?_ | refine a_draw mixed ?_ | refine d_nil (by kernel_rfl) ?_ | refine o_yes rfl rfl rfl ?_ | refine o_no rfl rfl rfl (by decide) ?_ | refine o_no' rfl rfl rfl ?_ | refine a_condT rfl ?_ | refine a_condF rfl ?_ | refine d_no rfl rfl rfl (by decide) ?_ | refine d_no' rfl rfl rfl ?_ | (refine wq2 (fun hb => ?_) (fun hb => ?_) <;> (simp only [hb]; try simp only [hbs, ne_eq] at hb; try (exfalso; first | omega | exact hb trivial))) | fail)
              refine rq rfl ?_
              exact fnq
            · cases hall : l.all itR
              · rw [hall] at hcT
                rw [hbad (by rw [hG, hall]; simp)]
                repeat' (first | ((first | apply o_do | apply d_do | apply d_yes rfl rfl rfl); first | exact ls_indexAddr_sl tab_ok rfl rfl rfl rfl hel rfl | exact ls_indexAddr_sl tab_ok rfl rfl rfl rfl hel2 rfl | exact lsc (hcT) | exact lsq) | refine a_seq ?_ | refine a_region ?_ | refine o_nil ?_ | refine a_block ?_ | refine a_ret ?_ | refine a_exit ?_ | refine a_skip ?_ | refine a_draw mixed ?_ | refine d_nil (by kernel_rfl) ?_ | refine o_yes rfl rfl rfl ?_ | refine o_no rfl rfl rfl (by decide) ?_ | refine o_no' rfl rfl rfl ?_ | refine a_condT rfl ?_ | refine a_condF rfl ?_ | refine d_no rfl rfl rfl (by decide) ?_ | refine d_no' rfl rfl rfl ?_ | (refine wq2 (fun hb => ?_) (fun hb => ?_) <;> (simp only [hb]; try simp only [hbs, ne_eq] at hb; try (exfalso; first | omega | exact hb trivial))) | fail)
                refine rq rfl ?_
                exact fnq
              · rw [hall] at hcT
                have hg1 := hgo (by rw [hG, hall]; simp [h16])
                repeat' (first | ((first | apply o_do | apply d_do | apply d_yes rfl rfl rfl); first | exact ls_indexAddr_sl tab_ok rfl rfl rfl rfl hel rfl | exact ls_indexAddr_sl tab_ok rfl rfl rfl rfl hel2 rfl | exact lsc (hcT) | exact lsq) | refine a_seq ?_ | refine a_region ?_ | refine o_nil ?_ | refine a_block ?_ | refine a_ret ?_ | refine a_exit ?_ | refine a_skip ?_ | refine a_draw mixed ?_ | refine d_nil (by kernel_rfl) ?_ | refine o_yes rfl rfl rfl ?_ | refine o_no rfl rfl rfl (by decide) ?_ | refine o_no' rfl rfl rfl ?_ | refine a_condT rfl ?_ | refine a_condF rfl ?_ | refine d_no rfl rfl rfl (by decide) ?_ | refine d_no' rfl rfl rfl ?_ | (refine wq2 (fun hb => ?_) (fun hb => ?_) <;> (simp only [hb]; try simp only [hbs, ne_eq] at hb; try (exfalso; first | omega | exact hb trivial))) | fail)
                refine ⟨⟨q + 1, by omega, hg1⟩, by dsimp only; omega, ?_⟩
                exact wkS
        · rw [hbad (by rw [hG]; simp [h16])]
          repeat' (first | ((first | apply o_do | apply d_do | apply d_yes rfl rfl rfl); first | exact ls_indexAddr_sl tab_ok rfl rfl rfl rfl hel rfl | exact ls_indexAddr_sl tab_ok rfl rfl rfl rfl hel2 rfl | exact lsc (hcT) | exact lsq) | refine a_seq ?_ | refine a_region ?_ | refine o_nil ?_ | refine a_block ?_ | refine a_ret ?_ | refine a_exit ?_ | refine a_skip ?_ | refine a_draw mixed ?_ | refine d_nil (by kernel_rfl) ?_ | refine o_yes rfl rfl rfl ?_ | refine o_no rfl rfl rfl (by decide) ?_ | refine o_no' rfl rfl rfl ?_ | refine a_condT rfl ?_ | refine a_condF rfl ?_ | refine d_no rfl rfl rfl (by decide) ?_ | refine d_no' rfl rfl rfl ?_ | (refine wq2 (fun hb => ?_) (fun hb => ?_) <;> (simp only [hb]; try simp only [hbs, ne_eq] at hb; try (exfalso; first | omega | exact hb trivial))) | fail)
          refine rq rfl ?_
          exact fnq
      · obtain rfl : q = held.length := by omega
        rw [hok]
        repeat' (first | ((first | apply o_do | apply d_do | apply d_yes rfl rfl rfl); exact lsq) | refine a_seq ?_ | refine a_region ?_ | refine o_nil ?_ | refine a_block ?_ | refine a_ret ?_ | refine a_exit ?_ | refine a_skip ?_ | refine a_draw mixed ?_ | refine d_nil (by kernel_rfl) ?_ | refine o_yes rfl rfl rfl ?_ | refine o_no rfl rfl rfl (by decide) ?_ | refine o_no' rfl rfl rfl ?_ | refine a_condT rfl ?_ | refine a_condF rfl ?_ | refine d_no rfl rfl rfl (by decide) ?_ | refine d_no' rfl rfl rfl ?_ | (refine wq2 (fun hb => ?_) (fun hb => ?_) <;> (simp only [hb]; try simp only [hbs, ne_eq] at hb; try (exfalso; first | omega | exact hb trivial))) | fail)
        refine rq rfl ?_
        exact fnq
  · rw [alR_pre hpre]
    unfold alP at hpre
    have hq : ∀ b c : Bool, True := fun _ _ => trivial
    refine PC.mk (ac_body tab_ok Tryz.func94 rfl (by kernel_rfl) rfl ?_); intro w0 M μ0; simp only [Tryz.ntmps94, List.length_cons, List.length_nil, Nat.reduceAdd, Nat.reduceSub, numb]
    by_cases a1 : got.length < 1
    · repeat' (first | ((first | apply o_do | apply d_do | apply d_yes rfl rfl rfl); exact lsq) | refine a_seq ?_ | refine a_region ?_ | refine o_nil ?_ | refine a_block ?_ | refine a_ret ?_ | refine a_exit ?_ | refine a_skip ?_ | refine a_draw mixed ?_ | refine d_nil (by kernel_rfl) ?_ | refine o_yes rfl rfl rfl ?_ | refine o_no rfl rfl rfl (by decide) ?_ | refine o_no' rfl rfl rfl ?_ | refine a_condT rfl ?_ | refine a_condF rfl ?_ | refine d_no rfl rfl rfl (by decide) ?_ | refine d_no' rfl rfl rfl ?_ | (refine wq2 (fun hb => ?_) (fun hb => ?_) <;> (simp only [hb]; try simp only [hbs, ne_eq] at hb; try (exfalso; first | omega | exact hb trivial))) | fail)
      all_goals refine rq rfl ?_
      all_goals exact fnq
    by_cases a2 : 8 < got.length
    · repeat' (first | ((first | apply o_do | apply d_do | apply d_yes rfl rfl rfl); exact lsq) | refine a_seq ?_ | refine a_region ?_ | refine o_nil ?_ | refine a_block ?_ | refine a_ret ?_ | refine a_exit ?_ | refine a_skip ?_ | refine a_draw mixed ?_ | refine d_nil (by kernel_rfl) ?_ | refine o_yes rfl rfl rfl ?_ | refine o_no rfl rfl rfl (by decide) ?_ | refine o_no' rfl rfl rfl ?_ | refine a_condT rfl ?_ | refine a_condF rfl ?_ | refine d_no rfl rfl rfl (by decide) ?_ | refine d_no' rfl rfl rfl ?_ | (refine wq2 (fun hb => ?_) (fun hb => ?_) <;> (simp only [hb]; try simp only [hbs, ne_eq] at hb; try (exfalso; first | omega | exact hb trivial))) | fail)
      all_goals refine rq rfl ?_
      all_goals exact fnq
    by_cases a3 : held.length = got.length
    · by_cases a4 : n < 0
      · repeat' (first | ((first | apply o_do | apply d_do | apply d_yes rfl rfl rfl); exact lsq) | refine a_seq ?_ | refine a_region ?_ | refine o_nil ?_ | refine a_block ?_ | refine a_ret ?_ | refine a_exit ?_ | refine a_skip ?_ | refine a_draw mixed ?_ | refine d_nil (by kernel_rfl) ?_ | refine o_yes rfl rfl rfl ?_ | refine o_no rfl rfl rfl (by decide) ?_ | refine o_no' rfl rfl rfl ?_ | refine a_condT rfl ?_ | refine a_condF rfl ?_ | refine d_no rfl rfl rfl (by decide) ?_ | refine d_no' rfl rfl rfl ?_ | (refine wq2 (fun hb => ?_) (fun hb => ?_) <;> (simp only [hb]; try simp only [hbs, ne_eq] at hb; try (exfalso; first | omega | exact hb trivial))) | fail)
        all_goals refine rq rfl ?_
        all_goals exact fnq
      · have a5 : 1073741824 < n := by omega
        repeat' (first | ((first | apply o_do | apply d_do | apply d_yes rfl rfl rfl); exact lsq) | refine a_seq ?_ | refine a_region ?_ | refine o_nil ?_ | refine a_block ?_ | refine a_ret ?_ | refine a_exit ?_ | refine a_skip ?_ | refine a_draw mixed ?_ | refine d_nil (by kernel_rfl) ?_ | refine o_yes rfl rfl rfl ?_ | refine o_no rfl rfl rfl (by decide) ?_ | refine o_no' rfl rfl rfl ?_ | refine a_condT rfl ?_ | refine a_condF rfl ?_ | refine d_no rfl rfl rfl (by decide) ?_ | refine d_no' rfl rfl rfl ?_ | (refine wq2 (fun hb => ?_) (fun hb => ?_) <;> (simp only [hb]; try simp only [hbs, ne_eq] at hb; try (exfalso; first | omega | exact hb trivial))) | fail)
        all_goals refine rq rfl ?_
        all_goals exact fnq
    · repeat' (first | ((first | apply o_do | apply d_do | apply d_yes rfl rfl rfl); exact lsq) | refine a_seq ?_ | refine a_region ?_ | refine o_nil ?_ | refine a_block ?_ | refine a_ret ?_ | refine a_exit ?_ | refine a_skip ?_ | refine a_draw mixed ?_ | refine d_nil (by kernel_rfl) ?_ | refine o_yes rfl rfl rfl ?_ | refine o_no rfl rfl rfl (by decide) ?_ | refine o_no' rfl rfl rfl ?_ | refine a_condT rfl ?_ | refine a_condF rfl ?_ | refine d_no rfl rfl rfl (by decide) ?_ | refine d_no' rfl rfl rfl ?_ | (refine wq2 (fun hb => ?_) (fun hb => ?_) <;> (simp only [hb]; try simp only [hbs, ne_eq] at hb; try (exfalso; first | omega | exact hb trivial))) | fail)
      all_goals refine rq rfl ?_
      all_goals exact fnq
end Go.Proofs.YtagfjnjpgphnjaaGreat
