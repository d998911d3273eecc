/-
  Marks, walked over abstract values: which may be.
  Aligners, walked over abstract values: which may be, new ones, likeness.
  Marks, walked over abstract values: new ones, likeness.
  Aligners, walked over abstract values: new ones, likeness.
-/
import Derived.Test.YtilgagmfcdfjaaaGreatM4
import Derived.Test.YtilgagmfcdfjaaaGreatM9
import Derived.Test.YtilgagmfcdfjaaaGreatM11
set_option linter.unusedSimpArgs false
set_option linter.unusedVariables false
set_option maxHeartbeats 20000000
namespace Go.Proofs.YtilgagmfcdfjaaaGreat
open Go.RowKit
theorem m_time (t : Int) : PC Tryz.prog 108 [.v (.int .i64 t)] (.v (.bool (tmR t))) := by
 unfold tmR
 refine PC.mk (ac_body tab_ok Tryz.func108 rfl (by kernel_rfl) rfl ?_); intro w0 M μ0; simp only [Tryz.ntmps108, List.length_cons, List.length_nil, Nat.reduceAdd, Nat.reduceSub, numb]
 repeat' (first | ((first | apply o_do | apply d_do | apply d_yes rfl rfl rfl); exact lsq) | refine a_seq ?_ | refine a_region ?_ | refine o_nil ?_ | refine a_block ?_ | refine a_ret ?_ | refine a_exit ?_ | refine a_skip ?_ | refine a_draw mixed ?_ | refine d_nil (by kernel_rfl) ?_ | refine o_yes rfl rfl rfl ?_ | refine o_no rfl rfl rfl (by decide) ?_ | refine o_no' rfl rfl rfl ?_ | refine a_condT rfl ?_ | refine a_condF rfl ?_ | refine d_no rfl rfl rfl (by decide) ?_ | refine d_no' rfl rfl rfl ?_ | (refine wq2 (fun hb => ?_) (fun hb => ?_) <;> (simp only [hb]; try simp only [hbs, ne_eq] at hb; try (exfalso; first | omega | exact hb trivial))) | fail)
 all_goals refine rq rfl ?_
 all_goals (first | refine FinA.tup ?_ | refine FinA.one ?_); repeat' (first | exact FinBs.nil | exact FinCs.nil | refine FinBs.cons ?_ ?_ | refine FinCs.cons ?_ ?_ | refine FinB.cell (FinC.v ?_) | refine FinB.cell (FinC.own rfl rfl rfl ?_) | exact FinB.cell FinC.nil | refine FinB.cell (FinC.sl ?_) | exact FinB.agg' rfl rfl | exact FinB.cell (FinC.same rfl) | refine FinB.agg ?_ | refine FinC.v ?_ | refine FinC.own rfl rfl rfl ?_ | exact FinC.nil | refine FinC.sl ?_ | exact FinC.same rfl); all_goals try rfl
 all_goals simp [*]
theorem m_Right1 (x : Int × Bool) : PC Tryz.prog 110 [.agg (inAvM x)] (.v (.bool (!tmR x.1))) := by
 obtain ⟨a, b⟩ := x
 have h := m_time a
 refine PC.mk (ac_body tab_ok Tryz.func110 rfl (by kernel_rfl) rfl ?_); intro w0 M μ0; simp only [Tryz.ntmps110, List.length_cons, List.length_nil, Nat.reduceAdd, Nat.reduceSub, numb]
 repeat' (first | ((first | apply o_do | apply d_do | apply d_yes rfl rfl rfl); first | exact lsc (h) | exact lsq) | refine a_seq ?_ | refine a_region ?_ | refine o_nil ?_ | refine a_block ?_ | refine a_ret ?_ | refine a_exit ?_ | refine a_skip ?_ | refine a_draw mixed ?_ | refine d_nil (by kernel_rfl) ?_ | refine o_yes rfl rfl rfl ?_ | refine o_no rfl rfl rfl (by decide) ?_ | refine o_no' rfl rfl rfl ?_ | refine a_condT rfl ?_ | refine a_condF rfl ?_ | refine d_no rfl rfl rfl (by decide) ?_ | refine d_no' rfl rfl rfl ?_ | (refine wq2 (fun hb => ?_) (fun hb => ?_) <;> (simp only [hb]; try simp only [hbs, ne_eq] at hb; try (exfalso; first | omega | exact hb trivial))) | fail)
 all_goals refine rq rfl ?_
 all_goals exact fnq
theorem m_IdxI (es : List (Int × Bool)) (hx : es.length ≤ 9223372036854775807) : ∃ i : Int, (decide (0 ≤ i) = !es.all fun e => tmR e.1) ∧ PC Tryz.prog 143 [.sl 2 (es.map inAvM), .clo (.func 110) [] []] (.v (.int .i64 i)) := by
 rcases fst_all (fun e : Int × Bool => tmR e.1) es with hall | ⟨q0, hq0, h1, h2⟩
 ·refine ⟨-1, by rw [hall]; rfl, ?_⟩
  refine PC.mk (ac_body tab_ok Tryz.func143 rfl (by kernel_rfl) rfl ?_); intro w0 M μ0; simp only [Tryz.ntmps143, List.length_cons, List.length_nil, Nat.reduceAdd, Nat.reduceSub, numb]
  repeat' (first | ((first | apply o_do | apply d_do | apply d_yes rfl rfl rfl); exact lsq) | refine a_seq ?_ | refine a_region ?_ | refine o_nil ?_ | refine a_block ?_ | refine a_ret ?_ | refine a_exit ?_ | refine a_skip ?_ | refine a_draw mixed ?_ | refine d_nil (by kernel_rfl) ?_ | refine o_yes rfl rfl rfl ?_ | refine o_no rfl rfl rfl (by decide) ?_ | refine o_no' rfl rfl rfl ?_ | refine a_condT rfl ?_ | refine a_condF rfl ?_ | refine d_no rfl rfl rfl (by decide) ?_ | refine d_no' rfl rfl rfl ?_ | (refine wq2 (fun hb => ?_) (fun hb => ?_) <;> (simp only [hb]; try simp only [hbs, ne_eq] at hb; try (exfalso; first | omega | exact hb trivial))) | fail)
  refine a_loop (X := {q : Nat // q ≤ es.length}) (fun x => ⟨[(0, .sl 2 (es.map inAvM)), (1, .clo (.func 110) [] []), (7, .v (.int .i64 es.length)), (8, .v (.int .i64 x.1))], []⟩) (fun x => es.length - x.1) ⟨0, Nat.zero_le _⟩ ?_ ?_
  ·exact wkS
  rintro ⟨q, hq⟩
  dsimp only
  by_cases hlt : q < es.length
  ·have hel : (es.map inAvM)[q]? = some (inAvM es[q]) := by simp [hlt]
   have hbd := m_Right1 es[q]
   rw [show tmR es[q].1 = true from List.all_eq_true.1 hall _ (List.getElem_mem hlt)] at hbd
   generalize es[q] = x at *
   repeat' (first | ((first | apply o_do | apply d_do | apply d_yes rfl rfl rfl); first | exact lsc (hbd) | exact lsq) | refine a_seq ?_ | refine a_region ?_ | refine o_nil ?_ | refine a_block ?_ | refine a_ret ?_ | refine a_exit ?_ | refine a_skip ?_ | refine a_draw mixed ?_ | refine d_nil (by kernel_rfl) ?_ | refine o_yes rfl rfl rfl ?_ | refine o_no rfl rfl rfl (by decide) ?_ | refine o_no' rfl rfl rfl ?_ | refine a_condT rfl ?_ | refine a_condF rfl ?_ | refine d_no rfl rfl rfl (by decide) ?_ | refine d_no' rfl rfl rfl ?_ | (refine wq2 (fun hb => ?_) (fun hb => ?_) <;> (simp only [hb]; try simp only [hbs, ne_eq] at hb; try (exfalso; first | omega | exact hb trivial))) | fail)
   refine ⟨⟨q + 1, by omega⟩, by dsimp only; omega, ?_⟩
   exact wkS
  ·repeat' (first | ((first | apply o_do | apply d_do | apply d_yes rfl rfl rfl); exact lsq) | refine a_seq ?_ | refine a_region ?_ | refine o_nil ?_ | refine a_block ?_ | refine a_ret ?_ | refine a_exit ?_ | refine a_skip ?_ | refine a_draw mixed ?_ | refine d_nil (by kernel_rfl) ?_ | refine o_yes rfl rfl rfl ?_ | refine o_no rfl rfl rfl (by decide) ?_ | refine o_no' rfl rfl rfl ?_ | refine a_condT rfl ?_ | refine a_condF rfl ?_ | refine d_no rfl rfl rfl (by decide) ?_ | refine d_no' rfl rfl rfl ?_ | (refine wq2 (fun hb => ?_) (fun hb => ?_) <;> (simp only [hb]; try simp only [hbs, ne_eq] at hb; try (exfalso; first | omega | exact hb trivial))) | fail)
   refine rq rfl ?_
   exact fnq
 ·refine ⟨(q0 : Int), ?_, ?_⟩
  ·have : (es.all fun e => tmR e.1) = false := by
    rw [List.all_eq_false]
    exact ⟨es[q0], List.getElem_mem hq0, by simp [h2]⟩
   rw [this]; simp
  refine PC.mk (ac_body tab_ok Tryz.func143 rfl (by kernel_rfl) rfl ?_); intro w0 M μ0; simp only [Tryz.ntmps143, List.length_cons, List.length_nil, Nat.reduceAdd, Nat.reduceSub, numb]
  repeat' (first | ((first | apply o_do | apply d_do | apply d_yes rfl rfl rfl); exact lsq) | refine a_seq ?_ | refine a_region ?_ | refine o_nil ?_ | refine a_block ?_ | refine a_ret ?_ | refine a_exit ?_ | refine a_skip ?_ | refine a_draw mixed ?_ | refine d_nil (by kernel_rfl) ?_ | refine o_yes rfl rfl rfl ?_ | refine o_no rfl rfl rfl (by decide) ?_ | refine o_no' rfl rfl rfl ?_ | refine a_condT rfl ?_ | refine a_condF rfl ?_ | refine d_no rfl rfl rfl (by decide) ?_ | refine d_no' rfl rfl rfl ?_ | (refine wq2 (fun hb => ?_) (fun hb => ?_) <;> (simp only [hb]; try simp only [hbs, ne_eq] at hb; try (exfalso; first | omega | exact hb trivial))) | fail)
  refine a_loop (X := {q : Nat // q ≤ q0}) (fun x => ⟨[(0, .sl 2 (es.map inAvM)), (1, .clo (.func 110) [] []), (7, .v (.int .i64 es.length)), (8, .v (.int .i64 x.1))], []⟩) (fun x => es.length - x.1) ⟨0, Nat.zero_le _⟩ ?_ ?_
  ·exact wkS
  rintro ⟨q, hq⟩
  dsimp only
  have hlt : q < es.length := by omega
  have hel : (es.map inAvM)[q]? = some (inAvM es[q]) := by simp [hlt]
  have hbd := m_Right1 es[q]
  rcases Nat.lt_or_eq_of_le hq with h | h
  ·have hm : es[q] ∈ es.take q0 := by
    rw [List.mem_take_iff_getElem]
    exact ⟨q, by omega, rfl⟩
   rw [show tmR es[q].1 = true from List.all_eq_true.1 h1 _ hm] at hbd
   generalize es[q] = x at *
   repeat' (first | ((first | apply o_do | apply d_do | apply d_yes rfl rfl rfl); first | exact lsc (hbd) | exact lsq) | refine a_seq ?_ | refine a_region ?_ | refine o_nil ?_ | refine a_block ?_ | refine a_ret ?_ | refine a_exit ?_ | refine a_skip ?_ | refine a_draw mixed ?_ | refine d_nil (by kernel_rfl) ?_ | refine o_yes rfl rfl rfl ?_ | refine o_no rfl rfl rfl (by decide) ?_ | refine o_no' rfl rfl rfl ?_ | refine a_condT rfl ?_ | refine a_condF rfl ?_ | refine d_no rfl rfl rfl (by decide) ?_ | refine d_no' rfl rfl rfl ?_ | (refine wq2 (fun hb => ?_) (fun hb => ?_) <;> (simp only [hb]; try simp only [hbs, ne_eq] at hb; try (exfalso; first | omega | exact hb trivial))) | fail)
   refine ⟨⟨q + 1, by omega⟩, by dsimp only; omega, ?_⟩
   exact wkS
  ·subst h
   rw [show tmR es[q].1 = false from h2] at hbd
   generalize es[q] = x at *
   repeat' (first | ((first | apply o_do | apply d_do | apply d_yes rfl rfl rfl); first | exact lsc (hbd) | exact lsq) | refine a_seq ?_ | refine a_region ?_ | refine o_nil ?_ | refine a_block ?_ | refine a_ret ?_ | refine a_exit ?_ | refine a_skip ?_ | refine a_draw mixed ?_ | refine d_nil (by kernel_rfl) ?_ | refine o_yes rfl rfl rfl ?_ | refine o_no rfl rfl rfl (by decide) ?_ | refine o_no' rfl rfl rfl ?_ | refine a_condT rfl ?_ | refine a_condF rfl ?_ | refine d_no rfl rfl rfl (by decide) ?_ | refine d_no' rfl rfl rfl ?_ | (refine wq2 (fun hb => ?_) (fun hb => ?_) <;> (simp only [hb]; try simp only [hbs, ne_eq] at hb; try (exfalso; first | omega | exact hb trivial))) | fail)
   refine rq rfl ?_
   exact fnq
theorem m_ConI (es : List (Int × Bool)) (hx : es.length ≤ 9223372036854775807) : PC Tryz.prog 109 [.sl 2 (es.map inAvM), .clo (.func 110) [] []] (.v (.bool (!es.all fun e => tmR e.1))) := by
 obtain ⟨i, h1, h2⟩ := m_IdxI es hx
 rw [← h1]
 refine PC.mk (ac_body tab_ok Tryz.func109 rfl (by kernel_rfl) rfl ?_); intro w0 M μ0; simp only [Tryz.ntmps109, List.length_cons, List.length_nil, Nat.reduceAdd, Nat.reduceSub, numb]
 repeat' (first | ((first | apply o_do | apply d_do | apply d_yes rfl rfl rfl); first | exact lsc (h2) | exact lsq) | refine a_seq ?_ | refine a_region ?_ | refine o_nil ?_ | refine a_block ?_ | refine a_ret ?_ | refine a_exit ?_ | refine a_skip ?_ | refine a_draw mixed ?_ | refine d_nil (by kernel_rfl) ?_ | refine o_yes rfl rfl rfl ?_ | refine o_no rfl rfl rfl (by decide) ?_ | refine o_no' rfl rfl rfl ?_ | refine a_condT rfl ?_ | refine a_condF rfl ?_ | refine d_no rfl rfl rfl (by decide) ?_ | refine d_no' rfl rfl rfl ?_ | (refine wq2 (fun hb => ?_) (fun hb => ?_) <;> (simp only [hb]; try simp only [hbs, ne_eq] at hb; try (exfalso; first | omega | exact hb trivial))) | fail)
 all_goals refine rq rfl ?_
 all_goals exact fnq
theorem mkR_pre {ins : List (Int × Bool)} {hs : List (Int × Int)} {out : Int} (h : ¬ (1 ≤ ins.length ∧ ins.length ≤ 8 ∧ hs.length ≤ 32 ∧ tmR out = true)) : mkR ⟨ins, hs, out⟩ = false := by
 cases hm : mkR ⟨ins, hs, out⟩
 ·rfl
 ·simp only [mkR, Bool.and_eq_true, decide_eq_true_eq] at hm
  exact absurd ⟨hm.1, hm.2.1, hm.2.2.1, hm.2.2.2.1⟩ h
theorem m_Right (m : Mk) (hi : m.ins.length ≤ 9223372036854775807) (hh : m.hs.length ≤ 9223372036854775807) : PC Tryz.prog 74 [.agg m.av] (.v (.bool (mkR m))) := by
 obtain ⟨ins, hs, out⟩ := m
 dsimp only at hi hh
 have hcon := m_ConI ins hi
 have hto := m_time out
 have hn1 : (ins.map inAvM).length = ins.length := List.length_map _
 have hn2 : (hs.map hoAv).length = hs.length := List.length_map _
 simp only [Mk.av]
 by_cases hpre : 1 ≤ ins.length ∧ ins.length ≤ 8 ∧ hs.length ≤ 32 ∧ tmR out = true
 ·obtain ⟨a1, a2, a3, a4⟩ := hpre
  rw [a4] at hto
  refine PC.mk (ac_body tab_ok Tryz.func74 rfl (by kernel_rfl) rfl ?_); intro w0 M μ0; simp only [Tryz.ntmps74, List.length_cons, List.length_nil, Nat.reduceAdd, Nat.reduceSub, numb]
  repeat' (first | ((first | apply o_do | apply d_do | apply d_yes rfl rfl rfl); first | exact lsc (hto) | exact lsq) | refine a_seq ?_ | refine a_region ?_ | refine o_nil ?_ | refine a_block ?_ | refine a_ret ?_ | refine a_exit ?_ | refine a_skip ?_ | refine a_draw mixed ?_ | refine d_nil (by kernel_rfl) ?_ | refine o_yes rfl rfl rfl ?_ | refine o_no rfl rfl rfl (by decide) ?_ | refine o_no' rfl rfl rfl ?_ | refine a_condT rfl ?_ | refine a_condF rfl ?_ | refine d_no rfl rfl rfl (by decide) ?_ | refine d_no' rfl rfl rfl ?_ | (refine wq2 (fun hb => ?_) (fun hb => ?_) <;> (simp only [hb]; try simp only [hbs, ne_eq] at hb; try (exfalso; first | omega | exact hb trivial))) | fail)
  refine a_loop (X := {q : Nat // q ≤ hs.length ∧ (List.range q).all (hoG hs) = true}) (fun x => ⟨[(1, .ref 0 0), (28, .sl 2 (hs.map hoAv)), (29, .v (.int .i64 hs.length)), (30, .v (.int .i64 x.1))], [(0, .box 36 [.sl 2 (ins.map inAvM), .sl 2 (hs.map hoAv), .v (.int .i64 out)])]⟩) (fun x => hs.length - x.1) ⟨0, Nat.zero_le _, rfl⟩ ?_ ?_
  ·exact wkS
  rintro ⟨q, hq, hok⟩
  dsimp only
  by_cases hlt : q < hs.length
  ·have hel : (hs.map hoAv)[q]? = some (hoAv hs[q]) := by simp [hlt]
   have hbad : hoG hs q = false → mkR ⟨ins, hs, out⟩ = false := fun h => by simp [mkR, rall_fail hlt h]
   have hgo : hoG hs q = true → (List.range (q + 1)).all (hoG hs) = true := fun h => by rw [rall_snoc, hok, h]; rfl
   have htm := m_time hs[q].2
   rcases Nat.eq_zero_or_pos q with rfl | hq0
   ·have hG : hoG hs 0 = (decide (0 ≤ hs[0].1) && tmR hs[0].2) := by simp only [hoG, getD_at hlt]; simp
    generalize hs[0] = x at *
    obtain ⟨no, at'⟩ := x
    dsimp only at *
    rcases Bool.eq_false_or_eq_true (hoG hs 0) with hg0 | hg0 <;> cases htR : tmR at'
    all_goals
     rw [htR] at htm hG
     repeat' (first | ((first | apply o_do | apply d_do | apply d_yes rfl rfl rfl); first | exact ls_indexAddr_sl tab_ok rfl rfl rfl rfl (by assumption) rfl | exact lsc (htm) | exact lsq) | refine a_seq ?_ | refine a_region ?_ | refine o_nil ?_ | refine a_block ?_ | refine a_ret ?_ | refine a_exit ?_ | refine a_skip ?_ | refine a_draw mixed ?_ | refine d_nil (by kernel_rfl) ?_ | refine o_yes rfl rfl rfl ?_ | refine o_no rfl rfl rfl (by decide) ?_ | refine o_no' rfl rfl rfl ?_ | refine a_condT rfl ?_ | refine a_condF rfl ?_ | refine d_no rfl rfl rfl (by decide) ?_ | refine d_no' rfl rfl rfl ?_ | (refine wq2 (fun hb => ?_) (fun hb => ?_) <;> (simp only [hb]; try simp only [hbs, ne_eq] at hb; try (exfalso; first | omega | exact hb trivial))) | fail)
     all_goals first
      | (exfalso; rw [hG] at hg0; simp [*] at hg0; done)
      | (exfalso; rw [hG] at hg0; simp [*] at hg0; omega)
      | (refine rq rfl ?_; ((first | refine FinA.tup ?_ | refine FinA.one ?_); repeat' (first | exact FinBs.nil | exact FinCs.nil | refine FinBs.cons ?_ ?_ | refine FinCs.cons ?_ ?_ | refine FinB.cell (FinC.v ?_) | refine FinB.cell (FinC.own rfl rfl rfl ?_) | exact FinB.cell FinC.nil | refine FinB.cell (FinC.sl ?_) | exact FinB.agg' rfl rfl | exact FinB.cell (FinC.same rfl) | refine FinB.agg ?_ | refine FinC.v ?_ | refine FinC.own rfl rfl rfl ?_ | exact FinC.nil | refine FinC.sl ?_ | exact FinC.same rfl); all_goals try rfl); rw [hbad hg0]; done)
      | (refine ⟨⟨0 + 1, by omega, hgo hg0⟩, by dsimp only; omega, ?_⟩; exact wkS; done)
   ·obtain ⟨j, rfl⟩ : ∃ j, q = j + 1 := ⟨q - 1, by omega⟩
    have hj : ((j + 1 : Nat) : Int) - 1 = (j : Int) := by omega
    have hlj : j < hs.length := by omega
    have hel2 : (hs.map hoAv)[j]? = some (hoAv hs[j]) := by simp [hlj]
    have hG : hoG hs (j + 1) = (decide (0 ≤ hs[j + 1].1) && (tmR hs[j + 1].2 && decide (hs[j].1 < hs[j + 1].1))) := by simp [hoG, hlt, hlj]
    generalize hs[j + 1] = x at *
    generalize hs[j] = y at *
    obtain ⟨no, at'⟩ := x
    obtain ⟨no', at''⟩ := y
    dsimp only at *
    rcases Bool.eq_false_or_eq_true (hoG hs (j + 1)) with hg0 | hg0 <;> cases htR : tmR at'
    all_goals
     rw [htR] at htm hG
     repeat' (first | ((first | apply o_do | apply d_do | apply d_yes rfl rfl rfl); first | exact ls_indexAddr_sl tab_ok rfl rfl rfl rfl (by assumption) rfl | exact ls_indexAddr_sl tab_ok rfl rfl rfl hj hel2 rfl | exact lsc (htm) | exact lsq) | refine a_seq ?_ | refine a_region ?_ | refine o_nil ?_ | refine a_block ?_ | refine a_ret ?_ | refine a_exit ?_ | refine a_skip ?_ | refine a_draw mixed ?_ | refine d_nil (by kernel_rfl) ?_ | refine o_yes rfl rfl rfl ?_ | refine o_no rfl rfl rfl (by decide) ?_ | refine o_no' rfl rfl rfl ?_ | refine a_condT rfl ?_ | refine a_condF rfl ?_ | refine d_no rfl rfl rfl (by decide) ?_ | refine d_no' rfl rfl rfl ?_ | (refine wq2 (fun hb => ?_) (fun hb => ?_) <;> (simp only [hb]; try simp only [hbs, ne_eq] at hb; try (exfalso; first | omega | exact hb trivial))) | fail)
     all_goals first
      | (exfalso; rw [hG] at hg0; simp [*] at hg0; done)
      | (exfalso; rw [hG] at hg0; simp [*] at hg0; omega)
      | (refine rq rfl ?_; ((first | refine FinA.tup ?_ | refine FinA.one ?_); repeat' (first | exact FinBs.nil | exact FinCs.nil | refine FinBs.cons ?_ ?_ | refine FinCs.cons ?_ ?_ | refine FinB.cell (FinC.v ?_) | refine FinB.cell (FinC.own rfl rfl rfl ?_) | exact FinB.cell FinC.nil | refine FinB.cell (FinC.sl ?_) | exact FinB.agg' rfl rfl | exact FinB.cell (FinC.same rfl) | refine FinB.agg ?_ | refine FinC.v ?_ | refine FinC.own rfl rfl rfl ?_ | exact FinC.nil | refine FinC.sl ?_ | exact FinC.same rfl); all_goals try rfl); rw [hbad hg0]; done)
      | (refine ⟨⟨j + 1 + 1, by omega, hgo hg0⟩, by dsimp only; omega, ?_⟩; exact wkS; done)
  ·obtain rfl : q = hs.length := by omega
   have hend : mkR ⟨ins, hs, out⟩ = ins.all fun x => tmR x.1 := by simp [mkR, *]
   rw [hend]
   cases hall : ins.all fun x => tmR x.1
   all_goals
    rw [hall] at hcon
    repeat' (first | ((first | apply o_do | apply d_do | apply d_yes rfl rfl rfl); first | exact lsc (hcon) | exact lsq) | refine a_seq ?_ | refine a_region ?_ | refine o_nil ?_ | refine a_block ?_ | refine a_ret ?_ | refine a_exit ?_ | refine a_skip ?_ | refine a_draw mixed ?_ | refine d_nil (by kernel_rfl) ?_ | refine o_yes rfl rfl rfl ?_ | refine o_no rfl rfl rfl (by decide) ?_ | refine o_no' rfl rfl rfl ?_ | refine a_condT rfl ?_ | refine a_condF rfl ?_ | refine d_no rfl rfl rfl (by decide) ?_ | refine d_no' rfl rfl rfl ?_ | (refine wq2 (fun hb => ?_) (fun hb => ?_) <;> (simp only [hb]; try simp only [hbs, ne_eq] at hb; try (exfalso; first | omega | exact hb trivial))) | fail)
    refine rq rfl ?_
    exact fnq
 ·rw [mkR_pre hpre]
  cases hto2 : tmR out
  all_goals
   rw [hto2] at hto
   refine PC.mk (ac_body tab_ok Tryz.func74 rfl (by kernel_rfl) rfl ?_); intro w0 M μ0; simp only [Tryz.ntmps74, List.length_cons, List.length_nil, Nat.reduceAdd, Nat.reduceSub, numb]
   repeat' (first | ((first | apply o_do | apply d_do | apply d_yes rfl rfl rfl); first | exact lsc (hto) | exact lsq) | refine a_seq ?_ | refine a_region ?_ | refine o_nil ?_ | refine a_block ?_ | refine a_ret ?_ | refine a_exit ?_ | refine a_skip ?_ | refine a_draw mixed ?_ | refine d_nil (by kernel_rfl) ?_ | refine o_yes rfl rfl rfl ?_ | refine o_no rfl rfl rfl (by decide) ?_ | refine o_no' rfl rfl rfl ?_ | refine a_condT rfl ?_ | refine a_condF rfl ?_ | refine d_no rfl rfl rfl (by decide) ?_ | refine d_no' rfl rfl rfl ?_ | (refine wq2 (fun hb => ?_) (fun hb => ?_) <;> (simp only [hb]; try simp only [hbs, ne_eq] at hb; try (exfalso; first | omega | exact hb trivial))) | fail)
   all_goals first
    | (exfalso; apply hpre; refine ⟨?_, ?_, ?_, hto2⟩ <;> omega)
    | (refine rq rfl ?_; (exact fnq); done)
theorem b_Index (es : List Bool) (v : Bool) (hx : es.length ≤ 9223372036854775807) : ∃ i : Int, (decide (0 ≤ i) = es.any fun e => v == e) ∧ PC Tryz.prog 130 [.sl 1 (es.map boAv), .v (.bool v)] (.v (.int .i64 i)) := by
 rcases fst_all (fun e : Bool => !(v == e)) es with hall | ⟨q0, hq0, h1, h2⟩
 ·refine ⟨-1, ?_, ?_⟩
  ·have : (es.any fun e => v == e) = false := by
    rw [List.any_eq_false]
    intro x hx
    have := List.all_eq_true.1 hall x hx
    simpa using this
   rw [this]; rfl
  refine PC.mk (ac_body tab_ok Tryz.func130 rfl (by kernel_rfl) rfl ?_); intro w0 M μ0; simp only [Tryz.ntmps130, List.length_cons, List.length_nil, Nat.reduceAdd, Nat.reduceSub, numb]
  repeat' (first | ((first | apply o_do | apply d_do | apply d_yes rfl rfl rfl); exact lsq) | refine a_seq ?_ | refine a_region ?_ | refine o_nil ?_ | refine a_block ?_ | refine a_ret ?_ | refine a_exit ?_ | refine a_skip ?_ | refine a_draw mixed ?_ | refine d_nil (by kernel_rfl) ?_ | refine o_yes rfl rfl rfl ?_ | refine o_no rfl rfl rfl (by decide) ?_ | refine o_no' rfl rfl rfl ?_ | refine a_condT rfl ?_ | refine a_condF rfl ?_ | refine d_no rfl rfl rfl (by decide) ?_ | refine d_no' rfl rfl rfl ?_ | (refine wq2 (fun hb => ?_) (fun hb => ?_) <;> (simp only [hb]; try simp only [hbs, ne_eq] at hb; try (exfalso; first | omega | exact hb trivial))) | fail)
  refine a_loop (X := {q : Nat // q ≤ es.length}) (fun x => ⟨[(0, .sl 1 (es.map boAv)), (1, .v (.bool v)), (7, .v (.int .i64 es.length)), (8, .v (.int .i64 x.1))], []⟩) (fun x => es.length - x.1) ⟨0, Nat.zero_le _⟩ ?_ ?_
  ·exact wkS
  rintro ⟨q, hq⟩
  dsimp only
  by_cases hlt : q < es.length
  ·have hel : (es.map boAv)[q]? = some (boAv es[q]) := by simp [hlt]
   have hbd := List.all_eq_true.1 hall _ (List.getElem_mem hlt)
   generalize es[q] = x at *
   cases v <;> cases x <;> first | (simp at hbd; done) | skip
   all_goals
    repeat' (first | ((first | apply o_do | apply d_do | apply d_yes rfl rfl rfl); first | exact ls_indexAddr_sl tab_ok rfl rfl rfl rfl (by assumption) rfl | exact lsq) | refine a_seq ?_ | refine a_region ?_ | refine o_nil ?_ | refine a_block ?_ | refine a_ret ?_ | refine a_exit ?_ | refine a_skip ?_ | refine a_draw mixed ?_ | refine d_nil (by kernel_rfl) ?_ | refine o_yes rfl rfl rfl ?_ | refine o_no rfl rfl rfl (by decide) ?_ | refine o_no' rfl rfl rfl ?_ | refine a_condT rfl ?_ | refine a_condF rfl ?_ | refine d_no rfl rfl rfl (by decide) ?_ | refine d_no' rfl rfl rfl ?_ | (refine wq2 (fun hb => ?_) (fun hb => ?_) <;> (simp only [hb]; try simp only [hbs, ne_eq] at hb; try (exfalso; first | omega | exact hb trivial))) | fail)
    refine ⟨⟨q + 1, by omega⟩, by dsimp only; omega, ?_⟩
    exact wkS
  ·repeat' (first | ((first | apply o_do | apply d_do | apply d_yes rfl rfl rfl); exact lsq) | refine a_seq ?_ | refine a_region ?_ | refine o_nil ?_ | refine a_block ?_ | refine a_ret ?_ | refine a_exit ?_ | refine a_skip ?_ | refine a_draw mixed ?_ | refine d_nil (by kernel_rfl) ?_ | refine o_yes rfl rfl rfl ?_ | refine o_no rfl rfl rfl (by decide) ?_ | refine o_no' rfl rfl rfl ?_ | refine a_condT rfl ?_ | refine a_condF rfl ?_ | refine d_no rfl rfl rfl (by decide) ?_ | refine d_no' rfl rfl rfl ?_ | (refine wq2 (fun hb => ?_) (fun hb => ?_) <;> (simp only [hb]; try simp only [hbs, ne_eq] at hb; try (exfalso; first | omega | exact hb trivial))) | fail)
   refine rq rfl ?_
   exact fnq
 ·refine ⟨(q0 : Int), ?_, ?_⟩
  ·have : (es.any fun e => v == e) = true := by
    rw [List.any_eq_true]
    exact ⟨es[q0], List.getElem_mem hq0, by simpa using h2⟩
   rw [this]; simp
  refine PC.mk (ac_body tab_ok Tryz.func130 rfl (by kernel_rfl) rfl ?_); intro w0 M μ0; simp only [Tryz.ntmps130, List.length_cons, List.length_nil, Nat.reduceAdd, Nat.reduceSub, numb]
  repeat' (first | ((first | apply o_do | apply d_do | apply d_yes rfl rfl rfl); exact lsq) | refine a_seq ?_ | refine a_region ?_ | refine o_nil ?_ | refine a_block ?_ | refine a_ret ?_ | refine a_exit ?_ | refine a_skip ?_ | refine a_draw mixed ?_ | refine d_nil (by kernel_rfl) ?_ | refine o_yes rfl rfl rfl ?_ | refine o_no rfl rfl rfl (by decide) ?_ | refine o_no' rfl rfl rfl ?_ | refine a_condT rfl ?_ | refine a_condF rfl ?_ | refine d_no rfl rfl rfl (by decide) ?_ | refine d_no' rfl rfl rfl ?_ | (refine wq2 (fun hb => ?_) (fun hb => ?_) <;> (simp only [hb]; try simp only [hbs, ne_eq] at hb; try (exfalso; first | omega | exact hb trivial))) | fail)
  refine a_loop (X := {q : Nat // q ≤ q0}) (fun x => ⟨[(0, .sl 1 (es.map boAv)), (1, .v (.bool v)), (7, .v (.int .i64 es.length)), (8, .v (.int .i64 x.1))], []⟩) (fun x => es.length - x.1) ⟨0, Nat.zero_le _⟩ ?_ ?_
  ·exact wkS
  rintro ⟨q, hq⟩
  dsimp only
  have hlt : q < es.length := by omega
  have hel : (es.map boAv)[q]? = some (boAv es[q]) := by simp [hlt]
  rcases Nat.lt_or_eq_of_le hq with h | h
  ·have hm : es[q] ∈ es.take q0 := by
    rw [List.mem_take_iff_getElem]
    exact ⟨q, by omega, rfl⟩
   have hbd := List.all_eq_true.1 h1 _ hm
   generalize es[q] = x at *
   cases v <;> cases x <;> first | (simp at hbd; done) | skip
   all_goals
    repeat' (first | ((first | apply o_do | apply d_do | apply d_yes rfl rfl rfl); first | exact ls_indexAddr_sl tab_ok rfl rfl rfl rfl (by assumption) rfl | exact lsq) | refine a_seq ?_ | refine a_region ?_ | refine o_nil ?_ | refine a_block ?_ | refine a_ret ?_ | refine a_exit ?_ | refine a_skip ?_ | refine a_draw mixed ?_ | refine d_nil (by kernel_rfl) ?_ | refine o_yes rfl rfl rfl ?_ | refine o_no rfl rfl rfl (by decide) ?_ | refine o_no' rfl rfl rfl ?_ | refine a_condT rfl ?_ | refine a_condF rfl ?_ | refine d_no rfl rfl rfl (by decide) ?_ | refine d_no' rfl rfl rfl ?_ | (refine wq2 (fun hb => ?_) (fun hb => ?_) <;> (simp only [hb]; try simp only [hbs, ne_eq] at hb; try (exfalso; first | omega | exact hb trivial))) | fail)
    refine ⟨⟨q + 1, by omega⟩, by dsimp only; omega, ?_⟩
    exact wkS
  ·subst h
   generalize es[q] = x at *
   cases v <;> cases x <;> first | (simp at h2; done) | skip
   all_goals
    repeat' (first | ((first | apply o_do | apply d_do | apply d_yes rfl rfl rfl); first | exact ls_indexAddr_sl tab_ok rfl rfl rfl rfl (by assumption) rfl | exact lsq) | refine a_seq ?_ | refine a_region ?_ | refine o_nil ?_ | refine a_block ?_ | refine a_ret ?_ | refine a_exit ?_ | refine a_skip ?_ | refine a_draw mixed ?_ | refine d_nil (by kernel_rfl) ?_ | refine o_yes rfl rfl rfl ?_ | refine o_no rfl rfl rfl (by decide) ?_ | refine o_no' rfl rfl rfl ?_ | refine a_condT rfl ?_ | refine a_condF rfl ?_ | refine d_no rfl rfl rfl (by decide) ?_ | refine d_no' rfl rfl rfl ?_ | (refine wq2 (fun hb => ?_) (fun hb => ?_) <;> (simp only [hb]; try simp only [hbs, ne_eq] at hb; try (exfalso; first | omega | exact hb trivial))) | fail)
    refine rq rfl ?_
    exact fnq
theorem b_Contains (es : List Bool) (v : Bool) (hx : es.length ≤ 9223372036854775807) : PC Tryz.prog 101 [.sl 1 (es.map boAv), .v (.bool v)] (.v (.bool (es.any fun e => v == e))) := by
 obtain ⟨i, h1, h2⟩ := b_Index es v hx
 rw [← h1]
 refine PC.mk (ac_body tab_ok Tryz.func101 rfl (by kernel_rfl) rfl ?_); intro w0 M μ0; simp only [Tryz.ntmps101, List.length_cons, List.length_nil, Nat.reduceAdd, Nat.reduceSub, numb]
 repeat' (first | ((first | apply o_do | apply d_do | apply d_yes rfl rfl rfl); first | exact lsc (h2) | exact lsq) | refine a_seq ?_ | refine a_region ?_ | refine o_nil ?_ | refine a_block ?_ | refine a_ret ?_ | refine a_exit ?_ | refine a_skip ?_ | refine a_draw mixed ?_ | refine d_nil (by kernel_rfl) ?_ | refine o_yes rfl rfl rfl ?_ | refine o_no rfl rfl rfl (by decide) ?_ | refine o_no' rfl rfl rfl ?_ | refine a_condT rfl ?_ | refine a_condF rfl ?_ | refine d_no rfl rfl rfl (by decide) ?_ | refine d_no' rfl rfl rfl ?_ | (refine wq2 (fun hb => ?_) (fun hb => ?_) <;> (simp only [hb]; try simp only [hbs, ne_eq] at hb; try (exfalso; first | omega | exact hb trivial))) | fail)
 all_goals refine rq rfl ?_
 all_goals exact fnq
theorem l_Right1 (x : It) : PC Tryz.prog 112 [.agg x.av] (.v (.bool (!itR x))) := by
 have h := i_Right x
 refine PC.mk (ac_body tab_ok Tryz.func112 rfl (by kernel_rfl) rfl ?_); intro w0 M μ0; simp only [Tryz.ntmps112, List.length_cons, List.length_nil, Nat.reduceAdd, Nat.reduceSub, numb]
 repeat' (first | ((first | apply o_do | apply d_do | apply d_yes rfl rfl rfl); first | exact lsc (h) | exact lsq) | refine a_seq ?_ | refine a_region ?_ | refine o_nil ?_ | refine a_block ?_ | refine a_ret ?_ | refine a_exit ?_ | refine a_skip ?_ | refine a_draw mixed ?_ | refine d_nil (by kernel_rfl) ?_ | refine o_yes rfl rfl rfl ?_ | refine o_no rfl rfl rfl (by decide) ?_ | refine o_no' rfl rfl rfl ?_ | refine a_condT rfl ?_ | refine a_condF rfl ?_ | refine d_no rfl rfl rfl (by decide) ?_ | refine d_no' rfl rfl rfl ?_ | (refine wq2 (fun hb => ?_) (fun hb => ?_) <;> (simp only [hb]; try simp only [hbs, ne_eq] at hb; try (exfalso; first | omega | exact hb trivial))) | fail)
 all_goals refine rq rfl ?_
 all_goals exact fnq
theorem l_IdxT (es : List It) (hx : es.length ≤ 9223372036854775807) : ∃ i : Int, (decide (0 ≤ i) = !es.all itR) ∧ PC Tryz.prog 144 [.sl 11 (es.map It.av), .clo (.func 112) [] []] (.v (.int .i64 i)) := by
 rcases fst_all itR es with hall | ⟨q0, hq0, h1, h2⟩
 ·refine ⟨-1, by rw [hall]; rfl, ?_⟩
  refine PC.mk (ac_body tab_ok Tryz.func144 rfl (by kernel_rfl) rfl ?_); intro w0 M μ0; simp only [Tryz.ntmps144, List.length_cons, List.length_nil, Nat.reduceAdd, Nat.reduceSub, numb]
  repeat' (first | ((first | apply o_do | apply d_do | apply d_yes rfl rfl rfl); exact lsq) | refine a_seq ?_ | refine a_region ?_ | refine o_nil ?_ | refine a_block ?_ | refine a_ret ?_ | refine a_exit ?_ | refine a_skip ?_ | refine a_draw mixed ?_ | refine d_nil (by kernel_rfl) ?_ | refine o_yes rfl rfl rfl ?_ | refine o_no rfl rfl rfl (by decide) ?_ | refine o_no' rfl rfl rfl ?_ | refine a_condT rfl ?_ | refine a_condF rfl ?_ | refine d_no rfl rfl rfl (by decide) ?_ | refine d_no' rfl rfl rfl ?_ | (refine wq2 (fun hb => ?_) (fun hb => ?_) <;> (simp only [hb]; try simp only [hbs, ne_eq] at hb; try (exfalso; first | omega | exact hb trivial))) | fail)
  refine a_loop (X := {q : Nat // q ≤ es.length}) (fun x => ⟨[(0, .sl 11 (es.map It.av)), (1, .clo (.func 112) [] []), (7, .v (.int .i64 es.length)), (8, .v (.int .i64 x.1))], []⟩) (fun x => es.length - x.1) ⟨0, Nat.zero_le _⟩ ?_ ?_
  ·exact wkS
  rintro ⟨q, hq⟩
  dsimp only
  by_cases hlt : q < es.length
  ·have hel : (es.map It.av)[q]? = some (It.av es[q]) := by simp [hlt]
   have hbd := l_Right1 es[q]
   rw [show itR es[q] = true from List.all_eq_true.1 hall _ (List.getElem_mem hlt)] at hbd
   generalize es[q] = x at *
   repeat' (first | ((first | apply o_do | apply d_do | apply d_yes rfl rfl rfl); first | exact lsc (hbd) | exact lsq) | refine a_seq ?_ | refine a_region ?_ | refine o_nil ?_ | refine a_block ?_ | refine a_ret ?_ | refine a_exit ?_ | refine a_skip ?_ | refine a_draw mixed ?_ | refine d_nil (by kernel_rfl) ?_ | refine o_yes rfl rfl rfl ?_ | refine o_no rfl rfl rfl (by decide) ?_ | refine o_no' rfl rfl rfl ?_ | refine a_condT rfl ?_ | refine a_condF rfl ?_ | refine d_no rfl rfl rfl (by decide) ?_ | refine d_no' rfl rfl rfl ?_ | (refine wq2 (fun hb => ?_) (fun hb => ?_) <;> (simp only [hb]; try simp only [hbs, ne_eq] at hb; try (exfalso; first | omega | exact hb trivial))) | fail)
   refine ⟨⟨q + 1, by omega⟩, by dsimp only; omega, ?_⟩
   exact wkS
  ·repeat' (first | ((first | apply o_do | apply d_do | apply d_yes rfl rfl rfl); exact lsq) | refine a_seq ?_ | refine a_region ?_ | refine o_nil ?_ | refine a_block ?_ | refine a_ret ?_ | refine a_exit ?_ | refine a_skip ?_ | refine a_draw mixed ?_ | refine d_nil (by kernel_rfl) ?_ | refine o_yes rfl rfl rfl ?_ | refine o_no rfl rfl rfl (by decide) ?_ | refine o_no' rfl rfl rfl ?_ | refine a_condT rfl ?_ | refine a_condF rfl ?_ | refine d_no rfl rfl rfl (by decide) ?_ | refine d_no' rfl rfl rfl ?_ | (refine wq2 (fun hb => ?_) (fun hb => ?_) <;> (simp only [hb]; try simp only [hbs, ne_eq] at hb; try (exfalso; first | omega | exact hb trivial))) | fail)
   refine rq rfl ?_
   exact fnq
 ·refine ⟨(q0 : Int), ?_, ?_⟩
  ·have : (es.all itR) = false := by
    rw [List.all_eq_false]
    exact ⟨es[q0], List.getElem_mem hq0, by simp [h2]⟩
   rw [this]; simp
  refine PC.mk (ac_body tab_ok Tryz.func144 rfl (by kernel_rfl) rfl ?_); intro w0 M μ0; simp only [Tryz.ntmps144, List.length_cons, List.length_nil, Nat.reduceAdd, Nat.reduceSub, numb]
  repeat' (first | ((first | apply o_do | apply d_do | apply d_yes rfl rfl rfl); exact lsq) | refine a_seq ?_ | refine a_region ?_ | refine o_nil ?_ | refine a_block ?_ | refine a_ret ?_ | refine a_exit ?_ | refine a_skip ?_ | refine a_draw mixed ?_ | refine d_nil (by kernel_rfl) ?_ | refine o_yes rfl rfl rfl ?_ | refine o_no rfl rfl rfl (by decide) ?_ | refine o_no' rfl rfl rfl ?_ | refine a_condT rfl ?_ | refine a_condF rfl ?_ | refine d_no rfl rfl rfl (by decide) ?_ | refine d_no' rfl rfl rfl ?_ | (refine wq2 (fun hb => ?_) (fun hb => ?_) <;> (simp only [hb]; try simp only [hbs, ne_eq] at hb; try (exfalso; first | omega | exact hb trivial))) | fail)
  refine a_loop (X := {q : Nat // q ≤ q0}) (fun x => ⟨[(0, .sl 11 (es.map It.av)), (1, .clo (.func 112) [] []), (7, .v (.int .i64 es.length)), (8, .v (.int .i64 x.1))], []⟩) (fun x => es.length - x.1) ⟨0, Nat.zero_le _⟩ ?_ ?_
  ·exact wkS
  rintro ⟨q, hq⟩
  dsimp only
  have hlt : q < es.length := by omega
  have hel : (es.map It.av)[q]? = some (It.av es[q]) := by simp [hlt]
  have hbd := l_Right1 es[q]
  rcases Nat.lt_or_eq_of_le hq with h | h
  ·have hm : es[q] ∈ es.take q0 := by
    rw [List.mem_take_iff_getElem]
    exact ⟨q, by omega, rfl⟩
   rw [show itR es[q] = true from List.all_eq_true.1 h1 _ hm] at hbd
   generalize es[q] = x at *
   repeat' (first | ((first | apply o_do | apply d_do | apply d_yes rfl rfl rfl); first | exact lsc (hbd) | exact lsq) | refine a_seq ?_ | refine a_region ?_ | refine o_nil ?_ | refine a_block ?_ | refine a_ret ?_ | refine a_exit ?_ | refine a_skip ?_ | refine a_draw mixed ?_ | refine d_nil (by kernel_rfl) ?_ | refine o_yes rfl rfl rfl ?_ | refine o_no rfl rfl rfl (by decide) ?_ | refine o_no' rfl rfl rfl ?_ | refine a_condT rfl ?_ | refine a_condF rfl ?_ | refine d_no rfl rfl rfl (by decide) ?_ | refine d_no' rfl rfl rfl ?_ | (refine wq2 (fun hb => ?_) (fun hb => ?_) <;> (simp only [hb]; try simp only [hbs, ne_eq] at hb; try (exfalso; first | omega | exact hb trivial))) | fail)
   refine ⟨⟨q + 1, by omega⟩, by dsimp only; omega, ?_⟩
   exact wkS
  ·subst h
   rw [show itR es[q] = false from h2] at hbd
   generalize es[q] = x at *
   repeat' (first | ((first | apply o_do | apply d_do | apply d_yes rfl rfl rfl); first | exact lsc (hbd) | exact lsq) | refine a_seq ?_ | refine a_region ?_ | refine o_nil ?_ | refine a_block ?_ | refine a_ret ?_ | refine a_exit ?_ | refine a_skip ?_ | refine a_draw mixed ?_ | refine d_nil (by kernel_rfl) ?_ | refine o_yes rfl rfl rfl ?_ | refine o_no rfl rfl rfl (by decide) ?_ | refine o_no' rfl rfl rfl ?_ | refine a_condT rfl ?_ | refine a_condF rfl ?_ | refine d_no rfl rfl rfl (by decide) ?_ | refine d_no' rfl rfl rfl ?_ | (refine wq2 (fun hb => ?_) (fun hb => ?_) <;> (simp only [hb]; try simp only [hbs, ne_eq] at hb; try (exfalso; first | omega | exact hb trivial))) | fail)
   refine rq rfl ?_
   exact fnq
theorem l_ConT (es : List It) (hx : es.length ≤ 9223372036854775807) : PC Tryz.prog 111 [.sl 11 (es.map It.av), .clo (.func 112) [] []] (.v (.bool (!es.all itR))) := by
 obtain ⟨i, h1, h2⟩ := l_IdxT es hx
 rw [← h1]
 refine PC.mk (ac_body tab_ok Tryz.func111 rfl (by kernel_rfl) rfl ?_); intro w0 M μ0; simp only [Tryz.ntmps111, List.length_cons, List.length_nil, Nat.reduceAdd, Nat.reduceSub, numb]
 repeat' (first | ((first | apply o_do | apply d_do | apply d_yes rfl rfl rfl); first | exact lsc (h2) | exact lsq) | refine a_seq ?_ | refine a_region ?_ | refine o_nil ?_ | refine a_block ?_ | refine a_ret ?_ | refine a_exit ?_ | refine a_skip ?_ | refine a_draw mixed ?_ | refine d_nil (by kernel_rfl) ?_ | refine o_yes rfl rfl rfl ?_ | refine o_no rfl rfl rfl (by decide) ?_ | refine o_no' rfl rfl rfl ?_ | refine a_condT rfl ?_ | refine a_condF rfl ?_ | refine d_no rfl rfl rfl (by decide) ?_ | refine d_no' rfl rfl rfl ?_ | (refine wq2 (fun hb => ?_) (fun hb => ?_) <;> (simp only [hb]; try simp only [hbs, ne_eq] at hb; try (exfalso; first | omega | exact hb trivial))) | fail)
 all_goals refine rq rfl ?_
 all_goals exact fnq
def alP (n : Int) (got : List Bool) (held : List (List It)) : Prop := 1 ≤ got.length ∧ got.length ≤ 8 ∧ held.length = got.length ∧ 0 ≤ n ∧ n ≤ 1073741824
def alQ (n : Int) (got : List Bool) : Bool := (got.any id == decide (0 < n)) && got.any (!·)
theorem any_true (l : List Bool) : (l.any fun e => true == e) = l.any id := by congr 1; funext e; cases e <;> rfl
theorem any_false (l : List Bool) : (l.any fun e => false == e) = l.any (!·) := by congr 1; funext e; cases e <;> rfl
theorem alR_eq {n : Int} {got : List Bool} {held : List (List It)} (h : alP n got held) : alR ⟨n, got, held⟩ = (alQ n got && (List.range held.length).all (heG got held)) := by
 obtain ⟨h1, h2, h3, h4, h5⟩ := h
 simp [alR, alQ, h1, h2, h3, h4, h5, Bool.and_assoc]
theorem alR_pre {n : Int} {got : List Bool} {held : List (List It)} (h : ¬ alP n got held) : alR ⟨n, got, held⟩ = false := by
 cases hm : alR ⟨n, got, held⟩
 ·rfl
 ·simp only [alR, Bool.and_eq_true, decide_eq_true_eq] at hm
  exact absurd ⟨hm.1, hm.2.1, hm.2.2.1, hm.2.2.2.1, hm.2.2.2.2.1⟩ h
theorem l_Right (a : Al) (hg : a.got.length ≤ 9223372036854775807) (hh : a.held.length ≤ 9223372036854775807) (hi : ∀ l ∈ a.held, l.length ≤ 9223372036854775807) : PC Tryz.prog 75 [.agg a.av] (.v (.bool (alR a))) := by
 obtain ⟨n, got, held⟩ := a
 dsimp only at hg hh hi
 have hc1 := b_Contains got true hg
 have hc2 := b_Contains got false hg
 rw [any_true] at hc1
 rw [any_false] at hc2
 have hn1 : (got.map boAv).length = got.length := List.length_map _
 have hn2 : (held.map heAv).length = held.length := List.length_map _
 simp only [Al.av]
 by_cases hpre : alP n got held
 ·rw [alR_eq hpre]
  have hp := hpre
  obtain ⟨a1, a2, a3, a4, a5⟩ := hp
  cases hQ : alQ n got
  ·rw [Bool.false_and]
   unfold alQ at hQ
   cases e1 : got.any id <;> cases e2 : got.any (!·) <;> rw [e1] at hc1 hQ <;> rw [e2] at hc2 hQ
   all_goals
    refine PC.mk (ac_body tab_ok Tryz.func75 rfl (by kernel_rfl) rfl ?_); intro w0 M μ0; simp only [Tryz.ntmps75, List.length_cons, List.length_nil, Nat.reduceAdd, Nat.reduceSub, numb]
    repeat' (first | ((first | apply o_do | apply d_do | apply d_yes rfl rfl rfl); first | exact lsc (hc1) | exact lsc (hc2) | exact lsq) | refine a_seq ?_ | refine a_region ?_ | refine o_nil ?_ | refine a_block ?_ | refine a_ret ?_ | refine a_exit ?_ | refine a_skip ?_ | refine a_draw mixed ?_ | refine d_nil (by kernel_rfl) ?_ | refine o_yes rfl rfl rfl ?_ | refine o_no rfl rfl rfl (by decide) ?_ | refine o_no' rfl rfl rfl ?_ | refine a_condT rfl ?_ | refine a_condF rfl ?_ | refine d_no rfl rfl rfl (by decide) ?_ | refine d_no' rfl rfl rfl ?_ | (refine wq2 (fun hb => ?_) (fun hb => ?_) <;> (simp only [hb]; try simp only [hbs, ne_eq] at hb; try (exfalso; first | omega | exact hb trivial))) | fail)
    all_goals first
     | (exfalso; simp_all; done)
     | (refine rq rfl ?_; (exact fnq); done)
  ·rw [Bool.true_and]
   have hQ2 := hQ
   unfold alQ at hQ2
   simp only [Bool.and_eq_true, beq_iff_eq] at hQ2
   obtain ⟨e1, e2⟩ := hQ2
   rw [e1] at hc1
   rw [e2] at hc2
   refine PC.mk (ac_body tab_ok Tryz.func75 rfl (by kernel_rfl) rfl ?_); intro w0 M μ0; simp only [Tryz.ntmps75, List.length_cons, List.length_nil, Nat.reduceAdd, Nat.reduceSub, numb]
   repeat' (first | ((first | apply o_do | apply d_do | apply d_yes rfl rfl rfl); first | exact lsc (hc1) | exact lsc (hc2) | exact lsq) | refine a_seq ?_ | refine a_region ?_ | refine o_nil ?_ | refine a_block ?_ | refine a_ret ?_ | refine a_exit ?_ | refine a_skip ?_ | refine a_draw mixed ?_ | refine d_nil (by kernel_rfl) ?_ | refine o_yes rfl rfl rfl ?_ | refine o_no rfl rfl rfl (by decide) ?_ | refine o_no' rfl rfl rfl ?_ | refine a_condT rfl ?_ | refine a_condF rfl ?_ | refine d_no rfl rfl rfl (by decide) ?_ | refine d_no' rfl rfl rfl ?_ | (refine wq2 (fun hb => ?_) (fun hb => ?_) <;> (simp only [hb]; try simp only [hbs, ne_eq] at hb; try (exfalso; first | omega | exact hb trivial))) | fail)
   ·exfalso
    simp_all
   refine a_loop (X := {q : Nat // q ≤ held.length ∧ (List.range q).all (heG got held) = true}) (fun x => ⟨[(1, .ref 0 0), (48, .sl 1 (held.map heAv)), (49, .v (.int .i64 held.length)), (50, .v (.int .i64 x.1))], [(0, .box 40 [.v (.int .i64 n), .sl 1 (got.map boAv), .sl 1 (held.map heAv)])]⟩) (fun x => held.length - x.1) ⟨0, Nat.zero_le _, rfl⟩ ?_ ?_
   ·exact wkS
   rintro ⟨q, hq, hok⟩
   dsimp only
   by_cases hlt : q < held.length
   ·have hel : (held.map heAv)[q]? = some (heAv held[q]) := by simp [hlt]
    have hlg : q < got.length := by omega
    have hel2 : (got.map boAv)[q]? = some (boAv got[q]) := by simp [hlg]
    have hG : heG got held q = (decide (held[q].length ≤ 16) && ((decide (held[q].length = 0) || got[q]) && held[q].all itR)) := by simp only [heG, getD_at hlt, getD_at hlg]
    have hbad : heG got held q = false → (List.range held.length).all (heG got held) = false := fun h => rall_fail hlt h
    have hgo : heG got held q = true → (List.range (q + 1)).all (heG got held) = true := fun h => by rw [rall_snoc, hok, h]; rfl
    have hlen := hi _ (List.getElem_mem hlt)
    have hcT := l_ConT held[q] hlen
    generalize held[q] = l at *
    generalize got[q] = g at *
    have hn3 : (l.map It.av).length = l.length := List.length_map _
    have hl0 : ∀ b : Bool, (decide (l.length = 0) || b) = (if l.length = 0 then true else b) := fun b => by by_cases h : l.length = 0 <;> simp [h]
    by_cases h16 : l.length ≤ 16
    ·by_cases h0 : l.length = 0
     ·obtain rfl : l = [] := List.length_eq_zero_iff.1 h0
      have hg1 := hgo (by rw [hG]; rfl)
      repeat' (first | ((first | apply o_do | apply d_do | apply d_yes rfl rfl rfl); first | exact ls_indexAddr_sl tab_ok rfl rfl rfl rfl hel rfl | exact ls_indexAddr_sl tab_ok rfl rfl rfl rfl hel2 rfl | exact lsc (hcT) | exact lsq) | refine a_seq ?_ | refine a_region ?_ | refine o_nil ?_ | refine a_block ?_ | refine a_ret ?_ | refine a_exit ?_ | refine a_skip ?_ | refine a_draw mixed ?_ | refine d_nil (by kernel_rfl) ?_ | refine o_yes rfl rfl rfl ?_ | refine o_no rfl rfl rfl (by decide) ?_ | refine o_no' rfl rfl rfl ?_ | refine a_condT rfl ?_ | refine a_condF rfl ?_ | refine d_no rfl rfl rfl (by decide) ?_ | refine d_no' rfl rfl rfl ?_ | (refine wq2 (fun hb => ?_) (fun hb => ?_) <;> (simp only [hb]; try simp only [hbs, ne_eq] at hb; try (exfalso; first | omega | exact hb trivial))) | fail)
      refine ⟨⟨q + 1, by omega, hg1⟩, by dsimp only; omega, ?_⟩
      exact wkS
     ·cases g
      ·rw [hbad (by rw [hG]; simp; intro _ h; exact absurd h (by simpa using h0))]
       repeat' (first | ((first | apply o_do | apply d_do | apply d_yes rfl rfl rfl); first | exact ls_indexAddr_sl tab_ok rfl rfl rfl rfl hel rfl | exact ls_indexAddr_sl tab_ok rfl rfl rfl rfl hel2 rfl | exact lsc (hcT) | exact lsq) | refine a_seq ?_ | refine a_region ?_ | refine o_nil ?_ | refine a_block ?_ | refine a_ret ?_ | refine a_exit ?_ | refine a_skip ?_ | refine a_draw mixed ?_ | refine d_nil (by kernel_rfl) ?_ | refine o_yes rfl rfl rfl ?_ | refine o_no rfl rfl rfl (by decide) ?_ | refine o_no' rfl rfl rfl ?_ | refine a_condT rfl ?_ | refine a_condF rfl ?_ | refine d_no rfl rfl rfl (by decide) ?_ | refine d_no' rfl rfl rfl ?_ | (refine wq2 (fun hb => ?_) (fun hb => ?_) <;> (simp only [hb]; try simp only [hbs, ne_eq] at hb; try (exfalso; first | omega | exact hb trivial))) | fail)
       refine rq rfl ?_
       exact fnq
      ·cases hall : l.all itR
       ·rw [hall] at hcT
        rw [hbad (by rw [hG, hall]; simp)]
        repeat' (first | ((first | apply o_do | apply d_do | apply d_yes rfl rfl rfl); first | exact ls_indexAddr_sl tab_ok rfl rfl rfl rfl hel rfl | exact ls_indexAddr_sl tab_ok rfl rfl rfl rfl hel2 rfl | exact lsc (hcT) | exact lsq) | refine a_seq ?_ | refine a_region ?_ | refine o_nil ?_ | refine a_block ?_ | refine a_ret ?_ | refine a_exit ?_ | refine a_skip ?_ | refine a_draw mixed ?_ | refine d_nil (by kernel_rfl) ?_ | refine o_yes rfl rfl rfl ?_ | refine o_no rfl rfl rfl (by decide) ?_ | refine o_no' rfl rfl rfl ?_ | refine a_condT rfl ?_ | refine a_condF rfl ?_ | refine d_no rfl rfl rfl (by decide) ?_ | refine d_no' rfl rfl rfl ?_ | (refine wq2 (fun hb => ?_) (fun hb => ?_) <;> (simp only [hb]; try simp only [hbs, ne_eq] at hb; try (exfalso; first | omega | exact hb trivial))) | fail)
        refine rq rfl ?_
        exact fnq
       ·rw [hall] at hcT
        have hg1 := hgo (by rw [hG, hall]; simp [h16])
        repeat' (first | ((first | apply o_do | apply d_do | apply d_yes rfl rfl rfl); first | exact ls_indexAddr_sl tab_ok rfl rfl rfl rfl hel rfl | exact ls_indexAddr_sl tab_ok rfl rfl rfl rfl hel2 rfl | exact lsc (hcT) | exact lsq) | refine a_seq ?_ | refine a_region ?_ | refine o_nil ?_ | refine a_block ?_ | refine a_ret ?_ | refine a_exit ?_ | refine a_skip ?_ | refine a_draw mixed ?_ | refine d_nil (by kernel_rfl) ?_ | refine o_yes rfl rfl rfl ?_ | refine o_no rfl rfl rfl (by decide) ?_ | refine o_no' rfl rfl rfl ?_ | refine a_condT rfl ?_ | refine a_condF rfl ?_ | refine d_no rfl rfl rfl (by decide) ?_ | refine d_no' rfl rfl rfl ?_ | (refine wq2 (fun hb => ?_) (fun hb => ?_) <;> (simp only [hb]; try simp only [hbs, ne_eq] at hb; try (exfalso; first | omega | exact hb trivial))) | fail)
        refine ⟨⟨q + 1, by omega, hg1⟩, by dsimp only; omega, ?_⟩
        exact wkS
    ·rw [hbad (by rw [hG]; simp [h16])]
     repeat' (first | ((first | apply o_do | apply d_do | apply d_yes rfl rfl rfl); first | exact ls_indexAddr_sl tab_ok rfl rfl rfl rfl hel rfl | exact ls_indexAddr_sl tab_ok rfl rfl rfl rfl hel2 rfl | exact lsc (hcT) | exact lsq) | refine a_seq ?_ | refine a_region ?_ | refine o_nil ?_ | refine a_block ?_ | refine a_ret ?_ | refine a_exit ?_ | refine a_skip ?_ | refine a_draw mixed ?_ | refine d_nil (by kernel_rfl) ?_ | refine o_yes rfl rfl rfl ?_ | refine o_no rfl rfl rfl (by decide) ?_ | refine o_no' rfl rfl rfl ?_ | refine a_condT rfl ?_ | refine a_condF rfl ?_ | refine d_no rfl rfl rfl (by decide) ?_ | refine d_no' rfl rfl rfl ?_ | (refine wq2 (fun hb => ?_) (fun hb => ?_) <;> (simp only [hb]; try simp only [hbs, ne_eq] at hb; try (exfalso; first | omega | exact hb trivial))) | fail)
     refine rq rfl ?_
     exact fnq
   ·obtain rfl : q = held.length := by omega
    rw [hok]
    repeat' (first | ((first | apply o_do | apply d_do | apply d_yes rfl rfl rfl); exact lsq) | refine a_seq ?_ | refine a_region ?_ | refine o_nil ?_ | refine a_block ?_ | refine a_ret ?_ | refine a_exit ?_ | refine a_skip ?_ | refine a_draw mixed ?_ | refine d_nil (by kernel_rfl) ?_ | refine o_yes rfl rfl rfl ?_ | refine o_no rfl rfl rfl (by decide) ?_ | refine o_no' rfl rfl rfl ?_ | refine a_condT rfl ?_ | refine a_condF rfl ?_ | refine d_no rfl rfl rfl (by decide) ?_ | refine d_no' rfl rfl rfl ?_ | (refine wq2 (fun hb => ?_) (fun hb => ?_) <;> (simp only [hb]; try simp only [hbs, ne_eq] at hb; try (exfalso; first | omega | exact hb trivial))) | fail)
    refine rq rfl ?_
    exact fnq
 ·rw [alR_pre hpre]
  unfold alP at hpre
  have hq : ∀ b c : Bool, True := fun _ _ => trivial
  refine PC.mk (ac_body tab_ok Tryz.func75 rfl (by kernel_rfl) rfl ?_); intro w0 M μ0; simp only [Tryz.ntmps75, List.length_cons, List.length_nil, Nat.reduceAdd, Nat.reduceSub, numb]
  by_cases a1 : got.length < 1
  ·repeat' (first | ((first | apply o_do | apply d_do | apply d_yes rfl rfl rfl); exact lsq) | refine a_seq ?_ | refine a_region ?_ | refine o_nil ?_ | refine a_block ?_ | refine a_ret ?_ | refine a_exit ?_ | refine a_skip ?_ | refine a_draw mixed ?_ | refine d_nil (by kernel_rfl) ?_ | refine o_yes rfl rfl rfl ?_ | refine o_no rfl rfl rfl (by decide) ?_ | refine o_no' rfl rfl rfl ?_ | refine a_condT rfl ?_ | refine a_condF rfl ?_ | refine d_no rfl rfl rfl (by decide) ?_ | refine d_no' rfl rfl rfl ?_ | (refine wq2 (fun hb => ?_) (fun hb => ?_) <;> (simp only [hb]; try simp only [hbs, ne_eq] at hb; try (exfalso; first | omega | exact hb trivial))) | fail)
   all_goals refine rq rfl ?_
   all_goals exact fnq
  by_cases a2 : 8 < got.length
  ·repeat' (first | ((first | apply o_do | apply d_do | apply d_yes rfl rfl rfl); exact lsq) | refine a_seq ?_ | refine a_region ?_ | refine o_nil ?_ | refine a_block ?_ | refine a_ret ?_ | refine a_exit ?_ | refine a_skip ?_ | refine a_draw mixed ?_ | refine d_nil (by kernel_rfl) ?_ | refine o_yes rfl rfl rfl ?_ | refine o_no rfl rfl rfl (by decide) ?_ | refine o_no' rfl rfl rfl ?_ | refine a_condT rfl ?_ | refine a_condF rfl ?_ | refine d_no rfl rfl rfl (by decide) ?_ | refine d_no' rfl rfl rfl ?_ | (refine wq2 (fun hb => ?_) (fun hb => ?_) <;> (simp only [hb]; try simp only [hbs, ne_eq] at hb; try (exfalso; first | omega | exact hb trivial))) | fail)
   all_goals refine rq rfl ?_
   all_goals exact fnq
  by_cases a3 : held.length = got.length
  ·by_cases a4 : n < 0
   ·repeat' (first | ((first | apply o_do | apply d_do | apply d_yes rfl rfl rfl); exact lsq) | refine a_seq ?_ | refine a_region ?_ | refine o_nil ?_ | refine a_block ?_ | refine a_ret ?_ | refine a_exit ?_ | refine a_skip ?_ | refine a_draw mixed ?_ | refine d_nil (by kernel_rfl) ?_ | refine o_yes rfl rfl rfl ?_ | refine o_no rfl rfl rfl (by decide) ?_ | refine o_no' rfl rfl rfl ?_ | refine a_condT rfl ?_ | refine a_condF rfl ?_ | refine d_no rfl rfl rfl (by decide) ?_ | refine d_no' rfl rfl rfl ?_ | (refine wq2 (fun hb => ?_) (fun hb => ?_) <;> (simp only [hb]; try simp only [hbs, ne_eq] at hb; try (exfalso; first | omega | exact hb trivial))) | fail)
    all_goals refine rq rfl ?_
    all_goals exact fnq
   ·have a5 : 1073741824 < n := by omega
    repeat' (first | ((first | apply o_do | apply d_do | apply d_yes rfl rfl rfl); exact lsq) | refine a_seq ?_ | refine a_region ?_ | refine o_nil ?_ | refine a_block ?_ | refine a_ret ?_ | refine a_exit ?_ | refine a_skip ?_ | refine a_draw mixed ?_ | refine d_nil (by kernel_rfl) ?_ | refine o_yes rfl rfl rfl ?_ | refine o_no rfl rfl rfl (by decide) ?_ | refine o_no' rfl rfl rfl ?_ | refine a_condT rfl ?_ | refine a_condF rfl ?_ | refine d_no rfl rfl rfl (by decide) ?_ | refine d_no' rfl rfl rfl ?_ | (refine wq2 (fun hb => ?_) (fun hb => ?_) <;> (simp only [hb]; try simp only [hbs, ne_eq] at hb; try (exfalso; first | omega | exact hb trivial))) | fail)
    all_goals refine rq rfl ?_
    all_goals exact fnq
  ·repeat' (first | ((first | apply o_do | apply d_do | apply d_yes rfl rfl rfl); exact lsq) | refine a_seq ?_ | refine a_region ?_ | refine o_nil ?_ | refine a_block ?_ | refine a_ret ?_ | refine a_exit ?_ | refine a_skip ?_ | refine a_draw mixed ?_ | refine d_nil (by kernel_rfl) ?_ | refine o_yes rfl rfl rfl ?_ | refine o_no rfl rfl rfl (by decide) ?_ | refine o_no' rfl rfl rfl ?_ | refine a_condT rfl ?_ | refine a_condF rfl ?_ | refine d_no rfl rfl rfl (by decide) ?_ | refine d_no' rfl rfl rfl ?_ | (refine wq2 (fun hb => ?_) (fun hb => ?_) <;> (simp only [hb]; try simp only [hbs, ne_eq] at hb; try (exfalso; first | omega | exact hb trivial))) | fail)
   all_goals refine rq rfl ?_
   all_goals exact fnq
def newIns (n : Int) : List (Int × Bool) := if 1 ≤ n ∧ n ≤ 8 then List.replicate n.toNat (0, false) else []
def newE (n : Int) : Int := if 1 ≤ n ∧ n ≤ 8 then 0 else 1
theorem m_New (n : Int) : PC Tryz.prog 35 [.v (.int .i64 n)] (.tup [.agg (Mk.av ⟨newIns n, [], 0⟩), .v (.int .i64 (newE n))]) := by
 unfold newIns newE
 by_cases hn : 1 ≤ n ∧ n ≤ 8
 ·rw [if_pos hn, if_pos hn]
  obtain ⟨q, rfl⟩ : ∃ q : Nat, n = (q : Int) := ⟨n.toNat, by omega⟩
  obtain ⟨h1, h2⟩ := hn
  have hl : q ≤ 1000000 := by omega
  have e : (List.replicate (q : Int).toNat (0, false)).map inAvM = List.replicate q ([Value.int .i64 0, Value.bool false].map AV.v) := by rw [List.map_replicate]; rfl
  simp only [Mk.av, e, List.map_nil]
  refine PC.mk (ac_body tab_ok Tryz.func35 rfl (by kernel_rfl) rfl ?_); intro w0 M μ0; simp only [Tryz.ntmps35, List.length_cons, List.length_nil, Nat.reduceAdd, Nat.reduceSub, numb]
  repeat' (first | ((first | apply o_do | apply d_do | apply d_yes rfl rfl rfl); first | exact ls_make (k := 1) tab_ok tab_zero rfl rfl rfl rfl rfl rfl rfl hl rfl rfl rfl | exact lsq) | refine a_seq ?_ | refine a_region ?_ | refine o_nil ?_ | refine a_block ?_ | refine a_ret ?_ | refine a_exit ?_ | refine a_skip ?_ | refine a_draw mixed ?_ | refine d_nil (by kernel_rfl) ?_ | refine o_yes rfl rfl rfl ?_ | refine o_no rfl rfl rfl (by decide) ?_ | refine o_no' rfl rfl rfl ?_ | refine a_condT rfl ?_ | refine a_condF rfl ?_ | refine d_no rfl rfl rfl (by decide) ?_ | refine d_no' rfl rfl rfl ?_ | (refine wq2 (fun hb => ?_) (fun hb => ?_) <;> (simp only [hb]; try simp only [hbs, ne_eq] at hb; try (exfalso; first | omega | exact hb trivial))) | fail)
  all_goals refine rq rfl ?_
  all_goals exact fnq
 ·rw [if_neg hn, if_neg hn]
  refine PC.mk (ac_body tab_ok Tryz.func35 rfl (by kernel_rfl) rfl ?_); intro w0 M μ0; simp only [Tryz.ntmps35, List.length_cons, List.length_nil, Nat.reduceAdd, Nat.reduceSub, numb]
  repeat' (first | ((first | apply o_do | apply d_do | apply d_yes rfl rfl rfl); exact lsq) | refine a_seq ?_ | refine a_region ?_ | refine o_nil ?_ | refine a_block ?_ | refine a_ret ?_ | refine a_exit ?_ | refine a_skip ?_ | refine a_draw mixed ?_ | refine d_nil (by kernel_rfl) ?_ | refine o_yes rfl rfl rfl ?_ | refine o_no rfl rfl rfl (by decide) ?_ | refine o_no' rfl rfl rfl ?_ | refine a_condT rfl ?_ | refine a_condF rfl ?_ | refine d_no rfl rfl rfl (by decide) ?_ | refine d_no' rfl rfl rfl ?_ | (refine wq2 (fun hb => ?_) (fun hb => ?_) <;> (simp only [hb]; try simp only [hbs, ne_eq] at hb; try (exfalso; first | omega | exact hb trivial))) | fail)
  all_goals refine rq rfl ?_
  all_goals exact fnq
def Mk.okV : Int × Bool → List Value := fun x => [.int .i64 x.1, .bool x.2]
def newGot (n : Int) : List Bool := if 1 ≤ n ∧ n ≤ 8 then List.replicate n.toNat false else []
def newHeld (n : Int) : List (List It) := if 1 ≤ n ∧ n ≤ 8 then List.replicate n.toNat [] else []
theorem pc_weak {P : Program} {f : FuncId} {args : List AV} {r r' : AV} (h : PC P f args r) (hi : ∀ σ μ w A y, rep σ μ w A r y → rep σ μ w A r' y) : PC P f args r' := by
 refine ⟨⟨h.ac.ok, fun w M μ vs hs hr => (h.ac.out w M μ vs hs hr).mono ?_⟩⟩
 rintro e w' ⟨y, μ', h1, h2, h3, h4⟩
 exact ⟨y, μ', h1, h2, hi _ _ _ _ _ h3, h4⟩
theorem nilLL {σ : Store} {μ : Nat → Value} {w : World} {A : Nat → Prop} {m : Nat} : ∀ {q : Nat} {us : List Value}, repLL σ μ w A 1 (List.replicate q [.v (.slice none 0 0)]) us → repLL σ μ w A 1 (List.replicate q [.sl m []]) us
 | 0, us, h => by simpa [repLL] using h
 | q + 1, us, h => by
  simp only [List.replicate_succ, repLL] at h ⊢
  obtain ⟨u1, u2, rfl, h1, h2, h3⟩ := h
  refine ⟨u1, u2, rfl, h1, ?_, nilLL h3⟩
  simp only [repC, rep] at h2 ⊢
  obtain ⟨u, us', rfl, h4, ⟨rfl, _⟩, rfl⟩ := h2
  exact ⟨_, _, rfl, h4, ⟨none, 0, [], rfl, Nat.le_refl _, Nat.zero_le _, .inl rfl, by simp [repLL]⟩, rfl⟩
theorem newWeak {x : Value} {v : Value} {xs : List (List AV)} {q : Nat} (σ : Store) (μ : Nat → Value) (w : World) (A : Nat → Prop) (y : Value) (h : rep σ μ w A (.tup [.agg [.v x, .sl 1 xs, .sl 1 (List.replicate q [.v (.slice none 0 0)])], .v v]) y) :
  rep σ μ w A (.tup [.agg [.v x, .sl 1 xs, .sl 1 ((List.replicate q ([] : List It)).map heAv)], .v v]) y := by
 have e2 : (List.replicate q ([] : List It)).map heAv = List.replicate q [AV.sl 11 []] := by rw [List.map_replicate]; rfl
 rw [e2]
 simp only [rep, repL, repC] at h ⊢
 obtain ⟨us, rfl, u1, us1, rfl, ⟨cs, rfl, c0, cs0, rfl, h0, h0', c1, cs1, rfl, h1, h1', c2, cs2, rfl, h2, ⟨ad, c, vs, rfl, h3, h4, h5, h6⟩, rfl⟩, h7⟩ := h
 refine ⟨_, rfl, _, _, rfl, ⟨_, rfl, _, _, rfl, h0, h0', _, _, rfl, h1, h1', _, _, rfl, h2, ⟨ad, c, vs, ?_, ?_, h4, h5, nilLL h6⟩, rfl⟩, h7⟩
 ·rw [List.length_replicate, List.length_replicate]
 ·rw [List.length_replicate] at h3 ⊢; exact h3
theorem l_New (n : Int) : PC Tryz.prog 36 [.v (.int .i64 n)] (.tup [.agg (Al.av ⟨0, newGot n, newHeld n⟩), .v (.int .i64 (newE n))]) := by
 unfold newGot newHeld newE
 by_cases hn : 1 ≤ n ∧ n ≤ 8
 ·rw [if_pos hn, if_pos hn, if_pos hn]
  obtain ⟨q, rfl⟩ : ∃ q : Nat, n = (q : Int) := ⟨n.toNat, by omega⟩
  obtain ⟨h1, h2⟩ := hn
  have hl : q ≤ 1000000 := by omega
  have e1 : (List.replicate (q : Int).toNat false).map boAv = List.replicate q ([Value.bool false].map AV.v) := by rw [List.map_replicate]; rfl
  simp only [Al.av, e1, Int.toNat_natCast]
  refine pc_weak ?_ newWeak
  refine PC.mk (ac_body tab_ok Tryz.func36 rfl (by kernel_rfl) rfl ?_); intro w0 M μ0; simp only [Tryz.ntmps36, List.length_cons, List.length_nil, Nat.reduceAdd, Nat.reduceSub, numb]
  repeat' (first | ((first | apply o_do | apply d_do | apply d_yes rfl rfl rfl); first | exact ls_make (k := 1) tab_ok tab_zero rfl rfl rfl rfl rfl rfl rfl hl rfl rfl rfl | exact ls_make (k := 2) tab_ok tab_zero rfl rfl rfl rfl rfl rfl rfl hl rfl rfl rfl | exact lsq) | refine a_seq ?_ | refine a_region ?_ | refine o_nil ?_ | refine a_block ?_ | refine a_ret ?_ | refine a_exit ?_ | refine a_skip ?_ | refine a_draw mixed ?_ | refine d_nil (by kernel_rfl) ?_ | refine o_yes rfl rfl rfl ?_ | refine o_no rfl rfl rfl (by decide) ?_ | refine o_no' rfl rfl rfl ?_ | refine a_condT rfl ?_ | refine a_condF rfl ?_ | refine d_no rfl rfl rfl (by decide) ?_ | refine d_no' rfl rfl rfl ?_ | (refine wq2 (fun hb => ?_) (fun hb => ?_) <;> (simp only [hb]; try simp only [hbs, ne_eq] at hb; try (exfalso; first | omega | exact hb trivial))) | fail)
  all_goals refine rq rfl ?_
  all_goals (first | refine FinA.tup ?_ | refine FinA.one ?_); repeat' (first | exact FinBs.nil | exact FinCs.nil | refine FinBs.cons ?_ ?_ | refine FinCs.cons ?_ ?_ | refine FinB.cell (FinC.v ?_) | refine FinB.cell (FinC.own rfl rfl rfl ?_) | exact FinB.cell FinC.nil | refine FinB.cell (FinC.sl ?_) | exact FinB.agg' rfl rfl | exact FinB.cell (FinC.same rfl) | refine FinB.agg ?_ | refine FinC.v ?_ | refine FinC.own rfl rfl rfl ?_ | exact FinC.nil | refine FinC.sl ?_ | exact FinC.same rfl); all_goals try rfl
  all_goals (rw [List.map_replicate]; rfl)
 ·rw [if_neg hn, if_neg hn, if_neg hn]
  refine PC.mk (ac_body tab_ok Tryz.func36 rfl (by kernel_rfl) rfl ?_); intro w0 M μ0; simp only [Tryz.ntmps36, List.length_cons, List.length_nil, Nat.reduceAdd, Nat.reduceSub, numb]
  repeat' (first | ((first | apply o_do | apply d_do | apply d_yes rfl rfl rfl); exact lsq) | refine a_seq ?_ | refine a_region ?_ | refine o_nil ?_ | refine a_block ?_ | refine a_ret ?_ | refine a_exit ?_ | refine a_skip ?_ | refine a_draw mixed ?_ | refine d_nil (by kernel_rfl) ?_ | refine o_yes rfl rfl rfl ?_ | refine o_no rfl rfl rfl (by decide) ?_ | refine o_no' rfl rfl rfl ?_ | refine a_condT rfl ?_ | refine a_condF rfl ?_ | refine d_no rfl rfl rfl (by decide) ?_ | refine d_no' rfl rfl rfl ?_ | (refine wq2 (fun hb => ?_) (fun hb => ?_) <;> (simp only [hb]; try simp only [hbs, ne_eq] at hb; try (exfalso; first | omega | exact hb trivial))) | fail)
  all_goals refine rq rfl ?_
  all_goals exact fnq
end Go.Proofs.YtilgagmfcdfjaaaGreat
