/-
  Marks, walked over abstract values: which may be, by the reference.
-/
import Derived.Test.YtagfjnjpgphnjaaWkB
namespace Go.Proofs.Ytagfjnjpgphnjaa
open Go.RowKit
set_option linter.unusedSimpArgs false
set_option linter.unusedVariables false
set_option maxHeartbeats 2000000 in
theorem m_rRight (m : Mk) (hi : m.ins.length ≤ 9223372036854775807) (hh : m.hs.length ≤ 9223372036854775807) : PC Try.prog 25 [.agg m.av] (.v (.bool (mkR m))) := by
  obtain ⟨ins, hs, out⟩ := m
  dsimp only at hi hh
  have hto := m_rtime out
  have hn1 : (ins.map inAvM).length = ins.length := List.length_map _
  have hn2 : (hs.map hoAv).length = hs.length := List.length_map _
  simp only [Mk.av]
  by_cases hpre : 1 ≤ ins.length ∧ ins.length ≤ 8 ∧ hs.length ≤ 32 ∧ tmR out = true
  · obtain ⟨a1, a2, a3, a4⟩ := hpre
    rw [a4] at hto
    refine PC.mk (ac_body tab_ok Try.func25 rfl (by kernel_rfl) rfl ?_); intro w0 M μ0; simp only [Try.ntmps25, List.length_cons, List.length_nil, Nat.reduceAdd, Nat.reduceSub, numb]
    repeat' (first | ((first | apply o_do | apply d_do | apply d_yes rfl rfl rfl); first | exact lsc (hto) | exact lsq) | first | refine a_seq ?_ | refine a_region ?_ | refine o_nil ?_ | refine a_block ?_ | refine a_ret ?_ | refine a_exit ?_ | refine a_skip ?_ | refine a_draw mixed ?_ | refine d_nil (by kernel_rfl) ?_ | first | refine o_yes rfl rfl rfl ?_ | refine o_no rfl rfl rfl (by decide) ?_ | refine o_no' rfl rfl rfl ?_ | refine a_condT rfl ?_ | refine a_condF rfl ?_ | refine d_no rfl rfl rfl (by decide) ?_ | refine d_no' rfl rfl rfl ?_ | ((first | refine o_split_t rfl rfl rfl (fun hb => ?_) (fun hb => ?_) | refine o_split_f rfl rfl rfl (fun hb => ?_) (fun hb => ?_) | refine a_cond rfl (fun hb => ?_) (fun hb => ?_) | refine d_split rfl rfl (fun hb => ?_) (fun hb => ?_)) <;> (simp only [hb]; try simp only [decide_eq_true_eq, decide_eq_false_iff_not, Bool.not_eq_true', Bool.not_eq_false', Bool.not_eq_true, Bool.not_eq_false, ne_eq, Decidable.not_not] at hb; try (exfalso; first | omega | exact hb trivial))))
    refine a_loop (X := {q : Nat // q ≤ ins.length ∧ (ins.take q).all (fun x => tmR x.1) = true}) (fun x => ⟨[(1, .ref 0 0), (30, .sl 2 (ins.map inAvM)), (31, .v (.int .i64 ins.length)), (32, .v (.int .i64 x.1))], [(0, .box 28 [.sl 2 (ins.map inAvM), .sl 2 (hs.map hoAv), .v (.int .i64 out)])]⟩) (fun x => ins.length - x.1) ⟨0, Nat.zero_le _, rfl⟩ ?_ ?_
    · refine ⟨by repeat' (first | exact trivial | exact FinA.one (FinB.cell (FinC.same rfl)) | exact FinA.one (FinB.cell FinC.nil) | exact FinA.bound rfl | exact FinA.one (FinB.cell (FinC.own rfl rfl rfl rfl)) | exact FinA.one (FinB.cell (FinC.v (by first | rfl | (simp)))) | exact FinA.one (FinB.cell (FinC.ow rfl (by first | rfl | (simp)))) | exact FinA.one (FinB.agg' rfl rfl) | refine ⟨⟨_, rfl, ?_⟩, ?_⟩), by repeat' (first | exact trivial | refine ⟨⟨_, rfl, by first | rfl | (simp; done) | (simp [renO, *]; done)⟩, by first | rfl | assumption, ?_⟩), rfl⟩
    rintro ⟨q, hq, hok⟩
    dsimp only
    by_cases hlt : q < ins.length
    · have hel : (ins.map inAvM)[q]? = some (inAvM ins[q]) := by simp [hlt]
      have hsn := take_snoc ins q hlt
      have htm := m_rtime ins[q].1
      have hbad : tmR ins[q].1 = false → mkR ⟨ins, hs, out⟩ = false := fun h => by
        have : (ins.all fun x => tmR x.1) = false := by
          rw [List.all_eq_false]
          exact ⟨ins[q], List.getElem_mem hlt, by simp [h]⟩
        simp [mkR, this]
      have hgo : tmR ins[q].1 = true → (ins.take (q + 1)).all (fun x => tmR x.1) = true := fun h => by rw [hsn, List.all_append, hok]; simp [h]
      generalize ins[q] = x at *
      obtain ⟨a, b⟩ := x
      dsimp only at *
      cases htR : tmR a
      · rw [htR] at htm
        rw [hbad htR]
        repeat' (first | ((first | apply o_do | apply d_do | apply d_yes rfl rfl rfl); first | exact ls_indexAddr_sl tab_ok rfl rfl rfl rfl (by assumption) rfl | exact lsc (htm) | exact lsq) | first | refine a_seq ?_ | refine a_region ?_ | refine o_nil ?_ | refine a_block ?_ | refine a_ret ?_ | refine a_exit ?_ | refine a_skip ?_ | refine a_draw mixed ?_ | refine d_nil (by kernel_rfl) ?_ | first | refine o_yes rfl rfl rfl ?_ | refine o_no rfl rfl rfl (by decide) ?_ | refine o_no' rfl rfl rfl ?_ | refine a_condT rfl ?_ | refine a_condF rfl ?_ | refine d_no rfl rfl rfl (by decide) ?_ | refine d_no' rfl rfl rfl ?_ | ((first | refine o_split_t rfl rfl rfl (fun hb => ?_) (fun hb => ?_) | refine o_split_f rfl rfl rfl (fun hb => ?_) (fun hb => ?_) | refine a_cond rfl (fun hb => ?_) (fun hb => ?_) | refine d_split rfl rfl (fun hb => ?_) (fun hb => ?_)) <;> (simp only [hb]; try simp only [decide_eq_true_eq, decide_eq_false_iff_not, Bool.not_eq_true', Bool.not_eq_false', Bool.not_eq_true, Bool.not_eq_false, ne_eq, Decidable.not_not] at hb; try (exfalso; first | omega | exact hb trivial))))
        refine ⟨by first | exact .inr rfl | exact .inl rfl, _, rfl, ?_, by repeat' (first | exact trivial | refine ⟨⟨_, rfl, by first | rfl | (simp [renO, *]; done)⟩, by first | rfl | assumption, ?_⟩)⟩
        (first | refine FinA.tup ?_ | refine FinA.one ?_); repeat' (first | exact FinBs.nil | exact FinCs.nil | refine FinBs.cons ?_ ?_ | refine FinCs.cons ?_ ?_ | refine FinB.cell (FinC.v ?_) | refine FinB.cell (FinC.own rfl rfl rfl ?_) | exact FinB.cell FinC.nil | refine FinB.cell (FinC.sl ?_) | exact FinB.agg' rfl rfl | exact FinB.cell (FinC.same rfl) | refine FinB.agg ?_ | refine FinC.v ?_ | refine FinC.own rfl rfl rfl ?_ | exact FinC.nil | refine FinC.sl ?_ | exact FinC.same rfl); all_goals try rfl
      · rw [htR] at htm
        repeat' (first | ((first | apply o_do | apply d_do | apply d_yes rfl rfl rfl); first | exact ls_indexAddr_sl tab_ok rfl rfl rfl rfl (by assumption) rfl | exact lsc (htm) | exact lsq) | first | refine a_seq ?_ | refine a_region ?_ | refine o_nil ?_ | refine a_block ?_ | refine a_ret ?_ | refine a_exit ?_ | refine a_skip ?_ | refine a_draw mixed ?_ | refine d_nil (by kernel_rfl) ?_ | first | refine o_yes rfl rfl rfl ?_ | refine o_no rfl rfl rfl (by decide) ?_ | refine o_no' rfl rfl rfl ?_ | refine a_condT rfl ?_ | refine a_condF rfl ?_ | refine d_no rfl rfl rfl (by decide) ?_ | refine d_no' rfl rfl rfl ?_ | ((first | refine o_split_t rfl rfl rfl (fun hb => ?_) (fun hb => ?_) | refine o_split_f rfl rfl rfl (fun hb => ?_) (fun hb => ?_) | refine a_cond rfl (fun hb => ?_) (fun hb => ?_) | refine d_split rfl rfl (fun hb => ?_) (fun hb => ?_)) <;> (simp only [hb]; try simp only [decide_eq_true_eq, decide_eq_false_iff_not, Bool.not_eq_true', Bool.not_eq_false', Bool.not_eq_true, Bool.not_eq_false, ne_eq, Decidable.not_not] at hb; try (exfalso; first | omega | exact hb trivial))))
        refine ⟨⟨q + 1, by omega, hgo htR⟩, by dsimp only; omega, ?_⟩
        refine ⟨by repeat' (first | exact trivial | exact FinA.one (FinB.cell (FinC.same rfl)) | exact FinA.one (FinB.cell FinC.nil) | exact FinA.bound rfl | exact FinA.one (FinB.cell (FinC.own rfl rfl rfl rfl)) | exact FinA.one (FinB.cell (FinC.v (by first | rfl | (simp)))) | exact FinA.one (FinB.cell (FinC.ow rfl (by first | rfl | (simp)))) | exact FinA.one (FinB.agg' rfl rfl) | refine ⟨⟨_, rfl, ?_⟩, ?_⟩), by repeat' (first | exact trivial | refine ⟨⟨_, rfl, by first | rfl | (simp; done) | (simp [renO, *]; done)⟩, by first | rfl | assumption, ?_⟩), rfl⟩
    · obtain rfl : q = ins.length := by omega
      rw [List.take_length] at hok
      have hai := hok
      clear hok
      repeat' (first | ((first | apply o_do | apply d_do | apply d_yes rfl rfl rfl); exact lsq) | first | refine a_seq ?_ | refine a_region ?_ | refine o_nil ?_ | refine a_block ?_ | refine a_ret ?_ | refine a_exit ?_ | refine a_skip ?_ | refine a_draw mixed ?_ | refine d_nil (by kernel_rfl) ?_ | first | refine o_yes rfl rfl rfl ?_ | refine o_no rfl rfl rfl (by decide) ?_ | refine o_no' rfl rfl rfl ?_ | refine a_condT rfl ?_ | refine a_condF rfl ?_ | refine d_no rfl rfl rfl (by decide) ?_ | refine d_no' rfl rfl rfl ?_ | ((first | refine o_split_t rfl rfl rfl (fun hb => ?_) (fun hb => ?_) | refine o_split_f rfl rfl rfl (fun hb => ?_) (fun hb => ?_) | refine a_cond rfl (fun hb => ?_) (fun hb => ?_) | refine d_split rfl rfl (fun hb => ?_) (fun hb => ?_)) <;> (simp only [hb]; try simp only [decide_eq_true_eq, decide_eq_false_iff_not, Bool.not_eq_true', Bool.not_eq_false', Bool.not_eq_true, Bool.not_eq_false, ne_eq, Decidable.not_not] at hb; try (exfalso; first | omega | exact hb trivial))))
      refine a_loop (X := {q : Nat // q ≤ hs.length ∧ (List.range q).all (hoG hs) = true}) (fun x => ⟨[(1, .ref 0 0), (42, .sl 2 (hs.map hoAv)), (43, .v (.int .i64 hs.length)), (44, .v (.int .i64 x.1))], [(0, .box 28 [.sl 2 (ins.map inAvM), .sl 2 (hs.map hoAv), .v (.int .i64 out)])]⟩) (fun x => hs.length - x.1) ⟨0, Nat.zero_le _, rfl⟩ ?_ ?_
      · refine ⟨by repeat' (first | exact trivial | exact FinA.one (FinB.cell (FinC.same rfl)) | exact FinA.one (FinB.cell FinC.nil) | exact FinA.bound rfl | exact FinA.one (FinB.cell (FinC.own rfl rfl rfl rfl)) | exact FinA.one (FinB.cell (FinC.v (by first | rfl | (simp)))) | exact FinA.one (FinB.cell (FinC.ow rfl (by first | rfl | (simp)))) | exact FinA.one (FinB.agg' rfl rfl) | refine ⟨⟨_, rfl, ?_⟩, ?_⟩), by repeat' (first | exact trivial | refine ⟨⟨_, rfl, by first | rfl | (simp; done) | (simp [renO, *]; done)⟩, by first | rfl | assumption, ?_⟩), rfl⟩
      rintro ⟨q, hq, hok⟩
      dsimp only
      by_cases hlt : q < hs.length
      · have hel : (hs.map hoAv)[q]? = some (hoAv hs[q]) := by simp [hlt]
        have hbad : hoG hs q = false → mkR ⟨ins, hs, out⟩ = false := fun h => by simp [mkR, rall_fail hlt h]
        have hgo : hoG hs q = true → (List.range (q + 1)).all (hoG hs) = true := fun h => by rw [rall_snoc, hok, h]; rfl
        have htm := m_rtime hs[q].2
        rcases Nat.eq_zero_or_pos q with rfl | hq0
        · have hG : hoG hs 0 = (decide (0 ≤ hs[0].1) && tmR hs[0].2) := by simp only [hoG, getD_at hlt]; simp
          generalize hs[0] = x at *
          obtain ⟨no, at'⟩ := x
          dsimp only at *
          rcases Bool.eq_false_or_eq_true (hoG hs 0) with hg0 | hg0 <;> cases htR : tmR at'
          all_goals
            rw [htR] at htm hG
            repeat' (first | ((first | apply o_do | apply d_do | apply d_yes rfl rfl rfl); first | exact ls_indexAddr_sl tab_ok rfl rfl rfl rfl (by assumption) rfl | exact lsc (htm) | exact lsq) | first | refine a_seq ?_ | refine a_region ?_ | refine o_nil ?_ | refine a_block ?_ | refine a_ret ?_ | refine a_exit ?_ | refine a_skip ?_ | refine a_draw mixed ?_ | refine d_nil (by kernel_rfl) ?_ | first | refine o_yes rfl rfl rfl ?_ | refine o_no rfl rfl rfl (by decide) ?_ | refine o_no' rfl rfl rfl ?_ | refine a_condT rfl ?_ | refine a_condF rfl ?_ | refine d_no rfl rfl rfl (by decide) ?_ | refine d_no' rfl rfl rfl ?_ | ((first | refine o_split_t rfl rfl rfl (fun hb => ?_) (fun hb => ?_) | refine o_split_f rfl rfl rfl (fun hb => ?_) (fun hb => ?_) | refine a_cond rfl (fun hb => ?_) (fun hb => ?_) | refine d_split rfl rfl (fun hb => ?_) (fun hb => ?_)) <;> (simp only [hb]; try simp only [decide_eq_true_eq, decide_eq_false_iff_not, Bool.not_eq_true', Bool.not_eq_false', Bool.not_eq_true, Bool.not_eq_false, ne_eq, Decidable.not_not] at hb; try (exfalso; first | omega | exact hb trivial))))
            all_goals first
              | (exfalso; rw [hG] at hg0; simp [*] at hg0; done)
              | (exfalso; rw [hG] at hg0; simp [*] at hg0; omega)
              | (refine ⟨by first | exact .inr rfl | exact .inl rfl, _, rfl, ?_, by repeat' (first | exact trivial | refine ⟨⟨_, rfl, by first | rfl | (simp [renO, *]; done)⟩, by first | rfl | assumption, ?_⟩)⟩; ((first | refine FinA.tup ?_ | refine FinA.one ?_); repeat' (first | exact FinBs.nil | exact FinCs.nil | refine FinBs.cons ?_ ?_ | refine FinCs.cons ?_ ?_ | refine FinB.cell (FinC.v ?_) | refine FinB.cell (FinC.own rfl rfl rfl ?_) | exact FinB.cell FinC.nil | refine FinB.cell (FinC.sl ?_) | exact FinB.agg' rfl rfl | exact FinB.cell (FinC.same rfl) | refine FinB.agg ?_ | refine FinC.v ?_ | refine FinC.own rfl rfl rfl ?_ | exact FinC.nil | refine FinC.sl ?_ | exact FinC.same rfl); all_goals try rfl); rw [hbad hg0]; done)
              | (refine ⟨⟨0 + 1, by omega, hgo hg0⟩, by dsimp only; omega, ?_⟩; refine ⟨by repeat' (first | exact trivial | exact FinA.one (FinB.cell (FinC.same rfl)) | exact FinA.one (FinB.cell FinC.nil) | exact FinA.bound rfl | exact FinA.one (FinB.cell (FinC.own rfl rfl rfl rfl)) | exact FinA.one (FinB.cell (FinC.v (by first | rfl | (simp)))) | exact FinA.one (FinB.cell (FinC.ow rfl (by first | rfl | (simp)))) | exact FinA.one (FinB.agg' rfl rfl) | refine ⟨⟨_, rfl, ?_⟩, ?_⟩), by repeat' (first | exact trivial | refine ⟨⟨_, rfl, by first | rfl | (simp; done) | (simp [renO, *]; done)⟩, by first | rfl | assumption, ?_⟩), rfl⟩; done)
        · obtain ⟨j, rfl⟩ : ∃ j, q = j + 1 := ⟨q - 1, by omega⟩
          have hj : ((j + 1 : Nat) : Int) - 1 = (j : Int) := by omega
          have hlj : j < hs.length := by omega
          have hel2 : (hs.map hoAv)[j]? = some (hoAv hs[j]) := by simp [hlj]
          have hG : hoG hs (j + 1) = (decide (0 ≤ hs[j + 1].1) && (tmR hs[j + 1].2 && decide (hs[j].1 < hs[j + 1].1))) := by simp [hoG, hlt, hlj]
          generalize hs[j + 1] = x at *
          generalize hs[j] = y at *
          obtain ⟨no, at'⟩ := x
          obtain ⟨no', at''⟩ := y
          dsimp only at *
          rcases Bool.eq_false_or_eq_true (hoG hs (j + 1)) with hg0 | hg0 <;> cases htR : tmR at'
          all_goals
            rw [htR] at htm hG
            repeat' (first | ((first | apply o_do | apply d_do | apply d_yes rfl rfl rfl); first | exact ls_indexAddr_sl tab_ok rfl rfl rfl rfl (by assumption) rfl | exact ls_indexAddr_sl tab_ok rfl rfl rfl hj hel2 rfl | exact lsc (htm) | exact lsq) | first | refine a_seq ?_ | refine a_region ?_ | refine o_nil ?_ | refine a_block ?_ | refine a_ret ?_ | refine a_exit ?_ | refine a_skip ?_ | refine a_draw mixed ?_ | refine d_nil (by kernel_rfl) ?_ | first | refine o_yes rfl rfl rfl ?_ | refine o_no rfl rfl rfl (by decide) ?_ | refine o_no' rfl rfl rfl ?_ | refine a_condT rfl ?_ | refine a_condF rfl ?_ | refine d_no rfl rfl rfl (by decide) ?_ | refine d_no' rfl rfl rfl ?_ | ((first | refine o_split_t rfl rfl rfl (fun hb => ?_) (fun hb => ?_) | refine o_split_f rfl rfl rfl (fun hb => ?_) (fun hb => ?_) | refine a_cond rfl (fun hb => ?_) (fun hb => ?_) | refine d_split rfl rfl (fun hb => ?_) (fun hb => ?_)) <;> (simp only [hb]; try simp only [decide_eq_true_eq, decide_eq_false_iff_not, Bool.not_eq_true', Bool.not_eq_false', Bool.not_eq_true, Bool.not_eq_false, ne_eq, Decidable.not_not] at hb; try (exfalso; first | omega | exact hb trivial))))
            all_goals first
              | (exfalso; rw [hG] at hg0; simp [*] at hg0; done)
              | (exfalso; rw [hG] at hg0; simp [*] at hg0; omega)
              | (refine ⟨by first | exact .inr rfl | exact .inl rfl, _, rfl, ?_, by repeat' (first | exact trivial | refine ⟨⟨_, rfl, by first | rfl | (simp [renO, *]; done)⟩, by first | rfl | assumption, ?_⟩)⟩; ((first | refine FinA.tup ?_ | refine FinA.one ?_); repeat' (first | exact FinBs.nil | exact FinCs.nil | refine FinBs.cons ?_ ?_ | refine FinCs.cons ?_ ?_ | refine FinB.cell (FinC.v ?_) | refine FinB.cell (FinC.own rfl rfl rfl ?_) | exact FinB.cell FinC.nil | refine FinB.cell (FinC.sl ?_) | exact FinB.agg' rfl rfl | exact FinB.cell (FinC.same rfl) | refine FinB.agg ?_ | refine FinC.v ?_ | refine FinC.own rfl rfl rfl ?_ | exact FinC.nil | refine FinC.sl ?_ | exact FinC.same rfl); all_goals try rfl); rw [hbad hg0]; done)
              | (refine ⟨⟨j + 1 + 1, by omega, hgo hg0⟩, by dsimp only; omega, ?_⟩; refine ⟨by repeat' (first | exact trivial | exact FinA.one (FinB.cell (FinC.same rfl)) | exact FinA.one (FinB.cell FinC.nil) | exact FinA.bound rfl | exact FinA.one (FinB.cell (FinC.own rfl rfl rfl rfl)) | exact FinA.one (FinB.cell (FinC.v (by first | rfl | (simp)))) | exact FinA.one (FinB.cell (FinC.ow rfl (by first | rfl | (simp)))) | exact FinA.one (FinB.agg' rfl rfl) | refine ⟨⟨_, rfl, ?_⟩, ?_⟩), by repeat' (first | exact trivial | refine ⟨⟨_, rfl, by first | rfl | (simp; done) | (simp [renO, *]; done)⟩, by first | rfl | assumption, ?_⟩), rfl⟩; done)
      · obtain rfl : q = hs.length := by omega
        have hend : mkR ⟨ins, hs, out⟩ = true := by simp [mkR, *]
        rw [hend]
        repeat' (first | ((first | apply o_do | apply d_do | apply d_yes rfl rfl rfl); exact lsq) | first | refine a_seq ?_ | refine a_region ?_ | refine o_nil ?_ | refine a_block ?_ | refine a_ret ?_ | refine a_exit ?_ | refine a_skip ?_ | refine a_draw mixed ?_ | refine d_nil (by kernel_rfl) ?_ | first | refine o_yes rfl rfl rfl ?_ | refine o_no rfl rfl rfl (by decide) ?_ | refine o_no' rfl rfl rfl ?_ | refine a_condT rfl ?_ | refine a_condF rfl ?_ | refine d_no rfl rfl rfl (by decide) ?_ | refine d_no' rfl rfl rfl ?_ | ((first | refine o_split_t rfl rfl rfl (fun hb => ?_) (fun hb => ?_) | refine o_split_f rfl rfl rfl (fun hb => ?_) (fun hb => ?_) | refine a_cond rfl (fun hb => ?_) (fun hb => ?_) | refine d_split rfl rfl (fun hb => ?_) (fun hb => ?_)) <;> (simp only [hb]; try simp only [decide_eq_true_eq, decide_eq_false_iff_not, Bool.not_eq_true', Bool.not_eq_false', Bool.not_eq_true, Bool.not_eq_false, ne_eq, Decidable.not_not] at hb; try (exfalso; first | omega | exact hb trivial))))
        refine ⟨by first | exact .inr rfl | exact .inl rfl, _, rfl, ?_, by repeat' (first | exact trivial | refine ⟨⟨_, rfl, by first | rfl | (simp [renO, *]; done)⟩, by first | rfl | assumption, ?_⟩)⟩
        (first | refine FinA.tup ?_ | refine FinA.one ?_); repeat' (first | exact FinBs.nil | exact FinCs.nil | refine FinBs.cons ?_ ?_ | refine FinCs.cons ?_ ?_ | refine FinB.cell (FinC.v ?_) | refine FinB.cell (FinC.own rfl rfl rfl ?_) | exact FinB.cell FinC.nil | refine FinB.cell (FinC.sl ?_) | exact FinB.agg' rfl rfl | exact FinB.cell (FinC.same rfl) | refine FinB.agg ?_ | refine FinC.v ?_ | refine FinC.own rfl rfl rfl ?_ | exact FinC.nil | refine FinC.sl ?_ | exact FinC.same rfl); all_goals try rfl
  · rw [mkR_pre hpre]
    cases hto2 : tmR out
    all_goals
      rw [hto2] at hto
      refine PC.mk (ac_body tab_ok Try.func25 rfl (by kernel_rfl) rfl ?_); intro w0 M μ0; simp only [Try.ntmps25, List.length_cons, List.length_nil, Nat.reduceAdd, Nat.reduceSub, numb]
      repeat' (first | ((first | apply o_do | apply d_do | apply d_yes rfl rfl rfl); first | exact lsc (hto) | exact lsq) | first | refine a_seq ?_ | refine a_region ?_ | refine o_nil ?_ | refine a_block ?_ | refine a_ret ?_ | refine a_exit ?_ | refine a_skip ?_ | refine a_draw mixed ?_ | refine d_nil (by kernel_rfl) ?_ | first | refine o_yes rfl rfl rfl ?_ | refine o_no rfl rfl rfl (by decide) ?_ | refine o_no' rfl rfl rfl ?_ | refine a_condT rfl ?_ | refine a_condF rfl ?_ | refine d_no rfl rfl rfl (by decide) ?_ | refine d_no' rfl rfl rfl ?_ | ((first | refine o_split_t rfl rfl rfl (fun hb => ?_) (fun hb => ?_) | refine o_split_f rfl rfl rfl (fun hb => ?_) (fun hb => ?_) | refine a_cond rfl (fun hb => ?_) (fun hb => ?_) | refine d_split rfl rfl (fun hb => ?_) (fun hb => ?_)) <;> (simp only [hb]; try simp only [decide_eq_true_eq, decide_eq_false_iff_not, Bool.not_eq_true', Bool.not_eq_false', Bool.not_eq_true, Bool.not_eq_false, ne_eq, Decidable.not_not] at hb; try (exfalso; first | omega | exact hb trivial))))
      all_goals first
        | (exfalso; apply hpre; refine ⟨?_, ?_, ?_, hto2⟩ <;> omega)
        | (refine ⟨by first | exact .inr rfl | exact .inl rfl, _, rfl, ?_, by repeat' (first | exact trivial | refine ⟨⟨_, rfl, by first | rfl | (simp [renO, *]; done)⟩, by first | rfl | assumption, ?_⟩)⟩; ((first | refine FinA.tup ?_ | refine FinA.one ?_); repeat' (first | exact FinBs.nil | exact FinCs.nil | refine FinBs.cons ?_ ?_ | refine FinCs.cons ?_ ?_ | refine FinB.cell (FinC.v ?_) | refine FinB.cell (FinC.own rfl rfl rfl ?_) | exact FinB.cell FinC.nil | refine FinB.cell (FinC.sl ?_) | exact FinB.agg' rfl rfl | exact FinB.cell (FinC.same rfl) | refine FinB.agg ?_ | refine FinC.v ?_ | refine FinC.own rfl rfl rfl ?_ | exact FinC.nil | refine FinC.sl ?_ | exact FinC.same rfl); all_goals try rfl); done)
end Go.Proofs.Ytagfjnjpgphnjaa
