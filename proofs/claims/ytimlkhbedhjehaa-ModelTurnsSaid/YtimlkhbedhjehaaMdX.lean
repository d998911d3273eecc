/-
  The law that the order of sources does not matter, walked over abstract values.
-/
import Derived.Test.YtimlkhbedhjehaaMdW
import Derived.Test.YtimlkhbedhjehaaAvX
namespace Go.Proofs.Ytimlkhbedhjehaa
open Go.RowKit
set_option linter.unusedSimpArgs false
set_option linter.unusedVariables false
set_option maxHeartbeats 8000000 in
set_option maxRecDepth 20000 in
theorem m_turns (g s d k fu li de id by' gr idl : Int) (ls : List (List Et)) (hx : Small ls) (hls : ∀ es ∈ ls, ∀ e ∈ es, -9223372036854775808 ≤ e.v ∧ e.v ≤ 9223372036854775807) (hli : li ≤ 9223372036854775807) :
    PC Try.prog 18 [.agg [.v (.int .i64 g), .v (.int .i64 s), .v (.int .i64 d), .v (.int .i64 k), .v (.int .i64 fu), .v (.int .i64 li), .v (.int .i64 de), .v (.int .i64 id)], .sl 1 (ls.map inAv), .v (.int .i64 by'), .v (.int .i64 gr), .v (.int .i64 idl)] (.v (.bool true)) := by
  have hF := m_few ls hx
  have hA := m_alive
  have hsm := fewI_small hx
  have hrg := fewI_range hls
  generalize fewI ls = fs at *
  have hR := m_Run g s d k fu li de id fs hsm hrg hli
  have hn : (fs.map inAv).length = fs.length := List.length_map _
  unfold runN at hR
  by_cases h0 : checkN g s d k fu li de id fs = 0
  · obtain ⟨hfr, hw, hl4, hes⟩ := check_parts h0
    have h1 : 1 ≤ fs.length := by
      have := (check_iff.1 h0).2
      unfold okIn at this
      simp only [Bool.and_eq_true, decide_eq_true_eq] at this
      exact this.1
    rw [if_pos h0] at hR
    obtain ⟨r1, hr1⟩ : ∃ r, by'.tmod ((fs.map inAv).length : Int) = r := ⟨_, rfl⟩
    obtain ⟨r2, hr2⟩ : ∃ r, (r1 + ((fs.map inAv).length : Int)).tmod ((fs.map inAv).length : Int) = r := ⟨_, rfl⟩
    have b1 := tmod_in (a := by') (b := ((fs.map inAv).length : Int)) (by omega)
    rw [hr1] at b1
    have b2 := tmod_up (a := r1 + ((fs.map inAv).length : Int)) (b := ((fs.map inAv).length : Int)) (by omega) (by omega)
    rw [hr2] at b2
    obtain ⟨a, ha⟩ : ∃ a : Nat, r2 = (a : Int) := ⟨r2.toNat, by omega⟩
    have hp : fs.Perm (fs.drop a ++ fs.take a) := by
      have := List.perm_append_comm (l₁ := fs.drop a) (l₂ := fs.take a)
      rw [List.take_append_drop] at this
      exact this.symm
    have hR2 := m_Run (min (max gr 1) 32) s d k fu li de (min (max idl 0) 1048576) (fs.drop a ++ fs.take a) (small_perm hp hsm) (fun es he => hrg es (hp.mem_iff.2 he)) hli
    rw [run_turn h0 hp (by omega) (by omega), List.map_append, List.map_drop, List.map_take] at hR2
    rcases outR_form k (allVals s d (allK li fu de fs)) with ⟨U, hU, hUl⟩ | hU
    · rw [hU] at hR hR2
      dsimp only [RR.av] at hR hR2
      have hL := p_LikeResults U (by omega)
      have hal : a ≤ (fs.map inAv).length := by omega
      have hdl : ((fs.map inAv).drop a).length = (fs.map inAv).length - a := List.length_drop
      have htl : ((fs.map inAv).take a).length = a := by rw [List.length_take]; omega
      generalize fs.map inAv = F at *
      refine PC.mk (ac_body tab_ok Try.func18 rfl (by kernel_rfl) rfl ?_); intro w0 M μ0; simp only [Try.ntmps18, List.length_cons, List.length_nil, Nat.reduceAdd, Nat.reduceSub, numb]
      repeat' (first | refine a_draw2 10 mixed (by kernel_rfl) ?_ | ((first | apply o_do | apply d_do | apply d_yes rfl rfl rfl); first | exact lsc (hF) | exact lsc (hR) | exact ls_rem64 hr1 rfl rfl (by omega) (by omega) rfl | exact ls_rem64 hr2 rfl rfl (by omega) (by omega) rfl | exact ls_slice_from (n := a) tab_ok rfl rfl rfl ha hal rfl | exact ls_slice_to (n := a) tab_ok rfl rfl rfl ha hal rfl | exact ls_min rfl rfl rfl | exact ls_max rfl rfl rfl | exact ls_append tab_ok rfl rfl rfl rfl (by first | exact SrcIs.sl | exact SrcIs.nil | exact SrcIs.own rfl rfl) rfl (by (try simp only [List.length_cons, List.length_nil]); ((try simp only [List.length_append, List.nil_append, hdl, htl]); omega)) rfl rfl | exact lsq) | first | refine a_seq ?_ | refine a_region ?_ | refine o_nil ?_ | refine a_block ?_ | refine a_ret ?_ | refine a_exit ?_ | refine a_skip ?_ | refine a_draw mixed ?_ | refine d_nil (by kernel_rfl) ?_ | first | refine o_yes rfl rfl rfl ?_ | refine o_no rfl rfl rfl (by decide) ?_ | refine o_no' rfl rfl rfl ?_ | refine a_condT rfl ?_ | refine a_condF rfl ?_ | refine d_no rfl rfl rfl (by decide) ?_ | refine d_no' rfl rfl rfl ?_ | ((first | refine o_split_t rfl rfl rfl (fun hb => ?_) (fun hb => ?_) | refine o_split_f rfl rfl rfl (fun hb => ?_) (fun hb => ?_) | refine a_cond rfl (fun hb => ?_) (fun hb => ?_) | refine d_split rfl rfl (fun hb => ?_) (fun hb => ?_)) <;> (simp only [hb]; try simp only [decide_eq_true_eq, decide_eq_false_iff_not, Bool.not_eq_true', Bool.not_eq_false', Bool.not_eq_true, Bool.not_eq_false, ne_eq, Decidable.not_not] at hb; try (exfalso; first | omega | exact hb trivial))))
      refine ⟨⟨[(11, .sl 5 (U.map Rs.av)), (57, .agg [.v (.int .i64 (min (max gr 1) 32)), .v (.int .i64 s), .v (.int .i64 d), .v (.int .i64 k), .v (.int .i64 fu), .v (.int .i64 li), .v (.int .i64 de), .v (.int .i64 (min (max idl 0) 1048576))]), (66, .sl 1 (F.drop a ++ F.take a))], []⟩, ?_, ?_⟩
      · refine ⟨by repeat' (first | exact trivial | exact FinA.one (FinB.cell (FinC.same rfl)) | exact FinA.one (FinB.cell FinC.nil) | exact FinA.bound rfl | exact FinA.one (FinB.cell (FinC.own rfl rfl rfl rfl)) | exact FinA.one (FinB.cell (FinC.v (by first | rfl | (simp)))) | exact FinA.one (FinB.cell (FinC.ow rfl (by first | rfl | (simp)))) | exact FinA.one (FinB.agg' rfl rfl) | refine ⟨⟨_, rfl, ?_⟩, ?_⟩), by repeat' (first | exact trivial | refine ⟨⟨_, rfl, by first | rfl | (simp; done) | (simp [renO, *]; done)⟩, by first | rfl | assumption, ?_⟩), rfl⟩
      repeat' (first | ((first | apply o_do | apply d_do | apply d_yes rfl rfl rfl); first | exact lsc (hR2) | exact lsc (hA) | exact lsc (hL) | exact lsq) | first | refine a_seq ?_ | refine a_region ?_ | refine o_nil ?_ | refine a_block ?_ | refine a_ret ?_ | refine a_exit ?_ | refine a_skip ?_ | refine a_draw mixed ?_ | refine d_nil (by kernel_rfl) ?_ | first | refine o_yes rfl rfl rfl ?_ | refine o_no rfl rfl rfl (by decide) ?_ | refine o_no' rfl rfl rfl ?_ | refine a_condT rfl ?_ | refine a_condF rfl ?_ | refine d_no rfl rfl rfl (by decide) ?_ | refine d_no' rfl rfl rfl ?_ | ((first | refine o_split_t rfl rfl rfl (fun hb => ?_) (fun hb => ?_) | refine o_split_f rfl rfl rfl (fun hb => ?_) (fun hb => ?_) | refine a_cond rfl (fun hb => ?_) (fun hb => ?_) | refine d_split rfl rfl (fun hb => ?_) (fun hb => ?_)) <;> (simp only [hb]; try simp only [decide_eq_true_eq, decide_eq_false_iff_not, Bool.not_eq_true', Bool.not_eq_false', Bool.not_eq_true, Bool.not_eq_false, ne_eq, Decidable.not_not] at hb; try (exfalso; first | omega | exact hb trivial))))
      all_goals refine ⟨by first | exact .inr rfl | exact .inl rfl, _, rfl, ?_, by repeat' (first | exact trivial | refine ⟨⟨_, rfl, by first | rfl | (simp [renO, *]; done)⟩, by first | rfl | assumption, ?_⟩)⟩
      all_goals (first | refine FinA.tup ?_ | refine FinA.one ?_); repeat' (first | exact FinBs.nil | exact FinCs.nil | refine FinBs.cons ?_ ?_ | refine FinCs.cons ?_ ?_ | refine FinB.cell (FinC.v ?_) | refine FinB.cell (FinC.own rfl rfl rfl ?_) | exact FinB.cell FinC.nil | refine FinB.cell (FinC.sl ?_) | exact FinB.agg' rfl rfl | exact FinB.cell (FinC.same rfl) | refine FinB.agg ?_ | refine FinC.v ?_ | refine FinC.own rfl rfl rfl ?_ | exact FinC.nil | refine FinC.sl ?_ | exact FinC.same rfl); all_goals try rfl
      all_goals simp
    · rw [hU] at hR
      dsimp only [RR.av, List.map_nil] at hR
      refine PC.mk (ac_body tab_ok Try.func18 rfl (by kernel_rfl) rfl ?_); intro w0 M μ0; simp only [Try.ntmps18, List.length_cons, List.length_nil, Nat.reduceAdd, Nat.reduceSub, numb]
      repeat' (first | ((first | apply o_do | apply d_do | apply d_yes rfl rfl rfl); first | exact lsc (hF) | exact lsc (hA) | exact lsc (hR) | exact lsq) | first | refine a_seq ?_ | refine a_region ?_ | refine o_nil ?_ | refine a_block ?_ | refine a_ret ?_ | refine a_exit ?_ | refine a_skip ?_ | refine a_draw mixed ?_ | refine d_nil (by kernel_rfl) ?_ | first | refine o_yes rfl rfl rfl ?_ | refine o_no rfl rfl rfl (by decide) ?_ | refine o_no' rfl rfl rfl ?_ | refine a_condT rfl ?_ | refine a_condF rfl ?_ | refine d_no rfl rfl rfl (by decide) ?_ | refine d_no' rfl rfl rfl ?_ | ((first | refine o_split_t rfl rfl rfl (fun hb => ?_) (fun hb => ?_) | refine o_split_f rfl rfl rfl (fun hb => ?_) (fun hb => ?_) | refine a_cond rfl (fun hb => ?_) (fun hb => ?_) | refine d_split rfl rfl (fun hb => ?_) (fun hb => ?_)) <;> (simp only [hb]; try simp only [decide_eq_true_eq, decide_eq_false_iff_not, Bool.not_eq_true', Bool.not_eq_false', Bool.not_eq_true, Bool.not_eq_false, ne_eq, Decidable.not_not] at hb; try (exfalso; first | omega | exact hb trivial))))
      all_goals refine ⟨by first | exact .inr rfl | exact .inl rfl, _, rfl, ?_, by repeat' (first | exact trivial | refine ⟨⟨_, rfl, by first | rfl | (simp [renO, *]; done)⟩, by first | rfl | assumption, ?_⟩)⟩
      all_goals (first | refine FinA.tup ?_ | refine FinA.one ?_); repeat' (first | exact FinBs.nil | exact FinCs.nil | refine FinBs.cons ?_ ?_ | refine FinCs.cons ?_ ?_ | refine FinB.cell (FinC.v ?_) | refine FinB.cell (FinC.own rfl rfl rfl ?_) | exact FinB.cell FinC.nil | refine FinB.cell (FinC.sl ?_) | exact FinB.agg' rfl rfl | exact FinB.cell (FinC.same rfl) | refine FinB.agg ?_ | refine FinC.v ?_ | refine FinC.own rfl rfl rfl ?_ | exact FinC.nil | refine FinC.sl ?_ | exact FinC.same rfl); all_goals try rfl
      all_goals simp
  · rw [if_neg h0] at hR
    dsimp only [RR.av, List.map_nil] at hR
    generalize checkN g s d k fu li de id fs = r at *
    refine PC.mk (ac_body tab_ok Try.func18 rfl (by kernel_rfl) rfl ?_); intro w0 M μ0; simp only [Try.ntmps18, List.length_cons, List.length_nil, Nat.reduceAdd, Nat.reduceSub, numb]
    repeat' (first | ((first | apply o_do | apply d_do | apply d_yes rfl rfl rfl); first | exact lsc (hF) | exact lsc (hA) | exact lsc (hR) | exact lsq) | first | refine a_seq ?_ | refine a_region ?_ | refine o_nil ?_ | refine a_block ?_ | refine a_ret ?_ | refine a_exit ?_ | refine a_skip ?_ | refine a_draw mixed ?_ | refine d_nil (by kernel_rfl) ?_ | first | refine o_yes rfl rfl rfl ?_ | refine o_no rfl rfl rfl (by decide) ?_ | refine o_no' rfl rfl rfl ?_ | refine a_condT rfl ?_ | refine a_condF rfl ?_ | refine d_no rfl rfl rfl (by decide) ?_ | refine d_no' rfl rfl rfl ?_ | ((first | refine o_split_t rfl rfl rfl (fun hb => ?_) (fun hb => ?_) | refine o_split_f rfl rfl rfl (fun hb => ?_) (fun hb => ?_) | refine a_cond rfl (fun hb => ?_) (fun hb => ?_) | refine d_split rfl rfl (fun hb => ?_) (fun hb => ?_)) <;> (simp only [hb]; try simp only [decide_eq_true_eq, decide_eq_false_iff_not, Bool.not_eq_true', Bool.not_eq_false', Bool.not_eq_true, Bool.not_eq_false, ne_eq, Decidable.not_not] at hb; try (exfalso; first | omega | exact hb trivial))))
    all_goals refine ⟨by first | exact .inr rfl | exact .inl rfl, _, rfl, ?_, by repeat' (first | exact trivial | refine ⟨⟨_, rfl, by first | rfl | (simp [renO, *]; done)⟩, by first | rfl | assumption, ?_⟩)⟩
    all_goals (first | refine FinA.tup ?_ | refine FinA.one ?_); repeat' (first | exact FinBs.nil | exact FinCs.nil | refine FinBs.cons ?_ ?_ | refine FinCs.cons ?_ ?_ | refine FinB.cell (FinC.v ?_) | refine FinB.cell (FinC.own rfl rfl rfl ?_) | exact FinB.cell FinC.nil | refine FinB.cell (FinC.sl ?_) | exact FinB.agg' rfl rfl | exact FinB.cell (FinC.same rfl) | refine FinB.agg ?_ | refine FinC.v ?_ | refine FinC.own rfl rfl rfl ?_ | exact FinC.nil | refine FinC.sl ?_ | exact FinC.same rfl); all_goals try rfl
    all_goals simp
end Go.Proofs.Ytimlkhbedhjehaa
