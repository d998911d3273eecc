/-
  The law of what is kept, walked over abstract values.
-/
import Derived.Test.YtimlkhbedhjehaaMdN
namespace Go.Proofs.Ytimlkhbedhjehaa
open Go.RowKit
set_option linter.unusedSimpArgs false
set_option linter.unusedVariables false
theorem mem_take_range {es : List Et} {n : Nat} (h : ∀ e ∈ es, -9223372036854775808 ≤ e.v ∧ e.v ≤ 9223372036854775807) : ∀ e ∈ es.take n, -9223372036854775808 ≤ e.v ∧ e.v ≤ 9223372036854775807 := fun e he => h e (List.mem_of_mem_take he)
set_option maxHeartbeats 8000000 in
set_option maxRecDepth 20000 in
theorem m_keeps (g s d k fu li de id : Int) (es : List Et) (hx : es.length ≤ 9223372036854775807) (hes : ∀ e ∈ es, -9223372036854775808 ≤ e.v ∧ e.v ≤ 9223372036854775807) (hli : li ≤ 9223372036854775807) :
    PC Try.prog 22 [.agg [.v (.int .i64 g), .v (.int .i64 s), .v (.int .i64 d), .v (.int .i64 k), .v (.int .i64 fu), .v (.int .i64 li), .v (.int .i64 de), .v (.int .i64 id)], .sl 3 (es.map Et.av)] (.v (.bool true)) := by
  obtain ⟨fs, hfs⟩ : ∃ fs, (if 60 < es.length ∧ es.length ≤ 200 then es.take 60 else es) = fs := ⟨_, rfl⟩
  have hfl : fs.length ≤ 9223372036854775807 := by
    rw [← hfs]; split
    · rw [List.length_take]; omega
    · exact hx
  have hfv : ∀ e ∈ fs, -9223372036854775808 ≤ e.v ∧ e.v ≤ 9223372036854775807 := by
    rw [← hfs]; split
    · exact mem_take_range hes
    · exact hes
  have hsm : Small [fs] := ⟨by simp, by simpa using hfl⟩
  have hK := m_Kept g s d k fu li de id fs hsm hfv hli
  have hC := m_rCheck g s d k fu li de id [fs] hsm
  have hM := m_Mark g s d k fu li de id fs hsm hfv hli
  have hA := m_alive
  have hn : (es.map Et.av).length = es.length := List.length_map _
  have hcut : ∀ (h : 60 < es.length ∧ es.length ≤ 200), (es.map Et.av).take 60 = fs.map Et.av := fun h => by rw [← hfs, if_pos h, List.map_take]
  have hnot : ¬ (60 < es.length ∧ es.length ≤ 200) → es = fs := fun h => by rw [← hfs, if_neg h]
  unfold keptN at hK
  unfold markN at hM
  dsimp only [KR.av] at hK
  by_cases h0 : checkN g s d k fu li de id [fs] = 0
  · have hlen : fs.length ≤ 200 := ((check_parts h0).2.2.2 fs (by simp)).1
    have hRK := m_rKept g s d k fu li de id fs hfv hli (by omega)
    have hRM := m_rMark g s d k fu li de id fs fs.length (Nat.le_refl _) (by omega)
    rw [List.take_length] at hRM
    have hkl := keptE_len (li := li) (fu := fu) (de := de) (es := fs) (m := 0)
    have hL := m_Like (keptE li fu de 0 fs) (by omega)
    rw [if_pos h0] at hK hM
    rw [h0] at hC
    dsimp only at hK
    generalize keptE li fu de 0 fs = K at *
    generalize markE de 0 fs = m at *
    rw [show fs.length = (fs.map Et.av).length from (List.length_map _).symm] at hRM
    simp only [List.map_cons, List.map_nil, inAv] at hC
    by_cases hc : 60 < es.length ∧ es.length ≤ 200
    · rw [← hcut hc] at hK hC hM hRK hRM
      obtain ⟨c1, c2⟩ := hc
      clear hnot hfs
      refine PC.mk (ac_body tab_ok Try.func22 rfl (by kernel_rfl) rfl ?_); intro w0 M μ0; simp only [Try.ntmps22, List.length_cons, List.length_nil, Nat.reduceAdd, Nat.reduceSub, numb]
      repeat' (first | ((first | apply o_do | apply d_do | apply d_yes rfl rfl rfl); first | exact ls_slice_to (n := 60) tab_ok rfl rfl rfl rfl (by rw [hn]; omega) rfl | exact lsc (hA) | exact lsc (hK) | exact lcs (hC) | exact lsc (hM) | exact lsc (hRK) | exact lsc (hRM) | exact lsc (hL) | exact lsq) | first | refine a_seq ?_ | refine a_region ?_ | refine o_nil ?_ | refine a_block ?_ | refine a_ret ?_ | refine a_exit ?_ | refine a_skip ?_ | refine a_draw mixed ?_ | refine d_nil (by kernel_rfl) ?_ | first | refine o_yes rfl rfl rfl ?_ | refine o_no rfl rfl rfl (by decide) ?_ | refine o_no' rfl rfl rfl ?_ | refine a_condT rfl ?_ | refine a_condF rfl ?_ | refine d_no rfl rfl rfl (by decide) ?_ | refine d_no' rfl rfl rfl ?_ | ((first | refine o_split_t rfl rfl rfl (fun hb => ?_) (fun hb => ?_) | refine o_split_f rfl rfl rfl (fun hb => ?_) (fun hb => ?_) | refine a_cond rfl (fun hb => ?_) (fun hb => ?_) | refine d_split rfl rfl (fun hb => ?_) (fun hb => ?_)) <;> (simp only [hb]; try simp only [decide_eq_true_eq, decide_eq_false_iff_not, Bool.not_eq_true', Bool.not_eq_false', Bool.not_eq_true, Bool.not_eq_false, ne_eq, Decidable.not_not] at hb; try (exfalso; first | omega | exact hb trivial))))
      all_goals refine ⟨by first | exact .inr rfl | exact .inl rfl, _, rfl, ?_, by repeat' (first | exact trivial | refine ⟨⟨_, rfl, by first | rfl | (simp [renO, *]; done)⟩, by first | rfl | assumption, ?_⟩)⟩
      all_goals (first | refine FinA.tup ?_ | refine FinA.one ?_); repeat' (first | exact FinBs.nil | exact FinCs.nil | refine FinBs.cons ?_ ?_ | refine FinCs.cons ?_ ?_ | refine FinB.cell (FinC.v ?_) | refine FinB.cell (FinC.own rfl rfl rfl ?_) | exact FinB.cell FinC.nil | refine FinB.cell (FinC.sl ?_) | exact FinB.agg' rfl rfl | exact FinB.cell (FinC.same rfl) | refine FinB.agg ?_ | refine FinC.v ?_ | refine FinC.own rfl rfl rfl ?_ | exact FinC.nil | refine FinC.sl ?_ | exact FinC.same rfl); all_goals try rfl
      all_goals simp
    · have := hnot hc
      subst this
      clear hcut hfs hnot
      refine PC.mk (ac_body tab_ok Try.func22 rfl (by kernel_rfl) rfl ?_); intro w0 M μ0; simp only [Try.ntmps22, List.length_cons, List.length_nil, Nat.reduceAdd, Nat.reduceSub, numb]
      repeat' (first | ((first | apply o_do | apply d_do | apply d_yes rfl rfl rfl); first | exact ls_slice_to (n := 60) tab_ok rfl rfl rfl rfl (by rw [hn]; omega) rfl | exact lsc (hA) | exact lsc (hK) | exact lcs (hC) | exact lsc (hM) | exact lsc (hRK) | exact lsc (hRM) | exact lsc (hL) | exact lsq) | first | refine a_seq ?_ | refine a_region ?_ | refine o_nil ?_ | refine a_block ?_ | refine a_ret ?_ | refine a_exit ?_ | refine a_skip ?_ | refine a_draw mixed ?_ | refine d_nil (by kernel_rfl) ?_ | first | refine o_yes rfl rfl rfl ?_ | refine o_no rfl rfl rfl (by decide) ?_ | refine o_no' rfl rfl rfl ?_ | refine a_condT rfl ?_ | refine a_condF rfl ?_ | refine d_no rfl rfl rfl (by decide) ?_ | refine d_no' rfl rfl rfl ?_ | ((first | refine o_split_t rfl rfl rfl (fun hb => ?_) (fun hb => ?_) | refine o_split_f rfl rfl rfl (fun hb => ?_) (fun hb => ?_) | refine a_cond rfl (fun hb => ?_) (fun hb => ?_) | refine d_split rfl rfl (fun hb => ?_) (fun hb => ?_)) <;> (simp only [hb]; try simp only [decide_eq_true_eq, decide_eq_false_iff_not, Bool.not_eq_true', Bool.not_eq_false', Bool.not_eq_true, Bool.not_eq_false, ne_eq, Decidable.not_not] at hb; try (exfalso; first | omega | exact hb trivial))))
      all_goals refine ⟨by first | exact .inr rfl | exact .inl rfl, _, rfl, ?_, by repeat' (first | exact trivial | refine ⟨⟨_, rfl, by first | rfl | (simp [renO, *]; done)⟩, by first | rfl | assumption, ?_⟩)⟩
      all_goals (first | refine FinA.tup ?_ | refine FinA.one ?_); repeat' (first | exact FinBs.nil | exact FinCs.nil | refine FinBs.cons ?_ ?_ | refine FinCs.cons ?_ ?_ | refine FinB.cell (FinC.v ?_) | refine FinB.cell (FinC.own rfl rfl rfl ?_) | exact FinB.cell FinC.nil | refine FinB.cell (FinC.sl ?_) | exact FinB.agg' rfl rfl | exact FinB.cell (FinC.same rfl) | refine FinB.agg ?_ | refine FinC.v ?_ | refine FinC.own rfl rfl rfl ?_ | exact FinC.nil | refine FinC.sl ?_ | exact FinC.same rfl); all_goals try rfl
      all_goals simp
  · rw [if_neg h0] at hK hM
    dsimp only [List.map_nil] at hK
    generalize checkN g s d k fu li de id [fs] = r at *
    simp only [List.map_cons, List.map_nil, inAv] at hC
    by_cases hc : 60 < es.length ∧ es.length ≤ 200
    · rw [← hcut hc] at hK hC hM
      obtain ⟨c1, c2⟩ := hc
      clear hnot hfs
      refine PC.mk (ac_body tab_ok Try.func22 rfl (by kernel_rfl) rfl ?_); intro w0 M μ0; simp only [Try.ntmps22, List.length_cons, List.length_nil, Nat.reduceAdd, Nat.reduceSub, numb]
      repeat' (first | ((first | apply o_do | apply d_do | apply d_yes rfl rfl rfl); first | exact ls_slice_to (n := 60) tab_ok rfl rfl rfl rfl (by rw [hn]; omega) rfl | exact lsc (hA) | exact lsc (hK) | exact lcs (hC) | exact lsc (hM) | exact lsq) | first | refine a_seq ?_ | refine a_region ?_ | refine o_nil ?_ | refine a_block ?_ | refine a_ret ?_ | refine a_exit ?_ | refine a_skip ?_ | refine a_draw mixed ?_ | refine d_nil (by kernel_rfl) ?_ | first | refine o_yes rfl rfl rfl ?_ | refine o_no rfl rfl rfl (by decide) ?_ | refine o_no' rfl rfl rfl ?_ | refine a_condT rfl ?_ | refine a_condF rfl ?_ | refine d_no rfl rfl rfl (by decide) ?_ | refine d_no' rfl rfl rfl ?_ | ((first | refine o_split_t rfl rfl rfl (fun hb => ?_) (fun hb => ?_) | refine o_split_f rfl rfl rfl (fun hb => ?_) (fun hb => ?_) | refine a_cond rfl (fun hb => ?_) (fun hb => ?_) | refine d_split rfl rfl (fun hb => ?_) (fun hb => ?_)) <;> (simp only [hb]; try simp only [decide_eq_true_eq, decide_eq_false_iff_not, Bool.not_eq_true', Bool.not_eq_false', Bool.not_eq_true, Bool.not_eq_false, ne_eq, Decidable.not_not] at hb; try (exfalso; first | omega | exact hb trivial))))
      all_goals refine ⟨by first | exact .inr rfl | exact .inl rfl, _, rfl, ?_, by repeat' (first | exact trivial | refine ⟨⟨_, rfl, by first | rfl | (simp [renO, *]; done)⟩, by first | rfl | assumption, ?_⟩)⟩
      all_goals (first | refine FinA.tup ?_ | refine FinA.one ?_); repeat' (first | exact FinBs.nil | exact FinCs.nil | refine FinBs.cons ?_ ?_ | refine FinCs.cons ?_ ?_ | refine FinB.cell (FinC.v ?_) | refine FinB.cell (FinC.own rfl rfl rfl ?_) | exact FinB.cell FinC.nil | refine FinB.cell (FinC.sl ?_) | exact FinB.agg' rfl rfl | exact FinB.cell (FinC.same rfl) | refine FinB.agg ?_ | refine FinC.v ?_ | refine FinC.own rfl rfl rfl ?_ | exact FinC.nil | refine FinC.sl ?_ | exact FinC.same rfl); all_goals try rfl
      all_goals simp
    · have := hnot hc
      subst this
      clear hcut hfs hnot
      refine PC.mk (ac_body tab_ok Try.func22 rfl (by kernel_rfl) rfl ?_); intro w0 M μ0; simp only [Try.ntmps22, List.length_cons, List.length_nil, Nat.reduceAdd, Nat.reduceSub, numb]
      repeat' (first | ((first | apply o_do | apply d_do | apply d_yes rfl rfl rfl); first | exact ls_slice_to (n := 60) tab_ok rfl rfl rfl rfl (by rw [hn]; omega) rfl | exact lsc (hA) | exact lsc (hK) | exact lcs (hC) | exact lsc (hM) | exact lsq) | first | refine a_seq ?_ | refine a_region ?_ | refine o_nil ?_ | refine a_block ?_ | refine a_ret ?_ | refine a_exit ?_ | refine a_skip ?_ | refine a_draw mixed ?_ | refine d_nil (by kernel_rfl) ?_ | first | refine o_yes rfl rfl rfl ?_ | refine o_no rfl rfl rfl (by decide) ?_ | refine o_no' rfl rfl rfl ?_ | refine a_condT rfl ?_ | refine a_condF rfl ?_ | refine d_no rfl rfl rfl (by decide) ?_ | refine d_no' rfl rfl rfl ?_ | ((first | refine o_split_t rfl rfl rfl (fun hb => ?_) (fun hb => ?_) | refine o_split_f rfl rfl rfl (fun hb => ?_) (fun hb => ?_) | refine a_cond rfl (fun hb => ?_) (fun hb => ?_) | refine d_split rfl rfl (fun hb => ?_) (fun hb => ?_)) <;> (simp only [hb]; try simp only [decide_eq_true_eq, decide_eq_false_iff_not, Bool.not_eq_true', Bool.not_eq_false', Bool.not_eq_true, Bool.not_eq_false, ne_eq, Decidable.not_not] at hb; try (exfalso; first | omega | exact hb trivial))))
      all_goals refine ⟨by first | exact .inr rfl | exact .inl rfl, _, rfl, ?_, by repeat' (first | exact trivial | refine ⟨⟨_, rfl, by first | rfl | (simp [renO, *]; done)⟩, by first | rfl | assumption, ?_⟩)⟩
      all_goals (first | refine FinA.tup ?_ | refine FinA.one ?_); repeat' (first | exact FinBs.nil | exact FinCs.nil | refine FinBs.cons ?_ ?_ | refine FinCs.cons ?_ ?_ | refine FinB.cell (FinC.v ?_) | refine FinB.cell (FinC.own rfl rfl rfl ?_) | exact FinB.cell FinC.nil | refine FinB.cell (FinC.sl ?_) | exact FinB.agg' rfl rfl | exact FinB.cell (FinC.same rfl) | refine FinB.agg ?_ | refine FinC.v ?_ | refine FinC.own rfl rfl rfl ?_ | exact FinC.nil | refine FinC.sl ?_ | exact FinC.same rfl); all_goals try rfl
      all_goals simp
end Go.Proofs.Ytimlkhbedhjehaa
