/-
  The law of how a source goes on, walked over abstract values.
-/
import Derived.Test.YtimlkhbedhjehaaMdW
namespace Go.Proofs.Ytimlkhbedhjehaa
open Go.RowKit
set_option linter.unusedSimpArgs false
set_option linter.unusedVariables false
set_option maxHeartbeats 16000000 in
set_option maxRecDepth 20000 in
theorem m_goesOn (g s d k fu li de id v : Int) (es : List Et) (hx : es.length ≤ 9223372036854775807) (hes : ∀ e ∈ es, -9223372036854775808 ≤ e.v ∧ e.v ≤ 9223372036854775807) (hli : li ≤ 9223372036854775807) :
    PC Try.prog 23 [.agg [.v (.int .i64 g), .v (.int .i64 s), .v (.int .i64 d), .v (.int .i64 k), .v (.int .i64 fu), .v (.int .i64 li), .v (.int .i64 de), .v (.int .i64 id)], .sl 3 (es.map Et.av), .v (.int .i64 v)] (.v (.bool true)) := by
  obtain ⟨fs, hfs⟩ : ∃ fs, (if 40 < es.length ∧ es.length ≤ 200 then es.take 40 else es) = fs := ⟨_, rfl⟩
  have hfl : fs.length ≤ 9223372036854775807 := by
    rw [← hfs]; split
    · rw [List.length_take]; omega
    · exact hx
  have hfv : ∀ e ∈ fs, -9223372036854775808 ≤ e.v ∧ e.v ≤ 9223372036854775807 := by
    rw [← hfs]; split
    · exact range_take hes
    · exact hes
  have hsm : Small [fs] := ⟨by simp, by simpa using hfl⟩
  have hK := m_Kept g s d k fu li de id fs hsm hfv hli
  have hA := m_alive
  obtain ⟨F, hF0⟩ : ∃ F, fs.map Et.av = F := ⟨_, rfl⟩
  have hFl : F.length = fs.length := by rw [← hF0]; simp
  have hn : (es.map Et.av).length = es.length := List.length_map _
  have hcase : (40 < es.length ∧ es.length ≤ 200 ∧ (es.map Et.av).take 40 = F) ∨ (¬ (40 < es.length ∧ es.length ≤ 200) ∧ es.map Et.av = F) := by
    by_cases h : 40 < es.length ∧ es.length ≤ 200
    · left; refine ⟨h.1, h.2, ?_⟩; rw [← hF0, ← hfs, if_pos h, List.map_take]
    · right; refine ⟨h, ?_⟩; rw [← hF0, ← hfs, if_neg h]
  unfold keptN at hK
  rw [hF0] at hK
  by_cases h0 : checkN g s d k fu li de id [fs] = 0
  · have hlen : fs.length ≤ 200 := ((check_parts h0).2.2.2 fs (by simp)).1
    obtain ⟨r1, hr1⟩ : ∃ r, v.tmod ((F.length : Int) + 1) = r := ⟨_, rfl⟩
    obtain ⟨r2, hr2⟩ : ∃ r, (r1 + (F.length : Int) + 1).tmod ((F.length : Int) + 1) = r := ⟨_, rfl⟩
    have b1 := tmod_in (a := v) (b := (F.length : Int) + 1) (by omega)
    rw [hr1] at b1
    have b2 := tmod_up (a := r1 + (F.length : Int) + 1) (b := (F.length : Int) + 1) (by omega) (by omega)
    rw [hr2] at b2
    obtain ⟨a, ha⟩ : ∃ a : Nat, r2 = (a : Int) := ⟨r2.toNat, by omega⟩
    have hal : a ≤ F.length := by omega
    have hsm2 : Small [fs.take a] := ⟨by simp, by simp; omega⟩
    have hK2 := m_Kept g s d k fu li de id (fs.take a) hsm2 (range_take hfv) hli
    have hM1 := m_Mark g s d k fu li de id (fs.take a) hsm2 (range_take hfv) hli
    have hM2 := m_Mark g s d k fu li de id fs hsm hfv hli
    unfold keptN at hK2
    unfold markN at hM1 hM2
    have hta : (fs.take a).map Et.av = F.take a := by rw [List.map_take, hF0]
    rw [if_pos (check_take h0 a), hta] at hK2 hM1
    rw [if_pos h0, hF0] at hM2
    rw [if_pos h0] at hK
    obtain ⟨K2, hk, habove, hmle⟩ := kept_parts (li := li) (fu := fu) (de := de) (fs := fs) a
    have hkl := keptE_len (li := li) (fu := fu) (de := de) (es := fs) (m := 0)
    rw [hk] at hK hkl
    rw [List.length_append] at hkl
    have hL := m_Like (keptE li fu de 0 (fs.take a)) (by omega)
    dsimp only [KR.av] at hK hK2
    clear hk
    generalize keptE li fu de 0 (fs.take a) = K1 at *
    generalize markE de 0 (fs.take a) = m1 at *
    generalize markE de 0 fs = m2 at *
    have hA1 : ((K1 ++ K2).map Et.av).take (K1.map Et.av).length = K1.map Et.av := by simp
    have hA2 : ((K1 ++ K2).map Et.av).drop (K1.map Et.av).length = K2.map Et.av := by simp
    have hAl : ((K1 ++ K2).map Et.av).length = (K1.map Et.av).length + K2.length := by simp
    have hK2l : (K2.map Et.av).length = K2.length := List.length_map _
    have hK1l : (K1.map Et.av).length = K1.length := List.length_map _
    generalize (K1 ++ K2).map Et.av = A at *
    have hL2 : PC Try.prog 64 [.sl 3 (A.take (K1.map Et.av).length), .sl 3 (K1.map Et.av)] (.v (.bool true)) := by rw [hA1]; exact hL
    clear hF0 hfs hL hA1 hsm2 hta hfv hsm h0
    rcases hcase with ⟨c1, c2, rfl⟩ | ⟨c, rfl⟩
    all_goals
      refine PC.mk (ac_body tab_ok Try.func23 rfl (by kernel_rfl) rfl ?_); intro w0 M μ0; simp only [Try.ntmps23, List.length_cons, List.length_nil, Nat.reduceAdd, Nat.reduceSub, numb]
      repeat' (first | ((first | apply o_do | apply d_do | apply d_yes rfl rfl rfl); first | exact ls_slice_to (n := 40) tab_ok rfl rfl rfl rfl (by rw [hn]; omega) rfl | exact lsc (hA) | exact lsc (hK) | exact ls_rem64 hr1 rfl rfl (by omega) (by omega) rfl | exact ls_rem64 hr2 rfl rfl (by omega) (by omega) rfl | exact ls_slice_to (n := a) tab_ok rfl rfl rfl ha hal rfl | exact lsc (hK2) | exact lsc (hM1) | exact lsc (hM2) | exact ls_slice_to (n := (K1.map Et.av).length) tab_ok rfl rfl rfl rfl (by omega) rfl | exact ls_slice_from (n := (K1.map Et.av).length) tab_ok rfl rfl rfl rfl (by omega) rfl | exact lsc (hL2) | exact lsq) | first | refine a_seq ?_ | refine a_region ?_ | refine o_nil ?_ | refine a_block ?_ | refine a_ret ?_ | refine a_exit ?_ | refine a_skip ?_ | refine a_draw mixed ?_ | refine d_nil (by kernel_rfl) ?_ | first | refine o_yes rfl rfl rfl ?_ | refine o_no rfl rfl rfl (by decide) ?_ | refine o_no' rfl rfl rfl ?_ | refine a_condT rfl ?_ | refine a_condF rfl ?_ | refine d_no rfl rfl rfl (by decide) ?_ | refine d_no' rfl rfl rfl ?_ | ((first | refine o_split_t rfl rfl rfl (fun hb => ?_) (fun hb => ?_) | refine o_split_f rfl rfl rfl (fun hb => ?_) (fun hb => ?_) | refine a_cond rfl (fun hb => ?_) (fun hb => ?_) | refine d_split rfl rfl (fun hb => ?_) (fun hb => ?_)) <;> (simp only [hb]; try simp only [decide_eq_true_eq, decide_eq_false_iff_not, Bool.not_eq_true', Bool.not_eq_false', Bool.not_eq_true, Bool.not_eq_false, ne_eq, Decidable.not_not] at hb; try (exfalso; first | omega | exact hb trivial))))
      simp only [hA2]
      refine a_loop (X := {q : Nat // q ≤ K2.length}) (fun x => ⟨[(11, .v (.int .i64 m1)), (92, .sl 3 (K2.map Et.av)), (93, .v (.int .i64 K2.length)), (94, .v (.int .i64 x.1))], []⟩) (fun x => K2.length - x.1) ⟨0, Nat.zero_le _⟩ ?_ ?_
      · refine ⟨by repeat' (first | exact trivial | exact FinA.one (FinB.cell (FinC.same rfl)) | exact FinA.one (FinB.cell FinC.nil) | exact FinA.bound rfl | exact FinA.one (FinB.cell (FinC.own rfl rfl rfl rfl)) | exact FinA.one (FinB.cell (FinC.v (by first | rfl | (simp)))) | exact FinA.one (FinB.cell (FinC.ow rfl (by first | rfl | (simp)))) | exact FinA.one (FinB.agg' rfl rfl) | refine ⟨⟨_, rfl, ?_⟩, ?_⟩), by repeat' (first | exact trivial | refine ⟨⟨_, rfl, by first | rfl | (simp; done) | (simp [renO, *]; done)⟩, by first | rfl | assumption, ?_⟩), rfl⟩
      rintro ⟨q, hq⟩
      dsimp only
      by_cases hlt : q < K2.length
      · have hel : (K2.map Et.av)[q]? = some (Et.av K2[q]) := by simp [hlt]
        have hab := habove _ (List.getElem_mem hlt)
        generalize K2[q] = x at *
        repeat' (first | ((first | apply o_do | apply d_do | apply d_yes rfl rfl rfl); exact lsq) | first | refine a_seq ?_ | refine a_region ?_ | refine o_nil ?_ | refine a_block ?_ | refine a_ret ?_ | refine a_exit ?_ | refine a_skip ?_ | refine a_draw mixed ?_ | refine d_nil (by kernel_rfl) ?_ | first | refine o_yes rfl rfl rfl ?_ | refine o_no rfl rfl rfl (by decide) ?_ | refine o_no' rfl rfl rfl ?_ | refine a_condT rfl ?_ | refine a_condF rfl ?_ | refine d_no rfl rfl rfl (by decide) ?_ | refine d_no' rfl rfl rfl ?_ | ((first | refine o_split_t rfl rfl rfl (fun hb => ?_) (fun hb => ?_) | refine o_split_f rfl rfl rfl (fun hb => ?_) (fun hb => ?_) | refine a_cond rfl (fun hb => ?_) (fun hb => ?_) | refine d_split rfl rfl (fun hb => ?_) (fun hb => ?_)) <;> (simp only [hb]; try simp only [decide_eq_true_eq, decide_eq_false_iff_not, Bool.not_eq_true', Bool.not_eq_false', Bool.not_eq_true, Bool.not_eq_false, ne_eq, Decidable.not_not] at hb; try (exfalso; first | omega | exact hb trivial))))
        refine ⟨⟨q + 1, by omega⟩, by dsimp only; omega, ?_⟩
        refine ⟨by repeat' (first | exact trivial | exact FinA.one (FinB.cell (FinC.same rfl)) | exact FinA.one (FinB.cell FinC.nil) | exact FinA.bound rfl | exact FinA.one (FinB.cell (FinC.own rfl rfl rfl rfl)) | exact FinA.one (FinB.cell (FinC.v (by first | rfl | (simp)))) | exact FinA.one (FinB.cell (FinC.ow rfl (by first | rfl | (simp)))) | exact FinA.one (FinB.agg' rfl rfl) | refine ⟨⟨_, rfl, ?_⟩, ?_⟩), by repeat' (first | exact trivial | refine ⟨⟨_, rfl, by first | rfl | (simp; done) | (simp [renO, *]; done)⟩, by first | rfl | assumption, ?_⟩), rfl⟩
      · obtain rfl : q = K2.length := by omega
        repeat' (first | ((first | apply o_do | apply d_do | apply d_yes rfl rfl rfl); first | exact lsc (hA) | exact lsq) | first | refine a_seq ?_ | refine a_region ?_ | refine o_nil ?_ | refine a_block ?_ | refine a_ret ?_ | refine a_exit ?_ | refine a_skip ?_ | refine a_draw mixed ?_ | refine d_nil (by kernel_rfl) ?_ | first | refine o_yes rfl rfl rfl ?_ | refine o_no rfl rfl rfl (by decide) ?_ | refine o_no' rfl rfl rfl ?_ | refine a_condT rfl ?_ | refine a_condF rfl ?_ | refine d_no rfl rfl rfl (by decide) ?_ | refine d_no' rfl rfl rfl ?_ | ((first | refine o_split_t rfl rfl rfl (fun hb => ?_) (fun hb => ?_) | refine o_split_f rfl rfl rfl (fun hb => ?_) (fun hb => ?_) | refine a_cond rfl (fun hb => ?_) (fun hb => ?_) | refine d_split rfl rfl (fun hb => ?_) (fun hb => ?_)) <;> (simp only [hb]; try simp only [decide_eq_true_eq, decide_eq_false_iff_not, Bool.not_eq_true', Bool.not_eq_false', Bool.not_eq_true, Bool.not_eq_false, ne_eq, Decidable.not_not] at hb; try (exfalso; first | omega | exact hb trivial))))
        all_goals refine ⟨by first | exact .inr rfl | exact .inl rfl, _, rfl, ?_, by repeat' (first | exact trivial | refine ⟨⟨_, rfl, by first | rfl | (simp [renO, *]; done)⟩, by first | rfl | assumption, ?_⟩)⟩
        all_goals (first | refine FinA.tup ?_ | refine FinA.one ?_); repeat' (first | exact FinBs.nil | exact FinCs.nil | refine FinBs.cons ?_ ?_ | refine FinCs.cons ?_ ?_ | refine FinB.cell (FinC.v ?_) | refine FinB.cell (FinC.own rfl rfl rfl ?_) | exact FinB.cell FinC.nil | refine FinB.cell (FinC.sl ?_) | exact FinB.agg' rfl rfl | exact FinB.cell (FinC.same rfl) | refine FinB.agg ?_ | refine FinC.v ?_ | refine FinC.own rfl rfl rfl ?_ | exact FinC.nil | refine FinC.sl ?_ | exact FinC.same rfl); all_goals try rfl
  · rw [if_neg h0] at hK
    dsimp only [KR.av, List.map_nil] at hK
    generalize checkN g s d k fu li de id [fs] = r at *
    clear hF0 hfs hfv hsm
    rcases hcase with ⟨c1, c2, rfl⟩ | ⟨c, rfl⟩
    all_goals
      refine PC.mk (ac_body tab_ok Try.func23 rfl (by kernel_rfl) rfl ?_); intro w0 M μ0; simp only [Try.ntmps23, List.length_cons, List.length_nil, Nat.reduceAdd, Nat.reduceSub, numb]
      repeat' (first | ((first | apply o_do | apply d_do | apply d_yes rfl rfl rfl); first | exact ls_slice_to (n := 40) tab_ok rfl rfl rfl rfl (by rw [hn]; omega) rfl | exact lsc (hA) | exact lsc (hK) | exact lsq) | first | refine a_seq ?_ | refine a_region ?_ | refine o_nil ?_ | refine a_block ?_ | refine a_ret ?_ | refine a_exit ?_ | refine a_skip ?_ | refine a_draw mixed ?_ | refine d_nil (by kernel_rfl) ?_ | first | refine o_yes rfl rfl rfl ?_ | refine o_no rfl rfl rfl (by decide) ?_ | refine o_no' rfl rfl rfl ?_ | refine a_condT rfl ?_ | refine a_condF rfl ?_ | refine d_no rfl rfl rfl (by decide) ?_ | refine d_no' rfl rfl rfl ?_ | ((first | refine o_split_t rfl rfl rfl (fun hb => ?_) (fun hb => ?_) | refine o_split_f rfl rfl rfl (fun hb => ?_) (fun hb => ?_) | refine a_cond rfl (fun hb => ?_) (fun hb => ?_) | refine d_split rfl rfl (fun hb => ?_) (fun hb => ?_)) <;> (simp only [hb]; try simp only [decide_eq_true_eq, decide_eq_false_iff_not, Bool.not_eq_true', Bool.not_eq_false', Bool.not_eq_true, Bool.not_eq_false, ne_eq, Decidable.not_not] at hb; try (exfalso; first | omega | exact hb trivial))))
      all_goals refine ⟨by first | exact .inr rfl | exact .inl rfl, _, rfl, ?_, by repeat' (first | exact trivial | refine ⟨⟨_, rfl, by first | rfl | (simp [renO, *]; done)⟩, by first | rfl | assumption, ?_⟩)⟩
      all_goals (first | refine FinA.tup ?_ | refine FinA.one ?_); repeat' (first | exact FinBs.nil | exact FinCs.nil | refine FinBs.cons ?_ ?_ | refine FinCs.cons ?_ ?_ | refine FinB.cell (FinC.v ?_) | refine FinB.cell (FinC.own rfl rfl rfl ?_) | exact FinB.cell FinC.nil | refine FinB.cell (FinC.sl ?_) | exact FinB.agg' rfl rfl | exact FinB.cell (FinC.same rfl) | refine FinB.agg ?_ | refine FinC.v ?_ | refine FinC.own rfl rfl rfl ?_ | exact FinC.nil | refine FinC.sl ?_ | exact FinC.same rfl); all_goals try rfl
      all_goals simp
end Go.Proofs.Ytimlkhbedhjehaa
