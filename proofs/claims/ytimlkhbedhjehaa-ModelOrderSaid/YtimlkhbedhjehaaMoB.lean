/-
  The law that with the greatest delay no order matters, walked over abstract values.
-/
import Derived.Test.YtimlkhbedhjehaaMdW
import Derived.Test.YtimlkhbedhjehaaRdV
namespace Go.Proofs.Ytimlkhbedhjehaa
open Go.RowKit
set_option linter.unusedSimpArgs false
set_option linter.unusedVariables false
set_option maxHeartbeats 16000000 in
set_option maxRecDepth 20000 in
theorem m_order (g s d k fu li de id : Int) (es : List Et) (sw : List Int) (hx : es.length ≤ 9223372036854775807) (hes : ∀ e ∈ es, -9223372036854775808 ≤ e.v ∧ e.v ≤ 9223372036854775807) (hli : li ≤ 9223372036854775807) (hsx : sw.length ≤ 9223372036854775807) :
    PC Try.prog 20 [.agg [.v (.int .i64 g), .v (.int .i64 s), .v (.int .i64 d), .v (.int .i64 k), .v (.int .i64 fu), .v (.int .i64 li), .v (.int .i64 de), .v (.int .i64 id)], .sl 3 (es.map Et.av), .sl 1 (sw.map iav)] (.v (.bool true)) := by
  obtain ⟨fs, hfs⟩ : ∃ fs, (if 30 < es.length ∧ es.length ≤ 200 then es.take 30 else es) = fs := ⟨_, rfl⟩
  have hfl : fs.length ≤ 9223372036854775807 := by
    rw [← hfs]; split
    · rw [List.length_take]; omega
    · exact hx
  have hfv : ∀ e ∈ fs, -9223372036854775808 ≤ e.v ∧ e.v ≤ 9223372036854775807 := by
    rw [← hfs]; split
    · exact range_take hes
    · exact hes
  have hsm : Small [fs] := ⟨by simp, by simpa using hfl⟩
  have hR := m_Run g s d k fu li 1099511627776 id [fs] hsm (by simpa using hfv) hli
  have hK := m_Kept g s d k fu li 1099511627776 id fs hsm hfv hli
  have hA := m_alive
  obtain ⟨F, hF0⟩ : ∃ F, fs.map Et.av = F := ⟨_, rfl⟩
  have hFl : F.length = fs.length := by rw [← hF0]; simp
  have hn : (es.map Et.av).length = es.length := List.length_map _
  have hcase : (30 < es.length ∧ es.length ≤ 200 ∧ (es.map Et.av).take 30 = F) ∨ (¬ (30 < es.length ∧ es.length ≤ 200) ∧ es.map Et.av = F) := by
    by_cases h : 30 < es.length ∧ es.length ≤ 200
    · left; refine ⟨h.1, h.2, ?_⟩; rw [← hF0, ← hfs, if_pos h, List.map_take]
    · right; refine ⟨h, ?_⟩; rw [← hF0, ← hfs, if_neg h]
  unfold keptN at hK
  unfold runN at hR
  simp only [List.map_cons, List.map_nil, inAv, hF0] at hK hR
  by_cases h0 : checkN g s d k fu li 1099511627776 id [fs] = 0
  · have hlen : fs.length ≤ 200 := ((check_parts h0).2.2.2 fs (by simp)).1
    have hkf := kept_final (li := li) (fu := fu) (es := fs) ((check_parts h0).2.2.2 fs (by simp)).2
    have hkl : (keptE li fu 1099511627776 0 fs).length = fs.length := by rw [hkf]; simp
    have hrun : ∀ m : List Et, fs.Perm m → PC Try.prog 58 [.agg [.v (.int .i64 g), .v (.int .i64 s), .v (.int .i64 d), .v (.int .i64 k), .v (.int .i64 fu), .v (.int .i64 li), .v (.int .i64 1099511627776), .v (.int .i64 id)], .sl 1 [[.sl 3 (m.map Et.av)]]] (RR.av (outR k (allVals s d (allK li fu 1099511627776 [fs])))) := fun m hm => by
      have h := m_Run g s d k fu li 1099511627776 id [m] ⟨by simp, by simp; rw [← hm.length_eq]; omega⟩ (by simp; exact fun e he => hfv e (hm.mem_iff.2 he)) hli
      rw [run_order h0 hm] at h
      exact h
    rw [if_pos h0] at hK hR
    rcases outR_form k (allVals s d (allK li fu 1099511627776 [fs])) with ⟨U, hU, hUl⟩ | hU
    · rw [hU] at hR
      simp only [hU] at hrun
      dsimp only [RR.av, KR.av] at hR hK hrun
      generalize keptE li fu 1099511627776 0 fs = K at *
      have hKl : (K.map Et.av).length = F.length := by rw [List.length_map]; omega
      have hKf : (K.map Et.av).length = (fs.map Et.av).length := by rw [List.length_map, List.length_map]; omega
      have hL := p_LikeResults U (by omega)
      have hFm := hF0
      clear hfs hU hkf h0 hsm hfv
      rcases hcase with ⟨c1, c2, hcc⟩ | ⟨c, hcc⟩
      all_goals
        subst hcc
        refine PC.mk (ac_body tab_ok Try.func20 rfl (by kernel_rfl) rfl ?_); intro w0 M μ0; simp only [Try.ntmps20, List.length_cons, List.length_nil, Nat.reduceAdd, Nat.reduceSub, numb]
        repeat' (first | ((first | apply o_do | apply d_do | apply d_yes rfl rfl rfl); first | exact ls_slice_to (n := 30) tab_ok rfl rfl rfl rfl (by rw [hn]; omega) rfl | exact lsc (hR) | exact lsc (hK) | exact ls_append tab_ok rfl rfl rfl rfl (by first | exact SrcIs.sl | exact SrcIs.nil | exact SrcIs.own rfl rfl) rfl (by (try simp only [List.length_cons, List.length_nil]); omega) rfl rfl | exact lsq) | first | refine a_seq ?_ | refine a_region ?_ | refine o_nil ?_ | refine a_block ?_ | refine a_ret ?_ | refine a_exit ?_ | refine a_skip ?_ | refine a_draw mixed ?_ | refine d_nil (by kernel_rfl) ?_ | first | refine o_yes rfl rfl rfl ?_ | refine o_no rfl rfl rfl (by decide) ?_ | refine o_no' rfl rfl rfl ?_ | refine a_condT rfl ?_ | refine a_condF rfl ?_ | refine d_no rfl rfl rfl (by decide) ?_ | refine d_no' rfl rfl rfl ?_ | ((first | refine o_split_t rfl rfl rfl (fun hb => ?_) (fun hb => ?_) | refine o_split_f rfl rfl rfl (fun hb => ?_) (fun hb => ?_) | refine a_cond rfl (fun hb => ?_) (fun hb => ?_) | refine d_split rfl rfl (fun hb => ?_) (fun hb => ?_)) <;> (simp only [hb]; try simp only [decide_eq_true_eq, decide_eq_false_iff_not, Bool.not_eq_true', Bool.not_eq_false', Bool.not_eq_true, Bool.not_eq_false, ne_eq, Decidable.not_not] at hb; try (exfalso; first | omega | exact hb trivial))))
        simp only [← hFm]
        refine a_loop (X := {x : Nat × List Et // x.1 ≤ sw.length ∧ fs.Perm x.2}) (fun x => ⟨[(1, .sl 3 (fs.map Et.av)), (3, .ref 0 0), (7, .sl 5 (U.map Rs.av)), (9, .sl 3 (K.map Et.av)), (11, .own 1 (x.1.2.map Et.av).length), (66, .sl 1 (sw.map iav)), (67, .v (.int .i64 sw.length)), (68, .v (.int .i64 x.1.1))], [(0, .box 23 [.v (.int .i64 g), .v (.int .i64 s), .v (.int .i64 d), .v (.int .i64 k), .v (.int .i64 fu), .v (.int .i64 li), .v (.int .i64 1099511627776), .v (.int .i64 id)]), (1, .row 79 3 (x.1.2.map Et.av))]⟩) (fun x => sw.length - x.1.1) ⟨(0, fs), Nat.zero_le _, List.Perm.refl _⟩ ?_ ?_
        · refine ⟨by repeat' (first | exact trivial | exact FinA.one (FinB.cell (FinC.same rfl)) | exact FinA.one (FinB.cell FinC.nil) | exact FinA.bound rfl | exact FinA.one (FinB.cell (FinC.own rfl rfl rfl rfl)) | exact FinA.one (FinB.cell (FinC.v (by first | rfl | (simp)))) | exact FinA.one (FinB.cell (FinC.ow rfl (by first | rfl | (simp)))) | exact FinA.one (FinB.agg' rfl rfl) | refine ⟨⟨_, rfl, ?_⟩, ?_⟩), by repeat' (first | exact trivial | refine ⟨⟨_, rfl, by first | rfl | (simp; done) | (simp [renO, *]; done)⟩, by first | rfl | assumption, ?_⟩), rfl⟩
        rintro ⟨⟨q, m⟩, hq, hpm⟩
        dsimp only at hq hpm ⊢
        have hr2 := hrun m hpm
        have hml : (m.map Et.av).length = fs.length := by rw [List.length_map, hpm.length_eq]
        have hml2 : m.length = fs.length := hpm.length_eq.symm
        by_cases hgo : q < sw.length ∧ q + 1 < fs.length
        · obtain ⟨hlt, hbr⟩ := hgo
          have hel : (sw.map iav)[q]? = some (iav sw[q]) := by simp [hlt]
          generalize sw[q] = t at *
          obtain ⟨r1, hr1⟩ : ∃ r, t.tmod (((m.map Et.av).length : Int) - (q : Int)) = r := ⟨_, rfl⟩
          obtain ⟨r2, hr2'⟩ : ∃ r, (r1 + ((m.map Et.av).length : Int) - (q : Int)).tmod (((m.map Et.av).length : Int) - (q : Int)) = r := ⟨_, rfl⟩
          have b1 := tmod_in (a := t) (b := ((m.map Et.av).length : Int) - (q : Int)) (by omega)
          rw [hr1] at b1
          have b2 := tmod_up (a := r1 + ((m.map Et.av).length : Int) - (q : Int)) (b := ((m.map Et.av).length : Int) - (q : Int)) (by omega) (by omega)
          rw [hr2'] at b2
          obtain ⟨j, hj⟩ : ∃ j : Nat, (q : Int) + r2 = (j : Int) := ⟨((q : Int) + r2).toNat, by omega⟩
          have hjm : j < m.length := by omega
          have hqm : q < m.length := by omega
          have e1 : (m.map Et.av)[j]? = some (Et.av m[j]) := by simp [hjm]
          have e2' : (m.map Et.av)[q]? = some (Et.av m[q]) := by simp [hqm]
          have e3 : ((m.map Et.av).set q (Et.av m[j]))[j]? = some (Et.av m[j]) := by
            rw [List.getElem?_set, e1]
            split
            · rw [if_pos (by rw [hml]; omega)]
            · rfl
          have hperm2 := List.set_set_perm hqm hjm
          have hN : (((m.set q m[j]).set j m[q]).map Et.av) = ((m.map Et.av).set q (Et.av m[j])).set j (Et.av m[q]) := by rw [List.map_set, List.map_set]
          have hjx : j < (m.map Et.av).length := by omega
          have hqx : q < (m.map Et.av).length := by omega
          have hjz : ∀ z, j < ((m.map Et.av).set q z).length := fun z => by rw [List.length_set]; omega
          have hsz : ∀ z, (m.map Et.av).length = ((m.map Et.av).set q z).length := fun z => by rw [List.length_set]
          have hsz2 : ((((m.set q m[j]).set j m[q]).map Et.av)).length = (m.map Et.av).length := by simp
          have hst : ∀ y : Et, ∀ (σ : Store) (μ : Nat → Value) (w : World) (A : Nat → Prop) (z : Value), rep σ μ w A (.agg (Et.av y)) z → rep [] μ w A (.agg (Et.av y)) z := fun y _ _ _ _ _ h => rep_pureB h rfl
          generalize m[j] = y at *
          generalize m[q] = x at *
          generalize ((m.set q y).set j x) = m' at *
          repeat' (first | ((first | apply o_do | apply d_do | apply d_yes rfl rfl rfl); first | exact ls_rem64 hr1 rfl rfl (by omega) (by omega) rfl | exact ls_rem64 hr2' rfl rfl (by omega) (by omega) rfl | exact ls_indexAddr_own tab_ok rfl rfl rfl rfl rfl hj hjx rfl | exact ls_indexAddr_own tab_ok rfl rfl rfl rfl rfl rfl hqx rfl | exact ls_indexAddr_own tab_ok rfl rfl (hsz _) rfl rfl hj (hjz _) rfl | exact ls_load_eref tab_ok rfl rfl rfl e1 rfl rfl rfl rfl | exact ls_load_eref tab_ok rfl rfl rfl e2' rfl rfl rfl rfl | exact ls_store_eref (cs' := Et.av y) tab_ok rfl rfl rfl rfl e2' rfl rfl (hst _) rfl rfl rfl rfl | exact ls_store_eref (cs' := Et.av x) tab_ok rfl rfl rfl (hsz _) e3 rfl rfl (hst _) rfl rfl rfl rfl | exact lsq) | first | refine a_seq ?_ | refine a_region ?_ | refine o_nil ?_ | refine a_block ?_ | refine a_ret ?_ | refine a_exit ?_ | refine a_skip ?_ | refine a_draw mixed ?_ | refine d_nil (by kernel_rfl) ?_ | first | refine o_yes rfl rfl rfl ?_ | refine o_no rfl rfl rfl (by decide) ?_ | refine o_no' rfl rfl rfl ?_ | refine a_condT rfl ?_ | refine a_condF rfl ?_ | refine d_no rfl rfl rfl (by decide) ?_ | refine d_no' rfl rfl rfl ?_ | ((first | refine o_split_t rfl rfl rfl (fun hb => ?_) (fun hb => ?_) | refine o_split_f rfl rfl rfl (fun hb => ?_) (fun hb => ?_) | refine a_cond rfl (fun hb => ?_) (fun hb => ?_) | refine d_split rfl rfl (fun hb => ?_) (fun hb => ?_)) <;> (simp only [hb]; try simp only [decide_eq_true_eq, decide_eq_false_iff_not, Bool.not_eq_true', Bool.not_eq_false', Bool.not_eq_true, Bool.not_eq_false, ne_eq, Decidable.not_not] at hb; try (exfalso; first | omega | exact hb trivial))))
          refine ⟨⟨(q + 1, m'), by dsimp only; omega, hpm.trans hperm2.symm⟩, by dsimp only; omega, ?_⟩
          refine ⟨by repeat' (first | exact trivial | exact FinA.one (FinB.cell (FinC.same rfl)) | exact FinA.one (FinB.cell FinC.nil) | exact FinA.bound rfl | exact FinA.one (FinB.cell (FinC.own rfl rfl rfl rfl)) | exact FinA.one (FinB.cell (FinC.v (by first | rfl | ((first | (simp only [hN]; done) | (simp only [hN]; rfl) | (exact hsz2.symm)))))) | exact FinA.one (FinB.cell (FinC.ow rfl (by first | rfl | ((first | (simp only [hN]; done) | (simp only [hN]; rfl) | (exact hsz2.symm)))))) | exact FinA.one (FinB.agg' rfl rfl) | refine ⟨⟨_, rfl, ?_⟩, ?_⟩), by repeat' (first | exact trivial | refine ⟨⟨_, rfl, by first | rfl | ((first | (simp only [hN]; done) | (simp only [hN]; rfl) | (exact hsz2.symm)); done) | (simp [renO, *]; done)⟩, by first | rfl | assumption, ?_⟩), rfl⟩
        · by_cases hlt : q < sw.length
          · have hel : (sw.map iav)[q]? = some (iav sw[q]) := by simp [hlt]
            have hbr : fs.length ≤ q + 1 := by omega
            repeat' (first | ((first | apply o_do | apply d_do | apply d_yes rfl rfl rfl); exact lsq) | first | refine a_seq ?_ | refine a_region ?_ | refine o_nil ?_ | refine a_block ?_ | refine a_ret ?_ | refine a_exit ?_ | refine a_skip ?_ | refine a_draw mixed ?_ | refine d_nil (by kernel_rfl) ?_ | first | refine o_yes rfl rfl rfl ?_ | refine o_no rfl rfl rfl (by decide) ?_ | refine o_no' rfl rfl rfl ?_ | refine a_condT rfl ?_ | refine a_condF rfl ?_ | refine d_no rfl rfl rfl (by decide) ?_ | refine d_no' rfl rfl rfl ?_ | ((first | refine o_split_t rfl rfl rfl (fun hb => ?_) (fun hb => ?_) | refine o_split_f rfl rfl rfl (fun hb => ?_) (fun hb => ?_) | refine a_cond rfl (fun hb => ?_) (fun hb => ?_) | refine d_split rfl rfl (fun hb => ?_) (fun hb => ?_)) <;> (simp only [hb]; try simp only [decide_eq_true_eq, decide_eq_false_iff_not, Bool.not_eq_true', Bool.not_eq_false', Bool.not_eq_true, Bool.not_eq_false, ne_eq, Decidable.not_not] at hb; try (exfalso; first | omega | exact hb trivial))))
            refine o_weak (t := ⟨[(1, .sl 3 (fs.map Et.av)), (7, .sl 5 (U.map Rs.av)), (9, .sl 3 (K.map Et.av)), (112, .agg [.v (.int .i64 g), .v (.int .i64 s), .v (.int .i64 d), .v (.int .i64 k), .v (.int .i64 fu), .v (.int .i64 li), .v (.int .i64 1099511627776), .v (.int .i64 id)]), (113, .sl 3 (m.map Et.av))], []⟩) ?_ ?_
            · refine ⟨by repeat' (first | exact trivial | exact FinA.one (FinB.cell (FinC.same rfl)) | exact FinA.one (FinB.cell FinC.nil) | exact FinA.bound rfl | exact FinA.one (FinB.cell (FinC.own rfl rfl rfl rfl)) | exact FinA.one (FinB.cell (FinC.v (by first | rfl | (simp)))) | exact FinA.one (FinB.cell (FinC.ow rfl (by first | rfl | (simp)))) | exact FinA.one (FinB.agg' rfl rfl) | refine ⟨⟨_, rfl, ?_⟩, ?_⟩), by repeat' (first | exact trivial | refine ⟨⟨_, rfl, by first | rfl | (simp; done) | (simp [renO, *]; done)⟩, by first | rfl | assumption, ?_⟩), rfl⟩
            repeat' (first | ((first | apply o_do | apply d_do | apply d_yes rfl rfl rfl); first | exact lsc (hr2) | exact lsc (hA) | exact lsc (hL) | exact lsq) | first | refine a_seq ?_ | refine a_region ?_ | refine o_nil ?_ | refine a_block ?_ | refine a_ret ?_ | refine a_exit ?_ | refine a_skip ?_ | refine a_draw mixed ?_ | refine d_nil (by kernel_rfl) ?_ | first | refine o_yes rfl rfl rfl ?_ | refine o_no rfl rfl rfl (by decide) ?_ | refine o_no' rfl rfl rfl ?_ | refine a_condT rfl ?_ | refine a_condF rfl ?_ | refine d_no rfl rfl rfl (by decide) ?_ | refine d_no' rfl rfl rfl ?_ | ((first | refine o_split_t rfl rfl rfl (fun hb => ?_) (fun hb => ?_) | refine o_split_f rfl rfl rfl (fun hb => ?_) (fun hb => ?_) | refine a_cond rfl (fun hb => ?_) (fun hb => ?_) | refine d_split rfl rfl (fun hb => ?_) (fun hb => ?_)) <;> (simp only [hb]; try simp only [decide_eq_true_eq, decide_eq_false_iff_not, Bool.not_eq_true', Bool.not_eq_false', Bool.not_eq_true, Bool.not_eq_false, ne_eq, Decidable.not_not] at hb; try (exfalso; first | omega | exact hb trivial))))
            all_goals refine ⟨by first | exact .inr rfl | exact .inl rfl, _, rfl, ?_, by repeat' (first | exact trivial | refine ⟨⟨_, rfl, by first | rfl | (simp [renO, *]; done)⟩, by first | rfl | assumption, ?_⟩)⟩
            all_goals (first | refine FinA.tup ?_ | refine FinA.one ?_); repeat' (first | exact FinBs.nil | exact FinCs.nil | refine FinBs.cons ?_ ?_ | refine FinCs.cons ?_ ?_ | refine FinB.cell (FinC.v ?_) | refine FinB.cell (FinC.own rfl rfl rfl ?_) | exact FinB.cell FinC.nil | refine FinB.cell (FinC.sl ?_) | exact FinB.agg' rfl rfl | exact FinB.cell (FinC.same rfl) | refine FinB.agg ?_ | refine FinC.v ?_ | refine FinC.own rfl rfl rfl ?_ | exact FinC.nil | refine FinC.sl ?_ | exact FinC.same rfl); all_goals try rfl
            all_goals simp
          · repeat' (first | ((first | apply o_do | apply d_do | apply d_yes rfl rfl rfl); exact lsq) | first | refine a_seq ?_ | refine a_region ?_ | refine o_nil ?_ | refine a_block ?_ | refine a_ret ?_ | refine a_exit ?_ | refine a_skip ?_ | refine a_draw mixed ?_ | refine d_nil (by kernel_rfl) ?_ | first | refine o_yes rfl rfl rfl ?_ | refine o_no rfl rfl rfl (by decide) ?_ | refine o_no' rfl rfl rfl ?_ | refine a_condT rfl ?_ | refine a_condF rfl ?_ | refine d_no rfl rfl rfl (by decide) ?_ | refine d_no' rfl rfl rfl ?_ | ((first | refine o_split_t rfl rfl rfl (fun hb => ?_) (fun hb => ?_) | refine o_split_f rfl rfl rfl (fun hb => ?_) (fun hb => ?_) | refine a_cond rfl (fun hb => ?_) (fun hb => ?_) | refine d_split rfl rfl (fun hb => ?_) (fun hb => ?_)) <;> (simp only [hb]; try simp only [decide_eq_true_eq, decide_eq_false_iff_not, Bool.not_eq_true', Bool.not_eq_false', Bool.not_eq_true, Bool.not_eq_false, ne_eq, Decidable.not_not] at hb; try (exfalso; first | omega | exact hb trivial))))
            refine o_weak (t := ⟨[(1, .sl 3 (fs.map Et.av)), (7, .sl 5 (U.map Rs.av)), (9, .sl 3 (K.map Et.av)), (112, .agg [.v (.int .i64 g), .v (.int .i64 s), .v (.int .i64 d), .v (.int .i64 k), .v (.int .i64 fu), .v (.int .i64 li), .v (.int .i64 1099511627776), .v (.int .i64 id)]), (113, .sl 3 (m.map Et.av))], []⟩) ?_ ?_
            · refine ⟨by repeat' (first | exact trivial | exact FinA.one (FinB.cell (FinC.same rfl)) | exact FinA.one (FinB.cell FinC.nil) | exact FinA.bound rfl | exact FinA.one (FinB.cell (FinC.own rfl rfl rfl rfl)) | exact FinA.one (FinB.cell (FinC.v (by first | rfl | (simp)))) | exact FinA.one (FinB.cell (FinC.ow rfl (by first | rfl | (simp)))) | exact FinA.one (FinB.agg' rfl rfl) | refine ⟨⟨_, rfl, ?_⟩, ?_⟩), by repeat' (first | exact trivial | refine ⟨⟨_, rfl, by first | rfl | (simp; done) | (simp [renO, *]; done)⟩, by first | rfl | assumption, ?_⟩), rfl⟩
            repeat' (first | ((first | apply o_do | apply d_do | apply d_yes rfl rfl rfl); first | exact lsc (hr2) | exact lsc (hA) | exact lsc (hL) | exact lsq) | first | refine a_seq ?_ | refine a_region ?_ | refine o_nil ?_ | refine a_block ?_ | refine a_ret ?_ | refine a_exit ?_ | refine a_skip ?_ | refine a_draw mixed ?_ | refine d_nil (by kernel_rfl) ?_ | first | refine o_yes rfl rfl rfl ?_ | refine o_no rfl rfl rfl (by decide) ?_ | refine o_no' rfl rfl rfl ?_ | refine a_condT rfl ?_ | refine a_condF rfl ?_ | refine d_no rfl rfl rfl (by decide) ?_ | refine d_no' rfl rfl rfl ?_ | ((first | refine o_split_t rfl rfl rfl (fun hb => ?_) (fun hb => ?_) | refine o_split_f rfl rfl rfl (fun hb => ?_) (fun hb => ?_) | refine a_cond rfl (fun hb => ?_) (fun hb => ?_) | refine d_split rfl rfl (fun hb => ?_) (fun hb => ?_)) <;> (simp only [hb]; try simp only [decide_eq_true_eq, decide_eq_false_iff_not, Bool.not_eq_true', Bool.not_eq_false', Bool.not_eq_true, Bool.not_eq_false, ne_eq, Decidable.not_not] at hb; try (exfalso; first | omega | exact hb trivial))))
            all_goals refine ⟨by first | exact .inr rfl | exact .inl rfl, _, rfl, ?_, by repeat' (first | exact trivial | refine ⟨⟨_, rfl, by first | rfl | (simp [renO, *]; done)⟩, by first | rfl | assumption, ?_⟩)⟩
            all_goals (first | refine FinA.tup ?_ | refine FinA.one ?_); repeat' (first | exact FinBs.nil | exact FinCs.nil | refine FinBs.cons ?_ ?_ | refine FinCs.cons ?_ ?_ | refine FinB.cell (FinC.v ?_) | refine FinB.cell (FinC.own rfl rfl rfl ?_) | exact FinB.cell FinC.nil | refine FinB.cell (FinC.sl ?_) | exact FinB.agg' rfl rfl | exact FinB.cell (FinC.same rfl) | refine FinB.agg ?_ | refine FinC.v ?_ | refine FinC.own rfl rfl rfl ?_ | exact FinC.nil | refine FinC.sl ?_ | exact FinC.same rfl); all_goals try rfl
            all_goals simp
    · rw [hU] at hR
      dsimp only [RR.av, KR.av, List.map_nil] at hR hK
      generalize keptE li fu 1099511627776 0 fs = K at *
      clear hF0 hfs
      rcases hcase with ⟨c1, c2, rfl⟩ | ⟨c, rfl⟩
      all_goals
        refine PC.mk (ac_body tab_ok Try.func20 rfl (by kernel_rfl) rfl ?_); intro w0 M μ0; simp only [Try.ntmps20, List.length_cons, List.length_nil, Nat.reduceAdd, Nat.reduceSub, numb]
        repeat' (first | ((first | apply o_do | apply d_do | apply d_yes rfl rfl rfl); first | exact ls_slice_to (n := 30) tab_ok rfl rfl rfl rfl (by rw [hn]; omega) rfl | exact lsc (hR) | exact lsc (hK) | exact lsc (hA) | exact lsq) | first | refine a_seq ?_ | refine a_region ?_ | refine o_nil ?_ | refine a_block ?_ | refine a_ret ?_ | refine a_exit ?_ | refine a_skip ?_ | refine a_draw mixed ?_ | refine d_nil (by kernel_rfl) ?_ | first | refine o_yes rfl rfl rfl ?_ | refine o_no rfl rfl rfl (by decide) ?_ | refine o_no' rfl rfl rfl ?_ | refine a_condT rfl ?_ | refine a_condF rfl ?_ | refine d_no rfl rfl rfl (by decide) ?_ | refine d_no' rfl rfl rfl ?_ | ((first | refine o_split_t rfl rfl rfl (fun hb => ?_) (fun hb => ?_) | refine o_split_f rfl rfl rfl (fun hb => ?_) (fun hb => ?_) | refine a_cond rfl (fun hb => ?_) (fun hb => ?_) | refine d_split rfl rfl (fun hb => ?_) (fun hb => ?_)) <;> (simp only [hb]; try simp only [decide_eq_true_eq, decide_eq_false_iff_not, Bool.not_eq_true', Bool.not_eq_false', Bool.not_eq_true, Bool.not_eq_false, ne_eq, Decidable.not_not] at hb; try (exfalso; first | omega | exact hb trivial))))
        all_goals refine ⟨by first | exact .inr rfl | exact .inl rfl, _, rfl, ?_, by repeat' (first | exact trivial | refine ⟨⟨_, rfl, by first | rfl | (simp [renO, *]; done)⟩, by first | rfl | assumption, ?_⟩)⟩
        all_goals (first | refine FinA.tup ?_ | refine FinA.one ?_); repeat' (first | exact FinBs.nil | exact FinCs.nil | refine FinBs.cons ?_ ?_ | refine FinCs.cons ?_ ?_ | refine FinB.cell (FinC.v ?_) | refine FinB.cell (FinC.own rfl rfl rfl ?_) | exact FinB.cell FinC.nil | refine FinB.cell (FinC.sl ?_) | exact FinB.agg' rfl rfl | exact FinB.cell (FinC.same rfl) | refine FinB.agg ?_ | refine FinC.v ?_ | refine FinC.own rfl rfl rfl ?_ | exact FinC.nil | refine FinC.sl ?_ | exact FinC.same rfl); all_goals try rfl
        all_goals simp
  · rw [if_neg h0] at hK hR
    dsimp only [RR.av, KR.av, List.map_nil] at hR hK
    generalize checkN g s d k fu li 1099511627776 id [fs] = r at *
    clear hF0 hfs
    rcases hcase with ⟨c1, c2, rfl⟩ | ⟨c, rfl⟩
    all_goals
      refine PC.mk (ac_body tab_ok Try.func20 rfl (by kernel_rfl) rfl ?_); intro w0 M μ0; simp only [Try.ntmps20, List.length_cons, List.length_nil, Nat.reduceAdd, Nat.reduceSub, numb]
      repeat' (first | ((first | apply o_do | apply d_do | apply d_yes rfl rfl rfl); first | exact ls_slice_to (n := 30) tab_ok rfl rfl rfl rfl (by rw [hn]; omega) rfl | exact lsc (hR) | exact lsc (hK) | exact lsc (hA) | exact lsq) | first | refine a_seq ?_ | refine a_region ?_ | refine o_nil ?_ | refine a_block ?_ | refine a_ret ?_ | refine a_exit ?_ | refine a_skip ?_ | refine a_draw mixed ?_ | refine d_nil (by kernel_rfl) ?_ | first | refine o_yes rfl rfl rfl ?_ | refine o_no rfl rfl rfl (by decide) ?_ | refine o_no' rfl rfl rfl ?_ | refine a_condT rfl ?_ | refine a_condF rfl ?_ | refine d_no rfl rfl rfl (by decide) ?_ | refine d_no' rfl rfl rfl ?_ | ((first | refine o_split_t rfl rfl rfl (fun hb => ?_) (fun hb => ?_) | refine o_split_f rfl rfl rfl (fun hb => ?_) (fun hb => ?_) | refine a_cond rfl (fun hb => ?_) (fun hb => ?_) | refine d_split rfl rfl (fun hb => ?_) (fun hb => ?_)) <;> (simp only [hb]; try simp only [decide_eq_true_eq, decide_eq_false_iff_not, Bool.not_eq_true', Bool.not_eq_false', Bool.not_eq_true, Bool.not_eq_false, ne_eq, Decidable.not_not] at hb; try (exfalso; first | omega | exact hb trivial))))
      all_goals refine ⟨by first | exact .inr rfl | exact .inl rfl, _, rfl, ?_, by repeat' (first | exact trivial | refine ⟨⟨_, rfl, by first | rfl | (simp [renO, *]; done)⟩, by first | rfl | assumption, ?_⟩)⟩
      all_goals (first | refine FinA.tup ?_ | refine FinA.one ?_); repeat' (first | exact FinBs.nil | exact FinCs.nil | refine FinBs.cons ?_ ?_ | refine FinCs.cons ?_ ?_ | refine FinB.cell (FinC.v ?_) | refine FinB.cell (FinC.own rfl rfl rfl ?_) | exact FinB.cell FinC.nil | refine FinB.cell (FinC.sl ?_) | exact FinB.agg' rfl rfl | exact FinB.cell (FinC.same rfl) | refine FinB.agg ?_ | refine FinC.v ?_ | refine FinC.own rfl rfl rfl ?_ | exact FinC.nil | refine FinC.sl ?_ | exact FinC.same rfl); all_goals try rfl
      all_goals simp
end Go.Proofs.Ytimlkhbedhjehaa
