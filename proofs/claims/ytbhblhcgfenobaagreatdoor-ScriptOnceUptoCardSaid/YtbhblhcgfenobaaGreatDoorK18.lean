/-
  Scripts read by the program: script.Parse is the plain function plan.
-/
import Derived.Test.YtbhblhcgfenobaaGreatDoorK4
import Derived.Test.YtbhblhcgfenobaaGreatDoorK17
namespace Go.Proofs.YtbhblhcgfenobaaGreatDoor
open Go.RowKit
set_option linter.unusedSimpArgs false
set_option linter.unusedVariables false
theorem p_failZ (n : Int) : PC Tryz.prog 16 [.v (.int .i64 n)] (.tup [.agg [.v (.int .i64 0), .v (.int .i64 0), .v (.int .i64 0), .v (.int .i64 0), .v (.int .i64 0), .v (.int .i64 0), .v (.int .i64 0), .v (.int .i64 0), .sl 1 [], .v (.int .i64 0), .sl 3 []], .v (.int .i64 240), .v (.int .i64 n)]) := p_fail n
theorem hd_take {L : List ByteArray} {k : Nat} (h : k = 6 ∨ L.length = k) (h6 : k ≤ 6) : L.take 6 = L.take k ∧ L.drop 6 = L.drop k := by
  rcases h with rfl | h
  · exact ⟨rfl, rfl⟩
  · rw [List.take_of_length_le (by omega), List.take_of_length_le (by omega), List.drop_eq_nil_of_le (by omega), List.drop_eq_nil_of_le (by omega)]
    exact ⟨rfl, rfl⟩
set_option maxHeartbeats 32000000 in
set_option maxRecDepth 20000 in
theorem p_sParse (s : ByteArray) (hs : Sm s) : PCT Tryz.prog TabP 6 [.v (.string s)] (.tup [.agg (plan s).1.av, .v (.int .i64 (plan s).2.1), .v (.int .i64 (plan s).2.2)]) := by
  obtain ⟨R, hR⟩ : ∃ R, R = plan s := ⟨_, rfl⟩
  rw [← hR]
  obtain ⟨L, t, hLt⟩ : ∃ L t, lnS s.data.toList = (L, t) := ⟨_, _, rfl⟩
  have hj := lnS_join _ s.data.toList (Nat.le_refl _)
  unfold plan hdS at hR
  rw [hLt] at hR hj
  dsimp only at hR hj
  have hT : LT s L t := ⟨hj.1, hj.2.1, hj.2.2⟩
  clear hj hLt
  have hsz : s.size ≤ 4294967280 := hs
  have hlen := hT.len
  have hfail := p_failZ
  refine PCT.mk (act_body tab_ok Tryz.func6 rfl (by kernel_rfl) rfl ?_); intro w0 M μ0 hG; simp only [Tryz.ntmps6, List.length_cons, List.length_nil, Nat.reduceAdd, Nat.reduceSub, numb] at hG ⊢
  repeat' (first | ((first | apply o_do | apply d_do | apply d_yes rfl rfl rfl); exact lsq) | refine a_seq ?_ | refine a_region ?_ | refine o_nil ?_ | refine a_block ?_ | refine a_ret ?_ | refine a_exit ?_ | refine a_skip ?_ | refine a_draw mixed ?_ | refine d_nil (by kernel_rfl) ?_ | refine o_yes rfl rfl rfl ?_ | refine o_no rfl rfl rfl (by decide) ?_ | refine o_no' rfl rfl rfl ?_ | refine a_condT rfl ?_ | refine a_condF rfl ?_ | refine d_no rfl rfl rfl (by decide) ?_ | refine d_no' rfl rfl rfl ?_ | (refine wq2 (fun hb => ?_) (fun hb => ?_) <;> (simp only [hb]; try simp only [hbs, ne_eq] at hb; try (exfalso; first | omega | exact hb trivial))) | fail)
  refine a_loop (X := {x : Nat // x ≤ 6 ∧ x ≤ L.length}) (fun x => ⟨[(1, .ref 0 0), (2, .ref 1 0), (3, .v (.int .i64 0)), (4, .v (.int .i64 0)), (5, .ref 2 0), (6, .ref 3 0), (7, .clo (.func 12) [] [.ref 0 0, .ref 2 0, .ref 3 0]), (23, .v (.int .i64 x.1))], [(0, .box 9 [.v (.string s)]), (1, .box 27 [.v (.int .i64 0), .v (.int .i64 0), .v (.int .i64 0), .v (.int .i64 0), .v (.int .i64 0), .v (.int .i64 0), .v (.int .i64 0), .v (.int .i64 0), .v (.slice none 0 0), .v (.int .i64 0), .v (.slice none 0 0)]), (2, .box 3 [.v (.int .i64 (po L x.1 : Nat))]), (3, .box 3 [.v (.int .i64 (x.1 : Nat))])]⟩) (fun x => 6 - x.1) ⟨0, by omega, by omega⟩ ?_ ?_
  · refine ⟨by repeat' (first | exact trivial | exact FinA.one (FinB.cell (FinC.same rfl)) | exact FinA.one (FinB.cell FinC.nil) | exact FinA.bound rfl | exact FinA.one (FinB.cell (FinC.own rfl rfl rfl rfl)) | exact FinA.one (FinB.cell (FinC.v (by first | rfl | (simp [po, unl])))) | exact FinA.one (FinB.cell (FinC.ow rfl (by first | rfl | (simp [po, unl])))) | exact FinA.one (FinB.agg' rfl rfl) | exact FinA.one (FinB.cell (FinC.el rfl rfl rfl rfl)) | refine FinA.clo ?_ ?_ | exact FinBs.nil | exact FinB.cell (FinC.same rfl) | exact FinB.cell (FinC.el rfl rfl rfl rfl) | refine FinBs.cons ?_ ?_ | refine ⟨⟨_, rfl, ?_⟩, ?_⟩), by repeat' (first | exact trivial | refine ⟨⟨_, rfl, by first | rfl | (simp [po, unl]; done) | (simp [renO, *]; done)⟩, by first | rfl | assumption, ?_⟩), rfl⟩
  rintro ⟨k, h6, hkL⟩
  dsimp only
  by_cases hend : ¬ (k = 6 ∨ L.length = k)
  · have hN := c_next hT hs k (by omega)
    unfold SN at hN
    generalize (spl L[k] sp1).map stAv = W at *
    have ek : ((k + 1 : Nat) : Int) = (k : Int) + 1 := by omega
    rw [ek] at hN
    repeat' (first | ((first | apply o_do | apply d_do | apply d_yes rfl rfl rfl); first | exact ls_callAT hG [0, 2, 3] 50 hN rfl rfl (by (repeat' (first | exact NilL.nil | refine NilL.cons Nil.same ?_ | refine NilL.cons Nil.nil ?_ | refine NilL.cons (Nil.agg ?_) ?_ | exact Nil1s.nil | refine Nil1s.cons Nil1.same ?_ | refine Nil1s.cons Nil1.nil ?_)); first | done | fail) rfl (by repeat' (first | exact trivial | refine ⟨⟨_, rfl, by first | rfl | (simp [renO, *]; done)⟩, ?_⟩)) (by first | rfl | simp [closO, *]) rfl rfl rfl rfl (by first | rfl | simp [closO, *]) rfl | exact lsq) | refine a_seq ?_ | refine a_region ?_ | refine o_nil ?_ | refine a_block ?_ | refine a_ret ?_ | refine a_exit ?_ | refine a_skip ?_ | refine a_draw mixed ?_ | refine d_nil (by kernel_rfl) ?_ | refine o_yes rfl rfl rfl ?_ | refine o_no rfl rfl rfl (by decide) ?_ | refine o_no' rfl rfl rfl ?_ | refine a_condT rfl ?_ | refine a_condF rfl ?_ | refine d_no rfl rfl rfl (by decide) ?_ | refine d_no' rfl rfl rfl ?_ | (refine wq2 (fun hb => ?_) (fun hb => ?_) <;> (simp only [hb]; try simp only [hbs, ne_eq] at hb; try (exfalso; first | omega | exact hb trivial))) | fail)
    refine ⟨⟨k + 1, by omega, by omega⟩, by dsimp only; omega, ?_⟩
    refine ⟨by repeat' (first | exact trivial | exact FinA.one (FinB.cell (FinC.same rfl)) | exact FinA.one (FinB.cell FinC.nil) | exact FinA.bound rfl | exact FinA.one (FinB.cell (FinC.own rfl rfl rfl rfl)) | exact FinA.one (FinB.cell (FinC.v (by first | rfl | (simp)))) | exact FinA.one (FinB.cell (FinC.ow rfl (by first | rfl | (simp)))) | exact FinA.one (FinB.agg' rfl rfl) | exact FinA.one (FinB.cell (FinC.el rfl rfl rfl rfl)) | refine FinA.clo ?_ ?_ | exact FinBs.nil | exact FinB.cell (FinC.same rfl) | exact FinB.cell (FinC.el rfl rfl rfl rfl) | refine FinBs.cons ?_ ?_ | refine ⟨⟨_, rfl, ?_⟩, ?_⟩), by repeat' (first | exact trivial | refine ⟨⟨_, rfl, by first | rfl | (simp; done) | (simp [renO, *]; done)⟩, by first | rfl | assumption, ?_⟩), rfl⟩
  have hend : k = 6 ∨ L.length = k := Decidable.not_not.1 hend
  refine a_brk ⟨[(1, .ref 0 0), (2, .ref 1 0), (3, .v (.int .i64 0)), (4, .v (.int .i64 0)), (5, .ref 2 0), (6, .ref 3 0), (7, .clo (.func 12) [] [.ref 0 0, .ref 2 0, .ref 3 0])], [(0, .box 9 [.v (.string s)]), (1, .box 27 [.v (.int .i64 0), .v (.int .i64 0), .v (.int .i64 0), .v (.int .i64 0), .v (.int .i64 0), .v (.int .i64 0), .v (.int .i64 0), .v (.int .i64 0), .v (.slice none 0 0), .v (.int .i64 0), .v (.slice none 0 0)]), (2, .box 3 [.v (.int .i64 (po L k : Nat))]), (3, .box 3 [.v (.int .i64 (k : Nat))])]⟩ ?_ ?_
  · by_cases hk6 : k = 6
    · subst hk6
      repeat' (first | ((first | apply o_do | apply d_do | apply d_yes rfl rfl rfl); exact lsq) | refine a_seq ?_ | refine a_region ?_ | refine o_nil ?_ | refine a_block ?_ | refine a_ret ?_ | refine a_exit ?_ | refine a_skip ?_ | refine a_draw mixed ?_ | refine d_nil (by kernel_rfl) ?_ | refine o_yes rfl rfl rfl ?_ | refine o_no rfl rfl rfl (by decide) ?_ | refine o_no' rfl rfl rfl ?_ | refine a_condT rfl ?_ | refine a_condF rfl ?_ | refine d_no rfl rfl rfl (by decide) ?_ | refine d_no' rfl rfl rfl ?_ | (refine wq2 (fun hb => ?_) (fun hb => ?_) <;> (simp only [hb]; try simp only [hbs, ne_eq] at hb; try (exfalso; first | omega | exact hb trivial))) | fail)
      all_goals refine ⟨rfl, ?_⟩
      all_goals refine ⟨by repeat' (first | exact trivial | exact FinA.one (FinB.cell (FinC.same rfl)) | exact FinA.one (FinB.cell FinC.nil) | exact FinA.bound rfl | exact FinA.one (FinB.cell (FinC.own rfl rfl rfl rfl)) | exact FinA.one (FinB.cell (FinC.v (by first | rfl | (simp)))) | exact FinA.one (FinB.cell (FinC.ow rfl (by first | rfl | (simp)))) | exact FinA.one (FinB.agg' rfl rfl) | exact FinA.one (FinB.cell (FinC.el rfl rfl rfl rfl)) | refine FinA.clo ?_ ?_ | exact FinBs.nil | exact FinB.cell (FinC.same rfl) | exact FinB.cell (FinC.el rfl rfl rfl rfl) | refine FinBs.cons ?_ ?_ | refine ⟨⟨_, rfl, ?_⟩, ?_⟩), by repeat' (first | exact trivial | refine ⟨⟨_, rfl, by first | rfl | (simp; done) | (simp [renO, *]; done)⟩, by first | rfl | assumption, ?_⟩), rfl⟩
    · have hN := c_nextE hT hs k (by omega)
      unfold SN at hN
      repeat' (first | ((first | apply o_do | apply d_do | apply d_yes rfl rfl rfl); first | exact ls_callAT hG [0, 2, 3] 50 hN rfl rfl (by (repeat' (first | exact NilL.nil | refine NilL.cons Nil.same ?_ | refine NilL.cons Nil.nil ?_ | refine NilL.cons (Nil.agg ?_) ?_ | exact Nil1s.nil | refine Nil1s.cons Nil1.same ?_ | refine Nil1s.cons Nil1.nil ?_)); first | done | fail) rfl (by repeat' (first | exact trivial | refine ⟨⟨_, rfl, by first | rfl | (simp [renO, *]; done)⟩, ?_⟩)) (by first | rfl | simp [closO, *]) rfl rfl rfl rfl (by first | rfl | simp [closO, *]) rfl | exact lsq) | refine a_seq ?_ | refine a_region ?_ | refine o_nil ?_ | refine a_block ?_ | refine a_ret ?_ | refine a_exit ?_ | refine a_skip ?_ | refine a_draw mixed ?_ | refine d_nil (by kernel_rfl) ?_ | refine o_yes rfl rfl rfl ?_ | refine o_no rfl rfl rfl (by decide) ?_ | refine o_no' rfl rfl rfl ?_ | refine a_condT rfl ?_ | refine a_condF rfl ?_ | refine d_no rfl rfl rfl (by decide) ?_ | refine d_no' rfl rfl rfl ?_ | (refine wq2 (fun hb => ?_) (fun hb => ?_) <;> (simp only [hb]; try simp only [hbs, ne_eq] at hb; try (exfalso; first | omega | exact hb trivial))) | fail)
      all_goals refine ⟨rfl, ?_⟩
      all_goals refine ⟨by repeat' (first | exact trivial | exact FinA.one (FinB.cell (FinC.same rfl)) | exact FinA.one (FinB.cell FinC.nil) | exact FinA.bound rfl | exact FinA.one (FinB.cell (FinC.own rfl rfl rfl rfl)) | exact FinA.one (FinB.cell (FinC.v (by first | rfl | (simp)))) | exact FinA.one (FinB.cell (FinC.ow rfl (by first | rfl | (simp)))) | exact FinA.one (FinB.agg' rfl rfl) | exact FinA.one (FinB.cell (FinC.el rfl rfl rfl rfl)) | refine FinA.clo ?_ ?_ | exact FinBs.nil | exact FinB.cell (FinC.same rfl) | exact FinB.cell (FinC.el rfl rfl rfl rfl) | refine FinBs.cons ?_ ?_ | refine ⟨⟨_, rfl, ?_⟩, ?_⟩), by repeat' (first | exact trivial | refine ⟨⟨_, rfl, by first | rfl | (simp; done) | (simp [renO, *]; done)⟩, by first | rfl | assumption, ?_⟩), rfl⟩
  obtain ⟨q1, q2⟩ := hd_take hend h6
  rw [q1, q2] at hR
  clear q1 q2
  have hx : s.extract 0 (po L k) = mkB (unl (L.take k)) := ext_pre (l := unl (L.take k)) (r := unl (L.drop k) ++ t) (by rw [hT.eq, unl_split L k, List.append_assoc])
  have hpo := hT.spot k
  have hP := p_Parse (s.extract 0 (po L k)) (by rw [hx]; unfold Sm; rw [← size_list, mkB_list]; unfold po at hpo; omega)
  rw [← hx] at hR
  clear hx
  obtain ⟨J, e, ln, hJ⟩ : ∃ J e ln, pars 6 1 zJ (s.extract 0 (po L k)) = (J, e, ln) := ⟨_, _, _, rfl⟩
  rw [hJ] at hP hR
  dsimp only at hP hR
  clear hJ
  have hkp : po L k ≤ s.size := by omega
  obtain ⟨g, sz, sd, kd, fu, li, de, id⟩ := J
  unfold J8.av at hP
  dsimp only at hP
  by_cases he : e = 0
  · subst he
    rw [if_neg (by decide)] at hR
    rcases Nat.lt_or_ge k L.length with hk | hk
    · obtain rfl : k = 6 := by omega
      have hN := c_next hT hs 6 hk
      unfold SN at hN
      rw [drop_cons hk] at hR
      unfold tailP at hR
      dsimp only at hR
      obtain ⟨w, ws, eW⟩ := spl_ne L[6]
      obtain ⟨m1, m2⟩ := spl_sm (hT.sm hs hk)
      rw [eW] at hR hN m1 m2
      clear eW
      have hWl : ((w :: ws).map stAv).length = ws.length + 1 := by simp
      have hel0 : ((w :: ws).map stAv)[0]? = some [.v (.string w)] := by simp [stAv]
      have hel1 : ∀ x, ws = [x] → ((w :: ws).map stAv)[1]? = some [.v (.string x)] := fun x hx => by rw [hx]; simp [stAv]
      rw [List.length_cons] at m2
      generalize (w :: ws).map stAv = W at hN hWl hel0 hel1
      cases hwk : wkO (w :: ws) with
      | none =>
        rw [hwk] at hR
        dsimp only at hR
        subst hR
        have hf := hfail 7
        unfold zPl Pl.av
        simp only [List.map_nil]
        rcases wkO_no hwk with h2 | ⟨a, b, e2, h3⟩
        · rw [List.length_cons] at h2
          repeat' (first | ((first | apply o_do | apply d_do | apply d_yes rfl rfl rfl); first | exact ls_strTo (n := po L 6) tab_ok rfl rfl rfl rfl hkp rfl | focus (apply ls_callT hG hP rfl rfl _ rfl rfl; (repeat' (first | exact NilL.nil | refine NilL.cons Nil.same ?_ | refine NilL.cons Nil.nil ?_ | refine NilL.cons (Nil.agg ?_) ?_ | exact Nil1s.nil | refine Nil1s.cons Nil1.same ?_ | refine Nil1s.cons Nil1.nil ?_)); done) | exact ls_callAT hG [0, 2, 3] 50 hN rfl rfl (by (repeat' (first | exact NilL.nil | refine NilL.cons Nil.same ?_ | refine NilL.cons Nil.nil ?_ | refine NilL.cons (Nil.agg ?_) ?_ | exact Nil1s.nil | refine Nil1s.cons Nil1.same ?_ | refine Nil1s.cons Nil1.nil ?_)); first | done | fail) rfl (by repeat' (first | exact trivial | refine ⟨⟨_, rfl, by first | rfl | (simp [renO, *]; done)⟩, ?_⟩)) (by first | rfl | simp [closO, *]) rfl rfl rfl rfl (by first | rfl | simp [closO, *]) rfl | exact lsc (hf) | exact ls_indexAddr_sl (q := 0) tab_ok rfl rfl rfl rfl hel0 rfl | exact lsq) | refine a_seq ?_ | refine a_region ?_ | refine o_nil ?_ | refine a_block ?_ | refine a_ret ?_ | refine a_exit ?_ | refine a_skip ?_ | refine a_draw mixed ?_ | refine d_nil (by kernel_rfl) ?_ | refine o_yes rfl rfl rfl ?_ | refine o_no rfl rfl rfl (by decide) ?_ | refine o_no' rfl rfl rfl ?_ | refine a_condT rfl ?_ | refine a_condF rfl ?_ | refine d_no rfl rfl rfl (by decide) ?_ | refine d_no' rfl rfl rfl ?_ | (refine wq2 (fun hb => ?_) (fun hb => ?_) <;> (simp only [hb]; try simp only [hbs, ne_eq] at hb; try (exfalso; first | omega | exact hb trivial))) | fail)
          all_goals try (exfalso; omega)
          all_goals refine rq rfl ?_
          all_goals exact fnq
        · injection e2 with e2 e3
          subst e2 e3
          have hel := hel1 b rfl
          rw [List.length_cons, List.length_nil] at hWl
          unfold wksB at h3
          rcases h3 with h3 | ⟨h3, h4⟩
          · repeat' (first | ((first | apply o_do | apply d_do | apply d_yes rfl rfl rfl); first | exact ls_strTo (n := po L 6) tab_ok rfl rfl rfl rfl hkp rfl | focus (apply ls_callT hG hP rfl rfl _ rfl rfl; (repeat' (first | exact NilL.nil | refine NilL.cons Nil.same ?_ | refine NilL.cons Nil.nil ?_ | refine NilL.cons (Nil.agg ?_) ?_ | exact Nil1s.nil | refine Nil1s.cons Nil1.same ?_ | refine Nil1s.cons Nil1.nil ?_)); done) | exact ls_callAT hG [0, 2, 3] 50 hN rfl rfl (by (repeat' (first | exact NilL.nil | refine NilL.cons Nil.same ?_ | refine NilL.cons Nil.nil ?_ | refine NilL.cons (Nil.agg ?_) ?_ | exact Nil1s.nil | refine Nil1s.cons Nil1.same ?_ | refine Nil1s.cons Nil1.nil ?_)); first | done | fail) rfl (by repeat' (first | exact trivial | refine ⟨⟨_, rfl, by first | rfl | (simp [renO, *]; done)⟩, ?_⟩)) (by first | rfl | simp [closO, *]) rfl rfl rfl rfl (by first | rfl | simp [closO, *]) rfl | exact lsc (hf) | exact ls_indexAddr_sl (q := 0) tab_ok rfl rfl rfl rfl hel0 rfl | exact lsq) | refine a_seq ?_ | refine a_region ?_ | refine o_nil ?_ | refine a_block ?_ | refine a_ret ?_ | refine a_exit ?_ | refine a_skip ?_ | refine a_draw mixed ?_ | refine d_nil (by kernel_rfl) ?_ | refine o_yes rfl rfl rfl ?_ | refine o_no rfl rfl rfl (by decide) ?_ | refine o_no' rfl rfl rfl ?_ | refine a_condT rfl ?_ | refine a_condF rfl ?_ | refine d_no rfl rfl rfl (by decide) ?_ | refine d_no' rfl rfl rfl ?_ | (refine wq2 (fun hb => ?_) (fun hb => ?_) <;> (simp only [hb]; try simp only [hbs, ne_eq] at hb; try (exfalso; first | omega | exact hb trivial))) | fail)
            all_goals try (exfalso; omega)
            all_goals try (exfalso; simp_all; done)
            all_goals refine rq rfl ?_
            all_goals exact fnq
          · have hM := p_snum b 8 (m1 b (by simp)).n
            rcases h4 with h4 | ⟨h4, h5⟩
            · rw [h4] at hM
              generalize numV b = v at *
              repeat' (first | ((first | apply o_do | apply d_do | apply d_yes rfl rfl rfl); first | exact ls_strTo (n := po L 6) tab_ok rfl rfl rfl rfl hkp rfl | focus (apply ls_callT hG hP rfl rfl _ rfl rfl; (repeat' (first | exact NilL.nil | refine NilL.cons Nil.same ?_ | refine NilL.cons Nil.nil ?_ | refine NilL.cons (Nil.agg ?_) ?_ | exact Nil1s.nil | refine Nil1s.cons Nil1.same ?_ | refine Nil1s.cons Nil1.nil ?_)); done) | exact ls_callAT hG [0, 2, 3] 50 hN rfl rfl (by (repeat' (first | exact NilL.nil | refine NilL.cons Nil.same ?_ | refine NilL.cons Nil.nil ?_ | refine NilL.cons (Nil.agg ?_) ?_ | exact Nil1s.nil | refine Nil1s.cons Nil1.same ?_ | refine Nil1s.cons Nil1.nil ?_)); first | done | fail) rfl (by repeat' (first | exact trivial | refine ⟨⟨_, rfl, by first | rfl | (simp [renO, *]; done)⟩, ?_⟩)) (by first | rfl | simp [closO, *]) rfl rfl rfl rfl (by first | rfl | simp [closO, *]) rfl | exact lsc (hf) | focus (apply ls_callT hG hM rfl rfl _ rfl rfl; (repeat' (first | exact NilL.nil | refine NilL.cons Nil.same ?_ | refine NilL.cons Nil.nil ?_ | refine NilL.cons (Nil.agg ?_) ?_ | exact Nil1s.nil | refine Nil1s.cons Nil1.same ?_ | refine Nil1s.cons Nil1.nil ?_)); done) | exact ls_indexAddr_sl (q := 0) tab_ok rfl rfl rfl rfl hel0 rfl | exact ls_indexAddr_sl (q := 1) tab_ok rfl rfl rfl rfl hel rfl | exact lsq) | refine a_seq ?_ | refine a_region ?_ | refine o_nil ?_ | refine a_block ?_ | refine a_ret ?_ | refine a_exit ?_ | refine a_skip ?_ | refine a_draw mixed ?_ | refine d_nil (by kernel_rfl) ?_ | refine o_yes rfl rfl rfl ?_ | refine o_no rfl rfl rfl (by decide) ?_ | refine o_no' rfl rfl rfl ?_ | refine a_condT rfl ?_ | refine a_condF rfl ?_ | refine d_no rfl rfl rfl (by decide) ?_ | refine d_no' rfl rfl rfl ?_ | (refine wq2 (fun hb => ?_) (fun hb => ?_) <;> (simp only [hb]; try simp only [hbs, ne_eq] at hb; try (exfalso; first | omega | exact hb trivial))) | fail)
              all_goals try (exfalso; omega)
              all_goals try (exfalso; simp_all; done)
              all_goals refine rq rfl ?_
              all_goals exact fnq
            · rw [h4] at hM
              generalize numV b = v at *
              repeat' (first | ((first | apply o_do | apply d_do | apply d_yes rfl rfl rfl); first | exact ls_strTo (n := po L 6) tab_ok rfl rfl rfl rfl hkp rfl | focus (apply ls_callT hG hP rfl rfl _ rfl rfl; (repeat' (first | exact NilL.nil | refine NilL.cons Nil.same ?_ | refine NilL.cons Nil.nil ?_ | refine NilL.cons (Nil.agg ?_) ?_ | exact Nil1s.nil | refine Nil1s.cons Nil1.same ?_ | refine Nil1s.cons Nil1.nil ?_)); done) | exact ls_callAT hG [0, 2, 3] 50 hN rfl rfl (by (repeat' (first | exact NilL.nil | refine NilL.cons Nil.same ?_ | refine NilL.cons Nil.nil ?_ | refine NilL.cons (Nil.agg ?_) ?_ | exact Nil1s.nil | refine Nil1s.cons Nil1.same ?_ | refine Nil1s.cons Nil1.nil ?_)); first | done | fail) rfl (by repeat' (first | exact trivial | refine ⟨⟨_, rfl, by first | rfl | (simp [renO, *]; done)⟩, ?_⟩)) (by first | rfl | simp [closO, *]) rfl rfl rfl rfl (by first | rfl | simp [closO, *]) rfl | exact lsc (hf) | focus (apply ls_callT hG hM rfl rfl _ rfl rfl; (repeat' (first | exact NilL.nil | refine NilL.cons Nil.same ?_ | refine NilL.cons Nil.nil ?_ | refine NilL.cons (Nil.agg ?_) ?_ | exact Nil1s.nil | refine Nil1s.cons Nil1.same ?_ | refine Nil1s.cons Nil1.nil ?_)); done) | exact ls_indexAddr_sl (q := 0) tab_ok rfl rfl rfl rfl hel0 rfl | exact ls_indexAddr_sl (q := 1) tab_ok rfl rfl rfl rfl hel rfl | exact lsq) | refine a_seq ?_ | refine a_region ?_ | refine o_nil ?_ | refine a_block ?_ | refine a_ret ?_ | refine a_exit ?_ | refine a_skip ?_ | refine a_draw mixed ?_ | refine d_nil (by kernel_rfl) ?_ | refine o_yes rfl rfl rfl ?_ | refine o_no rfl rfl rfl (by decide) ?_ | refine o_no' rfl rfl rfl ?_ | refine a_condT rfl ?_ | refine a_condF rfl ?_ | refine d_no rfl rfl rfl (by decide) ?_ | refine d_no' rfl rfl rfl ?_ | (refine wq2 (fun hb => ?_) (fun hb => ?_) <;> (simp only [hb]; try simp only [hbs, ne_eq] at hb; try (exfalso; first | omega | exact hb trivial))) | fail)
              all_goals try (exfalso; omega)
              all_goals try (exfalso; simp_all; done)
              all_goals refine rq rfl ?_
              all_goals exact fnq
      | some wn =>
        rw [hwk] at hR
        dsimp only at hR
        obtain ⟨a, b, e2, h3, h4, rfl, h5, h6'⟩ := wkO_yes hwk
        injection e2 with e2 e3
        subst e2 e3
        have hel := hel1 b rfl
        rw [List.length_cons, List.length_nil] at hWl
        unfold wksB at h3
        have hM := p_snum b 8 (m1 b (by simp)).n
        rw [h4] at hM
        clear hwk hel1 m1 m2 h4
        generalize numV b = v at *
        repeat' (first | (first | refine a_adoptB 5 8 6 48 1 rfl rfl rfl ?_ | refine a_adoptB 5 10 7 52 3 rfl rfl rfl ?_) | ((first | apply o_do | apply d_do | apply d_yes rfl rfl rfl); first | exact ls_strTo (n := po L 6) tab_ok rfl rfl rfl rfl hkp rfl | focus (apply ls_callT hG hP rfl rfl _ rfl rfl; (repeat' (first | exact NilL.nil | refine NilL.cons Nil.same ?_ | refine NilL.cons Nil.nil ?_ | refine NilL.cons (Nil.agg ?_) ?_ | exact Nil1s.nil | refine Nil1s.cons Nil1.same ?_ | refine Nil1s.cons Nil1.nil ?_)); done) | exact ls_callAT hG [0, 2, 3] 50 hN rfl rfl (by (repeat' (first | exact NilL.nil | refine NilL.cons Nil.same ?_ | refine NilL.cons Nil.nil ?_ | refine NilL.cons (Nil.agg ?_) ?_ | exact Nil1s.nil | refine Nil1s.cons Nil1.same ?_ | refine Nil1s.cons Nil1.nil ?_)); first | done | fail) rfl (by repeat' (first | exact trivial | refine ⟨⟨_, rfl, by first | rfl | (simp [renO, *]; done)⟩, ?_⟩)) (by first | rfl | simp [closO, *]) rfl rfl rfl rfl (by first | rfl | simp [closO, *]) rfl | focus (apply ls_callT hG hM rfl rfl _ rfl rfl; (repeat' (first | exact NilL.nil | refine NilL.cons Nil.same ?_ | refine NilL.cons Nil.nil ?_ | refine NilL.cons (Nil.agg ?_) ?_ | exact Nil1s.nil | refine Nil1s.cons Nil1.same ?_ | refine Nil1s.cons Nil1.nil ?_)); done) | exact ls_indexAddr_sl (q := 0) tab_ok rfl rfl rfl rfl hel0 rfl | exact ls_indexAddr_sl (q := 1) tab_ok rfl rfl rfl rfl hel rfl | exact lsq) | refine a_seq ?_ | refine a_region ?_ | refine o_nil ?_ | refine a_block ?_ | refine a_ret ?_ | refine a_exit ?_ | refine a_skip ?_ | refine a_draw mixed ?_ | refine d_nil (by kernel_rfl) ?_ | refine o_yes rfl rfl rfl ?_ | refine o_no rfl rfl rfl (by decide) ?_ | refine o_no' rfl rfl rfl ?_ | refine a_condT rfl ?_ | refine a_condF rfl ?_ | refine d_no rfl rfl rfl (by decide) ?_ | refine d_no' rfl rfl rfl ?_ | (refine wq2 (fun hb => ?_) (fun hb => ?_) <;> (simp only [hb]; try simp only [hbs, ne_eq] at hb; try (exfalso; first | omega | exact hb trivial))) | fail)
        all_goals try (exfalso; omega)
        all_goals try (exfalso; simp_all; done)
        clear hP hN hel0 hel hpo hkp h3
        refine a_loop (X := {x : Nat × List (List Et) × List Ac // 7 ≤ x.1 ∧ x.1 ≤ L.length ∧ R = endP ⟨g, sz, sd, kd, fu, li, de, id⟩ v (goP t.isEmpty (L.drop x.1) x.1 x.2.1 x.2.2) ∧ x.2.1.length ≤ 4 ∧ x.2.2.length ≤ 400}) (fun x => ⟨[(1, .ref 0 0), (2, .ref 1 0), (3, .v (.int .i64 0)), (4, .v (.int .i64 0)), (5, .ref 2 0), (6, .ref 3 0), (7, .clo (.func 12) [] [.ref 0 0, .ref 2 0, .ref 3 0]), (13, .clo (.func 16) [] []), (14, .ref 5 0)], [(0, .box 9 [.v (.string s)]), (1, .box 27 [.v (.int .i64 0), .v (.int .i64 0), .v (.int .i64 0), .v (.int .i64 0), .v (.int .i64 0), .v (.int .i64 0), .v (.int .i64 0), .v (.int .i64 0), .v (.slice none 0 0), .v (.int .i64 0), .v (.slice none 0 0)]), (2, .box 3 [.v (.int .i64 (po L x.1.1 : Nat))]), (3, .box 3 [.v (.int .i64 (x.1.1 : Nat))]), (5, .box 27 [.v (.int .i64 g), .v (.int .i64 sz), .v (.int .i64 sd), .v (.int .i64 kd), .v (.int .i64 fu), .v (.int .i64 li), .v (.int .i64 de), .v (.int .i64 id), .own 6 (x.1.2.1.map inAv).length, .v (.int .i64 v), .own 7 (x.1.2.2.map Ac.av).length]), (6, .row 48 1 (x.1.2.1.map inAv)), (7, .row 52 3 (x.1.2.2.map Ac.av))]⟩) (fun x => L.length - x.1.1) ⟨(7, [], []), by omega, by dsimp only; omega, hR, by simp, by simp⟩ ?_ ?_
        · refine ⟨by repeat' (first | exact trivial | exact FinA.one (FinB.cell (FinC.same rfl)) | exact FinA.one (FinB.cell FinC.nil) | exact FinA.bound rfl | exact FinA.one (FinB.cell (FinC.own rfl rfl rfl rfl)) | exact FinA.one (FinB.cell (FinC.v (by first | rfl | (simp)))) | exact FinA.one (FinB.cell (FinC.ow rfl (by first | rfl | (simp)))) | exact FinA.one (FinB.agg' rfl rfl) | exact FinA.one (FinB.cell (FinC.el rfl rfl rfl rfl)) | refine FinA.clo ?_ ?_ | exact FinBs.nil | exact FinB.cell (FinC.same rfl) | exact FinB.cell (FinC.el rfl rfl rfl rfl) | refine FinBs.cons ?_ ?_ | refine ⟨⟨_, rfl, ?_⟩, ?_⟩), by repeat' (first | exact trivial | refine ⟨⟨_, rfl, by first | rfl | (simp; done) | (simp [renO, *]; done)⟩, by first | rfl | assumption, ?_⟩), rfl⟩
        clear hR
        rintro ⟨⟨k, ins, acs⟩, k7, kL, hR, hi4, ha4⟩
        dsimp only at k7 kL hR hi4 ha4 ⊢
        have hpo := hT.spot k
        have hni : (ins.map inAv).length = ins.length := List.length_map _
        have hna : (acs.map Ac.av).length = acs.length := List.length_map _
        have ek : ((k + 1 : Nat) : Int) = (k : Int) + 1 := by omega
        rcases Nat.lt_or_ge k L.length with hk | hk
        · have hN := c_next hT hs k hk
          unfold SN at hN
          rw [drop_cons hk] at hR hpo
          rw [unl_cons, List.length_append, List.length_cons] at hpo
          unfold goP at hR
          obtain ⟨w, ws, eW⟩ := spl_ne L[k]
          obtain ⟨m1, m2⟩ := spl_sm (hT.sm hs hk)
          rw [eW] at hR hN m1 m2
          clear eW
          rw [ek] at hN
          have hlt : po L k < s.size := by omega
          have hf := hfail ((k : Int) + 1)
          have hel0 : ((w :: ws).map stAv)[0]? = some [.v (.string w)] := by simp [stAv]
          rw [List.length_cons] at m2
          have m1 : ∀ x ∈ ws, Sm x := fun x hx => m1 x (by simp [hx])
          have hz : endP ⟨g, sz, sd, kd, fu, li, de, id⟩ v (k + 1, [], []) = (zPl, 240, (k : Int) + 1) := by
            unfold endP
            rw [if_neg (by dsimp only; omega), ← ek]
          by_cases hc : acs.length = 0 ∧ isSrc (w :: ws) = true ∧ ins.length < 4
          · obtain ⟨g1, g2, g3⟩ := hc
            have hS := p_ssrc w ws g2 m1 (by omega)
            have hl : lnO (w :: ws) ins acs = (srcO ws).map fun es => (ins ++ [es], acs) := by unfold lnO; rw [if_pos ⟨g1, g2, g3⟩]; rfl
            rw [hl] at hR
            clear hl
            unfold isSrc srcB at g2
            dsimp only at g2
            generalize (w :: ws).map stAv = W at *
            cases hso : srcO ws with
            | none =>
              rw [hso] at hR hS
              simp only [Option.map_none] at hR
              dsimp only at hS
              rw [hz] at hR
              clear hz
              subst hR
              unfold zPl Pl.av
              simp only [List.map_nil]
              repeat' (first | ((first | apply o_do | apply d_do | apply d_yes rfl rfl rfl); first | exact ls_callAT hG [0, 2, 3] 50 hN rfl rfl (by (repeat' (first | exact NilL.nil | refine NilL.cons Nil.same ?_ | refine NilL.cons Nil.nil ?_ | refine NilL.cons (Nil.agg ?_) ?_ | exact Nil1s.nil | refine Nil1s.cons Nil1.same ?_ | refine Nil1s.cons Nil1.nil ?_)); first | done | fail) rfl (by repeat' (first | exact trivial | refine ⟨⟨_, rfl, by first | rfl | (simp [renO, *]; done)⟩, ?_⟩)) (by first | rfl | simp [closO, *]) rfl rfl rfl rfl (by first | rfl | simp [closO, *]) rfl | exact lsc (hf) | focus (apply ls_callT hG hS rfl rfl _ rfl rfl; (repeat' (first | exact NilL.nil | refine NilL.cons Nil.same ?_ | refine NilL.cons Nil.nil ?_ | refine NilL.cons (Nil.agg ?_) ?_ | exact Nil1s.nil | refine Nil1s.cons Nil1.same ?_ | refine Nil1s.cons Nil1.nil ?_)); done) | exact ls_indexAddr_sl (q := 0) tab_ok rfl rfl rfl rfl hel0 rfl | exact lsq) | refine a_seq ?_ | refine a_region ?_ | refine o_nil ?_ | refine a_block ?_ | refine a_ret ?_ | refine a_exit ?_ | refine a_skip ?_ | refine a_draw mixed ?_ | refine d_nil (by kernel_rfl) ?_ | refine o_yes rfl rfl rfl ?_ | refine o_no rfl rfl rfl (by decide) ?_ | refine o_no' rfl rfl rfl ?_ | refine a_condT rfl ?_ | refine a_condF rfl ?_ | refine d_no rfl rfl rfl (by decide) ?_ | refine d_no' rfl rfl rfl ?_ | (refine wq2 (fun hb => ?_) (fun hb => ?_) <;> (simp only [hb]; try simp only [hbs, ne_eq] at hb; try (exfalso; first | omega | exact hb trivial))) | fail)
              all_goals try (exfalso; omega)
              all_goals try (exfalso; simp_all; done)
              all_goals refine rq rfl ?_
              all_goals exact fnq
            | some es =>
              rw [hso] at hR hS
              simp only [Option.map_some] at hR
              dsimp only at hS
              repeat' (first | ((first | apply o_do | apply d_do | apply d_yes rfl rfl rfl); first | exact ls_callAT hG [0, 2, 3] 50 hN rfl rfl (by (repeat' (first | exact NilL.nil | refine NilL.cons Nil.same ?_ | refine NilL.cons Nil.nil ?_ | refine NilL.cons (Nil.agg ?_) ?_ | exact Nil1s.nil | refine Nil1s.cons Nil1.same ?_ | refine Nil1s.cons Nil1.nil ?_)); first | done | fail) rfl (by repeat' (first | exact trivial | refine ⟨⟨_, rfl, by first | rfl | (simp [renO, *]; done)⟩, ?_⟩)) (by first | rfl | simp [closO, *]) rfl rfl rfl rfl (by first | rfl | simp [closO, *]) rfl | focus (apply ls_callT hG hS rfl rfl _ rfl rfl; (repeat' (first | exact NilL.nil | refine NilL.cons Nil.same ?_ | refine NilL.cons Nil.nil ?_ | refine NilL.cons (Nil.agg ?_) ?_ | exact Nil1s.nil | refine Nil1s.cons Nil1.same ?_ | refine Nil1s.cons Nil1.nil ?_)); done) | exact ls_indexAddr_sl (q := 0) tab_ok rfl rfl rfl rfl hel0 rfl | focus (apply ls_append tab_ok rfl rfl ?hn rfl ?hsrc rfl ?hlen rfl rfl; (case hn => rfl); (case hsrc => first | exact SrcIs.sl | exact SrcIs.nil | exact SrcIs.own rfl rfl | fail); (case hlen => (try simp only [List.length_cons, List.length_nil]); omega); first | done | fail) | exact lsq) | refine a_seq ?_ | refine a_region ?_ | refine o_nil ?_ | refine a_block ?_ | refine a_ret ?_ | refine a_exit ?_ | refine a_skip ?_ | refine a_draw mixed ?_ | refine d_nil (by kernel_rfl) ?_ | refine o_yes rfl rfl rfl ?_ | refine o_no rfl rfl rfl (by decide) ?_ | refine o_no' rfl rfl rfl ?_ | refine a_condT rfl ?_ | refine a_condF rfl ?_ | refine d_no rfl rfl rfl (by decide) ?_ | refine d_no' rfl rfl rfl ?_ | (refine wq2 (fun hb => ?_) (fun hb => ?_) <;> (simp only [hb]; try simp only [hbs, ne_eq] at hb; try (exfalso; first | omega | exact hb trivial))) | fail)
              all_goals try (exfalso; omega)
              all_goals try (exfalso; simp_all; done)
              refine ⟨⟨(k + 1, ins ++ [es], acs), by dsimp only; omega, by dsimp only; omega, hR, by rw [List.length_append]; simp; omega, ha4⟩, by dsimp only; omega, ?_⟩
              refine ⟨by repeat' (first | exact trivial | exact FinA.one (FinB.cell (FinC.same rfl)) | exact FinA.one (FinB.cell FinC.nil) | exact FinA.bound rfl | exact FinA.one (FinB.cell (FinC.own rfl rfl rfl rfl)) | exact FinA.one (FinB.cell (FinC.v (by first | rfl | (simp [inAv, acells])))) | exact FinA.one (FinB.cell (FinC.ow rfl (by first | rfl | (simp [inAv, acells])))) | exact FinA.one (FinB.agg' rfl rfl) | exact FinA.one (FinB.cell (FinC.el rfl rfl rfl rfl)) | refine FinA.clo ?_ ?_ | exact FinBs.nil | exact FinB.cell (FinC.same rfl) | exact FinB.cell (FinC.el rfl rfl rfl rfl) | refine FinBs.cons ?_ ?_ | refine ⟨⟨_, rfl, ?_⟩, ?_⟩), by repeat' (first | exact trivial | refine ⟨⟨_, rfl, by first | rfl | (simp [inAv, acells]; done) | (simp [renO, *]; done)⟩, by first | rfl | assumption, ?_⟩), rfl⟩
          · have hl : lnO (w :: ws) ins acs = match actO (w :: ws) with | none => none | some a => if ins.length = 0 ∨ 400 ≤ acs.length then none else some (ins, acs ++ [a]) := by unfold lnO; rw [if_neg hc]; cases actO (w :: ws) <;> rfl
            rw [hl] at hR
            clear hl
            unfold isSrc srcB at hc
            dsimp only at hc
            cases hix : wdIx w with
            | none =>
              have hS := p_sactN w ws hix
              rw [actO_none hix] at hR
              dsimp only at hR
              rw [hz] at hR
              clear hz
              subst hR
              unfold zPl Pl.av
              unfold Ac.av at hS
              dsimp only at hS
              simp only [List.map_nil]
              generalize (w :: ws).map stAv = W at *
              repeat' (first | ((first | apply o_do | apply d_do | apply d_yes rfl rfl rfl); first | exact ls_callAT hG [0, 2, 3] 50 hN rfl rfl (by (repeat' (first | exact NilL.nil | refine NilL.cons Nil.same ?_ | refine NilL.cons Nil.nil ?_ | refine NilL.cons (Nil.agg ?_) ?_ | exact Nil1s.nil | refine Nil1s.cons Nil1.same ?_ | refine Nil1s.cons Nil1.nil ?_)); first | done | fail) rfl (by repeat' (first | exact trivial | refine ⟨⟨_, rfl, by first | rfl | (simp [renO, *]; done)⟩, ?_⟩)) (by first | rfl | simp [closO, *]) rfl rfl rfl rfl (by first | rfl | simp [closO, *]) rfl | exact lsc (hf) | focus (apply ls_callT hG hS rfl rfl _ rfl rfl; (repeat' (first | exact NilL.nil | refine NilL.cons Nil.same ?_ | refine NilL.cons Nil.nil ?_ | refine NilL.cons (Nil.agg ?_) ?_ | exact Nil1s.nil | refine Nil1s.cons Nil1.same ?_ | refine Nil1s.cons Nil1.nil ?_)); done) | exact ls_indexAddr_sl (q := 0) tab_ok rfl rfl rfl rfl hel0 rfl | exact lsq) | refine a_seq ?_ | refine a_region ?_ | refine o_nil ?_ | refine a_block ?_ | refine a_ret ?_ | refine a_exit ?_ | refine a_skip ?_ | refine a_draw mixed ?_ | refine d_nil (by kernel_rfl) ?_ | refine o_yes rfl rfl rfl ?_ | refine o_no rfl rfl rfl (by decide) ?_ | refine o_no' rfl rfl rfl ?_ | refine a_condT rfl ?_ | refine a_condF rfl ?_ | refine d_no rfl rfl rfl (by decide) ?_ | refine d_no' rfl rfl rfl ?_ | (refine wq2 (fun hb => ?_) (fun hb => ?_) <;> (simp only [hb]; try simp only [hbs, ne_eq] at hb; try (exfalso; first | omega | exact hb trivial))) | fail)
              all_goals try (exfalso; apply hc; refine ⟨by omega, by assumption, by omega⟩)
              all_goals refine rq rfl ?_
              all_goals exact fnq
            | some K =>
              have hS := p_sactY w ws hix m1 (by omega)
              rw [actO_some hix] at hR
              generalize aA K ws = a at *
              obtain ⟨a1, a2, a3⟩ := a
              unfold Ac.av at hS
              dsimp only at hS
              generalize (w :: ws).map stAv = W at *
              cases hok : okA K ws
              · rw [hok] at hR hS
                rw [if_neg (by simp)] at hR
                dsimp only at hR
                rw [hz] at hR
                clear hz
                subst hR
                unfold zPl Pl.av
                simp only [List.map_nil]
                repeat' (first | ((first | apply o_do | apply d_do | apply d_yes rfl rfl rfl); first | exact ls_callAT hG [0, 2, 3] 50 hN rfl rfl (by (repeat' (first | exact NilL.nil | refine NilL.cons Nil.same ?_ | refine NilL.cons Nil.nil ?_ | refine NilL.cons (Nil.agg ?_) ?_ | exact Nil1s.nil | refine Nil1s.cons Nil1.same ?_ | refine Nil1s.cons Nil1.nil ?_)); first | done | fail) rfl (by repeat' (first | exact trivial | refine ⟨⟨_, rfl, by first | rfl | (simp [renO, *]; done)⟩, ?_⟩)) (by first | rfl | simp [closO, *]) rfl rfl rfl rfl (by first | rfl | simp [closO, *]) rfl | exact lsc (hf) | focus (apply ls_callT hG hS rfl rfl _ rfl rfl; (repeat' (first | exact NilL.nil | refine NilL.cons Nil.same ?_ | refine NilL.cons Nil.nil ?_ | refine NilL.cons (Nil.agg ?_) ?_ | exact Nil1s.nil | refine Nil1s.cons Nil1.same ?_ | refine Nil1s.cons Nil1.nil ?_)); done) | exact ls_indexAddr_sl (q := 0) tab_ok rfl rfl rfl rfl hel0 rfl | exact lsq) | refine a_seq ?_ | refine a_region ?_ | refine o_nil ?_ | refine a_block ?_ | refine a_ret ?_ | refine a_exit ?_ | refine a_skip ?_ | refine a_draw mixed ?_ | refine d_nil (by kernel_rfl) ?_ | refine o_yes rfl rfl rfl ?_ | refine o_no rfl rfl rfl (by decide) ?_ | refine o_no' rfl rfl rfl ?_ | refine a_condT rfl ?_ | refine a_condF rfl ?_ | refine d_no rfl rfl rfl (by decide) ?_ | refine d_no' rfl rfl rfl ?_ | (refine wq2 (fun hb => ?_) (fun hb => ?_) <;> (simp only [hb]; try simp only [hbs, ne_eq] at hb; try (exfalso; first | omega | exact hb trivial))) | fail)
                all_goals try (exfalso; apply hc; refine ⟨by omega, by assumption, by omega⟩)
                all_goals refine rq rfl ?_
                all_goals exact fnq
              · rw [hok] at hR hS
                rw [if_pos rfl] at hR
                dsimp only at hR
                by_cases hfull : ins.length = 0 ∨ 400 ≤ acs.length
                · rw [if_pos hfull] at hR
                  dsimp only at hR
                  rw [hz] at hR
                  clear hz
                  subst hR
                  unfold zPl Pl.av
                  simp only [List.map_nil]
                  repeat' (first | ((first | apply o_do | apply d_do | apply d_yes rfl rfl rfl); first | exact ls_callAT hG [0, 2, 3] 50 hN rfl rfl (by (repeat' (first | exact NilL.nil | refine NilL.cons Nil.same ?_ | refine NilL.cons Nil.nil ?_ | refine NilL.cons (Nil.agg ?_) ?_ | exact Nil1s.nil | refine Nil1s.cons Nil1.same ?_ | refine Nil1s.cons Nil1.nil ?_)); first | done | fail) rfl (by repeat' (first | exact trivial | refine ⟨⟨_, rfl, by first | rfl | (simp [renO, *]; done)⟩, ?_⟩)) (by first | rfl | simp [closO, *]) rfl rfl rfl rfl (by first | rfl | simp [closO, *]) rfl | exact lsc (hf) | focus (apply ls_callT hG hS rfl rfl _ rfl rfl; (repeat' (first | exact NilL.nil | refine NilL.cons Nil.same ?_ | refine NilL.cons Nil.nil ?_ | refine NilL.cons (Nil.agg ?_) ?_ | exact Nil1s.nil | refine Nil1s.cons Nil1.same ?_ | refine Nil1s.cons Nil1.nil ?_)); done) | exact ls_indexAddr_sl (q := 0) tab_ok rfl rfl rfl rfl hel0 rfl | exact lsq) | refine a_seq ?_ | refine a_region ?_ | refine o_nil ?_ | refine a_block ?_ | refine a_ret ?_ | refine a_exit ?_ | refine a_skip ?_ | refine a_draw mixed ?_ | refine d_nil (by kernel_rfl) ?_ | refine o_yes rfl rfl rfl ?_ | refine o_no rfl rfl rfl (by decide) ?_ | refine o_no' rfl rfl rfl ?_ | refine a_condT rfl ?_ | refine a_condF rfl ?_ | refine d_no rfl rfl rfl (by decide) ?_ | refine d_no' rfl rfl rfl ?_ | (refine wq2 (fun hb => ?_) (fun hb => ?_) <;> (simp only [hb]; try simp only [hbs, ne_eq] at hb; try (exfalso; first | omega | exact hb trivial))) | fail)
                  all_goals try (exfalso; apply hc; refine ⟨by omega, by assumption, by omega⟩)
                  all_goals try (exfalso; omega)
                  all_goals refine rq rfl ?_
                  all_goals exact fnq
                · rw [if_neg hfull] at hR
                  dsimp only at hR
                  repeat' (first | ((first | apply o_do | apply d_do | apply d_yes rfl rfl rfl); first | exact ls_callAT hG [0, 2, 3] 50 hN rfl rfl (by (repeat' (first | exact NilL.nil | refine NilL.cons Nil.same ?_ | refine NilL.cons Nil.nil ?_ | refine NilL.cons (Nil.agg ?_) ?_ | exact Nil1s.nil | refine Nil1s.cons Nil1.same ?_ | refine Nil1s.cons Nil1.nil ?_)); first | done | fail) rfl (by repeat' (first | exact trivial | refine ⟨⟨_, rfl, by first | rfl | (simp [renO, *]; done)⟩, ?_⟩)) (by first | rfl | simp [closO, *]) rfl rfl rfl rfl (by first | rfl | simp [closO, *]) rfl | focus (apply ls_callT hG hS rfl rfl _ rfl rfl; (repeat' (first | exact NilL.nil | refine NilL.cons Nil.same ?_ | refine NilL.cons Nil.nil ?_ | refine NilL.cons (Nil.agg ?_) ?_ | exact Nil1s.nil | refine Nil1s.cons Nil1.same ?_ | refine Nil1s.cons Nil1.nil ?_)); done) | exact ls_indexAddr_sl (q := 0) tab_ok rfl rfl rfl rfl hel0 rfl | focus (apply ls_append tab_ok rfl rfl ?hn rfl ?hsrc rfl ?hlen rfl rfl; (case hn => rfl); (case hsrc => first | exact SrcIs.sl | exact SrcIs.nil | exact SrcIs.own rfl rfl | fail); (case hlen => (try simp only [List.length_cons, List.length_nil]); omega); first | done | fail) | exact lsq) | refine a_seq ?_ | refine a_region ?_ | refine o_nil ?_ | refine a_block ?_ | refine a_ret ?_ | refine a_exit ?_ | refine a_skip ?_ | refine a_draw mixed ?_ | refine d_nil (by kernel_rfl) ?_ | refine o_yes rfl rfl rfl ?_ | refine o_no rfl rfl rfl (by decide) ?_ | refine o_no' rfl rfl rfl ?_ | refine a_condT rfl ?_ | refine a_condF rfl ?_ | refine d_no rfl rfl rfl (by decide) ?_ | refine d_no' rfl rfl rfl ?_ | (refine wq2 (fun hb => ?_) (fun hb => ?_) <;> (simp only [hb]; try simp only [hbs, ne_eq] at hb; try (exfalso; first | omega | exact hb trivial))) | fail)
                  all_goals try (exfalso; apply hc; refine ⟨by omega, by assumption, by omega⟩)
                  all_goals try (exfalso; omega)
                  all_goals refine ⟨⟨(k + 1, ins, acs ++ [⟨a1, a2, a3⟩]), by dsimp only; omega, by dsimp only; omega, hR, hi4, by rw [List.length_append]; simp; omega⟩, by dsimp only; omega, ?_⟩
                  all_goals refine ⟨by repeat' (first | exact trivial | exact FinA.one (FinB.cell (FinC.same rfl)) | exact FinA.one (FinB.cell FinC.nil) | exact FinA.bound rfl | exact FinA.one (FinB.cell (FinC.own rfl rfl rfl rfl)) | exact FinA.one (FinB.cell (FinC.v (by first | rfl | (simp [Ac.av, acells])))) | exact FinA.one (FinB.cell (FinC.ow rfl (by first | rfl | (simp [Ac.av, acells])))) | exact FinA.one (FinB.agg' rfl rfl) | exact FinA.one (FinB.cell (FinC.el rfl rfl rfl rfl)) | refine FinA.clo ?_ ?_ | exact FinBs.nil | exact FinB.cell (FinC.same rfl) | exact FinB.cell (FinC.el rfl rfl rfl rfl) | refine FinBs.cons ?_ ?_ | refine ⟨⟨_, rfl, ?_⟩, ?_⟩), by repeat' (first | exact trivial | refine ⟨⟨_, rfl, by first | rfl | (simp [Ac.av, acells]; done) | (simp [renO, *]; done)⟩, by first | rfl | assumption, ?_⟩), rfl⟩
        · obtain rfl : k = L.length := by omega
          rw [List.drop_length] at hR hpo
          unfold goP at hR
          have hu : (unl []).length = 0 := rfl
          rw [hu] at hpo
          have hf := hfail ((L.length : Int) + 1)
          have hz : endP ⟨g, sz, sd, kd, fu, li, de, id⟩ v (L.length + 1, [], []) = (zPl, 240, (L.length : Int) + 1) := by
            unfold endP
            rw [if_neg (by dsimp only; omega), ← ek]
          cases t with
          | nil =>
            rw [List.length_nil] at hpo
            by_cases hin : ins = []
            · rw [if_neg (by simp [hin])] at hR
              rw [hz] at hR
              subst hR
              unfold zPl Pl.av
              simp only [List.map_nil]
              have hin : ins.length = 0 := by rw [hin]; rfl
              repeat' (first | ((first | apply o_do | apply d_do | apply d_yes rfl rfl rfl); first | exact lsc (hf) | exact lsq) | refine a_seq ?_ | refine a_region ?_ | refine o_nil ?_ | refine a_block ?_ | refine a_ret ?_ | refine a_exit ?_ | refine a_skip ?_ | refine a_draw mixed ?_ | refine d_nil (by kernel_rfl) ?_ | refine o_yes rfl rfl rfl ?_ | refine o_no rfl rfl rfl (by decide) ?_ | refine o_no' rfl rfl rfl ?_ | refine a_condT rfl ?_ | refine a_condF rfl ?_ | refine d_no rfl rfl rfl (by decide) ?_ | refine d_no' rfl rfl rfl ?_ | (refine wq2 (fun hb => ?_) (fun hb => ?_) <;> (simp only [hb]; try simp only [hbs, ne_eq] at hb; try (exfalso; first | omega | exact hb trivial))) | fail)
              all_goals try (exfalso; omega)
              all_goals refine rq rfl ?_
              all_goals exact fnq
            · rw [if_pos ⟨rfl, hin⟩] at hR
              unfold endP jPl at hR
              rw [if_pos rfl] at hR
              dsimp only at hR
              subst hR
              unfold Pl.av
              dsimp only
              have hin : ins.length ≠ 0 := fun h => hin (List.eq_nil_of_length_eq_zero h)
              repeat' (first | ((first | apply o_do | apply d_do | apply d_yes rfl rfl rfl); exact lsq) | refine a_seq ?_ | refine a_region ?_ | refine o_nil ?_ | refine a_block ?_ | refine a_ret ?_ | refine a_exit ?_ | refine a_skip ?_ | refine a_draw mixed ?_ | refine d_nil (by kernel_rfl) ?_ | refine o_yes rfl rfl rfl ?_ | refine o_no rfl rfl rfl (by decide) ?_ | refine o_no' rfl rfl rfl ?_ | refine a_condT rfl ?_ | refine a_condF rfl ?_ | refine d_no rfl rfl rfl (by decide) ?_ | refine d_no' rfl rfl rfl ?_ | (refine wq2 (fun hb => ?_) (fun hb => ?_) <;> (simp only [hb]; try simp only [hbs, ne_eq] at hb; try (exfalso; first | omega | exact hb trivial))) | fail)
              all_goals try (exfalso; omega)
              all_goals refine rq rfl ?_
              all_goals exact fnq
          | cons c t' =>
            rw [List.length_cons] at hpo
            rw [if_neg (by simp)] at hR
            rw [hz] at hR
            subst hR
            unfold zPl Pl.av
            simp only [List.map_nil]
            have hN := c_nextE hT hs L.length rfl
            unfold SN at hN
            repeat' (first | ((first | apply o_do | apply d_do | apply d_yes rfl rfl rfl); first | exact ls_callAT hG [0, 2, 3] 50 hN rfl rfl (by (repeat' (first | exact NilL.nil | refine NilL.cons Nil.same ?_ | refine NilL.cons Nil.nil ?_ | refine NilL.cons (Nil.agg ?_) ?_ | exact Nil1s.nil | refine Nil1s.cons Nil1.same ?_ | refine Nil1s.cons Nil1.nil ?_)); first | done | fail) rfl (by repeat' (first | exact trivial | refine ⟨⟨_, rfl, by first | rfl | (simp [renO, *]; done)⟩, ?_⟩)) (by first | rfl | simp [closO, *]) rfl rfl rfl rfl (by first | rfl | simp [closO, *]) rfl | exact lsc (hf) | exact lsq) | refine a_seq ?_ | refine a_region ?_ | refine o_nil ?_ | refine a_block ?_ | refine a_ret ?_ | refine a_exit ?_ | refine a_skip ?_ | refine a_draw mixed ?_ | refine d_nil (by kernel_rfl) ?_ | refine o_yes rfl rfl rfl ?_ | refine o_no rfl rfl rfl (by decide) ?_ | refine o_no' rfl rfl rfl ?_ | refine a_condT rfl ?_ | refine a_condF rfl ?_ | refine d_no rfl rfl rfl (by decide) ?_ | refine d_no' rfl rfl rfl ?_ | (refine wq2 (fun hb => ?_) (fun hb => ?_) <;> (simp only [hb]; try simp only [hbs, ne_eq] at hb; try (exfalso; first | omega | exact hb trivial))) | fail)
            all_goals try (exfalso; omega)
            all_goals refine rq rfl ?_
            all_goals exact fnq
    · obtain rfl : k = L.length := by omega
      have hN := c_nextE hT hs L.length rfl
      unfold SN at hN
      rw [List.drop_length] at hR
      unfold tailP at hR
      dsimp only at hR
      subst hR
      have hf := hfail 7
      unfold zPl Pl.av
      simp only [List.map_nil]
      repeat' (first | ((first | apply o_do | apply d_do | apply d_yes rfl rfl rfl); first | exact ls_strTo (n := po L L.length) tab_ok rfl rfl rfl rfl hkp rfl | focus (apply ls_callT hG hP rfl rfl _ rfl rfl; (repeat' (first | exact NilL.nil | refine NilL.cons Nil.same ?_ | refine NilL.cons Nil.nil ?_ | refine NilL.cons (Nil.agg ?_) ?_ | exact Nil1s.nil | refine Nil1s.cons Nil1.same ?_ | refine Nil1s.cons Nil1.nil ?_)); done) | exact ls_callAT hG [0, 2, 3] 50 hN rfl rfl (by (repeat' (first | exact NilL.nil | refine NilL.cons Nil.same ?_ | refine NilL.cons Nil.nil ?_ | refine NilL.cons (Nil.agg ?_) ?_ | exact Nil1s.nil | refine Nil1s.cons Nil1.same ?_ | refine Nil1s.cons Nil1.nil ?_)); first | done | fail) rfl (by repeat' (first | exact trivial | refine ⟨⟨_, rfl, by first | rfl | (simp [renO, *]; done)⟩, ?_⟩)) (by first | rfl | simp [closO, *]) rfl rfl rfl rfl (by first | rfl | simp [closO, *]) rfl | exact lsc (hf) | exact lsq) | refine a_seq ?_ | refine a_region ?_ | refine o_nil ?_ | refine a_block ?_ | refine a_ret ?_ | refine a_exit ?_ | refine a_skip ?_ | refine a_draw mixed ?_ | refine d_nil (by kernel_rfl) ?_ | refine o_yes rfl rfl rfl ?_ | refine o_no rfl rfl rfl (by decide) ?_ | refine o_no' rfl rfl rfl ?_ | refine a_condT rfl ?_ | refine a_condF rfl ?_ | refine d_no rfl rfl rfl (by decide) ?_ | refine d_no' rfl rfl rfl ?_ | (refine wq2 (fun hb => ?_) (fun hb => ?_) <;> (simp only [hb]; try simp only [hbs, ne_eq] at hb; try (exfalso; first | omega | exact hb trivial))) | fail)
      all_goals refine rq rfl ?_
      all_goals exact fnq
  · rw [if_pos he] at hR
    subst hR
    unfold zPl Pl.av
    simp only [List.map_nil]
    repeat' (first | ((first | apply o_do | apply d_do | apply d_yes rfl rfl rfl); first | exact ls_strTo (n := po L k) tab_ok rfl rfl rfl rfl hkp rfl | focus (apply ls_callT hG hP rfl rfl _ rfl rfl; (repeat' (first | exact NilL.nil | refine NilL.cons Nil.same ?_ | refine NilL.cons Nil.nil ?_ | refine NilL.cons (Nil.agg ?_) ?_ | exact Nil1s.nil | refine Nil1s.cons Nil1.same ?_ | refine Nil1s.cons Nil1.nil ?_)); done) | exact lsq) | refine a_seq ?_ | refine a_region ?_ | refine o_nil ?_ | refine a_block ?_ | refine a_ret ?_ | refine a_exit ?_ | refine a_skip ?_ | refine a_draw mixed ?_ | refine d_nil (by kernel_rfl) ?_ | refine o_yes rfl rfl rfl ?_ | refine o_no rfl rfl rfl (by decide) ?_ | refine o_no' rfl rfl rfl ?_ | refine a_condT rfl ?_ | refine a_condF rfl ?_ | refine d_no rfl rfl rfl (by decide) ?_ | refine d_no' rfl rfl rfl ?_ | (refine wq2 (fun hb => ?_) (fun hb => ?_) <;> (simp only [hb]; try simp only [hbs, ne_eq] at hb; try (exfalso; first | omega | exact hb trivial))) | fail)
    all_goals refine rq rfl ?_
    all_goals exact fnq
end Go.Proofs.YtbhblhcgfenobaaGreatDoor
