/-
  Workers, walked over abstract values: an item, and all that waited for it.
-/
import Derived.Test.YtagfjnjpgphnjaaGreatWrA
namespace Go.Proofs.YtagfjnjpgphnjaaGreat
open Go.RowKit
set_option linter.unusedSimpArgs false
set_option linter.unusedVariables false
theorem lp_len {w : Wk} {o : List It} {q : Nat} (h : LpOk w o q) (hq : q ≤ 128) : o.length ≤ 900000000 := by
  have := h.told
  have := tri_le (n := q) hq
  omega
theorem run_len (j : Jb) : ∀ (n : Nat) (w : Wk) (i : Int) (x : It), WkOk w → HV w → ItV x → (wkRun j n w i x).told.length ≤ 900000000
  | 0, w, i, x, _, _, _ => by simp [wkRun, rnFail]
  | n + 1, w, i, x, hw, hv, hx => by
    have h := take_hd (jobOK j.g j.s j.d j.k j.fu j.li j.de j.id) j (grpV x.key.data.toList j.g) w i x hv hx
    have hlate : (tkJ j w i x).late.length ≤ 128 := late_le _ _ _ _ _ _
    simp only [wkRun, rnT]
    split
    · simp [rnFail]
    by_cases hl : (tkJ j w i x).late = []
    · rw [hl]
      have := h.told
      exact Nat.le_trans this (by decide)
    · rcases loop_ok (tkJ j w i x).late (tkJ j w i x).w (tkJ j w i x).told 0 (start_ok hw hv hx hl) h.late (fun w i x a b c _ => run_ok j n w i x a b c) with ⟨_, h4⟩ | ⟨e, h3⟩
      · exact lp_len h4 (by omega)
      · rw [h3]; simp [rnFail]
set_option maxRecDepth 10000 in
set_option maxHeartbeats 32000000 in
theorem w_Run (j : Jb) (hg : -9223372036854775808 ≤ j.g ∧ j.g ≤ 9223372036854775807) : ∀ (n : Nat) (w : Wk) (input : Int) (x : It), WkOk w → HV w → ItV x → heldN w.al < n →
    PC Tryz.prog 16 [.agg j.av, .agg w.av, .v (.int .i64 input), .agg x.av] (wkRun j n w input x).av
  | 0, _, _, _, _, _, _, h => absurd h (Nat.not_lt_zero _)
  | n + 1, w, input, x, hw, hv, hx, hn => by
    have h2 : PC Tryz.prog 18 [.agg j.av, .agg w.av, .v (.int .i64 input), .agg x.av] (tkJ j w input x).av := w_Take j (grpV x.key.data.toList j.g) w input x hw (fun hk hx => p_rGrp x.key j.g (itR_key hx hk) hg)
    have hd : TkHd w (tkJ j w input x) := take_hd (jobOK j.g j.s j.d j.k j.fu j.li j.de j.id) j (grpV x.key.data.toList j.g) w input x hv hx
    have hs := start_ok (j := j) (i := input) hw hv hx
    have hlate : (tkJ j w input x).late.length ≤ 128 := late_le _ _ _ _ _ _
    simp only [wkRun, rnT]
    by_cases hl : (tkJ j w input x).late = []
    · generalize tkJ j w input x = T at *
      obtain ⟨tw, tt, tl, te⟩ := T
      dsimp only at hl
      subst hl
      dsimp only
      by_cases he : te ≠ 0
      · rw [if_pos he]
        simp only [RnW.av, rnFail, TkW.av, wkZ, List.map_nil, Jb.av, Wk.av] at h2 ⊢
        refine PC.mk (ac_body tab_ok Tryz.func16 rfl (by kernel_rfl) rfl ?_); intro w0 M μ0; simp only [Tryz.ntmps16, List.length_cons, List.length_nil, Nat.reduceAdd, Nat.reduceSub, numb]
        repeat' (first | ((first | apply o_do | apply d_do | apply d_yes rfl rfl rfl); first | exact lsc (h2) | exact lsq) | refine a_seq ?_ | refine a_region ?_ | refine o_nil ?_ | refine a_block ?_ | refine a_ret ?_ | refine a_exit ?_ | refine a_skip ?_ | refine a_draw mixed ?_ | refine d_nil (by kernel_rfl) ?_ | refine o_yes rfl rfl rfl ?_ | refine o_no rfl rfl rfl (by decide) ?_ | refine o_no' rfl rfl rfl ?_ | refine a_condT rfl ?_ | refine a_condF rfl ?_ | refine d_no rfl rfl rfl (by decide) ?_ | refine d_no' rfl rfl rfl ?_ | (refine wq2 (fun hb => ?_) (fun hb => ?_) <;> (simp only [hb]; try simp only [hbs, ne_eq] at hb; try (exfalso; first | omega | exact hb trivial))) | fail)
        refine rq rfl ?_
        exact fnq
      · rw [if_neg he]
        have he : te = 0 := by omega
        subst he
        simp only [RnW.av, rnLoop, TkW.av, List.map_nil, Jb.av, Wk.av] at h2 ⊢
        refine PC.mk (ac_body tab_ok Tryz.func16 rfl (by kernel_rfl) rfl ?_); intro w0 M μ0; simp only [Tryz.ntmps16, List.length_cons, List.length_nil, Nat.reduceAdd, Nat.reduceSub, numb]
        repeat' (first | ((first | apply o_do | apply d_do | apply d_yes rfl rfl rfl); first | exact lsc (h2) | exact lsq) | refine a_seq ?_ | refine a_region ?_ | refine o_nil ?_ | refine a_block ?_ | refine a_ret ?_ | refine a_exit ?_ | refine a_skip ?_ | refine a_draw mixed ?_ | refine d_nil (by kernel_rfl) ?_ | refine o_yes rfl rfl rfl ?_ | refine o_no rfl rfl rfl (by decide) ?_ | refine o_no' rfl rfl rfl ?_ | refine a_condT rfl ?_ | refine a_condF rfl ?_ | refine d_no rfl rfl rfl (by decide) ?_ | refine d_no' rfl rfl rfl ?_ | (refine wq2 (fun hb => ?_) (fun hb => ?_) <;> (simp only [hb]; try simp only [hbs, ne_eq] at hb; try (exfalso; first | omega | exact hb trivial))) | fail)
        refine a_loop (X := Unit) (fun _ => ⟨[(5, .ref 1 0), (8, .ref 3 0), (11, .sl 11 (tt.map It.av)), (33, .sl 12 []), (34, .v (.int .i64 0)), (35, .v (.int .i64 0))], [(1, .box 42 (Wk.av tw)), (3, .box 42 [.v (.slice none 0 0), .v (.slice none 0 0), .v (.slice none 0 0), .v (.int .i64 0), .v (.int .i64 0), .v (.slice none 0 0), .v (.slice none 0 0), .v (.int .i64 0)])]⟩) (fun _ => 0) () ?_ ?_
        · unfold Wk.av
          exact wkS
        rintro ⟨⟩
        unfold Wk.av
        repeat' (first | ((first | apply o_do | apply d_do | apply d_yes rfl rfl rfl); exact lsq) | refine a_seq ?_ | refine a_region ?_ | refine o_nil ?_ | refine a_block ?_ | refine a_ret ?_ | refine a_exit ?_ | refine a_skip ?_ | refine a_draw mixed ?_ | refine d_nil (by kernel_rfl) ?_ | refine o_yes rfl rfl rfl ?_ | refine o_no rfl rfl rfl (by decide) ?_ | refine o_no' rfl rfl rfl ?_ | refine a_condT rfl ?_ | refine a_condF rfl ?_ | refine d_no rfl rfl rfl (by decide) ?_ | refine d_no' rfl rfl rfl ?_ | (refine wq2 (fun hb => ?_) (fun hb => ?_) <;> (simp only [hb]; try simp only [hbs, ne_eq] at hb; try (exfalso; first | omega | exact hb trivial))) | fail)
        refine rq rfl ?_
        exact fnq
    · have hs := hs hl
      have hV := hd.late
      have hall := (hd.all hl).2.1
      obtain ⟨e1, e2, e3, e4, e5⟩ := tk_late hl
      have hbar := w_Bar j w input x hw e1 e2 e3 e4
      have e5 : tkJ j w input x = _ := e5
      rw [e5] at hs hV hall hlate ⊢
      dsimp only at hs hV hall hlate ⊢
      clear h2 hd hl e5
      generalize barItem (alOffer w.al input x).done = bar at *
      generalize (alOffer w.al input x).late = L at *
      obtain ⟨W0, hW0⟩ : ∃ k : Wk, k = { w with al := (alOffer w.al input x).a } := ⟨_, rfl⟩
      rw [← hW0] at hs hbar ⊢
      rw [if_neg (by simp)]
      obtain ⟨Res, hRes⟩ : ∃ R, R = rnLoop (wkRun j n) L W0 [bar] := ⟨_, rfl⟩
      rw [← hRes]
      have hIH := w_Run j hg n
      have hRK := run_ok j n
      clear hW0 e1 e2 e3 e4
      have hN : L.length ≤ n := by omega
      simp only [RnW.av]
      simp only [Jb.av, Wk.av] at hbar hIH ⊢
      refine PC.mk (ac_body tab_ok Tryz.func16 rfl (by kernel_rfl) rfl ?_); intro w0 M μ0; simp only [Tryz.ntmps16, List.length_cons, List.length_nil, Nat.reduceAdd, Nat.reduceSub, numb]
      repeat' (first | ((first | apply o_do | apply d_do | apply d_yes rfl rfl rfl); first | exact ls_callA [] 10 hbar rfl rfl (by (repeat' (first | exact NilL.nil | refine NilL.cons Nil.same ?_ | refine NilL.cons Nil.nil ?_ | refine NilL.cons (Nil.agg ?_) ?_ | exact Nil1s.nil | refine Nil1s.cons Nil1.same ?_ | refine Nil1s.cons Nil1.nil ?_)); first | done | fail) rfl (by repeat' (first | exact trivial | refine ⟨⟨_, rfl, by first | rfl | (simp [renO, *]; done)⟩, ?_⟩)) (by first | rfl | simp [closO, *]) rfl rfl rfl rfl (by first | rfl | simp [closO, *]) rfl | exact lsq) | refine a_seq ?_ | refine a_region ?_ | refine o_nil ?_ | refine a_block ?_ | refine a_ret ?_ | refine a_exit ?_ | refine a_skip ?_ | refine a_draw mixed ?_ | refine d_nil (by kernel_rfl) ?_ | refine o_yes rfl rfl rfl ?_ | refine o_no rfl rfl rfl (by decide) ?_ | refine o_no' rfl rfl rfl ?_ | refine a_condT rfl ?_ | refine a_condF rfl ?_ | refine d_no rfl rfl rfl (by decide) ?_ | refine d_no' rfl rfl rfl ?_ | (refine wq2 (fun hb => ?_) (fun hb => ?_) <;> (simp only [hb]; try simp only [hbs, ne_eq] at hb; try (exfalso; first | omega | exact hb trivial))) | fail)
      refine a_loop (X := {p : Nat × Wk × List It // p.1 ≤ L.length ∧ Res = rnLoop (wkRun j n) (L.drop p.1) p.2.1 p.2.2 ∧ LpOk p.2.1 p.2.2 p.1})
        (fun p => ⟨[(4, .ref 0 0), (5, .ref 1 0), (8, .ref 3 0), (11, .own 17 (p.1.2.2.map It.av).length), (33, .sl 12 (L.map Lt.av)), (34, .v (.int .i64 L.length)), (35, .v (.int .i64 p.1.1))], [(0, .box 23 (Jb.av j)), (1, .box 42 (Wk.av p.1.2.1)), (3, .box 42 [.v (.slice none 0 0), .v (.slice none 0 0), .v (.slice none 0 0), .v (.int .i64 0), .v (.int .i64 0), .v (.slice none 0 0), .v (.slice none 0 0), .v (.int .i64 0)]), (17, .row 63 11 (p.1.2.2.map It.av))]⟩) (fun p => L.length - p.1.1) ⟨(0, W0, [bar]), Nat.zero_le _, hRes, hs⟩ ?_ ?_
      · unfold Wk.av Jb.av
        exact wkS
      rintro ⟨⟨q, wq, oq⟩, hq, hrun, hlp⟩
      dsimp only at hq hrun hlp ⊢
      unfold Wk.av Jb.av
      by_cases hlt : q < L.length
      · have hel : (L.map Lt.av)[q]? = some (Lt.av L[q]) := by simp [hlt]
        rw [List.drop_eq_getElem_cons hlt] at hrun
        simp only [rnLoop] at hrun
        have hVq := hV L[q] (List.getElem_mem hlt)
        have hheld := hlp.n
        have hr := hIH wq L[q].input L[q].it hlp.ok hlp.hv hVq (by omega)
        have hrk := hRK wq L[q].input L[q].it hlp.ok hlp.hv hVq
        have hst := hlp.step hrk
        have hb1 := lp_len hst (by omega)
        generalize wkRun j n wq L[q].input L[q].it = R at *
        obtain ⟨rw', rt, re⟩ := R
        generalize L[q] = y at *
        simp only [RnW.av] at hr
        dsimp only at hrun hst hb1
        rw [List.length_append] at hb1
        have hb3 : (oq.map It.av).length = oq.length := List.length_map _
        have hb4 : (rt.map It.av).length = rt.length := List.length_map _
        by_cases he : re ≠ 0
        · rw [if_pos he] at hrun
          subst hrun
          unfold rnFail wkZ
          simp only [It.av, Wk.av, List.map_nil] at hr ⊢
          repeat' (first | ((first | apply o_do | apply d_do | apply d_yes rfl rfl rfl); first | exact ls_indexAddr_sl tab_ok rfl rfl rfl rfl hel rfl | exact lsc (hr) | exact lsq) | refine a_seq ?_ | refine a_region ?_ | refine o_nil ?_ | refine a_block ?_ | refine a_ret ?_ | refine a_exit ?_ | refine a_skip ?_ | refine a_draw mixed ?_ | refine d_nil (by kernel_rfl) ?_ | refine o_yes rfl rfl rfl ?_ | refine o_no rfl rfl rfl (by decide) ?_ | refine o_no' rfl rfl rfl ?_ | refine a_condT rfl ?_ | refine a_condF rfl ?_ | refine d_no rfl rfl rfl (by decide) ?_ | refine d_no' rfl rfl rfl ?_ | (refine wq2 (fun hb => ?_) (fun hb => ?_) <;> (simp only [hb]; try simp only [hbs, ne_eq] at hb; try (exfalso; first | omega | exact hb trivial))) | fail)
          refine rq rfl ?_
          exact fnq
        · rw [if_neg he] at hrun
          have he : re = 0 := by omega
          subst he
          simp only [It.av, Wk.av] at hr
          repeat' (first | ((first | apply o_do | apply d_do | apply d_yes rfl rfl rfl); first | exact ls_indexAddr_sl tab_ok rfl rfl rfl rfl hel rfl | exact lsc (hr) | exact ls_append tab_ok rfl rfl rfl rfl (by first | exact SrcIs.sl | exact SrcIs.nil | exact SrcIs.own rfl rfl) rfl (by (try simp only [List.length_cons, List.length_nil]); omega) rfl rfl | exact lsq) | refine a_seq ?_ | refine a_region ?_ | refine o_nil ?_ | refine a_block ?_ | refine a_ret ?_ | refine a_exit ?_ | refine a_skip ?_ | refine a_draw mixed ?_ | refine d_nil (by kernel_rfl) ?_ | refine o_yes rfl rfl rfl ?_ | refine o_no rfl rfl rfl (by decide) ?_ | refine o_no' rfl rfl rfl ?_ | refine a_condT rfl ?_ | refine a_condF rfl ?_ | refine d_no rfl rfl rfl (by decide) ?_ | refine d_no' rfl rfl rfl ?_ | (refine wq2 (fun hb => ?_) (fun hb => ?_) <;> (simp only [hb]; try simp only [hbs, ne_eq] at hb; try (exfalso; first | omega | exact hb trivial))) | fail)
          refine ⟨⟨(q + 1, rw', oq ++ rt), by dsimp only; omega, hrun, hst⟩, by dsimp only; omega, ?_⟩
          dsimp only [Wk.av, Jb.av]
          refine ⟨by repeat' (first | exact trivial | exact FinA.one (FinB.cell (FinC.same rfl)) | exact FinA.one (FinB.cell FinC.nil) | exact FinA.bound rfl | exact FinA.one (FinB.cell (FinC.own rfl rfl rfl rfl)) | exact FinA.one (FinB.cell (FinC.v (by first | rfl | ((first | (rw [List.map_append]; done) | (simp only [List.map_append]; done) | simp))))) | exact FinA.one (FinB.cell (FinC.ow rfl (by first | rfl | ((first | (rw [List.map_append]; done) | (simp only [List.map_append]; done) | simp))))) | exact FinA.one (FinB.agg' rfl rfl) | refine ⟨⟨_, rfl, ?_⟩, ?_⟩), by repeat' (first | exact trivial | refine ⟨⟨_, rfl, by first | rfl | ((first | (rw [List.map_append]; done) | (simp only [List.map_append]; done) | simp); done) | (simp [renO, *]; done)⟩, by first | rfl | assumption, ?_⟩), rfl⟩
      · obtain rfl : q = L.length := by omega
        rw [List.drop_length] at hrun
        simp only [rnLoop] at hrun
        subst hrun
        repeat' (first | ((first | apply o_do | apply d_do | apply d_yes rfl rfl rfl); exact lsq) | refine a_seq ?_ | refine a_region ?_ | refine o_nil ?_ | refine a_block ?_ | refine a_ret ?_ | refine a_exit ?_ | refine a_skip ?_ | refine a_draw mixed ?_ | refine d_nil (by kernel_rfl) ?_ | refine o_yes rfl rfl rfl ?_ | refine o_no rfl rfl rfl (by decide) ?_ | refine o_no' rfl rfl rfl ?_ | refine a_condT rfl ?_ | refine a_condF rfl ?_ | refine d_no rfl rfl rfl (by decide) ?_ | refine d_no' rfl rfl rfl ?_ | (refine wq2 (fun hb => ?_) (fun hb => ?_) <;> (simp only [hb]; try simp only [hbs, ne_eq] at hb; try (exfalso; first | omega | exact hb trivial))) | fail)
        refine rq rfl ?_
        exact fnq
end Go.Proofs.YtagfjnjpgphnjaaGreat
