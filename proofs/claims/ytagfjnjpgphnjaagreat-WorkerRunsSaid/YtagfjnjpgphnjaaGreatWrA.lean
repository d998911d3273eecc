/-
  Workers, walked over abstract values: a barrier that is whole, what is told being one's own.
-/
import Derived.Test.YtagfjnjpgphnjaaGreatWrP
namespace Go.Proofs.YtagfjnjpgphnjaaGreat
open Go.RowKit
set_option linter.unusedSimpArgs false
set_option linter.unusedVariables false
theorem tk_fail (ok : Bool) (j : Jb) (no : Int) (w : Wk) (i : Int) (x : It) (h : (wkTake ok j no w i x).e ≠ 0) : wkTake ok j no w i x = wkFail (wkTake ok j no w i x).e := by
  have hg : ∀ gs m al told, (wkGo j gs m al told).e = 0 := fun gs m al told => by unfold wkGo; split <;> rfl
  unfold wkTake at h ⊢
  split
  · rfl
  split
  · rfl
  split
  · rfl
  rename_i h1 h2 h3
  rw [if_neg h1, if_neg h2, if_neg h3] at h
  split
  · rename_i h4; rw [if_pos h4] at h; exact absurd rfl h
  rename_i h4
  rw [if_neg h4] at h
  split
  · rename_i h5; rw [if_pos h5] at h; exact absurd rfl h
  rename_i h5
  rw [if_neg h5] at h
  split
  · rename_i h6
    rw [if_pos h6] at h
    split
    · rfl
    · rename_i h7; rw [if_neg h7] at h; exact absurd (hg _ _ _ _) h
  rename_i h6
  rw [if_neg h6] at h
  split
  · rename_i h7; rw [if_pos h7] at h; exact absurd (hg _ _ _ _) h
  rename_i h7
  rw [if_neg h7] at h
  split
  · rename_i h8; rw [if_pos h8] at h; exact absurd (hg _ _ _ _) h
  · rename_i h8; rw [if_neg h8] at h; exact absurd (hg _ _ _ _) h
set_option maxRecDepth 10000 in
/-- what waited was told of a barrier that is whole -/
theorem tk_late {ok : Bool} {j : Jb} {no : Int} {w : Wk} {i : Int} {x : It} (h : (wkTake ok j no w i x).late ≠ []) :
    ok = true ∧ ¬ ((wkR w && itR x) = false ∨ x.kind = 5) ∧ (alOffer w.al i x).e = 0 ∧ 0 < (alOffer w.al i x).done ∧ wkTake ok j no w i x = ⟨{ w with al := (alOffer w.al i x).a }, [barItem (alOffer w.al i x).done], (alOffer w.al i x).late, 0⟩ := by
  have hg : ∀ gs m al told, (wkGo j gs m al told).late = [] := fun gs m al told => by unfold wkGo; split <;> rfl
  unfold wkTake at h ⊢
  split at h
  · simp [wkFail] at h
  rename_i h1
  split at h
  · simp [wkFail] at h
  rename_i h2
  split at h
  · simp [wkFail] at h
  rename_i h3
  split at h
  · rename_i h4
    have e1 : ok = true := by cases ok <;> simp at h1 ⊢
    have e3 : (alOffer w.al i x).e = 0 := by omega
    refine ⟨e1, h2, e3, h4, ?_⟩
    rw [if_neg h1, if_neg h2, if_neg h3, if_pos h4]
  · exfalso
    split at h
    · exact h rfl
    split at h
    · split at h
      · exact h rfl
      · exact h (hg _ _ _ _)
    split at h
    · exact h (hg _ _ _ _)
    split at h
    · exact h (hg _ _ _ _)
    · exact h (hg _ _ _ _)
set_option maxRecDepth 10000 in
set_option maxHeartbeats 16000000 in
theorem w_Bar (j : Jb) (w : Wk) (input : Int) (x : It) (hw : WkOk w) (e1 : jobOK j.g j.s j.d j.k j.fu j.li j.de j.id = true) (e2 : ¬ ((wkR w && itR x) = false ∨ x.kind = 5)) (c1 : (alOffer w.al input x).e = 0) (c2 : 0 < (alOffer w.al input x).done) :
    AC Tryz.prog 18 [.agg j.av, .agg w.av, .v (.int .i64 input), .agg x.av] [] (.tup [.agg (Wk.av { w with al := (alOffer w.al input x).a }), .own 7 1, .sl 12 ((alOffer w.al input x).late.map Lt.av), .v (.int .i64 0)]) [(7, .row 63 11 [It.av (barItem (alOffer w.al input x).done)])] := by
  have h1 := j_Right j.g j.s j.d j.k j.fu j.li j.de j.id
  have h2 := w_Right w hw
  have h3 := i_Right x
  have h4 := l_Offer w.al input x hw.got hw.held hw.its
  rw [e1] at h1
  have e3 : wkR w = true ∧ itR x = true ∧ ¬ x.kind = 5 := by
    cases w1 : wkR w <;> cases x1 : itR x <;> simp [w1, x1] at e2 ⊢
    exact e2
  obtain ⟨w1, x1, x5⟩ := e3
  have hgl : w.gs.length ≤ 1000 := by
    have h := w1
    simp only [wkR, Bool.and_eq_true] at h
    have := gsR_le h.1
    omega
  rw [w1] at h2
  rw [x1] at h3
  have hcl := cl_Grp (w.gs.map Gp.av) (by rw [List.length_map]; omega)
  have hty := fun y => y_tell (w.gs.map Gp.av).length (w.gs.map Gp.av) w.mks (alOffer w.al input x).a w.told j input x [] y (by simp)
  have hpass := (offer_ok (a := w.al) (i := input) (x := x) x1 c1).2.1
  generalize alOffer w.al input x = O at *
  obtain ⟨oa, op, od, ol, oe⟩ := O
  dsimp only at *
  subst c1
  have hop : op = false := by
    cases op
    · rfl
    · exact absurd (hpass rfl).1 (by omega)
  subst hop
  have hty := hty (barItem od)
  unfold wayC at hty
  simp only [List.map_nil, List.map_cons, Jb.av, Wk.av, Al.av, AlO.av] at h2 h4 hty ⊢
  refine (ac_body tab_ok Tryz.func18 rfl (by kernel_rfl) rfl ?_); intro w0 M μ0; simp only [Tryz.ntmps18, List.length_cons, List.length_nil, Nat.reduceAdd, Nat.reduceSub, numb]
  repeat' (first | ((first | apply o_do | apply d_do | apply d_yes rfl rfl rfl); first | exact lsc (h1) | exact lsc (h2) | exact lsc (h3) | exact lsc (h4) | exact ls_callA [] 6 hcl rfl rfl (by (repeat' (first | exact NilL.nil | refine NilL.cons Nil.same ?_ | refine NilL.cons Nil.nil ?_ | refine NilL.cons (Nil.agg ?_) ?_ | exact Nil1s.nil | refine Nil1s.cons Nil1.same ?_ | refine Nil1s.cons Nil1.nil ?_)); first | done | fail) rfl (by repeat' (first | exact trivial | refine ⟨⟨_, rfl, by first | rfl | (simp [renO, *]; done)⟩, ?_⟩)) (by first | rfl | simp [closO, *]) rfl rfl rfl rfl (by first | rfl | simp [closO, *]) rfl | exact ls_nilCheck rfl rfl | exact lsq) | refine a_seq ?_ | refine a_region ?_ | refine o_nil ?_ | refine a_block ?_ | refine a_ret ?_ | refine a_exit ?_ | refine a_skip ?_ | refine a_draw mixed ?_ | refine d_nil (by kernel_rfl) ?_ | refine o_yes rfl rfl rfl ?_ | refine o_no rfl rfl rfl (by decide) ?_ | refine o_no' rfl rfl rfl ?_ | refine a_condT rfl ?_ | refine a_condF rfl ?_ | refine d_no rfl rfl rfl (by decide) ?_ | refine d_no' rfl rfl rfl ?_ | (refine wq2 (fun hb => ?_) (fun hb => ?_) <;> (simp only [hb]; try simp only [hbs, ne_eq] at hb; try (exfalso; first | omega | exact hb trivial))) | fail)
  refine o_adoptB 5 28 7 63 11 rfl rfl rfl ?_
  repeat' (first | ((first | apply o_do | apply d_do | apply d_yes rfl rfl rfl); first | exact ls_callA [5, 6, 7] 8 hty rfl rfl (by (repeat' (first | exact NilL.nil | refine NilL.cons Nil.same ?_ | refine NilL.cons Nil.nil ?_ | refine NilL.cons (Nil.agg ?_) ?_ | exact Nil1s.nil | refine Nil1s.cons Nil1.same ?_ | refine Nil1s.cons Nil1.nil ?_)); first | done | fail) rfl (by repeat' (first | exact trivial | refine ⟨⟨_, rfl, by first | rfl | (simp [renO, *]; done)⟩, ?_⟩)) (by first | rfl | simp [closO, *]) rfl rfl rfl rfl (by first | rfl | simp [closO, *]) rfl | exact ls_nilCheck rfl rfl | exact lsq) | refine a_seq ?_ | refine a_region ?_ | refine o_nil ?_ | refine a_block ?_ | refine a_ret ?_ | refine a_exit ?_ | refine a_skip ?_ | refine a_draw mixed ?_ | refine d_nil (by kernel_rfl) ?_ | refine o_yes rfl rfl rfl ?_ | refine o_no rfl rfl rfl (by decide) ?_ | refine o_no' rfl rfl rfl ?_ | refine a_condT rfl ?_ | refine a_condF rfl ?_ | refine d_no rfl rfl rfl (by decide) ?_ | refine d_no' rfl rfl rfl ?_ | (refine wq2 (fun hb => ?_) (fun hb => ?_) <;> (simp only [hb]; try simp only [hbs, ne_eq] at hb; try (exfalso; first | omega | exact hb trivial))) | fail)
  refine rq rfl ?_
  exact fnq
set_option maxRecDepth 10000 in
set_option maxHeartbeats 16000000 in
theorem r_Bar (j : Jb) (w : Wk) (input : Int) (x : It) (hw : WkOk w) (e1 : jobOK j.g j.s j.d j.k j.fu j.li j.de j.id = true) (e2 : ¬ ((wkR w && itR x) = false ∨ x.kind = 5)) (c1 : (alOffer w.al input x).e = 0) (c2 : 0 < (alOffer w.al input x).done) :
    AC Tryz.prog 19 [.agg j.av, .agg w.av, .v (.int .i64 input), .agg x.av] [] (.agg [.sl 3 (w.gs.map Gp.av), .sl 2 (w.mks.ins.map inAvM), .sl 2 (w.mks.hs.map hoAv), .v (.int .i64 w.mks.out), .v (.int .i64 (alOffer w.al input x).a.n), .sl 1 ((alOffer w.al input x).a.got.map boAv), .sl 1 ((alOffer w.al input x).a.held.map heAv), .v (.int .i64 w.told), .own 7 1, .sl 12 ((alOffer w.al input x).late.map Lt.av), .v (.int .i64 0)]) [(7, .row 63 11 [It.av (barItem (alOffer w.al input x).done)])] := by
  have h1 := j_rRight j.g j.s j.d j.k j.fu j.li j.de j.id
  have h2 := w_rRight w hw
  have h3 := i_rRight x
  have h4 := r_Offer w.al input x hw.got hw.held hw.its
  rw [e1] at h1
  have e3 : wkR w = true ∧ itR x = true ∧ ¬ x.kind = 5 := by
    cases w1 : wkR w <;> cases x1 : itR x <;> simp [w1, x1] at e2 ⊢
    exact e2
  obtain ⟨w1, x1, x5⟩ := e3
  rw [w1] at h2
  rw [x1] at h3
  generalize alOffer w.al input x = O at *
  obtain ⟨oa, op, od, ol, oe⟩ := O
  dsimp only at *
  subst c1
  simp only [Jb.av, Wk.av, Al.av, AlO.avR] at h2 h4 ⊢
  refine (ac_body tab_ok Tryz.func19 rfl (by kernel_rfl) rfl ?_); intro w0 M μ0; simp only [Tryz.ntmps19, List.length_cons, List.length_nil, Nat.reduceAdd, Nat.reduceSub, numb]
  repeat' (first | ((first | apply o_do | apply d_do | apply d_yes rfl rfl rfl); first | exact lsc (h1) | exact lsc (h2) | exact lsc (h3) | exact lsc (h4) | exact ls_buildO (k := 7) tab_ok rfl rfl rfl rfl rfl rfl rfl | exact lsq) | refine a_seq ?_ | refine a_region ?_ | refine o_nil ?_ | refine a_block ?_ | refine a_ret ?_ | refine a_exit ?_ | refine a_skip ?_ | refine a_draw mixed ?_ | refine d_nil (by kernel_rfl) ?_ | refine o_yes rfl rfl rfl ?_ | refine o_no rfl rfl rfl (by decide) ?_ | refine o_no' rfl rfl rfl ?_ | refine a_condT rfl ?_ | refine a_condF rfl ?_ | refine d_no rfl rfl rfl (by decide) ?_ | refine d_no' rfl rfl rfl ?_ | (refine wq2 (fun hb => ?_) (fun hb => ?_) <;> (simp only [hb]; try simp only [hbs, ne_eq] at hb; try (exfalso; first | omega | exact hb trivial))) | fail)
  refine rq rfl ?_
  exact fnq
end Go.Proofs.YtagfjnjpgphnjaaGreat
