/-
  Workers, walked over abstract values: an item that is taken, in all cases.
  Workers, walked over abstract values: an item that is taken, by the reference.
  Workers, walked over abstract values: the law of what can be made.
  Layer ring in plain Lean: a text's hash, moves between owners; no program in sight. No condition.
  Walks of layer ring (its part without the library) and of its reference.
-/
import Derived.RowKit
import Derived.Laws.BitsAllLaws
import Derived.Test.YtagfjnjpgphnjaaGreatRows
import Derived.Test.YtagfjnjpgphnjaaGreatK1
import Derived.Test.YtagfjnjpgphnjaaGreatK4
import Derived.Test.YtagfjnjpgphnjaaGreatK15
import Derived.Test.YtagfjnjpgphnjaaGreatK20
import Derived.Test.YtagfjnjpgphnjaaGreatK21
namespace Go.Proofs.YtagfjnjpgphnjaaGreat
open Go.RowKit
set_option linter.unusedSimpArgs false
set_option linter.unusedVariables false
theorem mkSet_ok0 {m : Mk} {i t : Int} (h : mkIn m i = true) : (mkSet m i t).e = 0 ∧ (mkSet m i t).m.ins.length = m.ins.length ∧ (mkSet m i t).m.hs.length = m.hs.length := by
  unfold mkSet
  rw [if_neg (by rw [h]; simp)]
  simp [mkPut]
theorem mkIdle_ok0 {m : Mk} {i : Int} (h : mkIn m i = true) : (mkIdle m i).e = 0 ∧ (mkIdle m i).m.ins.length = m.ins.length ∧ (mkIdle m i).m.hs.length = m.hs.length := by
  unfold mkIdle
  rw [if_neg (by rw [h]; simp)]
  simp [mkPut]
set_option maxRecDepth 10000 in
set_option maxHeartbeats 32000000 in
theorem w_Take (j : Jb) (no : Int) (w : Wk) (input : Int) (x : It) (hw : WkOk w)
    (hgrp : x.kind = 1 → itR x = true → PC Tryz.prog 148 [.v (.string x.key), .v (.int .i64 j.g)] (.v (.int .i64 no))) :
    PC Tryz.prog 18 [.agg j.av, .agg w.av, .v (.int .i64 input), .agg x.av] (wkTake (jobOK j.g j.s j.d j.k j.fu j.li j.de j.id) j no w input x).av := by
  by_cases hstop : jobOK j.g j.s j.d j.k j.fu j.li j.de j.id = false ∨ ((wkR w && itR x) = false ∨ x.kind = 5) ∨ (alOffer w.al input x).e ≠ 0 ∨ (alOffer w.al input x).pass = false
  · exact w_Stops j no w input x hw hstop
  have hs1 : jobOK j.g j.s j.d j.k j.fu j.li j.de j.id = true := by
    cases h : jobOK j.g j.s j.d j.k j.fu j.li j.de j.id
    · exact absurd (.inl h) hstop
    · rfl
  have e2 : ¬ ((wkR w && itR x) = false ∨ x.kind = 5) := fun h => hstop (.inr (.inl h))
  have c1 : (alOffer w.al input x).e = 0 := by
    by_cases h : (alOffer w.al input x).e = 0
    · exact h
    · exact absurd (.inr (.inr (.inl h))) hstop
  have cp : (alOffer w.al input x).pass = true := by
    cases h : (alOffer w.al input x).pass
    · exact absurd (.inr (.inr (.inr h))) hstop
    · rfl
  have e3 : wkR w = true ∧ itR x = true ∧ ¬ x.kind = 5 := by
    cases w1 : wkR w <;> cases x1 : itR x <;> simp [w1, x1] at e2 ⊢
    exact e2
  obtain ⟨w1, x1, x5⟩ := e3
  obtain ⟨hhas, hpass, hlate⟩ := offer_ok x1 c1
  obtain ⟨cd, x4⟩ := hpass cp
  have hkind : x.kind = 1 ∨ x.kind = 2 ∨ x.kind = 3 := by have := itR_kind x1; omega
  have h1 := j_Right j.g j.s j.d j.k j.fu j.li j.de j.id
  have h2 := w_Right w hw
  have h3 := i_Right x
  have h4 := l_Offer w.al input x hw.got hw.held hw.its
  rw [hs1] at h1
  rw [w1] at h2
  rw [x1] at h3
  have w1' := w1
  simp only [wkR, Bool.and_eq_true, decide_eq_true_eq] at w1'
  obtain ⟨wg, wm, wh, wa, wl, wt1, wt2⟩ := w1'
  have hgl : w.gs.length ≤ 1000 := by have := gsR_le wg; omega
  have hin : mkIn w.mks input = true := by
    simp only [alHas, Bool.and_eq_true, decide_eq_true_eq] at hhas
    simp only [mkIn, wm, Bool.true_and, Bool.and_eq_true, decide_eq_true_eq]
    omega
  have hjR : jobR j.s j.d j.k = true := by
    simp only [jobOK, Bool.and_eq_true] at hs1
    simp only [jobR, Bool.and_eq_true]
    exact ⟨hs1.2.2.1, hs1.2.2.2.1⟩
  have hcl := cl_Grp (w.gs.map Gp.av) (by rw [List.length_map]; omega)
  have hadv0 : ∀ t, ∀ g ∈ w.gs, (gpAdv j t g).e = 0 := by
    intro t g hg
    obtain ⟨i, hi, rfl⟩ := List.getElem_of_mem hg
    exact adv_ok hjR (gsR_at wg i hi)
  have g3 := hw.ins
  have g4 := hw.hs
  have g2 := hw.ps
  unfold wkTake
  rw [if_neg (by rw [hs1]; simp), if_neg e2, if_neg (by rw [c1]; simp), if_neg (by rw [cd]; omega), if_neg (by rw [cp]; simp)]
  generalize alOffer w.al input x = O at *
  obtain ⟨oa, op, od, ol, oe⟩ := O
  dsimp only at c1 cp cd h4 ⊢
  subst c1 cp cd
  rcases hkind with k1 | k2 | k3
  · rw [if_pos k1]
    have hof := y_of1
    rw [← k1] at hof
    have hring := hgrp k1 x1
    rcases y_event w.mks oa w.told j input x no w.gs hgl g2 g3 g4 hring with ⟨hnone, hev⟩ | ⟨q, hq, hno, ⟨hne, hev⟩ | ⟨he0, hev⟩⟩
    · obtain ⟨_, p2⟩ := put_none (j := j) (x := x) hnone
      rw [p2, if_pos (by decide)]
      have f160 := y_fail 160
      unfold wayC at hev
      simp only [wkFail, TkW.av, wkZ, List.map_nil, Jb.av, Wk.av, Al.av, AlO.av] at h2 h4 f160 ⊢
      refine PC.mk (ac_body tab_ok Tryz.func18 rfl (by kernel_rfl) rfl ?_); intro w0 M μ0; simp only [Tryz.ntmps18, List.length_cons, List.length_nil, Nat.reduceAdd, Nat.reduceSub, numb]
      repeat' (first | ((first | apply o_do | apply d_do | apply d_yes rfl rfl rfl); first | exact lsc (h1) | exact lsc (h2) | exact lsc (h3) | exact lsc (h4) | exact ls_callA [] 6 hcl rfl rfl (by (repeat' (first | exact NilL.nil | refine NilL.cons Nil.same ?_ | refine NilL.cons Nil.nil ?_ | refine NilL.cons (Nil.agg ?_) ?_ | exact Nil1s.nil | refine Nil1s.cons Nil1.same ?_ | refine Nil1s.cons Nil1.nil ?_)); first | done | fail) rfl (by repeat' (first | exact trivial | refine ⟨⟨_, rfl, by first | rfl | (simp [renO, *]; done)⟩, ?_⟩)) (by first | rfl | simp [closO, *]) rfl rfl rfl rfl (by first | rfl | simp [closO, *]) rfl | exact ls_nilCheck rfl rfl | exact lsc (hof) | exact ls_callA [5, 6] 7 hev rfl rfl (by (repeat' (first | exact NilL.nil | refine NilL.cons Nil.same ?_ | refine NilL.cons Nil.nil ?_ | refine NilL.cons (Nil.agg ?_) ?_ | exact Nil1s.nil | refine Nil1s.cons Nil1.same ?_ | refine Nil1s.cons Nil1.nil ?_)); first | done | fail) rfl (by repeat' (first | exact trivial | refine ⟨⟨_, rfl, by first | rfl | (simp [renO, *]; done)⟩, ?_⟩)) (by first | rfl | simp [closO, *]) rfl rfl rfl rfl (by first | rfl | simp [closO, *]) rfl | exact lsc (f160) | exact lsq) | refine a_seq ?_ | refine a_region ?_ | refine o_nil ?_ | refine a_block ?_ | refine a_ret ?_ | refine a_exit ?_ | refine a_skip ?_ | refine a_draw mixed ?_ | refine d_nil (by kernel_rfl) ?_ | refine o_yes rfl rfl rfl ?_ | refine o_no rfl rfl rfl (by decide) ?_ | refine o_no' rfl rfl rfl ?_ | refine a_condT rfl ?_ | refine a_condF rfl ?_ | refine d_no rfl rfl rfl (by decide) ?_ | refine d_no' rfl rfl rfl ?_ | (refine wq2 (fun hb => ?_) (fun hb => ?_) <;> (simp only [hb]; try simp only [hbs, ne_eq] at hb; try (exfalso; first | omega | exact hb trivial))) | fail)
      refine rq rfl ?_
      exact fnq
    · obtain ⟨_, p2⟩ := put_at (j := j) (x := x) wg hq hno
      rw [p2, if_pos hne]
      have ft := y_fail (gpTake j x w.gs[q]).e
      generalize (gpTake j x w.gs[q]).e = E at *
      unfold wayC at hev
      simp only [wkFail, TkW.av, wkZ, List.map_nil, Jb.av, Wk.av, Al.av, AlO.av] at h2 h4 ft ⊢
      refine PC.mk (ac_body tab_ok Tryz.func18 rfl (by kernel_rfl) rfl ?_); intro w0 M μ0; simp only [Tryz.ntmps18, List.length_cons, List.length_nil, Nat.reduceAdd, Nat.reduceSub, numb]
      repeat' (first | ((first | apply o_do | apply d_do | apply d_yes rfl rfl rfl); first | exact lsc (h1) | exact lsc (h2) | exact lsc (h3) | exact lsc (h4) | exact ls_callA [] 6 hcl rfl rfl (by (repeat' (first | exact NilL.nil | refine NilL.cons Nil.same ?_ | refine NilL.cons Nil.nil ?_ | refine NilL.cons (Nil.agg ?_) ?_ | exact Nil1s.nil | refine Nil1s.cons Nil1.same ?_ | refine Nil1s.cons Nil1.nil ?_)); first | done | fail) rfl (by repeat' (first | exact trivial | refine ⟨⟨_, rfl, by first | rfl | (simp [renO, *]; done)⟩, ?_⟩)) (by first | rfl | simp [closO, *]) rfl rfl rfl rfl (by first | rfl | simp [closO, *]) rfl | exact ls_nilCheck rfl rfl | exact lsc (hof) | exact ls_callA [5, 6] 7 hev rfl rfl (by (repeat' (first | exact NilL.nil | refine NilL.cons Nil.same ?_ | refine NilL.cons Nil.nil ?_ | refine NilL.cons (Nil.agg ?_) ?_ | exact Nil1s.nil | refine Nil1s.cons Nil1.same ?_ | refine Nil1s.cons Nil1.nil ?_)); first | done | fail) rfl (by repeat' (first | exact trivial | refine ⟨⟨_, rfl, by first | rfl | (simp [renO, *]; done)⟩, ?_⟩)) (by first | rfl | simp [closO, *]) rfl rfl rfl rfl (by first | rfl | simp [closO, *]) rfl | exact lsc (ft) | exact lsq) | refine a_seq ?_ | refine a_region ?_ | refine o_nil ?_ | refine a_block ?_ | refine a_ret ?_ | refine a_exit ?_ | refine a_skip ?_ | refine a_draw mixed ?_ | refine d_nil (by kernel_rfl) ?_ | refine o_yes rfl rfl rfl ?_ | refine o_no rfl rfl rfl (by decide) ?_ | refine o_no' rfl rfl rfl ?_ | refine a_condT rfl ?_ | refine a_condF rfl ?_ | refine d_no rfl rfl rfl (by decide) ?_ | refine d_no' rfl rfl rfl ?_ | (refine wq2 (fun hb => ?_) (fun hb => ?_) <;> (simp only [hb]; try simp only [hbs, ne_eq] at hb; try (exfalso; first | omega | exact hb trivial))) | fail)
      refine rq rfl ?_
      exact fnq
    · obtain ⟨p1, p2⟩ := put_at (j := j) (x := x) wg hq hno
      rw [p1, p2, if_neg (by rw [he0]; simp)]
      obtain ⟨s0, s1, s2⟩ := mkSet_ok0 (t := 0) hin
      rw [s0] at hev
      have hgR := gsR_at wg q hq
      have htk := take_grR (key := x.key) (at' := x.at') (v := x.val) hjR hgR he0
      have hadv : ∀ t, ∀ g ∈ w.gs.set q (gpTake j x w.gs[q]).gp, (gpAdv j t g).e = 0 := by
        intro t g hg
        rcases List.mem_or_eq_of_mem_set hg with hg | rfl
        · exact hadv0 t g hg
        · refine adv_ok hjR ?_
          show grR (gpTake j x w.gs[q]).no (gpTake j x w.gs[q]).mark (gpTake j x w.gs[q]).ps = true
          unfold gpTake
          rw [htk.2.1, htk.2.2]
          exact htk.1
      have hps : ∀ g ∈ w.gs.set q (gpTake j x w.gs[q]).gp, g.ps.length ≤ 9223372036854775807 := by
        intro g hg
        rcases List.mem_or_eq_of_mem_set hg with hg | rfl
        · exact g2 g hg
        · exact grow_le (g2 _ (List.getElem_mem hq))
      have hset : (w.gs.map Gp.av).set q (Gp.av (gpTake j x w.gs[q]).gp) = (w.gs.set q (gpTake j x w.gs[q]).gp).map Gp.av := List.map_set.symm
      rw [hset] at hev
      have hsl : (w.gs.set q (gpTake j x w.gs[q]).gp).length = w.gs.length := List.length_set
      generalize w.gs.set q (gpTake j x w.gs[q]).gp = M at *
      have hN : (w.gs.map Gp.av).length = (M.map Gp.av).length := by rw [List.length_map, List.length_map, hsl]
      have hgoN := fun h => y_goNo (mkSet w.mks input 0).m oa w.told j input x (w.gs.map Gp.av).length (M.map Gp.av) (by omega) (by omega) h
      have hgoY := fun h => y_goYes (mkSet w.mks input 0).m oa w.told j input x M (w.gs.map Gp.av).length hN (by omega) hps (by omega) (by omega) h (hadv _)
      unfold wkGo
      generalize mkSet w.mks input 0 = S at *
      obtain ⟨sm, se⟩ := S
      dsimp only at *
      generalize mkTell sm = T at *
      obtain ⟨tm, tt, ti⟩ := T
      cases ti
      · have hgo := hgoN rfl
        unfold wayC at hev hgo
        simp only [Bool.false_eq_true, if_false, TkW.av, List.map_nil, Jb.av, Wk.av, Al.av, AlO.av] at h2 h4 ⊢
        refine PC.mk (ac_body tab_ok Tryz.func18 rfl (by kernel_rfl) rfl ?_); intro w0 M μ0; simp only [Tryz.ntmps18, List.length_cons, List.length_nil, Nat.reduceAdd, Nat.reduceSub, numb]
        repeat' (first | ((first | apply o_do | apply d_do | apply d_yes rfl rfl rfl); first | exact lsc (h1) | exact lsc (h2) | exact lsc (h3) | exact lsc (h4) | exact ls_callA [] 6 hcl rfl rfl (by (repeat' (first | exact NilL.nil | refine NilL.cons Nil.same ?_ | refine NilL.cons Nil.nil ?_ | refine NilL.cons (Nil.agg ?_) ?_ | exact Nil1s.nil | refine Nil1s.cons Nil1.same ?_ | refine Nil1s.cons Nil1.nil ?_)); first | done | fail) rfl (by repeat' (first | exact trivial | refine ⟨⟨_, rfl, by first | rfl | (simp [renO, *]; done)⟩, ?_⟩)) (by first | rfl | simp [closO, *]) rfl rfl rfl rfl (by first | rfl | simp [closO, *]) rfl | exact ls_nilCheck rfl rfl | exact lsc (hof) | exact ls_callA [5, 6] 7 hev rfl rfl (by (repeat' (first | exact NilL.nil | refine NilL.cons Nil.same ?_ | refine NilL.cons Nil.nil ?_ | refine NilL.cons (Nil.agg ?_) ?_ | exact Nil1s.nil | refine Nil1s.cons Nil1.same ?_ | refine Nil1s.cons Nil1.nil ?_)); first | done | fail) rfl (by repeat' (first | exact trivial | refine ⟨⟨_, rfl, by first | rfl | (simp [renO, *]; done)⟩, ?_⟩)) (by first | rfl | simp [closO, *]) rfl rfl rfl rfl (by first | rfl | simp [closO, *]) rfl | exact ls_callA [5, 6] 7 hgo rfl rfl (by (repeat' (first | exact NilL.nil | refine NilL.cons Nil.same ?_ | refine NilL.cons Nil.nil ?_ | refine NilL.cons (Nil.agg ?_) ?_ | exact Nil1s.nil | refine Nil1s.cons Nil1.same ?_ | refine Nil1s.cons Nil1.nil ?_)); first | done | fail) rfl (by repeat' (first | exact trivial | refine ⟨⟨_, rfl, by first | rfl | (simp [renO, *]; done)⟩, ?_⟩)) (by first | rfl | simp [closO, *]) rfl rfl rfl rfl (by first | rfl | simp [closO, *]) rfl | exact lsq) | refine a_seq ?_ | refine a_region ?_ | refine o_nil ?_ | refine a_block ?_ | refine a_ret ?_ | refine a_exit ?_ | refine a_skip ?_ | refine a_draw mixed ?_ | refine d_nil (by kernel_rfl) ?_ | refine o_yes rfl rfl rfl ?_ | refine o_no rfl rfl rfl (by decide) ?_ | refine o_no' rfl rfl rfl ?_ | refine a_condT rfl ?_ | refine a_condF rfl ?_ | refine d_no rfl rfl rfl (by decide) ?_ | refine d_no' rfl rfl rfl ?_ | (refine wq2 (fun hb => ?_) (fun hb => ?_) <;> (simp only [hb]; try simp only [hbs, ne_eq] at hb; try (exfalso; first | omega | exact hb trivial))) | fail)
        refine rq rfl ?_
        (first | refine FinA.tup ?_ | refine FinA.one ?_); repeat' (first | exact FinBs.nil | exact FinCs.nil | refine FinBs.cons ?_ ?_ | refine FinCs.cons ?_ ?_ | refine FinB.cell (FinC.v ?_) | refine FinB.cell (FinC.own rfl rfl rfl ?_) | exact FinB.cell FinC.nil | refine FinB.cell (FinC.sl ?_) | exact FinB.agg' rfl rfl | exact FinB.cell (FinC.same rfl) | refine FinB.agg ?_ | refine FinC.v ?_ | refine FinC.own rfl rfl rfl ?_ | exact FinC.nil | refine FinC.sl ?_ | exact FinC.same rfl); all_goals try rfl
        all_goals exact FinC.own rfl hN rfl rfl
      · have hgo := hgoY rfl
        unfold wayC at hev hgo
        simp only [if_true, TkW.av, List.map_nil, Jb.av, Wk.av, Al.av, AlO.av, List.map_append, List.map_cons] at h2 h4 ⊢
        refine PC.mk (ac_body tab_ok Tryz.func18 rfl (by kernel_rfl) rfl ?_); intro w0 M μ0; simp only [Tryz.ntmps18, List.length_cons, List.length_nil, Nat.reduceAdd, Nat.reduceSub, numb]
        repeat' (first | ((first | apply o_do | apply d_do | apply d_yes rfl rfl rfl); first | exact lsc (h1) | exact lsc (h2) | exact lsc (h3) | exact lsc (h4) | exact ls_callA [] 6 hcl rfl rfl (by (repeat' (first | exact NilL.nil | refine NilL.cons Nil.same ?_ | refine NilL.cons Nil.nil ?_ | refine NilL.cons (Nil.agg ?_) ?_ | exact Nil1s.nil | refine Nil1s.cons Nil1.same ?_ | refine Nil1s.cons Nil1.nil ?_)); first | done | fail) rfl (by repeat' (first | exact trivial | refine ⟨⟨_, rfl, by first | rfl | (simp [renO, *]; done)⟩, ?_⟩)) (by first | rfl | simp [closO, *]) rfl rfl rfl rfl (by first | rfl | simp [closO, *]) rfl | exact ls_nilCheck rfl rfl | exact lsc (hof) | exact ls_callA [5, 6] 7 hev rfl rfl (by (repeat' (first | exact NilL.nil | refine NilL.cons Nil.same ?_ | refine NilL.cons Nil.nil ?_ | refine NilL.cons (Nil.agg ?_) ?_ | exact Nil1s.nil | refine Nil1s.cons Nil1.same ?_ | refine Nil1s.cons Nil1.nil ?_)); first | done | fail) rfl (by repeat' (first | exact trivial | refine ⟨⟨_, rfl, by first | rfl | (simp [renO, *]; done)⟩, ?_⟩)) (by first | rfl | simp [closO, *]) rfl rfl rfl rfl (by first | rfl | simp [closO, *]) rfl | exact ls_callA [5, 6] 7 hgo rfl rfl (by (repeat' (first | exact NilL.nil | refine NilL.cons Nil.same ?_ | refine NilL.cons Nil.nil ?_ | refine NilL.cons (Nil.agg ?_) ?_ | exact Nil1s.nil | refine Nil1s.cons Nil1.same ?_ | refine Nil1s.cons Nil1.nil ?_)); first | done | fail) rfl (by repeat' (first | exact trivial | refine ⟨⟨_, rfl, by first | rfl | (simp [renO, *]; done)⟩, ?_⟩)) (by first | rfl | simp [closO, *]) rfl rfl rfl rfl (by first | rfl | simp [closO, *]) rfl | exact lsq) | refine a_seq ?_ | refine a_region ?_ | refine o_nil ?_ | refine a_block ?_ | refine a_ret ?_ | refine a_exit ?_ | refine a_skip ?_ | refine a_draw mixed ?_ | refine d_nil (by kernel_rfl) ?_ | refine o_yes rfl rfl rfl ?_ | refine o_no rfl rfl rfl (by decide) ?_ | refine o_no' rfl rfl rfl ?_ | refine a_condT rfl ?_ | refine a_condF rfl ?_ | refine d_no rfl rfl rfl (by decide) ?_ | refine d_no' rfl rfl rfl ?_ | (refine wq2 (fun hb => ?_) (fun hb => ?_) <;> (simp only [hb]; try simp only [hbs, ne_eq] at hb; try (exfalso; first | omega | exact hb trivial))) | fail)
        refine rq rfl ?_
        (first | refine FinA.tup ?_ | refine FinA.one ?_); repeat' (first | exact FinBs.nil | exact FinCs.nil | refine FinBs.cons ?_ ?_ | refine FinCs.cons ?_ ?_ | refine FinB.cell (FinC.v ?_) | refine FinB.cell (FinC.own rfl rfl rfl ?_) | exact FinB.cell FinC.nil | refine FinB.cell (FinC.sl ?_) | exact FinB.agg' rfl rfl | exact FinB.cell (FinC.same rfl) | refine FinB.agg ?_ | refine FinC.v ?_ | refine FinC.own rfl rfl rfl ?_ | exact FinC.nil | refine FinC.sl ?_ | exact FinC.same rfl); all_goals try rfl
        all_goals exact FinC.own rfl (by rw [hN]; simp [advM]) rfl rfl
  · rw [if_neg (by omega), if_pos k2]
    have hof := y_of2
    rw [← k2] at hof
    obtain ⟨s0, s1, s2⟩ := mkSet_ok0 (t := x.mark) hin
    have hev := y_mark (w.gs.map Gp.av).length (w.gs.map Gp.av) w.mks oa w.told j input x g3 g4
    rw [s0] at hev
    have hgoN := fun h => y_goNo (mkSet w.mks input x.mark).m oa w.told j input x (w.gs.map Gp.av).length (w.gs.map Gp.av) (by omega) (by omega) h
    have hgoY := fun h => y_goYes (mkSet w.mks input x.mark).m oa w.told j input x w.gs (w.gs.map Gp.av).length rfl (by omega) g2 (by omega) (by omega) h (hadv0 _)
    unfold wkGo
    generalize mkSet w.mks input x.mark = S at *
    obtain ⟨sm, se⟩ := S
    dsimp only at *
    generalize mkTell sm = T at *
    obtain ⟨tm, tt, ti⟩ := T
    cases ti
    · have hgo := hgoN rfl
      unfold wayC at hev hgo
      simp only [Bool.false_eq_true, if_false, TkW.av, List.map_nil, Jb.av, Wk.av, Al.av, AlO.av] at h2 h4 ⊢
      refine PC.mk (ac_body tab_ok Tryz.func18 rfl (by kernel_rfl) rfl ?_); intro w0 M μ0; simp only [Tryz.ntmps18, List.length_cons, List.length_nil, Nat.reduceAdd, Nat.reduceSub, numb]
      repeat' (first | ((first | apply o_do | apply d_do | apply d_yes rfl rfl rfl); first | exact lsc (h1) | exact lsc (h2) | exact lsc (h3) | exact lsc (h4) | exact ls_callA [] 6 hcl rfl rfl (by (repeat' (first | exact NilL.nil | refine NilL.cons Nil.same ?_ | refine NilL.cons Nil.nil ?_ | refine NilL.cons (Nil.agg ?_) ?_ | exact Nil1s.nil | refine Nil1s.cons Nil1.same ?_ | refine Nil1s.cons Nil1.nil ?_)); first | done | fail) rfl (by repeat' (first | exact trivial | refine ⟨⟨_, rfl, by first | rfl | (simp [renO, *]; done)⟩, ?_⟩)) (by first | rfl | simp [closO, *]) rfl rfl rfl rfl (by first | rfl | simp [closO, *]) rfl | exact ls_nilCheck rfl rfl | exact lsc (hof) | exact ls_callA [5, 6] 7 hev rfl rfl (by (repeat' (first | exact NilL.nil | refine NilL.cons Nil.same ?_ | refine NilL.cons Nil.nil ?_ | refine NilL.cons (Nil.agg ?_) ?_ | exact Nil1s.nil | refine Nil1s.cons Nil1.same ?_ | refine Nil1s.cons Nil1.nil ?_)); first | done | fail) rfl (by repeat' (first | exact trivial | refine ⟨⟨_, rfl, by first | rfl | (simp [renO, *]; done)⟩, ?_⟩)) (by first | rfl | simp [closO, *]) rfl rfl rfl rfl (by first | rfl | simp [closO, *]) rfl | exact ls_callA [5, 6] 7 hgo rfl rfl (by (repeat' (first | exact NilL.nil | refine NilL.cons Nil.same ?_ | refine NilL.cons Nil.nil ?_ | refine NilL.cons (Nil.agg ?_) ?_ | exact Nil1s.nil | refine Nil1s.cons Nil1.same ?_ | refine Nil1s.cons Nil1.nil ?_)); first | done | fail) rfl (by repeat' (first | exact trivial | refine ⟨⟨_, rfl, by first | rfl | (simp [renO, *]; done)⟩, ?_⟩)) (by first | rfl | simp [closO, *]) rfl rfl rfl rfl (by first | rfl | simp [closO, *]) rfl | exact lsq) | refine a_seq ?_ | refine a_region ?_ | refine o_nil ?_ | refine a_block ?_ | refine a_ret ?_ | refine a_exit ?_ | refine a_skip ?_ | refine a_draw mixed ?_ | refine d_nil (by kernel_rfl) ?_ | refine o_yes rfl rfl rfl ?_ | refine o_no rfl rfl rfl (by decide) ?_ | refine o_no' rfl rfl rfl ?_ | refine a_condT rfl ?_ | refine a_condF rfl ?_ | refine d_no rfl rfl rfl (by decide) ?_ | refine d_no' rfl rfl rfl ?_ | (refine wq2 (fun hb => ?_) (fun hb => ?_) <;> (simp only [hb]; try simp only [hbs, ne_eq] at hb; try (exfalso; first | omega | exact hb trivial))) | fail)
      refine rq rfl ?_
      exact fnq
    · have hgo := hgoY rfl
      unfold wayC at hev hgo
      simp only [if_true, TkW.av, List.map_nil, Jb.av, Wk.av, Al.av, AlO.av, List.map_append, List.map_cons] at h2 h4 ⊢
      refine PC.mk (ac_body tab_ok Tryz.func18 rfl (by kernel_rfl) rfl ?_); intro w0 M μ0; simp only [Tryz.ntmps18, List.length_cons, List.length_nil, Nat.reduceAdd, Nat.reduceSub, numb]
      repeat' (first | ((first | apply o_do | apply d_do | apply d_yes rfl rfl rfl); first | exact lsc (h1) | exact lsc (h2) | exact lsc (h3) | exact lsc (h4) | exact ls_callA [] 6 hcl rfl rfl (by (repeat' (first | exact NilL.nil | refine NilL.cons Nil.same ?_ | refine NilL.cons Nil.nil ?_ | refine NilL.cons (Nil.agg ?_) ?_ | exact Nil1s.nil | refine Nil1s.cons Nil1.same ?_ | refine Nil1s.cons Nil1.nil ?_)); first | done | fail) rfl (by repeat' (first | exact trivial | refine ⟨⟨_, rfl, by first | rfl | (simp [renO, *]; done)⟩, ?_⟩)) (by first | rfl | simp [closO, *]) rfl rfl rfl rfl (by first | rfl | simp [closO, *]) rfl | exact ls_nilCheck rfl rfl | exact lsc (hof) | exact ls_callA [5, 6] 7 hev rfl rfl (by (repeat' (first | exact NilL.nil | refine NilL.cons Nil.same ?_ | refine NilL.cons Nil.nil ?_ | refine NilL.cons (Nil.agg ?_) ?_ | exact Nil1s.nil | refine Nil1s.cons Nil1.same ?_ | refine Nil1s.cons Nil1.nil ?_)); first | done | fail) rfl (by repeat' (first | exact trivial | refine ⟨⟨_, rfl, by first | rfl | (simp [renO, *]; done)⟩, ?_⟩)) (by first | rfl | simp [closO, *]) rfl rfl rfl rfl (by first | rfl | simp [closO, *]) rfl | exact ls_callA [5, 6] 7 hgo rfl rfl (by (repeat' (first | exact NilL.nil | refine NilL.cons Nil.same ?_ | refine NilL.cons Nil.nil ?_ | refine NilL.cons (Nil.agg ?_) ?_ | exact Nil1s.nil | refine Nil1s.cons Nil1.same ?_ | refine Nil1s.cons Nil1.nil ?_)); first | done | fail) rfl (by repeat' (first | exact trivial | refine ⟨⟨_, rfl, by first | rfl | (simp [renO, *]; done)⟩, ?_⟩)) (by first | rfl | simp [closO, *]) rfl rfl rfl rfl (by first | rfl | simp [closO, *]) rfl | exact lsq) | refine a_seq ?_ | refine a_region ?_ | refine o_nil ?_ | refine a_block ?_ | refine a_ret ?_ | refine a_exit ?_ | refine a_skip ?_ | refine a_draw mixed ?_ | refine d_nil (by kernel_rfl) ?_ | refine o_yes rfl rfl rfl ?_ | refine o_no rfl rfl rfl (by decide) ?_ | refine o_no' rfl rfl rfl ?_ | refine a_condT rfl ?_ | refine a_condF rfl ?_ | refine d_no rfl rfl rfl (by decide) ?_ | refine d_no' rfl rfl rfl ?_ | (refine wq2 (fun hb => ?_) (fun hb => ?_) <;> (simp only [hb]; try simp only [hbs, ne_eq] at hb; try (exfalso; first | omega | exact hb trivial))) | fail)
      refine rq rfl ?_
      (first | refine FinA.tup ?_ | refine FinA.one ?_); repeat' (first | exact FinBs.nil | exact FinCs.nil | refine FinBs.cons ?_ ?_ | refine FinCs.cons ?_ ?_ | refine FinB.cell (FinC.v ?_) | refine FinB.cell (FinC.own rfl rfl rfl ?_) | exact FinB.cell FinC.nil | refine FinB.cell (FinC.sl ?_) | exact FinB.agg' rfl rfl | exact FinB.cell (FinC.same rfl) | refine FinB.agg ?_ | refine FinC.v ?_ | refine FinC.own rfl rfl rfl ?_ | exact FinC.nil | refine FinC.sl ?_ | exact FinC.same rfl); all_goals try rfl
      all_goals exact FinC.own rfl (by simp [advM]) rfl rfl
  · rw [if_neg (by omega), if_neg (by omega), if_pos k3]
    have hof := y_of3
    rw [← k3] at hof
    obtain ⟨s0, s1, s2⟩ := mkIdle_ok0 hin
    have hev := y_idle (w.gs.map Gp.av).length (w.gs.map Gp.av) w.mks oa w.told j input x g3 g4
    rw [s0] at hev
    have hgoN := fun h => y_goNo (mkIdle w.mks input).m oa w.told j input x (w.gs.map Gp.av).length (w.gs.map Gp.av) (by omega) (by omega) h
    have hgoY := fun h => y_goYes (mkIdle w.mks input).m oa w.told j input x w.gs (w.gs.map Gp.av).length rfl (by omega) g2 (by omega) (by omega) h (hadv0 _)
    unfold wkGo
    generalize mkIdle w.mks input = S at *
    obtain ⟨sm, se⟩ := S
    dsimp only at *
    generalize mkTell sm = T at *
    obtain ⟨tm, tt, ti⟩ := T
    cases ti
    · have hgo := hgoN rfl
      unfold wayC at hev hgo
      simp only [Bool.false_eq_true, if_false, TkW.av, List.map_nil, Jb.av, Wk.av, Al.av, AlO.av] at h2 h4 ⊢
      refine PC.mk (ac_body tab_ok Tryz.func18 rfl (by kernel_rfl) rfl ?_); intro w0 M μ0; simp only [Tryz.ntmps18, List.length_cons, List.length_nil, Nat.reduceAdd, Nat.reduceSub, numb]
      repeat' (first | ((first | apply o_do | apply d_do | apply d_yes rfl rfl rfl); first | exact lsc (h1) | exact lsc (h2) | exact lsc (h3) | exact lsc (h4) | exact ls_callA [] 6 hcl rfl rfl (by (repeat' (first | exact NilL.nil | refine NilL.cons Nil.same ?_ | refine NilL.cons Nil.nil ?_ | refine NilL.cons (Nil.agg ?_) ?_ | exact Nil1s.nil | refine Nil1s.cons Nil1.same ?_ | refine Nil1s.cons Nil1.nil ?_)); first | done | fail) rfl (by repeat' (first | exact trivial | refine ⟨⟨_, rfl, by first | rfl | (simp [renO, *]; done)⟩, ?_⟩)) (by first | rfl | simp [closO, *]) rfl rfl rfl rfl (by first | rfl | simp [closO, *]) rfl | exact ls_nilCheck rfl rfl | exact lsc (hof) | exact ls_callA [5, 6] 7 hev rfl rfl (by (repeat' (first | exact NilL.nil | refine NilL.cons Nil.same ?_ | refine NilL.cons Nil.nil ?_ | refine NilL.cons (Nil.agg ?_) ?_ | exact Nil1s.nil | refine Nil1s.cons Nil1.same ?_ | refine Nil1s.cons Nil1.nil ?_)); first | done | fail) rfl (by repeat' (first | exact trivial | refine ⟨⟨_, rfl, by first | rfl | (simp [renO, *]; done)⟩, ?_⟩)) (by first | rfl | simp [closO, *]) rfl rfl rfl rfl (by first | rfl | simp [closO, *]) rfl | exact ls_callA [5, 6] 7 hgo rfl rfl (by (repeat' (first | exact NilL.nil | refine NilL.cons Nil.same ?_ | refine NilL.cons Nil.nil ?_ | refine NilL.cons (Nil.agg ?_) ?_ | exact Nil1s.nil | refine Nil1s.cons Nil1.same ?_ | refine Nil1s.cons Nil1.nil ?_)); first | done | fail) rfl (by repeat' (first | exact trivial | refine ⟨⟨_, rfl, by first | rfl | (simp [renO, *]; done)⟩, ?_⟩)) (by first | rfl | simp [closO, *]) rfl rfl rfl rfl (by first | rfl | simp [closO, *]) rfl | exact lsq) | refine a_seq ?_ | refine a_region ?_ | refine o_nil ?_ | refine a_block ?_ | refine a_ret ?_ | refine a_exit ?_ | refine a_skip ?_ | refine a_draw mixed ?_ | refine d_nil (by kernel_rfl) ?_ | refine o_yes rfl rfl rfl ?_ | refine o_no rfl rfl rfl (by decide) ?_ | refine o_no' rfl rfl rfl ?_ | refine a_condT rfl ?_ | refine a_condF rfl ?_ | refine d_no rfl rfl rfl (by decide) ?_ | refine d_no' rfl rfl rfl ?_ | (refine wq2 (fun hb => ?_) (fun hb => ?_) <;> (simp only [hb]; try simp only [hbs, ne_eq] at hb; try (exfalso; first | omega | exact hb trivial))) | fail)
      refine rq rfl ?_
      exact fnq
    · have hgo := hgoY rfl
      unfold wayC at hev hgo
      simp only [if_true, TkW.av, List.map_nil, Jb.av, Wk.av, Al.av, AlO.av, List.map_append, List.map_cons] at h2 h4 ⊢
      refine PC.mk (ac_body tab_ok Tryz.func18 rfl (by kernel_rfl) rfl ?_); intro w0 M μ0; simp only [Tryz.ntmps18, List.length_cons, List.length_nil, Nat.reduceAdd, Nat.reduceSub, numb]
      repeat' (first | ((first | apply o_do | apply d_do | apply d_yes rfl rfl rfl); first | exact lsc (h1) | exact lsc (h2) | exact lsc (h3) | exact lsc (h4) | exact ls_callA [] 6 hcl rfl rfl (by (repeat' (first | exact NilL.nil | refine NilL.cons Nil.same ?_ | refine NilL.cons Nil.nil ?_ | refine NilL.cons (Nil.agg ?_) ?_ | exact Nil1s.nil | refine Nil1s.cons Nil1.same ?_ | refine Nil1s.cons Nil1.nil ?_)); first | done | fail) rfl (by repeat' (first | exact trivial | refine ⟨⟨_, rfl, by first | rfl | (simp [renO, *]; done)⟩, ?_⟩)) (by first | rfl | simp [closO, *]) rfl rfl rfl rfl (by first | rfl | simp [closO, *]) rfl | exact ls_nilCheck rfl rfl | exact lsc (hof) | exact ls_callA [5, 6] 7 hev rfl rfl (by (repeat' (first | exact NilL.nil | refine NilL.cons Nil.same ?_ | refine NilL.cons Nil.nil ?_ | refine NilL.cons (Nil.agg ?_) ?_ | exact Nil1s.nil | refine Nil1s.cons Nil1.same ?_ | refine Nil1s.cons Nil1.nil ?_)); first | done | fail) rfl (by repeat' (first | exact trivial | refine ⟨⟨_, rfl, by first | rfl | (simp [renO, *]; done)⟩, ?_⟩)) (by first | rfl | simp [closO, *]) rfl rfl rfl rfl (by first | rfl | simp [closO, *]) rfl | exact ls_callA [5, 6] 7 hgo rfl rfl (by (repeat' (first | exact NilL.nil | refine NilL.cons Nil.same ?_ | refine NilL.cons Nil.nil ?_ | refine NilL.cons (Nil.agg ?_) ?_ | exact Nil1s.nil | refine Nil1s.cons Nil1.same ?_ | refine Nil1s.cons Nil1.nil ?_)); first | done | fail) rfl (by repeat' (first | exact trivial | refine ⟨⟨_, rfl, by first | rfl | (simp [renO, *]; done)⟩, ?_⟩)) (by first | rfl | simp [closO, *]) rfl rfl rfl rfl (by first | rfl | simp [closO, *]) rfl | exact lsq) | refine a_seq ?_ | refine a_region ?_ | refine o_nil ?_ | refine a_block ?_ | refine a_ret ?_ | refine a_exit ?_ | refine a_skip ?_ | refine a_draw mixed ?_ | refine d_nil (by kernel_rfl) ?_ | refine o_yes rfl rfl rfl ?_ | refine o_no rfl rfl rfl (by decide) ?_ | refine o_no' rfl rfl rfl ?_ | refine a_condT rfl ?_ | refine a_condF rfl ?_ | refine d_no rfl rfl rfl (by decide) ?_ | refine d_no' rfl rfl rfl ?_ | (refine wq2 (fun hb => ?_) (fun hb => ?_) <;> (simp only [hb]; try simp only [hbs, ne_eq] at hb; try (exfalso; first | omega | exact hb trivial))) | fail)
      refine rq rfl ?_
      (first | refine FinA.tup ?_ | refine FinA.one ?_); repeat' (first | exact FinBs.nil | exact FinCs.nil | refine FinBs.cons ?_ ?_ | refine FinCs.cons ?_ ?_ | refine FinB.cell (FinC.v ?_) | refine FinB.cell (FinC.own rfl rfl rfl ?_) | exact FinB.cell FinC.nil | refine FinB.cell (FinC.sl ?_) | exact FinB.agg' rfl rfl | exact FinB.cell (FinC.same rfl) | refine FinB.agg ?_ | refine FinC.v ?_ | refine FinC.own rfl rfl rfl ?_ | exact FinC.nil | refine FinC.sl ?_ | exact FinC.same rfl); all_goals try rfl
      all_goals exact FinC.own rfl (by simp [advM]) rfl rfl
end Go.Proofs.YtagfjnjpgphnjaaGreat
namespace Go.Proofs.YtagfjnjpgphnjaaGreat
open Go.RowKit
set_option linter.unusedSimpArgs false
set_option linter.unusedVariables false
theorem mkSet_len (m : Mk) (i t : Int) : (mkSet m i t).m.ins.length ≤ m.ins.length ∧ (mkSet m i t).m.hs.length ≤ m.hs.length := by
  unfold mkSet
  split <;> simp [mkZ, mkPut]
theorem mkIdle_len (m : Mk) (i : Int) : (mkIdle m i).m.ins.length ≤ m.ins.length ∧ (mkIdle m i).m.hs.length ≤ m.hs.length := by
  unfold mkIdle
  split <;> simp [mkZ, mkPut]
theorem putM_ok {j : Jb} {no : Int} {x : It} {gs : List Gp} (hp : ∀ g ∈ gs, g.ps.length ≤ 9223372036854775807) : ∀ g ∈ putM j no x gs, g.ps.length ≤ 9223372036854775807 := by
  intro g hg
  obtain ⟨y, hy, rfl⟩ := List.mem_map.1 hg
  split
  · exact grow_le (hp y hy)
  · exact hp y hy
set_option maxRecDepth 10000 in
set_option maxHeartbeats 16000000 in
theorem r_Take (j : Jb) (no : Int) (w : Wk) (input : Int) (x : It) (hw : WkOk w) (hv : -9223372036854775808 ≤ x.val ∧ x.val ≤ 9223372036854775807)
    (hgrp : x.kind = 1 → itR x = true → PC Tryz.prog 34 [.v (.string x.key), .v (.int .i64 j.g)] (.v (.int .i64 no))) :
    PC Tryz.prog 19 [.agg j.av, .agg w.av, .v (.int .i64 input), .agg x.av] (wkTake (jobOK j.g j.s j.d j.k j.fu j.li j.de j.id) j no w input x).avR := by
  have h1 := j_rRight j.g j.s j.d j.k j.fu j.li j.de j.id
  have h2 := w_rRight w hw
  have h3 := i_rRight x
  have h4 := r_Offer w.al input x hw.got hw.held hw.its
  have g1 := hw.gs
  have g2 := hw.ps
  have g3 := hw.ins
  have g4 := hw.hs
  have hR : wkR w = true → w.gs.length ≤ 1000 := fun h => by
    simp only [wkR, Bool.and_eq_true] at h
    have := gsR_le h.1
    omega
  unfold wkTake
  cases e1 : jobOK j.g j.s j.d j.k j.fu j.li j.de j.id
  · rw [e1] at h1
    simp only [if_true, wkFail, TkW.avR, wkZ, List.map_nil, Jb.av, Wk.av]
    refine PC.mk (ac_body tab_ok Tryz.func19 rfl (by kernel_rfl) rfl ?_); intro w0 M μ0; simp only [Tryz.ntmps19, List.length_cons, List.length_nil, Nat.reduceAdd, Nat.reduceSub, numb]
    repeat' (first | ((first | apply o_do | apply d_do | apply d_yes rfl rfl rfl); first | exact lsc (h1) | exact lsq) | refine a_seq ?_ | refine a_region ?_ | refine o_nil ?_ | refine a_block ?_ | refine a_ret ?_ | refine a_exit ?_ | refine a_skip ?_ | refine a_draw mixed ?_ | refine d_nil (by kernel_rfl) ?_ | refine o_yes rfl rfl rfl ?_ | refine o_no rfl rfl rfl (by decide) ?_ | refine o_no' rfl rfl rfl ?_ | refine a_condT rfl ?_ | refine a_condF rfl ?_ | refine d_no rfl rfl rfl (by decide) ?_ | refine d_no' rfl rfl rfl ?_ | (refine wq2 (fun hb => ?_) (fun hb => ?_) <;> (simp only [hb]; try simp only [hbs, ne_eq] at hb; try (exfalso; first | omega | exact hb trivial))) | fail)
    refine rq rfl ?_
    exact fnq
  rw [e1] at h1
  simp only [Bool.true_eq_false, if_false]
  by_cases e2 : (wkR w && itR x) = false ∨ x.kind = 5
  · rw [if_pos e2]
    simp only [wkFail, TkW.avR, wkZ, List.map_nil, Jb.av, Wk.av] at h2 ⊢
    cases w1 : wkR w <;> cases x1 : itR x
    all_goals
      rw [w1] at h2
      rw [x1] at h3
      refine PC.mk (ac_body tab_ok Tryz.func19 rfl (by kernel_rfl) rfl ?_); intro w0 M μ0; simp only [Tryz.ntmps19, List.length_cons, List.length_nil, Nat.reduceAdd, Nat.reduceSub, numb]
      repeat' (first | ((first | apply o_do | apply d_do | apply d_yes rfl rfl rfl); first | exact lsc (h1) | exact lsc (h2) | exact lsc (h3) | exact lsq) | refine a_seq ?_ | refine a_region ?_ | refine o_nil ?_ | refine a_block ?_ | refine a_ret ?_ | refine a_exit ?_ | refine a_skip ?_ | refine a_draw mixed ?_ | refine d_nil (by kernel_rfl) ?_ | refine o_yes rfl rfl rfl ?_ | refine o_no rfl rfl rfl (by decide) ?_ | refine o_no' rfl rfl rfl ?_ | refine a_condT rfl ?_ | refine a_condF rfl ?_ | refine d_no rfl rfl rfl (by decide) ?_ | refine d_no' rfl rfl rfl ?_ | (refine wq2 (fun hb => ?_) (fun hb => ?_) <;> (simp only [hb]; try simp only [hbs, ne_eq] at hb; try (exfalso; first | omega | exact hb trivial))) | fail)
      all_goals first
        | (refine rq rfl ?_; (exact fnq); done)
        | (exfalso; rw [w1, x1] at e2; simp at e2; exact absurd e2 (by assumption))
  rw [if_neg e2]
  have e3 : wkR w = true ∧ itR x = true ∧ ¬ x.kind = 5 := by
    cases w1 : wkR w <;> cases x1 : itR x <;> simp [w1, x1] at e2 ⊢
    exact e2
  obtain ⟨w1, x1, x5⟩ := e3
  have hgl := hR w1
  rw [w1] at h2
  rw [x1] at h3
  have h10 : x.kind = 1 → PC Tryz.prog 64 [.agg j.av, .sl 3 (w.gs.map Gp.av), .agg [.v (.string x.key), .v (.int .i64 x.at'), .v (.int .i64 x.val)]] (.tup [.sl 3 ((putM j no x w.gs).map Gp.av), .v (.int .i64 (putB j no x w.gs))]) := fun h => r_put j no x w.gs hgl g2 hv (hgrp h x1)
  generalize alOffer w.al input x = O at *
  obtain ⟨oa, op, od, ol, oe⟩ := O
  dsimp only
  by_cases c1 : oe ≠ 0
  · rw [if_pos c1]
    simp only [wkFail, TkW.avR, wkZ, List.map_nil, Jb.av, Wk.av, Al.av, AlO.avR] at h2 h4 ⊢
    refine PC.mk (ac_body tab_ok Tryz.func19 rfl (by kernel_rfl) rfl ?_); intro w0 M μ0; simp only [Tryz.ntmps19, List.length_cons, List.length_nil, Nat.reduceAdd, Nat.reduceSub, numb]
    repeat' (first | ((first | apply o_do | apply d_do | apply d_yes rfl rfl rfl); first | exact lsc (h1) | exact lsc (h2) | exact lsc (h3) | exact lsc (h4) | exact lsq) | refine a_seq ?_ | refine a_region ?_ | refine o_nil ?_ | refine a_block ?_ | refine a_ret ?_ | refine a_exit ?_ | refine a_skip ?_ | refine a_draw mixed ?_ | refine d_nil (by kernel_rfl) ?_ | refine o_yes rfl rfl rfl ?_ | refine o_no rfl rfl rfl (by decide) ?_ | refine o_no' rfl rfl rfl ?_ | refine a_condT rfl ?_ | refine a_condF rfl ?_ | refine d_no rfl rfl rfl (by decide) ?_ | refine d_no' rfl rfl rfl ?_ | (refine wq2 (fun hb => ?_) (fun hb => ?_) <;> (simp only [hb]; try simp only [hbs, ne_eq] at hb; try (exfalso; first | omega | exact hb trivial))) | fail)
    refine rq rfl ?_
    exact fnq
  rw [if_neg c1]
  have c1 : oe = 0 := by omega
  by_cases c2 : 0 < od
  · rw [if_pos c2]
    simp only [TkW.avR, List.map_nil, List.map_cons, Jb.av, Wk.av, Al.av, AlO.avR] at h2 h4 ⊢
    refine PC.mk (ac_body tab_ok Tryz.func19 rfl (by kernel_rfl) rfl ?_); intro w0 M μ0; simp only [Tryz.ntmps19, List.length_cons, List.length_nil, Nat.reduceAdd, Nat.reduceSub, numb]
    repeat' (first | ((first | apply o_do | apply d_do | apply d_yes rfl rfl rfl); first | exact lsc (h1) | exact lsc (h2) | exact lsc (h3) | exact lsc (h4) | exact lsq) | refine a_seq ?_ | refine a_region ?_ | refine o_nil ?_ | refine a_block ?_ | refine a_ret ?_ | refine a_exit ?_ | refine a_skip ?_ | refine a_draw mixed ?_ | refine d_nil (by kernel_rfl) ?_ | refine o_yes rfl rfl rfl ?_ | refine o_no rfl rfl rfl (by decide) ?_ | refine o_no' rfl rfl rfl ?_ | refine a_condT rfl ?_ | refine a_condF rfl ?_ | refine d_no rfl rfl rfl (by decide) ?_ | refine d_no' rfl rfl rfl ?_ | (refine wq2 (fun hb => ?_) (fun hb => ?_) <;> (simp only [hb]; try simp only [hbs, ne_eq] at hb; try (exfalso; first | omega | exact hb trivial))) | fail)
    refine rq rfl ?_
    exact fnq
  rw [if_neg c2]
  cases op
  · simp only [if_true, TkW.avR, List.map_nil, List.map_cons, Jb.av, Wk.av, Al.av, AlO.avR] at h2 h4 ⊢
    refine PC.mk (ac_body tab_ok Tryz.func19 rfl (by kernel_rfl) rfl ?_); intro w0 M μ0; simp only [Tryz.ntmps19, List.length_cons, List.length_nil, Nat.reduceAdd, Nat.reduceSub, numb]
    repeat' (first | ((first | apply o_do | apply d_do | apply d_yes rfl rfl rfl); first | exact lsc (h1) | exact lsc (h2) | exact lsc (h3) | exact lsc (h4) | exact lsq) | refine a_seq ?_ | refine a_region ?_ | refine o_nil ?_ | refine a_block ?_ | refine a_ret ?_ | refine a_exit ?_ | refine a_skip ?_ | refine a_draw mixed ?_ | refine d_nil (by kernel_rfl) ?_ | refine o_yes rfl rfl rfl ?_ | refine o_no rfl rfl rfl (by decide) ?_ | refine o_no' rfl rfl rfl ?_ | refine a_condT rfl ?_ | refine a_condF rfl ?_ | refine d_no rfl rfl rfl (by decide) ?_ | refine d_no' rfl rfl rfl ?_ | (refine wq2 (fun hb => ?_) (fun hb => ?_) <;> (simp only [hb]; try simp only [hbs, ne_eq] at hb; try (exfalso; first | omega | exact hb trivial))) | fail)
    refine rq rfl ?_
    exact fnq
  simp only [Bool.true_eq_false, if_false]
  by_cases k1 : x.kind = 1
  · rw [if_pos k1]
    have hput := h10 k1
    by_cases b1 : putB j no x w.gs ≠ 0
    · rw [if_pos b1]
      simp only [wkFail, TkW.avR, wkZ, List.map_nil, Jb.av, Wk.av, Al.av, AlO.avR] at h2 h4 hput ⊢
      refine PC.mk (ac_body tab_ok Tryz.func19 rfl (by kernel_rfl) rfl ?_); intro w0 M μ0; simp only [Tryz.ntmps19, List.length_cons, List.length_nil, Nat.reduceAdd, Nat.reduceSub, numb]
      repeat' (first | ((first | apply o_do | apply d_do | apply d_yes rfl rfl rfl); first | exact lsc (h1) | exact lsc (h2) | exact lsc (h3) | exact lsc (h4) | exact lsc (hput) | exact lsq) | refine a_seq ?_ | refine a_region ?_ | refine o_nil ?_ | refine a_block ?_ | refine a_ret ?_ | refine a_exit ?_ | refine a_skip ?_ | refine a_draw mixed ?_ | refine d_nil (by kernel_rfl) ?_ | refine o_yes rfl rfl rfl ?_ | refine o_no rfl rfl rfl (by decide) ?_ | refine o_no' rfl rfl rfl ?_ | refine a_condT rfl ?_ | refine a_condF rfl ?_ | refine d_no rfl rfl rfl (by decide) ?_ | refine d_no' rfl rfl rfl ?_ | (refine wq2 (fun hb => ?_) (fun hb => ?_) <;> (simp only [hb]; try simp only [hbs, ne_eq] at hb; try (exfalso; first | omega | exact hb trivial))) | fail)
      refine rq rfl ?_
      exact fnq
    · rw [if_neg b1]
      have b1 : putB j no x w.gs = 0 := by omega
      have h5 := r_Set w.mks input 0 g3 g4
      have hlen := mkSet_len w.mks input 0
      have h6 := r_Tell (mkSet w.mks input 0).m (by omega) (by omega)
      have h7 := fun tm tt => r_later j ⟨putM j no x w.gs, (mkSet w.mks input 0).m, oa, w.told⟩ tm tt (by simp [putM]; exact hgl) (putM_ok g2)
      unfold wkGo
      generalize mkSet w.mks input 0 = S at *
      obtain ⟨sm, se⟩ := S
      dsimp only at *
      generalize mkTell sm = T at *
      obtain ⟨tm, tt, ti⟩ := T
      have h7 := h7 tm tt
      generalize putM j no x w.gs = M at *
      generalize putB j no x w.gs = B at *
      cases ti
      all_goals
        simp only [if_true, Bool.false_eq_true, if_false, TkW.avR, List.map_nil, Jb.av, Wk.av, Mk.av, Al.av, AlO.avR, MkE.av, MkT.av] at h2 h4 h5 h6 h7 hput ⊢
        refine PC.mk (ac_body tab_ok Tryz.func19 rfl (by kernel_rfl) rfl ?_); intro w0 M μ0; simp only [Tryz.ntmps19, List.length_cons, List.length_nil, Nat.reduceAdd, Nat.reduceSub, numb]
        repeat' (first | ((first | apply o_do | apply d_do | apply d_yes rfl rfl rfl); first | exact lsc (h1) | exact lsc (h2) | exact lsc (h3) | exact lsc (h4) | exact lsc (hput) | exact lsc (h5) | exact lsc (h6) | exact lsc (h7) | exact lsq) | refine a_seq ?_ | refine a_region ?_ | refine o_nil ?_ | refine a_block ?_ | refine a_ret ?_ | refine a_exit ?_ | refine a_skip ?_ | refine a_draw mixed ?_ | refine d_nil (by kernel_rfl) ?_ | refine o_yes rfl rfl rfl ?_ | refine o_no rfl rfl rfl (by decide) ?_ | refine o_no' rfl rfl rfl ?_ | refine a_condT rfl ?_ | refine a_condF rfl ?_ | refine d_no rfl rfl rfl (by decide) ?_ | refine d_no' rfl rfl rfl ?_ | (refine wq2 (fun hb => ?_) (fun hb => ?_) <;> (simp only [hb]; try simp only [hbs, ne_eq] at hb; try (exfalso; first | omega | exact hb trivial))) | fail)
        refine rq rfl ?_
        exact fnq
  rw [if_neg k1]
  by_cases k2 : x.kind = 2
  · rw [if_pos k2]
    have h5 := r_Set w.mks input x.mark g3 g4
    have hlen := mkSet_len w.mks input x.mark
    have h6 := r_Tell (mkSet w.mks input x.mark).m (by omega) (by omega)
    have h7 := fun tm tt => r_later j ⟨w.gs, (mkSet w.mks input x.mark).m, oa, w.told⟩ tm tt hgl g2
    unfold wkGo
    generalize mkSet w.mks input x.mark = S at *
    obtain ⟨sm, se⟩ := S
    dsimp only at *
    generalize mkTell sm = T at *
    obtain ⟨tm, tt, ti⟩ := T
    have h7 := h7 tm tt
    cases ti
    all_goals
      simp only [if_true, Bool.false_eq_true, if_false, TkW.avR, List.map_nil, Jb.av, Wk.av, Mk.av, Al.av, AlO.avR, MkE.av, MkT.av] at h2 h4 h5 h6 h7 ⊢
      refine PC.mk (ac_body tab_ok Tryz.func19 rfl (by kernel_rfl) rfl ?_); intro w0 M μ0; simp only [Tryz.ntmps19, List.length_cons, List.length_nil, Nat.reduceAdd, Nat.reduceSub, numb]
      repeat' (first | ((first | apply o_do | apply d_do | apply d_yes rfl rfl rfl); first | exact lsc (h1) | exact lsc (h2) | exact lsc (h3) | exact lsc (h4) | exact lsc (h5) | exact lsc (h6) | exact lsc (h7) | exact lsq) | refine a_seq ?_ | refine a_region ?_ | refine o_nil ?_ | refine a_block ?_ | refine a_ret ?_ | refine a_exit ?_ | refine a_skip ?_ | refine a_draw mixed ?_ | refine d_nil (by kernel_rfl) ?_ | refine o_yes rfl rfl rfl ?_ | refine o_no rfl rfl rfl (by decide) ?_ | refine o_no' rfl rfl rfl ?_ | refine a_condT rfl ?_ | refine a_condF rfl ?_ | refine d_no rfl rfl rfl (by decide) ?_ | refine d_no' rfl rfl rfl ?_ | (refine wq2 (fun hb => ?_) (fun hb => ?_) <;> (simp only [hb]; try simp only [hbs, ne_eq] at hb; try (exfalso; first | omega | exact hb trivial))) | fail)
      refine rq rfl ?_
      exact fnq
  rw [if_neg k2]
  by_cases k3 : x.kind = 3
  · rw [if_pos k3]
    have h5 := r_Idle w.mks input g3 g4
    have hlen := mkIdle_len w.mks input
    have h6 := r_Tell (mkIdle w.mks input).m (by omega) (by omega)
    have h7 := fun tm tt => r_later j ⟨w.gs, (mkIdle w.mks input).m, oa, w.told⟩ tm tt hgl g2
    unfold wkGo
    generalize mkIdle w.mks input = S at *
    obtain ⟨sm, se⟩ := S
    dsimp only at *
    generalize mkTell sm = T at *
    obtain ⟨tm, tt, ti⟩ := T
    have h7 := h7 tm tt
    cases ti
    all_goals
      simp only [if_true, Bool.false_eq_true, if_false, TkW.avR, List.map_nil, Jb.av, Wk.av, Mk.av, Al.av, AlO.avR, MkE.av, MkT.av] at h2 h4 h5 h6 h7 ⊢
      refine PC.mk (ac_body tab_ok Tryz.func19 rfl (by kernel_rfl) rfl ?_); intro w0 M μ0; simp only [Tryz.ntmps19, List.length_cons, List.length_nil, Nat.reduceAdd, Nat.reduceSub, numb]
      repeat' (first | ((first | apply o_do | apply d_do | apply d_yes rfl rfl rfl); first | exact lsc (h1) | exact lsc (h2) | exact lsc (h3) | exact lsc (h4) | exact lsc (h5) | exact lsc (h6) | exact lsc (h7) | exact lsq) | refine a_seq ?_ | refine a_region ?_ | refine o_nil ?_ | refine a_block ?_ | refine a_ret ?_ | refine a_exit ?_ | refine a_skip ?_ | refine a_draw mixed ?_ | refine d_nil (by kernel_rfl) ?_ | refine o_yes rfl rfl rfl ?_ | refine o_no rfl rfl rfl (by decide) ?_ | refine o_no' rfl rfl rfl ?_ | refine a_condT rfl ?_ | refine a_condF rfl ?_ | refine d_no rfl rfl rfl (by decide) ?_ | refine d_no' rfl rfl rfl ?_ | (refine wq2 (fun hb => ?_) (fun hb => ?_) <;> (simp only [hb]; try simp only [hbs, ne_eq] at hb; try (exfalso; first | omega | exact hb trivial))) | fail)
      refine rq rfl ?_
      exact fnq
  rw [if_neg k3]
  have h6 := r_Tell w.mks g3 g4
  have h7 := fun tm tt => r_later j ⟨w.gs, w.mks, oa, w.told⟩ tm tt hgl g2
  unfold wkGo
  generalize mkTell w.mks = T at *
  obtain ⟨tm, tt, ti⟩ := T
  have h7 := h7 tm tt
  cases ti
  all_goals
    simp only [if_true, Bool.false_eq_true, if_false, TkW.avR, List.map_nil, Jb.av, Wk.av, Mk.av, Al.av, AlO.avR, MkE.av, MkT.av] at h2 h4 h6 h7 ⊢
    refine PC.mk (ac_body tab_ok Tryz.func19 rfl (by kernel_rfl) rfl ?_); intro w0 M μ0; simp only [Tryz.ntmps19, List.length_cons, List.length_nil, Nat.reduceAdd, Nat.reduceSub, numb]
    repeat' (first | ((first | apply o_do | apply d_do | apply d_yes rfl rfl rfl); first | exact lsc (h1) | exact lsc (h2) | exact lsc (h3) | exact lsc (h4) | exact lsc (h6) | exact lsc (h7) | exact lsq) | refine a_seq ?_ | refine a_region ?_ | refine o_nil ?_ | refine a_block ?_ | refine a_ret ?_ | refine a_exit ?_ | refine a_skip ?_ | refine a_draw mixed ?_ | refine d_nil (by kernel_rfl) ?_ | refine o_yes rfl rfl rfl ?_ | refine o_no rfl rfl rfl (by decide) ?_ | refine o_no' rfl rfl rfl ?_ | refine a_condT rfl ?_ | refine a_condF rfl ?_ | refine d_no rfl rfl rfl (by decide) ?_ | refine d_no' rfl rfl rfl ?_ | (refine wq2 (fun hb => ?_) (fun hb => ?_) <;> (simp only [hb]; try simp only [hbs, ne_eq] at hb; try (exfalso; first | omega | exact hb trivial))) | fail)
    refine rq rfl ?_
    exact fnq
end Go.Proofs.YtagfjnjpgphnjaaGreat
namespace Go.Proofs.YtagfjnjpgphnjaaGreat
open Go.RowKit
set_option linter.unusedSimpArgs false
set_option linter.unusedVariables false
/-! what is small -/
def accG (l : List Gp) : Int := l.foldl (fun n g => IntKind.i64.wrap (n + (g.ps.length : Int))) 0
theorem accG_snoc (l : List Gp) (g : Gp) : accG (l ++ [g]) = IntKind.i64.wrap (accG l + (g.ps.length : Int)) := by
  unfold accG; rw [List.foldl_append]; rfl
def accOK (gs : List Gp) (q : Nat) : Bool := decide (accG (gs.take (q + 1)) ≤ 300)
def smG (gs : List Gp) : Bool := (List.range gs.length).all (accOK gs)
def smH (held : List (List It)) : Bool := held.all fun l => decide (l.length ≤ 40)
def smallW (k : Wk) : Bool := smG k.gs && (smH k.al.held && (decide (k.gs.length ≤ 50) && (decide (k.al.held.length ≤ 20) && (decide (k.mks.ins.length ≤ 50) && decide (k.mks.hs.length ≤ 50)))))
set_option maxHeartbeats 4000000 in
theorem w_small (k : Wk) (hk : WkOk k) : PC Tryz.prog 17 [.agg k.av] (.v (.bool (smallW k))) := by
  obtain ⟨k1, k2, k3, k4, k5, k6, k7⟩ := hk
  obtain ⟨gs, ⟨ins, hs, out⟩, ⟨n, got, held⟩, told⟩ := k
  dsimp only at k1 k2 k3 k4 k5 k6 k7
  have n1 : (ins.map inAvM).length = ins.length := List.length_map _
  have n2 : (hs.map hoAv).length = hs.length := List.length_map _
  have n3 : (gs.map Gp.av).length = gs.length := List.length_map _
  have n4 : (held.map heAv).length = held.length := List.length_map _
  unfold smallW
  simp only [Wk.av]
  refine PC.mk (ac_body tab_ok Tryz.func17 rfl (by kernel_rfl) rfl ?_); intro w0 M μ0; simp only [Tryz.ntmps17, List.length_cons, List.length_nil, Nat.reduceAdd, Nat.reduceSub, numb]
  repeat' (first | ((first | apply o_do | apply d_do | apply d_yes rfl rfl rfl); exact lsq) | refine a_seq ?_ | refine a_region ?_ | refine o_nil ?_ | refine a_block ?_ | refine a_ret ?_ | refine a_exit ?_ | refine a_skip ?_ | refine a_draw mixed ?_ | refine d_nil (by kernel_rfl) ?_ | refine o_yes rfl rfl rfl ?_ | refine o_no rfl rfl rfl (by decide) ?_ | refine o_no' rfl rfl rfl ?_ | refine a_condT rfl ?_ | refine a_condF rfl ?_ | refine d_no rfl rfl rfl (by decide) ?_ | refine d_no' rfl rfl rfl ?_ | (refine wq2 (fun hb => ?_) (fun hb => ?_) <;> (simp only [hb]; try simp only [hbs, ne_eq] at hb; try (exfalso; first | omega | exact hb trivial))) | fail)
  refine a_loop (X := {q : Nat // q ≤ gs.length ∧ (List.range q).all (accOK gs) = true}) (fun x => ⟨[(1, .ref 0 0), (3, .v (.int .i64 (accG (gs.take x.1)))), (9, .sl 3 (gs.map Gp.av)), (10, .v (.int .i64 gs.length)), (11, .v (.int .i64 x.1))], [(0, .box 42 [.sl 3 (gs.map Gp.av), .sl 2 (ins.map inAvM), .sl 2 (hs.map hoAv), .v (.int .i64 out), .v (.int .i64 n), .sl 1 (got.map boAv), .sl 1 (held.map heAv), .v (.int .i64 told)])]⟩) (fun x => gs.length - x.1) ⟨0, Nat.zero_le _, rfl⟩ ?_ ?_
  · exact wkS
  rintro ⟨q, hq, hok⟩
  dsimp only
  by_cases hlt : q < gs.length
  · have hel : (gs.map Gp.av)[q]? = some (Gp.av gs[q]) := by simp [hlt]
    have hsn := take_snoc gs q hlt
    have hac : accG (gs.take (q + 1)) = IntKind.i64.wrap (accG (gs.take q) + (gs[q].ps.length : Int)) := by rw [hsn, accG_snoc]
    have hbad : ¬ accG (gs.take (q + 1)) ≤ 300 → smG gs = false := fun h => rall_fail hlt (by simp only [accOK, decide_eq_false_iff_not]; exact h)
    have hgo : accG (gs.take (q + 1)) ≤ 300 → (List.range (q + 1)).all (accOK gs) = true := fun h => by rw [rall_snoc, hok]; simp only [accOK, decide_eq_true h]; rfl
    have hlp := k2 _ (List.getElem_mem hlt)
    obtain ⟨A1, hA1⟩ : ∃ A1, A1 = accG (gs.take (q + 1)) := ⟨_, rfl⟩
    rw [← hA1] at hac hbad hgo
    generalize accG (gs.take q) = A0 at *
    generalize gs[q] = x at *
    obtain ⟨no, mark, ps⟩ := x
    dsimp only at *
    have n5 : (ps.map Pn.av).length = ps.length := List.length_map _
    rw [← n5] at hac
    by_cases hc : A1 ≤ 300
    · have hg1 := hgo hc
      have hc2 : ¬ 300 < IntKind.i64.wrap (A0 + ((ps.map Pn.av).length : Int)) := by rw [← hac]; omega
      repeat' (first | ((first | apply o_do | apply d_do | apply d_yes rfl rfl rfl); first | exact ls_indexAddr_sl tab_ok rfl rfl rfl rfl (by assumption) rfl | exact lsq) | refine a_seq ?_ | refine a_region ?_ | refine o_nil ?_ | refine a_block ?_ | refine a_ret ?_ | refine a_exit ?_ | refine a_skip ?_ | refine a_draw mixed ?_ | refine d_nil (by kernel_rfl) ?_ | refine o_yes rfl rfl rfl ?_ | refine o_no rfl rfl rfl (by decide) ?_ | refine o_no' rfl rfl rfl ?_ | refine a_condT rfl ?_ | refine a_condF rfl ?_ | refine d_no rfl rfl rfl (by decide) ?_ | refine d_no' rfl rfl rfl ?_ | (refine wq2 (fun hb => ?_) (fun hb => ?_) <;> (simp only [hb]; try simp only [hbs, ne_eq] at hb; try (exfalso; first | omega | exact hb trivial))) | fail)
      refine ⟨⟨q + 1, by omega, hg1⟩, by dsimp only; omega, ?_⟩
      refine ⟨by repeat' (first | exact trivial | exact FinA.one (FinB.cell (FinC.same rfl)) | exact FinA.one (FinB.cell FinC.nil) | exact FinA.bound rfl | exact FinA.one (FinB.cell (FinC.own rfl rfl rfl rfl)) | exact FinA.one (FinB.cell (FinC.v (by first | rfl | ((first | (rw [← hA1, hac]; done) | (simp only [← hA1, hac]; done) | simp))))) | exact FinA.one (FinB.cell (FinC.ow rfl (by first | rfl | ((first | (rw [← hA1, hac]; done) | (simp only [← hA1, hac]; done) | simp))))) | exact FinA.one (FinB.agg' rfl rfl) | refine ⟨⟨_, rfl, ?_⟩, ?_⟩), by repeat' (first | exact trivial | refine ⟨⟨_, rfl, by first | rfl | ((first | (rw [← hA1, hac]; done) | (simp only [← hA1, hac]; done) | simp); done) | (simp [renO, *]; done)⟩, by first | rfl | assumption, ?_⟩), rfl⟩
    · rw [hbad hc]
      have hc2 : 300 < IntKind.i64.wrap (A0 + ((ps.map Pn.av).length : Int)) := by rw [← hac]; omega
      repeat' (first | ((first | apply o_do | apply d_do | apply d_yes rfl rfl rfl); first | exact ls_indexAddr_sl tab_ok rfl rfl rfl rfl (by assumption) rfl | exact lsq) | refine a_seq ?_ | refine a_region ?_ | refine o_nil ?_ | refine a_block ?_ | refine a_ret ?_ | refine a_exit ?_ | refine a_skip ?_ | refine a_draw mixed ?_ | refine d_nil (by kernel_rfl) ?_ | refine o_yes rfl rfl rfl ?_ | refine o_no rfl rfl rfl (by decide) ?_ | refine o_no' rfl rfl rfl ?_ | refine a_condT rfl ?_ | refine a_condF rfl ?_ | refine d_no rfl rfl rfl (by decide) ?_ | refine d_no' rfl rfl rfl ?_ | (refine wq2 (fun hb => ?_) (fun hb => ?_) <;> (simp only [hb]; try simp only [hbs, ne_eq] at hb; try (exfalso; first | omega | exact hb trivial))) | fail)
      all_goals refine rq rfl ?_
      all_goals exact fnq
  · obtain rfl : q = gs.length := by omega
    have hG : smG gs = true := hok
    rw [hG]
    repeat' (first | ((first | apply o_do | apply d_do | apply d_yes rfl rfl rfl); exact lsq) | refine a_seq ?_ | refine a_region ?_ | refine o_nil ?_ | refine a_block ?_ | refine a_ret ?_ | refine a_exit ?_ | refine a_skip ?_ | refine a_draw mixed ?_ | refine d_nil (by kernel_rfl) ?_ | refine o_yes rfl rfl rfl ?_ | refine o_no rfl rfl rfl (by decide) ?_ | refine o_no' rfl rfl rfl ?_ | refine a_condT rfl ?_ | refine a_condF rfl ?_ | refine d_no rfl rfl rfl (by decide) ?_ | refine d_no' rfl rfl rfl ?_ | (refine wq2 (fun hb => ?_) (fun hb => ?_) <;> (simp only [hb]; try simp only [hbs, ne_eq] at hb; try (exfalso; first | omega | exact hb trivial))) | fail)
    refine a_loop (X := {q : Nat // q ≤ held.length ∧ (held.take q).all (fun l => decide (l.length ≤ 40)) = true}) (fun x => ⟨[(1, .ref 0 0), (25, .sl 1 (held.map heAv)), (26, .v (.int .i64 held.length)), (27, .v (.int .i64 x.1))], [(0, .box 42 [.sl 3 (gs.map Gp.av), .sl 2 (ins.map inAvM), .sl 2 (hs.map hoAv), .v (.int .i64 out), .v (.int .i64 n), .sl 1 (got.map boAv), .sl 1 (held.map heAv), .v (.int .i64 told)])]⟩) (fun x => held.length - x.1) ⟨0, Nat.zero_le _, rfl⟩ ?_ ?_
    · exact wkS
    rintro ⟨p, hp, hal⟩
    dsimp only
    by_cases hpl : p < held.length
    · have hel : (held.map heAv)[p]? = some (heAv held[p]) := by simp [hpl]
      have hsn := take_snoc held p hpl
      have hlp := k7 _ (List.getElem_mem hpl)
      have hbad : ¬ held[p].length ≤ 40 → smH held = false := fun h => by
        unfold smH
        rw [List.all_eq_false]
        exact ⟨held[p], List.getElem_mem hpl, by simp; omega⟩
      have hgo : held[p].length ≤ 40 → (held.take (p + 1)).all (fun l => decide (l.length ≤ 40)) = true := fun h => by rw [hsn, List.all_append, hal]; simp [h]
      generalize held[p] = l at *
      have n5 : (l.map It.av).length = l.length := List.length_map _
      by_cases hc : l.length ≤ 40
      · have hg1 := hgo hc
        repeat' (first | ((first | apply o_do | apply d_do | apply d_yes rfl rfl rfl); first | exact ls_indexAddr_sl tab_ok rfl rfl rfl rfl (by assumption) rfl | exact lsq) | refine a_seq ?_ | refine a_region ?_ | refine o_nil ?_ | refine a_block ?_ | refine a_ret ?_ | refine a_exit ?_ | refine a_skip ?_ | refine a_draw mixed ?_ | refine d_nil (by kernel_rfl) ?_ | refine o_yes rfl rfl rfl ?_ | refine o_no rfl rfl rfl (by decide) ?_ | refine o_no' rfl rfl rfl ?_ | refine a_condT rfl ?_ | refine a_condF rfl ?_ | refine d_no rfl rfl rfl (by decide) ?_ | refine d_no' rfl rfl rfl ?_ | (refine wq2 (fun hb => ?_) (fun hb => ?_) <;> (simp only [hb]; try simp only [hbs, ne_eq] at hb; try (exfalso; first | omega | exact hb trivial))) | fail)
        refine ⟨⟨p + 1, by omega, hg1⟩, by dsimp only; omega, ?_⟩
        exact wkS
      · rw [hbad hc]
        repeat' (first | ((first | apply o_do | apply d_do | apply d_yes rfl rfl rfl); first | exact ls_indexAddr_sl tab_ok rfl rfl rfl rfl (by assumption) rfl | exact lsq) | refine a_seq ?_ | refine a_region ?_ | refine o_nil ?_ | refine a_block ?_ | refine a_ret ?_ | refine a_exit ?_ | refine a_skip ?_ | refine a_draw mixed ?_ | refine d_nil (by kernel_rfl) ?_ | refine o_yes rfl rfl rfl ?_ | refine o_no rfl rfl rfl (by decide) ?_ | refine o_no' rfl rfl rfl ?_ | refine a_condT rfl ?_ | refine a_condF rfl ?_ | refine d_no rfl rfl rfl (by decide) ?_ | refine d_no' rfl rfl rfl ?_ | (refine wq2 (fun hb => ?_) (fun hb => ?_) <;> (simp only [hb]; try simp only [hbs, ne_eq] at hb; try (exfalso; first | omega | exact hb trivial))) | fail)
        all_goals refine rq rfl ?_
        all_goals exact fnq
    · obtain rfl : p = held.length := by omega
      rw [List.take_length] at hal
      rw [show smH held = true from hal]
      repeat' (first | ((first | apply o_do | apply d_do | apply d_yes rfl rfl rfl); exact lsq) | refine a_seq ?_ | refine a_region ?_ | refine o_nil ?_ | refine a_block ?_ | refine a_ret ?_ | refine a_exit ?_ | refine a_skip ?_ | refine a_draw mixed ?_ | refine d_nil (by kernel_rfl) ?_ | refine o_yes rfl rfl rfl ?_ | refine o_no rfl rfl rfl (by decide) ?_ | refine o_no' rfl rfl rfl ?_ | refine a_condT rfl ?_ | refine a_condF rfl ?_ | refine d_no rfl rfl rfl (by decide) ?_ | refine d_no' rfl rfl rfl ?_ | (refine wq2 (fun hb => ?_) (fun hb => ?_) <;> (simp only [hb]; try simp only [hbs, ne_eq] at hb; try (exfalso; first | omega | exact hb trivial))) | fail)
      all_goals refine rq rfl ?_
      all_goals (first | refine FinA.tup ?_ | refine FinA.one ?_); repeat' (first | exact FinBs.nil | exact FinCs.nil | refine FinBs.cons ?_ ?_ | refine FinCs.cons ?_ ?_ | refine FinB.cell (FinC.v ?_) | refine FinB.cell (FinC.own rfl rfl rfl ?_) | exact FinB.cell FinC.nil | refine FinB.cell (FinC.sl ?_) | exact FinB.agg' rfl rfl | exact FinB.cell (FinC.same rfl) | refine FinB.agg ?_ | refine FinC.v ?_ | refine FinC.own rfl rfl rfl ?_ | exact FinC.nil | refine FinC.sl ?_ | exact FinC.same rfl); all_goals try rfl
      all_goals first | (simp [*]; done) | (refine congrArg Value.bool ?_; rw [Bool.eq_iff_iff]; simp only [Bool.and_eq_true, decide_eq_true_eq, Bool.false_eq_true, true_and, false_and, and_true, false_iff, not_and]; omega)
theorem wkZ_ok : WkOk wkZ := ⟨Nat.zero_le _, nofun, Nat.zero_le _, Nat.zero_le _, Nat.zero_le _, Nat.zero_le _, nofun⟩
theorem w_alive : PC Tryz.prog 20 [] (.v (.bool true)) := by
  have h1 := w_New 1 1 1 2 0 0 0 0 1 [] (Nat.zero_le _) nofun
  have e : newW (jobOK 1 1 1 2 0 0 0 0) 1 [] = ⟨⟨[], ⟨[(0, false)], [], 0⟩, ⟨0, [false], [[]]⟩, 0⟩, 0⟩ := by kernel_rfl
  rw [e] at h1
  have h2 := w_Right ⟨[], ⟨[(0, false)], [], 0⟩, ⟨0, [false], [[]]⟩, 0⟩ ⟨by simp, by simp, by simp, by simp, by simp, by simp, by simp⟩
  have e2 : wkR ⟨[], ⟨[(0, false)], [], 0⟩, ⟨0, [false], [[]]⟩, 0⟩ = true := by decide +kernel
  rw [e2] at h2
  simp only [WkN.av, Wk.av, List.map_nil, List.map_cons] at h1 h2
  refine PC.mk (ac_body tab_ok Tryz.func20 rfl (by kernel_rfl) rfl ?_); intro w0 M μ0; simp only [Tryz.ntmps20, List.length_cons, List.length_nil, Nat.reduceAdd, Nat.reduceSub, numb]
  repeat' (first | ((first | apply o_do | apply d_do | apply d_yes rfl rfl rfl); first | exact lsc (h1) | exact lsc (h2) | exact lsq) | refine a_seq ?_ | refine a_region ?_ | refine o_nil ?_ | refine a_block ?_ | refine a_ret ?_ | refine a_exit ?_ | refine a_skip ?_ | refine a_draw mixed ?_ | refine d_nil (by kernel_rfl) ?_ | refine o_yes rfl rfl rfl ?_ | refine o_no rfl rfl rfl (by decide) ?_ | refine o_no' rfl rfl rfl ?_ | refine a_condT rfl ?_ | refine a_condF rfl ?_ | refine d_no rfl rfl rfl (by decide) ?_ | refine d_no' rfl rfl rfl ?_ | (refine wq2 (fun hb => ?_) (fun hb => ?_) <;> (simp only [hb]; try simp only [hbs, ne_eq] at hb; try (exfalso; first | omega | exact hb trivial))) | fail)
  all_goals refine rq rfl ?_
  all_goals exact fnq
end Go.Proofs.YtagfjnjpgphnjaaGreat
namespace Go.Proofs.YtagfjnjpgphnjaaGreat
open Go.RowKit
set_option linter.unusedSimpArgs false
set_option linter.unusedVariables false

def hStep (h : Nat) (b : UInt8) : Nat := ((h ^^^ b.toNat) * 16777619) % 4294967296
def hBase : Nat := 2166136261
def hashN (l : List UInt8) : Nat := l.foldl hStep hBase
theorem hashN_nil : hashN [] = hBase := rfl
theorem hashN_snoc (l : List UInt8) (b : UInt8) : hashN (l ++ [b]) = hStep (hashN l) b := by unfold hashN; rw [List.foldl_append, List.foldl_cons, List.foldl_nil]
theorem hStep_lt (h : Nat) (b : UInt8) : hStep h b < 4294967296 := Nat.mod_lt _ (by omega)
theorem hashN_lt (l : List UInt8) : hashN l < 4294967296 := by
  rcases List.eq_nil_or_concat l with rfl | ⟨m, x, rfl⟩
  · rw [hashN_nil]; unfold hBase; omega
  · rw [List.concat_eq_append, hashN_snoc]; exact hStep_lt _ _

/-- the group of a text -/
def grpV (l : List UInt8) (g : Int) : Int := if g < 1 then 0 else (hashN l : Int) % g
theorem grpV_low {l : List UInt8} {g : Int} (h : g < 1) : grpV l g = 0 := if_pos h
theorem grpV_high {l : List UInt8} {g : Int} (h : ¬ g < 1) : grpV l g = (hashN l : Int) % g := if_neg h

end Go.Proofs.YtagfjnjpgphnjaaGreat
namespace Go.Proofs.YtagfjnjpgphnjaaGreat
open Go.RowKit
set_option linter.unusedSimpArgs false
set_option linter.unusedVariables false
attribute [local go_sem ↓] Go.wp_at_zero Go.wp_at_succ

theorem bytes_snoc (s : ByteArray) (k : Nat) (h : k < s.size) : s.data.toList.take (k + 1) = s.data.toList.take k ++ [s[k]] := by
  rw [List.take_succ_eq_append_getElem (by simpa using h)]; rfl
theorem h32 (q : Nat) (b : UInt8) (hq : q < 4294967296) : bits .xor .u32 (q : Int) ((b.toNat : Int) % 4294967296) * 16777619 % 4294967296 = ((hStep q b : Nat) : Int) := by
  have hb : b.toNat < 256 := b.toNat_lt
  rw [show ((b.toNat : Int) % 4294967296) = (b.toNat : Int) from by omega, u32_xor_nat q b.toNat hq (by omega)]
  unfold hStep
  omega

theorem h64 (q : Nat) (b : UInt8) (hq : q < 4294967296) : (IntKind.u64.wrap (bits .xor .u64 (q : Int) (IntKind.u64.wrap (b.toNat : Int)) * 16777619)).tmod 4294967296 = ((hStep q b : Nat) : Int) := by
  have hb : b.toNat < 256 := b.toNat_lt
  have hx : q ^^^ b.toNat < 2 ^ 32 := Nat.xor_lt_two_pow (by omega) (by omega)
  rw [show IntKind.u64.wrap (b.toNat : Int) = (b.toNat : Int) from by rw [IntKind.wrap_u64]; omega, u64_xor_nat q b.toNat (by omega) (by omega)]
  rw [show IntKind.u64.wrap (((q ^^^ b.toNat : Nat) : Int) * 16777619) = ((q ^^^ b.toNat : Nat) : Int) * 16777619 from by rw [IntKind.wrap_u64]; omega]
  rw [Int.tmod_eq_emod_of_nonneg (by omega)]
  unfold hStep
  omega

theorem ring_Hash (s : ByteArray) (w : World) (hs : s.size ≤ 1000000) :
    Calls Tryz.prog 183 #[.string s] w fun e w' => ∃ q : Nat, Hid (q = hashN s.data.toList) ∧ e = .returned (.int .u32 q) ∧ w = w' := by
  have hs' : (s.size : Int) ≤ 1000000 := by omega
  go_enter Tryz.func183, Tryz.ntmps183
  go_wp2
  go_loop [3, 7] (fun h i => ∃ (k q : Nat), k ≤ s.size ∧ i = .int .i64 k ∧ h = .int .u32 q ∧ Hid (q = hashN (s.data.toList.take k)) ∧ q < 4294967296) (fun _ i => s.size - (intOf i).toNat)
  case atStart => exact ⟨0, 2166136261, Nat.zero_le _, rfl, rfl, hide rfl, by omega⟩
  case round =>
    obtain ⟨k, q, hk, rfl, rfl, HQ, hq⟩ := hrel
    by_cases hlt : k < s.size
    · have hlt' : (k : Int) < s.size := by omega
      go_wp2
      go_round
      case rel =>
        refine ⟨k + 1, hStep q s[k], by omega, by go_num, ?_, hide ?_, hStep_lt _ _⟩
        · rw [h32 q s[k] hq]
        · rw [bytes_snoc s k hlt, hashN_snoc, ← HQ.out]
      case measure => simp [intOf]; omega
    · have hk' : k = s.size := by omega
      go_wp2
      go_ret
      refine ⟨q, ?_, rfl, rfl⟩
      subst hk'
      rw [List.take_of_length_le (by simp)] at HQ
      exact HQ

theorem ref11_Hash (s : ByteArray) (w : World) (hs : s.size ≤ 1000000) :
    Calls Tryz.prog 72 #[.string s] w fun e w' => ∃ q : Nat, Hid (q = hashN s.data.toList) ∧ e = .returned (.int .u32 q) ∧ w = w' := by
  have hs' : (s.size : Int) ≤ 1000000 := by omega
  go_enter Tryz.func72, Tryz.ntmps72
  go_wp2
  go_loop [3, 4] (fun h i => ∃ (k q : Nat), k ≤ s.size ∧ i = .int .i64 k ∧ h = .int .u64 q ∧ Hid (q = hashN (s.data.toList.take k)) ∧ q < 4294967296) (fun _ i => s.size - (intOf i).toNat)
  case atStart => exact ⟨0, 2166136261, Nat.zero_le _, rfl, rfl, hide rfl, by omega⟩
  case round =>
    obtain ⟨k, q, hk, rfl, rfl, HQ, hq⟩ := hrel
    by_cases hlt : k < s.size
    · have hlt' : (k : Int) < s.size := by omega
      go_wp2
      go_round
      case rel =>
        refine ⟨k + 1, hStep q s[k], by omega, by go_num, ?_, hide ?_, hStep_lt _ _⟩
        · rw [h64 q s[k] hq]
        · rw [bytes_snoc s k hlt, hashN_snoc, ← HQ.out]
      case measure => simp [intOf]; omega
    · have hk' : k = s.size := by omega
      have hq' : (q : Int) < 4294967296 := by omega
      go_wp2
      go_ret
      refine ⟨q, ?_, rfl, rfl⟩
      subst hk'
      rw [List.take_of_length_le (by simp)] at HQ
      exact HQ

theorem ring_Group (s : ByteArray) (g : Int) (w : World) (hs : s.size ≤ 1000000) (hg : -9223372036854775808 ≤ g ∧ g ≤ 9223372036854775807) :
    Calls Tryz.prog 148 #[.string s, .int .i64 g] w fun e w' => e = .returned (.int .i64 (grpV s.data.toList g)) ∧ w = w' := by
  by_cases h1 : g < 1
  · rw [grpV_low h1]
    go_enter Tryz.func148, Tryz.ntmps148
    go_wp2
    go_ret
    exact ⟨rfl, rfl⟩
  · rw [grpV_high h1]
    have h2 : 1 ≤ g := by omega
    have h3 := hg.2
    go_enter Tryz.func148, Tryz.ntmps148
    go_wp2_with fail
    refine (ring_Hash s _ hs).mono ?_
    rintro e w' ⟨q, HQ, rfl, rfl⟩
    have hq : (q : Int) < 4294967296 := by have := hashN_lt s.data.toList; have := HQ.out; omega
    have hq0 : 0 ≤ (q : Int) := by omega
    have z : (g == 0) = false := by simp; omega
    have hm0 : 0 ≤ (q : Int) % g := Int.emod_nonneg _ (by omega)
    have hm1 : (q : Int) % g < g := Int.emod_lt_of_pos _ (by omega)
    go_wp2
    go_ret
    refine ⟨?_, rfl⟩
    rw [HQ.out]; rfl

theorem ref11_Group (s : ByteArray) (g : Int) (w : World) (hs : s.size ≤ 1000000) (hg : -9223372036854775808 ≤ g ∧ g ≤ 9223372036854775807) :
    Calls Tryz.prog 34 #[.string s, .int .i64 g] w fun e w' => e = .returned (.int .i64 (grpV s.data.toList g)) ∧ w = w' := by
  by_cases h1 : g < 1
  · rw [grpV_low h1]
    go_enter Tryz.func34, Tryz.ntmps34
    go_wp2
    go_ret
    exact ⟨rfl, rfl⟩
  · rw [grpV_high h1]
    have h2 : 1 ≤ g := by omega
    have h3 := hg.2
    go_enter Tryz.func34, Tryz.ntmps34
    go_wp2_with fail
    refine (ref11_Hash s _ hs).mono ?_
    rintro e w' ⟨q, HQ, rfl, rfl⟩
    have hq : (q : Int) < 4294967296 := by have := hashN_lt s.data.toList; have := HQ.out; omega
    have hq0 : 0 ≤ (q : Int) := by omega
    have z : (g == 0) = false := by simp; omega
    have hm0 : 0 ≤ (q : Int) % g := Int.emod_nonneg _ (by omega)
    have hm1 : (q : Int) % g < g := Int.emod_lt_of_pos _ (by omega)
    go_wp2
    go_ret
    refine ⟨?_, rfl⟩
    rw [HQ.out]; rfl

end Go.Proofs.YtagfjnjpgphnjaaGreat
