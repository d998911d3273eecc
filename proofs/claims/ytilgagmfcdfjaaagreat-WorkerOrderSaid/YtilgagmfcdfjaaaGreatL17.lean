/-
  Workers, walked over abstract values: an item that is taken.
  Workers, walked over abstract values: an item that is taken, in all cases.
  Workers, walked over abstract values: an item that is taken, by the reference.
  Workers, walked over abstract values: the law of what can be made.
  Layer ring in plain Lean: a text's hash, moves between owners; no program in sight. No condition.
  Walks of layer ring (its part without the library) and of its reference.
  Workers, walked over abstract values: the law of an item that is taken.
  Workers: an item and all that waited for it. Plain.
-/
import Derived.RowKit
import Derived.Laws.BitsAllLaws
import Derived.Test.YtilgagmfcdfjaaaGreatRows
import Derived.Test.YtilgagmfcdfjaaaGreatL1
import Derived.Test.YtilgagmfcdfjaaaGreatL4
import Derived.Test.YtilgagmfcdfjaaaGreatL9
import Derived.Test.YtilgagmfcdfjaaaGreatL13
import Derived.Test.YtilgagmfcdfjaaaGreatL16
namespace Go.Proofs.YtilgagmfcdfjaaaGreat
open Go.RowKit
set_option linter.unusedSimpArgs false
set_option linter.unusedVariables false
/-- A nil slice in a variable that will be appended to, within a region. -/
theorem o_adoptB {P : Program} {Γ : Ctx} {Q : Exit → ASt → Prop} {s : ASt} {ops : Array Oper} {rest : List Oper} (b i k e size : Nat) {t : TypeId} {cs : List AV} (hb : find s.σ b = some (.box t cs)) (hv : cs[i]? = some (.v (.slice none 0 0))) (hk : find s.σ k = none) (h : AOps P Γ ops rest Q ⟨s.regs, (b, .box t (cs.set i (.own k 0))) :: (k, .row e size []) :: s.σ⟩) : AOps P Γ ops rest Q s := by
  refine ⟨fun hnd μ a w hr => h.out hnd (setμ μ k (.slice none 0 0)) a w ?_⟩
  have hn := hr.new (w' := w) (v := .slice none 0 0) (o := .row e size []) hk (Below.refl _ w) (by simp [blk]) (fun μ' A hμ hμk hA hst => ⟨[], by rw [hμk]; exact OwnS.nil, by simp [repLL]⟩)
  have hbk : k ≠ b := fun e1 => by subst e1; rw [hk] at hb; cases hb
  have hb' : find ((k, SObj.row e size []) :: s.σ) b = some (.box t cs) := by rw [find_cons, if_neg hbk]; exact hb
  obtain ⟨g, us, hg1, hg2, hg3⟩ := hn.store.obj b _ hb'
  have hs := store_rel (s := s.eff [] [(k, .row e size [])]) (o' := .box t (cs.set i (.own k 0))) (g := g) hn hb' (by rw [hg1]; rfl) rfl rfl rfl rfl (fun _ _ => rfl) ⟨rfl, List.length_set⟩ (fun A hst hA => by
    refine ⟨g, us, hg1, hg2, repC_set (repC_mono hst hg3) hv (fun _ => ?_)⟩
    simp only [rep]
    refine ⟨rfl, .inr ⟨e, size, [], ?_, Nat.le_refl _, fun _ => (setμ_same _ _ _).symm⟩⟩
    rw [find_cons, if_neg (Ne.symm hbk)]
    simp [ASt.eff, find_cons])
  exact hs
theorem y_of1 : PC Tryz.prog 72 [.v (.int .i64 1)] (.clo (.func 103) [] []) := by
  refine PC.mk (ac_body tab_ok Tryz.func72 rfl (by kernel_rfl) rfl ?_); intro w0 M μ0; simp only [Tryz.ntmps72, List.length_cons, List.length_nil, Nat.reduceAdd, Nat.reduceSub, numb]
  repeat' (first | ((first | apply o_do | apply d_do | apply d_yes rfl rfl rfl); exact lsq) | refine a_seq ?_ | refine a_region ?_ | refine o_nil ?_ | refine a_block ?_ | refine a_ret ?_ | refine a_exit ?_ | refine a_skip ?_ | refine a_draw mixed ?_ | refine d_nil (by kernel_rfl) ?_ | refine o_yes rfl rfl rfl ?_ | refine o_no rfl rfl rfl (by decide) ?_ | refine o_no' rfl rfl rfl ?_ | refine a_condT rfl ?_ | refine a_condF rfl ?_ | refine d_no rfl rfl rfl (by decide) ?_ | refine d_no' rfl rfl rfl ?_ | (refine wq2 (fun hb => ?_) (fun hb => ?_) <;> (simp only [hb]; try simp only [hbs, ne_eq] at hb; try (exfalso; first | omega | exact hb trivial))) | fail)
  refine rq rfl ?_
  (first | refine FinA.tup ?_ | refine FinA.clo ?_ ?_ | refine FinA.one ?_); repeat' (first | exact FinBs.nil | exact FinCs.nil | refine FinBs.cons ?_ ?_ | refine FinCs.cons ?_ ?_ | refine FinB.cell (FinC.v ?_) | refine FinB.cell (FinC.own rfl rfl rfl ?_) | exact FinB.cell (FinC.el rfl rfl rfl rfl) | exact FinB.cell FinC.nil | refine FinB.cell (FinC.sl ?_) | exact FinB.agg' rfl rfl | exact FinB.cell (FinC.same rfl) | refine FinB.agg ?_ | refine FinC.v ?_ | refine FinC.own rfl rfl rfl ?_ | exact FinC.nil | refine FinC.sl ?_ | exact FinC.same rfl); all_goals try rfl
theorem y_of2 : PC Tryz.prog 72 [.v (.int .i64 2)] (.clo (.func 104) [] []) := by
  refine PC.mk (ac_body tab_ok Tryz.func72 rfl (by kernel_rfl) rfl ?_); intro w0 M μ0; simp only [Tryz.ntmps72, List.length_cons, List.length_nil, Nat.reduceAdd, Nat.reduceSub, numb]
  repeat' (first | ((first | apply o_do | apply d_do | apply d_yes rfl rfl rfl); exact lsq) | refine a_seq ?_ | refine a_region ?_ | refine o_nil ?_ | refine a_block ?_ | refine a_ret ?_ | refine a_exit ?_ | refine a_skip ?_ | refine a_draw mixed ?_ | refine d_nil (by kernel_rfl) ?_ | refine o_yes rfl rfl rfl ?_ | refine o_no rfl rfl rfl (by decide) ?_ | refine o_no' rfl rfl rfl ?_ | refine a_condT rfl ?_ | refine a_condF rfl ?_ | refine d_no rfl rfl rfl (by decide) ?_ | refine d_no' rfl rfl rfl ?_ | (refine wq2 (fun hb => ?_) (fun hb => ?_) <;> (simp only [hb]; try simp only [hbs, ne_eq] at hb; try (exfalso; first | omega | exact hb trivial))) | fail)
  refine rq rfl ?_
  (first | refine FinA.tup ?_ | refine FinA.clo ?_ ?_ | refine FinA.one ?_); repeat' (first | exact FinBs.nil | exact FinCs.nil | refine FinBs.cons ?_ ?_ | refine FinCs.cons ?_ ?_ | refine FinB.cell (FinC.v ?_) | refine FinB.cell (FinC.own rfl rfl rfl ?_) | exact FinB.cell (FinC.el rfl rfl rfl rfl) | exact FinB.cell FinC.nil | refine FinB.cell (FinC.sl ?_) | exact FinB.agg' rfl rfl | exact FinB.cell (FinC.same rfl) | refine FinB.agg ?_ | refine FinC.v ?_ | refine FinC.own rfl rfl rfl ?_ | exact FinC.nil | refine FinC.sl ?_ | exact FinC.same rfl); all_goals try rfl
theorem y_of3 : PC Tryz.prog 72 [.v (.int .i64 3)] (.clo (.func 105) [] []) := by
  refine PC.mk (ac_body tab_ok Tryz.func72 rfl (by kernel_rfl) rfl ?_); intro w0 M μ0; simp only [Tryz.ntmps72, List.length_cons, List.length_nil, Nat.reduceAdd, Nat.reduceSub, numb]
  repeat' (first | ((first | apply o_do | apply d_do | apply d_yes rfl rfl rfl); exact lsq) | refine a_seq ?_ | refine a_region ?_ | refine o_nil ?_ | refine a_block ?_ | refine a_ret ?_ | refine a_exit ?_ | refine a_skip ?_ | refine a_draw mixed ?_ | refine d_nil (by kernel_rfl) ?_ | refine o_yes rfl rfl rfl ?_ | refine o_no rfl rfl rfl (by decide) ?_ | refine o_no' rfl rfl rfl ?_ | refine a_condT rfl ?_ | refine a_condF rfl ?_ | refine d_no rfl rfl rfl (by decide) ?_ | refine d_no' rfl rfl rfl ?_ | (refine wq2 (fun hb => ?_) (fun hb => ?_) <;> (simp only [hb]; try simp only [hbs, ne_eq] at hb; try (exfalso; first | omega | exact hb trivial))) | fail)
  refine rq rfl ?_
  (first | refine FinA.tup ?_ | refine FinA.clo ?_ ?_ | refine FinA.one ?_); repeat' (first | exact FinBs.nil | exact FinCs.nil | refine FinBs.cons ?_ ?_ | refine FinCs.cons ?_ ?_ | refine FinB.cell (FinC.v ?_) | refine FinB.cell (FinC.own rfl rfl rfl ?_) | exact FinB.cell (FinC.el rfl rfl rfl rfl) | exact FinB.cell FinC.nil | refine FinB.cell (FinC.sl ?_) | exact FinB.agg' rfl rfl | exact FinB.cell (FinC.same rfl) | refine FinB.agg ?_ | refine FinC.v ?_ | refine FinC.own rfl rfl rfl ?_ | exact FinC.nil | refine FinC.sl ?_ | exact FinC.same rfl); all_goals try rfl
theorem itR_kind {x : It} (h : itR x = true) : x.kind = 1 ∨ x.kind = 2 ∨ x.kind = 3 ∨ x.kind = 4 ∨ x.kind = 5 := by
  obtain ⟨kind, k, av, v, m, n, lo, hi, rk, rn, rv⟩ := x
  dsimp only
  simp only [itR] at h
  split at h
  · omega
  split at h
  · omega
  split at h
  · omega
  split at h
  · omega
  split at h
  · omega
  · simp at h
set_option maxRecDepth 10000 in
set_option maxHeartbeats 16000000 in
/-- what does not go on -/
theorem w_Stops (j : Jb) (no : Int) (w : Wk) (input : Int) (x : It) (hw : WkOk w)
    (hstop : jobOK j.g j.s j.d j.k j.fu j.li j.de j.id = false ∨ ((wkR w && itR x) = false ∨ x.kind = 5) ∨ (alOffer w.al input x).e ≠ 0 ∨ (alOffer w.al input x).pass = false) :
    PC Tryz.prog 44 [.agg j.av, .agg w.av, .v (.int .i64 input), .agg x.av] (wkTake (jobOK j.g j.s j.d j.k j.fu j.li j.de j.id) j no w input x).av := by
  have h1 := j_Right j.g j.s j.d j.k j.fu j.li j.de j.id
  have h2 := w_Right w hw
  have h3 := i_Right x
  have h4 := l_Offer w.al input x hw.got hw.held hw.its
  have f130 := y_fail 130
  have f1 := y_fail 1
  have hR : wkR w = true → w.gs.length ≤ 1000 := fun h => by
    simp only [wkR, Bool.and_eq_true] at h
    have := gsR_le h.1
    omega
  have hok := fun h => offer_ok (a := w.al) (i := input) (x := x) h
  unfold wkTake
  simp only [wkFail, TkW.av, wkZ, List.map_nil, Wk.av] at f130 f1
  cases e1 : jobOK j.g j.s j.d j.k j.fu j.li j.de j.id
  · rw [e1] at h1
    simp only [if_true, wkFail, TkW.av, wkZ, List.map_nil, Jb.av, Wk.av]
    refine PC.mk (ac_body tab_ok Tryz.func44 rfl (by kernel_rfl) rfl ?_); intro w0 M μ0; simp only [Tryz.ntmps44, List.length_cons, List.length_nil, Nat.reduceAdd, Nat.reduceSub, numb]
    repeat' (first | ((first | apply o_do | apply d_do | apply d_yes rfl rfl rfl); first | exact lsc (h1) | exact lsc (f130) | exact lsq) | refine a_seq ?_ | refine a_region ?_ | refine o_nil ?_ | refine a_block ?_ | refine a_ret ?_ | refine a_exit ?_ | refine a_skip ?_ | refine a_draw mixed ?_ | refine d_nil (by kernel_rfl) ?_ | refine o_yes rfl rfl rfl ?_ | refine o_no rfl rfl rfl (by decide) ?_ | refine o_no' rfl rfl rfl ?_ | refine a_condT rfl ?_ | refine a_condF rfl ?_ | refine d_no rfl rfl rfl (by decide) ?_ | refine d_no' rfl rfl rfl ?_ | (refine wq2 (fun hb => ?_) (fun hb => ?_) <;> (simp only [hb]; try simp only [hbs, ne_eq] at hb; try (exfalso; first | omega | exact hb trivial))) | fail)
    refine rq rfl ?_
    exact fnq
  rw [e1] at h1 hstop
  simp only [Bool.true_eq_false, if_false]
  by_cases e2 : (wkR w && itR x) = false ∨ x.kind = 5
  · rw [if_pos e2]
    simp only [wkFail, TkW.av, wkZ, List.map_nil, Jb.av, Wk.av] at h2 ⊢
    cases w1 : wkR w <;> cases x1 : itR x
    all_goals
      rw [w1] at h2
      rw [x1] at h3
      refine PC.mk (ac_body tab_ok Tryz.func44 rfl (by kernel_rfl) rfl ?_); intro w0 M μ0; simp only [Tryz.ntmps44, List.length_cons, List.length_nil, Nat.reduceAdd, Nat.reduceSub, numb]
      repeat' (first | ((first | apply o_do | apply d_do | apply d_yes rfl rfl rfl); first | exact lsc (h1) | exact lsc (h2) | exact lsc (h3) | exact lsc (f1) | exact lsq) | refine a_seq ?_ | refine a_region ?_ | refine o_nil ?_ | refine a_block ?_ | refine a_ret ?_ | refine a_exit ?_ | refine a_skip ?_ | refine a_draw mixed ?_ | refine d_nil (by kernel_rfl) ?_ | refine o_yes rfl rfl rfl ?_ | refine o_no rfl rfl rfl (by decide) ?_ | refine o_no' rfl rfl rfl ?_ | refine a_condT rfl ?_ | refine a_condF rfl ?_ | refine d_no rfl rfl rfl (by decide) ?_ | refine d_no' rfl rfl rfl ?_ | (refine wq2 (fun hb => ?_) (fun hb => ?_) <;> (simp only [hb]; try simp only [hbs, ne_eq] at hb; try (exfalso; first | omega | exact hb trivial))) | fail)
      all_goals first
        | (refine rq rfl ?_; (exact fnq); done)
        | (exfalso; rw [w1, x1] at e2; simp at e2; exact absurd e2 (by assumption))
  rw [if_neg e2]
  have e3 : wkR w = true ∧ itR x = true ∧ ¬ x.kind = 5 := by
    cases w1 : wkR w <;> cases x1 : itR x <;> simp [w1, x1] at e2 ⊢
    exact e2
  obtain ⟨w1, x1, x5⟩ := e3
  have hgl := hR w1
  have hok := hok x1
  rw [w1] at h2
  rw [x1] at h3
  have hcl := cl_Grp (w.gs.map Gp.av) (by rw [List.length_map]; omega)
  have hty := fun y => y_tell (w.gs.map Gp.av).length (w.gs.map Gp.av) w.mks (alOffer w.al input x).a w.told j input x [] y (by simp)
  generalize alOffer w.al input x = O at *
  obtain ⟨oa, op, od, ol, oe⟩ := O
  dsimp only at *
  by_cases c1 : oe ≠ 0
  · rw [if_pos c1]
    have foe := y_fail oe
    simp only [wkFail, TkW.av, wkZ, List.map_nil, Jb.av, Wk.av, Al.av, AlO.av] at h2 h4 foe ⊢
    refine PC.mk (ac_body tab_ok Tryz.func44 rfl (by kernel_rfl) rfl ?_); intro w0 M μ0; simp only [Tryz.ntmps44, List.length_cons, List.length_nil, Nat.reduceAdd, Nat.reduceSub, numb]
    repeat' (first | ((first | apply o_do | apply d_do | apply d_yes rfl rfl rfl); first | exact lsc (h1) | exact lsc (h2) | exact lsc (h3) | exact lsc (h4) | exact lsc (foe) | exact lsq) | refine a_seq ?_ | refine a_region ?_ | refine o_nil ?_ | refine a_block ?_ | refine a_ret ?_ | refine a_exit ?_ | refine a_skip ?_ | refine a_draw mixed ?_ | refine d_nil (by kernel_rfl) ?_ | refine o_yes rfl rfl rfl ?_ | refine o_no rfl rfl rfl (by decide) ?_ | refine o_no' rfl rfl rfl ?_ | refine a_condT rfl ?_ | refine a_condF rfl ?_ | refine d_no rfl rfl rfl (by decide) ?_ | refine d_no' rfl rfl rfl ?_ | (refine wq2 (fun hb => ?_) (fun hb => ?_) <;> (simp only [hb]; try simp only [hbs, ne_eq] at hb; try (exfalso; first | omega | exact hb trivial))) | fail)
    refine rq rfl ?_
    exact fnq
  rw [if_neg c1]
  have c1 : oe = 0 := by omega
  obtain ⟨hhas, hpass, hlate⟩ := hok c1
  have hop : op = false := by
    rcases hstop with h | h | h | h
    · simp at h
    · exact absurd h e2
    · exact absurd c1 h
    · exact h
  subst hop
  by_cases c2 : 0 < od
  · rw [if_pos c2]
    have hty := hty (barItem od)
    unfold wayC at hty
    simp only [TkW.av, List.map_nil, List.map_cons, Jb.av, Wk.av, Al.av, AlO.av] at h2 h4 hty ⊢
    refine PC.mk (ac_body tab_ok Tryz.func44 rfl (by kernel_rfl) rfl ?_); intro w0 M μ0; simp only [Tryz.ntmps44, List.length_cons, List.length_nil, Nat.reduceAdd, Nat.reduceSub, numb]
    repeat' (first | ((first | apply o_do | apply d_do | apply d_yes rfl rfl rfl); first | exact lsc (h1) | exact lsc (h2) | exact lsc (h3) | exact lsc (h4) | exact ls_callA [] 6 hcl rfl rfl (by (repeat' (first | exact NilL.nil | refine NilL.cons Nil.same ?_ | refine NilL.cons Nil.nil ?_ | refine NilL.cons (Nil.agg ?_) ?_ | exact Nil1s.nil | refine Nil1s.cons Nil1.same ?_ | refine Nil1s.cons Nil1.nil ?_)); first | done | fail) rfl (by repeat' (first | exact trivial | refine ⟨⟨_, rfl, by first | rfl | (simp [renO, *]; done)⟩, ?_⟩)) (by first | rfl | simp [closO, *]) rfl rfl rfl rfl (by first | rfl | simp [closO, *]) rfl | exact ls_nilCheck rfl rfl | exact lsq) | refine a_seq ?_ | refine a_region ?_ | refine o_nil ?_ | refine a_block ?_ | refine a_ret ?_ | refine a_exit ?_ | refine a_skip ?_ | refine a_draw mixed ?_ | refine d_nil (by kernel_rfl) ?_ | refine o_yes rfl rfl rfl ?_ | refine o_no rfl rfl rfl (by decide) ?_ | refine o_no' rfl rfl rfl ?_ | refine a_condT rfl ?_ | refine a_condF rfl ?_ | refine d_no rfl rfl rfl (by decide) ?_ | refine d_no' rfl rfl rfl ?_ | (refine wq2 (fun hb => ?_) (fun hb => ?_) <;> (simp only [hb]; try simp only [hbs, ne_eq] at hb; try (exfalso; first | omega | exact hb trivial))) | fail)
    refine o_adoptB 5 28 7 63 11 rfl rfl rfl ?_
    repeat' (first | ((first | apply o_do | apply d_do | apply d_yes rfl rfl rfl); first | exact ls_callA [5, 6, 7] 8 hty rfl rfl (by (repeat' (first | exact NilL.nil | refine NilL.cons Nil.same ?_ | refine NilL.cons Nil.nil ?_ | refine NilL.cons (Nil.agg ?_) ?_ | exact Nil1s.nil | refine Nil1s.cons Nil1.same ?_ | refine Nil1s.cons Nil1.nil ?_)); first | done | fail) rfl (by repeat' (first | exact trivial | refine ⟨⟨_, rfl, by first | rfl | (simp [renO, *]; done)⟩, ?_⟩)) (by first | rfl | simp [closO, *]) rfl rfl rfl rfl (by first | rfl | simp [closO, *]) rfl | exact ls_nilCheck rfl rfl | exact lsq) | refine a_seq ?_ | refine a_region ?_ | refine o_nil ?_ | refine a_block ?_ | refine a_ret ?_ | refine a_exit ?_ | refine a_skip ?_ | refine a_draw mixed ?_ | refine d_nil (by kernel_rfl) ?_ | refine o_yes rfl rfl rfl ?_ | refine o_no rfl rfl rfl (by decide) ?_ | refine o_no' rfl rfl rfl ?_ | refine a_condT rfl ?_ | refine a_condF rfl ?_ | refine d_no rfl rfl rfl (by decide) ?_ | refine d_no' rfl rfl rfl ?_ | (refine wq2 (fun hb => ?_) (fun hb => ?_) <;> (simp only [hb]; try simp only [hbs, ne_eq] at hb; try (exfalso; first | omega | exact hb trivial))) | fail)
    refine rq rfl ?_
    exact fnq
  · rw [if_neg c2]
    have hl0 := hlate c2
    subst hl0
    simp only [if_true, TkW.av, List.map_nil, List.map_cons, Jb.av, Wk.av, Al.av, AlO.av] at h2 h4 ⊢
    refine PC.mk (ac_body tab_ok Tryz.func44 rfl (by kernel_rfl) rfl ?_); intro w0 M μ0; simp only [Tryz.ntmps44, List.length_cons, List.length_nil, Nat.reduceAdd, Nat.reduceSub, numb]
    repeat' (first | ((first | apply o_do | apply d_do | apply d_yes rfl rfl rfl); first | exact lsc (h1) | exact lsc (h2) | exact lsc (h3) | exact lsc (h4) | exact ls_callA [] 6 hcl rfl rfl (by (repeat' (first | exact NilL.nil | refine NilL.cons Nil.same ?_ | refine NilL.cons Nil.nil ?_ | refine NilL.cons (Nil.agg ?_) ?_ | exact Nil1s.nil | refine Nil1s.cons Nil1.same ?_ | refine Nil1s.cons Nil1.nil ?_)); first | done | fail) rfl (by repeat' (first | exact trivial | refine ⟨⟨_, rfl, by first | rfl | (simp [renO, *]; done)⟩, ?_⟩)) (by first | rfl | simp [closO, *]) rfl rfl rfl rfl (by first | rfl | simp [closO, *]) rfl | exact ls_nilCheck rfl rfl | exact lsq) | refine a_seq ?_ | refine a_region ?_ | refine o_nil ?_ | refine a_block ?_ | refine a_ret ?_ | refine a_exit ?_ | refine a_skip ?_ | refine a_draw mixed ?_ | refine d_nil (by kernel_rfl) ?_ | refine o_yes rfl rfl rfl ?_ | refine o_no rfl rfl rfl (by decide) ?_ | refine o_no' rfl rfl rfl ?_ | refine a_condT rfl ?_ | refine a_condF rfl ?_ | refine d_no rfl rfl rfl (by decide) ?_ | refine d_no' rfl rfl rfl ?_ | (refine wq2 (fun hb => ?_) (fun hb => ?_) <;> (simp only [hb]; try simp only [hbs, ne_eq] at hb; try (exfalso; first | omega | exact hb trivial))) | fail)
    refine rq rfl ?_
    exact fnq
theorem mkSet_ok0 {m : Mk} {i t : Int} (h : mkIn m i = true) : (mkSet m i t).e = 0 ∧ (mkSet m i t).m.ins.length = m.ins.length ∧ (mkSet m i t).m.hs.length = m.hs.length := by
  unfold mkSet
  rw [if_neg (by rw [h]; simp)]
  simp [mkPut]
theorem mkIdle_ok0 {m : Mk} {i : Int} (h : mkIn m i = true) : (mkIdle m i).e = 0 ∧ (mkIdle m i).m.ins.length = m.ins.length ∧ (mkIdle m i).m.hs.length = m.hs.length := by
  unfold mkIdle
  rw [if_neg (by rw [h]; simp)]
  simp [mkPut]
set_option maxRecDepth 10000 in
set_option maxHeartbeats 32000000 in
theorem w_Take (j : Jb) (no : Int) (w : Wk) (input : Int) (x : It) (hw : WkOk w)
    (hgrp : x.kind = 1 → itR x = true → PC Tryz.prog 131 [.v (.string x.key), .v (.int .i64 j.g)] (.v (.int .i64 no))) :
    PC Tryz.prog 44 [.agg j.av, .agg w.av, .v (.int .i64 input), .agg x.av] (wkTake (jobOK j.g j.s j.d j.k j.fu j.li j.de j.id) j no w input x).av := by
  by_cases hstop : jobOK j.g j.s j.d j.k j.fu j.li j.de j.id = false ∨ ((wkR w && itR x) = false ∨ x.kind = 5) ∨ (alOffer w.al input x).e ≠ 0 ∨ (alOffer w.al input x).pass = false
  · exact w_Stops j no w input x hw hstop
  have hs1 : jobOK j.g j.s j.d j.k j.fu j.li j.de j.id = true := by
    cases h : jobOK j.g j.s j.d j.k j.fu j.li j.de j.id
    · exact absurd (.inl h) hstop
    · rfl
  have e2 : ¬ ((wkR w && itR x) = false ∨ x.kind = 5) := fun h => hstop (.inr (.inl h))
  have c1 : (alOffer w.al input x).e = 0 := by
    by_cases h : (alOffer w.al input x).e = 0
    · exact h
    · exact absurd (.inr (.inr (.inl h))) hstop
  have cp : (alOffer w.al input x).pass = true := by
    cases h : (alOffer w.al input x).pass
    · exact absurd (.inr (.inr (.inr h))) hstop
    · rfl
  have e3 : wkR w = true ∧ itR x = true ∧ ¬ x.kind = 5 := by
    cases w1 : wkR w <;> cases x1 : itR x <;> simp [w1, x1] at e2 ⊢
    exact e2
  obtain ⟨w1, x1, x5⟩ := e3
  obtain ⟨hhas, hpass, hlate⟩ := offer_ok x1 c1
  obtain ⟨cd, x4⟩ := hpass cp
  have hkind : x.kind = 1 ∨ x.kind = 2 ∨ x.kind = 3 := by have := itR_kind x1; omega
  have h1 := j_Right j.g j.s j.d j.k j.fu j.li j.de j.id
  have h2 := w_Right w hw
  have h3 := i_Right x
  have h4 := l_Offer w.al input x hw.got hw.held hw.its
  rw [hs1] at h1
  rw [w1] at h2
  rw [x1] at h3
  have w1' := w1
  simp only [wkR, Bool.and_eq_true, decide_eq_true_eq] at w1'
  obtain ⟨wg, wm, wh, wa, wl, wt1, wt2⟩ := w1'
  have hgl : w.gs.length ≤ 1000 := by have := gsR_le wg; omega
  have hin : mkIn w.mks input = true := by
    simp only [alHas, Bool.and_eq_true, decide_eq_true_eq] at hhas
    simp only [mkIn, wm, Bool.true_and, Bool.and_eq_true, decide_eq_true_eq]
    omega
  have hjR : jobR j.s j.d j.k = true := by
    simp only [jobOK, Bool.and_eq_true] at hs1
    simp only [jobR, Bool.and_eq_true]
    exact ⟨hs1.2.2.1, hs1.2.2.2.1⟩
  have hcl := cl_Grp (w.gs.map Gp.av) (by rw [List.length_map]; omega)
  have hadv0 : ∀ t, ∀ g ∈ w.gs, (gpAdv j t g).e = 0 := by
    intro t g hg
    obtain ⟨i, hi, rfl⟩ := List.getElem_of_mem hg
    exact adv_ok hjR (gsR_at wg i hi)
  have g3 := hw.ins
  have g4 := hw.hs
  have g2 := hw.ps
  unfold wkTake
  rw [if_neg (by rw [hs1]; simp), if_neg e2, if_neg (by rw [c1]; simp), if_neg (by rw [cd]; omega), if_neg (by rw [cp]; simp)]
  generalize alOffer w.al input x = O at *
  obtain ⟨oa, op, od, ol, oe⟩ := O
  dsimp only at c1 cp cd h4 ⊢
  subst c1 cp cd
  rcases hkind with k1 | k2 | k3
  · rw [if_pos k1]
    have hof := y_of1
    rw [← k1] at hof
    have hring := hgrp k1 x1
    rcases y_event w.mks oa w.told j input x no w.gs hgl g2 g3 g4 hring with ⟨hnone, hev⟩ | ⟨q, hq, hno, ⟨hne, hev⟩ | ⟨he0, hev⟩⟩
    · obtain ⟨_, p2⟩ := put_none (j := j) (x := x) hnone
      rw [p2, if_pos (by decide)]
      have f160 := y_fail 160
      unfold wayC at hev
      simp only [wkFail, TkW.av, wkZ, List.map_nil, Jb.av, Wk.av, Al.av, AlO.av] at h2 h4 f160 ⊢
      refine PC.mk (ac_body tab_ok Tryz.func44 rfl (by kernel_rfl) rfl ?_); intro w0 M μ0; simp only [Tryz.ntmps44, List.length_cons, List.length_nil, Nat.reduceAdd, Nat.reduceSub, numb]
      repeat' (first | ((first | apply o_do | apply d_do | apply d_yes rfl rfl rfl); first | exact lsc (h1) | exact lsc (h2) | exact lsc (h3) | exact lsc (h4) | exact ls_callA [] 6 hcl rfl rfl (by (repeat' (first | exact NilL.nil | refine NilL.cons Nil.same ?_ | refine NilL.cons Nil.nil ?_ | refine NilL.cons (Nil.agg ?_) ?_ | exact Nil1s.nil | refine Nil1s.cons Nil1.same ?_ | refine Nil1s.cons Nil1.nil ?_)); first | done | fail) rfl (by repeat' (first | exact trivial | refine ⟨⟨_, rfl, by first | rfl | (simp [renO, *]; done)⟩, ?_⟩)) (by first | rfl | simp [closO, *]) rfl rfl rfl rfl (by first | rfl | simp [closO, *]) rfl | exact ls_nilCheck rfl rfl | exact lsc (hof) | exact ls_callA [5, 6] 7 hev rfl rfl (by (repeat' (first | exact NilL.nil | refine NilL.cons Nil.same ?_ | refine NilL.cons Nil.nil ?_ | refine NilL.cons (Nil.agg ?_) ?_ | exact Nil1s.nil | refine Nil1s.cons Nil1.same ?_ | refine Nil1s.cons Nil1.nil ?_)); first | done | fail) rfl (by repeat' (first | exact trivial | refine ⟨⟨_, rfl, by first | rfl | (simp [renO, *]; done)⟩, ?_⟩)) (by first | rfl | simp [closO, *]) rfl rfl rfl rfl (by first | rfl | simp [closO, *]) rfl | exact lsc (f160) | exact lsq) | refine a_seq ?_ | refine a_region ?_ | refine o_nil ?_ | refine a_block ?_ | refine a_ret ?_ | refine a_exit ?_ | refine a_skip ?_ | refine a_draw mixed ?_ | refine d_nil (by kernel_rfl) ?_ | refine o_yes rfl rfl rfl ?_ | refine o_no rfl rfl rfl (by decide) ?_ | refine o_no' rfl rfl rfl ?_ | refine a_condT rfl ?_ | refine a_condF rfl ?_ | refine d_no rfl rfl rfl (by decide) ?_ | refine d_no' rfl rfl rfl ?_ | (refine wq2 (fun hb => ?_) (fun hb => ?_) <;> (simp only [hb]; try simp only [hbs, ne_eq] at hb; try (exfalso; first | omega | exact hb trivial))) | fail)
      refine rq rfl ?_
      exact fnq
    · obtain ⟨_, p2⟩ := put_at (j := j) (x := x) wg hq hno
      rw [p2, if_pos hne]
      have ft := y_fail (gpTake j x w.gs[q]).e
      generalize (gpTake j x w.gs[q]).e = E at *
      unfold wayC at hev
      simp only [wkFail, TkW.av, wkZ, List.map_nil, Jb.av, Wk.av, Al.av, AlO.av] at h2 h4 ft ⊢
      refine PC.mk (ac_body tab_ok Tryz.func44 rfl (by kernel_rfl) rfl ?_); intro w0 M μ0; simp only [Tryz.ntmps44, List.length_cons, List.length_nil, Nat.reduceAdd, Nat.reduceSub, numb]
      repeat' (first | ((first | apply o_do | apply d_do | apply d_yes rfl rfl rfl); first | exact lsc (h1) | exact lsc (h2) | exact lsc (h3) | exact lsc (h4) | exact ls_callA [] 6 hcl rfl rfl (by (repeat' (first | exact NilL.nil | refine NilL.cons Nil.same ?_ | refine NilL.cons Nil.nil ?_ | refine NilL.cons (Nil.agg ?_) ?_ | exact Nil1s.nil | refine Nil1s.cons Nil1.same ?_ | refine Nil1s.cons Nil1.nil ?_)); first | done | fail) rfl (by repeat' (first | exact trivial | refine ⟨⟨_, rfl, by first | rfl | (simp [renO, *]; done)⟩, ?_⟩)) (by first | rfl | simp [closO, *]) rfl rfl rfl rfl (by first | rfl | simp [closO, *]) rfl | exact ls_nilCheck rfl rfl | exact lsc (hof) | exact ls_callA [5, 6] 7 hev rfl rfl (by (repeat' (first | exact NilL.nil | refine NilL.cons Nil.same ?_ | refine NilL.cons Nil.nil ?_ | refine NilL.cons (Nil.agg ?_) ?_ | exact Nil1s.nil | refine Nil1s.cons Nil1.same ?_ | refine Nil1s.cons Nil1.nil ?_)); first | done | fail) rfl (by repeat' (first | exact trivial | refine ⟨⟨_, rfl, by first | rfl | (simp [renO, *]; done)⟩, ?_⟩)) (by first | rfl | simp [closO, *]) rfl rfl rfl rfl (by first | rfl | simp [closO, *]) rfl | exact lsc (ft) | exact lsq) | refine a_seq ?_ | refine a_region ?_ | refine o_nil ?_ | refine a_block ?_ | refine a_ret ?_ | refine a_exit ?_ | refine a_skip ?_ | refine a_draw mixed ?_ | refine d_nil (by kernel_rfl) ?_ | refine o_yes rfl rfl rfl ?_ | refine o_no rfl rfl rfl (by decide) ?_ | refine o_no' rfl rfl rfl ?_ | refine a_condT rfl ?_ | refine a_condF rfl ?_ | refine d_no rfl rfl rfl (by decide) ?_ | refine d_no' rfl rfl rfl ?_ | (refine wq2 (fun hb => ?_) (fun hb => ?_) <;> (simp only [hb]; try simp only [hbs, ne_eq] at hb; try (exfalso; first | omega | exact hb trivial))) | fail)
      refine rq rfl ?_
      exact fnq
    · obtain ⟨p1, p2⟩ := put_at (j := j) (x := x) wg hq hno
      rw [p1, p2, if_neg (by rw [he0]; simp)]
      obtain ⟨s0, s1, s2⟩ := mkSet_ok0 (t := 0) hin
      rw [s0] at hev
      have hgR := gsR_at wg q hq
      have htk := take_grR (key := x.key) (at' := x.at') (v := x.val) hjR hgR he0
      have hadv : ∀ t, ∀ g ∈ w.gs.set q (gpTake j x w.gs[q]).gp, (gpAdv j t g).e = 0 := by
        intro t g hg
        rcases List.mem_or_eq_of_mem_set hg with hg | rfl
        · exact hadv0 t g hg
        · refine adv_ok hjR ?_
          show grR (gpTake j x w.gs[q]).no (gpTake j x w.gs[q]).mark (gpTake j x w.gs[q]).ps = true
          unfold gpTake
          rw [htk.2.1, htk.2.2]
          exact htk.1
      have hps : ∀ g ∈ w.gs.set q (gpTake j x w.gs[q]).gp, g.ps.length ≤ 9223372036854775807 := by
        intro g hg
        rcases List.mem_or_eq_of_mem_set hg with hg | rfl
        · exact g2 g hg
        · exact grow_le (g2 _ (List.getElem_mem hq))
      have hset : (w.gs.map Gp.av).set q (Gp.av (gpTake j x w.gs[q]).gp) = (w.gs.set q (gpTake j x w.gs[q]).gp).map Gp.av := List.map_set.symm
      rw [hset] at hev
      have hsl : (w.gs.set q (gpTake j x w.gs[q]).gp).length = w.gs.length := List.length_set
      generalize w.gs.set q (gpTake j x w.gs[q]).gp = M at *
      have hN : (w.gs.map Gp.av).length = (M.map Gp.av).length := by rw [List.length_map, List.length_map, hsl]
      have hgoN := fun h => y_goNo (mkSet w.mks input 0).m oa w.told j input x (w.gs.map Gp.av).length (M.map Gp.av) (by omega) (by omega) h
      have hgoY := fun h => y_goYes (mkSet w.mks input 0).m oa w.told j input x M (w.gs.map Gp.av).length hN (by omega) hps (by omega) (by omega) h (hadv _)
      unfold wkGo
      generalize mkSet w.mks input 0 = S at *
      obtain ⟨sm, se⟩ := S
      dsimp only at *
      generalize mkTell sm = T at *
      obtain ⟨tm, tt, ti⟩ := T
      cases ti
      · have hgo := hgoN rfl
        unfold wayC at hev hgo
        simp only [Bool.false_eq_true, if_false, TkW.av, List.map_nil, Jb.av, Wk.av, Al.av, AlO.av] at h2 h4 ⊢
        refine PC.mk (ac_body tab_ok Tryz.func44 rfl (by kernel_rfl) rfl ?_); intro w0 M μ0; simp only [Tryz.ntmps44, List.length_cons, List.length_nil, Nat.reduceAdd, Nat.reduceSub, numb]
        repeat' (first | ((first | apply o_do | apply d_do | apply d_yes rfl rfl rfl); first | exact lsc (h1) | exact lsc (h2) | exact lsc (h3) | exact lsc (h4) | exact ls_callA [] 6 hcl rfl rfl (by (repeat' (first | exact NilL.nil | refine NilL.cons Nil.same ?_ | refine NilL.cons Nil.nil ?_ | refine NilL.cons (Nil.agg ?_) ?_ | exact Nil1s.nil | refine Nil1s.cons Nil1.same ?_ | refine Nil1s.cons Nil1.nil ?_)); first | done | fail) rfl (by repeat' (first | exact trivial | refine ⟨⟨_, rfl, by first | rfl | (simp [renO, *]; done)⟩, ?_⟩)) (by first | rfl | simp [closO, *]) rfl rfl rfl rfl (by first | rfl | simp [closO, *]) rfl | exact ls_nilCheck rfl rfl | exact lsc (hof) | exact ls_callA [5, 6] 7 hev rfl rfl (by (repeat' (first | exact NilL.nil | refine NilL.cons Nil.same ?_ | refine NilL.cons Nil.nil ?_ | refine NilL.cons (Nil.agg ?_) ?_ | exact Nil1s.nil | refine Nil1s.cons Nil1.same ?_ | refine Nil1s.cons Nil1.nil ?_)); first | done | fail) rfl (by repeat' (first | exact trivial | refine ⟨⟨_, rfl, by first | rfl | (simp [renO, *]; done)⟩, ?_⟩)) (by first | rfl | simp [closO, *]) rfl rfl rfl rfl (by first | rfl | simp [closO, *]) rfl | exact ls_callA [5, 6] 7 hgo rfl rfl (by (repeat' (first | exact NilL.nil | refine NilL.cons Nil.same ?_ | refine NilL.cons Nil.nil ?_ | refine NilL.cons (Nil.agg ?_) ?_ | exact Nil1s.nil | refine Nil1s.cons Nil1.same ?_ | refine Nil1s.cons Nil1.nil ?_)); first | done | fail) rfl (by repeat' (first | exact trivial | refine ⟨⟨_, rfl, by first | rfl | (simp [renO, *]; done)⟩, ?_⟩)) (by first | rfl | simp [closO, *]) rfl rfl rfl rfl (by first | rfl | simp [closO, *]) rfl | exact lsq) | refine a_seq ?_ | refine a_region ?_ | refine o_nil ?_ | refine a_block ?_ | refine a_ret ?_ | refine a_exit ?_ | refine a_skip ?_ | refine a_draw mixed ?_ | refine d_nil (by kernel_rfl) ?_ | refine o_yes rfl rfl rfl ?_ | refine o_no rfl rfl rfl (by decide) ?_ | refine o_no' rfl rfl rfl ?_ | refine a_condT rfl ?_ | refine a_condF rfl ?_ | refine d_no rfl rfl rfl (by decide) ?_ | refine d_no' rfl rfl rfl ?_ | (refine wq2 (fun hb => ?_) (fun hb => ?_) <;> (simp only [hb]; try simp only [hbs, ne_eq] at hb; try (exfalso; first | omega | exact hb trivial))) | fail)
        refine rq rfl ?_
        (first | refine FinA.tup ?_ | refine FinA.one ?_); repeat' (first | exact FinBs.nil | exact FinCs.nil | refine FinBs.cons ?_ ?_ | refine FinCs.cons ?_ ?_ | refine FinB.cell (FinC.v ?_) | refine FinB.cell (FinC.own rfl rfl rfl ?_) | exact FinB.cell FinC.nil | refine FinB.cell (FinC.sl ?_) | exact FinB.agg' rfl rfl | exact FinB.cell (FinC.same rfl) | refine FinB.agg ?_ | refine FinC.v ?_ | refine FinC.own rfl rfl rfl ?_ | exact FinC.nil | refine FinC.sl ?_ | exact FinC.same rfl); all_goals try rfl
        all_goals exact FinC.own rfl hN rfl rfl
      · have hgo := hgoY rfl
        unfold wayC at hev hgo
        simp only [if_true, TkW.av, List.map_nil, Jb.av, Wk.av, Al.av, AlO.av, List.map_append, List.map_cons] at h2 h4 ⊢
        refine PC.mk (ac_body tab_ok Tryz.func44 rfl (by kernel_rfl) rfl ?_); intro w0 M μ0; simp only [Tryz.ntmps44, List.length_cons, List.length_nil, Nat.reduceAdd, Nat.reduceSub, numb]
        repeat' (first | ((first | apply o_do | apply d_do | apply d_yes rfl rfl rfl); first | exact lsc (h1) | exact lsc (h2) | exact lsc (h3) | exact lsc (h4) | exact ls_callA [] 6 hcl rfl rfl (by (repeat' (first | exact NilL.nil | refine NilL.cons Nil.same ?_ | refine NilL.cons Nil.nil ?_ | refine NilL.cons (Nil.agg ?_) ?_ | exact Nil1s.nil | refine Nil1s.cons Nil1.same ?_ | refine Nil1s.cons Nil1.nil ?_)); first | done | fail) rfl (by repeat' (first | exact trivial | refine ⟨⟨_, rfl, by first | rfl | (simp [renO, *]; done)⟩, ?_⟩)) (by first | rfl | simp [closO, *]) rfl rfl rfl rfl (by first | rfl | simp [closO, *]) rfl | exact ls_nilCheck rfl rfl | exact lsc (hof) | exact ls_callA [5, 6] 7 hev rfl rfl (by (repeat' (first | exact NilL.nil | refine NilL.cons Nil.same ?_ | refine NilL.cons Nil.nil ?_ | refine NilL.cons (Nil.agg ?_) ?_ | exact Nil1s.nil | refine Nil1s.cons Nil1.same ?_ | refine Nil1s.cons Nil1.nil ?_)); first | done | fail) rfl (by repeat' (first | exact trivial | refine ⟨⟨_, rfl, by first | rfl | (simp [renO, *]; done)⟩, ?_⟩)) (by first | rfl | simp [closO, *]) rfl rfl rfl rfl (by first | rfl | simp [closO, *]) rfl | exact ls_callA [5, 6] 7 hgo rfl rfl (by (repeat' (first | exact NilL.nil | refine NilL.cons Nil.same ?_ | refine NilL.cons Nil.nil ?_ | refine NilL.cons (Nil.agg ?_) ?_ | exact Nil1s.nil | refine Nil1s.cons Nil1.same ?_ | refine Nil1s.cons Nil1.nil ?_)); first | done | fail) rfl (by repeat' (first | exact trivial | refine ⟨⟨_, rfl, by first | rfl | (simp [renO, *]; done)⟩, ?_⟩)) (by first | rfl | simp [closO, *]) rfl rfl rfl rfl (by first | rfl | simp [closO, *]) rfl | exact lsq) | refine a_seq ?_ | refine a_region ?_ | refine o_nil ?_ | refine a_block ?_ | refine a_ret ?_ | refine a_exit ?_ | refine a_skip ?_ | refine a_draw mixed ?_ | refine d_nil (by kernel_rfl) ?_ | refine o_yes rfl rfl rfl ?_ | refine o_no rfl rfl rfl (by decide) ?_ | refine o_no' rfl rfl rfl ?_ | refine a_condT rfl ?_ | refine a_condF rfl ?_ | refine d_no rfl rfl rfl (by decide) ?_ | refine d_no' rfl rfl rfl ?_ | (refine wq2 (fun hb => ?_) (fun hb => ?_) <;> (simp only [hb]; try simp only [hbs, ne_eq] at hb; try (exfalso; first | omega | exact hb trivial))) | fail)
        refine rq rfl ?_
        (first | refine FinA.tup ?_ | refine FinA.one ?_); repeat' (first | exact FinBs.nil | exact FinCs.nil | refine FinBs.cons ?_ ?_ | refine FinCs.cons ?_ ?_ | refine FinB.cell (FinC.v ?_) | refine FinB.cell (FinC.own rfl rfl rfl ?_) | exact FinB.cell FinC.nil | refine FinB.cell (FinC.sl ?_) | exact FinB.agg' rfl rfl | exact FinB.cell (FinC.same rfl) | refine FinB.agg ?_ | refine FinC.v ?_ | refine FinC.own rfl rfl rfl ?_ | exact FinC.nil | refine FinC.sl ?_ | exact FinC.same rfl); all_goals try rfl
        all_goals exact FinC.own rfl (by rw [hN]; simp [advM]) rfl rfl
  · rw [if_neg (by omega), if_pos k2]
    have hof := y_of2
    rw [← k2] at hof
    obtain ⟨s0, s1, s2⟩ := mkSet_ok0 (t := x.mark) hin
    have hev := y_mark (w.gs.map Gp.av).length (w.gs.map Gp.av) w.mks oa w.told j input x g3 g4
    rw [s0] at hev
    have hgoN := fun h => y_goNo (mkSet w.mks input x.mark).m oa w.told j input x (w.gs.map Gp.av).length (w.gs.map Gp.av) (by omega) (by omega) h
    have hgoY := fun h => y_goYes (mkSet w.mks input x.mark).m oa w.told j input x w.gs (w.gs.map Gp.av).length rfl (by omega) g2 (by omega) (by omega) h (hadv0 _)
    unfold wkGo
    generalize mkSet w.mks input x.mark = S at *
    obtain ⟨sm, se⟩ := S
    dsimp only at *
    generalize mkTell sm = T at *
    obtain ⟨tm, tt, ti⟩ := T
    cases ti
    · have hgo := hgoN rfl
      unfold wayC at hev hgo
      simp only [Bool.false_eq_true, if_false, TkW.av, List.map_nil, Jb.av, Wk.av, Al.av, AlO.av] at h2 h4 ⊢
      refine PC.mk (ac_body tab_ok Tryz.func44 rfl (by kernel_rfl) rfl ?_); intro w0 M μ0; simp only [Tryz.ntmps44, List.length_cons, List.length_nil, Nat.reduceAdd, Nat.reduceSub, numb]
      repeat' (first | ((first | apply o_do | apply d_do | apply d_yes rfl rfl rfl); first | exact lsc (h1) | exact lsc (h2) | exact lsc (h3) | exact lsc (h4) | exact ls_callA [] 6 hcl rfl rfl (by (repeat' (first | exact NilL.nil | refine NilL.cons Nil.same ?_ | refine NilL.cons Nil.nil ?_ | refine NilL.cons (Nil.agg ?_) ?_ | exact Nil1s.nil | refine Nil1s.cons Nil1.same ?_ | refine Nil1s.cons Nil1.nil ?_)); first | done | fail) rfl (by repeat' (first | exact trivial | refine ⟨⟨_, rfl, by first | rfl | (simp [renO, *]; done)⟩, ?_⟩)) (by first | rfl | simp [closO, *]) rfl rfl rfl rfl (by first | rfl | simp [closO, *]) rfl | exact ls_nilCheck rfl rfl | exact lsc (hof) | exact ls_callA [5, 6] 7 hev rfl rfl (by (repeat' (first | exact NilL.nil | refine NilL.cons Nil.same ?_ | refine NilL.cons Nil.nil ?_ | refine NilL.cons (Nil.agg ?_) ?_ | exact Nil1s.nil | refine Nil1s.cons Nil1.same ?_ | refine Nil1s.cons Nil1.nil ?_)); first | done | fail) rfl (by repeat' (first | exact trivial | refine ⟨⟨_, rfl, by first | rfl | (simp [renO, *]; done)⟩, ?_⟩)) (by first | rfl | simp [closO, *]) rfl rfl rfl rfl (by first | rfl | simp [closO, *]) rfl | exact ls_callA [5, 6] 7 hgo rfl rfl (by (repeat' (first | exact NilL.nil | refine NilL.cons Nil.same ?_ | refine NilL.cons Nil.nil ?_ | refine NilL.cons (Nil.agg ?_) ?_ | exact Nil1s.nil | refine Nil1s.cons Nil1.same ?_ | refine Nil1s.cons Nil1.nil ?_)); first | done | fail) rfl (by repeat' (first | exact trivial | refine ⟨⟨_, rfl, by first | rfl | (simp [renO, *]; done)⟩, ?_⟩)) (by first | rfl | simp [closO, *]) rfl rfl rfl rfl (by first | rfl | simp [closO, *]) rfl | exact lsq) | refine a_seq ?_ | refine a_region ?_ | refine o_nil ?_ | refine a_block ?_ | refine a_ret ?_ | refine a_exit ?_ | refine a_skip ?_ | refine a_draw mixed ?_ | refine d_nil (by kernel_rfl) ?_ | refine o_yes rfl rfl rfl ?_ | refine o_no rfl rfl rfl (by decide) ?_ | refine o_no' rfl rfl rfl ?_ | refine a_condT rfl ?_ | refine a_condF rfl ?_ | refine d_no rfl rfl rfl (by decide) ?_ | refine d_no' rfl rfl rfl ?_ | (refine wq2 (fun hb => ?_) (fun hb => ?_) <;> (simp only [hb]; try simp only [hbs, ne_eq] at hb; try (exfalso; first | omega | exact hb trivial))) | fail)
      refine rq rfl ?_
      exact fnq
    · have hgo := hgoY rfl
      unfold wayC at hev hgo
      simp only [if_true, TkW.av, List.map_nil, Jb.av, Wk.av, Al.av, AlO.av, List.map_append, List.map_cons] at h2 h4 ⊢
      refine PC.mk (ac_body tab_ok Tryz.func44 rfl (by kernel_rfl) rfl ?_); intro w0 M μ0; simp only [Tryz.ntmps44, List.length_cons, List.length_nil, Nat.reduceAdd, Nat.reduceSub, numb]
      repeat' (first | ((first | apply o_do | apply d_do | apply d_yes rfl rfl rfl); first | exact lsc (h1) | exact lsc (h2) | exact lsc (h3) | exact lsc (h4) | exact ls_callA [] 6 hcl rfl rfl (by (repeat' (first | exact NilL.nil | refine NilL.cons Nil.same ?_ | refine NilL.cons Nil.nil ?_ | refine NilL.cons (Nil.agg ?_) ?_ | exact Nil1s.nil | refine Nil1s.cons Nil1.same ?_ | refine Nil1s.cons Nil1.nil ?_)); first | done | fail) rfl (by repeat' (first | exact trivial | refine ⟨⟨_, rfl, by first | rfl | (simp [renO, *]; done)⟩, ?_⟩)) (by first | rfl | simp [closO, *]) rfl rfl rfl rfl (by first | rfl | simp [closO, *]) rfl | exact ls_nilCheck rfl rfl | exact lsc (hof) | exact ls_callA [5, 6] 7 hev rfl rfl (by (repeat' (first | exact NilL.nil | refine NilL.cons Nil.same ?_ | refine NilL.cons Nil.nil ?_ | refine NilL.cons (Nil.agg ?_) ?_ | exact Nil1s.nil | refine Nil1s.cons Nil1.same ?_ | refine Nil1s.cons Nil1.nil ?_)); first | done | fail) rfl (by repeat' (first | exact trivial | refine ⟨⟨_, rfl, by first | rfl | (simp [renO, *]; done)⟩, ?_⟩)) (by first | rfl | simp [closO, *]) rfl rfl rfl rfl (by first | rfl | simp [closO, *]) rfl | exact ls_callA [5, 6] 7 hgo rfl rfl (by (repeat' (first | exact NilL.nil | refine NilL.cons Nil.same ?_ | refine NilL.cons Nil.nil ?_ | refine NilL.cons (Nil.agg ?_) ?_ | exact Nil1s.nil | refine Nil1s.cons Nil1.same ?_ | refine Nil1s.cons Nil1.nil ?_)); first | done | fail) rfl (by repeat' (first | exact trivial | refine ⟨⟨_, rfl, by first | rfl | (simp [renO, *]; done)⟩, ?_⟩)) (by first | rfl | simp [closO, *]) rfl rfl rfl rfl (by first | rfl | simp [closO, *]) rfl | exact lsq) | refine a_seq ?_ | refine a_region ?_ | refine o_nil ?_ | refine a_block ?_ | refine a_ret ?_ | refine a_exit ?_ | refine a_skip ?_ | refine a_draw mixed ?_ | refine d_nil (by kernel_rfl) ?_ | refine o_yes rfl rfl rfl ?_ | refine o_no rfl rfl rfl (by decide) ?_ | refine o_no' rfl rfl rfl ?_ | refine a_condT rfl ?_ | refine a_condF rfl ?_ | refine d_no rfl rfl rfl (by decide) ?_ | refine d_no' rfl rfl rfl ?_ | (refine wq2 (fun hb => ?_) (fun hb => ?_) <;> (simp only [hb]; try simp only [hbs, ne_eq] at hb; try (exfalso; first | omega | exact hb trivial))) | fail)
      refine rq rfl ?_
      (first | refine FinA.tup ?_ | refine FinA.one ?_); repeat' (first | exact FinBs.nil | exact FinCs.nil | refine FinBs.cons ?_ ?_ | refine FinCs.cons ?_ ?_ | refine FinB.cell (FinC.v ?_) | refine FinB.cell (FinC.own rfl rfl rfl ?_) | exact FinB.cell FinC.nil | refine FinB.cell (FinC.sl ?_) | exact FinB.agg' rfl rfl | exact FinB.cell (FinC.same rfl) | refine FinB.agg ?_ | refine FinC.v ?_ | refine FinC.own rfl rfl rfl ?_ | exact FinC.nil | refine FinC.sl ?_ | exact FinC.same rfl); all_goals try rfl
      all_goals exact FinC.own rfl (by simp [advM]) rfl rfl
  · rw [if_neg (by omega), if_neg (by omega), if_pos k3]
    have hof := y_of3
    rw [← k3] at hof
    obtain ⟨s0, s1, s2⟩ := mkIdle_ok0 hin
    have hev := y_idle (w.gs.map Gp.av).length (w.gs.map Gp.av) w.mks oa w.told j input x g3 g4
    rw [s0] at hev
    have hgoN := fun h => y_goNo (mkIdle w.mks input).m oa w.told j input x (w.gs.map Gp.av).length (w.gs.map Gp.av) (by omega) (by omega) h
    have hgoY := fun h => y_goYes (mkIdle w.mks input).m oa w.told j input x w.gs (w.gs.map Gp.av).length rfl (by omega) g2 (by omega) (by omega) h (hadv0 _)
    unfold wkGo
    generalize mkIdle w.mks input = S at *
    obtain ⟨sm, se⟩ := S
    dsimp only at *
    generalize mkTell sm = T at *
    obtain ⟨tm, tt, ti⟩ := T
    cases ti
    · have hgo := hgoN rfl
      unfold wayC at hev hgo
      simp only [Bool.false_eq_true, if_false, TkW.av, List.map_nil, Jb.av, Wk.av, Al.av, AlO.av] at h2 h4 ⊢
      refine PC.mk (ac_body tab_ok Tryz.func44 rfl (by kernel_rfl) rfl ?_); intro w0 M μ0; simp only [Tryz.ntmps44, List.length_cons, List.length_nil, Nat.reduceAdd, Nat.reduceSub, numb]
      repeat' (first | ((first | apply o_do | apply d_do | apply d_yes rfl rfl rfl); first | exact lsc (h1) | exact lsc (h2) | exact lsc (h3) | exact lsc (h4) | exact ls_callA [] 6 hcl rfl rfl (by (repeat' (first | exact NilL.nil | refine NilL.cons Nil.same ?_ | refine NilL.cons Nil.nil ?_ | refine NilL.cons (Nil.agg ?_) ?_ | exact Nil1s.nil | refine Nil1s.cons Nil1.same ?_ | refine Nil1s.cons Nil1.nil ?_)); first | done | fail) rfl (by repeat' (first | exact trivial | refine ⟨⟨_, rfl, by first | rfl | (simp [renO, *]; done)⟩, ?_⟩)) (by first | rfl | simp [closO, *]) rfl rfl rfl rfl (by first | rfl | simp [closO, *]) rfl | exact ls_nilCheck rfl rfl | exact lsc (hof) | exact ls_callA [5, 6] 7 hev rfl rfl (by (repeat' (first | exact NilL.nil | refine NilL.cons Nil.same ?_ | refine NilL.cons Nil.nil ?_ | refine NilL.cons (Nil.agg ?_) ?_ | exact Nil1s.nil | refine Nil1s.cons Nil1.same ?_ | refine Nil1s.cons Nil1.nil ?_)); first | done | fail) rfl (by repeat' (first | exact trivial | refine ⟨⟨_, rfl, by first | rfl | (simp [renO, *]; done)⟩, ?_⟩)) (by first | rfl | simp [closO, *]) rfl rfl rfl rfl (by first | rfl | simp [closO, *]) rfl | exact ls_callA [5, 6] 7 hgo rfl rfl (by (repeat' (first | exact NilL.nil | refine NilL.cons Nil.same ?_ | refine NilL.cons Nil.nil ?_ | refine NilL.cons (Nil.agg ?_) ?_ | exact Nil1s.nil | refine Nil1s.cons Nil1.same ?_ | refine Nil1s.cons Nil1.nil ?_)); first | done | fail) rfl (by repeat' (first | exact trivial | refine ⟨⟨_, rfl, by first | rfl | (simp [renO, *]; done)⟩, ?_⟩)) (by first | rfl | simp [closO, *]) rfl rfl rfl rfl (by first | rfl | simp [closO, *]) rfl | exact lsq) | refine a_seq ?_ | refine a_region ?_ | refine o_nil ?_ | refine a_block ?_ | refine a_ret ?_ | refine a_exit ?_ | refine a_skip ?_ | refine a_draw mixed ?_ | refine d_nil (by kernel_rfl) ?_ | refine o_yes rfl rfl rfl ?_ | refine o_no rfl rfl rfl (by decide) ?_ | refine o_no' rfl rfl rfl ?_ | refine a_condT rfl ?_ | refine a_condF rfl ?_ | refine d_no rfl rfl rfl (by decide) ?_ | refine d_no' rfl rfl rfl ?_ | (refine wq2 (fun hb => ?_) (fun hb => ?_) <;> (simp only [hb]; try simp only [hbs, ne_eq] at hb; try (exfalso; first | omega | exact hb trivial))) | fail)
      refine rq rfl ?_
      exact fnq
    · have hgo := hgoY rfl
      unfold wayC at hev hgo
      simp only [if_true, TkW.av, List.map_nil, Jb.av, Wk.av, Al.av, AlO.av, List.map_append, List.map_cons] at h2 h4 ⊢
      refine PC.mk (ac_body tab_ok Tryz.func44 rfl (by kernel_rfl) rfl ?_); intro w0 M μ0; simp only [Tryz.ntmps44, List.length_cons, List.length_nil, Nat.reduceAdd, Nat.reduceSub, numb]
      repeat' (first | ((first | apply o_do | apply d_do | apply d_yes rfl rfl rfl); first | exact lsc (h1) | exact lsc (h2) | exact lsc (h3) | exact lsc (h4) | exact ls_callA [] 6 hcl rfl rfl (by (repeat' (first | exact NilL.nil | refine NilL.cons Nil.same ?_ | refine NilL.cons Nil.nil ?_ | refine NilL.cons (Nil.agg ?_) ?_ | exact Nil1s.nil | refine Nil1s.cons Nil1.same ?_ | refine Nil1s.cons Nil1.nil ?_)); first | done | fail) rfl (by repeat' (first | exact trivial | refine ⟨⟨_, rfl, by first | rfl | (simp [renO, *]; done)⟩, ?_⟩)) (by first | rfl | simp [closO, *]) rfl rfl rfl rfl (by first | rfl | simp [closO, *]) rfl | exact ls_nilCheck rfl rfl | exact lsc (hof) | exact ls_callA [5, 6] 7 hev rfl rfl (by (repeat' (first | exact NilL.nil | refine NilL.cons Nil.same ?_ | refine NilL.cons Nil.nil ?_ | refine NilL.cons (Nil.agg ?_) ?_ | exact Nil1s.nil | refine Nil1s.cons Nil1.same ?_ | refine Nil1s.cons Nil1.nil ?_)); first | done | fail) rfl (by repeat' (first | exact trivial | refine ⟨⟨_, rfl, by first | rfl | (simp [renO, *]; done)⟩, ?_⟩)) (by first | rfl | simp [closO, *]) rfl rfl rfl rfl (by first | rfl | simp [closO, *]) rfl | exact ls_callA [5, 6] 7 hgo rfl rfl (by (repeat' (first | exact NilL.nil | refine NilL.cons Nil.same ?_ | refine NilL.cons Nil.nil ?_ | refine NilL.cons (Nil.agg ?_) ?_ | exact Nil1s.nil | refine Nil1s.cons Nil1.same ?_ | refine Nil1s.cons Nil1.nil ?_)); first | done | fail) rfl (by repeat' (first | exact trivial | refine ⟨⟨_, rfl, by first | rfl | (simp [renO, *]; done)⟩, ?_⟩)) (by first | rfl | simp [closO, *]) rfl rfl rfl rfl (by first | rfl | simp [closO, *]) rfl | exact lsq) | refine a_seq ?_ | refine a_region ?_ | refine o_nil ?_ | refine a_block ?_ | refine a_ret ?_ | refine a_exit ?_ | refine a_skip ?_ | refine a_draw mixed ?_ | refine d_nil (by kernel_rfl) ?_ | refine o_yes rfl rfl rfl ?_ | refine o_no rfl rfl rfl (by decide) ?_ | refine o_no' rfl rfl rfl ?_ | refine a_condT rfl ?_ | refine a_condF rfl ?_ | refine d_no rfl rfl rfl (by decide) ?_ | refine d_no' rfl rfl rfl ?_ | (refine wq2 (fun hb => ?_) (fun hb => ?_) <;> (simp only [hb]; try simp only [hbs, ne_eq] at hb; try (exfalso; first | omega | exact hb trivial))) | fail)
      refine rq rfl ?_
      (first | refine FinA.tup ?_ | refine FinA.one ?_); repeat' (first | exact FinBs.nil | exact FinCs.nil | refine FinBs.cons ?_ ?_ | refine FinCs.cons ?_ ?_ | refine FinB.cell (FinC.v ?_) | refine FinB.cell (FinC.own rfl rfl rfl ?_) | exact FinB.cell FinC.nil | refine FinB.cell (FinC.sl ?_) | exact FinB.agg' rfl rfl | exact FinB.cell (FinC.same rfl) | refine FinB.agg ?_ | refine FinC.v ?_ | refine FinC.own rfl rfl rfl ?_ | exact FinC.nil | refine FinC.sl ?_ | exact FinC.same rfl); all_goals try rfl
      all_goals exact FinC.own rfl (by simp [advM]) rfl rfl
theorem mkSet_len (m : Mk) (i t : Int) : (mkSet m i t).m.ins.length ≤ m.ins.length ∧ (mkSet m i t).m.hs.length ≤ m.hs.length := by
  unfold mkSet
  split <;> simp [mkZ, mkPut]
theorem mkIdle_len (m : Mk) (i : Int) : (mkIdle m i).m.ins.length ≤ m.ins.length ∧ (mkIdle m i).m.hs.length ≤ m.hs.length := by
  unfold mkIdle
  split <;> simp [mkZ, mkPut]
theorem putM_ok {j : Jb} {no : Int} {x : It} {gs : List Gp} (hp : ∀ g ∈ gs, g.ps.length ≤ 9223372036854775807) : ∀ g ∈ putM j no x gs, g.ps.length ≤ 9223372036854775807 := by
  intro g hg
  obtain ⟨y, hy, rfl⟩ := List.mem_map.1 hg
  split
  · exact grow_le (hp y hy)
  · exact hp y hy
end Go.Proofs.YtilgagmfcdfjaaaGreat
namespace Go.Proofs.YtilgagmfcdfjaaaGreat
open Go.RowKit
set_option linter.unusedSimpArgs false
theorem wkZ_ok : WkOk wkZ := ⟨Nat.zero_le _, nofun, Nat.zero_le _, Nat.zero_le _, Nat.zero_le _, Nat.zero_le _, nofun⟩
theorem w_alive : PC Tryz.prog 17 [] (.v (.bool true)) := by
  have h1 := w_New 1 1 1 2 0 0 0 0 1 [] (Nat.zero_le _) nofun
  have e : newW (jobOK 1 1 1 2 0 0 0 0) 1 [] = ⟨⟨[], ⟨[(0, false)], [], 0⟩, ⟨0, [false], [[]]⟩, 0⟩, 0⟩ := by kernel_rfl
  rw [e] at h1
  have h2 := w_Right ⟨[], ⟨[(0, false)], [], 0⟩, ⟨0, [false], [[]]⟩, 0⟩ ⟨by simp, by simp, by simp, by simp, by simp, by simp, by simp⟩
  have e2 : wkR ⟨[], ⟨[(0, false)], [], 0⟩, ⟨0, [false], [[]]⟩, 0⟩ = true := by decide +kernel
  rw [e2] at h2
  simp only [WkN.av, Wk.av, List.map_nil, List.map_cons] at h1 h2
  refine PC.mk (ac_body tab_ok Tryz.func17 rfl (by kernel_rfl) rfl ?_); intro w0 M μ0; simp only [Tryz.ntmps17, List.length_cons, List.length_nil, Nat.reduceAdd, Nat.reduceSub, numb]
  repeat' (first | ((first | apply o_do | apply d_do | apply d_yes rfl rfl rfl); first | exact lsc (h1) | exact lsc (h2) | exact lsq) | refine a_seq ?_ | refine a_region ?_ | refine o_nil ?_ | refine a_block ?_ | refine a_ret ?_ | refine a_exit ?_ | refine a_skip ?_ | refine a_draw mixed ?_ | refine d_nil (by kernel_rfl) ?_ | refine o_yes rfl rfl rfl ?_ | refine o_no rfl rfl rfl (by decide) ?_ | refine o_no' rfl rfl rfl ?_ | refine a_condT rfl ?_ | refine a_condF rfl ?_ | refine d_no rfl rfl rfl (by decide) ?_ | refine d_no' rfl rfl rfl ?_ | (refine wq2 (fun hb => ?_) (fun hb => ?_) <;> (simp only [hb]; try simp only [hbs, ne_eq] at hb; try (exfalso; first | omega | exact hb trivial))) | fail)
  all_goals refine rq rfl ?_
  all_goals exact fnq
end Go.Proofs.YtilgagmfcdfjaaaGreat
namespace Go.Proofs.YtilgagmfcdfjaaaGreat
open Go.RowKit
set_option linter.unusedSimpArgs false
set_option linter.unusedVariables false

def hStep (h : Nat) (b : UInt8) : Nat := ((h ^^^ b.toNat) * 16777619) % 4294967296
def hBase : Nat := 2166136261
def hashN (l : List UInt8) : Nat := l.foldl hStep hBase
theorem hashN_nil : hashN [] = hBase := rfl
theorem hashN_snoc (l : List UInt8) (b : UInt8) : hashN (l ++ [b]) = hStep (hashN l) b := by unfold hashN; rw [List.foldl_append, List.foldl_cons, List.foldl_nil]
theorem hStep_lt (h : Nat) (b : UInt8) : hStep h b < 4294967296 := Nat.mod_lt _ (by omega)
theorem hashN_lt (l : List UInt8) : hashN l < 4294967296 := by
  rcases List.eq_nil_or_concat l with rfl | ⟨m, x, rfl⟩
  · rw [hashN_nil]; unfold hBase; omega
  · rw [List.concat_eq_append, hashN_snoc]; exact hStep_lt _ _

/-- the group of a text -/
def grpV (l : List UInt8) (g : Int) : Int := if g < 1 then 0 else (hashN l : Int) % g
theorem grpV_low {l : List UInt8} {g : Int} (h : g < 1) : grpV l g = 0 := if_pos h
theorem grpV_high {l : List UInt8} {g : Int} (h : ¬ g < 1) : grpV l g = (hashN l : Int) % g := if_neg h

attribute [local go_sem ↓] Go.wp_at_zero Go.wp_at_succ

theorem bytes_snoc (s : ByteArray) (k : Nat) (h : k < s.size) : s.data.toList.take (k + 1) = s.data.toList.take k ++ [s[k]] := by
  rw [List.take_succ_eq_append_getElem (by simpa using h)]; rfl
theorem h32 (q : Nat) (b : UInt8) (hq : q < 4294967296) : bits .xor .u32 (q : Int) ((b.toNat : Int) % 4294967296) * 16777619 % 4294967296 = ((hStep q b : Nat) : Int) := by
  have hb : b.toNat < 256 := b.toNat_lt
  rw [show ((b.toNat : Int) % 4294967296) = (b.toNat : Int) from by omega, u32_xor_nat q b.toNat hq (by omega)]
  unfold hStep
  omega

theorem h64 (q : Nat) (b : UInt8) (hq : q < 4294967296) : (IntKind.u64.wrap (bits .xor .u64 (q : Int) (IntKind.u64.wrap (b.toNat : Int)) * 16777619)).tmod 4294967296 = ((hStep q b : Nat) : Int) := by
  have hb : b.toNat < 256 := b.toNat_lt
  have hx : q ^^^ b.toNat < 2 ^ 32 := Nat.xor_lt_two_pow (by omega) (by omega)
  rw [show IntKind.u64.wrap (b.toNat : Int) = (b.toNat : Int) from by rw [IntKind.wrap_u64]; omega, u64_xor_nat q b.toNat (by omega) (by omega)]
  rw [show IntKind.u64.wrap (((q ^^^ b.toNat : Nat) : Int) * 16777619) = ((q ^^^ b.toNat : Nat) : Int) * 16777619 from by rw [IntKind.wrap_u64]; omega]
  rw [Int.tmod_eq_emod_of_nonneg (by omega)]
  unfold hStep
  omega

theorem ring_Hash (s : ByteArray) (w : World) (hs : s.size ≤ 1000000) :
    Calls Tryz.prog 152 #[.string s] w fun e w' => ∃ q : Nat, Hid (q = hashN s.data.toList) ∧ e = .returned (.int .u32 q) ∧ w = w' := by
  have hs' : (s.size : Int) ≤ 1000000 := by omega
  go_enter Tryz.func152, Tryz.ntmps152
  go_wp2
  go_loop [3, 7] (fun h i => ∃ (k q : Nat), k ≤ s.size ∧ i = .int .i64 k ∧ h = .int .u32 q ∧ Hid (q = hashN (s.data.toList.take k)) ∧ q < 4294967296) (fun _ i => s.size - (intOf i).toNat)
  case atStart => exact ⟨0, 2166136261, Nat.zero_le _, rfl, rfl, hide rfl, by omega⟩
  case round =>
    obtain ⟨k, q, hk, rfl, rfl, HQ, hq⟩ := hrel
    by_cases hlt : k < s.size
    · have hlt' : (k : Int) < s.size := by omega
      go_wp2
      go_round
      case rel =>
        refine ⟨k + 1, hStep q s[k], by omega, by go_num, ?_, hide ?_, hStep_lt _ _⟩
        · rw [h32 q s[k] hq]
        · rw [bytes_snoc s k hlt, hashN_snoc, ← HQ.out]
      case measure => simp [intOf]; omega
    · have hk' : k = s.size := by omega
      go_wp2
      go_ret
      refine ⟨q, ?_, rfl, rfl⟩
      subst hk'
      rw [List.take_of_length_le (by simp)] at HQ
      exact HQ

theorem ring_Group (s : ByteArray) (g : Int) (w : World) (hs : s.size ≤ 1000000) (hg : -9223372036854775808 ≤ g ∧ g ≤ 9223372036854775807) :
    Calls Tryz.prog 131 #[.string s, .int .i64 g] w fun e w' => e = .returned (.int .i64 (grpV s.data.toList g)) ∧ w = w' := by
  by_cases h1 : g < 1
  · rw [grpV_low h1]
    go_enter Tryz.func131, Tryz.ntmps131
    go_wp2
    go_ret
    exact ⟨rfl, rfl⟩
  · rw [grpV_high h1]
    have h2 : 1 ≤ g := by omega
    have h3 := hg.2
    go_enter Tryz.func131, Tryz.ntmps131
    go_wp2_with fail
    refine (ring_Hash s _ hs).mono ?_
    rintro e w' ⟨q, HQ, rfl, rfl⟩
    have hq : (q : Int) < 4294967296 := by have := hashN_lt s.data.toList; have := HQ.out; omega
    have hq0 : 0 ≤ (q : Int) := by omega
    have z : (g == 0) = false := by simp; omega
    have hm0 : 0 ≤ (q : Int) % g := Int.emod_nonneg _ (by omega)
    have hm1 : (q : Int) % g < g := Int.emod_lt_of_pos _ (by omega)
    go_wp2
    go_ret
    refine ⟨?_, rfl⟩
    rw [HQ.out]; rfl

def Lt.vals (x : Lt) : List Value := [.int .i64 x.input, .int .i64 x.it.kind, .string x.it.key, .int .i64 x.it.at', .int .i64 x.it.val, .int .i64 x.it.mark, .int .i64 x.it.n, .int .i64 x.it.lo, .int .i64 x.it.hi, .string x.it.rkey, .int .i64 x.it.rn, .int .i64 x.it.rval]
theorem ok_rGrp : CallOK Tryz.prog 131 := ⟨_, Tryz.func131, by kernel_rfl, rfl⟩
theorem p_rGrp (s : ByteArray) (g : Int) (hs : s.size ≤ 1000000) (hg : -9223372036854775808 ≤ g ∧ g ≤ 9223372036854775807) : PC Tryz.prog 131 [.v (.string s), .v (.int .i64 g)] (.v (.int .i64 (grpV s.data.toList g))) :=
  pc_of_calls (xs := [.string s, .int .i64 g]) ok_rGrp (fun w => (ring_Group s g w hs hg).mono fun e w' ⟨h1, h2⟩ => ⟨h1, by rw [← h2]; exact Below.refl _ _⟩) rfl
theorem itR_key {x : It} (h : itR x = true) (hk : x.kind = 1) : x.key.size ≤ 1000000 := by
  obtain ⟨kind, k, av, v, m, n, lo, hi, rk, rn, rv⟩ := x
  dsimp only at hk ⊢
  subst hk
  simp only [itR, if_true, evR, keyB, Bool.and_eq_true, decide_eq_true_eq] at h
  omega
/-! what is known of the answer -/
theorem al_len {a : Al} {i : Int} {x : It} (h1 : a.got.length ≤ 9223372036854775807) (h2 : a.held.length ≤ 9223372036854775807) (h3 : ∀ l ∈ a.held, l.length ≤ 9223372036854775807) :
    (alOffer a i x).a.got.length ≤ 9223372036854775807 ∧ (alOffer a i x).a.held.length ≤ 9223372036854775807 ∧ (∀ l ∈ (alOffer a i x).a.held, l.length ≤ 9223372036854775807) ∧ (alOffer a i x).late.length ≤ 1000 := by
  have hz : alZ.got.length ≤ 9223372036854775807 ∧ alZ.held.length ≤ 9223372036854775807 ∧ (∀ l ∈ alZ.held, l.length ≤ 9223372036854775807) ∧ ([] : List Lt).length ≤ 1000 := ⟨by simp [alZ], by simp [alZ], by simp [alZ], by simp⟩
  unfold alOffer
  split
  · exact hz
  rename_i hc
  have hR : alR a = true := by
    cases h : alR a
    · exfalso; apply hc; simp [alHas, h]
    · rfl
  obtain ⟨b1, b2, b3, b4, b5, b6, b7, b8⟩ := alR_ok hR
  split
  · split
    · exact hz
    · rename_i hl
      refine ⟨h1, by dsimp only; rw [List.length_set]; exact h2, fun l hm => ?_, by simp⟩
      dsimp only at hm
      rcases List.mem_or_eq_of_mem_set hm with hm | rfl
      · exact h3 l hm
      · rw [List.length_append]; simp only [List.length_cons, List.length_nil]; omega
  · split
    · exact ⟨h1, h2, h3, by simp⟩
    · split
      · exact hz
      · split
        · exact ⟨by dsimp only; rw [List.length_set]; exact h1, h2, h3, by simp⟩
        · have g1 : (newGot a.got.length).length ≤ 8 := by unfold newGot; split <;> simp <;> omega
          have g2 : (newHeld a.got.length).length ≤ 8 := by unfold newHeld; split <;> simp <;> omega
          refine ⟨by dsimp only; omega, by dsimp only; omega, fun l hl => ?_, ?_⟩
          · dsimp only [newHeld] at hl
            split at hl
            · rw [(List.mem_replicate.1 hl).2]; simp
            · simp at hl
          · have := latesN_le (held := a.held) (by omega) b8 a.held.length (Nat.le_refl _)
            dsimp only
            omega
theorem tell_len (m : Mk) : (mkTell m).m.ins.length ≤ m.ins.length ∧ (mkTell m).m.hs.length ≤ m.hs.length := by
  unfold mkTell
  split
  · simp [mkZ]
  · split <;> simp
structure TkOk (r : TkW) : Prop where
  w : WkOk r.w
  told : r.told.length ≤ 9223372036854775807
  late : r.late.length ≤ 9223372036854775807
theorem fail_ok (e : Int) : TkOk (wkFail e) := ⟨wkZ_ok, Nat.zero_le _, Nat.zero_le _⟩
theorem go_ok {j : Jb} {gs : List Gp} {m : Mk} {al : Al} {told : Int} (h1 : gs.length ≤ 1000) (h2 : ∀ g ∈ gs, g.ps.length ≤ 9223372036854775807) (h3 : m.ins.length ≤ 9223372036854775807) (h4 : m.hs.length ≤ 9223372036854775807) (h5 : al.got.length ≤ 9223372036854775807) (h6 : al.held.length ≤ 9223372036854775807) (h7 : ∀ l ∈ al.held, l.length ≤ 9223372036854775807) : TkOk (wkGo j gs m al told) := by
  have ht := tell_len m
  unfold wkGo
  split
  · refine ⟨⟨by simp [advM]; omega, fun g hg => ?_, by dsimp only; omega, by dsimp only; omega, h5, h6, h7⟩, ?_, Nat.zero_le _⟩
    · obtain ⟨y, hy, rfl⟩ := List.mem_map.1 hg
      have := h2 y hy
      show (gpAdv j (mkTell m).t y).ps.length ≤ _
      unfold gpAdv adv
      split
      · simp
      split
      · simp
      split
      · exact this
      · dsimp only
        unfold dueRB
        split
        · exact Nat.le_trans (dueB_le _ _) this
        · simp
    · have := advT_le j (mkTell m).t gs
      dsimp only
      rw [List.length_append]
      simp
      omega
  · exact ⟨⟨by dsimp only; omega, h2, by dsimp only; omega, by dsimp only; omega, h5, h6, h7⟩, Nat.zero_le _, Nat.zero_le _⟩
theorem take_ok (ok : Bool) (j : Jb) (no : Int) (w : Wk) (input : Int) (x : It) (hw : WkOk w) : TkOk (wkTake ok j no w input x) := by
  obtain ⟨a1, a2, a3, a4⟩ := al_len (i := input) (x := x) hw.got hw.held hw.its
  have k1 := mkSet_len w.mks input 0
  have k2 := mkSet_len w.mks input x.mark
  have k3 := mkIdle_len w.mks input
  have g3 := hw.ins
  have g4 := hw.hs
  unfold wkTake
  split
  · exact fail_ok _
  split
  · exact fail_ok _
  rename_i he
  have hgl : w.gs.length ≤ 1000 := by
    have h : wkR w = true := by
      cases h : wkR w
      · exfalso; apply he; left; rw [h]; rfl
      · rfl
    simp only [wkR, Bool.and_eq_true] at h
    have := gsR_le h.1
    omega
  split
  · exact fail_ok _
  split
  · exact ⟨⟨hw.gs, hw.ps, hw.ins, hw.hs, a1, a2, a3⟩, by simp, by dsimp only; omega⟩
  split
  · exact ⟨⟨hw.gs, hw.ps, hw.ins, hw.hs, a1, a2, a3⟩, by simp, by simp⟩
  split
  · split
    · exact fail_ok _
    · exact go_ok (by simp [putM]; exact hgl) (putM_ok hw.ps) (by omega) (by omega) a1 a2 a3
  split
  · exact go_ok hgl hw.ps (by omega) (by omega) a1 a2 a3
  split
  · exact go_ok hgl hw.ps (by omega) (by omega) a1 a2 a3
  · exact go_ok hgl hw.ps hw.ins hw.hs a1 a2 a3
/-- an item at one's own number of groups -/
def tkJ (j : Jb) (w : Wk) (i : Int) (x : It) : TkW := wkTake (jobOK j.g j.s j.d j.k j.fu j.li j.de j.id) j (grpV x.key.data.toList j.g) w i x
structure RnW where
  w : Wk
  told : List It
  e : Int
def rnFail (e : Int) : RnW := ⟨wkZ, [], e⟩
def rnLoop (f : Wk → Int → It → RnW) : List Lt → Wk → List It → RnW
  | [], w, out => ⟨w, out, 0⟩
  | x :: l, w, out => if (f w x.input x.it).e ≠ 0 then rnFail (f w x.input x.it).e else rnLoop f l (f w x.input x.it).w (out ++ (f w x.input x.it).told)
def rnT (f : Wk → Int → It → RnW) (t : TkW) : RnW := if t.e ≠ 0 then rnFail t.e else rnLoop f t.late t.w t.told
/-- .. and all that waited, one behind the other -/
def wkRun (j : Jb) : Nat → Wk → Int → It → RnW
  | 0, _, _, _ => rnFail 0
  | n + 1, w, i, x => rnT (wkRun j n) (tkJ j w i x)
def RnW.av (x : RnW) : AV := .tup [.agg x.w.av, .sl 11 (x.told.map It.av), .v (.int .i64 x.e)]
/-- how many items wait -/
def heldN (a : Al) : Nat := (a.held.map List.length).sum
def tri : Nat → Nat
  | 0 => 0
  | n + 1 => tri n + (n + 1)
def ItV (x : It) : Prop := -9223372036854775808 ≤ x.val ∧ x.val ≤ 9223372036854775807
def HV (w : Wk) : Prop := ∀ l ∈ w.al.held, ∀ x ∈ l, ItV x
theorem tri_mono {m n : Nat} (h : m ≤ n) : tri m ≤ tri n := by
  induction n with
  | zero => have : m = 0 := by omega
            subst this; exact Nat.le_refl _
  | succ n ih =>
    by_cases e : m = n + 1
    · subst e; exact Nat.le_refl _
    · have := ih (by omega)
      simp only [tri]; omega
theorem tri_le {n : Nat} (h : n ≤ 128) : tri n ≤ 8256 := Nat.le_trans (tri_mono h) (by decide +kernel)
theorem sum_set {l : List (List It)} {i : Nat} {x : It} : ((l.set i (l.getD i [] ++ [x])).map List.length).sum ≤ (l.map List.length).sum + 1 := by
  induction l generalizing i with
  | nil => simp
  | cons a l ih =>
    cases i with
    | zero => simp; omega
    | succ i => simp only [List.set_cons_succ, List.map_cons, List.sum_cons]; have := @ih i; simp only [List.getD_cons_succ]; omega
theorem latesN_len (held : List (List It)) : ∀ q, q ≤ held.length → (latesN held q).length = ((held.take q).map List.length).sum := by
  intro q
  induction q with
  | zero => intro _; simp [latesN]
  | succ q ih =>
    intro hq
    rw [latesN_succ held q (by omega), List.length_append, ih (by omega), List.take_succ_eq_append_getElem (by omega), List.map_append, List.sum_append, List.map_cons, List.map_nil, List.sum_cons, List.sum_nil]
    simp only [lts, List.length_map, Nat.add_zero]
theorem latesN_mem {held : List (List It)} {q : Nat} {x : Lt} (h : x ∈ latesN held q) : ∃ l ∈ held, x.it ∈ l := by
  obtain ⟨k, _, h1⟩ := List.mem_flatMap.1 h
  obtain ⟨y, hy, rfl⟩ := List.mem_map.1 h1
  by_cases hk : k < held.length
  · rw [getD_at hk] at hy; exact ⟨_, List.getElem_mem hk, hy⟩
  · simp [List.getD, List.getElem?_eq_none (Nat.le_of_not_lt hk)] at hy
theorem newHeld_sum (n : Nat) : ((newHeld n).map List.length).sum = 0 := by
  unfold newHeld
  split
  · simp [List.map_replicate, List.sum_replicate_nat]
  · rfl
/-- what an offer makes of those that wait -/
theorem offer_held (a : Al) (i : Int) (x : It) (hx : ItV x) (ha : ∀ l ∈ a.held, ∀ y ∈ l, ItV y) :
    heldN (alOffer a i x).a ≤ heldN a + 1 ∧ (∀ l ∈ (alOffer a i x).a.held, ∀ y ∈ l, ItV y) ∧ (∀ y ∈ (alOffer a i x).late, ItV y.it) ∧ ((alOffer a i x).late ≠ [] → heldN (alOffer a i x).a = 0 ∧ (alOffer a i x).late.length = heldN a) := by
  have hz : heldN alZ ≤ heldN a + 1 ∧ (∀ l ∈ alZ.held, ∀ y ∈ l, ItV y) ∧ (∀ y ∈ ([] : List Lt), ItV y.it) ∧ (([] : List Lt) ≠ [] → heldN alZ = 0 ∧ ([] : List Lt).length = heldN a) := ⟨by simp [alZ, heldN], by simp [alZ], by simp, by simp⟩
  unfold alOffer
  split
  · exact hz
  split
  · split
    · exact hz
    · refine ⟨by simp only [heldN]; exact sum_set, fun l hl y hy => ?_, by simp, by simp⟩
      rcases List.mem_or_eq_of_mem_set hl with h | rfl
      · exact ha l h y hy
      · rcases List.mem_append.1 hy with h | h
        · by_cases hk : i.toNat < a.held.length
          · rw [getD_at hk] at h; exact ha _ (List.getElem_mem hk) y h
          · simp [List.getD, List.getElem?_eq_none (Nat.le_of_not_lt hk)] at h
        · simp only [List.mem_singleton] at h; subst h; exact hx
  split
  · exact ⟨Nat.le_succ _, ha, by simp, by simp⟩
  split
  · exact hz
  split
  · exact ⟨Nat.le_succ _, ha, by simp, by simp⟩
  · refine ⟨by simp only [heldN, newHeld_sum]; omega, fun l hl y hy => ?_, fun y hy => ?_, fun _ => ⟨by simp only [heldN, newHeld_sum], ?_⟩⟩
    · dsimp only [newHeld] at hl
      split at hl
      · rw [(List.mem_replicate.1 hl).2] at hy; simp at hy
      · simp at hl
    · obtain ⟨l, h1, h2⟩ := latesN_mem hy
      exact ha l h1 _ h2
    · dsimp only
      rw [latesN_len _ _ (Nat.le_refl _), List.take_length]; rfl
structure TkHd (w : Wk) (t : TkW) : Prop where
  n : heldN t.w.al ≤ heldN w.al + 1
  hv : HV t.w
  late : ∀ y ∈ t.late, ItV y.it
  all : t.late ≠ [] → heldN t.w.al = 0 ∧ t.late.length = heldN w.al ∧ t.e = 0
  told : t.told.length ≤ 100000
  one : t.late ≠ [] → t.told.length = 1
theorem fail_hd (w : Wk) (e : Int) : TkHd w (wkFail e) := ⟨by simp [wkFail, wkZ, heldN], by simp [wkFail, wkZ, HV], by simp [wkFail], by simp [wkFail], by simp [wkFail], by simp [wkFail]⟩
theorem go_hd (j : Jb) (w : Wk) (gs : List Gp) (m : Mk) (al : Al) (told : Int) (h1 : gs.length ≤ 32) (h2 : heldN al ≤ heldN w.al + 1) (h3 : ∀ l ∈ al.held, ∀ x ∈ l, ItV x) : TkHd w (wkGo j gs m al told) := by
  unfold wkGo
  split
  · refine ⟨h2, h3, by simp, by simp, ?_, by simp⟩
    have := advT_le j (mkTell m).t gs
    dsimp only
    rw [List.length_append]
    simp
    omega
  · exact ⟨h2, h3, by simp, by simp, by simp, by simp⟩
theorem take_hd (ok : Bool) (j : Jb) (no : Int) (w : Wk) (i : Int) (x : It) (hw : HV w) (hx : ItV x) : TkHd w (wkTake ok j no w i x) := by
  obtain ⟨a1, a2, a3, a4⟩ := offer_held w.al i x hx hw
  unfold wkTake
  split
  · exact fail_hd _ _
  split
  · exact fail_hd _ _
  rename_i he
  have hgl : w.gs.length ≤ 32 := by
    have h : wkR w = true := by
      cases h : wkR w
      · exfalso; apply he; left; rw [h]; rfl
      · rfl
    simp only [wkR, Bool.and_eq_true] at h
    exact gsR_le h.1
  split
  · exact fail_hd _ _
  split
  · exact ⟨a1, a2, a3, fun h => ⟨(a4 h).1, (a4 h).2, rfl⟩, by simp, by simp⟩
  split
  · exact ⟨a1, a2, by simp, by simp, by simp, by simp⟩
  split
  · split
    · exact fail_hd _ _
    · exact go_hd j w _ _ _ _ (by simp [putM]; exact hgl) a1 a2
  split
  · exact go_hd j w _ _ _ _ hgl a1 a2
  split
  · exact go_hd j w _ _ _ _ hgl a1 a2
  · exact go_hd j w _ _ _ _ hgl a1 a2
theorem late_le (ok : Bool) (j : Jb) (no : Int) (w : Wk) (i : Int) (x : It) : (wkTake ok j no w i x).late.length ≤ 128 := by
  have hz : ∀ e, (wkFail e).late.length ≤ 128 := fun e => by simp [wkFail]
  have hg : ∀ gs m al told, (wkGo j gs m al told).late.length ≤ 128 := fun gs m al told => by unfold wkGo; split <;> simp
  have ho : (alOffer w.al i x).late.length ≤ 128 := by
    unfold alOffer
    split
    · simp
    rename_i hc
    have hR : alR w.al = true := by
      cases h : alR w.al
      · exfalso; apply hc; simp [alHas, h]
      · rfl
    obtain ⟨b1, b2, b3, b4, b5, b6, b7, b8⟩ := alR_ok hR
    split
    · split <;> simp
    · split
      · simp
      split
      · simp
      split
      · simp
      · have := latesN_le (held := w.al.held) (by omega) b8 w.al.held.length (Nat.le_refl _)
        dsimp only
        omega
  unfold wkTake
  split
  · exact hz _
  split
  · exact hz _
  split
  · exact hz _
  split
  · exact ho
  split
  · simp
  split
  · split
    · exact hz _
    · exact hg _ _ _ _
  split
  · exact hg _ _ _ _
  split
  · exact hg _ _ _ _
  · exact hg _ _ _ _
/-- what is known of a run -/
structure RnOk (w : Wk) (r : RnW) : Prop where
  ok : WkOk r.w
  hv : HV r.w
  n : heldN r.w.al ≤ heldN w.al + 1
  told : r.told.length + 100000 * tri (heldN r.w.al) ≤ 100000 * (tri (heldN w.al + 1) + 1)
theorem rnFail_ok (w : Wk) (e : Int) : RnOk w (rnFail e) := ⟨wkZ_ok, by simp [rnFail, wkZ, HV], by simp [rnFail, wkZ, heldN], by simp [rnFail, wkZ, heldN, tri]⟩
/-- on the way -/
structure LpOk (w : Wk) (out : List It) (q : Nat) : Prop where
  ok : WkOk w
  hv : HV w
  n : heldN w.al ≤ q
  told : out.length + 100000 * tri (heldN w.al) ≤ 1 + 100000 * (tri q + q)
theorem LpOk.step {w : Wk} {out : List It} {q : Nat} {r : RnW} (h : LpOk w out q) (k : RnOk w r) : LpOk r.w (out ++ r.told) (q + 1) := by
  obtain ⟨h1, h2, h3, h4⟩ := h
  obtain ⟨k1, k2, k3, k4⟩ := k
  refine ⟨k1, k2, by omega, ?_⟩
  rw [List.length_append]
  simp only [tri] at k4 ⊢
  omega
theorem loop_ok {f : Wk → Int → It → RnW} : ∀ (l : List Lt) (w : Wk) (out : List It) (q : Nat), LpOk w out q → (∀ y ∈ l, ItV y.it) → (∀ w i x, WkOk w → HV w → ItV x → heldN w.al < q + l.length → RnOk w (f w i x)) → ((rnLoop f l w out).e = 0 ∧ LpOk (rnLoop f l w out).w (rnLoop f l w out).told (q + l.length)) ∨ ∃ e, rnLoop f l w out = rnFail e
  | [], w, out, q, h, _, _ => .inl ⟨rfl, h⟩
  | y :: l, w, out, q, h, hl, hf => by
    simp only [rnLoop]
    have hk := hf w y.input y.it h.ok h.hv (hl y (by simp)) (by have := h.n; simp only [List.length_cons]; omega)
    split
    · exact .inr ⟨_, rfl⟩
    · have := loop_ok l _ _ (q + 1) (h.step hk) (fun z hz => hl z (by simp [hz])) (fun w i x a b c d => hf w i x a b c (by simp only [List.length_cons]; omega))
      rw [List.length_cons, Nat.add_comm l.length 1, ← Nat.add_assoc]
      exact this
theorem start_ok {j : Jb} {w : Wk} {i : Int} {x : It} (hw : WkOk w) (hv : HV w) (hx : ItV x) (hl : (tkJ j w i x).late ≠ []) : LpOk (tkJ j w i x).w (tkJ j w i x).told 0 := by
  have h := take_hd (jobOK j.g j.s j.d j.k j.fu j.li j.de j.id) j (grpV x.key.data.toList j.g) w i x hv hx
  have h2 := take_ok (jobOK j.g j.s j.d j.k j.fu j.li j.de j.id) j (grpV x.key.data.toList j.g) w i x hw
  refine ⟨h2.w, h.hv, by rw [show heldN (tkJ j w i x).w.al = 0 from (h.all hl).1]; exact Nat.le_refl _, ?_⟩
  rw [show heldN (tkJ j w i x).w.al = 0 from (h.all hl).1, show (tkJ j w i x).told.length = 1 from h.one hl]
  simp [tri]
theorem run_ok (j : Jb) : ∀ (n : Nat) (w : Wk) (i : Int) (x : It), WkOk w → HV w → ItV x → RnOk w (wkRun j n w i x)
  | 0, w, i, x, _, _, _ => rnFail_ok w 0
  | n + 1, w, i, x, hw, hv, hx => by
    have h := take_hd (jobOK j.g j.s j.d j.k j.fu j.li j.de j.id) j (grpV x.key.data.toList j.g) w i x hv hx
    have h2 := take_ok (jobOK j.g j.s j.d j.k j.fu j.li j.de j.id) j (grpV x.key.data.toList j.g) w i x hw
    simp only [wkRun, rnT]
    split
    · exact rnFail_ok w _
    by_cases hl : (tkJ j w i x).late = []
    · rw [hl]
      simp only [rnLoop]
      refine ⟨h2.w, h.hv, h.n, ?_⟩
      have h3 := h.n
      have h4 := h.told
      have h5 := tri_mono h3
      show (tkJ j w i x).told.length + 100000 * tri (heldN (tkJ j w i x).w.al) ≤ _
      change (tkJ j w i x).told.length ≤ _ at h4
      change tri (heldN (tkJ j w i x).w.al) ≤ _ at h5
      omega
    · have ho := start_ok hw hv hx hl
      rcases loop_ok (tkJ j w i x).late (tkJ j w i x).w (tkJ j w i x).told 0 ho h.late (fun w i x a b c _ => run_ok j n w i x a b c) with ⟨h3, h4⟩ | ⟨e, h3⟩
      · obtain ⟨k1, k2, k3, k4⟩ := h4
        have hlen : (tkJ j w i x).late.length = heldN w.al := (h.all hl).2.1
        rw [hlen] at k3 k4
        refine ⟨k1, k2, by omega, ?_⟩
        simp only [tri, Nat.zero_add] at k4 ⊢
        omega
      · rw [h3]; exact rnFail_ok w e
end Go.Proofs.YtilgagmfcdfjaaaGreat
