/-
  Workers, walked over abstract values: an event, and time that goes on.
  Marks, walked over abstract values: an input that tells a time, or is idle; what can be told, by the reference.
-/
import Derived.Test.YtagfjnjpgphnjaaGreatK4
import Derived.Test.YtagfjnjpgphnjaaGreatK12
import Derived.Test.YtagfjnjpgphnjaaGreatK14
import Derived.Test.YtagfjnjpgphnjaaGreatK15
import Derived.Test.YtagfjnjpgphnjaaGreatK18
namespace Go.Proofs.YtagfjnjpgphnjaaGreat
open Go.RowKit
set_option linter.unusedSimpArgs false
set_option linter.unusedVariables false
section
variable (m : Mk) (a : Al) (told : Int) (j : Jb) (input : Int) (x : It)
theorem pureG (g : Gp) : ∀ (σ : Store) (μ : Nat → Value) (w : World) (A : Nat → Prop) (z : Value), rep σ μ w A (.agg g.av) z → rep [] μ w A (.agg g.av) z := by
  intro σ μ w A z h
  simpa only [Gp.av, rep, repC] using h
set_option maxRecDepth 10000 in
set_option maxHeartbeats 8000000 in
theorem y_event (no : Int) (gs : List Gp) (hx : gs.length ≤ 1000) (hp : ∀ g ∈ gs, g.ps.length ≤ 9223372036854775807) (hi : m.ins.length ≤ 9223372036854775807) (hh : m.hs.length ≤ 9223372036854775807)
    (hgrp : PC Tryz.prog 148 [.v (.string x.key), .v (.int .i64 j.g)] (.v (.int .i64 no))) :
    ((∀ g ∈ gs, ¬ g.no = no) ∧ AC Tryz.prog 102 [.ref 0 0] [(0, .box 123 (wayC (.own 1 (gs.map Gp.av).length) nilA m a told j input x)), (1, .row 109 3 (gs.map Gp.av))] (.v (.int .i64 160)) [(0, .box 123 (wayC (.own 1 (gs.map Gp.av).length) nilA m a told j input x)), (1, .row 109 3 (gs.map Gp.av))]) ∨
    ∃ (q : Nat) (hq : q < gs.length), gs[q].no = no ∧ (((gpTake j x gs[q]).e ≠ 0 ∧ AC Tryz.prog 102 [.ref 0 0] [(0, .box 123 (wayC (.own 1 (gs.map Gp.av).length) nilA m a told j input x)), (1, .row 109 3 (gs.map Gp.av))] (.v (.int .i64 (gpTake j x gs[q]).e)) [(0, .box 123 (wayC (.own 1 (gs.map Gp.av).length) nilA m a told j input x)), (1, .row 109 3 (gs.map Gp.av))]) ∨
      ((gpTake j x gs[q]).e = 0 ∧ AC Tryz.prog 102 [.ref 0 0] [(0, .box 123 (wayC (.own 1 (gs.map Gp.av).length) nilA m a told j input x)), (1, .row 109 3 (gs.map Gp.av))] (.v (.int .i64 (mkSet m input 0).e)) [(0, .box 123 (wayC (.own 1 (gs.map Gp.av).length) nilA (mkSet m input 0).m a told j input x)), (1, .row 109 3 ((gs.map Gp.av).set q (Gp.av (gpTake j x gs[q]).gp)))])) := by
  obtain ⟨q, b, hb1, hb2, hf⟩ := y_find no gs hx
  cases b
  · refine .inl ⟨hb2 rfl, ?_⟩
    unfold wayC
    refine (ac_body tab_ok Tryz.func102 rfl (by kernel_rfl) rfl ?_); intro w0 M μ0; simp only [Tryz.ntmps102, List.length_cons, List.length_nil, Nat.reduceAdd, Nat.reduceSub, numb]
    repeat' (first | ((first | apply o_do | apply d_do | apply d_yes rfl rfl rfl); first | exact ls_nilCheck rfl rfl | exact lsc (hgrp) | exact ls_callA [2, 1] 3 hf rfl rfl (by (repeat' (first | exact NilL.nil | refine NilL.cons Nil.same ?_ | refine NilL.cons Nil.nil ?_ | refine NilL.cons (Nil.agg ?_) ?_ | exact Nil1s.nil | refine Nil1s.cons Nil1.same ?_ | refine Nil1s.cons Nil1.nil ?_)); first | done | fail) rfl (by repeat' (first | exact trivial | refine ⟨⟨_, rfl, by first | rfl | (simp [renO, *]; done)⟩, ?_⟩)) (by first | rfl | simp [closO, *]) rfl rfl rfl rfl (by first | rfl | simp [closO, *]) rfl | exact lsq) | refine a_seq ?_ | refine a_region ?_ | refine o_nil ?_ | refine a_block ?_ | refine a_ret ?_ | refine a_exit ?_ | refine a_skip ?_ | refine a_draw mixed ?_ | refine d_nil (by kernel_rfl) ?_ | refine o_yes rfl rfl rfl ?_ | refine o_no rfl rfl rfl (by decide) ?_ | refine o_no' rfl rfl rfl ?_ | refine a_condT rfl ?_ | refine a_condF rfl ?_ | refine d_no rfl rfl rfl (by decide) ?_ | refine d_no' rfl rfl rfl ?_ | (refine wq2 (fun hb => ?_) (fun hb => ?_) <;> (simp only [hb]; try simp only [hbs, ne_eq] at hb; try (exfalso; first | omega | exact hb trivial))) | fail)
    refine rq rfl ?_
    exact fnq
  · obtain ⟨hq, hno⟩ := hb1 rfl
    refine .inr ⟨q, hq, hno, ?_⟩
    have hel : (gs.map Gp.av)[q]? = some (Gp.av gs[q]) := by simp [hq]
    have hqx : q < (gs.map Gp.av).length := by rw [List.length_map]; exact hq
    have ht := g_Take j.g j.s j.d j.k j.fu j.li j.de j.id gs[q].no gs[q].mark gs[q].ps x.key x.at' x.val (hp _ (List.getElem_mem hq))
    have hs := m_Set m input 0 hi hh
    generalize gs[q] = y at *
    obtain ⟨yn, ym, yp⟩ := y
    unfold gpTake
    dsimp only at ht ⊢
    generalize takeR j.s j.d j.k yn ym yp x.key x.at' x.val = T at *
    obtain ⟨tn, tm, tp, tc, te⟩ := T
    generalize mkSet m input 0 = S at *
    obtain ⟨sm, se⟩ := S
    simp only [TkR.av] at ht
    simp only [MkE.av, Mk.av] at hs
    dsimp only [TkR.gp]
    by_cases he : te = 0
    · refine .inr ⟨he, ?_⟩
      unfold wayC
      refine (ac_body tab_ok Tryz.func102 rfl (by kernel_rfl) rfl ?_); intro w0 M μ0; simp only [Tryz.ntmps102, List.length_cons, List.length_nil, Nat.reduceAdd, Nat.reduceSub, numb]
      repeat' (first | ((first | apply o_do | apply d_do | apply d_yes rfl rfl rfl); first | exact ls_nilCheck rfl rfl | exact lsc (hgrp) | exact ls_callA [2, 1] 3 hf rfl rfl (by (repeat' (first | exact NilL.nil | refine NilL.cons Nil.same ?_ | refine NilL.cons Nil.nil ?_ | refine NilL.cons (Nil.agg ?_) ?_ | exact Nil1s.nil | refine Nil1s.cons Nil1.same ?_ | refine Nil1s.cons Nil1.nil ?_)); first | done | fail) rfl (by repeat' (first | exact trivial | refine ⟨⟨_, rfl, by first | rfl | (simp [renO, *]; done)⟩, ?_⟩)) (by first | rfl | simp [closO, *]) rfl rfl rfl rfl (by first | rfl | simp [closO, *]) rfl | exact ls_indexAddr_own tab_ok rfl rfl rfl rfl rfl rfl hqx rfl | exact ls_load_eref tab_ok rfl rfl rfl hel rfl rfl rfl rfl | exact ls_store_eref (cs' := Gp.av ⟨tn, tm, tp⟩) tab_ok rfl rfl rfl rfl hel rfl rfl (pureG ⟨tn, tm, tp⟩) rfl rfl rfl rfl | exact lsc (ht) | exact lsc (hs) | exact lsq) | refine a_seq ?_ | refine a_region ?_ | refine o_nil ?_ | refine a_block ?_ | refine a_ret ?_ | refine a_exit ?_ | refine a_skip ?_ | refine a_draw mixed ?_ | refine d_nil (by kernel_rfl) ?_ | refine o_yes rfl rfl rfl ?_ | refine o_no rfl rfl rfl (by decide) ?_ | refine o_no' rfl rfl rfl ?_ | refine a_condT rfl ?_ | refine a_condF rfl ?_ | refine d_no rfl rfl rfl (by decide) ?_ | refine d_no' rfl rfl rfl ?_ | (refine wq2 (fun hb => ?_) (fun hb => ?_) <;> (simp only [hb]; try simp only [hbs, ne_eq] at hb; try (exfalso; first | omega | exact hb trivial))) | fail)
      refine rq rfl ?_
      exact fnq
    · refine .inl ⟨he, ?_⟩
      unfold wayC
      refine (ac_body tab_ok Tryz.func102 rfl (by kernel_rfl) rfl ?_); intro w0 M μ0; simp only [Tryz.ntmps102, List.length_cons, List.length_nil, Nat.reduceAdd, Nat.reduceSub, numb]
      repeat' (first | ((first | apply o_do | apply d_do | apply d_yes rfl rfl rfl); first | exact ls_nilCheck rfl rfl | exact lsc (hgrp) | exact ls_callA [2, 1] 3 hf rfl rfl (by (repeat' (first | exact NilL.nil | refine NilL.cons Nil.same ?_ | refine NilL.cons Nil.nil ?_ | refine NilL.cons (Nil.agg ?_) ?_ | exact Nil1s.nil | refine Nil1s.cons Nil1.same ?_ | refine Nil1s.cons Nil1.nil ?_)); first | done | fail) rfl (by repeat' (first | exact trivial | refine ⟨⟨_, rfl, by first | rfl | (simp [renO, *]; done)⟩, ?_⟩)) (by first | rfl | simp [closO, *]) rfl rfl rfl rfl (by first | rfl | simp [closO, *]) rfl | exact ls_indexAddr_own tab_ok rfl rfl rfl rfl rfl rfl hqx rfl | exact ls_load_eref tab_ok rfl rfl rfl hel rfl rfl rfl rfl | exact lsc (ht) | exact lsc (hs) | exact lsq) | refine a_seq ?_ | refine a_region ?_ | refine o_nil ?_ | refine a_block ?_ | refine a_ret ?_ | refine a_exit ?_ | refine a_skip ?_ | refine a_draw mixed ?_ | refine d_nil (by kernel_rfl) ?_ | refine o_yes rfl rfl rfl ?_ | refine o_no rfl rfl rfl (by decide) ?_ | refine o_no' rfl rfl rfl ?_ | refine a_condT rfl ?_ | refine a_condF rfl ?_ | refine d_no rfl rfl rfl (by decide) ?_ | refine d_no' rfl rfl rfl ?_ | (refine wq2 (fun hb => ?_) (fun hb => ?_) <;> (simp only [hb]; try simp only [hbs, ne_eq] at hb; try (exfalso; first | omega | exact hb trivial))) | fail)
      refine rq rfl ?_
      exact fnq
set_option maxRecDepth 10000 in
set_option maxHeartbeats 8000000 in
theorem y_goNo (N : Nat) (G : List (List AV)) (hi : m.ins.length ≤ 9223372036854775807) (hh : m.hs.length ≤ 9223372036854775807) (hno : (mkTell m).is = false) :
    AC Tryz.prog 59 [.ref 0 0] [(0, .box 123 (wayC (.own 1 N) nilA m a told j input x)), (1, .row 109 3 G)] (.v (.int .i64 0)) [(0, .box 123 (wayC (.own 1 N) nilA (mkTell m).m a told j input x)), (1, .row 109 3 G)] := by
  have h := m_Tell m hi hh
  generalize mkTell m = T at *
  obtain ⟨tm, tt, ti⟩ := T
  dsimp only at hno
  subst hno
  simp only [MkT.av, Mk.av] at h
  unfold wayC
  refine (ac_body tab_ok Tryz.func59 rfl (by kernel_rfl) rfl ?_); intro w0 M μ0; simp only [Tryz.ntmps59, List.length_cons, List.length_nil, Nat.reduceAdd, Nat.reduceSub, numb]
  repeat' (first | ((first | apply o_do | apply d_do | apply d_yes rfl rfl rfl); first | exact ls_nilCheck rfl rfl | exact lsc (h) | exact lsq) | refine a_seq ?_ | refine a_region ?_ | refine o_nil ?_ | refine a_block ?_ | refine a_ret ?_ | refine a_exit ?_ | refine a_skip ?_ | refine a_draw mixed ?_ | refine d_nil (by kernel_rfl) ?_ | refine o_yes rfl rfl rfl ?_ | refine o_no rfl rfl rfl (by decide) ?_ | refine o_no' rfl rfl rfl ?_ | refine a_condT rfl ?_ | refine a_condF rfl ?_ | refine d_no rfl rfl rfl (by decide) ?_ | refine d_no' rfl rfl rfl ?_ | (refine wq2 (fun hb => ?_) (fun hb => ?_) <;> (simp only [hb]; try simp only [hbs, ne_eq] at hb; try (exfalso; first | omega | exact hb trivial))) | fail)
  refine rq rfl ?_
  exact fnq
end
/-- groups of which the first ones have gone on -/
def advQ (j : Jb) (t : Int) (gs : List Gp) (q : Nat) : List Gp := advM j t (gs.take q) ++ gs.drop q
theorem advQ_len (j : Jb) (t : Int) (gs : List Gp) (q : Nat) : (advQ j t gs q).length = gs.length := by
  unfold advQ advM
  rw [List.length_append, List.length_map, List.length_take, List.length_drop]
  omega
theorem advQ_at (j : Jb) (t : Int) (gs : List Gp) (q : Nat) (h : q < gs.length) : (advQ j t gs q)[q]? = some gs[q] := by
  unfold advQ advM
  rw [List.getElem?_append_right (by rw [List.length_map, List.length_take]; omega), List.length_map, List.length_take, List.getElem?_drop]
  rw [show min q gs.length = q by omega, show q + (q - q) = q by omega]
  exact List.getElem?_eq_getElem h
theorem advQ_set (j : Jb) (t : Int) (gs : List Gp) (q : Nat) (h : q < gs.length) : (advQ j t gs q).set q (gpAdv j t gs[q]).gp = advQ j t gs (q + 1) := by
  have e : gs.drop q = gs[q] :: gs.drop (q + 1) := List.drop_eq_getElem_cons h
  unfold advQ
  rw [e, take_snoc gs q h, advM_snoc, List.set_append_right _ _ (by unfold advM; rw [List.length_map, List.length_take]; omega)]
  have : q - (advM j t (gs.take q)).length = 0 := by unfold advM; rw [List.length_map, List.length_take]; omega
  rw [this]
  simp only [List.set_cons_zero, List.append_assoc, List.singleton_append]
end Go.Proofs.YtagfjnjpgphnjaaGreat
namespace Go.Proofs.YtagfjnjpgphnjaaGreat
open Go.RowKit
set_option linter.unusedSimpArgs false
set_option linter.unusedVariables false
set_option maxHeartbeats 2000000 in
theorem r_with (ins : List (Int × Bool)) (hs : List (Int × Int)) (out : Int) (k : Nat) (x : Int × Bool) (hx : ins.length ≤ 8) : PC Tryz.prog 117 [.agg (Mk.av ⟨ins, hs, out⟩), .v (.int .i64 k), .agg (inAvM x)] (.agg (Mk.av ⟨ins.set k x, hs, out⟩)) := by
  obtain ⟨xm, xi⟩ := x
  simp only [Mk.av]
  have hls : (ins.set k (xm, xi)).length = ins.length := List.length_set
  refine PC.mk (ac_body tab_ok Tryz.func117 rfl (by kernel_rfl) rfl ?_); intro w0 M μ0; simp only [Tryz.ntmps117, List.length_cons, List.length_nil, Nat.reduceAdd, Nat.reduceSub, numb]
  repeat' (first | ((first | apply o_do | apply d_do | apply d_yes rfl rfl rfl); exact lsq) | refine a_seq ?_ | refine a_region ?_ | refine o_nil ?_ | refine a_block ?_ | refine a_ret ?_ | refine a_exit ?_ | refine a_skip ?_ | refine a_draw mixed ?_ | refine d_nil (by kernel_rfl) ?_ | refine o_yes rfl rfl rfl ?_ | refine o_no rfl rfl rfl (by decide) ?_ | refine o_no' rfl rfl rfl ?_ | refine a_condT rfl ?_ | refine a_condF rfl ?_ | refine d_no rfl rfl rfl (by decide) ?_ | refine d_no' rfl rfl rfl ?_ | (refine wq2 (fun hb => ?_) (fun hb => ?_) <;> (simp only [hb]; try simp only [hbs, ne_eq] at hb; try (exfalso; first | omega | exact hb trivial))) | fail)
  refine a_adoptB 3 0 4 189 2 rfl rfl rfl ?_
  refine a_loop (X := {q : Nat // q ≤ ins.length}) (fun x => ⟨[(1, .v (.int .i64 k)), (3, .ref 0 0), (5, .ref 1 0), (6, .ref 2 0), (7, .ref 3 0), (16, .sl 2 (ins.map inAvM)), (17, .v (.int .i64 ins.length)), (18, .v (.int .i64 x.1))], [(0, .box 36 [.sl 2 (ins.map inAvM), .sl 2 (hs.map hoAv), .v (.int .i64 out)]), (1, .box 189 [.v (.int .i64 xm), .v (.bool xi)]), (2, .box 36 [.v (.slice none 0 0), .v (.slice none 0 0), .v (.int .i64 0)]), (3, .box 36 [.own 4 (((ins.set k (xm, xi)).take x.1).map inAvM).length, .sl 2 (hs.map hoAv), .v (.int .i64 out)]), (4, .row 189 2 (((ins.set k (xm, xi)).take x.1).map inAvM))]⟩) (fun x => ins.length - x.1) ⟨0, Nat.zero_le _⟩ ?_ ?_
  · exact wkS
  rintro ⟨q, hq⟩
  dsimp only
  by_cases hlt : q < ins.length
  · have hel : (ins.map inAvM)[q]? = some (inAvM ins[q]) := by simp [hlt]
    have hsn := take_snoc (ins.set k (xm, xi)) q (by omega)
    have hl2 : (((ins.set k (xm, xi)).take q).map inAvM).length ≤ 8 := by rw [List.length_map, List.length_take]; omega
    rw [List.getElem_set] at hsn
    by_cases hk : k = q
    · subst hk
      rw [if_pos rfl] at hsn
      generalize ins[k] = y at *
      obtain ⟨ym, yi⟩ := y
      have e : ((ins.set k (xm, xi)).take (k + 1)).map inAvM = ((ins.set k (xm, xi)).take k).map inAvM ++ [inAvM (xm, xi)] := by rw [hsn, List.map_append]; rfl
      repeat' (first | ((first | apply o_do | apply d_do | apply d_yes rfl rfl rfl); first | exact ls_indexAddr_sl tab_ok rfl rfl rfl rfl (by assumption) rfl | exact ls_append tab_ok rfl rfl rfl rfl (by first | exact SrcIs.sl | exact SrcIs.nil | exact SrcIs.own rfl rfl) rfl (by (try simp only [List.length_cons, List.length_nil]); omega) rfl rfl | exact lsq) | refine a_seq ?_ | refine a_region ?_ | refine o_nil ?_ | refine a_block ?_ | refine a_ret ?_ | refine a_exit ?_ | refine a_skip ?_ | refine a_draw mixed ?_ | refine d_nil (by kernel_rfl) ?_ | refine o_yes rfl rfl rfl ?_ | refine o_no rfl rfl rfl (by decide) ?_ | refine o_no' rfl rfl rfl ?_ | refine a_condT rfl ?_ | refine a_condF rfl ?_ | refine d_no rfl rfl rfl (by decide) ?_ | refine d_no' rfl rfl rfl ?_ | (refine wq2 (fun hb => ?_) (fun hb => ?_) <;> (simp only [hb]; try simp only [hbs, ne_eq] at hb; try (exfalso; first | omega | exact hb trivial))) | fail)
      refine ⟨⟨k + 1, by omega⟩, by dsimp only; omega, ?_⟩
      refine ⟨by repeat' (first | exact trivial | exact FinA.one (FinB.cell (FinC.same rfl)) | exact FinA.one (FinB.cell FinC.nil) | exact FinA.bound rfl | exact FinA.one (FinB.cell (FinC.own rfl rfl rfl rfl)) | exact FinA.one (FinB.cell (FinC.v (by first | rfl | ((first | (simp only [e]; rfl) | simp))))) | exact FinA.one (FinB.cell (FinC.ow rfl (by first | rfl | ((first | (simp only [e]; rfl) | simp))))) | exact FinA.one (FinB.agg' rfl rfl) | refine ⟨⟨_, rfl, ?_⟩, ?_⟩), by repeat' (first | exact trivial | refine ⟨⟨_, rfl, by first | rfl | ((first | (simp only [e]; rfl) | simp); done) | (simp [renO, *]; done)⟩, by first | rfl | assumption, ?_⟩), rfl⟩
    · rw [if_neg hk] at hsn
      generalize ins[q] = y at *
      obtain ⟨ym, yi⟩ := y
      have e : ((ins.set k (xm, xi)).take (q + 1)).map inAvM = ((ins.set k (xm, xi)).take q).map inAvM ++ [inAvM (ym, yi)] := by rw [hsn, List.map_append]; rfl
      repeat' (first | ((first | apply o_do | apply d_do | apply d_yes rfl rfl rfl); first | exact ls_indexAddr_sl tab_ok rfl rfl rfl rfl (by assumption) rfl | exact ls_append tab_ok rfl rfl rfl rfl (by first | exact SrcIs.sl | exact SrcIs.nil | exact SrcIs.own rfl rfl) rfl (by (try simp only [List.length_cons, List.length_nil]); omega) rfl rfl | exact lsq) | refine a_seq ?_ | refine a_region ?_ | refine o_nil ?_ | refine a_block ?_ | refine a_ret ?_ | refine a_exit ?_ | refine a_skip ?_ | refine a_draw mixed ?_ | refine d_nil (by kernel_rfl) ?_ | refine o_yes rfl rfl rfl ?_ | refine o_no rfl rfl rfl (by decide) ?_ | refine o_no' rfl rfl rfl ?_ | refine a_condT rfl ?_ | refine a_condF rfl ?_ | refine d_no rfl rfl rfl (by decide) ?_ | refine d_no' rfl rfl rfl ?_ | (refine wq2 (fun hb => ?_) (fun hb => ?_) <;> (simp only [hb]; try simp only [hbs, ne_eq] at hb; try (exfalso; first | omega | exact hb trivial))) | fail)
      refine ⟨⟨q + 1, by omega⟩, by dsimp only; omega, ?_⟩
      refine ⟨by repeat' (first | exact trivial | exact FinA.one (FinB.cell (FinC.same rfl)) | exact FinA.one (FinB.cell FinC.nil) | exact FinA.bound rfl | exact FinA.one (FinB.cell (FinC.own rfl rfl rfl rfl)) | exact FinA.one (FinB.cell (FinC.v (by first | rfl | ((first | (simp only [e]; rfl) | simp))))) | exact FinA.one (FinB.cell (FinC.ow rfl (by first | rfl | ((first | (simp only [e]; rfl) | simp))))) | exact FinA.one (FinB.agg' rfl rfl) | refine ⟨⟨_, rfl, ?_⟩, ?_⟩), by repeat' (first | exact trivial | refine ⟨⟨_, rfl, by first | rfl | ((first | (simp only [e]; rfl) | simp); done) | (simp [renO, *]; done)⟩, by first | rfl | assumption, ?_⟩), rfl⟩
  · obtain rfl : q = ins.length := by omega
    rw [List.take_of_length_le (by omega : (ins.set k (xm, xi)).length ≤ ins.length)]
    repeat' (first | ((first | apply o_do | apply d_do | apply d_yes rfl rfl rfl); exact lsq) | refine a_seq ?_ | refine a_region ?_ | refine o_nil ?_ | refine a_block ?_ | refine a_ret ?_ | refine a_exit ?_ | refine a_skip ?_ | refine a_draw mixed ?_ | refine d_nil (by kernel_rfl) ?_ | refine o_yes rfl rfl rfl ?_ | refine o_no rfl rfl rfl (by decide) ?_ | refine o_no' rfl rfl rfl ?_ | refine a_condT rfl ?_ | refine a_condF rfl ?_ | refine d_no rfl rfl rfl (by decide) ?_ | refine d_no' rfl rfl rfl ?_ | (refine wq2 (fun hb => ?_) (fun hb => ?_) <;> (simp only [hb]; try simp only [hbs, ne_eq] at hb; try (exfalso; first | omega | exact hb trivial))) | fail)
    refine rq rfl ?_
    exact fnq
set_option maxHeartbeats 2000000 in
theorem r_Set (m : Mk) (i t : Int) (hi : m.ins.length ≤ 9223372036854775807) (hh : m.hs.length ≤ 9223372036854775807) : PC Tryz.prog 65 [.agg m.av, .v (.int .i64 i), .v (.int .i64 t)] (mkSet m i t).av := by
  have h := m_rRight m hi hh
  have hcl := p_rclamp t
  obtain ⟨ins, hs, out⟩ := m
  have n1 : (ins.map inAvM).length = ins.length := List.length_map _
  unfold mkSet mkIn
  cases hr : mkR ⟨ins, hs, out⟩
  · rw [hr] at h
    simp only [Bool.false_and, if_true, MkE.av, mkZ, Mk.av, List.map_nil] at h ⊢
    refine PC.mk (ac_body tab_ok Tryz.func65 rfl (by kernel_rfl) rfl ?_); intro w0 M μ0; simp only [Tryz.ntmps65, List.length_cons, List.length_nil, Nat.reduceAdd, Nat.reduceSub, numb]
    repeat' (first | ((first | apply o_do | apply d_do | apply d_yes rfl rfl rfl); first | exact lsc (h) | exact lsq) | refine a_seq ?_ | refine a_region ?_ | refine o_nil ?_ | refine a_block ?_ | refine a_ret ?_ | refine a_exit ?_ | refine a_skip ?_ | refine a_draw mixed ?_ | refine d_nil (by kernel_rfl) ?_ | refine o_yes rfl rfl rfl ?_ | refine o_no rfl rfl rfl (by decide) ?_ | refine o_no' rfl rfl rfl ?_ | refine a_condT rfl ?_ | refine a_condF rfl ?_ | refine d_no rfl rfl rfl (by decide) ?_ | refine d_no' rfl rfl rfl ?_ | (refine wq2 (fun hb => ?_) (fun hb => ?_) <;> (simp only [hb]; try simp only [hbs, ne_eq] at hb; try (exfalso; first | omega | exact hb trivial))) | fail)
    refine rq rfl ?_
    exact fnq
  · rw [hr] at h
    have hr2 := hr
    simp only [mkR, Bool.and_eq_true, decide_eq_true_eq] at hr2
    obtain ⟨h1, h2, h3, h4⟩ := hr2
    by_cases hin : 0 ≤ i ∧ i < ins.length
    · obtain ⟨h5, h6⟩ := hin
      obtain ⟨q, rfl⟩ : ∃ q : Nat, i = (q : Int) := ⟨i.toNat, by omega⟩
      have hq : q < ins.length := by omega
      have hel : (ins.map inAvM)[q]? = some (inAvM ins[q]) := by simp [hq]
      simp only [Bool.true_and, h5, h6, decide_true, Bool.and_self, Bool.true_eq_false, if_false, MkE.av, mkPut, Int.toNat_natCast, getD_at hq] at h ⊢
      generalize ins[q] = x at *
      obtain ⟨a, b⟩ := x
      dsimp only
      by_cases hgt : a < clampT t
      · have hw := r_with ins hs out q (clampT t, false) h2
        rw [show max a (clampT t) = clampT t by omega]
        simp only [Mk.av, inAvM] at h hw ⊢
        refine PC.mk (ac_body tab_ok Tryz.func65 rfl (by kernel_rfl) rfl ?_); intro w0 M μ0; simp only [Tryz.ntmps65, List.length_cons, List.length_nil, Nat.reduceAdd, Nat.reduceSub, numb]
        repeat' (first | ((first | apply o_do | apply d_do | apply d_yes rfl rfl rfl); first | exact lsc (h) | exact lsc (hcl) | exact lsc (hw) | exact ls_indexAddr_sl tab_ok rfl rfl rfl rfl hel rfl | exact lsq) | refine a_seq ?_ | refine a_region ?_ | refine o_nil ?_ | refine a_block ?_ | refine a_ret ?_ | refine a_exit ?_ | refine a_skip ?_ | refine a_draw mixed ?_ | refine d_nil (by kernel_rfl) ?_ | refine o_yes rfl rfl rfl ?_ | refine o_no rfl rfl rfl (by decide) ?_ | refine o_no' rfl rfl rfl ?_ | refine a_condT rfl ?_ | refine a_condF rfl ?_ | refine d_no rfl rfl rfl (by decide) ?_ | refine d_no' rfl rfl rfl ?_ | (refine wq2 (fun hb => ?_) (fun hb => ?_) <;> (simp only [hb]; try simp only [hbs, ne_eq] at hb; try (exfalso; first | omega | exact hb trivial))) | fail)
        refine rq rfl ?_
        exact fnq
      · have hw := r_with ins hs out q (a, false) h2
        rw [show max a (clampT t) = a by omega]
        simp only [Mk.av, inAvM] at h hw ⊢
        refine PC.mk (ac_body tab_ok Tryz.func65 rfl (by kernel_rfl) rfl ?_); intro w0 M μ0; simp only [Tryz.ntmps65, List.length_cons, List.length_nil, Nat.reduceAdd, Nat.reduceSub, numb]
        repeat' (first | ((first | apply o_do | apply d_do | apply d_yes rfl rfl rfl); first | exact lsc (h) | exact lsc (hcl) | exact lsc (hw) | exact ls_indexAddr_sl tab_ok rfl rfl rfl rfl hel rfl | exact lsq) | refine a_seq ?_ | refine a_region ?_ | refine o_nil ?_ | refine a_block ?_ | refine a_ret ?_ | refine a_exit ?_ | refine a_skip ?_ | refine a_draw mixed ?_ | refine d_nil (by kernel_rfl) ?_ | refine o_yes rfl rfl rfl ?_ | refine o_no rfl rfl rfl (by decide) ?_ | refine o_no' rfl rfl rfl ?_ | refine a_condT rfl ?_ | refine a_condF rfl ?_ | refine d_no rfl rfl rfl (by decide) ?_ | refine d_no' rfl rfl rfl ?_ | (refine wq2 (fun hb => ?_) (fun hb => ?_) <;> (simp only [hb]; try simp only [hbs, ne_eq] at hb; try (exfalso; first | omega | exact hb trivial))) | fail)
        refine rq rfl ?_
        exact fnq
    · have e : (true && (decide (0 ≤ i) && decide (i < (ins.length : Int)))) = false := by
        rw [Bool.true_and]
        by_cases h5 : 0 ≤ i
        · rw [decide_eq_false (fun h6 => hin ⟨h5, h6⟩), Bool.and_false]
        · rw [decide_eq_false h5, Bool.false_and]
      rw [if_pos e]
      simp only [MkE.av, mkZ, Mk.av, List.map_nil] at h ⊢
      refine PC.mk (ac_body tab_ok Tryz.func65 rfl (by kernel_rfl) rfl ?_); intro w0 M μ0; simp only [Tryz.ntmps65, List.length_cons, List.length_nil, Nat.reduceAdd, Nat.reduceSub, numb]
      repeat' (first | ((first | apply o_do | apply d_do | apply d_yes rfl rfl rfl); first | exact lsc (h) | exact lsq) | refine a_seq ?_ | refine a_region ?_ | refine o_nil ?_ | refine a_block ?_ | refine a_ret ?_ | refine a_exit ?_ | refine a_skip ?_ | refine a_draw mixed ?_ | refine d_nil (by kernel_rfl) ?_ | refine o_yes rfl rfl rfl ?_ | refine o_no rfl rfl rfl (by decide) ?_ | refine o_no' rfl rfl rfl ?_ | refine a_condT rfl ?_ | refine a_condF rfl ?_ | refine d_no rfl rfl rfl (by decide) ?_ | refine d_no' rfl rfl rfl ?_ | (refine wq2 (fun hb => ?_) (fun hb => ?_) <;> (simp only [hb]; try simp only [hbs, ne_eq] at hb; try (exfalso; first | omega | exact hb trivial))) | fail)
      all_goals first
        | (refine rq rfl ?_; (exact fnq); done)
        | (exfalso; omega)
set_option maxHeartbeats 2000000 in
theorem r_Idle (m : Mk) (i : Int) (hi : m.ins.length ≤ 9223372036854775807) (hh : m.hs.length ≤ 9223372036854775807) : PC Tryz.prog 66 [.agg m.av, .v (.int .i64 i)] (mkIdle m i).av := by
  have h := m_rRight m hi hh
  obtain ⟨ins, hs, out⟩ := m
  have n1 : (ins.map inAvM).length = ins.length := List.length_map _
  unfold mkIdle mkIn
  cases hr : mkR ⟨ins, hs, out⟩
  · rw [hr] at h
    simp only [Bool.false_and, if_true, MkE.av, mkZ, Mk.av, List.map_nil] at h ⊢
    refine PC.mk (ac_body tab_ok Tryz.func66 rfl (by kernel_rfl) rfl ?_); intro w0 M μ0; simp only [Tryz.ntmps66, List.length_cons, List.length_nil, Nat.reduceAdd, Nat.reduceSub, numb]
    repeat' (first | ((first | apply o_do | apply d_do | apply d_yes rfl rfl rfl); first | exact lsc (h) | exact lsq) | refine a_seq ?_ | refine a_region ?_ | refine o_nil ?_ | refine a_block ?_ | refine a_ret ?_ | refine a_exit ?_ | refine a_skip ?_ | refine a_draw mixed ?_ | refine d_nil (by kernel_rfl) ?_ | refine o_yes rfl rfl rfl ?_ | refine o_no rfl rfl rfl (by decide) ?_ | refine o_no' rfl rfl rfl ?_ | refine a_condT rfl ?_ | refine a_condF rfl ?_ | refine d_no rfl rfl rfl (by decide) ?_ | refine d_no' rfl rfl rfl ?_ | (refine wq2 (fun hb => ?_) (fun hb => ?_) <;> (simp only [hb]; try simp only [hbs, ne_eq] at hb; try (exfalso; first | omega | exact hb trivial))) | fail)
    refine rq rfl ?_
    exact fnq
  · rw [hr] at h
    have hr2 := hr
    simp only [mkR, Bool.and_eq_true, decide_eq_true_eq] at hr2
    obtain ⟨h1, h2, h3, h4⟩ := hr2
    by_cases hin : 0 ≤ i ∧ i < ins.length
    · obtain ⟨h5, h6⟩ := hin
      obtain ⟨q, rfl⟩ : ∃ q : Nat, i = (q : Int) := ⟨i.toNat, by omega⟩
      have hq : q < ins.length := by omega
      have hel : (ins.map inAvM)[q]? = some (inAvM ins[q]) := by simp [hq]
      simp only [Bool.true_and, h5, h6, decide_true, Bool.and_self, Bool.true_eq_false, if_false, MkE.av, mkPut, Int.toNat_natCast, getD_at hq] at h ⊢
      generalize ins[q] = x at *
      obtain ⟨a, b⟩ := x
      have hw := r_with ins hs out q (a, true) h2
      simp only [Mk.av, inAvM] at h hw ⊢
      refine PC.mk (ac_body tab_ok Tryz.func66 rfl (by kernel_rfl) rfl ?_); intro w0 M μ0; simp only [Tryz.ntmps66, List.length_cons, List.length_nil, Nat.reduceAdd, Nat.reduceSub, numb]
      repeat' (first | ((first | apply o_do | apply d_do | apply d_yes rfl rfl rfl); first | exact lsc (h) | exact lsc (hw) | exact ls_indexAddr_sl tab_ok rfl rfl rfl rfl hel rfl | exact lsq) | refine a_seq ?_ | refine a_region ?_ | refine o_nil ?_ | refine a_block ?_ | refine a_ret ?_ | refine a_exit ?_ | refine a_skip ?_ | refine a_draw mixed ?_ | refine d_nil (by kernel_rfl) ?_ | refine o_yes rfl rfl rfl ?_ | refine o_no rfl rfl rfl (by decide) ?_ | refine o_no' rfl rfl rfl ?_ | refine a_condT rfl ?_ | refine a_condF rfl ?_ | refine d_no rfl rfl rfl (by decide) ?_ | refine d_no' rfl rfl rfl ?_ | (refine wq2 (fun hb => ?_) (fun hb => ?_) <;> (simp only [hb]; try simp only [hbs, ne_eq] at hb; try (exfalso; first | omega | exact hb trivial))) | fail)
      refine rq rfl ?_
      exact fnq
    · have e : (true && (decide (0 ≤ i) && decide (i < (ins.length : Int)))) = false := by
        rw [Bool.true_and]
        by_cases h5 : 0 ≤ i
        · rw [decide_eq_false (fun h6 => hin ⟨h5, h6⟩), Bool.and_false]
        · rw [decide_eq_false h5, Bool.false_and]
      rw [if_pos e]
      simp only [MkE.av, mkZ, Mk.av, List.map_nil] at h ⊢
      refine PC.mk (ac_body tab_ok Tryz.func66 rfl (by kernel_rfl) rfl ?_); intro w0 M μ0; simp only [Tryz.ntmps66, List.length_cons, List.length_nil, Nat.reduceAdd, Nat.reduceSub, numb]
      repeat' (first | ((first | apply o_do | apply d_do | apply d_yes rfl rfl rfl); first | exact lsc (h) | exact lsq) | refine a_seq ?_ | refine a_region ?_ | refine o_nil ?_ | refine a_block ?_ | refine a_ret ?_ | refine a_exit ?_ | refine a_skip ?_ | refine a_draw mixed ?_ | refine d_nil (by kernel_rfl) ?_ | refine o_yes rfl rfl rfl ?_ | refine o_no rfl rfl rfl (by decide) ?_ | refine o_no' rfl rfl rfl ?_ | refine a_condT rfl ?_ | refine a_condF rfl ?_ | refine d_no rfl rfl rfl (by decide) ?_ | refine d_no' rfl rfl rfl ?_ | (refine wq2 (fun hb => ?_) (fun hb => ?_) <;> (simp only [hb]; try simp only [hbs, ne_eq] at hb; try (exfalso; first | omega | exact hb trivial))) | fail)
      all_goals first
        | (refine rq rfl ?_; (exact fnq); done)
        | (exfalso; omega)
def allowsM (m : Mk) : Int := if leastT (-1) (backI m.ins ++ backH m.hs) < 0 then m.out else leastT (-1) (backI m.ins ++ backH m.hs)
set_option maxHeartbeats 2000000 in
theorem r_Allows (m : Mk) (hi : m.ins.length ≤ 9223372036854775807) (hh : m.hs.length ≤ 9223372036854775807) : PC Tryz.prog 118 [.agg m.av] (.v (.int .i64 (allowsM m))) := by
  obtain ⟨ins, hs, out⟩ := m
  dsimp only at hi hh
  unfold allowsM
  simp only [Mk.av]
  refine PC.mk (ac_body tab_ok Tryz.func118 rfl (by kernel_rfl) rfl ?_); intro w0 M μ0; simp only [Tryz.ntmps118, List.length_cons, List.length_nil, Nat.reduceAdd, Nat.reduceSub, numb]
  repeat' (first | ((first | apply o_do | apply d_do | apply d_yes rfl rfl rfl); exact lsq) | refine a_seq ?_ | refine a_region ?_ | refine o_nil ?_ | refine a_block ?_ | refine a_ret ?_ | refine a_exit ?_ | refine a_skip ?_ | refine a_draw mixed ?_ | refine d_nil (by kernel_rfl) ?_ | refine o_yes rfl rfl rfl ?_ | refine o_no rfl rfl rfl (by decide) ?_ | refine o_no' rfl rfl rfl ?_ | refine a_condT rfl ?_ | refine a_condF rfl ?_ | refine d_no rfl rfl rfl (by decide) ?_ | refine d_no' rfl rfl rfl ?_ | (refine wq2 (fun hb => ?_) (fun hb => ?_) <;> (simp only [hb]; try simp only [hbs, ne_eq] at hb; try (exfalso; first | omega | exact hb trivial))) | fail)
  refine a_loop (X := {q : Nat // q ≤ ins.length}) (fun x => ⟨[(1, .ref 0 0), (3, .v (.int .i64 (leastT (-1) (backI (ins.take x.1))))), (9, .sl 2 (ins.map inAvM)), (10, .v (.int .i64 ins.length)), (11, .v (.int .i64 x.1))], [(0, .box 36 [.sl 2 (ins.map inAvM), .sl 2 (hs.map hoAv), .v (.int .i64 out)])]⟩) (fun x => ins.length - x.1) ⟨0, Nat.zero_le _⟩ ?_ ?_
  · refine ⟨by repeat' (first | exact trivial | exact FinA.one (FinB.cell (FinC.same rfl)) | exact FinA.one (FinB.cell FinC.nil) | exact FinA.bound rfl | exact FinA.one (FinB.cell (FinC.own rfl rfl rfl rfl)) | exact FinA.one (FinB.cell (FinC.v (by first | rfl | (simp [leastT, backI])))) | exact FinA.one (FinB.cell (FinC.ow rfl (by first | rfl | (simp [leastT, backI])))) | exact FinA.one (FinB.agg' rfl rfl) | refine ⟨⟨_, rfl, ?_⟩, ?_⟩), by repeat' (first | exact trivial | refine ⟨⟨_, rfl, by first | rfl | (simp [leastT, backI]; done) | (simp [renO, *]; done)⟩, by first | rfl | assumption, ?_⟩), rfl⟩
  rintro ⟨q, hq⟩
  dsimp only
  by_cases hlt : q < ins.length
  · have hel : (ins.map inAvM)[q]? = some (inAvM ins[q]) := by simp [hlt]
    have hsn := take_snoc ins q hlt
    have hbk := backI_snoc (ins.take q) ins[q]
    rw [← hsn] at hbk
    generalize ins[q] = x at *
    obtain ⟨a, b⟩ := x
    cases b
    · have hls : leastT (-1) (backI (ins.take (q + 1))) = _ := (congrArg (leastT (-1)) hbk).trans (leastT_snoc _ _ a)
      by_cases hc : leastT (-1) (backI (ins.take q)) < 0 ∨ a < leastT (-1) (backI (ins.take q))
      · rw [if_pos hc] at hls
        generalize leastT (-1) (backI (ins.take q)) = L at *
        repeat' (first | ((first | apply o_do | apply d_do | apply d_yes rfl rfl rfl); first | exact ls_indexAddr_sl tab_ok rfl rfl rfl rfl (by assumption) rfl | exact lsq) | refine a_seq ?_ | refine a_region ?_ | refine o_nil ?_ | refine a_block ?_ | refine a_ret ?_ | refine a_exit ?_ | refine a_skip ?_ | refine a_draw mixed ?_ | refine d_nil (by kernel_rfl) ?_ | refine o_yes rfl rfl rfl ?_ | refine o_no rfl rfl rfl (by decide) ?_ | refine o_no' rfl rfl rfl ?_ | refine a_condT rfl ?_ | refine a_condF rfl ?_ | refine d_no rfl rfl rfl (by decide) ?_ | refine d_no' rfl rfl rfl ?_ | (refine wq2 (fun hb => ?_) (fun hb => ?_) <;> (simp only [hb]; try simp only [hbs, ne_eq] at hb; try (exfalso; first | omega | exact hb trivial))) | fail)
        all_goals first
          | (exfalso; omega)
          | (refine ⟨⟨q + 1, by omega⟩, by dsimp only; omega, ?_⟩; refine ⟨by repeat' (first | exact trivial | exact FinA.one (FinB.cell (FinC.same rfl)) | exact FinA.one (FinB.cell FinC.nil) | exact FinA.bound rfl | exact FinA.one (FinB.cell (FinC.own rfl rfl rfl rfl)) | exact FinA.one (FinB.cell (FinC.v (by first | rfl | ((first | (rw [hls]; done) | simp [hls]))))) | exact FinA.one (FinB.cell (FinC.ow rfl (by first | rfl | ((first | (rw [hls]; done) | simp [hls]))))) | exact FinA.one (FinB.agg' rfl rfl) | refine ⟨⟨_, rfl, ?_⟩, ?_⟩), by repeat' (first | exact trivial | refine ⟨⟨_, rfl, by first | rfl | ((first | (rw [hls]; done) | simp [hls]); done) | (simp [renO, *]; done)⟩, by first | rfl | assumption, ?_⟩), rfl⟩; done)
      · rw [if_neg hc] at hls
        generalize leastT (-1) (backI (ins.take q)) = L at *
        repeat' (first | ((first | apply o_do | apply d_do | apply d_yes rfl rfl rfl); first | exact ls_indexAddr_sl tab_ok rfl rfl rfl rfl (by assumption) rfl | exact lsq) | refine a_seq ?_ | refine a_region ?_ | refine o_nil ?_ | refine a_block ?_ | refine a_ret ?_ | refine a_exit ?_ | refine a_skip ?_ | refine a_draw mixed ?_ | refine d_nil (by kernel_rfl) ?_ | refine o_yes rfl rfl rfl ?_ | refine o_no rfl rfl rfl (by decide) ?_ | refine o_no' rfl rfl rfl ?_ | refine a_condT rfl ?_ | refine a_condF rfl ?_ | refine d_no rfl rfl rfl (by decide) ?_ | refine d_no' rfl rfl rfl ?_ | (refine wq2 (fun hb => ?_) (fun hb => ?_) <;> (simp only [hb]; try simp only [hbs, ne_eq] at hb; try (exfalso; first | omega | exact hb trivial))) | fail)
        all_goals first
          | (exfalso; omega)
          | (refine ⟨⟨q + 1, by omega⟩, by dsimp only; omega, ?_⟩; refine ⟨by repeat' (first | exact trivial | exact FinA.one (FinB.cell (FinC.same rfl)) | exact FinA.one (FinB.cell FinC.nil) | exact FinA.bound rfl | exact FinA.one (FinB.cell (FinC.own rfl rfl rfl rfl)) | exact FinA.one (FinB.cell (FinC.v (by first | rfl | ((first | (rw [hls]; done) | simp [hls]))))) | exact FinA.one (FinB.cell (FinC.ow rfl (by first | rfl | ((first | (rw [hls]; done) | simp [hls]))))) | exact FinA.one (FinB.agg' rfl rfl) | refine ⟨⟨_, rfl, ?_⟩, ?_⟩), by repeat' (first | exact trivial | refine ⟨⟨_, rfl, by first | rfl | ((first | (rw [hls]; done) | simp [hls]); done) | (simp [renO, *]; done)⟩, by first | rfl | assumption, ?_⟩), rfl⟩; done)
    · have hls : leastT (-1) (backI (ins.take (q + 1))) = leastT (-1) (backI (ins.take q)) := by rw [hbk]; simp
      repeat' (first | ((first | apply o_do | apply d_do | apply d_yes rfl rfl rfl); first | exact ls_indexAddr_sl tab_ok rfl rfl rfl rfl (by assumption) rfl | exact lsq) | refine a_seq ?_ | refine a_region ?_ | refine o_nil ?_ | refine a_block ?_ | refine a_ret ?_ | refine a_exit ?_ | refine a_skip ?_ | refine a_draw mixed ?_ | refine d_nil (by kernel_rfl) ?_ | refine o_yes rfl rfl rfl ?_ | refine o_no rfl rfl rfl (by decide) ?_ | refine o_no' rfl rfl rfl ?_ | refine a_condT rfl ?_ | refine a_condF rfl ?_ | refine d_no rfl rfl rfl (by decide) ?_ | refine d_no' rfl rfl rfl ?_ | (refine wq2 (fun hb => ?_) (fun hb => ?_) <;> (simp only [hb]; try simp only [hbs, ne_eq] at hb; try (exfalso; first | omega | exact hb trivial))) | fail)
      all_goals first
        | (exfalso; simp at hb; done)
        | (exfalso; simp_all; done)
        | (refine ⟨⟨q + 1, by omega⟩, by dsimp only; omega, ?_⟩; refine ⟨by repeat' (first | exact trivial | exact FinA.one (FinB.cell (FinC.same rfl)) | exact FinA.one (FinB.cell FinC.nil) | exact FinA.bound rfl | exact FinA.one (FinB.cell (FinC.own rfl rfl rfl rfl)) | exact FinA.one (FinB.cell (FinC.v (by first | rfl | ((first | (rw [hls]; done) | simp [hls]))))) | exact FinA.one (FinB.cell (FinC.ow rfl (by first | rfl | ((first | (rw [hls]; done) | simp [hls]))))) | exact FinA.one (FinB.agg' rfl rfl) | refine ⟨⟨_, rfl, ?_⟩, ?_⟩), by repeat' (first | exact trivial | refine ⟨⟨_, rfl, by first | rfl | ((first | (rw [hls]; done) | simp [hls]); done) | (simp [renO, *]; done)⟩, by first | rfl | assumption, ?_⟩), rfl⟩; done)
  · obtain rfl : q = ins.length := by omega
    rw [List.take_length]
    repeat' (first | ((first | apply o_do | apply d_do | apply d_yes rfl rfl rfl); exact lsq) | refine a_seq ?_ | refine a_region ?_ | refine o_nil ?_ | refine a_block ?_ | refine a_ret ?_ | refine a_exit ?_ | refine a_skip ?_ | refine a_draw mixed ?_ | refine d_nil (by kernel_rfl) ?_ | refine o_yes rfl rfl rfl ?_ | refine o_no rfl rfl rfl (by decide) ?_ | refine o_no' rfl rfl rfl ?_ | refine a_condT rfl ?_ | refine a_condF rfl ?_ | refine d_no rfl rfl rfl (by decide) ?_ | refine d_no' rfl rfl rfl ?_ | (refine wq2 (fun hb => ?_) (fun hb => ?_) <;> (simp only [hb]; try simp only [hbs, ne_eq] at hb; try (exfalso; first | omega | exact hb trivial))) | fail)
    refine a_loop (X := {q : Nat // q ≤ hs.length}) (fun x => ⟨[(1, .ref 0 0), (3, .v (.int .i64 (leastT (-1) (backI ins ++ backH (hs.take x.1))))), (32, .sl 2 (hs.map hoAv)), (33, .v (.int .i64 hs.length)), (34, .v (.int .i64 x.1))], [(0, .box 36 [.sl 2 (ins.map inAvM), .sl 2 (hs.map hoAv), .v (.int .i64 out)])]⟩) (fun x => hs.length - x.1) ⟨0, Nat.zero_le _⟩ ?_ ?_
    · refine ⟨by repeat' (first | exact trivial | exact FinA.one (FinB.cell (FinC.same rfl)) | exact FinA.one (FinB.cell FinC.nil) | exact FinA.bound rfl | exact FinA.one (FinB.cell (FinC.own rfl rfl rfl rfl)) | exact FinA.one (FinB.cell (FinC.v (by first | rfl | (simp [backH])))) | exact FinA.one (FinB.cell (FinC.ow rfl (by first | rfl | (simp [backH])))) | exact FinA.one (FinB.agg' rfl rfl) | refine ⟨⟨_, rfl, ?_⟩, ?_⟩), by repeat' (first | exact trivial | refine ⟨⟨_, rfl, by first | rfl | (simp [backH]; done) | (simp [renO, *]; done)⟩, by first | rfl | assumption, ?_⟩), rfl⟩
    rintro ⟨p, hp⟩
    dsimp only
    by_cases hlt2 : p < hs.length
    · have hel : (hs.map hoAv)[p]? = some (hoAv hs[p]) := by simp [hlt2]
      have hsn := take_snoc hs p hlt2
      have hbk := backH_snoc (hs.take p) hs[p]
      rw [← hsn] at hbk
      generalize hs[p] = x at *
      obtain ⟨no, a⟩ := x
      have hls : leastT (-1) (backI ins ++ backH (hs.take (p + 1))) = _ := (congrArg (leastT (-1)) ((congrArg (backI ins ++ ·) hbk).trans (List.append_assoc _ _ _).symm)).trans (leastT_snoc _ _ a)
      by_cases hc : leastT (-1) (backI ins ++ backH (hs.take p)) < 0 ∨ a < leastT (-1) (backI ins ++ backH (hs.take p))
      · rw [if_pos hc] at hls
        generalize leastT (-1) (backI ins ++ backH (hs.take p)) = L at *
        repeat' (first | ((first | apply o_do | apply d_do | apply d_yes rfl rfl rfl); first | exact ls_indexAddr_sl tab_ok rfl rfl rfl rfl (by assumption) rfl | exact lsq) | refine a_seq ?_ | refine a_region ?_ | refine o_nil ?_ | refine a_block ?_ | refine a_ret ?_ | refine a_exit ?_ | refine a_skip ?_ | refine a_draw mixed ?_ | refine d_nil (by kernel_rfl) ?_ | refine o_yes rfl rfl rfl ?_ | refine o_no rfl rfl rfl (by decide) ?_ | refine o_no' rfl rfl rfl ?_ | refine a_condT rfl ?_ | refine a_condF rfl ?_ | refine d_no rfl rfl rfl (by decide) ?_ | refine d_no' rfl rfl rfl ?_ | (refine wq2 (fun hb => ?_) (fun hb => ?_) <;> (simp only [hb]; try simp only [hbs, ne_eq] at hb; try (exfalso; first | omega | exact hb trivial))) | fail)
        all_goals first
          | (exfalso; omega)
          | (refine ⟨⟨p + 1, by omega⟩, by dsimp only; omega, ?_⟩; refine ⟨by repeat' (first | exact trivial | exact FinA.one (FinB.cell (FinC.same rfl)) | exact FinA.one (FinB.cell FinC.nil) | exact FinA.bound rfl | exact FinA.one (FinB.cell (FinC.own rfl rfl rfl rfl)) | exact FinA.one (FinB.cell (FinC.v (by first | rfl | ((first | (rw [hls]; done) | simp [hls]))))) | exact FinA.one (FinB.cell (FinC.ow rfl (by first | rfl | ((first | (rw [hls]; done) | simp [hls]))))) | exact FinA.one (FinB.agg' rfl rfl) | refine ⟨⟨_, rfl, ?_⟩, ?_⟩), by repeat' (first | exact trivial | refine ⟨⟨_, rfl, by first | rfl | ((first | (rw [hls]; done) | simp [hls]); done) | (simp [renO, *]; done)⟩, by first | rfl | assumption, ?_⟩), rfl⟩; done)
      · rw [if_neg hc] at hls
        generalize leastT (-1) (backI ins ++ backH (hs.take p)) = L at *
        repeat' (first | ((first | apply o_do | apply d_do | apply d_yes rfl rfl rfl); first | exact ls_indexAddr_sl tab_ok rfl rfl rfl rfl (by assumption) rfl | exact lsq) | refine a_seq ?_ | refine a_region ?_ | refine o_nil ?_ | refine a_block ?_ | refine a_ret ?_ | refine a_exit ?_ | refine a_skip ?_ | refine a_draw mixed ?_ | refine d_nil (by kernel_rfl) ?_ | refine o_yes rfl rfl rfl ?_ | refine o_no rfl rfl rfl (by decide) ?_ | refine o_no' rfl rfl rfl ?_ | refine a_condT rfl ?_ | refine a_condF rfl ?_ | refine d_no rfl rfl rfl (by decide) ?_ | refine d_no' rfl rfl rfl ?_ | (refine wq2 (fun hb => ?_) (fun hb => ?_) <;> (simp only [hb]; try simp only [hbs, ne_eq] at hb; try (exfalso; first | omega | exact hb trivial))) | fail)
        all_goals first
          | (exfalso; omega)
          | (refine ⟨⟨p + 1, by omega⟩, by dsimp only; omega, ?_⟩; refine ⟨by repeat' (first | exact trivial | exact FinA.one (FinB.cell (FinC.same rfl)) | exact FinA.one (FinB.cell FinC.nil) | exact FinA.bound rfl | exact FinA.one (FinB.cell (FinC.own rfl rfl rfl rfl)) | exact FinA.one (FinB.cell (FinC.v (by first | rfl | ((first | (rw [hls]; done) | simp [hls]))))) | exact FinA.one (FinB.cell (FinC.ow rfl (by first | rfl | ((first | (rw [hls]; done) | simp [hls]))))) | exact FinA.one (FinB.agg' rfl rfl) | refine ⟨⟨_, rfl, ?_⟩, ?_⟩), by repeat' (first | exact trivial | refine ⟨⟨_, rfl, by first | rfl | ((first | (rw [hls]; done) | simp [hls]); done) | (simp [renO, *]; done)⟩, by first | rfl | assumption, ?_⟩), rfl⟩; done)
    · obtain rfl : p = hs.length := by omega
      rw [List.take_length]
      generalize leastT (-1) (backI ins ++ backH hs) = L at *
      repeat' (first | ((first | apply o_do | apply d_do | apply d_yes rfl rfl rfl); exact lsq) | refine a_seq ?_ | refine a_region ?_ | refine o_nil ?_ | refine a_block ?_ | refine a_ret ?_ | refine a_exit ?_ | refine a_skip ?_ | refine a_draw mixed ?_ | refine d_nil (by kernel_rfl) ?_ | refine o_yes rfl rfl rfl ?_ | refine o_no rfl rfl rfl (by decide) ?_ | refine o_no' rfl rfl rfl ?_ | refine a_condT rfl ?_ | refine a_condF rfl ?_ | refine d_no rfl rfl rfl (by decide) ?_ | refine d_no' rfl rfl rfl ?_ | (refine wq2 (fun hb => ?_) (fun hb => ?_) <;> (simp only [hb]; try simp only [hbs, ne_eq] at hb; try (exfalso; first | omega | exact hb trivial))) | fail)
      all_goals refine rq rfl ?_
      all_goals (first | refine FinA.tup ?_ | refine FinA.one ?_); repeat' (first | exact FinBs.nil | exact FinCs.nil | refine FinBs.cons ?_ ?_ | refine FinCs.cons ?_ ?_ | refine FinB.cell (FinC.v ?_) | refine FinB.cell (FinC.own rfl rfl rfl ?_) | exact FinB.cell FinC.nil | refine FinB.cell (FinC.sl ?_) | exact FinB.agg' rfl rfl | exact FinB.cell (FinC.same rfl) | refine FinB.agg ?_ | refine FinC.v ?_ | refine FinC.own rfl rfl rfl ?_ | exact FinC.nil | refine FinC.sl ?_ | exact FinC.same rfl); all_goals try rfl
      all_goals simp [*]
set_option maxHeartbeats 2000000 in
theorem r_Tell (m : Mk) (hi : m.ins.length ≤ 9223372036854775807) (hh : m.hs.length ≤ 9223372036854775807) : PC Tryz.prog 67 [.agg m.av] (mkTell m).av := by
  have h := m_rRight m hi hh
  have ha := r_Allows m hi hh
  unfold mkTell
  cases hr : mkR m
  · rw [hr] at h
    obtain ⟨ins, hs, out⟩ := m
    simp only [if_true, MkT.av, mkZ, Mk.av, List.map_nil] at h ⊢
    refine PC.mk (ac_body tab_ok Tryz.func67 rfl (by kernel_rfl) rfl ?_); intro w0 M μ0; simp only [Tryz.ntmps67, List.length_cons, List.length_nil, Nat.reduceAdd, Nat.reduceSub, numb]
    repeat' (first | ((first | apply o_do | apply d_do | apply d_yes rfl rfl rfl); first | exact lsc (h) | exact lsq) | refine a_seq ?_ | refine a_region ?_ | refine o_nil ?_ | refine a_block ?_ | refine a_ret ?_ | refine a_exit ?_ | refine a_skip ?_ | refine a_draw mixed ?_ | refine d_nil (by kernel_rfl) ?_ | refine o_yes rfl rfl rfl ?_ | refine o_no rfl rfl rfl (by decide) ?_ | refine o_no' rfl rfl rfl ?_ | refine a_condT rfl ?_ | refine a_condF rfl ?_ | refine d_no rfl rfl rfl (by decide) ?_ | refine d_no' rfl rfl rfl ?_ | (refine wq2 (fun hb => ?_) (fun hb => ?_) <;> (simp only [hb]; try simp only [hbs, ne_eq] at hb; try (exfalso; first | omega | exact hb trivial))) | fail)
    refine rq rfl ?_
    exact fnq
  · rw [hr] at h
    have hlf := least_first (backs_in hr)
    unfold allowsM at ha
    rw [hlf] at ha
    have hge : backI m.ins ++ backH m.hs ≠ [] → 0 ≤ firstT (backI m.ins ++ backH m.hs) := fun _ => firstT_in _
    obtain ⟨ins, hs, out⟩ := m
    dsimp only at ha hge ⊢
    by_cases hnil : backI ins ++ backH hs = []
    · rw [if_pos hnil, if_pos (by decide)] at ha
      simp only [Bool.true_eq_false, if_false, hnil, true_or, if_true, MkT.av, Mk.av] at h ha ⊢
      refine PC.mk (ac_body tab_ok Tryz.func67 rfl (by kernel_rfl) rfl ?_); intro w0 M μ0; simp only [Tryz.ntmps67, List.length_cons, List.length_nil, Nat.reduceAdd, Nat.reduceSub, numb]
      repeat' (first | ((first | apply o_do | apply d_do | apply d_yes rfl rfl rfl); first | exact lsc (h) | exact lsc (ha) | exact lsq) | refine a_seq ?_ | refine a_region ?_ | refine o_nil ?_ | refine a_block ?_ | refine a_ret ?_ | refine a_exit ?_ | refine a_skip ?_ | refine a_draw mixed ?_ | refine d_nil (by kernel_rfl) ?_ | refine o_yes rfl rfl rfl ?_ | refine o_no rfl rfl rfl (by decide) ?_ | refine o_no' rfl rfl rfl ?_ | refine a_condT rfl ?_ | refine a_condF rfl ?_ | refine d_no rfl rfl rfl (by decide) ?_ | refine d_no' rfl rfl rfl ?_ | (refine wq2 (fun hb => ?_) (fun hb => ?_) <;> (simp only [hb]; try simp only [hbs, ne_eq] at hb; try (exfalso; first | omega | exact hb trivial))) | fail)
      all_goals first
        | (refine rq rfl ?_; (exact fnq); done)
        | (exfalso; omega)
    · have hge := hge hnil
      rw [if_neg hnil, if_neg (by omega)] at ha
      by_cases hle : firstT (backI ins ++ backH hs) ≤ out
      · simp only [Bool.true_eq_false, if_false, hle, or_true, if_true, MkT.av, Mk.av] at h ha ⊢
        refine PC.mk (ac_body tab_ok Tryz.func67 rfl (by kernel_rfl) rfl ?_); intro w0 M μ0; simp only [Tryz.ntmps67, List.length_cons, List.length_nil, Nat.reduceAdd, Nat.reduceSub, numb]
        repeat' (first | ((first | apply o_do | apply d_do | apply d_yes rfl rfl rfl); first | exact lsc (h) | exact lsc (ha) | exact lsq) | refine a_seq ?_ | refine a_region ?_ | refine o_nil ?_ | refine a_block ?_ | refine a_ret ?_ | refine a_exit ?_ | refine a_skip ?_ | refine a_draw mixed ?_ | refine d_nil (by kernel_rfl) ?_ | refine o_yes rfl rfl rfl ?_ | refine o_no rfl rfl rfl (by decide) ?_ | refine o_no' rfl rfl rfl ?_ | refine a_condT rfl ?_ | refine a_condF rfl ?_ | refine d_no rfl rfl rfl (by decide) ?_ | refine d_no' rfl rfl rfl ?_ | (refine wq2 (fun hb => ?_) (fun hb => ?_) <;> (simp only [hb]; try simp only [hbs, ne_eq] at hb; try (exfalso; first | omega | exact hb trivial))) | fail)
        refine rq rfl ?_
        exact fnq
      · simp only [Bool.true_eq_false, if_false, hle, hnil, or_self, MkT.av, Mk.av] at h ha ⊢
        refine PC.mk (ac_body tab_ok Tryz.func67 rfl (by kernel_rfl) rfl ?_); intro w0 M μ0; simp only [Tryz.ntmps67, List.length_cons, List.length_nil, Nat.reduceAdd, Nat.reduceSub, numb]
        repeat' (first | ((first | apply o_do | apply d_do | apply d_yes rfl rfl rfl); first | exact lsc (h) | exact lsc (ha) | exact lsq) | refine a_seq ?_ | refine a_region ?_ | refine o_nil ?_ | refine a_block ?_ | refine a_ret ?_ | refine a_exit ?_ | refine a_skip ?_ | refine a_draw mixed ?_ | refine d_nil (by kernel_rfl) ?_ | refine o_yes rfl rfl rfl ?_ | refine o_no rfl rfl rfl (by decide) ?_ | refine o_no' rfl rfl rfl ?_ | refine a_condT rfl ?_ | refine a_condF rfl ?_ | refine d_no rfl rfl rfl (by decide) ?_ | refine d_no' rfl rfl rfl ?_ | (refine wq2 (fun hb => ?_) (fun hb => ?_) <;> (simp only [hb]; try simp only [hbs, ne_eq] at hb; try (exfalso; first | omega | exact hb trivial))) | fail)
        refine rq rfl ?_
        exact fnq
end Go.Proofs.YtagfjnjpgphnjaaGreat
