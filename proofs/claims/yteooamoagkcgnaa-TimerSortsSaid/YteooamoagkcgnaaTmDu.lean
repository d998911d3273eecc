/-
  Timers, walked over abstract values: those that are due.
-/
import Derived.Test.YteooamoagkcgnaaTmZ
namespace Go.Proofs.Yteooamoagkcgnaa
open Go.RowKit
set_option linter.unusedSimpArgs false
set_option linter.unusedVariables false
/-- how far the popping has come -/
structure DuT (mk : Int) (D R : List Tm) (n f : Nat) (cur out : List Tm) : Prop where
  hf : cur.length ≤ f
  h1 : out ++ (dueN mk f cur).1 = D
  h2 : (dueN mk f cur).2 = R
  hn : out.length + cur.length = n
theorem DuT.next {mk : Int} {D R : List Tm} {n f : Nat} {cur out : List Tm} (h : DuT mk D R n f cur out) (h0 : 0 < cur.length) (hm : (cur.getD 0 tmZ).at' ≤ mk) : ∃ f', DuT mk D R n f' (hpop tLt tmZ cur) (out ++ [cur.getD 0 tmZ]) := by
  obtain ⟨a, b, c, d⟩ := h
  cases f with
  | zero => omega
  | succ f =>
    simp only [dueN] at b c
    rw [if_pos ⟨h0, hm⟩] at b c
    refine ⟨f, by rw [hpop_len]; omega, by rw [List.append_assoc]; exact b, c, by rw [hpop_len, List.length_append]; simp; omega⟩
theorem DuT.stop {mk : Int} {D R : List Tm} {n f : Nat} {cur out : List Tm} (h : DuT mk D R n f cur out) (hm : ¬ (0 < cur.length ∧ (cur.getD 0 tmZ).at' ≤ mk)) : out = D ∧ cur = R := by
  obtain ⟨a, b, c, d⟩ := h
  have e : dueN mk f cur = ([], cur) := by
    cases f with
    | zero => rfl
    | succ f => simp only [dueN]; rw [if_neg hm]
  rw [e] at b c
  exact ⟨by simpa using b, c⟩
set_option maxRecDepth 20000 in
set_option maxHeartbeats 8000000 in
theorem a_HDue (r : List Tm) (mk : Int) (hm : r.length ≤ 1000) : AC Try.prog 16 [.ref 0 0, .v (.int .i64 mk)] (HS r) (.own 41 ((dueN mk r.length r).1.map Tm.av).length) [(0, .box 50 [.own 40 ((dueN mk r.length r).2.map Tm.av).length]), (1, .dead), (40, .row 27 2 ((dueN mk r.length r).2.map Tm.av)), (41, .row 27 2 ((dueN mk r.length r).1.map Tm.av))] := by
  have hD0 : DuT mk (dueN mk r.length r).1 (dueN mk r.length r).2 r.length r.length r [] := ⟨Nat.le_refl _, rfl, rfl, by simp⟩
  generalize (dueN mk r.length r).1 = D at *
  generalize (dueN mk r.length r).2 = R at *
  unfold HS
  refine (ac_body tab_ok Try.func16 rfl (by kernel_rfl) rfl ?_); intro w0 M μ0; simp only [Try.ntmps16, List.length_cons, List.length_nil, Nat.reduceAdd, Nat.reduceSub, numb]
  repeat' (first | ((first | apply o_do | apply d_do | apply d_yes rfl rfl rfl); exact lsq) | refine a_seq ?_ | refine a_region ?_ | refine o_nil ?_ | refine a_block ?_ | refine a_ret ?_ | refine a_exit ?_ | refine a_skip ?_ | refine a_draw mixed ?_ | refine d_nil (by kernel_rfl) ?_ | refine o_yes rfl rfl rfl ?_ | refine o_no rfl rfl rfl (by decide) ?_ | refine o_no' rfl rfl rfl ?_ | refine a_condT rfl ?_ | refine a_condF rfl ?_ | refine d_no rfl rfl rfl (by decide) ?_ | refine d_no' rfl rfl rfl ?_ | (refine wq2 (fun hb => ?_) (fun hb => ?_) <;> (simp only [hb]; try simp only [hbs, ne_eq] at hb; try (exfalso; first | omega | exact hb trivial))) | fail)
  refine a_adopt 5 41 27 2 rfl rfl ?_
  refine a_loopM (X := {p : List Tm × List Tm // ∃ f, DuT mk D R r.length f p.1 p.2}) (fun p => ⟨[(0, .ref 0 0), (1, .v (.int .i64 mk)), (5, .own 41 (p.1.2.map Tm.av).length), (6, .clo (.func 11) [.ref 0 0] [])], [(0, .box 50 [.own 40 (p.1.1.map Tm.av).length]), (1, .dead), (40, .row 27 2 (p.1.1.map Tm.av)), (41, .row 27 2 (p.1.2.map Tm.av))]⟩) (fun p => p.1.1.length) ⟨(r, []), _, hD0⟩ ?_ ?_
  · refine Turn.trans (Turn.move 1 40 rfl rfl rfl rfl rfl) (Turn.weak ?_)
    refine ⟨by repeat' (first | exact trivial | exact FinA.one (FinB.cell (FinC.same rfl)) | exact FinA.one (FinB.cell FinC.nil) | exact FinA.bound rfl | exact FinA.one (FinB.cell (FinC.own rfl rfl rfl rfl)) | exact FinA.one (FinB.cell (FinC.v (by first | rfl | (simp)))) | exact FinA.one (FinB.cell (FinC.ow rfl (by first | rfl | (simp)))) | exact FinA.one (FinB.agg' rfl rfl) | refine ⟨⟨_, rfl, ?_⟩, ?_⟩), by repeat' (first | exact trivial | refine ⟨⟨_, rfl, by first | rfl | (simp; done) | (simp [renO, *]; done)⟩, by first | rfl | assumption, ?_⟩), rfl⟩
  rintro ⟨⟨cur, out⟩, f, hX⟩
  dsimp only at hX ⊢
  have hL := a_HLen cur
  unfold HS at hL
  have hcm : cur.length ≤ 1000 := by have := hX.hn; omega
  have hom : (out.map Tm.av).length ≤ 1000 := by rw [List.length_map]; have := hX.hn; omega
  have hcl : (cur.map Tm.av).length = cur.length := List.length_map _
  by_cases h0 : 0 < cur.length
  · have hP := a_HPop cur h0 hcm
    have hst := fun h => hX.stop h
    have hnx := fun h => hX.next h0 h
    have hel := av_at h0
    have h0m : 0 < (cur.map Tm.av).length := by omega
    have hpl : (hpop tLt tmZ cur).length < cur.length := by rw [hpop_len]; omega
    unfold HS at hP
    generalize cur.getD 0 tmZ = a at *
    by_cases hle : a.at' ≤ mk
    · obtain ⟨f', hN⟩ := hnx hle
      generalize hpop tLt tmZ cur = C at *
      repeat' (first | ((first | apply o_do | apply d_do | apply d_yes rfl rfl rfl); first | exact ls_nilCheck rfl rfl | exact ls_callA [0, 40] 50 hL rfl rfl (by (repeat' (first | exact NilL.nil | refine NilL.cons Nil.same ?_ | refine NilL.cons Nil.nil ?_ | refine NilL.cons (Nil.agg ?_) ?_ | exact Nil1s.nil | refine Nil1s.cons Nil1.same ?_ | refine Nil1s.cons Nil1.nil ?_)); first | done | fail) rfl (by repeat' (first | exact trivial | refine ⟨⟨_, rfl, by first | rfl | (simp [renO, *]; done)⟩, ?_⟩)) (by first | rfl | simp [closO, *]) rfl rfl rfl rfl (by first | rfl | simp [closO, *]) rfl | exact ls_callAB [0, 40] 50 hP rfl rfl (by (repeat' (first | exact NilL.nil | refine NilL.cons Nil.same ?_ | refine NilL.cons Nil.nil ?_ | refine NilL.cons (Nil.agg ?_) ?_ | exact Nil1s.nil | refine Nil1s.cons Nil1.same ?_ | refine Nil1s.cons Nil1.nil ?_)); first | done | fail) rfl (by repeat' (first | exact trivial | refine ⟨⟨_, rfl, by first | rfl | (simp [renO, *]; done)⟩, ?_⟩)) (by first | rfl | simp [closO, *]) rfl rfl rfl rfl (by first | rfl | simp [closO, *]) rfl | exact ls_indexAddr_own tab_ok rfl rfl rfl rfl rfl rfl h0m rfl | exact ls_fieldAddr_eref tab_ok rfl rfl rfl rfl rfl rfl rfl | exact ls_load_eref tab_ok rfl rfl rfl hel rfl rfl rfl rfl | exact ls_append tab_ok rfl rfl rfl rfl (by first | exact SrcIs.sl | exact SrcIs.nil | exact SrcIs.own rfl rfl) rfl (by (try simp only [List.length_cons, List.length_nil]); omega) rfl rfl | exact lsq) | refine a_seq ?_ | refine a_region ?_ | refine o_nil ?_ | refine a_block ?_ | refine a_ret ?_ | refine a_exit ?_ | refine a_skip ?_ | refine a_draw mixed ?_ | refine d_nil (by kernel_rfl) ?_ | refine o_yes rfl rfl rfl ?_ | refine o_no rfl rfl rfl (by decide) ?_ | refine o_no' rfl rfl rfl ?_ | refine a_condT rfl ?_ | refine a_condF rfl ?_ | refine d_no rfl rfl rfl (by decide) ?_ | refine d_no' rfl rfl rfl ?_ | (refine wq2 (fun hb => ?_) (fun hb => ?_) <;> (simp only [hb]; try simp only [hbs, ne_eq] at hb; try (exfalso; first | omega | exact hb trivial))) | fail)
      have e1 : (out ++ [a]).map Tm.av = out.map Tm.av ++ [Tm.av a] := by simp
      refine ⟨⟨(C, out ++ [a]), f', hN⟩, hpl, ?_⟩
      refine Turn.trans (Turn.weak (t := ⟨[(0, .ref 0 0), (1, .v (.int .i64 mk)), (5, .own 41 ((out ++ [a]).map Tm.av).length), (6, .clo (.func 11) [.ref 0 0] [])], [(0, .box 50 [.own 73 (C.map Tm.av).length]), (1, .dead), (73, .row 27 2 (C.map Tm.av)), (41, .row 27 2 ((out ++ [a]).map Tm.av))]⟩) ?_) (Turn.trans (Turn.move 73 40 rfl rfl rfl rfl rfl) (Turn.weak ?_))
      · refine ⟨by repeat' (first | exact trivial | exact FinA.one (FinB.cell (FinC.same rfl)) | exact FinA.one (FinB.cell FinC.nil) | exact FinA.bound rfl | exact FinA.one (FinB.cell (FinC.own rfl rfl rfl rfl)) | exact FinA.one (FinB.cell (FinC.v (by first | rfl | ((first | (simp only [e1]; done) | (simp only [e1]; rfl) | simp))))) | exact FinA.one (FinB.cell (FinC.ow rfl (by first | rfl | ((first | (simp only [e1]; done) | (simp only [e1]; rfl) | simp))))) | exact FinA.one (FinB.agg' rfl rfl) | refine ⟨⟨_, rfl, ?_⟩, ?_⟩), by repeat' (first | exact trivial | refine ⟨⟨_, rfl, by first | rfl | ((first | (simp only [e1]; done) | (simp only [e1]; rfl) | simp); done) | (simp [renO, *]; done)⟩, by first | rfl | assumption, ?_⟩), rfl⟩
      · refine ⟨by repeat' (first | exact trivial | exact FinA.one (FinB.cell (FinC.same rfl)) | exact FinA.one (FinB.cell FinC.nil) | exact FinA.bound rfl | exact FinA.one (FinB.cell (FinC.own rfl rfl rfl rfl)) | exact FinA.one (FinB.cell (FinC.v (by first | rfl | (simp)))) | exact FinA.one (FinB.cell (FinC.ow rfl (by first | rfl | (simp)))) | exact FinA.one (FinB.agg' rfl rfl) | refine ⟨⟨_, rfl, ?_⟩, ?_⟩), by repeat' (first | exact trivial | refine ⟨⟨_, rfl, by first | rfl | (simp; done) | (simp [renO, *]; done)⟩, by first | rfl | assumption, ?_⟩), rfl⟩
    · obtain ⟨rfl, rfl⟩ := hst (fun h => hle h.2)
      repeat' (first | ((first | apply o_do | apply d_do | apply d_yes rfl rfl rfl); first | exact ls_nilCheck rfl rfl | exact ls_callA [0, 40] 50 hL rfl rfl (by (repeat' (first | exact NilL.nil | refine NilL.cons Nil.same ?_ | refine NilL.cons Nil.nil ?_ | refine NilL.cons (Nil.agg ?_) ?_ | exact Nil1s.nil | refine Nil1s.cons Nil1.same ?_ | refine Nil1s.cons Nil1.nil ?_)); first | done | fail) rfl (by repeat' (first | exact trivial | refine ⟨⟨_, rfl, by first | rfl | (simp [renO, *]; done)⟩, ?_⟩)) (by first | rfl | simp [closO, *]) rfl rfl rfl rfl (by first | rfl | simp [closO, *]) rfl | exact ls_indexAddr_own tab_ok rfl rfl rfl rfl rfl rfl h0m rfl | exact ls_fieldAddr_eref tab_ok rfl rfl rfl rfl rfl rfl rfl | exact ls_load_eref tab_ok rfl rfl rfl hel rfl rfl rfl rfl | exact lsq) | refine a_seq ?_ | refine a_region ?_ | refine o_nil ?_ | refine a_block ?_ | refine a_ret ?_ | refine a_exit ?_ | refine a_skip ?_ | refine a_draw mixed ?_ | refine d_nil (by kernel_rfl) ?_ | refine o_yes rfl rfl rfl ?_ | refine o_no rfl rfl rfl (by decide) ?_ | refine o_no' rfl rfl rfl ?_ | refine a_condT rfl ?_ | refine a_condF rfl ?_ | refine d_no rfl rfl rfl (by decide) ?_ | refine d_no' rfl rfl rfl ?_ | (refine wq2 (fun hb => ?_) (fun hb => ?_) <;> (simp only [hb]; try simp only [hbs, ne_eq] at hb; try (exfalso; first | omega | exact hb trivial))) | fail)
      all_goals refine ⟨by first | exact .inr rfl | exact .inl rfl, _, rfl, ?_, by repeat' (first | exact trivial | refine ⟨⟨_, rfl, by first | rfl | (simp [renO, *]; done)⟩, by first | rfl | assumption, ?_⟩)⟩
      all_goals (first | refine FinA.tup ?_ | refine FinA.one ?_); repeat' (first | exact FinBs.nil | exact FinCs.nil | refine FinBs.cons ?_ ?_ | refine FinCs.cons ?_ ?_ | refine FinB.cell (FinC.v ?_) | refine FinB.cell (FinC.own rfl rfl rfl ?_) | exact FinB.cell FinC.nil | refine FinB.cell (FinC.sl ?_) | exact FinB.agg' rfl rfl | exact FinB.cell (FinC.same rfl) | refine FinB.agg ?_ | refine FinC.v ?_ | refine FinC.own rfl rfl rfl ?_ | exact FinC.nil | refine FinC.sl ?_ | exact FinC.same rfl); all_goals try rfl
  · obtain ⟨rfl, rfl⟩ := hX.stop (fun h => h0 h.1)
    obtain rfl : cur = [] := List.eq_nil_of_length_eq_zero (by omega)
    repeat' (first | ((first | apply o_do | apply d_do | apply d_yes rfl rfl rfl); first | exact ls_nilCheck rfl rfl | exact ls_callA [0, 40] 50 hL rfl rfl (by (repeat' (first | exact NilL.nil | refine NilL.cons Nil.same ?_ | refine NilL.cons Nil.nil ?_ | refine NilL.cons (Nil.agg ?_) ?_ | exact Nil1s.nil | refine Nil1s.cons Nil1.same ?_ | refine Nil1s.cons Nil1.nil ?_)); first | done | fail) rfl (by repeat' (first | exact trivial | refine ⟨⟨_, rfl, by first | rfl | (simp [renO, *]; done)⟩, ?_⟩)) (by first | rfl | simp [closO, *]) rfl rfl rfl rfl (by first | rfl | simp [closO, *]) rfl | exact lsq) | refine a_seq ?_ | refine a_region ?_ | refine o_nil ?_ | refine a_block ?_ | refine a_ret ?_ | refine a_exit ?_ | refine a_skip ?_ | refine a_draw mixed ?_ | refine d_nil (by kernel_rfl) ?_ | refine o_yes rfl rfl rfl ?_ | refine o_no rfl rfl rfl (by decide) ?_ | refine o_no' rfl rfl rfl ?_ | refine a_condT rfl ?_ | refine a_condF rfl ?_ | refine d_no rfl rfl rfl (by decide) ?_ | refine d_no' rfl rfl rfl ?_ | (refine wq2 (fun hb => ?_) (fun hb => ?_) <;> (simp only [hb]; try simp only [hbs, ne_eq] at hb; try (exfalso; first | omega | exact hb trivial))) | fail)
    all_goals refine ⟨by first | exact .inr rfl | exact .inl rfl, _, rfl, ?_, by repeat' (first | exact trivial | refine ⟨⟨_, rfl, by first | rfl | (simp [renO, *]; done)⟩, by first | rfl | assumption, ?_⟩)⟩
    all_goals (first | refine FinA.tup ?_ | refine FinA.one ?_); repeat' (first | exact FinBs.nil | exact FinCs.nil | refine FinBs.cons ?_ ?_ | refine FinCs.cons ?_ ?_ | refine FinB.cell (FinC.v ?_) | refine FinB.cell (FinC.own rfl rfl rfl ?_) | exact FinB.cell FinC.nil | refine FinB.cell (FinC.sl ?_) | exact FinB.agg' rfl rfl | exact FinB.cell (FinC.same rfl) | refine FinB.agg ?_ | refine FinC.v ?_ | refine FinC.own rfl rfl rfl ?_ | exact FinC.nil | refine FinC.sl ?_ | exact FinC.same rfl); all_goals try rfl
theorem p_HDueNil (mk : Int) : PC Try.prog 16 [.v (.pointer none), .v (.int .i64 mk)] (.v (.slice none 0 0)) := by
  have h := p_HLenNil
  refine PC.mk (ac_body tab_ok Try.func16 rfl (by kernel_rfl) rfl ?_); intro w0 M μ0; simp only [Try.ntmps16, List.length_cons, List.length_nil, Nat.reduceAdd, Nat.reduceSub, numb]
  repeat' (first | ((first | apply o_do | apply d_do | apply d_yes rfl rfl rfl); exact lsq) | refine a_seq ?_ | refine a_region ?_ | refine o_nil ?_ | refine a_block ?_ | refine a_ret ?_ | refine a_exit ?_ | refine a_skip ?_ | refine a_draw mixed ?_ | refine d_nil (by kernel_rfl) ?_ | refine o_yes rfl rfl rfl ?_ | refine o_no rfl rfl rfl (by decide) ?_ | refine o_no' rfl rfl rfl ?_ | refine a_condT rfl ?_ | refine a_condF rfl ?_ | refine d_no rfl rfl rfl (by decide) ?_ | refine d_no' rfl rfl rfl ?_ | (refine wq2 (fun hb => ?_) (fun hb => ?_) <;> (simp only [hb]; try simp only [hbs, ne_eq] at hb; try (exfalso; first | omega | exact hb trivial))) | fail)
  refine a_loop (X := Unit) (fun _ => ⟨[(0, .v (.pointer none)), (5, .v (.slice none 0 0))], []⟩) (fun _ => 0) () ?_ ?_
  · refine ⟨by repeat' (first | exact trivial | exact FinA.one (FinB.cell (FinC.same rfl)) | exact FinA.one (FinB.cell FinC.nil) | exact FinA.bound rfl | exact FinA.one (FinB.cell (FinC.own rfl rfl rfl rfl)) | exact FinA.one (FinB.cell (FinC.v (by first | rfl | (simp)))) | exact FinA.one (FinB.cell (FinC.ow rfl (by first | rfl | (simp)))) | exact FinA.one (FinB.agg' rfl rfl) | refine ⟨⟨_, rfl, ?_⟩, ?_⟩), by repeat' (first | exact trivial | refine ⟨⟨_, rfl, by first | rfl | (simp; done) | (simp [renO, *]; done)⟩, by first | rfl | assumption, ?_⟩), rfl⟩
  rintro ⟨⟩
  repeat' (first | ((first | apply o_do | apply d_do | apply d_yes rfl rfl rfl); first | exact lsc (h) | exact lsq) | refine a_seq ?_ | refine a_region ?_ | refine o_nil ?_ | refine a_block ?_ | refine a_ret ?_ | refine a_exit ?_ | refine a_skip ?_ | refine a_draw mixed ?_ | refine d_nil (by kernel_rfl) ?_ | refine o_yes rfl rfl rfl ?_ | refine o_no rfl rfl rfl (by decide) ?_ | refine o_no' rfl rfl rfl ?_ | refine a_condT rfl ?_ | refine a_condF rfl ?_ | refine d_no rfl rfl rfl (by decide) ?_ | refine d_no' rfl rfl rfl ?_ | (refine wq2 (fun hb => ?_) (fun hb => ?_) <;> (simp only [hb]; try simp only [hbs, ne_eq] at hb; try (exfalso; first | omega | exact hb trivial))) | fail)
  refine ⟨by first | exact .inr rfl | exact .inl rfl, _, rfl, ?_, by repeat' (first | exact trivial | refine ⟨⟨_, rfl, by first | rfl | (simp [renO, *]; done)⟩, by first | rfl | assumption, ?_⟩)⟩
  (first | refine FinA.tup ?_ | refine FinA.one ?_); repeat' (first | exact FinBs.nil | exact FinCs.nil | refine FinBs.cons ?_ ?_ | refine FinCs.cons ?_ ?_ | refine FinB.cell (FinC.v ?_) | refine FinB.cell (FinC.own rfl rfl rfl ?_) | exact FinB.cell FinC.nil | refine FinB.cell (FinC.sl ?_) | exact FinB.agg' rfl rfl | exact FinB.cell (FinC.same rfl) | refine FinB.agg ?_ | refine FinC.v ?_ | refine FinC.own rfl rfl rfl ?_ | exact FinC.nil | refine FinC.sl ?_ | exact FinC.same rfl); all_goals try rfl
end Go.Proofs.Yteooamoagkcgnaa
