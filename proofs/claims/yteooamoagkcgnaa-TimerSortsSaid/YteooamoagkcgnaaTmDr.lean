/-
  Timers: the law TimerDrops walked.
-/
import Derived.Test.YteooamoagkcgnaaTmDu
import Derived.Test.YteooamoagkcgnaaTmH
namespace Go.Proofs.Yteooamoagkcgnaa
open Go.RowKit
set_option linter.unusedSimpArgs false
set_option linter.unusedVariables false
theorem Inv.sorted {l r : List Tm} (h : Inv l r) : tSort r = l := h.all (tSort_sorted r).1 (tSort_sorted r).2
structure DrA (nm : ByteArray) (l : List Tm) (q : Nat) (g h : List Tm) : Prop where
  hq : q ≤ l.length
  hg : Inv (tSort (l.take q)) g
  hh : Inv (tSort (outP nm (l.take q))) h
theorem DrA.start (nm : ByteArray) (l : List Tm) : DrA nm l 0 [] [] := ⟨Nat.zero_le _, inv_nil, inv_nil⟩
theorem DrA.out {nm : ByteArray} {l g h : List Tm} {q : Nat} (a : DrA nm l q g h) (hlt : q < l.length) {x : Tm} (hx : l.take (q + 1) = l.take q ++ [x]) (hn : nmB nm x = true) : DrA nm l (q + 1) (hpush tLt tmZ g x) h ∧ (outP nm (l.take (q + 1))).length = (outP nm (l.take q)).length := by
  refine ⟨⟨hlt, ?_, ?_⟩, ?_⟩
  · rw [hx, tSort_snoc]; exact a.hg.push x
  · rw [hx, outP_snoc, if_pos hn, List.append_nil]; exact a.hh
  · rw [hx, outP_snoc, if_pos hn, List.append_nil]
theorem DrA.keep {nm : ByteArray} {l g h : List Tm} {q : Nat} (a : DrA nm l q g h) (hlt : q < l.length) {x : Tm} (hx : l.take (q + 1) = l.take q ++ [x]) (hn : nmB nm x = false) : DrA nm l (q + 1) (hpush tLt tmZ g x) (hpush tLt tmZ h x) ∧ (outP nm (l.take (q + 1))).length = (outP nm (l.take q)).length + 1 := by
  refine ⟨⟨hlt, ?_, ?_⟩, ?_⟩
  · rw [hx, tSort_snoc]; exact a.hg.push x
  · rw [hx, outP_snoc, if_neg (by rw [hn]; simp), tSort_snoc]; exact a.hh.push x
  · rw [hx, outP_snoc, if_neg (by rw [hn]; simp), List.length_append]; rfl
def drN (nm : ByteArray) (l : List Tm) (q : Nat) : Int := (q : Int) - (outP nm (l.take q)).length
set_option maxHeartbeats 8000000 in
set_option maxRecDepth 20000 in
theorem p_drops (xs : List Tm) (nm : ByteArray) (hx : xs.length ≤ 9223372036854775807) : PC Try.prog 6 [.sl 2 (xs.map Tm.av), .v (.string nm)] (.v (.bool true)) := by
  have hn : (xs.map Tm.av).length = xs.length := List.length_map _
  obtain ⟨l, hl, hcase⟩ : ∃ l : List Tm, l.length ≤ 300 ∧ ((300 < xs.length ∧ (xs.map Tm.av).take 300 = l.map Tm.av) ∨ (¬ 300 < xs.length ∧ l = xs)) := by
    by_cases h : 300 < xs.length
    · exact ⟨xs.take 300, by rw [List.length_take]; omega, .inl ⟨h, by rw [List.map_take]⟩⟩
    · exact ⟨xs, by omega, .inr ⟨h, rfl⟩⟩
  have hnl : (l.map Tm.av).length = l.length := List.length_map _
  have hN := a_New2
  unfold HS at hN
  rcases hcase with ⟨h1, h2⟩ | ⟨h1, rfl⟩
  all_goals
    refine PC.mk (ac_body tab_ok Try.func6 rfl (by kernel_rfl) rfl ?_); intro w0 M μ0; simp only [Try.ntmps6, List.length_cons, List.length_nil, Nat.reduceAdd, Nat.reduceSub, numb]
    repeat' (first | ((first | apply o_do | apply d_do | apply d_yes rfl rfl rfl); first | exact ls_slice_to (n := 300) tab_ok rfl rfl rfl rfl (by rw [hn]; omega) rfl | exact ls_callA [] 0 hN rfl rfl (by (repeat' (first | exact NilL.nil | refine NilL.cons Nil.same ?_ | refine NilL.cons Nil.nil ?_ | refine NilL.cons (Nil.agg ?_) ?_ | exact Nil1s.nil | refine Nil1s.cons Nil1.same ?_ | refine Nil1s.cons Nil1.nil ?_)); first | done | fail) rfl (by repeat' (first | exact trivial | refine ⟨⟨_, rfl, by first | rfl | (simp [renO, *]; done)⟩, ?_⟩)) (by first | rfl | simp [closO, *]) rfl rfl rfl rfl (by first | rfl | simp [closO, *]) rfl | exact ls_callA [] 10 hN rfl rfl (by (repeat' (first | exact NilL.nil | refine NilL.cons Nil.same ?_ | refine NilL.cons Nil.nil ?_ | refine NilL.cons (Nil.agg ?_) ?_ | exact Nil1s.nil | refine Nil1s.cons Nil1.same ?_ | refine Nil1s.cons Nil1.nil ?_)); first | done | fail) rfl (by repeat' (first | exact trivial | refine ⟨⟨_, rfl, by first | rfl | (simp [renO, *]; done)⟩, ?_⟩)) (by first | rfl | simp [closO, *]) rfl rfl rfl rfl (by first | rfl | simp [closO, *]) rfl | exact ls_eqRef uH rfl rfl rfl | exact lsq) | refine a_seq ?_ | refine a_region ?_ | refine o_nil ?_ | refine a_block ?_ | refine a_ret ?_ | refine a_exit ?_ | refine a_skip ?_ | refine a_draw mixed ?_ | refine d_nil (by kernel_rfl) ?_ | refine o_yes rfl rfl rfl ?_ | refine o_no rfl rfl rfl (by decide) ?_ | refine o_no' rfl rfl rfl ?_ | refine a_condT rfl ?_ | refine a_condF rfl ?_ | refine d_no rfl rfl rfl (by decide) ?_ | refine d_no' rfl rfl rfl ?_ | (refine wq2 (fun hb => ?_) (fun hb => ?_) <;> (simp only [hb]; try simp only [hbs, ne_eq] at hb; try (exfalso; first | omega | exact hb trivial))) | fail)
    try simp only [h2]
    refine a_loop (X := {x : Nat × List Tm × List Tm // DrA nm l x.1 x.2.1 x.2.2}) (fun x => ⟨[(0, .sl 2 (l.map Tm.av)), (1, .v (.string nm)), (5, .ref 0 0), (6, .ref 10 0), (7, .v (.int .i64 (drN nm l x.1.1))), (23, .sl 2 (l.map Tm.av)), (24, .v (.int .i64 l.length)), (25, .v (.int .i64 x.1.1))], [(0, .box 50 [.own 1 (x.1.2.1.map Tm.av).length]), (1, .row 27 2 (x.1.2.1.map Tm.av)), (10, .box 50 [.own 11 (x.1.2.2.map Tm.av).length]), (11, .row 27 2 (x.1.2.2.map Tm.av))]⟩) (fun x => l.length - x.1.1) ⟨(0, [], []), DrA.start nm l⟩ ?_ ?_
    · refine ⟨by repeat' (first | exact trivial | exact FinA.one (FinB.cell (FinC.same rfl)) | exact FinA.one (FinB.cell FinC.nil) | exact FinA.bound rfl | exact FinA.one (FinB.cell (FinC.own rfl rfl rfl rfl)) | exact FinA.one (FinB.cell (FinC.v (by first | rfl | (simp)))) | exact FinA.one (FinB.cell (FinC.ow rfl (by first | rfl | (simp)))) | exact FinA.one (FinB.agg' rfl rfl) | refine ⟨⟨_, rfl, ?_⟩, ?_⟩), by repeat' (first | exact trivial | refine ⟨⟨_, rfl, by first | rfl | (simp; done) | (simp [renO, *]; done)⟩, by first | rfl | assumption, ?_⟩), rfl⟩
    rintro ⟨⟨q, g, h⟩, hA⟩
    dsimp only at hA ⊢
    have hol : (outP nm (l.take q)).length ≤ q := Nat.le_trans (List.length_filter_le _ _) (by rw [List.length_take]; omega)
    by_cases hlt : q < l.length
    · have hel : (l.map Tm.av)[q]? = some (Tm.av l[q]) := by simp [hlt]
      have hsn := take_snoc l q hlt
      have hou := fun h => hA.out hlt hsn h
      have hke := fun h => hA.keep hlt hsn h
      have hgl : g.length ≤ 900 := by rw [hA.hg.len, tSort_len, List.length_take]; omega
      have hhl : h.length ≤ 900 := by rw [hA.hh.len, tSort_len]; omega
      generalize l[q] = x at *
      have hP := a_HPush g x hgl
      have hQ := a_HPush h x hhl
      unfold HS at hP hQ
      have hdr : drN nm l q = (q : Int) - (outP nm (l.take q)).length := rfl
      cases hc : nmB nm x
      · obtain ⟨hA', hln⟩ := hke hc
        unfold nmB at hc
        have e1 : drN nm l (q + 1) = drN nm l q := by unfold drN; omega
        repeat' (first | ((first | apply o_do | apply d_do | apply d_yes rfl rfl rfl); first | exact ls_indexAddr_sl tab_ok rfl rfl rfl rfl (by assumption) rfl | exact ls_callA [0, 1] 20 hP rfl rfl (by (repeat' (first | exact NilL.nil | refine NilL.cons Nil.same ?_ | refine NilL.cons Nil.nil ?_ | refine NilL.cons (Nil.agg ?_) ?_ | exact Nil1s.nil | refine Nil1s.cons Nil1.same ?_ | refine Nil1s.cons Nil1.nil ?_)); first | done | fail) rfl (by repeat' (first | exact trivial | refine ⟨⟨_, rfl, by first | rfl | (simp [renO, *]; done)⟩, ?_⟩)) (by first | rfl | simp [closO, *]) rfl rfl rfl rfl (by first | rfl | simp [closO, *]) rfl | exact ls_callA [10, 11] 30 hQ rfl rfl (by (repeat' (first | exact NilL.nil | refine NilL.cons Nil.same ?_ | refine NilL.cons Nil.nil ?_ | refine NilL.cons (Nil.agg ?_) ?_ | exact Nil1s.nil | refine Nil1s.cons Nil1.same ?_ | refine Nil1s.cons Nil1.nil ?_)); first | done | fail) rfl (by repeat' (first | exact trivial | refine ⟨⟨_, rfl, by first | rfl | (simp [renO, *]; done)⟩, ?_⟩)) (by first | rfl | simp [closO, *]) rfl rfl rfl rfl (by first | rfl | simp [closO, *]) rfl | exact lsq) | refine a_seq ?_ | refine a_region ?_ | refine o_nil ?_ | refine a_block ?_ | refine a_ret ?_ | refine a_exit ?_ | refine a_skip ?_ | refine a_draw mixed ?_ | refine d_nil (by kernel_rfl) ?_ | refine o_yes rfl rfl rfl ?_ | refine o_no rfl rfl rfl (by decide) ?_ | refine o_no' rfl rfl rfl ?_ | refine a_condT rfl ?_ | refine a_condF rfl ?_ | refine d_no rfl rfl rfl (by decide) ?_ | refine d_no' rfl rfl rfl ?_ | (refine wq2 (fun hb => ?_) (fun hb => ?_) <;> (simp only [hb]; try simp only [hbs, ne_eq] at hb; try (exfalso; first | omega | exact hb trivial))) | fail)
        all_goals try (exfalso; simp_all; done)
        all_goals refine ⟨⟨(q + 1, _, _), hA'⟩, by dsimp only; omega, ?_⟩
        all_goals refine ⟨by repeat' (first | exact trivial | exact FinA.one (FinB.cell (FinC.same rfl)) | exact FinA.one (FinB.cell FinC.nil) | exact FinA.bound rfl | exact FinA.one (FinB.cell (FinC.own rfl rfl rfl rfl)) | exact FinA.one (FinB.cell (FinC.v (by first | rfl | ((first | (simp only [e1]; done) | (simp only [e1]; rfl) | simp))))) | exact FinA.one (FinB.cell (FinC.ow rfl (by first | rfl | ((first | (simp only [e1]; done) | (simp only [e1]; rfl) | simp))))) | exact FinA.one (FinB.agg' rfl rfl) | refine ⟨⟨_, rfl, ?_⟩, ?_⟩), by repeat' (first | exact trivial | refine ⟨⟨_, rfl, by first | rfl | ((first | (simp only [e1]; done) | (simp only [e1]; rfl) | simp); done) | (simp [renO, *]; done)⟩, by first | rfl | assumption, ?_⟩), rfl⟩
      · obtain ⟨hA', hln⟩ := hou hc
        unfold nmB at hc
        have e1 : drN nm l (q + 1) = drN nm l q + 1 := by unfold drN; omega
        repeat' (first | ((first | apply o_do | apply d_do | apply d_yes rfl rfl rfl); first | exact ls_indexAddr_sl tab_ok rfl rfl rfl rfl (by assumption) rfl | exact ls_callA [0, 1] 20 hP rfl rfl (by (repeat' (first | exact NilL.nil | refine NilL.cons Nil.same ?_ | refine NilL.cons Nil.nil ?_ | refine NilL.cons (Nil.agg ?_) ?_ | exact Nil1s.nil | refine Nil1s.cons Nil1.same ?_ | refine Nil1s.cons Nil1.nil ?_)); first | done | fail) rfl (by repeat' (first | exact trivial | refine ⟨⟨_, rfl, by first | rfl | (simp [renO, *]; done)⟩, ?_⟩)) (by first | rfl | simp [closO, *]) rfl rfl rfl rfl (by first | rfl | simp [closO, *]) rfl | exact ls_callA [10, 11] 30 hQ rfl rfl (by (repeat' (first | exact NilL.nil | refine NilL.cons Nil.same ?_ | refine NilL.cons Nil.nil ?_ | refine NilL.cons (Nil.agg ?_) ?_ | exact Nil1s.nil | refine Nil1s.cons Nil1.same ?_ | refine Nil1s.cons Nil1.nil ?_)); first | done | fail) rfl (by repeat' (first | exact trivial | refine ⟨⟨_, rfl, by first | rfl | (simp [renO, *]; done)⟩, ?_⟩)) (by first | rfl | simp [closO, *]) rfl rfl rfl rfl (by first | rfl | simp [closO, *]) rfl | exact lsq) | refine a_seq ?_ | refine a_region ?_ | refine o_nil ?_ | refine a_block ?_ | refine a_ret ?_ | refine a_exit ?_ | refine a_skip ?_ | refine a_draw mixed ?_ | refine d_nil (by kernel_rfl) ?_ | refine o_yes rfl rfl rfl ?_ | refine o_no rfl rfl rfl (by decide) ?_ | refine o_no' rfl rfl rfl ?_ | refine a_condT rfl ?_ | refine a_condF rfl ?_ | refine d_no rfl rfl rfl (by decide) ?_ | refine d_no' rfl rfl rfl ?_ | (refine wq2 (fun hb => ?_) (fun hb => ?_) <;> (simp only [hb]; try simp only [hbs, ne_eq] at hb; try (exfalso; first | omega | exact hb trivial))) | fail)
        all_goals try (exfalso; simp_all; done)
        all_goals refine ⟨⟨(q + 1, _, _), hA'⟩, by dsimp only; omega, ?_⟩
        all_goals refine ⟨by repeat' (first | exact trivial | exact FinA.one (FinB.cell (FinC.same rfl)) | exact FinA.one (FinB.cell FinC.nil) | exact FinA.bound rfl | exact FinA.one (FinB.cell (FinC.own rfl rfl rfl rfl)) | exact FinA.one (FinB.cell (FinC.v (by first | rfl | ((first | (simp only [e1]; done) | (simp only [e1]; rfl) | simp))))) | exact FinA.one (FinB.cell (FinC.ow rfl (by first | rfl | ((first | (simp only [e1]; done) | (simp only [e1]; rfl) | simp))))) | exact FinA.one (FinB.agg' rfl rfl) | refine ⟨⟨_, rfl, ?_⟩, ?_⟩), by repeat' (first | exact trivial | refine ⟨⟨_, rfl, by first | rfl | ((first | (simp only [e1]; done) | (simp only [e1]; rfl) | simp); done) | (simp [renO, *]; done)⟩, by first | rfl | assumption, ?_⟩), rfl⟩
    · obtain rfl : q = l.length := by have := hA.hq; omega
      have hg := hA.hg
      have hh := hA.hh
      have hdr : drN nm l l.length = (l.length : Int) - (outP nm l).length := by unfold drN; rw [List.take_length]
      rw [List.take_length] at hg hh hol
      have hgl : g.length = l.length := by rw [hg.len, tSort_len]
      have hhl : h.length = (outP nm l).length := by rw [hh.len, tSort_len]
      have hD1 := a_HDrop g nm (by omega)
      have i1 := hg.drop nm
      rw [tSort_out] at i1
      have o1 : (outP nm g).length = (outP nm l).length := by rw [hg.outs, tSort_out, tSort_len]
      rw [hgl, o1, ← hdr] at hD1
      generalize hinit tLt tmZ (outP nm g) = g1 at *
      have g1l : g1.length = (outP nm l).length := by rw [i1.len, tSort_len]
      have hD2 := a_HDrop g1 nm (by omega)
      have i2 := i1.drop nm
      rw [tSort_out, out_out] at i2
      have o2 : (outP nm g1).length = (outP nm l).length := by rw [i1.outs, tSort_out, tSort_len, out_out]
      rw [g1l, o2, Int.sub_self] at hD2
      generalize hinit tLt tmZ (outP nm g1) = g2' at *
      have g2l : g2'.length = (outP nm l).length := by rw [i2.len, tSort_len]
      have hL := a_HLen g2'
      have hA1 := a_HAll g2' (by omega)
      have hA2 := a_HAll h (by omega)
      rw [i2.sorted] at hA1
      rw [hh.sorted] at hA2
      have hK := r_Like (tSort (outP nm l)) (by rw [tSort_len]; omega)
      rw [g2l] at hL
      unfold HS at hD1 hD2 hL hA1 hA2
      generalize tSort (outP nm l) = S at *
      generalize drN nm l l.length = N at *
      repeat' (first | ((first | apply o_do | apply d_do | apply d_yes rfl rfl rfl); first | exact ls_callA [0, 1] 40 hD1 rfl rfl (by (repeat' (first | exact NilL.nil | refine NilL.cons Nil.same ?_ | refine NilL.cons Nil.nil ?_ | refine NilL.cons (Nil.agg ?_) ?_ | exact Nil1s.nil | refine Nil1s.cons Nil1.same ?_ | refine Nil1s.cons Nil1.nil ?_)); first | done | fail) rfl (by repeat' (first | exact trivial | refine ⟨⟨_, rfl, by first | rfl | (simp [renO, *]; done)⟩, ?_⟩)) (by first | rfl | simp [closO, *]) rfl rfl rfl rfl (by first | rfl | simp [closO, *]) rfl | exact ls_callA [0, 57] 60 hD2 rfl rfl (by (repeat' (first | exact NilL.nil | refine NilL.cons Nil.same ?_ | refine NilL.cons Nil.nil ?_ | refine NilL.cons (Nil.agg ?_) ?_ | exact Nil1s.nil | refine Nil1s.cons Nil1.same ?_ | refine Nil1s.cons Nil1.nil ?_)); first | done | fail) rfl (by repeat' (first | exact trivial | refine ⟨⟨_, rfl, by first | rfl | (simp [renO, *]; done)⟩, ?_⟩)) (by first | rfl | simp [closO, *]) rfl rfl rfl rfl (by first | rfl | simp [closO, *]) rfl | exact ls_callA [0, 77] 100 hA1 rfl rfl (by (repeat' (first | exact NilL.nil | refine NilL.cons Nil.same ?_ | refine NilL.cons Nil.nil ?_ | refine NilL.cons (Nil.agg ?_) ?_ | exact Nil1s.nil | refine Nil1s.cons Nil1.same ?_ | refine Nil1s.cons Nil1.nil ?_)); first | done | fail) rfl (by repeat' (first | exact trivial | refine ⟨⟨_, rfl, by first | rfl | (simp [renO, *]; done)⟩, ?_⟩)) (by first | rfl | simp [closO, *]) rfl rfl rfl rfl (by first | rfl | simp [closO, *]) rfl | exact ls_callA [10, 11] 140 hA2 rfl rfl (by (repeat' (first | exact NilL.nil | refine NilL.cons Nil.same ?_ | refine NilL.cons Nil.nil ?_ | refine NilL.cons (Nil.agg ?_) ?_ | exact Nil1s.nil | refine Nil1s.cons Nil1.same ?_ | refine Nil1s.cons Nil1.nil ?_)); first | done | fail) rfl (by repeat' (first | exact trivial | refine ⟨⟨_, rfl, by first | rfl | (simp [renO, *]; done)⟩, ?_⟩)) (by first | rfl | simp [closO, *]) rfl rfl rfl rfl (by first | rfl | simp [closO, *]) rfl | exact lcs (hK) | exact ls_callA [0, 77] 200 hL rfl rfl (by (repeat' (first | exact NilL.nil | refine NilL.cons Nil.same ?_ | refine NilL.cons Nil.nil ?_ | refine NilL.cons (Nil.agg ?_) ?_ | exact Nil1s.nil | refine Nil1s.cons Nil1.same ?_ | refine Nil1s.cons Nil1.nil ?_)); first | done | fail) rfl (by repeat' (first | exact trivial | refine ⟨⟨_, rfl, by first | rfl | (simp [renO, *]; done)⟩, ?_⟩)) (by first | rfl | simp [closO, *]) rfl rfl rfl rfl (by first | rfl | simp [closO, *]) rfl | exact lsq) | refine a_seq ?_ | refine a_region ?_ | refine o_nil ?_ | refine a_block ?_ | refine a_ret ?_ | refine a_exit ?_ | refine a_skip ?_ | refine a_draw mixed ?_ | refine d_nil (by kernel_rfl) ?_ | refine o_yes rfl rfl rfl ?_ | refine o_no rfl rfl rfl (by decide) ?_ | refine o_no' rfl rfl rfl ?_ | refine a_condT rfl ?_ | refine a_condF rfl ?_ | refine d_no rfl rfl rfl (by decide) ?_ | refine d_no' rfl rfl rfl ?_ | (refine wq2 (fun hb => ?_) (fun hb => ?_) <;> (simp only [hb]; try simp only [hbs, ne_eq] at hb; try (exfalso; first | omega | exact hb trivial))) | fail)
      all_goals refine ⟨by first | exact .inr rfl | exact .inl rfl, _, rfl, ?_, by repeat' (first | exact trivial | refine ⟨⟨_, rfl, by first | rfl | (simp [renO, *]; done)⟩, by first | rfl | assumption, ?_⟩)⟩
      all_goals (first | refine FinA.tup ?_ | refine FinA.one ?_); repeat' (first | exact FinBs.nil | exact FinCs.nil | refine FinBs.cons ?_ ?_ | refine FinCs.cons ?_ ?_ | refine FinB.cell (FinC.v ?_) | refine FinB.cell (FinC.own rfl rfl rfl ?_) | exact FinB.cell FinC.nil | refine FinB.cell (FinC.sl ?_) | exact FinB.agg' rfl rfl | exact FinB.cell (FinC.same rfl) | refine FinB.agg ?_ | refine FinC.v ?_ | refine FinC.own rfl rfl rfl ?_ | exact FinC.nil | refine FinC.sl ?_ | exact FinC.same rfl); all_goals try rfl
      all_goals rw [decide_eq_true (by rw [hnl]; omega)]
end Go.Proofs.Yteooamoagkcgnaa
