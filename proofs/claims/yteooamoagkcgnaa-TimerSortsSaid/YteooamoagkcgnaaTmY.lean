/-
  Timers, walked over abstract values: the reference's row in order.
-/
import Derived.Test.YteooamoagkcgnaaTmX
namespace Go.Proofs.Yteooamoagkcgnaa
open Go.RowKit
set_option linter.unusedSimpArgs false
set_option linter.unusedVariables false
theorem tIns_app (x : Tm) : ∀ (l m : List Tm), l.any (tLt x) = false → tIns x (l ++ m) = l ++ tIns x m
  | [], m, _ => rfl
  | t :: l, m, h => by
    simp only [List.any_cons, Bool.or_eq_false_iff] at h
    have := tIns_app x l m h.2
    simp only [List.cons_append, tIns, h.1, Bool.false_eq_true, if_false, this]
theorem tIns_in (x : Tm) : ∀ (l m : List Tm), l.any (tLt x) = true → tIns x (l ++ m) = tIns x l ++ m
  | [], m, h => by simp at h
  | t :: l, m, h => by
    cases h1 : tLt x t
    · have h2 : l.any (tLt x) = true := by simpa [List.any_cons, h1] using h
      simp only [List.cons_append, tIns, h1, Bool.false_eq_true, if_false, tIns_in x l m h2]
    · simp [tIns, h1]
set_option maxRecDepth 20000 in
set_option maxHeartbeats 4000000 in
theorem p_Parts (l : List Tm) (mk : Int) (hm : l.length ≤ 1000000) : PC Try.prog 19 [.sl 2 (l.map Tm.av), .v (.int .i64 mk)] (.tup [.sl 2 ((dueP mk l).map Tm.av), .sl 2 ((restP mk l).map Tm.av)]) := by
  have hl1 : ∀ q, (dueP mk (l.take q)).length ≤ l.length := fun q => Nat.le_trans (List.length_filter_le _ _) (by rw [List.length_take]; omega)
  have hl2 : ∀ q, (restP mk (l.take q)).length ≤ l.length := fun q => Nat.le_trans (List.length_filter_le _ _) (by rw [List.length_take]; omega)
  refine PC.mk (ac_body tab_ok Try.func19 rfl (by kernel_rfl) rfl ?_); intro w0 M μ0; simp only [Try.ntmps19, List.length_cons, List.length_nil, Nat.reduceAdd, Nat.reduceSub, numb]
  repeat' (first | ((first | apply o_do | apply d_do | apply d_yes rfl rfl rfl); exact lsq) | refine a_seq ?_ | refine a_region ?_ | refine o_nil ?_ | refine a_block ?_ | refine a_ret ?_ | refine a_exit ?_ | refine a_skip ?_ | refine a_draw mixed ?_ | refine d_nil (by kernel_rfl) ?_ | refine o_yes rfl rfl rfl ?_ | refine o_no rfl rfl rfl (by decide) ?_ | refine o_no' rfl rfl rfl ?_ | refine a_condT rfl ?_ | refine a_condF rfl ?_ | refine d_no rfl rfl rfl (by decide) ?_ | refine d_no' rfl rfl rfl ?_ | (refine wq2 (fun hb => ?_) (fun hb => ?_) <;> (simp only [hb]; try simp only [hbs, ne_eq] at hb; try (exfalso; first | omega | exact hb trivial))) | fail)
  refine a_loop (X := {q : Nat // q ≤ l.length}) (fun x => ⟨[(1, .v (.int .i64 mk)), (6, .own 0 ((dueP mk (l.take x.1)).map Tm.av).length), (7, .own 1 ((restP mk (l.take x.1)).map Tm.av).length), (12, .sl 2 (l.map Tm.av)), (13, .v (.int .i64 l.length)), (14, .v (.int .i64 x.1))], [(0, .row 27 2 ((dueP mk (l.take x.1)).map Tm.av)), (1, .row 27 2 ((restP mk (l.take x.1)).map Tm.av))]⟩) (fun x => l.length - x.1) ⟨0, Nat.zero_le _⟩ ?_ ?_
  · refine ⟨by repeat' (first | exact trivial | exact FinA.one (FinB.cell (FinC.same rfl)) | exact FinA.one (FinB.cell FinC.nil) | exact FinA.bound rfl | exact FinA.one (FinB.cell (FinC.own rfl rfl rfl rfl)) | exact FinA.one (FinB.cell (FinC.v (by first | rfl | (simp)))) | exact FinA.one (FinB.cell (FinC.ow rfl (by first | rfl | (simp)))) | exact FinA.one (FinB.agg' rfl rfl) | refine ⟨⟨_, rfl, ?_⟩, ?_⟩), by repeat' (first | exact trivial | refine ⟨⟨_, rfl, by first | rfl | (simp; done) | (simp [renO, *]; done)⟩, by first | rfl | assumption, ?_⟩), rfl⟩
  rintro ⟨q, hq⟩
  dsimp only
  by_cases hlt : q < l.length
  · have hel : (l.map Tm.av)[q]? = some (Tm.av l[q]) := by simp [hlt]
    have hsn := take_snoc l q hlt
    have b1 : ((dueP mk (l.take q)).map Tm.av).length ≤ 1000000 := by rw [List.length_map]; have := hl1 q; omega
    have b2 : ((restP mk (l.take q)).map Tm.av).length ≤ 1000000 := by rw [List.length_map]; have := hl2 q; omega
    generalize l[q] = x at *
    by_cases hx : x.at' ≤ mk
    · have e1 : (dueP mk (l.take (q + 1))).map Tm.av = (dueP mk (l.take q)).map Tm.av ++ [Tm.av x] := by rw [hsn]; simp [dueP, List.filter_append, hx]
      have e2 : (restP mk (l.take (q + 1))).map Tm.av = (restP mk (l.take q)).map Tm.av := by rw [hsn]; simp [restP, List.filter_append, hx]
      repeat' (first | ((first | apply o_do | apply d_do | apply d_yes rfl rfl rfl); first | exact ls_indexAddr_sl tab_ok rfl rfl rfl rfl (by assumption) rfl | exact ls_append tab_ok rfl rfl rfl rfl (by first | exact SrcIs.sl | exact SrcIs.nil | exact SrcIs.own rfl rfl) rfl (by (try simp only [List.length_cons, List.length_nil]); omega) rfl rfl | exact lsq) | refine a_seq ?_ | refine a_region ?_ | refine o_nil ?_ | refine a_block ?_ | refine a_ret ?_ | refine a_exit ?_ | refine a_skip ?_ | refine a_draw mixed ?_ | refine d_nil (by kernel_rfl) ?_ | refine o_yes rfl rfl rfl ?_ | refine o_no rfl rfl rfl (by decide) ?_ | refine o_no' rfl rfl rfl ?_ | refine a_condT rfl ?_ | refine a_condF rfl ?_ | refine d_no rfl rfl rfl (by decide) ?_ | refine d_no' rfl rfl rfl ?_ | (refine wq2 (fun hb => ?_) (fun hb => ?_) <;> (simp only [hb]; try simp only [hbs, ne_eq] at hb; try (exfalso; first | omega | exact hb trivial))) | fail)
      refine ⟨⟨q + 1, by omega⟩, by dsimp only; omega, ?_⟩
      refine ⟨by repeat' (first | exact trivial | exact FinA.one (FinB.cell (FinC.same rfl)) | exact FinA.one (FinB.cell FinC.nil) | exact FinA.bound rfl | exact FinA.one (FinB.cell (FinC.own rfl rfl rfl rfl)) | exact FinA.one (FinB.cell (FinC.v (by first | rfl | ((first | (simp only [e1]; done) | (simp only [e2]; done) | (simp only [e1]; rfl) | (simp only [e2]; rfl) | simp))))) | exact FinA.one (FinB.cell (FinC.ow rfl (by first | rfl | ((first | (simp only [e1]; done) | (simp only [e2]; done) | (simp only [e1]; rfl) | (simp only [e2]; rfl) | simp))))) | exact FinA.one (FinB.agg' rfl rfl) | refine ⟨⟨_, rfl, ?_⟩, ?_⟩), by repeat' (first | exact trivial | refine ⟨⟨_, rfl, by first | rfl | ((first | (simp only [e1]; done) | (simp only [e2]; done) | (simp only [e1]; rfl) | (simp only [e2]; rfl) | simp); done) | (simp [renO, *]; done)⟩, by first | rfl | assumption, ?_⟩), rfl⟩
    · have e1 : (dueP mk (l.take (q + 1))).map Tm.av = (dueP mk (l.take q)).map Tm.av := by rw [hsn]; simp [dueP, List.filter_append, hx]
      have e2 : (restP mk (l.take (q + 1))).map Tm.av = (restP mk (l.take q)).map Tm.av ++ [Tm.av x] := by rw [hsn]; simp [restP, List.filter_append, hx]
      repeat' (first | ((first | apply o_do | apply d_do | apply d_yes rfl rfl rfl); first | exact ls_indexAddr_sl tab_ok rfl rfl rfl rfl (by assumption) rfl | exact ls_append tab_ok rfl rfl rfl rfl (by first | exact SrcIs.sl | exact SrcIs.nil | exact SrcIs.own rfl rfl) rfl (by (try simp only [List.length_cons, List.length_nil]); omega) rfl rfl | exact lsq) | refine a_seq ?_ | refine a_region ?_ | refine o_nil ?_ | refine a_block ?_ | refine a_ret ?_ | refine a_exit ?_ | refine a_skip ?_ | refine a_draw mixed ?_ | refine d_nil (by kernel_rfl) ?_ | refine o_yes rfl rfl rfl ?_ | refine o_no rfl rfl rfl (by decide) ?_ | refine o_no' rfl rfl rfl ?_ | refine a_condT rfl ?_ | refine a_condF rfl ?_ | refine d_no rfl rfl rfl (by decide) ?_ | refine d_no' rfl rfl rfl ?_ | (refine wq2 (fun hb => ?_) (fun hb => ?_) <;> (simp only [hb]; try simp only [hbs, ne_eq] at hb; try (exfalso; first | omega | exact hb trivial))) | fail)
      refine ⟨⟨q + 1, by omega⟩, by dsimp only; omega, ?_⟩
      refine ⟨by repeat' (first | exact trivial | exact FinA.one (FinB.cell (FinC.same rfl)) | exact FinA.one (FinB.cell FinC.nil) | exact FinA.bound rfl | exact FinA.one (FinB.cell (FinC.own rfl rfl rfl rfl)) | exact FinA.one (FinB.cell (FinC.v (by first | rfl | ((first | (simp only [e1]; done) | (simp only [e2]; done) | (simp only [e1]; rfl) | (simp only [e2]; rfl) | simp))))) | exact FinA.one (FinB.cell (FinC.ow rfl (by first | rfl | ((first | (simp only [e1]; done) | (simp only [e2]; done) | (simp only [e1]; rfl) | (simp only [e2]; rfl) | simp))))) | exact FinA.one (FinB.agg' rfl rfl) | refine ⟨⟨_, rfl, ?_⟩, ?_⟩), by repeat' (first | exact trivial | refine ⟨⟨_, rfl, by first | rfl | ((first | (simp only [e1]; done) | (simp only [e2]; done) | (simp only [e1]; rfl) | (simp only [e2]; rfl) | simp); done) | (simp [renO, *]; done)⟩, by first | rfl | assumption, ?_⟩), rfl⟩
  · obtain rfl : q = l.length := by omega
    rw [List.take_length]
    repeat' (first | ((first | apply o_do | apply d_do | apply d_yes rfl rfl rfl); exact lsq) | refine a_seq ?_ | refine a_region ?_ | refine o_nil ?_ | refine a_block ?_ | refine a_ret ?_ | refine a_exit ?_ | refine a_skip ?_ | refine a_draw mixed ?_ | refine d_nil (by kernel_rfl) ?_ | refine o_yes rfl rfl rfl ?_ | refine o_no rfl rfl rfl (by decide) ?_ | refine o_no' rfl rfl rfl ?_ | refine a_condT rfl ?_ | refine a_condF rfl ?_ | refine d_no rfl rfl rfl (by decide) ?_ | refine d_no' rfl rfl rfl ?_ | (refine wq2 (fun hb => ?_) (fun hb => ?_) <;> (simp only [hb]; try simp only [hbs, ne_eq] at hb; try (exfalso; first | omega | exact hb trivial))) | fail)
    refine ⟨by first | exact .inr rfl | exact .inl rfl, _, rfl, ?_, by repeat' (first | exact trivial | refine ⟨⟨_, rfl, by first | rfl | (simp [renO, *]; done)⟩, by first | rfl | assumption, ?_⟩)⟩
    (first | refine FinA.tup ?_ | refine FinA.one ?_); repeat' (first | exact FinBs.nil | exact FinCs.nil | refine FinBs.cons ?_ ?_ | refine FinCs.cons ?_ ?_ | refine FinB.cell (FinC.v ?_) | refine FinB.cell (FinC.own rfl rfl rfl ?_) | exact FinB.cell FinC.nil | refine FinB.cell (FinC.sl ?_) | exact FinB.agg' rfl rfl | exact FinB.cell (FinC.same rfl) | refine FinB.agg ?_ | refine FinC.v ?_ | refine FinC.own rfl rfl rfl ?_ | exact FinC.nil | refine FinC.sl ?_ | exact FinC.same rfl); all_goals try rfl
end Go.Proofs.Yteooamoagkcgnaa
