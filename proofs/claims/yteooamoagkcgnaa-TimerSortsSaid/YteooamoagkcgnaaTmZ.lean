/-
  Timers, walked over abstract values: the reference's With and Without.
-/
import Derived.Test.YteooamoagkcgnaaTmY
import Derived.Test.YteooamoagkcgnaaTmG
namespace Go.Proofs.Yteooamoagkcgnaa
open Go.RowKit
set_option linter.unusedSimpArgs false
set_option linter.unusedVariables false
set_option maxRecDepth 20000 in
set_option maxHeartbeats 4000000 in
theorem p_Without (l : List Tm) (nm : ByteArray) (hm : l.length ≤ 1000000) : PC Try.prog 20 [.sl 2 (l.map Tm.av), .v (.string nm)] (.sl 2 ((outP nm l).map Tm.av)) := by
  have hl1 : ∀ q, (outP nm (l.take q)).length ≤ l.length := fun q => Nat.le_trans (List.length_filter_le _ _) (by rw [List.length_take]; omega)
  refine PC.mk (ac_body tab_ok Try.func20 rfl (by kernel_rfl) rfl ?_); intro w0 M μ0; simp only [Try.ntmps20, List.length_cons, List.length_nil, Nat.reduceAdd, Nat.reduceSub, numb]
  repeat' (first | ((first | apply o_do | apply d_do | apply d_yes rfl rfl rfl); exact lsq) | refine a_seq ?_ | refine a_region ?_ | refine o_nil ?_ | refine a_block ?_ | refine a_ret ?_ | refine a_exit ?_ | refine a_skip ?_ | refine a_draw mixed ?_ | refine d_nil (by kernel_rfl) ?_ | refine o_yes rfl rfl rfl ?_ | refine o_no rfl rfl rfl (by decide) ?_ | refine o_no' rfl rfl rfl ?_ | refine a_condT rfl ?_ | refine a_condF rfl ?_ | refine d_no rfl rfl rfl (by decide) ?_ | refine d_no' rfl rfl rfl ?_ | (refine wq2 (fun hb => ?_) (fun hb => ?_) <;> (simp only [hb]; try simp only [hbs, ne_eq] at hb; try (exfalso; first | omega | exact hb trivial))) | fail)
  refine a_loop (X := {q : Nat // q ≤ l.length}) (fun x => ⟨[(1, .v (.string nm)), (5, .own 0 ((outP nm (l.take x.1)).map Tm.av).length), (9, .sl 2 (l.map Tm.av)), (10, .v (.int .i64 l.length)), (11, .v (.int .i64 x.1))], [(0, .row 27 2 ((outP nm (l.take x.1)).map Tm.av))]⟩) (fun x => l.length - x.1) ⟨0, Nat.zero_le _⟩ ?_ ?_
  · refine ⟨by repeat' (first | exact trivial | exact FinA.one (FinB.cell (FinC.same rfl)) | exact FinA.one (FinB.cell FinC.nil) | exact FinA.bound rfl | exact FinA.one (FinB.cell (FinC.own rfl rfl rfl rfl)) | exact FinA.one (FinB.cell (FinC.v (by first | rfl | (simp)))) | exact FinA.one (FinB.cell (FinC.ow rfl (by first | rfl | (simp)))) | exact FinA.one (FinB.agg' rfl rfl) | refine ⟨⟨_, rfl, ?_⟩, ?_⟩), by repeat' (first | exact trivial | refine ⟨⟨_, rfl, by first | rfl | (simp; done) | (simp [renO, *]; done)⟩, by first | rfl | assumption, ?_⟩), rfl⟩
  rintro ⟨q, hq⟩
  dsimp only
  by_cases hlt : q < l.length
  · have hel : (l.map Tm.av)[q]? = some (Tm.av l[q]) := by simp [hlt]
    have hsn := take_snoc l q hlt
    have b1 : ((outP nm (l.take q)).map Tm.av).length ≤ 1000000 := by rw [List.length_map]; have := hl1 q; omega
    generalize l[q] = x at *
    have hk : nmB nm x = false → (outP nm (l.take (q + 1))).map Tm.av = (outP nm (l.take q)).map Tm.av ++ [Tm.av x] := fun h => by rw [hsn, outP_snoc, h]; simp
    have hd : nmB nm x = true → (outP nm (l.take (q + 1))).map Tm.av = (outP nm (l.take q)).map Tm.av := fun h => by rw [hsn, outP_snoc, h]; simp
    cases hc : nmB nm x
    · have e1 := hk hc
      unfold nmB at hc
      repeat' (first | ((first | apply o_do | apply d_do | apply d_yes rfl rfl rfl); first | exact ls_indexAddr_sl tab_ok rfl rfl rfl rfl (by assumption) rfl | exact ls_append tab_ok rfl rfl rfl rfl (by first | exact SrcIs.sl | exact SrcIs.nil | exact SrcIs.own rfl rfl) rfl (by (try simp only [List.length_cons, List.length_nil]); omega) rfl rfl | exact lsq) | refine a_seq ?_ | refine a_region ?_ | refine o_nil ?_ | refine a_block ?_ | refine a_ret ?_ | refine a_exit ?_ | refine a_skip ?_ | refine a_draw mixed ?_ | refine d_nil (by kernel_rfl) ?_ | refine o_yes rfl rfl rfl ?_ | refine o_no rfl rfl rfl (by decide) ?_ | refine o_no' rfl rfl rfl ?_ | refine a_condT rfl ?_ | refine a_condF rfl ?_ | refine d_no rfl rfl rfl (by decide) ?_ | refine d_no' rfl rfl rfl ?_ | (refine wq2 (fun hb => ?_) (fun hb => ?_) <;> (simp only [hb]; try simp only [hbs, ne_eq] at hb; try (exfalso; first | omega | exact hb trivial))) | fail)
      all_goals try (exfalso; simp_all; done)
      all_goals refine ⟨⟨q + 1, by omega⟩, by dsimp only; omega, ?_⟩
      all_goals refine ⟨by repeat' (first | exact trivial | exact FinA.one (FinB.cell (FinC.same rfl)) | exact FinA.one (FinB.cell FinC.nil) | exact FinA.bound rfl | exact FinA.one (FinB.cell (FinC.own rfl rfl rfl rfl)) | exact FinA.one (FinB.cell (FinC.v (by first | rfl | ((first | (simp only [e1]; done) | (simp only [e1]; rfl) | simp))))) | exact FinA.one (FinB.cell (FinC.ow rfl (by first | rfl | ((first | (simp only [e1]; done) | (simp only [e1]; rfl) | simp))))) | exact FinA.one (FinB.agg' rfl rfl) | refine ⟨⟨_, rfl, ?_⟩, ?_⟩), by repeat' (first | exact trivial | refine ⟨⟨_, rfl, by first | rfl | ((first | (simp only [e1]; done) | (simp only [e1]; rfl) | simp); done) | (simp [renO, *]; done)⟩, by first | rfl | assumption, ?_⟩), rfl⟩
    · have e1 := hd hc
      unfold nmB at hc
      repeat' (first | ((first | apply o_do | apply d_do | apply d_yes rfl rfl rfl); first | exact ls_indexAddr_sl tab_ok rfl rfl rfl rfl (by assumption) rfl | exact ls_append tab_ok rfl rfl rfl rfl (by first | exact SrcIs.sl | exact SrcIs.nil | exact SrcIs.own rfl rfl) rfl (by (try simp only [List.length_cons, List.length_nil]); omega) rfl rfl | exact lsq) | refine a_seq ?_ | refine a_region ?_ | refine o_nil ?_ | refine a_block ?_ | refine a_ret ?_ | refine a_exit ?_ | refine a_skip ?_ | refine a_draw mixed ?_ | refine d_nil (by kernel_rfl) ?_ | refine o_yes rfl rfl rfl ?_ | refine o_no rfl rfl rfl (by decide) ?_ | refine o_no' rfl rfl rfl ?_ | refine a_condT rfl ?_ | refine a_condF rfl ?_ | refine d_no rfl rfl rfl (by decide) ?_ | refine d_no' rfl rfl rfl ?_ | (refine wq2 (fun hb => ?_) (fun hb => ?_) <;> (simp only [hb]; try simp only [hbs, ne_eq] at hb; try (exfalso; first | omega | exact hb trivial))) | fail)
      all_goals try (exfalso; simp_all; done)
      all_goals refine ⟨⟨q + 1, by omega⟩, by dsimp only; omega, ?_⟩
      all_goals refine ⟨by repeat' (first | exact trivial | exact FinA.one (FinB.cell (FinC.same rfl)) | exact FinA.one (FinB.cell FinC.nil) | exact FinA.bound rfl | exact FinA.one (FinB.cell (FinC.own rfl rfl rfl rfl)) | exact FinA.one (FinB.cell (FinC.v (by first | rfl | ((first | (simp only [e1]; done) | (simp only [e1]; rfl) | simp))))) | exact FinA.one (FinB.cell (FinC.ow rfl (by first | rfl | ((first | (simp only [e1]; done) | (simp only [e1]; rfl) | simp))))) | exact FinA.one (FinB.agg' rfl rfl) | refine ⟨⟨_, rfl, ?_⟩, ?_⟩), by repeat' (first | exact trivial | refine ⟨⟨_, rfl, by first | rfl | ((first | (simp only [e1]; done) | (simp only [e1]; rfl) | simp); done) | (simp [renO, *]; done)⟩, by first | rfl | assumption, ?_⟩), rfl⟩
  · obtain rfl : q = l.length := by omega
    rw [List.take_length]
    repeat' (first | ((first | apply o_do | apply d_do | apply d_yes rfl rfl rfl); exact lsq) | refine a_seq ?_ | refine a_region ?_ | refine o_nil ?_ | refine a_block ?_ | refine a_ret ?_ | refine a_exit ?_ | refine a_skip ?_ | refine a_draw mixed ?_ | refine d_nil (by kernel_rfl) ?_ | refine o_yes rfl rfl rfl ?_ | refine o_no rfl rfl rfl (by decide) ?_ | refine o_no' rfl rfl rfl ?_ | refine a_condT rfl ?_ | refine a_condF rfl ?_ | refine d_no rfl rfl rfl (by decide) ?_ | refine d_no' rfl rfl rfl ?_ | (refine wq2 (fun hb => ?_) (fun hb => ?_) <;> (simp only [hb]; try simp only [hbs, ne_eq] at hb; try (exfalso; first | omega | exact hb trivial))) | fail)
    refine ⟨by first | exact .inr rfl | exact .inl rfl, _, rfl, ?_, by repeat' (first | exact trivial | refine ⟨⟨_, rfl, by first | rfl | (simp [renO, *]; done)⟩, by first | rfl | assumption, ?_⟩)⟩
    (first | refine FinA.tup ?_ | refine FinA.one ?_); repeat' (first | exact FinBs.nil | exact FinCs.nil | refine FinBs.cons ?_ ?_ | refine FinCs.cons ?_ ?_ | refine FinB.cell (FinC.v ?_) | refine FinB.cell (FinC.own rfl rfl rfl ?_) | exact FinB.cell FinC.nil | refine FinB.cell (FinC.sl ?_) | exact FinB.agg' rfl rfl | exact FinB.cell (FinC.same rfl) | refine FinB.agg ?_ | refine FinC.v ?_ | refine FinC.own rfl rfl rfl ?_ | exact FinC.nil | refine FinC.sl ?_ | exact FinC.same rfl); all_goals try rfl
def wRow (x : Tm) (m : List Tm) : Bool → List Tm
  | true => tIns x m
  | false => m
theorem wRow_len (x : Tm) (m : List Tm) (b : Bool) : (wRow x m b).length ≤ m.length + 1 := by
  cases b
  · exact Nat.le_succ _
  · exact Nat.le_of_eq (tIns_len x m)
theorem w_in (x y : Tm) (m : List Tm) (h : m.any (tLt x) = true) : (m ++ [y]).any (tLt x) = true ∧ wRow x (m ++ [y]) true = wRow x m true ++ [y] := ⟨by rw [List.any_append, h]; rfl, tIns_in x m [y] h⟩
theorem w_now (x y : Tm) (m : List Tm) (h : m.any (tLt x) = false) (hy : tLt x y = true) : (m ++ [y]).any (tLt x) = true ∧ wRow x (m ++ [y]) true = wRow x m false ++ [x] ++ [y] := by
  refine ⟨by simp [List.any_append, hy], ?_⟩
  show tIns x (m ++ [y]) = m ++ [x] ++ [y]
  rw [tIns_app x m [y] h]
  simp [tIns, hy]
theorem w_not (x y : Tm) (m : List Tm) (h : m.any (tLt x) = false) (hy : tLt x y = false) : (m ++ [y]).any (tLt x) = false ∧ wRow x (m ++ [y]) false = wRow x m false ++ [y] := ⟨by simp [List.any_append, h, hy], rfl⟩
set_option maxRecDepth 20000 in
set_option maxHeartbeats 4000000 in
theorem p_With (l : List Tm) (x : Tm) (hm : l.length ≤ 1000000) : PC Try.prog 18 [.sl 2 (l.map Tm.av), .agg x.av] (.sl 2 ((tIns x l).map Tm.av)) := by
  refine PC.mk (ac_body tab_ok Try.func18 rfl (by kernel_rfl) rfl ?_); intro w0 M μ0; simp only [Try.ntmps18, List.length_cons, List.length_nil, Nat.reduceAdd, Nat.reduceSub, numb]
  repeat' (first | ((first | apply o_do | apply d_do | apply d_yes rfl rfl rfl); exact lsq) | refine a_seq ?_ | refine a_region ?_ | refine o_nil ?_ | refine a_block ?_ | refine a_ret ?_ | refine a_exit ?_ | refine a_skip ?_ | refine a_draw mixed ?_ | refine d_nil (by kernel_rfl) ?_ | refine o_yes rfl rfl rfl ?_ | refine o_no rfl rfl rfl (by decide) ?_ | refine o_no' rfl rfl rfl ?_ | refine a_condT rfl ?_ | refine a_condF rfl ?_ | refine d_no rfl rfl rfl (by decide) ?_ | refine d_no' rfl rfl rfl ?_ | (refine wq2 (fun hb => ?_) (fun hb => ?_) <;> (simp only [hb]; try simp only [hbs, ne_eq] at hb; try (exfalso; first | omega | exact hb trivial))) | fail)
  refine a_loop (X := {p : Nat × Bool // p.1 ≤ l.length ∧ (l.take p.1).any (tLt x) = p.2}) (fun p => ⟨[(3, .ref 0 0), (5, .own 1 ((wRow x (l.take p.1.1) p.1.2).map Tm.av).length), (6, .v (.bool p.1.2)), (10, .sl 2 (l.map Tm.av)), (11, .v (.int .i64 l.length)), (12, .v (.int .i64 p.1.1))], [(0, .box 27 x.av), (1, .row 27 2 ((wRow x (l.take p.1.1) p.1.2).map Tm.av))]⟩) (fun p => l.length - p.1.1) ⟨(0, false), Nat.zero_le _, rfl⟩ ?_ ?_
  · refine ⟨by repeat' (first | exact trivial | exact FinA.one (FinB.cell (FinC.same rfl)) | exact FinA.one (FinB.cell FinC.nil) | exact FinA.bound rfl | exact FinA.one (FinB.cell (FinC.own rfl rfl rfl rfl)) | exact FinA.one (FinB.cell (FinC.v (by first | rfl | (simp [wRow])))) | exact FinA.one (FinB.cell (FinC.ow rfl (by first | rfl | (simp [wRow])))) | exact FinA.one (FinB.agg' rfl rfl) | refine ⟨⟨_, rfl, ?_⟩, ?_⟩), by repeat' (first | exact trivial | refine ⟨⟨_, rfl, by first | rfl | (simp [wRow]; done) | (simp [renO, *]; done)⟩, by first | rfl | assumption, ?_⟩), rfl⟩
  rintro ⟨⟨q, b⟩, hq, hb0⟩
  dsimp only at hq hb0 ⊢
  by_cases hlt : q < l.length
  · have hel : (l.map Tm.av)[q]? = some (Tm.av l[q]) := by simp [hlt]
    have hsn := take_snoc l q hlt
    have b1 : ((wRow x (l.take q) b).map Tm.av).length ≤ 2000000 := by rw [List.length_map]; have := wRow_len x (l.take q) b; have : (l.take q).length ≤ l.length := by { rw [List.length_take]; omega }; omega
    generalize l[q] = y at *
    have hA := p_tAhead x y
    cases b
    · cases hy : tLt x y
      · obtain ⟨n1, n2⟩ := w_not x y _ hb0 hy
        rw [← hsn] at n1 n2
        have e1 : (wRow x (l.take (q + 1)) false).map Tm.av = (wRow x (l.take q) false).map Tm.av ++ [Tm.av y] := by rw [n2]; simp
        rw [hy] at hA
        repeat' (first | ((first | apply o_do | apply d_do | apply d_yes rfl rfl rfl); first | exact ls_indexAddr_sl tab_ok rfl rfl rfl rfl (by assumption) rfl | exact ls_append tab_ok rfl rfl rfl rfl (by first | exact SrcIs.sl | exact SrcIs.nil | exact SrcIs.own rfl rfl) rfl (by (try simp only [List.length_cons, List.length_nil]); omega) rfl rfl | exact lsc (hA) | exact lsq) | refine a_seq ?_ | refine a_region ?_ | refine o_nil ?_ | refine a_block ?_ | refine a_ret ?_ | refine a_exit ?_ | refine a_skip ?_ | refine a_draw mixed ?_ | refine d_nil (by kernel_rfl) ?_ | refine o_yes rfl rfl rfl ?_ | refine o_no rfl rfl rfl (by decide) ?_ | refine o_no' rfl rfl rfl ?_ | refine a_condT rfl ?_ | refine a_condF rfl ?_ | refine d_no rfl rfl rfl (by decide) ?_ | refine d_no' rfl rfl rfl ?_ | (refine wq2 (fun hb => ?_) (fun hb => ?_) <;> (simp only [hb]; try simp only [hbs, ne_eq] at hb; try (exfalso; first | omega | exact hb trivial))) | fail)
        refine ⟨⟨(q + 1, false), by omega, n1⟩, by dsimp only; omega, ?_⟩
        refine ⟨by repeat' (first | exact trivial | exact FinA.one (FinB.cell (FinC.same rfl)) | exact FinA.one (FinB.cell FinC.nil) | exact FinA.bound rfl | exact FinA.one (FinB.cell (FinC.own rfl rfl rfl rfl)) | exact FinA.one (FinB.cell (FinC.v (by first | rfl | ((first | (simp only [e1]; done) | (simp only [e1]; rfl) | simp))))) | exact FinA.one (FinB.cell (FinC.ow rfl (by first | rfl | ((first | (simp only [e1]; done) | (simp only [e1]; rfl) | simp))))) | exact FinA.one (FinB.agg' rfl rfl) | refine ⟨⟨_, rfl, ?_⟩, ?_⟩), by repeat' (first | exact trivial | refine ⟨⟨_, rfl, by first | rfl | ((first | (simp only [e1]; done) | (simp only [e1]; rfl) | simp); done) | (simp [renO, *]; done)⟩, by first | rfl | assumption, ?_⟩), rfl⟩
      · obtain ⟨n1, n2⟩ := w_now x y _ hb0 hy
        rw [← hsn] at n1 n2
        have e1 : (wRow x (l.take (q + 1)) true).map Tm.av = (wRow x (l.take q) false).map Tm.av ++ [Tm.av x] ++ [Tm.av y] := by rw [n2]; simp
        rw [hy] at hA
        repeat' (first | ((first | apply o_do | apply d_do | apply d_yes rfl rfl rfl); first | exact ls_indexAddr_sl tab_ok rfl rfl rfl rfl (by assumption) rfl | exact ls_append tab_ok rfl rfl rfl rfl (by first | exact SrcIs.sl | exact SrcIs.nil | exact SrcIs.own rfl rfl) rfl (by (try simp only [List.length_cons, List.length_nil]); (first | omega | (rw [List.length_append]; simp only [List.length_cons, List.length_nil]; omega))) rfl rfl | exact lsc (hA) | exact lsq) | refine a_seq ?_ | refine a_region ?_ | refine o_nil ?_ | refine a_block ?_ | refine a_ret ?_ | refine a_exit ?_ | refine a_skip ?_ | refine a_draw mixed ?_ | refine d_nil (by kernel_rfl) ?_ | refine o_yes rfl rfl rfl ?_ | refine o_no rfl rfl rfl (by decide) ?_ | refine o_no' rfl rfl rfl ?_ | refine a_condT rfl ?_ | refine a_condF rfl ?_ | refine d_no rfl rfl rfl (by decide) ?_ | refine d_no' rfl rfl rfl ?_ | (refine wq2 (fun hb => ?_) (fun hb => ?_) <;> (simp only [hb]; try simp only [hbs, ne_eq] at hb; try (exfalso; first | omega | exact hb trivial))) | fail)
        refine ⟨⟨(q + 1, true), by omega, n1⟩, by dsimp only; omega, ?_⟩
        refine ⟨by repeat' (first | exact trivial | exact FinA.one (FinB.cell (FinC.same rfl)) | exact FinA.one (FinB.cell FinC.nil) | exact FinA.bound rfl | exact FinA.one (FinB.cell (FinC.own rfl rfl rfl rfl)) | exact FinA.one (FinB.cell (FinC.v (by first | rfl | ((first | (simp only [e1]; done) | (simp only [e1]; rfl) | simp))))) | exact FinA.one (FinB.cell (FinC.ow rfl (by first | rfl | ((first | (simp only [e1]; done) | (simp only [e1]; rfl) | simp))))) | exact FinA.one (FinB.agg' rfl rfl) | refine ⟨⟨_, rfl, ?_⟩, ?_⟩), by repeat' (first | exact trivial | refine ⟨⟨_, rfl, by first | rfl | ((first | (simp only [e1]; done) | (simp only [e1]; rfl) | simp); done) | (simp [renO, *]; done)⟩, by first | rfl | assumption, ?_⟩), rfl⟩
    · obtain ⟨n1, n2⟩ := w_in x y _ hb0
      rw [← hsn] at n1 n2
      have e1 : (wRow x (l.take (q + 1)) true).map Tm.av = (wRow x (l.take q) true).map Tm.av ++ [Tm.av y] := by rw [n2]; simp
      repeat' (first | ((first | apply o_do | apply d_do | apply d_yes rfl rfl rfl); first | exact ls_indexAddr_sl tab_ok rfl rfl rfl rfl (by assumption) rfl | exact ls_append tab_ok rfl rfl rfl rfl (by first | exact SrcIs.sl | exact SrcIs.nil | exact SrcIs.own rfl rfl) rfl (by (try simp only [List.length_cons, List.length_nil]); omega) rfl rfl | exact lsc (hA) | exact lsq) | refine a_seq ?_ | refine a_region ?_ | refine o_nil ?_ | refine a_block ?_ | refine a_ret ?_ | refine a_exit ?_ | refine a_skip ?_ | refine a_draw mixed ?_ | refine d_nil (by kernel_rfl) ?_ | refine o_yes rfl rfl rfl ?_ | refine o_no rfl rfl rfl (by decide) ?_ | refine o_no' rfl rfl rfl ?_ | refine a_condT rfl ?_ | refine a_condF rfl ?_ | refine d_no rfl rfl rfl (by decide) ?_ | refine d_no' rfl rfl rfl ?_ | (refine wq2 (fun hb => ?_) (fun hb => ?_) <;> (simp only [hb]; try simp only [hbs, ne_eq] at hb; try (exfalso; first | omega | exact hb trivial))) | fail)
      refine ⟨⟨(q + 1, true), by omega, n1⟩, by dsimp only; omega, ?_⟩
      refine ⟨by repeat' (first | exact trivial | exact FinA.one (FinB.cell (FinC.same rfl)) | exact FinA.one (FinB.cell FinC.nil) | exact FinA.bound rfl | exact FinA.one (FinB.cell (FinC.own rfl rfl rfl rfl)) | exact FinA.one (FinB.cell (FinC.v (by first | rfl | ((first | (simp only [e1]; done) | (simp only [e1]; rfl) | simp))))) | exact FinA.one (FinB.cell (FinC.ow rfl (by first | rfl | ((first | (simp only [e1]; done) | (simp only [e1]; rfl) | simp))))) | exact FinA.one (FinB.agg' rfl rfl) | refine ⟨⟨_, rfl, ?_⟩, ?_⟩), by repeat' (first | exact trivial | refine ⟨⟨_, rfl, by first | rfl | ((first | (simp only [e1]; done) | (simp only [e1]; rfl) | simp); done) | (simp [renO, *]; done)⟩, by first | rfl | assumption, ?_⟩), rfl⟩
  · obtain rfl : q = l.length := by omega
    rw [List.take_length] at hb0 ⊢
    have b1 : ((wRow x l b).map Tm.av).length ≤ 2000000 := by rw [List.length_map]; have := wRow_len x l b; omega
    cases b
    · have e1 : (tIns x l).map Tm.av = (wRow x l false).map Tm.av ++ [Tm.av x] := by
        have := tIns_app x l [] hb0
        rw [List.append_nil] at this
        rw [this]; simp [tIns, wRow]
      rw [e1]
      repeat' (first | ((first | apply o_do | apply d_do | apply d_yes rfl rfl rfl); first | exact ls_append tab_ok rfl rfl rfl rfl (by first | exact SrcIs.sl | exact SrcIs.nil | exact SrcIs.own rfl rfl) rfl (by (try simp only [List.length_cons, List.length_nil]); omega) rfl rfl | exact lsq) | refine a_seq ?_ | refine a_region ?_ | refine o_nil ?_ | refine a_block ?_ | refine a_ret ?_ | refine a_exit ?_ | refine a_skip ?_ | refine a_draw mixed ?_ | refine d_nil (by kernel_rfl) ?_ | refine o_yes rfl rfl rfl ?_ | refine o_no rfl rfl rfl (by decide) ?_ | refine o_no' rfl rfl rfl ?_ | refine a_condT rfl ?_ | refine a_condF rfl ?_ | refine d_no rfl rfl rfl (by decide) ?_ | refine d_no' rfl rfl rfl ?_ | (refine wq2 (fun hb => ?_) (fun hb => ?_) <;> (simp only [hb]; try simp only [hbs, ne_eq] at hb; try (exfalso; first | omega | exact hb trivial))) | fail)
      refine ⟨by first | exact .inr rfl | exact .inl rfl, _, rfl, ?_, by repeat' (first | exact trivial | refine ⟨⟨_, rfl, by first | rfl | (simp [renO, *]; done)⟩, by first | rfl | assumption, ?_⟩)⟩
      (first | refine FinA.tup ?_ | refine FinA.one ?_); repeat' (first | exact FinBs.nil | exact FinCs.nil | refine FinBs.cons ?_ ?_ | refine FinCs.cons ?_ ?_ | refine FinB.cell (FinC.v ?_) | refine FinB.cell (FinC.own rfl rfl rfl ?_) | exact FinB.cell FinC.nil | refine FinB.cell (FinC.sl ?_) | exact FinB.agg' rfl rfl | exact FinB.cell (FinC.same rfl) | refine FinB.agg ?_ | refine FinC.v ?_ | refine FinC.own rfl rfl rfl ?_ | exact FinC.nil | refine FinC.sl ?_ | exact FinC.same rfl); all_goals try rfl
    · repeat' (first | ((first | apply o_do | apply d_do | apply d_yes rfl rfl rfl); first | exact ls_append tab_ok rfl rfl rfl rfl (by first | exact SrcIs.sl | exact SrcIs.nil | exact SrcIs.own rfl rfl) rfl (by (try simp only [List.length_cons, List.length_nil]); omega) rfl rfl | exact lsq) | refine a_seq ?_ | refine a_region ?_ | refine o_nil ?_ | refine a_block ?_ | refine a_ret ?_ | refine a_exit ?_ | refine a_skip ?_ | refine a_draw mixed ?_ | refine d_nil (by kernel_rfl) ?_ | refine o_yes rfl rfl rfl ?_ | refine o_no rfl rfl rfl (by decide) ?_ | refine o_no' rfl rfl rfl ?_ | refine a_condT rfl ?_ | refine a_condF rfl ?_ | refine d_no rfl rfl rfl (by decide) ?_ | refine d_no' rfl rfl rfl ?_ | (refine wq2 (fun hb => ?_) (fun hb => ?_) <;> (simp only [hb]; try simp only [hbs, ne_eq] at hb; try (exfalso; first | omega | exact hb trivial))) | fail)
      refine ⟨by first | exact .inr rfl | exact .inl rfl, _, rfl, ?_, by repeat' (first | exact trivial | refine ⟨⟨_, rfl, by first | rfl | (simp [renO, *]; done)⟩, by first | rfl | assumption, ?_⟩)⟩
      (first | refine FinA.tup ?_ | refine FinA.one ?_); repeat' (first | exact FinBs.nil | exact FinCs.nil | refine FinBs.cons ?_ ?_ | refine FinCs.cons ?_ ?_ | refine FinB.cell (FinC.v ?_) | refine FinB.cell (FinC.own rfl rfl rfl ?_) | exact FinB.cell FinC.nil | refine FinB.cell (FinC.sl ?_) | exact FinB.agg' rfl rfl | exact FinB.cell (FinC.same rfl) | refine FinB.agg ?_ | refine FinC.v ?_ | refine FinC.own rfl rfl rfl ?_ | exact FinC.nil | refine FinC.sl ?_ | exact FinC.same rfl); all_goals try rfl
end Go.Proofs.Yteooamoagkcgnaa
