/-
  Timers: the law TimerPlays walked.
-/
import Derived.Test.YteooamoagkcgnaaTmDr
import Derived.Test.YteooamoagkcgnaaTmAp
namespace Go.Proofs.Yteooamoagkcgnaa
open Go.RowKit
set_option linter.unusedSimpArgs false
set_option linter.unusedVariables false
structure Ac where
  what : Int
  t : Tm
def Ac.vals (a : Ac) : List Value := [.int .i64 a.what, .int .i64 a.t.at', .string a.t.name]
def Ac.av (a : Ac) : List AV := [.v (.int .i64 a.what), .v (.int .i64 a.t.at'), .v (.string a.t.name)]
structure PlA (n q : Nat) (T r : List Tm) : Prop where
  hq : q ≤ n
  h3 : q ≤ 300
  hi : Inv T r
  hl : T.length ≤ q
theorem part_len (mk : Int) (l : List Tm) : (restP mk l).length ≤ l.length ∧ (dueP mk l).length ≤ l.length := ⟨List.length_filter_le _ _, List.length_filter_le _ _⟩
theorem out_len (nm : ByteArray) (l : List Tm) : (outP nm l).length ≤ l.length := List.length_filter_le _ _
set_option maxHeartbeats 16000000 in
set_option maxRecDepth 20000 in
theorem p_plays (xs : List Ac) (hx : xs.length ≤ 9223372036854775807) : PC Try.prog 7 [.sl 3 (xs.map Ac.av)] (.v (.bool true)) := by
  have hn : (xs.map Ac.av).length = xs.length := List.length_map _
  have hN := a_New2
  unfold HS at hN
  refine PC.mk (ac_body tab_ok Try.func7 rfl (by kernel_rfl) rfl ?_); intro w0 M μ0; simp only [Try.ntmps7, List.length_cons, List.length_nil, Nat.reduceAdd, Nat.reduceSub, numb]
  repeat' (first | ((first | apply o_do | apply d_do | apply d_yes rfl rfl rfl); first | exact ls_callA [] 0 hN rfl rfl (by (repeat' (first | exact NilL.nil | refine NilL.cons Nil.same ?_ | refine NilL.cons Nil.nil ?_ | refine NilL.cons (Nil.agg ?_) ?_ | exact Nil1s.nil | refine Nil1s.cons Nil1.same ?_ | refine Nil1s.cons Nil1.nil ?_)); first | done | fail) rfl (by repeat' (first | exact trivial | refine ⟨⟨_, rfl, by first | rfl | (simp [renO, *]; done)⟩, ?_⟩)) (by first | rfl | simp [closO, *]) rfl rfl rfl rfl (by first | rfl | simp [closO, *]) rfl | exact ls_eqRef uH rfl rfl rfl | exact lsq) | refine a_seq ?_ | refine a_region ?_ | refine o_nil ?_ | refine a_block ?_ | refine a_ret ?_ | refine a_exit ?_ | refine a_skip ?_ | refine a_draw mixed ?_ | refine d_nil (by kernel_rfl) ?_ | refine o_yes rfl rfl rfl ?_ | refine o_no rfl rfl rfl (by decide) ?_ | refine o_no' rfl rfl rfl ?_ | refine a_condT rfl ?_ | refine a_condF rfl ?_ | refine d_no rfl rfl rfl (by decide) ?_ | refine d_no' rfl rfl rfl ?_ | (refine wq2 (fun hb => ?_) (fun hb => ?_) <;> (simp only [hb]; try simp only [hbs, ne_eq] at hb; try (exfalso; first | omega | exact hb trivial))) | fail)
  refine a_loopM (X := {p : Nat × List Tm × List Tm // PlA xs.length p.1 p.2.1 p.2.2}) (fun p => ⟨[(3, .ref 0 0), (4, .sl 2 (p.1.2.1.map Tm.av)), (15, .sl 3 (xs.map Ac.av)), (16, .v (.int .i64 xs.length)), (17, .v (.int .i64 p.1.1))], [(0, .box 50 [.own 40 (p.1.2.2.map Tm.av).length]), (1, .dead), (40, .row 27 2 (p.1.2.2.map Tm.av))]⟩) (fun p => xs.length - p.1.1) ⟨(0, [], []), Nat.zero_le _, Nat.zero_le _, inv_nil, Nat.le_refl _⟩ ?_ ?_
  · refine Turn.trans (Turn.move 1 40 rfl rfl rfl rfl rfl) (Turn.weak ?_)
    refine ⟨by repeat' (first | exact trivial | exact FinA.one (FinB.cell (FinC.same rfl)) | exact FinA.one (FinB.cell FinC.nil) | exact FinA.bound rfl | exact FinA.one (FinB.cell (FinC.own rfl rfl rfl rfl)) | exact FinA.one (FinB.cell (FinC.v (by first | rfl | (simp)))) | exact FinA.one (FinB.cell (FinC.ow rfl (by first | rfl | (simp)))) | exact FinA.one (FinB.agg' rfl rfl) | refine ⟨⟨_, rfl, ?_⟩, ?_⟩), by repeat' (first | exact trivial | refine ⟨⟨_, rfl, by first | rfl | (simp; done) | (simp [renO, *]; done)⟩, by first | rfl | assumption, ?_⟩), rfl⟩
  rintro ⟨⟨q, T, r⟩, hA⟩
  dsimp only at hA ⊢
  obtain ⟨hq, h3, hi, hl⟩ := hA
  have hrl := hi.len
  have hAll := a_HAll r (by omega)
  rw [hi.sorted] at hAll
  have hLk := r_Like T (by omega)
  have hml : ∀ l : List Tm, (l.map Tm.av).length = l.length := fun l => List.length_map _
  by_cases hlt : q < xs.length
  · by_cases h300 : 300 ≤ q
    · unfold HS at hAll
      have hel : (xs.map Ac.av)[q]? = some (Ac.av xs[q]) := by simp [hlt]
      generalize xs[q] = x at *
      obtain ⟨w, t⟩ := x
      repeat' (first | ((first | apply o_do | apply d_do | apply d_yes rfl rfl rfl); first | exact ls_indexAddr_sl tab_ok rfl rfl rfl rfl (by assumption) rfl | exact ls_callA [0, 40] 600 hAll rfl rfl (by (repeat' (first | exact NilL.nil | refine NilL.cons Nil.same ?_ | refine NilL.cons Nil.nil ?_ | refine NilL.cons (Nil.agg ?_) ?_ | exact Nil1s.nil | refine Nil1s.cons Nil1.same ?_ | refine Nil1s.cons Nil1.nil ?_)); first | done | fail) rfl (by repeat' (first | exact trivial | refine ⟨⟨_, rfl, by first | rfl | (simp [renO, *]; done)⟩, ?_⟩)) (by first | rfl | simp [closO, *]) rfl rfl rfl rfl (by first | rfl | simp [closO, *]) rfl | exact lcs (hLk) | exact lsq) | refine a_seq ?_ | refine a_region ?_ | refine o_nil ?_ | refine a_block ?_ | refine a_ret ?_ | refine a_exit ?_ | refine a_skip ?_ | refine a_draw mixed ?_ | refine d_nil (by kernel_rfl) ?_ | refine o_yes rfl rfl rfl ?_ | refine o_no rfl rfl rfl (by decide) ?_ | refine o_no' rfl rfl rfl ?_ | refine a_condT rfl ?_ | refine a_condF rfl ?_ | refine d_no rfl rfl rfl (by decide) ?_ | refine d_no' rfl rfl rfl ?_ | (refine wq2 (fun hb => ?_) (fun hb => ?_) <;> (simp only [hb]; try simp only [hbs, ne_eq] at hb; try (exfalso; first | omega | exact hb trivial))) | fail)
      all_goals refine ⟨by first | exact .inr rfl | exact .inl rfl, _, rfl, ?_, by repeat' (first | exact trivial | refine ⟨⟨_, rfl, by first | rfl | (simp [renO, *]; done)⟩, by first | rfl | assumption, ?_⟩)⟩
      all_goals (first | refine FinA.tup ?_ | refine FinA.one ?_); repeat' (first | exact FinBs.nil | exact FinCs.nil | refine FinBs.cons ?_ ?_ | refine FinCs.cons ?_ ?_ | refine FinB.cell (FinC.v ?_) | refine FinB.cell (FinC.own rfl rfl rfl ?_) | exact FinB.cell FinC.nil | refine FinB.cell (FinC.sl ?_) | exact FinB.agg' rfl rfl | exact FinB.cell (FinC.same rfl) | refine FinB.agg ?_ | refine FinC.v ?_ | refine FinC.own rfl rfl rfl ?_ | exact FinC.nil | refine FinC.sl ?_ | exact FinC.same rfl); all_goals try rfl
    · have hel : (xs.map Ac.av)[q]? = some (Ac.av xs[q]) := by simp [hlt]
      generalize xs[q] = x at *
      obtain ⟨w, t⟩ := x
      have hnx : ∀ {T' r' : List Tm}, Inv T' r' → T'.length ≤ T.length + 1 → PlA xs.length (q + 1) T' r' := fun h1 h2 => ⟨hlt, by omega, h1, by omega⟩
      by_cases w0 : w = 0
      · subst w0
        have hP := a_HPush r t (by omega)
        have hW := p_With T t (by omega)
        have hB := hnx (hi.push t) (Nat.le_of_eq (tIns_len t T))
        have hL := a_HLen (hpush tLt tmZ r t)
        have e1 : (hpush tLt tmZ r t).length = (tIns t T).length := (hi.push t).len
        have e2 := hml (tIns t T)
        unfold HS at hP hL
        generalize hpush tLt tmZ r t = R at *
        repeat' (first | ((first | apply o_do | apply d_do | apply d_yes rfl rfl rfl); first | exact ls_indexAddr_sl tab_ok rfl rfl rfl rfl (by assumption) rfl | exact ls_callA [0, 40] 100 hP rfl rfl (by (repeat' (first | exact NilL.nil | refine NilL.cons Nil.same ?_ | refine NilL.cons Nil.nil ?_ | refine NilL.cons (Nil.agg ?_) ?_ | exact Nil1s.nil | refine Nil1s.cons Nil1.same ?_ | refine Nil1s.cons Nil1.nil ?_)); first | done | fail) rfl (by repeat' (first | exact trivial | refine ⟨⟨_, rfl, by first | rfl | (simp [renO, *]; done)⟩, ?_⟩)) (by first | rfl | simp [closO, *]) rfl rfl rfl rfl (by first | rfl | simp [closO, *]) rfl | exact lsc (hW) | exact ls_callA [0, 40] 200 hL rfl rfl (by (repeat' (first | exact NilL.nil | refine NilL.cons Nil.same ?_ | refine NilL.cons Nil.nil ?_ | refine NilL.cons (Nil.agg ?_) ?_ | exact Nil1s.nil | refine Nil1s.cons Nil1.same ?_ | refine Nil1s.cons Nil1.nil ?_)); first | done | fail) rfl (by repeat' (first | exact trivial | refine ⟨⟨_, rfl, by first | rfl | (simp [renO, *]; done)⟩, ?_⟩)) (by first | rfl | simp [closO, *]) rfl rfl rfl rfl (by first | rfl | simp [closO, *]) rfl | exact lsq) | refine a_seq ?_ | refine a_region ?_ | refine o_nil ?_ | refine a_block ?_ | refine a_ret ?_ | refine a_exit ?_ | refine a_skip ?_ | refine a_draw mixed ?_ | refine d_nil (by kernel_rfl) ?_ | refine o_yes rfl rfl rfl ?_ | refine o_no rfl rfl rfl (by decide) ?_ | refine o_no' rfl rfl rfl ?_ | refine a_condT rfl ?_ | refine a_condF rfl ?_ | refine d_no rfl rfl rfl (by decide) ?_ | refine d_no' rfl rfl rfl ?_ | (refine wq2 (fun hb => ?_) (fun hb => ?_) <;> (simp only [hb]; try simp only [hbs, ne_eq] at hb; try (exfalso; first | omega | exact hb trivial))) | fail)
        refine ⟨⟨(q + 1, _, _), hB⟩, by dsimp only; omega, Turn.weak ?_⟩
        refine ⟨by repeat' (first | exact trivial | exact FinA.one (FinB.cell (FinC.same rfl)) | exact FinA.one (FinB.cell FinC.nil) | exact FinA.bound rfl | exact FinA.one (FinB.cell (FinC.own rfl rfl rfl rfl)) | exact FinA.one (FinB.cell (FinC.v (by first | rfl | (simp)))) | exact FinA.one (FinB.cell (FinC.ow rfl (by first | rfl | (simp)))) | exact FinA.one (FinB.agg' rfl rfl) | refine ⟨⟨_, rfl, ?_⟩, ?_⟩), by repeat' (first | exact trivial | refine ⟨⟨_, rfl, by first | rfl | (simp; done) | (simp [renO, *]; done)⟩, by first | rfl | assumption, ?_⟩), rfl⟩
      by_cases w1 : w = 1
      · subst w1
        cases T with
        | nil =>
          obtain rfl : r = [] := List.eq_nil_of_length_eq_zero hrl
          have hP := a_HPop0
          have hL := a_HLen []
          have hB := hnx hi (by simp)
          unfold HS at hP hL
          repeat' (first | ((first | apply o_do | apply d_do | apply d_yes rfl rfl rfl); first | exact ls_indexAddr_sl tab_ok rfl rfl rfl rfl (by assumption) rfl | exact ls_callA [0, 40] 100 hP rfl rfl (by (repeat' (first | exact NilL.nil | refine NilL.cons Nil.same ?_ | refine NilL.cons Nil.nil ?_ | refine NilL.cons (Nil.agg ?_) ?_ | exact Nil1s.nil | refine Nil1s.cons Nil1.same ?_ | refine Nil1s.cons Nil1.nil ?_)); first | done | fail) rfl (by repeat' (first | exact trivial | refine ⟨⟨_, rfl, by first | rfl | (simp [renO, *]; done)⟩, ?_⟩)) (by first | rfl | simp [closO, *]) rfl rfl rfl rfl (by first | rfl | simp [closO, *]) rfl | exact ls_neqTm tmZ rfl rfl rfl | exact ls_callA [0, 40] 200 hL rfl rfl (by (repeat' (first | exact NilL.nil | refine NilL.cons Nil.same ?_ | refine NilL.cons Nil.nil ?_ | refine NilL.cons (Nil.agg ?_) ?_ | exact Nil1s.nil | refine Nil1s.cons Nil1.same ?_ | refine Nil1s.cons Nil1.nil ?_)); first | done | fail) rfl (by repeat' (first | exact trivial | refine ⟨⟨_, rfl, by first | rfl | (simp [renO, *]; done)⟩, ?_⟩)) (by first | rfl | simp [closO, *]) rfl rfl rfl rfl (by first | rfl | simp [closO, *]) rfl | exact lsq) | refine a_seq ?_ | refine a_region ?_ | refine o_nil ?_ | refine a_block ?_ | refine a_ret ?_ | refine a_exit ?_ | refine a_skip ?_ | refine a_draw mixed ?_ | refine d_nil (by kernel_rfl) ?_ | refine o_yes rfl rfl rfl ?_ | refine o_no rfl rfl rfl (by decide) ?_ | refine o_no' rfl rfl rfl ?_ | refine a_condT rfl ?_ | refine a_condF rfl ?_ | refine d_no rfl rfl rfl (by decide) ?_ | refine d_no' rfl rfl rfl ?_ | (refine wq2 (fun hb => ?_) (fun hb => ?_) <;> (simp only [hb]; try simp only [hbs, ne_eq] at hb; try (exfalso; first | omega | exact hb trivial))) | fail)
          refine ⟨⟨(q + 1, _, _), hB⟩, by dsimp only; omega, Turn.weak ?_⟩
          refine ⟨by repeat' (first | exact trivial | exact FinA.one (FinB.cell (FinC.same rfl)) | exact FinA.one (FinB.cell FinC.nil) | exact FinA.bound rfl | exact FinA.one (FinB.cell (FinC.own rfl rfl rfl rfl)) | exact FinA.one (FinB.cell (FinC.v (by first | rfl | (simp)))) | exact FinA.one (FinB.cell (FinC.ow rfl (by first | rfl | (simp)))) | exact FinA.one (FinB.agg' rfl rfl) | refine ⟨⟨_, rfl, ?_⟩, ?_⟩), by repeat' (first | exact trivial | refine ⟨⟨_, rfl, by first | rfl | (simp; done) | (simp [renO, *]; done)⟩, by first | rfl | assumption, ?_⟩), rfl⟩
        | cons a T =>
          obtain ⟨e0, hY⟩ := hi.pop
          have hP := a_HPop r (by rw [hrl]; simp) (by omega)
          rw [e0] at hP
          have hB := hnx hY (by simp; omega)
          have hL := a_HLen (hpop tLt tmZ r)
          have e1 := hY.len
          have e2 := hml T
          have e3 : ((a :: T).map Tm.av).length = T.length + 1 := hml (a :: T)
          have e4 : (((a :: T).map Tm.av).drop 1).length = T.length := hml T
          generalize hpop tLt tmZ r = R at *
          unfold HS at hP hL
          repeat' (first | ((first | apply o_do | apply d_do | apply d_yes rfl rfl rfl); first | exact ls_indexAddr_sl tab_ok rfl rfl rfl rfl (by assumption) rfl | exact ls_callA [0, 40] 100 hP rfl rfl (by (repeat' (first | exact NilL.nil | refine NilL.cons Nil.same ?_ | refine NilL.cons Nil.nil ?_ | refine NilL.cons (Nil.agg ?_) ?_ | exact Nil1s.nil | refine Nil1s.cons Nil1.same ?_ | refine Nil1s.cons Nil1.nil ?_)); first | done | fail) rfl (by repeat' (first | exact trivial | refine ⟨⟨_, rfl, by first | rfl | (simp [renO, *]; done)⟩, ?_⟩)) (by first | rfl | simp [closO, *]) rfl rfl rfl rfl (by first | rfl | simp [closO, *]) rfl | exact ls_neqTm a rfl rfl rfl | exact ls_indexAddr_sl (q := 0) (cs := Tm.av a) tab_ok rfl rfl rfl rfl rfl rfl | exact ls_slice_from (n := 1) tab_ok rfl rfl rfl rfl (by simp) rfl | exact ls_callA [0, 123] 200 hL rfl rfl (by (repeat' (first | exact NilL.nil | refine NilL.cons Nil.same ?_ | refine NilL.cons Nil.nil ?_ | refine NilL.cons (Nil.agg ?_) ?_ | exact Nil1s.nil | refine Nil1s.cons Nil1.same ?_ | refine Nil1s.cons Nil1.nil ?_)); first | done | fail) rfl (by repeat' (first | exact trivial | refine ⟨⟨_, rfl, by first | rfl | (simp [renO, *]; done)⟩, ?_⟩)) (by first | rfl | simp [closO, *]) rfl rfl rfl rfl (by first | rfl | simp [closO, *]) rfl | exact lsq) | refine a_seq ?_ | refine a_region ?_ | refine o_nil ?_ | refine a_block ?_ | refine a_ret ?_ | refine a_exit ?_ | refine a_skip ?_ | refine a_draw mixed ?_ | refine d_nil (by kernel_rfl) ?_ | refine o_yes rfl rfl rfl ?_ | refine o_no rfl rfl rfl (by decide) ?_ | refine o_no' rfl rfl rfl ?_ | refine a_condT rfl ?_ | refine a_condF rfl ?_ | refine d_no rfl rfl rfl (by decide) ?_ | refine d_no' rfl rfl rfl ?_ | (refine wq2 (fun hb => ?_) (fun hb => ?_) <;> (simp only [hb]; try simp only [hbs, ne_eq] at hb; try (exfalso; first | omega | exact hb trivial))) | fail)
          refine ⟨⟨(q + 1, _, _), hB⟩, by dsimp only; omega, ?_⟩
          refine Turn.trans (Turn.weak (t := ⟨[(3, .ref 0 0), (4, .sl 2 (T.map Tm.av)), (15, .sl 3 (xs.map Ac.av)), (16, .v (.int .i64 xs.length)), (17, .v (.int .i64 ((q + 1 : Nat) : Int)))], [(0, .box 50 [.own 123 (R.map Tm.av).length]), (1, .dead), (123, .row 27 2 (R.map Tm.av))]⟩) ?_) (Turn.trans (Turn.move 123 40 rfl rfl rfl rfl rfl) (Turn.weak ?_))
          · refine ⟨by repeat' (first | exact trivial | exact FinA.one (FinB.cell (FinC.same rfl)) | exact FinA.one (FinB.cell FinC.nil) | exact FinA.bound rfl | exact FinA.one (FinB.cell (FinC.own rfl rfl rfl rfl)) | exact FinA.one (FinB.cell (FinC.v (by first | rfl | (simp)))) | exact FinA.one (FinB.cell (FinC.ow rfl (by first | rfl | (simp)))) | exact FinA.one (FinB.agg' rfl rfl) | refine ⟨⟨_, rfl, ?_⟩, ?_⟩), by repeat' (first | exact trivial | refine ⟨⟨_, rfl, by first | rfl | (simp; done) | (simp [renO, *]; done)⟩, by first | rfl | assumption, ?_⟩), rfl⟩
          · refine ⟨by repeat' (first | exact trivial | exact FinA.one (FinB.cell (FinC.same rfl)) | exact FinA.one (FinB.cell FinC.nil) | exact FinA.bound rfl | exact FinA.one (FinB.cell (FinC.own rfl rfl rfl rfl)) | exact FinA.one (FinB.cell (FinC.v (by first | rfl | (simp)))) | exact FinA.one (FinB.cell (FinC.ow rfl (by first | rfl | (simp)))) | exact FinA.one (FinB.agg' rfl rfl) | refine ⟨⟨_, rfl, ?_⟩, ?_⟩), by repeat' (first | exact trivial | refine ⟨⟨_, rfl, by first | rfl | (simp; done) | (simp [renO, *]; done)⟩, by first | rfl | assumption, ?_⟩), rfl⟩
      by_cases w2 : w = 2
      · subst w2
        have hD := a_HDue r t.at' (by omega)
        obtain ⟨i1, i2⟩ := hi.due t.at' r.length (by omega)
        rw [i1] at hD
        generalize (dueN t.at' r.length r).2 = R at *
        have hW := p_Parts T t.at' (by omega)
        have b1 := part_len t.at' T
        have hB := hnx i2 (by omega)
        have hK := r_Like (dueP t.at' T) (by omega)
        have hL := a_HLen R
        have e1 := i2.len
        have e2 := hml (restP t.at' T)
        unfold HS at hD hL
        generalize dueP t.at' T = D at *
        generalize restP t.at' T = U at *
        repeat' (first | ((first | apply o_do | apply d_do | apply d_yes rfl rfl rfl); first | exact ls_indexAddr_sl tab_ok rfl rfl rfl rfl (by assumption) rfl | exact ls_callA [0, 40] 100 hD rfl rfl (by (repeat' (first | exact NilL.nil | refine NilL.cons Nil.same ?_ | refine NilL.cons Nil.nil ?_ | refine NilL.cons (Nil.agg ?_) ?_ | exact Nil1s.nil | refine Nil1s.cons Nil1.same ?_ | refine Nil1s.cons Nil1.nil ?_)); first | done | fail) rfl (by repeat' (first | exact trivial | refine ⟨⟨_, rfl, by first | rfl | (simp [renO, *]; done)⟩, ?_⟩)) (by first | rfl | simp [closO, *]) rfl rfl rfl rfl (by first | rfl | simp [closO, *]) rfl | exact lsc (hW) | exact lcs (hK) | exact ls_callA [0, 140] 200 hL rfl rfl (by (repeat' (first | exact NilL.nil | refine NilL.cons Nil.same ?_ | refine NilL.cons Nil.nil ?_ | refine NilL.cons (Nil.agg ?_) ?_ | exact Nil1s.nil | refine Nil1s.cons Nil1.same ?_ | refine Nil1s.cons Nil1.nil ?_)); first | done | fail) rfl (by repeat' (first | exact trivial | refine ⟨⟨_, rfl, by first | rfl | (simp [renO, *]; done)⟩, ?_⟩)) (by first | rfl | simp [closO, *]) rfl rfl rfl rfl (by first | rfl | simp [closO, *]) rfl | exact lsq) | refine a_seq ?_ | refine a_region ?_ | refine o_nil ?_ | refine a_block ?_ | refine a_ret ?_ | refine a_exit ?_ | refine a_skip ?_ | refine a_draw mixed ?_ | refine d_nil (by kernel_rfl) ?_ | refine o_yes rfl rfl rfl ?_ | refine o_no rfl rfl rfl (by decide) ?_ | refine o_no' rfl rfl rfl ?_ | refine a_condT rfl ?_ | refine a_condF rfl ?_ | refine d_no rfl rfl rfl (by decide) ?_ | refine d_no' rfl rfl rfl ?_ | (refine wq2 (fun hb => ?_) (fun hb => ?_) <;> (simp only [hb]; try simp only [hbs, ne_eq] at hb; try (exfalso; first | omega | exact hb trivial))) | fail)
        refine ⟨⟨(q + 1, _, _), hB⟩, by dsimp only; omega, ?_⟩
        refine Turn.trans (Turn.weak (t := ⟨[(3, .ref 0 0), (4, .sl 2 (U.map Tm.av)), (15, .sl 3 (xs.map Ac.av)), (16, .v (.int .i64 xs.length)), (17, .v (.int .i64 ((q + 1 : Nat) : Int)))], [(0, .box 50 [.own 140 (R.map Tm.av).length]), (1, .dead), (140, .row 27 2 (R.map Tm.av))]⟩) ?_) (Turn.trans (Turn.move 140 40 rfl rfl rfl rfl rfl) (Turn.weak ?_))
        · refine ⟨by repeat' (first | exact trivial | exact FinA.one (FinB.cell (FinC.same rfl)) | exact FinA.one (FinB.cell FinC.nil) | exact FinA.bound rfl | exact FinA.one (FinB.cell (FinC.own rfl rfl rfl rfl)) | exact FinA.one (FinB.cell (FinC.v (by first | rfl | (simp)))) | exact FinA.one (FinB.cell (FinC.ow rfl (by first | rfl | (simp)))) | exact FinA.one (FinB.agg' rfl rfl) | refine ⟨⟨_, rfl, ?_⟩, ?_⟩), by repeat' (first | exact trivial | refine ⟨⟨_, rfl, by first | rfl | (simp; done) | (simp [renO, *]; done)⟩, by first | rfl | assumption, ?_⟩), rfl⟩
        · refine ⟨by repeat' (first | exact trivial | exact FinA.one (FinB.cell (FinC.same rfl)) | exact FinA.one (FinB.cell FinC.nil) | exact FinA.bound rfl | exact FinA.one (FinB.cell (FinC.own rfl rfl rfl rfl)) | exact FinA.one (FinB.cell (FinC.v (by first | rfl | (simp)))) | exact FinA.one (FinB.cell (FinC.ow rfl (by first | rfl | (simp)))) | exact FinA.one (FinB.agg' rfl rfl) | refine ⟨⟨_, rfl, ?_⟩, ?_⟩), by repeat' (first | exact trivial | refine ⟨⟨_, rfl, by first | rfl | (simp; done) | (simp [renO, *]; done)⟩, by first | rfl | assumption, ?_⟩), rfl⟩
      by_cases w3 : w = 3
      · subst w3
        have hD := a_HDrop r t.name (by omega)
        have i2 := hi.drop t.name
        have hW := p_Without T t.name (by omega)
        have o1 := hi.outs t.name
        have b1 := out_len t.name T
        have hB := hnx i2 (by omega)
        generalize hinit tLt tmZ (outP t.name r) = R at *
        have hL := a_HLen R
        have e1 := i2.len
        have e2 := hml (outP t.name T)
        have e3 := hml T
        unfold HS at hD hL
        generalize outP t.name T = U at *
        repeat' (first | ((first | apply o_do | apply d_do | apply d_yes rfl rfl rfl); first | exact ls_indexAddr_sl tab_ok rfl rfl rfl rfl (by assumption) rfl | exact ls_callA [0, 40] 100 hD rfl rfl (by (repeat' (first | exact NilL.nil | refine NilL.cons Nil.same ?_ | refine NilL.cons Nil.nil ?_ | refine NilL.cons (Nil.agg ?_) ?_ | exact Nil1s.nil | refine Nil1s.cons Nil1.same ?_ | refine Nil1s.cons Nil1.nil ?_)); first | done | fail) rfl (by repeat' (first | exact trivial | refine ⟨⟨_, rfl, by first | rfl | (simp [renO, *]; done)⟩, ?_⟩)) (by first | rfl | simp [closO, *]) rfl rfl rfl rfl (by first | rfl | simp [closO, *]) rfl | exact lsc (hW) | exact ls_callA [0, 117] 200 hL rfl rfl (by (repeat' (first | exact NilL.nil | refine NilL.cons Nil.same ?_ | refine NilL.cons Nil.nil ?_ | refine NilL.cons (Nil.agg ?_) ?_ | exact Nil1s.nil | refine Nil1s.cons Nil1.same ?_ | refine Nil1s.cons Nil1.nil ?_)); first | done | fail) rfl (by repeat' (first | exact trivial | refine ⟨⟨_, rfl, by first | rfl | (simp [renO, *]; done)⟩, ?_⟩)) (by first | rfl | simp [closO, *]) rfl rfl rfl rfl (by first | rfl | simp [closO, *]) rfl | exact lsq) | refine a_seq ?_ | refine a_region ?_ | refine o_nil ?_ | refine a_block ?_ | refine a_ret ?_ | refine a_exit ?_ | refine a_skip ?_ | refine a_draw mixed ?_ | refine d_nil (by kernel_rfl) ?_ | refine o_yes rfl rfl rfl ?_ | refine o_no rfl rfl rfl (by decide) ?_ | refine o_no' rfl rfl rfl ?_ | refine a_condT rfl ?_ | refine a_condF rfl ?_ | refine d_no rfl rfl rfl (by decide) ?_ | refine d_no' rfl rfl rfl ?_ | (refine wq2 (fun hb => ?_) (fun hb => ?_) <;> (simp only [hb]; try simp only [hbs, ne_eq] at hb; try (exfalso; first | omega | exact hb trivial))) | fail)
        refine ⟨⟨(q + 1, _, _), hB⟩, by dsimp only; omega, ?_⟩
        refine Turn.trans (Turn.weak (t := ⟨[(3, .ref 0 0), (4, .sl 2 (U.map Tm.av)), (15, .sl 3 (xs.map Ac.av)), (16, .v (.int .i64 xs.length)), (17, .v (.int .i64 ((q + 1 : Nat) : Int)))], [(0, .box 50 [.own 117 (R.map Tm.av).length]), (1, .dead), (117, .row 27 2 (R.map Tm.av))]⟩) ?_) (Turn.trans (Turn.move 117 40 rfl rfl rfl rfl rfl) (Turn.weak ?_))
        · refine ⟨by repeat' (first | exact trivial | exact FinA.one (FinB.cell (FinC.same rfl)) | exact FinA.one (FinB.cell FinC.nil) | exact FinA.bound rfl | exact FinA.one (FinB.cell (FinC.own rfl rfl rfl rfl)) | exact FinA.one (FinB.cell (FinC.v (by first | rfl | (simp)))) | exact FinA.one (FinB.cell (FinC.ow rfl (by first | rfl | (simp)))) | exact FinA.one (FinB.agg' rfl rfl) | refine ⟨⟨_, rfl, ?_⟩, ?_⟩), by repeat' (first | exact trivial | refine ⟨⟨_, rfl, by first | rfl | (simp; done) | (simp [renO, *]; done)⟩, by first | rfl | assumption, ?_⟩), rfl⟩
        · refine ⟨by repeat' (first | exact trivial | exact FinA.one (FinB.cell (FinC.same rfl)) | exact FinA.one (FinB.cell FinC.nil) | exact FinA.bound rfl | exact FinA.one (FinB.cell (FinC.own rfl rfl rfl rfl)) | exact FinA.one (FinB.cell (FinC.v (by first | rfl | (simp)))) | exact FinA.one (FinB.cell (FinC.ow rfl (by first | rfl | (simp)))) | exact FinA.one (FinB.agg' rfl rfl) | refine ⟨⟨_, rfl, ?_⟩, ?_⟩), by repeat' (first | exact trivial | refine ⟨⟨_, rfl, by first | rfl | (simp; done) | (simp [renO, *]; done)⟩, by first | rfl | assumption, ?_⟩), rfl⟩
      · have hB := hnx hi (by omega)
        have hL := a_HLen r
        have e2 := hml T
        unfold HS at hAll hL
        repeat' (first | ((first | apply o_do | apply d_do | apply d_yes rfl rfl rfl); first | exact ls_indexAddr_sl tab_ok rfl rfl rfl rfl (by assumption) rfl | exact ls_callA [0, 40] 100 hAll rfl rfl (by (repeat' (first | exact NilL.nil | refine NilL.cons Nil.same ?_ | refine NilL.cons Nil.nil ?_ | refine NilL.cons (Nil.agg ?_) ?_ | exact Nil1s.nil | refine Nil1s.cons Nil1.same ?_ | refine Nil1s.cons Nil1.nil ?_)); first | done | fail) rfl (by repeat' (first | exact trivial | refine ⟨⟨_, rfl, by first | rfl | (simp [renO, *]; done)⟩, ?_⟩)) (by first | rfl | simp [closO, *]) rfl rfl rfl rfl (by first | rfl | simp [closO, *]) rfl | exact lcs (hLk) | exact ls_callA [0, 40] 200 hL rfl rfl (by (repeat' (first | exact NilL.nil | refine NilL.cons Nil.same ?_ | refine NilL.cons Nil.nil ?_ | refine NilL.cons (Nil.agg ?_) ?_ | exact Nil1s.nil | refine Nil1s.cons Nil1.same ?_ | refine Nil1s.cons Nil1.nil ?_)); first | done | fail) rfl (by repeat' (first | exact trivial | refine ⟨⟨_, rfl, by first | rfl | (simp [renO, *]; done)⟩, ?_⟩)) (by first | rfl | simp [closO, *]) rfl rfl rfl rfl (by first | rfl | simp [closO, *]) rfl | exact lsq) | refine a_seq ?_ | refine a_region ?_ | refine o_nil ?_ | refine a_block ?_ | refine a_ret ?_ | refine a_exit ?_ | refine a_skip ?_ | refine a_draw mixed ?_ | refine d_nil (by kernel_rfl) ?_ | refine o_yes rfl rfl rfl ?_ | refine o_no rfl rfl rfl (by decide) ?_ | refine o_no' rfl rfl rfl ?_ | refine a_condT rfl ?_ | refine a_condF rfl ?_ | refine d_no rfl rfl rfl (by decide) ?_ | refine d_no' rfl rfl rfl ?_ | (refine wq2 (fun hb => ?_) (fun hb => ?_) <;> (simp only [hb]; try simp only [hbs, ne_eq] at hb; try (exfalso; first | omega | exact hb trivial))) | fail)
        refine ⟨⟨(q + 1, _, _), hB⟩, by dsimp only; omega, Turn.weak ?_⟩
        refine ⟨by repeat' (first | exact trivial | exact FinA.one (FinB.cell (FinC.same rfl)) | exact FinA.one (FinB.cell FinC.nil) | exact FinA.bound rfl | exact FinA.one (FinB.cell (FinC.own rfl rfl rfl rfl)) | exact FinA.one (FinB.cell (FinC.v (by first | rfl | (simp)))) | exact FinA.one (FinB.cell (FinC.ow rfl (by first | rfl | (simp)))) | exact FinA.one (FinB.agg' rfl rfl) | refine ⟨⟨_, rfl, ?_⟩, ?_⟩), by repeat' (first | exact trivial | refine ⟨⟨_, rfl, by first | rfl | (simp; done) | (simp [renO, *]; done)⟩, by first | rfl | assumption, ?_⟩), rfl⟩
  · obtain rfl : q = xs.length := by omega
    unfold HS at hAll
    repeat' (first | ((first | apply o_do | apply d_do | apply d_yes rfl rfl rfl); first | exact ls_callA [0, 40] 600 hAll rfl rfl (by (repeat' (first | exact NilL.nil | refine NilL.cons Nil.same ?_ | refine NilL.cons Nil.nil ?_ | refine NilL.cons (Nil.agg ?_) ?_ | exact Nil1s.nil | refine Nil1s.cons Nil1.same ?_ | refine Nil1s.cons Nil1.nil ?_)); first | done | fail) rfl (by repeat' (first | exact trivial | refine ⟨⟨_, rfl, by first | rfl | (simp [renO, *]; done)⟩, ?_⟩)) (by first | rfl | simp [closO, *]) rfl rfl rfl rfl (by first | rfl | simp [closO, *]) rfl | exact lcs (hLk) | exact lsq) | refine a_seq ?_ | refine a_region ?_ | refine o_nil ?_ | refine a_block ?_ | refine a_ret ?_ | refine a_exit ?_ | refine a_skip ?_ | refine a_draw mixed ?_ | refine d_nil (by kernel_rfl) ?_ | refine o_yes rfl rfl rfl ?_ | refine o_no rfl rfl rfl (by decide) ?_ | refine o_no' rfl rfl rfl ?_ | refine a_condT rfl ?_ | refine a_condF rfl ?_ | refine d_no rfl rfl rfl (by decide) ?_ | refine d_no' rfl rfl rfl ?_ | (refine wq2 (fun hb => ?_) (fun hb => ?_) <;> (simp only [hb]; try simp only [hbs, ne_eq] at hb; try (exfalso; first | omega | exact hb trivial))) | fail)
    all_goals refine ⟨by first | exact .inr rfl | exact .inl rfl, _, rfl, ?_, by repeat' (first | exact trivial | refine ⟨⟨_, rfl, by first | rfl | (simp [renO, *]; done)⟩, by first | rfl | assumption, ?_⟩)⟩
    all_goals (first | refine FinA.tup ?_ | refine FinA.one ?_); repeat' (first | exact FinBs.nil | exact FinCs.nil | refine FinBs.cons ?_ ?_ | refine FinCs.cons ?_ ?_ | refine FinB.cell (FinC.v ?_) | refine FinB.cell (FinC.own rfl rfl rfl ?_) | exact FinB.cell FinC.nil | refine FinB.cell (FinC.sl ?_) | exact FinB.agg' rfl rfl | exact FinB.cell (FinC.same rfl) | refine FinB.agg ?_ | refine FinC.v ?_ | refine FinC.own rfl rfl rfl ?_ | exact FinC.nil | refine FinC.sl ?_ | exact FinC.same rfl); all_goals try rfl
end Go.Proofs.Yteooamoagkcgnaa
