/-
  Script: numbers as texts (strconv.Itoa), and a printer's line.
-/
import Derived.Test.YtbhblhcgfenobaaDoorJpB
import Derived.Test.YtbhblhcgfenobaaDoorScC
namespace Go.Proofs.YtbhblhcgfenobaaDoor
open Go.RowKit
set_option linter.unusedSimpArgs false
set_option linter.unusedVariables false
theorem ok_iFormat : CallOK Tryd.prog 53 := ⟨_, Tryd.func53, by kernel_rfl, rfl⟩
theorem p_iFormat {n : Int} (h : i64 n) : PCT Tryd.prog TabT 53 [.v (.int .i64 n), .v (.int .i64 10)] (.v (.string (itoB n))) :=
  pct_of_calls (xs := [.int .i64 n, .int .i64 10]) ok_iFormat (fun w hT => (Any.internal_strconv_FormatInt_10 (ρ := layF_ren) { layF with } n h.1 h.2 w hT).mono fun e w' ⟨he, k, os, hw⟩ => ⟨he, by rw [hw]; exact below_grow w k os⟩) rfl
theorem p_iItoa {n : Int} (h : i64 n) : PCT Tryd.prog TabT 38 [.v (.int .i64 n)] (.v (.string (itoB n))) := by
  have hF := p_iFormat h
  generalize itoB n = x at *
  refine PCT.mk (act_body tab_ok Tryd.func38 rfl (by kernel_rfl) rfl ?_); intro w0 M μ0 hG; simp only [Tryd.ntmps38, List.length_cons, List.length_nil, Nat.reduceAdd, Nat.reduceSub, numb] at hG ⊢
  repeat' (first | ((first | apply o_do | apply d_do | apply d_yes rfl rfl rfl); first | focus (apply ls_callT hG hF rfl rfl _ rfl rfl; (repeat' (first | exact NilL.nil | refine NilL.cons Nil.same ?_ | refine NilL.cons Nil.nil ?_ | refine NilL.cons (Nil.agg ?_) ?_ | exact Nil1s.nil | refine Nil1s.cons Nil1.same ?_ | refine Nil1s.cons Nil1.nil ?_)); done) | exact lsq) | refine a_seq ?_ | refine a_region ?_ | refine o_nil ?_ | refine a_block ?_ | refine a_ret ?_ | refine a_exit ?_ | refine a_skip ?_ | refine a_draw mixed ?_ | refine d_nil (by kernel_rfl) ?_ | refine o_yes rfl rfl rfl ?_ | refine o_no rfl rfl rfl (by decide) ?_ | refine o_no' rfl rfl rfl ?_ | refine a_condT rfl ?_ | refine a_condF rfl ?_ | refine d_no rfl rfl rfl (by decide) ?_ | refine d_no' rfl rfl rfl ?_ | (refine wq2 (fun hb => ?_) (fun hb => ?_) <;> (simp only [hb]; try simp only [hbs, ne_eq] at hb; try (exfalso; first | omega | exact hb trivial))) | fail)
  refine ⟨by first | exact .inr rfl | exact .inl rfl, _, rfl, ?_, by repeat' (first | exact trivial | refine ⟨⟨_, rfl, by first | rfl | (simp [renO, *]; done)⟩, by first | rfl | assumption, ?_⟩)⟩
  (first | refine FinA.tup ?_ | refine FinA.one ?_); repeat' (first | exact FinBs.nil | exact FinCs.nil | refine FinBs.cons ?_ ?_ | refine FinCs.cons ?_ ?_ | refine FinB.cell (FinC.v ?_) | refine FinB.cell (FinC.own rfl rfl rfl ?_) | exact FinB.cell FinC.nil | refine FinB.cell (FinC.sl ?_) | exact FinB.agg' rfl rfl | exact FinB.cell (FinC.same rfl) | refine FinB.agg ?_ | refine FinC.v ?_ | refine FinC.own rfl rfl rfl ?_ | exact FinC.nil | refine FinC.sl ?_ | exact FinC.same rfl); all_goals try rfl
theorem p_Itoa {n : Int} (h : i64 n) : PCT Tryd.prog TabT 12 [.v (.int .i64 n)] (.v (.string (itoB n))) := by
  have hF := p_iItoa h
  generalize itoB n = x at *
  refine PCT.mk (act_body tab_ok Tryd.func12 rfl (by kernel_rfl) rfl ?_); intro w0 M μ0 hG; simp only [Tryd.ntmps12, List.length_cons, List.length_nil, Nat.reduceAdd, Nat.reduceSub, numb] at hG ⊢
  repeat' (first | ((first | apply o_do | apply d_do | apply d_yes rfl rfl rfl); first | focus (apply ls_callT hG hF rfl rfl _ rfl rfl; (repeat' (first | exact NilL.nil | refine NilL.cons Nil.same ?_ | refine NilL.cons Nil.nil ?_ | refine NilL.cons (Nil.agg ?_) ?_ | exact Nil1s.nil | refine Nil1s.cons Nil1.same ?_ | refine Nil1s.cons Nil1.nil ?_)); done) | exact lsq) | refine a_seq ?_ | refine a_region ?_ | refine o_nil ?_ | refine a_block ?_ | refine a_ret ?_ | refine a_exit ?_ | refine a_skip ?_ | refine a_draw mixed ?_ | refine d_nil (by kernel_rfl) ?_ | refine o_yes rfl rfl rfl ?_ | refine o_no rfl rfl rfl (by decide) ?_ | refine o_no' rfl rfl rfl ?_ | refine a_condT rfl ?_ | refine a_condF rfl ?_ | refine d_no rfl rfl rfl (by decide) ?_ | refine d_no' rfl rfl rfl ?_ | (refine wq2 (fun hb => ?_) (fun hb => ?_) <;> (simp only [hb]; try simp only [hbs, ne_eq] at hb; try (exfalso; first | omega | exact hb trivial))) | fail)
  refine ⟨by first | exact .inr rfl | exact .inl rfl, _, rfl, ?_, by repeat' (first | exact trivial | refine ⟨⟨_, rfl, by first | rfl | (simp [renO, *]; done)⟩, by first | rfl | assumption, ?_⟩)⟩
  (first | refine FinA.tup ?_ | refine FinA.one ?_); repeat' (first | exact FinBs.nil | exact FinCs.nil | refine FinBs.cons ?_ ?_ | refine FinCs.cons ?_ ?_ | refine FinB.cell (FinC.v ?_) | refine FinB.cell (FinC.own rfl rfl rfl ?_) | exact FinB.cell FinC.nil | refine FinB.cell (FinC.sl ?_) | exact FinB.agg' rfl rfl | exact FinB.cell (FinC.same rfl) | refine FinB.agg ?_ | refine FinC.v ?_ | refine FinC.own rfl rfl rfl ?_ | exact FinC.nil | refine FinC.sl ?_ | exact FinC.same rfl); all_goals try rfl
/-! a line -/
/-- words, each behind a space -/
def spW (ws : List ByteArray) : List UInt8 := ws.flatMap fun w => 32 :: w.data.toList
/-- words, a space between two -/
def joinW : List ByteArray → List UInt8
  | [] => []
  | w :: ws => w.data.toList ++ spW ws
def lineW (ws : List ByteArray) : List UInt8 := joinW ws ++ [10]
theorem spW_snoc (ws : List ByteArray) (w : ByteArray) : spW (ws ++ [w]) = spW ws ++ 32 :: w.data.toList := by simp [spW]
theorem joinW_snoc (ws : List ByteArray) (w : ByteArray) (h : ws ≠ []) : joinW (ws ++ [w]) = joinW ws ++ [32] ++ w.data.toList := by
  cases ws with
  | nil => exact absurd rfl h
  | cons v vs => simp [joinW, spW_snoc]
theorem spW_pre (ws : List ByteArray) (q : Nat) : (spW (ws.take q)).length ≤ (spW ws).length := by
  have h : ∀ a b : List ByteArray, (spW a).length ≤ (spW (a ++ b)).length := fun a b => by
    simp only [spW, List.flatMap_append, List.length_append]; omega
  have := h (ws.take q) (ws.drop q)
  rwa [List.take_append_drop] at this
theorem joinW_pre (ws : List ByteArray) (q : Nat) : (joinW (ws.take q)).length ≤ (joinW ws).length := by
  cases ws with
  | nil => simp [joinW]
  | cons v vs =>
    cases q with
    | zero => simp [joinW]
    | succ q =>
      have := spW_pre vs q
      simp only [List.take_succ_cons, joinW, List.length_append]
      omega
set_option maxHeartbeats 4000000 in
theorem p_line (ws : List ByteArray) (p : Bool) (l : List UInt8) (hl : l.length + (joinW ws).length ≤ 800000000) (hw : ws.length ≤ 9223372036854775807) : AC Tryd.prog 11 [.ref 0 0, .sl 1 (ws.map stAv)] (SB 41 p l) (.tup []) (SB 41 true (l ++ lineW ws)) := by
  have hB := fun p l b => b_WriteByte 41 pr_lies p l b
  have hS := fun p l s => b_WriteString 41 pr_lies p l s
  have hn : (ws.map stAv).length = ws.length := List.length_map _
  unfold SB at *
  cases p
  · unfold bP
    refine (ac_body tab_ok Tryd.func11 rfl (by kernel_rfl) rfl ?_); intro w0 M μ0; simp only [Tryd.ntmps11, List.length_cons, List.length_nil, Nat.reduceAdd, Nat.reduceSub, numb]
    repeat' (first | ((first | apply o_do | apply d_do | apply d_yes rfl rfl rfl); first | exact ls_nilCheck rfl rfl | exact lsq) | refine a_seq ?_ | refine a_region ?_ | refine o_nil ?_ | refine a_block ?_ | refine a_ret ?_ | refine a_exit ?_ | refine a_skip ?_ | refine a_draw mixed ?_ | refine d_nil (by kernel_rfl) ?_ | refine o_yes rfl rfl rfl ?_ | refine o_no rfl rfl rfl (by decide) ?_ | refine o_no' rfl rfl rfl ?_ | refine a_condT rfl ?_ | refine a_condF rfl ?_ | refine d_no rfl rfl rfl (by decide) ?_ | refine d_no' rfl rfl rfl ?_ | (refine wq2 (fun hb => ?_) (fun hb => ?_) <;> (simp only [hb]; try simp only [hbs, ne_eq] at hb; try (exfalso; first | omega | exact hb trivial))) | fail)
    refine a_loop (X := {x : Nat × Bool × List UInt8 // x.1 ≤ ws.length ∧ x.2.2 = l ++ joinW (ws.take x.1)}) (fun x => ⟨[(0, .ref 0 0), (6, .sl 1 (ws.map stAv)), (7, .v (.int .i64 (ws.map stAv).length)), (8, .v (.int .i64 x.1.1))], [(0, .box 41 [bP x.1.2.1, .own 1 (x.1.2.2.map byAv).length]), (1, .row 5 1 (x.1.2.2.map byAv))]⟩) (fun x => ws.length - x.1.1) ⟨(0, false, l), Nat.zero_le _, by simp [joinW]⟩ ?_ ?_
    · refine ⟨by repeat' (first | exact trivial | exact FinA.one (FinB.cell (FinC.same rfl)) | exact FinA.one (FinB.cell FinC.nil) | exact FinA.bound rfl | exact FinA.one (FinB.cell (FinC.own rfl rfl rfl rfl)) | exact FinA.one (FinB.cell (FinC.v (by first | rfl | (simp [bP])))) | exact FinA.one (FinB.cell (FinC.ow rfl (by first | rfl | (simp [bP])))) | exact FinA.one (FinB.agg' rfl rfl) | refine ⟨⟨_, rfl, ?_⟩, ?_⟩), by repeat' (first | exact trivial | refine ⟨⟨_, rfl, by first | rfl | (simp [bP]; done) | (simp [renO, *]; done)⟩, by first | rfl | assumption, ?_⟩), rfl⟩
    rintro ⟨⟨q, p1, l1⟩, hq, he⟩
    dsimp only at hq he ⊢
    have hpre := joinW_pre ws q
    have hl1 : l1.length = l.length + (joinW (ws.take q)).length := by rw [he, List.length_append]
    by_cases hlt : q < ws.length
    · have hel : (ws.map stAv)[q]? = some [.v (.string ws[q])] := by simp [hlt, stAv]
      have hsn := take_snoc ws q hlt
      have hqx : q < (ws.map stAv).length := by omega
      have hpre2 := joinW_pre ws (q + 1)
      rw [hsn] at hpre2
      rcases Nat.eq_zero_or_pos q with rfl | h0
      · have hj : joinW (ws.take (0 + 1)) = ws[0].data.toList := by rw [hsn]; simp [joinW, spW]
        rw [hsn] at hj
        rw [hj] at hpre2
        rw [Array.length_toList] at hpre2
        generalize ws[0] = v at *
        have hS1 := hS p1 l1 v (by have : v.size = v.data.size := rfl; simp [joinW] at hl1; omega)
        cases p1
        all_goals
          unfold bP at *
          repeat' (first | ((first | apply o_do | apply d_do | apply d_yes rfl rfl rfl); first | exact ls_nilCheck rfl rfl | exact ls_indexAddr_sl tab_ok rfl rfl rfl rfl hel rfl | exact ls_callA [0, 1] 50 hS1 rfl rfl (by (repeat' (first | exact NilL.nil | refine NilL.cons Nil.same ?_ | refine NilL.cons Nil.nil ?_ | refine NilL.cons (Nil.agg ?_) ?_ | exact Nil1s.nil | refine Nil1s.cons Nil1.same ?_ | refine Nil1s.cons Nil1.nil ?_)); first | done | fail) rfl (by repeat' (first | exact trivial | refine ⟨⟨_, rfl, by first | rfl | (simp [renO, *]; done)⟩, ?_⟩)) (by first | rfl | simp [closO, *]) rfl rfl rfl rfl (by first | rfl | simp [closO, *]) rfl | exact lsq) | refine a_seq ?_ | refine a_region ?_ | refine o_nil ?_ | refine a_block ?_ | refine a_ret ?_ | refine a_exit ?_ | refine a_skip ?_ | refine a_draw mixed ?_ | refine d_nil (by kernel_rfl) ?_ | refine o_yes rfl rfl rfl ?_ | refine o_no rfl rfl rfl (by decide) ?_ | refine o_no' rfl rfl rfl ?_ | refine a_condT rfl ?_ | refine a_condF rfl ?_ | refine d_no rfl rfl rfl (by decide) ?_ | refine d_no' rfl rfl rfl ?_ | (refine wq2 (fun hb => ?_) (fun hb => ?_) <;> (simp only [hb]; try simp only [hbs, ne_eq] at hb; try (exfalso; first | omega | exact hb trivial))) | fail)
          refine ⟨⟨(1, true, l1 ++ v.data.toList), by dsimp only; omega, by dsimp only; rw [hsn, hj, he]; simp [joinW]⟩, by dsimp only; omega, ?_⟩
          refine ⟨by repeat' (first | exact trivial | exact FinA.one (FinB.cell (FinC.same rfl)) | exact FinA.one (FinB.cell FinC.nil) | exact FinA.bound rfl | exact FinA.one (FinB.cell (FinC.own rfl rfl rfl rfl)) | exact FinA.one (FinB.cell (FinC.v (by first | rfl | (simp [bP])))) | exact FinA.one (FinB.cell (FinC.ow rfl (by first | rfl | (simp [bP])))) | exact FinA.one (FinB.agg' rfl rfl) | refine ⟨⟨_, rfl, ?_⟩, ?_⟩), by repeat' (first | exact trivial | refine ⟨⟨_, rfl, by first | rfl | (simp [bP]; done) | (simp [renO, *]; done)⟩, by first | rfl | assumption, ?_⟩), rfl⟩
      · have hj : joinW (ws.take (q + 1)) = joinW (ws.take q) ++ [32] ++ ws[q].data.toList := by
          rw [hsn, joinW_snoc]
          intro h
          have := congrArg List.length h
          rw [List.length_take, List.length_nil] at this
          omega
        rw [hsn] at hj
        rw [hj] at hpre2
        simp only [List.length_append, Array.length_toList, List.length_cons, List.length_nil] at hpre2
        generalize ws[q] = v at *
        have hB1 := hB p1 l1 32 (by omega)
        have hS1 := hS true (l1 ++ [32]) v (by have : v.size = v.data.size := rfl; simp; omega)
        cases p1
        all_goals
          unfold bP at *
          repeat' (first | ((first | apply o_do | apply d_do | apply d_yes rfl rfl rfl); first | exact ls_nilCheck rfl rfl | exact ls_indexAddr_sl tab_ok rfl rfl rfl rfl hel rfl | exact ls_callA [0, 1] 50 hB1 rfl rfl (by (repeat' (first | exact NilL.nil | refine NilL.cons Nil.same ?_ | refine NilL.cons Nil.nil ?_ | refine NilL.cons (Nil.agg ?_) ?_ | exact Nil1s.nil | refine Nil1s.cons Nil1.same ?_ | refine Nil1s.cons Nil1.nil ?_)); first | done | fail) rfl (by (repeat' (first | exact trivial | refine ⟨⟨_, rfl, by first | rfl | (simp [renO, *]; done) | fail⟩, ?_⟩)); first | done | fail) (by first | rfl | (simp [closO, *]; done) | fail) rfl rfl rfl rfl (by first | rfl | (simp [closO, *]; done) | fail) rfl | exact ls_callA [0, 1] 50 hS1 rfl rfl (by (repeat' (first | exact NilL.nil | refine NilL.cons Nil.same ?_ | refine NilL.cons Nil.nil ?_ | refine NilL.cons (Nil.agg ?_) ?_ | exact Nil1s.nil | refine Nil1s.cons Nil1.same ?_ | refine Nil1s.cons Nil1.nil ?_)); first | done | fail) rfl (by (repeat' (first | exact trivial | refine ⟨⟨_, rfl, by first | rfl | (simp [renO, *]; done) | fail⟩, ?_⟩)); first | done | fail) (by first | rfl | (simp [closO, *]; done) | fail) rfl rfl rfl rfl (by first | rfl | (simp [closO, *]; done) | fail) rfl | exact lsq) | refine a_seq ?_ | refine a_region ?_ | refine o_nil ?_ | refine a_block ?_ | refine a_ret ?_ | refine a_exit ?_ | refine a_skip ?_ | refine a_draw mixed ?_ | refine d_nil (by kernel_rfl) ?_ | refine o_yes rfl rfl rfl ?_ | refine o_no rfl rfl rfl (by decide) ?_ | refine o_no' rfl rfl rfl ?_ | refine a_condT rfl ?_ | refine a_condF rfl ?_ | refine d_no rfl rfl rfl (by decide) ?_ | refine d_no' rfl rfl rfl ?_ | (refine wq2 (fun hb => ?_) (fun hb => ?_) <;> (simp only [hb]; try simp only [hbs, ne_eq] at hb; try (exfalso; first | omega | exact hb trivial))) | fail)
          refine ⟨⟨(q + 1, true, l1 ++ [32] ++ v.data.toList), by dsimp only; omega, by dsimp only; rw [hsn, hj, he]; simp⟩, by dsimp only; omega, ?_⟩
          refine ⟨by repeat' (first | exact trivial | exact FinA.one (FinB.cell (FinC.same rfl)) | exact FinA.one (FinB.cell FinC.nil) | exact FinA.bound rfl | exact FinA.one (FinB.cell (FinC.own rfl rfl rfl rfl)) | exact FinA.one (FinB.cell (FinC.v (by first | rfl | (simp [bP])))) | exact FinA.one (FinB.cell (FinC.ow rfl (by first | rfl | (simp [bP])))) | exact FinA.one (FinB.agg' rfl rfl) | refine ⟨⟨_, rfl, ?_⟩, ?_⟩), by repeat' (first | exact trivial | refine ⟨⟨_, rfl, by first | rfl | (simp [bP]; done) | (simp [renO, *]; done)⟩, by first | rfl | assumption, ?_⟩), rfl⟩
    · obtain rfl : q = ws.length := by omega
      rw [List.take_length] at he
      have hB1 := hB p1 l1 10 (by omega)
      have e2 : l ++ lineW ws = l1 ++ [10] := by rw [he]; simp [lineW]
      rw [e2]
      cases p1
      all_goals
        unfold bP at *
        repeat' (first | ((first | apply o_do | apply d_do | apply d_yes rfl rfl rfl); first | exact ls_nilCheck rfl rfl | exact ls_callA [0, 1] 50 hB1 rfl rfl (by (repeat' (first | exact NilL.nil | refine NilL.cons Nil.same ?_ | refine NilL.cons Nil.nil ?_ | refine NilL.cons (Nil.agg ?_) ?_ | exact Nil1s.nil | refine Nil1s.cons Nil1.same ?_ | refine Nil1s.cons Nil1.nil ?_)); first | done | fail) rfl (by repeat' (first | exact trivial | refine ⟨⟨_, rfl, by first | rfl | (simp [renO, *]; done)⟩, ?_⟩)) (by first | rfl | simp [closO, *]) rfl rfl rfl rfl (by first | rfl | simp [closO, *]) rfl | exact lsq) | refine a_seq ?_ | refine a_region ?_ | refine o_nil ?_ | refine a_block ?_ | refine a_ret ?_ | refine a_exit ?_ | refine a_skip ?_ | refine a_draw mixed ?_ | refine d_nil (by kernel_rfl) ?_ | refine o_yes rfl rfl rfl ?_ | refine o_no rfl rfl rfl (by decide) ?_ | refine o_no' rfl rfl rfl ?_ | refine a_condT rfl ?_ | refine a_condF rfl ?_ | refine d_no rfl rfl rfl (by decide) ?_ | refine d_no' rfl rfl rfl ?_ | (refine wq2 (fun hb => ?_) (fun hb => ?_) <;> (simp only [hb]; try simp only [hbs, ne_eq] at hb; try (exfalso; first | omega | exact hb trivial))) | fail)
        all_goals refine ⟨by first | exact .inr rfl | exact .inl rfl, _, rfl, ?_, by repeat' (first | exact trivial | refine ⟨⟨_, rfl, by first | rfl | (simp [renO, *]; done)⟩, by first | rfl | assumption, ?_⟩)⟩
        all_goals (first | refine FinA.tup ?_ | refine FinA.one ?_); repeat' (first | exact FinBs.nil | exact FinCs.nil | refine FinBs.cons ?_ ?_ | refine FinCs.cons ?_ ?_ | refine FinB.cell (FinC.v ?_) | refine FinB.cell (FinC.own rfl rfl rfl ?_) | exact FinB.cell FinC.nil | refine FinB.cell (FinC.sl ?_) | exact FinB.agg' rfl rfl | exact FinB.cell (FinC.same rfl) | refine FinB.agg ?_ | refine FinC.v ?_ | refine FinC.own rfl rfl rfl ?_ | exact FinC.nil | refine FinC.sl ?_ | exact FinC.same rfl); all_goals try rfl
  · unfold bP
    refine (ac_body tab_ok Tryd.func11 rfl (by kernel_rfl) rfl ?_); intro w0 M μ0; simp only [Tryd.ntmps11, List.length_cons, List.length_nil, Nat.reduceAdd, Nat.reduceSub, numb]
    repeat' (first | ((first | apply o_do | apply d_do | apply d_yes rfl rfl rfl); first | exact ls_nilCheck rfl rfl | exact lsq) | refine a_seq ?_ | refine a_region ?_ | refine o_nil ?_ | refine a_block ?_ | refine a_ret ?_ | refine a_exit ?_ | refine a_skip ?_ | refine a_draw mixed ?_ | refine d_nil (by kernel_rfl) ?_ | refine o_yes rfl rfl rfl ?_ | refine o_no rfl rfl rfl (by decide) ?_ | refine o_no' rfl rfl rfl ?_ | refine a_condT rfl ?_ | refine a_condF rfl ?_ | refine d_no rfl rfl rfl (by decide) ?_ | refine d_no' rfl rfl rfl ?_ | (refine wq2 (fun hb => ?_) (fun hb => ?_) <;> (simp only [hb]; try simp only [hbs, ne_eq] at hb; try (exfalso; first | omega | exact hb trivial))) | fail)
    refine a_loop (X := {x : Nat × Bool × List UInt8 // x.1 ≤ ws.length ∧ x.2.2 = l ++ joinW (ws.take x.1)}) (fun x => ⟨[(0, .ref 0 0), (6, .sl 1 (ws.map stAv)), (7, .v (.int .i64 (ws.map stAv).length)), (8, .v (.int .i64 x.1.1))], [(0, .box 41 [bP x.1.2.1, .own 1 (x.1.2.2.map byAv).length]), (1, .row 5 1 (x.1.2.2.map byAv))]⟩) (fun x => ws.length - x.1.1) ⟨(0, true, l), Nat.zero_le _, by simp [joinW]⟩ ?_ ?_
    · refine ⟨by repeat' (first | exact trivial | exact FinA.one (FinB.cell (FinC.same rfl)) | exact FinA.one (FinB.cell FinC.nil) | exact FinA.bound rfl | exact FinA.one (FinB.cell (FinC.own rfl rfl rfl rfl)) | exact FinA.one (FinB.cell (FinC.v (by first | rfl | (simp [bP])))) | exact FinA.one (FinB.cell (FinC.ow rfl (by first | rfl | (simp [bP])))) | exact FinA.one (FinB.agg' rfl rfl) | refine ⟨⟨_, rfl, ?_⟩, ?_⟩), by repeat' (first | exact trivial | refine ⟨⟨_, rfl, by first | rfl | (simp [bP]; done) | (simp [renO, *]; done)⟩, by first | rfl | assumption, ?_⟩), rfl⟩
    rintro ⟨⟨q, p1, l1⟩, hq, he⟩
    dsimp only at hq he ⊢
    have hpre := joinW_pre ws q
    have hl1 : l1.length = l.length + (joinW (ws.take q)).length := by rw [he, List.length_append]
    by_cases hlt : q < ws.length
    · have hel : (ws.map stAv)[q]? = some [.v (.string ws[q])] := by simp [hlt, stAv]
      have hsn := take_snoc ws q hlt
      have hqx : q < (ws.map stAv).length := by omega
      have hpre2 := joinW_pre ws (q + 1)
      rw [hsn] at hpre2
      rcases Nat.eq_zero_or_pos q with rfl | h0
      · have hj : joinW (ws.take (0 + 1)) = ws[0].data.toList := by rw [hsn]; simp [joinW, spW]
        rw [hsn] at hj
        rw [hj] at hpre2
        rw [Array.length_toList] at hpre2
        generalize ws[0] = v at *
        have hS1 := hS p1 l1 v (by have : v.size = v.data.size := rfl; simp [joinW] at hl1; omega)
        cases p1
        all_goals
          unfold bP at *
          repeat' (first | ((first | apply o_do | apply d_do | apply d_yes rfl rfl rfl); first | exact ls_nilCheck rfl rfl | exact ls_indexAddr_sl tab_ok rfl rfl rfl rfl hel rfl | exact ls_callA [0, 1] 50 hS1 rfl rfl (by (repeat' (first | exact NilL.nil | refine NilL.cons Nil.same ?_ | refine NilL.cons Nil.nil ?_ | refine NilL.cons (Nil.agg ?_) ?_ | exact Nil1s.nil | refine Nil1s.cons Nil1.same ?_ | refine Nil1s.cons Nil1.nil ?_)); first | done | fail) rfl (by repeat' (first | exact trivial | refine ⟨⟨_, rfl, by first | rfl | (simp [renO, *]; done)⟩, ?_⟩)) (by first | rfl | simp [closO, *]) rfl rfl rfl rfl (by first | rfl | simp [closO, *]) rfl | exact lsq) | refine a_seq ?_ | refine a_region ?_ | refine o_nil ?_ | refine a_block ?_ | refine a_ret ?_ | refine a_exit ?_ | refine a_skip ?_ | refine a_draw mixed ?_ | refine d_nil (by kernel_rfl) ?_ | refine o_yes rfl rfl rfl ?_ | refine o_no rfl rfl rfl (by decide) ?_ | refine o_no' rfl rfl rfl ?_ | refine a_condT rfl ?_ | refine a_condF rfl ?_ | refine d_no rfl rfl rfl (by decide) ?_ | refine d_no' rfl rfl rfl ?_ | (refine wq2 (fun hb => ?_) (fun hb => ?_) <;> (simp only [hb]; try simp only [hbs, ne_eq] at hb; try (exfalso; first | omega | exact hb trivial))) | fail)
          refine ⟨⟨(1, true, l1 ++ v.data.toList), by dsimp only; omega, by dsimp only; rw [hsn, hj, he]; simp [joinW]⟩, by dsimp only; omega, ?_⟩
          refine ⟨by repeat' (first | exact trivial | exact FinA.one (FinB.cell (FinC.same rfl)) | exact FinA.one (FinB.cell FinC.nil) | exact FinA.bound rfl | exact FinA.one (FinB.cell (FinC.own rfl rfl rfl rfl)) | exact FinA.one (FinB.cell (FinC.v (by first | rfl | (simp [bP])))) | exact FinA.one (FinB.cell (FinC.ow rfl (by first | rfl | (simp [bP])))) | exact FinA.one (FinB.agg' rfl rfl) | refine ⟨⟨_, rfl, ?_⟩, ?_⟩), by repeat' (first | exact trivial | refine ⟨⟨_, rfl, by first | rfl | (simp [bP]; done) | (simp [renO, *]; done)⟩, by first | rfl | assumption, ?_⟩), rfl⟩
      · have hj : joinW (ws.take (q + 1)) = joinW (ws.take q) ++ [32] ++ ws[q].data.toList := by
          rw [hsn, joinW_snoc]
          intro h
          have := congrArg List.length h
          rw [List.length_take, List.length_nil] at this
          omega
        rw [hsn] at hj
        rw [hj] at hpre2
        simp only [List.length_append, Array.length_toList, List.length_cons, List.length_nil] at hpre2
        generalize ws[q] = v at *
        have hB1 := hB p1 l1 32 (by omega)
        have hS1 := hS true (l1 ++ [32]) v (by have : v.size = v.data.size := rfl; simp; omega)
        cases p1
        all_goals
          unfold bP at *
          repeat' (first | ((first | apply o_do | apply d_do | apply d_yes rfl rfl rfl); first | exact ls_nilCheck rfl rfl | exact ls_indexAddr_sl tab_ok rfl rfl rfl rfl hel rfl | exact ls_callA [0, 1] 50 hB1 rfl rfl (by (repeat' (first | exact NilL.nil | refine NilL.cons Nil.same ?_ | refine NilL.cons Nil.nil ?_ | refine NilL.cons (Nil.agg ?_) ?_ | exact Nil1s.nil | refine Nil1s.cons Nil1.same ?_ | refine Nil1s.cons Nil1.nil ?_)); first | done | fail) rfl (by (repeat' (first | exact trivial | refine ⟨⟨_, rfl, by first | rfl | (simp [renO, *]; done) | fail⟩, ?_⟩)); first | done | fail) (by first | rfl | (simp [closO, *]; done) | fail) rfl rfl rfl rfl (by first | rfl | (simp [closO, *]; done) | fail) rfl | exact ls_callA [0, 1] 50 hS1 rfl rfl (by (repeat' (first | exact NilL.nil | refine NilL.cons Nil.same ?_ | refine NilL.cons Nil.nil ?_ | refine NilL.cons (Nil.agg ?_) ?_ | exact Nil1s.nil | refine Nil1s.cons Nil1.same ?_ | refine Nil1s.cons Nil1.nil ?_)); first | done | fail) rfl (by (repeat' (first | exact trivial | refine ⟨⟨_, rfl, by first | rfl | (simp [renO, *]; done) | fail⟩, ?_⟩)); first | done | fail) (by first | rfl | (simp [closO, *]; done) | fail) rfl rfl rfl rfl (by first | rfl | (simp [closO, *]; done) | fail) rfl | exact lsq) | refine a_seq ?_ | refine a_region ?_ | refine o_nil ?_ | refine a_block ?_ | refine a_ret ?_ | refine a_exit ?_ | refine a_skip ?_ | refine a_draw mixed ?_ | refine d_nil (by kernel_rfl) ?_ | refine o_yes rfl rfl rfl ?_ | refine o_no rfl rfl rfl (by decide) ?_ | refine o_no' rfl rfl rfl ?_ | refine a_condT rfl ?_ | refine a_condF rfl ?_ | refine d_no rfl rfl rfl (by decide) ?_ | refine d_no' rfl rfl rfl ?_ | (refine wq2 (fun hb => ?_) (fun hb => ?_) <;> (simp only [hb]; try simp only [hbs, ne_eq] at hb; try (exfalso; first | omega | exact hb trivial))) | fail)
          refine ⟨⟨(q + 1, true, l1 ++ [32] ++ v.data.toList), by dsimp only; omega, by dsimp only; rw [hsn, hj, he]; simp⟩, by dsimp only; omega, ?_⟩
          refine ⟨by repeat' (first | exact trivial | exact FinA.one (FinB.cell (FinC.same rfl)) | exact FinA.one (FinB.cell FinC.nil) | exact FinA.bound rfl | exact FinA.one (FinB.cell (FinC.own rfl rfl rfl rfl)) | exact FinA.one (FinB.cell (FinC.v (by first | rfl | (simp [bP])))) | exact FinA.one (FinB.cell (FinC.ow rfl (by first | rfl | (simp [bP])))) | exact FinA.one (FinB.agg' rfl rfl) | refine ⟨⟨_, rfl, ?_⟩, ?_⟩), by repeat' (first | exact trivial | refine ⟨⟨_, rfl, by first | rfl | (simp [bP]; done) | (simp [renO, *]; done)⟩, by first | rfl | assumption, ?_⟩), rfl⟩
    · obtain rfl : q = ws.length := by omega
      rw [List.take_length] at he
      have hB1 := hB p1 l1 10 (by omega)
      have e2 : l ++ lineW ws = l1 ++ [10] := by rw [he]; simp [lineW]
      rw [e2]
      cases p1
      all_goals
        unfold bP at *
        repeat' (first | ((first | apply o_do | apply d_do | apply d_yes rfl rfl rfl); first | exact ls_nilCheck rfl rfl | exact ls_callA [0, 1] 50 hB1 rfl rfl (by (repeat' (first | exact NilL.nil | refine NilL.cons Nil.same ?_ | refine NilL.cons Nil.nil ?_ | refine NilL.cons (Nil.agg ?_) ?_ | exact Nil1s.nil | refine Nil1s.cons Nil1.same ?_ | refine Nil1s.cons Nil1.nil ?_)); first | done | fail) rfl (by repeat' (first | exact trivial | refine ⟨⟨_, rfl, by first | rfl | (simp [renO, *]; done)⟩, ?_⟩)) (by first | rfl | simp [closO, *]) rfl rfl rfl rfl (by first | rfl | simp [closO, *]) rfl | exact lsq) | refine a_seq ?_ | refine a_region ?_ | refine o_nil ?_ | refine a_block ?_ | refine a_ret ?_ | refine a_exit ?_ | refine a_skip ?_ | refine a_draw mixed ?_ | refine d_nil (by kernel_rfl) ?_ | refine o_yes rfl rfl rfl ?_ | refine o_no rfl rfl rfl (by decide) ?_ | refine o_no' rfl rfl rfl ?_ | refine a_condT rfl ?_ | refine a_condF rfl ?_ | refine d_no rfl rfl rfl (by decide) ?_ | refine d_no' rfl rfl rfl ?_ | (refine wq2 (fun hb => ?_) (fun hb => ?_) <;> (simp only [hb]; try simp only [hbs, ne_eq] at hb; try (exfalso; first | omega | exact hb trivial))) | fail)
        all_goals refine ⟨by first | exact .inr rfl | exact .inl rfl, _, rfl, ?_, by repeat' (first | exact trivial | refine ⟨⟨_, rfl, by first | rfl | (simp [renO, *]; done)⟩, by first | rfl | assumption, ?_⟩)⟩
        all_goals (first | refine FinA.tup ?_ | refine FinA.one ?_); repeat' (first | exact FinBs.nil | exact FinCs.nil | refine FinBs.cons ?_ ?_ | refine FinCs.cons ?_ ?_ | refine FinB.cell (FinC.v ?_) | refine FinB.cell (FinC.own rfl rfl rfl ?_) | exact FinB.cell FinC.nil | refine FinB.cell (FinC.sl ?_) | exact FinB.agg' rfl rfl | exact FinB.cell (FinC.same rfl) | refine FinB.agg ?_ | refine FinC.v ?_ | refine FinC.own rfl rfl rfl ?_ | exact FinC.nil | refine FinC.sl ?_ | exact FinC.same rfl); all_goals try rfl
end Go.Proofs.YtbhblhcgfenobaaDoor
