/-
  strings.Builder in a struct of whatever type that begins with it, walked over abstract values.
  Script: numbers as texts (strconv.Itoa), and a printer's line.
  Script: a printer's act and a printer's source.
-/
import Derived.Test.YtbhblhcgfenobaaGreatDoorK4
import Derived.Test.YtbhblhcgfenobaaGreatDoorK5
import Derived.Test.YtbhblhcgfenobaaGreatDoorK13
namespace Go.Proofs.YtbhblhcgfenobaaGreatDoor
open Go.RowKit
set_option linter.unusedSimpArgs false
set_option linter.unusedVariables false
theorem u8_info : (Tryz.prog.info? 5).map (fun i => (i.zero, i.size, i.bytes)) = some (some (.int .u8 0), 1, 1) := by kernel_rfl
theorem u8_ok : U8 Tryz.prog 5 := by
  obtain ⟨i, hi, h⟩ := Option.map_eq_some_iff.1 u8_info
  injection h with h1 h2
  injection h2 with h2 h3
  exact ⟨⟨i, hi, h1, h2, h3⟩, Tryz.underlying5, by kernel_rfl⟩
theorem bld_info : (Tryz.prog.info? 66).map (fun i => i.size) = some 2 := by kernel_rfl
theorem bld_size : ∃ j, Tryz.prog.info? 66 = some j ∧ j.size ≠ 0 := by
  obtain ⟨j, hj, h⟩ := Option.map_eq_some_iff.1 bld_info
  exact ⟨j, hj, by omega⟩
theorem no_esc (y : Value) (w : World) : (callFunc 91 #[y]).run Tryz.prog w = .ok (.value y) w := by
  rw [run_callFunc_extern Tryz.func91 (by kernel_rfl) (by kernel_rfl) (by kernel_rfl) (e := Extern.AbiNoEscape.same) (by kernel_rfl)]
  rfl
def bP : Bool → AV
  | true => .ref 0 0
  | false => .v (.pointer none)
/-- a builder's memory, used or not, in a box of type T -/
def SB (T : Nat) (p : Bool) (l : List UInt8) : Store := [(0, .box T [bP p, .own 1 (l.map byAv).length]), (1, .row 5 1 (l.map byAv))]
def Lies (T : Nat) : Prop := liesAt Tryz.prog Tryz.prog.depth T (2 / Tryz.prog.cellsOf T) 0 66 1 = true
set_option maxHeartbeats 2000000 in
set_option maxRecDepth 20000 in
theorem b_check (T : Nat) (hT : Lies T) (p : Bool) (l : List UInt8) : AC Tryz.prog 57 [.ref 0 0] (SB T p l) (.tup []) (SB T true l) := by
  have hp := Tryz.underlying63
  obtain ⟨j, hj, hj0⟩ := bld_size
  cases p
  · unfold SB bP
    refine (ac_body tab_ok Tryz.func57 rfl (by kernel_rfl) rfl ?_); intro w0 M μ0; simp only [Tryz.ntmps57, List.length_cons, List.length_nil, Nat.reduceAdd, Nat.reduceSub, numb]
    repeat' (first | ((first | apply o_do | apply d_do | apply d_yes rfl rfl rfl); first | exact ls_nilCheck rfl rfl | exact ls_eqPN hp rfl rfl | exact ls_neRR hp hj rfl rfl rfl | exact ls_toUn hp Tryz.underlying124 hj hj0 rfl rfl (Nat.zero_lt_succ _) rfl | exact ls_fromUn Tryz.underlying124 hp hj rfl rfl rfl hT rfl | exact ls_same no_esc rfl rfl | exact lsq) | refine a_seq ?_ | refine a_region ?_ | refine o_nil ?_ | refine a_block ?_ | refine a_ret ?_ | refine a_exit ?_ | refine a_skip ?_ | refine a_draw mixed ?_ | refine d_nil (by kernel_rfl) ?_ | refine o_yes rfl rfl rfl ?_ | refine o_no rfl rfl rfl (by decide) ?_ | refine o_no' rfl rfl rfl ?_ | refine a_condT rfl ?_ | refine a_condF rfl ?_ | refine d_no rfl rfl rfl (by decide) ?_ | refine d_no' rfl rfl rfl ?_ | (refine wq2 (fun hb => ?_) (fun hb => ?_) <;> (simp only [hb]; try simp only [hbs, ne_eq] at hb; try (exfalso; first | omega | exact hb trivial))) | fail)
    all_goals refine rq rfl ?_
    all_goals exact fnq
  · unfold SB bP
    refine (ac_body tab_ok Tryz.func57 rfl (by kernel_rfl) rfl ?_); intro w0 M μ0; simp only [Tryz.ntmps57, List.length_cons, List.length_nil, Nat.reduceAdd, Nat.reduceSub, numb]
    repeat' (first | ((first | apply o_do | apply d_do | apply d_yes rfl rfl rfl); first | exact ls_nilCheck rfl rfl | exact ls_eqRN hp rfl rfl | exact ls_neRR hp hj rfl rfl rfl | exact lsq) | refine a_seq ?_ | refine a_region ?_ | refine o_nil ?_ | refine a_block ?_ | refine a_ret ?_ | refine a_exit ?_ | refine a_skip ?_ | refine a_draw mixed ?_ | refine d_nil (by kernel_rfl) ?_ | refine o_yes rfl rfl rfl ?_ | refine o_no rfl rfl rfl (by decide) ?_ | refine o_no' rfl rfl rfl ?_ | refine a_condT rfl ?_ | refine a_condF rfl ?_ | refine d_no rfl rfl rfl (by decide) ?_ | refine d_no' rfl rfl rfl ?_ | (refine wq2 (fun hb => ?_) (fun hb => ?_) <;> (simp only [hb]; try simp only [hbs, ne_eq] at hb; try (exfalso; first | omega | exact hb trivial))) | fail)
    all_goals refine rq rfl ?_
    all_goals exact fnq
set_option maxHeartbeats 2000000 in
set_option maxRecDepth 20000 in
theorem b_WriteByte (T : Nat) (hT : Lies T) (p : Bool) (l : List UInt8) (b : UInt8) (hl : l.length ≤ 900000000) : AC Tryz.prog 58 [.ref 0 0, .v (.int .u8 (b.toNat : Int))] (SB T p l) (.v .nilIface) (SB T true (l ++ [b])) := by
  have hc := b_check T hT p l
  have hn : (l.map byAv).length = l.length := List.length_map _
  have e : (l ++ [b]).map byAv = l.map byAv ++ [[.v (.int .u8 (b.toNat : Int))]] := by simp [byAv]
  unfold SB at *
  rw [e]
  cases p
  all_goals
    unfold bP at *
    refine (ac_body tab_ok Tryz.func58 rfl (by kernel_rfl) rfl ?_); intro w0 M μ0; simp only [Tryz.ntmps58, List.length_cons, List.length_nil, Nat.reduceAdd, Nat.reduceSub, numb]
    repeat' (first | ((first | apply o_do | apply d_do | apply d_yes rfl rfl rfl); first | exact ls_callA [0, 1] 50 hc rfl rfl (by (repeat' (first | exact NilL.nil | refine NilL.cons Nil.same ?_ | refine NilL.cons Nil.nil ?_ | refine NilL.cons (Nil.agg ?_) ?_ | exact Nil1s.nil | refine Nil1s.cons Nil1.same ?_ | refine Nil1s.cons Nil1.nil ?_)); first | done | fail) rfl (by repeat' (first | exact trivial | refine ⟨⟨_, rfl, by first | rfl | (simp [renO, *]; done)⟩, ?_⟩)) (by first | rfl | simp [closO, *]) rfl rfl rfl rfl (by first | rfl | simp [closO, *]) rfl | exact ls_nilCheck rfl rfl | focus (apply ls_append tab_ok rfl rfl ?hn rfl ?hsrc rfl ?hlen rfl rfl; (case hn => rfl); (case hsrc => first | exact SrcIs.sl | exact SrcIs.nil | exact SrcIs.own rfl rfl | fail); (case hlen => (try simp only [List.length_cons, List.length_nil]); omega); first | done | fail) | exact lsq) | refine a_seq ?_ | refine a_region ?_ | refine o_nil ?_ | refine a_block ?_ | refine a_ret ?_ | refine a_exit ?_ | refine a_skip ?_ | refine a_draw mixed ?_ | refine d_nil (by kernel_rfl) ?_ | refine o_yes rfl rfl rfl ?_ | refine o_no rfl rfl rfl (by decide) ?_ | refine o_no' rfl rfl rfl ?_ | refine a_condT rfl ?_ | refine a_condF rfl ?_ | refine d_no rfl rfl rfl (by decide) ?_ | refine d_no' rfl rfl rfl ?_ | (refine wq2 (fun hb => ?_) (fun hb => ?_) <;> (simp only [hb]; try simp only [hbs, ne_eq] at hb; try (exfalso; first | omega | exact hb trivial))) | fail)
    all_goals refine rq rfl ?_
    all_goals exact fnq
set_option maxHeartbeats 2000000 in
set_option maxRecDepth 20000 in
theorem b_WriteString (T : Nat) (hT : Lies T) (p : Bool) (l : List UInt8) (s : ByteArray) (hl : l.length + s.size ≤ 100000000000000) : AC Tryz.prog 28 [.ref 0 0, .v (.string s)] (SB T p l) (.tup [.v (.int .i64 s.size), .v .nilIface]) (SB T true (l ++ s.data.toList)) := by
  have hc := b_check T hT p l
  have hn : (l.map byAv).length = l.length := List.length_map _
  have e : (l ++ s.data.toList).map byAv = l.map byAv ++ s.data.toList.map byAv := List.map_append
  unfold SB at *
  rw [e]
  cases p
  all_goals
    unfold bP at *
    refine (ac_body tab_ok Tryz.func28 rfl (by kernel_rfl) rfl ?_); intro w0 M μ0; simp only [Tryz.ntmps28, List.length_cons, List.length_nil, Nat.reduceAdd, Nat.reduceSub, numb]
    repeat' (first | ((first | apply o_do | apply d_do | apply d_yes rfl rfl rfl); first | exact ls_callA [0, 1] 50 hc rfl rfl (by (repeat' (first | exact NilL.nil | refine NilL.cons Nil.same ?_ | refine NilL.cons Nil.nil ?_ | refine NilL.cons (Nil.agg ?_) ?_ | exact Nil1s.nil | refine Nil1s.cons Nil1.same ?_ | refine Nil1s.cons Nil1.nil ?_)); first | done | fail) rfl (by repeat' (first | exact trivial | refine ⟨⟨_, rfl, by first | rfl | (simp [renO, *]; done)⟩, ?_⟩)) (by first | rfl | simp [closO, *]) rfl rfl rfl rfl (by first | rfl | simp [closO, *]) rfl | exact ls_nilCheck rfl rfl | exact ls_appendS tab_ok u8_ok rfl rfl rfl rfl rfl rfl (by omega) rfl | exact lsq) | refine a_seq ?_ | refine a_region ?_ | refine o_nil ?_ | refine a_block ?_ | refine a_ret ?_ | refine a_exit ?_ | refine a_skip ?_ | refine a_draw mixed ?_ | refine d_nil (by kernel_rfl) ?_ | refine o_yes rfl rfl rfl ?_ | refine o_no rfl rfl rfl (by decide) ?_ | refine o_no' rfl rfl rfl ?_ | refine a_condT rfl ?_ | refine a_condF rfl ?_ | refine d_no rfl rfl rfl (by decide) ?_ | refine d_no' rfl rfl rfl ?_ | (refine wq2 (fun hb => ?_) (fun hb => ?_) <;> (simp only [hb]; try simp only [hbs, ne_eq] at hb; try (exfalso; first | omega | exact hb trivial))) | fail)
    all_goals refine rq rfl ?_
    all_goals exact fnq
set_option maxHeartbeats 2000000 in
set_option maxRecDepth 20000 in
theorem b_String (T : Nat) (l : List UInt8) (h0 : l ≠ []) : AC Tryz.prog 33 [.ref 0 0] (SB T true l) (.v (.string ⟨l.toArray⟩)) [(0, .box T [bP true, .own 1 (l.map byAv).length]), (1, .dead)] := by
  have hn : (l.map byAv).length = l.length := List.length_map _
  have hpos : 0 < (l.map byAv).length := by
    rw [hn]
    exact List.length_pos_iff.2 h0
  unfold SB bP
  refine (ac_body tab_ok Tryz.func33 rfl (by kernel_rfl) rfl ?_); intro w0 M μ0; simp only [Tryz.ntmps33, List.length_cons, List.length_nil, Nat.reduceAdd, Nat.reduceSub, numb]
  repeat' (first | ((first | apply o_do | apply d_do | apply d_yes rfl rfl rfl); first | exact ls_nilCheck rfl rfl | exact ls_sliceData rfl rfl rfl hpos rfl | exact ls_unsafeStr u8_ok Tryz.underlying102 rfl rfl rfl rfl rfl rfl rfl | exact lsq) | refine a_seq ?_ | refine a_region ?_ | refine o_nil ?_ | refine a_block ?_ | refine a_ret ?_ | refine a_exit ?_ | refine a_skip ?_ | refine a_draw mixed ?_ | refine d_nil (by kernel_rfl) ?_ | refine o_yes rfl rfl rfl ?_ | refine o_no rfl rfl rfl (by decide) ?_ | refine o_no' rfl rfl rfl ?_ | refine a_condT rfl ?_ | refine a_condF rfl ?_ | refine d_no rfl rfl rfl (by decide) ?_ | refine d_no' rfl rfl rfl ?_ | (refine wq2 (fun hb => ?_) (fun hb => ?_) <;> (simp only [hb]; try simp only [hbs, ne_eq] at hb; try (exfalso; first | omega | exact hb trivial))) | fail)
  all_goals refine rq rfl ?_
  all_goals exact fnq
/-! a printer's lines -/
theorem pr_lies : Lies 68 := by unfold Lies; kernel_rfl
end Go.Proofs.YtbhblhcgfenobaaGreatDoor
namespace Go.Proofs.YtbhblhcgfenobaaGreatDoor
open Go.RowKit
set_option linter.unusedSimpArgs false
set_option linter.unusedVariables false
theorem ok_iFormat : CallOK Tryz.prog 90 := ⟨_, Tryz.func90, by kernel_rfl, rfl⟩
theorem p_iFormat {n : Int} (h : i64 n) : PCT Tryz.prog TabT 90 [.v (.int .i64 n), .v (.int .i64 10)] (.v (.string (itoB n))) :=
  pct_of_calls (xs := [.int .i64 n, .int .i64 10]) ok_iFormat (fun w hT => (Any.internal_strconv_FormatInt_10 (ρ := layF_ren) { layF with } n h.1 h.2 w hT).mono fun e w' ⟨he, k, os, hw⟩ => ⟨he, by rw [hw]; exact below_grow w k os⟩) rfl
theorem p_iItoa {n : Int} (h : i64 n) : PCT Tryz.prog TabT 59 [.v (.int .i64 n)] (.v (.string (itoB n))) := by
  have hF := p_iFormat h
  generalize itoB n = x at *
  refine PCT.mk (act_body tab_ok Tryz.func59 rfl (by kernel_rfl) rfl ?_); intro w0 M μ0 hG; simp only [Tryz.ntmps59, List.length_cons, List.length_nil, Nat.reduceAdd, Nat.reduceSub, numb] at hG ⊢
  repeat' (first | ((first | apply o_do | apply d_do | apply d_yes rfl rfl rfl); first | focus (apply ls_callT hG hF rfl rfl _ rfl rfl; (repeat' (first | exact NilL.nil | refine NilL.cons Nil.same ?_ | refine NilL.cons Nil.nil ?_ | refine NilL.cons (Nil.agg ?_) ?_ | exact Nil1s.nil | refine Nil1s.cons Nil1.same ?_ | refine Nil1s.cons Nil1.nil ?_)); done) | exact lsq) | refine a_seq ?_ | refine a_region ?_ | refine o_nil ?_ | refine a_block ?_ | refine a_ret ?_ | refine a_exit ?_ | refine a_skip ?_ | refine a_draw mixed ?_ | refine d_nil (by kernel_rfl) ?_ | refine o_yes rfl rfl rfl ?_ | refine o_no rfl rfl rfl (by decide) ?_ | refine o_no' rfl rfl rfl ?_ | refine a_condT rfl ?_ | refine a_condF rfl ?_ | refine d_no rfl rfl rfl (by decide) ?_ | refine d_no' rfl rfl rfl ?_ | (refine wq2 (fun hb => ?_) (fun hb => ?_) <;> (simp only [hb]; try simp only [hbs, ne_eq] at hb; try (exfalso; first | omega | exact hb trivial))) | fail)
  refine rq rfl ?_
  exact fnq
theorem p_Itoa {n : Int} (h : i64 n) : PCT Tryz.prog TabT 30 [.v (.int .i64 n)] (.v (.string (itoB n))) := by
  have hF := p_iItoa h
  generalize itoB n = x at *
  refine PCT.mk (act_body tab_ok Tryz.func30 rfl (by kernel_rfl) rfl ?_); intro w0 M μ0 hG; simp only [Tryz.ntmps30, List.length_cons, List.length_nil, Nat.reduceAdd, Nat.reduceSub, numb] at hG ⊢
  repeat' (first | ((first | apply o_do | apply d_do | apply d_yes rfl rfl rfl); first | focus (apply ls_callT hG hF rfl rfl _ rfl rfl; (repeat' (first | exact NilL.nil | refine NilL.cons Nil.same ?_ | refine NilL.cons Nil.nil ?_ | refine NilL.cons (Nil.agg ?_) ?_ | exact Nil1s.nil | refine Nil1s.cons Nil1.same ?_ | refine Nil1s.cons Nil1.nil ?_)); done) | exact lsq) | refine a_seq ?_ | refine a_region ?_ | refine o_nil ?_ | refine a_block ?_ | refine a_ret ?_ | refine a_exit ?_ | refine a_skip ?_ | refine a_draw mixed ?_ | refine d_nil (by kernel_rfl) ?_ | refine o_yes rfl rfl rfl ?_ | refine o_no rfl rfl rfl (by decide) ?_ | refine o_no' rfl rfl rfl ?_ | refine a_condT rfl ?_ | refine a_condF rfl ?_ | refine d_no rfl rfl rfl (by decide) ?_ | refine d_no' rfl rfl rfl ?_ | (refine wq2 (fun hb => ?_) (fun hb => ?_) <;> (simp only [hb]; try simp only [hbs, ne_eq] at hb; try (exfalso; first | omega | exact hb trivial))) | fail)
  refine rq rfl ?_
  exact fnq
/-! a line -/
/-- words, each behind a space -/
def spW (ws : List ByteArray) : List UInt8 := ws.flatMap fun w => 32 :: w.data.toList
/-- words, a space between two -/
def joinW : List ByteArray → List UInt8
  | [] => []
  | w :: ws => w.data.toList ++ spW ws
def lineW (ws : List ByteArray) : List UInt8 := joinW ws ++ [10]
theorem spW_snoc (ws : List ByteArray) (w : ByteArray) : spW (ws ++ [w]) = spW ws ++ 32 :: w.data.toList := by simp [spW]
theorem joinW_snoc (ws : List ByteArray) (w : ByteArray) (h : ws ≠ []) : joinW (ws ++ [w]) = joinW ws ++ [32] ++ w.data.toList := by
  cases ws with
  | nil => exact absurd rfl h
  | cons v vs => simp [joinW, spW_snoc]
theorem spW_pre (ws : List ByteArray) (q : Nat) : (spW (ws.take q)).length ≤ (spW ws).length := by
  have h : ∀ a b : List ByteArray, (spW a).length ≤ (spW (a ++ b)).length := fun a b => by
    simp only [spW, List.flatMap_append, List.length_append]; omega
  have := h (ws.take q) (ws.drop q)
  rwa [List.take_append_drop] at this
theorem joinW_pre (ws : List ByteArray) (q : Nat) : (joinW (ws.take q)).length ≤ (joinW ws).length := by
  cases ws with
  | nil => simp [joinW]
  | cons v vs =>
    cases q with
    | zero => simp [joinW]
    | succ q =>
      have := spW_pre vs q
      simp only [List.take_succ_cons, joinW, List.length_append]
      omega
set_option maxHeartbeats 4000000 in
theorem p_line (ws : List ByteArray) (p : Bool) (l : List UInt8) (hl : l.length + (joinW ws).length ≤ 800000000) (hw : ws.length ≤ 9223372036854775807) : AC Tryz.prog 29 [.ref 0 0, .sl 1 (ws.map stAv)] (SB 68 p l) (.tup []) (SB 68 true (l ++ lineW ws)) := by
  have hB := fun p l b => b_WriteByte 68 pr_lies p l b
  have hS := fun p l s => b_WriteString 68 pr_lies p l s
  have hn : (ws.map stAv).length = ws.length := List.length_map _
  unfold SB at *
  cases p
  · unfold bP
    refine (ac_body tab_ok Tryz.func29 rfl (by kernel_rfl) rfl ?_); intro w0 M μ0; simp only [Tryz.ntmps29, List.length_cons, List.length_nil, Nat.reduceAdd, Nat.reduceSub, numb]
    repeat' (first | ((first | apply o_do | apply d_do | apply d_yes rfl rfl rfl); first | exact ls_nilCheck rfl rfl | exact lsq) | refine a_seq ?_ | refine a_region ?_ | refine o_nil ?_ | refine a_block ?_ | refine a_ret ?_ | refine a_exit ?_ | refine a_skip ?_ | refine a_draw mixed ?_ | refine d_nil (by kernel_rfl) ?_ | refine o_yes rfl rfl rfl ?_ | refine o_no rfl rfl rfl (by decide) ?_ | refine o_no' rfl rfl rfl ?_ | refine a_condT rfl ?_ | refine a_condF rfl ?_ | refine d_no rfl rfl rfl (by decide) ?_ | refine d_no' rfl rfl rfl ?_ | (refine wq2 (fun hb => ?_) (fun hb => ?_) <;> (simp only [hb]; try simp only [hbs, ne_eq] at hb; try (exfalso; first | omega | exact hb trivial))) | fail)
    refine a_loop (X := {x : Nat × Bool × List UInt8 // x.1 ≤ ws.length ∧ x.2.2 = l ++ joinW (ws.take x.1)}) (fun x => ⟨[(0, .ref 0 0), (6, .sl 1 (ws.map stAv)), (7, .v (.int .i64 (ws.map stAv).length)), (8, .v (.int .i64 x.1.1))], [(0, .box 68 [bP x.1.2.1, .own 1 (x.1.2.2.map byAv).length]), (1, .row 5 1 (x.1.2.2.map byAv))]⟩) (fun x => ws.length - x.1.1) ⟨(0, false, l), Nat.zero_le _, by simp [joinW]⟩ ?_ ?_
    · refine ⟨by repeat' (first | exact trivial | exact FinA.one (FinB.cell (FinC.same rfl)) | exact FinA.one (FinB.cell FinC.nil) | exact FinA.bound rfl | exact FinA.one (FinB.cell (FinC.own rfl rfl rfl rfl)) | exact FinA.one (FinB.cell (FinC.v (by first | rfl | (simp [bP])))) | exact FinA.one (FinB.cell (FinC.ow rfl (by first | rfl | (simp [bP])))) | exact FinA.one (FinB.agg' rfl rfl) | refine ⟨⟨_, rfl, ?_⟩, ?_⟩), by repeat' (first | exact trivial | refine ⟨⟨_, rfl, by first | rfl | (simp [bP]; done) | (simp [renO, *]; done)⟩, by first | rfl | assumption, ?_⟩), rfl⟩
    rintro ⟨⟨q, p1, l1⟩, hq, he⟩
    dsimp only at hq he ⊢
    have hpre := joinW_pre ws q
    have hl1 : l1.length = l.length + (joinW (ws.take q)).length := by rw [he, List.length_append]
    by_cases hlt : q < ws.length
    · have hel : (ws.map stAv)[q]? = some [.v (.string ws[q])] := by simp [hlt, stAv]
      have hsn := take_snoc ws q hlt
      have hqx : q < (ws.map stAv).length := by omega
      have hpre2 := joinW_pre ws (q + 1)
      rw [hsn] at hpre2
      rcases Nat.eq_zero_or_pos q with rfl | h0
      · have hj : joinW (ws.take (0 + 1)) = ws[0].data.toList := by rw [hsn]; simp [joinW, spW]
        rw [hsn] at hj
        rw [hj] at hpre2
        rw [Array.length_toList] at hpre2
        generalize ws[0] = v at *
        have hS1 := hS p1 l1 v (by have : v.size = v.data.size := rfl; simp [joinW] at hl1; omega)
        cases p1
        all_goals
          unfold bP at *
          repeat' (first | ((first | apply o_do | apply d_do | apply d_yes rfl rfl rfl); first | exact ls_nilCheck rfl rfl | exact ls_indexAddr_sl tab_ok rfl rfl rfl rfl hel rfl | exact ls_callA [0, 1] 50 hS1 rfl rfl (by (repeat' (first | exact NilL.nil | refine NilL.cons Nil.same ?_ | refine NilL.cons Nil.nil ?_ | refine NilL.cons (Nil.agg ?_) ?_ | exact Nil1s.nil | refine Nil1s.cons Nil1.same ?_ | refine Nil1s.cons Nil1.nil ?_)); first | done | fail) rfl (by repeat' (first | exact trivial | refine ⟨⟨_, rfl, by first | rfl | (simp [renO, *]; done)⟩, ?_⟩)) (by first | rfl | simp [closO, *]) rfl rfl rfl rfl (by first | rfl | simp [closO, *]) rfl | exact lsq) | refine a_seq ?_ | refine a_region ?_ | refine o_nil ?_ | refine a_block ?_ | refine a_ret ?_ | refine a_exit ?_ | refine a_skip ?_ | refine a_draw mixed ?_ | refine d_nil (by kernel_rfl) ?_ | refine o_yes rfl rfl rfl ?_ | refine o_no rfl rfl rfl (by decide) ?_ | refine o_no' rfl rfl rfl ?_ | refine a_condT rfl ?_ | refine a_condF rfl ?_ | refine d_no rfl rfl rfl (by decide) ?_ | refine d_no' rfl rfl rfl ?_ | (refine wq2 (fun hb => ?_) (fun hb => ?_) <;> (simp only [hb]; try simp only [hbs, ne_eq] at hb; try (exfalso; first | omega | exact hb trivial))) | fail)
          refine ⟨⟨(1, true, l1 ++ v.data.toList), by dsimp only; omega, by dsimp only; rw [hsn, hj, he]; simp [joinW]⟩, by dsimp only; omega, ?_⟩
          refine ⟨by repeat' (first | exact trivial | exact FinA.one (FinB.cell (FinC.same rfl)) | exact FinA.one (FinB.cell FinC.nil) | exact FinA.bound rfl | exact FinA.one (FinB.cell (FinC.own rfl rfl rfl rfl)) | exact FinA.one (FinB.cell (FinC.v (by first | rfl | (simp [bP])))) | exact FinA.one (FinB.cell (FinC.ow rfl (by first | rfl | (simp [bP])))) | exact FinA.one (FinB.agg' rfl rfl) | refine ⟨⟨_, rfl, ?_⟩, ?_⟩), by repeat' (first | exact trivial | refine ⟨⟨_, rfl, by first | rfl | (simp [bP]; done) | (simp [renO, *]; done)⟩, by first | rfl | assumption, ?_⟩), rfl⟩
      · have hj : joinW (ws.take (q + 1)) = joinW (ws.take q) ++ [32] ++ ws[q].data.toList := by
          rw [hsn, joinW_snoc]
          intro h
          have := congrArg List.length h
          rw [List.length_take, List.length_nil] at this
          omega
        rw [hsn] at hj
        rw [hj] at hpre2
        simp only [List.length_append, Array.length_toList, List.length_cons, List.length_nil] at hpre2
        generalize ws[q] = v at *
        have hB1 := hB p1 l1 32 (by omega)
        have hS1 := hS true (l1 ++ [32]) v (by have : v.size = v.data.size := rfl; simp; omega)
        cases p1
        all_goals
          unfold bP at *
          repeat' (first | ((first | apply o_do | apply d_do | apply d_yes rfl rfl rfl); first | exact ls_nilCheck rfl rfl | exact ls_indexAddr_sl tab_ok rfl rfl rfl rfl hel rfl | exact ls_callA [0, 1] 50 hB1 rfl rfl (by (repeat' (first | exact NilL.nil | refine NilL.cons Nil.same ?_ | refine NilL.cons Nil.nil ?_ | refine NilL.cons (Nil.agg ?_) ?_ | exact Nil1s.nil | refine Nil1s.cons Nil1.same ?_ | refine Nil1s.cons Nil1.nil ?_)); first | done | fail) rfl (by (repeat' (first | exact trivial | refine ⟨⟨_, rfl, by first | rfl | (simp [renO, *]; done) | fail⟩, ?_⟩)); first | done | fail) (by first | rfl | (simp [closO, *]; done) | fail) rfl rfl rfl rfl (by first | rfl | (simp [closO, *]; done) | fail) rfl | exact ls_callA [0, 1] 50 hS1 rfl rfl (by (repeat' (first | exact NilL.nil | refine NilL.cons Nil.same ?_ | refine NilL.cons Nil.nil ?_ | refine NilL.cons (Nil.agg ?_) ?_ | exact Nil1s.nil | refine Nil1s.cons Nil1.same ?_ | refine Nil1s.cons Nil1.nil ?_)); first | done | fail) rfl (by (repeat' (first | exact trivial | refine ⟨⟨_, rfl, by first | rfl | (simp [renO, *]; done) | fail⟩, ?_⟩)); first | done | fail) (by first | rfl | (simp [closO, *]; done) | fail) rfl rfl rfl rfl (by first | rfl | (simp [closO, *]; done) | fail) rfl | exact lsq) | refine a_seq ?_ | refine a_region ?_ | refine o_nil ?_ | refine a_block ?_ | refine a_ret ?_ | refine a_exit ?_ | refine a_skip ?_ | refine a_draw mixed ?_ | refine d_nil (by kernel_rfl) ?_ | refine o_yes rfl rfl rfl ?_ | refine o_no rfl rfl rfl (by decide) ?_ | refine o_no' rfl rfl rfl ?_ | refine a_condT rfl ?_ | refine a_condF rfl ?_ | refine d_no rfl rfl rfl (by decide) ?_ | refine d_no' rfl rfl rfl ?_ | (refine wq2 (fun hb => ?_) (fun hb => ?_) <;> (simp only [hb]; try simp only [hbs, ne_eq] at hb; try (exfalso; first | omega | exact hb trivial))) | fail)
          refine ⟨⟨(q + 1, true, l1 ++ [32] ++ v.data.toList), by dsimp only; omega, by dsimp only; rw [hsn, hj, he]; simp⟩, by dsimp only; omega, ?_⟩
          refine ⟨by repeat' (first | exact trivial | exact FinA.one (FinB.cell (FinC.same rfl)) | exact FinA.one (FinB.cell FinC.nil) | exact FinA.bound rfl | exact FinA.one (FinB.cell (FinC.own rfl rfl rfl rfl)) | exact FinA.one (FinB.cell (FinC.v (by first | rfl | (simp [bP])))) | exact FinA.one (FinB.cell (FinC.ow rfl (by first | rfl | (simp [bP])))) | exact FinA.one (FinB.agg' rfl rfl) | refine ⟨⟨_, rfl, ?_⟩, ?_⟩), by repeat' (first | exact trivial | refine ⟨⟨_, rfl, by first | rfl | (simp [bP]; done) | (simp [renO, *]; done)⟩, by first | rfl | assumption, ?_⟩), rfl⟩
    · obtain rfl : q = ws.length := by omega
      rw [List.take_length] at he
      have hB1 := hB p1 l1 10 (by omega)
      have e2 : l ++ lineW ws = l1 ++ [10] := by rw [he]; simp [lineW]
      rw [e2]
      cases p1
      all_goals
        unfold bP at *
        repeat' (first | ((first | apply o_do | apply d_do | apply d_yes rfl rfl rfl); first | exact ls_nilCheck rfl rfl | exact ls_callA [0, 1] 50 hB1 rfl rfl (by (repeat' (first | exact NilL.nil | refine NilL.cons Nil.same ?_ | refine NilL.cons Nil.nil ?_ | refine NilL.cons (Nil.agg ?_) ?_ | exact Nil1s.nil | refine Nil1s.cons Nil1.same ?_ | refine Nil1s.cons Nil1.nil ?_)); first | done | fail) rfl (by repeat' (first | exact trivial | refine ⟨⟨_, rfl, by first | rfl | (simp [renO, *]; done)⟩, ?_⟩)) (by first | rfl | simp [closO, *]) rfl rfl rfl rfl (by first | rfl | simp [closO, *]) rfl | exact lsq) | refine a_seq ?_ | refine a_region ?_ | refine o_nil ?_ | refine a_block ?_ | refine a_ret ?_ | refine a_exit ?_ | refine a_skip ?_ | refine a_draw mixed ?_ | refine d_nil (by kernel_rfl) ?_ | refine o_yes rfl rfl rfl ?_ | refine o_no rfl rfl rfl (by decide) ?_ | refine o_no' rfl rfl rfl ?_ | refine a_condT rfl ?_ | refine a_condF rfl ?_ | refine d_no rfl rfl rfl (by decide) ?_ | refine d_no' rfl rfl rfl ?_ | (refine wq2 (fun hb => ?_) (fun hb => ?_) <;> (simp only [hb]; try simp only [hbs, ne_eq] at hb; try (exfalso; first | omega | exact hb trivial))) | fail)
        all_goals refine rq rfl ?_
        all_goals exact fnq
  · unfold bP
    refine (ac_body tab_ok Tryz.func29 rfl (by kernel_rfl) rfl ?_); intro w0 M μ0; simp only [Tryz.ntmps29, List.length_cons, List.length_nil, Nat.reduceAdd, Nat.reduceSub, numb]
    repeat' (first | ((first | apply o_do | apply d_do | apply d_yes rfl rfl rfl); first | exact ls_nilCheck rfl rfl | exact lsq) | refine a_seq ?_ | refine a_region ?_ | refine o_nil ?_ | refine a_block ?_ | refine a_ret ?_ | refine a_exit ?_ | refine a_skip ?_ | refine a_draw mixed ?_ | refine d_nil (by kernel_rfl) ?_ | refine o_yes rfl rfl rfl ?_ | refine o_no rfl rfl rfl (by decide) ?_ | refine o_no' rfl rfl rfl ?_ | refine a_condT rfl ?_ | refine a_condF rfl ?_ | refine d_no rfl rfl rfl (by decide) ?_ | refine d_no' rfl rfl rfl ?_ | (refine wq2 (fun hb => ?_) (fun hb => ?_) <;> (simp only [hb]; try simp only [hbs, ne_eq] at hb; try (exfalso; first | omega | exact hb trivial))) | fail)
    refine a_loop (X := {x : Nat × Bool × List UInt8 // x.1 ≤ ws.length ∧ x.2.2 = l ++ joinW (ws.take x.1)}) (fun x => ⟨[(0, .ref 0 0), (6, .sl 1 (ws.map stAv)), (7, .v (.int .i64 (ws.map stAv).length)), (8, .v (.int .i64 x.1.1))], [(0, .box 68 [bP x.1.2.1, .own 1 (x.1.2.2.map byAv).length]), (1, .row 5 1 (x.1.2.2.map byAv))]⟩) (fun x => ws.length - x.1.1) ⟨(0, true, l), Nat.zero_le _, by simp [joinW]⟩ ?_ ?_
    · refine ⟨by repeat' (first | exact trivial | exact FinA.one (FinB.cell (FinC.same rfl)) | exact FinA.one (FinB.cell FinC.nil) | exact FinA.bound rfl | exact FinA.one (FinB.cell (FinC.own rfl rfl rfl rfl)) | exact FinA.one (FinB.cell (FinC.v (by first | rfl | (simp [bP])))) | exact FinA.one (FinB.cell (FinC.ow rfl (by first | rfl | (simp [bP])))) | exact FinA.one (FinB.agg' rfl rfl) | refine ⟨⟨_, rfl, ?_⟩, ?_⟩), by repeat' (first | exact trivial | refine ⟨⟨_, rfl, by first | rfl | (simp [bP]; done) | (simp [renO, *]; done)⟩, by first | rfl | assumption, ?_⟩), rfl⟩
    rintro ⟨⟨q, p1, l1⟩, hq, he⟩
    dsimp only at hq he ⊢
    have hpre := joinW_pre ws q
    have hl1 : l1.length = l.length + (joinW (ws.take q)).length := by rw [he, List.length_append]
    by_cases hlt : q < ws.length
    · have hel : (ws.map stAv)[q]? = some [.v (.string ws[q])] := by simp [hlt, stAv]
      have hsn := take_snoc ws q hlt
      have hqx : q < (ws.map stAv).length := by omega
      have hpre2 := joinW_pre ws (q + 1)
      rw [hsn] at hpre2
      rcases Nat.eq_zero_or_pos q with rfl | h0
      · have hj : joinW (ws.take (0 + 1)) = ws[0].data.toList := by rw [hsn]; simp [joinW, spW]
        rw [hsn] at hj
        rw [hj] at hpre2
        rw [Array.length_toList] at hpre2
        generalize ws[0] = v at *
        have hS1 := hS p1 l1 v (by have : v.size = v.data.size := rfl; simp [joinW] at hl1; omega)
        cases p1
        all_goals
          unfold bP at *
          repeat' (first | ((first | apply o_do | apply d_do | apply d_yes rfl rfl rfl); first | exact ls_nilCheck rfl rfl | exact ls_indexAddr_sl tab_ok rfl rfl rfl rfl hel rfl | exact ls_callA [0, 1] 50 hS1 rfl rfl (by (repeat' (first | exact NilL.nil | refine NilL.cons Nil.same ?_ | refine NilL.cons Nil.nil ?_ | refine NilL.cons (Nil.agg ?_) ?_ | exact Nil1s.nil | refine Nil1s.cons Nil1.same ?_ | refine Nil1s.cons Nil1.nil ?_)); first | done | fail) rfl (by repeat' (first | exact trivial | refine ⟨⟨_, rfl, by first | rfl | (simp [renO, *]; done)⟩, ?_⟩)) (by first | rfl | simp [closO, *]) rfl rfl rfl rfl (by first | rfl | simp [closO, *]) rfl | exact lsq) | refine a_seq ?_ | refine a_region ?_ | refine o_nil ?_ | refine a_block ?_ | refine a_ret ?_ | refine a_exit ?_ | refine a_skip ?_ | refine a_draw mixed ?_ | refine d_nil (by kernel_rfl) ?_ | refine o_yes rfl rfl rfl ?_ | refine o_no rfl rfl rfl (by decide) ?_ | refine o_no' rfl rfl rfl ?_ | refine a_condT rfl ?_ | refine a_condF rfl ?_ | refine d_no rfl rfl rfl (by decide) ?_ | refine d_no' rfl rfl rfl ?_ | (refine wq2 (fun hb => ?_) (fun hb => ?_) <;> (simp only [hb]; try simp only [hbs, ne_eq] at hb; try (exfalso; first | omega | exact hb trivial))) | fail)
          refine ⟨⟨(1, true, l1 ++ v.data.toList), by dsimp only; omega, by dsimp only; rw [hsn, hj, he]; simp [joinW]⟩, by dsimp only; omega, ?_⟩
          refine ⟨by repeat' (first | exact trivial | exact FinA.one (FinB.cell (FinC.same rfl)) | exact FinA.one (FinB.cell FinC.nil) | exact FinA.bound rfl | exact FinA.one (FinB.cell (FinC.own rfl rfl rfl rfl)) | exact FinA.one (FinB.cell (FinC.v (by first | rfl | (simp [bP])))) | exact FinA.one (FinB.cell (FinC.ow rfl (by first | rfl | (simp [bP])))) | exact FinA.one (FinB.agg' rfl rfl) | refine ⟨⟨_, rfl, ?_⟩, ?_⟩), by repeat' (first | exact trivial | refine ⟨⟨_, rfl, by first | rfl | (simp [bP]; done) | (simp [renO, *]; done)⟩, by first | rfl | assumption, ?_⟩), rfl⟩
      · have hj : joinW (ws.take (q + 1)) = joinW (ws.take q) ++ [32] ++ ws[q].data.toList := by
          rw [hsn, joinW_snoc]
          intro h
          have := congrArg List.length h
          rw [List.length_take, List.length_nil] at this
          omega
        rw [hsn] at hj
        rw [hj] at hpre2
        simp only [List.length_append, Array.length_toList, List.length_cons, List.length_nil] at hpre2
        generalize ws[q] = v at *
        have hB1 := hB p1 l1 32 (by omega)
        have hS1 := hS true (l1 ++ [32]) v (by have : v.size = v.data.size := rfl; simp; omega)
        cases p1
        all_goals
          unfold bP at *
          repeat' (first | ((first | apply o_do | apply d_do | apply d_yes rfl rfl rfl); first | exact ls_nilCheck rfl rfl | exact ls_indexAddr_sl tab_ok rfl rfl rfl rfl hel rfl | exact ls_callA [0, 1] 50 hB1 rfl rfl (by (repeat' (first | exact NilL.nil | refine NilL.cons Nil.same ?_ | refine NilL.cons Nil.nil ?_ | refine NilL.cons (Nil.agg ?_) ?_ | exact Nil1s.nil | refine Nil1s.cons Nil1.same ?_ | refine Nil1s.cons Nil1.nil ?_)); first | done | fail) rfl (by (repeat' (first | exact trivial | refine ⟨⟨_, rfl, by first | rfl | (simp [renO, *]; done) | fail⟩, ?_⟩)); first | done | fail) (by first | rfl | (simp [closO, *]; done) | fail) rfl rfl rfl rfl (by first | rfl | (simp [closO, *]; done) | fail) rfl | exact ls_callA [0, 1] 50 hS1 rfl rfl (by (repeat' (first | exact NilL.nil | refine NilL.cons Nil.same ?_ | refine NilL.cons Nil.nil ?_ | refine NilL.cons (Nil.agg ?_) ?_ | exact Nil1s.nil | refine Nil1s.cons Nil1.same ?_ | refine Nil1s.cons Nil1.nil ?_)); first | done | fail) rfl (by (repeat' (first | exact trivial | refine ⟨⟨_, rfl, by first | rfl | (simp [renO, *]; done) | fail⟩, ?_⟩)); first | done | fail) (by first | rfl | (simp [closO, *]; done) | fail) rfl rfl rfl rfl (by first | rfl | (simp [closO, *]; done) | fail) rfl | exact lsq) | refine a_seq ?_ | refine a_region ?_ | refine o_nil ?_ | refine a_block ?_ | refine a_ret ?_ | refine a_exit ?_ | refine a_skip ?_ | refine a_draw mixed ?_ | refine d_nil (by kernel_rfl) ?_ | refine o_yes rfl rfl rfl ?_ | refine o_no rfl rfl rfl (by decide) ?_ | refine o_no' rfl rfl rfl ?_ | refine a_condT rfl ?_ | refine a_condF rfl ?_ | refine d_no rfl rfl rfl (by decide) ?_ | refine d_no' rfl rfl rfl ?_ | (refine wq2 (fun hb => ?_) (fun hb => ?_) <;> (simp only [hb]; try simp only [hbs, ne_eq] at hb; try (exfalso; first | omega | exact hb trivial))) | fail)
          refine ⟨⟨(q + 1, true, l1 ++ [32] ++ v.data.toList), by dsimp only; omega, by dsimp only; rw [hsn, hj, he]; simp⟩, by dsimp only; omega, ?_⟩
          refine ⟨by repeat' (first | exact trivial | exact FinA.one (FinB.cell (FinC.same rfl)) | exact FinA.one (FinB.cell FinC.nil) | exact FinA.bound rfl | exact FinA.one (FinB.cell (FinC.own rfl rfl rfl rfl)) | exact FinA.one (FinB.cell (FinC.v (by first | rfl | (simp [bP])))) | exact FinA.one (FinB.cell (FinC.ow rfl (by first | rfl | (simp [bP])))) | exact FinA.one (FinB.agg' rfl rfl) | refine ⟨⟨_, rfl, ?_⟩, ?_⟩), by repeat' (first | exact trivial | refine ⟨⟨_, rfl, by first | rfl | (simp [bP]; done) | (simp [renO, *]; done)⟩, by first | rfl | assumption, ?_⟩), rfl⟩
    · obtain rfl : q = ws.length := by omega
      rw [List.take_length] at he
      have hB1 := hB p1 l1 10 (by omega)
      have e2 : l ++ lineW ws = l1 ++ [10] := by rw [he]; simp [lineW]
      rw [e2]
      cases p1
      all_goals
        unfold bP at *
        repeat' (first | ((first | apply o_do | apply d_do | apply d_yes rfl rfl rfl); first | exact ls_nilCheck rfl rfl | exact ls_callA [0, 1] 50 hB1 rfl rfl (by (repeat' (first | exact NilL.nil | refine NilL.cons Nil.same ?_ | refine NilL.cons Nil.nil ?_ | refine NilL.cons (Nil.agg ?_) ?_ | exact Nil1s.nil | refine Nil1s.cons Nil1.same ?_ | refine Nil1s.cons Nil1.nil ?_)); first | done | fail) rfl (by repeat' (first | exact trivial | refine ⟨⟨_, rfl, by first | rfl | (simp [renO, *]; done)⟩, ?_⟩)) (by first | rfl | simp [closO, *]) rfl rfl rfl rfl (by first | rfl | simp [closO, *]) rfl | exact lsq) | refine a_seq ?_ | refine a_region ?_ | refine o_nil ?_ | refine a_block ?_ | refine a_ret ?_ | refine a_exit ?_ | refine a_skip ?_ | refine a_draw mixed ?_ | refine d_nil (by kernel_rfl) ?_ | refine o_yes rfl rfl rfl ?_ | refine o_no rfl rfl rfl (by decide) ?_ | refine o_no' rfl rfl rfl ?_ | refine a_condT rfl ?_ | refine a_condF rfl ?_ | refine d_no rfl rfl rfl (by decide) ?_ | refine d_no' rfl rfl rfl ?_ | (refine wq2 (fun hb => ?_) (fun hb => ?_) <;> (simp only [hb]; try simp only [hbs, ne_eq] at hb; try (exfalso; first | omega | exact hb trivial))) | fail)
        all_goals refine rq rfl ?_
        all_goals exact fnq
end Go.Proofs.YtbhblhcgfenobaaGreatDoor
namespace Go.Proofs.YtbhblhcgfenobaaGreatDoor
open Go.RowKit
set_option linter.unusedSimpArgs false
set_option linter.unusedVariables false
theorem wdB_size (k : Nat) : (wdB k).data.size ≤ 8 := by
  rcases Nat.lt_or_ge k 10 with h | h
  · obtain rfl | rfl | rfl | rfl | rfl | rfl | rfl | rfl | rfl | rfl : k = 0 ∨ k = 1 ∨ k = 2 ∨ k = 3 ∨ k = 4 ∨ k = 5 ∨ k = 6 ∨ k = 7 ∨ k = 8 ∨ k = 9 := by omega
    all_goals decide
  · obtain ⟨m, rfl⟩ : ∃ m, k = m + 10 := ⟨k - 10, by omega⟩
    exact Nat.zero_le _
/-- an act's words -/
def acW (a : Ac) : List ByteArray := if wdN a.what.toNat = 1 then [wdB a.what.toNat, itoB a.which] else if wdN a.what.toNat = 2 then [wdB a.what.toNat, itoB a.who] else [wdB a.what.toNat]
theorem join1 (a : ByteArray) : joinW [a] = a.data.toList := by simp [joinW, spW]
theorem join2 (a b : ByteArray) : joinW [a, b] = a.data.toList ++ 32 :: b.data.toList := by simp [joinW, spW]
theorem smB_i64 {n : Int} (h : smB n = true) : i64 n := by
  simp only [smB, Bool.and_eq_true, decide_eq_true_eq] at h
  exact ⟨by omega, by omega⟩
set_option maxHeartbeats 4000000 in
theorem p_pact (a : Ac) (hok : acOK a = true) (p : Bool) (l : List UInt8) (hl : l.length ≤ 700000000) : ACT Tryz.prog TabT 32 [.ref 0 0, .agg (Ac.av a)] (SB 68 p l) (.tup []) (SB 68 true (l ++ lineW (acW a))) := by
  obtain ⟨what, who, which⟩ := a
  rcases what_in (what := what) with ⟨k, hk, rfl⟩ | h
  · have hw := p_wordY k hk
    have hws := wdB_size k
    unfold acOK at hok
    dsimp only at hok
    rw [if_pos ⟨by omega, by omega⟩, Int.toNat_natCast] at hok
    unfold acW Ac.av
    dsimp only
    rw [Int.toNat_natCast]
    generalize wdB k = w at *
    rcases wdN_in k with h0 | h0 | h0
    · rw [h0] at hw hok ⊢
      rw [if_neg (by decide), if_neg (by decide)]
      have hL := p_line [w] p l (by rw [join1, show w.data.toList.length = w.data.size from Array.length_toList]; omega) (by simp)
      unfold SB at *
      cases p
      all_goals
        unfold bP at *
        refine (act_body tab_ok Tryz.func32 rfl (by kernel_rfl) rfl ?_); intro w0 M μ0 hG; simp only [Tryz.ntmps32, List.length_cons, List.length_nil, Nat.reduceAdd, Nat.reduceSub, numb] at hG ⊢
        repeat' (first | ((first | apply o_do | apply d_do | apply d_yes rfl rfl rfl); first | exact lsc (hw) | exact ls_callA [0, 1] 50 hL rfl rfl (by (repeat' (first | exact NilL.nil | refine NilL.cons Nil.same ?_ | refine NilL.cons Nil.nil ?_ | refine NilL.cons (Nil.agg ?_) ?_ | exact Nil1s.nil | refine Nil1s.cons Nil1.same ?_ | refine Nil1s.cons Nil1.nil ?_)); first | done | fail) rfl (by repeat' (first | exact trivial | refine ⟨⟨_, rfl, by first | rfl | (simp [renO, *]; done)⟩, ?_⟩)) (by first | rfl | simp [closO, *]) rfl rfl rfl rfl (by first | rfl | simp [closO, *]) rfl | exact lsq) | refine a_seq ?_ | refine a_region ?_ | refine o_nil ?_ | refine a_block ?_ | refine a_ret ?_ | refine a_exit ?_ | refine a_skip ?_ | refine a_draw mixed ?_ | refine d_nil (by kernel_rfl) ?_ | refine o_yes rfl rfl rfl ?_ | refine o_no rfl rfl rfl (by decide) ?_ | refine o_no' rfl rfl rfl ?_ | refine a_condT rfl ?_ | refine a_condF rfl ?_ | refine d_no rfl rfl rfl (by decide) ?_ | refine d_no' rfl rfl rfl ?_ | (refine wq2 (fun hb => ?_) (fun hb => ?_) <;> (simp only [hb]; try simp only [hbs, ne_eq] at hb; try (exfalso; first | omega | exact hb trivial))) | fail)
        all_goals refine rq rfl ?_
        all_goals exact fnq
    · rw [h0] at hw hok ⊢
      rw [if_pos rfl] at hok ⊢
      simp only [Bool.and_eq_true] at hok
      have hI := smB_i64 hok.1
      have hF := p_Itoa hI
      have hs := itoB_size which hI.1 hI.2
      generalize itoB which = z at *
      have hL := p_line [w, z] p l (by rw [join2]; simp only [List.length_append, List.length_cons, Array.length_toList]; omega) (by simp)
      unfold SB at *
      cases p
      all_goals
        unfold bP at *
        refine (act_body tab_ok Tryz.func32 rfl (by kernel_rfl) rfl ?_); intro w0 M μ0 hG; simp only [Tryz.ntmps32, List.length_cons, List.length_nil, Nat.reduceAdd, Nat.reduceSub, numb] at hG ⊢
        repeat' (first | ((first | apply o_do | apply d_do | apply d_yes rfl rfl rfl); first | exact lsc (hw) | focus (apply ls_callT hG hF rfl rfl _ rfl rfl; (repeat' (first | exact NilL.nil | refine NilL.cons Nil.same ?_ | refine NilL.cons Nil.nil ?_ | refine NilL.cons (Nil.agg ?_) ?_ | exact Nil1s.nil | refine Nil1s.cons Nil1.same ?_ | refine Nil1s.cons Nil1.nil ?_)); done) | exact ls_callA [0, 1] 50 hL rfl rfl (by (repeat' (first | exact NilL.nil | refine NilL.cons Nil.same ?_ | refine NilL.cons Nil.nil ?_ | refine NilL.cons (Nil.agg ?_) ?_ | exact Nil1s.nil | refine Nil1s.cons Nil1.same ?_ | refine Nil1s.cons Nil1.nil ?_)); first | done | fail) rfl (by repeat' (first | exact trivial | refine ⟨⟨_, rfl, by first | rfl | (simp [renO, *]; done)⟩, ?_⟩)) (by first | rfl | simp [closO, *]) rfl rfl rfl rfl (by first | rfl | simp [closO, *]) rfl | exact lsq) | refine a_seq ?_ | refine a_region ?_ | refine o_nil ?_ | refine a_block ?_ | refine a_ret ?_ | refine a_exit ?_ | refine a_skip ?_ | refine a_draw mixed ?_ | refine d_nil (by kernel_rfl) ?_ | refine o_yes rfl rfl rfl ?_ | refine o_no rfl rfl rfl (by decide) ?_ | refine o_no' rfl rfl rfl ?_ | refine a_condT rfl ?_ | refine a_condF rfl ?_ | refine d_no rfl rfl rfl (by decide) ?_ | refine d_no' rfl rfl rfl ?_ | (refine wq2 (fun hb => ?_) (fun hb => ?_) <;> (simp only [hb]; try simp only [hbs, ne_eq] at hb; try (exfalso; first | omega | exact hb trivial))) | fail)
        all_goals refine rq rfl ?_
        all_goals exact fnq
    · rw [h0] at hw hok ⊢
      rw [if_neg (by decide), if_pos rfl] at hok ⊢
      simp only [Bool.and_eq_true] at hok
      have hI := smB_i64 hok.1
      have hF := p_Itoa hI
      have hs := itoB_size who hI.1 hI.2
      generalize itoB who = z at *
      have hL := p_line [w, z] p l (by rw [join2]; simp only [List.length_append, List.length_cons, Array.length_toList]; omega) (by simp)
      unfold SB at *
      cases p
      all_goals
        unfold bP at *
        refine (act_body tab_ok Tryz.func32 rfl (by kernel_rfl) rfl ?_); intro w0 M μ0 hG; simp only [Tryz.ntmps32, List.length_cons, List.length_nil, Nat.reduceAdd, Nat.reduceSub, numb] at hG ⊢
        repeat' (first | ((first | apply o_do | apply d_do | apply d_yes rfl rfl rfl); first | exact lsc (hw) | focus (apply ls_callT hG hF rfl rfl _ rfl rfl; (repeat' (first | exact NilL.nil | refine NilL.cons Nil.same ?_ | refine NilL.cons Nil.nil ?_ | refine NilL.cons (Nil.agg ?_) ?_ | exact Nil1s.nil | refine Nil1s.cons Nil1.same ?_ | refine Nil1s.cons Nil1.nil ?_)); done) | exact ls_callA [0, 1] 50 hL rfl rfl (by (repeat' (first | exact NilL.nil | refine NilL.cons Nil.same ?_ | refine NilL.cons Nil.nil ?_ | refine NilL.cons (Nil.agg ?_) ?_ | exact Nil1s.nil | refine Nil1s.cons Nil1.same ?_ | refine Nil1s.cons Nil1.nil ?_)); first | done | fail) rfl (by repeat' (first | exact trivial | refine ⟨⟨_, rfl, by first | rfl | (simp [renO, *]; done)⟩, ?_⟩)) (by first | rfl | simp [closO, *]) rfl rfl rfl rfl (by first | rfl | simp [closO, *]) rfl | exact lsq) | refine a_seq ?_ | refine a_region ?_ | refine o_nil ?_ | refine a_block ?_ | refine a_ret ?_ | refine a_exit ?_ | refine a_skip ?_ | refine a_draw mixed ?_ | refine d_nil (by kernel_rfl) ?_ | refine o_yes rfl rfl rfl ?_ | refine o_no rfl rfl rfl (by decide) ?_ | refine o_no' rfl rfl rfl ?_ | refine a_condT rfl ?_ | refine a_condF rfl ?_ | refine d_no rfl rfl rfl (by decide) ?_ | refine d_no' rfl rfl rfl ?_ | (refine wq2 (fun hb => ?_) (fun hb => ?_) <;> (simp only [hb]; try simp only [hbs, ne_eq] at hb; try (exfalso; first | omega | exact hb trivial))) | fail)
        all_goals refine rq rfl ?_
        all_goals exact fnq
  · unfold acOK at hok
    rw [if_neg (by dsimp only; omega)] at hok
    cases hok
end Go.Proofs.YtbhblhcgfenobaaGreatDoor
