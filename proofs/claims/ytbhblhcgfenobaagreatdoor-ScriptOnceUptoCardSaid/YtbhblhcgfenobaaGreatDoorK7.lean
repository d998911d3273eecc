/-
  Jobs, walked over abstract values: a line read.
-/
import Derived.Test.YtbhblhcgfenobaaGreatDoorK4
import Derived.Test.YtbhblhcgfenobaaGreatDoorK6
namespace Go.Proofs.YtbhblhcgfenobaaGreatDoor
open Go.RowKit
set_option linter.unusedSimpArgs false
set_option linter.unusedVariables false
structure J8 where
  g : Int
  s : Int
  d : Int
  k : Int
  fu : Int
  li : Int
  de : Int
  id : Int
def J8.av (j : J8) : List AV := [.v (.int .i64 j.g), .v (.int .i64 j.s), .v (.int .i64 j.d), .v (.int .i64 j.k), .v (.int .i64 j.fu), .v (.int .i64 j.li), .v (.int .i64 j.de), .v (.int .i64 j.id)]
abbrev RJ (j : J8) : Store := [(0, .box 89 j.av)]
def sp1 : ByteArray := ⟨#[32]⟩
def Sm (s : ByteArray) : Prop := s.size ≤ 4294967280
theorem Sm.n {s : ByteArray} (h : Sm s) : s.size ≤ 281474976710656 := by unfold Sm at h; omega
theorem nmIx_le (x : ByteArray) : -1 ≤ nmIx x ∧ nmIx x ≤ 5 := by
  unfold nmIx
  cases h : (List.range 5).find? fun q => x.toList == (nmQ q).toList with
  | none => dsimp only; omega
  | some q =>
    have h2 := List.mem_range.1 (List.mem_of_find?_eq_some h)
    dsimp only; omega

set_option maxHeartbeats 2000000 in
theorem r_groups (j : J8) (a : ByteArray) (ha : Sm a) : ACT Tryz.prog TabP 74 [.ref 0 0, .sl 1 ([a].map stAv)] (RJ j) (.v (.bool (numB a))) (RJ { j with g := smallV (numV a) }) := by
  unfold RJ J8.av
  have h1 := p_number a ha.n
  have h3 := p_small
  refine (act_body tab_ok Tryz.func74 rfl (by kernel_rfl) rfl ?_); intro w0 M μ0 hG; simp only [Tryz.ntmps74, List.length_cons, List.length_nil, Nat.reduceAdd, Nat.reduceSub, numb] at hG ⊢
  repeat' (first | ((first | apply o_do | apply d_do | apply d_yes rfl rfl rfl); first | focus (apply ls_callT hG h1 rfl rfl _ rfl rfl; (repeat' (first | exact NilL.nil | refine NilL.cons Nil.same ?_ | refine NilL.cons Nil.nil ?_ | refine NilL.cons (Nil.agg ?_) ?_ | exact Nil1s.nil | refine Nil1s.cons Nil1.same ?_ | refine Nil1s.cons Nil1.nil ?_)); done) | exact lsc ((h3 _)) | exact ls_nilCheck rfl rfl | exact ls_indexAddr_sl (q := 0) (cs := stAv a) tab_ok rfl rfl rfl rfl rfl rfl | exact lsq) | refine a_seq ?_ | refine a_region ?_ | refine o_nil ?_ | refine a_block ?_ | refine a_ret ?_ | refine a_exit ?_ | refine a_skip ?_ | refine a_draw mixed ?_ | refine d_nil (by kernel_rfl) ?_ | refine o_yes rfl rfl rfl ?_ | refine o_no rfl rfl rfl (by decide) ?_ | refine o_no' rfl rfl rfl ?_ | refine a_condT rfl ?_ | refine a_condF rfl ?_ | refine d_no rfl rfl rfl (by decide) ?_ | refine d_no' rfl rfl rfl ?_ | (refine wq2 (fun hb => ?_) (fun hb => ?_) <;> (simp only [hb]; try simp only [hbs, ne_eq] at hb; try (exfalso; first | omega | exact hb trivial))) | fail)
  all_goals refine rq rfl ?_
  all_goals exact fnq
set_option maxHeartbeats 2000000 in
theorem r_window (j : J8) (a b : ByteArray) (ha : Sm a) (hb : Sm b) : ACT Tryz.prog TabP 75 [.ref 0 0, .sl 1 ([a, b].map stAv)] (RJ j) (.v (.bool (numB a && numB b))) (RJ { j with s := numV a, d := numV b }) := by
  unfold RJ J8.av
  have h1 := p_number a ha.n
  have h2 := p_number b hb.n
  have h3 := p_small
  cases hq1 : numB a
  all_goals
    rw [hq1] at h1
    refine (act_body tab_ok Tryz.func75 rfl (by kernel_rfl) rfl ?_); intro w0 M μ0 hG; simp only [Tryz.ntmps75, List.length_cons, List.length_nil, Nat.reduceAdd, Nat.reduceSub, numb] at hG ⊢
    repeat' (first | ((first | apply o_do | apply d_do | apply d_yes rfl rfl rfl); first | focus (apply ls_callT hG h1 rfl rfl _ rfl rfl; (repeat' (first | exact NilL.nil | refine NilL.cons Nil.same ?_ | refine NilL.cons Nil.nil ?_ | refine NilL.cons (Nil.agg ?_) ?_ | exact Nil1s.nil | refine Nil1s.cons Nil1.same ?_ | refine Nil1s.cons Nil1.nil ?_)); done) | focus (apply ls_callT hG h2 rfl rfl _ rfl rfl; (repeat' (first | exact NilL.nil | refine NilL.cons Nil.same ?_ | refine NilL.cons Nil.nil ?_ | refine NilL.cons (Nil.agg ?_) ?_ | exact Nil1s.nil | refine Nil1s.cons Nil1.same ?_ | refine Nil1s.cons Nil1.nil ?_)); done) | exact lsc ((h3 _)) | exact ls_nilCheck rfl rfl | exact ls_indexAddr_sl (q := 0) (cs := stAv a) tab_ok rfl rfl rfl rfl rfl rfl | exact ls_indexAddr_sl (q := 1) (cs := stAv b) tab_ok rfl rfl rfl rfl rfl rfl | exact lsq) | refine a_seq ?_ | refine a_region ?_ | refine o_nil ?_ | refine a_block ?_ | refine a_ret ?_ | refine a_exit ?_ | refine a_skip ?_ | refine a_draw mixed ?_ | refine d_nil (by kernel_rfl) ?_ | refine o_yes rfl rfl rfl ?_ | refine o_no rfl rfl rfl (by decide) ?_ | refine o_no' rfl rfl rfl ?_ | refine a_condT rfl ?_ | refine a_condF rfl ?_ | refine d_no rfl rfl rfl (by decide) ?_ | refine d_no' rfl rfl rfl ?_ | (refine wq2 (fun hb => ?_) (fun hb => ?_) <;> (simp only [hb]; try simp only [hbs, ne_eq] at hb; try (exfalso; first | omega | exact hb trivial))) | fail)
    all_goals refine rq rfl ?_
    all_goals (first | refine FinA.tup ?_ | refine FinA.one ?_); repeat' (first | exact FinBs.nil | exact FinCs.nil | refine FinBs.cons ?_ ?_ | refine FinCs.cons ?_ ?_ | refine FinB.cell (FinC.v ?_) | refine FinB.cell (FinC.own rfl rfl rfl ?_) | exact FinB.cell FinC.nil | refine FinB.cell (FinC.sl ?_) | exact FinB.agg' rfl rfl | exact FinB.cell (FinC.same rfl) | refine FinB.agg ?_ | refine FinC.v ?_ | refine FinC.own rfl rfl rfl ?_ | exact FinC.nil | refine FinC.sl ?_ | exact FinC.same rfl); all_goals try rfl
    all_goals simp
set_option maxHeartbeats 2000000 in
theorem r_fold (j : J8) (a : ByteArray) (ha : Sm a) : ACT Tryz.prog TabP 76 [.ref 0 0, .sl 1 ([a].map stAv)] (RJ j) (.v (.bool (decide (nmIx a + 1 > 0)))) (RJ { j with k := nmIx a + 1 }) := by
  unfold RJ J8.av
  have h1 := p_nmIx a
  have h2 := p_names
  have h3 := nmIx_le a
  generalize nmIx a = q at *
  refine (act_body tab_ok Tryz.func76 rfl (by kernel_rfl) rfl ?_); intro w0 M μ0 hG; simp only [Tryz.ntmps76, List.length_cons, List.length_nil, Nat.reduceAdd, Nat.reduceSub, numb] at hG ⊢
  repeat' (first | ((first | apply o_do | apply d_do | apply d_yes rfl rfl rfl); first | exact lsc (h1) | exact lsc (h2) | exact ls_nilCheck rfl rfl | exact ls_indexAddr_sl (q := 0) (cs := stAv a) tab_ok rfl rfl rfl rfl rfl rfl | exact lsq) | refine a_seq ?_ | refine a_region ?_ | refine o_nil ?_ | refine a_block ?_ | refine a_ret ?_ | refine a_exit ?_ | refine a_skip ?_ | refine a_draw mixed ?_ | refine d_nil (by kernel_rfl) ?_ | refine o_yes rfl rfl rfl ?_ | refine o_no rfl rfl rfl (by decide) ?_ | refine o_no' rfl rfl rfl ?_ | refine a_condT rfl ?_ | refine a_condF rfl ?_ | refine d_no rfl rfl rfl (by decide) ?_ | refine d_no' rfl rfl rfl ?_ | (refine wq2 (fun hb => ?_) (fun hb => ?_) <;> (simp only [hb]; try simp only [hbs, ne_eq] at hb; try (exfalso; first | omega | exact hb trivial))) | fail)
  all_goals refine rq rfl ?_
  all_goals exact fnq
set_option maxHeartbeats 2000000 in
theorem r_loop (j : J8) (a b : ByteArray) (ha : Sm a) (hb : Sm b) : ACT Tryz.prog TabP 77 [.ref 0 0, .sl 1 ([a, b].map stAv)] (RJ j) (.v (.bool (numB a && numB b))) (RJ { j with li := numV a, fu := smallV (numV b) }) := by
  unfold RJ J8.av
  have h1 := p_number a ha.n
  have h2 := p_number b hb.n
  have h3 := p_small
  cases hq1 : numB a
  all_goals
    rw [hq1] at h1
    refine (act_body tab_ok Tryz.func77 rfl (by kernel_rfl) rfl ?_); intro w0 M μ0 hG; simp only [Tryz.ntmps77, List.length_cons, List.length_nil, Nat.reduceAdd, Nat.reduceSub, numb] at hG ⊢
    repeat' (first | ((first | apply o_do | apply d_do | apply d_yes rfl rfl rfl); first | focus (apply ls_callT hG h1 rfl rfl _ rfl rfl; (repeat' (first | exact NilL.nil | refine NilL.cons Nil.same ?_ | refine NilL.cons Nil.nil ?_ | refine NilL.cons (Nil.agg ?_) ?_ | exact Nil1s.nil | refine Nil1s.cons Nil1.same ?_ | refine Nil1s.cons Nil1.nil ?_)); done) | focus (apply ls_callT hG h2 rfl rfl _ rfl rfl; (repeat' (first | exact NilL.nil | refine NilL.cons Nil.same ?_ | refine NilL.cons Nil.nil ?_ | refine NilL.cons (Nil.agg ?_) ?_ | exact Nil1s.nil | refine Nil1s.cons Nil1.same ?_ | refine Nil1s.cons Nil1.nil ?_)); done) | exact lsc ((h3 _)) | exact ls_nilCheck rfl rfl | exact ls_indexAddr_sl (q := 0) (cs := stAv a) tab_ok rfl rfl rfl rfl rfl rfl | exact ls_indexAddr_sl (q := 1) (cs := stAv b) tab_ok rfl rfl rfl rfl rfl rfl | exact lsq) | refine a_seq ?_ | refine a_region ?_ | refine o_nil ?_ | refine a_block ?_ | refine a_ret ?_ | refine a_exit ?_ | refine a_skip ?_ | refine a_draw mixed ?_ | refine d_nil (by kernel_rfl) ?_ | refine o_yes rfl rfl rfl ?_ | refine o_no rfl rfl rfl (by decide) ?_ | refine o_no' rfl rfl rfl ?_ | refine a_condT rfl ?_ | refine a_condF rfl ?_ | refine d_no rfl rfl rfl (by decide) ?_ | refine d_no' rfl rfl rfl ?_ | (refine wq2 (fun hb => ?_) (fun hb => ?_) <;> (simp only [hb]; try simp only [hbs, ne_eq] at hb; try (exfalso; first | omega | exact hb trivial))) | fail)
    all_goals refine rq rfl ?_
    all_goals (first | refine FinA.tup ?_ | refine FinA.one ?_); repeat' (first | exact FinBs.nil | exact FinCs.nil | refine FinBs.cons ?_ ?_ | refine FinCs.cons ?_ ?_ | refine FinB.cell (FinC.v ?_) | refine FinB.cell (FinC.own rfl rfl rfl ?_) | exact FinB.cell FinC.nil | refine FinB.cell (FinC.sl ?_) | exact FinB.agg' rfl rfl | exact FinB.cell (FinC.same rfl) | refine FinB.agg ?_ | refine FinC.v ?_ | refine FinC.own rfl rfl rfl ?_ | exact FinC.nil | refine FinC.sl ?_ | exact FinC.same rfl); all_goals try rfl
    all_goals simp
set_option maxHeartbeats 2000000 in
theorem r_delay (j : J8) (a : ByteArray) (ha : Sm a) : ACT Tryz.prog TabP 78 [.ref 0 0, .sl 1 ([a].map stAv)] (RJ j) (.v (.bool (numB a))) (RJ { j with de := numV a }) := by
  unfold RJ J8.av
  have h1 := p_number a ha.n
  have h3 := p_small
  refine (act_body tab_ok Tryz.func78 rfl (by kernel_rfl) rfl ?_); intro w0 M μ0 hG; simp only [Tryz.ntmps78, List.length_cons, List.length_nil, Nat.reduceAdd, Nat.reduceSub, numb] at hG ⊢
  repeat' (first | ((first | apply o_do | apply d_do | apply d_yes rfl rfl rfl); first | focus (apply ls_callT hG h1 rfl rfl _ rfl rfl; (repeat' (first | exact NilL.nil | refine NilL.cons Nil.same ?_ | refine NilL.cons Nil.nil ?_ | refine NilL.cons (Nil.agg ?_) ?_ | exact Nil1s.nil | refine Nil1s.cons Nil1.same ?_ | refine Nil1s.cons Nil1.nil ?_)); done) | exact lsc ((h3 _)) | exact ls_nilCheck rfl rfl | exact ls_indexAddr_sl (q := 0) (cs := stAv a) tab_ok rfl rfl rfl rfl rfl rfl | exact lsq) | refine a_seq ?_ | refine a_region ?_ | refine o_nil ?_ | refine a_block ?_ | refine a_ret ?_ | refine a_exit ?_ | refine a_skip ?_ | refine a_draw mixed ?_ | refine d_nil (by kernel_rfl) ?_ | refine o_yes rfl rfl rfl ?_ | refine o_no rfl rfl rfl (by decide) ?_ | refine o_no' rfl rfl rfl ?_ | refine a_condT rfl ?_ | refine a_condF rfl ?_ | refine d_no rfl rfl rfl (by decide) ?_ | refine d_no' rfl rfl rfl ?_ | (refine wq2 (fun hb => ?_) (fun hb => ?_) <;> (simp only [hb]; try simp only [hbs, ne_eq] at hb; try (exfalso; first | omega | exact hb trivial))) | fail)
  all_goals refine rq rfl ?_
  all_goals exact fnq
set_option maxHeartbeats 2000000 in
theorem r_idle (j : J8) (a : ByteArray) (ha : Sm a) : ACT Tryz.prog TabP 79 [.ref 0 0, .sl 1 ([a].map stAv)] (RJ j) (.v (.bool (numB a))) (RJ { j with id := smallV (numV a) }) := by
  unfold RJ J8.av
  have h1 := p_number a ha.n
  have h3 := p_small
  refine (act_body tab_ok Tryz.func79 rfl (by kernel_rfl) rfl ?_); intro w0 M μ0 hG; simp only [Tryz.ntmps79, List.length_cons, List.length_nil, Nat.reduceAdd, Nat.reduceSub, numb] at hG ⊢
  repeat' (first | ((first | apply o_do | apply d_do | apply d_yes rfl rfl rfl); first | focus (apply ls_callT hG h1 rfl rfl _ rfl rfl; (repeat' (first | exact NilL.nil | refine NilL.cons Nil.same ?_ | refine NilL.cons Nil.nil ?_ | refine NilL.cons (Nil.agg ?_) ?_ | exact Nil1s.nil | refine Nil1s.cons Nil1.same ?_ | refine Nil1s.cons Nil1.nil ?_)); done) | exact lsc ((h3 _)) | exact ls_nilCheck rfl rfl | exact ls_indexAddr_sl (q := 0) (cs := stAv a) tab_ok rfl rfl rfl rfl rfl rfl | exact lsq) | refine a_seq ?_ | refine a_region ?_ | refine o_nil ?_ | refine a_block ?_ | refine a_ret ?_ | refine a_exit ?_ | refine a_skip ?_ | refine a_draw mixed ?_ | refine d_nil (by kernel_rfl) ?_ | refine o_yes rfl rfl rfl ?_ | refine o_no rfl rfl rfl (by decide) ?_ | refine o_no' rfl rfl rfl ?_ | refine a_condT rfl ?_ | refine a_condF rfl ?_ | refine d_no rfl rfl rfl (by decide) ?_ | refine d_no' rfl rfl rfl ?_ | (refine wq2 (fun hb => ?_) (fun hb => ?_) <;> (simp only [hb]; try simp only [hbs, ne_eq] at hb; try (exfalso; first | omega | exact hb trivial))) | fail)
  all_goals refine rq rfl ?_
  all_goals exact fnq
/-- the fields behind a line's word, where there are just so many -/
def fld (word : ByteArray) (many : Nat) (s : ByteArray) : Option (List ByteArray) := match spl s sp1 with
  | [] => none
  | w :: r => if (w.toList == word.toList) = true ∧ r.length = many then some r else none
theorem spl_ne (s : ByteArray) : ∃ w r, spl s sp1 = w :: r := by
  have := spl_len s sp1 (by decide)
  cases h : spl s sp1 with
  | nil => rw [h] at this; simp at this
  | cons w r => exact ⟨w, r, rfl⟩
theorem p_spl (s : ByteArray) (hs : Sm s) : PCT Tryz.prog TabP 14 [.v (.string s), .v (.string sp1)] (.sl 1 ((spl s sp1).map stAv)) := by
  have h1 := Lib.countB_le sp1 (by decide) s.size s (Nat.le_refl _)
  unfold Sm at hs
  exact p_Split s sp1 (by omega) (by decide) (by omega)
set_option maxHeartbeats 2000000 in
theorem line_no (f : FuncId) (j : J8) (s word : ByteArray) (many : Nat) (hs : Sm s) (hm : many ≤ 2) (h : fld word many s = none) : ACT Tryz.prog TabP 73 [.ref 0 0, .v (.string s), .v (.string word), .v (.int .i64 many), .clo (.func f) [] []] (RJ j) (.v (.bool false)) (RJ j) := by
  have hS := p_spl s hs
  obtain ⟨w, r, e⟩ := spl_ne s
  unfold fld at h
  rw [e] at h hS
  dsimp only at h
  have hn : ((w :: r).map stAv).length = r.length + 1 := by simp
  unfold RJ J8.av sp1 at *
  cases hw : (w.toList == word.toList)
  · refine (act_body tab_ok Tryz.func73 rfl (by kernel_rfl) rfl ?_); intro w0 M μ0 hG; simp only [Tryz.ntmps73, List.length_cons, List.length_nil, Nat.reduceAdd, Nat.reduceSub, numb] at hG ⊢
    repeat' (first | ((first | apply o_do | apply d_do | apply d_yes rfl rfl rfl); first | focus (apply ls_callT hG hS rfl rfl _ rfl rfl; (repeat' (first | exact NilL.nil | refine NilL.cons Nil.same ?_ | refine NilL.cons Nil.nil ?_ | refine NilL.cons (Nil.agg ?_) ?_ | exact Nil1s.nil | refine Nil1s.cons Nil1.same ?_ | refine Nil1s.cons Nil1.nil ?_)); done) | exact ls_indexAddr_sl (q := 0) (cs := stAv w) tab_ok rfl rfl rfl rfl rfl rfl | exact lsq) | refine a_seq ?_ | refine a_region ?_ | refine o_nil ?_ | refine a_block ?_ | refine a_ret ?_ | refine a_exit ?_ | refine a_skip ?_ | refine a_draw mixed ?_ | refine d_nil (by kernel_rfl) ?_ | refine o_yes rfl rfl rfl ?_ | refine o_no rfl rfl rfl (by decide) ?_ | refine o_no' rfl rfl rfl ?_ | refine a_condT rfl ?_ | refine a_condF rfl ?_ | refine d_no rfl rfl rfl (by decide) ?_ | refine d_no' rfl rfl rfl ?_ | (refine wq2 (fun hb => ?_) (fun hb => ?_) <;> (simp only [hb]; try simp only [hbs, ne_eq] at hb; try (exfalso; first | omega | exact hb trivial))) | fail)
    all_goals try (exfalso; simp_all; done)
    all_goals refine rq rfl ?_
    all_goals (first | refine FinA.tup ?_ | refine FinA.one ?_); repeat' (first | exact FinBs.nil | exact FinCs.nil | refine FinBs.cons ?_ ?_ | refine FinCs.cons ?_ ?_ | refine FinB.cell (FinC.v ?_) | refine FinB.cell (FinC.own rfl rfl rfl ?_) | exact FinB.cell FinC.nil | refine FinB.cell (FinC.sl ?_) | exact FinB.agg' rfl rfl | exact FinB.cell (FinC.same rfl) | refine FinB.agg ?_ | refine FinC.v ?_ | refine FinC.own rfl rfl rfl ?_ | exact FinC.nil | refine FinC.sl ?_ | exact FinC.same rfl); all_goals try rfl
    all_goals simp [hw]
  · have hr : r.length ≠ many := fun hr => by rw [if_pos ⟨hw, hr⟩] at h; cases h
    refine (act_body tab_ok Tryz.func73 rfl (by kernel_rfl) rfl ?_); intro w0 M μ0 hG; simp only [Tryz.ntmps73, List.length_cons, List.length_nil, Nat.reduceAdd, Nat.reduceSub, numb] at hG ⊢
    repeat' (first | ((first | apply o_do | apply d_do | apply d_yes rfl rfl rfl); first | focus (apply ls_callT hG hS rfl rfl _ rfl rfl; (repeat' (first | exact NilL.nil | refine NilL.cons Nil.same ?_ | refine NilL.cons Nil.nil ?_ | refine NilL.cons (Nil.agg ?_) ?_ | exact Nil1s.nil | refine Nil1s.cons Nil1.same ?_ | refine Nil1s.cons Nil1.nil ?_)); done) | exact ls_indexAddr_sl (q := 0) (cs := stAv w) tab_ok rfl rfl rfl rfl rfl rfl | exact lsq) | refine a_seq ?_ | refine a_region ?_ | refine o_nil ?_ | refine a_block ?_ | refine a_ret ?_ | refine a_exit ?_ | refine a_skip ?_ | refine a_draw mixed ?_ | refine d_nil (by kernel_rfl) ?_ | refine o_yes rfl rfl rfl ?_ | refine o_no rfl rfl rfl (by decide) ?_ | refine o_no' rfl rfl rfl ?_ | refine a_condT rfl ?_ | refine a_condF rfl ?_ | refine d_no rfl rfl rfl (by decide) ?_ | refine d_no' rfl rfl rfl ?_ | (refine wq2 (fun hb => ?_) (fun hb => ?_) <;> (simp only [hb]; try simp only [hbs, ne_eq] at hb; try (exfalso; first | omega | exact hb trivial))) | fail)
    all_goals try (exfalso; simp_all; done)
    all_goals refine rq rfl ?_
    all_goals exact fnq
set_option maxHeartbeats 2000000 in
theorem line_groups (j j' : J8) (b : Bool) (s word : ByteArray) (r : List ByteArray) (hs : Sm s) (h : fld word 1 s = some r) (hR : ACT Tryz.prog TabP 74 [.ref 0 0, .sl 1 (r.map stAv)] (RJ j) (.v (.bool b)) (RJ j')) : ACT Tryz.prog TabP 73 [.ref 0 0, .v (.string s), .v (.string word), .v (.int .i64 1), .clo (.func 74) [] []] (RJ j) (.v (.bool b)) (RJ j') := by
  have hS := p_spl s hs
  obtain ⟨w, r', e⟩ := spl_ne s
  unfold fld at h
  rw [e] at h hS
  dsimp only at h
  split at h
  · rename_i hc
    obtain ⟨hw, hr⟩ := hc
    injection h with h; subst h
    have hn : ((w :: r').map stAv).length = r'.length + 1 := by simp
    have hn1 : 1 ≤ ((w :: r').map stAv).length := by omega
    unfold RJ J8.av sp1 at *
    refine (act_body tab_ok Tryz.func73 rfl (by kernel_rfl) rfl ?_); intro w0 M μ0 hG; simp only [Tryz.ntmps73, List.length_cons, List.length_nil, Nat.reduceAdd, Nat.reduceSub, numb] at hG ⊢
    repeat' (first | ((first | apply o_do | apply d_do | apply d_yes rfl rfl rfl); first | focus (apply ls_callT hG hS rfl rfl _ rfl rfl; (repeat' (first | exact NilL.nil | refine NilL.cons Nil.same ?_ | refine NilL.cons Nil.nil ?_ | refine NilL.cons (Nil.agg ?_) ?_ | exact Nil1s.nil | refine Nil1s.cons Nil1.same ?_ | refine Nil1s.cons Nil1.nil ?_)); done) | exact ls_indexAddr_sl (q := 0) (cs := stAv w) tab_ok rfl rfl rfl rfl rfl rfl | exact ls_slice_from (n := 1) tab_ok rfl rfl rfl rfl hn1 rfl | exact ls_callAT hG [0] 50 hR rfl rfl (by (repeat' (first | exact NilL.nil | refine NilL.cons Nil.same ?_ | refine NilL.cons Nil.nil ?_ | refine NilL.cons (Nil.agg ?_) ?_ | exact Nil1s.nil | refine Nil1s.cons Nil1.same ?_ | refine Nil1s.cons Nil1.nil ?_)); first | done | fail) rfl (by repeat' (first | exact trivial | refine ⟨⟨_, rfl, by first | rfl | (simp [renO, *]; done)⟩, ?_⟩)) (by first | rfl | simp [closO, *]) rfl rfl rfl rfl (by first | rfl | simp [closO, *]) rfl | exact lsq) | refine a_seq ?_ | refine a_region ?_ | refine o_nil ?_ | refine a_block ?_ | refine a_ret ?_ | refine a_exit ?_ | refine a_skip ?_ | refine a_draw mixed ?_ | refine d_nil (by kernel_rfl) ?_ | refine o_yes rfl rfl rfl ?_ | refine o_no rfl rfl rfl (by decide) ?_ | refine o_no' rfl rfl rfl ?_ | refine a_condT rfl ?_ | refine a_condF rfl ?_ | refine d_no rfl rfl rfl (by decide) ?_ | refine d_no' rfl rfl rfl ?_ | (refine wq2 (fun hb => ?_) (fun hb => ?_) <;> (simp only [hb]; try simp only [hbs, ne_eq] at hb; try (exfalso; first | omega | exact hb trivial))) | fail)
    all_goals try (exfalso; simp_all; done)
    all_goals refine rq rfl ?_
    all_goals exact fnq
  · cases h
set_option maxHeartbeats 2000000 in
theorem line_window (j j' : J8) (b : Bool) (s word : ByteArray) (r : List ByteArray) (hs : Sm s) (h : fld word 2 s = some r) (hR : ACT Tryz.prog TabP 75 [.ref 0 0, .sl 1 (r.map stAv)] (RJ j) (.v (.bool b)) (RJ j')) : ACT Tryz.prog TabP 73 [.ref 0 0, .v (.string s), .v (.string word), .v (.int .i64 2), .clo (.func 75) [] []] (RJ j) (.v (.bool b)) (RJ j') := by
  have hS := p_spl s hs
  obtain ⟨w, r', e⟩ := spl_ne s
  unfold fld at h
  rw [e] at h hS
  dsimp only at h
  split at h
  · rename_i hc
    obtain ⟨hw, hr⟩ := hc
    injection h with h; subst h
    have hn : ((w :: r').map stAv).length = r'.length + 1 := by simp
    have hn1 : 1 ≤ ((w :: r').map stAv).length := by omega
    unfold RJ J8.av sp1 at *
    refine (act_body tab_ok Tryz.func73 rfl (by kernel_rfl) rfl ?_); intro w0 M μ0 hG; simp only [Tryz.ntmps73, List.length_cons, List.length_nil, Nat.reduceAdd, Nat.reduceSub, numb] at hG ⊢
    repeat' (first | ((first | apply o_do | apply d_do | apply d_yes rfl rfl rfl); first | focus (apply ls_callT hG hS rfl rfl _ rfl rfl; (repeat' (first | exact NilL.nil | refine NilL.cons Nil.same ?_ | refine NilL.cons Nil.nil ?_ | refine NilL.cons (Nil.agg ?_) ?_ | exact Nil1s.nil | refine Nil1s.cons Nil1.same ?_ | refine Nil1s.cons Nil1.nil ?_)); done) | exact ls_indexAddr_sl (q := 0) (cs := stAv w) tab_ok rfl rfl rfl rfl rfl rfl | exact ls_slice_from (n := 1) tab_ok rfl rfl rfl rfl hn1 rfl | exact ls_callAT hG [0] 50 hR rfl rfl (by (repeat' (first | exact NilL.nil | refine NilL.cons Nil.same ?_ | refine NilL.cons Nil.nil ?_ | refine NilL.cons (Nil.agg ?_) ?_ | exact Nil1s.nil | refine Nil1s.cons Nil1.same ?_ | refine Nil1s.cons Nil1.nil ?_)); first | done | fail) rfl (by repeat' (first | exact trivial | refine ⟨⟨_, rfl, by first | rfl | (simp [renO, *]; done)⟩, ?_⟩)) (by first | rfl | simp [closO, *]) rfl rfl rfl rfl (by first | rfl | simp [closO, *]) rfl | exact lsq) | refine a_seq ?_ | refine a_region ?_ | refine o_nil ?_ | refine a_block ?_ | refine a_ret ?_ | refine a_exit ?_ | refine a_skip ?_ | refine a_draw mixed ?_ | refine d_nil (by kernel_rfl) ?_ | refine o_yes rfl rfl rfl ?_ | refine o_no rfl rfl rfl (by decide) ?_ | refine o_no' rfl rfl rfl ?_ | refine a_condT rfl ?_ | refine a_condF rfl ?_ | refine d_no rfl rfl rfl (by decide) ?_ | refine d_no' rfl rfl rfl ?_ | (refine wq2 (fun hb => ?_) (fun hb => ?_) <;> (simp only [hb]; try simp only [hbs, ne_eq] at hb; try (exfalso; first | omega | exact hb trivial))) | fail)
    all_goals try (exfalso; simp_all; done)
    all_goals refine rq rfl ?_
    all_goals exact fnq
  · cases h
set_option maxHeartbeats 2000000 in
theorem line_fold (j j' : J8) (b : Bool) (s word : ByteArray) (r : List ByteArray) (hs : Sm s) (h : fld word 1 s = some r) (hR : ACT Tryz.prog TabP 76 [.ref 0 0, .sl 1 (r.map stAv)] (RJ j) (.v (.bool b)) (RJ j')) : ACT Tryz.prog TabP 73 [.ref 0 0, .v (.string s), .v (.string word), .v (.int .i64 1), .clo (.func 76) [] []] (RJ j) (.v (.bool b)) (RJ j') := by
  have hS := p_spl s hs
  obtain ⟨w, r', e⟩ := spl_ne s
  unfold fld at h
  rw [e] at h hS
  dsimp only at h
  split at h
  · rename_i hc
    obtain ⟨hw, hr⟩ := hc
    injection h with h; subst h
    have hn : ((w :: r').map stAv).length = r'.length + 1 := by simp
    have hn1 : 1 ≤ ((w :: r').map stAv).length := by omega
    unfold RJ J8.av sp1 at *
    refine (act_body tab_ok Tryz.func73 rfl (by kernel_rfl) rfl ?_); intro w0 M μ0 hG; simp only [Tryz.ntmps73, List.length_cons, List.length_nil, Nat.reduceAdd, Nat.reduceSub, numb] at hG ⊢
    repeat' (first | ((first | apply o_do | apply d_do | apply d_yes rfl rfl rfl); first | focus (apply ls_callT hG hS rfl rfl _ rfl rfl; (repeat' (first | exact NilL.nil | refine NilL.cons Nil.same ?_ | refine NilL.cons Nil.nil ?_ | refine NilL.cons (Nil.agg ?_) ?_ | exact Nil1s.nil | refine Nil1s.cons Nil1.same ?_ | refine Nil1s.cons Nil1.nil ?_)); done) | exact ls_indexAddr_sl (q := 0) (cs := stAv w) tab_ok rfl rfl rfl rfl rfl rfl | exact ls_slice_from (n := 1) tab_ok rfl rfl rfl rfl hn1 rfl | exact ls_callAT hG [0] 50 hR rfl rfl (by (repeat' (first | exact NilL.nil | refine NilL.cons Nil.same ?_ | refine NilL.cons Nil.nil ?_ | refine NilL.cons (Nil.agg ?_) ?_ | exact Nil1s.nil | refine Nil1s.cons Nil1.same ?_ | refine Nil1s.cons Nil1.nil ?_)); first | done | fail) rfl (by repeat' (first | exact trivial | refine ⟨⟨_, rfl, by first | rfl | (simp [renO, *]; done)⟩, ?_⟩)) (by first | rfl | simp [closO, *]) rfl rfl rfl rfl (by first | rfl | simp [closO, *]) rfl | exact lsq) | refine a_seq ?_ | refine a_region ?_ | refine o_nil ?_ | refine a_block ?_ | refine a_ret ?_ | refine a_exit ?_ | refine a_skip ?_ | refine a_draw mixed ?_ | refine d_nil (by kernel_rfl) ?_ | refine o_yes rfl rfl rfl ?_ | refine o_no rfl rfl rfl (by decide) ?_ | refine o_no' rfl rfl rfl ?_ | refine a_condT rfl ?_ | refine a_condF rfl ?_ | refine d_no rfl rfl rfl (by decide) ?_ | refine d_no' rfl rfl rfl ?_ | (refine wq2 (fun hb => ?_) (fun hb => ?_) <;> (simp only [hb]; try simp only [hbs, ne_eq] at hb; try (exfalso; first | omega | exact hb trivial))) | fail)
    all_goals try (exfalso; simp_all; done)
    all_goals refine rq rfl ?_
    all_goals exact fnq
  · cases h
set_option maxHeartbeats 2000000 in
theorem line_loop (j j' : J8) (b : Bool) (s word : ByteArray) (r : List ByteArray) (hs : Sm s) (h : fld word 2 s = some r) (hR : ACT Tryz.prog TabP 77 [.ref 0 0, .sl 1 (r.map stAv)] (RJ j) (.v (.bool b)) (RJ j')) : ACT Tryz.prog TabP 73 [.ref 0 0, .v (.string s), .v (.string word), .v (.int .i64 2), .clo (.func 77) [] []] (RJ j) (.v (.bool b)) (RJ j') := by
  have hS := p_spl s hs
  obtain ⟨w, r', e⟩ := spl_ne s
  unfold fld at h
  rw [e] at h hS
  dsimp only at h
  split at h
  · rename_i hc
    obtain ⟨hw, hr⟩ := hc
    injection h with h; subst h
    have hn : ((w :: r').map stAv).length = r'.length + 1 := by simp
    have hn1 : 1 ≤ ((w :: r').map stAv).length := by omega
    unfold RJ J8.av sp1 at *
    refine (act_body tab_ok Tryz.func73 rfl (by kernel_rfl) rfl ?_); intro w0 M μ0 hG; simp only [Tryz.ntmps73, List.length_cons, List.length_nil, Nat.reduceAdd, Nat.reduceSub, numb] at hG ⊢
    repeat' (first | ((first | apply o_do | apply d_do | apply d_yes rfl rfl rfl); first | focus (apply ls_callT hG hS rfl rfl _ rfl rfl; (repeat' (first | exact NilL.nil | refine NilL.cons Nil.same ?_ | refine NilL.cons Nil.nil ?_ | refine NilL.cons (Nil.agg ?_) ?_ | exact Nil1s.nil | refine Nil1s.cons Nil1.same ?_ | refine Nil1s.cons Nil1.nil ?_)); done) | exact ls_indexAddr_sl (q := 0) (cs := stAv w) tab_ok rfl rfl rfl rfl rfl rfl | exact ls_slice_from (n := 1) tab_ok rfl rfl rfl rfl hn1 rfl | exact ls_callAT hG [0] 50 hR rfl rfl (by (repeat' (first | exact NilL.nil | refine NilL.cons Nil.same ?_ | refine NilL.cons Nil.nil ?_ | refine NilL.cons (Nil.agg ?_) ?_ | exact Nil1s.nil | refine Nil1s.cons Nil1.same ?_ | refine Nil1s.cons Nil1.nil ?_)); first | done | fail) rfl (by repeat' (first | exact trivial | refine ⟨⟨_, rfl, by first | rfl | (simp [renO, *]; done)⟩, ?_⟩)) (by first | rfl | simp [closO, *]) rfl rfl rfl rfl (by first | rfl | simp [closO, *]) rfl | exact lsq) | refine a_seq ?_ | refine a_region ?_ | refine o_nil ?_ | refine a_block ?_ | refine a_ret ?_ | refine a_exit ?_ | refine a_skip ?_ | refine a_draw mixed ?_ | refine d_nil (by kernel_rfl) ?_ | refine o_yes rfl rfl rfl ?_ | refine o_no rfl rfl rfl (by decide) ?_ | refine o_no' rfl rfl rfl ?_ | refine a_condT rfl ?_ | refine a_condF rfl ?_ | refine d_no rfl rfl rfl (by decide) ?_ | refine d_no' rfl rfl rfl ?_ | (refine wq2 (fun hb => ?_) (fun hb => ?_) <;> (simp only [hb]; try simp only [hbs, ne_eq] at hb; try (exfalso; first | omega | exact hb trivial))) | fail)
    all_goals try (exfalso; simp_all; done)
    all_goals refine rq rfl ?_
    all_goals exact fnq
  · cases h
set_option maxHeartbeats 2000000 in
theorem line_delay (j j' : J8) (b : Bool) (s word : ByteArray) (r : List ByteArray) (hs : Sm s) (h : fld word 1 s = some r) (hR : ACT Tryz.prog TabP 78 [.ref 0 0, .sl 1 (r.map stAv)] (RJ j) (.v (.bool b)) (RJ j')) : ACT Tryz.prog TabP 73 [.ref 0 0, .v (.string s), .v (.string word), .v (.int .i64 1), .clo (.func 78) [] []] (RJ j) (.v (.bool b)) (RJ j') := by
  have hS := p_spl s hs
  obtain ⟨w, r', e⟩ := spl_ne s
  unfold fld at h
  rw [e] at h hS
  dsimp only at h
  split at h
  · rename_i hc
    obtain ⟨hw, hr⟩ := hc
    injection h with h; subst h
    have hn : ((w :: r').map stAv).length = r'.length + 1 := by simp
    have hn1 : 1 ≤ ((w :: r').map stAv).length := by omega
    unfold RJ J8.av sp1 at *
    refine (act_body tab_ok Tryz.func73 rfl (by kernel_rfl) rfl ?_); intro w0 M μ0 hG; simp only [Tryz.ntmps73, List.length_cons, List.length_nil, Nat.reduceAdd, Nat.reduceSub, numb] at hG ⊢
    repeat' (first | ((first | apply o_do | apply d_do | apply d_yes rfl rfl rfl); first | focus (apply ls_callT hG hS rfl rfl _ rfl rfl; (repeat' (first | exact NilL.nil | refine NilL.cons Nil.same ?_ | refine NilL.cons Nil.nil ?_ | refine NilL.cons (Nil.agg ?_) ?_ | exact Nil1s.nil | refine Nil1s.cons Nil1.same ?_ | refine Nil1s.cons Nil1.nil ?_)); done) | exact ls_indexAddr_sl (q := 0) (cs := stAv w) tab_ok rfl rfl rfl rfl rfl rfl | exact ls_slice_from (n := 1) tab_ok rfl rfl rfl rfl hn1 rfl | exact ls_callAT hG [0] 50 hR rfl rfl (by (repeat' (first | exact NilL.nil | refine NilL.cons Nil.same ?_ | refine NilL.cons Nil.nil ?_ | refine NilL.cons (Nil.agg ?_) ?_ | exact Nil1s.nil | refine Nil1s.cons Nil1.same ?_ | refine Nil1s.cons Nil1.nil ?_)); first | done | fail) rfl (by repeat' (first | exact trivial | refine ⟨⟨_, rfl, by first | rfl | (simp [renO, *]; done)⟩, ?_⟩)) (by first | rfl | simp [closO, *]) rfl rfl rfl rfl (by first | rfl | simp [closO, *]) rfl | exact lsq) | refine a_seq ?_ | refine a_region ?_ | refine o_nil ?_ | refine a_block ?_ | refine a_ret ?_ | refine a_exit ?_ | refine a_skip ?_ | refine a_draw mixed ?_ | refine d_nil (by kernel_rfl) ?_ | refine o_yes rfl rfl rfl ?_ | refine o_no rfl rfl rfl (by decide) ?_ | refine o_no' rfl rfl rfl ?_ | refine a_condT rfl ?_ | refine a_condF rfl ?_ | refine d_no rfl rfl rfl (by decide) ?_ | refine d_no' rfl rfl rfl ?_ | (refine wq2 (fun hb => ?_) (fun hb => ?_) <;> (simp only [hb]; try simp only [hbs, ne_eq] at hb; try (exfalso; first | omega | exact hb trivial))) | fail)
    all_goals try (exfalso; simp_all; done)
    all_goals refine rq rfl ?_
    all_goals exact fnq
  · cases h
set_option maxHeartbeats 2000000 in
theorem line_idle (j j' : J8) (b : Bool) (s word : ByteArray) (r : List ByteArray) (hs : Sm s) (h : fld word 1 s = some r) (hR : ACT Tryz.prog TabP 79 [.ref 0 0, .sl 1 (r.map stAv)] (RJ j) (.v (.bool b)) (RJ j')) : ACT Tryz.prog TabP 73 [.ref 0 0, .v (.string s), .v (.string word), .v (.int .i64 1), .clo (.func 79) [] []] (RJ j) (.v (.bool b)) (RJ j') := by
  have hS := p_spl s hs
  obtain ⟨w, r', e⟩ := spl_ne s
  unfold fld at h
  rw [e] at h hS
  dsimp only at h
  split at h
  · rename_i hc
    obtain ⟨hw, hr⟩ := hc
    injection h with h; subst h
    have hn : ((w :: r').map stAv).length = r'.length + 1 := by simp
    have hn1 : 1 ≤ ((w :: r').map stAv).length := by omega
    unfold RJ J8.av sp1 at *
    refine (act_body tab_ok Tryz.func73 rfl (by kernel_rfl) rfl ?_); intro w0 M μ0 hG; simp only [Tryz.ntmps73, List.length_cons, List.length_nil, Nat.reduceAdd, Nat.reduceSub, numb] at hG ⊢
    repeat' (first | ((first | apply o_do | apply d_do | apply d_yes rfl rfl rfl); first | focus (apply ls_callT hG hS rfl rfl _ rfl rfl; (repeat' (first | exact NilL.nil | refine NilL.cons Nil.same ?_ | refine NilL.cons Nil.nil ?_ | refine NilL.cons (Nil.agg ?_) ?_ | exact Nil1s.nil | refine Nil1s.cons Nil1.same ?_ | refine Nil1s.cons Nil1.nil ?_)); done) | exact ls_indexAddr_sl (q := 0) (cs := stAv w) tab_ok rfl rfl rfl rfl rfl rfl | exact ls_slice_from (n := 1) tab_ok rfl rfl rfl rfl hn1 rfl | exact ls_callAT hG [0] 50 hR rfl rfl (by (repeat' (first | exact NilL.nil | refine NilL.cons Nil.same ?_ | refine NilL.cons Nil.nil ?_ | refine NilL.cons (Nil.agg ?_) ?_ | exact Nil1s.nil | refine Nil1s.cons Nil1.same ?_ | refine Nil1s.cons Nil1.nil ?_)); first | done | fail) rfl (by repeat' (first | exact trivial | refine ⟨⟨_, rfl, by first | rfl | (simp [renO, *]; done)⟩, ?_⟩)) (by first | rfl | simp [closO, *]) rfl rfl rfl rfl (by first | rfl | simp [closO, *]) rfl | exact lsq) | refine a_seq ?_ | refine a_region ?_ | refine o_nil ?_ | refine a_block ?_ | refine a_ret ?_ | refine a_exit ?_ | refine a_skip ?_ | refine a_draw mixed ?_ | refine d_nil (by kernel_rfl) ?_ | refine o_yes rfl rfl rfl ?_ | refine o_no rfl rfl rfl (by decide) ?_ | refine o_no' rfl rfl rfl ?_ | refine a_condT rfl ?_ | refine a_condF rfl ?_ | refine d_no rfl rfl rfl (by decide) ?_ | refine d_no' rfl rfl rfl ?_ | (refine wq2 (fun hb => ?_) (fun hb => ?_) <;> (simp only [hb]; try simp only [hbs, ne_eq] at hb; try (exfalso; first | omega | exact hb trivial))) | fail)
    all_goals try (exfalso; simp_all; done)
    all_goals refine rq rfl ?_
    all_goals exact fnq
  · cases h
def wordK : Nat → ByteArray
  | 1 => ⟨#[103, 114, 111, 117, 112, 115]⟩
  | 2 => ⟨#[119, 105, 110, 100, 111, 119]⟩
  | 3 => ⟨#[102, 111, 108, 100]⟩
  | 4 => ⟨#[108, 111, 111, 112]⟩
  | 5 => ⟨#[100, 101, 108, 97, 121]⟩
  | _ => ⟨#[105, 100, 108, 101]⟩
/-- a line read into a job: the job behind it, and whether it may be -/
def step (k : Nat) (s : ByteArray) (j : J8) : J8 × Bool := match k with
  | 1 => match fld (wordK 1) 1 s with
    | some [a] => ({ j with g := smallV (numV a) }, numB a)
    | _ => (j, false)
  | 2 => match fld (wordK 2) 2 s with
    | some [a, b] => ({ j with s := numV a, d := numV b }, numB a && numB b)
    | _ => (j, false)
  | 3 => match fld (wordK 3) 1 s with
    | some [a] => ({ j with k := nmIx a + 1 }, decide (nmIx a + 1 > 0))
    | _ => (j, false)
  | 4 => match fld (wordK 4) 2 s with
    | some [a, b] => ({ j with li := numV a, fu := smallV (numV b) }, numB a && numB b)
    | _ => (j, false)
  | 5 => match fld (wordK 5) 1 s with
    | some [a] => ({ j with de := numV a }, numB a)
    | _ => (j, false)
  | _ => match fld (wordK 6) 1 s with
    | some [a] => ({ j with id := smallV (numV a) }, numB a)
    | _ => (j, false)
theorem splitB_sub (sep : ByteArray) : ∀ (k : Nat) (s a : ByteArray), a ∈ Lib.splitB sep 0 k s → a.size ≤ s.size
  | 0, s, a, h => by
    rw [Lib.splitB_zero, List.mem_singleton] at h
    rw [h]; exact Nat.le_refl _
  | k + 1, s, a, h => by
    unfold Lib.splitB at h
    split at h
    · rw [List.mem_singleton] at h
      rw [h]; exact Nat.le_refl _
    · rcases List.mem_cons.1 h with h | h
      · rw [h, ByteArray.size_extract]; omega
      · have := splitB_sub sep k _ a h
        rw [ByteArray.size_extract] at this; omega
theorem spl_sub (s a : ByteArray) (h : a ∈ spl s sp1) : a.size ≤ s.size := splitB_sub _ _ s a h
theorem fld_len {word s : ByteArray} {many : Nat} {r : List ByteArray} (h : fld word many s = some r) : r.length = many := by
  unfold fld at h
  split at h
  · cases h
  · split at h
    · rename_i hc
      injection h with h; subst h; exact hc.2
    · cases h
theorem fld_sm {word s : ByteArray} {many : Nat} {r : List ByteArray} (hs : Sm s) (h : fld word many s = some r) : ∀ a ∈ r, Sm a := by
  unfold fld at h
  split at h
  · cases h
  · rename_i w r' e
    split at h
    · injection h with h; subst h
      intro a ha
      have := spl_sub s a (by rw [e]; exact List.mem_cons_of_mem _ ha)
      unfold Sm at *; omega
    · cases h
set_option maxHeartbeats 2000000 in
theorem one_groups (j : J8) (s : ByteArray) (hs : Sm s) : ACT Tryz.prog TabP 44 [.ref 0 0, .v (.int .i64 1), .v (.string s)] (RJ j) (.v (.bool (step 1 s j).2)) (RJ (step 1 s j).1) := by
  cases h : fld (wordK 1) 1 s with
  | none =>
    have hL := line_no 74 j s (wordK 1) 1 hs (by omega) h
    have e : step 1 s j = (j, false) := by simp only [step, h]
    rw [e]
    unfold RJ J8.av wordK at *
    refine (act_body tab_ok Tryz.func44 rfl (by kernel_rfl) rfl ?_); intro w0 M μ0 hG; simp only [Tryz.ntmps44, List.length_cons, List.length_nil, Nat.reduceAdd, Nat.reduceSub, numb] at hG ⊢
    repeat' (first | ((first | apply o_do | apply d_do | apply d_yes rfl rfl rfl); first | exact ls_callAT hG [0] 50 hL rfl rfl (by (repeat' (first | exact NilL.nil | refine NilL.cons Nil.same ?_ | refine NilL.cons Nil.nil ?_ | refine NilL.cons (Nil.agg ?_) ?_ | exact Nil1s.nil | refine Nil1s.cons Nil1.same ?_ | refine Nil1s.cons Nil1.nil ?_)); first | done | fail) rfl (by repeat' (first | exact trivial | refine ⟨⟨_, rfl, by first | rfl | (simp [renO, *]; done)⟩, ?_⟩)) (by first | rfl | simp [closO, *]) rfl rfl rfl rfl (by first | rfl | simp [closO, *]) rfl | exact lsq) | refine a_seq ?_ | refine a_region ?_ | refine o_nil ?_ | refine a_block ?_ | refine a_ret ?_ | refine a_exit ?_ | refine a_skip ?_ | refine a_draw mixed ?_ | refine d_nil (by kernel_rfl) ?_ | refine o_yes rfl rfl rfl ?_ | refine o_no rfl rfl rfl (by decide) ?_ | refine o_no' rfl rfl rfl ?_ | refine a_condT rfl ?_ | refine a_condF rfl ?_ | refine d_no rfl rfl rfl (by decide) ?_ | refine d_no' rfl rfl rfl ?_ | (refine wq2 (fun hb => ?_) (fun hb => ?_) <;> (simp only [hb]; try simp only [hbs, ne_eq] at hb; try (exfalso; first | omega | exact hb trivial))) | fail)
    all_goals refine rq rfl ?_
    all_goals exact fnq
  | some r =>
    have hr := fld_len h
    have hsm := fld_sm hs h
    obtain ⟨a, rfl⟩ : ∃ a, r = [a] := by
      match r, hr with
      | [a], _ => exact ⟨a, rfl⟩
    have hL := line_groups j _ _ s (wordK 1) [a] hs h (r_groups j a (hsm a (by simp)))
    have e : step 1 s j = ({ j with g := smallV (numV a) }, numB a) := by simp only [step, h]
    rw [e]
    dsimp only at hL ⊢
    generalize { j with g := smallV (numV a) } = j' at *
    generalize (numB a) = bb at *
    unfold RJ J8.av wordK at *
    refine (act_body tab_ok Tryz.func44 rfl (by kernel_rfl) rfl ?_); intro w0 M μ0 hG; simp only [Tryz.ntmps44, List.length_cons, List.length_nil, Nat.reduceAdd, Nat.reduceSub, numb] at hG ⊢
    repeat' (first | ((first | apply o_do | apply d_do | apply d_yes rfl rfl rfl); first | exact ls_callAT hG [0] 50 hL rfl rfl (by (repeat' (first | exact NilL.nil | refine NilL.cons Nil.same ?_ | refine NilL.cons Nil.nil ?_ | refine NilL.cons (Nil.agg ?_) ?_ | exact Nil1s.nil | refine Nil1s.cons Nil1.same ?_ | refine Nil1s.cons Nil1.nil ?_)); first | done | fail) rfl (by repeat' (first | exact trivial | refine ⟨⟨_, rfl, by first | rfl | (simp [renO, *]; done)⟩, ?_⟩)) (by first | rfl | simp [closO, *]) rfl rfl rfl rfl (by first | rfl | simp [closO, *]) rfl | exact lsq) | refine a_seq ?_ | refine a_region ?_ | refine o_nil ?_ | refine a_block ?_ | refine a_ret ?_ | refine a_exit ?_ | refine a_skip ?_ | refine a_draw mixed ?_ | refine d_nil (by kernel_rfl) ?_ | refine o_yes rfl rfl rfl ?_ | refine o_no rfl rfl rfl (by decide) ?_ | refine o_no' rfl rfl rfl ?_ | refine a_condT rfl ?_ | refine a_condF rfl ?_ | refine d_no rfl rfl rfl (by decide) ?_ | refine d_no' rfl rfl rfl ?_ | (refine wq2 (fun hb => ?_) (fun hb => ?_) <;> (simp only [hb]; try simp only [hbs, ne_eq] at hb; try (exfalso; first | omega | exact hb trivial))) | fail)
    all_goals refine rq rfl ?_
    all_goals exact fnq
set_option maxHeartbeats 2000000 in
theorem one_window (j : J8) (s : ByteArray) (hs : Sm s) : ACT Tryz.prog TabP 44 [.ref 0 0, .v (.int .i64 2), .v (.string s)] (RJ j) (.v (.bool (step 2 s j).2)) (RJ (step 2 s j).1) := by
  cases h : fld (wordK 2) 2 s with
  | none =>
    have hL := line_no 75 j s (wordK 2) 2 hs (by omega) h
    have e : step 2 s j = (j, false) := by simp only [step, h]
    rw [e]
    unfold RJ J8.av wordK at *
    refine (act_body tab_ok Tryz.func44 rfl (by kernel_rfl) rfl ?_); intro w0 M μ0 hG; simp only [Tryz.ntmps44, List.length_cons, List.length_nil, Nat.reduceAdd, Nat.reduceSub, numb] at hG ⊢
    repeat' (first | ((first | apply o_do | apply d_do | apply d_yes rfl rfl rfl); first | exact ls_callAT hG [0] 50 hL rfl rfl (by (repeat' (first | exact NilL.nil | refine NilL.cons Nil.same ?_ | refine NilL.cons Nil.nil ?_ | refine NilL.cons (Nil.agg ?_) ?_ | exact Nil1s.nil | refine Nil1s.cons Nil1.same ?_ | refine Nil1s.cons Nil1.nil ?_)); first | done | fail) rfl (by repeat' (first | exact trivial | refine ⟨⟨_, rfl, by first | rfl | (simp [renO, *]; done)⟩, ?_⟩)) (by first | rfl | simp [closO, *]) rfl rfl rfl rfl (by first | rfl | simp [closO, *]) rfl | exact lsq) | refine a_seq ?_ | refine a_region ?_ | refine o_nil ?_ | refine a_block ?_ | refine a_ret ?_ | refine a_exit ?_ | refine a_skip ?_ | refine a_draw mixed ?_ | refine d_nil (by kernel_rfl) ?_ | refine o_yes rfl rfl rfl ?_ | refine o_no rfl rfl rfl (by decide) ?_ | refine o_no' rfl rfl rfl ?_ | refine a_condT rfl ?_ | refine a_condF rfl ?_ | refine d_no rfl rfl rfl (by decide) ?_ | refine d_no' rfl rfl rfl ?_ | (refine wq2 (fun hb => ?_) (fun hb => ?_) <;> (simp only [hb]; try simp only [hbs, ne_eq] at hb; try (exfalso; first | omega | exact hb trivial))) | fail)
    all_goals refine rq rfl ?_
    all_goals exact fnq
  | some r =>
    have hr := fld_len h
    have hsm := fld_sm hs h
    obtain ⟨a, b, rfl⟩ : ∃ a b, r = [a, b] := by
      match r, hr with
      | [a, b], _ => exact ⟨a, b, rfl⟩
    have hL := line_window j _ _ s (wordK 2) [a, b] hs h (r_window j a b (hsm a (by simp)) (hsm b (by simp)))
    have e : step 2 s j = ({ j with s := numV a, d := numV b }, numB a && numB b) := by simp only [step, h]
    rw [e]
    dsimp only at hL ⊢
    generalize { j with s := numV a, d := numV b } = j' at *
    generalize (numB a && numB b) = bb at *
    unfold RJ J8.av wordK at *
    refine (act_body tab_ok Tryz.func44 rfl (by kernel_rfl) rfl ?_); intro w0 M μ0 hG; simp only [Tryz.ntmps44, List.length_cons, List.length_nil, Nat.reduceAdd, Nat.reduceSub, numb] at hG ⊢
    repeat' (first | ((first | apply o_do | apply d_do | apply d_yes rfl rfl rfl); first | exact ls_callAT hG [0] 50 hL rfl rfl (by (repeat' (first | exact NilL.nil | refine NilL.cons Nil.same ?_ | refine NilL.cons Nil.nil ?_ | refine NilL.cons (Nil.agg ?_) ?_ | exact Nil1s.nil | refine Nil1s.cons Nil1.same ?_ | refine Nil1s.cons Nil1.nil ?_)); first | done | fail) rfl (by repeat' (first | exact trivial | refine ⟨⟨_, rfl, by first | rfl | (simp [renO, *]; done)⟩, ?_⟩)) (by first | rfl | simp [closO, *]) rfl rfl rfl rfl (by first | rfl | simp [closO, *]) rfl | exact lsq) | refine a_seq ?_ | refine a_region ?_ | refine o_nil ?_ | refine a_block ?_ | refine a_ret ?_ | refine a_exit ?_ | refine a_skip ?_ | refine a_draw mixed ?_ | refine d_nil (by kernel_rfl) ?_ | refine o_yes rfl rfl rfl ?_ | refine o_no rfl rfl rfl (by decide) ?_ | refine o_no' rfl rfl rfl ?_ | refine a_condT rfl ?_ | refine a_condF rfl ?_ | refine d_no rfl rfl rfl (by decide) ?_ | refine d_no' rfl rfl rfl ?_ | (refine wq2 (fun hb => ?_) (fun hb => ?_) <;> (simp only [hb]; try simp only [hbs, ne_eq] at hb; try (exfalso; first | omega | exact hb trivial))) | fail)
    all_goals refine rq rfl ?_
    all_goals exact fnq
set_option maxHeartbeats 2000000 in
theorem one_fold (j : J8) (s : ByteArray) (hs : Sm s) : ACT Tryz.prog TabP 44 [.ref 0 0, .v (.int .i64 3), .v (.string s)] (RJ j) (.v (.bool (step 3 s j).2)) (RJ (step 3 s j).1) := by
  cases h : fld (wordK 3) 1 s with
  | none =>
    have hL := line_no 76 j s (wordK 3) 1 hs (by omega) h
    have e : step 3 s j = (j, false) := by simp only [step, h]
    rw [e]
    unfold RJ J8.av wordK at *
    refine (act_body tab_ok Tryz.func44 rfl (by kernel_rfl) rfl ?_); intro w0 M μ0 hG; simp only [Tryz.ntmps44, List.length_cons, List.length_nil, Nat.reduceAdd, Nat.reduceSub, numb] at hG ⊢
    repeat' (first | ((first | apply o_do | apply d_do | apply d_yes rfl rfl rfl); first | exact ls_callAT hG [0] 50 hL rfl rfl (by (repeat' (first | exact NilL.nil | refine NilL.cons Nil.same ?_ | refine NilL.cons Nil.nil ?_ | refine NilL.cons (Nil.agg ?_) ?_ | exact Nil1s.nil | refine Nil1s.cons Nil1.same ?_ | refine Nil1s.cons Nil1.nil ?_)); first | done | fail) rfl (by repeat' (first | exact trivial | refine ⟨⟨_, rfl, by first | rfl | (simp [renO, *]; done)⟩, ?_⟩)) (by first | rfl | simp [closO, *]) rfl rfl rfl rfl (by first | rfl | simp [closO, *]) rfl | exact lsq) | refine a_seq ?_ | refine a_region ?_ | refine o_nil ?_ | refine a_block ?_ | refine a_ret ?_ | refine a_exit ?_ | refine a_skip ?_ | refine a_draw mixed ?_ | refine d_nil (by kernel_rfl) ?_ | refine o_yes rfl rfl rfl ?_ | refine o_no rfl rfl rfl (by decide) ?_ | refine o_no' rfl rfl rfl ?_ | refine a_condT rfl ?_ | refine a_condF rfl ?_ | refine d_no rfl rfl rfl (by decide) ?_ | refine d_no' rfl rfl rfl ?_ | (refine wq2 (fun hb => ?_) (fun hb => ?_) <;> (simp only [hb]; try simp only [hbs, ne_eq] at hb; try (exfalso; first | omega | exact hb trivial))) | fail)
    all_goals refine rq rfl ?_
    all_goals exact fnq
  | some r =>
    have hr := fld_len h
    have hsm := fld_sm hs h
    obtain ⟨a, rfl⟩ : ∃ a, r = [a] := by
      match r, hr with
      | [a], _ => exact ⟨a, rfl⟩
    have hL := line_fold j _ _ s (wordK 3) [a] hs h (r_fold j a (hsm a (by simp)))
    have e : step 3 s j = ({ j with k := nmIx a + 1 }, decide (nmIx a + 1 > 0)) := by simp only [step, h]
    rw [e]
    dsimp only at hL ⊢
    generalize { j with k := nmIx a + 1 } = j' at *
    generalize (decide (nmIx a + 1 > 0)) = bb at *
    unfold RJ J8.av wordK at *
    refine (act_body tab_ok Tryz.func44 rfl (by kernel_rfl) rfl ?_); intro w0 M μ0 hG; simp only [Tryz.ntmps44, List.length_cons, List.length_nil, Nat.reduceAdd, Nat.reduceSub, numb] at hG ⊢
    repeat' (first | ((first | apply o_do | apply d_do | apply d_yes rfl rfl rfl); first | exact ls_callAT hG [0] 50 hL rfl rfl (by (repeat' (first | exact NilL.nil | refine NilL.cons Nil.same ?_ | refine NilL.cons Nil.nil ?_ | refine NilL.cons (Nil.agg ?_) ?_ | exact Nil1s.nil | refine Nil1s.cons Nil1.same ?_ | refine Nil1s.cons Nil1.nil ?_)); first | done | fail) rfl (by repeat' (first | exact trivial | refine ⟨⟨_, rfl, by first | rfl | (simp [renO, *]; done)⟩, ?_⟩)) (by first | rfl | simp [closO, *]) rfl rfl rfl rfl (by first | rfl | simp [closO, *]) rfl | exact lsq) | refine a_seq ?_ | refine a_region ?_ | refine o_nil ?_ | refine a_block ?_ | refine a_ret ?_ | refine a_exit ?_ | refine a_skip ?_ | refine a_draw mixed ?_ | refine d_nil (by kernel_rfl) ?_ | refine o_yes rfl rfl rfl ?_ | refine o_no rfl rfl rfl (by decide) ?_ | refine o_no' rfl rfl rfl ?_ | refine a_condT rfl ?_ | refine a_condF rfl ?_ | refine d_no rfl rfl rfl (by decide) ?_ | refine d_no' rfl rfl rfl ?_ | (refine wq2 (fun hb => ?_) (fun hb => ?_) <;> (simp only [hb]; try simp only [hbs, ne_eq] at hb; try (exfalso; first | omega | exact hb trivial))) | fail)
    all_goals refine rq rfl ?_
    all_goals exact fnq
set_option maxHeartbeats 2000000 in
theorem one_loop (j : J8) (s : ByteArray) (hs : Sm s) : ACT Tryz.prog TabP 44 [.ref 0 0, .v (.int .i64 4), .v (.string s)] (RJ j) (.v (.bool (step 4 s j).2)) (RJ (step 4 s j).1) := by
  cases h : fld (wordK 4) 2 s with
  | none =>
    have hL := line_no 77 j s (wordK 4) 2 hs (by omega) h
    have e : step 4 s j = (j, false) := by simp only [step, h]
    rw [e]
    unfold RJ J8.av wordK at *
    refine (act_body tab_ok Tryz.func44 rfl (by kernel_rfl) rfl ?_); intro w0 M μ0 hG; simp only [Tryz.ntmps44, List.length_cons, List.length_nil, Nat.reduceAdd, Nat.reduceSub, numb] at hG ⊢
    repeat' (first | ((first | apply o_do | apply d_do | apply d_yes rfl rfl rfl); first | exact ls_callAT hG [0] 50 hL rfl rfl (by (repeat' (first | exact NilL.nil | refine NilL.cons Nil.same ?_ | refine NilL.cons Nil.nil ?_ | refine NilL.cons (Nil.agg ?_) ?_ | exact Nil1s.nil | refine Nil1s.cons Nil1.same ?_ | refine Nil1s.cons Nil1.nil ?_)); first | done | fail) rfl (by repeat' (first | exact trivial | refine ⟨⟨_, rfl, by first | rfl | (simp [renO, *]; done)⟩, ?_⟩)) (by first | rfl | simp [closO, *]) rfl rfl rfl rfl (by first | rfl | simp [closO, *]) rfl | exact lsq) | refine a_seq ?_ | refine a_region ?_ | refine o_nil ?_ | refine a_block ?_ | refine a_ret ?_ | refine a_exit ?_ | refine a_skip ?_ | refine a_draw mixed ?_ | refine d_nil (by kernel_rfl) ?_ | refine o_yes rfl rfl rfl ?_ | refine o_no rfl rfl rfl (by decide) ?_ | refine o_no' rfl rfl rfl ?_ | refine a_condT rfl ?_ | refine a_condF rfl ?_ | refine d_no rfl rfl rfl (by decide) ?_ | refine d_no' rfl rfl rfl ?_ | (refine wq2 (fun hb => ?_) (fun hb => ?_) <;> (simp only [hb]; try simp only [hbs, ne_eq] at hb; try (exfalso; first | omega | exact hb trivial))) | fail)
    all_goals refine rq rfl ?_
    all_goals exact fnq
  | some r =>
    have hr := fld_len h
    have hsm := fld_sm hs h
    obtain ⟨a, b, rfl⟩ : ∃ a b, r = [a, b] := by
      match r, hr with
      | [a, b], _ => exact ⟨a, b, rfl⟩
    have hL := line_loop j _ _ s (wordK 4) [a, b] hs h (r_loop j a b (hsm a (by simp)) (hsm b (by simp)))
    have e : step 4 s j = ({ j with li := numV a, fu := smallV (numV b) }, numB a && numB b) := by simp only [step, h]
    rw [e]
    dsimp only at hL ⊢
    generalize { j with li := numV a, fu := smallV (numV b) } = j' at *
    generalize (numB a && numB b) = bb at *
    unfold RJ J8.av wordK at *
    refine (act_body tab_ok Tryz.func44 rfl (by kernel_rfl) rfl ?_); intro w0 M μ0 hG; simp only [Tryz.ntmps44, List.length_cons, List.length_nil, Nat.reduceAdd, Nat.reduceSub, numb] at hG ⊢
    repeat' (first | ((first | apply o_do | apply d_do | apply d_yes rfl rfl rfl); first | exact ls_callAT hG [0] 50 hL rfl rfl (by (repeat' (first | exact NilL.nil | refine NilL.cons Nil.same ?_ | refine NilL.cons Nil.nil ?_ | refine NilL.cons (Nil.agg ?_) ?_ | exact Nil1s.nil | refine Nil1s.cons Nil1.same ?_ | refine Nil1s.cons Nil1.nil ?_)); first | done | fail) rfl (by repeat' (first | exact trivial | refine ⟨⟨_, rfl, by first | rfl | (simp [renO, *]; done)⟩, ?_⟩)) (by first | rfl | simp [closO, *]) rfl rfl rfl rfl (by first | rfl | simp [closO, *]) rfl | exact lsq) | refine a_seq ?_ | refine a_region ?_ | refine o_nil ?_ | refine a_block ?_ | refine a_ret ?_ | refine a_exit ?_ | refine a_skip ?_ | refine a_draw mixed ?_ | refine d_nil (by kernel_rfl) ?_ | refine o_yes rfl rfl rfl ?_ | refine o_no rfl rfl rfl (by decide) ?_ | refine o_no' rfl rfl rfl ?_ | refine a_condT rfl ?_ | refine a_condF rfl ?_ | refine d_no rfl rfl rfl (by decide) ?_ | refine d_no' rfl rfl rfl ?_ | (refine wq2 (fun hb => ?_) (fun hb => ?_) <;> (simp only [hb]; try simp only [hbs, ne_eq] at hb; try (exfalso; first | omega | exact hb trivial))) | fail)
    all_goals refine rq rfl ?_
    all_goals exact fnq
set_option maxHeartbeats 2000000 in
theorem one_delay (j : J8) (s : ByteArray) (hs : Sm s) : ACT Tryz.prog TabP 44 [.ref 0 0, .v (.int .i64 5), .v (.string s)] (RJ j) (.v (.bool (step 5 s j).2)) (RJ (step 5 s j).1) := by
  cases h : fld (wordK 5) 1 s with
  | none =>
    have hL := line_no 78 j s (wordK 5) 1 hs (by omega) h
    have e : step 5 s j = (j, false) := by simp only [step, h]
    rw [e]
    unfold RJ J8.av wordK at *
    refine (act_body tab_ok Tryz.func44 rfl (by kernel_rfl) rfl ?_); intro w0 M μ0 hG; simp only [Tryz.ntmps44, List.length_cons, List.length_nil, Nat.reduceAdd, Nat.reduceSub, numb] at hG ⊢
    repeat' (first | ((first | apply o_do | apply d_do | apply d_yes rfl rfl rfl); first | exact ls_callAT hG [0] 50 hL rfl rfl (by (repeat' (first | exact NilL.nil | refine NilL.cons Nil.same ?_ | refine NilL.cons Nil.nil ?_ | refine NilL.cons (Nil.agg ?_) ?_ | exact Nil1s.nil | refine Nil1s.cons Nil1.same ?_ | refine Nil1s.cons Nil1.nil ?_)); first | done | fail) rfl (by repeat' (first | exact trivial | refine ⟨⟨_, rfl, by first | rfl | (simp [renO, *]; done)⟩, ?_⟩)) (by first | rfl | simp [closO, *]) rfl rfl rfl rfl (by first | rfl | simp [closO, *]) rfl | exact lsq) | refine a_seq ?_ | refine a_region ?_ | refine o_nil ?_ | refine a_block ?_ | refine a_ret ?_ | refine a_exit ?_ | refine a_skip ?_ | refine a_draw mixed ?_ | refine d_nil (by kernel_rfl) ?_ | refine o_yes rfl rfl rfl ?_ | refine o_no rfl rfl rfl (by decide) ?_ | refine o_no' rfl rfl rfl ?_ | refine a_condT rfl ?_ | refine a_condF rfl ?_ | refine d_no rfl rfl rfl (by decide) ?_ | refine d_no' rfl rfl rfl ?_ | (refine wq2 (fun hb => ?_) (fun hb => ?_) <;> (simp only [hb]; try simp only [hbs, ne_eq] at hb; try (exfalso; first | omega | exact hb trivial))) | fail)
    all_goals refine rq rfl ?_
    all_goals exact fnq
  | some r =>
    have hr := fld_len h
    have hsm := fld_sm hs h
    obtain ⟨a, rfl⟩ : ∃ a, r = [a] := by
      match r, hr with
      | [a], _ => exact ⟨a, rfl⟩
    have hL := line_delay j _ _ s (wordK 5) [a] hs h (r_delay j a (hsm a (by simp)))
    have e : step 5 s j = ({ j with de := numV a }, numB a) := by simp only [step, h]
    rw [e]
    dsimp only at hL ⊢
    generalize { j with de := numV a } = j' at *
    generalize (numB a) = bb at *
    unfold RJ J8.av wordK at *
    refine (act_body tab_ok Tryz.func44 rfl (by kernel_rfl) rfl ?_); intro w0 M μ0 hG; simp only [Tryz.ntmps44, List.length_cons, List.length_nil, Nat.reduceAdd, Nat.reduceSub, numb] at hG ⊢
    repeat' (first | ((first | apply o_do | apply d_do | apply d_yes rfl rfl rfl); first | exact ls_callAT hG [0] 50 hL rfl rfl (by (repeat' (first | exact NilL.nil | refine NilL.cons Nil.same ?_ | refine NilL.cons Nil.nil ?_ | refine NilL.cons (Nil.agg ?_) ?_ | exact Nil1s.nil | refine Nil1s.cons Nil1.same ?_ | refine Nil1s.cons Nil1.nil ?_)); first | done | fail) rfl (by repeat' (first | exact trivial | refine ⟨⟨_, rfl, by first | rfl | (simp [renO, *]; done)⟩, ?_⟩)) (by first | rfl | simp [closO, *]) rfl rfl rfl rfl (by first | rfl | simp [closO, *]) rfl | exact lsq) | refine a_seq ?_ | refine a_region ?_ | refine o_nil ?_ | refine a_block ?_ | refine a_ret ?_ | refine a_exit ?_ | refine a_skip ?_ | refine a_draw mixed ?_ | refine d_nil (by kernel_rfl) ?_ | refine o_yes rfl rfl rfl ?_ | refine o_no rfl rfl rfl (by decide) ?_ | refine o_no' rfl rfl rfl ?_ | refine a_condT rfl ?_ | refine a_condF rfl ?_ | refine d_no rfl rfl rfl (by decide) ?_ | refine d_no' rfl rfl rfl ?_ | (refine wq2 (fun hb => ?_) (fun hb => ?_) <;> (simp only [hb]; try simp only [hbs, ne_eq] at hb; try (exfalso; first | omega | exact hb trivial))) | fail)
    all_goals refine rq rfl ?_
    all_goals exact fnq
set_option maxHeartbeats 2000000 in
theorem one_idle (j : J8) (s : ByteArray) (hs : Sm s) : ACT Tryz.prog TabP 44 [.ref 0 0, .v (.int .i64 6), .v (.string s)] (RJ j) (.v (.bool (step 6 s j).2)) (RJ (step 6 s j).1) := by
  cases h : fld (wordK 6) 1 s with
  | none =>
    have hL := line_no 79 j s (wordK 6) 1 hs (by omega) h
    have e : step 6 s j = (j, false) := by simp only [step, h]
    rw [e]
    unfold RJ J8.av wordK at *
    refine (act_body tab_ok Tryz.func44 rfl (by kernel_rfl) rfl ?_); intro w0 M μ0 hG; simp only [Tryz.ntmps44, List.length_cons, List.length_nil, Nat.reduceAdd, Nat.reduceSub, numb] at hG ⊢
    repeat' (first | ((first | apply o_do | apply d_do | apply d_yes rfl rfl rfl); first | exact ls_callAT hG [0] 50 hL rfl rfl (by (repeat' (first | exact NilL.nil | refine NilL.cons Nil.same ?_ | refine NilL.cons Nil.nil ?_ | refine NilL.cons (Nil.agg ?_) ?_ | exact Nil1s.nil | refine Nil1s.cons Nil1.same ?_ | refine Nil1s.cons Nil1.nil ?_)); first | done | fail) rfl (by repeat' (first | exact trivial | refine ⟨⟨_, rfl, by first | rfl | (simp [renO, *]; done)⟩, ?_⟩)) (by first | rfl | simp [closO, *]) rfl rfl rfl rfl (by first | rfl | simp [closO, *]) rfl | exact lsq) | refine a_seq ?_ | refine a_region ?_ | refine o_nil ?_ | refine a_block ?_ | refine a_ret ?_ | refine a_exit ?_ | refine a_skip ?_ | refine a_draw mixed ?_ | refine d_nil (by kernel_rfl) ?_ | refine o_yes rfl rfl rfl ?_ | refine o_no rfl rfl rfl (by decide) ?_ | refine o_no' rfl rfl rfl ?_ | refine a_condT rfl ?_ | refine a_condF rfl ?_ | refine d_no rfl rfl rfl (by decide) ?_ | refine d_no' rfl rfl rfl ?_ | (refine wq2 (fun hb => ?_) (fun hb => ?_) <;> (simp only [hb]; try simp only [hbs, ne_eq] at hb; try (exfalso; first | omega | exact hb trivial))) | fail)
    all_goals refine rq rfl ?_
    all_goals exact fnq
  | some r =>
    have hr := fld_len h
    have hsm := fld_sm hs h
    obtain ⟨a, rfl⟩ : ∃ a, r = [a] := by
      match r, hr with
      | [a], _ => exact ⟨a, rfl⟩
    have hL := line_idle j _ _ s (wordK 6) [a] hs h (r_idle j a (hsm a (by simp)))
    have e : step 6 s j = ({ j with id := smallV (numV a) }, numB a) := by simp only [step, h]
    rw [e]
    dsimp only at hL ⊢
    generalize { j with id := smallV (numV a) } = j' at *
    generalize (numB a) = bb at *
    unfold RJ J8.av wordK at *
    refine (act_body tab_ok Tryz.func44 rfl (by kernel_rfl) rfl ?_); intro w0 M μ0 hG; simp only [Tryz.ntmps44, List.length_cons, List.length_nil, Nat.reduceAdd, Nat.reduceSub, numb] at hG ⊢
    repeat' (first | ((first | apply o_do | apply d_do | apply d_yes rfl rfl rfl); first | exact ls_callAT hG [0] 50 hL rfl rfl (by (repeat' (first | exact NilL.nil | refine NilL.cons Nil.same ?_ | refine NilL.cons Nil.nil ?_ | refine NilL.cons (Nil.agg ?_) ?_ | exact Nil1s.nil | refine Nil1s.cons Nil1.same ?_ | refine Nil1s.cons Nil1.nil ?_)); first | done | fail) rfl (by repeat' (first | exact trivial | refine ⟨⟨_, rfl, by first | rfl | (simp [renO, *]; done)⟩, ?_⟩)) (by first | rfl | simp [closO, *]) rfl rfl rfl rfl (by first | rfl | simp [closO, *]) rfl | exact lsq) | refine a_seq ?_ | refine a_region ?_ | refine o_nil ?_ | refine a_block ?_ | refine a_ret ?_ | refine a_exit ?_ | refine a_skip ?_ | refine a_draw mixed ?_ | refine d_nil (by kernel_rfl) ?_ | refine o_yes rfl rfl rfl ?_ | refine o_no rfl rfl rfl (by decide) ?_ | refine o_no' rfl rfl rfl ?_ | refine a_condT rfl ?_ | refine a_condF rfl ?_ | refine d_no rfl rfl rfl (by decide) ?_ | refine d_no' rfl rfl rfl ?_ | (refine wq2 (fun hb => ?_) (fun hb => ?_) <;> (simp only [hb]; try simp only [hbs, ne_eq] at hb; try (exfalso; first | omega | exact hb trivial))) | fail)
    all_goals refine rq rfl ?_
    all_goals exact fnq
end Go.Proofs.YtbhblhcgfenobaaGreatDoor
