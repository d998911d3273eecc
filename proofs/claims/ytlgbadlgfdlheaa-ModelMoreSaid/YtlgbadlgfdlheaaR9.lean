/-
  Which jobs and inputs may be, walked over abstract values.
    Which inputs may be, and whether a job and inputs may, walked over abstract values.
  How rows of events, and rows of such rows, read.
  A range over a function whose iterator keeps blocks of its own and turns them between two rounds. Over whatever program. No condition.
    Walks over abstract values: a range over a function. Over whatever program. No condition.
    A contract over one box, as a concrete one. Over whatever program. No condition.
  Panes, walked over abstract values: values that are added to none, one behind the other.
-/
import Derived.RangeFuncNested
import Derived.RangeFuncCalls
import Derived.Test.YtlgbadlgfdlheaaR4
import Derived.Test.YtlgbadlgfdlheaaR5
import Derived.Test.YtlgbadlgfdlheaaR8
set_option linter.unusedSimpArgs false
set_option linter.unusedVariables false
set_option maxHeartbeats 20000000
namespace Go.Proofs.Ytlgbadlgfdlheaa
open Go.RowKit
def jobOK (g s d k fu li de id : Int) : Bool := decide (1 ≤ g) && (decide (g ≤ 32) && (winB s d && (fRight k && (decide (0 ≤ fu) && (decide (fu ≤ 40) && (decide (0 ≤ li) && (decide (0 ≤ de) && (decide (de ≤ 1099511627776) && (decide (0 ≤ id) && decide (id ≤ 1048576))))))))))
theorem j_Right (g s d k fu li de id : Int) : PC Try.prog 12 [.agg [.v (.int .i64 g), .v (.int .i64 s), .v (.int .i64 d), .v (.int .i64 k), .v (.int .i64 fu), .v (.int .i64 li), .v (.int .i64 de), .v (.int .i64 id)]] (.v (.bool (jobOK g s d k fu li de id))) := by
 have h1 := p_wRight s d
 have h2 := p_fRight k
 unfold jobOK
 cases hw : winB s d <;> cases hf : fRight k
 all_goals
  rw [hw] at h1
  rw [hf] at h2
  refine PC.mk (ac_body tab_ok Try.func12 rfl (by kernel_rfl) rfl ?_); intro w0 M μ0; simp only [Try.ntmps12, List.length_cons, List.length_nil, Nat.reduceAdd, Nat.reduceSub, numb]
  repeat' (first | ((first | apply o_do | apply d_do | apply d_yes rfl rfl rfl); first | exact lsc (h1) | exact lsc (h2) | exact lsq) | refine a_seq ?_ | refine a_region ?_ | refine o_nil ?_ | refine a_block ?_ | refine a_ret ?_ | refine a_exit ?_ | refine a_skip ?_ | refine a_draw mixed ?_ | refine d_nil (by kernel_rfl) ?_ | refine o_yes rfl rfl rfl ?_ | refine o_no rfl rfl rfl (by decide) ?_ | refine o_no' rfl rfl rfl ?_ | refine a_condT rfl ?_ | refine a_condF rfl ?_ | refine d_no rfl rfl rfl (by decide) ?_ | refine d_no' rfl rfl rfl ?_ | (refine wq2 (fun hb => ?_) (fun hb => ?_) <;> (simp only [hb]; try simp only [hbs, ne_eq] at hb; try (exfalso; first | omega | exact hb trivial))) | fail)
  all_goals refine rq rfl ?_
  all_goals (first | refine FinA.tup ?_ | refine FinA.one ?_); repeat' (first | exact FinBs.nil | exact FinCs.nil | refine FinBs.cons ?_ ?_ | refine FinCs.cons ?_ ?_ | refine FinB.cell (FinC.v ?_) | refine FinB.cell (FinC.own rfl rfl rfl ?_) | exact FinB.cell FinC.nil | refine FinB.cell (FinC.sl ?_) | exact FinB.agg' rfl rfl | exact FinB.cell (FinC.same rfl) | refine FinB.agg ?_ | refine FinC.v ?_ | refine FinC.own rfl rfl rfl ?_ | exact FinC.nil | refine FinC.sl ?_ | exact FinC.same rfl); all_goals try rfl
  all_goals first | (simp [*]; done) | (simp [*]; omega)
def inAv (es : List Et) : List AV := [.sl 3 (es.map Et.av)]
def okEs (es : List Et) : Bool := decide (es.length ≤ 200) && es.all fun e => evR e.key e.at'
def okIn (ls : List (List Et)) : Bool := decide (1 ≤ ls.length) && (decide (ls.length ≤ 4) && ls.all okEs)
theorem fst_all {α : Type} (p : α → Bool) (l : List α) : (l.all p = true) ∨ ∃ q, ∃ h : q < l.length, (l.take q).all p = true ∧ p l[q] = false := by
 induction l with
 | nil => exact .inl rfl
 | cons x l ih =>
  cases hx : p x
  ·exact .inr ⟨0, by simp, by simp, by simpa using hx⟩
  ·rcases ih with h | ⟨q, hq, h1, h2⟩
   ·exact .inl (by simp [hx]; simpa using h)
   ·exact .inr ⟨q + 1, by simp; omega, by simp [hx]; simpa using h1, by simpa using h2⟩
theorem p_bad (e : Et) : PC Try.prog 25 [.agg (Et.av e)] (.v (.bool (!evR e.key e.at'))) := by
 have h := p_Event e.key e.at' e.v
 refine PC.mk (ac_body tab_ok Try.func25 rfl (by kernel_rfl) rfl ?_); intro w0 M μ0; simp only [Try.ntmps25, List.length_cons, List.length_nil, Nat.reduceAdd, Nat.reduceSub, numb]
 repeat' (first | ((first | apply o_do | apply d_do | apply d_yes rfl rfl rfl); first | exact lsc (h) | exact lsq) | refine a_seq ?_ | refine a_region ?_ | refine o_nil ?_ | refine a_block ?_ | refine a_ret ?_ | refine a_exit ?_ | refine a_skip ?_ | refine a_draw mixed ?_ | refine d_nil (by kernel_rfl) ?_ | refine o_yes rfl rfl rfl ?_ | refine o_no rfl rfl rfl (by decide) ?_ | refine o_no' rfl rfl rfl ?_ | refine a_condT rfl ?_ | refine a_condF rfl ?_ | refine d_no rfl rfl rfl (by decide) ?_ | refine d_no' rfl rfl rfl ?_ | (refine wq2 (fun hb => ?_) (fun hb => ?_) <;> (simp only [hb]; try simp only [hbs, ne_eq] at hb; try (exfalso; first | omega | exact hb trivial))) | fail)
 all_goals refine rq rfl ?_
 all_goals exact fnq
theorem p_IdxE (es : List Et) (hx : es.length ≤ 9223372036854775807) : ∃ i : Int, (decide (0 ≤ i) = !es.all fun e => evR e.key e.at') ∧ PC Try.prog 37 [.sl 3 (es.map Et.av), .clo (.func 25) [] []] (.v (.int .i64 i)) := by
 rcases fst_all (fun e : Et => evR e.key e.at') es with hall | ⟨q0, hq0, h1, h2⟩
 ·refine ⟨-1, by rw [hall]; rfl, ?_⟩
  refine PC.mk (ac_body tab_ok Try.func37 rfl (by kernel_rfl) rfl ?_); intro w0 M μ0; simp only [Try.ntmps37, List.length_cons, List.length_nil, Nat.reduceAdd, Nat.reduceSub, numb]
  repeat' (first | ((first | apply o_do | apply d_do | apply d_yes rfl rfl rfl); exact lsq) | refine a_seq ?_ | refine a_region ?_ | refine o_nil ?_ | refine a_block ?_ | refine a_ret ?_ | refine a_exit ?_ | refine a_skip ?_ | refine a_draw mixed ?_ | refine d_nil (by kernel_rfl) ?_ | refine o_yes rfl rfl rfl ?_ | refine o_no rfl rfl rfl (by decide) ?_ | refine o_no' rfl rfl rfl ?_ | refine a_condT rfl ?_ | refine a_condF rfl ?_ | refine d_no rfl rfl rfl (by decide) ?_ | refine d_no' rfl rfl rfl ?_ | (refine wq2 (fun hb => ?_) (fun hb => ?_) <;> (simp only [hb]; try simp only [hbs, ne_eq] at hb; try (exfalso; first | omega | exact hb trivial))) | fail)
  refine a_loop (X := {q : Nat // q ≤ es.length}) (fun x => ⟨[(0, .sl 3 (es.map Et.av)), (1, .clo (.func 25) [] []), (7, .v (.int .i64 es.length)), (8, .v (.int .i64 x.1))], []⟩) (fun x => es.length - x.1) ⟨0, Nat.zero_le _⟩ ?_ ?_
  ·exact wkS
  rintro ⟨q, hq⟩
  dsimp only
  by_cases hlt : q < es.length
  ·have hel : (es.map Et.av)[q]? = some (Et.av es[q]) := by simp [hlt]
   have hbd := p_bad es[q]
   rw [show evR es[q].key es[q].at' = true from List.all_eq_true.1 hall _ (List.getElem_mem hlt)] at hbd
   generalize es[q] = x at *
   repeat' (first | ((first | apply o_do | apply d_do | apply d_yes rfl rfl rfl); first | exact lsc (hbd) | exact lsq) | refine a_seq ?_ | refine a_region ?_ | refine o_nil ?_ | refine a_block ?_ | refine a_ret ?_ | refine a_exit ?_ | refine a_skip ?_ | refine a_draw mixed ?_ | refine d_nil (by kernel_rfl) ?_ | refine o_yes rfl rfl rfl ?_ | refine o_no rfl rfl rfl (by decide) ?_ | refine o_no' rfl rfl rfl ?_ | refine a_condT rfl ?_ | refine a_condF rfl ?_ | refine d_no rfl rfl rfl (by decide) ?_ | refine d_no' rfl rfl rfl ?_ | (refine wq2 (fun hb => ?_) (fun hb => ?_) <;> (simp only [hb]; try simp only [hbs, ne_eq] at hb; try (exfalso; first | omega | exact hb trivial))) | fail)
   refine ⟨⟨q + 1, by omega⟩, by dsimp only; omega, ?_⟩
   exact wkS
  ·repeat' (first | ((first | apply o_do | apply d_do | apply d_yes rfl rfl rfl); exact lsq) | refine a_seq ?_ | refine a_region ?_ | refine o_nil ?_ | refine a_block ?_ | refine a_ret ?_ | refine a_exit ?_ | refine a_skip ?_ | refine a_draw mixed ?_ | refine d_nil (by kernel_rfl) ?_ | refine o_yes rfl rfl rfl ?_ | refine o_no rfl rfl rfl (by decide) ?_ | refine o_no' rfl rfl rfl ?_ | refine a_condT rfl ?_ | refine a_condF rfl ?_ | refine d_no rfl rfl rfl (by decide) ?_ | refine d_no' rfl rfl rfl ?_ | (refine wq2 (fun hb => ?_) (fun hb => ?_) <;> (simp only [hb]; try simp only [hbs, ne_eq] at hb; try (exfalso; first | omega | exact hb trivial))) | fail)
   refine rq rfl ?_
   exact fnq
 ·refine ⟨(q0 : Int), ?_, ?_⟩
  ·have : (es.all fun e => evR e.key e.at') = false := by
    rw [List.all_eq_false]
    exact ⟨es[q0], List.getElem_mem hq0, by simp [h2]⟩
   rw [this]; simp
  refine PC.mk (ac_body tab_ok Try.func37 rfl (by kernel_rfl) rfl ?_); intro w0 M μ0; simp only [Try.ntmps37, List.length_cons, List.length_nil, Nat.reduceAdd, Nat.reduceSub, numb]
  repeat' (first | ((first | apply o_do | apply d_do | apply d_yes rfl rfl rfl); exact lsq) | refine a_seq ?_ | refine a_region ?_ | refine o_nil ?_ | refine a_block ?_ | refine a_ret ?_ | refine a_exit ?_ | refine a_skip ?_ | refine a_draw mixed ?_ | refine d_nil (by kernel_rfl) ?_ | refine o_yes rfl rfl rfl ?_ | refine o_no rfl rfl rfl (by decide) ?_ | refine o_no' rfl rfl rfl ?_ | refine a_condT rfl ?_ | refine a_condF rfl ?_ | refine d_no rfl rfl rfl (by decide) ?_ | refine d_no' rfl rfl rfl ?_ | (refine wq2 (fun hb => ?_) (fun hb => ?_) <;> (simp only [hb]; try simp only [hbs, ne_eq] at hb; try (exfalso; first | omega | exact hb trivial))) | fail)
  refine a_loop (X := {q : Nat // q ≤ q0}) (fun x => ⟨[(0, .sl 3 (es.map Et.av)), (1, .clo (.func 25) [] []), (7, .v (.int .i64 es.length)), (8, .v (.int .i64 x.1))], []⟩) (fun x => es.length - x.1) ⟨0, Nat.zero_le _⟩ ?_ ?_
  ·exact wkS
  rintro ⟨q, hq⟩
  dsimp only
  have hlt : q < es.length := by omega
  have hel : (es.map Et.av)[q]? = some (Et.av es[q]) := by simp [hlt]
  have hbd := p_bad es[q]
  rcases Nat.lt_or_eq_of_le hq with h | h
  ·have hm : es[q] ∈ es.take q0 := by
    rw [List.mem_take_iff_getElem]
    exact ⟨q, by omega, rfl⟩
   rw [show evR es[q].key es[q].at' = true from List.all_eq_true.1 h1 _ hm] at hbd
   generalize es[q] = x at *
   repeat' (first | ((first | apply o_do | apply d_do | apply d_yes rfl rfl rfl); first | exact lsc (hbd) | exact lsq) | refine a_seq ?_ | refine a_region ?_ | refine o_nil ?_ | refine a_block ?_ | refine a_ret ?_ | refine a_exit ?_ | refine a_skip ?_ | refine a_draw mixed ?_ | refine d_nil (by kernel_rfl) ?_ | refine o_yes rfl rfl rfl ?_ | refine o_no rfl rfl rfl (by decide) ?_ | refine o_no' rfl rfl rfl ?_ | refine a_condT rfl ?_ | refine a_condF rfl ?_ | refine d_no rfl rfl rfl (by decide) ?_ | refine d_no' rfl rfl rfl ?_ | (refine wq2 (fun hb => ?_) (fun hb => ?_) <;> (simp only [hb]; try simp only [hbs, ne_eq] at hb; try (exfalso; first | omega | exact hb trivial))) | fail)
   refine ⟨⟨q + 1, by omega⟩, by dsimp only; omega, ?_⟩
   exact wkS
  ·subst h
   rw [show evR es[q].key es[q].at' = false from h2] at hbd
   generalize es[q] = x at *
   repeat' (first | ((first | apply o_do | apply d_do | apply d_yes rfl rfl rfl); first | exact lsc (hbd) | exact lsq) | refine a_seq ?_ | refine a_region ?_ | refine o_nil ?_ | refine a_block ?_ | refine a_ret ?_ | refine a_exit ?_ | refine a_skip ?_ | refine a_draw mixed ?_ | refine d_nil (by kernel_rfl) ?_ | refine o_yes rfl rfl rfl ?_ | refine o_no rfl rfl rfl (by decide) ?_ | refine o_no' rfl rfl rfl ?_ | refine a_condT rfl ?_ | refine a_condF rfl ?_ | refine d_no rfl rfl rfl (by decide) ?_ | refine d_no' rfl rfl rfl ?_ | (refine wq2 (fun hb => ?_) (fun hb => ?_) <;> (simp only [hb]; try simp only [hbs, ne_eq] at hb; try (exfalso; first | omega | exact hb trivial))) | fail)
   refine rq rfl ?_
   exact fnq
theorem p_ConE (es : List Et) (hx : es.length ≤ 9223372036854775807) : PC Try.prog 24 [.sl 3 (es.map Et.av), .clo (.func 25) [] []] (.v (.bool (!es.all fun e => evR e.key e.at'))) := by
 obtain ⟨i, h1, h2⟩ := p_IdxE es hx
 rw [← h1]
 refine PC.mk (ac_body tab_ok Try.func24 rfl (by kernel_rfl) rfl ?_); intro w0 M μ0; simp only [Try.ntmps24, List.length_cons, List.length_nil, Nat.reduceAdd, Nat.reduceSub, numb]
 repeat' (first | ((first | apply o_do | apply d_do | apply d_yes rfl rfl rfl); first | exact lsc (h2) | exact lsq) | refine a_seq ?_ | refine a_region ?_ | refine o_nil ?_ | refine a_block ?_ | refine a_ret ?_ | refine a_exit ?_ | refine a_skip ?_ | refine a_draw mixed ?_ | refine d_nil (by kernel_rfl) ?_ | refine o_yes rfl rfl rfl ?_ | refine o_no rfl rfl rfl (by decide) ?_ | refine o_no' rfl rfl rfl ?_ | refine a_condT rfl ?_ | refine a_condF rfl ?_ | refine d_no rfl rfl rfl (by decide) ?_ | refine d_no' rfl rfl rfl ?_ | (refine wq2 (fun hb => ?_) (fun hb => ?_) <;> (simp only [hb]; try simp only [hbs, ne_eq] at hb; try (exfalso; first | omega | exact hb trivial))) | fail)
 all_goals refine rq rfl ?_
 all_goals exact fnq
theorem p_badEs (es : List Et) (hx : es.length ≤ 9223372036854775807) : PC Try.prog 23 [.sl 3 (es.map Et.av)] (.v (.bool (!okEs es))) := by
 have h := p_ConE es hx
 have hn : (es.map Et.av).length = es.length := List.length_map _
 unfold okEs
 by_cases hl : es.length ≤ 200
 ·rw [decide_eq_true hl, Bool.true_and]
  refine PC.mk (ac_body tab_ok Try.func23 rfl (by kernel_rfl) rfl ?_); intro w0 M μ0; simp only [Try.ntmps23, List.length_cons, List.length_nil, Nat.reduceAdd, Nat.reduceSub, numb]
  repeat' (first | ((first | apply o_do | apply d_do | apply d_yes rfl rfl rfl); first | exact lsc (h) | exact lsq) | refine a_seq ?_ | refine a_region ?_ | refine o_nil ?_ | refine a_block ?_ | refine a_ret ?_ | refine a_exit ?_ | refine a_skip ?_ | refine a_draw mixed ?_ | refine d_nil (by kernel_rfl) ?_ | refine o_yes rfl rfl rfl ?_ | refine o_no rfl rfl rfl (by decide) ?_ | refine o_no' rfl rfl rfl ?_ | refine a_condT rfl ?_ | refine a_condF rfl ?_ | refine d_no rfl rfl rfl (by decide) ?_ | refine d_no' rfl rfl rfl ?_ | (refine wq2 (fun hb => ?_) (fun hb => ?_) <;> (simp only [hb]; try simp only [hbs, ne_eq] at hb; try (exfalso; first | omega | exact hb trivial))) | fail)
  all_goals refine rq rfl ?_
  all_goals exact fnq
 ·rw [decide_eq_false hl, Bool.false_and]
  refine PC.mk (ac_body tab_ok Try.func23 rfl (by kernel_rfl) rfl ?_); intro w0 M μ0; simp only [Try.ntmps23, List.length_cons, List.length_nil, Nat.reduceAdd, Nat.reduceSub, numb]
  repeat' (first | ((first | apply o_do | apply d_do | apply d_yes rfl rfl rfl); first | exact lsc (h) | exact lsq) | refine a_seq ?_ | refine a_region ?_ | refine o_nil ?_ | refine a_block ?_ | refine a_ret ?_ | refine a_exit ?_ | refine a_skip ?_ | refine a_draw mixed ?_ | refine d_nil (by kernel_rfl) ?_ | refine o_yes rfl rfl rfl ?_ | refine o_no rfl rfl rfl (by decide) ?_ | refine o_no' rfl rfl rfl ?_ | refine a_condT rfl ?_ | refine a_condF rfl ?_ | refine d_no rfl rfl rfl (by decide) ?_ | refine d_no' rfl rfl rfl ?_ | (refine wq2 (fun hb => ?_) (fun hb => ?_) <;> (simp only [hb]; try simp only [hbs, ne_eq] at hb; try (exfalso; first | omega | exact hb trivial))) | fail)
  all_goals refine rq rfl ?_
  all_goals exact fnq
end Go.Proofs.Ytlgbadlgfdlheaa
namespace Go.Proofs.Ytlgbadlgfdlheaa
open Go.RowKit
def Small (ls : List (List Et)) : Prop := ls.length ≤ 9223372036854775807 ∧ ∀ es ∈ ls, es.length ≤ 9223372036854775807
theorem p_IdxR (ls : List (List Et)) (hx : Small ls) : ∃ i : Int, (decide (0 ≤ i) = !ls.all okEs) ∧ PC Try.prog 36 [.sl 1 (ls.map inAv), .clo (.func 23) [] []] (.v (.int .i64 i)) := by
 rcases fst_all okEs ls with hall | ⟨q0, hq0, h1, h2⟩
 ·refine ⟨-1, by rw [hall]; rfl, ?_⟩
  refine PC.mk (ac_body tab_ok Try.func36 rfl (by kernel_rfl) rfl ?_); intro w0 M μ0; simp only [Try.ntmps36, List.length_cons, List.length_nil, Nat.reduceAdd, Nat.reduceSub, numb]
  repeat' (first | ((first | apply o_do | apply d_do | apply d_yes rfl rfl rfl); exact lsq) | refine a_seq ?_ | refine a_region ?_ | refine o_nil ?_ | refine a_block ?_ | refine a_ret ?_ | refine a_exit ?_ | refine a_skip ?_ | refine a_draw mixed ?_ | refine d_nil (by kernel_rfl) ?_ | refine o_yes rfl rfl rfl ?_ | refine o_no rfl rfl rfl (by decide) ?_ | refine o_no' rfl rfl rfl ?_ | refine a_condT rfl ?_ | refine a_condF rfl ?_ | refine d_no rfl rfl rfl (by decide) ?_ | refine d_no' rfl rfl rfl ?_ | (refine wq2 (fun hb => ?_) (fun hb => ?_) <;> (simp only [hb]; try simp only [hbs, ne_eq] at hb; try (exfalso; first | omega | exact hb trivial))) | fail)
  refine a_loop (X := {q : Nat // q ≤ ls.length}) (fun x => ⟨[(0, .sl 1 (ls.map inAv)), (1, .clo (.func 23) [] []), (7, .v (.int .i64 ls.length)), (8, .v (.int .i64 x.1))], []⟩) (fun x => ls.length - x.1) ⟨0, Nat.zero_le _⟩ ?_ ?_
  ·exact wkS
  rintro ⟨q, hq⟩
  dsimp only
  have hlx := hx.1
  by_cases hlt : q < ls.length
  ·have hel : (ls.map inAv)[q]? = some (inAv ls[q]) := by simp [hlt]
   have hbd := p_badEs ls[q] (hx.2 _ (List.getElem_mem hlt))
   rw [show okEs ls[q] = true from List.all_eq_true.1 hall _ (List.getElem_mem hlt)] at hbd
   generalize ls[q] = x at *
   repeat' (first | ((first | apply o_do | apply d_do | apply d_yes rfl rfl rfl); first | exact lsc (hbd) | exact lsq) | refine a_seq ?_ | refine a_region ?_ | refine o_nil ?_ | refine a_block ?_ | refine a_ret ?_ | refine a_exit ?_ | refine a_skip ?_ | refine a_draw mixed ?_ | refine d_nil (by kernel_rfl) ?_ | refine o_yes rfl rfl rfl ?_ | refine o_no rfl rfl rfl (by decide) ?_ | refine o_no' rfl rfl rfl ?_ | refine a_condT rfl ?_ | refine a_condF rfl ?_ | refine d_no rfl rfl rfl (by decide) ?_ | refine d_no' rfl rfl rfl ?_ | (refine wq2 (fun hb => ?_) (fun hb => ?_) <;> (simp only [hb]; try simp only [hbs, ne_eq] at hb; try (exfalso; first | omega | exact hb trivial))) | fail)
   refine ⟨⟨q + 1, by omega⟩, by dsimp only; omega, ?_⟩
   exact wkS
  ·repeat' (first | ((first | apply o_do | apply d_do | apply d_yes rfl rfl rfl); exact lsq) | refine a_seq ?_ | refine a_region ?_ | refine o_nil ?_ | refine a_block ?_ | refine a_ret ?_ | refine a_exit ?_ | refine a_skip ?_ | refine a_draw mixed ?_ | refine d_nil (by kernel_rfl) ?_ | refine o_yes rfl rfl rfl ?_ | refine o_no rfl rfl rfl (by decide) ?_ | refine o_no' rfl rfl rfl ?_ | refine a_condT rfl ?_ | refine a_condF rfl ?_ | refine d_no rfl rfl rfl (by decide) ?_ | refine d_no' rfl rfl rfl ?_ | (refine wq2 (fun hb => ?_) (fun hb => ?_) <;> (simp only [hb]; try simp only [hbs, ne_eq] at hb; try (exfalso; first | omega | exact hb trivial))) | fail)
   refine rq rfl ?_
   exact fnq
 ·refine ⟨(q0 : Int), ?_, ?_⟩
  ·have : (ls.all okEs) = false := by
    rw [List.all_eq_false]
    exact ⟨ls[q0], List.getElem_mem hq0, by simp [h2]⟩
   rw [this]; simp
  refine PC.mk (ac_body tab_ok Try.func36 rfl (by kernel_rfl) rfl ?_); intro w0 M μ0; simp only [Try.ntmps36, List.length_cons, List.length_nil, Nat.reduceAdd, Nat.reduceSub, numb]
  repeat' (first | ((first | apply o_do | apply d_do | apply d_yes rfl rfl rfl); exact lsq) | refine a_seq ?_ | refine a_region ?_ | refine o_nil ?_ | refine a_block ?_ | refine a_ret ?_ | refine a_exit ?_ | refine a_skip ?_ | refine a_draw mixed ?_ | refine d_nil (by kernel_rfl) ?_ | refine o_yes rfl rfl rfl ?_ | refine o_no rfl rfl rfl (by decide) ?_ | refine o_no' rfl rfl rfl ?_ | refine a_condT rfl ?_ | refine a_condF rfl ?_ | refine d_no rfl rfl rfl (by decide) ?_ | refine d_no' rfl rfl rfl ?_ | (refine wq2 (fun hb => ?_) (fun hb => ?_) <;> (simp only [hb]; try simp only [hbs, ne_eq] at hb; try (exfalso; first | omega | exact hb trivial))) | fail)
  refine a_loop (X := {q : Nat // q ≤ q0}) (fun x => ⟨[(0, .sl 1 (ls.map inAv)), (1, .clo (.func 23) [] []), (7, .v (.int .i64 ls.length)), (8, .v (.int .i64 x.1))], []⟩) (fun x => ls.length - x.1) ⟨0, Nat.zero_le _⟩ ?_ ?_
  ·exact wkS
  rintro ⟨q, hq⟩
  dsimp only
  have hlx := hx.1
  have hlt : q < ls.length := by omega
  have hel : (ls.map inAv)[q]? = some (inAv ls[q]) := by simp [hlt]
  have hbd := p_badEs ls[q] (hx.2 _ (List.getElem_mem hlt))
  rcases Nat.lt_or_eq_of_le hq with h | h
  ·have hm : ls[q] ∈ ls.take q0 := by
    rw [List.mem_take_iff_getElem]
    exact ⟨q, by omega, rfl⟩
   rw [show okEs ls[q] = true from List.all_eq_true.1 h1 _ hm] at hbd
   generalize ls[q] = x at *
   repeat' (first | ((first | apply o_do | apply d_do | apply d_yes rfl rfl rfl); first | exact lsc (hbd) | exact lsq) | refine a_seq ?_ | refine a_region ?_ | refine o_nil ?_ | refine a_block ?_ | refine a_ret ?_ | refine a_exit ?_ | refine a_skip ?_ | refine a_draw mixed ?_ | refine d_nil (by kernel_rfl) ?_ | refine o_yes rfl rfl rfl ?_ | refine o_no rfl rfl rfl (by decide) ?_ | refine o_no' rfl rfl rfl ?_ | refine a_condT rfl ?_ | refine a_condF rfl ?_ | refine d_no rfl rfl rfl (by decide) ?_ | refine d_no' rfl rfl rfl ?_ | (refine wq2 (fun hb => ?_) (fun hb => ?_) <;> (simp only [hb]; try simp only [hbs, ne_eq] at hb; try (exfalso; first | omega | exact hb trivial))) | fail)
   refine ⟨⟨q + 1, by omega⟩, by dsimp only; omega, ?_⟩
   exact wkS
  ·subst h
   rw [show okEs ls[q] = false from h2] at hbd
   generalize ls[q] = x at *
   repeat' (first | ((first | apply o_do | apply d_do | apply d_yes rfl rfl rfl); first | exact lsc (hbd) | exact lsq) | refine a_seq ?_ | refine a_region ?_ | refine o_nil ?_ | refine a_block ?_ | refine a_ret ?_ | refine a_exit ?_ | refine a_skip ?_ | refine a_draw mixed ?_ | refine d_nil (by kernel_rfl) ?_ | refine o_yes rfl rfl rfl ?_ | refine o_no rfl rfl rfl (by decide) ?_ | refine o_no' rfl rfl rfl ?_ | refine a_condT rfl ?_ | refine a_condF rfl ?_ | refine d_no rfl rfl rfl (by decide) ?_ | refine d_no' rfl rfl rfl ?_ | (refine wq2 (fun hb => ?_) (fun hb => ?_) <;> (simp only [hb]; try simp only [hbs, ne_eq] at hb; try (exfalso; first | omega | exact hb trivial))) | fail)
   refine rq rfl ?_
   exact fnq
theorem p_ConR (ls : List (List Et)) (hx : Small ls) : PC Try.prog 22 [.sl 1 (ls.map inAv), .clo (.func 23) [] []] (.v (.bool (!ls.all okEs))) := by
 obtain ⟨i, h1, h2⟩ := p_IdxR ls hx
 rw [← h1]
 refine PC.mk (ac_body tab_ok Try.func22 rfl (by kernel_rfl) rfl ?_); intro w0 M μ0; simp only [Try.ntmps22, List.length_cons, List.length_nil, Nat.reduceAdd, Nat.reduceSub, numb]
 repeat' (first | ((first | apply o_do | apply d_do | apply d_yes rfl rfl rfl); first | exact lsc (h2) | exact lsq) | refine a_seq ?_ | refine a_region ?_ | refine o_nil ?_ | refine a_block ?_ | refine a_ret ?_ | refine a_exit ?_ | refine a_skip ?_ | refine a_draw mixed ?_ | refine d_nil (by kernel_rfl) ?_ | refine o_yes rfl rfl rfl ?_ | refine o_no rfl rfl rfl (by decide) ?_ | refine o_no' rfl rfl rfl ?_ | refine a_condT rfl ?_ | refine a_condF rfl ?_ | refine d_no rfl rfl rfl (by decide) ?_ | refine d_no' rfl rfl rfl ?_ | (refine wq2 (fun hb => ?_) (fun hb => ?_) <;> (simp only [hb]; try simp only [hbs, ne_eq] at hb; try (exfalso; first | omega | exact hb trivial))) | fail)
 all_goals refine rq rfl ?_
 all_goals exact fnq
theorem j_Inputs (ls : List (List Et)) (hx : Small ls) : PC Try.prog 13 [.sl 1 (ls.map inAv)] (.v (.bool (okIn ls))) := by
 have h := p_ConR ls hx
 have hn : (ls.map inAv).length = ls.length := List.length_map _
 unfold okIn
 by_cases h1 : 1 ≤ ls.length ∧ ls.length ≤ 4
 ·rw [decide_eq_true h1.1, decide_eq_true h1.2, Bool.true_and, Bool.true_and]
  obtain ⟨h1, h2⟩ := h1
  refine PC.mk (ac_body tab_ok Try.func13 rfl (by kernel_rfl) rfl ?_); intro w0 M μ0; simp only [Try.ntmps13, List.length_cons, List.length_nil, Nat.reduceAdd, Nat.reduceSub, numb]
  repeat' (first | ((first | apply o_do | apply d_do | apply d_yes rfl rfl rfl); first | exact lsc (h) | exact lsq) | refine a_seq ?_ | refine a_region ?_ | refine o_nil ?_ | refine a_block ?_ | refine a_ret ?_ | refine a_exit ?_ | refine a_skip ?_ | refine a_draw mixed ?_ | refine d_nil (by kernel_rfl) ?_ | refine o_yes rfl rfl rfl ?_ | refine o_no rfl rfl rfl (by decide) ?_ | refine o_no' rfl rfl rfl ?_ | refine a_condT rfl ?_ | refine a_condF rfl ?_ | refine d_no rfl rfl rfl (by decide) ?_ | refine d_no' rfl rfl rfl ?_ | (refine wq2 (fun hb => ?_) (fun hb => ?_) <;> (simp only [hb]; try simp only [hbs, ne_eq] at hb; try (exfalso; first | omega | exact hb trivial))) | fail)
  all_goals refine rq rfl ?_
  all_goals (first | refine FinA.tup ?_ | refine FinA.one ?_); repeat' (first | exact FinBs.nil | exact FinCs.nil | refine FinBs.cons ?_ ?_ | refine FinCs.cons ?_ ?_ | refine FinB.cell (FinC.v ?_) | refine FinB.cell (FinC.own rfl rfl rfl ?_) | exact FinB.cell FinC.nil | refine FinB.cell (FinC.sl ?_) | exact FinB.agg' rfl rfl | exact FinB.cell (FinC.same rfl) | refine FinB.agg ?_ | refine FinC.v ?_ | refine FinC.own rfl rfl rfl ?_ | exact FinC.nil | refine FinC.sl ?_ | exact FinC.same rfl); all_goals try rfl
  all_goals simp
 ·rw [show (decide (1 ≤ ls.length) && (decide (ls.length ≤ 4) && ls.all okEs)) = false by
   by_cases h2 : 1 ≤ ls.length
   ·rw [decide_eq_false (fun h => h1 ⟨h2, h⟩)]; simp
   ·rw [decide_eq_false h2]; simp]
  by_cases h2 : ls.length < 1
  ·refine PC.mk (ac_body tab_ok Try.func13 rfl (by kernel_rfl) rfl ?_); intro w0 M μ0; simp only [Try.ntmps13, List.length_cons, List.length_nil, Nat.reduceAdd, Nat.reduceSub, numb]
   repeat' (first | ((first | apply o_do | apply d_do | apply d_yes rfl rfl rfl); first | exact lsc (h) | exact lsq) | refine a_seq ?_ | refine a_region ?_ | refine o_nil ?_ | refine a_block ?_ | refine a_ret ?_ | refine a_exit ?_ | refine a_skip ?_ | refine a_draw mixed ?_ | refine d_nil (by kernel_rfl) ?_ | refine o_yes rfl rfl rfl ?_ | refine o_no rfl rfl rfl (by decide) ?_ | refine o_no' rfl rfl rfl ?_ | refine a_condT rfl ?_ | refine a_condF rfl ?_ | refine d_no rfl rfl rfl (by decide) ?_ | refine d_no' rfl rfl rfl ?_ | (refine wq2 (fun hb => ?_) (fun hb => ?_) <;> (simp only [hb]; try simp only [hbs, ne_eq] at hb; try (exfalso; first | omega | exact hb trivial))) | fail)
   all_goals refine rq rfl ?_
   all_goals exact fnq
  ·have h3 : 4 < ls.length := by omega
   refine PC.mk (ac_body tab_ok Try.func13 rfl (by kernel_rfl) rfl ?_); intro w0 M μ0; simp only [Try.ntmps13, List.length_cons, List.length_nil, Nat.reduceAdd, Nat.reduceSub, numb]
   repeat' (first | ((first | apply o_do | apply d_do | apply d_yes rfl rfl rfl); first | exact lsc (h) | exact lsq) | refine a_seq ?_ | refine a_region ?_ | refine o_nil ?_ | refine a_block ?_ | refine a_ret ?_ | refine a_exit ?_ | refine a_skip ?_ | refine a_draw mixed ?_ | refine d_nil (by kernel_rfl) ?_ | refine o_yes rfl rfl rfl ?_ | refine o_no rfl rfl rfl (by decide) ?_ | refine o_no' rfl rfl rfl ?_ | refine a_condT rfl ?_ | refine a_condF rfl ?_ | refine d_no rfl rfl rfl (by decide) ?_ | refine d_no' rfl rfl rfl ?_ | (refine wq2 (fun hb => ?_) (fun hb => ?_) <;> (simp only [hb]; try simp only [hbs, ne_eq] at hb; try (exfalso; first | omega | exact hb trivial))) | fail)
   all_goals refine rq rfl ?_
   all_goals exact fnq
def checkN (g s d k fu li de id : Int) (ls : List (List Et)) : Int := if jobOK g s d k fu li de id = false then 130 else if okIn ls = false then 1 else 0
theorem m_check (g s d k fu li de id : Int) (ls : List (List Et)) (hx : Small ls) : PC Try.prog 7 [.agg [.v (.int .i64 g), .v (.int .i64 s), .v (.int .i64 d), .v (.int .i64 k), .v (.int .i64 fu), .v (.int .i64 li), .v (.int .i64 de), .v (.int .i64 id)], .sl 1 (ls.map inAv)] (.v (.int .i64 (checkN g s d k fu li de id ls))) := by
 have h1 := j_Right g s d k fu li de id
 have h2 := j_Inputs ls hx
 unfold checkN
 cases hj : jobOK g s d k fu li de id <;> cases hi : okIn ls
 all_goals
  rw [hj] at h1
  rw [hi] at h2
  refine PC.mk (ac_body tab_ok Try.func7 rfl (by kernel_rfl) rfl ?_); intro w0 M μ0; simp only [Try.ntmps7, List.length_cons, List.length_nil, Nat.reduceAdd, Nat.reduceSub, numb]
  repeat' (first | ((first | apply o_do | apply d_do | apply d_yes rfl rfl rfl); first | exact lsc (h1) | exact lsc (h2) | exact lsq) | refine a_seq ?_ | refine a_region ?_ | refine o_nil ?_ | refine a_block ?_ | refine a_ret ?_ | refine a_exit ?_ | refine a_skip ?_ | refine a_draw mixed ?_ | refine d_nil (by kernel_rfl) ?_ | refine o_yes rfl rfl rfl ?_ | refine o_no rfl rfl rfl (by decide) ?_ | refine o_no' rfl rfl rfl ?_ | refine a_condT rfl ?_ | refine a_condF rfl ?_ | refine d_no rfl rfl rfl (by decide) ?_ | refine d_no' rfl rfl rfl ?_ | (refine wq2 (fun hb => ?_) (fun hb => ?_) <;> (simp only [hb]; try simp only [hbs, ne_eq] at hb; try (exfalso; first | omega | exact hb trivial))) | fail)
  all_goals refine rq rfl ?_
  all_goals exact fnq
end Go.Proofs.Ytlgbadlgfdlheaa
namespace Go.Proofs.Ytlgbadlgfdlheaa
open Go.RowKit Go.WideShapes Go.ChangeShapes Go.ChangeAt
set_option maxRecDepth 100000
theorem el_EtR {H : Type} {enc : TypeId × Value → H} {w : World} (m : Nat) (cs : List Value) (y : DataW H × List MemPlace) (hl : cs.length = 3) (ht : DataW.trod enc Try.prog w 0 (fun _ => true) true m 49 cs = some y) : ∃ x : Et, cs = x.cells ∧ (-9223372036854775808 ≤ x.v ∧ x.v ≤ 9223372036854775807) := by
 obtain ⟨key, a, v, rfl, h⟩ := rd_Ev ht
 exact ⟨⟨key, a, v⟩, rfl, h.2.2⟩
theorem open_etsR_arg {H : Type} {enc : TypeId × Value → H} {w : World} {b0 : Nat} {v : Value} {d : DataW H} {ps : List MemPlace} (hv : Value.okWide Try.prog w .any b0 25 v) (h : DataW.Trod enc Try.prog w 0 (fun _ => true) true 25 v d ps) :
  ∃ xs : List Et, xs.length ≤ 9223372036854775807 ∧ (∀ e ∈ xs, -9223372036854775808 ≤ e.v ∧ e.v ≤ 9223372036854775807) ∧ rep [] (fun _ => undef) w (fun _ => False) (.sl 3 (xs.map Et.av)) v := by
 obtain ⟨A, n, c, xs, rfl, h2, h3, h4, h5, h6⟩ := open_rows_arg Et.cells (fun x => -9223372036854775808 ≤ x.v ∧ x.v ≤ 9223372036854775807) Try.underlying25 (by kernel_rfl : Try.prog.cellsOf 49 = 3) (by omega) el_EtR hv h
 exact ⟨xs, by omega, h6, rep_sl Et.cells Et.av h5 h4 h2 h3 (fun _ => rfl) (fun x _ => repC_con (cs := Et.cells x) rfl)⟩
def InOk (w : World) (x : Value × List Et) : Prop := x.2.length ≤ 9223372036854775807 ∧ (∀ e ∈ x.2, -9223372036854775808 ≤ e.v ∧ e.v ≤ 9223372036854775807) ∧ x.1.oneCell' = true ∧ rep [] (fun _ => undef) w (fun _ => False) (.sl 3 (x.2.map Et.av)) x.1
theorem el_In {H : Type} {enc : TypeId × Value → H} {w : World} (m : Nat) (cs : List Value) (y : DataW H × List MemPlace) (hl : cs.length = 1) (ht : DataW.trod enc Try.prog w 0 (fun _ => true) true m 25 cs = some y) : ∃ x : Value × List Et, cs = [x.1] ∧ InOk w x := by
 obtain ⟨A, n, c, xs, h1, h2, h3, h4, h5, h6⟩ := open_rows Et.cells (fun x => -9223372036854775808 ≤ x.v ∧ x.v ≤ 9223372036854775807) Try.underlying25 (by kernel_rfl : Try.prog.cellsOf 49 = 3) (by omega) el_EtR ht
 exact ⟨(.slice A n c, xs), h1, by dsimp only; omega, h6, rfl, rep_sl Et.cells Et.av h5 h4 h2 h3 (fun _ => rfl) (fun x _ => repC_con (cs := Et.cells x) rfl)⟩
theorem open_ins_arg {H : Type} {enc : TypeId × Value → H} {w : World} {b0 : Nat} {v : Value} {d : DataW H} {ps : List MemPlace} (hv : Value.okWide Try.prog w .any b0 24 v) (h : DataW.Trod enc Try.prog w 0 (fun _ => true) true 24 v d ps) :
  ∃ ls : List (List Et), Small ls ∧ (∀ es ∈ ls, ∀ e ∈ es, -9223372036854775808 ≤ e.v ∧ e.v ≤ 9223372036854775807) ∧ rep [] (fun _ => undef) w (fun _ => False) (.sl 1 (ls.map inAv)) v := by
 obtain ⟨A, n, c, xs, rfl, h2, h3, h4, h5, h6⟩ := open_rows_arg (fun x : Value × List Et => [x.1]) (InOk w) Try.underlying24 (by kernel_rfl : Try.prog.cellsOf 25 = 1) (by omega) el_In hv h
 refine ⟨xs.map Prod.snd, ⟨by rw [List.length_map]; omega, fun es he => ?_⟩, fun es he => ?_, ?_⟩
 ·obtain ⟨x, h7, rfl⟩ := List.mem_map.1 he; exact (h6 x h7).1
 ·obtain ⟨x, h7, rfl⟩ := List.mem_map.1 he; exact (h6 x h7).2.1
 ·rw [List.map_map]
  refine rep_sl (fun x : Value × List Et => [x.1]) (inAv ∘ Prod.snd) h5 h4 h2 h3 (fun _ => rfl) (fun x hx => ?_)
  obtain ⟨_, _, h7, h8⟩ := h6 x hx
  simp only [Function.comp, inAv, repC]
  exact ⟨_, _, rfl, h7, h8, rfl⟩
end Go.Proofs.Ytlgbadlgfdlheaa
namespace Go.Proofs.Ytlgbadlgfdlheaa
open Go.RowKit

def TurnO (O : Nat → Prop) (W W' : World) : Prop := W'.os = W.os ∧ W'.tape = W.tape ∧ W'.output = W.output ∧ W.heap.size ≤ W'.heap.size ∧ ∀ k, k < W.heap.size → ¬ O k → W'.heap[k]? = W.heap[k]?
theorem TurnO.refl (O : Nat → Prop) (W : World) : TurnO O W W := ⟨rfl, rfl, rfl, Nat.le_refl _, fun _ _ _ => rfl⟩
theorem TurnO.mono {O O' : Nat → Prop} {W W' : World} (h : TurnO O W W') (ho : ∀ k, O k → O' k) : TurnO O' W W' := ⟨h.1, h.2.1, h.2.2.1, h.2.2.2.1, fun k hk hn => h.2.2.2.2 k hk fun hc => hn (ho k hc)⟩
theorem TurnO.alloc (O : Nat → Prop) (W : World) (o : Obj) : TurnO O W (W.alloc o) := ⟨rfl, rfl, rfl, by simp, fun k hk _ => Below.heap_alloc W o k hk⟩
theorem TurnO.trans {O O' : Nat → Prop} {A B C : World} (h : TurnO O A B) (k : TurnO O' B C) (hO : ∀ j, O' j → O j ∨ A.heap.size ≤ j) : TurnO O A C :=
 ⟨k.1.trans h.1, k.2.1.trans h.2.1, k.2.2.1.trans h.2.2.1, Nat.le_trans h.2.2.2.1 k.2.2.2.1, fun j hj hn => (k.2.2.2.2 j (Nat.lt_of_lt_of_le hj h.2.2.2.1) (fun hc => (hO j hc).elim hn (fun h => absurd hj (by omega)))).trans (h.2.2.2.2 j hj hn)⟩
theorem TurnO.below {O : Nat → Prop} {W W' : World} (h : Below W.heap.size W W') : TurnO O W W' := ⟨h.os, h.tape, h.output, h.size, fun k hk _ => h.block k hk⟩
theorem TurnO.grown {O : Nat → Prop} {W W' : World} {r : Option Nat} (h : W.grownBy W' r) (ho : ∀ k, r = some k → O k) : TurnO O W W' := ⟨h.os, h.tape, h.output, h.size, fun k hk hn => h.block k hk (fun e => hn (ho k e.symm))⟩
theorem TurnO.put {O : Nat → Prop} (W : World) {l : Nat} (o : Obj) (ho : O l) : TurnO O W (W.putObj l o) := TurnO.grown (grownBy_putObj' W l o) (fun k e => by cases e; exact ho)
def Goes (n : Nat) (J : (Nat → Prop) → Nat → World → Prop) : Prop :=
 ∀ (O O' : Nat → Prop) i W W', (∀ k, O k → n ≤ k) → J O i W → TurnO O W W' → (∀ k, O k → O' k) → (∀ k, O' k → O k ∨ (W.heap.size ≤ k ∧ k < W'.heap.size)) → J O' i W'
def KO (A O : Nat → Prop) (n : Nat) (W W' : World) : Prop := W.heap.size ≤ W'.heap.size ∧ ∀ k, (k < n ∧ ¬ A k) ∨ O k → W'.heap[k]? = W.heap[k]?
theorem KO.refl (A O : Nat → Prop) (n : Nat) (W : World) : KO A O n W W := ⟨Nat.le_refl _, fun _ _ => rfl⟩
theorem KO.trans {A O : Nat → Prop} {n : Nat} {X Y Z : World} (h : KO A O n X Y) (k : KO A O n Y Z) : KO A O n X Z := ⟨Nat.le_trans h.1 k.1, fun j hj => (k.2 j hj).trans (h.2 j hj)⟩
def KX (O : Nat → Prop) (m : Nat) (W W' : World) : Prop := m ≤ W'.heap.size ∧ ∀ k, O k → W'.heap[k]? = W.heap[k]?
def SeqO (P : Program) (g : FuncId) (lb : Array Value) (A : Nat → Prop) (xs : List (Array Value)) (w : World) : Prop :=
 ∀ (l : Nat) (J Jx : (Nat → Prop) → Nat → World → Prop), Goes w.heap.size J → Goes w.heap.size Jx →
  (∀ (O : Nat → Prop) i x W1, (∀ k, O k → w.heap.size ≤ k) → J O i W1 → xs[i]? = some x → YieldAt Fence.wide 0 P l x W1 fun e W' =>
   (e = .returned (.bool true) ∧ J O (i + 1) W' ∧ KO A O w.heap.size W1 W') ∨ (e = .returned (.bool false) ∧ Jx O (i + 1) W' ∧ KX O W1.heap.size W1 W')) →
  J (fun _ => False) 0 w →
  Calls P g (#[.func (.yield l) #[] #[]] ++ lb) w fun e W' => (∃ v, e = .returned v) ∧ ∃ O : Nat → Prop, (∀ k, O k → w.heap.size ≤ k) ∧ (J O xs.length W' ∨ ∃ i, Jx O i W')
def KB (A O : Nat → Prop) (n m : Nat) (W W' : World) : Prop := m ≤ W'.heap.size ∧ ∀ k, (k < n ∧ ¬ A k) ∨ O k → W'.heap[k]? = W.heap[k]?
def roundO (A O : Nat → Prop) (n m : Nat) (W : World) (I : World → Prop) (Ix : Code → World → Prop) : Exit → Act → World → Prop
 | .normal, _, W' => KB A O n m W W' ∧ I W'
 | .ret, _, W' => KX O m W W' ∧ Ix .ret W'
 | .exit id, _, W' => KX O m W W' ∧ Ix (.exit id) W'
 | .goto t, _, W' => KX O m W W' ∧ Ix (.goto t) W'
 | .panic _, _, _ => False
 | .outgrown, _, _ => False
section
variable {P : Program}
theorem wp_rangeO {g : Operand} {ps : Array Tmp} {assign body : Code} {Q : Exit → Act → World → Prop} {a : Act} {w : World} {gf : Nat} {lb : Array Value}
  (hg : a.eval g = .func (.func gf) #[] lb) (eg : ∀ args w, (callFunc gf args).run P w = .ok (.enter gf args) w)
  {A : Nat → Prop} (hA : ∀ k, A k → k < w.heap.size) {xs : List (Array Value)} (hseq : ∀ r, SeqO P gf lb A xs ((w.alloc (.deferred (some []))).alloc (.loop r))) (hps : ∀ x ∈ xs, x.size = ps.size)
  (I : (Nat → Prop) → Nat → World → Prop) (Ix : Code → (Nat → Prop) → World → Prop) (hI : Goes w.heap.size I) (hIx : ∀ c, Goes w.heap.size (fun O _ => Ix c O)) (h0 : I (fun _ => False) 0 w)
  (hround : ∀ (L : Nat) (O : Nat → Prop) i x W, O L → (∀ k, O k → w.heap.size ≤ k) → I O i W → xs[i]? = some x →
   assign.wpIn (Fence.wide.inRound L) 0 P (Exit.then (fun a1 W1 => KO A O w.heap.size W W1 ∧ ∀ r, body.wpIn (Fence.wide.inRound L) 0 P (roundO A O w.heap.size W.heap.size (W1.putObj L (.loop r)) (I O (i + 1)) (fun c => Ix c O)) a1 (W1.putObj L (.loop r))) (fun _ _ _ => False))
    { tmps := (ps.zip x).foldl (fun t (p, v) => t.setIfInBounds p v) a.tmps, defers := [] } W)
  (hdone : ∀ (O : Nat → Prop) W, (∀ k, O k → w.heap.size ≤ k) → O w.heap.size → I O xs.length W → W.heap[w.heap.size]? = some (.deferred (some [])) → Q .normal { a with defers := { target := .collected w.heap.size, args := #[] } :: a.defers } W)
  (hstop : ∀ (O : Nat → Prop) c W, (∀ k, O k → w.heap.size ≤ k) → O w.heap.size → Ix c O W → W.heap[w.heap.size]? = some (.deferred (some [])) → c.wpIn Fence.wide 0 P Q { a with defers := { target := .collected w.heap.size, args := #[] } :: a.defers } W) :
  (Code.rangeFunc g ps assign body).wpIn Fence.wide 0 P Q a w := by
 refine wpIn_rangeFunc ?_
 intro fn hfn
 obtain ⟨rec, hrec⟩ : ∃ rec : LoopState → Option Code → Loop, rec = fun st pe => { state := st, pending := pe, fn, tmps := a.tmps, params := ps, assign, body, defers := w.heap.size } := ⟨_, rfl⟩
 obtain ⟨D, hD⟩ : ∃ D, D = w.heap.size := ⟨_, rfl⟩
 obtain ⟨L, hL⟩ : ∃ L, L = w.heap.size + 1 := ⟨_, rfl⟩
 obtain ⟨W1, hW1⟩ : ∃ W1, (w.alloc (.deferred (some []))).alloc (.loop (rec .ready none)) = W1 := ⟨_, rfl⟩
 have hs1 : W1.heap.size = w.heap.size + 2 := by rw [← hW1]; simp
 have hL1 : W1.heap[L]? = some (.loop (rec .ready none)) := by
  rw [← hW1, hL]; have := World.alloc_heap_new (w.alloc (.deferred (some []))) (.loop (rec .ready none)); rwa [World.size_alloc] at this
 have hK1 : W1.heap[D]? = some (.deferred (some [])) := by
  rw [← hW1, hD]; exact (Below.heap_alloc _ _ _ (by simp)).trans (World.alloc_heap_new w _)
 have ht1 : TurnO (fun _ => False) w W1 := by rw [← hW1]; exact (TurnO.alloc _ _ _).trans (TurnO.alloc (fun _ => False) _ _) (fun _ h => h.elim)
 obtain ⟨full, hfull⟩ : ∃ full : (Nat → Prop) → Nat → Prop, full = fun O k => O k ∨ k = D ∨ k = L := ⟨_, rfl⟩
 have hfD : ∀ O, full O D := fun O => by rw [hfull]; exact .inr (.inl rfl)
 have hfL : ∀ O, full O L := fun O => by rw [hfull]; exact .inr (.inr rfl)
 have hfO : ∀ O k, O k → full O k := fun O k h => by rw [hfull]; exact .inl h
 have hge : ∀ O : Nat → Prop, (∀ k, O k → W1.heap.size ≤ k) → ∀ k, full O k → w.heap.size ≤ k := fun O ho k hk => by
  rw [hfull] at hk
  rcases hk with h | h | h
  ·have := ho k h; omega
  ·omega
  ·omega
 have hI1 : I (full fun _ => False) 0 W1 := hI _ _ _ _ _ (fun _ h => h.elim) h0 ht1 (fun _ h => h.elim) (fun k hk => by
  rw [hfull] at hk
  rcases hk with h | h | h
  ·exact h.elim
  ·right; omega
  ·right; omega)
 refine ⟨L, [{ target := .collected w.heap.size, args := #[] }], W1, { target := .fn (.func gf) lb, args := #[.func (.yield L) #[] #[]] }, W1, gf,
  #[.func (.yield L) #[] #[]] ++ lb, W1, ?_, ?_, ?_, ?_, fun h => (by cases h), ?_⟩
 ·rw [← hW1, hrec, hL]; exact run_enterLoop_outer _ _ _ _ _
 ·simp only [resolve, hg]
  simp [go_sem]
 ·intro f' hf'; trivial
 ·simp [invoke, go_sem, eg]
 ·have hgoes : ∀ (I' : (Nat → Prop) → Nat → World → Prop) (r : Loop), Goes w.heap.size I' → Goes W1.heap.size (fun O i W => I' (full O) i W ∧ W.heap[L]? = some (.loop r) ∧ W.heap[D]? = some (.deferred (some []))) := by
   intro I' r hI' O O' i X Y ho hs ht hsub hnew
   have hnD : ¬ O D := fun h => by have := ho D h; omega
   have hnL : ¬ O L := fun h => by have := ho L h; omega
   refine ⟨hI' (full O) (full O') i X Y (hge O ho) hs.1 (ht.mono (hfO O)) (fun k hk => ?_) (fun k hk => ?_), (ht.2.2.2.2 L (Array.getElem?_eq_some_iff.1 hs.2.1).1 hnL).trans hs.2.1, (ht.2.2.2.2 D (Array.getElem?_eq_some_iff.1 hs.2.2).1 hnD).trans hs.2.2⟩
   ·rw [hfull] at hk ⊢; exact hk.imp (hsub k) id
   ·rw [hfull] at hk ⊢
    rcases hk with h | h
    ·exact (hnew k h).imp .inl id
    ·exact .inl (.inr h)
  have hq := hseq (rec .ready none)
  rw [hW1] at hq
  refine callsIn_wide.2 ((hq L
   (fun O i W => I (full O) i W ∧ W.heap[L]? = some (.loop (rec .ready none)) ∧ W.heap[D]? = some (.deferred (some [])))
   (fun O i W => ∃ c, Ix c (full O) W ∧ W.heap[L]? = some (.loop (rec .done (some c))) ∧ W.heap[D]? = some (.deferred (some [])))
   (hgoes I _ hI)
   (by
    intro O O' i X Y ho hs ht hsub hnew
    obtain ⟨c, hc⟩ := hs
    exact ⟨c, hgoes (fun O _ => Ix c O) _ (hIx c) O O' i X Y ho hc ht hsub hnew⟩)
   ?_ ⟨hI1, hL1, hK1⟩).mono ?_)
  ·
   rintro O i x W ho ⟨hi, hl, hk⟩ hx
   have hnD : ¬ O D := fun h => by have := ho D h; omega
   have hnL : ¬ O L := fun h => by have := ho L h; omega
   have hlt : L < W.heap.size := (Array.getElem?_eq_some_iff.1 hl).1
   have hy := run_yield (P := P) (args := x) hl (by rw [hrec]; exact hps x (List.mem_of_getElem? hx))
   rw [hrec] at hy
   refine ⟨fn, _, assign, body, hy, roundIn_of_wpIn hfn (wpIn_mono (hround L (full O) i x W (hfL O) (hge O ho) hi hx) ?_)⟩
   clear hy
   rintro e a1 Wa hp
   cases e with
   | normal =>
    obtain ⟨hka, hbody⟩ := hp
    have hla : Wa.heap[L]? = some (.loop (rec .ready none)) := (hka.2 L (.inr (hfL O))).trans hl
    have hlta : L < Wa.heap.size := (Array.getElem?_eq_some_iff.1 hla).1
    refine ⟨_, run_beginRound hla (by rw [hrec]), ?_⟩
    obtain ⟨W2, hW2⟩ : ∃ W2, W2 = Wa.putObj L (.loop { rec .ready none with state := .busy }) := ⟨_, rfl⟩
    have hb := hbody { rec .ready none with state := .busy }
    rw [← hW2] at hb ⊢
    have hl2 : W2.heap[L]? = some (.loop { rec .ready none with state := .busy }) := by rw [hW2]; exact World.putObj_heap_same hlta
    have ho2 : ∀ k, k ≠ L → W2.heap[k]? = Wa.heap[k]? := fun k hk => by rw [hW2]; exact World.putObj_heap_other hk
    have hsz2 : W2.heap.size = Wa.heap.size := by rw [hW2]; simp
    have fin : ∀ (jump : Option Code) (W3 : World), KX (full O) W.heap.size W2 W3 →
      (Instr.endRound L jump).run P W3 = .ok (.bool jump.isNone) (W3.putObj L (.loop (rec (if jump.isNone then .ready else .done) jump))) ∧
      (W3.putObj L (.loop (rec (if jump.isNone then .ready else .done) jump))).heap[L]? = some (.loop (rec (if jump.isNone then .ready else .done) jump)) ∧
      (W3.putObj L (.loop (rec (if jump.isNone then .ready else .done) jump))).heap[D]? = some (.deferred (some [])) ∧
      TurnO (full O) W3 (W3.putObj L (.loop (rec (if jump.isNone then .ready else .done) jump))) := fun jump W3 hk3 => by
     have hl3 := (hk3.2 L (hfL O)).trans hl2
     have := run_endRound (P := P) jump hl3
     rw [hrec] at this ⊢
     refine ⟨this, World.putObj_heap_same (Array.getElem?_eq_some_iff.1 hl3).1, (World.putObj_heap_other (by omega)).trans ?_, TurnO.put _ _ (hfL O)⟩
     exact (hk3.2 D (hfD O)).trans ((ho2 D (by omega)).trans ((hka.2 D (.inr (hfD O))).trans hk))
    have stay : ∀ (o : Obj) (W3 : World), KX (full O) W.heap.size W2 W3 → KX O W.heap.size W (W3.putObj L o) := fun o W3 hk3 => by
     refine ⟨by have := hk3.1; simp; omega, fun k hk' => ?_⟩
     have e : k ≠ L := by rintro rfl; exact hnL hk'
     rw [World.putObj_heap_other e]
     exact (hk3.2 k (hfO O k hk')).trans ((ho2 k e).trans (hka.2 k (.inr (hfO O k hk'))))
    have keep : ∀ {X Y : World} (I' : (Nat → Prop) → Nat → World → Prop), Goes w.heap.size I' → ∀ j, I' (full O) j X → TurnO (full O) X Y → I' (full O) j Y := fun I' hI' j h ht => hI' _ _ _ _ _ (hge O ho) h ht (fun _ h => h) (fun _ h => .inl h)
    refine wpIn_mono hb ?_
    rintro e a3 W3 hp
    cases e with
    | normal =>
     obtain ⟨hk3, hi3⟩ := hp
     obtain ⟨hr, hl4, hk4, ht4⟩ := fin none W3 ⟨hk3.1, fun k h => hk3.2 k (.inr h)⟩
     refine ⟨_, _, hr, .inl ⟨rfl, ⟨keep I hI _ hi3 ht4, hl4, hk4⟩, by have := hk3.1; simp; omega, fun k hk' => ?_⟩⟩
     by_cases e : k = L
     ·subst e; exact hl4.trans hl.symm
     ·rw [World.putObj_heap_other e]
      have hk'' : (k < w.heap.size ∧ ¬ A k) ∨ full O k := by
       rcases hk' with ⟨h1, h2⟩ | h
       ·by_cases e2 : k = D
        ·subst e2; exact .inr (hfD O)
        ·exact .inl ⟨by omega, h2⟩
       ·exact .inr (hfO O k h)
      exact (hk3.2 k hk'').trans ((ho2 k e).trans (hka.2 k hk''))
    | ret =>
     obtain ⟨hk3, hi3⟩ := hp
     obtain ⟨hr, hl4, hk4, ht4⟩ := fin (some .ret) W3 hk3
     exact ⟨_, _, hr, .inr ⟨rfl, ⟨.ret, keep (fun O _ => Ix .ret O) (hIx _) 0 hi3 ht4, hl4, hk4⟩, stay _ _ hk3⟩⟩
    | exit id =>
     obtain ⟨hk3, hi3⟩ := hp
     obtain ⟨hr, hl4, hk4, ht4⟩ := fin (some (.exit id)) W3 hk3
     exact ⟨_, _, hr, .inr ⟨rfl, ⟨.exit id, keep (fun O _ => Ix (.exit id) O) (hIx _) 0 hi3 ht4, hl4, hk4⟩, stay _ _ hk3⟩⟩
    | goto t =>
     obtain ⟨hk3, hi3⟩ := hp
     obtain ⟨hr, hl4, hk4, ht4⟩ := fin (some (.goto t)) W3 hk3
     exact ⟨_, _, hr, .inr ⟨rfl, ⟨.goto t, keep (fun O _ => Ix (.goto t) O) (hIx _) 0 hi3 ht4, hl4, hk4⟩, stay _ _ hk3⟩⟩
    | panic ch => exact hp.elim
    | outgrown => exact hp.elim
   | _ => exact hp.elim
  ·
   rintro e W2 ⟨⟨v, rfl⟩, O, ho, (⟨hi, hl, hk⟩ | ⟨i, c, hi, hl, hk⟩)⟩
   ·refine ⟨none, _, by have := run_endLoop (P := P) hl (by rw [hrec]; simp); rw [hrec] at this; exact this, hdone (full O) _ (hge O ho) (by rw [← hD]; exact hfD O) (hI _ _ _ _ _ (hge O ho) hi (TurnO.put _ _ (hfL O)) (fun _ h => h) (fun _ h => .inl h)) (by rw [← hD]; exact (World.putObj_heap_other (by omega)).trans hk)⟩
   ·refine ⟨some c, _, by have := run_endLoop (P := P) hl (by rw [hrec]; simp); rw [hrec] at this; exact this, hstop (full O) c _ (hge O ho) (by rw [← hD]; exact hfD O) ((hIx c) _ _ i _ _ (hge O ho) hi (TurnO.put _ _ (hfL O)) (fun _ h => h) (fun _ h => .inl h)) (by rw [← hD]; exact (World.putObj_heap_other (by omega)).trans hk)⟩
end
end Go.Proofs.Ytlgbadlgfdlheaa
namespace Go.Proofs.Ytlgbadlgfdlheaa
open Go.RowKit

def SeqAV (P : Program) (gf : FuncId) (caps : List AV) (xs : List (Array Value)) : Prop :=
 CallOK P gf ∧ caps.all pureB = true ∧ ∀ (w : World) (A : Nat → Prop) (μ : Nat → Value) (ks : List Value), (∀ k, A k → k < w.heap.size) → repL [] μ w A caps ks → SeqO P gf ks.toArray A xs w
section
variable {σ σ' : Store} {μ μ' : Nat → Value} {w w' w0 : World} {M O O' : Nat → Prop} {σ0 : Store} {μ0 : Nat → Value}
theorem run_enterOK {P : Program} {f : FuncId} (h : CallOK P f) (args : Array Value) (w : World) : (callFunc f args).run P w = .ok (.enter f args) w := by
 obtain ⟨fn, h1, h2, h3⟩ := h
 have h2' : ¬ fn.name = "runtime.NumGoroutine" := by simpa using h2
 have h3' : fn.body ≠ none := by
  intro h; rw [h] at h3; cases h3
 simp [callFunc, h1, h2', h3']
theorem gro_turn (h : Gro σ0 μ0 w0 σ μ w) (ht : TurnO O w w') (ho : ∀ k, O k → w0.heap.size ≤ k) : Gro σ0 μ0 w0 σ μ w' :=
 ⟨ht.1.trans h.os, ht.2.1.trans h.tape, ht.2.2.1.trans h.output, Nat.le_trans h.size ht.2.2.2.1, fun b hb hn => (ht.2.2.2.2 b (Nat.lt_of_lt_of_le hb h.size) (fun hc => by have := ho b hc; omega)).trans (h.same b hb hn), h.fresh, h.box, h.row, h.mp, h.dead⟩
theorem step_turn (hs : SRel σ μ w (fun b => M b ∨ O b)) (ht : TurnO O w w') (hnew : ∀ k, O' k → O k ∨ (w.heap.size ≤ k ∧ k < w'.heap.size)) : Step σ μ w (av σ μ (fun b => M b ∨ O b)) σ μ w' (av σ μ (fun b => M b ∨ O' b)) := by
 refine ⟨fun b hb hl => ⟨ht.2.2.2.2 b hl (fun hc => hb (.inl (.inr hc))), fun hc => ?_⟩, ht.2.2.2.1, fun _ _ cs h => ⟨cs, h, rfl, rfl⟩, fun _ _ _ xs h => .inr ⟨xs, h, Nat.le_refl _, fun _ => rfl⟩, fun _ es h => ⟨es, h, rfl⟩, fun _ h => h⟩
 rcases hc with (hc | hc) | hc
 ·exact hb (.inl (.inl hc))
 ·rcases hnew b hc with h | h
  ·exact hb (.inl (.inr h))
  ·omega
 ·exact hb (.inr hc)
theorem srel_turn (hs : SRel σ μ w (fun b => M b ∨ O b)) (ht : TurnO O w w') (hnew : ∀ k, O' k → O k ∨ (w.heap.size ≤ k ∧ k < w'.heap.size)) : SRel σ μ w' (fun b => M b ∨ O' b) := by
 have hst := step_turn hs ht hnew
 refine ⟨fun id o hf => ?_, hs.inj, fun b hb => ?_, fun id o b hf hb hc => ?_⟩
 ·have h1 := hs.obj id o hf
  cases o with
  | box t cs =>
   obtain ⟨g, us, h2, h3, h4⟩ := h1
   have hb : blk (μ id) = some g := by rw [h2]; rfl
   exact ⟨g, us, h2, (ht.2.2.2.2 g (ObjRel.lt hs hf hb) (fun hc => hs.dis id _ g hf hb (.inr hc))).trans h3, repC_mono hst h4⟩
  | row e size xs =>
   obtain ⟨us, h2, h3⟩ := h1
   refine ⟨us, ⟨h2.1, ?_⟩, repLL_mono hst.pure h3⟩
   rcases h2.2 with h4 | ⟨g, cap, cur, h4, h5, ⟨e', fz, h6, h8⟩, h7⟩
   ·exact .inl h4
   ·have hb : blk (μ id) = some g := by rw [h4]; rfl
    exact .inr ⟨g, cap, cur, h4, h5, ⟨e', fz, (ht.2.2.2.2 g (ObjRel.lt hs hf hb) (fun hc => hs.dis id _ g hf hb (.inr hc))).trans h6, h8⟩, h7⟩
  | dead => exact h1
  | mp es =>
   obtain ⟨g, v, ob, h2, hb2, h3, h4⟩ := h1
   have hb : blk (μ id) = some g := by rw [h2]; exact hb2
   exact ⟨g, v, ob, h2, hb2, (ht.2.2.2.2 g (ObjRel.lt hs hf hb) (fun hc => hs.dis id _ g hf hb (.inr hc))).trans h3, h4⟩
 ·rcases hb with hb | hb
  ·exact Nat.lt_of_lt_of_le (hs.lt b (.inl hb)) ht.2.2.2.1
  ·rcases hnew b hb with h | h
   ·exact Nat.lt_of_lt_of_le (hs.lt b (.inr h)) ht.2.2.2.1
   ·exact h.2
 ·rcases hc with hc | hc
  ·exact hs.dis id o b hf hb (.inl hc)
  ·rcases hnew b hc with h | h
   ·exact hs.dis id o b hf hb (.inr h)
   ·have := ObjRel.lt hs hf hb; omega
theorem srel_less {M' : Nat → Prop} (hs : SRel σ μ w M) (h : ∀ b, M' b → M b) : SRel σ μ w M' := by
 have hA : ∀ b, ¬ av σ μ M b → ¬ av σ μ M' b := fun b hb hc => hb (hc.imp (h b) id)
 have hst : Step σ μ w (av σ μ M) σ μ w (av σ μ M') := ⟨fun b hb _ => ⟨rfl, hA b hb⟩, Nat.le_refl _, fun _ _ cs h => ⟨cs, h, rfl, rfl⟩, fun _ _ _ xs h => .inr ⟨xs, h, Nat.le_refl _, fun _ => rfl⟩, fun _ es h => ⟨es, h, rfl⟩, fun _ h => h⟩
 refine ⟨fun id o hf => ?_, hs.inj, fun b hb => hs.lt b (h b hb), fun id o b hf hb hc => hs.dis id o b hf hb (h b hc)⟩
 have h1 := hs.obj id o hf
 cases o with
 | box t cs => obtain ⟨g, us, h2, h3, h4⟩ := h1; exact ⟨g, us, h2, h3, repC_mono hst h4⟩
 | row e size xs => obtain ⟨us, h2, h3⟩ := h1; exact ⟨us, h2, repLL_mono hst.pure h3⟩
 | mp es => exact h1
 | dead => exact h1
theorem goesI (hO : True) : Goes w.heap.size (fun O (_ : Nat) W => ∃ μ', SRel σ' μ' W (fun b => M b ∨ O b) ∧ Gro σ μ w σ' μ' W) := by
 rintro O O' i X Y ho ⟨μ', h1, h2⟩ ht hsub hnew
 exact ⟨μ', srel_turn h1 ht hnew, gro_turn h2 ht ho⟩
theorem step_gone (h : Gro σ μ w σ' μ' w') (hO : ∀ b, O b → w.heap.size ≤ b) : Step σ μ w (av σ μ M) σ' μ' w' (av σ' μ' (fun b => M b ∨ O b)) := by
 have hst := h.step (M := M)
 refine ⟨fun b hb hl => ⟨(hst.same b hb hl).1, fun hc => ?_⟩, hst.size, hst.box, hst.row, hst.mp, hst.dead⟩
 rcases hc with (hc | hc) | hc
 ·exact hb (.inl hc)
 ·have := hO b hc; omega
 ·exact (hst.same b hb hl).2 (.inr hc)
end
def AThen1 (next : ASt → Prop) : Exit → ASt → Prop
 | .normal, s => next s
 | _, _ => False
def RO (σ : Store) (regs : List (Nat × AV)) (ok1 : Prop) (S1 : Store) (Q : Exit → ASt → Prop) : Exit → ASt → Prop
 | .normal, s => ok1 ∧ Kept s.σ S1 S1
 | .ret, s => ∃ σ', Kept s.σ σ' σ' ∧ σ.all (fun p => has σ' p.1) = true ∧ Q .ret ⟨regs, σ'⟩
 | .exit id, s => ∃ σ', Kept s.σ σ' σ' ∧ σ.all (fun p => has σ' p.1) = true ∧ Q (.exit id) ⟨regs, σ'⟩
 | _, _ => False
def leftBy (Q : Exit → ASt → Prop) : Code → ASt → Prop
 | .ret => Q .ret
 | .exit id => Q (.exit id)
 | _ => fun _ => False
section
variable {P : Program} {Γ : Ctx} {Q : Exit → ASt → Prop} {s : ASt}
theorem has_all {σ σ' : Store} (h : σ.all (fun p => has σ' p.1) = true) : ∀ id o, find σ id = some o → has σ' id = true := fun id o hf => List.all_eq_true.1 h _ (find_mem hf)
theorem a_range {α : Type} {g : Operand} {p : Tmp} {assign body : Code} {gf : FuncId} {caps : List AV} {enc : α → Value} (cav : α → AV) (xs : List α) (hrd : Γ.rd = none) (hseq : SeqAV P gf caps (xs.map fun x => #[enc x])) (hg : ev s g = some (.clo (.func gf) [] caps))
  (hcav : ∀ x σ μ w A, rep σ μ w A (cav x) (enc x)) (hp : Nat.ble (p + 1) Γ.n = true) (S : Nat → Store) (ok : Nat → Prop) (hS0 : S 0 = s.σ) (hall : ∀ i, ok i → s.σ.all (fun p => has (S i) p.1) = true) (h0 : ok 0)
  (hround : ∀ i x, xs[i]? = some x → ok i → ∀ W M' μi L, AWP P ⟨W, M', S i, μi, Γ.n, L, W.heap.size⟩ assign (AThen1 fun s1 => ∀ W M' μi L d0, AWP P ⟨W, M', S i, μi, Γ.n, L, d0⟩ body (RO s.σ s.regs (ok (i + 1)) (S (i + 1)) Q) s1) ⟨(p, cav x) :: s.regs, S i⟩)
  (hend : ok xs.length → Q .normal ⟨s.regs, S xs.length⟩) (hd0 : Γ.d0 ≤ Γ.w0.heap.size := by exact Nat.le_refl _) : AWP P Γ (.rangeFunc g #[p] assign body) Q s := by
 refine ⟨fun μ a w hr => ?_⟩
 have hF : Γ.F = Fence.wide := by unfold Ctx.F; rw [hrd]; rfl
 rw [hF]
 obtain ⟨hok, hpure, hseq⟩ := hseq
 obtain ⟨fs, ks, hks, hfs, hcs⟩ := hr.calleeB hg
 simp only [repL] at hfs
 subst hfs
 have hAlt : ∀ k, av s.σ μ Γ.M k → k < w.heap.size := by
  intro b hb
  rcases hb with hb | ⟨id, o, h3, h4⟩
  ·exact hr.store.lt b hb
  ·exact ObjRel.lt hr.store h3 h4
 have hcs := repL_pure (μ' := μ) hcs hpure
 refine wp_rangeO (gf := gf) (lb := ks.toArray) (A := av s.σ μ Γ.M) (xs := xs.map fun x => #[enc x]) hks (run_enterOK hok) hAlt (fun r => ?_) (fun x hx => ?_)
  (fun O i W => ok i ∧ ∃ μ', SRel (S i) μ' W (fun b => Γ.M b ∨ O b) ∧ Gro s.σ μ w (S i) μ' W)
  (fun c O W => ∃ σ', leftBy Q c ⟨s.regs, σ'⟩ ∧ ∃ μ', SRel σ' μ' W (fun b => Γ.M b ∨ O b) ∧ Gro s.σ μ w σ' μ' W) ?_ ?_ ?_ ?_ ?_ ?_
 ·refine hseq _ _ μ _ (fun k hk => by have := hAlt k hk; simp; omega) (repL_mono ⟨fun b hb hl => ⟨?_, hb⟩, by simp; omega, fun _ _ _ h => by simp [find] at h, fun _ _ _ _ h => by simp [find] at h, fun _ _ h => by simp [find] at h, fun _ h => by simp [find] at h⟩ hcs)
  exact (Below.heap_alloc _ _ b (by simp; omega)).trans (Below.heap_alloc _ _ b hl)
 ·obtain ⟨y, _, rfl⟩ := List.mem_map.1 hx; rfl
 ·rintro O O' i X Y ho ⟨h1, h2⟩ ht hsub hnew
  exact ⟨h1, goesI trivial O O' i X Y ho h2 ht hsub hnew⟩
 ·rintro c O O' i X Y ho ⟨σ', h1, h2⟩ ht hsub hnew
  exact ⟨σ', h1, goesI trivial O O' i X Y ho h2 ht hsub hnew⟩
 ·exact ⟨h0, μ, by rw [hS0]; exact srel_less hr.store (fun b hb => hb.elim id False.elim), by rw [hS0]; exact Gro.refl⟩
 ·
  rintro L O i x W hOL hO ⟨hoki, μi, hs, hgr⟩ hx
  rw [List.getElem?_map] at hx
  cases hxi : xs[i]? with
  | none => rw [hxi] at hx; cases hx
  | some x0 =>
   rw [hxi] at hx
   simp only [Option.map_some, Option.some.injEq] at hx
   subst hx
   have hold : ∀ k, (k < w.heap.size ∧ ¬ av s.σ μ Γ.M k) ∨ O k → k < W.heap.size ∧ ∀ id o, find (S i) id = some o → blk (μi id) ≠ some k := by
    rintro k (⟨h1, h2⟩ | h1)
    ·refine ⟨Nat.lt_of_lt_of_le h1 hgr.size, fun id o hf hb => ?_⟩
     obtain ⟨id0, o0, h3, h4⟩ := hgr.fresh id o k hf hb h1
     exact h2 (.inr ⟨id0, o0, h3, h4⟩)
    ·exact ⟨hs.lt k (.inr h1), fun id o hf hb => hs.dis id o k hf hb (.inr h1)⟩
   have hLW : L < W.heap.size := hs.lt L (.inr hOL)
   have hrel : Rel ⟨W, fun b => Γ.M b ∨ O b, S i, μi, Γ.n, some L, W.heap.size⟩ ⟨(p, cav x0) :: s.regs, S i⟩ μi { tmps := ((#[p] : Array Tmp).zip #[enc x0]).foldl (fun t (p, v) => t.setIfInBounds p v) a.tmps, defers := [] } W := by
    refine ⟨marks_nil, by simpa using hr.tmps, fun t y hy => ?_, hs, Gro.refl⟩
    have hplt : p < a.tmps.size := by rw [hr.tmps]; exact Nat.le_of_ble_eq_true hp
    simp only [find_cons] at hy
    split at hy
    ·rename_i e
     subst e; injection hy with hy; subst hy
     have : (((#[p] : Array Tmp).zip #[enc x0]).foldl (fun t (p, v) => t.setIfInBounds p v) a.tmps).getD p undef = enc x0 := by
      simp [Array.getD_eq_getD_getElem?, hplt]
     rw [this]
     exact hcav x0 _ _ _ _
    ·rename_i e
     have : (((#[p] : Array Tmp).zip #[enc x0]).foldl (fun t (p, v) => t.setIfInBounds p v) a.tmps).getD t undef = a.tmps.getD t undef := by
      simp [Array.getD_eq_getD_getElem?, Array.getElem?_setIfInBounds_ne e]
     rw [this]
     exact rep_mono (step_gone hgr hO) (hr.regs t y hy)
   refine wpIn_mono ((hround i x0 hxi hoki W (fun b => Γ.M b ∨ O b) μi (some L)).out μi _ W hrel) ?_
   rintro e a1 W1 ⟨s1, μ1, hr1, hq⟩
   cases e with
   | normal =>
    refine ⟨⟨hr1.gro.size, fun k hk => hr1.gro.same k (hold k hk).1 (hold k hk).2⟩, fun r => ?_⟩
    have ht1 : TurnO O W1 (W1.putObj L (.loop r)) := TurnO.put _ _ hOL
    have hsz : (W.putObj L (.loop r)).heap.size = W.heap.size := by simp
    have hgs := hr1.gro
    have hg2 : Gro (S i) μi (W.putObj L (.loop r)) s1.σ μ1 (W1.putObj L (.loop r)) := by
     refine ⟨hgs.os, hgs.tape, hgs.output, by simpa using hgs.size, fun b hb hn => ?_, fun id o b h1 h2 h3 => hgs.fresh id o b h1 h2 (by rw [hsz] at h3; exact h3), hgs.box, hgs.row, hgs.mp, hgs.dead⟩
     rw [hsz] at hb
     by_cases e : b = L
     ·subst e
      rw [World.putObj_heap_same hLW, World.putObj_heap_same (Nat.lt_of_lt_of_le hLW hgs.size)]
     ·rw [World.putObj_heap_other e, World.putObj_heap_other e]
      exact hgs.same b hb hn
    have hst1 : Step s1.σ μ1 W1 (av s1.σ μ1 (fun b => Γ.M b ∨ O b)) s1.σ μ1 (W1.putObj L (.loop r)) (av s1.σ μ1 (fun b => Γ.M b ∨ O b)) := step_turn hr1.store ht1 (fun k h => .inl h)
    have hm1 : Marks W.heap.size a1.defers (W1.putObj L (.loop r)) := by
     refine ⟨hr1.defers.1, fun d hd => ?_⟩
     obtain ⟨D, h1, h2, h3⟩ := hr1.defers.2 d hd
     refine ⟨D, h1, h2, (World.putObj_heap_other ?_).trans h3⟩
     have h2 : W.heap.size ≤ D := h2
     omega
    have hrel2 : Rel ⟨W.putObj L (.loop r), fun b => Γ.M b ∨ O b, S i, μi, Γ.n, some L, W.heap.size⟩ s1 μ1 a1 (W1.putObj L (.loop r)) :=
     ⟨hm1, hr1.tmps, fun t y hy => rep_mono hst1 (hr1.regs t y hy), srel_turn hr1.store ht1 (fun k h => .inl h), hg2⟩
    refine wpIn_mono ((hq (W.putObj L (.loop r)) (fun b => Γ.M b ∨ O b) μi (some L) W.heap.size).out μ1 _ _ hrel2) ?_
    rintro e a3 W3 ⟨s3, μ3, hr3, hq3⟩
    have hko : KB (av s.σ μ Γ.M) O w.heap.size W.heap.size (W1.putObj L (.loop r)) W3 := by
     refine ⟨by have : (W.putObj L (.loop r)).heap.size ≤ W3.heap.size := hr3.gro.size
                omega, fun k hk => ?_⟩
     ·obtain ⟨h1, h2⟩ := hold k hk
      exact (hr3.gro.same k (by show k < (W.putObj L (.loop r)).heap.size; rw [hsz]; exact h1) h2).trans (hg2.same k (by rw [hsz]; exact h1) h2).symm
    have hgw : Gro s.σ μ w s3.σ μ3 W3 := (gro_turn hgr (TurnO.put W (.loop r) hOL) hO).trans hr3.gro
    cases e with
    | normal =>
     obtain ⟨h1, h2⟩ := hq3
     exact ⟨hko, h1, μ3, h2.srel hr3.store, h2.gro hgw (has_all (hall _ h1))⟩
    | ret =>
     obtain ⟨σ', h1, h2, h3⟩ := hq3
     exact ⟨⟨hko.1, fun k h => hko.2 k (.inr h)⟩, σ', h3, μ3, h1.srel hr3.store, h1.gro hgw (has_all h2)⟩
    | exit id =>
     obtain ⟨σ', h1, h2, h3⟩ := hq3
     exact ⟨⟨hko.1, fun k h => hko.2 k (.inr h)⟩, σ', h3, μ3, h1.srel hr3.store, h1.gro hgw (has_all h2)⟩
    | _ => exact hq3.elim
   | _ => exact hq.elim
 all_goals
  have key : ∀ (O : Nat → Prop) W σ', (∀ k, O k → w.heap.size ≤ k) → (∃ μ', SRel σ' μ' W (fun b => Γ.M b ∨ O b) ∧ Gro s.σ μ w σ' μ' W) → W.heap[w.heap.size]? = some (.deferred (some [])) → ∃ μ', Rel Γ ⟨s.regs, σ'⟩ μ' { a with defers := { target := .collected w.heap.size, args := #[] } :: a.defers } W := by
   rintro O W σ' hO ⟨μ', h1, h2⟩ hD
   have hm := marks_gro hr.store h2 hr.defers
   refine ⟨μ', ⟨List.nodup_cons.2 ⟨fun hc => ?_, hm.1⟩, fun d hd => ?_⟩, hr.tmps, fun t y hy => rep_mono h2.step (hr.regs t y hy), srel_less h1 (fun b hb => .inl hb), hr.gro.trans h2⟩
   ·obtain ⟨D', h3, h4, h5⟩ := hr.defers.2 _ hc
    injection h3 with h3 _; injection h3 with h3; subst h3
    have := (Array.getElem?_eq_some_iff.1 h5).1
    omega
   ·rcases List.mem_cons.1 hd with rfl | hd
    ·exact ⟨_, rfl, Nat.le_trans hd0 hr.gro.size, hD⟩
    ·exact hm.2 d hd
 ·rintro O W hO _ ⟨h1, h2⟩ hD
  rw [List.length_map] at h1 h2
  obtain ⟨μ', h3⟩ := key O W _ hO h2 hD
  exact ⟨_, μ', h3, hend h1⟩
 ·rintro O c W hO _ ⟨σ', h1, h2⟩ hD
  obtain ⟨μ', h3⟩ := key O W _ hO h2 hD
  cases c <;> first | exact h1.elim | exact wpIn_ret ⟨_, μ', h3, h1⟩ | exact wpIn_exit ⟨_, μ', h3, h1⟩
end
end Go.Proofs.Ytlgbadlgfdlheaa
namespace Go.Proofs.Ytlgbadlgfdlheaa
open Go.RowKit
def flatV (us : List Value) : Bool := us.all fun u => scal u && u.oneCell'
theorem repC_flat {σ : Store} {μ : Nat → Value} {w : World} {A : Nat → Prop} : ∀ {us : List Value}, flatV us = true → repC σ μ w A (us.map AV.v) us
 | [], _ => by simp [repC]
 | u :: us, h => by
  simp only [flatV, List.all_cons, Bool.and_eq_true] at h
  simp only [List.map_cons, repC, rep]
  exact ⟨u, us, rfl, h.1.2, ⟨rfl, h.1.1⟩, repC_flat h.2⟩
theorem repC_flat_inv {σ : Store} {μ : Nat → Value} {w : World} {A : Nat → Prop} : ∀ {us vs : List Value}, repC σ μ w A (us.map AV.v) vs → vs = us
 | [], vs, h => by simpa [repC] using h
 | u :: us, vs, h => by
  simp only [List.map_cons, repC, rep] at h
  obtain ⟨x, xs, rfl, _, ⟨rfl, _⟩, h3⟩ := h
  rw [repC_flat_inv h3]
theorem ac_box1 {P : Program} {f : FuncId} {T : TypeId} {args : List AV} {r : AV} {us us' : List Value} (h : AC P f (.ref 0 0 :: args) [(0, .box T (us.map AV.v))] r [(0, .box T (us'.map AV.v))]) (hf : flatV us = true)
  {w : World} {b : Nat} (hb : Blk w b T us.toArray) {vs : List Value} (hv : ∀ σ μ A, repL σ μ w A args vs) {rv : Value} (hr : ∀ σ μ w A y, rep σ μ w A r y → y = rv) :
  Calls P f (.pointer (some ⟨b, 0, none⟩) :: vs).toArray w fun e w' => e = .returned rv ∧ Blk w' b T us'.toArray ∧ TurnO (fun k => k = b) w w' := by
 have hfind : ∀ (zs : List AV) id o, find [((0 : Nat), SObj.box T zs)] id = some o → id = 0 ∧ o = .box T zs := by
  intro zs id o hf
  rw [find_cons] at hf
  split at hf
  ·rename_i e1; injection hf with hf; exact ⟨e1.symm, hf.symm⟩
  ·simp [find] at hf
 refine (h.out w (fun _ => False) (fun _ => .pointer (some ⟨b, 0, none⟩)) _ ⟨fun id o hf' => ?_, fun id id' o o' g h1 h2 _ _ => ?_, fun _ h => h.elim, fun _ _ _ _ _ h => h⟩ ?_).mono ?_
 ·obtain ⟨rfl, rfl⟩ := hfind _ id o hf'
  exact ⟨b, us, rfl, hb, repC_flat hf⟩
 ·rw [(hfind _ _ _ h1).1, (hfind _ _ _ h2).1]
 ·simp only [repL]
  refine ⟨_, vs, rfl, ?_, hv _ _ _⟩
  simp only [rep]
  exact ⟨T, _, b, by rw [find_cons, if_pos rfl], Nat.zero_le _, rfl, rfl⟩
 ·rintro e w' ⟨y, μ', rfl, hs', hy, hg⟩
  obtain ⟨g, us2, h1, h2, h3⟩ := hs'.obj 0 _ (by rw [find_cons, if_pos rfl])
  obtain ⟨zs, hz, _, hmu⟩ := hg.box 0 T _ (by rw [find_cons, if_pos rfl])
  rw [hmu] at h1
  injection h1 with h1; injection h1 with h1; injection h1 with h1
  subst h1
  have := repC_flat_inv h3
  subst this
  refine ⟨by rw [hr _ _ _ _ _ hy], h2, hg.os, hg.tape, hg.output, hg.size, fun k hk hne => hg.same k hk fun id o hf' hbk => ?_⟩
  apply hne
  simpa [blk] using hbk.symm
section
variable {P : Program} {Γ : Ctx} {Q : Exit → ASt → Prop} {s : ASt} {σ : Store} {μ : Nat → Value} {w : World}
theorem Rel.swap {regs : List (Nat × AV)} {a : Act} (hr : Rel Γ ⟨regs, σ⟩ μ a w) {b : Nat} {bt : TypeId} {cs cs' : List AV} (hb : find σ b = some (.box bt cs)) (hl : cs'.length = cs.length) (hc : ∀ us, repC σ μ w (av σ μ Γ.M) cs us → repC σ μ w (av σ μ Γ.M) cs' us) :
  Rel Γ ⟨regs, upd σ b (.box bt cs')⟩ μ a w := by
 have hfi : ∀ id o, find (upd σ b (.box bt cs')) id = some o → ∃ o', find σ id = some o' := by
  intro id o h
  rw [find_upd] at h
  split at h
  ·rename_i e; subst e; exact ⟨_, hb⟩
  ·exact ⟨o, h⟩
 have hA : ∀ x, av (upd σ b (.box bt cs')) μ Γ.M x → av σ μ Γ.M x := by
  rintro x (h | ⟨id, o, h1, h2⟩)
  ·exact .inl h
  ·obtain ⟨o', h3⟩ := hfi id o h1
   exact .inr ⟨id, o', h3, h2⟩
 have hbox : ∀ id t ds, find σ id = some (.box t ds) → ∃ ds', find (upd σ b (.box bt cs')) id = some (.box t ds') ∧ ds'.length = ds.length ∧ μ id = μ id := by
  intro id t ds h
  rw [find_upd]
  by_cases e : b = id
  ·subst e; rw [hb] at h; injection h with h; injection h with h1 h2; subst h1 h2
   exact ⟨cs', by rw [if_pos rfl], hl, rfl⟩
  ·exact ⟨ds, by rw [if_neg e]; exact h, rfl, rfl⟩
 have hrow : ∀ id e size xs, find σ id = some (.row e size xs) → find (upd σ b (.box bt cs')) id = some .dead ∨ ∃ xs', find (upd σ b (.box bt cs')) id = some (.row e size xs') ∧ xs.length ≤ xs'.length ∧ (xs'.length = xs.length → μ id = μ id) := by
  intro id e size xs h
  rw [find_upd]
  have e1 : b ≠ id := by rintro rfl; rw [hb] at h; injection h with h; cases h
  exact .inr ⟨xs, by rw [if_neg e1]; exact h, Nat.le_refl _, fun _ => rfl⟩
 have hdd : ∀ id, find σ id = some .dead → find (upd σ b (.box bt cs')) id = some .dead := by
  intro id h
  rw [find_upd]
  have e1 : b ≠ id := by rintro rfl; rw [hb] at h; injection h with h; cases h
  rw [if_neg e1]; exact h
 have hmp : ∀ id es, find σ id = some (.mp es) → ∃ es', find (upd σ b (.box bt cs')) id = some (.mp es') ∧ μ id = μ id := by
  intro id es h
  rw [find_upd]
  have e1 : b ≠ id := by rintro rfl; rw [hb] at h; injection h with h; cases h
  exact ⟨es, by rw [if_neg e1]; exact h, rfl⟩
 have hst : Step σ μ w (av σ μ Γ.M) (upd σ b (.box bt cs')) μ w (av (upd σ b (.box bt cs')) μ Γ.M) := ⟨fun x hx _ => ⟨rfl, fun h => hx (hA x h)⟩, Nat.le_refl _, hbox, hrow, hmp, hdd⟩
 have hs := hr.store
 have hs' : SRel (upd σ b (.box bt cs')) μ w Γ.M := by
  refine ⟨fun id o hf => ?_, fun id id' o o' g h1 h2 h3 h4 => ?_, hs.lt, fun id o x h1 h2 => ?_⟩
  ·rw [find_upd] at hf
   split at hf
   ·rename_i e; subst e; injection hf with hf; subst hf
    obtain ⟨g, us, h1, h2, h3⟩ := hs.obj _ _ hb
    exact ⟨g, us, h1, h2, repC_mono hst (hc us h3)⟩
   ·have h := hs.obj _ _ hf
    cases o with
    | box t ds => obtain ⟨g, us, h1, h2, h3⟩ := h; exact ⟨g, us, h1, h2, repC_mono hst h3⟩
    | row e size xs => obtain ⟨us, h2, h3⟩ := h; exact ⟨us, h2, repLL_mono hst.pure h3⟩
    | mp es => exact h
    | dead => exact h
  ·obtain ⟨_, e1⟩ := hfi id o h1
   obtain ⟨_, e2⟩ := hfi id' o' h2
   exact hs.inj id id' _ _ g e1 e2 h3 h4
  ·obtain ⟨_, e1⟩ := hfi id o h1
   exact hs.dis id _ x e1 h2
 exact hr.goes ⟨rfl, rfl, rfl, Nat.le_refl _, fun _ _ _ => rfl, fun id o x h1 h2 _ => by obtain ⟨o', h3⟩ := hfi id o h1; exact ⟨id, o', h3, h2⟩, hbox, hrow, hmp, hdd⟩ hs'
end
structure Vl where
 key : ByteArray
 lo : Int
 hi : Int
 v : Int
def Vl.cells (x : Vl) : List Value := [.string x.key, .int .i64 x.lo, .int .i64 x.hi, .int .i64 x.v]
def Vl.av (x : Vl) : List AV := [.v (.string x.key), .v (.int .i64 x.lo), .v (.int .i64 x.hi), .v (.int .i64 x.v)]
def vP (k : Int) (x : Vl) : Pn := oneP k x.lo x.hi x.key x.v
def okV (k : Int) (x : Vl) : Bool := fRight k && mayB (vP k x)
def rowV (k : Int) (l : List Vl) : List Pn := insAll k [] (l.map (vP k))
section
variable {k : Int} {l : List Vl} {x : Vl}
theorem okV_right (h : okV k x = true) : fRight k = true ∧ mayB (vP k x) = true := by simpa [okV] using h
theorem vP_n (h : fRight k = true) : (vP k x).n = 1 := fOne_n h
theorem vP_good (h : fRight k = true) : GoodP (vP k x) := ⟨fOne_good k x.v, by rw [vP_n h]; omega⟩
theorem rowV_snoc : rowV k (l ++ [x]) = insP k (rowV k l) (vP k x) := by
 unfold rowV
 rw [List.map_append]
 exact insAll_snoc
theorem vPs_sum (h : fRight k = true) : sumN (l.map (vP k)) = l.length := by
 induction l with
 | nil => rfl
 | cons x l ih =>
  have e : sumN ((x :: l).map (vP k)) = (vP k x).n + sumN (l.map (vP k)) := by simp [sumN]
  rw [e, ih, vP_n h]; simp; omega
theorem vPs_good (h : fRight k = true) : ∀ p ∈ l.map (vP k), GoodP p := by
 intro p hp
 obtain ⟨x, _, rfl⟩ := List.mem_map.1 hp
 exact vP_good h
end
def AR.av (r : List Pn × Bool) : AV := .tup [.sl 6 (r.1.map Pn.av), .v (.bool r.2)]
end Go.Proofs.Ytlgbadlgfdlheaa
