/-
  Aligners, walked over abstract values: which may be, new ones, likeness.
  Marks, walked over abstract values: new ones, likeness.
  Aligners, walked over abstract values: new ones, likeness.
  Rows that are cloned: of groups, of what workers are made of.
  More of the text GrA.
-/
import Derived.Test.YtilgagmfcdfjaaaGreatL4
import Derived.Test.YtilgagmfcdfjaaaGreatL6
import Derived.Test.YtilgagmfcdfjaaaGreatL9
import Derived.Test.YtilgagmfcdfjaaaGreatL11
namespace Go.Proofs.YtilgagmfcdfjaaaGreat
open Go.RowKit
set_option linter.unusedSimpArgs false
set_option linter.unusedVariables false
/-! a flag among flags -/
set_option maxHeartbeats 1000000 in
theorem b_Index (es : List Bool) (v : Bool) (hx : es.length ≤ 9223372036854775807) : ∃ i : Int, (decide (0 ≤ i) = es.any fun e => v == e) ∧ PC Tryz.prog 130 [.sl 1 (es.map boAv), .v (.bool v)] (.v (.int .i64 i)) := by
  rcases fst_all (fun e : Bool => !(v == e)) es with hall | ⟨q0, hq0, h1, h2⟩
  · refine ⟨-1, ?_, ?_⟩
    · have : (es.any fun e => v == e) = false := by
        rw [List.any_eq_false]
        intro x hx
        have := List.all_eq_true.1 hall x hx
        simpa using this
      rw [this]; rfl
    refine PC.mk (ac_body tab_ok Tryz.func130 rfl (by kernel_rfl) rfl ?_); intro w0 M μ0; simp only [Tryz.ntmps130, List.length_cons, List.length_nil, Nat.reduceAdd, Nat.reduceSub, numb]
    repeat' (first | ((first | apply o_do | apply d_do | apply d_yes rfl rfl rfl); exact lsq) | refine a_seq ?_ | refine a_region ?_ | refine o_nil ?_ | refine a_block ?_ | refine a_ret ?_ | refine a_exit ?_ | refine a_skip ?_ | refine a_draw mixed ?_ | refine d_nil (by kernel_rfl) ?_ | refine o_yes rfl rfl rfl ?_ | refine o_no rfl rfl rfl (by decide) ?_ | refine o_no' rfl rfl rfl ?_ | refine a_condT rfl ?_ | refine a_condF rfl ?_ | refine d_no rfl rfl rfl (by decide) ?_ | refine d_no' rfl rfl rfl ?_ | (refine wq2 (fun hb => ?_) (fun hb => ?_) <;> (simp only [hb]; try simp only [hbs, ne_eq] at hb; try (exfalso; first | omega | exact hb trivial))) | fail)
    refine a_loop (X := {q : Nat // q ≤ es.length}) (fun x => ⟨[(0, .sl 1 (es.map boAv)), (1, .v (.bool v)), (7, .v (.int .i64 es.length)), (8, .v (.int .i64 x.1))], []⟩) (fun x => es.length - x.1) ⟨0, Nat.zero_le _⟩ ?_ ?_
    · exact wkS
    rintro ⟨q, hq⟩
    dsimp only
    by_cases hlt : q < es.length
    · have hel : (es.map boAv)[q]? = some (boAv es[q]) := by simp [hlt]
      have hbd := List.all_eq_true.1 hall _ (List.getElem_mem hlt)
      generalize es[q] = x at *
      cases v <;> cases x <;> first | (simp at hbd; done) | skip
      all_goals
        repeat' (first | ((first | apply o_do | apply d_do | apply d_yes rfl rfl rfl); first | exact ls_indexAddr_sl tab_ok rfl rfl rfl rfl (by assumption) rfl | exact lsq) | refine a_seq ?_ | refine a_region ?_ | refine o_nil ?_ | refine a_block ?_ | refine a_ret ?_ | refine a_exit ?_ | refine a_skip ?_ | refine a_draw mixed ?_ | refine d_nil (by kernel_rfl) ?_ | refine o_yes rfl rfl rfl ?_ | refine o_no rfl rfl rfl (by decide) ?_ | refine o_no' rfl rfl rfl ?_ | refine a_condT rfl ?_ | refine a_condF rfl ?_ | refine d_no rfl rfl rfl (by decide) ?_ | refine d_no' rfl rfl rfl ?_ | (refine wq2 (fun hb => ?_) (fun hb => ?_) <;> (simp only [hb]; try simp only [hbs, ne_eq] at hb; try (exfalso; first | omega | exact hb trivial))) | fail)
        refine ⟨⟨q + 1, by omega⟩, by dsimp only; omega, ?_⟩
        exact wkS
    · repeat' (first | ((first | apply o_do | apply d_do | apply d_yes rfl rfl rfl); exact lsq) | refine a_seq ?_ | refine a_region ?_ | refine o_nil ?_ | refine a_block ?_ | refine a_ret ?_ | refine a_exit ?_ | refine a_skip ?_ | refine a_draw mixed ?_ | refine d_nil (by kernel_rfl) ?_ | refine o_yes rfl rfl rfl ?_ | refine o_no rfl rfl rfl (by decide) ?_ | refine o_no' rfl rfl rfl ?_ | refine a_condT rfl ?_ | refine a_condF rfl ?_ | refine d_no rfl rfl rfl (by decide) ?_ | refine d_no' rfl rfl rfl ?_ | (refine wq2 (fun hb => ?_) (fun hb => ?_) <;> (simp only [hb]; try simp only [hbs, ne_eq] at hb; try (exfalso; first | omega | exact hb trivial))) | fail)
      refine rq rfl ?_
      exact fnq
  · refine ⟨(q0 : Int), ?_, ?_⟩
    · have : (es.any fun e => v == e) = true := by
        rw [List.any_eq_true]
        exact ⟨es[q0], List.getElem_mem hq0, by simpa using h2⟩
      rw [this]; simp
    refine PC.mk (ac_body tab_ok Tryz.func130 rfl (by kernel_rfl) rfl ?_); intro w0 M μ0; simp only [Tryz.ntmps130, List.length_cons, List.length_nil, Nat.reduceAdd, Nat.reduceSub, numb]
    repeat' (first | ((first | apply o_do | apply d_do | apply d_yes rfl rfl rfl); exact lsq) | refine a_seq ?_ | refine a_region ?_ | refine o_nil ?_ | refine a_block ?_ | refine a_ret ?_ | refine a_exit ?_ | refine a_skip ?_ | refine a_draw mixed ?_ | refine d_nil (by kernel_rfl) ?_ | refine o_yes rfl rfl rfl ?_ | refine o_no rfl rfl rfl (by decide) ?_ | refine o_no' rfl rfl rfl ?_ | refine a_condT rfl ?_ | refine a_condF rfl ?_ | refine d_no rfl rfl rfl (by decide) ?_ | refine d_no' rfl rfl rfl ?_ | (refine wq2 (fun hb => ?_) (fun hb => ?_) <;> (simp only [hb]; try simp only [hbs, ne_eq] at hb; try (exfalso; first | omega | exact hb trivial))) | fail)
    refine a_loop (X := {q : Nat // q ≤ q0}) (fun x => ⟨[(0, .sl 1 (es.map boAv)), (1, .v (.bool v)), (7, .v (.int .i64 es.length)), (8, .v (.int .i64 x.1))], []⟩) (fun x => es.length - x.1) ⟨0, Nat.zero_le _⟩ ?_ ?_
    · exact wkS
    rintro ⟨q, hq⟩
    dsimp only
    have hlt : q < es.length := by omega
    have hel : (es.map boAv)[q]? = some (boAv es[q]) := by simp [hlt]
    rcases Nat.lt_or_eq_of_le hq with h | h
    · have hm : es[q] ∈ es.take q0 := by
        rw [List.mem_take_iff_getElem]
        exact ⟨q, by omega, rfl⟩
      have hbd := List.all_eq_true.1 h1 _ hm
      generalize es[q] = x at *
      cases v <;> cases x <;> first | (simp at hbd; done) | skip
      all_goals
        repeat' (first | ((first | apply o_do | apply d_do | apply d_yes rfl rfl rfl); first | exact ls_indexAddr_sl tab_ok rfl rfl rfl rfl (by assumption) rfl | exact lsq) | refine a_seq ?_ | refine a_region ?_ | refine o_nil ?_ | refine a_block ?_ | refine a_ret ?_ | refine a_exit ?_ | refine a_skip ?_ | refine a_draw mixed ?_ | refine d_nil (by kernel_rfl) ?_ | refine o_yes rfl rfl rfl ?_ | refine o_no rfl rfl rfl (by decide) ?_ | refine o_no' rfl rfl rfl ?_ | refine a_condT rfl ?_ | refine a_condF rfl ?_ | refine d_no rfl rfl rfl (by decide) ?_ | refine d_no' rfl rfl rfl ?_ | (refine wq2 (fun hb => ?_) (fun hb => ?_) <;> (simp only [hb]; try simp only [hbs, ne_eq] at hb; try (exfalso; first | omega | exact hb trivial))) | fail)
        refine ⟨⟨q + 1, by omega⟩, by dsimp only; omega, ?_⟩
        exact wkS
    · subst h
      generalize es[q] = x at *
      cases v <;> cases x <;> first | (simp at h2; done) | skip
      all_goals
        repeat' (first | ((first | apply o_do | apply d_do | apply d_yes rfl rfl rfl); first | exact ls_indexAddr_sl tab_ok rfl rfl rfl rfl (by assumption) rfl | exact lsq) | refine a_seq ?_ | refine a_region ?_ | refine o_nil ?_ | refine a_block ?_ | refine a_ret ?_ | refine a_exit ?_ | refine a_skip ?_ | refine a_draw mixed ?_ | refine d_nil (by kernel_rfl) ?_ | refine o_yes rfl rfl rfl ?_ | refine o_no rfl rfl rfl (by decide) ?_ | refine o_no' rfl rfl rfl ?_ | refine a_condT rfl ?_ | refine a_condF rfl ?_ | refine d_no rfl rfl rfl (by decide) ?_ | refine d_no' rfl rfl rfl ?_ | (refine wq2 (fun hb => ?_) (fun hb => ?_) <;> (simp only [hb]; try simp only [hbs, ne_eq] at hb; try (exfalso; first | omega | exact hb trivial))) | fail)
        refine rq rfl ?_
        exact fnq
theorem b_Contains (es : List Bool) (v : Bool) (hx : es.length ≤ 9223372036854775807) : PC Tryz.prog 101 [.sl 1 (es.map boAv), .v (.bool v)] (.v (.bool (es.any fun e => v == e))) := by
  obtain ⟨i, h1, h2⟩ := b_Index es v hx
  rw [← h1]
  refine PC.mk (ac_body tab_ok Tryz.func101 rfl (by kernel_rfl) rfl ?_); intro w0 M μ0; simp only [Tryz.ntmps101, List.length_cons, List.length_nil, Nat.reduceAdd, Nat.reduceSub, numb]
  repeat' (first | ((first | apply o_do | apply d_do | apply d_yes rfl rfl rfl); first | exact lsc (h2) | exact lsq) | refine a_seq ?_ | refine a_region ?_ | refine o_nil ?_ | refine a_block ?_ | refine a_ret ?_ | refine a_exit ?_ | refine a_skip ?_ | refine a_draw mixed ?_ | refine d_nil (by kernel_rfl) ?_ | refine o_yes rfl rfl rfl ?_ | refine o_no rfl rfl rfl (by decide) ?_ | refine o_no' rfl rfl rfl ?_ | refine a_condT rfl ?_ | refine a_condF rfl ?_ | refine d_no rfl rfl rfl (by decide) ?_ | refine d_no' rfl rfl rfl ?_ | (refine wq2 (fun hb => ?_) (fun hb => ?_) <;> (simp only [hb]; try simp only [hbs, ne_eq] at hb; try (exfalso; first | omega | exact hb trivial))) | fail)
  all_goals refine rq rfl ?_
  all_goals exact fnq
/-! items among items -/
theorem l_Right1 (x : It) : PC Tryz.prog 112 [.agg x.av] (.v (.bool (!itR x))) := by
  have h := i_Right x
  refine PC.mk (ac_body tab_ok Tryz.func112 rfl (by kernel_rfl) rfl ?_); intro w0 M μ0; simp only [Tryz.ntmps112, List.length_cons, List.length_nil, Nat.reduceAdd, Nat.reduceSub, numb]
  repeat' (first | ((first | apply o_do | apply d_do | apply d_yes rfl rfl rfl); first | exact lsc (h) | exact lsq) | refine a_seq ?_ | refine a_region ?_ | refine o_nil ?_ | refine a_block ?_ | refine a_ret ?_ | refine a_exit ?_ | refine a_skip ?_ | refine a_draw mixed ?_ | refine d_nil (by kernel_rfl) ?_ | refine o_yes rfl rfl rfl ?_ | refine o_no rfl rfl rfl (by decide) ?_ | refine o_no' rfl rfl rfl ?_ | refine a_condT rfl ?_ | refine a_condF rfl ?_ | refine d_no rfl rfl rfl (by decide) ?_ | refine d_no' rfl rfl rfl ?_ | (refine wq2 (fun hb => ?_) (fun hb => ?_) <;> (simp only [hb]; try simp only [hbs, ne_eq] at hb; try (exfalso; first | omega | exact hb trivial))) | fail)
  all_goals refine rq rfl ?_
  all_goals exact fnq
set_option maxHeartbeats 1000000 in
theorem l_IdxT (es : List It) (hx : es.length ≤ 9223372036854775807) : ∃ i : Int, (decide (0 ≤ i) = !es.all itR) ∧ PC Tryz.prog 144 [.sl 11 (es.map It.av), .clo (.func 112) [] []] (.v (.int .i64 i)) := by
  rcases fst_all itR es with hall | ⟨q0, hq0, h1, h2⟩
  · refine ⟨-1, by rw [hall]; rfl, ?_⟩
    refine PC.mk (ac_body tab_ok Tryz.func144 rfl (by kernel_rfl) rfl ?_); intro w0 M μ0; simp only [Tryz.ntmps144, List.length_cons, List.length_nil, Nat.reduceAdd, Nat.reduceSub, numb]
    repeat' (first | ((first | apply o_do | apply d_do | apply d_yes rfl rfl rfl); exact lsq) | refine a_seq ?_ | refine a_region ?_ | refine o_nil ?_ | refine a_block ?_ | refine a_ret ?_ | refine a_exit ?_ | refine a_skip ?_ | refine a_draw mixed ?_ | refine d_nil (by kernel_rfl) ?_ | refine o_yes rfl rfl rfl ?_ | refine o_no rfl rfl rfl (by decide) ?_ | refine o_no' rfl rfl rfl ?_ | refine a_condT rfl ?_ | refine a_condF rfl ?_ | refine d_no rfl rfl rfl (by decide) ?_ | refine d_no' rfl rfl rfl ?_ | (refine wq2 (fun hb => ?_) (fun hb => ?_) <;> (simp only [hb]; try simp only [hbs, ne_eq] at hb; try (exfalso; first | omega | exact hb trivial))) | fail)
    refine a_loop (X := {q : Nat // q ≤ es.length}) (fun x => ⟨[(0, .sl 11 (es.map It.av)), (1, .clo (.func 112) [] []), (7, .v (.int .i64 es.length)), (8, .v (.int .i64 x.1))], []⟩) (fun x => es.length - x.1) ⟨0, Nat.zero_le _⟩ ?_ ?_
    · exact wkS
    rintro ⟨q, hq⟩
    dsimp only
    by_cases hlt : q < es.length
    · have hel : (es.map It.av)[q]? = some (It.av es[q]) := by simp [hlt]
      have hbd := l_Right1 es[q]
      rw [show itR es[q] = true from List.all_eq_true.1 hall _ (List.getElem_mem hlt)] at hbd
      generalize es[q] = x at *
      repeat' (first | ((first | apply o_do | apply d_do | apply d_yes rfl rfl rfl); first | exact lsc (hbd) | exact lsq) | refine a_seq ?_ | refine a_region ?_ | refine o_nil ?_ | refine a_block ?_ | refine a_ret ?_ | refine a_exit ?_ | refine a_skip ?_ | refine a_draw mixed ?_ | refine d_nil (by kernel_rfl) ?_ | refine o_yes rfl rfl rfl ?_ | refine o_no rfl rfl rfl (by decide) ?_ | refine o_no' rfl rfl rfl ?_ | refine a_condT rfl ?_ | refine a_condF rfl ?_ | refine d_no rfl rfl rfl (by decide) ?_ | refine d_no' rfl rfl rfl ?_ | (refine wq2 (fun hb => ?_) (fun hb => ?_) <;> (simp only [hb]; try simp only [hbs, ne_eq] at hb; try (exfalso; first | omega | exact hb trivial))) | fail)
      refine ⟨⟨q + 1, by omega⟩, by dsimp only; omega, ?_⟩
      exact wkS
    · repeat' (first | ((first | apply o_do | apply d_do | apply d_yes rfl rfl rfl); exact lsq) | refine a_seq ?_ | refine a_region ?_ | refine o_nil ?_ | refine a_block ?_ | refine a_ret ?_ | refine a_exit ?_ | refine a_skip ?_ | refine a_draw mixed ?_ | refine d_nil (by kernel_rfl) ?_ | refine o_yes rfl rfl rfl ?_ | refine o_no rfl rfl rfl (by decide) ?_ | refine o_no' rfl rfl rfl ?_ | refine a_condT rfl ?_ | refine a_condF rfl ?_ | refine d_no rfl rfl rfl (by decide) ?_ | refine d_no' rfl rfl rfl ?_ | (refine wq2 (fun hb => ?_) (fun hb => ?_) <;> (simp only [hb]; try simp only [hbs, ne_eq] at hb; try (exfalso; first | omega | exact hb trivial))) | fail)
      refine rq rfl ?_
      exact fnq
  · refine ⟨(q0 : Int), ?_, ?_⟩
    · have : (es.all itR) = false := by
        rw [List.all_eq_false]
        exact ⟨es[q0], List.getElem_mem hq0, by simp [h2]⟩
      rw [this]; simp
    refine PC.mk (ac_body tab_ok Tryz.func144 rfl (by kernel_rfl) rfl ?_); intro w0 M μ0; simp only [Tryz.ntmps144, List.length_cons, List.length_nil, Nat.reduceAdd, Nat.reduceSub, numb]
    repeat' (first | ((first | apply o_do | apply d_do | apply d_yes rfl rfl rfl); exact lsq) | refine a_seq ?_ | refine a_region ?_ | refine o_nil ?_ | refine a_block ?_ | refine a_ret ?_ | refine a_exit ?_ | refine a_skip ?_ | refine a_draw mixed ?_ | refine d_nil (by kernel_rfl) ?_ | refine o_yes rfl rfl rfl ?_ | refine o_no rfl rfl rfl (by decide) ?_ | refine o_no' rfl rfl rfl ?_ | refine a_condT rfl ?_ | refine a_condF rfl ?_ | refine d_no rfl rfl rfl (by decide) ?_ | refine d_no' rfl rfl rfl ?_ | (refine wq2 (fun hb => ?_) (fun hb => ?_) <;> (simp only [hb]; try simp only [hbs, ne_eq] at hb; try (exfalso; first | omega | exact hb trivial))) | fail)
    refine a_loop (X := {q : Nat // q ≤ q0}) (fun x => ⟨[(0, .sl 11 (es.map It.av)), (1, .clo (.func 112) [] []), (7, .v (.int .i64 es.length)), (8, .v (.int .i64 x.1))], []⟩) (fun x => es.length - x.1) ⟨0, Nat.zero_le _⟩ ?_ ?_
    · exact wkS
    rintro ⟨q, hq⟩
    dsimp only
    have hlt : q < es.length := by omega
    have hel : (es.map It.av)[q]? = some (It.av es[q]) := by simp [hlt]
    have hbd := l_Right1 es[q]
    rcases Nat.lt_or_eq_of_le hq with h | h
    · have hm : es[q] ∈ es.take q0 := by
        rw [List.mem_take_iff_getElem]
        exact ⟨q, by omega, rfl⟩
      rw [show itR es[q] = true from List.all_eq_true.1 h1 _ hm] at hbd
      generalize es[q] = x at *
      repeat' (first | ((first | apply o_do | apply d_do | apply d_yes rfl rfl rfl); first | exact lsc (hbd) | exact lsq) | refine a_seq ?_ | refine a_region ?_ | refine o_nil ?_ | refine a_block ?_ | refine a_ret ?_ | refine a_exit ?_ | refine a_skip ?_ | refine a_draw mixed ?_ | refine d_nil (by kernel_rfl) ?_ | refine o_yes rfl rfl rfl ?_ | refine o_no rfl rfl rfl (by decide) ?_ | refine o_no' rfl rfl rfl ?_ | refine a_condT rfl ?_ | refine a_condF rfl ?_ | refine d_no rfl rfl rfl (by decide) ?_ | refine d_no' rfl rfl rfl ?_ | (refine wq2 (fun hb => ?_) (fun hb => ?_) <;> (simp only [hb]; try simp only [hbs, ne_eq] at hb; try (exfalso; first | omega | exact hb trivial))) | fail)
      refine ⟨⟨q + 1, by omega⟩, by dsimp only; omega, ?_⟩
      exact wkS
    · subst h
      rw [show itR es[q] = false from h2] at hbd
      generalize es[q] = x at *
      repeat' (first | ((first | apply o_do | apply d_do | apply d_yes rfl rfl rfl); first | exact lsc (hbd) | exact lsq) | refine a_seq ?_ | refine a_region ?_ | refine o_nil ?_ | refine a_block ?_ | refine a_ret ?_ | refine a_exit ?_ | refine a_skip ?_ | refine a_draw mixed ?_ | refine d_nil (by kernel_rfl) ?_ | refine o_yes rfl rfl rfl ?_ | refine o_no rfl rfl rfl (by decide) ?_ | refine o_no' rfl rfl rfl ?_ | refine a_condT rfl ?_ | refine a_condF rfl ?_ | refine d_no rfl rfl rfl (by decide) ?_ | refine d_no' rfl rfl rfl ?_ | (refine wq2 (fun hb => ?_) (fun hb => ?_) <;> (simp only [hb]; try simp only [hbs, ne_eq] at hb; try (exfalso; first | omega | exact hb trivial))) | fail)
      refine rq rfl ?_
      exact fnq
theorem l_ConT (es : List It) (hx : es.length ≤ 9223372036854775807) : PC Tryz.prog 111 [.sl 11 (es.map It.av), .clo (.func 112) [] []] (.v (.bool (!es.all itR))) := by
  obtain ⟨i, h1, h2⟩ := l_IdxT es hx
  rw [← h1]
  refine PC.mk (ac_body tab_ok Tryz.func111 rfl (by kernel_rfl) rfl ?_); intro w0 M μ0; simp only [Tryz.ntmps111, List.length_cons, List.length_nil, Nat.reduceAdd, Nat.reduceSub, numb]
  repeat' (first | ((first | apply o_do | apply d_do | apply d_yes rfl rfl rfl); first | exact lsc (h2) | exact lsq) | refine a_seq ?_ | refine a_region ?_ | refine o_nil ?_ | refine a_block ?_ | refine a_ret ?_ | refine a_exit ?_ | refine a_skip ?_ | refine a_draw mixed ?_ | refine d_nil (by kernel_rfl) ?_ | refine o_yes rfl rfl rfl ?_ | refine o_no rfl rfl rfl (by decide) ?_ | refine o_no' rfl rfl rfl ?_ | refine a_condT rfl ?_ | refine a_condF rfl ?_ | refine d_no rfl rfl rfl (by decide) ?_ | refine d_no' rfl rfl rfl ?_ | (refine wq2 (fun hb => ?_) (fun hb => ?_) <;> (simp only [hb]; try simp only [hbs, ne_eq] at hb; try (exfalso; first | omega | exact hb trivial))) | fail)
  all_goals refine rq rfl ?_
  all_goals exact fnq
/-! which may be -/
def alP (n : Int) (got : List Bool) (held : List (List It)) : Prop := 1 ≤ got.length ∧ got.length ≤ 8 ∧ held.length = got.length ∧ 0 ≤ n ∧ n ≤ 1073741824
def alQ (n : Int) (got : List Bool) : Bool := (got.any id == decide (0 < n)) && got.any (!·)
theorem any_true (l : List Bool) : (l.any fun e => true == e) = l.any id := by congr 1; funext e; cases e <;> rfl
theorem any_false (l : List Bool) : (l.any fun e => false == e) = l.any (!·) := by congr 1; funext e; cases e <;> rfl
theorem alR_eq {n : Int} {got : List Bool} {held : List (List It)} (h : alP n got held) : alR ⟨n, got, held⟩ = (alQ n got && (List.range held.length).all (heG got held)) := by
  obtain ⟨h1, h2, h3, h4, h5⟩ := h
  simp [alR, alQ, h1, h2, h3, h4, h5, Bool.and_assoc]
theorem alR_pre {n : Int} {got : List Bool} {held : List (List It)} (h : ¬ alP n got held) : alR ⟨n, got, held⟩ = false := by
  cases hm : alR ⟨n, got, held⟩
  · rfl
  · simp only [alR, Bool.and_eq_true, decide_eq_true_eq] at hm
    exact absurd ⟨hm.1, hm.2.1, hm.2.2.1, hm.2.2.2.1, hm.2.2.2.2.1⟩ h
set_option maxHeartbeats 2000000 in
theorem l_Right (a : Al) (hg : a.got.length ≤ 9223372036854775807) (hh : a.held.length ≤ 9223372036854775807) (hi : ∀ l ∈ a.held, l.length ≤ 9223372036854775807) : PC Tryz.prog 75 [.agg a.av] (.v (.bool (alR a))) := by
  obtain ⟨n, got, held⟩ := a
  dsimp only at hg hh hi
  have hc1 := b_Contains got true hg
  have hc2 := b_Contains got false hg
  rw [any_true] at hc1
  rw [any_false] at hc2
  have hn1 : (got.map boAv).length = got.length := List.length_map _
  have hn2 : (held.map heAv).length = held.length := List.length_map _
  simp only [Al.av]
  by_cases hpre : alP n got held
  · rw [alR_eq hpre]
    have hp := hpre
    obtain ⟨a1, a2, a3, a4, a5⟩ := hp
    cases hQ : alQ n got
    · rw [Bool.false_and]
      unfold alQ at hQ
      cases e1 : got.any id <;> cases e2 : got.any (!·) <;> rw [e1] at hc1 hQ <;> rw [e2] at hc2 hQ
      all_goals
        refine PC.mk (ac_body tab_ok Tryz.func75 rfl (by kernel_rfl) rfl ?_); intro w0 M μ0; simp only [Tryz.ntmps75, List.length_cons, List.length_nil, Nat.reduceAdd, Nat.reduceSub, numb]
        repeat' (first | ((first | apply o_do | apply d_do | apply d_yes rfl rfl rfl); first | exact lsc (hc1) | exact lsc (hc2) | exact lsq) | refine a_seq ?_ | refine a_region ?_ | refine o_nil ?_ | refine a_block ?_ | refine a_ret ?_ | refine a_exit ?_ | refine a_skip ?_ | refine a_draw mixed ?_ | refine d_nil (by kernel_rfl) ?_ | refine o_yes rfl rfl rfl ?_ | refine o_no rfl rfl rfl (by decide) ?_ | refine o_no' rfl rfl rfl ?_ | refine a_condT rfl ?_ | refine a_condF rfl ?_ | refine d_no rfl rfl rfl (by decide) ?_ | refine d_no' rfl rfl rfl ?_ | (refine wq2 (fun hb => ?_) (fun hb => ?_) <;> (simp only [hb]; try simp only [hbs, ne_eq] at hb; try (exfalso; first | omega | exact hb trivial))) | fail)
        all_goals first
          | (exfalso; simp_all; done)
          | (refine rq rfl ?_; (exact fnq); done)
    · rw [Bool.true_and]
      have hQ2 := hQ
      unfold alQ at hQ2
      simp only [Bool.and_eq_true, beq_iff_eq] at hQ2
      obtain ⟨e1, e2⟩ := hQ2
      rw [e1] at hc1
      rw [e2] at hc2
      refine PC.mk (ac_body tab_ok Tryz.func75 rfl (by kernel_rfl) rfl ?_); intro w0 M μ0; simp only [Tryz.ntmps75, List.length_cons, List.length_nil, Nat.reduceAdd, Nat.reduceSub, numb]
      repeat' (first | ((first | apply o_do | apply d_do | apply d_yes rfl rfl rfl); first | exact lsc (hc1) | exact lsc (hc2) | exact lsq) | refine a_seq ?_ | refine a_region ?_ | refine o_nil ?_ | refine a_block ?_ | refine a_ret ?_ | refine a_exit ?_ | refine a_skip ?_ | refine a_draw mixed ?_ | refine d_nil (by kernel_rfl) ?_ | refine o_yes rfl rfl rfl ?_ | refine o_no rfl rfl rfl (by decide) ?_ | refine o_no' rfl rfl rfl ?_ | refine a_condT rfl ?_ | refine a_condF rfl ?_ | refine d_no rfl rfl rfl (by decide) ?_ | refine d_no' rfl rfl rfl ?_ | (refine wq2 (fun hb => ?_) (fun hb => ?_) <;> (simp only [hb]; try simp only [hbs, ne_eq] at hb; try (exfalso; first | omega | exact hb trivial))) | fail)
      · exfalso
        simp_all
      refine a_loop (X := {q : Nat // q ≤ held.length ∧ (List.range q).all (heG got held) = true}) (fun x => ⟨[(1, .ref 0 0), (48, .sl 1 (held.map heAv)), (49, .v (.int .i64 held.length)), (50, .v (.int .i64 x.1))], [(0, .box 40 [.v (.int .i64 n), .sl 1 (got.map boAv), .sl 1 (held.map heAv)])]⟩) (fun x => held.length - x.1) ⟨0, Nat.zero_le _, rfl⟩ ?_ ?_
      · exact wkS
      rintro ⟨q, hq, hok⟩
      dsimp only
      by_cases hlt : q < held.length
      · have hel : (held.map heAv)[q]? = some (heAv held[q]) := by simp [hlt]
        have hlg : q < got.length := by omega
        have hel2 : (got.map boAv)[q]? = some (boAv got[q]) := by simp [hlg]
        have hG : heG got held q = (decide (held[q].length ≤ 16) && ((decide (held[q].length = 0) || got[q]) && held[q].all itR)) := by simp only [heG, getD_at hlt, getD_at hlg]
        have hbad : heG got held q = false → (List.range held.length).all (heG got held) = false := fun h => rall_fail hlt h
        have hgo : heG got held q = true → (List.range (q + 1)).all (heG got held) = true := fun h => by rw [rall_snoc, hok, h]; rfl
        have hlen := hi _ (List.getElem_mem hlt)
        have hcT := l_ConT held[q] hlen
        generalize held[q] = l at *
        generalize got[q] = g at *
        have hn3 : (l.map It.av).length = l.length := List.length_map _
        have hl0 : ∀ b : Bool, (decide (l.length = 0) || b) = (if l.length = 0 then true else b) := fun b => by by_cases h : l.length = 0 <;> simp [h]
        by_cases h16 : l.length ≤ 16
        · by_cases h0 : l.length = 0
          · obtain rfl : l = [] := List.length_eq_zero_iff.1 h0
            have hg1 := hgo (by rw [hG]; rfl)
            repeat' (first | ((first | apply o_do | apply d_do | apply d_yes rfl rfl rfl); first | exact ls_indexAddr_sl tab_ok rfl rfl rfl rfl hel rfl | exact ls_indexAddr_sl tab_ok rfl rfl rfl rfl hel2 rfl | exact lsc (hcT) | exact lsq) | refine a_seq ?_ | refine a_region ?_ | refine o_nil ?_ | refine a_block ?_ | refine a_ret ?_ | refine a_exit ?_ | refine a_skip ?_ | refine a_draw mixed ?_ | refine d_nil (by kernel_rfl) ?_ | refine o_yes rfl rfl rfl ?_ | refine o_no rfl rfl rfl (by decide) ?_ | refine o_no' rfl rfl rfl ?_ | refine a_condT rfl ?_ | refine a_condF rfl ?_ | refine d_no rfl rfl rfl (by decide) ?_ | refine d_no' rfl rfl rfl ?_ | (refine wq2 (fun hb => ?_) (fun hb => ?_) <;> (simp only [hb]; try simp only [hbs, ne_eq] at hb; try (exfalso; first | omega | exact hb trivial))) | fail)
            refine ⟨⟨q + 1, by omega, hg1⟩, by dsimp only; omega, ?_⟩
            exact wkS
          · cases g
            · rw [hbad (by rw [hG]; simp; intro _ h; exact absurd h (by simpa using h0))]
              repeat' (first | ((first | apply o_do | apply d_do | apply d_yes rfl rfl rfl); first | exact ls_indexAddr_sl tab_ok rfl rfl rfl rfl hel rfl | exact ls_indexAddr_sl tab_ok rfl rfl rfl rfl hel2 rfl | exact lsc (hcT) | exact lsq) | refine a_seq ?_ | refine a_region ?_ | refine o_nil ?_ | refine a_block ?_ | refine a_ret ?_ | refine a_exit ?_ | refine a_skip ?_ | refine a_draw mixed ?_ | refine d_nil (by kernel_rfl) ?_ | refine o_yes rfl rfl rfl ?_ | refine o_no rfl rfl rfl (by decide) ?_ | refine o_no' rfl rfl rfl ?_ | refine a_condT rfl ?_ | refine a_condF rfl ?_ | refine d_no rfl rfl rfl (by decide) ?_ | refine d_no' rfl rfl rfl ?_ | (refine wq2 (fun hb => ?_) (fun hb => ?_) <;> (simp only [hb]; try simp only [hbs, ne_eq] at hb; try (exfalso; first | omega | exact hb trivial))) | fail)
              refine rq rfl ?_
              exact fnq
            · cases hall : l.all itR
              · rw [hall] at hcT
                rw [hbad (by rw [hG, hall]; simp)]
                repeat' (first | ((first | apply o_do | apply d_do | apply d_yes rfl rfl rfl); first | exact ls_indexAddr_sl tab_ok rfl rfl rfl rfl hel rfl | exact ls_indexAddr_sl tab_ok rfl rfl rfl rfl hel2 rfl | exact lsc (hcT) | exact lsq) | refine a_seq ?_ | refine a_region ?_ | refine o_nil ?_ | refine a_block ?_ | refine a_ret ?_ | refine a_exit ?_ | refine a_skip ?_ | refine a_draw mixed ?_ | refine d_nil (by kernel_rfl) ?_ | refine o_yes rfl rfl rfl ?_ | refine o_no rfl rfl rfl (by decide) ?_ | refine o_no' rfl rfl rfl ?_ | refine a_condT rfl ?_ | refine a_condF rfl ?_ | refine d_no rfl rfl rfl (by decide) ?_ | refine d_no' rfl rfl rfl ?_ | (refine wq2 (fun hb => ?_) (fun hb => ?_) <;> (simp only [hb]; try simp only [hbs, ne_eq] at hb; try (exfalso; first | omega | exact hb trivial))) | fail)
                refine rq rfl ?_
                exact fnq
              · rw [hall] at hcT
                have hg1 := hgo (by rw [hG, hall]; simp [h16])
                repeat' (first | ((first | apply o_do | apply d_do | apply d_yes rfl rfl rfl); first | exact ls_indexAddr_sl tab_ok rfl rfl rfl rfl hel rfl | exact ls_indexAddr_sl tab_ok rfl rfl rfl rfl hel2 rfl | exact lsc (hcT) | exact lsq) | refine a_seq ?_ | refine a_region ?_ | refine o_nil ?_ | refine a_block ?_ | refine a_ret ?_ | refine a_exit ?_ | refine a_skip ?_ | refine a_draw mixed ?_ | refine d_nil (by kernel_rfl) ?_ | refine o_yes rfl rfl rfl ?_ | refine o_no rfl rfl rfl (by decide) ?_ | refine o_no' rfl rfl rfl ?_ | refine a_condT rfl ?_ | refine a_condF rfl ?_ | refine d_no rfl rfl rfl (by decide) ?_ | refine d_no' rfl rfl rfl ?_ | (refine wq2 (fun hb => ?_) (fun hb => ?_) <;> (simp only [hb]; try simp only [hbs, ne_eq] at hb; try (exfalso; first | omega | exact hb trivial))) | fail)
                refine ⟨⟨q + 1, by omega, hg1⟩, by dsimp only; omega, ?_⟩
                exact wkS
        · rw [hbad (by rw [hG]; simp [h16])]
          repeat' (first | ((first | apply o_do | apply d_do | apply d_yes rfl rfl rfl); first | exact ls_indexAddr_sl tab_ok rfl rfl rfl rfl hel rfl | exact ls_indexAddr_sl tab_ok rfl rfl rfl rfl hel2 rfl | exact lsc (hcT) | exact lsq) | refine a_seq ?_ | refine a_region ?_ | refine o_nil ?_ | refine a_block ?_ | refine a_ret ?_ | refine a_exit ?_ | refine a_skip ?_ | refine a_draw mixed ?_ | refine d_nil (by kernel_rfl) ?_ | refine o_yes rfl rfl rfl ?_ | refine o_no rfl rfl rfl (by decide) ?_ | refine o_no' rfl rfl rfl ?_ | refine a_condT rfl ?_ | refine a_condF rfl ?_ | refine d_no rfl rfl rfl (by decide) ?_ | refine d_no' rfl rfl rfl ?_ | (refine wq2 (fun hb => ?_) (fun hb => ?_) <;> (simp only [hb]; try simp only [hbs, ne_eq] at hb; try (exfalso; first | omega | exact hb trivial))) | fail)
          refine rq rfl ?_
          exact fnq
      · obtain rfl : q = held.length := by omega
        rw [hok]
        repeat' (first | ((first | apply o_do | apply d_do | apply d_yes rfl rfl rfl); exact lsq) | refine a_seq ?_ | refine a_region ?_ | refine o_nil ?_ | refine a_block ?_ | refine a_ret ?_ | refine a_exit ?_ | refine a_skip ?_ | refine a_draw mixed ?_ | refine d_nil (by kernel_rfl) ?_ | refine o_yes rfl rfl rfl ?_ | refine o_no rfl rfl rfl (by decide) ?_ | refine o_no' rfl rfl rfl ?_ | refine a_condT rfl ?_ | refine a_condF rfl ?_ | refine d_no rfl rfl rfl (by decide) ?_ | refine d_no' rfl rfl rfl ?_ | (refine wq2 (fun hb => ?_) (fun hb => ?_) <;> (simp only [hb]; try simp only [hbs, ne_eq] at hb; try (exfalso; first | omega | exact hb trivial))) | fail)
        refine rq rfl ?_
        exact fnq
  · rw [alR_pre hpre]
    unfold alP at hpre
    have hq : ∀ b c : Bool, True := fun _ _ => trivial
    refine PC.mk (ac_body tab_ok Tryz.func75 rfl (by kernel_rfl) rfl ?_); intro w0 M μ0; simp only [Tryz.ntmps75, List.length_cons, List.length_nil, Nat.reduceAdd, Nat.reduceSub, numb]
    by_cases a1 : got.length < 1
    · repeat' (first | ((first | apply o_do | apply d_do | apply d_yes rfl rfl rfl); exact lsq) | refine a_seq ?_ | refine a_region ?_ | refine o_nil ?_ | refine a_block ?_ | refine a_ret ?_ | refine a_exit ?_ | refine a_skip ?_ | refine a_draw mixed ?_ | refine d_nil (by kernel_rfl) ?_ | refine o_yes rfl rfl rfl ?_ | refine o_no rfl rfl rfl (by decide) ?_ | refine o_no' rfl rfl rfl ?_ | refine a_condT rfl ?_ | refine a_condF rfl ?_ | refine d_no rfl rfl rfl (by decide) ?_ | refine d_no' rfl rfl rfl ?_ | (refine wq2 (fun hb => ?_) (fun hb => ?_) <;> (simp only [hb]; try simp only [hbs, ne_eq] at hb; try (exfalso; first | omega | exact hb trivial))) | fail)
      all_goals refine rq rfl ?_
      all_goals exact fnq
    by_cases a2 : 8 < got.length
    · repeat' (first | ((first | apply o_do | apply d_do | apply d_yes rfl rfl rfl); exact lsq) | refine a_seq ?_ | refine a_region ?_ | refine o_nil ?_ | refine a_block ?_ | refine a_ret ?_ | refine a_exit ?_ | refine a_skip ?_ | refine a_draw mixed ?_ | refine d_nil (by kernel_rfl) ?_ | refine o_yes rfl rfl rfl ?_ | refine o_no rfl rfl rfl (by decide) ?_ | refine o_no' rfl rfl rfl ?_ | refine a_condT rfl ?_ | refine a_condF rfl ?_ | refine d_no rfl rfl rfl (by decide) ?_ | refine d_no' rfl rfl rfl ?_ | (refine wq2 (fun hb => ?_) (fun hb => ?_) <;> (simp only [hb]; try simp only [hbs, ne_eq] at hb; try (exfalso; first | omega | exact hb trivial))) | fail)
      all_goals refine rq rfl ?_
      all_goals exact fnq
    by_cases a3 : held.length = got.length
    · by_cases a4 : n < 0
      · repeat' (first | ((first | apply o_do | apply d_do | apply d_yes rfl rfl rfl); exact lsq) | refine a_seq ?_ | refine a_region ?_ | refine o_nil ?_ | refine a_block ?_ | refine a_ret ?_ | refine a_exit ?_ | refine a_skip ?_ | refine a_draw mixed ?_ | refine d_nil (by kernel_rfl) ?_ | refine o_yes rfl rfl rfl ?_ | refine o_no rfl rfl rfl (by decide) ?_ | refine o_no' rfl rfl rfl ?_ | refine a_condT rfl ?_ | refine a_condF rfl ?_ | refine d_no rfl rfl rfl (by decide) ?_ | refine d_no' rfl rfl rfl ?_ | (refine wq2 (fun hb => ?_) (fun hb => ?_) <;> (simp only [hb]; try simp only [hbs, ne_eq] at hb; try (exfalso; first | omega | exact hb trivial))) | fail)
        all_goals refine rq rfl ?_
        all_goals exact fnq
      · have a5 : 1073741824 < n := by omega
        repeat' (first | ((first | apply o_do | apply d_do | apply d_yes rfl rfl rfl); exact lsq) | refine a_seq ?_ | refine a_region ?_ | refine o_nil ?_ | refine a_block ?_ | refine a_ret ?_ | refine a_exit ?_ | refine a_skip ?_ | refine a_draw mixed ?_ | refine d_nil (by kernel_rfl) ?_ | refine o_yes rfl rfl rfl ?_ | refine o_no rfl rfl rfl (by decide) ?_ | refine o_no' rfl rfl rfl ?_ | refine a_condT rfl ?_ | refine a_condF rfl ?_ | refine d_no rfl rfl rfl (by decide) ?_ | refine d_no' rfl rfl rfl ?_ | (refine wq2 (fun hb => ?_) (fun hb => ?_) <;> (simp only [hb]; try simp only [hbs, ne_eq] at hb; try (exfalso; first | omega | exact hb trivial))) | fail)
        all_goals refine rq rfl ?_
        all_goals exact fnq
    · repeat' (first | ((first | apply o_do | apply d_do | apply d_yes rfl rfl rfl); exact lsq) | refine a_seq ?_ | refine a_region ?_ | refine o_nil ?_ | refine a_block ?_ | refine a_ret ?_ | refine a_exit ?_ | refine a_skip ?_ | refine a_draw mixed ?_ | refine d_nil (by kernel_rfl) ?_ | refine o_yes rfl rfl rfl ?_ | refine o_no rfl rfl rfl (by decide) ?_ | refine o_no' rfl rfl rfl ?_ | refine a_condT rfl ?_ | refine a_condF rfl ?_ | refine d_no rfl rfl rfl (by decide) ?_ | refine d_no' rfl rfl rfl ?_ | (refine wq2 (fun hb => ?_) (fun hb => ?_) <;> (simp only [hb]; try simp only [hbs, ne_eq] at hb; try (exfalso; first | omega | exact hb trivial))) | fail)
      all_goals refine rq rfl ?_
      all_goals exact fnq
def newIns (n : Int) : List (Int × Bool) := if 1 ≤ n ∧ n ≤ 8 then List.replicate n.toNat (0, false) else []
def newE (n : Int) : Int := if 1 ≤ n ∧ n ≤ 8 then 0 else 1
theorem m_New (n : Int) : PC Tryz.prog 35 [.v (.int .i64 n)] (.tup [.agg (Mk.av ⟨newIns n, [], 0⟩), .v (.int .i64 (newE n))]) := by
  unfold newIns newE
  by_cases hn : 1 ≤ n ∧ n ≤ 8
  · rw [if_pos hn, if_pos hn]
    obtain ⟨q, rfl⟩ : ∃ q : Nat, n = (q : Int) := ⟨n.toNat, by omega⟩
    obtain ⟨h1, h2⟩ := hn
    have hl : q ≤ 1000000 := by omega
    have e : (List.replicate (q : Int).toNat (0, false)).map inAvM = List.replicate q ([Value.int .i64 0, Value.bool false].map AV.v) := by rw [List.map_replicate]; rfl
    simp only [Mk.av, e, List.map_nil]
    refine PC.mk (ac_body tab_ok Tryz.func35 rfl (by kernel_rfl) rfl ?_); intro w0 M μ0; simp only [Tryz.ntmps35, List.length_cons, List.length_nil, Nat.reduceAdd, Nat.reduceSub, numb]
    repeat' (first | ((first | apply o_do | apply d_do | apply d_yes rfl rfl rfl); first | exact ls_make (k := 1) tab_ok tab_zero rfl rfl rfl rfl rfl rfl rfl hl rfl rfl rfl | exact lsq) | refine a_seq ?_ | refine a_region ?_ | refine o_nil ?_ | refine a_block ?_ | refine a_ret ?_ | refine a_exit ?_ | refine a_skip ?_ | refine a_draw mixed ?_ | refine d_nil (by kernel_rfl) ?_ | refine o_yes rfl rfl rfl ?_ | refine o_no rfl rfl rfl (by decide) ?_ | refine o_no' rfl rfl rfl ?_ | refine a_condT rfl ?_ | refine a_condF rfl ?_ | refine d_no rfl rfl rfl (by decide) ?_ | refine d_no' rfl rfl rfl ?_ | (refine wq2 (fun hb => ?_) (fun hb => ?_) <;> (simp only [hb]; try simp only [hbs, ne_eq] at hb; try (exfalso; first | omega | exact hb trivial))) | fail)
    all_goals refine rq rfl ?_
    all_goals exact fnq
  · rw [if_neg hn, if_neg hn]
    refine PC.mk (ac_body tab_ok Tryz.func35 rfl (by kernel_rfl) rfl ?_); intro w0 M μ0; simp only [Tryz.ntmps35, List.length_cons, List.length_nil, Nat.reduceAdd, Nat.reduceSub, numb]
    repeat' (first | ((first | apply o_do | apply d_do | apply d_yes rfl rfl rfl); exact lsq) | refine a_seq ?_ | refine a_region ?_ | refine o_nil ?_ | refine a_block ?_ | refine a_ret ?_ | refine a_exit ?_ | refine a_skip ?_ | refine a_draw mixed ?_ | refine d_nil (by kernel_rfl) ?_ | refine o_yes rfl rfl rfl ?_ | refine o_no rfl rfl rfl (by decide) ?_ | refine o_no' rfl rfl rfl ?_ | refine a_condT rfl ?_ | refine a_condF rfl ?_ | refine d_no rfl rfl rfl (by decide) ?_ | refine d_no' rfl rfl rfl ?_ | (refine wq2 (fun hb => ?_) (fun hb => ?_) <;> (simp only [hb]; try simp only [hbs, ne_eq] at hb; try (exfalso; first | omega | exact hb trivial))) | fail)
    all_goals refine rq rfl ?_
    all_goals exact fnq
def Mk.okV : Int × Bool → List Value := fun x => [.int .i64 x.1, .bool x.2]
def newGot (n : Int) : List Bool := if 1 ≤ n ∧ n ≤ 8 then List.replicate n.toNat false else []
def newHeld (n : Int) : List (List It) := if 1 ≤ n ∧ n ≤ 8 then List.replicate n.toNat [] else []
/-- what is known of an answer, said with less -/
theorem pc_weak {P : Program} {f : FuncId} {args : List AV} {r r' : AV} (h : PC P f args r) (hi : ∀ σ μ w A y, rep σ μ w A r y → rep σ μ w A r' y) : PC P f args r' := by
  refine ⟨⟨h.ac.ok, fun w M μ vs hs hr => (h.ac.out w M μ vs hs hr).mono ?_⟩⟩
  rintro e w' ⟨y, μ', h1, h2, h3, h4⟩
  exact ⟨y, μ', h1, h2, hi _ _ _ _ _ h3, h4⟩
theorem nilLL {σ : Store} {μ : Nat → Value} {w : World} {A : Nat → Prop} {m : Nat} : ∀ {q : Nat} {us : List Value}, repLL σ μ w A 1 (List.replicate q [.v (.slice none 0 0)]) us → repLL σ μ w A 1 (List.replicate q [.sl m []]) us
  | 0, us, h => by simpa [repLL] using h
  | q + 1, us, h => by
    simp only [List.replicate_succ, repLL] at h ⊢
    obtain ⟨u1, u2, rfl, h1, h2, h3⟩ := h
    refine ⟨u1, u2, rfl, h1, ?_, nilLL h3⟩
    simp only [repC, rep] at h2 ⊢
    obtain ⟨u, us', rfl, h4, ⟨rfl, _⟩, rfl⟩ := h2
    exact ⟨_, _, rfl, h4, ⟨none, 0, [], rfl, Nat.le_refl _, Nat.zero_le _, .inl rfl, by simp [repLL]⟩, rfl⟩
theorem newWeak {x : Value} {v : Value} {xs : List (List AV)} {q : Nat} (σ : Store) (μ : Nat → Value) (w : World) (A : Nat → Prop) (y : Value) (h : rep σ μ w A (.tup [.agg [.v x, .sl 1 xs, .sl 1 (List.replicate q [.v (.slice none 0 0)])], .v v]) y) :
    rep σ μ w A (.tup [.agg [.v x, .sl 1 xs, .sl 1 ((List.replicate q ([] : List It)).map heAv)], .v v]) y := by
  have e2 : (List.replicate q ([] : List It)).map heAv = List.replicate q [AV.sl 11 []] := by rw [List.map_replicate]; rfl
  rw [e2]
  simp only [rep, repL, repC] at h ⊢
  obtain ⟨us, rfl, u1, us1, rfl, ⟨cs, rfl, c0, cs0, rfl, h0, h0', c1, cs1, rfl, h1, h1', c2, cs2, rfl, h2, ⟨ad, c, vs, rfl, h3, h4, h5, h6⟩, rfl⟩, h7⟩ := h
  refine ⟨_, rfl, _, _, rfl, ⟨_, rfl, _, _, rfl, h0, h0', _, _, rfl, h1, h1', _, _, rfl, h2, ⟨ad, c, vs, ?_, ?_, h4, h5, nilLL h6⟩, rfl⟩, h7⟩
  · rw [List.length_replicate, List.length_replicate]
  · rw [List.length_replicate] at h3 ⊢; exact h3
theorem l_New (n : Int) : PC Tryz.prog 36 [.v (.int .i64 n)] (.tup [.agg (Al.av ⟨0, newGot n, newHeld n⟩), .v (.int .i64 (newE n))]) := by
  unfold newGot newHeld newE
  by_cases hn : 1 ≤ n ∧ n ≤ 8
  · rw [if_pos hn, if_pos hn, if_pos hn]
    obtain ⟨q, rfl⟩ : ∃ q : Nat, n = (q : Int) := ⟨n.toNat, by omega⟩
    obtain ⟨h1, h2⟩ := hn
    have hl : q ≤ 1000000 := by omega
    have e1 : (List.replicate (q : Int).toNat false).map boAv = List.replicate q ([Value.bool false].map AV.v) := by rw [List.map_replicate]; rfl
    simp only [Al.av, e1, Int.toNat_natCast]
    refine pc_weak ?_ newWeak
    refine PC.mk (ac_body tab_ok Tryz.func36 rfl (by kernel_rfl) rfl ?_); intro w0 M μ0; simp only [Tryz.ntmps36, List.length_cons, List.length_nil, Nat.reduceAdd, Nat.reduceSub, numb]
    repeat' (first | ((first | apply o_do | apply d_do | apply d_yes rfl rfl rfl); first | exact ls_make (k := 1) tab_ok tab_zero rfl rfl rfl rfl rfl rfl rfl hl rfl rfl rfl | exact ls_make (k := 2) tab_ok tab_zero rfl rfl rfl rfl rfl rfl rfl hl rfl rfl rfl | exact lsq) | refine a_seq ?_ | refine a_region ?_ | refine o_nil ?_ | refine a_block ?_ | refine a_ret ?_ | refine a_exit ?_ | refine a_skip ?_ | refine a_draw mixed ?_ | refine d_nil (by kernel_rfl) ?_ | refine o_yes rfl rfl rfl ?_ | refine o_no rfl rfl rfl (by decide) ?_ | refine o_no' rfl rfl rfl ?_ | refine a_condT rfl ?_ | refine a_condF rfl ?_ | refine d_no rfl rfl rfl (by decide) ?_ | refine d_no' rfl rfl rfl ?_ | (refine wq2 (fun hb => ?_) (fun hb => ?_) <;> (simp only [hb]; try simp only [hbs, ne_eq] at hb; try (exfalso; first | omega | exact hb trivial))) | fail)
    all_goals refine rq rfl ?_
    all_goals (first | refine FinA.tup ?_ | refine FinA.one ?_); repeat' (first | exact FinBs.nil | exact FinCs.nil | refine FinBs.cons ?_ ?_ | refine FinCs.cons ?_ ?_ | refine FinB.cell (FinC.v ?_) | refine FinB.cell (FinC.own rfl rfl rfl ?_) | exact FinB.cell FinC.nil | refine FinB.cell (FinC.sl ?_) | exact FinB.agg' rfl rfl | exact FinB.cell (FinC.same rfl) | refine FinB.agg ?_ | refine FinC.v ?_ | refine FinC.own rfl rfl rfl ?_ | exact FinC.nil | refine FinC.sl ?_ | exact FinC.same rfl); all_goals try rfl
    all_goals (rw [List.map_replicate]; rfl)
  · rw [if_neg hn, if_neg hn, if_neg hn]
    refine PC.mk (ac_body tab_ok Tryz.func36 rfl (by kernel_rfl) rfl ?_); intro w0 M μ0; simp only [Tryz.ntmps36, List.length_cons, List.length_nil, Nat.reduceAdd, Nat.reduceSub, numb]
    repeat' (first | ((first | apply o_do | apply d_do | apply d_yes rfl rfl rfl); exact lsq) | refine a_seq ?_ | refine a_region ?_ | refine o_nil ?_ | refine a_block ?_ | refine a_ret ?_ | refine a_exit ?_ | refine a_skip ?_ | refine a_draw mixed ?_ | refine d_nil (by kernel_rfl) ?_ | refine o_yes rfl rfl rfl ?_ | refine o_no rfl rfl rfl (by decide) ?_ | refine o_no' rfl rfl rfl ?_ | refine a_condT rfl ?_ | refine a_condF rfl ?_ | refine d_no rfl rfl rfl (by decide) ?_ | refine d_no' rfl rfl rfl ?_ | (refine wq2 (fun hb => ?_) (fun hb => ?_) <;> (simp only [hb]; try simp only [hbs, ne_eq] at hb; try (exfalso; first | omega | exact hb trivial))) | fail)
    all_goals refine rq rfl ?_
    all_goals exact fnq
section
attribute [local go_sem ↓] Go.wp_at_zero Go.wp_at_succ
theorem info_Grp : (Tryz.prog.info? 98).map (fun i => (i.zero, i.size, i.bytes)) = some (some (.agg #[.int .i64 0, .int .i64 0, .slice none 0 0]), 3, 40) := by kernel_rfl
set_option maxRecDepth 10000 in
theorem clone_Grp (A : Option Addr) (n c : Nat) (us : List Value) (w : World) (hr : Reads w w.heap.size 3 A n us) (h1 : ∀ u ∈ us, u.oneCell' = true) (hn : n ≤ 1000000) :
    Calls Tryz.prog 38 #[.slice A n c] w fun e w' => ∃ y, e = .returned y ∧ w'.ownsRow w.heap.size 98 3 y n us ∧ Below w.heap.size w w' := by
  cases A with
  | none =>
    have h0 : n = 0 := by
      rcases Nat.eq_zero_or_pos n with h | h
      · exact h
      · obtain ⟨b, off, h, _⟩ := hr.2 h; cases h
    subst h0
    have hx : us = [] := List.length_eq_zero_iff.1 (by simpa using hr.1)
    subst hx
    have hq := fun w => Lib.run_eql_slice_nil (P := Tryz.prog) w 32 98 none 0 c 0 0 Tryz.underlying32
    simp only [Option.isNone_none] at hq
    go_enter Tryz.func38, Tryz.ntmps38
    go_wp2
    go_ret
    exact ⟨_, rfl, own_nil, by repeat (first | assumption | exact Below.refl _ _ | refine Gr.drew ?_ | refine Gr.drewN ?_ _ | refine Gr.alloc ?_ _ | refine Gr.set_ ?_ (by first | (simp; done) | assumption | omega | (simp; omega)) _)⟩
  | some ad =>
    have hq := fun w => Lib.run_eql_slice_nil (P := Tryz.prog) w 32 98 (some ad) n c 0 0 Tryz.underlying32
    simp only [Option.isNone_some] at hq
    go_enter Tryz.func38, Tryz.ntmps38
    go_wp2_with (at_builtin; refine app_any (.tmp 5) (.tmp 6) rfl rfl Tryz.underlying32 info_Grp rfl (by omega) (by rfl) (own_new (Blk.new _ _ _) (Nat.le_refl _) : World.ownsRow _ w.heap.size _ _ _ _ _) (by rfl) (hr.alloc (Nat.le_refl _) _) h1 n us (Nat.zero_add _) (List.nil_append _) (by omega) (by omega) (by simp) ?_; intro A1 c1 w1 ho1 hg1 h1 h2; have hb := grow_own (a := w) (by repeat (first | assumption | exact Below.refl _ _ | refine Gr.drew ?_ | refine Gr.drewN ?_ _ | refine Gr.alloc ?_ _ | refine Gr.set_ ?_ (by first | (simp; done) | assumption | omega | (simp; omega)) _)) hg1 (own_new (base := w.heap.size) (size := 3) (Blk.new _ _ _) (Nat.le_refl _)) (Nat.le_refl _))
    go_ret
    exact ⟨_, rfl, ho1, hb⟩
end
theorem okC_Grp : CallOK Tryz.prog 38 := ⟨_, Tryz.func38, by kernel_rfl, rfl⟩
theorem cl_Grp (xs : List (List AV)) (hx : xs.length ≤ 1000000) : AC Tryz.prog 38 [.sl 3 xs] [] (.own 0 xs.length) [(0, .row 98 3 xs)] := by
  refine ac_own okC_Grp fun w A vs h => ?_
  simp only [repL, rep] at h
  obtain ⟨y, us', rfl, ⟨ad, c, us, rfl, h1, h2, h3, h4⟩, rfl⟩ := h
  have hr : Reads w w.heap.size 3 ad xs.length us := by
    refine ⟨repLL_len h4, fun hn => ?_⟩
    rcases h3 with rfl | ⟨b, off, e, _, h6, h7⟩
    · have := repLL_len h4
      simp only [List.length_nil] at this
      omega
    · exact ⟨b, off, e, h6, h7⟩
  refine (clone_Grp ad xs.length c us w hr (repLL_one h4) hx).mono ?_
  rintro r w' ⟨y, rfl, h5, h6⟩
  exact ⟨y, us, rfl, h5, h4, h6⟩
section
attribute [local go_sem ↓] Go.wp_at_zero Go.wp_at_succ
theorem info_Inp : (Tryz.prog.info? 195).map (fun i => (i.zero, i.size, i.bytes)) = some (some (.agg #[.int .i64 0, .bool false]), 2, 16) := by kernel_rfl
set_option maxRecDepth 10000 in
theorem clone_Inp (A : Option Addr) (n c : Nat) (us : List Value) (w : World) (hr : Reads w w.heap.size 2 A n us) (h1 : ∀ u ∈ us, u.oneCell' = true) (hn : n ≤ 1000000) :
    Calls Tryz.prog 156 #[.slice A n c] w fun e w' => ∃ y, e = .returned y ∧ w'.ownsRow w.heap.size 195 2 y n us ∧ Below w.heap.size w w' := by
  cases A with
  | none =>
    have h0 : n = 0 := by
      rcases Nat.eq_zero_or_pos n with h | h
      · exact h
      · obtain ⟨b, off, h, _⟩ := hr.2 h; cases h
    subst h0
    have hx : us = [] := List.length_eq_zero_iff.1 (by simpa using hr.1)
    subst hx
    have hq := fun w => Lib.run_eql_slice_nil (P := Tryz.prog) w 33 195 none 0 c 0 0 Tryz.underlying33
    simp only [Option.isNone_none] at hq
    go_enter Tryz.func156, Tryz.ntmps156
    go_wp2
    go_ret
    exact ⟨_, rfl, own_nil, by repeat (first | assumption | exact Below.refl _ _ | refine Gr.drew ?_ | refine Gr.drewN ?_ _ | refine Gr.alloc ?_ _ | refine Gr.set_ ?_ (by first | (simp; done) | assumption | omega | (simp; omega)) _)⟩
  | some ad =>
    have hq := fun w => Lib.run_eql_slice_nil (P := Tryz.prog) w 33 195 (some ad) n c 0 0 Tryz.underlying33
    simp only [Option.isNone_some] at hq
    go_enter Tryz.func156, Tryz.ntmps156
    go_wp2_with (at_builtin; refine app_any (.tmp 5) (.tmp 6) rfl rfl Tryz.underlying33 info_Inp rfl (by omega) (by rfl) (own_new (Blk.new _ _ _) (Nat.le_refl _) : World.ownsRow _ w.heap.size _ _ _ _ _) (by rfl) (hr.alloc (Nat.le_refl _) _) h1 n us (Nat.zero_add _) (List.nil_append _) (by omega) (by omega) (by simp) ?_; intro A1 c1 w1 ho1 hg1 h1 h2; have hb := grow_own (a := w) (by repeat (first | assumption | exact Below.refl _ _ | refine Gr.drew ?_ | refine Gr.drewN ?_ _ | refine Gr.alloc ?_ _ | refine Gr.set_ ?_ (by first | (simp; done) | assumption | omega | (simp; omega)) _)) hg1 (own_new (base := w.heap.size) (size := 2) (Blk.new _ _ _) (Nat.le_refl _)) (Nat.le_refl _))
    go_ret
    exact ⟨_, rfl, ho1, hb⟩
end
theorem okC_Inp : CallOK Tryz.prog 156 := ⟨_, Tryz.func156, by kernel_rfl, rfl⟩
theorem cl_Inp (xs : List (List AV)) (hx : xs.length ≤ 1000000) : AC Tryz.prog 156 [.sl 2 xs] [] (.own 0 xs.length) [(0, .row 195 2 xs)] := by
  refine ac_own okC_Inp fun w A vs h => ?_
  simp only [repL, rep] at h
  obtain ⟨y, us', rfl, ⟨ad, c, us, rfl, h1, h2, h3, h4⟩, rfl⟩ := h
  have hr : Reads w w.heap.size 2 ad xs.length us := by
    refine ⟨repLL_len h4, fun hn => ?_⟩
    rcases h3 with rfl | ⟨b, off, e, _, h6, h7⟩
    · have := repLL_len h4
      simp only [List.length_nil] at this
      omega
    · exact ⟨b, off, e, h6, h7⟩
  refine (clone_Inp ad xs.length c us w hr (repLL_one h4) hx).mono ?_
  rintro r w' ⟨y, rfl, h5, h6⟩
  exact ⟨y, us, rfl, h5, h4, h6⟩
section
attribute [local go_sem ↓] Go.wp_at_zero Go.wp_at_succ
theorem info_Hld : (Tryz.prog.info? 192).map (fun i => (i.zero, i.size, i.bytes)) = some (some (.agg #[.int .i64 0, .int .i64 0]), 2, 16) := by kernel_rfl
set_option maxRecDepth 10000 in
theorem clone_Hld (A : Option Addr) (n c : Nat) (us : List Value) (w : World) (hr : Reads w w.heap.size 2 A n us) (h1 : ∀ u ∈ us, u.oneCell' = true) (hn : n ≤ 1000000) :
    Calls Tryz.prog 157 #[.slice A n c] w fun e w' => ∃ y, e = .returned y ∧ w'.ownsRow w.heap.size 192 2 y n us ∧ Below w.heap.size w w' := by
  cases A with
  | none =>
    have h0 : n = 0 := by
      rcases Nat.eq_zero_or_pos n with h | h
      · exact h
      · obtain ⟨b, off, h, _⟩ := hr.2 h; cases h
    subst h0
    have hx : us = [] := List.length_eq_zero_iff.1 (by simpa using hr.1)
    subst hx
    have hq := fun w => Lib.run_eql_slice_nil (P := Tryz.prog) w 34 192 none 0 c 0 0 Tryz.underlying34
    simp only [Option.isNone_none] at hq
    go_enter Tryz.func157, Tryz.ntmps157
    go_wp2
    go_ret
    exact ⟨_, rfl, own_nil, by repeat (first | assumption | exact Below.refl _ _ | refine Gr.drew ?_ | refine Gr.drewN ?_ _ | refine Gr.alloc ?_ _ | refine Gr.set_ ?_ (by first | (simp; done) | assumption | omega | (simp; omega)) _)⟩
  | some ad =>
    have hq := fun w => Lib.run_eql_slice_nil (P := Tryz.prog) w 34 192 (some ad) n c 0 0 Tryz.underlying34
    simp only [Option.isNone_some] at hq
    go_enter Tryz.func157, Tryz.ntmps157
    go_wp2_with (at_builtin; refine app_any (.tmp 5) (.tmp 6) rfl rfl Tryz.underlying34 info_Hld rfl (by omega) (by rfl) (own_new (Blk.new _ _ _) (Nat.le_refl _) : World.ownsRow _ w.heap.size _ _ _ _ _) (by rfl) (hr.alloc (Nat.le_refl _) _) h1 n us (Nat.zero_add _) (List.nil_append _) (by omega) (by omega) (by simp) ?_; intro A1 c1 w1 ho1 hg1 h1 h2; have hb := grow_own (a := w) (by repeat (first | assumption | exact Below.refl _ _ | refine Gr.drew ?_ | refine Gr.drewN ?_ _ | refine Gr.alloc ?_ _ | refine Gr.set_ ?_ (by first | (simp; done) | assumption | omega | (simp; omega)) _)) hg1 (own_new (base := w.heap.size) (size := 2) (Blk.new _ _ _) (Nat.le_refl _)) (Nat.le_refl _))
    go_ret
    exact ⟨_, rfl, ho1, hb⟩
end
theorem okC_Hld : CallOK Tryz.prog 157 := ⟨_, Tryz.func157, by kernel_rfl, rfl⟩
theorem cl_Hld (xs : List (List AV)) (hx : xs.length ≤ 1000000) : AC Tryz.prog 157 [.sl 2 xs] [] (.own 0 xs.length) [(0, .row 192 2 xs)] := by
  refine ac_own okC_Hld fun w A vs h => ?_
  simp only [repL, rep] at h
  obtain ⟨y, us', rfl, ⟨ad, c, us, rfl, h1, h2, h3, h4⟩, rfl⟩ := h
  have hr : Reads w w.heap.size 2 ad xs.length us := by
    refine ⟨repLL_len h4, fun hn => ?_⟩
    rcases h3 with rfl | ⟨b, off, e, _, h6, h7⟩
    · have := repLL_len h4
      simp only [List.length_nil] at this
      omega
    · exact ⟨b, off, e, h6, h7⟩
  refine (clone_Hld ad xs.length c us w hr (repLL_one h4) hx).mono ?_
  rintro r w' ⟨y, rfl, h5, h6⟩
  exact ⟨y, us, rfl, h5, h4, h6⟩
section
attribute [local go_sem ↓] Go.wp_at_zero Go.wp_at_succ
theorem info_Boo : (Tryz.prog.info? 4).map (fun i => (i.zero, i.size, i.bytes)) = some (some (.bool false), 1, 1) := by kernel_rfl
set_option maxRecDepth 10000 in
theorem clone_Boo (A : Option Addr) (n c : Nat) (us : List Value) (w : World) (hr : Reads w w.heap.size 1 A n us) (h1 : ∀ u ∈ us, u.oneCell' = true) (hn : n ≤ 1000000) :
    Calls Tryz.prog 128 #[.slice A n c] w fun e w' => ∃ y, e = .returned y ∧ w'.ownsRow w.heap.size 4 1 y n us ∧ Below w.heap.size w w' := by
  cases A with
  | none =>
    have h0 : n = 0 := by
      rcases Nat.eq_zero_or_pos n with h | h
      · exact h
      · obtain ⟨b, off, h, _⟩ := hr.2 h; cases h
    subst h0
    have hx : us = [] := List.length_eq_zero_iff.1 (by simpa using hr.1)
    subst hx
    have hq := fun w => Lib.run_eql_slice_nil (P := Tryz.prog) w 37 4 none 0 c 0 0 Tryz.underlying37
    simp only [Option.isNone_none] at hq
    go_enter Tryz.func128, Tryz.ntmps128
    go_wp2
    go_ret
    exact ⟨_, rfl, own_nil, by repeat (first | assumption | exact Below.refl _ _ | refine Gr.drew ?_ | refine Gr.drewN ?_ _ | refine Gr.alloc ?_ _ | refine Gr.set_ ?_ (by first | (simp; done) | assumption | omega | (simp; omega)) _)⟩
  | some ad =>
    have hq := fun w => Lib.run_eql_slice_nil (P := Tryz.prog) w 37 4 (some ad) n c 0 0 Tryz.underlying37
    simp only [Option.isNone_some] at hq
    go_enter Tryz.func128, Tryz.ntmps128
    go_wp2_with (at_builtin; refine app_any (.tmp 5) (.tmp 6) rfl rfl Tryz.underlying37 info_Boo rfl (by omega) (by rfl) (own_new (Blk.new _ _ _) (Nat.le_refl _) : World.ownsRow _ w.heap.size _ _ _ _ _) (by rfl) (hr.alloc (Nat.le_refl _) _) h1 n us (Nat.zero_add _) (List.nil_append _) (by omega) (by omega) (by simp) ?_; intro A1 c1 w1 ho1 hg1 h1 h2; have hb := grow_own (a := w) (by repeat (first | assumption | exact Below.refl _ _ | refine Gr.drew ?_ | refine Gr.drewN ?_ _ | refine Gr.alloc ?_ _ | refine Gr.set_ ?_ (by first | (simp; done) | assumption | omega | (simp; omega)) _)) hg1 (own_new (base := w.heap.size) (size := 1) (Blk.new _ _ _) (Nat.le_refl _)) (Nat.le_refl _))
    go_ret
    exact ⟨_, rfl, ho1, hb⟩
end
theorem okC_Boo : CallOK Tryz.prog 128 := ⟨_, Tryz.func128, by kernel_rfl, rfl⟩
theorem cl_Boo (xs : List (List AV)) (hx : xs.length ≤ 1000000) : AC Tryz.prog 128 [.sl 1 xs] [] (.own 0 xs.length) [(0, .row 4 1 xs)] := by
  refine ac_own okC_Boo fun w A vs h => ?_
  simp only [repL, rep] at h
  obtain ⟨y, us', rfl, ⟨ad, c, us, rfl, h1, h2, h3, h4⟩, rfl⟩ := h
  have hr : Reads w w.heap.size 1 ad xs.length us := by
    refine ⟨repLL_len h4, fun hn => ?_⟩
    rcases h3 with rfl | ⟨b, off, e, _, h6, h7⟩
    · have := repLL_len h4
      simp only [List.length_nil] at this
      omega
    · exact ⟨b, off, e, h6, h7⟩
  refine (clone_Boo ad xs.length c us w hr (repLL_one h4) hx).mono ?_
  rintro r w' ⟨y, rfl, h5, h6⟩
  exact ⟨y, us, rfl, h5, h4, h6⟩
section
attribute [local go_sem ↓] Go.wp_at_zero Go.wp_at_succ
theorem info_Its : (Tryz.prog.info? 53).map (fun i => (i.zero, i.size, i.bytes)) = some (some (.slice none 0 0), 1, 24) := by kernel_rfl
set_option maxRecDepth 10000 in
theorem clone_Its (A : Option Addr) (n c : Nat) (us : List Value) (w : World) (hr : Reads w w.heap.size 1 A n us) (h1 : ∀ u ∈ us, u.oneCell' = true) (hn : n ≤ 1000000) :
    Calls Tryz.prog 129 #[.slice A n c] w fun e w' => ∃ y, e = .returned y ∧ w'.ownsRow w.heap.size 53 1 y n us ∧ Below w.heap.size w w' := by
  cases A with
  | none =>
    have h0 : n = 0 := by
      rcases Nat.eq_zero_or_pos n with h | h
      · exact h
      · obtain ⟨b, off, h, _⟩ := hr.2 h; cases h
    subst h0
    have hx : us = [] := List.length_eq_zero_iff.1 (by simpa using hr.1)
    subst hx
    have hq := fun w => Lib.run_eql_slice_nil (P := Tryz.prog) w 38 53 none 0 c 0 0 Tryz.underlying38
    simp only [Option.isNone_none] at hq
    go_enter Tryz.func129, Tryz.ntmps129
    go_wp2
    go_ret
    exact ⟨_, rfl, own_nil, by repeat (first | assumption | exact Below.refl _ _ | refine Gr.drew ?_ | refine Gr.drewN ?_ _ | refine Gr.alloc ?_ _ | refine Gr.set_ ?_ (by first | (simp; done) | assumption | omega | (simp; omega)) _)⟩
  | some ad =>
    have hq := fun w => Lib.run_eql_slice_nil (P := Tryz.prog) w 38 53 (some ad) n c 0 0 Tryz.underlying38
    simp only [Option.isNone_some] at hq
    go_enter Tryz.func129, Tryz.ntmps129
    go_wp2_with (at_builtin; refine app_any (.tmp 5) (.tmp 6) rfl rfl Tryz.underlying38 info_Its rfl (by omega) (by rfl) (own_new (Blk.new _ _ _) (Nat.le_refl _) : World.ownsRow _ w.heap.size _ _ _ _ _) (by rfl) (hr.alloc (Nat.le_refl _) _) h1 n us (Nat.zero_add _) (List.nil_append _) (by omega) (by omega) (by simp) ?_; intro A1 c1 w1 ho1 hg1 h1 h2; have hb := grow_own (a := w) (by repeat (first | assumption | exact Below.refl _ _ | refine Gr.drew ?_ | refine Gr.drewN ?_ _ | refine Gr.alloc ?_ _ | refine Gr.set_ ?_ (by first | (simp; done) | assumption | omega | (simp; omega)) _)) hg1 (own_new (base := w.heap.size) (size := 1) (Blk.new _ _ _) (Nat.le_refl _)) (Nat.le_refl _))
    go_ret
    exact ⟨_, rfl, ho1, hb⟩
end
theorem okC_Its : CallOK Tryz.prog 129 := ⟨_, Tryz.func129, by kernel_rfl, rfl⟩
theorem cl_Its (xs : List (List AV)) (hx : xs.length ≤ 1000000) : AC Tryz.prog 129 [.sl 1 xs] [] (.own 0 xs.length) [(0, .row 53 1 xs)] := by
  refine ac_own okC_Its fun w A vs h => ?_
  simp only [repL, rep] at h
  obtain ⟨y, us', rfl, ⟨ad, c, us, rfl, h1, h2, h3, h4⟩, rfl⟩ := h
  have hr : Reads w w.heap.size 1 ad xs.length us := by
    refine ⟨repLL_len h4, fun hn => ?_⟩
    rcases h3 with rfl | ⟨b, off, e, _, h6, h7⟩
    · have := repLL_len h4
      simp only [List.length_nil] at this
      omega
    · exact ⟨b, off, e, h6, h7⟩
  refine (clone_Its ad xs.length c us w hr (repLL_one h4) hx).mono ?_
  rintro r w' ⟨y, rfl, h5, h6⟩
  exact ⟨y, us, rfl, h5, h4, h6⟩
section
attribute [local go_sem ↓] Go.wp_at_zero Go.wp_at_succ
theorem info_Itm : (Tryz.prog.info? 63).map (fun i => (i.zero, i.size, i.bytes)) = some (some (.agg #[.int .i64 0, .string ByteArray.empty, .int .i64 0, .int .i64 0, .int .i64 0, .int .i64 0, .int .i64 0, .int .i64 0, .string ByteArray.empty, .int .i64 0, .int .i64 0]), 11, 104) := by kernel_rfl
set_option maxRecDepth 10000 in
theorem clone_Itm (A : Option Addr) (n c : Nat) (us : List Value) (w : World) (hr : Reads w w.heap.size 11 A n us) (h1 : ∀ u ∈ us, u.oneCell' = true) (hn : n ≤ 1000000) :
    Calls Tryz.prog 100 #[.slice A n c] w fun e w' => ∃ y, e = .returned y ∧ w'.ownsRow w.heap.size 63 11 y n us ∧ Below w.heap.size w w' := by
  cases A with
  | none =>
    have h0 : n = 0 := by
      rcases Nat.eq_zero_or_pos n with h | h
      · exact h
      · obtain ⟨b, off, h, _⟩ := hr.2 h; cases h
    subst h0
    have hx : us = [] := List.length_eq_zero_iff.1 (by simpa using hr.1)
    subst hx
    have hq := fun w => Lib.run_eql_slice_nil (P := Tryz.prog) w 53 63 none 0 c 0 0 Tryz.underlying53
    simp only [Option.isNone_none] at hq
    go_enter Tryz.func100, Tryz.ntmps100
    go_wp2
    go_ret
    exact ⟨_, rfl, own_nil, by repeat (first | assumption | exact Below.refl _ _ | refine Gr.drew ?_ | refine Gr.drewN ?_ _ | refine Gr.alloc ?_ _ | refine Gr.set_ ?_ (by first | (simp; done) | assumption | omega | (simp; omega)) _)⟩
  | some ad =>
    have hq := fun w => Lib.run_eql_slice_nil (P := Tryz.prog) w 53 63 (some ad) n c 0 0 Tryz.underlying53
    simp only [Option.isNone_some] at hq
    go_enter Tryz.func100, Tryz.ntmps100
    go_wp2_with (at_builtin; refine app_any (.tmp 5) (.tmp 6) rfl rfl Tryz.underlying53 info_Itm rfl (by omega) (by rfl) (own_new (Blk.new _ _ _) (Nat.le_refl _) : World.ownsRow _ w.heap.size _ _ _ _ _) (by rfl) (hr.alloc (Nat.le_refl _) _) h1 n us (Nat.zero_add _) (List.nil_append _) (by omega) (by omega) (by simp) ?_; intro A1 c1 w1 ho1 hg1 h1 h2; have hb := grow_own (a := w) (by repeat (first | assumption | exact Below.refl _ _ | refine Gr.drew ?_ | refine Gr.drewN ?_ _ | refine Gr.alloc ?_ _ | refine Gr.set_ ?_ (by first | (simp; done) | assumption | omega | (simp; omega)) _)) hg1 (own_new (base := w.heap.size) (size := 11) (Blk.new _ _ _) (Nat.le_refl _)) (Nat.le_refl _))
    go_ret
    exact ⟨_, rfl, ho1, hb⟩
end
theorem okC_Itm : CallOK Tryz.prog 100 := ⟨_, Tryz.func100, by kernel_rfl, rfl⟩
theorem cl_Itm (xs : List (List AV)) (hx : xs.length ≤ 1000000) : AC Tryz.prog 100 [.sl 11 xs] [] (.own 0 xs.length) [(0, .row 63 11 xs)] := by
  refine ac_own okC_Itm fun w A vs h => ?_
  simp only [repL, rep] at h
  obtain ⟨y, us', rfl, ⟨ad, c, us, rfl, h1, h2, h3, h4⟩, rfl⟩ := h
  have hr : Reads w w.heap.size 11 ad xs.length us := by
    refine ⟨repLL_len h4, fun hn => ?_⟩
    rcases h3 with rfl | ⟨b, off, e, _, h6, h7⟩
    · have := repLL_len h4
      simp only [List.length_nil] at this
      omega
    · exact ⟨b, off, e, h6, h7⟩
  refine (clone_Itm ad xs.length c us w hr (repLL_one h4) hx).mono ?_
  rintro r w' ⟨y, rfl, h5, h6⟩
  exact ⟨y, us, rfl, h5, h4, h6⟩
theorem ridx_closed (mark : Int) (ps : List Pn) : (!decide (0 ≤ ridx (closed mark) ps)) = ps.all fun p => decide (mark < p.hi) := by
  have e : (ps.all fun p => decide (mark < p.hi)) = ps.all fun p => !closed mark p := by
    congr 1
    funext p
    have h1 : decide (mark < p.hi) = !decide (p.hi ≤ mark) := by
      by_cases h : p.hi ≤ mark
      · have : ¬ mark < p.hi := by omega
        simp [h, this]
      · have : mark < p.hi := by omega
        simp [h, this]
    exact h1
  rw [e]
  cases h : ps.all fun p => !closed mark p
  · unfold ridx
    have hlt : fidx (closed mark) ps < ps.length := by
      rcases Nat.lt_or_ge (fidx (closed mark) ps) ps.length with h1 | h1
      · exact h1
      · exfalso
        have h2 : (ps.takeWhile fun x => !closed mark x) = ps := by
          have h3 := List.takeWhile_sublist (l := ps) (fun x => !closed mark x)
          exact h3.eq_of_length (by unfold fidx at h1; have := h3.length_le; omega)
        have h4 : (ps.all fun p => !closed mark p) = true := by
          have := List.all_takeWhile (p := fun x => !closed mark x) (l := ps)
          rwa [h2] at this
        rw [h] at h4; cases h4
    rw [if_pos hlt]; simp
  · rw [ridx_all h]; simp
theorem c_GR1 (no mark : Int) (ps : List Pn) (lo hi : Int) (k : ByteArray) (n a b : Int) : AC Tryz.prog 86 [.agg [.v (.int .i64 lo), .v (.int .i64 hi), .v (.string k), .v (.int .i64 n), .v (.int .i64 a), .v (.int .i64 b)], .ref 0 0] [(0, .box 98 [.v (.int .i64 no), .v (.int .i64 mark), .sl 6 (ps.map Pn.av)])] (.v (.bool (closed mark ⟨lo, hi, k, n, a, b⟩))) [(0, .box 98 [.v (.int .i64 no), .v (.int .i64 mark), .sl 6 (ps.map Pn.av)])] := by
  refine (ac_body tab_ok Tryz.func86 rfl (by kernel_rfl) rfl ?_); intro w0 M μ0; simp only [Tryz.ntmps86, List.length_cons, List.length_nil, Nat.reduceAdd, Nat.reduceSub, numb]
  repeat' (first | ((first | apply o_do | apply d_do | apply d_yes rfl rfl rfl); first | exact lsc ((p_Closed _ _ _)) | exact lsq) | refine a_seq ?_ | refine a_region ?_ | refine o_nil ?_ | refine a_block ?_ | refine a_ret ?_ | refine a_exit ?_ | refine a_skip ?_ | refine a_draw mixed ?_ | refine d_nil (by kernel_rfl) ?_ | refine o_yes rfl rfl rfl ?_ | refine o_no rfl rfl rfl (by decide) ?_ | refine o_no' rfl rfl rfl ?_ | refine a_condT rfl ?_ | refine a_condF rfl ?_ | refine d_no rfl rfl rfl (by decide) ?_ | refine d_no' rfl rfl rfl ?_ | (refine wq2 (fun hb => ?_) (fun hb => ?_) <;> (simp only [hb]; try simp only [hbs, ne_eq] at hb; try (exfalso; first | omega | exact hb trivial))) | fail)
  refine rq rfl ?_
  exact fnq
set_option maxHeartbeats 1000000 in
theorem g_Right (no mark : Int) (ps : List Pn) (hx : ps.length ≤ 9223372036854775807) : PC Tryz.prog 57 [.agg [.v (.int .i64 no), .v (.int .i64 mark), .sl 6 (ps.map Pn.av)]] (.v (.bool (grR no mark ps))) := by
  have hp := p_Right ps hx
  have hc := p_Contains 86 (closed mark) 98 [.v (.int .i64 no), .v (.int .i64 mark), .sl 6 (ps.map Pn.av)] rfl (fun ρ => rfl) (fun lo hi k n a b => c_GR1 no mark ps lo hi k n a b) ps hx
  have hr := ridx_closed mark ps
  refine PC.mk (ac_body tab_ok Tryz.func57 rfl (by kernel_rfl) rfl ?_); intro w0 M μ0; simp only [Tryz.ntmps57, List.length_cons, List.length_nil, Nat.reduceAdd, Nat.reduceSub, numb]
  repeat' (first | ((first | apply o_do | apply d_do | apply d_yes rfl rfl rfl); first | exact lsc (hp) | exact ls_callA [0] 1 hc rfl rfl (by (repeat' (first | exact NilL.nil | refine NilL.cons Nil.same ?_ | refine NilL.cons Nil.nil ?_ | refine NilL.cons (Nil.agg ?_) ?_ | exact Nil1s.nil | refine Nil1s.cons Nil1.same ?_ | refine Nil1s.cons Nil1.nil ?_)); first | done | fail) rfl (by repeat' (first | exact trivial | refine ⟨⟨_, rfl, by first | rfl | (simp [renO, *]; done)⟩, ?_⟩)) (by first | rfl | simp [closO, *]) rfl rfl rfl rfl (by first | rfl | simp [closO, *]) rfl | exact lsq) | refine a_seq ?_ | refine a_region ?_ | refine o_nil ?_ | refine a_block ?_ | refine a_ret ?_ | refine a_exit ?_ | refine a_skip ?_ | refine a_draw mixed ?_ | refine d_nil (by kernel_rfl) ?_ | refine o_yes rfl rfl rfl ?_ | refine o_no rfl rfl rfl (by decide) ?_ | refine o_no' rfl rfl rfl ?_ | refine a_condT rfl ?_ | refine a_condF rfl ?_ | refine d_no rfl rfl rfl (by decide) ?_ | refine d_no' rfl rfl rfl ?_ | (refine wq2 (fun hb => ?_) (fun hb => ?_) <;> (simp only [hb]; try simp only [hbs, ne_eq] at hb; try (exfalso; first | omega | exact hb trivial))) | fail)
  all_goals refine rq rfl ?_
  all_goals (first | refine FinA.tup ?_ | refine FinA.one ?_); repeat' (first | exact FinBs.nil | exact FinCs.nil | refine FinBs.cons ?_ ?_ | refine FinCs.cons ?_ ?_ | refine FinB.cell (FinC.v ?_) | refine FinB.cell (FinC.own rfl rfl rfl ?_) | exact FinB.cell FinC.nil | refine FinB.cell (FinC.sl ?_) | exact FinB.agg' rfl rfl | exact FinB.cell (FinC.same rfl) | refine FinB.agg ?_ | refine FinC.v ?_ | refine FinC.own rfl rfl rfl ?_ | exact FinC.nil | refine FinC.sl ?_ | exact FinC.same rfl); all_goals try rfl
  all_goals first
    | (simp [grR, *]; done)
    | (simp [grR, *]; omega)
    | (have a1 : 0 ≤ no := by omega
       have a2 : no < 32 := by omega
       have a3 : 0 ≤ mark := by omega
       have a4 : mark ≤ 1099511627776 := by omega
       simp [grR, *])
theorem g_Job (g s d k fu li de id : Int) : PC Tryz.prog 141 [.agg [.v (.int .i64 g), .v (.int .i64 s), .v (.int .i64 d), .v (.int .i64 k), .v (.int .i64 fu), .v (.int .i64 li), .v (.int .i64 de), .v (.int .i64 id)]] (.v (.bool (jobR s d k))) := by
  refine PC.mk (ac_body tab_ok Tryz.func141 rfl (by kernel_rfl) rfl ?_); intro w0 M μ0; simp only [Tryz.ntmps141, List.length_cons, List.length_nil, Nat.reduceAdd, Nat.reduceSub, numb]
  repeat' (first | ((first | apply o_do | apply d_do | apply d_yes rfl rfl rfl); first | exact lsc ((p_wRight _ _)) | exact lsc ((p_fRight _)) | exact lsq) | refine a_seq ?_ | refine a_region ?_ | refine o_nil ?_ | refine a_block ?_ | refine a_ret ?_ | refine a_exit ?_ | refine a_skip ?_ | refine a_draw mixed ?_ | refine d_nil (by kernel_rfl) ?_ | refine o_yes rfl rfl rfl ?_ | refine o_no rfl rfl rfl (by decide) ?_ | refine o_no' rfl rfl rfl ?_ | refine a_condT rfl ?_ | refine a_condF rfl ?_ | refine d_no rfl rfl rfl (by decide) ?_ | refine d_no' rfl rfl rfl ?_ | (refine wq2 (fun hb => ?_) (fun hb => ?_) <;> (simp only [hb]; try simp only [hbs, ne_eq] at hb; try (exfalso; first | omega | exact hb trivial))) | fail)
  all_goals refine rq rfl ?_
  all_goals (first | refine FinA.tup ?_ | refine FinA.one ?_); repeat' (first | exact FinBs.nil | exact FinCs.nil | refine FinBs.cons ?_ ?_ | refine FinCs.cons ?_ ?_ | refine FinB.cell (FinC.v ?_) | refine FinB.cell (FinC.own rfl rfl rfl ?_) | exact FinB.cell FinC.nil | refine FinB.cell (FinC.sl ?_) | exact FinB.agg' rfl rfl | exact FinB.cell (FinC.same rfl) | refine FinB.agg ?_ | refine FinC.v ?_ | refine FinC.own rfl rfl rfl ?_ | exact FinC.nil | refine FinC.sl ?_ | exact FinC.same rfl); all_goals try rfl
  all_goals simp [jobR, *]
end Go.Proofs.YtilgagmfcdfjaaaGreat
