/-
  Panes, walked over abstract values: what is due.
-/
import Derived.Test.YtimlkhbedhjehaaPnE
namespace Go.Proofs.Ytimlkhbedhjehaa
open Go.RowKit
set_option linter.unusedSimpArgs false
set_option linter.unusedVariables false
def dueA (l : List Pn) (m : Int) : List Pn := l.filter fun p => decide (p.hi ≤ m)
def dueB (l : List Pn) (m : Int) : List Pn := l.filter fun p => !decide (p.hi ≤ m)
theorem ahead_hi {p q : Pn} (h : ahead p q = true) : p.hi ≤ q.hi := by
  rcases ahead_iff.1 h with h | ⟨h, _⟩ <;> omega
def notDue (m : Int) (p : Pn) : Bool := !decide (p.hi ≤ m)
theorem due_parts (l : List Pn) (m : Int) (h : l.Pairwise (fun p q => ahead p q = true)) : l.take (fidx (notDue m) l) = dueA l m ∧ l.drop (fidx (notDue m) l) = dueB l m := by
  induction l with
  | nil => simp [fidx, dueA, dueB]
  | cons p l ih =>
    rw [List.pairwise_cons] at h
    obtain ⟨h1, h2⟩ := h
    obtain ⟨ih1, ih2⟩ := ih h2
    by_cases hp : p.hi ≤ m
    · have e : fidx (notDue m) (p :: l) = fidx (notDue m) l + 1 := by simp [fidx, notDue, List.takeWhile_cons, hp]
      rw [e]
      simp only [List.take_succ_cons, List.drop_succ_cons, ih1, ih2, dueA, dueB, List.filter_cons, hp, decide_true, Bool.not_true, if_true, Bool.false_eq_true, if_false]
      exact ⟨trivial, trivial⟩
    · have e : fidx (notDue m) (p :: l) = 0 := by simp [fidx, notDue, List.takeWhile_cons, hp]
      rw [e]
      have ha : l.filter (fun q => decide (q.hi ≤ m)) = [] := by
        rw [List.filter_eq_nil_iff]
        intro q hq
        have := ahead_hi (h1 q hq)
        simp; omega
      have hb : l.filter (fun q => !decide (q.hi ≤ m)) = l := by
        rw [List.filter_eq_self]
        intro q hq
        have := ahead_hi (h1 q hq)
        simp; omega
      simp only [List.take_zero, List.drop_zero, dueA, dueB, List.filter_cons, hp, decide_false, Bool.not_false, if_true, Bool.false_eq_true, if_false, ha, hb]
      exact ⟨trivial, trivial⟩
def dueRA (l : List Pn) (m : Int) : List Pn := if rightL l then dueA l m else []
def dueRB (l : List Pn) (m : Int) : List Pn := if rightL l then dueB l m else []
theorem rightL_ok {l : List Pn} (h : rightL l = true) : l.length ≤ 2000 ∧ (∀ p ∈ l, mayB p = true) ∧ l.Pairwise (fun p q => ahead p q = true) := by
  simp only [rightL, Bool.and_eq_true, decide_eq_true_eq] at h
  exact ⟨h.1, (okPn_iff l).1 h.2⟩
set_option maxHeartbeats 1000000 in
theorem p_Due (xs : List Pn) (m : Int) (hx : xs.length ≤ 9223372036854775807) : PC Try.prog 47 [.sl 6 (xs.map Pn.av), .v (.int .i64 m)] (.tup [.sl 6 ((dueRA xs m).map Pn.av), .sl 6 ((dueRB xs m).map Pn.av)]) := by
  cases hR : rightL xs
  · have e1 : (dueRA xs m).map Pn.av = [] := by simp [dueRA, hR]
    have e2 : (dueRB xs m).map Pn.av = [] := by simp [dueRB, hR]
    have hp := p_Right xs hx
    rw [hR] at hp
    rw [e1, e2]
    refine PC.mk (ac_body tab_ok Try.func47 rfl (by kernel_rfl) rfl ?_); intro w0 M μ0; simp only [Try.ntmps47, List.length_cons, List.length_nil, Nat.reduceAdd, Nat.reduceSub, numb]
    repeat' (first | ((first | apply o_do | apply d_do | apply d_yes rfl rfl rfl); first | exact lsc (hp) | exact lsq) | first | refine a_seq ?_ | refine a_region ?_ | refine o_nil ?_ | refine a_block ?_ | refine a_ret ?_ | refine a_exit ?_ | refine a_skip ?_ | refine a_draw mixed ?_ | refine d_nil (by kernel_rfl) ?_ | first | refine o_yes rfl rfl rfl ?_ | refine o_no rfl rfl rfl (by decide) ?_ | refine o_no' rfl rfl rfl ?_ | refine a_condT rfl ?_ | refine a_condF rfl ?_ | refine d_no rfl rfl rfl (by decide) ?_ | refine d_no' rfl rfl rfl ?_ | ((first | refine o_split_t rfl rfl rfl (fun hb => ?_) (fun hb => ?_) | refine o_split_f rfl rfl rfl (fun hb => ?_) (fun hb => ?_) | refine a_cond rfl (fun hb => ?_) (fun hb => ?_) | refine d_split rfl rfl (fun hb => ?_) (fun hb => ?_)) <;> (simp only [hb]; try simp only [decide_eq_true_eq, decide_eq_false_iff_not, Bool.not_eq_true', Bool.not_eq_false', Bool.not_eq_true, Bool.not_eq_false, ne_eq, Decidable.not_not] at hb; try (exfalso; first | omega | exact hb trivial))))
    refine ⟨by first | exact .inr rfl | exact .inl rfl, _, rfl, ?_, by repeat' (first | exact trivial | refine ⟨⟨_, rfl, by first | rfl | (simp [renO, *]; done)⟩, by first | rfl | assumption, ?_⟩)⟩
    (first | refine FinA.tup ?_ | refine FinA.one ?_); repeat' (first | exact FinBs.nil | exact FinCs.nil | refine FinBs.cons ?_ ?_ | refine FinCs.cons ?_ ?_ | refine FinB.cell (FinC.v ?_) | refine FinB.cell (FinC.own rfl rfl rfl ?_) | exact FinB.cell FinC.nil | refine FinB.cell (FinC.sl ?_) | exact FinB.agg' rfl rfl | exact FinB.cell (FinC.same rfl) | refine FinB.agg ?_ | refine FinC.v ?_ | refine FinC.own rfl rfl rfl ?_ | exact FinC.nil | refine FinC.sl ?_ | exact FinC.same rfl); all_goals try rfl
  · obtain ⟨h1, h2, h3⟩ := rightL_ok hR
    obtain ⟨hA, hB⟩ := due_parts xs m h3
    have hI := p_Index 95 (notDue m) 2 [.v (.int .i64 m)] rfl (fun ρ => rfl) (fun lo hi k n a b => c_Due1 m lo hi k n a b) xs hx
    have hle := fidx_le (notDue m) xs
    have hp := p_Right xs hx
    rw [hR] at hp
    have hn : (xs.map Pn.av).length = xs.length := List.length_map ..
    have eA : (xs.map Pn.av).take (fidx (notDue m) xs) = (dueRA xs m).map Pn.av := by rw [← List.map_take, hA, dueRA, hR]; rfl
    have eB : (xs.map Pn.av).drop (fidx (notDue m) xs) = (dueRB xs m).map Pn.av := by rw [← List.map_drop, hB, dueRB, hR]; rfl
    rcases Nat.lt_or_ge (fidx (notDue m) xs) xs.length with hlt | hge
    · rw [show ridx (notDue m) xs = (fidx (notDue m) xs : Int) by rw [ridx, if_pos hlt]] at hI
      generalize fidx (notDue m) xs = N at *
      have hneg : ¬ (N : Int) < 0 := by omega
      have hc1 := p_Clone ((xs.map Pn.av).take N) (by simp; omega)
      have hc2 := p_Clone ((xs.map Pn.av).drop N) (by simp; omega)
      refine PC.mk (ac_body tab_ok Try.func47 rfl (by kernel_rfl) rfl ?_); intro w0 M μ0; simp only [Try.ntmps47, List.length_cons, List.length_nil, Nat.reduceAdd, Nat.reduceSub, numb]
      repeat' (first | ((first | apply o_do | apply d_do | apply d_yes rfl rfl rfl); first | exact lsc (hp) | exact ls_callA [0] 1 hI rfl rfl (by (repeat' (first | exact NilL.nil | refine NilL.cons Nil.same ?_ | refine NilL.cons Nil.nil ?_ | refine NilL.cons (Nil.agg ?_) ?_ | exact Nil1s.nil | refine Nil1s.cons Nil1.same ?_ | refine Nil1s.cons Nil1.nil ?_)); first | done | fail) rfl (by repeat' (first | exact trivial | refine ⟨⟨_, rfl, by first | rfl | (simp [renO, *]; done)⟩, ?_⟩)) (by first | rfl | simp [closO, *]) rfl rfl rfl rfl (by first | rfl | simp [closO, *]) rfl | exact ls_slice_to tab_ok rfl rfl rfl rfl (by rw [hn]; omega) rfl | exact ls_slice_from tab_ok rfl rfl rfl rfl (by rw [hn]; omega) rfl | exact ls_callA [] 1 hc1 rfl rfl (by (repeat' (first | exact NilL.nil | refine NilL.cons Nil.same ?_ | refine NilL.cons Nil.nil ?_ | refine NilL.cons (Nil.agg ?_) ?_ | exact Nil1s.nil | refine Nil1s.cons Nil1.same ?_ | refine Nil1s.cons Nil1.nil ?_)); first | done | fail) rfl (by repeat' (first | exact trivial | refine ⟨⟨_, rfl, by first | rfl | (simp [renO, *]; done)⟩, ?_⟩)) (by first | rfl | simp [closO, *]) rfl rfl rfl rfl (by first | rfl | simp [closO, *]) rfl | exact ls_callA [] 2 hc2 rfl rfl (by (repeat' (first | exact NilL.nil | refine NilL.cons Nil.same ?_ | refine NilL.cons Nil.nil ?_ | refine NilL.cons (Nil.agg ?_) ?_ | exact Nil1s.nil | refine Nil1s.cons Nil1.same ?_ | refine Nil1s.cons Nil1.nil ?_)); first | done | fail) rfl (by repeat' (first | exact trivial | refine ⟨⟨_, rfl, by first | rfl | (simp [renO, *]; done)⟩, ?_⟩)) (by first | rfl | simp [closO, *]) rfl rfl rfl rfl (by first | rfl | simp [closO, *]) rfl | exact lsq) | first | refine a_seq ?_ | refine a_region ?_ | refine o_nil ?_ | refine a_block ?_ | refine a_ret ?_ | refine a_exit ?_ | refine a_skip ?_ | refine a_draw mixed ?_ | refine d_nil (by kernel_rfl) ?_ | first | refine o_yes rfl rfl rfl ?_ | refine o_no rfl rfl rfl (by decide) ?_ | refine o_no' rfl rfl rfl ?_ | refine a_condT rfl ?_ | refine a_condF rfl ?_ | refine d_no rfl rfl rfl (by decide) ?_ | refine d_no' rfl rfl rfl ?_ | ((first | refine o_split_t rfl rfl rfl (fun hb => ?_) (fun hb => ?_) | refine o_split_f rfl rfl rfl (fun hb => ?_) (fun hb => ?_) | refine a_cond rfl (fun hb => ?_) (fun hb => ?_) | refine d_split rfl rfl (fun hb => ?_) (fun hb => ?_)) <;> (simp only [hb]; try simp only [decide_eq_true_eq, decide_eq_false_iff_not, Bool.not_eq_true', Bool.not_eq_false', Bool.not_eq_true, Bool.not_eq_false, ne_eq, Decidable.not_not] at hb; try (exfalso; first | omega | exact hb trivial))))
      refine ⟨by first | exact .inr rfl | exact .inl rfl, _, rfl, ?_, by repeat' (first | exact trivial | refine ⟨⟨_, rfl, by first | rfl | (simp [renO, *]; done)⟩, by first | rfl | assumption, ?_⟩)⟩
      (first | refine FinA.tup ?_ | refine FinA.one ?_); repeat' (first | exact FinBs.nil | exact FinCs.nil | refine FinBs.cons ?_ ?_ | refine FinCs.cons ?_ ?_ | refine FinB.cell (FinC.v ?_) | refine FinB.cell (FinC.own rfl rfl rfl ?_) | exact FinB.cell FinC.nil | refine FinB.cell (FinC.sl ?_) | exact FinB.agg' rfl rfl | exact FinB.cell (FinC.same rfl) | refine FinB.agg ?_ | refine FinC.v ?_ | refine FinC.own rfl rfl rfl ?_ | exact FinC.nil | refine FinC.sl ?_ | exact FinC.same rfl); all_goals try rfl
      · exact eA
      · exact eB
    · rw [show ridx (notDue m) xs = -1 by rw [ridx, if_neg (by omega)]] at hI
      have hN : fidx (notDue m) xs = (xs.map Pn.av).length := by omega
      rw [hN] at eA eB
      have hc1 := p_Clone ((xs.map Pn.av).take (xs.map Pn.av).length) (by simp; omega)
      have hc2 := p_Clone ((xs.map Pn.av).drop (xs.map Pn.av).length) (by simp)
      refine PC.mk (ac_body tab_ok Try.func47 rfl (by kernel_rfl) rfl ?_); intro w0 M μ0; simp only [Try.ntmps47, List.length_cons, List.length_nil, Nat.reduceAdd, Nat.reduceSub, numb]
      repeat' (first | ((first | apply o_do | apply d_do | apply d_yes rfl rfl rfl); first | exact lsc (hp) | exact ls_callA [0] 1 hI rfl rfl (by (repeat' (first | exact NilL.nil | refine NilL.cons Nil.same ?_ | refine NilL.cons Nil.nil ?_ | refine NilL.cons (Nil.agg ?_) ?_ | exact Nil1s.nil | refine Nil1s.cons Nil1.same ?_ | refine Nil1s.cons Nil1.nil ?_)); first | done | fail) rfl (by repeat' (first | exact trivial | refine ⟨⟨_, rfl, by first | rfl | (simp [renO, *]; done)⟩, ?_⟩)) (by first | rfl | simp [closO, *]) rfl rfl rfl rfl (by first | rfl | simp [closO, *]) rfl | exact ls_slice_to tab_ok rfl rfl rfl rfl (by omega) rfl | exact ls_slice_from tab_ok rfl rfl rfl rfl (by omega) rfl | exact ls_callA [] 1 hc1 rfl rfl (by (repeat' (first | exact NilL.nil | refine NilL.cons Nil.same ?_ | refine NilL.cons Nil.nil ?_ | refine NilL.cons (Nil.agg ?_) ?_ | exact Nil1s.nil | refine Nil1s.cons Nil1.same ?_ | refine Nil1s.cons Nil1.nil ?_)); first | done | fail) rfl (by repeat' (first | exact trivial | refine ⟨⟨_, rfl, by first | rfl | (simp [renO, *]; done)⟩, ?_⟩)) (by first | rfl | simp [closO, *]) rfl rfl rfl rfl (by first | rfl | simp [closO, *]) rfl | exact ls_callA [] 2 hc2 rfl rfl (by (repeat' (first | exact NilL.nil | refine NilL.cons Nil.same ?_ | refine NilL.cons Nil.nil ?_ | refine NilL.cons (Nil.agg ?_) ?_ | exact Nil1s.nil | refine Nil1s.cons Nil1.same ?_ | refine Nil1s.cons Nil1.nil ?_)); first | done | fail) rfl (by repeat' (first | exact trivial | refine ⟨⟨_, rfl, by first | rfl | (simp [renO, *]; done)⟩, ?_⟩)) (by first | rfl | simp [closO, *]) rfl rfl rfl rfl (by first | rfl | simp [closO, *]) rfl | exact lsq) | first | refine a_seq ?_ | refine a_region ?_ | refine o_nil ?_ | refine a_block ?_ | refine a_ret ?_ | refine a_exit ?_ | refine a_skip ?_ | refine a_draw mixed ?_ | refine d_nil (by kernel_rfl) ?_ | first | refine o_yes rfl rfl rfl ?_ | refine o_no rfl rfl rfl (by decide) ?_ | refine o_no' rfl rfl rfl ?_ | refine a_condT rfl ?_ | refine a_condF rfl ?_ | refine d_no rfl rfl rfl (by decide) ?_ | refine d_no' rfl rfl rfl ?_ | ((first | refine o_split_t rfl rfl rfl (fun hb => ?_) (fun hb => ?_) | refine o_split_f rfl rfl rfl (fun hb => ?_) (fun hb => ?_) | refine a_cond rfl (fun hb => ?_) (fun hb => ?_) | refine d_split rfl rfl (fun hb => ?_) (fun hb => ?_)) <;> (simp only [hb]; try simp only [decide_eq_true_eq, decide_eq_false_iff_not, Bool.not_eq_true', Bool.not_eq_false', Bool.not_eq_true, Bool.not_eq_false, ne_eq, Decidable.not_not] at hb; try (exfalso; first | omega | exact hb trivial))))
      refine ⟨by first | exact .inr rfl | exact .inl rfl, _, rfl, ?_, by repeat' (first | exact trivial | refine ⟨⟨_, rfl, by first | rfl | (simp [renO, *]; done)⟩, by first | rfl | assumption, ?_⟩)⟩
      (first | refine FinA.tup ?_ | refine FinA.one ?_); repeat' (first | exact FinBs.nil | exact FinCs.nil | refine FinBs.cons ?_ ?_ | refine FinCs.cons ?_ ?_ | refine FinB.cell (FinC.v ?_) | refine FinB.cell (FinC.own rfl rfl rfl ?_) | exact FinB.cell FinC.nil | refine FinB.cell (FinC.sl ?_) | exact FinB.agg' rfl rfl | exact FinB.cell (FinC.same rfl) | refine FinB.agg ?_ | refine FinC.v ?_ | refine FinC.own rfl rfl rfl ?_ | exact FinC.nil | refine FinC.sl ?_ | exact FinC.same rfl); all_goals try rfl
      · exact eA
      · exact eB
end Go.Proofs.Ytimlkhbedhjehaa
