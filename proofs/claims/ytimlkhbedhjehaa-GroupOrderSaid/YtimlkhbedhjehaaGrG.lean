/-
  Groups, walked over abstract values: the law of an event's windows.
-/
import Derived.Test.YtimlkhbedhjehaaGrE
namespace Go.Proofs.Ytimlkhbedhjehaa
open Go.RowKit
set_option linter.unusedSimpArgs false
set_option linter.unusedVariables false
section
variable {s d t mark : Int}
theorem winK_hi (h : okT s d t = true) {k : Int} (h0 : 0 ≤ k) (h1 : k ≤ lastK d t) : (winK s d k).hi = min (k * d + s) 1099511627776 := by
  obtain ⟨⟨h2, h3, h4, h5⟩, h6, h7⟩ := okT_iff.1 h
  have e := (last_iff h2 k).1 h1
  have e2 := Int.mul_nonneg h0 (show 0 ≤ d by omega)
  exact addT_eq e2 (by omega) (by omega) (by omega)
theorem winL_get (h : okT s d t = true) {i : Nat} (hi : i < cntK s d t) : (winL s d t)[i]? = some (winK s d (firstK s d t + (i : Int))) := by
  unfold winL
  rw [if_pos h, List.getElem?_map, List.getElem?_range hi]
  rfl
theorem winL_length (h : okT s d t = true) : (winL s d t).length = cntK s d t := by
  unfold winL
  rw [if_pos h]; simp
theorem winL_pos (h : okT s d t = true) : 1 ≤ (winL s d t).length := by
  rw [winL_length h]
  have := cntK_eq h
  have := first_le_last h
  omega
/-- no window ends behind the last one -/
theorem winL_last (h : okT s d t = true) {x : Wn} (hx : (winL s d t)[(winL s d t).length - 1]? = some x) : ∀ y ∈ winL s d t, t < y.hi ∧ y.hi ≤ x.hi := by
  have hl := winL_length h
  have hp := winL_pos h
  have hc := cntK_eq h
  rw [hl] at hx hp
  rw [winL_get h (by omega)] at hx
  injection hx with hx
  have e : firstK s d t + ((cntK s d t - 1 : Nat) : Int) = lastK d t := by omega
  rw [e] at hx
  intro y hy
  obtain ⟨i, hi, rfl⟩ := List.getElem_of_mem hy
  rw [hl] at hi
  have h2 := winL_get h hi
  rw [List.getElem?_eq_getElem (by omega)] at h2
  injection h2 with h2
  rw [h2, ← hx]
  obtain ⟨⟨q1, q2, q3, q4⟩, q5, q6⟩ := okT_iff.1 h
  have f0 := first_nonneg s d t
  rw [winK_hi h (by omega) (by omega), winK_hi h (last_nonneg q1 q5) (Int.le_refl _)]
  have e1 := (first_iff (size := s) (t := t) q1 (firstK s d t + (i : Int))).1 (by omega)
  have e2 : (firstK s d t + (i : Int)) * d ≤ lastK d t * d := Int.mul_le_mul_of_nonneg_right (by omega) (by omega)
  omega
/-- the windows of an event: all are open that end behind the mark -/
theorem whole_facts (h : okT s d t = true) {x : Wn} (hx : (winL s d t)[(winL s d t).length - 1]? = some x) :
    (mark ≤ t → (openL s d t mark).length = (winL s d t).length) ∧ ((openL s d t mark).length = 0 ↔ x.hi ≤ mark) ∧ (openL s d t mark).length ≤ (winL s d t).length := by
  have hl := winL_last h hx
  have hm : x ∈ winL s d t := List.mem_of_getElem? hx
  refine ⟨fun hm => ?_, ⟨fun h0 => ?_, fun h0 => ?_⟩, List.length_filter_le _ _⟩
  · unfold openL openW
    rw [List.filter_eq_self.2]
    intro y hy
    have := hl y hy
    simp [closedW]; omega
  · have h1 := List.eq_nil_of_length_eq_zero h0
    unfold openL openW at h1
    rw [List.filter_eq_nil_iff] at h1
    have := h1 x hm
    simpa [closedW] using this
  · unfold openL openW
    rw [List.length_eq_zero_iff, List.filter_eq_nil_iff]
    intro y hy
    have := hl y hy
    simp [closedW]; omega
end
theorem evR_okT {s d k : Int} {key : ByteArray} {t : Int} (h1 : jobR s d k = true) (h2 : evR key t = true) : okT s d t = true := by
  unfold jobR at h1
  unfold evR at h2
  unfold okT
  simp only [Bool.and_eq_true] at h1 h2 ⊢
  exact ⟨h1.1, h2.2⟩
section
variable (g s d k fu li de id no mark : Int) (ps : List Pn) (key : ByteArray) (at' v : Int)
set_option maxHeartbeats 8000000 in
set_option maxRecDepth 20000 in
theorem g_whole (hx : ps.length ≤ 9223372036854775807) :
    PC Try.prog 15 [.agg [.v (.int .i64 g), .v (.int .i64 s), .v (.int .i64 d), .v (.int .i64 k), .v (.int .i64 fu), .v (.int .i64 li), .v (.int .i64 de), .v (.int .i64 id)], .agg [.v (.int .i64 no), .v (.int .i64 mark), .sl 6 (ps.map Pn.av)], .agg [.v (.string key), .v (.int .i64 at'), .v (.int .i64 v)]] (.v (.bool true)) := by
  have hf := g_few no mark ps hx
  have hx1 := Nat.le_trans (fewL_le ps) hx
  generalize fewL ps = qs at *
  have h1 := g_Take g s d k fu li de id no mark qs key at' v hx1
  have h8 := g_alive
  have hO := p_Of s d at'
  have hbad : (∃ e, takeR s d k no mark qs key at' v = ⟨0, 0, [], 0, e⟩ ∧ e ≠ 0) ∨ (okT s d at' = true ∧ (takeW k key v qs (openL s d at' mark)).2 = 0 ∧ takeR s d k no mark qs key at' v = ⟨no, mark, (takeW k key v qs (openL s d at' mark)).1, (openL s d at' mark).length, 0⟩) := by
    unfold takeR
    cases hJ : jobR s d k
    · exact .inl ⟨130, rfl, by omega⟩
    cases hG : grR no mark qs
    · exact .inl ⟨1, rfl, by omega⟩
    cases hE : evR key at'
    · exact .inl ⟨1, rfl, by omega⟩
    by_cases h0 : (takeW k key v qs (openL s d at' mark)).2 = 0
    · exact .inr ⟨evR_okT hJ hE, h0, by simp [h0]⟩
    · exact .inl ⟨_, by simp [h0], h0⟩
  rcases hbad with ⟨e, hb, hne⟩ | ⟨hok, h0, hb⟩
  · rw [hb] at h1
    dsimp only [TkR.av] at h1
    refine PC.mk (ac_body tab_ok Try.func15 rfl (by kernel_rfl) rfl ?_); intro w0 M μ0; simp only [Try.ntmps15, List.length_cons, List.length_nil, Nat.reduceAdd, Nat.reduceSub, numb]
    repeat' (first | ((first | apply o_do | apply d_do | apply d_yes rfl rfl rfl); first | exact lsc (hf) | exact lsc (h1) | exact lsc (h8) | exact lsq) | first | refine a_seq ?_ | refine a_region ?_ | refine o_nil ?_ | refine a_block ?_ | refine a_ret ?_ | refine a_exit ?_ | refine a_skip ?_ | refine a_draw mixed ?_ | refine d_nil (by kernel_rfl) ?_ | first | refine o_yes rfl rfl rfl ?_ | refine o_no rfl rfl rfl (by decide) ?_ | refine o_no' rfl rfl rfl ?_ | refine a_condT rfl ?_ | refine a_condF rfl ?_ | refine d_no rfl rfl rfl (by decide) ?_ | refine d_no' rfl rfl rfl ?_ | ((first | refine o_split_t rfl rfl rfl (fun hb => ?_) (fun hb => ?_) | refine o_split_f rfl rfl rfl (fun hb => ?_) (fun hb => ?_) | refine a_cond rfl (fun hb => ?_) (fun hb => ?_) | refine d_split rfl rfl (fun hb => ?_) (fun hb => ?_)) <;> (simp only [hb]; try simp only [decide_eq_true_eq, decide_eq_false_iff_not, Bool.not_eq_true', Bool.not_eq_false', Bool.not_eq_true, Bool.not_eq_false, ne_eq, Decidable.not_not] at hb; try (exfalso; first | omega | exact hb trivial))))
    all_goals refine ⟨by first | exact .inr rfl | exact .inl rfl, _, rfl, ?_, by repeat' (first | exact trivial | refine ⟨⟨_, rfl, by first | rfl | (simp [renO, *]; done)⟩, by first | rfl | assumption, ?_⟩)⟩
    all_goals (first | refine FinA.tup ?_ | refine FinA.one ?_); repeat' (first | exact FinBs.nil | exact FinCs.nil | refine FinBs.cons ?_ ?_ | refine FinCs.cons ?_ ?_ | refine FinB.cell (FinC.v ?_) | refine FinB.cell (FinC.own rfl rfl rfl ?_) | exact FinB.cell FinC.nil | refine FinB.cell (FinC.sl ?_) | exact FinB.agg' rfl rfl | exact FinB.cell (FinC.same rfl) | refine FinB.agg ?_ | refine FinC.v ?_ | refine FinC.own rfl rfl rfl ?_ | exact FinC.nil | refine FinC.sl ?_ | exact FinC.same rfl); all_goals try rfl
    all_goals simp
  · rw [hb] at h1
    dsimp only [TkR.av] at h1
    have hp := winL_pos hok
    have hlen := winL_len s d at'
    obtain ⟨x, hel⟩ : ∃ x, (winL s d at')[(winL s d at').length - 1]? = some x := ⟨_, List.getElem?_eq_getElem (by omega)⟩
    obtain ⟨w1, w2, w3⟩ := whole_facts (mark := mark) hok hel
    have hcl := p_Closed x.lo x.hi mark
    have hnil : (openL s d at' mark).length = 0 → (takeW k key v qs (openL s d at' mark)).1 = qs := fun h => by
      rw [List.eq_nil_of_length_eq_zero h]; rfl
    have h7 := g_Like no mark qs hx1
    generalize winL s d at' = ws at *
    generalize (takeW k key v qs (openL s d at' mark)).1 = A at *
    generalize (openL s d at' mark).length = n at *
    have e1 : (ws.map Wn.av)[ws.length - 1]? = some (Wn.av x) := by rw [List.getElem?_map, hel]; rfl
    have hwl : (ws.map Wn.av).length = ws.length := List.length_map _
    obtain ⟨q, hq⟩ : ∃ q : Nat, ((ws.map Wn.av).length : Int) - 1 = (q : Int) := ⟨ws.length - 1, by omega⟩
    have hqx : q < (ws.map Wn.av).length := by omega
    rw [show ws.length - 1 = q by omega] at e1
    by_cases hn : n = 0
    · have hh := hnil hn
      subst hh
      subst hn
      have hxm := w2.1 rfl
      rw [decide_eq_true hxm] at hcl
      refine PC.mk (ac_body tab_ok Try.func15 rfl (by kernel_rfl) rfl ?_); intro w0 M μ0; simp only [Try.ntmps15, List.length_cons, List.length_nil, Nat.reduceAdd, Nat.reduceSub, numb]
      repeat' (first | ((first | apply o_do | apply d_do | apply d_yes rfl rfl rfl); first | exact lsc (hf) | exact lsc (h1) | exact lsc (h8) | exact ls_callA [] 4 hO rfl rfl (by (repeat' (first | exact NilL.nil | refine NilL.cons Nil.same ?_ | refine NilL.cons Nil.nil ?_ | refine NilL.cons (Nil.agg ?_) ?_ | exact Nil1s.nil | refine Nil1s.cons Nil1.same ?_ | refine Nil1s.cons Nil1.nil ?_)); done) rfl (by repeat' (first | exact trivial | refine ⟨⟨_, rfl, by first | rfl | (simp [renO, *]; done)⟩, ?_⟩)) (by first | rfl | simp [closO, *]) rfl rfl rfl rfl (by first | rfl | simp [closO, *]) rfl | exact lsc (hcl) | exact lsc (h7) | exact ls_indexAddr_own tab_ok rfl rfl rfl rfl rfl hq hqx rfl | exact ls_load_eref tab_ok rfl rfl rfl e1 rfl rfl rfl rfl | exact lsq) | first | refine a_seq ?_ | refine a_region ?_ | refine o_nil ?_ | refine a_block ?_ | refine a_ret ?_ | refine a_exit ?_ | refine a_skip ?_ | refine a_draw mixed ?_ | refine d_nil (by kernel_rfl) ?_ | first | refine o_yes rfl rfl rfl ?_ | refine o_no rfl rfl rfl (by decide) ?_ | refine o_no' rfl rfl rfl ?_ | refine a_condT rfl ?_ | refine a_condF rfl ?_ | refine d_no rfl rfl rfl (by decide) ?_ | refine d_no' rfl rfl rfl ?_ | ((first | refine o_split_t rfl rfl rfl (fun hb => ?_) (fun hb => ?_) | refine o_split_f rfl rfl rfl (fun hb => ?_) (fun hb => ?_) | refine a_cond rfl (fun hb => ?_) (fun hb => ?_) | refine d_split rfl rfl (fun hb => ?_) (fun hb => ?_)) <;> (simp only [hb]; try simp only [decide_eq_true_eq, decide_eq_false_iff_not, Bool.not_eq_true', Bool.not_eq_false', Bool.not_eq_true, Bool.not_eq_false, ne_eq, Decidable.not_not] at hb; try (exfalso; first | omega | exact hb trivial))))
      all_goals refine ⟨by first | exact .inr rfl | exact .inl rfl, _, rfl, ?_, by repeat' (first | exact trivial | refine ⟨⟨_, rfl, by first | rfl | (simp [renO, *]; done)⟩, by first | rfl | assumption, ?_⟩)⟩
      all_goals (first | refine FinA.tup ?_ | refine FinA.one ?_); repeat' (first | exact FinBs.nil | exact FinCs.nil | refine FinBs.cons ?_ ?_ | refine FinCs.cons ?_ ?_ | refine FinB.cell (FinC.v ?_) | refine FinB.cell (FinC.own rfl rfl rfl ?_) | exact FinB.cell FinC.nil | refine FinB.cell (FinC.sl ?_) | exact FinB.agg' rfl rfl | exact FinB.cell (FinC.same rfl) | refine FinB.agg ?_ | refine FinC.v ?_ | refine FinC.own rfl rfl rfl ?_ | exact FinC.nil | refine FinC.sl ?_ | exact FinC.same rfl); all_goals try rfl
      all_goals simp
    · have hxm : ¬ x.hi ≤ mark := fun h => hn (w2.2 h)
      rw [decide_eq_false hxm] at hcl
      refine PC.mk (ac_body tab_ok Try.func15 rfl (by kernel_rfl) rfl ?_); intro w0 M μ0; simp only [Try.ntmps15, List.length_cons, List.length_nil, Nat.reduceAdd, Nat.reduceSub, numb]
      repeat' (first | ((first | apply o_do | apply d_do | apply d_yes rfl rfl rfl); first | exact lsc (hf) | exact lsc (h1) | exact lsc (h8) | exact ls_callA [] 4 hO rfl rfl (by (repeat' (first | exact NilL.nil | refine NilL.cons Nil.same ?_ | refine NilL.cons Nil.nil ?_ | refine NilL.cons (Nil.agg ?_) ?_ | exact Nil1s.nil | refine Nil1s.cons Nil1.same ?_ | refine Nil1s.cons Nil1.nil ?_)); done) rfl (by repeat' (first | exact trivial | refine ⟨⟨_, rfl, by first | rfl | (simp [renO, *]; done)⟩, ?_⟩)) (by first | rfl | simp [closO, *]) rfl rfl rfl rfl (by first | rfl | simp [closO, *]) rfl | exact lsc (hcl) | exact lsc (h7) | exact ls_indexAddr_own tab_ok rfl rfl rfl rfl rfl hq hqx rfl | exact ls_load_eref tab_ok rfl rfl rfl e1 rfl rfl rfl rfl | exact lsq) | first | refine a_seq ?_ | refine a_region ?_ | refine o_nil ?_ | refine a_block ?_ | refine a_ret ?_ | refine a_exit ?_ | refine a_skip ?_ | refine a_draw mixed ?_ | refine d_nil (by kernel_rfl) ?_ | first | refine o_yes rfl rfl rfl ?_ | refine o_no rfl rfl rfl (by decide) ?_ | refine o_no' rfl rfl rfl ?_ | refine a_condT rfl ?_ | refine a_condF rfl ?_ | refine d_no rfl rfl rfl (by decide) ?_ | refine d_no' rfl rfl rfl ?_ | ((first | refine o_split_t rfl rfl rfl (fun hb => ?_) (fun hb => ?_) | refine o_split_f rfl rfl rfl (fun hb => ?_) (fun hb => ?_) | refine a_cond rfl (fun hb => ?_) (fun hb => ?_) | refine d_split rfl rfl (fun hb => ?_) (fun hb => ?_)) <;> (simp only [hb]; try simp only [decide_eq_true_eq, decide_eq_false_iff_not, Bool.not_eq_true', Bool.not_eq_false', Bool.not_eq_true, Bool.not_eq_false, ne_eq, Decidable.not_not] at hb; try (exfalso; first | omega | exact hb trivial))))
      all_goals refine ⟨by first | exact .inr rfl | exact .inl rfl, _, rfl, ?_, by repeat' (first | exact trivial | refine ⟨⟨_, rfl, by first | rfl | (simp [renO, *]; done)⟩, by first | rfl | assumption, ?_⟩)⟩
      all_goals (first | refine FinA.tup ?_ | refine FinA.one ?_); repeat' (first | exact FinBs.nil | exact FinCs.nil | refine FinBs.cons ?_ ?_ | refine FinCs.cons ?_ ?_ | refine FinB.cell (FinC.v ?_) | refine FinB.cell (FinC.own rfl rfl rfl ?_) | exact FinB.cell FinC.nil | refine FinB.cell (FinC.sl ?_) | exact FinB.agg' rfl rfl | exact FinB.cell (FinC.same rfl) | refine FinB.agg ?_ | refine FinC.v ?_ | refine FinC.own rfl rfl rfl ?_ | exact FinC.nil | refine FinC.sl ?_ | exact FinC.same rfl); all_goals try rfl
      all_goals (simp; omega)
end
end Go.Proofs.Ytimlkhbedhjehaa
