/-
  Panes, walked over abstract values: values that are added to none, one behind the other.
-/
import Derived.Test.YtimlkhbedhjehaaPnM
import Derived.Test.YtimlkhbedhjehaaPnU
namespace Go.Proofs.Ytimlkhbedhjehaa
open Go.RowKit
set_option linter.unusedSimpArgs false
set_option linter.unusedVariables false
structure Vl where
  key : ByteArray
  lo : Int
  hi : Int
  v : Int
def Vl.cells (x : Vl) : List Value := [.string x.key, .int .i64 x.lo, .int .i64 x.hi, .int .i64 x.v]
def Vl.av (x : Vl) : List AV := [.v (.string x.key), .v (.int .i64 x.lo), .v (.int .i64 x.hi), .v (.int .i64 x.v)]
def vP (k : Int) (x : Vl) : Pn := oneP k x.lo x.hi x.key x.v
def okV (k : Int) (x : Vl) : Bool := fRight k && mayB (vP k x)
def rowV (k : Int) (l : List Vl) : List Pn := insAll k [] (l.map (vP k))
def allV (k : Int) (l : List Vl) : List Pn × Bool := if l.all (okV k) then (rowV k l, true) else ([], false)
section
variable {k : Int} {l : List Vl} {x : Vl}
theorem okV_right (h : okV k x = true) : fRight k = true ∧ mayB (vP k x) = true := by simpa [okV] using h
theorem vP_n (h : fRight k = true) : (vP k x).n = 1 := fOne_n h
theorem vP_good (h : fRight k = true) : GoodP (vP k x) := ⟨fOne_good k x.v, by rw [vP_n h]; omega⟩
theorem rowV_snoc : rowV k (l ++ [x]) = insP k (rowV k l) (vP k x) := by
  unfold rowV
  rw [List.map_append]
  exact insAll_snoc
theorem vPs_sum (h : fRight k = true) : sumN (l.map (vP k)) = l.length := by
  induction l with
  | nil => rfl
  | cons x l ih =>
    have e : sumN ((x :: l).map (vP k)) = (vP k x).n + sumN (l.map (vP k)) := by simp [sumN]
    rw [e, ih, vP_n h]; simp; omega
theorem vPs_good (h : fRight k = true) : ∀ p ∈ l.map (vP k), GoodP p := by
  intro p hp
  obtain ⟨x, _, rfl⟩ := List.mem_map.1 hp
  exact vP_good h
theorem rowV_good (h : fRight k = true) (hl : l.length ≤ 2000) : (∀ p ∈ rowV k l, GoodP p) ∧ sumN (rowV k l) = l.length := by
  have := insAll_good (k := k) (l := []) h (by simp) (vPs_good (l := l) h) (by rw [vPs_sum h]; simp [sumN]; omega)
  rw [vPs_sum h] at this
  exact ⟨this.1, by rw [rowV, this.2]; simp [sumN]⟩
theorem rowV_right : (∀ x ∈ l, okV k x = true) → l.length ≤ 2000 → rightL (rowV k l) = true := by
  refine snoc_ind (p := fun l => (∀ x ∈ l, okV k x = true) → l.length ≤ 2000 → rightL (rowV k l) = true) ?_ ?_ l
  · intro _ _; rfl
  · intro l x ih h hl
    obtain ⟨hk, hm⟩ := okV_right (h x (by simp))
    rw [List.length_append] at hl
    simp only [List.length_cons, List.length_nil] at hl
    have ih := ih (fun y hy => h y (by simp [hy])) (by omega)
    obtain ⟨g1, g2⟩ := rowV_good (l := l) hk (by omega)
    rw [rowV_snoc]
    exact putL_right (putL_few hk g1 (vP_good hk) (by rw [g2, vP_n hk]; omega)) ih hm
theorem rowV_len (h : fRight k = true) (hl : l.length ≤ 2000) : (rowV k l).length ≤ l.length := by
  obtain ⟨g1, g2⟩ := rowV_good (l := l) h hl
  have := sumN_nonneg g1
  omega
theorem add_ok (h : ∀ x ∈ l, okV k x = true) (hx : okV k x = true) (hl : l.length + 1 ≤ 2000) : addR k (rowV k l) (vP k x) = (rowV k (l ++ [x]), 0) := by
  obtain ⟨hk, hm⟩ := okV_right hx
  have hr := rowV_right h (by omega)
  obtain ⟨g1, g2⟩ := rowV_good (l := l) hk (by omega)
  have hp := putL_few hk g1 (vP_good (x := x) hk) (by rw [g2, vP_n hk]; omega)
  rw [rowV_snoc]
  simp [addR, hr, hk, hm, putR, hp]
theorem add_no {xs : List Pn} (hx : okV k x = false) : addR k xs (vP k x) = ([], 1) := by
  unfold addR
  rw [if_neg]
  intro h
  simp only [Bool.and_eq_true] at h
  simp [okV, h.1.2, h.2] at hx
theorem rowV_perm {m : List Vl} (hp : l.Perm m) (hl : l.length ≤ 2000) (h : ∀ x ∈ l, okV k x = true) : rowV k l = rowV k m := by
  cases l with
  | nil => rw [List.nil_perm.1 hp]
  | cons x l =>
    obtain ⟨hk, _⟩ := okV_right (h x List.mem_cons_self)
    exact insAll_perm hk (hp.map (vP k)) (by simp) (vPs_good hk) (by rw [vPs_sum hk]; simp [sumN] at hl ⊢; omega)
theorem allV_perm {m : List Vl} (hp : l.Perm m) (hl : l.length ≤ 2000) : allV k l = allV k m := by
  have e : l.all (okV k) = m.all (okV k) := by
    rw [Bool.eq_iff_iff, List.all_eq_true, List.all_eq_true]
    exact ⟨fun h x hx => h x (hp.mem_iff.2 hx), fun h x hx => h x (hp.mem_iff.1 hx)⟩
  unfold allV
  rw [← e]
  split
  · rename_i h
    rw [rowV_perm hp hl (by simpa using h)]
  · rfl
theorem allV_right (hl : l.length ≤ 2000) : rightL (allV k l).1 = true := by
  unfold allV
  split
  · rename_i h
    exact rowV_right (by simpa using h) hl
  · rfl
end
def AR.av (r : List Pn × Bool) : AV := .tup [.sl 6 (r.1.map Pn.av), .v (.bool r.2)]
set_option maxHeartbeats 1000000 in
theorem p_all (k : Int) (vs : List Vl) (hx : vs.length ≤ 2000) :
    PC Try.prog 44 [.v (.int .i64 k), .sl 4 (vs.map Vl.av)] (AR.av (allV k vs)) := by
  refine PC.mk (ac_body tab_ok Try.func44 rfl (by kernel_rfl) rfl ?_); intro w0 M μ0; simp only [Try.ntmps44, List.length_cons, List.length_nil, Nat.reduceAdd, Nat.reduceSub, numb]
  repeat' (first | ((first | apply o_do | apply d_do | apply d_yes rfl rfl rfl); exact lsq) | first | refine a_seq ?_ | refine a_region ?_ | refine o_nil ?_ | refine a_block ?_ | refine a_ret ?_ | refine a_exit ?_ | refine a_skip ?_ | refine a_draw mixed ?_ | refine d_nil (by kernel_rfl) ?_ | first | refine o_yes rfl rfl rfl ?_ | refine o_no rfl rfl rfl (by decide) ?_ | refine o_no' rfl rfl rfl ?_ | refine a_condT rfl ?_ | refine a_condF rfl ?_ | refine d_no rfl rfl rfl (by decide) ?_ | refine d_no' rfl rfl rfl ?_ | ((first | refine o_split_t rfl rfl rfl (fun hb => ?_) (fun hb => ?_) | refine o_split_f rfl rfl rfl (fun hb => ?_) (fun hb => ?_) | refine a_cond rfl (fun hb => ?_) (fun hb => ?_) | refine d_split rfl rfl (fun hb => ?_) (fun hb => ?_)) <;> (simp only [hb]; try simp only [decide_eq_true_eq, decide_eq_false_iff_not, Bool.not_eq_true', Bool.not_eq_false', Bool.not_eq_true, Bool.not_eq_false, ne_eq, Decidable.not_not] at hb; try (exfalso; first | omega | exact hb trivial))))
  refine a_loop (X := {q : Nat // q ≤ vs.length ∧ ∀ x ∈ vs.take q, okV k x = true}) (fun x => ⟨[(0, .v (.int .i64 k)), (6, .sl 6 ((rowV k (vs.take x.1)).map Pn.av)), (11, .sl 4 (vs.map Vl.av)), (12, .v (.int .i64 vs.length)), (13, .v (.int .i64 x.1))], []⟩) (fun x => vs.length - x.1) ⟨0, Nat.zero_le _, by simp⟩ ?_ ?_
  · refine ⟨by repeat' (first | exact trivial | exact FinA.one (FinB.cell (FinC.same rfl)) | exact FinA.one (FinB.cell FinC.nil) | exact FinA.bound rfl | exact FinA.one (FinB.cell (FinC.own rfl rfl rfl rfl)) | exact FinA.one (FinB.cell (FinC.v (by first | rfl | (simp)))) | exact FinA.one (FinB.cell (FinC.ow rfl (by first | rfl | (simp)))) | exact FinA.one (FinB.agg' rfl rfl) | refine ⟨⟨_, rfl, ?_⟩, ?_⟩), by repeat' (first | exact trivial | refine ⟨⟨_, rfl, by first | rfl | (simp; done) | (simp [renO, *]; done)⟩, by first | rfl | assumption, ?_⟩), rfl⟩
  rintro ⟨q, hq, hok⟩
  dsimp only
  by_cases hlt : q < vs.length
  · have hel : (vs.map Vl.av)[q]? = some (Vl.av vs[q]) := by simp [hlt]
    have hsn := take_snoc vs q hlt
    have hl1 : (vs.take q).length + 1 ≤ 2000 := by rw [List.length_take]; omega
    have hle : (rowV k (vs.take q)).length ≤ 9223372036854775807 := by
      have := (rightL_ok (rowV_right hok (by omega))).1
      omega
    have hA := p_Add (rowV k (vs.take q)) k vs[q].key vs[q].lo vs[q].hi vs[q].v hle
    rw [show oneP k vs[q].lo vs[q].hi vs[q].key vs[q].v = vP k vs[q] from rfl] at hA
    cases hv : okV k vs[q]
    · rw [add_no hv] at hA
      dsimp only [PR.av] at hA
      rw [show allV k vs = ([], false) by
        unfold allV
        rw [if_neg]
        rw [List.all_eq_true]
        intro h
        rw [h _ (List.getElem_mem hlt)] at hv
        cases hv]
      generalize vs[q] = x at *
      repeat' (first | ((first | apply o_do | apply d_do | apply d_yes rfl rfl rfl); first | exact lsc (hA) | exact lsq) | first | refine a_seq ?_ | refine a_region ?_ | refine o_nil ?_ | refine a_block ?_ | refine a_ret ?_ | refine a_exit ?_ | refine a_skip ?_ | refine a_draw mixed ?_ | refine d_nil (by kernel_rfl) ?_ | first | refine o_yes rfl rfl rfl ?_ | refine o_no rfl rfl rfl (by decide) ?_ | refine o_no' rfl rfl rfl ?_ | refine a_condT rfl ?_ | refine a_condF rfl ?_ | refine d_no rfl rfl rfl (by decide) ?_ | refine d_no' rfl rfl rfl ?_ | ((first | refine o_split_t rfl rfl rfl (fun hb => ?_) (fun hb => ?_) | refine o_split_f rfl rfl rfl (fun hb => ?_) (fun hb => ?_) | refine a_cond rfl (fun hb => ?_) (fun hb => ?_) | refine d_split rfl rfl (fun hb => ?_) (fun hb => ?_)) <;> (simp only [hb]; try simp only [decide_eq_true_eq, decide_eq_false_iff_not, Bool.not_eq_true', Bool.not_eq_false', Bool.not_eq_true, Bool.not_eq_false, ne_eq, Decidable.not_not] at hb; try (exfalso; first | omega | exact hb trivial))))
      all_goals refine ⟨by first | exact .inr rfl | exact .inl rfl, _, rfl, ?_, by repeat' (first | exact trivial | refine ⟨⟨_, rfl, by first | rfl | (simp [renO, *]; done)⟩, by first | rfl | assumption, ?_⟩)⟩
      all_goals (first | refine FinA.tup ?_ | refine FinA.one ?_); repeat' (first | exact FinBs.nil | exact FinCs.nil | refine FinBs.cons ?_ ?_ | refine FinCs.cons ?_ ?_ | refine FinB.cell (FinC.v ?_) | refine FinB.cell (FinC.own rfl rfl rfl ?_) | exact FinB.cell FinC.nil | refine FinB.cell (FinC.sl ?_) | exact FinB.agg' rfl rfl | exact FinB.cell (FinC.same rfl) | refine FinB.agg ?_ | refine FinC.v ?_ | refine FinC.own rfl rfl rfl ?_ | exact FinC.nil | refine FinC.sl ?_ | exact FinC.same rfl); all_goals try rfl
    · rw [add_ok hok hv hl1, ← hsn] at hA
      dsimp only [PR.av] at hA
      have hok2 : ∀ x ∈ vs.take (q + 1), okV k x = true := by
        intro x hx
        rw [hsn] at hx
        rcases List.mem_append.1 hx with h | h
        · exact hok x h
        · simp at h; rw [h]; exact hv
      generalize vs[q] = x at *
      repeat' (first | ((first | apply o_do | apply d_do | apply d_yes rfl rfl rfl); first | exact lsc (hA) | exact lsq) | first | refine a_seq ?_ | refine a_region ?_ | refine o_nil ?_ | refine a_block ?_ | refine a_ret ?_ | refine a_exit ?_ | refine a_skip ?_ | refine a_draw mixed ?_ | refine d_nil (by kernel_rfl) ?_ | first | refine o_yes rfl rfl rfl ?_ | refine o_no rfl rfl rfl (by decide) ?_ | refine o_no' rfl rfl rfl ?_ | refine a_condT rfl ?_ | refine a_condF rfl ?_ | refine d_no rfl rfl rfl (by decide) ?_ | refine d_no' rfl rfl rfl ?_ | ((first | refine o_split_t rfl rfl rfl (fun hb => ?_) (fun hb => ?_) | refine o_split_f rfl rfl rfl (fun hb => ?_) (fun hb => ?_) | refine a_cond rfl (fun hb => ?_) (fun hb => ?_) | refine d_split rfl rfl (fun hb => ?_) (fun hb => ?_)) <;> (simp only [hb]; try simp only [decide_eq_true_eq, decide_eq_false_iff_not, Bool.not_eq_true', Bool.not_eq_false', Bool.not_eq_true, Bool.not_eq_false, ne_eq, Decidable.not_not] at hb; try (exfalso; first | omega | exact hb trivial))))
      refine ⟨⟨q + 1, by omega, hok2⟩, by dsimp only; omega, ?_⟩
      refine ⟨by repeat' (first | exact trivial | exact FinA.one (FinB.cell (FinC.same rfl)) | exact FinA.one (FinB.cell FinC.nil) | exact FinA.bound rfl | exact FinA.one (FinB.cell (FinC.own rfl rfl rfl rfl)) | exact FinA.one (FinB.cell (FinC.v (by first | rfl | (simp)))) | exact FinA.one (FinB.cell (FinC.ow rfl (by first | rfl | (simp)))) | exact FinA.one (FinB.agg' rfl rfl) | refine ⟨⟨_, rfl, ?_⟩, ?_⟩), by repeat' (first | exact trivial | refine ⟨⟨_, rfl, by first | rfl | (simp; done) | (simp [renO, *]; done)⟩, by first | rfl | assumption, ?_⟩), rfl⟩
  · obtain rfl : q = vs.length := by omega
    rw [List.take_length] at *
    rw [show allV k vs = (rowV k vs, true) by simp [allV, hok]; exact hok]
    repeat' (first | ((first | apply o_do | apply d_do | apply d_yes rfl rfl rfl); exact lsq) | first | refine a_seq ?_ | refine a_region ?_ | refine o_nil ?_ | refine a_block ?_ | refine a_ret ?_ | refine a_exit ?_ | refine a_skip ?_ | refine a_draw mixed ?_ | refine d_nil (by kernel_rfl) ?_ | first | refine o_yes rfl rfl rfl ?_ | refine o_no rfl rfl rfl (by decide) ?_ | refine o_no' rfl rfl rfl ?_ | refine a_condT rfl ?_ | refine a_condF rfl ?_ | refine d_no rfl rfl rfl (by decide) ?_ | refine d_no' rfl rfl rfl ?_ | ((first | refine o_split_t rfl rfl rfl (fun hb => ?_) (fun hb => ?_) | refine o_split_f rfl rfl rfl (fun hb => ?_) (fun hb => ?_) | refine a_cond rfl (fun hb => ?_) (fun hb => ?_) | refine d_split rfl rfl (fun hb => ?_) (fun hb => ?_)) <;> (simp only [hb]; try simp only [decide_eq_true_eq, decide_eq_false_iff_not, Bool.not_eq_true', Bool.not_eq_false', Bool.not_eq_true, Bool.not_eq_false, ne_eq, Decidable.not_not] at hb; try (exfalso; first | omega | exact hb trivial))))
    all_goals refine ⟨by first | exact .inr rfl | exact .inl rfl, _, rfl, ?_, by repeat' (first | exact trivial | refine ⟨⟨_, rfl, by first | rfl | (simp [renO, *]; done)⟩, by first | rfl | assumption, ?_⟩)⟩
    all_goals (first | refine FinA.tup ?_ | refine FinA.one ?_); repeat' (first | exact FinBs.nil | exact FinCs.nil | refine FinBs.cons ?_ ?_ | refine FinCs.cons ?_ ?_ | refine FinB.cell (FinC.v ?_) | refine FinB.cell (FinC.own rfl rfl rfl ?_) | exact FinB.cell FinC.nil | refine FinB.cell (FinC.sl ?_) | exact FinB.agg' rfl rfl | exact FinB.cell (FinC.same rfl) | refine FinB.agg ?_ | refine FinC.v ?_ | refine FinC.own rfl rfl rfl ?_ | exact FinC.nil | refine FinC.sl ?_ | exact FinC.same rfl); all_goals try rfl
end Go.Proofs.Ytimlkhbedhjehaa
