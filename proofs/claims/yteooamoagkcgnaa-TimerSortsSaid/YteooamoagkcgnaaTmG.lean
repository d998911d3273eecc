/-
  Timers, walked over abstract values: those of a name are dropped.
-/
import Derived.Test.YteooamoagkcgnaaTmF
import Derived.Test.YteooamoagkcgnaaAvL
namespace Go.Proofs.Yteooamoagkcgnaa
open Go.RowKit
set_option linter.unusedSimpArgs false
set_option linter.unusedVariables false
def nmB (name : ByteArray) (t : Tm) : Bool := t.name.toList == name.toList
theorem outP_snoc (name : ByteArray) (l : List Tm) (x : Tm) : outP name (l ++ [x]) = outP name l ++ (if nmB name x = true then [] else [x]) := by
  unfold outP nmB
  rw [List.filter_append]
  cases h : x.name.toList == name.toList <;> simp [h]
/-- how far the dropping has come -/
def DelT (nm : ByteArray) (xs : List Tm) (x : Nat × Nat × List Tm) : Prop := x.1 < x.2.1 ∧ x.2.1 ≤ xs.length ∧ x.2.2.length = xs.length ∧ x.2.2.take x.1 = outP nm (xs.take x.2.1) ∧ ∀ p, x.2.1 ≤ p → x.2.2[p]? = xs[p]?
theorem outP_self {nm : ByteArray} {l : List Tm} (h : l.all (fun x => !nmB nm x) = true) : outP nm l = l := by
  unfold outP; rw [List.filter_eq_self]; intro a ha; exact List.all_eq_true.1 h a ha
theorem DelT.start {nm : ByteArray} {xs : List Tm} {q : Nat} (h : q < xs.length) (h1 : (xs.take q).all (fun x => !nmB nm x) = true) (h2 : nmB nm xs[q] = true) : DelT nm xs (q, q + 1, xs) := by
  refine ⟨by simp, h, rfl, ?_, fun _ _ => rfl⟩
  dsimp only
  rw [take_snoc xs q h, outP_snoc, if_pos h2, List.append_nil, outP_self h1]
theorem DelT.keep {nm : ByteArray} {xs m : List Tm} {i j : Nat} {x : Tm} (h : DelT nm xs (i, j, m)) (hj : j < xs.length) (hx : xs[j] = x) (hc : nmB nm x = false) : DelT nm xs (i + 1, j + 1, m.set i x) := by
  obtain ⟨h1, h2, h3, h4, h5⟩ := h
  dsimp only at h1 h2 h3 h4 h5
  have him : i < m.length := by omega
  refine ⟨by dsimp only; omega, hj, by simp; exact h3, ?_, fun p hp => ?_⟩
  · dsimp only
    rw [take_snoc xs j hj, outP_snoc, hx, if_neg (by rw [hc]; simp), ← h4, List.take_succ_eq_append_getElem (by simp; exact him)]
    simp [List.take_set_of_le]
  · dsimp only at hp ⊢
    rw [List.getElem?_set_ne (by omega)]
    exact h5 p (by omega)
theorem DelT.drop {nm : ByteArray} {xs m : List Tm} {i j : Nat} {x : Tm} (h : DelT nm xs (i, j, m)) (hj : j < xs.length) (hx : xs[j] = x) (hc : nmB nm x = true) : DelT nm xs (i, j + 1, m) := by
  obtain ⟨h1, h2, h3, h4, h5⟩ := h
  dsimp only at h1 h2 h3 h4 h5
  refine ⟨by dsimp only; omega, hj, h3, ?_, fun p hp => h5 p (by dsimp only at hp; omega)⟩
  dsimp only
  rw [take_snoc xs j hj, outP_snoc, hx, if_pos hc, List.append_nil, h4]
theorem find_nm (nm : ByteArray) (xs : List Tm) : (xs.all (fun x => !nmB nm x) = true) ∨ ∃ q, ∃ h : q < xs.length, (xs.take q).all (fun x => !nmB nm x) = true ∧ nmB nm xs[q] = true := by
  induction xs with
  | nil => exact .inl rfl
  | cons x l ih =>
    cases hx : nmB nm x
    · rcases ih with h | ⟨q, hq, h1, h2⟩
      · exact .inl (by simp [hx]; simpa using h)
      · exact .inr ⟨q + 1, by simp; omega, by simp [hx]; simpa using h1, by simpa using h2⟩
    · exact .inr ⟨0, by simp, by simp, by simpa using hx⟩
def fidxT (p : Tm → Bool) (xs : List Tm) : Nat := (xs.takeWhile fun x => !p x).length
def ridxT (p : Tm → Bool) (xs : List Tm) : Int := if fidxT p xs < xs.length then (fidxT p xs : Int) else -1
theorem fidxT_at (p : Tm → Bool) (xs : List Tm) (q : Nat) (h : q < xs.length) (h1 : (xs.take q).all (fun x => !p x) = true) (h2 : p xs[q] = true) : fidxT p xs = q := by
  unfold fidxT
  conv => lhs; rw [← List.take_append_drop q xs]
  rw [List.takeWhile_append_of_pos (fun a ha => List.all_eq_true.1 h1 a ha), List.drop_eq_getElem_cons h, List.takeWhile_cons_of_neg (by simp [h2])]
  simp; omega
theorem fidxT_all (p : Tm → Bool) (xs : List Tm) (h1 : xs.all (fun x => !p x) = true) : fidxT p xs = xs.length := by
  unfold fidxT
  have := List.takeWhile_append_of_pos (l₁ := xs) (l₂ := []) (p := fun x : Tm => !p x) (by intro a ha; exact List.all_eq_true.1 h1 a ha)
  rw [List.append_nil] at this
  rw [this]; simp
theorem ridxT_at {p : Tm → Bool} {xs : List Tm} {q : Nat} (h : q < xs.length) (h1 : (xs.take q).all (fun x => !p x) = true) (h2 : p xs[q] = true) : ridxT p xs = q := by
  unfold ridxT; rw [fidxT_at p xs q h h1 h2, if_pos h]
theorem ridxT_all {p : Tm → Bool} {xs : List Tm} (h1 : xs.all (fun x => !p x) = true) : ridxT p xs = -1 := by
  unfold ridxT; rw [fidxT_all p xs h1, if_neg (Nat.lt_irrefl _)]
abbrev DS (nm : ByteArray) (r : List Tm) : Store := [(0, .box 9 [.v (.string nm)]), (1, .row 27 2 (r.map Tm.av))]
abbrev dClo : AV := .clo (.func 27) [] [.ref 0 0]
theorem a_Drop1 (nm : ByteArray) (t : Tm) : AC Try.prog 27 [.agg t.av, .ref 0 0] [(0, .box 9 [.v (.string nm)])] (.v (.bool (nmB nm t))) [(0, .box 9 [.v (.string nm)])] := by
  unfold Tm.av
  refine (ac_body tab_ok Try.func27 rfl (by kernel_rfl) rfl ?_); intro w0 M μ0; simp only [Try.ntmps27, List.length_cons, List.length_nil, Nat.reduceAdd, Nat.reduceSub, numb]
  repeat' (first | ((first | apply o_do | apply d_do | apply d_yes rfl rfl rfl); exact lsq) | refine a_seq ?_ | refine a_region ?_ | refine o_nil ?_ | refine a_block ?_ | refine a_ret ?_ | refine a_exit ?_ | refine a_skip ?_ | refine a_draw mixed ?_ | refine d_nil (by kernel_rfl) ?_ | refine o_yes rfl rfl rfl ?_ | refine o_no rfl rfl rfl (by decide) ?_ | refine o_no' rfl rfl rfl ?_ | refine a_condT rfl ?_ | refine a_condF rfl ?_ | refine d_no rfl rfl rfl (by decide) ?_ | refine d_no' rfl rfl rfl ?_ | (refine wq2 (fun hb => ?_) (fun hb => ?_) <;> (simp only [hb]; try simp only [hbs, ne_eq] at hb; try (exfalso; first | omega | exact hb trivial))) | fail)
  refine ⟨by first | exact .inr rfl | exact .inl rfl, _, rfl, ?_, by repeat' (first | exact trivial | refine ⟨⟨_, rfl, by first | rfl | (simp [renO, *]; done)⟩, by first | rfl | assumption, ?_⟩)⟩
  (first | refine FinA.tup ?_ | refine FinA.one ?_); repeat' (first | exact FinBs.nil | exact FinCs.nil | refine FinBs.cons ?_ ?_ | refine FinCs.cons ?_ ?_ | refine FinB.cell (FinC.v ?_) | refine FinB.cell (FinC.own rfl rfl rfl ?_) | exact FinB.cell FinC.nil | refine FinB.cell (FinC.sl ?_) | exact FinB.agg' rfl rfl | exact FinB.cell (FinC.same rfl) | refine FinB.agg ?_ | refine FinC.v ?_ | refine FinC.own rfl rfl rfl ?_ | exact FinC.nil | refine FinC.sl ?_ | exact FinC.same rfl); all_goals try rfl
set_option maxHeartbeats 2000000 in
theorem a_IndexT (nm : ByteArray) (xs : List Tm) (hx : xs.length ≤ 1000) :
    AC Try.prog 36 [.own 1 (xs.map Tm.av).length, dClo] (DS nm xs) (.v (.int .i64 (ridxT (nmB nm) xs))) (DS nm xs) := by
  have hn : (xs.map Tm.av).length = xs.length := List.length_map _
  refine (ac_body tab_ok Try.func36 rfl (by kernel_rfl) rfl ?_); intro w0 M μ0; simp only [Try.ntmps36, List.length_cons, List.length_nil, Nat.reduceAdd, Nat.reduceSub, numb]
  repeat' (first | ((first | apply o_do | apply d_do | apply d_yes rfl rfl rfl); exact lsq) | refine a_seq ?_ | refine a_region ?_ | refine o_nil ?_ | refine a_block ?_ | refine a_ret ?_ | refine a_exit ?_ | refine a_skip ?_ | refine a_draw mixed ?_ | refine d_nil (by kernel_rfl) ?_ | refine o_yes rfl rfl rfl ?_ | refine o_no rfl rfl rfl (by decide) ?_ | refine o_no' rfl rfl rfl ?_ | refine a_condT rfl ?_ | refine a_condF rfl ?_ | refine d_no rfl rfl rfl (by decide) ?_ | refine d_no' rfl rfl rfl ?_ | (refine wq2 (fun hb => ?_) (fun hb => ?_) <;> (simp only [hb]; try simp only [hbs, ne_eq] at hb; try (exfalso; first | omega | exact hb trivial))) | fail)
  refine a_loop (X := {q : Nat // q ≤ xs.length ∧ (xs.take q).all (fun x => !nmB nm x) = true}) (fun x => ⟨[(0, .own 1 (xs.map Tm.av).length), (1, dClo), (7, .v (.int .i64 (xs.map Tm.av).length)), (8, .v (.int .i64 x.1))], DS nm xs⟩) (fun x => xs.length - x.1) ⟨0, Nat.zero_le _, rfl⟩ ?_ ?_
  · refine ⟨by repeat' (first | exact trivial | exact FinA.one (FinB.cell (FinC.same rfl)) | exact FinA.one (FinB.cell FinC.nil) | exact FinA.bound rfl | exact FinA.one (FinB.cell (FinC.own rfl rfl rfl rfl)) | exact FinA.one (FinB.cell (FinC.v (by first | rfl | (simp)))) | exact FinA.one (FinB.cell (FinC.ow rfl (by first | rfl | (simp)))) | exact FinA.one (FinB.agg' rfl rfl) | refine ⟨⟨_, rfl, ?_⟩, ?_⟩), by repeat' (first | exact trivial | refine ⟨⟨_, rfl, by first | rfl | (simp; done) | (simp [renO, *]; done)⟩, by first | rfl | assumption, ?_⟩), rfl⟩
  rintro ⟨q, hq, hall⟩
  dsimp only
  by_cases hlt : q < xs.length
  · have hel : (xs.map Tm.av)[q]? = some (Tm.av xs[q]) := by simp [hlt]
    have hqx : q < (xs.map Tm.av).length := by omega
    have hsn := take_snoc xs q hlt
    have hat := fun h => ridxT_at (p := nmB nm) hlt hall h
    have hcl := a_Drop1 nm xs[q]
    generalize xs[q] = x at *
    repeat' (first | ((first | apply o_do | apply d_do | apply d_yes rfl rfl rfl); first | exact ls_indexAddr_own tab_ok rfl rfl rfl rfl rfl rfl hqx rfl | exact ls_load_eref tab_ok rfl rfl rfl hel rfl rfl rfl rfl | exact ls_callA [0] 2 hcl rfl rfl (by (repeat' (first | exact NilL.nil | refine NilL.cons Nil.same ?_ | refine NilL.cons Nil.nil ?_ | refine NilL.cons (Nil.agg ?_) ?_ | exact Nil1s.nil | refine Nil1s.cons Nil1.same ?_ | refine Nil1s.cons Nil1.nil ?_)); first | done | fail) rfl (by repeat' (first | exact trivial | refine ⟨⟨_, rfl, by first | rfl | (simp [renO, *]; done)⟩, ?_⟩)) (by first | rfl | simp [closO, *]) rfl rfl rfl rfl (by first | rfl | simp [closO, *]) rfl | exact lsq) | refine a_seq ?_ | refine a_region ?_ | refine o_nil ?_ | refine a_block ?_ | refine a_ret ?_ | refine a_exit ?_ | refine a_skip ?_ | refine a_draw mixed ?_ | refine d_nil (by kernel_rfl) ?_ | refine o_yes rfl rfl rfl ?_ | refine o_no rfl rfl rfl (by decide) ?_ | refine o_no' rfl rfl rfl ?_ | refine a_condT rfl ?_ | refine a_condF rfl ?_ | refine d_no rfl rfl rfl (by decide) ?_ | refine d_no' rfl rfl rfl ?_ | (refine wq2 (fun hb => ?_) (fun hb => ?_) <;> (simp only [hb]; try simp only [hbs, ne_eq] at hb; try (exfalso; first | omega | exact hb trivial))) | fail)
    · refine ⟨by first | exact .inr rfl | exact .inl rfl, _, rfl, ?_, by repeat' (first | exact trivial | refine ⟨⟨_, rfl, by first | rfl | (simp [renO, *]; done)⟩, by first | rfl | assumption, ?_⟩)⟩
      (first | refine FinA.tup ?_ | refine FinA.one ?_); repeat' (first | exact FinBs.nil | exact FinCs.nil | refine FinBs.cons ?_ ?_ | refine FinCs.cons ?_ ?_ | refine FinB.cell (FinC.v ?_) | refine FinB.cell (FinC.own rfl rfl rfl ?_) | exact FinB.cell FinC.nil | refine FinB.cell (FinC.sl ?_) | exact FinB.agg' rfl rfl | exact FinB.cell (FinC.same rfl) | refine FinB.agg ?_ | refine FinC.v ?_ | refine FinC.own rfl rfl rfl ?_ | exact FinC.nil | refine FinC.sl ?_ | exact FinC.same rfl); all_goals try rfl
      rw [hat hb]
    · refine ⟨⟨q + 1, by omega, by rw [hsn, List.all_append, hall]; simp; exact hb⟩, by dsimp only; omega, ?_⟩
      refine ⟨by repeat' (first | exact trivial | exact FinA.one (FinB.cell (FinC.same rfl)) | exact FinA.one (FinB.cell FinC.nil) | exact FinA.bound rfl | exact FinA.one (FinB.cell (FinC.own rfl rfl rfl rfl)) | exact FinA.one (FinB.cell (FinC.v (by first | rfl | (simp)))) | exact FinA.one (FinB.cell (FinC.ow rfl (by first | rfl | (simp)))) | exact FinA.one (FinB.agg' rfl rfl) | refine ⟨⟨_, rfl, ?_⟩, ?_⟩), by repeat' (first | exact trivial | refine ⟨⟨_, rfl, by first | rfl | (simp; done) | (simp [renO, *]; done)⟩, by first | rfl | assumption, ?_⟩), rfl⟩
  · repeat' (first | ((first | apply o_do | apply d_do | apply d_yes rfl rfl rfl); exact lsq) | refine a_seq ?_ | refine a_region ?_ | refine o_nil ?_ | refine a_block ?_ | refine a_ret ?_ | refine a_exit ?_ | refine a_skip ?_ | refine a_draw mixed ?_ | refine d_nil (by kernel_rfl) ?_ | refine o_yes rfl rfl rfl ?_ | refine o_no rfl rfl rfl (by decide) ?_ | refine o_no' rfl rfl rfl ?_ | refine a_condT rfl ?_ | refine a_condF rfl ?_ | refine d_no rfl rfl rfl (by decide) ?_ | refine d_no' rfl rfl rfl ?_ | (refine wq2 (fun hb => ?_) (fun hb => ?_) <;> (simp only [hb]; try simp only [hbs, ne_eq] at hb; try (exfalso; first | omega | exact hb trivial))) | fail)
    refine ⟨by first | exact .inr rfl | exact .inl rfl, _, rfl, ?_, by repeat' (first | exact trivial | refine ⟨⟨_, rfl, by first | rfl | (simp [renO, *]; done)⟩, by first | rfl | assumption, ?_⟩)⟩
    (first | refine FinA.tup ?_ | refine FinA.one ?_); repeat' (first | exact FinBs.nil | exact FinCs.nil | refine FinBs.cons ?_ ?_ | refine FinCs.cons ?_ ?_ | refine FinB.cell (FinC.v ?_) | refine FinB.cell (FinC.own rfl rfl rfl ?_) | exact FinB.cell FinC.nil | refine FinB.cell (FinC.sl ?_) | exact FinB.agg' rfl rfl | exact FinB.cell (FinC.same rfl) | refine FinB.agg ?_ | refine FinC.v ?_ | refine FinC.own rfl rfl rfl ?_ | exact FinC.nil | refine FinC.sl ?_ | exact FinC.same rfl); all_goals try rfl
    obtain rfl : q = xs.length := by omega
    rw [List.take_length] at hall
    rw [ridxT_all hall]
set_option maxRecDepth 10000 in
set_option maxHeartbeats 8000000 in
theorem a_DelT (nm : ByteArray) (xs : List Tm) (hx : xs.length ≤ 1000) :
    AC Try.prog 26 [.own 1 (xs.map Tm.av).length, dClo] (DS nm xs) (.own 9 ((outP nm xs).map Tm.av).length) [(0, .box 9 [.v (.string nm)]), (1, .dead), (9, .row 27 2 ((outP nm xs).map Tm.av))] := by
  have hn : (xs.map Tm.av).length = xs.length := List.length_map _
  have hI := a_IndexT nm xs hx
  rcases find_nm nm xs with hall | ⟨q, hq, h1, h2⟩
  · rw [ridxT_all hall] at hI
    rw [outP_self hall]
    refine (ac_body tab_ok Try.func26 rfl (by kernel_rfl) rfl ?_); intro w0 M μ0; simp only [Try.ntmps26, List.length_cons, List.length_nil, Nat.reduceAdd, Nat.reduceSub, numb]
    repeat' (first | refine a_retM 1 9 rfl rfl rfl rfl rfl ?_ | ((first | apply o_do | apply d_do | apply d_yes rfl rfl rfl); first | exact ls_callA [0, 1] 2 hI rfl rfl (by (repeat' (first | exact NilL.nil | refine NilL.cons Nil.same ?_ | refine NilL.cons Nil.nil ?_ | refine NilL.cons (Nil.agg ?_) ?_ | exact Nil1s.nil | refine Nil1s.cons Nil1.same ?_ | refine Nil1s.cons Nil1.nil ?_)); first | done | fail) rfl (by repeat' (first | exact trivial | refine ⟨⟨_, rfl, by first | rfl | (simp [renO, *]; done)⟩, ?_⟩)) (by first | rfl | simp [closO, *]) rfl rfl rfl rfl (by first | rfl | simp [closO, *]) rfl | exact lsq) | refine a_seq ?_ | refine a_region ?_ | refine o_nil ?_ | refine a_block ?_ | refine a_ret ?_ | refine a_exit ?_ | refine a_skip ?_ | refine a_draw mixed ?_ | refine d_nil (by kernel_rfl) ?_ | refine o_yes rfl rfl rfl ?_ | refine o_no rfl rfl rfl (by decide) ?_ | refine o_no' rfl rfl rfl ?_ | refine a_condT rfl ?_ | refine a_condF rfl ?_ | refine d_no rfl rfl rfl (by decide) ?_ | refine d_no' rfl rfl rfl ?_ | (refine wq2 (fun hb => ?_) (fun hb => ?_) <;> (simp only [hb]; try simp only [hbs, ne_eq] at hb; try (exfalso; first | omega | exact hb trivial))) | fail)
    all_goals refine ⟨by first | exact .inr rfl | exact .inl rfl, _, rfl, ?_, by repeat' (first | exact trivial | refine ⟨⟨_, rfl, by first | rfl | (simp [renO, *]; done)⟩, by first | rfl | assumption, ?_⟩)⟩
    all_goals (first | refine FinA.tup ?_ | refine FinA.one ?_); repeat' (first | exact FinBs.nil | exact FinCs.nil | refine FinBs.cons ?_ ?_ | refine FinCs.cons ?_ ?_ | refine FinB.cell (FinC.v ?_) | refine FinB.cell (FinC.own rfl rfl rfl ?_) | exact FinB.cell FinC.nil | refine FinB.cell (FinC.sl ?_) | exact FinB.agg' rfl rfl | exact FinB.cell (FinC.same rfl) | refine FinB.agg ?_ | refine FinC.v ?_ | refine FinC.own rfl rfl rfl ?_ | exact FinC.nil | refine FinC.sl ?_ | exact FinC.same rfl); all_goals try rfl
  · rw [ridxT_at hq h1 h2] at hI
    refine (ac_body tab_ok Try.func26 rfl (by kernel_rfl) rfl ?_); intro w0 M μ0; simp only [Try.ntmps26, List.length_cons, List.length_nil, Nat.reduceAdd, Nat.reduceSub, numb]
    repeat' (first | ((first | apply o_do | apply d_do | apply d_yes rfl rfl rfl); first | exact ls_callA [0, 1] 2 hI rfl rfl (by (repeat' (first | exact NilL.nil | refine NilL.cons Nil.same ?_ | refine NilL.cons Nil.nil ?_ | refine NilL.cons (Nil.agg ?_) ?_ | exact Nil1s.nil | refine Nil1s.cons Nil1.same ?_ | refine Nil1s.cons Nil1.nil ?_)); first | done | fail) rfl (by repeat' (first | exact trivial | refine ⟨⟨_, rfl, by first | rfl | (simp [renO, *]; done)⟩, ?_⟩)) (by first | rfl | simp [closO, *]) rfl rfl rfl rfl (by first | rfl | simp [closO, *]) rfl | exact lsq) | refine a_seq ?_ | refine a_region ?_ | refine o_nil ?_ | refine a_block ?_ | refine a_ret ?_ | refine a_exit ?_ | refine a_skip ?_ | refine a_draw mixed ?_ | refine d_nil (by kernel_rfl) ?_ | refine o_yes rfl rfl rfl ?_ | refine o_no rfl rfl rfl (by decide) ?_ | refine o_no' rfl rfl rfl ?_ | refine a_condT rfl ?_ | refine a_condF rfl ?_ | refine d_no rfl rfl rfl (by decide) ?_ | refine d_no' rfl rfl rfl ?_ | (refine wq2 (fun hb => ?_) (fun hb => ?_) <;> (simp only [hb]; try simp only [hbs, ne_eq] at hb; try (exfalso; first | omega | exact hb trivial))) | fail)
    refine a_loop (X := {x : Nat × Nat × List Tm // DelT nm xs x}) (fun x => ⟨[(0, .own 1 (x.1.2.2.map Tm.av).length), (1, dClo), (5, .v (.int .i64 x.1.1)), (6, .v (.int .i64 x.1.2.1))], DS nm x.1.2.2⟩) (fun x => xs.length - x.1.2.1) ⟨(q, q + 1, xs), DelT.start hq h1 h2⟩ ?_ ?_
    · refine ⟨by repeat' (first | exact trivial | exact FinA.one (FinB.cell (FinC.same rfl)) | exact FinA.one (FinB.cell FinC.nil) | exact FinA.bound rfl | exact FinA.one (FinB.cell (FinC.own rfl rfl rfl rfl)) | exact FinA.one (FinB.cell (FinC.v (by first | rfl | (simp)))) | exact FinA.one (FinB.cell (FinC.ow rfl (by first | rfl | (simp)))) | exact FinA.one (FinB.agg' rfl rfl) | refine ⟨⟨_, rfl, ?_⟩, ?_⟩), by repeat' (first | exact trivial | refine ⟨⟨_, rfl, by first | rfl | (simp; done) | (simp [renO, *]; done)⟩, by first | rfl | assumption, ?_⟩), rfl⟩
    rintro ⟨⟨i, j, m⟩, hD⟩
    have hD' := hD
    obtain ⟨d1, d2, d3, d4, d5⟩ := hD'
    dsimp only at d1 d2 d3 d4 d5 ⊢
    have hmn : (m.map Tm.av).length = m.length := List.length_map _
    by_cases hlt : j < xs.length
    · have e1 : (m.map Tm.av)[j]? = some (Tm.av xs[j]) := by rw [List.getElem?_map, d5 j (Nat.le_refl _), List.getElem?_eq_getElem hlt]; rfl
      have hjx : j < (m.map Tm.av).length := by omega
      have hix : i < (m.map Tm.av).length := by omega
      obtain ⟨u, e2⟩ : ∃ u : Tm, (m.map Tm.av)[i]? = some (Tm.av u) := ⟨m[i]'(by omega), by simp [show i < m.length by omega]⟩
      have hcl := a_Drop1 nm xs[j]
      have hk := fun h => hD.keep hlt rfl h
      have hd := fun h => hD.drop hlt rfl h
      have hN : ∀ x : Tm, (m.set i x).map Tm.av = (m.map Tm.av).set i (Tm.av x) := fun x => List.map_set
      have hL : ∀ x : Tm, (m.map Tm.av).length = ((m.set i x).map Tm.av).length := fun x => by simp
      generalize xs[j] = x at *
      cases hc : nmB nm x
      · rw [hc] at hcl
        repeat' (first | ((first | apply o_do | apply d_do | apply d_yes rfl rfl rfl); first | exact ls_indexAddr_own tab_ok rfl rfl rfl rfl rfl rfl hjx rfl | exact ls_indexAddr_own tab_ok rfl rfl rfl rfl rfl rfl hix rfl | exact ls_load_eref tab_ok rfl rfl rfl e1 rfl rfl rfl rfl | exact ls_store_eref (cs' := Tm.av x) tab_ok rfl rfl rfl rfl e2 rfl rfl (pureT _) rfl rfl rfl rfl | exact ls_callA [0] 3 hcl rfl rfl (by (repeat' (first | exact NilL.nil | refine NilL.cons Nil.same ?_ | refine NilL.cons Nil.nil ?_ | refine NilL.cons (Nil.agg ?_) ?_ | exact Nil1s.nil | refine Nil1s.cons Nil1.same ?_ | refine Nil1s.cons Nil1.nil ?_)); first | done | fail) rfl (by repeat' (first | exact trivial | refine ⟨⟨_, rfl, by first | rfl | (simp [renO, *]; done)⟩, ?_⟩)) (by first | rfl | simp [closO, *]) rfl rfl rfl rfl (by first | rfl | simp [closO, *]) rfl | exact lsq) | refine a_seq ?_ | refine a_region ?_ | refine o_nil ?_ | refine a_block ?_ | refine a_ret ?_ | refine a_exit ?_ | refine a_skip ?_ | refine a_draw mixed ?_ | refine d_nil (by kernel_rfl) ?_ | refine o_yes rfl rfl rfl ?_ | refine o_no rfl rfl rfl (by decide) ?_ | refine o_no' rfl rfl rfl ?_ | refine a_condT rfl ?_ | refine a_condF rfl ?_ | refine d_no rfl rfl rfl (by decide) ?_ | refine d_no' rfl rfl rfl ?_ | (refine wq2 (fun hb => ?_) (fun hb => ?_) <;> (simp only [hb]; try simp only [hbs, ne_eq] at hb; try (exfalso; first | omega | exact hb trivial))) | fail)
        refine ⟨⟨(i + 1, j + 1, m.set i x), hk hc⟩, by dsimp only; omega, ?_⟩
        refine ⟨by repeat' (first | exact trivial | exact FinA.one (FinB.cell (FinC.same rfl)) | exact FinA.one (FinB.cell FinC.nil) | exact FinA.bound rfl | exact FinA.one (FinB.cell (FinC.own rfl rfl rfl rfl)) | exact FinA.one (FinB.cell (FinC.v (by first | rfl | ((first | (simp only [hN]; done) | (simp only [hN]; rfl) | (exact hL x) | simp))))) | exact FinA.one (FinB.cell (FinC.ow rfl (by first | rfl | ((first | (simp only [hN]; done) | (simp only [hN]; rfl) | (exact hL x) | simp))))) | exact FinA.one (FinB.agg' rfl rfl) | refine ⟨⟨_, rfl, ?_⟩, ?_⟩), by repeat' (first | exact trivial | refine ⟨⟨_, rfl, by first | rfl | ((first | (simp only [hN]; done) | (simp only [hN]; rfl) | (exact hL x) | simp); done) | (simp [renO, *]; done)⟩, by first | rfl | assumption, ?_⟩), rfl⟩
      · rw [hc] at hcl
        repeat' (first | ((first | apply o_do | apply d_do | apply d_yes rfl rfl rfl); first | exact ls_indexAddr_own tab_ok rfl rfl rfl rfl rfl rfl hjx rfl | exact ls_load_eref tab_ok rfl rfl rfl e1 rfl rfl rfl rfl | exact ls_callA [0] 3 hcl rfl rfl (by (repeat' (first | exact NilL.nil | refine NilL.cons Nil.same ?_ | refine NilL.cons Nil.nil ?_ | refine NilL.cons (Nil.agg ?_) ?_ | exact Nil1s.nil | refine Nil1s.cons Nil1.same ?_ | refine Nil1s.cons Nil1.nil ?_)); first | done | fail) rfl (by repeat' (first | exact trivial | refine ⟨⟨_, rfl, by first | rfl | (simp [renO, *]; done)⟩, ?_⟩)) (by first | rfl | simp [closO, *]) rfl rfl rfl rfl (by first | rfl | simp [closO, *]) rfl | exact lsq) | refine a_seq ?_ | refine a_region ?_ | refine o_nil ?_ | refine a_block ?_ | refine a_ret ?_ | refine a_exit ?_ | refine a_skip ?_ | refine a_draw mixed ?_ | refine d_nil (by kernel_rfl) ?_ | refine o_yes rfl rfl rfl ?_ | refine o_no rfl rfl rfl (by decide) ?_ | refine o_no' rfl rfl rfl ?_ | refine a_condT rfl ?_ | refine a_condF rfl ?_ | refine d_no rfl rfl rfl (by decide) ?_ | refine d_no' rfl rfl rfl ?_ | (refine wq2 (fun hb => ?_) (fun hb => ?_) <;> (simp only [hb]; try simp only [hbs, ne_eq] at hb; try (exfalso; first | omega | exact hb trivial))) | fail)
        refine ⟨⟨(i, j + 1, m), hd hc⟩, by dsimp only; omega, ?_⟩
        refine ⟨by repeat' (first | exact trivial | exact FinA.one (FinB.cell (FinC.same rfl)) | exact FinA.one (FinB.cell FinC.nil) | exact FinA.bound rfl | exact FinA.one (FinB.cell (FinC.own rfl rfl rfl rfl)) | exact FinA.one (FinB.cell (FinC.v (by first | rfl | (simp)))) | exact FinA.one (FinB.cell (FinC.ow rfl (by first | rfl | (simp)))) | exact FinA.one (FinB.agg' rfl rfl) | refine ⟨⟨_, rfl, ?_⟩, ?_⟩), by repeat' (first | exact trivial | refine ⟨⟨_, rfl, by first | rfl | (simp; done) | (simp [renO, *]; done)⟩, by first | rfl | assumption, ?_⟩), rfl⟩
    · obtain rfl : j = xs.length := by omega
      rw [List.take_length] at d4
      have hix : i < (m.map Tm.av).length := by omega
      repeat' (first | ((first | apply o_do | apply d_do | apply d_yes rfl rfl rfl); exact lsq) | refine a_seq ?_ | refine a_region ?_ | refine o_nil ?_ | refine a_block ?_ | refine a_ret ?_ | refine a_exit ?_ | refine a_skip ?_ | refine a_draw mixed ?_ | refine d_nil (by kernel_rfl) ?_ | refine o_yes rfl rfl rfl ?_ | refine o_no rfl rfl rfl (by decide) ?_ | refine o_no' rfl rfl rfl ?_ | refine a_condT rfl ?_ | refine a_condF rfl ?_ | refine d_no rfl rfl rfl (by decide) ?_ | refine d_no' rfl rfl rfl ?_ | (refine wq2 (fun hb => ?_) (fun hb => ?_) <;> (simp only [hb]; try simp only [hbs, ne_eq] at hb; try (exfalso; first | omega | exact hb trivial))) | fail)
      refine o_sliceClear (q := i) (zc := [.v (.int .i64 0), .v (.string ByteArray.empty)]) (zv := .agg #[.int .i64 0, .string ByteArray.empty]) tab_ok rfl rfl rfl rfl rfl hix rfl (fun w => by go_simp; rfl) (fun _ _ _ _ => repC_con (cs := [.int .i64 0, .string ByteArray.empty]) rfl) rfl rfl rfl ?_
      have hlen : (m.map Tm.av).length = ((m.map Tm.av).take i ++ List.replicate ((m.map Tm.av).length - i) [AV.v (.int .i64 0), AV.v (.string ByteArray.empty)]).length := by
        rw [List.length_append, List.length_take, List.length_replicate]; omega
      have hE : (outP nm xs).map Tm.av = ((m.map Tm.av).take i ++ List.replicate ((m.map Tm.av).length - i) [AV.v (.int .i64 0), AV.v (.string ByteArray.empty)]).take i := by
        rw [← d4, List.take_append_of_le_length (by rw [List.length_take]; omega), List.take_take, Nat.min_self, List.map_take]
      rw [hE]
      repeat' (first | ((first | apply o_do | apply d_do | apply d_yes rfl rfl rfl); first | exact ls_cut (id' := 9) (k := i) tab_ok rfl rfl hlen rfl rfl rfl hix rfl rfl | exact lsq) | refine a_seq ?_ | refine a_region ?_ | refine o_nil ?_ | refine a_block ?_ | refine a_ret ?_ | refine a_exit ?_ | refine a_skip ?_ | refine a_draw mixed ?_ | refine d_nil (by kernel_rfl) ?_ | refine o_yes rfl rfl rfl ?_ | refine o_no rfl rfl rfl (by decide) ?_ | refine o_no' rfl rfl rfl ?_ | refine a_condT rfl ?_ | refine a_condF rfl ?_ | refine d_no rfl rfl rfl (by decide) ?_ | refine d_no' rfl rfl rfl ?_ | (refine wq2 (fun hb => ?_) (fun hb => ?_) <;> (simp only [hb]; try simp only [hbs, ne_eq] at hb; try (exfalso; first | omega | exact hb trivial))) | fail)
      refine ⟨by first | exact .inr rfl | exact .inl rfl, _, rfl, ?_, by repeat' (first | exact trivial | refine ⟨⟨_, rfl, by first | rfl | (simp [renO, *]; done)⟩, by first | rfl | assumption, ?_⟩)⟩
      (first | refine FinA.tup ?_ | refine FinA.one ?_); repeat' (first | exact FinBs.nil | exact FinCs.nil | refine FinBs.cons ?_ ?_ | refine FinCs.cons ?_ ?_ | refine FinB.cell (FinC.v ?_) | refine FinB.cell (FinC.own rfl rfl rfl ?_) | exact FinB.cell FinC.nil | refine FinB.cell (FinC.sl ?_) | exact FinB.agg' rfl rfl | exact FinB.cell (FinC.same rfl) | refine FinB.agg ?_ | refine FinC.v ?_ | refine FinC.own rfl rfl rfl ?_ | exact FinC.nil | refine FinC.sl ?_ | exact FinC.same rfl); all_goals try rfl
end Go.Proofs.Yteooamoagkcgnaa
