/-
  Walks over abstract values: the tail of a row of one's own is cleared. Over whatever program. No condition.
  Windows that are open, walked over abstract values: those that are closed are dropped of a row of one's own.
  Windows that hold a time, and those of them that are open, as the document says and as the program has them.
  Windows that hold a time, as the document says.
-/
import Derived.Test.YtimlkhbedhjehaaAvX
import Derived.Laws.CopyRow
import Derived.Test.YtimlkhbedhjehaaWnE
namespace Go.Proofs.Ytimlkhbedhjehaa
open Go.RowKit
set_option linter.unusedSimpArgs false
set_option linter.unusedVariables false
section
variable {P : Program} {T : List TyI} {Γ : Ctx} {s : ASt} {Q : Exit → ASt → Prop} {ops : Array Oper} {rest : List Oper} {ty ty' : TypeId} {pos pos' : String} {after after' : Array Edge}
end
end Go.Proofs.Ytimlkhbedhjehaa
namespace Go.Proofs.Ytimlkhbedhjehaa
open Go.RowKit
set_option linter.unusedSimpArgs false
set_option linter.unusedVariables false
theorem o_weak {P : Program} {Γ : Ctx} {Q : Exit → ASt → Prop} {s t : ASt} {ops : Array Oper} {rest : List Oper} (h : Weak Γ s t) (hk : AOps P Γ ops rest Q t) : AOps P Γ ops rest Q s := ⟨fun hnd μ a w hr => hk.out hnd μ a w (h.rel hr)⟩
def closedW (mark : Int) (x : Wn) : Bool := decide (x.hi ≤ mark)
def openW (mark : Int) (ws : List Wn) : List Wn := ws.filter fun x => !closedW mark x
def openL (size slide t mark : Int) : List Wn := openW mark (winL size slide t)
def fidxW (p : Wn → Bool) (xs : List Wn) : Nat := (xs.takeWhile fun x => !p x).length
def ridxW (p : Wn → Bool) (xs : List Wn) : Int := if fidxW p xs < xs.length then (fidxW p xs : Int) else -1
theorem openW_snoc (mk : Int) (l : List Wn) (x : Wn) : openW mk (l ++ [x]) = openW mk l ++ (if closedW mk x = true then [] else [x]) := by
  unfold openW
  rw [List.filter_append]
  cases h : closedW mk x <;> simp [h]
/-- how far the dropping has come -/
def DelX (mk : Int) (xs : List Wn) (x : Nat × Nat × List Wn) : Prop := x.1 < x.2.1 ∧ x.2.1 ≤ xs.length ∧ x.2.2.length = xs.length ∧ x.2.2.take x.1 = openW mk (xs.take x.2.1) ∧ ∀ p, x.2.1 ≤ p → x.2.2[p]? = xs[p]?
theorem DelX.start {mk : Int} {xs : List Wn} {q : Nat} (h : q < xs.length) (h1 : (xs.take q).all (fun x => !closedW mk x) = true) (h2 : closedW mk xs[q] = true) : DelX mk xs (q, q + 1, xs) := by
  refine ⟨by simp, by dsimp only; omega, rfl, ?_, fun p _ => rfl⟩
  dsimp only
  rw [take_snoc xs q h, openW_snoc, if_pos h2, List.append_nil]
  symm
  unfold openW
  rw [List.filter_eq_self]
  intro a ha
  exact List.all_eq_true.1 h1 a ha
theorem DelX.keep {mk : Int} {xs m : List Wn} {i j : Nat} {x : Wn} (h : DelX mk xs (i, j, m)) (hj : j < xs.length) (hx : xs[j] = x) (hc : closedW mk x = false) : DelX mk xs (i + 1, j + 1, m.set i x) := by
  obtain ⟨h1, h2, h3, h4, h5⟩ := h
  dsimp only at h1 h2 h3 h4 h5
  refine ⟨by dsimp only; omega, by dsimp only; omega, by simp [h3], ?_, fun p hp => ?_⟩
  · dsimp only
    have hi : i < (m.set i x).length := by rw [List.length_set]; omega
    rw [take_snoc _ i hi, List.getElem_set_self, take_snoc xs j hj, openW_snoc, hx, hc, ← h4]
    congr 1
    rw [List.take_set_of_le (Nat.le_refl _)]
  · dsimp only at hp ⊢
    rw [List.getElem?_set_ne (by omega)]
    exact h5 p (by omega)
theorem DelX.drop {mk : Int} {xs m : List Wn} {i j : Nat} {x : Wn} (h : DelX mk xs (i, j, m)) (hj : j < xs.length) (hx : xs[j] = x) (hc : closedW mk x = true) : DelX mk xs (i, j + 1, m) := by
  obtain ⟨h1, h2, h3, h4, h5⟩ := h
  dsimp only at h1 h2 h3 h4 h5
  refine ⟨by dsimp only; omega, by dsimp only; omega, h3, ?_, fun p hp => h5 p (by dsimp only at hp; omega)⟩
  dsimp only
  rw [take_snoc xs j hj, openW_snoc, hx, if_pos hc, List.append_nil]
  exact h4
end Go.Proofs.Ytimlkhbedhjehaa
namespace Go.Proofs.Ytimlkhbedhjehaa
open Go.RowKit
set_option linter.unusedSimpArgs false
set_option linter.unusedVariables false
theorem winL_len (size slide t : Int) : (winL size slide t).length ≤ 16 := by
  unfold winL
  split
  · rename_i h; simp; exact cntK_le h
  · simp
def mu2 (B : Nat) (v : Value) (id : Nat) : Value := if id = 0 then .pointer (some ⟨B, 0, none⟩) else v
section
attribute [local go_sem ↓] Go.wp_at_zero Go.wp_at_succ
end
end Go.Proofs.Ytimlkhbedhjehaa
namespace Go.Proofs.Ytimlkhbedhjehaa
open Go.RowKit
set_option linter.unusedSimpArgs false
set_option linter.unusedVariables false
section
variable {P : Program} {Γ : Ctx} {s : ASt} {dst : Option Tmp} {ty : TypeId} {pos : String} {after : Array Edge}
theorem ls_mulTo {xt yt : TypeId} {x y : Operand} {a b m : Int} (hm : a * b = m) (hx : ev s x = some (.v (.int .i64 a))) (hy : ev s y = some (.v (.int .i64 b))) (h : -9223372036854775808 ≤ m ∧ m ≤ 9223372036854775807) (hd : okDst Γ.n dst = true) : LS P Γ ⟨dst, .binOp .mul xt x y yt, ty, pos, after, none⟩ s (rd x (rd y [])) (dst1 dst (.v (.int .i64 m))) [] := by
  have := ls_mul (P := P) (Γ := Γ) (ty := ty) (pos := pos) (after := after) (xt := xt) (yt := yt) hx hy hd
  rwa [hm, IntWalk.i64_in _ (by omega)] at this
end
/-- the windows from the first one that holds the time to the one that begins ahead of k slides -/
def outW (size slide t k : Int) : List Wn := (List.range (k - firstK size slide t).toNat).map (fun i : Nat => winK size slide (firstK size slide t + (i : Int)))
theorem outW_low {size slide t k : Int} (h : k < firstK size slide t) : outW size slide t (k + 1) = outW size slide t k := by
  unfold outW
  rw [show (k + 1 - firstK size slide t).toNat = 0 by omega, show (k - firstK size slide t).toNat = 0 by omega]
theorem outW_next {size slide t k : Int} (h : firstK size slide t ≤ k) : outW size slide t (k + 1) = outW size slide t k ++ [winK size slide k] := by
  unfold outW
  rw [show (k + 1 - firstK size slide t).toNat = (k - firstK size slide t).toNat + 1 by omega, List.range_succ, List.map_append]
  congr 1
  simp only [List.map_cons, List.map_nil]
  congr 2
  omega
theorem outW_end {size slide t : Int} (h : okT size slide t = true) : outW size slide t (lastK slide t + 1) = winL size slide t := by
  unfold outW winL cntK
  rw [if_pos h]
theorem outW_none {size slide t k : Int} (h : k ≤ firstK size slide t) : outW size slide t k = [] := by
  unfold outW
  rw [show (k - firstK size slide t).toNat = 0 by omega]; rfl
theorem outW_len {size slide t k : Int} (h : okT size slide t = true) (hk : k ≤ lastK slide t + 1) : (outW size slide t k).length ≤ 16 := by
  have h1 := cntK_le h
  unfold cntK at h1
  unfold outW
  simp; omega
/-- where the document begins to look -/
theorem quo_low {size slide t d : Int} (h : okT size slide t = true) (hd : (t - size).tdiv slide = d) : -1048576 ≤ d ∧ d ≤ 1099511627776 ∧ d - 1 ≤ firstK size slide t := by
  obtain ⟨⟨h1, h2, h3, h4⟩, h5, h6⟩ := okT_iff.1 h
  rcases Int.lt_or_le (t - size) 0 with hn | hn
  · have e : (t - size).tdiv slide = -((size - t).tdiv slide) := by rw [← Int.neg_tdiv]; congr 1; omega
    have e2 : (size - t).tdiv slide = (size - t) / slide := Int.tdiv_eq_ediv_of_nonneg (by omega)
    have e3 : 0 ≤ (size - t) / slide := Int.ediv_nonneg (by omega) (by omega)
    have e4 : (size - t) / slide ≤ size - t := Int.ediv_le_self _ (by omega)
    have e5 : 0 ≤ firstK size slide t := by unfold firstK; omega
    omega
  · have e2 : (t - size).tdiv slide = (t - size) / slide := Int.tdiv_eq_ediv_of_nonneg hn
    have e3 : 0 ≤ (t - size) / slide := Int.ediv_nonneg hn (by omega)
    have e4 : (t - size) / slide ≤ t - size := Int.ediv_le_self _ hn
    have e5 : (t - size) / slide + 1 ≤ firstK size slide t := by unfold firstK; omega
    omega
theorem first_nonneg (size slide t : Int) : 0 ≤ firstK size slide t := by unfold firstK; omega
set_option maxHeartbeats 4000000 in
theorem p_rOf (size slide t : Int) : PC Try.prog 101 [.v (.int .i64 size), .v (.int .i64 slide), .v (.int .i64 t)] (.sl 2 ((winL size slide t).map Wn.av)) := by
  have hR := p_rwRight size slide
  cases hok : okT size slide t
  · rw [show winL size slide t = [] by simp [winL, hok]]
    cases hw : winB size slide
    · rw [hw] at hR
      refine PC.mk (ac_body tab_ok Try.func101 rfl (by kernel_rfl) rfl ?_); intro w0 M μ0; simp only [Try.ntmps101, List.length_cons, List.length_nil, Nat.reduceAdd, Nat.reduceSub, numb]
      repeat' (first | ((first | apply o_do | apply d_do | apply d_yes rfl rfl rfl); first | exact lsc (hR) | exact lsq) | first | refine a_seq ?_ | refine a_region ?_ | refine o_nil ?_ | refine a_block ?_ | refine a_ret ?_ | refine a_exit ?_ | refine a_skip ?_ | refine a_draw mixed ?_ | refine d_nil (by kernel_rfl) ?_ | first | refine o_yes rfl rfl rfl ?_ | refine o_no rfl rfl rfl (by decide) ?_ | refine o_no' rfl rfl rfl ?_ | refine a_condT rfl ?_ | refine a_condF rfl ?_ | refine d_no rfl rfl rfl (by decide) ?_ | refine d_no' rfl rfl rfl ?_ | ((first | refine o_split_t rfl rfl rfl (fun hb => ?_) (fun hb => ?_) | refine o_split_f rfl rfl rfl (fun hb => ?_) (fun hb => ?_) | refine a_cond rfl (fun hb => ?_) (fun hb => ?_) | refine d_split rfl rfl (fun hb => ?_) (fun hb => ?_)) <;> (simp only [hb]; try simp only [decide_eq_true_eq, decide_eq_false_iff_not, Bool.not_eq_true', Bool.not_eq_false', Bool.not_eq_true, Bool.not_eq_false, ne_eq, Decidable.not_not] at hb; try (exfalso; first | omega | exact hb trivial))))
      all_goals refine ⟨by first | exact .inr rfl | exact .inl rfl, _, rfl, ?_, by repeat' (first | exact trivial | refine ⟨⟨_, rfl, by first | rfl | (simp [renO, *]; done)⟩, by first | rfl | assumption, ?_⟩)⟩
      all_goals (first | refine FinA.tup ?_ | refine FinA.one ?_); repeat' (first | exact FinBs.nil | exact FinCs.nil | refine FinBs.cons ?_ ?_ | refine FinCs.cons ?_ ?_ | refine FinB.cell (FinC.v ?_) | refine FinB.cell (FinC.own rfl rfl rfl ?_) | exact FinB.cell FinC.nil | refine FinB.cell (FinC.sl ?_) | exact FinB.agg' rfl rfl | exact FinB.cell (FinC.same rfl) | refine FinB.agg ?_ | refine FinC.v ?_ | refine FinC.own rfl rfl rfl ?_ | exact FinC.nil | refine FinC.sl ?_ | exact FinC.same rfl); all_goals try rfl
    · rw [hw] at hR
      by_cases h0 : t < 0
      · refine PC.mk (ac_body tab_ok Try.func101 rfl (by kernel_rfl) rfl ?_); intro w0 M μ0; simp only [Try.ntmps101, List.length_cons, List.length_nil, Nat.reduceAdd, Nat.reduceSub, numb]
        repeat' (first | ((first | apply o_do | apply d_do | apply d_yes rfl rfl rfl); first | exact lsc (hR) | exact lsq) | first | refine a_seq ?_ | refine a_region ?_ | refine o_nil ?_ | refine a_block ?_ | refine a_ret ?_ | refine a_exit ?_ | refine a_skip ?_ | refine a_draw mixed ?_ | refine d_nil (by kernel_rfl) ?_ | first | refine o_yes rfl rfl rfl ?_ | refine o_no rfl rfl rfl (by decide) ?_ | refine o_no' rfl rfl rfl ?_ | refine a_condT rfl ?_ | refine a_condF rfl ?_ | refine d_no rfl rfl rfl (by decide) ?_ | refine d_no' rfl rfl rfl ?_ | ((first | refine o_split_t rfl rfl rfl (fun hb => ?_) (fun hb => ?_) | refine o_split_f rfl rfl rfl (fun hb => ?_) (fun hb => ?_) | refine a_cond rfl (fun hb => ?_) (fun hb => ?_) | refine d_split rfl rfl (fun hb => ?_) (fun hb => ?_)) <;> (simp only [hb]; try simp only [decide_eq_true_eq, decide_eq_false_iff_not, Bool.not_eq_true', Bool.not_eq_false', Bool.not_eq_true, Bool.not_eq_false, ne_eq, Decidable.not_not] at hb; try (exfalso; first | omega | exact hb trivial))))
        all_goals refine ⟨by first | exact .inr rfl | exact .inl rfl, _, rfl, ?_, by repeat' (first | exact trivial | refine ⟨⟨_, rfl, by first | rfl | (simp [renO, *]; done)⟩, by first | rfl | assumption, ?_⟩)⟩
        all_goals (first | refine FinA.tup ?_ | refine FinA.one ?_); repeat' (first | exact FinBs.nil | exact FinCs.nil | refine FinBs.cons ?_ ?_ | refine FinCs.cons ?_ ?_ | refine FinB.cell (FinC.v ?_) | refine FinB.cell (FinC.own rfl rfl rfl ?_) | exact FinB.cell FinC.nil | refine FinB.cell (FinC.sl ?_) | exact FinB.agg' rfl rfl | exact FinB.cell (FinC.same rfl) | refine FinB.agg ?_ | refine FinC.v ?_ | refine FinC.own rfl rfl rfl ?_ | exact FinC.nil | refine FinC.sl ?_ | exact FinC.same rfl); all_goals try rfl
      · have h1 : 1099511627776 ≤ t := by
          simp [okT, hw] at hok
          omega
        refine PC.mk (ac_body tab_ok Try.func101 rfl (by kernel_rfl) rfl ?_); intro w0 M μ0; simp only [Try.ntmps101, List.length_cons, List.length_nil, Nat.reduceAdd, Nat.reduceSub, numb]
        repeat' (first | ((first | apply o_do | apply d_do | apply d_yes rfl rfl rfl); first | exact lsc (hR) | exact lsq) | first | refine a_seq ?_ | refine a_region ?_ | refine o_nil ?_ | refine a_block ?_ | refine a_ret ?_ | refine a_exit ?_ | refine a_skip ?_ | refine a_draw mixed ?_ | refine d_nil (by kernel_rfl) ?_ | first | refine o_yes rfl rfl rfl ?_ | refine o_no rfl rfl rfl (by decide) ?_ | refine o_no' rfl rfl rfl ?_ | refine a_condT rfl ?_ | refine a_condF rfl ?_ | refine d_no rfl rfl rfl (by decide) ?_ | refine d_no' rfl rfl rfl ?_ | ((first | refine o_split_t rfl rfl rfl (fun hb => ?_) (fun hb => ?_) | refine o_split_f rfl rfl rfl (fun hb => ?_) (fun hb => ?_) | refine a_cond rfl (fun hb => ?_) (fun hb => ?_) | refine d_split rfl rfl (fun hb => ?_) (fun hb => ?_)) <;> (simp only [hb]; try simp only [decide_eq_true_eq, decide_eq_false_iff_not, Bool.not_eq_true', Bool.not_eq_false', Bool.not_eq_true, Bool.not_eq_false, ne_eq, Decidable.not_not] at hb; try (exfalso; first | omega | exact hb trivial))))
        all_goals refine ⟨by first | exact .inr rfl | exact .inl rfl, _, rfl, ?_, by repeat' (first | exact trivial | refine ⟨⟨_, rfl, by first | rfl | (simp [renO, *]; done)⟩, by first | rfl | assumption, ?_⟩)⟩
        all_goals (first | refine FinA.tup ?_ | refine FinA.one ?_); repeat' (first | exact FinBs.nil | exact FinCs.nil | refine FinBs.cons ?_ ?_ | refine FinCs.cons ?_ ?_ | refine FinB.cell (FinC.v ?_) | refine FinB.cell (FinC.own rfl rfl rfl ?_) | exact FinB.cell FinC.nil | refine FinB.cell (FinC.sl ?_) | exact FinB.agg' rfl rfl | exact FinB.cell (FinC.same rfl) | refine FinB.agg ?_ | refine FinC.v ?_ | refine FinC.own rfl rfl rfl ?_ | exact FinC.nil | refine FinC.sl ?_ | exact FinC.same rfl); all_goals try rfl
  obtain ⟨⟨h1, h2, h3, h4⟩, h5, h6⟩ := okT_iff.1 hok
  rw [show winB size slide = true from winB_iff.2 ⟨h1, h2, h3, h4⟩] at hR
  obtain ⟨d, hd⟩ : ∃ d, (t - size).tdiv slide = d := ⟨_, rfl⟩
  obtain ⟨b1, b2, b3⟩ := quo_low hok hd
  obtain ⟨f, hf⟩ : ∃ f, f = max 0 (d - 1) := ⟨_, rfl⟩
  have hf0 := first_nonneg size slide t
  have hf1 : 0 ≤ f ∧ f ≤ firstK size slide t := by omega
  have hfl := first_le_last hok
  have hlt2 : lastK slide t * slide ≤ t := (last_iff h1 _).1 (Int.le_refl _)
  have hlk : lastK slide t ≤ t := Int.ediv_le_self _ h5
  have hcase : (d - 1 < 0 ∧ f = 0) ∨ (¬ d - 1 < 0 ∧ d - 1 = f) := by omega
  rcases hcase with ⟨hc1, hc2⟩ | ⟨hc1, hc2⟩
  all_goals
    refine PC.mk (ac_body tab_ok Try.func101 rfl (by kernel_rfl) rfl ?_); intro w0 M μ0; simp only [Try.ntmps101, List.length_cons, List.length_nil, Nat.reduceAdd, Nat.reduceSub, numb]
    repeat' (first | ((first | apply o_do | apply d_do | apply d_yes rfl rfl rfl); first | exact lsc (hR) | exact ls_quo64 hd rfl rfl (by omega) (by omega) rfl | exact lsq) | first | refine a_seq ?_ | refine a_region ?_ | refine o_nil ?_ | refine a_block ?_ | refine a_ret ?_ | refine a_exit ?_ | refine a_skip ?_ | refine a_draw mixed ?_ | refine d_nil (by kernel_rfl) ?_ | first | refine o_yes rfl rfl rfl ?_ | refine o_no rfl rfl rfl (by decide) ?_ | refine o_no' rfl rfl rfl ?_ | refine a_condT rfl ?_ | refine a_condF rfl ?_ | refine d_no rfl rfl rfl (by decide) ?_ | refine d_no' rfl rfl rfl ?_ | ((first | refine o_split_t rfl rfl rfl (fun hb => ?_) (fun hb => ?_) | refine o_split_f rfl rfl rfl (fun hb => ?_) (fun hb => ?_) | refine a_cond rfl (fun hb => ?_) (fun hb => ?_) | refine d_split rfl rfl (fun hb => ?_) (fun hb => ?_)) <;> (simp only [hb]; try simp only [decide_eq_true_eq, decide_eq_false_iff_not, Bool.not_eq_true', Bool.not_eq_false', Bool.not_eq_true, Bool.not_eq_false, ne_eq, Decidable.not_not] at hb; try (exfalso; first | omega | exact hb trivial))))
    refine a_loop (X := {n : Nat // f + (n : Int) ≤ lastK slide t + 1}) (fun x => ⟨[(0, .v (.int .i64 size)), (1, .v (.int .i64 slide)), (2, .v (.int .i64 t)), (7, .own 0 ((outW size slide t (f + (x.1 : Int))).map Wn.av).length), (9, .v (.int .i64 (f + (x.1 : Int))))], [(0, .row 37 2 ((outW size slide t (f + (x.1 : Int))).map Wn.av))]⟩) (fun x => (lastK slide t + 1 - (f + (x.1 : Int))).toNat) ⟨0, by omega⟩ ?_ ?_
    · refine ⟨by repeat' (first | exact trivial | exact FinA.one (FinB.cell (FinC.same rfl)) | exact FinA.one (FinB.cell FinC.nil) | exact FinA.bound rfl | exact FinA.one (FinB.cell (FinC.own rfl rfl rfl rfl)) | exact FinA.one (FinB.cell (FinC.v (by first | rfl | ((first | (simp [outW_none hf1.2]; done) | (congr 1; simp; omega)))))) | exact FinA.one (FinB.cell (FinC.ow rfl (by first | rfl | ((first | (simp [outW_none hf1.2]; done) | (congr 1; simp; omega)))))) | exact FinA.one (FinB.agg' rfl rfl) | refine ⟨⟨_, rfl, ?_⟩, ?_⟩), by repeat' (first | exact trivial | refine ⟨⟨_, rfl, by first | rfl | ((first | (simp [outW_none hf1.2]; done) | (congr 1; simp; omega)); done) | (simp [renO, *]; done)⟩, by first | rfl | assumption, ?_⟩), rfl⟩
    rintro ⟨n, hn⟩
    dsimp only
    obtain ⟨k, hk⟩ : ∃ k, f + (n : Int) = k := ⟨_, rfl⟩
    have hk0 : 0 ≤ k := by omega
    have hkn : f + ((n + 1 : Nat) : Int) = k + 1 := by omega
    rw [hk] at hn ⊢
    obtain ⟨m, hm⟩ : ∃ m, k * slide = m := ⟨_, rfl⟩
    have hm0 : 0 ≤ m := by rw [← hm]; exact Int.mul_nonneg hk0 (by omega)
    have hlen := outW_len (k := k) hok hn
    have hlen2 : ((outW size slide t k).map Wn.av).length ≤ 16 := by rw [List.length_map]; exact hlen
    have hml : k ≤ lastK slide t ↔ m ≤ t := by rw [last_iff h1, hm]
    have hmf : firstK size slide t ≤ k ↔ t - size < m := by rw [first_iff h1, hm]; omega
    have hmu : m ≤ 1099512676352 := by
      rcases Int.lt_or_le (lastK slide t) k with h | h
      · have e : k = lastK slide t + 1 := by omega
        rw [e, Int.add_mul] at hm
        omega
      · have := hml.1 h; omega
    have hadd := p_raddT m size
    have hae : m ≤ t → addT m size = min (m + size) 1099511627776 := fun h => addT_eq hm0 (by omega) (by omega) (by omega)
    have hwk : winK size slide k = ⟨m, addT m size⟩ := by unfold winK; rw [hm]
    by_cases hkl : k ≤ lastK slide t
    · have hmt := hml.1 hkl
      have hae := hae hmt
      by_cases hkf : firstK size slide t ≤ k
      · have htm := hmf.1 hkf
        have hN := congrArg (List.map Wn.av) (outW_next hkf)
        rw [List.map_append, hwk] at hN
        generalize outW size slide t k = o at *
        repeat' (first | ((first | apply o_do | apply d_do | apply d_yes rfl rfl rfl); first | exact ls_mulTo hm rfl rfl (by omega) rfl | exact lsc (hadd) | exact lsq) | first | refine a_seq ?_ | refine a_region ?_ | refine o_nil ?_ | refine a_block ?_ | refine a_ret ?_ | refine a_exit ?_ | refine a_skip ?_ | refine a_draw mixed ?_ | refine d_nil (by kernel_rfl) ?_ | first | refine o_yes rfl rfl rfl ?_ | refine o_no rfl rfl rfl (by decide) ?_ | refine o_no' rfl rfl rfl ?_ | refine a_condT rfl ?_ | refine a_condF rfl ?_ | refine d_no rfl rfl rfl (by decide) ?_ | refine d_no' rfl rfl rfl ?_ | ((first | refine o_split_t rfl rfl rfl (fun hb => ?_) (fun hb => ?_) | refine o_split_f rfl rfl rfl (fun hb => ?_) (fun hb => ?_) | refine a_cond rfl (fun hb => ?_) (fun hb => ?_) | refine d_split rfl rfl (fun hb => ?_) (fun hb => ?_)) <;> (simp only [hb]; try simp only [decide_eq_true_eq, decide_eq_false_iff_not, Bool.not_eq_true', Bool.not_eq_false', Bool.not_eq_true, Bool.not_eq_false, ne_eq, Decidable.not_not] at hb; try (exfalso; first | omega | exact hb trivial))))
        refine ⟨⟨n + 1, by omega⟩, by dsimp only; omega, ?_⟩
        refine ⟨by repeat' (first | exact trivial | exact FinA.one (FinB.cell (FinC.same rfl)) | exact FinA.one (FinB.cell FinC.nil) | exact FinA.bound rfl | exact FinA.one (FinB.cell (FinC.own rfl rfl rfl rfl)) | exact FinA.one (FinB.cell (FinC.v (by first | rfl | ((first | (simp only [hkn, hN]; done) | (simp only [hkn, hN]; rfl) | (congr 1; dsimp only; omega)))))) | exact FinA.one (FinB.cell (FinC.ow rfl (by first | rfl | ((first | (simp only [hkn, hN]; done) | (simp only [hkn, hN]; rfl) | (congr 1; dsimp only; omega)))))) | exact FinA.one (FinB.agg' rfl rfl) | refine ⟨⟨_, rfl, ?_⟩, ?_⟩), by repeat' (first | exact trivial | refine ⟨⟨_, rfl, by first | rfl | ((first | (simp only [hkn, hN]; done) | (simp only [hkn, hN]; rfl) | (congr 1; dsimp only; omega)); done) | (simp [renO, *]; done)⟩, by first | rfl | assumption, ?_⟩), rfl⟩
      · have hN := congrArg (List.map Wn.av) (outW_low (size := size) (slide := slide) (t := t) (k := k) (by omega))
        have htm : ¬ t - size < m := fun h => hkf (hmf.2 h)
        generalize outW size slide t k = o at *
        repeat' (first | ((first | apply o_do | apply d_do | apply d_yes rfl rfl rfl); first | exact ls_mulTo hm rfl rfl (by omega) rfl | exact lsc (hadd) | exact lsq) | first | refine a_seq ?_ | refine a_region ?_ | refine o_nil ?_ | refine a_block ?_ | refine a_ret ?_ | refine a_exit ?_ | refine a_skip ?_ | refine a_draw mixed ?_ | refine d_nil (by kernel_rfl) ?_ | first | refine o_yes rfl rfl rfl ?_ | refine o_no rfl rfl rfl (by decide) ?_ | refine o_no' rfl rfl rfl ?_ | refine a_condT rfl ?_ | refine a_condF rfl ?_ | refine d_no rfl rfl rfl (by decide) ?_ | refine d_no' rfl rfl rfl ?_ | ((first | refine o_split_t rfl rfl rfl (fun hb => ?_) (fun hb => ?_) | refine o_split_f rfl rfl rfl (fun hb => ?_) (fun hb => ?_) | refine a_cond rfl (fun hb => ?_) (fun hb => ?_) | refine d_split rfl rfl (fun hb => ?_) (fun hb => ?_)) <;> (simp only [hb]; try simp only [decide_eq_true_eq, decide_eq_false_iff_not, Bool.not_eq_true', Bool.not_eq_false', Bool.not_eq_true, Bool.not_eq_false, ne_eq, Decidable.not_not] at hb; try (exfalso; first | omega | exact hb trivial))))
        refine ⟨⟨n + 1, by omega⟩, by dsimp only; omega, ?_⟩
        refine ⟨by repeat' (first | exact trivial | exact FinA.one (FinB.cell (FinC.same rfl)) | exact FinA.one (FinB.cell FinC.nil) | exact FinA.bound rfl | exact FinA.one (FinB.cell (FinC.own rfl rfl rfl rfl)) | exact FinA.one (FinB.cell (FinC.v (by first | rfl | ((first | (simp only [hkn, hN]; done) | (simp only [hkn, hN]; rfl) | (congr 1; dsimp only; omega)))))) | exact FinA.one (FinB.cell (FinC.ow rfl (by first | rfl | ((first | (simp only [hkn, hN]; done) | (simp only [hkn, hN]; rfl) | (congr 1; dsimp only; omega)))))) | exact FinA.one (FinB.agg' rfl rfl) | refine ⟨⟨_, rfl, ?_⟩, ?_⟩), by repeat' (first | exact trivial | refine ⟨⟨_, rfl, by first | rfl | ((first | (simp only [hkn, hN]; done) | (simp only [hkn, hN]; rfl) | (congr 1; dsimp only; omega)); done) | (simp [renO, *]; done)⟩, by first | rfl | assumption, ?_⟩), rfl⟩
    · obtain rfl : k = lastK slide t + 1 := by omega
      have hmt : ¬ m ≤ t := fun h => hkl (hml.2 h)
      rw [outW_end hok]
      repeat' (first | ((first | apply o_do | apply d_do | apply d_yes rfl rfl rfl); first | exact ls_mulTo hm rfl rfl (by omega) rfl | exact lsq) | first | refine a_seq ?_ | refine a_region ?_ | refine o_nil ?_ | refine a_block ?_ | refine a_ret ?_ | refine a_exit ?_ | refine a_skip ?_ | refine a_draw mixed ?_ | refine d_nil (by kernel_rfl) ?_ | first | refine o_yes rfl rfl rfl ?_ | refine o_no rfl rfl rfl (by decide) ?_ | refine o_no' rfl rfl rfl ?_ | refine a_condT rfl ?_ | refine a_condF rfl ?_ | refine d_no rfl rfl rfl (by decide) ?_ | refine d_no' rfl rfl rfl ?_ | ((first | refine o_split_t rfl rfl rfl (fun hb => ?_) (fun hb => ?_) | refine o_split_f rfl rfl rfl (fun hb => ?_) (fun hb => ?_) | refine a_cond rfl (fun hb => ?_) (fun hb => ?_) | refine d_split rfl rfl (fun hb => ?_) (fun hb => ?_)) <;> (simp only [hb]; try simp only [decide_eq_true_eq, decide_eq_false_iff_not, Bool.not_eq_true', Bool.not_eq_false', Bool.not_eq_true, Bool.not_eq_false, ne_eq, Decidable.not_not] at hb; try (exfalso; first | omega | exact hb trivial))))
      all_goals refine ⟨by first | exact .inr rfl | exact .inl rfl, _, rfl, ?_, by repeat' (first | exact trivial | refine ⟨⟨_, rfl, by first | rfl | (simp [renO, *]; done)⟩, by first | rfl | assumption, ?_⟩)⟩
      all_goals (first | refine FinA.tup ?_ | refine FinA.one ?_); repeat' (first | exact FinBs.nil | exact FinCs.nil | refine FinBs.cons ?_ ?_ | refine FinCs.cons ?_ ?_ | refine FinB.cell (FinC.v ?_) | refine FinB.cell (FinC.own rfl rfl rfl ?_) | exact FinB.cell FinC.nil | refine FinB.cell (FinC.sl ?_) | exact FinB.agg' rfl rfl | exact FinB.cell (FinC.same rfl) | refine FinB.agg ?_ | refine FinC.v ?_ | refine FinC.own rfl rfl rfl ?_ | exact FinC.nil | refine FinC.sl ?_ | exact FinC.same rfl); all_goals try rfl
end Go.Proofs.Ytimlkhbedhjehaa
