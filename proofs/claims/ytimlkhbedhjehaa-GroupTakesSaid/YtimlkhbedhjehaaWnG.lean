/-
  Windows that are open, walked over abstract values: those that are closed are dropped of a row of one's own.
-/
import Derived.Test.YtimlkhbedhjehaaWnE
import Derived.Test.YtimlkhbedhjehaaWnF
namespace Go.Proofs.Ytimlkhbedhjehaa
open Go.RowKit
set_option linter.unusedSimpArgs false
set_option linter.unusedVariables false
theorem o_weak {P : Program} {Γ : Ctx} {Q : Exit → ASt → Prop} {s t : ASt} {ops : Array Oper} {rest : List Oper} (h : Weak Γ s t) (hk : AOps P Γ ops rest Q t) : AOps P Γ ops rest Q s := ⟨fun μ a w hr => hk.out μ a w (h.rel hr)⟩
/-- a function that is handed what was made since, and gives what is only read -/
theorem calls_fresh {P : Program} {T : List TyI} (hT : okTab P T = true) {f : FuncId} {fn : Func} {c : Code} {args : List AV} {r : AV} {σ : Store} (hf : P.funcs[f]? = some fn) (hb : fn.body = some c)
    (H : ∀ w0 M μ0, AWP P ⟨w0, M, [], μ0, args.length + (fn.ntmps - args.length)⟩ c (RetQ T fn.results.toList r []) ⟨numb 0 args, σ⟩) {w0 w : World} {M : Nat → Prop} {μ μ0 : Nat → Value} {vs : List Value} (hs : SRel σ μ w M) (hg : Gro [] μ0 w0 σ μ w) (hrep : repL σ μ w (av σ μ M) args vs) :
    Calls P f vs.toArray w fun e w' => ∃ y μ', e = .returned y ∧ SRel [] μ' w' M ∧ rep [] μ' w' (av [] μ' M) r y ∧ Gro [] μ0 w0 [] μ' w' := by
  refine calls_of_wp hf hb ?_
  have hlen := repL_len hrep
  have hrel : Rel ⟨w0, M, [], μ0, args.length + (fn.ntmps - args.length)⟩ ⟨numb 0 args, σ⟩ μ { tmps := vs.toArray ++ Array.replicate (fn.ntmps - vs.toArray.size) undef, defers := [] } w := by
    refine ⟨rfl, by simp [hlen], fun t x hx => ?_, hs, hg⟩
    obtain ⟨j, rfl, hj⟩ := find_numb hx
    obtain ⟨u, h1, h2⟩ := repL_get hrep hj
    have hlt : j < vs.length := (List.getElem?_eq_some_iff.1 h1).1
    have : (vs.toArray ++ Array.replicate (fn.ntmps - vs.toArray.size) undef)[0 + j]? = some u := by
      rw [Array.getElem?_append_left (by simpa using hlt)]
      simpa using h1
    rw [Array.getD_eq_getD_getElem?, this]
    exact h2
  refine Code.wp_mono ?_ ((H w0 M μ0).out μ _ w hrel)
  rintro e a w' ⟨s', μ', hr', he, vs', hvs, hfin, hk⟩
  obtain ⟨y, h1, h2⟩ := results_ok hT hr' hvs
  have h3 := finA_rep hr'.store hk hfin h2
  have h4 := hk.srel hr'.store
  have h5 := hk.gro hr'.gro (fun id o hf => by simp [find] at hf)
  rcases he with rfl | rfl
  · exact ⟨hr'.defers, y, h1, y, μ', rfl, h4, h3, h5⟩
  · exact ⟨hr'.defers, y, h1, y, μ', rfl, h4, h3, h5⟩
def closedW (mark : Int) (x : Wn) : Bool := decide (x.hi ≤ mark)
def openW (mark : Int) (ws : List Wn) : List Wn := ws.filter fun x => !closedW mark x
def openL (size slide t mark : Int) : List Wn := openW mark (winL size slide t)
theorem c_Open1 (m lo hi : Int) : AC Try.prog 134 [.agg [.v (.int .i64 lo), .v (.int .i64 hi)], .ref 0 0] [(0, .box 2 [.v (.int .i64 m)])] (.v (.bool (closedW m ⟨lo, hi⟩))) [(0, .box 2 [.v (.int .i64 m)])] := by
  refine (ac_body tab_ok Try.func134 rfl (by kernel_rfl) rfl ?_); intro w0 M μ0; simp only [Try.ntmps134, List.length_cons, List.length_nil, Nat.reduceAdd, Nat.reduceSub, numb]
  repeat' (first | ((first | apply o_do | apply d_do | apply d_yes rfl rfl rfl); first | exact lsc ((p_Closed _ _ _)) | exact lsq) | first | refine a_seq ?_ | refine a_region ?_ | refine o_nil ?_ | refine a_block ?_ | refine a_ret ?_ | refine a_exit ?_ | refine a_skip ?_ | refine a_draw mixed ?_ | refine d_nil (by kernel_rfl) ?_ | first | refine o_yes rfl rfl rfl ?_ | refine o_no rfl rfl rfl (by decide) ?_ | refine o_no' rfl rfl rfl ?_ | refine a_condT rfl ?_ | refine a_condF rfl ?_ | refine d_no rfl rfl rfl (by decide) ?_ | refine d_no' rfl rfl rfl ?_ | ((first | refine o_split_t rfl rfl rfl (fun hb => ?_) (fun hb => ?_) | refine o_split_f rfl rfl rfl (fun hb => ?_) (fun hb => ?_) | refine a_cond rfl (fun hb => ?_) (fun hb => ?_) | refine d_split rfl rfl (fun hb => ?_) (fun hb => ?_)) <;> (simp only [hb]; try simp only [decide_eq_true_eq, decide_eq_false_iff_not, Bool.not_eq_true', Bool.not_eq_false', Bool.not_eq_true, Bool.not_eq_false, ne_eq, Decidable.not_not] at hb; try (exfalso; first | omega | exact hb trivial))))
  refine ⟨by first | exact .inr rfl | exact .inl rfl, _, rfl, ?_, by repeat' (first | exact trivial | refine ⟨⟨_, rfl, by first | rfl | (simp [renO, *]; done)⟩, by first | rfl | assumption, ?_⟩)⟩
  (first | refine FinA.tup ?_ | refine FinA.one ?_); repeat' (first | exact FinBs.nil | exact FinCs.nil | refine FinBs.cons ?_ ?_ | refine FinCs.cons ?_ ?_ | refine FinB.cell (FinC.v ?_) | refine FinB.cell (FinC.own rfl rfl rfl ?_) | exact FinB.cell FinC.nil | refine FinB.cell (FinC.sl ?_) | exact FinB.agg' rfl rfl | exact FinB.cell (FinC.same rfl) | refine FinB.agg ?_ | refine FinC.v ?_ | refine FinC.own rfl rfl rfl ?_ | exact FinC.nil | refine FinC.sl ?_ | exact FinC.same rfl); all_goals try rfl
def fidxW (p : Wn → Bool) (xs : List Wn) : Nat := (xs.takeWhile fun x => !p x).length
def ridxW (p : Wn → Bool) (xs : List Wn) : Int := if fidxW p xs < xs.length then (fidxW p xs : Int) else -1
theorem fidxW_at (p : Wn → Bool) (xs : List Wn) (q : Nat) (h : q < xs.length) (h1 : (xs.take q).all (fun x => !p x) = true) (h2 : p xs[q] = true) : fidxW p xs = q := by
  unfold fidxW
  have e : xs = xs.take q ++ xs.drop q := (List.take_append_drop q xs).symm
  have e2 : xs.drop q = xs[q] :: xs.drop (q + 1) := List.drop_eq_getElem_cons h
  rw [e, List.takeWhile_append_of_pos (by intro a ha; exact List.all_eq_true.1 h1 a ha), e2, List.takeWhile_cons_of_neg (by simp [h2])]
  simp
  omega
theorem fidxW_all (p : Wn → Bool) (xs : List Wn) (h1 : xs.all (fun x => !p x) = true) : fidxW p xs = xs.length := by
  unfold fidxW
  have := List.takeWhile_append_of_pos (l₁ := xs) (l₂ := []) (p := fun x : Wn => !p x) (by intro a ha; exact List.all_eq_true.1 h1 a ha)
  rw [List.append_nil] at this
  rw [this]; simp
theorem ridxW_at {p : Wn → Bool} {xs : List Wn} {q : Nat} (h : q < xs.length) (h1 : (xs.take q).all (fun x => !p x) = true) (h2 : p xs[q] = true) : ridxW p xs = (q : Int) := by
  unfold ridxW
  rw [fidxW_at p xs q h h1 h2, if_pos h]
theorem ridxW_all {p : Wn → Bool} {xs : List Wn} (h1 : xs.all (fun x => !p x) = true) : ridxW p xs = -1 := by
  unfold ridxW
  rw [fidxW_all p xs h1, if_neg (by omega)]
set_option maxHeartbeats 1000000 in
theorem p_IndexW (mk : Int) (xs : List Wn) (hx : xs.length ≤ 1000000) :
    AC Try.prog 159 [.own 1 (xs.map Wn.av).length, .clo (.func 134) [] [.ref 0 0]] [(0, .box 2 [.v (.int .i64 mk)]), (1, .row 37 2 (xs.map Wn.av))] (.v (.int .i64 (ridxW (closedW mk) xs))) [(0, .box 2 [.v (.int .i64 mk)]), (1, .row 37 2 (xs.map Wn.av))] := by
  have hn : (xs.map Wn.av).length = xs.length := List.length_map _
  refine (ac_body tab_ok Try.func159 rfl (by kernel_rfl) rfl ?_); intro w0 M μ0; simp only [Try.ntmps159, List.length_cons, List.length_nil, Nat.reduceAdd, Nat.reduceSub, numb]
  repeat' (first | ((first | apply o_do | apply d_do | apply d_yes rfl rfl rfl); exact lsq) | first | refine a_seq ?_ | refine a_region ?_ | refine o_nil ?_ | refine a_block ?_ | refine a_ret ?_ | refine a_exit ?_ | refine a_skip ?_ | refine a_draw mixed ?_ | refine d_nil (by kernel_rfl) ?_ | first | refine o_yes rfl rfl rfl ?_ | refine o_no rfl rfl rfl (by decide) ?_ | refine o_no' rfl rfl rfl ?_ | refine a_condT rfl ?_ | refine a_condF rfl ?_ | refine d_no rfl rfl rfl (by decide) ?_ | refine d_no' rfl rfl rfl ?_ | ((first | refine o_split_t rfl rfl rfl (fun hb => ?_) (fun hb => ?_) | refine o_split_f rfl rfl rfl (fun hb => ?_) (fun hb => ?_) | refine a_cond rfl (fun hb => ?_) (fun hb => ?_) | refine d_split rfl rfl (fun hb => ?_) (fun hb => ?_)) <;> (simp only [hb]; try simp only [decide_eq_true_eq, decide_eq_false_iff_not, Bool.not_eq_true', Bool.not_eq_false', Bool.not_eq_true, Bool.not_eq_false, ne_eq, Decidable.not_not] at hb; try (exfalso; first | omega | exact hb trivial))))
  refine a_loop (X := {q : Nat // q ≤ xs.length ∧ (xs.take q).all (fun x => !closedW mk x) = true}) (fun x => ⟨[(0, .own 1 (xs.map Wn.av).length), (1, .clo (.func 134) [] [.ref 0 0]), (7, .v (.int .i64 (xs.map Wn.av).length)), (8, .v (.int .i64 x.1))], [(0, .box 2 [.v (.int .i64 mk)]), (1, .row 37 2 (xs.map Wn.av))]⟩) (fun x => xs.length - x.1) ⟨0, Nat.zero_le _, by simp⟩ ?_ ?_
  · refine ⟨by repeat' (first | exact trivial | exact FinA.one (FinB.cell (FinC.same rfl)) | exact FinA.one (FinB.cell FinC.nil) | exact FinA.one (FinB.cell (FinC.own rfl rfl rfl rfl)) | exact FinA.one (FinB.cell (FinC.v (by first | rfl | (simp)))) | exact FinA.one (FinB.cell (FinC.ow rfl (by first | rfl | (simp)))) | exact FinA.one (FinB.agg' rfl rfl) | refine ⟨⟨_, rfl, ?_⟩, ?_⟩), by repeat' (first | exact trivial | refine ⟨⟨_, rfl, by first | rfl | (simp; done) | (simp [renO, *]; done)⟩, by first | rfl | assumption, ?_⟩), rfl⟩
  rintro ⟨q, hq, hall⟩
  dsimp only
  by_cases hlt : q < xs.length
  · have hel : (xs.map Wn.av)[q]? = some (Wn.av xs[q]) := by simp [hlt]
    have hqx : q < (xs.map Wn.av).length := by omega
    have hsn := take_snoc xs q hlt
    have hat := fun h => ridxW_at (p := closedW mk) hlt hall h
    have hcl := c_Open1 mk xs[q].lo xs[q].hi
    rw [show (Wn.mk xs[q].lo xs[q].hi) = xs[q] from rfl] at hcl
    generalize xs[q] = x at *
    repeat' (first | ((first | apply o_do | apply d_do | apply d_yes rfl rfl rfl); first | exact ls_indexAddr_own tab_ok rfl rfl rfl rfl rfl rfl hqx rfl | exact ls_load_eref tab_ok rfl rfl rfl hel rfl rfl rfl rfl | exact ls_callA [0] 2 hcl rfl rfl (by (repeat' (first | exact NilL.nil | refine NilL.cons Nil.same ?_ | refine NilL.cons Nil.nil ?_ | refine NilL.cons (Nil.agg ?_) ?_ | exact Nil1s.nil | refine Nil1s.cons Nil1.same ?_ | refine Nil1s.cons Nil1.nil ?_)); done) rfl (by repeat' (first | exact trivial | refine ⟨⟨_, rfl, by first | rfl | (simp [renO, *]; done)⟩, ?_⟩)) (by first | rfl | simp [closO, *]) rfl rfl rfl rfl (by first | rfl | simp [closO, *]) rfl | exact lsq) | first | refine a_seq ?_ | refine a_region ?_ | refine o_nil ?_ | refine a_block ?_ | refine a_ret ?_ | refine a_exit ?_ | refine a_skip ?_ | refine a_draw mixed ?_ | refine d_nil (by kernel_rfl) ?_ | first | refine o_yes rfl rfl rfl ?_ | refine o_no rfl rfl rfl (by decide) ?_ | refine o_no' rfl rfl rfl ?_ | refine a_condT rfl ?_ | refine a_condF rfl ?_ | refine d_no rfl rfl rfl (by decide) ?_ | refine d_no' rfl rfl rfl ?_ | ((first | refine o_split_t rfl rfl rfl (fun hb => ?_) (fun hb => ?_) | refine o_split_f rfl rfl rfl (fun hb => ?_) (fun hb => ?_) | refine a_cond rfl (fun hb => ?_) (fun hb => ?_) | refine d_split rfl rfl (fun hb => ?_) (fun hb => ?_)) <;> (simp only [hb]; try simp only [decide_eq_true_eq, decide_eq_false_iff_not, Bool.not_eq_true', Bool.not_eq_false', Bool.not_eq_true, Bool.not_eq_false, ne_eq, Decidable.not_not] at hb; try (exfalso; first | omega | exact hb trivial))))
    · refine ⟨by first | exact .inr rfl | exact .inl rfl, _, rfl, ?_, by repeat' (first | exact trivial | refine ⟨⟨_, rfl, by first | rfl | (simp [renO, *]; done)⟩, by first | rfl | assumption, ?_⟩)⟩
      (first | refine FinA.tup ?_ | refine FinA.one ?_); repeat' (first | exact FinBs.nil | exact FinCs.nil | refine FinBs.cons ?_ ?_ | refine FinCs.cons ?_ ?_ | refine FinB.cell (FinC.v ?_) | refine FinB.cell (FinC.own rfl rfl rfl ?_) | exact FinB.cell FinC.nil | refine FinB.cell (FinC.sl ?_) | exact FinB.agg' rfl rfl | exact FinB.cell (FinC.same rfl) | refine FinB.agg ?_ | refine FinC.v ?_ | refine FinC.own rfl rfl rfl ?_ | exact FinC.nil | refine FinC.sl ?_ | exact FinC.same rfl); all_goals try rfl
      rw [hat hb]
    · refine ⟨⟨q + 1, by omega, by rw [hsn, List.all_append, hall]; simp; exact hb⟩, by dsimp only; omega, ?_⟩
      refine ⟨by repeat' (first | exact trivial | exact FinA.one (FinB.cell (FinC.same rfl)) | exact FinA.one (FinB.cell FinC.nil) | exact FinA.one (FinB.cell (FinC.own rfl rfl rfl rfl)) | exact FinA.one (FinB.cell (FinC.v (by first | rfl | (simp)))) | exact FinA.one (FinB.cell (FinC.ow rfl (by first | rfl | (simp)))) | exact FinA.one (FinB.agg' rfl rfl) | refine ⟨⟨_, rfl, ?_⟩, ?_⟩), by repeat' (first | exact trivial | refine ⟨⟨_, rfl, by first | rfl | (simp; done) | (simp [renO, *]; done)⟩, by first | rfl | assumption, ?_⟩), rfl⟩
  · repeat' (first | ((first | apply o_do | apply d_do | apply d_yes rfl rfl rfl); exact lsq) | first | refine a_seq ?_ | refine a_region ?_ | refine o_nil ?_ | refine a_block ?_ | refine a_ret ?_ | refine a_exit ?_ | refine a_skip ?_ | refine a_draw mixed ?_ | refine d_nil (by kernel_rfl) ?_ | first | refine o_yes rfl rfl rfl ?_ | refine o_no rfl rfl rfl (by decide) ?_ | refine o_no' rfl rfl rfl ?_ | refine a_condT rfl ?_ | refine a_condF rfl ?_ | refine d_no rfl rfl rfl (by decide) ?_ | refine d_no' rfl rfl rfl ?_ | ((first | refine o_split_t rfl rfl rfl (fun hb => ?_) (fun hb => ?_) | refine o_split_f rfl rfl rfl (fun hb => ?_) (fun hb => ?_) | refine a_cond rfl (fun hb => ?_) (fun hb => ?_) | refine d_split rfl rfl (fun hb => ?_) (fun hb => ?_)) <;> (simp only [hb]; try simp only [decide_eq_true_eq, decide_eq_false_iff_not, Bool.not_eq_true', Bool.not_eq_false', Bool.not_eq_true, Bool.not_eq_false, ne_eq, Decidable.not_not] at hb; try (exfalso; first | omega | exact hb trivial))))
    refine ⟨by first | exact .inr rfl | exact .inl rfl, _, rfl, ?_, by repeat' (first | exact trivial | refine ⟨⟨_, rfl, by first | rfl | (simp [renO, *]; done)⟩, by first | rfl | assumption, ?_⟩)⟩
    (first | refine FinA.tup ?_ | refine FinA.one ?_); repeat' (first | exact FinBs.nil | exact FinCs.nil | refine FinBs.cons ?_ ?_ | refine FinCs.cons ?_ ?_ | refine FinB.cell (FinC.v ?_) | refine FinB.cell (FinC.own rfl rfl rfl ?_) | exact FinB.cell FinC.nil | refine FinB.cell (FinC.sl ?_) | exact FinB.agg' rfl rfl | exact FinB.cell (FinC.same rfl) | refine FinB.agg ?_ | refine FinC.v ?_ | refine FinC.own rfl rfl rfl ?_ | exact FinC.nil | refine FinC.sl ?_ | exact FinC.same rfl); all_goals try rfl
    obtain rfl : q = xs.length := by omega
    rw [List.take_length] at hall
    rw [ridxW_all hall]
theorem openW_snoc (mk : Int) (l : List Wn) (x : Wn) : openW mk (l ++ [x]) = openW mk l ++ (if closedW mk x = true then [] else [x]) := by
  unfold openW
  rw [List.filter_append]
  cases h : closedW mk x <;> simp [h]
/-- how far the dropping has come -/
def DelX (mk : Int) (xs : List Wn) (x : Nat × Nat × List Wn) : Prop := x.1 < x.2.1 ∧ x.2.1 ≤ xs.length ∧ x.2.2.length = xs.length ∧ x.2.2.take x.1 = openW mk (xs.take x.2.1) ∧ ∀ p, x.2.1 ≤ p → x.2.2[p]? = xs[p]?
theorem DelX.start {mk : Int} {xs : List Wn} {q : Nat} (h : q < xs.length) (h1 : (xs.take q).all (fun x => !closedW mk x) = true) (h2 : closedW mk xs[q] = true) : DelX mk xs (q, q + 1, xs) := by
  refine ⟨by simp, by dsimp only; omega, rfl, ?_, fun p _ => rfl⟩
  dsimp only
  rw [take_snoc xs q h, openW_snoc, if_pos h2, List.append_nil]
  symm
  unfold openW
  rw [List.filter_eq_self]
  intro a ha
  exact List.all_eq_true.1 h1 a ha
theorem DelX.keep {mk : Int} {xs m : List Wn} {i j : Nat} {x : Wn} (h : DelX mk xs (i, j, m)) (hj : j < xs.length) (hx : xs[j] = x) (hc : closedW mk x = false) : DelX mk xs (i + 1, j + 1, m.set i x) := by
  obtain ⟨h1, h2, h3, h4, h5⟩ := h
  dsimp only at h1 h2 h3 h4 h5
  refine ⟨by dsimp only; omega, by dsimp only; omega, by simp [h3], ?_, fun p hp => ?_⟩
  · dsimp only
    have hi : i < (m.set i x).length := by rw [List.length_set]; omega
    rw [take_snoc _ i hi, List.getElem_set_self, take_snoc xs j hj, openW_snoc, hx, hc, ← h4]
    congr 1
    rw [List.take_set_of_le (Nat.le_refl _)]
  · dsimp only at hp ⊢
    rw [List.getElem?_set_ne (by omega)]
    exact h5 p (by omega)
theorem DelX.drop {mk : Int} {xs m : List Wn} {i j : Nat} {x : Wn} (h : DelX mk xs (i, j, m)) (hj : j < xs.length) (hx : xs[j] = x) (hc : closedW mk x = true) : DelX mk xs (i, j + 1, m) := by
  obtain ⟨h1, h2, h3, h4, h5⟩ := h
  dsimp only at h1 h2 h3 h4 h5
  refine ⟨by dsimp only; omega, by dsimp only; omega, h3, ?_, fun p hp => h5 p (by dsimp only at hp; omega)⟩
  dsimp only
  rw [take_snoc xs j hj, openW_snoc, hx, if_pos hc, List.append_nil]
  exact h4
theorem find_closed (mk : Int) (xs : List Wn) : (xs.all (fun x => !closedW mk x) = true) ∨ ∃ q, ∃ h : q < xs.length, (xs.take q).all (fun x => !closedW mk x) = true ∧ closedW mk xs[q] = true := by
  induction xs with
  | nil => exact .inl rfl
  | cons x l ih =>
    cases hx : closedW mk x
    · rcases ih with h | ⟨q, hq, h1, h2⟩
      · exact .inl (by simp [hx]; simpa using h)
      · exact .inr ⟨q + 1, by simp; omega, by simp [hx]; simpa using h1, by simpa using h2⟩
    · exact .inr ⟨0, by simp, by simp, by simpa using hx⟩
set_option maxHeartbeats 4000000 in
theorem c_Del (mk : Int) (xs : List Wn) (hx : xs.length ≤ 1000000) {w0 w : World} {M : Nat → Prop} {μ μ0 : Nat → Value} {vs : List Value} (hs : SRel [(0, .box 2 [.v (.int .i64 mk)]), (1, .row 37 2 (xs.map Wn.av))] μ w M) (hg : Gro [] μ0 w0 [(0, .box 2 [.v (.int .i64 mk)]), (1, .row 37 2 (xs.map Wn.av))] μ w)
    (hrep : repL [(0, .box 2 [.v (.int .i64 mk)]), (1, .row 37 2 (xs.map Wn.av))] μ w (av [(0, .box 2 [.v (.int .i64 mk)]), (1, .row 37 2 (xs.map Wn.av))] μ M) [.own 1 (xs.map Wn.av).length, .clo (.func 134) [] [.ref 0 0]] vs) :
    Calls Try.prog 133 vs.toArray w fun e w' => ∃ y μ', e = .returned y ∧ SRel [] μ' w' M ∧ rep [] μ' w' (av [] μ' M) (.sl 2 ((openW mk xs).map Wn.av)) y ∧ Gro [] μ0 w0 [] μ' w' := by
  have hn : (xs.map Wn.av).length = xs.length := List.length_map _
  have hI := p_IndexW mk xs hx
  refine calls_fresh tab_ok Try.func133 rfl ?_ hs hg hrep
  intro w0 M μ0
  simp only [Try.ntmps133, List.length_cons, List.length_nil, Nat.reduceAdd, Nat.reduceSub, numb]
  rcases find_closed mk xs with hall | ⟨q, hq, h1, h2⟩
  · rw [ridxW_all hall] at hI
    rw [show openW mk xs = xs by unfold openW; rw [List.filter_eq_self]; intro a ha; exact List.all_eq_true.1 hall a ha]
    repeat' (first | ((first | apply o_do | apply d_do | apply d_yes rfl rfl rfl); first | exact ls_callA [0, 1] 2 hI rfl rfl (by (repeat' (first | exact NilL.nil | refine NilL.cons Nil.same ?_ | refine NilL.cons Nil.nil ?_ | refine NilL.cons (Nil.agg ?_) ?_ | exact Nil1s.nil | refine Nil1s.cons Nil1.same ?_ | refine Nil1s.cons Nil1.nil ?_)); done) rfl (by repeat' (first | exact trivial | refine ⟨⟨_, rfl, by first | rfl | (simp [renO, *]; done)⟩, ?_⟩)) (by first | rfl | simp [closO, *]) rfl rfl rfl rfl (by first | rfl | simp [closO, *]) rfl | exact lsq) | first | refine a_seq ?_ | refine a_region ?_ | refine o_nil ?_ | refine a_block ?_ | refine a_ret ?_ | refine a_exit ?_ | refine a_skip ?_ | refine a_draw mixed ?_ | refine d_nil (by kernel_rfl) ?_ | first | refine o_yes rfl rfl rfl ?_ | refine o_no rfl rfl rfl (by decide) ?_ | refine o_no' rfl rfl rfl ?_ | refine a_condT rfl ?_ | refine a_condF rfl ?_ | refine d_no rfl rfl rfl (by decide) ?_ | refine d_no' rfl rfl rfl ?_ | ((first | refine o_split_t rfl rfl rfl (fun hb => ?_) (fun hb => ?_) | refine o_split_f rfl rfl rfl (fun hb => ?_) (fun hb => ?_) | refine a_cond rfl (fun hb => ?_) (fun hb => ?_) | refine d_split rfl rfl (fun hb => ?_) (fun hb => ?_)) <;> (simp only [hb]; try simp only [decide_eq_true_eq, decide_eq_false_iff_not, Bool.not_eq_true', Bool.not_eq_false', Bool.not_eq_true, Bool.not_eq_false, ne_eq, Decidable.not_not] at hb; try (exfalso; first | omega | exact hb trivial))))
    all_goals refine ⟨by first | exact .inr rfl | exact .inl rfl, _, rfl, ?_, by repeat' (first | exact trivial | refine ⟨⟨_, rfl, by first | rfl | (simp [renO, *]; done)⟩, by first | rfl | assumption, ?_⟩)⟩
    all_goals (first | refine FinA.tup ?_ | refine FinA.one ?_); repeat' (first | exact FinBs.nil | exact FinCs.nil | refine FinBs.cons ?_ ?_ | refine FinCs.cons ?_ ?_ | refine FinB.cell (FinC.v ?_) | refine FinB.cell (FinC.own rfl rfl rfl ?_) | exact FinB.cell FinC.nil | refine FinB.cell (FinC.sl ?_) | exact FinB.agg' rfl rfl | exact FinB.cell (FinC.same rfl) | refine FinB.agg ?_ | refine FinC.v ?_ | refine FinC.own rfl rfl rfl ?_ | exact FinC.nil | refine FinC.sl ?_ | exact FinC.same rfl); all_goals try rfl
  · rw [ridxW_at hq h1 h2] at hI
    repeat' (first | ((first | apply o_do | apply d_do | apply d_yes rfl rfl rfl); first | exact ls_callA [0, 1] 2 hI rfl rfl (by (repeat' (first | exact NilL.nil | refine NilL.cons Nil.same ?_ | refine NilL.cons Nil.nil ?_ | refine NilL.cons (Nil.agg ?_) ?_ | exact Nil1s.nil | refine Nil1s.cons Nil1.same ?_ | refine Nil1s.cons Nil1.nil ?_)); done) rfl (by repeat' (first | exact trivial | refine ⟨⟨_, rfl, by first | rfl | (simp [renO, *]; done)⟩, ?_⟩)) (by first | rfl | simp [closO, *]) rfl rfl rfl rfl (by first | rfl | simp [closO, *]) rfl | exact lsq) | first | refine a_seq ?_ | refine a_region ?_ | refine o_nil ?_ | refine a_block ?_ | refine a_ret ?_ | refine a_exit ?_ | refine a_skip ?_ | refine a_draw mixed ?_ | refine d_nil (by kernel_rfl) ?_ | first | refine o_yes rfl rfl rfl ?_ | refine o_no rfl rfl rfl (by decide) ?_ | refine o_no' rfl rfl rfl ?_ | refine a_condT rfl ?_ | refine a_condF rfl ?_ | refine d_no rfl rfl rfl (by decide) ?_ | refine d_no' rfl rfl rfl ?_ | ((first | refine o_split_t rfl rfl rfl (fun hb => ?_) (fun hb => ?_) | refine o_split_f rfl rfl rfl (fun hb => ?_) (fun hb => ?_) | refine a_cond rfl (fun hb => ?_) (fun hb => ?_) | refine d_split rfl rfl (fun hb => ?_) (fun hb => ?_)) <;> (simp only [hb]; try simp only [decide_eq_true_eq, decide_eq_false_iff_not, Bool.not_eq_true', Bool.not_eq_false', Bool.not_eq_true, Bool.not_eq_false, ne_eq, Decidable.not_not] at hb; try (exfalso; first | omega | exact hb trivial))))
    refine a_loop (X := {x : Nat × Nat × List Wn // DelX mk xs x}) (fun x => ⟨[(0, .own 1 (x.1.2.2.map Wn.av).length), (1, .clo (.func 134) [] [.ref 0 0]), (5, .v (.int .i64 x.1.1)), (6, .v (.int .i64 x.1.2.1))], [(0, .box 2 [.v (.int .i64 mk)]), (1, .row 37 2 (x.1.2.2.map Wn.av))]⟩) (fun x => xs.length - x.1.2.1) ⟨(q, q + 1, xs), DelX.start hq h1 h2⟩ ?_ ?_
    · refine ⟨by repeat' (first | exact trivial | exact FinA.one (FinB.cell (FinC.same rfl)) | exact FinA.one (FinB.cell FinC.nil) | exact FinA.one (FinB.cell (FinC.own rfl rfl rfl rfl)) | exact FinA.one (FinB.cell (FinC.v (by first | rfl | (simp)))) | exact FinA.one (FinB.cell (FinC.ow rfl (by first | rfl | (simp)))) | exact FinA.one (FinB.agg' rfl rfl) | refine ⟨⟨_, rfl, ?_⟩, ?_⟩), by repeat' (first | exact trivial | refine ⟨⟨_, rfl, by first | rfl | (simp; done) | (simp [renO, *]; done)⟩, by first | rfl | assumption, ?_⟩), rfl⟩
    rintro ⟨⟨i, j, m⟩, hD⟩
    have hD' := hD
    obtain ⟨d1, d2, d3, d4, d5⟩ := hD'
    dsimp only at d1 d2 d3 d4 d5 ⊢
    have hmn : (m.map Wn.av).length = m.length := List.length_map _
    by_cases hlt : j < xs.length
    · have e1 : (m.map Wn.av)[j]? = some (Wn.av xs[j]) := by rw [List.getElem?_map, d5 j (Nat.le_refl _), List.getElem?_eq_getElem hlt]; rfl
      have hjx : j < (m.map Wn.av).length := by omega
      have hix : i < (m.map Wn.av).length := by omega
      obtain ⟨u, e2⟩ : ∃ u : Wn, (m.map Wn.av)[i]? = some (Wn.av u) := ⟨m[i]'(by omega), by simp [show i < m.length by omega]⟩
      have hcl := c_Open1 mk xs[j].lo xs[j].hi
      rw [show (Wn.mk xs[j].lo xs[j].hi) = xs[j] from rfl] at hcl
      have hk := fun h => hD.keep hlt rfl h
      have hd := fun h => hD.drop hlt rfl h
      have hN : ∀ x : Wn, (m.set i x).map Wn.av = (m.map Wn.av).set i (Wn.av x) := fun x => List.map_set
      have hL : ∀ x : Wn, (m.map Wn.av).length = ((m.set i x).map Wn.av).length := fun x => by simp
      have hpu : ∀ y : Wn, ∀ (σ : Store) (μ : Nat → Value) (w : World) (A : Nat → Prop) (z : Value), rep σ μ w A (.agg (Wn.av y)) z → rep [] μ w A (.agg (Wn.av y)) z := fun y _ _ _ _ _ h => rep_pureB h rfl
      generalize xs[j] = x at *
      cases hc : closedW mk x
      · rw [hc] at hcl
        repeat' (first | ((first | apply o_do | apply d_do | apply d_yes rfl rfl rfl); first | exact ls_indexAddr_own tab_ok rfl rfl rfl rfl rfl rfl hjx rfl | exact ls_indexAddr_own tab_ok rfl rfl rfl rfl rfl rfl hix rfl | exact ls_load_eref tab_ok rfl rfl rfl e1 rfl rfl rfl rfl | exact ls_store_eref (cs' := Wn.av x) tab_ok rfl rfl rfl rfl e2 rfl rfl (hpu _) rfl rfl rfl rfl | exact ls_callA [0] 3 hcl rfl rfl (by (repeat' (first | exact NilL.nil | refine NilL.cons Nil.same ?_ | refine NilL.cons Nil.nil ?_ | refine NilL.cons (Nil.agg ?_) ?_ | exact Nil1s.nil | refine Nil1s.cons Nil1.same ?_ | refine Nil1s.cons Nil1.nil ?_)); done) rfl (by repeat' (first | exact trivial | refine ⟨⟨_, rfl, by first | rfl | (simp [renO, *]; done)⟩, ?_⟩)) (by first | rfl | simp [closO, *]) rfl rfl rfl rfl (by first | rfl | simp [closO, *]) rfl | exact lsq) | first | refine a_seq ?_ | refine a_region ?_ | refine o_nil ?_ | refine a_block ?_ | refine a_ret ?_ | refine a_exit ?_ | refine a_skip ?_ | refine a_draw mixed ?_ | refine d_nil (by kernel_rfl) ?_ | first | refine o_yes rfl rfl rfl ?_ | refine o_no rfl rfl rfl (by decide) ?_ | refine o_no' rfl rfl rfl ?_ | refine a_condT rfl ?_ | refine a_condF rfl ?_ | refine d_no rfl rfl rfl (by decide) ?_ | refine d_no' rfl rfl rfl ?_ | ((first | refine o_split_t rfl rfl rfl (fun hb => ?_) (fun hb => ?_) | refine o_split_f rfl rfl rfl (fun hb => ?_) (fun hb => ?_) | refine a_cond rfl (fun hb => ?_) (fun hb => ?_) | refine d_split rfl rfl (fun hb => ?_) (fun hb => ?_)) <;> (simp only [hb]; try simp only [decide_eq_true_eq, decide_eq_false_iff_not, Bool.not_eq_true', Bool.not_eq_false', Bool.not_eq_true, Bool.not_eq_false, ne_eq, Decidable.not_not] at hb; try (exfalso; first | omega | exact hb trivial))))
        refine ⟨⟨(i + 1, j + 1, m.set i x), hk hc⟩, by dsimp only; omega, ?_⟩
        refine ⟨by repeat' (first | exact trivial | exact FinA.one (FinB.cell (FinC.same rfl)) | exact FinA.one (FinB.cell FinC.nil) | exact FinA.one (FinB.cell (FinC.own rfl rfl rfl rfl)) | exact FinA.one (FinB.cell (FinC.v (by first | rfl | ((first | (simp only [hN]; done) | (simp only [hN]; rfl) | (exact hL x) | simp))))) | exact FinA.one (FinB.cell (FinC.ow rfl (by first | rfl | ((first | (simp only [hN]; done) | (simp only [hN]; rfl) | (exact hL x) | simp))))) | exact FinA.one (FinB.agg' rfl rfl) | refine ⟨⟨_, rfl, ?_⟩, ?_⟩), by repeat' (first | exact trivial | refine ⟨⟨_, rfl, by first | rfl | ((first | (simp only [hN]; done) | (simp only [hN]; rfl) | (exact hL x) | simp); done) | (simp [renO, *]; done)⟩, by first | rfl | assumption, ?_⟩), rfl⟩
      · rw [hc] at hcl
        repeat' (first | ((first | apply o_do | apply d_do | apply d_yes rfl rfl rfl); first | exact ls_indexAddr_own tab_ok rfl rfl rfl rfl rfl rfl hjx rfl | exact ls_load_eref tab_ok rfl rfl rfl e1 rfl rfl rfl rfl | exact ls_callA [0] 3 hcl rfl rfl (by (repeat' (first | exact NilL.nil | refine NilL.cons Nil.same ?_ | refine NilL.cons Nil.nil ?_ | refine NilL.cons (Nil.agg ?_) ?_ | exact Nil1s.nil | refine Nil1s.cons Nil1.same ?_ | refine Nil1s.cons Nil1.nil ?_)); done) rfl (by repeat' (first | exact trivial | refine ⟨⟨_, rfl, by first | rfl | (simp [renO, *]; done)⟩, ?_⟩)) (by first | rfl | simp [closO, *]) rfl rfl rfl rfl (by first | rfl | simp [closO, *]) rfl | exact lsq) | first | refine a_seq ?_ | refine a_region ?_ | refine o_nil ?_ | refine a_block ?_ | refine a_ret ?_ | refine a_exit ?_ | refine a_skip ?_ | refine a_draw mixed ?_ | refine d_nil (by kernel_rfl) ?_ | first | refine o_yes rfl rfl rfl ?_ | refine o_no rfl rfl rfl (by decide) ?_ | refine o_no' rfl rfl rfl ?_ | refine a_condT rfl ?_ | refine a_condF rfl ?_ | refine d_no rfl rfl rfl (by decide) ?_ | refine d_no' rfl rfl rfl ?_ | ((first | refine o_split_t rfl rfl rfl (fun hb => ?_) (fun hb => ?_) | refine o_split_f rfl rfl rfl (fun hb => ?_) (fun hb => ?_) | refine a_cond rfl (fun hb => ?_) (fun hb => ?_) | refine d_split rfl rfl (fun hb => ?_) (fun hb => ?_)) <;> (simp only [hb]; try simp only [decide_eq_true_eq, decide_eq_false_iff_not, Bool.not_eq_true', Bool.not_eq_false', Bool.not_eq_true, Bool.not_eq_false, ne_eq, Decidable.not_not] at hb; try (exfalso; first | omega | exact hb trivial))))
        refine ⟨⟨(i, j + 1, m), hd hc⟩, by dsimp only; omega, ?_⟩
        refine ⟨by repeat' (first | exact trivial | exact FinA.one (FinB.cell (FinC.same rfl)) | exact FinA.one (FinB.cell FinC.nil) | exact FinA.one (FinB.cell (FinC.own rfl rfl rfl rfl)) | exact FinA.one (FinB.cell (FinC.v (by first | rfl | (simp)))) | exact FinA.one (FinB.cell (FinC.ow rfl (by first | rfl | (simp)))) | exact FinA.one (FinB.agg' rfl rfl) | refine ⟨⟨_, rfl, ?_⟩, ?_⟩), by repeat' (first | exact trivial | refine ⟨⟨_, rfl, by first | rfl | (simp; done) | (simp [renO, *]; done)⟩, by first | rfl | assumption, ?_⟩), rfl⟩
    · obtain rfl : j = xs.length := by omega
      rw [List.take_length] at d4
      have hix : i < (m.map Wn.av).length := by omega
      repeat' (first | ((first | apply o_do | apply d_do | apply d_yes rfl rfl rfl); exact lsq) | first | refine a_seq ?_ | refine a_region ?_ | refine o_nil ?_ | refine a_block ?_ | refine a_ret ?_ | refine a_exit ?_ | refine a_skip ?_ | refine a_draw mixed ?_ | refine d_nil (by kernel_rfl) ?_ | first | refine o_yes rfl rfl rfl ?_ | refine o_no rfl rfl rfl (by decide) ?_ | refine o_no' rfl rfl rfl ?_ | refine a_condT rfl ?_ | refine a_condF rfl ?_ | refine d_no rfl rfl rfl (by decide) ?_ | refine d_no' rfl rfl rfl ?_ | ((first | refine o_split_t rfl rfl rfl (fun hb => ?_) (fun hb => ?_) | refine o_split_f rfl rfl rfl (fun hb => ?_) (fun hb => ?_) | refine a_cond rfl (fun hb => ?_) (fun hb => ?_) | refine d_split rfl rfl (fun hb => ?_) (fun hb => ?_)) <;> (simp only [hb]; try simp only [decide_eq_true_eq, decide_eq_false_iff_not, Bool.not_eq_true', Bool.not_eq_false', Bool.not_eq_true, Bool.not_eq_false, ne_eq, Decidable.not_not] at hb; try (exfalso; first | omega | exact hb trivial))))
      refine o_sliceClear (q := i) (zc := [.v (.int .i64 0), .v (.int .i64 0)]) (zv := .agg #[.int .i64 0, .int .i64 0]) tab_ok rfl rfl rfl rfl rfl hix rfl (fun w => by go_simp) (fun _ _ _ _ => repC_con (cs := [.int .i64 0, .int .i64 0]) rfl) rfl rfl rfl ?_
      repeat' (first | ((first | apply o_do | apply d_do | apply d_yes rfl rfl rfl); exact lsq) | first | refine a_seq ?_ | refine a_region ?_ | refine o_nil ?_ | refine a_block ?_ | refine a_ret ?_ | refine a_exit ?_ | refine a_skip ?_ | refine a_draw mixed ?_ | refine d_nil (by kernel_rfl) ?_ | first | refine o_yes rfl rfl rfl ?_ | refine o_no rfl rfl rfl (by decide) ?_ | refine o_no' rfl rfl rfl ?_ | refine a_condT rfl ?_ | refine a_condF rfl ?_ | refine d_no rfl rfl rfl (by decide) ?_ | refine d_no' rfl rfl rfl ?_ | ((first | refine o_split_t rfl rfl rfl (fun hb => ?_) (fun hb => ?_) | refine o_split_f rfl rfl rfl (fun hb => ?_) (fun hb => ?_) | refine a_cond rfl (fun hb => ?_) (fun hb => ?_) | refine d_split rfl rfl (fun hb => ?_) (fun hb => ?_)) <;> (simp only [hb]; try simp only [decide_eq_true_eq, decide_eq_false_iff_not, Bool.not_eq_true', Bool.not_eq_false', Bool.not_eq_true, Bool.not_eq_false, ne_eq, Decidable.not_not] at hb; try (exfalso; first | omega | exact hb trivial))))
      have hlen : (m.map Wn.av).length = ((m.map Wn.av).take i ++ List.replicate ((m.map Wn.av).length - i) [AV.v (.int .i64 0), AV.v (.int .i64 0)]).length := by
        rw [List.length_append, List.length_take, List.length_replicate]; omega
      refine o_weak (t := ⟨[(39, .sl 2 ((m.map Wn.av).take i ++ List.replicate ((m.map Wn.av).length - i) [AV.v (.int .i64 0), AV.v (.int .i64 0)])), (40, .v (.int .i64 i))], []⟩) ⟨⟨⟨_, rfl, FinA.one (FinB.cell (FinC.own rfl hlen rfl rfl))⟩, ⟨⟨_, rfl, FinA.one (FinB.cell (FinC.same rfl))⟩, trivial⟩⟩, trivial, rfl⟩ ?_
      repeat' (first | ((first | apply o_do | apply d_do | apply d_yes rfl rfl rfl); first | exact ls_slice_to (n := i) tab_ok rfl rfl rfl rfl (by rw [← hlen]; omega) rfl | exact lsq) | first | refine a_seq ?_ | refine a_region ?_ | refine o_nil ?_ | refine a_block ?_ | refine a_ret ?_ | refine a_exit ?_ | refine a_skip ?_ | refine a_draw mixed ?_ | refine d_nil (by kernel_rfl) ?_ | first | refine o_yes rfl rfl rfl ?_ | refine o_no rfl rfl rfl (by decide) ?_ | refine o_no' rfl rfl rfl ?_ | refine a_condT rfl ?_ | refine a_condF rfl ?_ | refine d_no rfl rfl rfl (by decide) ?_ | refine d_no' rfl rfl rfl ?_ | ((first | refine o_split_t rfl rfl rfl (fun hb => ?_) (fun hb => ?_) | refine o_split_f rfl rfl rfl (fun hb => ?_) (fun hb => ?_) | refine a_cond rfl (fun hb => ?_) (fun hb => ?_) | refine d_split rfl rfl (fun hb => ?_) (fun hb => ?_)) <;> (simp only [hb]; try simp only [decide_eq_true_eq, decide_eq_false_iff_not, Bool.not_eq_true', Bool.not_eq_false', Bool.not_eq_true, Bool.not_eq_false, ne_eq, Decidable.not_not] at hb; try (exfalso; first | omega | exact hb trivial))))
      refine ⟨by first | exact .inr rfl | exact .inl rfl, _, rfl, ?_, by repeat' (first | exact trivial | refine ⟨⟨_, rfl, by first | rfl | (simp [renO, *]; done)⟩, by first | rfl | assumption, ?_⟩)⟩
      (first | refine FinA.tup ?_ | refine FinA.one ?_); repeat' (first | exact FinBs.nil | exact FinCs.nil | refine FinBs.cons ?_ ?_ | refine FinCs.cons ?_ ?_ | refine FinB.cell (FinC.v ?_) | refine FinB.cell (FinC.own rfl rfl rfl ?_) | exact FinB.cell FinC.nil | refine FinB.cell (FinC.sl ?_) | exact FinB.agg' rfl rfl | exact FinB.cell (FinC.same rfl) | refine FinB.agg ?_ | refine FinC.v ?_ | refine FinC.own rfl rfl rfl ?_ | exact FinC.nil | refine FinC.sl ?_ | exact FinC.same rfl); all_goals try rfl
      rw [← d4, List.take_append_of_le_length (by rw [List.length_take]; omega), List.take_take, Nat.min_self, List.map_take]
end Go.Proofs.Ytimlkhbedhjehaa
