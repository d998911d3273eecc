/-
  More of the text WnI.
  More of the text GrE.
  Workers, walked over abstract values: what one on its way does with an item.
  Workers, walked over abstract values: an event, and time that goes on.
  Workers, walked over abstract values: an event put into its group, time that goes on, by the reference.
-/
import Derived.Test.YtilgagmfcdfjaaaGreatM4
import Derived.Test.YtilgagmfcdfjaaaGreatM6
import Derived.Test.YtilgagmfcdfjaaaGreatM8
import Derived.Test.YtilgagmfcdfjaaaGreatM11
import Derived.Test.YtilgagmfcdfjaaaGreatM12
import Derived.Test.YtilgagmfcdfjaaaGreatM13
import Derived.Test.YtilgagmfcdfjaaaGreatM15
set_option linter.unusedSimpArgs false
set_option linter.unusedVariables false
set_option maxHeartbeats 20000000
namespace Go.Proofs.YtilgagmfcdfjaaaGreat
open Go.RowKit
end Go.Proofs.YtilgagmfcdfjaaaGreat
namespace Go.Proofs.YtilgagmfcdfjaaaGreat
open Go.RowKit
theorem calls_fresh {P : Program} {T : List TyI} (hT : okTab P T = true) {f : FuncId} {fn : Func} {c : Code} {args : List AV} {r : AV} {σ : Store} (hf : P.funcs[f]? = some fn) (hb : fn.body = some c)
  (H : ∀ w0 M μ0, AWP P ⟨w0, M, [], μ0, args.length + (fn.ntmps - args.length), none, w0.heap.size⟩ c (RetQ T fn.results.toList r []) ⟨numb 0 args, σ⟩) {w0 w : World} {M : Nat → Prop} {μ μ0 : Nat → Value} {vs : List Value} (hs : SRel σ μ w M) (hg : Gro [] μ0 w0 σ μ w) (hrep : repL σ μ w (av σ μ M) args vs) :
  Calls P f vs.toArray w fun e w' => ∃ y μ', e = .returned y ∧ SRel [] μ' w' M ∧ rep [] μ' w' (av [] μ' M) r y ∧ Gro [] μ0 w0 [] μ' w' := by
 refine (callsIn_wide (n := 0)).1 (callsIn_of_wp_marks hf hb trivial ?_ rfl)
 have hlen := repL_len hrep
 have hrel : Rel ⟨w0, M, [], μ0, args.length + (fn.ntmps - args.length), none, w0.heap.size⟩ ⟨numb 0 args, σ⟩ μ { tmps := vs.toArray ++ Array.replicate (fn.ntmps - vs.toArray.size) undef, defers := [] } w := by
  refine ⟨marks_nil, by simp [hlen], fun t x hx => ?_, hs, hg⟩
  obtain ⟨j, rfl, hj⟩ := find_numb hx
  obtain ⟨u, h1, h2⟩ := repL_get hrep hj
  have hlt : j < vs.length := (List.getElem?_eq_some_iff.1 h1).1
  have : (vs.toArray ++ Array.replicate (fn.ntmps - vs.toArray.size) undef)[0 + j]? = some u := by
   rw [Array.getElem?_append_left (by simpa using hlt)]
   simpa using h1
  rw [Array.getD_eq_getD_getElem?, this]
  exact h2
 refine wpIn_mono ((H w0 M μ0).out μ _ w hrel) ?_
 rintro e a w' ⟨s', μ', hr', he, vs', hvs, hfin, hk⟩
 have hfin : LeavesInM Fence.wide 0 P fn a.tmps (fun e w' => ∃ y μ', e = .returned y ∧ SRel [] μ' w' M ∧ rep [] μ' w' (av [] μ' M) r y ∧ Gro [] μ0 w0 [] μ' w') a.defers .returning w' := by
  refine leave_ok hT (Nat.le_refl _) a.defers hr' rfl hvs fun a' w2 hr2 y h1 h2 => ?_
  have h3 := finA_rep hr2.store hk hfin h2
  have h4 := hk.srel hr2.store
  have h5 := hk.gro hr2.gro (fun id o hf => by simp [find] at hf)
  exact ⟨y, μ', rfl, h4, h3, h5⟩
 rcases he with rfl | rfl
 ·exact hfin
 ·exact hfin
theorem c_Open1 (m lo hi : Int) : AC Tryz.prog 165 [.agg [.v (.int .i64 lo), .v (.int .i64 hi)], .ref 0 0] [(0, .box 2 [.v (.int .i64 m)])] (.v (.bool (closedW m ⟨lo, hi⟩))) [(0, .box 2 [.v (.int .i64 m)])] := by
 refine (ac_body tab_ok Tryz.func165 rfl (by kernel_rfl) rfl ?_); intro w0 M μ0; simp only [Tryz.ntmps165, List.length_cons, List.length_nil, Nat.reduceAdd, Nat.reduceSub, numb]
 repeat' (first | ((first | apply o_do | apply d_do | apply d_yes rfl rfl rfl); first | exact lsc ((p_Closed _ _ _)) | exact lsq) | refine a_seq ?_ | refine a_region ?_ | refine o_nil ?_ | refine a_block ?_ | refine a_ret ?_ | refine a_exit ?_ | refine a_skip ?_ | refine a_draw mixed ?_ | refine d_nil (by kernel_rfl) ?_ | refine o_yes rfl rfl rfl ?_ | refine o_no rfl rfl rfl (by decide) ?_ | refine o_no' rfl rfl rfl ?_ | refine a_condT rfl ?_ | refine a_condF rfl ?_ | refine d_no rfl rfl rfl (by decide) ?_ | refine d_no' rfl rfl rfl ?_ | (refine wq2 (fun hb => ?_) (fun hb => ?_) <;> (simp only [hb]; try simp only [hbs, ne_eq] at hb; try (exfalso; first | omega | exact hb trivial))) | fail)
 refine rq rfl ?_
 exact fnq
theorem fidxW_at (p : Wn → Bool) (xs : List Wn) (q : Nat) (h : q < xs.length) (h1 : (xs.take q).all (fun x => !p x) = true) (h2 : p xs[q] = true) : fidxW p xs = q := by
 unfold fidxW
 have e : xs = xs.take q ++ xs.drop q := (List.take_append_drop q xs).symm
 have e2 : xs.drop q = xs[q] :: xs.drop (q + 1) := List.drop_eq_getElem_cons h
 rw [e, List.takeWhile_append_of_pos (by intro a ha; exact List.all_eq_true.1 h1 a ha), e2, List.takeWhile_cons_of_neg (by simp [h2])]
 simp
 omega
theorem fidxW_all (p : Wn → Bool) (xs : List Wn) (h1 : xs.all (fun x => !p x) = true) : fidxW p xs = xs.length := by
 unfold fidxW
 have := List.takeWhile_append_of_pos (l₁ := xs) (l₂ := []) (p := fun x : Wn => !p x) (by intro a ha; exact List.all_eq_true.1 h1 a ha)
 rw [List.append_nil] at this
 rw [this]; simp
theorem ridxW_at {p : Wn → Bool} {xs : List Wn} {q : Nat} (h : q < xs.length) (h1 : (xs.take q).all (fun x => !p x) = true) (h2 : p xs[q] = true) : ridxW p xs = (q : Int) := by
 unfold ridxW
 rw [fidxW_at p xs q h h1 h2, if_pos h]
theorem ridxW_all {p : Wn → Bool} {xs : List Wn} (h1 : xs.all (fun x => !p x) = true) : ridxW p xs = -1 := by
 unfold ridxW
 rw [fidxW_all p xs h1, if_neg (by omega)]
theorem p_IndexW (mk : Int) (xs : List Wn) (hx : xs.length ≤ 1000000) :
  AC Tryz.prog 167 [.own 1 (xs.map Wn.av).length, .clo (.func 165) [] [.ref 0 0]] [(0, .box 2 [.v (.int .i64 mk)]), (1, .row 59 2 (xs.map Wn.av))] (.v (.int .i64 (ridxW (closedW mk) xs))) [(0, .box 2 [.v (.int .i64 mk)]), (1, .row 59 2 (xs.map Wn.av))] := by
 have hn : (xs.map Wn.av).length = xs.length := List.length_map _
 refine (ac_body tab_ok Tryz.func167 rfl (by kernel_rfl) rfl ?_); intro w0 M μ0; simp only [Tryz.ntmps167, List.length_cons, List.length_nil, Nat.reduceAdd, Nat.reduceSub, numb]
 repeat' (first | ((first | apply o_do | apply d_do | apply d_yes rfl rfl rfl); exact lsq) | refine a_seq ?_ | refine a_region ?_ | refine o_nil ?_ | refine a_block ?_ | refine a_ret ?_ | refine a_exit ?_ | refine a_skip ?_ | refine a_draw mixed ?_ | refine d_nil (by kernel_rfl) ?_ | refine o_yes rfl rfl rfl ?_ | refine o_no rfl rfl rfl (by decide) ?_ | refine o_no' rfl rfl rfl ?_ | refine a_condT rfl ?_ | refine a_condF rfl ?_ | refine d_no rfl rfl rfl (by decide) ?_ | refine d_no' rfl rfl rfl ?_ | (refine wq2 (fun hb => ?_) (fun hb => ?_) <;> (simp only [hb]; try simp only [hbs, ne_eq] at hb; try (exfalso; first | omega | exact hb trivial))) | fail)
 refine a_loop (X := {q : Nat // q ≤ xs.length ∧ (xs.take q).all (fun x => !closedW mk x) = true}) (fun x => ⟨[(0, .own 1 (xs.map Wn.av).length), (1, .clo (.func 165) [] [.ref 0 0]), (7, .v (.int .i64 (xs.map Wn.av).length)), (8, .v (.int .i64 x.1))], [(0, .box 2 [.v (.int .i64 mk)]), (1, .row 59 2 (xs.map Wn.av))]⟩) (fun x => xs.length - x.1) ⟨0, Nat.zero_le _, by simp⟩ ?_ ?_
 ·exact wkS
 rintro ⟨q, hq, hall⟩
 dsimp only
 by_cases hlt : q < xs.length
 ·have hel : (xs.map Wn.av)[q]? = some (Wn.av xs[q]) := by simp [hlt]
  have hqx : q < (xs.map Wn.av).length := by omega
  have hsn := take_snoc xs q hlt
  have hat := fun h => ridxW_at (p := closedW mk) hlt hall h
  have hcl := c_Open1 mk xs[q].lo xs[q].hi
  rw [show (Wn.mk xs[q].lo xs[q].hi) = xs[q] from rfl] at hcl
  generalize xs[q] = x at *
  repeat' (first | ((first | apply o_do | apply d_do | apply d_yes rfl rfl rfl); first | exact ls_indexAddr_own tab_ok rfl rfl rfl rfl rfl rfl hqx rfl | exact ls_load_eref tab_ok rfl rfl rfl hel rfl rfl rfl rfl | exact lca [0] 2 hcl | exact lsq) | refine a_seq ?_ | refine a_region ?_ | refine o_nil ?_ | refine a_block ?_ | refine a_ret ?_ | refine a_exit ?_ | refine a_skip ?_ | refine a_draw mixed ?_ | refine d_nil (by kernel_rfl) ?_ | refine o_yes rfl rfl rfl ?_ | refine o_no rfl rfl rfl (by decide) ?_ | refine o_no' rfl rfl rfl ?_ | refine a_condT rfl ?_ | refine a_condF rfl ?_ | refine d_no rfl rfl rfl (by decide) ?_ | refine d_no' rfl rfl rfl ?_ | (refine wq2 (fun hb => ?_) (fun hb => ?_) <;> (simp only [hb]; try simp only [hbs, ne_eq] at hb; try (exfalso; first | omega | exact hb trivial))) | fail)
  ·refine rq rfl ?_
   (first | refine FinA.tup ?_ | refine FinA.one ?_); repeat' (first | exact FinBs.nil | exact FinCs.nil | refine FinBs.cons ?_ ?_ | refine FinCs.cons ?_ ?_ | refine FinB.cell (FinC.v ?_) | refine FinB.cell (FinC.own rfl rfl rfl ?_) | exact FinB.cell FinC.nil | refine FinB.cell (FinC.sl ?_) | exact FinB.agg' rfl rfl | exact FinB.cell (FinC.same rfl) | refine FinB.agg ?_ | refine FinC.v ?_ | refine FinC.own rfl rfl rfl ?_ | exact FinC.nil | refine FinC.sl ?_ | exact FinC.same rfl); all_goals try rfl
   rw [hat hb]
  ·refine ⟨⟨q + 1, by omega, by rw [hsn, List.all_append, hall]; simp; exact hb⟩, by dsimp only; omega, ?_⟩
   exact wkS
 ·repeat' (first | ((first | apply o_do | apply d_do | apply d_yes rfl rfl rfl); exact lsq) | refine a_seq ?_ | refine a_region ?_ | refine o_nil ?_ | refine a_block ?_ | refine a_ret ?_ | refine a_exit ?_ | refine a_skip ?_ | refine a_draw mixed ?_ | refine d_nil (by kernel_rfl) ?_ | refine o_yes rfl rfl rfl ?_ | refine o_no rfl rfl rfl (by decide) ?_ | refine o_no' rfl rfl rfl ?_ | refine a_condT rfl ?_ | refine a_condF rfl ?_ | refine d_no rfl rfl rfl (by decide) ?_ | refine d_no' rfl rfl rfl ?_ | (refine wq2 (fun hb => ?_) (fun hb => ?_) <;> (simp only [hb]; try simp only [hbs, ne_eq] at hb; try (exfalso; first | omega | exact hb trivial))) | fail)
  refine rq rfl ?_
  (first | refine FinA.tup ?_ | refine FinA.one ?_); repeat' (first | exact FinBs.nil | exact FinCs.nil | refine FinBs.cons ?_ ?_ | refine FinCs.cons ?_ ?_ | refine FinB.cell (FinC.v ?_) | refine FinB.cell (FinC.own rfl rfl rfl ?_) | exact FinB.cell FinC.nil | refine FinB.cell (FinC.sl ?_) | exact FinB.agg' rfl rfl | exact FinB.cell (FinC.same rfl) | refine FinB.agg ?_ | refine FinC.v ?_ | refine FinC.own rfl rfl rfl ?_ | exact FinC.nil | refine FinC.sl ?_ | exact FinC.same rfl); all_goals try rfl
  obtain rfl : q = xs.length := by omega
  rw [List.take_length] at hall
  rw [ridxW_all hall]
theorem find_closed (mk : Int) (xs : List Wn) : (xs.all (fun x => !closedW mk x) = true) ∨ ∃ q, ∃ h : q < xs.length, (xs.take q).all (fun x => !closedW mk x) = true ∧ closedW mk xs[q] = true := by
 induction xs with
 | nil => exact .inl rfl
 | cons x l ih =>
  cases hx : closedW mk x
  ·rcases ih with h | ⟨q, hq, h1, h2⟩
   ·exact .inl (by simp [hx]; simpa using h)
   ·exact .inr ⟨q + 1, by simp; omega, by simp [hx]; simpa using h1, by simpa using h2⟩
  ·exact .inr ⟨0, by simp, by simp, by simpa using hx⟩
theorem c_Del (mk : Int) (xs : List Wn) (hx : xs.length ≤ 1000000) {w0 w : World} {M : Nat → Prop} {μ μ0 : Nat → Value} {vs : List Value} (hs : SRel [(0, .box 2 [.v (.int .i64 mk)]), (1, .row 59 2 (xs.map Wn.av))] μ w M) (hg : Gro [] μ0 w0 [(0, .box 2 [.v (.int .i64 mk)]), (1, .row 59 2 (xs.map Wn.av))] μ w)
  (hrep : repL [(0, .box 2 [.v (.int .i64 mk)]), (1, .row 59 2 (xs.map Wn.av))] μ w (av [(0, .box 2 [.v (.int .i64 mk)]), (1, .row 59 2 (xs.map Wn.av))] μ M) [.own 1 (xs.map Wn.av).length, .clo (.func 165) [] [.ref 0 0]] vs) :
  Calls Tryz.prog 164 vs.toArray w fun e w' => ∃ y μ', e = .returned y ∧ SRel [] μ' w' M ∧ rep [] μ' w' (av [] μ' M) (.sl 2 ((openW mk xs).map Wn.av)) y ∧ Gro [] μ0 w0 [] μ' w' := by
 have hn : (xs.map Wn.av).length = xs.length := List.length_map _
 have hI := p_IndexW mk xs hx
 refine calls_fresh tab_ok Tryz.func164 rfl ?_ hs hg hrep
 intro w0 M μ0
 simp only [Tryz.ntmps164, List.length_cons, List.length_nil, Nat.reduceAdd, Nat.reduceSub, numb]
 rcases find_closed mk xs with hall | ⟨q, hq, h1, h2⟩
 ·rw [ridxW_all hall] at hI
  rw [show openW mk xs = xs by unfold openW; rw [List.filter_eq_self]; intro a ha; exact List.all_eq_true.1 hall a ha]
  repeat' (first | ((first | apply o_do | apply d_do | apply d_yes rfl rfl rfl); first | exact lca [0, 1] 2 hI | exact lsq) | refine a_seq ?_ | refine a_region ?_ | refine o_nil ?_ | refine a_block ?_ | refine a_ret ?_ | refine a_exit ?_ | refine a_skip ?_ | refine a_draw mixed ?_ | refine d_nil (by kernel_rfl) ?_ | refine o_yes rfl rfl rfl ?_ | refine o_no rfl rfl rfl (by decide) ?_ | refine o_no' rfl rfl rfl ?_ | refine a_condT rfl ?_ | refine a_condF rfl ?_ | refine d_no rfl rfl rfl (by decide) ?_ | refine d_no' rfl rfl rfl ?_ | (refine wq2 (fun hb => ?_) (fun hb => ?_) <;> (simp only [hb]; try simp only [hbs, ne_eq] at hb; try (exfalso; first | omega | exact hb trivial))) | fail)
  all_goals refine rq rfl ?_
  all_goals exact fnq
 ·rw [ridxW_at hq h1 h2] at hI
  repeat' (first | ((first | apply o_do | apply d_do | apply d_yes rfl rfl rfl); first | exact lca [0, 1] 2 hI | exact lsq) | refine a_seq ?_ | refine a_region ?_ | refine o_nil ?_ | refine a_block ?_ | refine a_ret ?_ | refine a_exit ?_ | refine a_skip ?_ | refine a_draw mixed ?_ | refine d_nil (by kernel_rfl) ?_ | refine o_yes rfl rfl rfl ?_ | refine o_no rfl rfl rfl (by decide) ?_ | refine o_no' rfl rfl rfl ?_ | refine a_condT rfl ?_ | refine a_condF rfl ?_ | refine d_no rfl rfl rfl (by decide) ?_ | refine d_no' rfl rfl rfl ?_ | (refine wq2 (fun hb => ?_) (fun hb => ?_) <;> (simp only [hb]; try simp only [hbs, ne_eq] at hb; try (exfalso; first | omega | exact hb trivial))) | fail)
  refine a_loop (X := {x : Nat × Nat × List Wn // DelX mk xs x}) (fun x => ⟨[(0, .own 1 (x.1.2.2.map Wn.av).length), (1, .clo (.func 165) [] [.ref 0 0]), (5, .v (.int .i64 x.1.1)), (6, .v (.int .i64 x.1.2.1))], [(0, .box 2 [.v (.int .i64 mk)]), (1, .row 59 2 (x.1.2.2.map Wn.av))]⟩) (fun x => xs.length - x.1.2.1) ⟨(q, q + 1, xs), DelX.start hq h1 h2⟩ ?_ ?_
  ·exact wkS
  rintro ⟨⟨i, j, m⟩, hD⟩
  have hD' := hD
  obtain ⟨d1, d2, d3, d4, d5⟩ := hD'
  dsimp only at d1 d2 d3 d4 d5 ⊢
  have hmn : (m.map Wn.av).length = m.length := List.length_map _
  by_cases hlt : j < xs.length
  ·have e1 : (m.map Wn.av)[j]? = some (Wn.av xs[j]) := by rw [List.getElem?_map, d5 j (Nat.le_refl _), List.getElem?_eq_getElem hlt]; rfl
   have hjx : j < (m.map Wn.av).length := by omega
   have hix : i < (m.map Wn.av).length := by omega
   obtain ⟨u, e2⟩ : ∃ u : Wn, (m.map Wn.av)[i]? = some (Wn.av u) := ⟨m[i]'(by omega), by simp [show i < m.length by omega]⟩
   have hcl := c_Open1 mk xs[j].lo xs[j].hi
   rw [show (Wn.mk xs[j].lo xs[j].hi) = xs[j] from rfl] at hcl
   have hk := fun h => hD.keep hlt rfl h
   have hd := fun h => hD.drop hlt rfl h
   have hN : ∀ x : Wn, (m.set i x).map Wn.av = (m.map Wn.av).set i (Wn.av x) := fun x => List.map_set
   have hL : ∀ x : Wn, (m.map Wn.av).length = ((m.set i x).map Wn.av).length := fun x => by simp
   have hpu : ∀ y : Wn, ∀ (σ : Store) (μ : Nat → Value) (w : World) (A : Nat → Prop) (z : Value), rep σ μ w A (.agg (Wn.av y)) z → rep [] μ w A (.agg (Wn.av y)) z := fun y _ _ _ _ _ h => rep_pureB h rfl
   generalize xs[j] = x at *
   cases hc : closedW mk x
   ·rw [hc] at hcl
    repeat' (first | ((first | apply o_do | apply d_do | apply d_yes rfl rfl rfl); first | exact ls_indexAddr_own tab_ok rfl rfl rfl rfl rfl rfl hjx rfl | exact ls_indexAddr_own tab_ok rfl rfl rfl rfl rfl rfl hix rfl | exact ls_load_eref tab_ok rfl rfl rfl e1 rfl rfl rfl rfl | exact ls_store_eref (cs' := Wn.av x) tab_ok rfl rfl rfl rfl e2 rfl rfl (hpu _) rfl rfl rfl rfl | exact lca [0] 3 hcl | exact lsq) | refine a_seq ?_ | refine a_region ?_ | refine o_nil ?_ | refine a_block ?_ | refine a_ret ?_ | refine a_exit ?_ | refine a_skip ?_ | refine a_draw mixed ?_ | refine d_nil (by kernel_rfl) ?_ | refine o_yes rfl rfl rfl ?_ | refine o_no rfl rfl rfl (by decide) ?_ | refine o_no' rfl rfl rfl ?_ | refine a_condT rfl ?_ | refine a_condF rfl ?_ | refine d_no rfl rfl rfl (by decide) ?_ | refine d_no' rfl rfl rfl ?_ | (refine wq2 (fun hb => ?_) (fun hb => ?_) <;> (simp only [hb]; try simp only [hbs, ne_eq] at hb; try (exfalso; first | omega | exact hb trivial))) | fail)
    refine ⟨⟨(i + 1, j + 1, m.set i x), hk hc⟩, by dsimp only; omega, ?_⟩
    refine ⟨by repeat' (first | exact trivial | exact FinA.one (FinB.cell (FinC.same rfl)) | exact FinA.one (FinB.cell FinC.nil) | exact FinA.bound rfl | exact FinA.one (FinB.cell (FinC.own rfl rfl rfl rfl)) | exact FinA.one (FinB.cell (FinC.v (by first | rfl | ((first | (simp only [hN]; done) | (simp only [hN]; rfl) | (exact hL x) | simp))))) | exact FinA.one (FinB.cell (FinC.ow rfl (by first | rfl | ((first | (simp only [hN]; done) | (simp only [hN]; rfl) | (exact hL x) | simp))))) | exact FinA.one (FinB.agg' rfl rfl) | refine ⟨⟨_, rfl, ?_⟩, ?_⟩), by repeat' (first | exact trivial | refine ⟨⟨_, rfl, by first | rfl | ((first | (simp only [hN]; done) | (simp only [hN]; rfl) | (exact hL x) | simp); done) | (simp [renO, *]; done)⟩, by first | rfl | assumption, ?_⟩), rfl⟩
   ·rw [hc] at hcl
    repeat' (first | ((first | apply o_do | apply d_do | apply d_yes rfl rfl rfl); first | exact ls_indexAddr_own tab_ok rfl rfl rfl rfl rfl rfl hjx rfl | exact ls_load_eref tab_ok rfl rfl rfl e1 rfl rfl rfl rfl | exact lca [0] 3 hcl | exact lsq) | refine a_seq ?_ | refine a_region ?_ | refine o_nil ?_ | refine a_block ?_ | refine a_ret ?_ | refine a_exit ?_ | refine a_skip ?_ | refine a_draw mixed ?_ | refine d_nil (by kernel_rfl) ?_ | refine o_yes rfl rfl rfl ?_ | refine o_no rfl rfl rfl (by decide) ?_ | refine o_no' rfl rfl rfl ?_ | refine a_condT rfl ?_ | refine a_condF rfl ?_ | refine d_no rfl rfl rfl (by decide) ?_ | refine d_no' rfl rfl rfl ?_ | (refine wq2 (fun hb => ?_) (fun hb => ?_) <;> (simp only [hb]; try simp only [hbs, ne_eq] at hb; try (exfalso; first | omega | exact hb trivial))) | fail)
    refine ⟨⟨(i, j + 1, m), hd hc⟩, by dsimp only; omega, ?_⟩
    exact wkS
  ·obtain rfl : j = xs.length := by omega
   rw [List.take_length] at d4
   have hix : i < (m.map Wn.av).length := by omega
   repeat' (first | ((first | apply o_do | apply d_do | apply d_yes rfl rfl rfl); exact lsq) | refine a_seq ?_ | refine a_region ?_ | refine o_nil ?_ | refine a_block ?_ | refine a_ret ?_ | refine a_exit ?_ | refine a_skip ?_ | refine a_draw mixed ?_ | refine d_nil (by kernel_rfl) ?_ | refine o_yes rfl rfl rfl ?_ | refine o_no rfl rfl rfl (by decide) ?_ | refine o_no' rfl rfl rfl ?_ | refine a_condT rfl ?_ | refine a_condF rfl ?_ | refine d_no rfl rfl rfl (by decide) ?_ | refine d_no' rfl rfl rfl ?_ | (refine wq2 (fun hb => ?_) (fun hb => ?_) <;> (simp only [hb]; try simp only [hbs, ne_eq] at hb; try (exfalso; first | omega | exact hb trivial))) | fail)
   refine o_sliceClear (q := i) (zc := [.v (.int .i64 0), .v (.int .i64 0)]) (zv := .agg #[.int .i64 0, .int .i64 0]) tab_ok rfl rfl rfl rfl rfl hix rfl (fun w => by go_simp) (fun _ _ _ _ => repC_con (cs := [.int .i64 0, .int .i64 0]) rfl) rfl rfl rfl ?_
   repeat' (first | ((first | apply o_do | apply d_do | apply d_yes rfl rfl rfl); exact lsq) | refine a_seq ?_ | refine a_region ?_ | refine o_nil ?_ | refine a_block ?_ | refine a_ret ?_ | refine a_exit ?_ | refine a_skip ?_ | refine a_draw mixed ?_ | refine d_nil (by kernel_rfl) ?_ | refine o_yes rfl rfl rfl ?_ | refine o_no rfl rfl rfl (by decide) ?_ | refine o_no' rfl rfl rfl ?_ | refine a_condT rfl ?_ | refine a_condF rfl ?_ | refine d_no rfl rfl rfl (by decide) ?_ | refine d_no' rfl rfl rfl ?_ | (refine wq2 (fun hb => ?_) (fun hb => ?_) <;> (simp only [hb]; try simp only [hbs, ne_eq] at hb; try (exfalso; first | omega | exact hb trivial))) | fail)
   have hlen : (m.map Wn.av).length = ((m.map Wn.av).take i ++ List.replicate ((m.map Wn.av).length - i) [AV.v (.int .i64 0), AV.v (.int .i64 0)]).length := by
    rw [List.length_append, List.length_take, List.length_replicate]; omega
   refine o_weak (t := ⟨[(39, .sl 2 ((m.map Wn.av).take i ++ List.replicate ((m.map Wn.av).length - i) [AV.v (.int .i64 0), AV.v (.int .i64 0)])), (40, .v (.int .i64 i))], []⟩) ⟨⟨⟨_, rfl, FinA.one (FinB.cell (FinC.own rfl hlen rfl rfl))⟩, ⟨⟨_, rfl, FinA.one (FinB.cell (FinC.same rfl))⟩, trivial⟩⟩, trivial, rfl⟩ ?_
   repeat' (first | ((first | apply o_do | apply d_do | apply d_yes rfl rfl rfl); first | exact ls_slice_to (n := i) tab_ok rfl rfl rfl rfl (by rw [← hlen]; omega) rfl | exact lsq) | refine a_seq ?_ | refine a_region ?_ | refine o_nil ?_ | refine a_block ?_ | refine a_ret ?_ | refine a_exit ?_ | refine a_skip ?_ | refine a_draw mixed ?_ | refine d_nil (by kernel_rfl) ?_ | refine o_yes rfl rfl rfl ?_ | refine o_no rfl rfl rfl (by decide) ?_ | refine o_no' rfl rfl rfl ?_ | refine a_condT rfl ?_ | refine a_condF rfl ?_ | refine d_no rfl rfl rfl (by decide) ?_ | refine d_no' rfl rfl rfl ?_ | (refine wq2 (fun hb => ?_) (fun hb => ?_) <;> (simp only [hb]; try simp only [hbs, ne_eq] at hb; try (exfalso; first | omega | exact hb trivial))) | fail)
   refine rq rfl ?_
   (first | refine FinA.tup ?_ | refine FinA.one ?_); repeat' (first | exact FinBs.nil | exact FinCs.nil | refine FinBs.cons ?_ ?_ | refine FinCs.cons ?_ ?_ | refine FinB.cell (FinC.v ?_) | refine FinB.cell (FinC.own rfl rfl rfl ?_) | exact FinB.cell FinC.nil | refine FinB.cell (FinC.sl ?_) | exact FinB.agg' rfl rfl | exact FinB.cell (FinC.same rfl) | refine FinB.agg ?_ | refine FinC.v ?_ | refine FinC.own rfl rfl rfl ?_ | exact FinC.nil | refine FinC.sl ?_ | exact FinC.same rfl); all_goals try rfl
   rw [← d4, List.take_append_of_le_length (by rw [List.length_take]; omega), List.take_take, Nat.min_self, List.map_take]
end Go.Proofs.YtilgagmfcdfjaaaGreat
namespace Go.Proofs.YtilgagmfcdfjaaaGreat
open Go.RowKit
theorem c_OfAll (size slide t : Int) (w : World) : Calls Tryz.prog 51 #[.int .i64 size, .int .i64 slide, .int .i64 t] w fun e w' => ∃ v, e = .returned v ∧ RowW w.heap.size w' v (winL size slide t) ∧ Below w.heap.size w w' := by
 cases hok : okT size slide t
 ·have e : winL size slide t = [] := by simp [winL, hok]
  rw [e]
  refine ((p_OfNo size slide t hok).law (w := w) (vs := [_, _, _]) ⟨_, _, rfl, by simp [rep, scal], _, _, rfl, by simp [rep, scal], _, _, rfl, by simp [rep, scal], rfl⟩).mono ?_
  rintro e w' ⟨rfl, hb⟩
  exact ⟨_, rfl, World.ownsRow_nil _ _ _ _, hb⟩
 ·exact c_Of size slide t w hok
theorem caught2 {w w2 : World} {M : Nat → Prop} {v : Value} {mk : Int} {ws : List Wn} (hbox : Blk w2 w.heap.size 2 #[.int .i64 mk]) (hrow : RowW (w.heap.size + 1) w2 v ws) (hM : ∀ b, M b → b < w.heap.size) (hB : Below w.heap.size w w2) (μ : Nat → Value) :
  SRel [(0, .box 2 [.v (.int .i64 mk)]), (1, .row 59 2 (ws.map Wn.av))] (mu2 w.heap.size v) w2 M ∧
  Gro [] μ w [(0, .box 2 [.v (.int .i64 mk)]), (1, .row 59 2 (ws.map Wn.av))] (mu2 w.heap.size v) w2 ∧
  repL [(0, .box 2 [.v (.int .i64 mk)]), (1, .row 59 2 (ws.map Wn.av))] (mu2 w.heap.size v) w2 (av [(0, .box 2 [.v (.int .i64 mk)]), (1, .row 59 2 (ws.map Wn.av))] (mu2 w.heap.size v) M) [.own 1 (ws.map Wn.av).length, .clo (.func 165) [] [.ref 0 0]] [v, .func (.func 165) #[] #[.pointer (some ⟨w.heap.size, 0, none⟩)]] := by
 have hf : ∀ id o, find [((0 : Nat), SObj.box 2 [AV.v (.int .i64 mk)]), (1, .row 59 2 (ws.map Wn.av))] id = some o → (id = 0 ∧ o = .box 2 [.v (.int .i64 mk)]) ∨ (id = 1 ∧ o = .row 59 2 (ws.map Wn.av)) := by
  intro id o h
  rw [find_cons, find_cons] at h
  split at h
  ·rename_i e; injection h with h; exact .inl ⟨e.symm, h.symm⟩
  ·split at h
   ·rename_i e; injection h with h; exact .inr ⟨e.symm, h.symm⟩
   ·simp [find] at h
 have hv : ∀ b, blk v = some b → w.heap.size + 1 ≤ b := by
  intro b hb
  rcases hrow.2 with ⟨rfl, _⟩ | ⟨g, cap, cur, rfl, h1, _⟩
  ·simp [blk] at hb
  ·simp [blk] at hb; omega
 have hone : v.oneCell' = true := by
  rcases hrow.2 with ⟨rfl, _⟩ | ⟨g, cap, cur, rfl, h1, _⟩ <;> rfl
 have hlt := Blk.lt hbox
 have hb0 : ∀ b, blk (mu2 w.heap.size v 0) = some b → b = w.heap.size := by
  intro b hb; simp [mu2, blk] at hb; exact hb.symm
 refine ⟨⟨fun id o h => ?_, fun id id' o o' g h1 h2 h3 h4 => ?_, fun b h => by have := hM b h; omega, fun id o b h1 h2 h3 => ?_⟩, ⟨hB.os, hB.tape, hB.output, hB.size, fun b hb _ => hB.block b hb, fun id o b h1 h2 h3 => ?_, fun _ _ _ h => by simp [find] at h, fun _ _ _ _ h => by simp [find] at h, fun _ _ h => by simp [find] at h, fun _ h => by simp [find] at h⟩, ?_⟩
 ·rcases hf id o h with ⟨rfl, rfl⟩ | ⟨rfl, rfl⟩
  ·exact ⟨w.heap.size, [.int .i64 mk], rfl, hbox, repC_con (cs := [.int .i64 mk]) rfl⟩
  ·refine ⟨ws.flatMap Wn.cells, ?_, wn_repLL ws⟩
   rw [List.length_map]
   exact OwnS.of (own_base' hrow (Nat.zero_le _)) rfl
 ·rcases hf id o h1 with ⟨rfl, _⟩ | ⟨rfl, _⟩ <;> rcases hf id' o' h2 with ⟨rfl, _⟩ | ⟨rfl, _⟩
  ·rfl
  ·have := hb0 g h3; have := hv g h4; omega
  ·have := hb0 g h4; have := hv g h3; omega
  ·rfl
 ·rcases hf id o h1 with ⟨rfl, _⟩ | ⟨rfl, _⟩
  ·have := hb0 b h2; have := hM b h3; omega
  ·have := hv b h2; have := hM b h3; omega
 ·rcases hf id o h1 with ⟨rfl, _⟩ | ⟨rfl, _⟩
  ·have := hb0 b h2; omega
  ·have := hv b h2; omega
 ·refine ⟨v, _, rfl, ?_, _, [], rfl, ?_, rfl⟩
  ·simp only [rep]
   exact ⟨hone, .inr ⟨_, _, _, rfl, Nat.le_refl _, fun _ => rfl⟩⟩
  ·simp only [rep]
   refine ⟨[], [.pointer (some ⟨w.heap.size, 0, none⟩)], rfl, rfl, _, [], rfl, ?_, rfl⟩
   simp only [rep]
   exact ⟨_, _, w.heap.size, rfl, Nat.zero_le _, rfl, rfl⟩
theorem ok_Open : CallOK Tryz.prog 153 := ⟨_, Tryz.func153, by kernel_rfl, rfl⟩
section
attribute [local go_sem ↓] Go.wp_at_zero Go.wp_at_succ
set_option maxRecDepth 10000 in
theorem p_Open (size slide t mark : Int) : PC Tryz.prog 153 [.v (.int .i64 size), .v (.int .i64 slide), .v (.int .i64 t), .v (.int .i64 mark)] (.sl 2 ((openL size slide t mark).map Wn.av)) := by
 refine ⟨⟨ok_Open, fun w M μ vs hs hrep => ?_⟩⟩
 simp only [repL, rep] at hrep
 obtain ⟨a, l, rfl, ⟨rfl, _⟩, b, m, rfl, ⟨rfl, _⟩, c, n, rfl, ⟨rfl, _⟩, d, o, rfl, ⟨rfl, _⟩, rfl⟩ := hrep
 go_enter Tryz.func153, Tryz.ntmps153
 go_wp2_with fail
 refine (c_OfAll size slide t _).mono ?_
 rintro e w2 ⟨v, rfl, hrow, hb⟩
 go_wp2_with fail
 have hbox : Blk w2 w.heap.size 2 #[.int .i64 mark] := (hb.block w.heap.size (by simp)).trans (Blk.new _ _ _)
 have hB : Below w.heap.size w w2 := ((Below.refl _ w).alloc (Nat.le_refl _) _).trans (hb.mono (by simp))
 rw [World.size_alloc] at hrow
 obtain ⟨q1, q2, q3⟩ := caught2 (M := M) (mk := mark) (ws := winL size slide t) hbox hrow (fun b hM => hs.lt b hM) hB μ
 refine (c_Del mark (winL size slide t) (by have := winL_len size slide t; omega) (vs := [_, _]) q1 q2 q3).mono ?_
 rintro e w3 ⟨y, μ', rfl, h1, h2, h3⟩
 go_wp2
 go_ret
 exact ⟨y, μ', rfl, h1, h2, h3⟩
end
end Go.Proofs.YtilgagmfcdfjaaaGreat
namespace Go.Proofs.YtilgagmfcdfjaaaGreat
open Go.RowKit
section
variable {P : Program} {Γ : Ctx} {s : ASt} {dst : Option Tmp} {ty : TypeId} {pos : String} {after : Array Edge}
end
theorem takeW_le {k : Int} {key : ByteArray} {v : Int} : ∀ {ws : List Wn} {ps : List Pn}, ps.length ≤ 9223372036854775807 → (takeW k key v ps ws).1.length ≤ 9223372036854775807
 | [], ps, h => h
 | w :: ws, ps, h => by
  unfold takeW
  split
  ·exact takeW_le (by have := addR_le k ps (oneP k w.lo w.hi key v); omega)
  ·simp
theorem takeW_bad {k : Int} {key : ByteArray} {v : Int} {ps : List Pn} {ws : List Wn} {q : Nat} (hq : q < ws.length) {e : Int} (h : addR k ps (oneP k ws[q].lo ws[q].hi key v) = ([], e)) (he : e ≠ 0) : takeW k key v ps (ws.drop q) = ([], e) := by
 rw [List.drop_eq_getElem_cons hq, takeW, h]
 simp [he]
theorem takeW_ok {k : Int} {key : ByteArray} {v : Int} {ps ps' : List Pn} {ws : List Wn} {q : Nat} (hq : q < ws.length) (h : addR k ps (oneP k ws[q].lo ws[q].hi key v) = (ps', 0)) : takeW k key v ps (ws.drop q) = takeW k key v ps' (ws.drop (q + 1)) := by
 rw [List.drop_eq_getElem_cons hq, takeW, h]
 simp
theorem openL_len (s d t mark : Int) : (openL s d t mark).length ≤ 16 := by
 unfold openL openW
 exact Nat.le_trans (List.length_filter_le _ _) (winL_len s d t)
section
variable (g s d k fu li de id no mark : Int) (ps : List Pn) (key : ByteArray) (at' v : Int)
set_option maxRecDepth 20000 in
theorem g_Take (hx : ps.length ≤ 9223372036854775807) :
  PC Tryz.prog 134 [.agg [.v (.int .i64 g), .v (.int .i64 s), .v (.int .i64 d), .v (.int .i64 k), .v (.int .i64 fu), .v (.int .i64 li), .v (.int .i64 de), .v (.int .i64 id)], .agg [.v (.int .i64 no), .v (.int .i64 mark), .sl 6 (ps.map Pn.av)], .agg [.v (.string key), .v (.int .i64 at'), .v (.int .i64 v)]] (takeR s d k no mark ps key at' v).av := by
 have hj := g_Job g s d k fu li de id
 have hr := g_Right no mark ps hx
 have he := p_Event key at' v
 have ho := p_Open s d at' mark
 have hol := openL_len s d at' mark
 unfold takeR
 cases hJ : jobR s d k
 ·rw [hJ] at hj
  refine PC.mk (ac_body tab_ok Tryz.func134 rfl (by kernel_rfl) rfl ?_); intro w0 M μ0; simp only [Tryz.ntmps134, List.length_cons, List.length_nil, Nat.reduceAdd, Nat.reduceSub, numb]
  repeat' (first | ((first | apply o_do | apply d_do | apply d_yes rfl rfl rfl); first | exact lsc (hj) | exact lsq) | refine a_seq ?_ | refine a_region ?_ | refine o_nil ?_ | refine a_block ?_ | refine a_ret ?_ | refine a_exit ?_ | refine a_skip ?_ | refine a_draw mixed ?_ | refine d_nil (by kernel_rfl) ?_ | refine o_yes rfl rfl rfl ?_ | refine o_no rfl rfl rfl (by decide) ?_ | refine o_no' rfl rfl rfl ?_ | refine a_condT rfl ?_ | refine a_condF rfl ?_ | refine d_no rfl rfl rfl (by decide) ?_ | refine d_no' rfl rfl rfl ?_ | (refine wq2 (fun hb => ?_) (fun hb => ?_) <;> (simp only [hb]; try simp only [hbs, ne_eq] at hb; try (exfalso; first | omega | exact hb trivial))) | fail)
  all_goals refine rq rfl ?_
  all_goals exact fnq
 rw [hJ] at hj
 cases hR : grR no mark ps
 ·rw [hR] at hr
  refine PC.mk (ac_body tab_ok Tryz.func134 rfl (by kernel_rfl) rfl ?_); intro w0 M μ0; simp only [Tryz.ntmps134, List.length_cons, List.length_nil, Nat.reduceAdd, Nat.reduceSub, numb]
  repeat' (first | ((first | apply o_do | apply d_do | apply d_yes rfl rfl rfl); first | exact lsc (hj) | exact lsc (hr) | exact lsq) | refine a_seq ?_ | refine a_region ?_ | refine o_nil ?_ | refine a_block ?_ | refine a_ret ?_ | refine a_exit ?_ | refine a_skip ?_ | refine a_draw mixed ?_ | refine d_nil (by kernel_rfl) ?_ | refine o_yes rfl rfl rfl ?_ | refine o_no rfl rfl rfl (by decide) ?_ | refine o_no' rfl rfl rfl ?_ | refine a_condT rfl ?_ | refine a_condF rfl ?_ | refine d_no rfl rfl rfl (by decide) ?_ | refine d_no' rfl rfl rfl ?_ | (refine wq2 (fun hb => ?_) (fun hb => ?_) <;> (simp only [hb]; try simp only [hbs, ne_eq] at hb; try (exfalso; first | omega | exact hb trivial))) | fail)
  all_goals refine rq rfl ?_
  all_goals exact fnq
 rw [hR] at hr
 cases hE : evR key at'
 ·rw [hE] at he
  refine PC.mk (ac_body tab_ok Tryz.func134 rfl (by kernel_rfl) rfl ?_); intro w0 M μ0; simp only [Tryz.ntmps134, List.length_cons, List.length_nil, Nat.reduceAdd, Nat.reduceSub, numb]
  repeat' (first | ((first | apply o_do | apply d_do | apply d_yes rfl rfl rfl); first | exact lsc (hj) | exact lsc (hr) | exact lsc (he) | exact lsq) | refine a_seq ?_ | refine a_region ?_ | refine o_nil ?_ | refine a_block ?_ | refine a_ret ?_ | refine a_exit ?_ | refine a_skip ?_ | refine a_draw mixed ?_ | refine d_nil (by kernel_rfl) ?_ | refine o_yes rfl rfl rfl ?_ | refine o_no rfl rfl rfl (by decide) ?_ | refine o_no' rfl rfl rfl ?_ | refine a_condT rfl ?_ | refine a_condF rfl ?_ | refine d_no rfl rfl rfl (by decide) ?_ | refine d_no' rfl rfl rfl ?_ | (refine wq2 (fun hb => ?_) (fun hb => ?_) <;> (simp only [hb]; try simp only [hbs, ne_eq] at hb; try (exfalso; first | omega | exact hb trivial))) | fail)
  all_goals refine rq rfl ?_
  all_goals exact fnq
 rw [hE] at he
 simp only [Bool.and_self, if_false, Bool.true_eq_false]
 generalize openL s d at' mark = ws at *
 refine PC.mk (ac_body tab_ok Tryz.func134 rfl (by kernel_rfl) rfl ?_); intro w0 M μ0; simp only [Tryz.ntmps134, List.length_cons, List.length_nil, Nat.reduceAdd, Nat.reduceSub, numb]
 repeat' (first | ((first | apply o_do | apply d_do | apply d_yes rfl rfl rfl); first | exact lsc (hj) | exact lsc (hr) | exact lsc (he) | exact lsc (ho) | exact lsq) | refine a_seq ?_ | refine a_region ?_ | refine o_nil ?_ | refine a_block ?_ | refine a_ret ?_ | refine a_exit ?_ | refine a_skip ?_ | refine a_draw mixed ?_ | refine d_nil (by kernel_rfl) ?_ | refine o_yes rfl rfl rfl ?_ | refine o_no rfl rfl rfl (by decide) ?_ | refine o_no' rfl rfl rfl ?_ | refine a_condT rfl ?_ | refine a_condF rfl ?_ | refine d_no rfl rfl rfl (by decide) ?_ | refine d_no' rfl rfl rfl ?_ | (refine wq2 (fun hb => ?_) (fun hb => ?_) <;> (simp only [hb]; try simp only [hbs, ne_eq] at hb; try (exfalso; first | omega | exact hb trivial))) | fail)
 refine a_loop (X := {x : Nat × List Pn // x.1 ≤ ws.length ∧ takeW k key v ps ws = takeW k key v x.2 (ws.drop x.1) ∧ x.2.length ≤ 9223372036854775807}) (fun x => ⟨[(3, .ref 0 0), (4, .ref 1 0), (5, .ref 2 0), (6, .ref 3 0), (9, .sl 2 (ws.map Wn.av)), (38, .sl 2 (ws.map Wn.av)), (39, .v (.int .i64 ws.length)), (40, .v (.int .i64 x.1.1))], [(0, .box 23 [.v (.int .i64 g), .v (.int .i64 s), .v (.int .i64 d), .v (.int .i64 k), .v (.int .i64 fu), .v (.int .i64 li), .v (.int .i64 de), .v (.int .i64 id)]), (1, .box 98 [.v (.int .i64 no), .v (.int .i64 mark), .sl 6 (x.1.2.map Pn.av)]), (2, .box 57 [.v (.string key), .v (.int .i64 at'), .v (.int .i64 v)]), (3, .box 98 [.v (.int .i64 0), .v (.int .i64 0), .v (.slice none 0 0)])]⟩) (fun x => ws.length - x.1.1) ⟨(0, ps), Nat.zero_le _, rfl, hx⟩ ?_ ?_
 ·exact wkS
 rintro ⟨⟨q, cur⟩, hq, htk, hc⟩
 dsimp only at hq htk hc ⊢
 rw [htk]
 by_cases hlt : q < ws.length
 ·have hel : (ws.map Wn.av)[q]? = some (Wn.av ws[q]) := by simp [hlt]
  have hA := p_Add cur k key ws[q].lo ws[q].hi v hc
  rcases addR_form k cur (oneP k ws[q].lo ws[q].hi key v) with ⟨l, hl, hll⟩ | ⟨e, hl, hne⟩
  ·have ht := takeW_ok hlt hl
   rw [hl] at hA
   dsimp only [PR.av] at hA
   rw [ht]
   generalize ws[q] = w at *
   repeat' (first | ((first | apply o_do | apply d_do | apply d_yes rfl rfl rfl); first | exact lsc (hA) | exact lsq) | refine a_seq ?_ | refine a_region ?_ | refine o_nil ?_ | refine a_block ?_ | refine a_ret ?_ | refine a_exit ?_ | refine a_skip ?_ | refine a_draw mixed ?_ | refine d_nil (by kernel_rfl) ?_ | refine o_yes rfl rfl rfl ?_ | refine o_no rfl rfl rfl (by decide) ?_ | refine o_no' rfl rfl rfl ?_ | refine a_condT rfl ?_ | refine a_condF rfl ?_ | refine d_no rfl rfl rfl (by decide) ?_ | refine d_no' rfl rfl rfl ?_ | (refine wq2 (fun hb => ?_) (fun hb => ?_) <;> (simp only [hb]; try simp only [hbs, ne_eq] at hb; try (exfalso; first | omega | exact hb trivial))) | fail)
   refine ⟨⟨(q + 1, l), by dsimp only; omega, rfl, by dsimp only; omega⟩, by dsimp only; omega, ?_⟩
   exact wkS
  ·have ht := takeW_bad hlt hl hne
   rw [hl] at hA
   dsimp only [PR.av] at hA
   rw [ht]
   simp only [if_neg hne]
   generalize ws[q] = w at *
   repeat' (first | ((first | apply o_do | apply d_do | apply d_yes rfl rfl rfl); first | exact lsc (hA) | exact lsq) | refine a_seq ?_ | refine a_region ?_ | refine o_nil ?_ | refine a_block ?_ | refine a_ret ?_ | refine a_exit ?_ | refine a_skip ?_ | refine a_draw mixed ?_ | refine d_nil (by kernel_rfl) ?_ | refine o_yes rfl rfl rfl ?_ | refine o_no rfl rfl rfl (by decide) ?_ | refine o_no' rfl rfl rfl ?_ | refine a_condT rfl ?_ | refine a_condF rfl ?_ | refine d_no rfl rfl rfl (by decide) ?_ | refine d_no' rfl rfl rfl ?_ | (refine wq2 (fun hb => ?_) (fun hb => ?_) <;> (simp only [hb]; try simp only [hbs, ne_eq] at hb; try (exfalso; first | omega | exact hb trivial))) | fail)
   all_goals refine rq rfl ?_
   all_goals exact fnq
 ·obtain rfl : q = ws.length := by omega
  rw [List.drop_length]
  simp only [takeW, if_true]
  repeat' (first | ((first | apply o_do | apply d_do | apply d_yes rfl rfl rfl); exact lsq) | refine a_seq ?_ | refine a_region ?_ | refine o_nil ?_ | refine a_block ?_ | refine a_ret ?_ | refine a_exit ?_ | refine a_skip ?_ | refine a_draw mixed ?_ | refine d_nil (by kernel_rfl) ?_ | refine o_yes rfl rfl rfl ?_ | refine o_no rfl rfl rfl (by decide) ?_ | refine o_no' rfl rfl rfl ?_ | refine a_condT rfl ?_ | refine a_condF rfl ?_ | refine d_no rfl rfl rfl (by decide) ?_ | refine d_no' rfl rfl rfl ?_ | (refine wq2 (fun hb => ?_) (fun hb => ?_) <;> (simp only [hb]; try simp only [hbs, ne_eq] at hb; try (exfalso; first | omega | exact hb trivial))) | fail)
  all_goals refine rq rfl ?_
  all_goals (first | refine FinA.tup ?_ | refine FinA.one ?_); repeat' (first | exact FinBs.nil | exact FinCs.nil | refine FinBs.cons ?_ ?_ | refine FinCs.cons ?_ ?_ | refine FinB.cell (FinC.v ?_) | refine FinB.cell (FinC.own rfl rfl rfl ?_) | exact FinB.cell FinC.nil | refine FinB.cell (FinC.sl ?_) | exact FinB.agg' rfl rfl | exact FinB.cell (FinC.same rfl) | refine FinB.agg ?_ | refine FinC.v ?_ | refine FinC.own rfl rfl rfl ?_ | exact FinC.nil | refine FinC.sl ?_ | exact FinC.same rfl); all_goals try rfl
  all_goals simp
end
end Go.Proofs.YtilgagmfcdfjaaaGreat
namespace Go.Proofs.YtilgagmfcdfjaaaGreat
open Go.RowKit
theorem takeR_le (s d k no mark : Int) (ps : List Pn) (key : ByteArray) (at' v : Int) (hx : ps.length ≤ 9223372036854775807) : (takeR s d k no mark ps key at' v).ps.length ≤ 9223372036854775807 := by
 have h := takeW_le (k := k) (key := key) (v := v) (ws := openL s d at' mark) hx
 unfold takeR
 repeat' split
 all_goals simp only [List.length_nil]
 all_goals omega
section
variable (g s d k fu li de id no mark : Int) (ps : List Pn) (key : ByteArray) (at' v : Int)
end
def wayC (gv tv : AV) (m : Mk) (a : Al) (told : Int) (j : Jb) (input : Int) (x : It) : List AV :=
 [gv, .sl 2 (m.ins.map inAvM), .sl 2 (m.hs.map hoAv), .v (.int .i64 m.out), .v (.int .i64 a.n), .sl 1 (a.got.map boAv), .sl 1 (a.held.map heAv), .v (.int .i64 told),
  .v (.int .i64 j.g), .v (.int .i64 j.s), .v (.int .i64 j.d), .v (.int .i64 j.k), .v (.int .i64 j.fu), .v (.int .i64 j.li), .v (.int .i64 j.de), .v (.int .i64 j.id), .v (.int .i64 input),
  .v (.int .i64 x.kind), .v (.string x.key), .v (.int .i64 x.at'), .v (.int .i64 x.val), .v (.int .i64 x.mark), .v (.int .i64 x.n), .v (.int .i64 x.lo), .v (.int .i64 x.hi), .v (.string x.rkey), .v (.int .i64 x.rn), .v (.int .i64 x.rval), tv]
abbrev nilA : AV := .v (.slice none 0 0)
section
variable (N : Nat) (G : List (List AV)) (m : Mk) (a : Al) (told : Int) (j : Jb) (input : Int) (x : It)
set_option maxRecDepth 10000 in
theorem y_tell (L : List (List AV)) (y : It) (hL : L.length ≤ 100000000) : AC Tryz.prog 71 [.ref 0 0, .agg y.av] [(0, .box 146 (wayC (.own 1 N) (.own 2 L.length) m a told j input x)), (1, .row 98 3 G), (2, .row 63 11 L)] (.tup []) [(0, .box 146 (wayC (.own 1 N) (.own 2 (L ++ [y.av]).length) m a told j input x)), (1, .row 98 3 G), (2, .row 63 11 (L ++ [y.av]))] := by
 unfold wayC
 refine (ac_body tab_ok Tryz.func71 rfl (by kernel_rfl) rfl ?_); intro w0 M μ0; simp only [Tryz.ntmps71, List.length_cons, List.length_nil, Nat.reduceAdd, Nat.reduceSub, numb]
 repeat' (first | ((first | apply o_do | apply d_do | apply d_yes rfl rfl rfl); first | exact ls_nilCheck rfl rfl | focus (apply ls_append tab_ok rfl rfl ?hn rfl ?hsrc rfl ?hlen rfl rfl; (case hn => rfl); (case hsrc => first | exact SrcIs.sl | exact SrcIs.nil | exact SrcIs.own rfl rfl | fail); (case hlen => (try simp only [List.length_cons, List.length_nil]); omega); first | done | fail) | exact lsq) | refine a_seq ?_ | refine a_region ?_ | refine o_nil ?_ | refine a_block ?_ | refine a_ret ?_ | refine a_exit ?_ | refine a_skip ?_ | refine a_draw mixed ?_ | refine d_nil (by kernel_rfl) ?_ | refine o_yes rfl rfl rfl ?_ | refine o_no rfl rfl rfl (by decide) ?_ | refine o_no' rfl rfl rfl ?_ | refine a_condT rfl ?_ | refine a_condF rfl ?_ | refine d_no rfl rfl rfl (by decide) ?_ | refine d_no' rfl rfl rfl ?_ | (refine wq2 (fun hb => ?_) (fun hb => ?_) <;> (simp only [hb]; try simp only [hbs, ne_eq] at hb; try (exfalso; first | omega | exact hb trivial))) | fail)
 refine rq rfl ?_
 exact fnq
set_option maxRecDepth 10000 in
theorem y_mark (hi : m.ins.length ≤ 9223372036854775807) (hh : m.hs.length ≤ 9223372036854775807) : AC Tryz.prog 104 [.ref 0 0] [(0, .box 146 (wayC (.own 1 N) nilA m a told j input x)), (1, .row 98 3 G)] (.v (.int .i64 (mkSet m input x.mark).e)) [(0, .box 146 (wayC (.own 1 N) nilA (mkSet m input x.mark).m a told j input x)), (1, .row 98 3 G)] := by
 have h := m_Set m input x.mark hi hh
 generalize mkSet m input x.mark = S at *
 obtain ⟨sm, se⟩ := S
 simp only [MkE.av, Mk.av] at h
 unfold wayC
 refine (ac_body tab_ok Tryz.func104 rfl (by kernel_rfl) rfl ?_); intro w0 M μ0; simp only [Tryz.ntmps104, List.length_cons, List.length_nil, Nat.reduceAdd, Nat.reduceSub, numb]
 repeat' (first | ((first | apply o_do | apply d_do | apply d_yes rfl rfl rfl); first | exact ls_nilCheck rfl rfl | exact lsc (h) | exact lsq) | refine a_seq ?_ | refine a_region ?_ | refine o_nil ?_ | refine a_block ?_ | refine a_ret ?_ | refine a_exit ?_ | refine a_skip ?_ | refine a_draw mixed ?_ | refine d_nil (by kernel_rfl) ?_ | refine o_yes rfl rfl rfl ?_ | refine o_no rfl rfl rfl (by decide) ?_ | refine o_no' rfl rfl rfl ?_ | refine a_condT rfl ?_ | refine a_condF rfl ?_ | refine d_no rfl rfl rfl (by decide) ?_ | refine d_no' rfl rfl rfl ?_ | (refine wq2 (fun hb => ?_) (fun hb => ?_) <;> (simp only [hb]; try simp only [hbs, ne_eq] at hb; try (exfalso; first | omega | exact hb trivial))) | fail)
 refine rq rfl ?_
 exact fnq
set_option maxRecDepth 10000 in
theorem y_idle (hi : m.ins.length ≤ 9223372036854775807) (hh : m.hs.length ≤ 9223372036854775807) : AC Tryz.prog 105 [.ref 0 0] [(0, .box 146 (wayC (.own 1 N) nilA m a told j input x)), (1, .row 98 3 G)] (.v (.int .i64 (mkIdle m input).e)) [(0, .box 146 (wayC (.own 1 N) nilA (mkIdle m input).m a told j input x)), (1, .row 98 3 G)] := by
 have h := m_Idle m input hi hh
 generalize mkIdle m input = S at *
 obtain ⟨sm, se⟩ := S
 simp only [MkE.av, Mk.av] at h
 unfold wayC
 refine (ac_body tab_ok Tryz.func105 rfl (by kernel_rfl) rfl ?_); intro w0 M μ0; simp only [Tryz.ntmps105, List.length_cons, List.length_nil, Nat.reduceAdd, Nat.reduceSub, numb]
 repeat' (first | ((first | apply o_do | apply d_do | apply d_yes rfl rfl rfl); first | exact ls_nilCheck rfl rfl | exact lsc (h) | exact lsq) | refine a_seq ?_ | refine a_region ?_ | refine o_nil ?_ | refine a_block ?_ | refine a_ret ?_ | refine a_exit ?_ | refine a_skip ?_ | refine a_draw mixed ?_ | refine d_nil (by kernel_rfl) ?_ | refine o_yes rfl rfl rfl ?_ | refine o_no rfl rfl rfl (by decide) ?_ | refine o_no' rfl rfl rfl ?_ | refine a_condT rfl ?_ | refine a_condF rfl ?_ | refine d_no rfl rfl rfl (by decide) ?_ | refine d_no' rfl rfl rfl ?_ | (refine wq2 (fun hb => ?_) (fun hb => ?_) <;> (simp only [hb]; try simp only [hbs, ne_eq] at hb; try (exfalso; first | omega | exact hb trivial))) | fail)
 refine rq rfl ?_
 exact fnq
end
theorem y_is (no : Int) (g : Gp) : AC Tryz.prog 133 [.agg g.av, .ref 0 0] [(0, .box 3 [.v (.int .i64 no)])] (.v (.bool (decide (g.no = no)))) [(0, .box 3 [.v (.int .i64 no)])] := by
 obtain ⟨n, mk, ps⟩ := g
 refine (ac_body tab_ok Tryz.func133 rfl (by kernel_rfl) rfl ?_); intro w0 M μ0; simp only [Tryz.ntmps133, List.length_cons, List.length_nil, Nat.reduceAdd, Nat.reduceSub, numb]
 repeat' (first | ((first | apply o_do | apply d_do | apply d_yes rfl rfl rfl); exact lsq) | refine a_seq ?_ | refine a_region ?_ | refine o_nil ?_ | refine a_block ?_ | refine a_ret ?_ | refine a_exit ?_ | refine a_skip ?_ | refine a_draw mixed ?_ | refine d_nil (by kernel_rfl) ?_ | refine o_yes rfl rfl rfl ?_ | refine o_no rfl rfl rfl (by decide) ?_ | refine o_no' rfl rfl rfl ?_ | refine a_condT rfl ?_ | refine a_condF rfl ?_ | refine d_no rfl rfl rfl (by decide) ?_ | refine d_no' rfl rfl rfl ?_ | (refine wq2 (fun hb => ?_) (fun hb => ?_) <;> (simp only [hb]; try simp only [hbs, ne_eq] at hb; try (exfalso; first | omega | exact hb trivial))) | fail)
 refine rq rfl ?_
 exact fnq
theorem y_find (no : Int) (gs : List Gp) (hx : gs.length ≤ 1000) : ∃ (q : Nat) (b : Bool), (b = true → ∃ h : q < gs.length, gs[q].no = no) ∧ (b = false → ∀ g ∈ gs, ¬ g.no = no) ∧
  AC Tryz.prog 132 [.own 1 (gs.map Gp.av).length, .clo (.func 133) [] [.ref 0 0]] [(0, .box 3 [.v (.int .i64 no)]), (1, .row 98 3 (gs.map Gp.av))] (.tup [.v (.int .i64 q), .v (.bool b)]) [(0, .box 3 [.v (.int .i64 no)]), (1, .row 98 3 (gs.map Gp.av))] := by
 have n1 : (gs.map Gp.av).length = gs.length := List.length_map _
 rcases fst_all (fun g : Gp => !decide (g.no = no)) gs with hall | ⟨q0, hq0, h1, h2⟩
 ·refine ⟨0, false, (fun h => nomatch h), fun _ g hg => by simpa using List.all_eq_true.1 hall g hg, ?_⟩
  refine (ac_body tab_ok Tryz.func132 rfl (by kernel_rfl) rfl ?_); intro w0 M μ0; simp only [Tryz.ntmps132, List.length_cons, List.length_nil, Nat.reduceAdd, Nat.reduceSub, numb]
  repeat' (first | ((first | apply o_do | apply d_do | apply d_yes rfl rfl rfl); exact lsq) | refine a_seq ?_ | refine a_region ?_ | refine o_nil ?_ | refine a_block ?_ | refine a_ret ?_ | refine a_exit ?_ | refine a_skip ?_ | refine a_draw mixed ?_ | refine d_nil (by kernel_rfl) ?_ | refine o_yes rfl rfl rfl ?_ | refine o_no rfl rfl rfl (by decide) ?_ | refine o_no' rfl rfl rfl ?_ | refine a_condT rfl ?_ | refine a_condF rfl ?_ | refine d_no rfl rfl rfl (by decide) ?_ | refine d_no' rfl rfl rfl ?_ | (refine wq2 (fun hb => ?_) (fun hb => ?_) <;> (simp only [hb]; try simp only [hbs, ne_eq] at hb; try (exfalso; first | omega | exact hb trivial))) | fail)
  refine a_loop (X := {q : Nat // q ≤ gs.length}) (fun y => ⟨[(1, .clo (.func 133) [] [.ref 0 0]), (8, .own 1 (gs.map Gp.av).length), (9, .v (.int .i64 gs.length)), (10, .v (.int .i64 y.1))], [(0, .box 3 [.v (.int .i64 no)]), (1, .row 98 3 (gs.map Gp.av))]⟩) (fun y => gs.length - y.1) ⟨0, Nat.zero_le _⟩ ?_ ?_
  ·refine ⟨by repeat' (first | exact trivial | exact FinA.one (FinB.cell (FinC.same rfl)) | exact FinA.one (FinB.cell FinC.nil) | exact FinA.bound rfl | exact FinA.one (FinB.cell (FinC.own rfl rfl rfl rfl)) | exact FinA.one (FinB.cell (FinC.v (by first | rfl | (simp)))) | exact FinA.one (FinB.cell (FinC.ow rfl (by first | rfl | (simp)))) | exact FinA.one (FinB.agg' rfl rfl) | exact FinA.one (FinB.cell (FinC.el rfl rfl rfl rfl)) | refine FinA.clo ?_ ?_ | exact FinBs.nil | exact FinB.cell (FinC.same rfl) | exact FinB.cell (FinC.el rfl rfl rfl rfl) | refine FinBs.cons ?_ ?_ | refine ⟨⟨_, rfl, ?_⟩, ?_⟩), by repeat' (first | exact trivial | refine ⟨⟨_, rfl, by first | rfl | (simp; done) | (simp [renO, *]; done)⟩, by first | rfl | assumption, ?_⟩), rfl⟩
  rintro ⟨q, hq⟩
  dsimp only
  by_cases hlt : q < gs.length
  ·have hel : (gs.map Gp.av)[q]? = some (Gp.av gs[q]) := by simp [hlt]
   have hqx : q < (gs.map Gp.av).length := by omega
   have hbd := y_is no gs[q]
   have hne := List.all_eq_true.1 hall _ (List.getElem_mem hlt)
   rw [show decide (gs[q].no = no) = false by simpa using hne] at hbd
   generalize gs[q] = y at *
   repeat' (first | ((first | apply o_do | apply d_do | apply d_yes rfl rfl rfl); first | exact ls_indexAddr_own tab_ok rfl rfl rfl rfl rfl rfl hqx rfl | exact ls_load_eref tab_ok rfl rfl rfl hel rfl rfl rfl rfl | exact lca [0] 2 hbd | exact lsq) | refine a_seq ?_ | refine a_region ?_ | refine o_nil ?_ | refine a_block ?_ | refine a_ret ?_ | refine a_exit ?_ | refine a_skip ?_ | refine a_draw mixed ?_ | refine d_nil (by kernel_rfl) ?_ | refine o_yes rfl rfl rfl ?_ | refine o_no rfl rfl rfl (by decide) ?_ | refine o_no' rfl rfl rfl ?_ | refine a_condT rfl ?_ | refine a_condF rfl ?_ | refine d_no rfl rfl rfl (by decide) ?_ | refine d_no' rfl rfl rfl ?_ | (refine wq2 (fun hb => ?_) (fun hb => ?_) <;> (simp only [hb]; try simp only [hbs, ne_eq] at hb; try (exfalso; first | omega | exact hb trivial))) | fail)
   refine ⟨⟨q + 1, by omega⟩, by dsimp only; omega, ?_⟩
   refine ⟨by repeat' (first | exact trivial | exact FinA.one (FinB.cell (FinC.same rfl)) | exact FinA.one (FinB.cell FinC.nil) | exact FinA.bound rfl | exact FinA.one (FinB.cell (FinC.own rfl rfl rfl rfl)) | exact FinA.one (FinB.cell (FinC.v (by first | rfl | (simp)))) | exact FinA.one (FinB.cell (FinC.ow rfl (by first | rfl | (simp)))) | exact FinA.one (FinB.agg' rfl rfl) | exact FinA.one (FinB.cell (FinC.el rfl rfl rfl rfl)) | refine FinA.clo ?_ ?_ | exact FinBs.nil | exact FinB.cell (FinC.same rfl) | exact FinB.cell (FinC.el rfl rfl rfl rfl) | refine FinBs.cons ?_ ?_ | refine ⟨⟨_, rfl, ?_⟩, ?_⟩), by repeat' (first | exact trivial | refine ⟨⟨_, rfl, by first | rfl | (simp; done) | (simp [renO, *]; done)⟩, by first | rfl | assumption, ?_⟩), rfl⟩
  ·repeat' (first | ((first | apply o_do | apply d_do | apply d_yes rfl rfl rfl); exact lsq) | refine a_seq ?_ | refine a_region ?_ | refine o_nil ?_ | refine a_block ?_ | refine a_ret ?_ | refine a_exit ?_ | refine a_skip ?_ | refine a_draw mixed ?_ | refine d_nil (by kernel_rfl) ?_ | refine o_yes rfl rfl rfl ?_ | refine o_no rfl rfl rfl (by decide) ?_ | refine o_no' rfl rfl rfl ?_ | refine a_condT rfl ?_ | refine a_condF rfl ?_ | refine d_no rfl rfl rfl (by decide) ?_ | refine d_no' rfl rfl rfl ?_ | (refine wq2 (fun hb => ?_) (fun hb => ?_) <;> (simp only [hb]; try simp only [hbs, ne_eq] at hb; try (exfalso; first | omega | exact hb trivial))) | fail)
   refine rq rfl ?_
   exact fnq
 ·refine ⟨q0, true, fun _ => ⟨hq0, by simpa using h2⟩, (fun h => nomatch h), ?_⟩
  refine (ac_body tab_ok Tryz.func132 rfl (by kernel_rfl) rfl ?_); intro w0 M μ0; simp only [Tryz.ntmps132, List.length_cons, List.length_nil, Nat.reduceAdd, Nat.reduceSub, numb]
  repeat' (first | ((first | apply o_do | apply d_do | apply d_yes rfl rfl rfl); exact lsq) | refine a_seq ?_ | refine a_region ?_ | refine o_nil ?_ | refine a_block ?_ | refine a_ret ?_ | refine a_exit ?_ | refine a_skip ?_ | refine a_draw mixed ?_ | refine d_nil (by kernel_rfl) ?_ | refine o_yes rfl rfl rfl ?_ | refine o_no rfl rfl rfl (by decide) ?_ | refine o_no' rfl rfl rfl ?_ | refine a_condT rfl ?_ | refine a_condF rfl ?_ | refine d_no rfl rfl rfl (by decide) ?_ | refine d_no' rfl rfl rfl ?_ | (refine wq2 (fun hb => ?_) (fun hb => ?_) <;> (simp only [hb]; try simp only [hbs, ne_eq] at hb; try (exfalso; first | omega | exact hb trivial))) | fail)
  refine a_loop (X := {q : Nat // q ≤ q0}) (fun y => ⟨[(1, .clo (.func 133) [] [.ref 0 0]), (8, .own 1 (gs.map Gp.av).length), (9, .v (.int .i64 gs.length)), (10, .v (.int .i64 y.1))], [(0, .box 3 [.v (.int .i64 no)]), (1, .row 98 3 (gs.map Gp.av))]⟩) (fun y => gs.length - y.1) ⟨0, Nat.zero_le _⟩ ?_ ?_
  ·refine ⟨by repeat' (first | exact trivial | exact FinA.one (FinB.cell (FinC.same rfl)) | exact FinA.one (FinB.cell FinC.nil) | exact FinA.bound rfl | exact FinA.one (FinB.cell (FinC.own rfl rfl rfl rfl)) | exact FinA.one (FinB.cell (FinC.v (by first | rfl | (simp)))) | exact FinA.one (FinB.cell (FinC.ow rfl (by first | rfl | (simp)))) | exact FinA.one (FinB.agg' rfl rfl) | exact FinA.one (FinB.cell (FinC.el rfl rfl rfl rfl)) | refine FinA.clo ?_ ?_ | exact FinBs.nil | exact FinB.cell (FinC.same rfl) | exact FinB.cell (FinC.el rfl rfl rfl rfl) | refine FinBs.cons ?_ ?_ | refine ⟨⟨_, rfl, ?_⟩, ?_⟩), by repeat' (first | exact trivial | refine ⟨⟨_, rfl, by first | rfl | (simp; done) | (simp [renO, *]; done)⟩, by first | rfl | assumption, ?_⟩), rfl⟩
  rintro ⟨q, hq⟩
  dsimp only
  have hlt : q < gs.length := by omega
  have hel : (gs.map Gp.av)[q]? = some (Gp.av gs[q]) := by simp [hlt]
  have hqx : q < (gs.map Gp.av).length := by omega
  have hbd := y_is no gs[q]
  rcases Nat.lt_or_eq_of_le hq with h | h
  ·have hm : gs[q] ∈ gs.take q0 := by
    rw [List.mem_take_iff_getElem]
    exact ⟨q, by omega, rfl⟩
   have hne := List.all_eq_true.1 h1 _ hm
   rw [show decide (gs[q].no = no) = false by simpa using hne] at hbd
   generalize gs[q] = y at *
   repeat' (first | ((first | apply o_do | apply d_do | apply d_yes rfl rfl rfl); first | exact ls_indexAddr_own tab_ok rfl rfl rfl rfl rfl rfl hqx rfl | exact ls_load_eref tab_ok rfl rfl rfl hel rfl rfl rfl rfl | exact lca [0] 2 hbd | exact lsq) | refine a_seq ?_ | refine a_region ?_ | refine o_nil ?_ | refine a_block ?_ | refine a_ret ?_ | refine a_exit ?_ | refine a_skip ?_ | refine a_draw mixed ?_ | refine d_nil (by kernel_rfl) ?_ | refine o_yes rfl rfl rfl ?_ | refine o_no rfl rfl rfl (by decide) ?_ | refine o_no' rfl rfl rfl ?_ | refine a_condT rfl ?_ | refine a_condF rfl ?_ | refine d_no rfl rfl rfl (by decide) ?_ | refine d_no' rfl rfl rfl ?_ | (refine wq2 (fun hb => ?_) (fun hb => ?_) <;> (simp only [hb]; try simp only [hbs, ne_eq] at hb; try (exfalso; first | omega | exact hb trivial))) | fail)
   refine ⟨⟨q + 1, by omega⟩, by dsimp only; omega, ?_⟩
   refine ⟨by repeat' (first | exact trivial | exact FinA.one (FinB.cell (FinC.same rfl)) | exact FinA.one (FinB.cell FinC.nil) | exact FinA.bound rfl | exact FinA.one (FinB.cell (FinC.own rfl rfl rfl rfl)) | exact FinA.one (FinB.cell (FinC.v (by first | rfl | (simp)))) | exact FinA.one (FinB.cell (FinC.ow rfl (by first | rfl | (simp)))) | exact FinA.one (FinB.agg' rfl rfl) | exact FinA.one (FinB.cell (FinC.el rfl rfl rfl rfl)) | refine FinA.clo ?_ ?_ | exact FinBs.nil | exact FinB.cell (FinC.same rfl) | exact FinB.cell (FinC.el rfl rfl rfl rfl) | refine FinBs.cons ?_ ?_ | refine ⟨⟨_, rfl, ?_⟩, ?_⟩), by repeat' (first | exact trivial | refine ⟨⟨_, rfl, by first | rfl | (simp; done) | (simp [renO, *]; done)⟩, by first | rfl | assumption, ?_⟩), rfl⟩
  ·subst h
   rw [show decide (gs[q].no = no) = true by simpa using h2] at hbd
   generalize gs[q] = y at *
   repeat' (first | ((first | apply o_do | apply d_do | apply d_yes rfl rfl rfl); first | exact ls_indexAddr_own tab_ok rfl rfl rfl rfl rfl rfl hqx rfl | exact ls_load_eref tab_ok rfl rfl rfl hel rfl rfl rfl rfl | exact lca [0] 2 hbd | exact lsq) | refine a_seq ?_ | refine a_region ?_ | refine o_nil ?_ | refine a_block ?_ | refine a_ret ?_ | refine a_exit ?_ | refine a_skip ?_ | refine a_draw mixed ?_ | refine d_nil (by kernel_rfl) ?_ | refine o_yes rfl rfl rfl ?_ | refine o_no rfl rfl rfl (by decide) ?_ | refine o_no' rfl rfl rfl ?_ | refine a_condT rfl ?_ | refine a_condF rfl ?_ | refine d_no rfl rfl rfl (by decide) ?_ | refine d_no' rfl rfl rfl ?_ | (refine wq2 (fun hb => ?_) (fun hb => ?_) <;> (simp only [hb]; try simp only [hbs, ne_eq] at hb; try (exfalso; first | omega | exact hb trivial))) | fail)
   refine rq rfl ?_
   exact fnq
theorem y_fail (e : Int) : PC Tryz.prog 68 [.v (.int .i64 e)] (wkFail e).av := by
 simp only [wkFail, TkW.av, wkZ, Wk.av, List.map_nil]
 refine PC.mk (ac_body tab_ok Tryz.func68 rfl (by kernel_rfl) rfl ?_); intro w0 M μ0; simp only [Tryz.ntmps68, List.length_cons, List.length_nil, Nat.reduceAdd, Nat.reduceSub, numb]
 repeat' (first | ((first | apply o_do | apply d_do | apply d_yes rfl rfl rfl); exact lsq) | refine a_seq ?_ | refine a_region ?_ | refine o_nil ?_ | refine a_block ?_ | refine a_ret ?_ | refine a_exit ?_ | refine a_skip ?_ | refine a_draw mixed ?_ | refine d_nil (by kernel_rfl) ?_ | refine o_yes rfl rfl rfl ?_ | refine o_no rfl rfl rfl (by decide) ?_ | refine o_no' rfl rfl rfl ?_ | refine a_condT rfl ?_ | refine a_condF rfl ?_ | refine d_no rfl rfl rfl (by decide) ?_ | refine d_no' rfl rfl rfl ?_ | (refine wq2 (fun hb => ?_) (fun hb => ?_) <;> (simp only [hb]; try simp only [hbs, ne_eq] at hb; try (exfalso; first | omega | exact hb trivial))) | fail)
 refine rq rfl ?_
 exact fnq
section
variable (m : Mk) (a : Al) (told : Int) (j : Jb) (input : Int) (x : It)
theorem pureG (g : Gp) : ∀ (σ : Store) (μ : Nat → Value) (w : World) (A : Nat → Prop) (z : Value), rep σ μ w A (.agg g.av) z → rep [] μ w A (.agg g.av) z := by
 intro σ μ w A z h
 simpa only [Gp.av, rep, repC] using h
set_option maxRecDepth 10000 in
theorem y_event (no : Int) (gs : List Gp) (hx : gs.length ≤ 1000) (hp : ∀ g ∈ gs, g.ps.length ≤ 9223372036854775807) (hi : m.ins.length ≤ 9223372036854775807) (hh : m.hs.length ≤ 9223372036854775807)
  (hgrp : PC Tryz.prog 131 [.v (.string x.key), .v (.int .i64 j.g)] (.v (.int .i64 no))) :
  ((∀ g ∈ gs, ¬ g.no = no) ∧ AC Tryz.prog 103 [.ref 0 0] [(0, .box 146 (wayC (.own 1 (gs.map Gp.av).length) nilA m a told j input x)), (1, .row 98 3 (gs.map Gp.av))] (.v (.int .i64 160)) [(0, .box 146 (wayC (.own 1 (gs.map Gp.av).length) nilA m a told j input x)), (1, .row 98 3 (gs.map Gp.av))]) ∨
  ∃ (q : Nat) (hq : q < gs.length), gs[q].no = no ∧ (((gpTake j x gs[q]).e ≠ 0 ∧ AC Tryz.prog 103 [.ref 0 0] [(0, .box 146 (wayC (.own 1 (gs.map Gp.av).length) nilA m a told j input x)), (1, .row 98 3 (gs.map Gp.av))] (.v (.int .i64 (gpTake j x gs[q]).e)) [(0, .box 146 (wayC (.own 1 (gs.map Gp.av).length) nilA m a told j input x)), (1, .row 98 3 (gs.map Gp.av))]) ∨
   ((gpTake j x gs[q]).e = 0 ∧ AC Tryz.prog 103 [.ref 0 0] [(0, .box 146 (wayC (.own 1 (gs.map Gp.av).length) nilA m a told j input x)), (1, .row 98 3 (gs.map Gp.av))] (.v (.int .i64 (mkSet m input 0).e)) [(0, .box 146 (wayC (.own 1 (gs.map Gp.av).length) nilA (mkSet m input 0).m a told j input x)), (1, .row 98 3 ((gs.map Gp.av).set q (Gp.av (gpTake j x gs[q]).gp)))])) := by
 obtain ⟨q, b, hb1, hb2, hf⟩ := y_find no gs hx
 cases b
 ·refine .inl ⟨hb2 rfl, ?_⟩
  unfold wayC
  refine (ac_body tab_ok Tryz.func103 rfl (by kernel_rfl) rfl ?_); intro w0 M μ0; simp only [Tryz.ntmps103, List.length_cons, List.length_nil, Nat.reduceAdd, Nat.reduceSub, numb]
  repeat' (first | ((first | apply o_do | apply d_do | apply d_yes rfl rfl rfl); first | exact ls_nilCheck rfl rfl | exact lsc (hgrp) | exact lca [2, 1] 3 hf | exact lsq) | refine a_seq ?_ | refine a_region ?_ | refine o_nil ?_ | refine a_block ?_ | refine a_ret ?_ | refine a_exit ?_ | refine a_skip ?_ | refine a_draw mixed ?_ | refine d_nil (by kernel_rfl) ?_ | refine o_yes rfl rfl rfl ?_ | refine o_no rfl rfl rfl (by decide) ?_ | refine o_no' rfl rfl rfl ?_ | refine a_condT rfl ?_ | refine a_condF rfl ?_ | refine d_no rfl rfl rfl (by decide) ?_ | refine d_no' rfl rfl rfl ?_ | (refine wq2 (fun hb => ?_) (fun hb => ?_) <;> (simp only [hb]; try simp only [hbs, ne_eq] at hb; try (exfalso; first | omega | exact hb trivial))) | fail)
  refine rq rfl ?_
  exact fnq
 ·obtain ⟨hq, hno⟩ := hb1 rfl
  refine .inr ⟨q, hq, hno, ?_⟩
  have hel : (gs.map Gp.av)[q]? = some (Gp.av gs[q]) := by simp [hq]
  have hqx : q < (gs.map Gp.av).length := by rw [List.length_map]; exact hq
  have ht := g_Take j.g j.s j.d j.k j.fu j.li j.de j.id gs[q].no gs[q].mark gs[q].ps x.key x.at' x.val (hp _ (List.getElem_mem hq))
  have hs := m_Set m input 0 hi hh
  generalize gs[q] = y at *
  obtain ⟨yn, ym, yp⟩ := y
  unfold gpTake
  dsimp only at ht ⊢
  generalize takeR j.s j.d j.k yn ym yp x.key x.at' x.val = T at *
  obtain ⟨tn, tm, tp, tc, te⟩ := T
  generalize mkSet m input 0 = S at *
  obtain ⟨sm, se⟩ := S
  simp only [TkR.av] at ht
  simp only [MkE.av, Mk.av] at hs
  dsimp only [TkR.gp]
  by_cases he : te = 0
  ·refine .inr ⟨he, ?_⟩
   unfold wayC
   refine (ac_body tab_ok Tryz.func103 rfl (by kernel_rfl) rfl ?_); intro w0 M μ0; simp only [Tryz.ntmps103, List.length_cons, List.length_nil, Nat.reduceAdd, Nat.reduceSub, numb]
   repeat' (first | ((first | apply o_do | apply d_do | apply d_yes rfl rfl rfl); first | exact ls_nilCheck rfl rfl | exact lsc (hgrp) | exact lca [2, 1] 3 hf | exact ls_indexAddr_own tab_ok rfl rfl rfl rfl rfl rfl hqx rfl | exact ls_load_eref tab_ok rfl rfl rfl hel rfl rfl rfl rfl | exact ls_store_eref (cs' := Gp.av ⟨tn, tm, tp⟩) tab_ok rfl rfl rfl rfl hel rfl rfl (pureG ⟨tn, tm, tp⟩) rfl rfl rfl rfl | exact lsc (ht) | exact lsc (hs) | exact lsq) | refine a_seq ?_ | refine a_region ?_ | refine o_nil ?_ | refine a_block ?_ | refine a_ret ?_ | refine a_exit ?_ | refine a_skip ?_ | refine a_draw mixed ?_ | refine d_nil (by kernel_rfl) ?_ | refine o_yes rfl rfl rfl ?_ | refine o_no rfl rfl rfl (by decide) ?_ | refine o_no' rfl rfl rfl ?_ | refine a_condT rfl ?_ | refine a_condF rfl ?_ | refine d_no rfl rfl rfl (by decide) ?_ | refine d_no' rfl rfl rfl ?_ | (refine wq2 (fun hb => ?_) (fun hb => ?_) <;> (simp only [hb]; try simp only [hbs, ne_eq] at hb; try (exfalso; first | omega | exact hb trivial))) | fail)
   refine rq rfl ?_
   exact fnq
  ·refine .inl ⟨he, ?_⟩
   unfold wayC
   refine (ac_body tab_ok Tryz.func103 rfl (by kernel_rfl) rfl ?_); intro w0 M μ0; simp only [Tryz.ntmps103, List.length_cons, List.length_nil, Nat.reduceAdd, Nat.reduceSub, numb]
   repeat' (first | ((first | apply o_do | apply d_do | apply d_yes rfl rfl rfl); first | exact ls_nilCheck rfl rfl | exact lsc (hgrp) | exact lca [2, 1] 3 hf | exact ls_indexAddr_own tab_ok rfl rfl rfl rfl rfl rfl hqx rfl | exact ls_load_eref tab_ok rfl rfl rfl hel rfl rfl rfl rfl | exact lsc (ht) | exact lsc (hs) | exact lsq) | refine a_seq ?_ | refine a_region ?_ | refine o_nil ?_ | refine a_block ?_ | refine a_ret ?_ | refine a_exit ?_ | refine a_skip ?_ | refine a_draw mixed ?_ | refine d_nil (by kernel_rfl) ?_ | refine o_yes rfl rfl rfl ?_ | refine o_no rfl rfl rfl (by decide) ?_ | refine o_no' rfl rfl rfl ?_ | refine a_condT rfl ?_ | refine a_condF rfl ?_ | refine d_no rfl rfl rfl (by decide) ?_ | refine d_no' rfl rfl rfl ?_ | (refine wq2 (fun hb => ?_) (fun hb => ?_) <;> (simp only [hb]; try simp only [hbs, ne_eq] at hb; try (exfalso; first | omega | exact hb trivial))) | fail)
   refine rq rfl ?_
   exact fnq
set_option maxRecDepth 10000 in
theorem y_goNo (N : Nat) (G : List (List AV)) (hi : m.ins.length ≤ 9223372036854775807) (hh : m.hs.length ≤ 9223372036854775807) (hno : (mkTell m).is = false) :
  AC Tryz.prog 73 [.ref 0 0] [(0, .box 146 (wayC (.own 1 N) nilA m a told j input x)), (1, .row 98 3 G)] (.v (.int .i64 0)) [(0, .box 146 (wayC (.own 1 N) nilA (mkTell m).m a told j input x)), (1, .row 98 3 G)] := by
 have h := m_Tell m hi hh
 generalize mkTell m = T at *
 obtain ⟨tm, tt, ti⟩ := T
 dsimp only at hno
 subst hno
 simp only [MkT.av, Mk.av] at h
 unfold wayC
 refine (ac_body tab_ok Tryz.func73 rfl (by kernel_rfl) rfl ?_); intro w0 M μ0; simp only [Tryz.ntmps73, List.length_cons, List.length_nil, Nat.reduceAdd, Nat.reduceSub, numb]
 repeat' (first | ((first | apply o_do | apply d_do | apply d_yes rfl rfl rfl); first | exact ls_nilCheck rfl rfl | exact lsc (h) | exact lsq) | refine a_seq ?_ | refine a_region ?_ | refine o_nil ?_ | refine a_block ?_ | refine a_ret ?_ | refine a_exit ?_ | refine a_skip ?_ | refine a_draw mixed ?_ | refine d_nil (by kernel_rfl) ?_ | refine o_yes rfl rfl rfl ?_ | refine o_no rfl rfl rfl (by decide) ?_ | refine o_no' rfl rfl rfl ?_ | refine a_condT rfl ?_ | refine a_condF rfl ?_ | refine d_no rfl rfl rfl (by decide) ?_ | refine d_no' rfl rfl rfl ?_ | (refine wq2 (fun hb => ?_) (fun hb => ?_) <;> (simp only [hb]; try simp only [hbs, ne_eq] at hb; try (exfalso; first | omega | exact hb trivial))) | fail)
 refine rq rfl ?_
 exact fnq
end
def advQ (j : Jb) (t : Int) (gs : List Gp) (q : Nat) : List Gp := advM j t (gs.take q) ++ gs.drop q
theorem advQ_len (j : Jb) (t : Int) (gs : List Gp) (q : Nat) : (advQ j t gs q).length = gs.length := by
 unfold advQ advM
 rw [List.length_append, List.length_map, List.length_take, List.length_drop]
 omega
theorem advQ_at (j : Jb) (t : Int) (gs : List Gp) (q : Nat) (h : q < gs.length) : (advQ j t gs q)[q]? = some gs[q] := by
 unfold advQ advM
 rw [List.getElem?_append_right (by rw [List.length_map, List.length_take]; omega), List.length_map, List.length_take, List.getElem?_drop]
 rw [show min q gs.length = q by omega, show q + (q - q) = q by omega]
 exact List.getElem?_eq_getElem h
theorem advQ_set (j : Jb) (t : Int) (gs : List Gp) (q : Nat) (h : q < gs.length) : (advQ j t gs q).set q (gpAdv j t gs[q]).gp = advQ j t gs (q + 1) := by
 have e : gs.drop q = gs[q] :: gs.drop (q + 1) := List.drop_eq_getElem_cons h
 unfold advQ
 rw [e, take_snoc gs q h, advM_snoc, List.set_append_right _ _ (by unfold advM; rw [List.length_map, List.length_take]; omega)]
 have : q - (advM j t (gs.take q)).length = 0 := by unfold advM; rw [List.length_map, List.length_take]; omega
 rw [this]
 simp only [List.set_cons_zero, List.append_assoc, List.singleton_append]
theorem grow_le {j : Jb} {x : It} {g : Gp} (h : g.ps.length ≤ 9223372036854775807) : (gpTake j x g).gp.ps.length ≤ 9223372036854775807 := takeR_le j.s j.d j.k g.no g.mark g.ps x.key x.at' x.val h
theorem adv_rs (s d k no mark : Int) (ps : List Pn) (m : Int) : (adv s d k no mark ps m).rs.length ≤ 2000 := by
 unfold adv
 split
 ·simp
 split
 ·simp
 split
 ·simp
 ·dsimp only
  unfold resultsL
  split
  ·rename_i h
   simp only [Bool.and_eq_true] at h
   rw [List.length_map]
   exact (rightL_ok h.1).1
  ·simp
theorem advT_le (j : Jb) (t : Int) (l : List Gp) : (advT j t l).length ≤ 2000 * l.length := by
 induction l with
 | nil => simp [advT]
 | cons g l ih =>
  have : advT j t (g :: l) = (gpAdv j t g).rs.map resItem ++ advT j t l := by simp [advT]
  rw [this, List.length_append, List.length_map, List.length_cons]
  have := adv_rs j.s j.d j.k g.no g.mark g.ps t
  unfold gpAdv
  omega
end Go.Proofs.YtilgagmfcdfjaaaGreat
