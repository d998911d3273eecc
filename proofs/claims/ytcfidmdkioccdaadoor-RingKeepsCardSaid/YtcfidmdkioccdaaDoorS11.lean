/-
  ring: which workers may be, walked over abstract values, the document's too.
  ring.Assign, walked over abstract values.
  The document's Assign, and what both refuse, walked over abstract values.
  ring: two lists of owners that are alike; that it is alive; the law RingAssigns walked.
  ring: each group's owner is one of the workers (law RingOwns), walked over abstract values.
  The world in which the listed tables stand, for a witness.
  Small contracts that many layers use: which windows, folds, keys and events may be. No condition.
  Panes, in plain Lean: which may be, which stands ahead, which rows may be. No condition.
  Panes, walked over abstract values: what compares, which may be, which rows may be.
  Panes, walked over abstract values: what is due by the reference; results.
  The last step of a law's row, over whatever program: the call returned true and nothing that was there has turned. No condition.
  How the arguments of the laws of panes, groups and the model read.
    How events read.
  How a row of numbers reads.
-/
import Derived.LaidLaws
import Derived.LaidHandle
import Derived.LaidSub
import Derived.Lib.LaidTab
import Derived.RowKit
import Derived.Laws.Cover1
import Derived.ProofKit
import Derived.OpenShut
import Derived.JoinedCond
import Derived.Carry
import Derived.Deep.Slices
import GoSem.Claim
import GoSem.ClaimJoined
import Derived.Test.YtcfidmdkioccdaaDoorTie
import Derived.Test.YtcfidmdkioccdaaDoorRows
import Derived.Test.YtcfidmdkioccdaaDoorS1
import Derived.Test.YtcfidmdkioccdaaDoorS4
import Derived.Test.YtcfidmdkioccdaaDoorS10
set_option linter.unusedSimpArgs false
set_option linter.unusedVariables false
set_option maxHeartbeats 20000000
namespace Go.Proofs.YtcfidmdkioccdaaDoor
open Go.RowKit
def iI (x : Int) : List AV := [.v (.int .i64 x)]
theorem iI_at {xs : List Int} {i : Nat} (h : i < xs.length) : (xs.map iI)[i]? = some (iI (xs.getD i 0)) := by
 rw [List.getElem?_map, List.getElem?_eq_getElem h, List.getD_eq_getElem?_getD, List.getElem?_eq_getElem h]; rfl
theorem p_Right (xs : List Int) (hl : xs.length ≤ 9223372036854775807) : PC Tryd.prog 9 [.sl 1 (xs.map iI)] (.v (.bool (rightW xs))) := by
 have hll : ((xs.map iI).length : Int) = (xs.length : Int) := by simp
 obtain ⟨R, hR⟩ : ∃ R, R = rightW xs := ⟨_, rfl⟩
 rw [← hR]
 by_cases h0 : xs.length < 1 ∨ 8 < xs.length
 ·have hf : R = false := by
   rw [hR]; unfold rightW
   rcases h0 with h | h
   ·rw [decide_eq_false (show ¬ 1 ≤ xs.length by omega)]; rfl
   ·rw [decide_eq_false (show ¬ xs.length ≤ 8 by omega), Bool.and_false]; rfl
  rw [hf]
  clear hf hR
  rcases h0 with h | h
  all_goals
   refine PC.mk (ac_body tab_ok Tryd.func9 rfl (by kernel_rfl) rfl ?_); intro w0 M μ0; simp only [Tryd.ntmps9, List.length_cons, List.length_nil, Nat.reduceAdd, Nat.reduceSub, numb]
   repeat' (first | ((first | apply o_do | apply d_do | apply d_yes rfl rfl rfl); exact lsq) | refine a_seq ?_ | refine a_region ?_ | refine o_nil ?_ | refine a_block ?_ | refine a_ret ?_ | refine a_exit ?_ | refine a_skip ?_ | refine a_draw mixed ?_ | refine d_nil (by kernel_rfl) ?_ | refine o_yes rfl rfl rfl ?_ | refine o_no rfl rfl rfl (by decide) ?_ | refine o_no' rfl rfl rfl ?_ | refine a_condT rfl ?_ | refine a_condF rfl ?_ | refine d_no rfl rfl rfl (by decide) ?_ | refine d_no' rfl rfl rfl ?_ | (refine wq2 (fun hb => ?_) (fun hb => ?_) <;> (simp only [hb]; try simp only [hbs, ne_eq] at hb; try (exfalso; first | omega | exact hb trivial))) | fail)
   all_goals refine rq rfl ?_
   all_goals exact fnq
 have hR2 : okTo xs xs.length = true → R = true := fun h => by
  rw [hR]; unfold rightW
  rw [h, decide_eq_true (show 1 ≤ xs.length by omega), decide_eq_true (show xs.length ≤ 8 by omega)]; rfl
 refine PC.mk (ac_body tab_ok Tryd.func9 rfl (by kernel_rfl) rfl ?_); intro w0 M μ0; simp only [Tryd.ntmps9, List.length_cons, List.length_nil, Nat.reduceAdd, Nat.reduceSub, numb]
 repeat' (first | ((first | apply o_do | apply d_do | apply d_yes rfl rfl rfl); exact lsq) | refine a_seq ?_ | refine a_region ?_ | refine o_nil ?_ | refine a_block ?_ | refine a_ret ?_ | refine a_exit ?_ | refine a_skip ?_ | refine a_draw mixed ?_ | refine d_nil (by kernel_rfl) ?_ | refine o_yes rfl rfl rfl ?_ | refine o_no rfl rfl rfl (by decide) ?_ | refine o_no' rfl rfl rfl ?_ | refine a_condT rfl ?_ | refine a_condF rfl ?_ | refine d_no rfl rfl rfl (by decide) ?_ | refine d_no' rfl rfl rfl ?_ | (refine wq2 (fun hb => ?_) (fun hb => ?_) <;> (simp only [hb]; try simp only [hbs, ne_eq] at hb; try (exfalso; first | omega | exact hb trivial))) | fail)
 refine a_loop (X := {q : Nat // q ≤ xs.length ∧ okTo xs q = true})
  (fun q => ⟨[(0, .sl 1 (xs.map iI)), (13, .sl 1 (xs.map iI)), (14, .v (.int .i64 xs.length)), (15, .v (.int .i64 q.1))], []⟩) (fun q => xs.length - q.1) ⟨0, Nat.zero_le _, rfl⟩ ?_ ?_
 ·refine ⟨by repeat' (first | exact trivial | exact FinA.one (FinB.cell (FinC.same rfl)) | exact FinA.one (FinB.cell FinC.nil) | exact FinA.bound rfl | exact FinA.one (FinB.cell (FinC.own rfl rfl rfl rfl)) | exact FinA.one (FinB.cell (FinC.v (by first | rfl | (((try dsimp only); first | rfl | (congr 1 <;> omega)))))) | exact FinA.one (FinB.cell (FinC.ow rfl (by first | rfl | (((try dsimp only); first | rfl | (congr 1 <;> omega)))))) | exact FinA.one (FinB.agg' rfl rfl) | refine ⟨⟨_, rfl, ?_⟩, ?_⟩), by repeat' (first | exact trivial | refine ⟨⟨_, rfl, by first | rfl | (((try dsimp only); first | rfl | (congr 1 <;> omega)); done) | (simp [renO, *]; done)⟩, by first | rfl | assumption, ?_⟩), rfl⟩
 rintro ⟨q, hq, hok⟩
 dsimp only
 by_cases hlt : q < xs.length
 ·have hel := iI_at hlt
  have hpr := iI_at (xs := xs) (i := q - 1) (by omega)
  have hsu : okTo xs (q + 1) = (okTo xs q && (decide (1 ≤ xs.getD q 0) && decide (xs.getD q 0 ≤ 99) && (decide (q = 0) || decide (xs.getD (q - 1) 0 < xs.getD q 0)))) := rfl
  have hbad : okTo xs (q + 1) = false → R = false := fun h => by
   rw [hR]; unfold rightW
   rw [okTo_false xs (show q + 1 ≤ xs.length by omega) h, Bool.and_false]
  have hlt' : (q : Int) < (xs.length : Int) := by omega
  have hq0' : ¬ q = 0 → (q : Int) > 0 := fun h => by omega
  have kk : ¬ q = 0 → (q : Int) - 1 = ((q - 1 : Nat) : Int) := fun h => by omega
  rw [hok, Bool.true_and] at hsu
  generalize xs.getD q 0 = x at *
  generalize xs.getD (q - 1) 0 = y at *
  by_cases c1 : x < 1
  ·have hf : R = false := hbad (by rw [hsu, decide_eq_false (show ¬ 1 ≤ x by omega)]; rfl)
   rw [hf]
   clear hf hbad hR hsu hok
   repeat' (first | ((first | apply o_do | apply d_do | apply d_yes rfl rfl rfl); first | exact ls_indexAddr_sl tab_ok rfl rfl rfl rfl hel rfl | exact lsq) | refine a_seq ?_ | refine a_region ?_ | refine o_nil ?_ | refine a_block ?_ | refine a_ret ?_ | refine a_exit ?_ | refine a_skip ?_ | refine a_draw mixed ?_ | refine d_nil (by kernel_rfl) ?_ | refine o_yes rfl rfl rfl ?_ | refine o_no rfl rfl rfl (by decide) ?_ | refine o_no' rfl rfl rfl ?_ | refine a_condT rfl ?_ | refine a_condF rfl ?_ | refine d_no rfl rfl rfl (by decide) ?_ | refine d_no' rfl rfl rfl ?_ | (refine wq2 (fun hb => ?_) (fun hb => ?_) <;> (simp only [hb]; try simp only [hbs, ne_eq] at hb; try (exfalso; first | omega | exact hb trivial))) | fail)
   all_goals refine rq rfl ?_
   all_goals exact fnq
  by_cases c2 : 99 < x
  ·have hf : R = false := hbad (by rw [hsu, decide_eq_false (show ¬ x ≤ 99 by omega), Bool.and_false]; rfl)
   rw [hf]
   clear hf hbad hR hsu hok
   repeat' (first | ((first | apply o_do | apply d_do | apply d_yes rfl rfl rfl); first | exact ls_indexAddr_sl tab_ok rfl rfl rfl rfl hel rfl | exact lsq) | refine a_seq ?_ | refine a_region ?_ | refine o_nil ?_ | refine a_block ?_ | refine a_ret ?_ | refine a_exit ?_ | refine a_skip ?_ | refine a_draw mixed ?_ | refine d_nil (by kernel_rfl) ?_ | refine o_yes rfl rfl rfl ?_ | refine o_no rfl rfl rfl (by decide) ?_ | refine o_no' rfl rfl rfl ?_ | refine a_condT rfl ?_ | refine a_condF rfl ?_ | refine d_no rfl rfl rfl (by decide) ?_ | refine d_no' rfl rfl rfl ?_ | (refine wq2 (fun hb => ?_) (fun hb => ?_) <;> (simp only [hb]; try simp only [hbs, ne_eq] at hb; try (exfalso; first | omega | exact hb trivial))) | fail)
   all_goals refine rq rfl ?_
   all_goals exact fnq
  have hs2 : (decide (1 ≤ x) && decide (x ≤ 99)) = true := by rw [decide_eq_true (show 1 ≤ x by omega), decide_eq_true (show x ≤ 99 by omega)]; rfl
  rw [hs2, Bool.true_and] at hsu
  by_cases c3 : q = 0
  ·have hn : okTo xs (q + 1) = true := by rw [hsu, decide_eq_true c3]; rfl
   have hq0 : ¬ (q : Int) > 0 := by omega
   clear hbad hR hsu hok
   repeat' (first | ((first | apply o_do | apply d_do | apply d_yes rfl rfl rfl); first | exact ls_indexAddr_sl tab_ok rfl rfl rfl rfl hel rfl | exact lsq) | refine a_seq ?_ | refine a_region ?_ | refine o_nil ?_ | refine a_block ?_ | refine a_ret ?_ | refine a_exit ?_ | refine a_skip ?_ | refine a_draw mixed ?_ | refine d_nil (by kernel_rfl) ?_ | refine o_yes rfl rfl rfl ?_ | refine o_no rfl rfl rfl (by decide) ?_ | refine o_no' rfl rfl rfl ?_ | refine a_condT rfl ?_ | refine a_condF rfl ?_ | refine d_no rfl rfl rfl (by decide) ?_ | refine d_no' rfl rfl rfl ?_ | (refine wq2 (fun hb => ?_) (fun hb => ?_) <;> (simp only [hb]; try simp only [hbs, ne_eq] at hb; try (exfalso; first | omega | exact hb trivial))) | fail)
   refine ⟨⟨q + 1, by omega, hn⟩, by dsimp only; omega, ?_⟩
   refine ⟨by repeat' (first | exact trivial | exact FinA.one (FinB.cell (FinC.same rfl)) | exact FinA.one (FinB.cell FinC.nil) | exact FinA.bound rfl | exact FinA.one (FinB.cell (FinC.own rfl rfl rfl rfl)) | exact FinA.one (FinB.cell (FinC.v (by first | rfl | (((try dsimp only); first | rfl | (congr 1 <;> omega)))))) | exact FinA.one (FinB.cell (FinC.ow rfl (by first | rfl | (((try dsimp only); first | rfl | (congr 1 <;> omega)))))) | exact FinA.one (FinB.agg' rfl rfl) | refine ⟨⟨_, rfl, ?_⟩, ?_⟩), by repeat' (first | exact trivial | refine ⟨⟨_, rfl, by first | rfl | (((try dsimp only); first | rfl | (congr 1 <;> omega)); done) | (simp [renO, *]; done)⟩, by first | rfl | assumption, ?_⟩), rfl⟩
  have h3 := hq0' c3
  have h4 := kk c3
  rw [decide_eq_false c3, Bool.false_or] at hsu
  by_cases c4 : y < x
  ·have hn : okTo xs (q + 1) = true := by rw [hsu, decide_eq_true c4]
   clear hbad hR hsu hok
   repeat' (first | ((first | apply o_do | apply d_do | apply d_yes rfl rfl rfl); first | exact ls_indexAddr_sl tab_ok rfl rfl rfl rfl hel rfl | exact ls_indexAddr_sl tab_ok rfl rfl rfl h4 hpr rfl | exact lsq) | refine a_seq ?_ | refine a_region ?_ | refine o_nil ?_ | refine a_block ?_ | refine a_ret ?_ | refine a_exit ?_ | refine a_skip ?_ | refine a_draw mixed ?_ | refine d_nil (by kernel_rfl) ?_ | refine o_yes rfl rfl rfl ?_ | refine o_no rfl rfl rfl (by decide) ?_ | refine o_no' rfl rfl rfl ?_ | refine a_condT rfl ?_ | refine a_condF rfl ?_ | refine d_no rfl rfl rfl (by decide) ?_ | refine d_no' rfl rfl rfl ?_ | (refine wq2 (fun hb => ?_) (fun hb => ?_) <;> (simp only [hb]; try simp only [hbs, ne_eq] at hb; try (exfalso; first | omega | exact hb trivial))) | fail)
   refine ⟨⟨q + 1, by omega, hn⟩, by dsimp only; omega, ?_⟩
   refine ⟨by repeat' (first | exact trivial | exact FinA.one (FinB.cell (FinC.same rfl)) | exact FinA.one (FinB.cell FinC.nil) | exact FinA.bound rfl | exact FinA.one (FinB.cell (FinC.own rfl rfl rfl rfl)) | exact FinA.one (FinB.cell (FinC.v (by first | rfl | (((try dsimp only); first | rfl | (congr 1 <;> omega)))))) | exact FinA.one (FinB.cell (FinC.ow rfl (by first | rfl | (((try dsimp only); first | rfl | (congr 1 <;> omega)))))) | exact FinA.one (FinB.agg' rfl rfl) | refine ⟨⟨_, rfl, ?_⟩, ?_⟩), by repeat' (first | exact trivial | refine ⟨⟨_, rfl, by first | rfl | (((try dsimp only); first | rfl | (congr 1 <;> omega)); done) | (simp [renO, *]; done)⟩, by first | rfl | assumption, ?_⟩), rfl⟩
  ·have hf : R = false := hbad (by rw [hsu, decide_eq_false c4])
   rw [hf]
   clear hf hbad hR hsu hok
   repeat' (first | ((first | apply o_do | apply d_do | apply d_yes rfl rfl rfl); first | exact ls_indexAddr_sl tab_ok rfl rfl rfl rfl hel rfl | exact ls_indexAddr_sl tab_ok rfl rfl rfl h4 hpr rfl | exact lsq) | refine a_seq ?_ | refine a_region ?_ | refine o_nil ?_ | refine a_block ?_ | refine a_ret ?_ | refine a_exit ?_ | refine a_skip ?_ | refine a_draw mixed ?_ | refine d_nil (by kernel_rfl) ?_ | refine o_yes rfl rfl rfl ?_ | refine o_no rfl rfl rfl (by decide) ?_ | refine o_no' rfl rfl rfl ?_ | refine a_condT rfl ?_ | refine a_condF rfl ?_ | refine d_no rfl rfl rfl (by decide) ?_ | refine d_no' rfl rfl rfl ?_ | (refine wq2 (fun hb => ?_) (fun hb => ?_) <;> (simp only [hb]; try simp only [hbs, ne_eq] at hb; try (exfalso; first | omega | exact hb trivial))) | fail)
   all_goals refine rq rfl ?_
   all_goals exact fnq
 ·obtain rfl : q = xs.length := by omega
  rw [hR2 hok]
  clear hR hR2
  repeat' (first | ((first | apply o_do | apply d_do | apply d_yes rfl rfl rfl); exact lsq) | refine a_seq ?_ | refine a_region ?_ | refine o_nil ?_ | refine a_block ?_ | refine a_ret ?_ | refine a_exit ?_ | refine a_skip ?_ | refine a_draw mixed ?_ | refine d_nil (by kernel_rfl) ?_ | refine o_yes rfl rfl rfl ?_ | refine o_no rfl rfl rfl (by decide) ?_ | refine o_no' rfl rfl rfl ?_ | refine a_condT rfl ?_ | refine a_condF rfl ?_ | refine d_no rfl rfl rfl (by decide) ?_ | refine d_no' rfl rfl rfl ?_ | (refine wq2 (fun hb => ?_) (fun hb => ?_) <;> (simp only [hb]; try simp only [hbs, ne_eq] at hb; try (exfalso; first | omega | exact hb trivial))) | fail)
  refine rq rfl ?_
  exact fnq
theorem okTo_at {xs : List Int} : ∀ {n : Nat}, okTo xs n = true → ∀ k, k < n → 1 ≤ xs.getD k 0 ∧ xs.getD k 0 ≤ 99
 | n + 1, h, k, hk => by
  simp only [okTo, Bool.and_eq_true, decide_eq_true_eq] at h
  by_cases e : k = n
  ·subst e; exact ⟨h.2.1.1, h.2.1.2⟩
  ·exact okTo_at h.1 k (by omega)
theorem right_nat {xs : List Int} (h : rightW xs = true) : ∃ ws : List Nat, xs = ws.map (fun w : Nat => (w : Int)) ∧ (∀ w ∈ ws, 1 ≤ w ∧ w < 100) ∧ 1 ≤ ws.length ∧ ws.length ≤ 8 := by
 unfold rightW at h
 simp only [Bool.and_eq_true, decide_eq_true_eq] at h
 obtain ⟨⟨h1, h2⟩, h3⟩ := h
 have hx : ∀ x ∈ xs, 1 ≤ x ∧ x ≤ 99 := fun x hx => by
  obtain ⟨k, hk, rfl⟩ := List.getElem_of_mem hx
  have := okTo_at h3 k hk
  simpa [List.getD, hk] using this
 refine ⟨xs.map Int.toNat, ?_, ?_, by simpa using h1, by simpa using h2⟩
 ·rw [List.map_map]
  conv => lhs; rw [← List.map_id xs]
  exact List.map_congr_left fun x hx' => by have := hx x hx'; simp; omega
 ·intro w hw
  obtain ⟨x, hx', rfl⟩ := List.mem_map.1 hw
  have := hx x hx'
  omega
theorem iV_iI (ws : List Nat) : (ws.map fun w : Nat => (w : Int)).map iI = ws.map iV := by rw [List.map_map]; rfl
def asgL (ws : List Nat) (n : Nat) : List Int := (List.range n).map fun g => ownL (grN g) (PL ws)
theorem asgL_succ (ws : List Nat) (n : Nat) : asgL ws (n + 1) = asgL ws n ++ [ownL (grN n) (PL ws)] := by
 unfold asgL
 rw [List.range_succ, List.map_append]; rfl
theorem asgL_len (ws : List Nat) (n : Nat) : (asgL ws n).length = n := by simp [asgL]
theorem PL_pos {ws : List Nat} (h : ∀ w ∈ ws, 1 ≤ w ∧ w < 100) : ∀ x ∈ PL ws, x.2 ≠ 0 := by
 intro x hx
 obtain ⟨w, hw, h2⟩ := List.mem_flatMap.1 hx
 obtain ⟨i, _, rfl⟩ := List.mem_map.1 h2
 have := h w hw
 show (w : Int) ≠ 0
 omega
theorem circle_ex (ws : List Nat) (hws : ∀ w ∈ ws, 1 ≤ w ∧ w < 100) (h1 : 1 ≤ ws.length) (h8 : ws.length ≤ 8) : ∃ MS : List Nat,
  AC Tryd.prog 15 [.sl 1 (ws.map iV)] [] (.agg [.mp 1, .own 4 (MS.map uv).length]) [(1, .mp (.m ((byOf (PL ws)).map mEnt))), (4, .row 46 1 (MS.map uv))] ∧
  ∀ g : Nat, g < 100 → AC Tryd.prog 16 [.agg [.mp 0, .own 1 (MS.map uv).length], .v (.int .i64 g)] [(0, .mp (.m ((byOf (PL ws)).map mEnt))), (1, .row 46 1 (MS.map uv))] (.v (.int .i64 (ownL (grN g) (PL ws)))) [(0, .mp (.m ((byOf (PL ws)).map mEnt))), (1, .row 46 1 (MS.map uv))] := by
 have hb := by_ok (PL ws)
 have hs : (((byOf (PL ws)).map Prod.fst).mergeSort (fun a b => decide (a ≤ b))).Pairwise (· ≤ ·) := by
  have := List.pairwise_mergeSort (le := fun a b : Nat => decide (a ≤ b)) (by simp; omega) (by simp; omega) ((byOf (PL ws)).map Prod.fst)
  exact this.imp (by simp)
 have hp := List.mergeSort_perm ((byOf (PL ws)).map Prod.fst) (fun a b => decide (a ≤ b))
 generalize ((byOf (PL ws)).map Prod.fst).mergeSort (fun a b => decide (a ≤ b)) = MS at *
 have hlen : (byOf (PL ws)).length ≤ 64 := by
  have h2 : ∀ l : List (Nat × Int), (byOf l).length ≤ l.length := fun l => by
   have key : ∀ (l2 m : List (Nat × Int)), (l2.foldl bstep m).length ≤ m.length + l2.length := by
    intro l2
    induction l2 with
    | nil => intro m; simp
    | cons x l2 ih =>
     intro m
     have h2 := ih (bstep m x)
     have h3 := bstep_len m x
     simp only [List.foldl_cons, List.length_cons]
     omega
   simpa [byOf] using key l []
  have := h2 (PL ws)
  have := PL_len ws
  omega
 have hne : byOf (PL ws) ≠ [] := by
  intro h
  have h3 : (PL ws) ≠ [] := fun h3 => by
   have := PL_len ws
   rw [h3] at this; simp at this; omega
  obtain ⟨x, hx⟩ := List.exists_mem_of_ne_nil _ h3
  obtain ⟨y, hy, _⟩ := hb.all x hx
  rw [h] at hy; cases hy
 refine ⟨MS, ?_, fun g hg => ?_⟩
 ·rw [List.length_map]
  exact a_around ws MS (fun w hw => (hws w hw).2) h8 hp hs
 ·obtain ⟨i, s, w, k1, k2, k3, k4⟩ := a_owner (byOf (PL ws)) MS hp hs hlen hne (by_lt (PL_lt ws)) hb.uniq g hg
  have h5 := circle_own (grN_lt g) (PL_lt ws) hs hp k1 k2 k3
  rw [h5.eq (PL_pos hws)]
  exact k4
set_option maxRecDepth 10000 in
theorem a_Assign (ws : List Nat) (G : Nat) (hR : rightW (ws.map fun w : Nat => (w : Int)) = true) (hws : ∀ w ∈ ws, 1 ≤ w ∧ w < 100) (h1 : 1 ≤ ws.length) (h8 : ws.length ≤ 8) (g1 : 1 ≤ G) (g2 : G ≤ 32) :
  AC Tryd.prog 6 [.sl 1 (ws.map iV), .v (.int .i64 G)] [] (.tup [.own 1 ((asgL ws G).map iI).length, .v (.int .i64 0)]) [(1, .row 3 1 ((asgL ws G).map iI))] := by
 obtain ⟨MS, hA, hO⟩ := circle_ex ws hws h1 h8
 have hr := p_Right (ws.map fun w : Nat => (w : Int)) (by simp; omega)
 rw [hR, iV_iI] at hr
 have g1' : (1 : Int) ≤ (G : Int) := by omega
 have g2' : (G : Int) ≤ 32 := by omega
 generalize byOf (PL ws) = es at *
 generalize MS.map uv = U at *
 refine (ac_body tab_ok Tryd.func6 rfl (by kernel_rfl) rfl ?_); intro w0 M μ0; simp only [Tryd.ntmps6, List.length_cons, List.length_nil, Nat.reduceAdd, Nat.reduceSub, numb]
 repeat' (first | ((first | apply o_do | apply d_do | apply d_yes rfl rfl rfl); first | exact lsc (hr) | exact lca [] 10 hA | exact lsq) | refine a_seq ?_ | refine a_region ?_ | refine o_nil ?_ | refine a_block ?_ | refine a_ret ?_ | refine a_exit ?_ | refine a_skip ?_ | refine a_draw mixed ?_ | refine d_nil (by kernel_rfl) ?_ | refine o_yes rfl rfl rfl ?_ | refine o_no rfl rfl rfl (by decide) ?_ | refine o_no' rfl rfl rfl ?_ | refine a_condT rfl ?_ | refine a_condF rfl ?_ | refine d_no rfl rfl rfl (by decide) ?_ | refine d_no' rfl rfl rfl ?_ | (refine wq2 (fun hb => ?_) (fun hb => ?_) <;> (simp only [hb]; try simp only [hbs, ne_eq] at hb; try (exfalso; first | omega | exact hb trivial))) | fail)
 refine a_adopt 7 1 3 1 rfl rfl ?_
 refine a_loop (X := {q : Nat // q ≤ G})
  (fun q => ⟨[(6, .ref 0 0), (7, .own 1 ((asgL ws q.1).map iI).length), (22, .v (.int .i64 G)), (23, .v (.int .i64 q.1))], [(0, .box 41 [.mp 11, .own 14 U.length]), (11, .mp (.m (es.map mEnt))), (14, .row 46 1 U), (1, .row 3 1 ((asgL ws q.1).map iI))]⟩) (fun q => G - q.1) ⟨0, Nat.zero_le _⟩ ?_ ?_
 ·refine ⟨by repeat' (first | exact trivial | exact FinA.one (FinB.cell (FinC.same rfl)) | exact FinA.one (FinB.cell FinC.nil) | exact FinA.bound rfl | exact FinA.one (FinB.cell (FinC.own rfl rfl rfl rfl)) | exact FinA.one (FinB.cell (FinC.v (by first | rfl | (((try dsimp only); first | rfl | (congr 1 <;> omega)))))) | exact FinA.one (FinB.cell (FinC.ow rfl (by first | rfl | (((try dsimp only); first | rfl | (congr 1 <;> omega)))))) | exact FinA.one (FinB.agg' rfl rfl) | refine ⟨⟨_, rfl, ?_⟩, ?_⟩), by repeat' (first | exact trivial | refine ⟨⟨_, rfl, by first | rfl | (((try dsimp only); first | rfl | (congr 1 <;> omega)); done) | (simp [renO, *]; done)⟩, by first | rfl | assumption, ?_⟩), rfl⟩
 rintro ⟨q, hq⟩
 dsimp only
 by_cases hlt : q < G
 ·have hOq := hO q (by omega)
  have hsn : (asgL ws (q + 1)).map iI = (asgL ws q).map iI ++ [iI (ownL (grN q) (PL ws))] := by rw [asgL_succ, List.map_append]; rfl
  have hql : ((asgL ws q).map iI).length = q := by rw [List.length_map, asgL_len]
  generalize hT2 : (asgL ws (q + 1)).map iI = T2 at *
  generalize (asgL ws q).map iI = T at *
  generalize ownL (grN q) (PL ws) = w at *
  have hlt' : (q : Int) < (G : Int) := by omega
  repeat' (first | ((first | apply o_do | apply d_do | apply d_yes rfl rfl rfl); first | exact lca [11, 14] 20 hOq | focus (apply ls_append tab_ok rfl rfl ?hn rfl ?hsrc rfl ?hlen rfl rfl; (case hn => rfl); (case hsrc => first | exact SrcIs.sl | exact SrcIs.nil | exact SrcIs.own rfl rfl | fail); (case hlen => (try simp only [List.length_cons, List.length_nil]); (omega)); first | done | fail) | exact lsq) | refine a_seq ?_ | refine a_region ?_ | refine o_nil ?_ | refine a_block ?_ | refine a_ret ?_ | refine a_exit ?_ | refine a_skip ?_ | refine a_draw mixed ?_ | refine d_nil (by kernel_rfl) ?_ | refine o_yes rfl rfl rfl ?_ | refine o_no rfl rfl rfl (by decide) ?_ | refine o_no' rfl rfl rfl ?_ | refine a_condT rfl ?_ | refine a_condF rfl ?_ | refine d_no rfl rfl rfl (by decide) ?_ | refine d_no' rfl rfl rfl ?_ | (refine wq2 (fun hb => ?_) (fun hb => ?_) <;> (simp only [hb]; try simp only [hbs, ne_eq] at hb; try (exfalso; first | omega | exact hb trivial))) | fail)
  refine ⟨⟨q + 1, by omega⟩, by dsimp only; omega, ?_⟩
  refine ⟨by repeat' (first | exact trivial | exact FinA.one (FinB.cell (FinC.same rfl)) | exact FinA.one (FinB.cell FinC.nil) | exact FinA.bound rfl | exact FinA.one (FinB.cell (FinC.own rfl rfl rfl rfl)) | exact FinA.one (FinB.cell (FinC.v (by first | rfl | (((try dsimp only); first | rfl | (rw [hT2, hsn]; rfl) | (rw [hT2, hsn]; simp; done) | (congr 1 <;> omega)))))) | exact FinA.one (FinB.cell (FinC.ow rfl (by first | rfl | (((try dsimp only); first | rfl | (rw [hT2, hsn]; rfl) | (rw [hT2, hsn]; simp; done) | (congr 1 <;> omega)))))) | exact FinA.one (FinB.agg' rfl rfl) | refine ⟨⟨_, rfl, ?_⟩, ?_⟩), by repeat' (first | exact trivial | refine ⟨⟨_, rfl, by first | rfl | (((try dsimp only); first | rfl | (rw [hT2, hsn]; rfl) | (rw [hT2, hsn]; simp; done) | (congr 1 <;> omega)); done) | (simp [renO, *]; done)⟩, by first | rfl | assumption, ?_⟩), rfl⟩
 ·obtain rfl : q = G := by omega
  generalize (asgL ws q).map iI = T at *
  repeat' (first | ((first | apply o_do | apply d_do | apply d_yes rfl rfl rfl); exact lsq) | refine a_seq ?_ | refine a_region ?_ | refine o_nil ?_ | refine a_block ?_ | refine a_ret ?_ | refine a_exit ?_ | refine a_skip ?_ | refine a_draw mixed ?_ | refine d_nil (by kernel_rfl) ?_ | refine o_yes rfl rfl rfl ?_ | refine o_no rfl rfl rfl (by decide) ?_ | refine o_no' rfl rfl rfl ?_ | refine a_condT rfl ?_ | refine a_condF rfl ?_ | refine d_no rfl rfl rfl (by decide) ?_ | refine d_no' rfl rfl rfl ?_ | (refine wq2 (fun hb => ?_) (fun hb => ?_) <;> (simp only [hb]; try simp only [hbs, ne_eq] at hb; try (exfalso; first | omega | exact hb trivial))) | fail)
  refine rq rfl ?_
  exact fnq
def asgE (xs : List Int) (g : Int) : Int := if rightW xs = false then 110 else 1
theorem p_AssignNo (xs : List Int) (g : Int) (hl : xs.length ≤ 9223372036854775807) (h : rightW xs = false ∨ g < 1 ∨ 32 < g) : PC Tryd.prog 6 [.sl 1 (xs.map iI), .v (.int .i64 g)] (.tup [.v (.slice none 0 0), .v (.int .i64 (asgE xs g))]) := by
 have hr := p_Right xs hl
 unfold asgE
 cases hR : rightW xs with
 | false =>
  rw [hR] at hr
  rw [if_pos rfl]
  refine PC.mk (ac_body tab_ok Tryd.func6 rfl (by kernel_rfl) rfl ?_); intro w0 M μ0; simp only [Tryd.ntmps6, List.length_cons, List.length_nil, Nat.reduceAdd, Nat.reduceSub, numb]
  repeat' (first | ((first | apply o_do | apply d_do | apply d_yes rfl rfl rfl); first | exact lsc (hr) | exact lsq) | refine a_seq ?_ | refine a_region ?_ | refine o_nil ?_ | refine a_block ?_ | refine a_ret ?_ | refine a_exit ?_ | refine a_skip ?_ | refine a_draw mixed ?_ | refine d_nil (by kernel_rfl) ?_ | refine o_yes rfl rfl rfl ?_ | refine o_no rfl rfl rfl (by decide) ?_ | refine o_no' rfl rfl rfl ?_ | refine a_condT rfl ?_ | refine a_condF rfl ?_ | refine d_no rfl rfl rfl (by decide) ?_ | refine d_no' rfl rfl rfl ?_ | (refine wq2 (fun hb => ?_) (fun hb => ?_) <;> (simp only [hb]; try simp only [hbs, ne_eq] at hb; try (exfalso; first | omega | exact hb trivial))) | fail)
  refine rq rfl ?_
  exact fnq
 | true =>
  rw [hR] at hr h
  rw [if_neg (by decide)]
  rcases h with h | h | h
  ·cases h
  all_goals
   refine PC.mk (ac_body tab_ok Tryd.func6 rfl (by kernel_rfl) rfl ?_); intro w0 M μ0; simp only [Tryd.ntmps6, List.length_cons, List.length_nil, Nat.reduceAdd, Nat.reduceSub, numb]
   repeat' (first | ((first | apply o_do | apply d_do | apply d_yes rfl rfl rfl); first | exact lsc (hr) | exact lsq) | refine a_seq ?_ | refine a_region ?_ | refine o_nil ?_ | refine a_block ?_ | refine a_ret ?_ | refine a_exit ?_ | refine a_skip ?_ | refine a_draw mixed ?_ | refine d_nil (by kernel_rfl) ?_ | refine o_yes rfl rfl rfl ?_ | refine o_no rfl rfl rfl (by decide) ?_ | refine o_no' rfl rfl rfl ?_ | refine a_condT rfl ?_ | refine a_condF rfl ?_ | refine d_no rfl rfl rfl (by decide) ?_ | refine d_no' rfl rfl rfl ?_ | (refine wq2 (fun hb => ?_) (fun hb => ?_) <;> (simp only [hb]; try simp only [hbs, ne_eq] at hb; try (exfalso; first | omega | exact hb trivial))) | fail)
   all_goals refine rq rfl ?_
   all_goals exact fnq
theorem p_alive11 : PC Tryd.prog 8 [] (.v (.bool true)) := by
 have hr : PC Tryd.prog 9 [.sl 1 [[.v (.int .i64 1)]]] (.v (.bool true)) := p_Right [1] (by decide)
 refine PC.mk (ac_body tab_ok Tryd.func8 rfl (by kernel_rfl) rfl ?_); intro w0 M μ0; simp only [Tryd.ntmps8, List.length_cons, List.length_nil, Nat.reduceAdd, Nat.reduceSub, numb]
 repeat' (first | ((first | apply o_do | apply d_do | apply d_yes rfl rfl rfl); first | exact lcs (hr) | exact lsq) | refine a_seq ?_ | refine a_region ?_ | refine o_nil ?_ | refine a_block ?_ | refine a_ret ?_ | refine a_exit ?_ | refine a_skip ?_ | refine a_draw mixed ?_ | refine d_nil (by kernel_rfl) ?_ | refine o_yes rfl rfl rfl ?_ | refine o_no rfl rfl rfl (by decide) ?_ | refine o_no' rfl rfl rfl ?_ | refine a_condT rfl ?_ | refine a_condF rfl ?_ | refine d_no rfl rfl rfl (by decide) ?_ | refine d_no' rfl rfl rfl ?_ | (refine wq2 (fun hb => ?_) (fun hb => ?_) <;> (simp only [hb]; try simp only [hbs, ne_eq] at hb; try (exfalso; first | omega | exact hb trivial))) | fail)
 refine rq rfl ?_
 exact fnq
theorem ptL_mem {w : Nat} {n : Nat} {x : Nat × Int} (h : x ∈ ptL w n) : x.2 = (w : Int) := by
 unfold ptL at h
 obtain ⟨i, _, rfl⟩ := List.mem_map.1 h
 rfl
theorem PL_mem {ws : List Nat} {x : Nat × Int} (h : x ∈ PL ws) : ∃ w ∈ ws, x.2 = (w : Int) := by
 obtain ⟨w, hw, h2⟩ := List.mem_flatMap.1 h
 exact ⟨w, hw, ptL_mem h2⟩
theorem PL_ne {ws : List Nat} (h1 : 1 ≤ ws.length) : PL ws ≠ [] := fun h3 => by
 have := PL_len ws
 rw [h3] at this; simp at this; omega
theorem own_of {ws : List Nat} (hws : ∀ w ∈ ws, 1 ≤ w ∧ w < 100) (h1 : 1 ≤ ws.length) (a : Nat) : IsOwn a (PL ws) (ownL a (PL ws)) := by
 obtain ⟨w, hw⟩ := own_ex (a := a) (PL ws) (PL_ne h1)
 rw [hw.eq (PL_pos hws)]
 exact hw
theorem asgL_at {ws : List Nat} {G q : Nat} (h : q < G) : (asgL ws G).getD q 0 = ownL (grN q) (PL ws) := by
 unfold asgL
 rw [List.getD_eq_getElem?_getD, List.getElem?_map, List.getElem?_range h]; rfl
theorem asgL_mem {ws : List Nat} (hws : ∀ w ∈ ws, 1 ≤ w ∧ w < 100) (h1 : 1 ≤ ws.length) {G q : Nat} (h : q < G) : ∃ j, j < ws.length ∧ (ws.map fun w : Nat => (w : Int)).getD j 0 = (asgL ws G).getD q 0 := by
 rw [asgL_at h]
 obtain ⟨p, hp⟩ := (own_of hws h1 (grN q)).mem
 obtain ⟨w, hw, e⟩ := PL_mem hp
 obtain ⟨j, hj, rfl⟩ := List.getElem_of_mem hw
 refine ⟨j, hj, ?_⟩
 rw [List.getD_eq_getElem?_getD, List.getElem?_map, List.getElem?_eq_getElem hj]
 exact e.symm
theorem asgL_one {ws : List Nat} (hws : ∀ w ∈ ws, 1 ≤ w ∧ w < 100) (h1 : ws.length = 1) {G q : Nat} (h : q < G) : (asgL ws G).getD q 0 = (ws.map fun w : Nat => (w : Int)).getD 0 0 := by
 obtain ⟨j, hj, e⟩ := asgL_mem hws (by omega) h
 obtain rfl : j = 0 := by omega
 exact e.symm
theorem ok_Group : CallOK Tryd.prog 12 := ⟨_, Tryd.func12, by kernel_rfl, rfl⟩
theorem p_Group (b : ByteArray) (g : Int) (h : b.size ≤ 9223372036854775807) (hg : -9223372036854775808 ≤ g ∧ g ≤ 9223372036854775807) : PC Tryd.prog 12 [.v (.string b), .v (.int .i64 g)] (.v (.int .i64 (grpV b.data.toList g))) :=
 pc_of_calls (xs := [.string b, .int .i64 g]) ok_Group (fun w => (ring_Group b g w h hg).mono fun e w' ⟨he, hw⟩ => by
  subst hw
  exact ⟨he, Below.refl _ _⟩) rfl
set_option maxRecDepth 10000 in
theorem r_owns (xs : List Int) (g : Int) (b : ByteArray) (hl : xs.length ≤ 9223372036854775807) (hb0 : b.size ≤ 9223372036854775807) (hg : -9223372036854775808 ≤ g ∧ g ≤ 9223372036854775807) : PC Tryd.prog 4 [.sl 1 (xs.map iI), .v (.int .i64 g), .v (.string b)] (.v (.bool true)) := by
 have hll : ((xs.map iI).length : Int) = (xs.length : Int) := by simp
 have ha := p_alive11
 by_cases hno : rightW xs = false ∨ g < 1 ∨ 32 < g
 ·have hA := p_AssignNo xs g (by omega) hno
  have he : asgE xs g ≠ 0 := by unfold asgE; split <;> decide
  generalize asgE xs g = e at *
  refine PC.mk (ac_body tab_ok Tryd.func4 rfl (by kernel_rfl) rfl ?_); intro w0 M μ0; simp only [Tryd.ntmps4, List.length_cons, List.length_nil, Nat.reduceAdd, Nat.reduceSub, numb]
  repeat' (first | ((first | apply o_do | apply d_do | apply d_yes rfl rfl rfl); first | exact lsc (hA) | exact lsc (ha) | exact lsq) | refine a_seq ?_ | refine a_region ?_ | refine o_nil ?_ | refine a_block ?_ | refine a_ret ?_ | refine a_exit ?_ | refine a_skip ?_ | refine a_draw mixed ?_ | refine d_nil (by kernel_rfl) ?_ | refine o_yes rfl rfl rfl ?_ | refine o_no rfl rfl rfl (by decide) ?_ | refine o_no' rfl rfl rfl ?_ | refine a_condT rfl ?_ | refine a_condF rfl ?_ | refine d_no rfl rfl rfl (by decide) ?_ | refine d_no' rfl rfl rfl ?_ | (refine wq2 (fun hb => ?_) (fun hb => ?_) <;> (simp only [hb]; try simp only [hbs, ne_eq] at hb; try (exfalso; first | omega | exact hb trivial))) | fail)
  all_goals refine rq rfl ?_
  all_goals exact fnq
 ·have hR : rightW xs = true := by
   cases h : rightW xs
   ·exact absurd (.inl h) hno
   ·rfl
  have hg1 : ¬ g < 1 := fun h => hno (.inr (.inl h))
  have hg2 : ¬ 32 < g := fun h => hno (.inr (.inr h))
  obtain ⟨ws, rfl, w1, w2, w3⟩ := right_nat hR
  obtain ⟨G, rfl⟩ : ∃ G : Nat, g = (G : Int) := ⟨g.toNat, by omega⟩
  have hA := a_Assign ws G hR w1 w2 w3 (by omega) (by omega)
  have hG := p_Group b G hb0 hg
  have hmem := fun q (h : q < G) => asgL_mem w1 w2 (G := G) h
  have hone := fun e q (h : q < G) => asgL_one w1 e (G := G) h
  have hlen := asgL_len ws G
  rw [← iV_iI] at hA
  have hv : 0 ≤ grpV b.data.toList G ∧ grpV b.data.toList G < G := by
   rw [grpV_high hg1]
   exact ⟨Int.emod_nonneg _ (by omega), Int.emod_lt_of_pos _ (by omega)⟩
  generalize grpV b.data.toList G = v at *
  obtain ⟨hv0, hv1⟩ := hv
  have hwl : (ws.map fun w : Nat => (w : Int)).length = ws.length := by simp
  rw [← hwl] at w2 w3 hmem hone
  generalize (ws.map fun w : Nat => (w : Int)) = xs at *
  generalize asgL ws G = os at *
  clear hno hR w1 hwl
  have hol : ((os.map iI).length : Int) = (G : Int) := by simp [hlen]
  refine PC.mk (ac_body tab_ok Tryd.func4 rfl (by kernel_rfl) rfl ?_); intro w0 M μ0; simp only [Tryd.ntmps4, List.length_cons, List.length_nil, Nat.reduceAdd, Nat.reduceSub, numb]
  repeat' (first | ((first | apply o_do | apply d_do | apply d_yes rfl rfl rfl); first | exact lca [] 10 hA | exact lsc (ha) | exact lsq) | refine a_seq ?_ | refine a_region ?_ | refine o_nil ?_ | refine a_block ?_ | refine a_ret ?_ | refine a_exit ?_ | refine a_skip ?_ | refine a_draw mixed ?_ | refine d_nil (by kernel_rfl) ?_ | refine o_yes rfl rfl rfl ?_ | refine o_no rfl rfl rfl (by decide) ?_ | refine o_no' rfl rfl rfl ?_ | refine a_condT rfl ?_ | refine a_condF rfl ?_ | refine d_no rfl rfl rfl (by decide) ?_ | refine d_no' rfl rfl rfl ?_ | (refine wq2 (fun hb => ?_) (fun hb => ?_) <;> (simp only [hb]; try simp only [hbs, ne_eq] at hb; try (exfalso; first | omega | exact hb trivial))) | fail)
  refine a_loop (X := {q : Nat // q ≤ G})
   (fun q => ⟨[(0, .sl 1 (xs.map iI)), (1, .v (.int .i64 G)), (2, .v (.string b)), (7, .sl 1 (os.map iI)), (29, .sl 1 (os.map iI)), (30, .v (.int .i64 G)), (31, .v (.int .i64 q.1))], []⟩) (fun q => G - q.1) ⟨0, Nat.zero_le _⟩ ?_ ?_
  ·refine ⟨by repeat' (first | exact trivial | exact FinA.one (FinB.cell (FinC.same rfl)) | exact FinA.one (FinB.cell FinC.nil) | exact FinA.bound rfl | exact FinA.one (FinB.cell (FinC.own rfl rfl rfl rfl)) | exact FinA.one (FinB.cell (FinC.v (by first | rfl | (((try dsimp only); first | rfl | (rw [hol]; done) | (congr 1 <;> omega)))))) | exact FinA.one (FinB.cell (FinC.ow rfl (by first | rfl | (((try dsimp only); first | rfl | (rw [hol]; done) | (congr 1 <;> omega)))))) | exact FinA.one (FinB.agg' rfl rfl) | refine ⟨⟨_, rfl, ?_⟩, ?_⟩), by repeat' (first | exact trivial | refine ⟨⟨_, rfl, by first | rfl | (((try dsimp only); first | rfl | (rw [hol]; done) | (congr 1 <;> omega)); done) | (simp [renO, *]; done)⟩, by first | rfl | assumption, ?_⟩), rfl⟩
  rintro ⟨q, hq⟩
  dsimp only
  by_cases hlt : q < G
  ·have hel := iI_at (xs := os) (i := q) (by omega)
   have hlt' : (q : Int) < (G : Int) := by omega
   obtain ⟨j, hj, hj2⟩ := hmem q hlt
   have hon := fun e => hone e q hlt
   generalize os.getD q 0 = w at *
   clear hmem hone
   repeat' (first | ((first | apply o_do | apply d_do | apply d_yes rfl rfl rfl); first | exact ls_indexAddr_sl tab_ok rfl rfl rfl rfl hel rfl | exact lsq) | refine a_seq ?_ | refine a_region ?_ | refine o_nil ?_ | refine a_block ?_ | refine a_ret ?_ | refine a_exit ?_ | refine a_skip ?_ | refine a_draw mixed ?_ | refine d_nil (by kernel_rfl) ?_ | refine o_yes rfl rfl rfl ?_ | refine o_no rfl rfl rfl (by decide) ?_ | refine o_no' rfl rfl rfl ?_ | refine a_condT rfl ?_ | refine a_condF rfl ?_ | refine d_no rfl rfl rfl (by decide) ?_ | refine d_no' rfl rfl rfl ?_ | (refine wq2 (fun hb => ?_) (fun hb => ?_) <;> (simp only [hb]; try simp only [hbs, ne_eq] at hb; try (exfalso; first | omega | exact hb trivial))) | fail)
   refine a_loop (X := {p : Nat × Bool // p.1 ≤ xs.length ∧ ∀ i, i < p.1 → xs.getD i 0 = w → p.2 = true})
    (fun p => ⟨[(0, .sl 1 (xs.map iI)), (1, .v (.int .i64 G)), (2, .v (.string b)), (7, .sl 1 (os.map iI)), (29, .sl 1 (os.map iI)), (30, .v (.int .i64 G)), (31, .v (.int .i64 q)), (10, .v (.int .i64 w)), (11, .v (.bool p.1.2)), (35, .sl 1 (xs.map iI)), (36, .v (.int .i64 xs.length)), (37, .v (.int .i64 p.1.1))], []⟩) (fun p => xs.length - p.1.1) ⟨(0, false), Nat.zero_le _, by intro i h; cases h⟩ ?_ ?_
   ·refine ⟨by repeat' (first | exact trivial | exact FinA.one (FinB.cell (FinC.same rfl)) | exact FinA.one (FinB.cell FinC.nil) | exact FinA.bound rfl | exact FinA.one (FinB.cell (FinC.own rfl rfl rfl rfl)) | exact FinA.one (FinB.cell (FinC.v (by first | rfl | (((try dsimp only); first | rfl | (rw [hll]; done) | (congr 1 <;> omega)))))) | exact FinA.one (FinB.cell (FinC.ow rfl (by first | rfl | (((try dsimp only); first | rfl | (rw [hll]; done) | (congr 1 <;> omega)))))) | exact FinA.one (FinB.agg' rfl rfl) | refine ⟨⟨_, rfl, ?_⟩, ?_⟩), by repeat' (first | exact trivial | refine ⟨⟨_, rfl, by first | rfl | (((try dsimp only); first | rfl | (rw [hll]; done) | (congr 1 <;> omega)); done) | (simp [renO, *]; done)⟩, by first | rfl | assumption, ?_⟩), rfl⟩
   rintro ⟨⟨p, is⟩, hp, hw⟩
   dsimp only at hp hw ⊢
   by_cases hpt : p < xs.length
   ·have hep := iI_at hpt
    have hpt' : (p : Int) < (xs.length : Int) := by omega
    have hnx : ∀ is2 : Bool, (is = true → is2 = true) → (xs.getD p 0 = w → is2 = true) → ∀ i, i < p + 1 → xs.getD i 0 = w → is2 = true := by
     intro is2 h1 h2 i hi he
     by_cases e : i = p
     ·subst e; exact h2 he
     ·exact h1 (hw i (by omega) he)
    clear hw
    generalize xs.getD p 0 = x at *
    cases is
    ·by_cases hxw : x = w
     ·have hn := hnx true (fun _ => rfl) (fun _ => rfl)
      repeat' (first | ((first | apply o_do | apply d_do | apply d_yes rfl rfl rfl); first | exact ls_indexAddr_sl tab_ok rfl rfl rfl rfl hep rfl | exact lsq) | refine a_seq ?_ | refine a_region ?_ | refine o_nil ?_ | refine a_block ?_ | refine a_ret ?_ | refine a_exit ?_ | refine a_skip ?_ | refine a_draw mixed ?_ | refine d_nil (by kernel_rfl) ?_ | refine o_yes rfl rfl rfl ?_ | refine o_no rfl rfl rfl (by decide) ?_ | refine o_no' rfl rfl rfl ?_ | refine a_condT rfl ?_ | refine a_condF rfl ?_ | refine d_no rfl rfl rfl (by decide) ?_ | refine d_no' rfl rfl rfl ?_ | (refine wq2 (fun hb => ?_) (fun hb => ?_) <;> (simp only [hb]; try simp only [hbs, ne_eq] at hb; try (exfalso; first | omega | exact hb trivial))) | fail)
      refine ⟨⟨(p + 1, true), by dsimp only; omega, hn⟩, by dsimp only; omega, ?_⟩
      refine ⟨by repeat' (first | exact trivial | exact FinA.one (FinB.cell (FinC.same rfl)) | exact FinA.one (FinB.cell FinC.nil) | exact FinA.bound rfl | exact FinA.one (FinB.cell (FinC.own rfl rfl rfl rfl)) | exact FinA.one (FinB.cell (FinC.v (by first | rfl | (((try dsimp only); first | rfl | (simp [hxw]; done) | (congr 1 <;> omega)))))) | exact FinA.one (FinB.cell (FinC.ow rfl (by first | rfl | (((try dsimp only); first | rfl | (simp [hxw]; done) | (congr 1 <;> omega)))))) | exact FinA.one (FinB.agg' rfl rfl) | refine ⟨⟨_, rfl, ?_⟩, ?_⟩), by repeat' (first | exact trivial | refine ⟨⟨_, rfl, by first | rfl | (((try dsimp only); first | rfl | (simp [hxw]; done) | (congr 1 <;> omega)); done) | (simp [renO, *]; done)⟩, by first | rfl | assumption, ?_⟩), rfl⟩
     ·have hn := hnx false (fun h => h) (fun h => absurd h hxw)
      repeat' (first | ((first | apply o_do | apply d_do | apply d_yes rfl rfl rfl); first | exact ls_indexAddr_sl tab_ok rfl rfl rfl rfl hep rfl | exact lsq) | refine a_seq ?_ | refine a_region ?_ | refine o_nil ?_ | refine a_block ?_ | refine a_ret ?_ | refine a_exit ?_ | refine a_skip ?_ | refine a_draw mixed ?_ | refine d_nil (by kernel_rfl) ?_ | refine o_yes rfl rfl rfl ?_ | refine o_no rfl rfl rfl (by decide) ?_ | refine o_no' rfl rfl rfl ?_ | refine a_condT rfl ?_ | refine a_condF rfl ?_ | refine d_no rfl rfl rfl (by decide) ?_ | refine d_no' rfl rfl rfl ?_ | (refine wq2 (fun hb => ?_) (fun hb => ?_) <;> (simp only [hb]; try simp only [hbs, ne_eq] at hb; try (exfalso; first | omega | exact hb trivial))) | fail)
      refine ⟨⟨(p + 1, false), by dsimp only; omega, hn⟩, by dsimp only; omega, ?_⟩
      refine ⟨by repeat' (first | exact trivial | exact FinA.one (FinB.cell (FinC.same rfl)) | exact FinA.one (FinB.cell FinC.nil) | exact FinA.bound rfl | exact FinA.one (FinB.cell (FinC.own rfl rfl rfl rfl)) | exact FinA.one (FinB.cell (FinC.v (by first | rfl | (((try dsimp only); first | rfl | (simp [hxw]; done) | (congr 1 <;> omega)))))) | exact FinA.one (FinB.cell (FinC.ow rfl (by first | rfl | (((try dsimp only); first | rfl | (simp [hxw]; done) | (congr 1 <;> omega)))))) | exact FinA.one (FinB.agg' rfl rfl) | refine ⟨⟨_, rfl, ?_⟩, ?_⟩), by repeat' (first | exact trivial | refine ⟨⟨_, rfl, by first | rfl | (((try dsimp only); first | rfl | (simp [hxw]; done) | (congr 1 <;> omega)); done) | (simp [renO, *]; done)⟩, by first | rfl | assumption, ?_⟩), rfl⟩
    ·have hn := hnx true (fun _ => rfl) (fun _ => rfl)
     repeat' (first | ((first | apply o_do | apply d_do | apply d_yes rfl rfl rfl); first | exact ls_indexAddr_sl tab_ok rfl rfl rfl rfl hep rfl | exact lsq) | refine a_seq ?_ | refine a_region ?_ | refine o_nil ?_ | refine a_block ?_ | refine a_ret ?_ | refine a_exit ?_ | refine a_skip ?_ | refine a_draw mixed ?_ | refine d_nil (by kernel_rfl) ?_ | refine o_yes rfl rfl rfl ?_ | refine o_no rfl rfl rfl (by decide) ?_ | refine o_no' rfl rfl rfl ?_ | refine a_condT rfl ?_ | refine a_condF rfl ?_ | refine d_no rfl rfl rfl (by decide) ?_ | refine d_no' rfl rfl rfl ?_ | (refine wq2 (fun hb => ?_) (fun hb => ?_) <;> (simp only [hb]; try simp only [hbs, ne_eq] at hb; try (exfalso; first | omega | exact hb trivial))) | fail)
     refine ⟨⟨(p + 1, true), by dsimp only; omega, hn⟩, by dsimp only; omega, ?_⟩
     refine ⟨by repeat' (first | exact trivial | exact FinA.one (FinB.cell (FinC.same rfl)) | exact FinA.one (FinB.cell FinC.nil) | exact FinA.bound rfl | exact FinA.one (FinB.cell (FinC.own rfl rfl rfl rfl)) | exact FinA.one (FinB.cell (FinC.v (by first | rfl | (((try dsimp only); first | rfl | (congr 1 <;> omega)))))) | exact FinA.one (FinB.cell (FinC.ow rfl (by first | rfl | (((try dsimp only); first | rfl | (congr 1 <;> omega)))))) | exact FinA.one (FinB.agg' rfl rfl) | refine ⟨⟨_, rfl, ?_⟩, ?_⟩), by repeat' (first | exact trivial | refine ⟨⟨_, rfl, by first | rfl | (((try dsimp only); first | rfl | (congr 1 <;> omega)); done) | (simp [renO, *]; done)⟩, by first | rfl | assumption, ?_⟩), rfl⟩
   ·obtain rfl : p = xs.length := by omega
    have his : is = true := hw j hj hj2
    subst his
    have he0 := iI_at (xs := xs) (i := 0) (by omega)
    clear hw
    by_cases h1 : xs.length = 1
    ·have h2 := hon h1
     have h1' : (xs.length : Int) = 1 := by omega
     generalize xs.getD 0 0 = x at *
     subst h2
     repeat' (first | ((first | apply o_do | apply d_do | apply d_yes rfl rfl rfl); first | exact ls_indexAddr_sl (i := 0) tab_ok rfl rfl rfl rfl he0 rfl | exact lsq) | refine a_seq ?_ | refine a_region ?_ | refine o_nil ?_ | refine a_block ?_ | refine a_ret ?_ | refine a_exit ?_ | refine a_skip ?_ | refine a_draw mixed ?_ | refine d_nil (by kernel_rfl) ?_ | refine o_yes rfl rfl rfl ?_ | refine o_no rfl rfl rfl (by decide) ?_ | refine o_no' rfl rfl rfl ?_ | refine a_condT rfl ?_ | refine a_condF rfl ?_ | refine d_no rfl rfl rfl (by decide) ?_ | refine d_no' rfl rfl rfl ?_ | (refine wq2 (fun hb => ?_) (fun hb => ?_) <;> (simp only [hb]; try simp only [hbs, ne_eq] at hb; try (exfalso; first | omega | exact hb trivial))) | fail)
     refine ⟨⟨q + 1, by omega⟩, by dsimp only; omega, ?_⟩
     refine ⟨by repeat' (first | exact trivial | exact FinA.one (FinB.cell (FinC.same rfl)) | exact FinA.one (FinB.cell FinC.nil) | exact FinA.bound rfl | exact FinA.one (FinB.cell (FinC.own rfl rfl rfl rfl)) | exact FinA.one (FinB.cell (FinC.v (by first | rfl | (((try dsimp only); first | rfl | (congr 1 <;> omega)))))) | exact FinA.one (FinB.cell (FinC.ow rfl (by first | rfl | (((try dsimp only); first | rfl | (congr 1 <;> omega)))))) | exact FinA.one (FinB.agg' rfl rfl) | refine ⟨⟨_, rfl, ?_⟩, ?_⟩), by repeat' (first | exact trivial | refine ⟨⟨_, rfl, by first | rfl | (((try dsimp only); first | rfl | (congr 1 <;> omega)); done) | (simp [renO, *]; done)⟩, by first | rfl | assumption, ?_⟩), rfl⟩
    ·have h1' : ¬ (xs.length : Int) = 1 := by omega
     repeat' (first | ((first | apply o_do | apply d_do | apply d_yes rfl rfl rfl); exact lsq) | refine a_seq ?_ | refine a_region ?_ | refine o_nil ?_ | refine a_block ?_ | refine a_ret ?_ | refine a_exit ?_ | refine a_skip ?_ | refine a_draw mixed ?_ | refine d_nil (by kernel_rfl) ?_ | refine o_yes rfl rfl rfl ?_ | refine o_no rfl rfl rfl (by decide) ?_ | refine o_no' rfl rfl rfl ?_ | refine a_condT rfl ?_ | refine a_condF rfl ?_ | refine d_no rfl rfl rfl (by decide) ?_ | refine d_no' rfl rfl rfl ?_ | (refine wq2 (fun hb => ?_) (fun hb => ?_) <;> (simp only [hb]; try simp only [hbs, ne_eq] at hb; try (exfalso; first | omega | exact hb trivial))) | fail)
     refine ⟨⟨q + 1, by omega⟩, by dsimp only; omega, ?_⟩
     refine ⟨by repeat' (first | exact trivial | exact FinA.one (FinB.cell (FinC.same rfl)) | exact FinA.one (FinB.cell FinC.nil) | exact FinA.bound rfl | exact FinA.one (FinB.cell (FinC.own rfl rfl rfl rfl)) | exact FinA.one (FinB.cell (FinC.v (by first | rfl | (((try dsimp only); first | rfl | (congr 1 <;> omega)))))) | exact FinA.one (FinB.cell (FinC.ow rfl (by first | rfl | (((try dsimp only); first | rfl | (congr 1 <;> omega)))))) | exact FinA.one (FinB.agg' rfl rfl) | refine ⟨⟨_, rfl, ?_⟩, ?_⟩), by repeat' (first | exact trivial | refine ⟨⟨_, rfl, by first | rfl | (((try dsimp only); first | rfl | (congr 1 <;> omega)); done) | (simp [renO, *]; done)⟩, by first | rfl | assumption, ?_⟩), rfl⟩
  ·obtain rfl : q = G := by omega
   have hv2 : decide (v < (q : Int)) = true := decide_eq_true hv1
   repeat' (first | ((first | apply o_do | apply d_do | apply d_yes rfl rfl rfl); first | exact lsc (hG) | exact lsc (ha) | exact lsq) | refine a_seq ?_ | refine a_region ?_ | refine o_nil ?_ | refine a_block ?_ | refine a_ret ?_ | refine a_exit ?_ | refine a_skip ?_ | refine a_draw mixed ?_ | refine d_nil (by kernel_rfl) ?_ | refine o_yes rfl rfl rfl ?_ | refine o_no rfl rfl rfl (by decide) ?_ | refine o_no' rfl rfl rfl ?_ | refine a_condT rfl ?_ | refine a_condF rfl ?_ | refine d_no rfl rfl rfl (by decide) ?_ | refine d_no' rfl rfl rfl ?_ | (refine wq2 (fun hb => ?_) (fun hb => ?_) <;> (simp only [hb]; try simp only [hbs, ne_eq] at hb; try (exfalso; first | omega | exact hb trivial))) | fail)
   refine rq rfl ?_
   (first | refine FinA.tup ?_ | refine FinA.one ?_); repeat' (first | exact FinBs.nil | exact FinCs.nil | refine FinBs.cons ?_ ?_ | refine FinCs.cons ?_ ?_ | refine FinB.cell (FinC.v ?_) | refine FinB.cell (FinC.own rfl rfl rfl ?_) | exact FinB.cell FinC.nil | refine FinB.cell (FinC.sl ?_) | exact FinB.agg' rfl rfl | exact FinB.cell (FinC.same rfl) | refine FinB.agg ?_ | refine FinC.v ?_ | refine FinC.own rfl rfl rfl ?_ | exact FinC.nil | refine FinC.sl ?_ | exact FinC.same rfl); all_goals try rfl
   all_goals (rw [hv2])
end Go.Proofs.YtcfidmdkioccdaaDoor
namespace Go.Proofs.YtcfidmdkioccdaaDoor
open Go.RowKit
def putT (cs : List Value) : Obj → Obj
 | .cells _ t fr => .cells cs.toArray t fr
 | o => o
noncomputable def laidW (os : Os) : World :=
 { World.holding Tryd.prog os ⟨#[], #[], []⟩ with heap := (((World.holding Tryd.prog os ⟨#[], #[], []⟩).heap.modify 1 (putT (([0, 1, 28, 2, 29, 14, 24, 3, 30, 22, 20, 15, 25, 17, 4, 8, 31, 27, 13, 23, 21, 19, 16, 7, 26, 12, 18, 6, 11, 5, 10, 9] : List Int).map fun z => Value.int .u8 z))).modify 2 (putT (([0, 1, 56, 2, 57, 49, 28, 3, 61, 58, 42, 50, 38, 29, 17, 4, 62, 47, 59, 36, 45, 43, 51, 22, 53, 39, 33, 30, 24, 18, 12, 5, 63, 55, 48, 27, 60, 41, 37, 16, 46, 35, 44, 21, 52, 32, 23, 11, 54, 26, 40, 15, 34, 20, 31, 10, 25, 14, 19, 9, 13, 8, 7, 6] : List Int).map fun z => Value.int .u8 z))).modify 0 (putT (([1, 10, 100, 1000, 10000, 100000, 1000000, 10000000, 100000000, 1000000000, 10000000000, 100000000000, 1000000000000, 10000000000000, 100000000000000, 1000000000000000, 10000000000000000, 100000000000000000, 1000000000000000000, 10000000000000000000] : List Int).map fun z => Value.int .u64 z)) }
end Go.Proofs.YtcfidmdkioccdaaDoor
namespace Go.Proofs.YtcfidmdkioccdaaDoor
open Go.RowKit
attribute [local go_sem ↓] Go.wp_at_zero Go.wp_at_succ

structure Ev where
 key : ByteArray
 at_ : Int
 val : Int
def Ev.cells (e : Ev) : List Value := [.string e.key, .int .i64 e.at_, .int .i64 e.val]

structure Pn where
 lo : Int
 hi : Int
 key : ByteArray
 n : Int
 a : Int
 b : Int
def Pn.cells (p : Pn) : List Value := [.int .i64 p.lo, .int .i64 p.hi, .string p.key, .int .i64 p.n, .int .i64 p.a, .int .i64 p.b]
def sless (s t : ByteArray) : Bool := Op.bytesLess s.toList t.toList
def ahead (p q : Pn) : Bool := if p.hi ≠ q.hi then decide (p.hi < q.hi) else if p.lo ≠ q.lo then decide (p.lo < q.lo) else sless p.key q.key
def sameP (p q : Pn) : Prop := p.hi = q.hi ∧ p.lo = q.lo ∧ p.key = q.key
instance (p q : Pn) : Decidable (sameP p q) := by unfold sameP; exact inferInstance
theorem sameP.symm {p q : Pn} (h : sameP p q) : sameP q p := ⟨h.1.symm, h.2.1.symm, h.2.2.symm⟩
theorem sameP.left {p q r : Pn} (h : sameP p q) : ahead p r = ahead q r := by
 obtain ⟨h1, h2, h3⟩ := h
 simp [ahead, h1, h2, h3]
theorem sameP.right {p q r : Pn} (h : sameP p q) : ahead r p = ahead r q := by
 obtain ⟨h1, h2, h3⟩ := h
 simp [ahead, h1, h2, h3]
def Pn.av (p : Pn) : List AV := [.v (.int .i64 p.lo), .v (.int .i64 p.hi), .v (.string p.key), .v (.int .i64 p.n), .v (.int .i64 p.a), .v (.int .i64 p.b)]
structure Rs where
 lo : Int
 hi : Int
 key : ByteArray
 n : Int
 val : Int
def Rs.av (r : Rs) : List AV := [.v (.int .i64 r.lo), .v (.int .i64 r.hi), .v (.string r.key), .v (.int .i64 r.n), .v (.int .i64 r.val)]
end Go.Proofs.YtcfidmdkioccdaaDoor
namespace Go.Proofs.YtcfidmdkioccdaaDoor
open Go.RowKit Go.WideShapes Go.ChangeShapes Go.ChangeAt

section
variable {H : Type} {enc : TypeId × Value → H} {P : Program}
theorem cell_lt {w : World} {b o : Nat} {u : Value} (h : w.cell? ⟨b, o, none⟩ = some u) : b < w.heap.size := by
 rcases Nat.lt_or_ge b w.heap.size with h1 | h1
 ·exact h1
 ·simp [World.cell?, Array.getElem?_eq_none h1] at h

theorem open_rows {α : Type} {w : World} {t e : TypeId} {size fuel : Nat} {cs : List Value} {x : DataW H × List MemPlace} (cells : α → List Value) (Ok : α → Prop) (ht : P.underlying t = some (.slice e)) (hC : P.cellsOf e = size) (hsz : 0 < size)
  (hel : ∀ (n : Nat) (cs : List Value) (y : DataW H × List MemPlace), cs.length = size → DataW.trod enc P w 0 (fun _ => true) true n e cs = some y → ∃ x, cs = cells x ∧ Ok x)
  (h : DataW.trod enc P w 0 (fun _ => true) true fuel t cs = some x) :
  ∃ (A : Option Addr) (n c : Nat) (xs : List α), cs = [.slice A n c] ∧ n ≤ c ∧ c ≤ 9223372036854775807 ∧ n = xs.length ∧ Reads w w.heap.size size A n (xs.flatMap cells) ∧ ∀ x ∈ xs, Ok x := by
 rcases Go.Deep.open_slice ht h with ⟨rfl, _⟩ | ⟨a, n, c, m, fu, D, Pl, rfl, _, hnc, hcm, hm, _, hx⟩
 ·exact ⟨none, 0, 0, [], rfl, Nat.le_refl _, by omega, rfl, Reads.none_, by simp⟩
 ·subst hC
  have hm' : m = c := by simpa using hm
  subst hm'
  have key : ∀ k, k ≤ n → ∃ xs : List α, xs.length = k ∧ (xs.flatMap cells).length = k * P.cellsOf e ∧ (∀ j u, (xs.flatMap cells)[j]? = some u → w.cell? (a.add j) = some u) ∧ ∀ x ∈ xs, Ok x := by
   intro k
   induction k with
   | zero => intro _; exact ⟨[], rfl, by simp, by simp, by simp⟩
   | succ k ih =>
    intro hk
    obtain ⟨xs, h1, h2, h3, h4⟩ := ih (by omega)
    obtain ⟨cs', hc', ht'⟩ := hx k (by omega)
    obtain ⟨_, hl, hat⟩ := World.cells?_some hc'
    obtain ⟨x, rfl, hok⟩ := hel _ _ _ hl ht'
    refine ⟨xs ++ [x], by simp [h1], by simp [h2, hl, Nat.add_mul], ?_, ?_⟩
    ·intro j u hu
     simp only [List.flatMap_append, List.flatMap_cons, List.flatMap_nil, List.append_nil] at hu
     rcases Nat.lt_or_ge j (k * P.cellsOf e) with hj | hj
     ·rw [List.getElem?_append_left (by omega)] at hu
      exact h3 j u hu
     ·rw [List.getElem?_append_right (by omega), h2] at hu
      have hj2 : j - k * P.cellsOf e < P.cellsOf e := by
       have h6 := (List.getElem?_eq_some_iff.1 hu).1
       rw [hl] at h6
       exact h6
      have h5 := hat _ hj2
      rw [hu, Go.Deep.add_add] at h5
      rw [← h5]
      congr 2
      omega
    ·intro y hy
     simp only [List.mem_append, List.mem_singleton] at hy
     rcases hy with hy | rfl
     ·exact h4 y hy
     ·exact hok
  obtain ⟨xs, h1, h2, h3, h4⟩ := key n (Nat.le_refl _)
  refine ⟨some a, n, m, xs, rfl, hnc, by simpa [maxLen] using hcm, h1.symm, ⟨h2, fun hn => ?_⟩, h4⟩
  have hpos : 0 < (xs.flatMap cells).length := by rw [h2]; exact Nat.mul_pos hn hsz
  have h0 := h3 0 _ (List.getElem?_eq_getElem hpos)
  obtain ⟨b, off, spot⟩ := a
  have hspot : spot = none := by simpa [Addr.add] using World.cell?_spot h0
  subst hspot
  refine ⟨b, off, rfl, ?_, fun j u hu => ?_⟩
  ·exact cell_lt (o := off) (by simpa [Addr.add] using h0)
  ·rw [← Go.WideShapes.add_plain]; exact h3 j u hu

theorem open_rows_arg {α : Type} {w : World} {b0 : Nat} {t e : TypeId} {size : Nat} {v : Value} {d : DataW H} {ps : List MemPlace} (cells : α → List Value) (Ok : α → Prop) (ht : P.underlying t = some (.slice e)) (hC : P.cellsOf e = size) (hsz : 0 < size)
  (hel : ∀ (n : Nat) (cs : List Value) (y : DataW H × List MemPlace), cs.length = size → DataW.trod enc P w 0 (fun _ => true) true n e cs = some y → ∃ x, cs = cells x ∧ Ok x)
  (hv : Value.okWide P w .any b0 t v) (h : DataW.Trod enc P w 0 (fun _ => true) true t v d ps) :
  ∃ (A : Option Addr) (n c : Nat) (xs : List α), v = .slice A n c ∧ n ≤ c ∧ c ≤ 9223372036854775807 ∧ n = xs.length ∧ Reads w w.heap.size size A n (xs.flatMap cells) ∧ ∀ x ∈ xs, Ok x := by
 obtain ⟨a, l, c, rfl⟩ := okWide_slice ht hv
 obtain ⟨fuel, hf⟩ := h
 obtain ⟨A, n, c', xs, hcs, r⟩ := open_rows cells Ok ht hC hsz hel hf
 simp only [Value.cells, List.cons.injEq, and_true] at hcs
 exact ⟨A, n, c', xs, hcs, r⟩

theorem wf_i64 {x : Int} (h : (Lit.int .i64 x).wf = true) : -9223372036854775808 ≤ x ∧ x ≤ 9223372036854775807 := by
 simpa [Lit.wf, IntKind.min, IntKind.max, IntKind.signed, IntKind.bits] using h
theorem el_i64 {w : World} {e : TypeId} (he : P.underlying e = some (.int .i64)) : ∀ (n : Nat) (cs : List Value) (y : DataW H × List MemPlace), cs.length = 1 → DataW.trod enc P w 0 (fun _ => true) true n e cs = some y →
  ∃ x : Int, cs = [Value.int .i64 x] ∧ (-9223372036854775808 ≤ x ∧ x ≤ 9223372036854775807) := by
 intro n cs y _ h
 obtain ⟨x, rfl, _, hw⟩ := DataW.trod_int he h
 exact ⟨x, rfl, wf_i64 hw⟩

theorem trodAll_below (hl : laidOutB P = true) {W W' : World} (hb : Below W.heap.size W W') :
  ∀ {ts : List TypeId} {vs : List Value} {ds : List (DataW H)} {ps : List MemPlace}, (∀ t ∈ ts, P.readableRec t = true ∧ t < P.types.size) →
   DataW.TrodAll enc P W 0 (fun _ => true) true ts vs ds ps → (∀ x ∈ ps, x.block < W.heap.size) →
   DataW.TrodAll enc P W' 0 (fun b => decide (b < W.heap.size)) true ts vs ds ps := by
 intro ts
 induction ts with
 | nil =>
  intro vs ds ps _ h _
  obtain ⟨rfl, rfl, rfl⟩ := trodAll_nil h
  exact trodAll_mk0
 | cons t ts ih =>
  intro vs ds ps hts h hlt
  obtain ⟨v, vs', d, ds', p, q, rfl, rfl, rfl, h0, h1⟩ := trodAll_cons h
  have ht := hts t (by simp)
  exact trodAll_cons_mk (hb.trod hl ht.1 ht.2 h0 (fun x hx => hlt x (by simp [hx]))) (ih (fun t h => hts t (by simp [h])) h1 (fun x hx => hlt x (by simp [hx])))

theorem rd_of {ts : List TypeId} (h : (ts.all fun t => P.readableRec t && decide (t < P.types.size)) = true) : ∀ t ∈ ts, P.readableRec t = true ∧ t < P.types.size := by
 intro t ht
 have := List.all_eq_true.1 h t ht
 simpa using this

theorem post_law {f : Func} {s : ChangeSpec} {W W' : World} {args : Array Value} {ds gs : List (DataW H)} {before : List MemPlace} {tb : TypeId}
  (hl : laidOutB P = true) (hrd : ∀ t ∈ f.params.toList, P.readableRec t = true ∧ t < P.types.size) (hv : s.vars = []) (hres : f.resultTypes = #[tb]) (htb : P.underlying tb = some .bool)
  (hW : DataW.Whole enc P f.params.toList s.vars false W args.toList ds gs before)
  (hs : s.fn H (ds ++ gs) = { results := [.lit (.bool true)], args := ds })
  (hb : Below W.heap.size W W') : s.post enc P f false true false false W args (.bool true) W' := by
 have hlt : ∀ p ∈ before, p.block < W.heap.size := fun p hp => hW.lt p hp
 have hW0 := hW
 obtain ⟨p, q, hA, hV, rfl, hz, hn⟩ := hW0
 refine ⟨ds, gs, p ++ q, [], p, [], hW, ?_, ?_, ?_, hb.frame _, fun h => by cases h⟩
 ·rw [hs, hres]
  exact trodAll_cons_mk (shut_bool htb true) trodAll_mk0
 ·rw [hs]
  exact trodAll_below hl hb hrd hA (fun x hx => hlt x (by simp [hx]))
 ·rw [hs, hv]
  rfl
end
end Go.Proofs.YtcfidmdkioccdaaDoor
namespace Go.Proofs.YtcfidmdkioccdaaDoor
open Go.RowKit Go.WideShapes Go.ChangeShapes Go.ChangeAt
theorem A_laidOut : laidOutB Tryd.prog = true := by kernel_rfl
theorem rep_int {w : World} {x : Int} : rep [] (fun _ => undef) w (fun _ => False) (.v (.int .i64 x)) (.int .i64 x) := by simp [rep, scal]
theorem rep_str {w : World} {x : ByteArray} : rep [] (fun _ => undef) w (fun _ => False) (.v (.string x)) (.string x) := by simp [rep, scal]
end Go.Proofs.YtcfidmdkioccdaaDoor
namespace Go.Proofs.YtcfidmdkioccdaaDoor
open Go.RowKit Go.WideShapes Go.ChangeShapes Go.ChangeAt
end Go.Proofs.YtcfidmdkioccdaaDoor
namespace Go.Proofs.YtcfidmdkioccdaaDoor
open Go.RowKit Go.WideShapes Go.ChangeShapes Go.ChangeAt
set_option maxRecDepth 100000 in
theorem open_ints1_arg {H : Type} {enc : TypeId × Value → H} {w : World} {b0 : Nat} {v : Value} {d : DataW H} {ps : List MemPlace} (hv : Value.okWide Tryd.prog w .any b0 22 v) (h : DataW.Trod enc Tryd.prog w 0 (fun _ => true) true 22 v d ps) :
  ∃ xs : List Int, xs.length ≤ 9223372036854775807 ∧ rep [] (fun _ => undef) w (fun _ => False) (.sl 1 (xs.map fun x => [AV.v (.int .i64 x)])) v := by
 obtain ⟨A, n, c, xs, rfl, h2, h3, h4, h5, h6⟩ := open_rows_arg (fun x : Int => [Value.int .i64 x]) (fun x => (-9223372036854775808 ≤ x ∧ x ≤ 9223372036854775807)) Tryd.underlying22 (by kernel_rfl : Tryd.prog.cellsOf 3 = 1) (by omega) (el_i64 Tryd.underlying3) hv h
 exact ⟨xs, by omega, rep_sl (fun x : Int => [Value.int .i64 x]) (fun x => [AV.v (.int .i64 x)]) h5 h4 h2 h3 (fun _ => rfl) (fun x _ => repC_con (cs := [Value.int .i64 x]) rfl)⟩
end Go.Proofs.YtcfidmdkioccdaaDoor
