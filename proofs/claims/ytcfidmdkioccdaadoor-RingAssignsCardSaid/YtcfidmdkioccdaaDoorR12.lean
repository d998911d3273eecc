/-
  'clepsydralaw11.RingAssigns' returns true for every input.
-/
import Derived.LaidLaws
import Derived.LaidHandle
import Derived.LaidSub
import Derived.Lib.LaidTab
import Derived.RowKit
import Derived.Laws.Cover1
import Derived.ProofKit
import Derived.OpenShut
import Derived.JoinedCond
import Derived.Carry
import Derived.Deep.Slices
import GoSem.Claim
import GoSem.ClaimJoined
import Derived.ChangeSame
import Derived.ChangeVars
import Derived.JoinedOf
import Derived.Stop.Joined
import Derived.SevenTiedAt
import Derived.Test.YtcfidmdkioccdaaDoorTie
import Derived.Test.YtcfidmdkioccdaaDoorRows
import Derived.Test.YtcfidmdkioccdaaDoorCards
import Derived.Test.YtcfidmdkioccdaaDoorR1
import Derived.Test.YtcfidmdkioccdaaDoorR4
import Derived.Test.YtcfidmdkioccdaaDoorR11
set_option linter.unusedSimpArgs false
set_option linter.unusedVariables false
set_option maxHeartbeats 20000000
namespace Go.Proofs.YtcfidmdkioccdaaDoor
open Go.RowKit
theorem p_IntsSame (xs : List Int) (hl : xs.length ≤ 1000) : PC Tryd.prog 11 [.sl 1 (xs.map iI), .sl 1 (xs.map iI)] (.v (.bool true)) := by
 have hll : ((xs.map iI).length : Int) = (xs.length : Int) := by simp
 refine PC.mk (ac_body tab_ok Tryd.func11 rfl (by kernel_rfl) rfl ?_); intro w0 M μ0; simp only [Tryd.ntmps11, List.length_cons, List.length_nil, Nat.reduceAdd, Nat.reduceSub, numb]
 repeat' (first | ((first | apply o_do | apply d_do | apply d_yes rfl rfl rfl); exact lsq) | refine a_seq ?_ | refine a_region ?_ | refine o_nil ?_ | refine a_block ?_ | refine a_ret ?_ | refine a_exit ?_ | refine a_skip ?_ | refine a_draw mixed ?_ | refine d_nil (by kernel_rfl) ?_ | refine o_yes rfl rfl rfl ?_ | refine o_no rfl rfl rfl (by decide) ?_ | refine o_no' rfl rfl rfl ?_ | refine a_condT rfl ?_ | refine a_condF rfl ?_ | refine d_no rfl rfl rfl (by decide) ?_ | refine d_no' rfl rfl rfl ?_ | (refine wq2 (fun hb => ?_) (fun hb => ?_) <;> (simp only [hb]; try simp only [hbs, ne_eq] at hb; try (exfalso; first | omega | exact hb trivial))) | fail)
 refine a_loop (X := {q : Nat // q ≤ xs.length})
  (fun q => ⟨[(0, .sl 1 (xs.map iI)), (1, .sl 1 (xs.map iI)), (12, .v (.int .i64 xs.length)), (13, .v (.int .i64 q.1))], []⟩) (fun q => xs.length - q.1) ⟨0, Nat.zero_le _⟩ ?_ ?_
 ·refine ⟨by repeat' (first | exact trivial | exact FinA.one (FinB.cell (FinC.same rfl)) | exact FinA.one (FinB.cell FinC.nil) | exact FinA.bound rfl | exact FinA.one (FinB.cell (FinC.own rfl rfl rfl rfl)) | exact FinA.one (FinB.cell (FinC.v (by first | rfl | (((try dsimp only); first | rfl | (congr 1 <;> omega)))))) | exact FinA.one (FinB.cell (FinC.ow rfl (by first | rfl | (((try dsimp only); first | rfl | (congr 1 <;> omega)))))) | exact FinA.one (FinB.agg' rfl rfl) | refine ⟨⟨_, rfl, ?_⟩, ?_⟩), by repeat' (first | exact trivial | refine ⟨⟨_, rfl, by first | rfl | (((try dsimp only); first | rfl | (congr 1 <;> omega)); done) | (simp [renO, *]; done)⟩, by first | rfl | assumption, ?_⟩), rfl⟩
 rintro ⟨q, hq⟩
 dsimp only
 by_cases hlt : q < xs.length
 ·have hel := iI_at hlt
  have hlt' : (q : Int) < (xs.length : Int) := by omega
  generalize xs.getD q 0 = x at *
  repeat' (first | ((first | apply o_do | apply d_do | apply d_yes rfl rfl rfl); first | exact ls_indexAddr_sl tab_ok rfl rfl rfl rfl hel rfl | exact lsq) | refine a_seq ?_ | refine a_region ?_ | refine o_nil ?_ | refine a_block ?_ | refine a_ret ?_ | refine a_exit ?_ | refine a_skip ?_ | refine a_draw mixed ?_ | refine d_nil (by kernel_rfl) ?_ | refine o_yes rfl rfl rfl ?_ | refine o_no rfl rfl rfl (by decide) ?_ | refine o_no' rfl rfl rfl ?_ | refine a_condT rfl ?_ | refine a_condF rfl ?_ | refine d_no rfl rfl rfl (by decide) ?_ | refine d_no' rfl rfl rfl ?_ | (refine wq2 (fun hb => ?_) (fun hb => ?_) <;> (simp only [hb]; try simp only [hbs, ne_eq] at hb; try (exfalso; first | omega | exact hb trivial))) | fail)
  refine ⟨⟨q + 1, by omega⟩, by dsimp only; omega, ?_⟩
  refine ⟨by repeat' (first | exact trivial | exact FinA.one (FinB.cell (FinC.same rfl)) | exact FinA.one (FinB.cell FinC.nil) | exact FinA.bound rfl | exact FinA.one (FinB.cell (FinC.own rfl rfl rfl rfl)) | exact FinA.one (FinB.cell (FinC.v (by first | rfl | (((try dsimp only); first | rfl | (congr 1 <;> omega)))))) | exact FinA.one (FinB.cell (FinC.ow rfl (by first | rfl | (((try dsimp only); first | rfl | (congr 1 <;> omega)))))) | exact FinA.one (FinB.agg' rfl rfl) | refine ⟨⟨_, rfl, ?_⟩, ?_⟩), by repeat' (first | exact trivial | refine ⟨⟨_, rfl, by first | rfl | (((try dsimp only); first | rfl | (congr 1 <;> omega)); done) | (simp [renO, *]; done)⟩, by first | rfl | assumption, ?_⟩), rfl⟩
 ·obtain rfl : q = xs.length := by omega
  repeat' (first | ((first | apply o_do | apply d_do | apply d_yes rfl rfl rfl); exact lsq) | refine a_seq ?_ | refine a_region ?_ | refine o_nil ?_ | refine a_block ?_ | refine a_ret ?_ | refine a_exit ?_ | refine a_skip ?_ | refine a_draw mixed ?_ | refine d_nil (by kernel_rfl) ?_ | refine o_yes rfl rfl rfl ?_ | refine o_no rfl rfl rfl (by decide) ?_ | refine o_no' rfl rfl rfl ?_ | refine a_condT rfl ?_ | refine a_condF rfl ?_ | refine d_no rfl rfl rfl (by decide) ?_ | refine d_no' rfl rfl rfl ?_ | (refine wq2 (fun hb => ?_) (fun hb => ?_) <;> (simp only [hb]; try simp only [hbs, ne_eq] at hb; try (exfalso; first | omega | exact hb trivial))) | fail)
  refine rq rfl ?_
  exact fnq
theorem p_IntsNil : PC Tryd.prog 11 [.v (.slice none 0 0), .v (.slice none 0 0)] (.v (.bool true)) := by
 refine PC.mk (ac_body tab_ok Tryd.func11 rfl (by kernel_rfl) rfl ?_); intro w0 M μ0; simp only [Tryd.ntmps11, List.length_cons, List.length_nil, Nat.reduceAdd, Nat.reduceSub, numb]
 repeat' (first | ((first | apply o_do | apply d_do | apply d_yes rfl rfl rfl); exact lsq) | refine a_seq ?_ | refine a_region ?_ | refine o_nil ?_ | refine a_block ?_ | refine a_ret ?_ | refine a_exit ?_ | refine a_skip ?_ | refine a_draw mixed ?_ | refine d_nil (by kernel_rfl) ?_ | refine o_yes rfl rfl rfl ?_ | refine o_no rfl rfl rfl (by decide) ?_ | refine o_no' rfl rfl rfl ?_ | refine a_condT rfl ?_ | refine a_condF rfl ?_ | refine d_no rfl rfl rfl (by decide) ?_ | refine d_no' rfl rfl rfl ?_ | (refine wq2 (fun hb => ?_) (fun hb => ?_) <;> (simp only [hb]; try simp only [hbs, ne_eq] at hb; try (exfalso; first | omega | exact hb trivial))) | fail)
 refine a_loop (X := Unit) (fun _ => ⟨[(12, .v (.int .i64 0)), (13, .v (.int .i64 0))], []⟩) (fun _ => 0) () ?_ ?_
 ·refine ⟨by repeat' (first | exact trivial | exact FinA.one (FinB.cell (FinC.same rfl)) | exact FinA.one (FinB.cell FinC.nil) | exact FinA.bound rfl | exact FinA.one (FinB.cell (FinC.own rfl rfl rfl rfl)) | exact FinA.one (FinB.cell (FinC.v (by first | rfl | (rfl)))) | exact FinA.one (FinB.cell (FinC.ow rfl (by first | rfl | (rfl)))) | exact FinA.one (FinB.agg' rfl rfl) | refine ⟨⟨_, rfl, ?_⟩, ?_⟩), by repeat' (first | exact trivial | refine ⟨⟨_, rfl, by first | rfl | (rfl; done) | (simp [renO, *]; done)⟩, by first | rfl | assumption, ?_⟩), rfl⟩
 intro _
 repeat' (first | ((first | apply o_do | apply d_do | apply d_yes rfl rfl rfl); exact lsq) | refine a_seq ?_ | refine a_region ?_ | refine o_nil ?_ | refine a_block ?_ | refine a_ret ?_ | refine a_exit ?_ | refine a_skip ?_ | refine a_draw mixed ?_ | refine d_nil (by kernel_rfl) ?_ | refine o_yes rfl rfl rfl ?_ | refine o_no rfl rfl rfl (by decide) ?_ | refine o_no' rfl rfl rfl ?_ | refine a_condT rfl ?_ | refine a_condF rfl ?_ | refine d_no rfl rfl rfl (by decide) ?_ | refine d_no' rfl rfl rfl ?_ | (refine wq2 (fun hb => ?_) (fun hb => ?_) <;> (simp only [hb]; try simp only [hbs, ne_eq] at hb; try (exfalso; first | omega | exact hb trivial))) | fail)
 refine rq rfl ?_
 exact fnq
theorem p_alive11 : PC Tryd.prog 8 [] (.v (.bool true)) := by
 have hr : PC Tryd.prog 9 [.sl 1 [[.v (.int .i64 1)]]] (.v (.bool true)) := p_Right [1] (by decide)
 refine PC.mk (ac_body tab_ok Tryd.func8 rfl (by kernel_rfl) rfl ?_); intro w0 M μ0; simp only [Tryd.ntmps8, List.length_cons, List.length_nil, Nat.reduceAdd, Nat.reduceSub, numb]
 repeat' (first | ((first | apply o_do | apply d_do | apply d_yes rfl rfl rfl); first | exact lcs (hr) | exact lsq) | refine a_seq ?_ | refine a_region ?_ | refine o_nil ?_ | refine a_block ?_ | refine a_ret ?_ | refine a_exit ?_ | refine a_skip ?_ | refine a_draw mixed ?_ | refine d_nil (by kernel_rfl) ?_ | refine o_yes rfl rfl rfl ?_ | refine o_no rfl rfl rfl (by decide) ?_ | refine o_no' rfl rfl rfl ?_ | refine a_condT rfl ?_ | refine a_condF rfl ?_ | refine d_no rfl rfl rfl (by decide) ?_ | refine d_no' rfl rfl rfl ?_ | (refine wq2 (fun hb => ?_) (fun hb => ?_) <;> (simp only [hb]; try simp only [hbs, ne_eq] at hb; try (exfalso; first | omega | exact hb trivial))) | fail)
 refine rq rfl ?_
 exact fnq
set_option maxRecDepth 10000 in
theorem r_assigns0 (xs : List Int) (g : Int) (hl : xs.length ≤ 100) : PC Tryd.prog 3 [.sl 1 (xs.map iI), .v (.int .i64 g)] (.v (.bool true)) := by
 have hll : ((xs.map iI).length : Int) = (xs.length : Int) := by simp
 have ha := p_alive11
 have h1 := p_Right xs (by omega)
 have h2 := p_rRight xs (by omega)
 by_cases hno : rightW xs = false ∨ g < 1 ∨ 32 < g
 ·have hA := p_AssignNo xs g (by omega) hno
  have hB := p_rAssignNo xs g (by omega) hno
  have hN := p_IntsNil
  generalize asgE xs g = e at *
  generalize rightW xs = r at *
  cases r
  all_goals
   refine PC.mk (ac_body tab_ok Tryd.func3 rfl (by kernel_rfl) rfl ?_); intro w0 M μ0; simp only [Tryd.ntmps3, List.length_cons, List.length_nil, Nat.reduceAdd, Nat.reduceSub, numb]
   repeat' (first | ((first | apply o_do | apply d_do | apply d_yes rfl rfl rfl); first | exact lsc (hA) | exact lsc (hB) | exact lsc (hN) | exact lsc (ha) | exact lsc (h1) | exact lsc (h2) | exact lsq) | refine a_seq ?_ | refine a_region ?_ | refine o_nil ?_ | refine a_block ?_ | refine a_ret ?_ | refine a_exit ?_ | refine a_skip ?_ | refine a_draw mixed ?_ | refine d_nil (by kernel_rfl) ?_ | refine o_yes rfl rfl rfl ?_ | refine o_no rfl rfl rfl (by decide) ?_ | refine o_no' rfl rfl rfl ?_ | refine a_condT rfl ?_ | refine a_condF rfl ?_ | refine d_no rfl rfl rfl (by decide) ?_ | refine d_no' rfl rfl rfl ?_ | (refine wq2 (fun hb => ?_) (fun hb => ?_) <;> (simp only [hb]; try simp only [hbs, ne_eq] at hb; try (exfalso; first | omega | exact hb trivial))) | fail)
   all_goals refine rq rfl ?_
   all_goals exact fnq
 ·have hR : rightW xs = true := by
   cases h : rightW xs
   ·exact absurd (.inl h) hno
   ·rfl
  have hg1 : ¬ g < 1 := fun h => hno (.inr (.inl h))
  have hg2 : ¬ 32 < g := fun h => hno (.inr (.inr h))
  obtain ⟨ws, rfl, w1, w2, w3⟩ := right_nat hR
  obtain ⟨G, rfl⟩ : ∃ G : Nat, g = (G : Int) := ⟨g.toNat, by omega⟩
  have hA := a_Assign ws G hR w1 w2 w3 (by omega) (by omega)
  have hB := a_rAssign ws G hR w1 w2 w3 (by omega) (by omega)
  have hI := p_IntsSame (asgL ws G) (by rw [asgL_len]; omega)
  rw [hR] at h1 h2
  rw [iV_iI] at *
  generalize (asgL ws G).map iI = T at *
  clear hno hR
  refine PC.mk (ac_body tab_ok Tryd.func3 rfl (by kernel_rfl) rfl ?_); intro w0 M μ0; simp only [Tryd.ntmps3, List.length_cons, List.length_nil, Nat.reduceAdd, Nat.reduceSub, numb]
  repeat' (first | ((first | apply o_do | apply d_do | apply d_yes rfl rfl rfl); first | exact lca [] 10 hA | exact lca [] 20 hB | exact lcs (hI) | exact lsc (ha) | exact lsc (h1) | exact lsc (h2) | exact lsq) | refine a_seq ?_ | refine a_region ?_ | refine o_nil ?_ | refine a_block ?_ | refine a_ret ?_ | refine a_exit ?_ | refine a_skip ?_ | refine a_draw mixed ?_ | refine d_nil (by kernel_rfl) ?_ | refine o_yes rfl rfl rfl ?_ | refine o_no rfl rfl rfl (by decide) ?_ | refine o_no' rfl rfl rfl ?_ | refine a_condT rfl ?_ | refine a_condF rfl ?_ | refine d_no rfl rfl rfl (by decide) ?_ | refine d_no' rfl rfl rfl ?_ | (refine wq2 (fun hb => ?_) (fun hb => ?_) <;> (simp only [hb]; try simp only [hbs, ne_eq] at hb; try (exfalso; first | omega | exact hb trivial))) | fail)
  all_goals refine rq rfl ?_
  all_goals exact fnq
set_option maxRecDepth 10000 in
theorem r_assigns1 (ys : List Int) (g : Int) (hy : 100 < ys.length) (hy2 : ys.length ≤ 9223372036854775807) : PC Tryd.prog 3 [.sl 1 (ys.map iI), .v (.int .i64 g)] (.v (.bool true)) := by
 have hll : ((ys.map iI).length : Int) = (ys.length : Int) := by simp
 have hcut : 100 ≤ (ys.map iI).length := by simp; omega
 obtain ⟨xs, hxs⟩ : ∃ xs, xs = ys.take 100 := ⟨_, rfl⟩
 have hl : xs.length ≤ 100 := by rw [hxs, List.length_take]; omega
 have htk : (ys.map iI).take 100 = xs.map iI := by rw [hxs, List.map_take]
 clear hxs
 have ha := p_alive11
 have h1 := p_Right xs (by omega)
 have h2 := p_rRight xs (by omega)
 by_cases hno : rightW xs = false ∨ g < 1 ∨ 32 < g
 ·have hA := p_AssignNo xs g (by omega) hno
  have hB := p_rAssignNo xs g (by omega) hno
  have hN := p_IntsNil
  generalize asgE xs g = e at *
  generalize rightW xs = r at *
  rw [← htk] at hA hB h1 h2
  generalize ys.map iI = Y at *
  cases r
  all_goals
   refine PC.mk (ac_body tab_ok Tryd.func3 rfl (by kernel_rfl) rfl ?_); intro w0 M μ0; simp only [Tryd.ntmps3, List.length_cons, List.length_nil, Nat.reduceAdd, Nat.reduceSub, numb]
   repeat' (first | ((first | apply o_do | apply d_do | apply d_yes rfl rfl rfl); first | exact ls_slice_to (n := 100) tab_ok rfl rfl rfl rfl hcut rfl | exact lsc (hA) | exact lsc (hB) | exact lsc (hN) | exact lsc (ha) | exact lsc (h1) | exact lsc (h2) | exact lsq) | refine a_seq ?_ | refine a_region ?_ | refine o_nil ?_ | refine a_block ?_ | refine a_ret ?_ | refine a_exit ?_ | refine a_skip ?_ | refine a_draw mixed ?_ | refine d_nil (by kernel_rfl) ?_ | refine o_yes rfl rfl rfl ?_ | refine o_no rfl rfl rfl (by decide) ?_ | refine o_no' rfl rfl rfl ?_ | refine a_condT rfl ?_ | refine a_condF rfl ?_ | refine d_no rfl rfl rfl (by decide) ?_ | refine d_no' rfl rfl rfl ?_ | (refine wq2 (fun hb => ?_) (fun hb => ?_) <;> (simp only [hb]; try simp only [hbs, ne_eq] at hb; try (exfalso; first | omega | exact hb trivial))) | fail)
   all_goals refine rq rfl ?_
   all_goals exact fnq
 ·have hR : rightW xs = true := by
   cases h : rightW xs
   ·exact absurd (.inl h) hno
   ·rfl
  have hg1 : ¬ g < 1 := fun h => hno (.inr (.inl h))
  have hg2 : ¬ 32 < g := fun h => hno (.inr (.inr h))
  obtain ⟨ws, rfl, w1, w2, w3⟩ := right_nat hR
  obtain ⟨G, rfl⟩ : ∃ G : Nat, g = (G : Int) := ⟨g.toNat, by omega⟩
  have hA := a_Assign ws G hR w1 w2 w3 (by omega) (by omega)
  have hB := a_rAssign ws G hR w1 w2 w3 (by omega) (by omega)
  have hI := p_IntsSame (asgL ws G) (by rw [asgL_len]; omega)
  rw [hR] at h1 h2
  rw [iV_iI] at *
  generalize (asgL ws G).map iI = T at *
  clear hno hR
  rw [← htk] at hA hB h1 h2
  generalize ys.map iI = Y at *
  refine PC.mk (ac_body tab_ok Tryd.func3 rfl (by kernel_rfl) rfl ?_); intro w0 M μ0; simp only [Tryd.ntmps3, List.length_cons, List.length_nil, Nat.reduceAdd, Nat.reduceSub, numb]
  repeat' (first | ((first | apply o_do | apply d_do | apply d_yes rfl rfl rfl); first | exact ls_slice_to (n := 100) tab_ok rfl rfl rfl rfl hcut rfl | exact lca [] 10 hA | exact lca [] 20 hB | exact lcs (hI) | exact lsc (ha) | exact lsc (h1) | exact lsc (h2) | exact lsq) | refine a_seq ?_ | refine a_region ?_ | refine o_nil ?_ | refine a_block ?_ | refine a_ret ?_ | refine a_exit ?_ | refine a_skip ?_ | refine a_draw mixed ?_ | refine d_nil (by kernel_rfl) ?_ | refine o_yes rfl rfl rfl ?_ | refine o_no rfl rfl rfl (by decide) ?_ | refine o_no' rfl rfl rfl ?_ | refine a_condT rfl ?_ | refine a_condF rfl ?_ | refine d_no rfl rfl rfl (by decide) ?_ | refine d_no' rfl rfl rfl ?_ | (refine wq2 (fun hb => ?_) (fun hb => ?_) <;> (simp only [hb]; try simp only [hbs, ne_eq] at hb; try (exfalso; first | omega | exact hb trivial))) | fail)
  all_goals refine rq rfl ?_
  all_goals exact fnq
theorem r_assigns (xs : List Int) (g : Int) (hl : xs.length ≤ 9223372036854775807) : PC Tryd.prog 3 [.sl 1 (xs.map iI), .v (.int .i64 g)] (.v (.bool true)) := by
 rcases Nat.lt_or_ge 100 xs.length with h | h
 ·exact r_assigns1 xs g h hl
 ·exact r_assigns0 xs g h
end Go.Proofs.YtcfidmdkioccdaaDoor
namespace Go.Proofs.YtcfidmdkioccdaaDoor
open Go.RowKit
def putT (cs : List Value) : Obj → Obj
 | .cells _ t fr => .cells cs.toArray t fr
 | o => o
noncomputable def laidW (os : Os) : World :=
 { World.holding Tryd.prog os ⟨#[], #[], []⟩ with heap := (((World.holding Tryd.prog os ⟨#[], #[], []⟩).heap.modify 1 (putT (([0, 1, 28, 2, 29, 14, 24, 3, 30, 22, 20, 15, 25, 17, 4, 8, 31, 27, 13, 23, 21, 19, 16, 7, 26, 12, 18, 6, 11, 5, 10, 9] : List Int).map fun z => Value.int .u8 z))).modify 2 (putT (([0, 1, 56, 2, 57, 49, 28, 3, 61, 58, 42, 50, 38, 29, 17, 4, 62, 47, 59, 36, 45, 43, 51, 22, 53, 39, 33, 30, 24, 18, 12, 5, 63, 55, 48, 27, 60, 41, 37, 16, 46, 35, 44, 21, 52, 32, 23, 11, 54, 26, 40, 15, 34, 20, 31, 10, 25, 14, 19, 9, 13, 8, 7, 6] : List Int).map fun z => Value.int .u8 z))).modify 0 (putT (([1, 10, 100, 1000, 10000, 100000, 1000000, 10000000, 100000000, 1000000000, 10000000000, 100000000000, 1000000000000, 10000000000000, 100000000000000, 1000000000000000, 10000000000000000, 100000000000000000, 1000000000000000000, 10000000000000000000] : List Int).map fun z => Value.int .u64 z)) }
end Go.Proofs.YtcfidmdkioccdaaDoor
namespace Go.Proofs.YtcfidmdkioccdaaDoor
open Go.RowKit
attribute [local go_sem ↓] Go.wp_at_zero Go.wp_at_succ

structure Ev where
 key : ByteArray
 at_ : Int
 val : Int
def Ev.cells (e : Ev) : List Value := [.string e.key, .int .i64 e.at_, .int .i64 e.val]

structure Pn where
 lo : Int
 hi : Int
 key : ByteArray
 n : Int
 a : Int
 b : Int
def Pn.cells (p : Pn) : List Value := [.int .i64 p.lo, .int .i64 p.hi, .string p.key, .int .i64 p.n, .int .i64 p.a, .int .i64 p.b]
def sless (s t : ByteArray) : Bool := Op.bytesLess s.toList t.toList
def ahead (p q : Pn) : Bool := if p.hi ≠ q.hi then decide (p.hi < q.hi) else if p.lo ≠ q.lo then decide (p.lo < q.lo) else sless p.key q.key
def sameP (p q : Pn) : Prop := p.hi = q.hi ∧ p.lo = q.lo ∧ p.key = q.key
instance (p q : Pn) : Decidable (sameP p q) := by unfold sameP; exact inferInstance
theorem sameP.symm {p q : Pn} (h : sameP p q) : sameP q p := ⟨h.1.symm, h.2.1.symm, h.2.2.symm⟩
theorem sameP.left {p q r : Pn} (h : sameP p q) : ahead p r = ahead q r := by
 obtain ⟨h1, h2, h3⟩ := h
 simp [ahead, h1, h2, h3]
theorem sameP.right {p q r : Pn} (h : sameP p q) : ahead r p = ahead r q := by
 obtain ⟨h1, h2, h3⟩ := h
 simp [ahead, h1, h2, h3]
def Pn.av (p : Pn) : List AV := [.v (.int .i64 p.lo), .v (.int .i64 p.hi), .v (.string p.key), .v (.int .i64 p.n), .v (.int .i64 p.a), .v (.int .i64 p.b)]
structure Rs where
 lo : Int
 hi : Int
 key : ByteArray
 n : Int
 val : Int
def Rs.av (r : Rs) : List AV := [.v (.int .i64 r.lo), .v (.int .i64 r.hi), .v (.string r.key), .v (.int .i64 r.n), .v (.int .i64 r.val)]
end Go.Proofs.YtcfidmdkioccdaaDoor
namespace Go.Proofs.YtcfidmdkioccdaaDoor
open Go.RowKit Go.WideShapes Go.ChangeShapes Go.ChangeAt

section
variable {H : Type} {enc : TypeId × Value → H} {P : Program}
theorem cell_lt {w : World} {b o : Nat} {u : Value} (h : w.cell? ⟨b, o, none⟩ = some u) : b < w.heap.size := by
 rcases Nat.lt_or_ge b w.heap.size with h1 | h1
 ·exact h1
 ·simp [World.cell?, Array.getElem?_eq_none h1] at h

theorem open_rows {α : Type} {w : World} {t e : TypeId} {size fuel : Nat} {cs : List Value} {x : DataW H × List MemPlace} (cells : α → List Value) (Ok : α → Prop) (ht : P.underlying t = some (.slice e)) (hC : P.cellsOf e = size) (hsz : 0 < size)
  (hel : ∀ (n : Nat) (cs : List Value) (y : DataW H × List MemPlace), cs.length = size → DataW.trod enc P w 0 (fun _ => true) true n e cs = some y → ∃ x, cs = cells x ∧ Ok x)
  (h : DataW.trod enc P w 0 (fun _ => true) true fuel t cs = some x) :
  ∃ (A : Option Addr) (n c : Nat) (xs : List α), cs = [.slice A n c] ∧ n ≤ c ∧ c ≤ 9223372036854775807 ∧ n = xs.length ∧ Reads w w.heap.size size A n (xs.flatMap cells) ∧ ∀ x ∈ xs, Ok x := by
 rcases Go.Deep.open_slice ht h with ⟨rfl, _⟩ | ⟨a, n, c, m, fu, D, Pl, rfl, _, hnc, hcm, hm, _, hx⟩
 ·exact ⟨none, 0, 0, [], rfl, Nat.le_refl _, by omega, rfl, Reads.none_, by simp⟩
 ·subst hC
  have hm' : m = c := by simpa using hm
  subst hm'
  have key : ∀ k, k ≤ n → ∃ xs : List α, xs.length = k ∧ (xs.flatMap cells).length = k * P.cellsOf e ∧ (∀ j u, (xs.flatMap cells)[j]? = some u → w.cell? (a.add j) = some u) ∧ ∀ x ∈ xs, Ok x := by
   intro k
   induction k with
   | zero => intro _; exact ⟨[], rfl, by simp, by simp, by simp⟩
   | succ k ih =>
    intro hk
    obtain ⟨xs, h1, h2, h3, h4⟩ := ih (by omega)
    obtain ⟨cs', hc', ht'⟩ := hx k (by omega)
    obtain ⟨_, hl, hat⟩ := World.cells?_some hc'
    obtain ⟨x, rfl, hok⟩ := hel _ _ _ hl ht'
    refine ⟨xs ++ [x], by simp [h1], by simp [h2, hl, Nat.add_mul], ?_, ?_⟩
    ·intro j u hu
     simp only [List.flatMap_append, List.flatMap_cons, List.flatMap_nil, List.append_nil] at hu
     rcases Nat.lt_or_ge j (k * P.cellsOf e) with hj | hj
     ·rw [List.getElem?_append_left (by omega)] at hu
      exact h3 j u hu
     ·rw [List.getElem?_append_right (by omega), h2] at hu
      have hj2 : j - k * P.cellsOf e < P.cellsOf e := by
       have h6 := (List.getElem?_eq_some_iff.1 hu).1
       rw [hl] at h6
       exact h6
      have h5 := hat _ hj2
      rw [hu, Go.Deep.add_add] at h5
      rw [← h5]
      congr 2
      omega
    ·intro y hy
     simp only [List.mem_append, List.mem_singleton] at hy
     rcases hy with hy | rfl
     ·exact h4 y hy
     ·exact hok
  obtain ⟨xs, h1, h2, h3, h4⟩ := key n (Nat.le_refl _)
  refine ⟨some a, n, m, xs, rfl, hnc, by simpa [maxLen] using hcm, h1.symm, ⟨h2, fun hn => ?_⟩, h4⟩
  have hpos : 0 < (xs.flatMap cells).length := by rw [h2]; exact Nat.mul_pos hn hsz
  have h0 := h3 0 _ (List.getElem?_eq_getElem hpos)
  obtain ⟨b, off, spot⟩ := a
  have hspot : spot = none := by simpa [Addr.add] using World.cell?_spot h0
  subst hspot
  refine ⟨b, off, rfl, ?_, fun j u hu => ?_⟩
  ·exact cell_lt (o := off) (by simpa [Addr.add] using h0)
  ·rw [← Go.WideShapes.add_plain]; exact h3 j u hu

theorem open_rows_arg {α : Type} {w : World} {b0 : Nat} {t e : TypeId} {size : Nat} {v : Value} {d : DataW H} {ps : List MemPlace} (cells : α → List Value) (Ok : α → Prop) (ht : P.underlying t = some (.slice e)) (hC : P.cellsOf e = size) (hsz : 0 < size)
  (hel : ∀ (n : Nat) (cs : List Value) (y : DataW H × List MemPlace), cs.length = size → DataW.trod enc P w 0 (fun _ => true) true n e cs = some y → ∃ x, cs = cells x ∧ Ok x)
  (hv : Value.okWide P w .any b0 t v) (h : DataW.Trod enc P w 0 (fun _ => true) true t v d ps) :
  ∃ (A : Option Addr) (n c : Nat) (xs : List α), v = .slice A n c ∧ n ≤ c ∧ c ≤ 9223372036854775807 ∧ n = xs.length ∧ Reads w w.heap.size size A n (xs.flatMap cells) ∧ ∀ x ∈ xs, Ok x := by
 obtain ⟨a, l, c, rfl⟩ := okWide_slice ht hv
 obtain ⟨fuel, hf⟩ := h
 obtain ⟨A, n, c', xs, hcs, r⟩ := open_rows cells Ok ht hC hsz hel hf
 simp only [Value.cells, List.cons.injEq, and_true] at hcs
 exact ⟨A, n, c', xs, hcs, r⟩

theorem wf_i64 {x : Int} (h : (Lit.int .i64 x).wf = true) : -9223372036854775808 ≤ x ∧ x ≤ 9223372036854775807 := by
 simpa [Lit.wf, IntKind.min, IntKind.max, IntKind.signed, IntKind.bits] using h
theorem el_i64 {w : World} {e : TypeId} (he : P.underlying e = some (.int .i64)) : ∀ (n : Nat) (cs : List Value) (y : DataW H × List MemPlace), cs.length = 1 → DataW.trod enc P w 0 (fun _ => true) true n e cs = some y →
  ∃ x : Int, cs = [Value.int .i64 x] ∧ (-9223372036854775808 ≤ x ∧ x ≤ 9223372036854775807) := by
 intro n cs y _ h
 obtain ⟨x, rfl, _, hw⟩ := DataW.trod_int he h
 exact ⟨x, rfl, wf_i64 hw⟩

theorem trodAll_below (hl : laidOutB P = true) {W W' : World} (hb : Below W.heap.size W W') :
  ∀ {ts : List TypeId} {vs : List Value} {ds : List (DataW H)} {ps : List MemPlace}, (∀ t ∈ ts, P.readableRec t = true ∧ t < P.types.size) →
   DataW.TrodAll enc P W 0 (fun _ => true) true ts vs ds ps → (∀ x ∈ ps, x.block < W.heap.size) →
   DataW.TrodAll enc P W' 0 (fun b => decide (b < W.heap.size)) true ts vs ds ps := by
 intro ts
 induction ts with
 | nil =>
  intro vs ds ps _ h _
  obtain ⟨rfl, rfl, rfl⟩ := trodAll_nil h
  exact trodAll_mk0
 | cons t ts ih =>
  intro vs ds ps hts h hlt
  obtain ⟨v, vs', d, ds', p, q, rfl, rfl, rfl, h0, h1⟩ := trodAll_cons h
  have ht := hts t (by simp)
  exact trodAll_cons_mk (hb.trod hl ht.1 ht.2 h0 (fun x hx => hlt x (by simp [hx]))) (ih (fun t h => hts t (by simp [h])) h1 (fun x hx => hlt x (by simp [hx])))

theorem rd_of {ts : List TypeId} (h : (ts.all fun t => P.readableRec t && decide (t < P.types.size)) = true) : ∀ t ∈ ts, P.readableRec t = true ∧ t < P.types.size := by
 intro t ht
 have := List.all_eq_true.1 h t ht
 simpa using this

theorem post_law {f : Func} {s : ChangeSpec} {W W' : World} {args : Array Value} {ds gs : List (DataW H)} {before : List MemPlace} {tb : TypeId}
  (hl : laidOutB P = true) (hrd : ∀ t ∈ f.params.toList, P.readableRec t = true ∧ t < P.types.size) (hv : s.vars = []) (hres : f.resultTypes = #[tb]) (htb : P.underlying tb = some .bool)
  (hW : DataW.Whole enc P f.params.toList s.vars false W args.toList ds gs before)
  (hs : s.fn H (ds ++ gs) = { results := [.lit (.bool true)], args := ds })
  (hb : Below W.heap.size W W') : s.post enc P f false true false false W args (.bool true) W' := by
 have hlt : ∀ p ∈ before, p.block < W.heap.size := fun p hp => hW.lt p hp
 have hW0 := hW
 obtain ⟨p, q, hA, hV, rfl, hz, hn⟩ := hW0
 refine ⟨ds, gs, p ++ q, [], p, [], hW, ?_, ?_, ?_, hb.frame _, fun h => by cases h⟩
 ·rw [hs, hres]
  exact trodAll_cons_mk (shut_bool htb true) trodAll_mk0
 ·rw [hs]
  exact trodAll_below hl hb hrd hA (fun x hx => hlt x (by simp [hx]))
 ·rw [hs, hv]
  rfl
end
end Go.Proofs.YtcfidmdkioccdaaDoor
namespace Go.Proofs.YtcfidmdkioccdaaDoor
open Go.RowKit Go.WideShapes Go.ChangeShapes Go.ChangeAt
theorem A_laidOut : laidOutB Tryd.prog = true := by kernel_rfl
theorem rep_int {w : World} {x : Int} : rep [] (fun _ => undef) w (fun _ => False) (.v (.int .i64 x)) (.int .i64 x) := by simp [rep, scal]
end Go.Proofs.YtcfidmdkioccdaaDoor
namespace Go.Proofs.YtcfidmdkioccdaaDoor
open Go.RowKit Go.WideShapes Go.ChangeShapes Go.ChangeAt
end Go.Proofs.YtcfidmdkioccdaaDoor
namespace Go.Proofs.YtcfidmdkioccdaaDoor
open Go.RowKit Go.WideShapes Go.ChangeShapes Go.ChangeAt
set_option maxRecDepth 100000 in
theorem open_ints1_arg {H : Type} {enc : TypeId × Value → H} {w : World} {b0 : Nat} {v : Value} {d : DataW H} {ps : List MemPlace} (hv : Value.okWide Tryd.prog w .any b0 22 v) (h : DataW.Trod enc Tryd.prog w 0 (fun _ => true) true 22 v d ps) :
  ∃ xs : List Int, xs.length ≤ 9223372036854775807 ∧ rep [] (fun _ => undef) w (fun _ => False) (.sl 1 (xs.map fun x => [AV.v (.int .i64 x)])) v := by
 obtain ⟨A, n, c, xs, rfl, h2, h3, h4, h5, h6⟩ := open_rows_arg (fun x : Int => [Value.int .i64 x]) (fun x => (-9223372036854775808 ≤ x ∧ x ≤ 9223372036854775807)) Tryd.underlying22 (by kernel_rfl : Tryd.prog.cellsOf 3 = 1) (by omega) (el_i64 Tryd.underlying3) hv h
 exact ⟨xs, by omega, rep_sl (fun x : Int => [Value.int .i64 x]) (fun x => [AV.v (.int .i64 x)]) h5 h4 h2 h3 (fun _ => rfl) (fun x _ => repC_con (cs := [Value.int .i64 x]) rfl)⟩
end Go.Proofs.YtcfidmdkioccdaaDoor
namespace Go.Proofs.YtcfidmdkioccdaaDoor
open Go.RowKit Go.WideShapes Go.ChangeShapes Go.ChangeAt
set_option maxRecDepth 100000
theorem ringAssigns_contract (H : Type) (enc : TypeId × Value → H) (W : World) (base : Nat) (args : Array Value) (ds gs : List (DataW H)) (before : List MemPlace)
  (hval0 : ∀ (j : Nat) t v, Tryd.f3.params[j]? = some t → args[j]? = some v → Value.okWide Tryd.prog W .any base t v)
  (hW : DataW.Whole enc Tryd.prog Tryd.f3.params.toList Rows.ringAssignsSpec.vars false W args.toList ds gs before) (hL : laidMetH Tryd.prog Rows.ringAssignsRow.laid W) :
  Calls Tryd.prog 3 args W fun e W' => ∃ v, e = .returned v ∧ Rows.ringAssignsSpec.post enc Tryd.prog Tryd.f3 false true false false W args v W' := by
 have hval := hval0
 have hW' := hW
 obtain ⟨p, q, hA0, hV, rfl, hfz, hnd⟩ := hW
 have hA : DataW.TrodAll enc Tryd.prog W 0 (fun _ => true) true Tryd.f3.params.toList args.toList ds p := hA0
 rw [Tryd.params3] at hA hval
 obtain ⟨v0, vs0, d0, ds0, p0, q0, hargs, rfl, rfl, h0, r0⟩ := trodAll_cons hA
 obtain ⟨v1, vs1, d1, ds1, p1, q1, rfl, rfl, rfl, h1, r1⟩ := trodAll_cons r0
 obtain ⟨rfl, rfl, rfl⟩ := trodAll_nil r1
 obtain rfl : args = #[v0, v1] := by cases args; simp_all
 obtain ⟨rfl, rfl⟩ := trodVars_none hV
 clear hA0 hval0
 obtain ⟨xs, hx, hr⟩ := open_ints1_arg (hval 0 22 v0 rfl rfl) h0
 obtain ⟨g, rfl, rfl, rfl, _⟩ := open_int Tryd.underlying3 (hval 1 3 v1 rfl rfl) h1
 refine ((r_assigns xs g hx).law (vs := [_, _]) ⟨_, _, rfl, hr, _, _, rfl, rep_int, rfl⟩).mono fun e W' ⟨he, hb⟩ => ?_
 subst he
 exact ⟨_, rfl, post_law @A_laidOut (rd_of (by kernel_rfl : (Tryd.f3.params.toList.all fun t => Tryd.prog.readableRec t && decide (t < Tryd.prog.types.size)) = true)) rfl rfl Tryd.underlying4 hW' rfl hb⟩

theorem ringAssigns_own : ownKnob Tryd.prog.godebug = none := by kernel_rfl
set_option maxRecDepth 100000 in
theorem ringAssigns_met (os : Os) (args : Array Value) : laidMetH Tryd.prog Rows.ringAssignsRow.laid ((laidW os).forCall (fun _ _ => 0) ⟨#[], args, []⟩).memory :=
 laidMet_of_run' 8 (by kernel_rfl) (by kernel_rfl)
set_option maxRecDepth 100000 in
theorem ringAssigns_lifted (os : Os) (started : os.Started) (H : Type) (enc : TypeId × Value → H) :
  ReturnsInHanded {} Tryd.checked os 3 .any (fun w args => (Rows.ringAssignsSpec.pre enc Tryd.prog Tryd.f3 Rows.ringAssignsRow.domain false w args ∧ laidMetH Tryd.prog Rows.ringAssignsRow.laid w) ∧ sizedMet enc Tryd.prog Tryd.f3 (OpenSpec.ofChange Rows.ringAssignsSpec) false w args) (Rows.ringAssignsSpec.post enc Tryd.prog Tryd.f3 false true false false) := by
 refine returnsInHanded_of_change_and (C := Tryd.checked) (X := fun w _ => laidMetH Tryd.prog Rows.ringAssignsRow.laid w) (fun _ _ _ hh h => h.of_heap hh) ringAssigns_own started (by kernel_rfl) Tryd.func3
  (ChangeSpec.witness_at (enc := enc) (C := Tryd.checked) (os := os) (X := fun w _ => laidMetH Tryd.prog Rows.ringAssignsRow.laid w) false (laidW os) #[.slice none 0 0, .int .i64 0] 8 rfl (by kernel_rfl) (by kernel_rfl) (by kernel_rfl) (by kernel_rfl) (by kernel_rfl) (ringAssigns_met os _)) ?_
 intro W base args ds gs before hval hW _ _ hL _
 exact ringAssigns_contract H enc W base args ds gs before hval hW hL
theorem ringAssigns_row : Rows.RingAssignsSaid :=
 OpenClaim.holds_of_wide 3 Tryd.f3 rfl rfl rfl rfl rfl rfl rfl ⟨rfl, rfl, rfl, rfl, rfl⟩ rfl rfl rfl rfl rfl (by kernel_rfl) Tryd.func3 (by kernel_rfl)
  (of_decide_eq_true (by kernel_rfl)) (by unfold Func.isWrapper; first | (rw [if_pos (by decide +kernel)]; kernel_rfl) | (rw [if_neg (by decide +kernel)]; exact ⟨rfl, rfl⟩))
  (fun os started H enc _ => ringAssigns_lifted os started H enc)
theorem ringAssigns_proved : Rows.RingAssignsCardSaid :=
 Claim7.holds_tied_plain_at .later [] [.data, .data, .data] true (true, "06b976c24f5055ff40c23b7dc894dc3abd5f62fe859da24e95ef98c811a39020") false
  ringAssigns_row (fun _ h => by cases h) (by kernel_rfl) (fun _ h => by cases h) ringAssigns_row_tie rfl ⟨rfl, rfl⟩ (by kernel_rfl) rfl
  (fun f fn hf hfn => by
   obtain rfl : f = 3 := Option.some.inj ((show Tryd.prog.funcNamed Rows.ringAssignsRow.func = some 3 by kernel_rfl).symm.trans hf) |>.symm
   obtain rfl : fn = Tryd.f3 := (Option.some.inj (Tryd.func3.symm.trans hfn)).symm
   exact ⟨by kernel_rfl, fun j t ht => by
    have hall : (Tryd.f3.params.toList.all fun t => !Tryd.prog.wantsStandIn t) = true := by kernel_rfl
    have hm : t ∈ Tryd.f3.params.toList := List.mem_of_getElem? (by simpa using ht)
    have := List.all_eq_true.1 hall t hm
    show Tryd.prog.wantsStandIn t = false
    simpa using this⟩)
  (by kernel_rfl)
end Go.Proofs.YtcfidmdkioccdaaDoor
