/-
  The reference's reading of jobs, walked over abstract values: a word and its numbers, the fold's line.
  Jobs: the laws JobBack and JobOnce walked.
  The reference's reading of jobs, walked over abstract values: a text read; the law JobReads walked.
  Scripts read by the reference: numbers with a sign, events, sources, acts, the job's lines.
-/
import Derived.Test.YtbhblhcgfenobaaGreatDoorK4
import Derived.Test.YtbhblhcgfenobaaGreatDoorK8
import Derived.Test.YtbhblhcgfenobaaGreatDoorK10
import Derived.Test.YtbhblhcgfenobaaGreatDoorK19
namespace Go.Proofs.YtbhblhcgfenobaaGreatDoor
open Go.RowKit
set_option linter.unusedSimpArgs false
set_option linter.unusedVariables false
def niv (n : Int) : List AV := [.v (.int .i64 n)]
set_option maxHeartbeats 4000000 in
set_option maxRecDepth 20000 in
theorem p_numbers (s w : ByteArray) (m : Nat) (hm : m ≤ 2) (hs : Sm s) : PC Tryz.prog 81 [.v (.string s), .v (.string w), .v (.int .i64 m)] (.tup [.sl 1 ((nsR s w m).1.map niv), .v (.string (nsR s w m).2.1), .v (.bool (nsR s w m).2.2)]) := by
  obtain ⟨R, hR⟩ : ∃ R, R = nsR s w m := ⟨_, rfl⟩
  obtain ⟨T, hT⟩ : ∃ T, T = nsT s w m := ⟨_, rfl⟩
  unfold nsR at hR
  rw [← hT] at hR
  have hA := p_after s w hs
  have hAs := aftS_sm (b := w) hs
  unfold nsT at hT
  have hR2 : R = nsR s w m := by unfold nsR nsT; rw [← hT]; exact hR
  rw [← hR2]
  clear hR2
  generalize aftS s w = A0 at *
  obtain ⟨a0, b0⟩ := A0
  dsimp only at hA hAs hT
  refine PC.mk (ac_body tab_ok Tryz.func81 rfl (by kernel_rfl) rfl ?_); intro w0 M μ0; simp only [Tryz.ntmps81, List.length_cons, List.length_nil, Nat.reduceAdd, Nat.reduceSub, numb]
  repeat' (first | ((first | apply o_do | apply d_do | apply d_yes rfl rfl rfl); first | exact lsc (hA) | exact lsq) | refine a_seq ?_ | refine a_region ?_ | refine o_nil ?_ | refine a_block ?_ | refine a_ret ?_ | refine a_exit ?_ | refine a_skip ?_ | refine a_draw mixed ?_ | refine d_nil (by kernel_rfl) ?_ | refine o_yes rfl rfl rfl ?_ | refine o_no rfl rfl rfl (by decide) ?_ | refine o_no' rfl rfl rfl ?_ | refine a_condT rfl ?_ | refine a_condF rfl ?_ | refine d_no rfl rfl rfl (by decide) ?_ | refine d_no' rfl rfl rfl ?_ | (refine wq2 (fun hb => ?_) (fun hb => ?_) <;> (simp only [hb]; try simp only [hbs, ne_eq] at hb; try (exfalso; first | omega | exact hb trivial))) | fail)
  refine a_loop (X := {p : Nat × ByteArray × List Int × Bool // p.1 ≤ m ∧ p.2.2.1.length = p.1 ∧ Sm p.2.1 ∧ (p.2.2.2 = true → T = nsG (m - p.1) p.2.1 p.2.2.1) ∧ (p.2.2.2 = false → T = none)}) (fun p => ⟨[(0, .v (.string s)), (1, .v (.string w)), (2, .v (.int .i64 m)), (9, .own 0 (p.1.2.2.1.map niv).length), (10, .v (.string p.1.2.1)), (11, .v (.bool p.1.2.2.2)), (12, .v (.int .i64 p.1.1))], [(0, .row 2 1 (p.1.2.2.1.map niv))]⟩) (fun p => m - p.1.1) ⟨(0, a0, [], b0), Nat.zero_le _, rfl, hAs, (fun h => by dsimp only at h; subst h; simpa using hT), (fun h => by dsimp only at h; subst h; simpa using hT)⟩ ?_ ?_
  · exact wkS
  clear hT hA hAs
  rintro ⟨⟨i, rest, out, b⟩, hi, hlen, hsm, hY, hN⟩
  dsimp only at hi hlen hsm hY hN ⊢
  have hml : (out.map niv).length = out.length := List.length_map _
  cases b with
  | false =>
    rw [hN rfl] at hR
    dsimp only at hR
    subst hR
    repeat' (first | ((first | apply o_do | apply d_do | apply d_yes rfl rfl rfl); exact lsq) | refine a_seq ?_ | refine a_region ?_ | refine o_nil ?_ | refine a_block ?_ | refine a_ret ?_ | refine a_exit ?_ | refine a_skip ?_ | refine a_draw mixed ?_ | refine d_nil (by kernel_rfl) ?_ | refine o_yes rfl rfl rfl ?_ | refine o_no rfl rfl rfl (by decide) ?_ | refine o_no' rfl rfl rfl ?_ | refine a_condT rfl ?_ | refine a_condF rfl ?_ | refine d_no rfl rfl rfl (by decide) ?_ | refine d_no' rfl rfl rfl ?_ | (refine wq2 (fun hb => ?_) (fun hb => ?_) <;> (simp only [hb]; try simp only [hbs, ne_eq] at hb; try (exfalso; first | omega | exact hb trivial))) | fail)
    all_goals refine rq rfl ?_
    all_goals exact fnq
  | true =>
    have hY := hY rfl
    by_cases hlt : i < m
    · have h1 := p_after rest spR hsm
      have h2 := p_Number (aftS rest spR).1 (aftS_sm hsm)
      have h3 := numS_sm (aftS_sm (b := spR) hsm)
      obtain ⟨d, hd⟩ : ∃ d, m - i = d + 1 := ⟨m - i - 1, by omega⟩
      have e3 : m - (i + 1) = d := by omega
      rw [hd] at hY
      obtain ⟨a1, b1, e1⟩ : ∃ a b, aftS rest spR = (a, b) := ⟨_, _, rfl⟩
      rw [e1] at h1 h2 h3
      obtain ⟨n, a2, b2, e2⟩ : ∃ n a b, numS a1 = (n, a, b) := ⟨_, _, _, rfl⟩
      dsimp only at h2 h3
      rw [e2] at h2 h3
      dsimp only at h1 h2 h3
      have eR : rdS rest = (n, a2, b1 && b2) := by
        unfold rdS
        rw [e1]
        dsimp only
        rw [e2]
      simp only [nsG, eR] at hY
      clear e1 e2
      unfold spR at h1
      cases b1 <;> cases b2
      all_goals
        simp only [Bool.and_true, Bool.and_false, Bool.true_and, Bool.false_and, if_true, if_false, Bool.false_eq_true] at hY
        repeat' (first | ((first | apply o_do | apply d_do | apply d_yes rfl rfl rfl); first | exact lsc (h1) | exact lsc (h2) | focus (apply ls_append tab_ok rfl rfl ?hn rfl ?hsrc rfl ?hlen rfl rfl; (case hn => rfl); (case hsrc => first | exact SrcIs.sl | exact SrcIs.nil | exact SrcIs.own rfl rfl | fail); (case hlen => (try simp only [List.length_cons, List.length_nil]); omega); first | done | fail) | exact lsq) | refine a_seq ?_ | refine a_region ?_ | refine o_nil ?_ | refine a_block ?_ | refine a_ret ?_ | refine a_exit ?_ | refine a_skip ?_ | refine a_draw mixed ?_ | refine d_nil (by kernel_rfl) ?_ | refine o_yes rfl rfl rfl ?_ | refine o_no rfl rfl rfl (by decide) ?_ | refine o_no' rfl rfl rfl ?_ | refine a_condT rfl ?_ | refine a_condF rfl ?_ | refine d_no rfl rfl rfl (by decide) ?_ | refine d_no' rfl rfl rfl ?_ | (refine wq2 (fun hb => ?_) (fun hb => ?_) <;> (simp only [hb]; try simp only [hbs, ne_eq] at hb; try (exfalso; first | omega | exact hb trivial))) | fail)
      · refine ⟨⟨(i + 1, a2, out ++ [n], false), by dsimp only; omega, by simp [hlen], h3, (fun h => nomatch h), (fun _ => hY)⟩, by dsimp only; omega, ?_⟩
        refine ⟨by repeat' (first | exact trivial | exact FinA.one (FinB.cell (FinC.same rfl)) | exact FinA.one (FinB.cell FinC.nil) | exact FinA.bound rfl | exact FinA.one (FinB.cell (FinC.own rfl rfl rfl rfl)) | exact FinA.one (FinB.cell (FinC.v (by first | rfl | ((first | (simp; done) | (simp; rfl)))))) | exact FinA.one (FinB.cell (FinC.ow rfl (by first | rfl | ((first | (simp; done) | (simp; rfl)))))) | exact FinA.one (FinB.agg' rfl rfl) | refine ⟨⟨_, rfl, ?_⟩, ?_⟩), by repeat' (first | exact trivial | refine ⟨⟨_, rfl, by first | rfl | ((first | (simp; done) | (simp; rfl)); done) | (simp [renO, *]; done)⟩, by first | rfl | assumption, ?_⟩), rfl⟩
      · refine ⟨⟨(i + 1, a2, out ++ [n], false), by dsimp only; omega, by simp [hlen], h3, (fun h => nomatch h), (fun _ => hY)⟩, by dsimp only; omega, ?_⟩
        refine ⟨by repeat' (first | exact trivial | exact FinA.one (FinB.cell (FinC.same rfl)) | exact FinA.one (FinB.cell FinC.nil) | exact FinA.bound rfl | exact FinA.one (FinB.cell (FinC.own rfl rfl rfl rfl)) | exact FinA.one (FinB.cell (FinC.v (by first | rfl | ((first | (simp; done) | (simp; rfl)))))) | exact FinA.one (FinB.cell (FinC.ow rfl (by first | rfl | ((first | (simp; done) | (simp; rfl)))))) | exact FinA.one (FinB.agg' rfl rfl) | refine ⟨⟨_, rfl, ?_⟩, ?_⟩), by repeat' (first | exact trivial | refine ⟨⟨_, rfl, by first | rfl | ((first | (simp; done) | (simp; rfl)); done) | (simp [renO, *]; done)⟩, by first | rfl | assumption, ?_⟩), rfl⟩
      · refine ⟨⟨(i + 1, a2, out ++ [n], false), by dsimp only; omega, by simp [hlen], h3, (fun h => nomatch h), (fun _ => hY)⟩, by dsimp only; omega, ?_⟩
        refine ⟨by repeat' (first | exact trivial | exact FinA.one (FinB.cell (FinC.same rfl)) | exact FinA.one (FinB.cell FinC.nil) | exact FinA.bound rfl | exact FinA.one (FinB.cell (FinC.own rfl rfl rfl rfl)) | exact FinA.one (FinB.cell (FinC.v (by first | rfl | ((first | (simp; done) | (simp; rfl)))))) | exact FinA.one (FinB.cell (FinC.ow rfl (by first | rfl | ((first | (simp; done) | (simp; rfl)))))) | exact FinA.one (FinB.agg' rfl rfl) | refine ⟨⟨_, rfl, ?_⟩, ?_⟩), by repeat' (first | exact trivial | refine ⟨⟨_, rfl, by first | rfl | ((first | (simp; done) | (simp; rfl)); done) | (simp [renO, *]; done)⟩, by first | rfl | assumption, ?_⟩), rfl⟩
      · refine ⟨⟨(i + 1, a2, out ++ [n], true), by dsimp only; omega, by simp [hlen], h3, (fun _ => by dsimp only; rw [e3]; exact hY), (fun h => nomatch h)⟩, by dsimp only; omega, ?_⟩
        refine ⟨by repeat' (first | exact trivial | exact FinA.one (FinB.cell (FinC.same rfl)) | exact FinA.one (FinB.cell FinC.nil) | exact FinA.bound rfl | exact FinA.one (FinB.cell (FinC.own rfl rfl rfl rfl)) | exact FinA.one (FinB.cell (FinC.v (by first | rfl | ((first | (simp; done) | (simp; rfl)))))) | exact FinA.one (FinB.cell (FinC.ow rfl (by first | rfl | ((first | (simp; done) | (simp; rfl)))))) | exact FinA.one (FinB.agg' rfl rfl) | refine ⟨⟨_, rfl, ?_⟩, ?_⟩), by repeat' (first | exact trivial | refine ⟨⟨_, rfl, by first | rfl | ((first | (simp; done) | (simp; rfl)); done) | (simp [renO, *]; done)⟩, by first | rfl | assumption, ?_⟩), rfl⟩
    · obtain rfl : i = m := by omega
      rw [Nat.sub_self] at hY
      simp only [nsG] at hY
      rw [hY] at hR
      dsimp only at hR
      have h1 := p_after rest nlB hsm
      obtain ⟨a1, b1, e1⟩ : ∃ a b, aftS rest nlB = (a, b) := ⟨_, _, rfl⟩
      rw [e1] at h1 hR
      dsimp only at h1 hR
      subst hR
      unfold nlB at h1
      repeat' (first | ((first | apply o_do | apply d_do | apply d_yes rfl rfl rfl); first | exact lsc (h1) | exact lsq) | refine a_seq ?_ | refine a_region ?_ | refine o_nil ?_ | refine a_block ?_ | refine a_ret ?_ | refine a_exit ?_ | refine a_skip ?_ | refine a_draw mixed ?_ | refine d_nil (by kernel_rfl) ?_ | refine o_yes rfl rfl rfl ?_ | refine o_no rfl rfl rfl (by decide) ?_ | refine o_no' rfl rfl rfl ?_ | refine a_condT rfl ?_ | refine a_condF rfl ?_ | refine d_no rfl rfl rfl (by decide) ?_ | refine d_no' rfl rfl rfl ?_ | (refine wq2 (fun hb => ?_) (fun hb => ?_) <;> (simp only [hb]; try simp only [hbs, ne_eq] at hb; try (exfalso; first | omega | exact hb trivial))) | fail)
      all_goals refine rq rfl ?_
      all_goals exact fnq
set_option maxHeartbeats 4000000 in
set_option maxRecDepth 20000 in
theorem p_rFoldL (s : ByteArray) (hs : Sm s) : PC Tryz.prog 82 [.v (.string s)] (.tup [.v (.int .i64 (foS s).1), .v (.string (foS s).2.1), .v (.bool (foS s).2.2)]) := by
  obtain ⟨R, hR⟩ : ∃ R, R = foS s := ⟨_, rfl⟩
  rw [← hR]
  unfold foS at hR
  obtain ⟨G, hG⟩ : ∃ G : Nat → Int × ByteArray × Bool, ∀ i, G i = if i < 5 then (if (aftS s (foB i)).2 = true then ((i : Int) + 1, (aftS s (foB i)).1, true) else G (i + 1)) else (0, s, false) := by
    let F : Nat → Int × ByteArray × Bool := fun n => Nat.rec (0, s, false) (fun k r => if (aftS s (foB (4 - k))).2 = true then (((4 - k : Nat) : Int) + 1, (aftS s (foB (4 - k))).1, true) else r) n
    refine ⟨fun i => F (5 - i), fun i => ?_⟩
    by_cases hi : i < 5
    · rw [if_pos hi]
      obtain ⟨k, hk⟩ : ∃ k, 5 - i = k + 1 := ⟨4 - i, by omega⟩
      have h1 : 5 - (i + 1) = k := by omega
      have h2 : 4 - k = i := by omega
      show F (5 - i) = if _ then _ else F (5 - (i + 1))
      rw [hk, h1]
      show (if (aftS s (foB (4 - k))).2 = true then (((4 - k : Nat) : Int) + 1, (aftS s (foB (4 - k))).1, true) else F k) = _
      rw [h2]
    · rw [if_neg hi]
      have h1 : 5 - i = 0 := by omega
      show F (5 - i) = _
      rw [h1]
      rfl
  have hR : R = G 0 := by
    rw [hR, hG 0, hG 1, hG 2, hG 3, hG 4, hG 5]
    simp only [Nat.reduceLT, if_true, Nat.zero_add, Nat.lt_irrefl, if_false]
    rfl
  refine PC.mk (ac_body tab_ok Tryz.func82 rfl (by kernel_rfl) rfl ?_); intro w0 M μ0; simp only [Tryz.ntmps82, List.length_cons, List.length_nil, Nat.reduceAdd, Nat.reduceSub, numb]
  repeat' (first | ((first | apply o_do | apply d_do | apply d_yes rfl rfl rfl); exact lsq) | refine a_seq ?_ | refine a_region ?_ | refine o_nil ?_ | refine a_block ?_ | refine a_ret ?_ | refine a_exit ?_ | refine a_skip ?_ | refine a_draw mixed ?_ | refine d_nil (by kernel_rfl) ?_ | refine o_yes rfl rfl rfl ?_ | refine o_no rfl rfl rfl (by decide) ?_ | refine o_no' rfl rfl rfl ?_ | refine a_condT rfl ?_ | refine a_condF rfl ?_ | refine d_no rfl rfl rfl (by decide) ?_ | refine d_no' rfl rfl rfl ?_ | (refine wq2 (fun hb => ?_) (fun hb => ?_) <;> (simp only [hb]; try simp only [hbs, ne_eq] at hb; try (exfalso; first | omega | exact hb trivial))) | fail)
  refine a_loop (X := {i : Nat // i ≤ 5 ∧ R = G i}) (fun p => ⟨[(0, .v (.string s)), (5, .v (.int .i64 ((p.1 : Int) + 1)))], []⟩) (fun p => 5 - p.1) ⟨0, by omega, hR⟩ ?_ ?_
  · exact wkS
  clear hR
  rintro ⟨i, hi, hR⟩
  dsimp only at hi hR ⊢
  by_cases hlt : i < 5
  · have hF := p_rName i hlt
    have hA := p_after s (foB i) hs
    rw [hG i, if_pos hlt] at hR
    unfold foB at hA hR
    have hz : (nmQ i).data.size ≤ 8 := nm_size i
    unfold foW nlB at hA
    unfold foW nlB at hR
    obtain ⟨nm, hnm⟩ : ∃ nm, nmQ i = nm := ⟨_, rfl⟩
    rw [hnm] at hA hR hF hz
    obtain ⟨a1, b1, e1⟩ : ∃ a b, aftS s (⟨#[102, 111, 108, 100, 32]⟩ ++ nm ++ ⟨#[10]⟩) = (a, b) := ⟨_, _, rfl⟩
    rw [e1] at hA hR
    dsimp only at hA hR
    cases b1
    · simp only [Bool.false_eq_true, if_false] at hR
      repeat' (first | ((first | apply o_do | apply d_do | apply d_yes rfl rfl rfl); first | exact lsc (hF) | exact ls_cat rfl rfl (by simp only [ByteArray.size, ByteArray.data_append, Array.size_append, List.size_toArray, List.length_cons, List.length_nil]; omega) rfl | exact lsc (hA) | exact lsq) | refine a_seq ?_ | refine a_region ?_ | refine o_nil ?_ | refine a_block ?_ | refine a_ret ?_ | refine a_exit ?_ | refine a_skip ?_ | refine a_draw mixed ?_ | refine d_nil (by kernel_rfl) ?_ | refine o_yes rfl rfl rfl ?_ | refine o_no rfl rfl rfl (by decide) ?_ | refine o_no' rfl rfl rfl ?_ | refine a_condT rfl ?_ | refine a_condF rfl ?_ | refine d_no rfl rfl rfl (by decide) ?_ | refine d_no' rfl rfl rfl ?_ | (refine wq2 (fun hb => ?_) (fun hb => ?_) <;> (simp only [hb]; try simp only [hbs, ne_eq] at hb; try (exfalso; first | omega | exact hb trivial))) | fail)
      refine ⟨⟨i + 1, by omega, hR⟩, by dsimp only; omega, ?_⟩
      refine ⟨by repeat' (first | exact trivial | exact FinA.one (FinB.cell (FinC.same rfl)) | exact FinA.one (FinB.cell FinC.nil) | exact FinA.bound rfl | exact FinA.one (FinB.cell (FinC.own rfl rfl rfl rfl)) | exact FinA.one (FinB.cell (FinC.v (by first | rfl | ((congr 1; omega))))) | exact FinA.one (FinB.cell (FinC.ow rfl (by first | rfl | ((congr 1; omega))))) | exact FinA.one (FinB.agg' rfl rfl) | refine ⟨⟨_, rfl, ?_⟩, ?_⟩), by repeat' (first | exact trivial | refine ⟨⟨_, rfl, by first | rfl | ((congr 1; omega); done) | (simp [renO, *]; done)⟩, by first | rfl | assumption, ?_⟩), rfl⟩
    · simp only [if_true] at hR
      subst hR
      repeat' (first | ((first | apply o_do | apply d_do | apply d_yes rfl rfl rfl); first | exact lsc (hF) | exact ls_cat rfl rfl (by simp only [ByteArray.size, ByteArray.data_append, Array.size_append, List.size_toArray, List.length_cons, List.length_nil]; omega) rfl | exact lsc (hA) | exact lsq) | refine a_seq ?_ | refine a_region ?_ | refine o_nil ?_ | refine a_block ?_ | refine a_ret ?_ | refine a_exit ?_ | refine a_skip ?_ | refine a_draw mixed ?_ | refine d_nil (by kernel_rfl) ?_ | refine o_yes rfl rfl rfl ?_ | refine o_no rfl rfl rfl (by decide) ?_ | refine o_no' rfl rfl rfl ?_ | refine a_condT rfl ?_ | refine a_condF rfl ?_ | refine d_no rfl rfl rfl (by decide) ?_ | refine d_no' rfl rfl rfl ?_ | (refine wq2 (fun hb => ?_) (fun hb => ?_) <;> (simp only [hb]; try simp only [hbs, ne_eq] at hb; try (exfalso; first | omega | exact hb trivial))) | fail)
      all_goals refine rq rfl ?_
      all_goals exact fnq
  · obtain rfl : i = 5 := by omega
    rw [hG 5, if_neg (by omega)] at hR
    subst hR
    repeat' (first | ((first | apply o_do | apply d_do | apply d_yes rfl rfl rfl); exact lsq) | refine a_seq ?_ | refine a_region ?_ | refine o_nil ?_ | refine a_block ?_ | refine a_ret ?_ | refine a_exit ?_ | refine a_skip ?_ | refine a_draw mixed ?_ | refine d_nil (by kernel_rfl) ?_ | refine o_yes rfl rfl rfl ?_ | refine o_no rfl rfl rfl (by decide) ?_ | refine o_no' rfl rfl rfl ?_ | refine a_condT rfl ?_ | refine a_condF rfl ?_ | refine d_no rfl rfl rfl (by decide) ?_ | refine d_no' rfl rfl rfl ?_ | (refine wq2 (fun hb => ?_) (fun hb => ?_) <;> (simp only [hb]; try simp only [hbs, ne_eq] at hb; try (exfalso; first | omega | exact hb trivial))) | fail)
    all_goals refine rq rfl ?_
    all_goals exact fnq
end Go.Proofs.YtbhblhcgfenobaaGreatDoor
namespace Go.Proofs.YtbhblhcgfenobaaGreatDoor
open Go.RowKit
set_option linter.unusedSimpArgs false
set_option linter.unusedVariables false
def J8.vals (j : J8) : List Value := [.int .i64 j.g, .int .i64 j.s, .int .i64 j.d, .int .i64 j.k, .int .i64 j.fu, .int .i64 j.li, .int .i64 j.de, .int .i64 j.id]
section
variable {Γ : Ctx} {s : ASt} {dst : Option Tmp} {ty yt : TypeId} {pos : String} {after : Array Edge} {x y : Operand}
end
end Go.Proofs.YtbhblhcgfenobaaGreatDoor
namespace Go.Proofs.YtbhblhcgfenobaaGreatDoor
open Go.RowKit
set_option linter.unusedSimpArgs false
set_option linter.unusedVariables false
theorem sm_tail {s : ByteArray} {l r : List UInt8} (hs : Sm s) (h : s.data.toList = l ++ 10 :: r) : Sm (mkB r) := by
  have : (mkB r).size ≤ s.size := by rw [← size_list, ← size_list, h, mkB_list, List.length_append, List.length_cons]; omega
  unfold Sm at *; omega
set_option maxHeartbeats 16000000 in
set_option maxRecDepth 20000 in
theorem p_rParse (s : ByteArray) (hs : Sm s) : PC Tryz.prog 48 [.v (.string s)] (.tup [.agg (pars 6 1 zJ s).1.av, .v (.int .i64 (pars 6 1 zJ s).2.1), .v (.int .i64 (pars 6 1 zJ s).2.2)]) := by
  obtain ⟨R, hR⟩ : ∃ R, R = pars 6 1 zJ s := ⟨_, rfl⟩
  rw [← hR]
  have h1 := p_numbers s (wordK 1) 1 (by omega) hs
  by_cases b1 : (nsR s (wordK 1) 1).2.2 = true
  case neg =>
      rw [pars_miss (fun h => b1 (hit1 h))] at hR
      subst hR
      have bf := Bool.eq_false_iff.2 b1
      rw [bf] at h1
      generalize nsR s (wordK 1) 1 = F at *
      obtain ⟨f1, f2, f3⟩ := F
      unfold wordK niv at *
      unfold J8.av zJ
      dsimp only [List.map_cons, List.map_nil] at *
      refine PC.mk (ac_body tab_ok Tryz.func48 rfl (by kernel_rfl) rfl ?_); intro w0 M μ0; simp only [Tryz.ntmps48, List.length_cons, List.length_nil, Nat.reduceAdd, Nat.reduceSub, numb]
      repeat' (first | ((first | apply o_do | apply d_do | apply d_yes rfl rfl rfl); first | exact lsc (h1) | exact lsq) | refine a_seq ?_ | refine a_region ?_ | refine o_nil ?_ | refine a_block ?_ | refine a_ret ?_ | refine a_exit ?_ | refine a_skip ?_ | refine a_draw mixed ?_ | refine d_nil (by kernel_rfl) ?_ | refine o_yes rfl rfl rfl ?_ | refine o_no rfl rfl rfl (by decide) ?_ | refine o_no' rfl rfl rfl ?_ | refine a_condT rfl ?_ | refine a_condF rfl ?_ | refine d_no rfl rfl rfl (by decide) ?_ | refine d_no' rfl rfl rfl ?_ | (refine wq2 (fun hb => ?_) (fun hb => ?_) <;> (simp only [hb]; try simp only [hbs, ne_eq] at hb; try (exfalso; first | omega | exact hb trivial))) | fail)
      all_goals refine rq rfl ?_
      all_goals exact fnq
  obtain ⟨g, r1, ng, t1, e1⟩ := ns1_out b1
  rw [e1] at h1
  clear b1 e1
  rw [back_s t1, go1 ng] at hR
  have hs1 := sm_tail hs t1
  have h2 := p_numbers (mkB r1) (wordK 2) 2 (by omega) hs1
  by_cases b2 : (nsR (mkB r1) (wordK 2) 2).2.2 = true
  case neg =>
      rw [pars_miss (fun h => b2 (hit2 h))] at hR
      subst hR
      have bf := Bool.eq_false_iff.2 b2
      rw [bf] at h2
      generalize nsR (mkB r1) (wordK 2) 2 = F at *
      obtain ⟨f1, f2, f3⟩ := F
      unfold wordK niv at *
      unfold J8.av zJ
      dsimp only [List.map_cons, List.map_nil] at *
      refine PC.mk (ac_body tab_ok Tryz.func48 rfl (by kernel_rfl) rfl ?_); intro w0 M μ0; simp only [Tryz.ntmps48, List.length_cons, List.length_nil, Nat.reduceAdd, Nat.reduceSub, numb]
      repeat' (first | ((first | apply o_do | apply d_do | apply d_yes rfl rfl rfl); first | exact lsc (h1) | exact lsc (h2) | exact lsq) | refine a_seq ?_ | refine a_region ?_ | refine o_nil ?_ | refine a_block ?_ | refine a_ret ?_ | refine a_exit ?_ | refine a_skip ?_ | refine a_draw mixed ?_ | refine d_nil (by kernel_rfl) ?_ | refine o_yes rfl rfl rfl ?_ | refine o_no rfl rfl rfl (by decide) ?_ | refine o_no' rfl rfl rfl ?_ | refine a_condT rfl ?_ | refine a_condF rfl ?_ | refine d_no rfl rfl rfl (by decide) ?_ | refine d_no' rfl rfl rfl ?_ | (refine wq2 (fun hb => ?_) (fun hb => ?_) <;> (simp only [hb]; try simp only [hbs, ne_eq] at hb; try (exfalso; first | omega | exact hb trivial))) | fail)
      all_goals refine rq rfl ?_
      all_goals exact fnq
  obtain ⟨sz, sl, r2, nsz, nsl, t2, e2⟩ := ns2_out b2
  rw [e2] at h2
  clear b2 e2
  rw [back_s t2, go2 nsz nsl] at hR
  have hs2 := sm_tail hs1 t2
  have h3 := p_rFoldL (mkB r2) hs2
  by_cases b3 : (foS (mkB r2)).2.2 = true
  case neg =>
      rw [pars_miss (fun h => b3 (hit3 h))] at hR
      subst hR
      have bf := Bool.eq_false_iff.2 b3
      rw [bf] at h3
      generalize foS (mkB r2) = F at *
      obtain ⟨f1, f2, f3⟩ := F
      unfold wordK niv at *
      unfold J8.av zJ
      dsimp only [List.map_cons, List.map_nil] at *
      refine PC.mk (ac_body tab_ok Tryz.func48 rfl (by kernel_rfl) rfl ?_); intro w0 M μ0; simp only [Tryz.ntmps48, List.length_cons, List.length_nil, Nat.reduceAdd, Nat.reduceSub, numb]
      repeat' (first | ((first | apply o_do | apply d_do | apply d_yes rfl rfl rfl); first | exact lsc (h1) | exact lsc (h2) | exact lsc (h3) | exact lsq) | refine a_seq ?_ | refine a_region ?_ | refine o_nil ?_ | refine a_block ?_ | refine a_ret ?_ | refine a_exit ?_ | refine a_skip ?_ | refine a_draw mixed ?_ | refine d_nil (by kernel_rfl) ?_ | refine o_yes rfl rfl rfl ?_ | refine o_no rfl rfl rfl (by decide) ?_ | refine o_no' rfl rfl rfl ?_ | refine a_condT rfl ?_ | refine a_condF rfl ?_ | refine d_no rfl rfl rfl (by decide) ?_ | refine d_no' rfl rfl rfl ?_ | (refine wq2 (fun hb => ?_) (fun hb => ?_) <;> (simp only [hb]; try simp only [hbs, ne_eq] at hb; try (exfalso; first | omega | exact hb trivial))) | fail)
      all_goals refine rq rfl ?_
      all_goals exact fnq
  obtain ⟨q, r3, hq, t3, e3⟩ := fo_out b3
  rw [e3] at h3
  clear b3 e3
  rw [back_s t3, go3 hq] at hR
  have hs3 := sm_tail hs2 t3
  have h4 := p_numbers (mkB r3) (wordK 4) 2 (by omega) hs3
  by_cases b4 : (nsR (mkB r3) (wordK 4) 2).2.2 = true
  case neg =>
      rw [pars_miss (fun h => b4 (hit4 h))] at hR
      subst hR
      have bf := Bool.eq_false_iff.2 b4
      rw [bf] at h4
      generalize nsR (mkB r3) (wordK 4) 2 = F at *
      obtain ⟨f1, f2, f3⟩ := F
      unfold wordK niv at *
      unfold J8.av zJ
      dsimp only [List.map_cons, List.map_nil] at *
      refine PC.mk (ac_body tab_ok Tryz.func48 rfl (by kernel_rfl) rfl ?_); intro w0 M μ0; simp only [Tryz.ntmps48, List.length_cons, List.length_nil, Nat.reduceAdd, Nat.reduceSub, numb]
      repeat' (first | ((first | apply o_do | apply d_do | apply d_yes rfl rfl rfl); first | exact lsc (h1) | exact lsc (h2) | exact lsc (h3) | exact lsc (h4) | exact lsq) | refine a_seq ?_ | refine a_region ?_ | refine o_nil ?_ | refine a_block ?_ | refine a_ret ?_ | refine a_exit ?_ | refine a_skip ?_ | refine a_draw mixed ?_ | refine d_nil (by kernel_rfl) ?_ | refine o_yes rfl rfl rfl ?_ | refine o_no rfl rfl rfl (by decide) ?_ | refine o_no' rfl rfl rfl ?_ | refine a_condT rfl ?_ | refine a_condF rfl ?_ | refine d_no rfl rfl rfl (by decide) ?_ | refine d_no' rfl rfl rfl ?_ | (refine wq2 (fun hb => ?_) (fun hb => ?_) <;> (simp only [hb]; try simp only [hbs, ne_eq] at hb; try (exfalso; first | omega | exact hb trivial))) | fail)
      all_goals refine rq rfl ?_
      all_goals exact fnq
  obtain ⟨li, fu, r4, nli, nfu, t4, e4⟩ := ns2_out b4
  rw [e4] at h4
  clear b4 e4
  rw [back_s t4, go4 nli nfu] at hR
  have hs4 := sm_tail hs3 t4
  have h5 := p_numbers (mkB r4) (wordK 5) 1 (by omega) hs4
  by_cases b5 : (nsR (mkB r4) (wordK 5) 1).2.2 = true
  case neg =>
      rw [pars_miss (fun h => b5 (hit5 h))] at hR
      subst hR
      have bf := Bool.eq_false_iff.2 b5
      rw [bf] at h5
      generalize nsR (mkB r4) (wordK 5) 1 = F at *
      obtain ⟨f1, f2, f3⟩ := F
      unfold wordK niv at *
      unfold J8.av zJ
      dsimp only [List.map_cons, List.map_nil] at *
      refine PC.mk (ac_body tab_ok Tryz.func48 rfl (by kernel_rfl) rfl ?_); intro w0 M μ0; simp only [Tryz.ntmps48, List.length_cons, List.length_nil, Nat.reduceAdd, Nat.reduceSub, numb]
      repeat' (first | ((first | apply o_do | apply d_do | apply d_yes rfl rfl rfl); first | exact lsc (h1) | exact lsc (h2) | exact lsc (h3) | exact lsc (h4) | exact lsc (h5) | exact lsq) | refine a_seq ?_ | refine a_region ?_ | refine o_nil ?_ | refine a_block ?_ | refine a_ret ?_ | refine a_exit ?_ | refine a_skip ?_ | refine a_draw mixed ?_ | refine d_nil (by kernel_rfl) ?_ | refine o_yes rfl rfl rfl ?_ | refine o_no rfl rfl rfl (by decide) ?_ | refine o_no' rfl rfl rfl ?_ | refine a_condT rfl ?_ | refine a_condF rfl ?_ | refine d_no rfl rfl rfl (by decide) ?_ | refine d_no' rfl rfl rfl ?_ | (refine wq2 (fun hb => ?_) (fun hb => ?_) <;> (simp only [hb]; try simp only [hbs, ne_eq] at hb; try (exfalso; first | omega | exact hb trivial))) | fail)
      all_goals refine rq rfl ?_
      all_goals exact fnq
  obtain ⟨de, r5, nde, t5, e5⟩ := ns1_out b5
  rw [e5] at h5
  clear b5 e5
  rw [back_s t5, go5 nde] at hR
  have hs5 := sm_tail hs4 t5
  have h6 := p_numbers (mkB r5) (wordK 6) 1 (by omega) hs5
  by_cases b6 : (nsR (mkB r5) (wordK 6) 1).2.2 = true
  case neg =>
      rw [pars_miss (fun h => b6 (hit6 h))] at hR
      subst hR
      have bf := Bool.eq_false_iff.2 b6
      rw [bf] at h6
      generalize nsR (mkB r5) (wordK 6) 1 = F at *
      obtain ⟨f1, f2, f3⟩ := F
      unfold wordK niv at *
      unfold J8.av zJ
      dsimp only [List.map_cons, List.map_nil] at *
      refine PC.mk (ac_body tab_ok Tryz.func48 rfl (by kernel_rfl) rfl ?_); intro w0 M μ0; simp only [Tryz.ntmps48, List.length_cons, List.length_nil, Nat.reduceAdd, Nat.reduceSub, numb]
      repeat' (first | ((first | apply o_do | apply d_do | apply d_yes rfl rfl rfl); first | exact lsc (h1) | exact lsc (h2) | exact lsc (h3) | exact lsc (h4) | exact lsc (h5) | exact lsc (h6) | exact lsq) | refine a_seq ?_ | refine a_region ?_ | refine o_nil ?_ | refine a_block ?_ | refine a_ret ?_ | refine a_exit ?_ | refine a_skip ?_ | refine a_draw mixed ?_ | refine d_nil (by kernel_rfl) ?_ | refine o_yes rfl rfl rfl ?_ | refine o_no rfl rfl rfl (by decide) ?_ | refine o_no' rfl rfl rfl ?_ | refine a_condT rfl ?_ | refine a_condF rfl ?_ | refine d_no rfl rfl rfl (by decide) ?_ | refine d_no' rfl rfl rfl ?_ | (refine wq2 (fun hb => ?_) (fun hb => ?_) <;> (simp only [hb]; try simp only [hbs, ne_eq] at hb; try (exfalso; first | omega | exact hb trivial))) | fail)
      all_goals refine rq rfl ?_
      all_goals exact fnq
  obtain ⟨id, r6, nid, t6, e6⟩ := ns1_out b6
  rw [e6] at h6
  clear b6 e6
  rw [back_s t6, go6 nid] at hR
  have hs6 := sm_tail hs5 t6
  unfold pars at hR
  have hJ := j_rRight (smallV g) sz sl ((q : Int) + 1) (smallV fu) li de (smallV id)
  have hS := p_rSmall
  have a1 : ([g].map niv)[0]? = some (niv g) := rfl
  have a2 : ([sz, sl].map niv)[0]? = some (niv sz) := rfl
  have a3 : ([sz, sl].map niv)[1]? = some (niv sl) := rfl
  have a4 : ([li, fu].map niv)[0]? = some (niv li) := rfl
  have a5 : ([li, fu].map niv)[1]? = some (niv fu) := rfl
  have a6 : ([de].map niv)[0]? = some (niv de) := rfl
  have a7 : ([id].map niv)[0]? = some (niv id) := rfl
  unfold wordK at *
  unfold jAv at hJ
  dsimp only at *
  have hok : J8.ok ⟨smallV g, sz, sl, (q : Int) + 1, smallV fu, li, de, smallV id⟩ = jobOK (smallV g) sz sl ((q : Int) + 1) (smallV fu) li de (smallV id) := rfl
  cases he : ((mkB r6).toList == em.toList)
  · rw [if_pos he] at hR
    subst hR
    unfold em at he
    unfold J8.av zJ
    refine PC.mk (ac_body tab_ok Tryz.func48 rfl (by kernel_rfl) rfl ?_); intro w0 M μ0; simp only [Tryz.ntmps48, List.length_cons, List.length_nil, Nat.reduceAdd, Nat.reduceSub, numb]
    repeat' (first | ((first | apply o_do | apply d_do | apply d_yes rfl rfl rfl); first | exact lsc (h1) | exact lsc (h2) | exact lsc (h3) | exact lsc (h4) | exact lsc (h5) | exact lsc (h6) | exact lsq) | refine a_seq ?_ | refine a_region ?_ | refine o_nil ?_ | refine a_block ?_ | refine a_ret ?_ | refine a_exit ?_ | refine a_skip ?_ | refine a_draw mixed ?_ | refine d_nil (by kernel_rfl) ?_ | refine o_yes rfl rfl rfl ?_ | refine o_no rfl rfl rfl (by decide) ?_ | refine o_no' rfl rfl rfl ?_ | refine a_condT rfl ?_ | refine a_condF rfl ?_ | refine d_no rfl rfl rfl (by decide) ?_ | refine d_no' rfl rfl rfl ?_ | (refine wq2 (fun hb => ?_) (fun hb => ?_) <;> (simp only [hb]; try simp only [hbs, ne_eq] at hb; try (exfalso; first | omega | exact hb trivial))) | fail)
    all_goals try (exfalso; simp_all; done)
    all_goals refine rq rfl ?_
    all_goals exact fnq
  · rw [if_neg (by rw [he]; simp)] at hR
    unfold em at he
    cases ho : jobOK (smallV g) sz sl ((q : Int) + 1) (smallV fu) li de (smallV id)
    · rw [if_pos (by rw [hok, ho])] at hR
      rw [ho] at hJ
      subst hR
      unfold J8.av zJ
      refine PC.mk (ac_body tab_ok Tryz.func48 rfl (by kernel_rfl) rfl ?_); intro w0 M μ0; simp only [Tryz.ntmps48, List.length_cons, List.length_nil, Nat.reduceAdd, Nat.reduceSub, numb]
      repeat' (first | ((first | apply o_do | apply d_do | apply d_yes rfl rfl rfl); first | exact lsc (h1) | exact lsc (h2) | exact lsc (h3) | exact lsc (h4) | exact lsc (h5) | exact lsc (h6) | exact lsc ((hS _)) | exact lsc (hJ) | exact ls_indexAddr_sl (q := 0) tab_ok rfl rfl rfl rfl rfl rfl | exact ls_indexAddr_sl (q := 1) tab_ok rfl rfl rfl rfl rfl rfl | exact lsq) | refine a_seq ?_ | refine a_region ?_ | refine o_nil ?_ | refine a_block ?_ | refine a_ret ?_ | refine a_exit ?_ | refine a_skip ?_ | refine a_draw mixed ?_ | refine d_nil (by kernel_rfl) ?_ | refine o_yes rfl rfl rfl ?_ | refine o_no rfl rfl rfl (by decide) ?_ | refine o_no' rfl rfl rfl ?_ | refine a_condT rfl ?_ | refine a_condF rfl ?_ | refine d_no rfl rfl rfl (by decide) ?_ | refine d_no' rfl rfl rfl ?_ | (refine wq2 (fun hb => ?_) (fun hb => ?_) <;> (simp only [hb]; try simp only [hbs, ne_eq] at hb; try (exfalso; first | omega | exact hb trivial))) | fail)
      all_goals try (exfalso; simp_all; done)
      all_goals refine rq rfl ?_
      all_goals exact fnq
    · rw [if_neg (by rw [hok, ho]; simp)] at hR
      rw [ho] at hJ
      subst hR
      unfold J8.av
      refine PC.mk (ac_body tab_ok Tryz.func48 rfl (by kernel_rfl) rfl ?_); intro w0 M μ0; simp only [Tryz.ntmps48, List.length_cons, List.length_nil, Nat.reduceAdd, Nat.reduceSub, numb]
      repeat' (first | ((first | apply o_do | apply d_do | apply d_yes rfl rfl rfl); first | exact lsc (h1) | exact lsc (h2) | exact lsc (h3) | exact lsc (h4) | exact lsc (h5) | exact lsc (h6) | exact lsc ((hS _)) | exact lsc (hJ) | exact ls_indexAddr_sl (q := 0) tab_ok rfl rfl rfl rfl rfl rfl | exact ls_indexAddr_sl (q := 1) tab_ok rfl rfl rfl rfl rfl rfl | exact lsq) | refine a_seq ?_ | refine a_region ?_ | refine o_nil ?_ | refine a_block ?_ | refine a_ret ?_ | refine a_exit ?_ | refine a_skip ?_ | refine a_draw mixed ?_ | refine d_nil (by kernel_rfl) ?_ | refine o_yes rfl rfl rfl ?_ | refine o_no rfl rfl rfl (by decide) ?_ | refine o_no' rfl rfl rfl ?_ | refine a_condT rfl ?_ | refine a_condF rfl ?_ | refine d_no rfl rfl rfl (by decide) ?_ | refine d_no' rfl rfl rfl ?_ | (refine wq2 (fun hb => ?_) (fun hb => ?_) <;> (simp only [hb]; try simp only [hbs, ne_eq] at hb; try (exfalso; first | omega | exact hb trivial))) | fail)
      all_goals try (exfalso; simp_all; done)
      all_goals refine rq rfl ?_
      all_goals exact fnq
end Go.Proofs.YtbhblhcgfenobaaGreatDoor
namespace Go.Proofs.YtbhblhcgfenobaaGreatDoor
open Go.RowKit
set_option linter.unusedSimpArgs false
set_option linter.unusedVariables false
def minB : ByteArray := ⟨#[45, 57, 50, 50, 51, 51, 55, 50, 48, 51, 54, 56, 53, 52, 55, 55, 53, 56, 48, 56]⟩
theorem min_itoB : minB = itoB (-9223372036854775808) := by
  apply bytes_ext2
  have := itoB_neg (u := 9223372036854775808) (by decide)
  rw [show (-9223372036854775808 : Int) = -((9223372036854775808 : Nat) : Int) by decide, this]
  have h : Lib.decDigits 9223372036854775808 = [57, 50, 50, 51, 51, 55, 50, 48, 51, 54, 56, 53, 52, 55, 55, 53, 56, 48, 56] := by
    repeat (first | rfl | rw [Lib.decDigits])
    all_goals decide
  rw [h]; rfl
/-- a number with a sign: the digits behind the sign -/
theorem whole_neg {s : ByteArray} {r : List UInt8} (he : s.data.toList = 45 :: r) (hm : s ≠ minB) : wholeB s = (numB (mkB r) && decide ((numS (mkB r)).1 > 0)) ∧ (wholeB s = true → -(numS (mkB r)).1 = numV s) := by
  have hiff := numS_iff (mkB r)
  cases hw : wholeB s
  · refine ⟨?_, fun h => by cases h⟩
    cases hn : numB (mkB r)
    · rfl
    · have hv := hiff.2 hn
      obtain ⟨n, hn1, e, e2⟩ := num_in hn
      rw [e2] at hv
      rw [hv, Bool.true_and]
      symm
      rw [decide_eq_false_iff_not]
      intro h0
      obtain ⟨u, rfl⟩ : ∃ u : Nat, n = (u : Int) := ⟨n.toNat, by omega⟩
      have es : s = itoB (-(u : Int)) := by
        apply bytes_ext2
        rw [he, itoB_neg (by omega), ← itoB_nat, ← e, mkB_list]
      have := (whole_back (v := -(u : Int)) ⟨by have := hn1.2; omega, by omega⟩).1
      rw [← es, hw] at this; cases this
  · obtain ⟨hi, es⟩ := whole_once hw
    generalize numV s = v at *
    have hneg : v < 0 := by
      rcases Int.lt_or_le v 0 with h | h
      · exact h
      · exfalso
        obtain ⟨u, rfl⟩ : ∃ u : Nat, v = (u : Int) := ⟨v.toNat, by omega⟩
        have e3 := itoB_nat u
        rw [← es, he] at e3
        have := isD_dig (u := u) 45 (by rw [← e3]; simp)
        exact absurd this (by decide)
    obtain ⟨u, rfl⟩ : ∃ u : Nat, v = -(u : Int) := ⟨v.natAbs, by omega⟩
    have e3 := itoB_neg (u := u) (by omega)
    rw [← es, he] at e3
    injection e3 with _ e3
    have hu : u ≤ 9223372036854775807 := by
      have h1 := hi.1
      rcases Nat.lt_or_ge u 9223372036854775808 with h | h
      · omega
      · obtain rfl : u = 9223372036854775808 := by omega
        exact absurd (es.trans min_itoB.symm) hm
    have er : mkB r = itoB (u : Int) := by
      apply bytes_ext2
      rw [mkB_list, e3, itoB_nat]
    obtain ⟨k1, k2⟩ := num_back (n := (u : Int)) (by omega) (by omega)
    rw [← er] at k1 k2
    have hv := hiff.2 k2
    rw [k1] at hv
    rw [k2, hv]
    refine ⟨?_, fun _ => rfl⟩
    symm
    simp
    omega
theorem whole_pos {s : ByteArray} (h : ¬ ∃ c r, s.data.toList = 45 :: c :: r) : wholeB s = numB s := by
  rw [num_whole]
  cases hw : wholeB s
  · rfl
  · obtain ⟨hi, es⟩ := whole_once hw
    rw [Bool.true_and]
    symm
    rw [decide_eq_true_eq]
    rcases Int.lt_or_le (numV s) 0 with h0 | h0
    · exfalso
      obtain ⟨u, hu⟩ : ∃ u : Nat, numV s = -(u : Int) := ⟨(numV s).natAbs, by omega⟩
      rw [hu] at es
      have e3 := itoB_neg (u := u) (by omega)
      rw [← es] at e3
      cases hd : Lib.decDigits u with
      | nil => exact dig_ne u hd
      | cons c r => rw [hd] at e3; exact h ⟨c, r, e3⟩
    · exact h0
set_option maxHeartbeats 4000000 in
theorem p_rSigned (s : ByteArray) (hs : Sm s) : ∃ v, (wholeB s = true → v = numV s) ∧ PC Tryz.prog 86 [.v (.string s)] (.tup [.v (.int .i64 v), .v (.bool (wholeB s))]) := by
  have hsn := hs.n
  by_cases hm : s = minB
  · obtain ⟨k1, k2⟩ := whole_back (v := -9223372036854775808) ⟨by decide, by decide⟩
    rw [← min_itoB, ← hm] at k1 k2
    refine ⟨-9223372036854775808, fun _ => k2.symm, ?_⟩
    rw [k1]
    have hq : (s.toList == minB.toList) = true := by rw [hm]; simp
    unfold minB at hq
    refine PC.mk (ac_body tab_ok Tryz.func86 rfl (by kernel_rfl) rfl ?_); intro w0 M μ0; simp only [Tryz.ntmps86, List.length_cons, List.length_nil, Nat.reduceAdd, Nat.reduceSub, numb]
    repeat' (first | ((first | apply o_do | apply d_do | apply d_yes rfl rfl rfl); exact lsq) | refine a_seq ?_ | refine a_region ?_ | refine o_nil ?_ | refine a_block ?_ | refine a_ret ?_ | refine a_exit ?_ | refine a_skip ?_ | refine a_draw mixed ?_ | refine d_nil (by kernel_rfl) ?_ | refine o_yes rfl rfl rfl ?_ | refine o_no rfl rfl rfl (by decide) ?_ | refine o_no' rfl rfl rfl ?_ | refine a_condT rfl ?_ | refine a_condF rfl ?_ | refine d_no rfl rfl rfl (by decide) ?_ | refine d_no' rfl rfl rfl ?_ | (refine wq2 (fun hb => ?_) (fun hb => ?_) <;> (simp only [hb]; try simp only [hbs, ne_eq] at hb; try (exfalso; first | omega | exact hb trivial))) | fail)
    all_goals try (exfalso; simp_all; done)
    all_goals refine rq rfl ?_
    all_goals exact fnq
  have hq : (s.toList == minB.toList) = false := by
    rw [beq_eq_false_iff_ne]
    intro h; exact hm (bytes_ext h)
  unfold minB at hq
  by_cases hc : ∃ c r, s.data.toList = 45 :: c :: r
  · obtain ⟨c, r, he⟩ := hc
    obtain ⟨w1, w2⟩ := whole_neg he hm
    have hsz : s.size = r.length + 2 := by rw [← size_list, he]; simp
    obtain ⟨s0, h0⟩ := at_mid (s := s) (A := []) (q := 0) he rfl
    have hi : (s[0].toNat : Int) = 45 := by rw [h0]; rfl
    have hx := ext_post (s := s) (l := [45]) (r := c :: r) he
    have e1 : ([45] : List UInt8).length = 1 := rfl
    rw [e1] at hx
    have hN := p_rNumber (mkB (c :: r)) (by unfold Sm at *; rw [← size_list, mkB_list, List.length_cons]; omega)
    refine ⟨-(numS (mkB (c :: r))).1, w2, ?_⟩
    rw [w1]
    clear w1 w2
    have hrg : numB (mkB (c :: r)) = true → (numS (mkB (c :: r))).1 ≤ 9223372036854775807 ∧ 0 ≤ (numS (mkB (c :: r))).1 := fun h => by
      obtain ⟨n, hn, _, e⟩ := num_in h
      rw [(numS_iff _).2 h, e]
      exact ⟨hn.2, hn.1⟩
    have hz : numB (mkB (c :: r)) = false → (numS (mkB (c :: r))).1 ≤ 9223372036854775807 ∧ 0 ≤ (numS (mkB (c :: r))).1 := fun h => by
      unfold numS
      split
      · exact ⟨by dsimp only; omega, by dsimp only; omega⟩
      · rename_i hb2
        have := good_le (dg_of (mkB (c :: r))).dig hb2
        exact ⟨by dsimp only; omega, by dsimp only; omega⟩
    have hbd : (numS (mkB (c :: r))).1 ≤ 9223372036854775807 ∧ 0 ≤ (numS (mkB (c :: r))).1 := by
      cases h : numB (mkB (c :: r))
      · exact hz h
      · exact hrg h
    clear hrg hz
    rw [← hx] at *
    generalize (numS (s.extract 1 s.size)).1 = n at *
    have g1 : IntKind.i64.wrap (0 - n) = -n := by rw [IntKind.wrap_i64]; omega
    cases hb2 : numB (s.extract 1 s.size)
    all_goals
      rw [hb2] at hN
      refine PC.mk (ac_body tab_ok Tryz.func86 rfl (by kernel_rfl) rfl ?_); intro w0 M μ0; simp only [Tryz.ntmps86, List.length_cons, List.length_nil, Nat.reduceAdd, Nat.reduceSub, numb]
      repeat' (first | ((first | apply o_do | apply d_do | apply d_yes rfl rfl rfl); first | exact ls_index_str (q := 0) tab_ok rfl rfl rfl rfl s0 rfl | exact ls_strFrom (n := 1) tab_ok rfl rfl rfl rfl (by omega) rfl | exact lsc (hN) | exact lsq) | refine a_seq ?_ | refine a_region ?_ | refine o_nil ?_ | refine a_block ?_ | refine a_ret ?_ | refine a_exit ?_ | refine a_skip ?_ | refine a_draw mixed ?_ | refine d_nil (by kernel_rfl) ?_ | refine o_yes rfl rfl rfl ?_ | refine o_no rfl rfl rfl (by decide) ?_ | refine o_no' rfl rfl rfl ?_ | refine a_condT rfl ?_ | refine a_condF rfl ?_ | refine d_no rfl rfl rfl (by decide) ?_ | refine d_no' rfl rfl rfl ?_ | (refine wq2 (fun hb => ?_) (fun hb => ?_) <;> (simp only [hb]; try simp only [hbs, ne_eq] at hb; try (exfalso; first | omega | exact hb trivial))) | fail)
      all_goals try (exfalso; simp_all; done)
      all_goals try (exfalso; omega)
      all_goals refine rq rfl ?_
      all_goals (first | refine FinA.tup ?_ | refine FinA.one ?_); repeat' (first | exact FinBs.nil | exact FinCs.nil | refine FinBs.cons ?_ ?_ | refine FinCs.cons ?_ ?_ | refine FinB.cell (FinC.v ?_) | refine FinB.cell (FinC.own rfl rfl rfl ?_) | exact FinB.cell FinC.nil | refine FinB.cell (FinC.sl ?_) | exact FinB.agg' rfl rfl | exact FinB.cell (FinC.same rfl) | refine FinB.agg ?_ | refine FinC.v ?_ | refine FinC.own rfl rfl rfl ?_ | exact FinC.nil | refine FinC.sl ?_ | exact FinC.same rfl); all_goals try rfl
      all_goals try rw [g1]
  · have w1 := whole_pos hc
    have hN := p_rNumber s hs
    refine ⟨(numS s).1, fun h => (numS_iff s).2 (by rw [← w1]; exact h), ?_⟩
    rw [w1]
    generalize (numS s).1 = n at *
    by_cases h1 : 1 < s.size
    · have h0 : ¬ (s[0].toNat : Int) = 45 := by
        intro h
        refine hc ?_
        match hd : s.data.toList with
        | [] => rw [← size_list, hd] at h1; simp at h1
        | [a] => rw [← size_list, hd] at h1; simp at h1
        | a :: b :: r =>
          obtain ⟨s0, e0⟩ := at_mid (s := s) (A := []) (q := 0) hd rfl
          have : (s[0].toNat : Int) = ((45 : UInt8).toNat : Int) := h
          rw [e0] at this
          exact ⟨b, r, by rw [cN.1 this]⟩
      have s0 : 0 < s.size := by omega
      refine PC.mk (ac_body tab_ok Tryz.func86 rfl (by kernel_rfl) rfl ?_); intro w0 M μ0; simp only [Tryz.ntmps86, List.length_cons, List.length_nil, Nat.reduceAdd, Nat.reduceSub, numb]
      repeat' (first | ((first | apply o_do | apply d_do | apply d_yes rfl rfl rfl); first | exact ls_index_str (q := 0) tab_ok rfl rfl rfl rfl s0 rfl | exact lsc (hN) | exact lsq) | refine a_seq ?_ | refine a_region ?_ | refine o_nil ?_ | refine a_block ?_ | refine a_ret ?_ | refine a_exit ?_ | refine a_skip ?_ | refine a_draw mixed ?_ | refine d_nil (by kernel_rfl) ?_ | refine o_yes rfl rfl rfl ?_ | refine o_no rfl rfl rfl (by decide) ?_ | refine o_no' rfl rfl rfl ?_ | refine a_condT rfl ?_ | refine a_condF rfl ?_ | refine d_no rfl rfl rfl (by decide) ?_ | refine d_no' rfl rfl rfl ?_ | (refine wq2 (fun hb => ?_) (fun hb => ?_) <;> (simp only [hb]; try simp only [hbs, ne_eq] at hb; try (exfalso; first | omega | exact hb trivial))) | fail)
      all_goals try (exfalso; simp_all; done)
      all_goals try (exfalso; omega)
      all_goals refine rq rfl ?_
      all_goals exact fnq
    · refine PC.mk (ac_body tab_ok Tryz.func86 rfl (by kernel_rfl) rfl ?_); intro w0 M μ0; simp only [Tryz.ntmps86, List.length_cons, List.length_nil, Nat.reduceAdd, Nat.reduceSub, numb]
      repeat' (first | ((first | apply o_do | apply d_do | apply d_yes rfl rfl rfl); first | exact lsc (hN) | exact lsq) | refine a_seq ?_ | refine a_region ?_ | refine o_nil ?_ | refine a_block ?_ | refine a_ret ?_ | refine a_exit ?_ | refine a_skip ?_ | refine a_draw mixed ?_ | refine d_nil (by kernel_rfl) ?_ | refine o_yes rfl rfl rfl ?_ | refine o_no rfl rfl rfl (by decide) ?_ | refine o_no' rfl rfl rfl ?_ | refine a_condT rfl ?_ | refine a_condF rfl ?_ | refine d_no rfl rfl rfl (by decide) ?_ | refine d_no' rfl rfl rfl ?_ | (refine wq2 (fun hb => ?_) (fun hb => ?_) <;> (simp only [hb]; try simp only [hbs, ne_eq] at hb; try (exfalso; first | omega | exact hb trivial))) | fail)
      all_goals try (exfalso; simp_all; done)
      all_goals try (exfalso; omega)
      all_goals refine rq rfl ?_
      all_goals exact fnq
end Go.Proofs.YtbhblhcgfenobaaGreatDoor
