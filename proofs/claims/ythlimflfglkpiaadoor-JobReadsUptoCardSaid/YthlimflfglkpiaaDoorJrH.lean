/-
  The reference's reading of jobs, walked over abstract values: a word and its numbers, the fold's line.
-/
import Derived.Test.YthlimflfglkpiaaDoorJrG
namespace Go.Proofs.YthlimflfglkpiaaDoor
open Go.RowKit
set_option linter.unusedSimpArgs false
set_option linter.unusedVariables false
def niv (n : Int) : List AV := [.v (.int .i64 n)]
set_option maxHeartbeats 4000000 in
set_option maxRecDepth 20000 in
theorem p_numbers (s w : ByteArray) (m : Nat) (hm : m ≤ 2) (hs : Sm s) : PC Tryd.prog 41 [.v (.string s), .v (.string w), .v (.int .i64 m)] (.tup [.sl 1 ((nsR s w m).1.map niv), .v (.string (nsR s w m).2.1), .v (.bool (nsR s w m).2.2)]) := by
  obtain ⟨R, hR⟩ : ∃ R, R = nsR s w m := ⟨_, rfl⟩
  obtain ⟨T, hT⟩ : ∃ T, T = nsT s w m := ⟨_, rfl⟩
  unfold nsR at hR
  rw [← hT] at hR
  have hA := p_after s w hs
  have hAs := aftS_sm (b := w) hs
  unfold nsT at hT
  have hR2 : R = nsR s w m := by unfold nsR nsT; rw [← hT]; exact hR
  rw [← hR2]
  clear hR2
  generalize aftS s w = A0 at *
  obtain ⟨a0, b0⟩ := A0
  dsimp only at hA hAs hT
  refine PC.mk (ac_body tab_ok Tryd.func41 rfl (by kernel_rfl) rfl ?_); intro w0 M μ0; simp only [Tryd.ntmps41, List.length_cons, List.length_nil, Nat.reduceAdd, Nat.reduceSub, numb]
  repeat' (first | ((first | apply o_do | apply d_do | apply d_yes rfl rfl rfl); first | exact lsc (hA) | exact lsq) | refine a_seq ?_ | refine a_region ?_ | refine o_nil ?_ | refine a_block ?_ | refine a_ret ?_ | refine a_exit ?_ | refine a_skip ?_ | refine a_draw mixed ?_ | refine d_nil (by kernel_rfl) ?_ | refine o_yes rfl rfl rfl ?_ | refine o_no rfl rfl rfl (by decide) ?_ | refine o_no' rfl rfl rfl ?_ | refine a_condT rfl ?_ | refine a_condF rfl ?_ | refine d_no rfl rfl rfl (by decide) ?_ | refine d_no' rfl rfl rfl ?_ | (refine wq2 (fun hb => ?_) (fun hb => ?_) <;> (simp only [hb]; try simp only [hbs, ne_eq] at hb; try (exfalso; first | omega | exact hb trivial))) | fail)
  refine a_loop (X := {p : Nat × ByteArray × List Int × Bool // p.1 ≤ m ∧ p.2.2.1.length = p.1 ∧ Sm p.2.1 ∧ (p.2.2.2 = true → T = nsG (m - p.1) p.2.1 p.2.2.1) ∧ (p.2.2.2 = false → T = none)}) (fun p => ⟨[(0, .v (.string s)), (1, .v (.string w)), (2, .v (.int .i64 m)), (9, .own 0 (p.1.2.2.1.map niv).length), (10, .v (.string p.1.2.1)), (11, .v (.bool p.1.2.2.2)), (12, .v (.int .i64 p.1.1))], [(0, .row 2 1 (p.1.2.2.1.map niv))]⟩) (fun p => m - p.1.1) ⟨(0, a0, [], b0), Nat.zero_le _, rfl, hAs, (fun h => by dsimp only at h; subst h; simpa using hT), (fun h => by dsimp only at h; subst h; simpa using hT)⟩ ?_ ?_
  · refine ⟨by repeat' (first | exact trivial | exact FinA.one (FinB.cell (FinC.same rfl)) | exact FinA.one (FinB.cell FinC.nil) | exact FinA.bound rfl | exact FinA.one (FinB.cell (FinC.own rfl rfl rfl rfl)) | exact FinA.one (FinB.cell (FinC.v (by first | rfl | (simp)))) | exact FinA.one (FinB.cell (FinC.ow rfl (by first | rfl | (simp)))) | exact FinA.one (FinB.agg' rfl rfl) | refine ⟨⟨_, rfl, ?_⟩, ?_⟩), by repeat' (first | exact trivial | refine ⟨⟨_, rfl, by first | rfl | (simp; done) | (simp [renO, *]; done)⟩, by first | rfl | assumption, ?_⟩), rfl⟩
  clear hT hA hAs
  rintro ⟨⟨i, rest, out, b⟩, hi, hlen, hsm, hY, hN⟩
  dsimp only at hi hlen hsm hY hN ⊢
  have hml : (out.map niv).length = out.length := List.length_map _
  cases b with
  | false =>
    rw [hN rfl] at hR
    dsimp only at hR
    subst hR
    repeat' (first | ((first | apply o_do | apply d_do | apply d_yes rfl rfl rfl); exact lsq) | refine a_seq ?_ | refine a_region ?_ | refine o_nil ?_ | refine a_block ?_ | refine a_ret ?_ | refine a_exit ?_ | refine a_skip ?_ | refine a_draw mixed ?_ | refine d_nil (by kernel_rfl) ?_ | refine o_yes rfl rfl rfl ?_ | refine o_no rfl rfl rfl (by decide) ?_ | refine o_no' rfl rfl rfl ?_ | refine a_condT rfl ?_ | refine a_condF rfl ?_ | refine d_no rfl rfl rfl (by decide) ?_ | refine d_no' rfl rfl rfl ?_ | (refine wq2 (fun hb => ?_) (fun hb => ?_) <;> (simp only [hb]; try simp only [hbs, ne_eq] at hb; try (exfalso; first | omega | exact hb trivial))) | fail)
    all_goals refine ⟨by first | exact .inr rfl | exact .inl rfl, _, rfl, ?_, by repeat' (first | exact trivial | refine ⟨⟨_, rfl, by first | rfl | (simp [renO, *]; done)⟩, by first | rfl | assumption, ?_⟩)⟩
    all_goals (first | refine FinA.tup ?_ | refine FinA.one ?_); repeat' (first | exact FinBs.nil | exact FinCs.nil | refine FinBs.cons ?_ ?_ | refine FinCs.cons ?_ ?_ | refine FinB.cell (FinC.v ?_) | refine FinB.cell (FinC.own rfl rfl rfl ?_) | exact FinB.cell FinC.nil | refine FinB.cell (FinC.sl ?_) | exact FinB.agg' rfl rfl | exact FinB.cell (FinC.same rfl) | refine FinB.agg ?_ | refine FinC.v ?_ | refine FinC.own rfl rfl rfl ?_ | exact FinC.nil | refine FinC.sl ?_ | exact FinC.same rfl); all_goals try rfl
  | true =>
    have hY := hY rfl
    by_cases hlt : i < m
    · have h1 := p_after rest spR hsm
      have h2 := p_Number (aftS rest spR).1 (aftS_sm hsm)
      have h3 := numS_sm (aftS_sm (b := spR) hsm)
      obtain ⟨d, hd⟩ : ∃ d, m - i = d + 1 := ⟨m - i - 1, by omega⟩
      have e3 : m - (i + 1) = d := by omega
      rw [hd] at hY
      obtain ⟨a1, b1, e1⟩ : ∃ a b, aftS rest spR = (a, b) := ⟨_, _, rfl⟩
      rw [e1] at h1 h2 h3
      obtain ⟨n, a2, b2, e2⟩ : ∃ n a b, numS a1 = (n, a, b) := ⟨_, _, _, rfl⟩
      dsimp only at h2 h3
      rw [e2] at h2 h3
      dsimp only at h1 h2 h3
      have eR : rdS rest = (n, a2, b1 && b2) := by
        unfold rdS
        rw [e1]
        dsimp only
        rw [e2]
      simp only [nsG, eR] at hY
      clear e1 e2
      unfold spR at h1
      cases b1 <;> cases b2
      all_goals
        simp only [Bool.and_true, Bool.and_false, Bool.true_and, Bool.false_and, if_true, if_false, Bool.false_eq_true] at hY
        repeat' (first | ((first | apply o_do | apply d_do | apply d_yes rfl rfl rfl); first | exact lsc (h1) | exact lsc (h2) | exact ls_append tab_ok rfl rfl rfl rfl (by first | exact SrcIs.sl | exact SrcIs.nil | exact SrcIs.own rfl rfl) rfl (by (try simp only [List.length_cons, List.length_nil]); omega) rfl rfl | exact lsq) | refine a_seq ?_ | refine a_region ?_ | refine o_nil ?_ | refine a_block ?_ | refine a_ret ?_ | refine a_exit ?_ | refine a_skip ?_ | refine a_draw mixed ?_ | refine d_nil (by kernel_rfl) ?_ | refine o_yes rfl rfl rfl ?_ | refine o_no rfl rfl rfl (by decide) ?_ | refine o_no' rfl rfl rfl ?_ | refine a_condT rfl ?_ | refine a_condF rfl ?_ | refine d_no rfl rfl rfl (by decide) ?_ | refine d_no' rfl rfl rfl ?_ | (refine wq2 (fun hb => ?_) (fun hb => ?_) <;> (simp only [hb]; try simp only [hbs, ne_eq] at hb; try (exfalso; first | omega | exact hb trivial))) | fail)
      · refine ⟨⟨(i + 1, a2, out ++ [n], false), by dsimp only; omega, by simp [hlen], h3, (fun h => nomatch h), (fun _ => hY)⟩, by dsimp only; omega, ?_⟩
        refine ⟨by repeat' (first | exact trivial | exact FinA.one (FinB.cell (FinC.same rfl)) | exact FinA.one (FinB.cell FinC.nil) | exact FinA.bound rfl | exact FinA.one (FinB.cell (FinC.own rfl rfl rfl rfl)) | exact FinA.one (FinB.cell (FinC.v (by first | rfl | ((first | (simp; done) | (simp; rfl)))))) | exact FinA.one (FinB.cell (FinC.ow rfl (by first | rfl | ((first | (simp; done) | (simp; rfl)))))) | exact FinA.one (FinB.agg' rfl rfl) | refine ⟨⟨_, rfl, ?_⟩, ?_⟩), by repeat' (first | exact trivial | refine ⟨⟨_, rfl, by first | rfl | ((first | (simp; done) | (simp; rfl)); done) | (simp [renO, *]; done)⟩, by first | rfl | assumption, ?_⟩), rfl⟩
      · refine ⟨⟨(i + 1, a2, out ++ [n], false), by dsimp only; omega, by simp [hlen], h3, (fun h => nomatch h), (fun _ => hY)⟩, by dsimp only; omega, ?_⟩
        refine ⟨by repeat' (first | exact trivial | exact FinA.one (FinB.cell (FinC.same rfl)) | exact FinA.one (FinB.cell FinC.nil) | exact FinA.bound rfl | exact FinA.one (FinB.cell (FinC.own rfl rfl rfl rfl)) | exact FinA.one (FinB.cell (FinC.v (by first | rfl | ((first | (simp; done) | (simp; rfl)))))) | exact FinA.one (FinB.cell (FinC.ow rfl (by first | rfl | ((first | (simp; done) | (simp; rfl)))))) | exact FinA.one (FinB.agg' rfl rfl) | refine ⟨⟨_, rfl, ?_⟩, ?_⟩), by repeat' (first | exact trivial | refine ⟨⟨_, rfl, by first | rfl | ((first | (simp; done) | (simp; rfl)); done) | (simp [renO, *]; done)⟩, by first | rfl | assumption, ?_⟩), rfl⟩
      · refine ⟨⟨(i + 1, a2, out ++ [n], false), by dsimp only; omega, by simp [hlen], h3, (fun h => nomatch h), (fun _ => hY)⟩, by dsimp only; omega, ?_⟩
        refine ⟨by repeat' (first | exact trivial | exact FinA.one (FinB.cell (FinC.same rfl)) | exact FinA.one (FinB.cell FinC.nil) | exact FinA.bound rfl | exact FinA.one (FinB.cell (FinC.own rfl rfl rfl rfl)) | exact FinA.one (FinB.cell (FinC.v (by first | rfl | ((first | (simp; done) | (simp; rfl)))))) | exact FinA.one (FinB.cell (FinC.ow rfl (by first | rfl | ((first | (simp; done) | (simp; rfl)))))) | exact FinA.one (FinB.agg' rfl rfl) | refine ⟨⟨_, rfl, ?_⟩, ?_⟩), by repeat' (first | exact trivial | refine ⟨⟨_, rfl, by first | rfl | ((first | (simp; done) | (simp; rfl)); done) | (simp [renO, *]; done)⟩, by first | rfl | assumption, ?_⟩), rfl⟩
      · refine ⟨⟨(i + 1, a2, out ++ [n], true), by dsimp only; omega, by simp [hlen], h3, (fun _ => by dsimp only; rw [e3]; exact hY), (fun h => nomatch h)⟩, by dsimp only; omega, ?_⟩
        refine ⟨by repeat' (first | exact trivial | exact FinA.one (FinB.cell (FinC.same rfl)) | exact FinA.one (FinB.cell FinC.nil) | exact FinA.bound rfl | exact FinA.one (FinB.cell (FinC.own rfl rfl rfl rfl)) | exact FinA.one (FinB.cell (FinC.v (by first | rfl | ((first | (simp; done) | (simp; rfl)))))) | exact FinA.one (FinB.cell (FinC.ow rfl (by first | rfl | ((first | (simp; done) | (simp; rfl)))))) | exact FinA.one (FinB.agg' rfl rfl) | refine ⟨⟨_, rfl, ?_⟩, ?_⟩), by repeat' (first | exact trivial | refine ⟨⟨_, rfl, by first | rfl | ((first | (simp; done) | (simp; rfl)); done) | (simp [renO, *]; done)⟩, by first | rfl | assumption, ?_⟩), rfl⟩
    · obtain rfl : i = m := by omega
      rw [Nat.sub_self] at hY
      simp only [nsG] at hY
      rw [hY] at hR
      dsimp only at hR
      have h1 := p_after rest nlB hsm
      obtain ⟨a1, b1, e1⟩ : ∃ a b, aftS rest nlB = (a, b) := ⟨_, _, rfl⟩
      rw [e1] at h1 hR
      dsimp only at h1 hR
      subst hR
      unfold nlB at h1
      repeat' (first | ((first | apply o_do | apply d_do | apply d_yes rfl rfl rfl); first | exact lsc (h1) | exact lsq) | refine a_seq ?_ | refine a_region ?_ | refine o_nil ?_ | refine a_block ?_ | refine a_ret ?_ | refine a_exit ?_ | refine a_skip ?_ | refine a_draw mixed ?_ | refine d_nil (by kernel_rfl) ?_ | refine o_yes rfl rfl rfl ?_ | refine o_no rfl rfl rfl (by decide) ?_ | refine o_no' rfl rfl rfl ?_ | refine a_condT rfl ?_ | refine a_condF rfl ?_ | refine d_no rfl rfl rfl (by decide) ?_ | refine d_no' rfl rfl rfl ?_ | (refine wq2 (fun hb => ?_) (fun hb => ?_) <;> (simp only [hb]; try simp only [hbs, ne_eq] at hb; try (exfalso; first | omega | exact hb trivial))) | fail)
      all_goals refine ⟨by first | exact .inr rfl | exact .inl rfl, _, rfl, ?_, by repeat' (first | exact trivial | refine ⟨⟨_, rfl, by first | rfl | (simp [renO, *]; done)⟩, by first | rfl | assumption, ?_⟩)⟩
      all_goals (first | refine FinA.tup ?_ | refine FinA.one ?_); repeat' (first | exact FinBs.nil | exact FinCs.nil | refine FinBs.cons ?_ ?_ | refine FinCs.cons ?_ ?_ | refine FinB.cell (FinC.v ?_) | refine FinB.cell (FinC.own rfl rfl rfl ?_) | exact FinB.cell FinC.nil | refine FinB.cell (FinC.sl ?_) | exact FinB.agg' rfl rfl | exact FinB.cell (FinC.same rfl) | refine FinB.agg ?_ | refine FinC.v ?_ | refine FinC.own rfl rfl rfl ?_ | exact FinC.nil | refine FinC.sl ?_ | exact FinC.same rfl); all_goals try rfl
set_option maxHeartbeats 4000000 in
set_option maxRecDepth 20000 in
theorem p_rFoldL (s : ByteArray) (hs : Sm s) : PC Tryd.prog 42 [.v (.string s)] (.tup [.v (.int .i64 (foS s).1), .v (.string (foS s).2.1), .v (.bool (foS s).2.2)]) := by
  obtain ⟨R, hR⟩ : ∃ R, R = foS s := ⟨_, rfl⟩
  rw [← hR]
  unfold foS at hR
  obtain ⟨G, hG⟩ : ∃ G : Nat → Int × ByteArray × Bool, ∀ i, G i = if i < 5 then (if (aftS s (foB i)).2 = true then ((i : Int) + 1, (aftS s (foB i)).1, true) else G (i + 1)) else (0, s, false) := by
    let F : Nat → Int × ByteArray × Bool := fun n => Nat.rec (0, s, false) (fun k r => if (aftS s (foB (4 - k))).2 = true then (((4 - k : Nat) : Int) + 1, (aftS s (foB (4 - k))).1, true) else r) n
    refine ⟨fun i => F (5 - i), fun i => ?_⟩
    by_cases hi : i < 5
    · rw [if_pos hi]
      obtain ⟨k, hk⟩ : ∃ k, 5 - i = k + 1 := ⟨4 - i, by omega⟩
      have h1 : 5 - (i + 1) = k := by omega
      have h2 : 4 - k = i := by omega
      show F (5 - i) = if _ then _ else F (5 - (i + 1))
      rw [hk, h1]
      show (if (aftS s (foB (4 - k))).2 = true then (((4 - k : Nat) : Int) + 1, (aftS s (foB (4 - k))).1, true) else F k) = _
      rw [h2]
    · rw [if_neg hi]
      have h1 : 5 - i = 0 := by omega
      show F (5 - i) = _
      rw [h1]
      rfl
  have hR : R = G 0 := by
    rw [hR, hG 0, hG 1, hG 2, hG 3, hG 4, hG 5]
    simp only [Nat.reduceLT, if_true, Nat.zero_add, Nat.lt_irrefl, if_false]
    rfl
  refine PC.mk (ac_body tab_ok Tryd.func42 rfl (by kernel_rfl) rfl ?_); intro w0 M μ0; simp only [Tryd.ntmps42, List.length_cons, List.length_nil, Nat.reduceAdd, Nat.reduceSub, numb]
  repeat' (first | ((first | apply o_do | apply d_do | apply d_yes rfl rfl rfl); exact lsq) | refine a_seq ?_ | refine a_region ?_ | refine o_nil ?_ | refine a_block ?_ | refine a_ret ?_ | refine a_exit ?_ | refine a_skip ?_ | refine a_draw mixed ?_ | refine d_nil (by kernel_rfl) ?_ | refine o_yes rfl rfl rfl ?_ | refine o_no rfl rfl rfl (by decide) ?_ | refine o_no' rfl rfl rfl ?_ | refine a_condT rfl ?_ | refine a_condF rfl ?_ | refine d_no rfl rfl rfl (by decide) ?_ | refine d_no' rfl rfl rfl ?_ | (refine wq2 (fun hb => ?_) (fun hb => ?_) <;> (simp only [hb]; try simp only [hbs, ne_eq] at hb; try (exfalso; first | omega | exact hb trivial))) | fail)
  refine a_loop (X := {i : Nat // i ≤ 5 ∧ R = G i}) (fun p => ⟨[(0, .v (.string s)), (5, .v (.int .i64 ((p.1 : Int) + 1)))], []⟩) (fun p => 5 - p.1) ⟨0, by omega, hR⟩ ?_ ?_
  · refine ⟨by repeat' (first | exact trivial | exact FinA.one (FinB.cell (FinC.same rfl)) | exact FinA.one (FinB.cell FinC.nil) | exact FinA.bound rfl | exact FinA.one (FinB.cell (FinC.own rfl rfl rfl rfl)) | exact FinA.one (FinB.cell (FinC.v (by first | rfl | (simp)))) | exact FinA.one (FinB.cell (FinC.ow rfl (by first | rfl | (simp)))) | exact FinA.one (FinB.agg' rfl rfl) | refine ⟨⟨_, rfl, ?_⟩, ?_⟩), by repeat' (first | exact trivial | refine ⟨⟨_, rfl, by first | rfl | (simp; done) | (simp [renO, *]; done)⟩, by first | rfl | assumption, ?_⟩), rfl⟩
  clear hR
  rintro ⟨i, hi, hR⟩
  dsimp only at hi hR ⊢
  by_cases hlt : i < 5
  · have hF := p_rName i hlt
    have hA := p_after s (foB i) hs
    rw [hG i, if_pos hlt] at hR
    unfold foB at hA hR
    have hz : (nmQ i).data.size ≤ 8 := nm_size i
    unfold foW nlB at hA
    unfold foW nlB at hR
    obtain ⟨nm, hnm⟩ : ∃ nm, nmQ i = nm := ⟨_, rfl⟩
    rw [hnm] at hA hR hF hz
    obtain ⟨a1, b1, e1⟩ : ∃ a b, aftS s (⟨#[102, 111, 108, 100, 32]⟩ ++ nm ++ ⟨#[10]⟩) = (a, b) := ⟨_, _, rfl⟩
    rw [e1] at hA hR
    dsimp only at hA hR
    cases b1
    · simp only [Bool.false_eq_true, if_false] at hR
      repeat' (first | ((first | apply o_do | apply d_do | apply d_yes rfl rfl rfl); first | exact lsc (hF) | exact ls_cat rfl rfl (by simp only [ByteArray.size, ByteArray.data_append, Array.size_append, List.size_toArray, List.length_cons, List.length_nil]; omega) rfl | exact lsc (hA) | exact lsq) | refine a_seq ?_ | refine a_region ?_ | refine o_nil ?_ | refine a_block ?_ | refine a_ret ?_ | refine a_exit ?_ | refine a_skip ?_ | refine a_draw mixed ?_ | refine d_nil (by kernel_rfl) ?_ | refine o_yes rfl rfl rfl ?_ | refine o_no rfl rfl rfl (by decide) ?_ | refine o_no' rfl rfl rfl ?_ | refine a_condT rfl ?_ | refine a_condF rfl ?_ | refine d_no rfl rfl rfl (by decide) ?_ | refine d_no' rfl rfl rfl ?_ | (refine wq2 (fun hb => ?_) (fun hb => ?_) <;> (simp only [hb]; try simp only [hbs, ne_eq] at hb; try (exfalso; first | omega | exact hb trivial))) | fail)
      refine ⟨⟨i + 1, by omega, hR⟩, by dsimp only; omega, ?_⟩
      refine ⟨by repeat' (first | exact trivial | exact FinA.one (FinB.cell (FinC.same rfl)) | exact FinA.one (FinB.cell FinC.nil) | exact FinA.bound rfl | exact FinA.one (FinB.cell (FinC.own rfl rfl rfl rfl)) | exact FinA.one (FinB.cell (FinC.v (by first | rfl | ((congr 1; omega))))) | exact FinA.one (FinB.cell (FinC.ow rfl (by first | rfl | ((congr 1; omega))))) | exact FinA.one (FinB.agg' rfl rfl) | refine ⟨⟨_, rfl, ?_⟩, ?_⟩), by repeat' (first | exact trivial | refine ⟨⟨_, rfl, by first | rfl | ((congr 1; omega); done) | (simp [renO, *]; done)⟩, by first | rfl | assumption, ?_⟩), rfl⟩
    · simp only [if_true] at hR
      subst hR
      repeat' (first | ((first | apply o_do | apply d_do | apply d_yes rfl rfl rfl); first | exact lsc (hF) | exact ls_cat rfl rfl (by simp only [ByteArray.size, ByteArray.data_append, Array.size_append, List.size_toArray, List.length_cons, List.length_nil]; omega) rfl | exact lsc (hA) | exact lsq) | refine a_seq ?_ | refine a_region ?_ | refine o_nil ?_ | refine a_block ?_ | refine a_ret ?_ | refine a_exit ?_ | refine a_skip ?_ | refine a_draw mixed ?_ | refine d_nil (by kernel_rfl) ?_ | refine o_yes rfl rfl rfl ?_ | refine o_no rfl rfl rfl (by decide) ?_ | refine o_no' rfl rfl rfl ?_ | refine a_condT rfl ?_ | refine a_condF rfl ?_ | refine d_no rfl rfl rfl (by decide) ?_ | refine d_no' rfl rfl rfl ?_ | (refine wq2 (fun hb => ?_) (fun hb => ?_) <;> (simp only [hb]; try simp only [hbs, ne_eq] at hb; try (exfalso; first | omega | exact hb trivial))) | fail)
      all_goals refine ⟨by first | exact .inr rfl | exact .inl rfl, _, rfl, ?_, by repeat' (first | exact trivial | refine ⟨⟨_, rfl, by first | rfl | (simp [renO, *]; done)⟩, by first | rfl | assumption, ?_⟩)⟩
      all_goals (first | refine FinA.tup ?_ | refine FinA.one ?_); repeat' (first | exact FinBs.nil | exact FinCs.nil | refine FinBs.cons ?_ ?_ | refine FinCs.cons ?_ ?_ | refine FinB.cell (FinC.v ?_) | refine FinB.cell (FinC.own rfl rfl rfl ?_) | exact FinB.cell FinC.nil | refine FinB.cell (FinC.sl ?_) | exact FinB.agg' rfl rfl | exact FinB.cell (FinC.same rfl) | refine FinB.agg ?_ | refine FinC.v ?_ | refine FinC.own rfl rfl rfl ?_ | exact FinC.nil | refine FinC.sl ?_ | exact FinC.same rfl); all_goals try rfl
  · obtain rfl : i = 5 := by omega
    rw [hG 5, if_neg (by omega)] at hR
    subst hR
    repeat' (first | ((first | apply o_do | apply d_do | apply d_yes rfl rfl rfl); exact lsq) | refine a_seq ?_ | refine a_region ?_ | refine o_nil ?_ | refine a_block ?_ | refine a_ret ?_ | refine a_exit ?_ | refine a_skip ?_ | refine a_draw mixed ?_ | refine d_nil (by kernel_rfl) ?_ | refine o_yes rfl rfl rfl ?_ | refine o_no rfl rfl rfl (by decide) ?_ | refine o_no' rfl rfl rfl ?_ | refine a_condT rfl ?_ | refine a_condF rfl ?_ | refine d_no rfl rfl rfl (by decide) ?_ | refine d_no' rfl rfl rfl ?_ | (refine wq2 (fun hb => ?_) (fun hb => ?_) <;> (simp only [hb]; try simp only [hbs, ne_eq] at hb; try (exfalso; first | omega | exact hb trivial))) | fail)
    all_goals refine ⟨by first | exact .inr rfl | exact .inl rfl, _, rfl, ?_, by repeat' (first | exact trivial | refine ⟨⟨_, rfl, by first | rfl | (simp [renO, *]; done)⟩, by first | rfl | assumption, ?_⟩)⟩
    all_goals (first | refine FinA.tup ?_ | refine FinA.one ?_); repeat' (first | exact FinBs.nil | exact FinCs.nil | refine FinBs.cons ?_ ?_ | refine FinCs.cons ?_ ?_ | refine FinB.cell (FinC.v ?_) | refine FinB.cell (FinC.own rfl rfl rfl ?_) | exact FinB.cell FinC.nil | refine FinB.cell (FinC.sl ?_) | exact FinB.agg' rfl rfl | exact FinB.cell (FinC.same rfl) | refine FinB.agg ?_ | refine FinC.v ?_ | refine FinC.own rfl rfl rfl ?_ | exact FinC.nil | refine FinC.sl ?_ | exact FinC.same rfl); all_goals try rfl
end Go.Proofs.YthlimflfglkpiaaDoor
