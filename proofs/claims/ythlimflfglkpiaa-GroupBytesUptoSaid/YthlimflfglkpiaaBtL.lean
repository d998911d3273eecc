/-
  A group read from bytes, walked over abstract values: the reference's Get.
-/
import Derived.Test.YthlimflfglkpiaaBtK
namespace Go.Proofs.Ythlimflfglkpiaa
open Go.RowKit
set_option linter.unusedSimpArgs false
set_option linter.unusedVariables false
theorem rdN_nn {s : ByteArray} {i b n a c : Int} (h : rdN s i b = (n, a, c)) : 0 ≤ n := by
  unfold rdN at h
  split at h <;> (injection h with h _; omega)
set_option maxHeartbeats 16000000 in
set_option maxRecDepth 20000 in
theorem g_rGet (s : ByteArray) (hs : s.size ≤ 9223372036854770000) : PC Try.prog 8 [.v (.string s)] (.tup [.agg (getG s).1.av, .v (.int .i64 (getG s).2)]) := by
  obtain ⟨R, hR⟩ : ∃ R, R = getG s := ⟨_, rfl⟩
  rw [← hR]
  obtain ⟨no, a1, b1, e1⟩ : ∃ n a b, rdN s 0 0 = (n, a, b) := ⟨_, _, _, rfl⟩
  obtain ⟨mark, a2, b2, e2⟩ : ∃ n a b, rdN s a1 b1 = (n, a, b) := ⟨_, _, _, rfl⟩
  obtain ⟨many, a3, b3, e3⟩ : ∃ n a b, rdN s a2 b2 = (n, a, b) := ⟨_, _, _, rfl⟩
  have h1 := r_num s 0 0 (by omega)
  have h2 := r_num s a1 b1 (by omega)
  have h3 := r_num s a2 b2 (by omega)
  rw [e1] at h1
  rw [e2] at h2
  rw [e3] at h3
  simp only [getG, e1, e2, e3] at hR
  have hm0 := rdN_nn e3
  obtain ⟨m, rfl⟩ : ∃ m : Nat, many = m := ⟨many.toNat, by omega⟩
  clear e1 e2 e3
  unfold getH at hR
  rw [Int.toNat_natCast] at hR
  unfold SR at h1 h2 h3
  dsimp only at h1 h2 h3
  by_cases hbig : b3 = 0 ∧ 2000 < (m : Int)
  · obtain ⟨rfl, hm⟩ := hbig
    rw [if_neg (by omega), if_pos hm] at hR
    subst hR
    unfold zG Gr.av
    refine PC.mk (ac_body tab_ok Try.func8 rfl (by kernel_rfl) rfl ?_); intro w0 M μ0; simp only [Try.ntmps8, List.length_cons, List.length_nil, Nat.reduceAdd, Nat.reduceSub, numb]
    repeat' (first | ((first | apply o_do | apply d_do | apply d_yes rfl rfl rfl); first | exact ls_callA [1] 50 h1 rfl rfl (by (repeat' (first | exact NilL.nil | refine NilL.cons Nil.same ?_ | refine NilL.cons Nil.nil ?_ | refine NilL.cons (Nil.agg ?_) ?_ | exact Nil1s.nil | refine Nil1s.cons Nil1.same ?_ | refine Nil1s.cons Nil1.nil ?_)); first | done | fail) rfl (by (repeat' (first | exact trivial | refine ⟨⟨_, rfl, by first | rfl | (simp [renO, *]; done) | fail⟩, ?_⟩)); first | done | fail) (by first | rfl | (simp [closO, *]; done) | fail) rfl rfl rfl rfl (by first | rfl | (simp [closO, *]; done) | fail) rfl | exact ls_callA [1] 50 h2 rfl rfl (by (repeat' (first | exact NilL.nil | refine NilL.cons Nil.same ?_ | refine NilL.cons Nil.nil ?_ | refine NilL.cons (Nil.agg ?_) ?_ | exact Nil1s.nil | refine Nil1s.cons Nil1.same ?_ | refine Nil1s.cons Nil1.nil ?_)); first | done | fail) rfl (by (repeat' (first | exact trivial | refine ⟨⟨_, rfl, by first | rfl | (simp [renO, *]; done) | fail⟩, ?_⟩)); first | done | fail) (by first | rfl | (simp [closO, *]; done) | fail) rfl rfl rfl rfl (by first | rfl | (simp [closO, *]; done) | fail) rfl | exact ls_callA [1] 50 h3 rfl rfl (by (repeat' (first | exact NilL.nil | refine NilL.cons Nil.same ?_ | refine NilL.cons Nil.nil ?_ | refine NilL.cons (Nil.agg ?_) ?_ | exact Nil1s.nil | refine Nil1s.cons Nil1.same ?_ | refine Nil1s.cons Nil1.nil ?_)); first | done | fail) rfl (by (repeat' (first | exact trivial | refine ⟨⟨_, rfl, by first | rfl | (simp [renO, *]; done) | fail⟩, ?_⟩)); first | done | fail) (by first | rfl | (simp [closO, *]; done) | fail) rfl rfl rfl rfl (by first | rfl | (simp [closO, *]; done) | fail) rfl | exact ls_nilCheck rfl rfl | exact lsq) | refine a_seq ?_ | refine a_region ?_ | refine o_nil ?_ | refine a_block ?_ | refine a_ret ?_ | refine a_exit ?_ | refine a_skip ?_ | refine a_draw mixed ?_ | refine d_nil (by kernel_rfl) ?_ | refine o_yes rfl rfl rfl ?_ | refine o_no rfl rfl rfl (by decide) ?_ | refine o_no' rfl rfl rfl ?_ | refine a_condT rfl ?_ | refine a_condF rfl ?_ | refine d_no rfl rfl rfl (by decide) ?_ | refine d_no' rfl rfl rfl ?_ | (refine wq2 (fun hb => ?_) (fun hb => ?_) <;> (simp only [hb]; try simp only [hbs, ne_eq] at hb; try (exfalso; first | omega | exact hb trivial))) | fail)
    all_goals try (exfalso; omega)
    all_goals refine ⟨by first | exact .inr rfl | exact .inl rfl, _, rfl, ?_, by repeat' (first | exact trivial | refine ⟨⟨_, rfl, by first | rfl | (simp [renO, *]; done)⟩, by first | rfl | assumption, ?_⟩)⟩
    all_goals (first | refine FinA.tup ?_ | refine FinA.one ?_); repeat' (first | exact FinBs.nil | exact FinCs.nil | refine FinBs.cons ?_ ?_ | refine FinCs.cons ?_ ?_ | refine FinB.cell (FinC.v ?_) | refine FinB.cell (FinC.own rfl rfl rfl ?_) | exact FinB.cell FinC.nil | refine FinB.cell (FinC.sl ?_) | exact FinB.agg' rfl rfl | exact FinB.cell (FinC.same rfl) | refine FinB.agg ?_ | refine FinC.v ?_ | refine FinC.own rfl rfl rfl ?_ | exact FinC.nil | refine FinC.sl ?_ | exact FinC.same rfl); all_goals try rfl
  · have hY : b3 = 0 → R = getE s no mark (rdPs s m a3 []) ∧ m ≤ 2000 := fun h => by
      subst h
      rw [if_neg (by omega), if_neg (by omega)] at hR
      exact ⟨hR, by omega⟩
    have hN : b3 ≠ 0 → R = (zG, b3) := fun h => by rw [if_pos h] at hR; exact hR
    clear hR
    refine PC.mk (ac_body tab_ok Try.func8 rfl (by kernel_rfl) rfl ?_); intro w0 M μ0; simp only [Try.ntmps8, List.length_cons, List.length_nil, Nat.reduceAdd, Nat.reduceSub, numb]
    repeat' (first | refine a_adoptB 2 2 3 45 6 rfl rfl rfl ?_ | ((first | apply o_do | apply d_do | apply d_yes rfl rfl rfl); first | exact ls_callA [1] 50 h1 rfl rfl (by (repeat' (first | exact NilL.nil | refine NilL.cons Nil.same ?_ | refine NilL.cons Nil.nil ?_ | refine NilL.cons (Nil.agg ?_) ?_ | exact Nil1s.nil | refine Nil1s.cons Nil1.same ?_ | refine Nil1s.cons Nil1.nil ?_)); first | done | fail) rfl (by (repeat' (first | exact trivial | refine ⟨⟨_, rfl, by first | rfl | (simp [renO, *]; done) | fail⟩, ?_⟩)); first | done | fail) (by first | rfl | (simp [closO, *]; done) | fail) rfl rfl rfl rfl (by first | rfl | (simp [closO, *]; done) | fail) rfl | exact ls_callA [1] 50 h2 rfl rfl (by (repeat' (first | exact NilL.nil | refine NilL.cons Nil.same ?_ | refine NilL.cons Nil.nil ?_ | refine NilL.cons (Nil.agg ?_) ?_ | exact Nil1s.nil | refine Nil1s.cons Nil1.same ?_ | refine Nil1s.cons Nil1.nil ?_)); first | done | fail) rfl (by (repeat' (first | exact trivial | refine ⟨⟨_, rfl, by first | rfl | (simp [renO, *]; done) | fail⟩, ?_⟩)); first | done | fail) (by first | rfl | (simp [closO, *]; done) | fail) rfl rfl rfl rfl (by first | rfl | (simp [closO, *]; done) | fail) rfl | exact ls_callA [1] 50 h3 rfl rfl (by (repeat' (first | exact NilL.nil | refine NilL.cons Nil.same ?_ | refine NilL.cons Nil.nil ?_ | refine NilL.cons (Nil.agg ?_) ?_ | exact Nil1s.nil | refine Nil1s.cons Nil1.same ?_ | refine Nil1s.cons Nil1.nil ?_)); first | done | fail) rfl (by (repeat' (first | exact trivial | refine ⟨⟨_, rfl, by first | rfl | (simp [renO, *]; done) | fail⟩, ?_⟩)); first | done | fail) (by first | rfl | (simp [closO, *]; done) | fail) rfl rfl rfl rfl (by first | rfl | (simp [closO, *]; done) | fail) rfl | exact ls_nilCheck rfl rfl | exact lsq) | refine a_seq ?_ | refine a_region ?_ | refine o_nil ?_ | refine a_block ?_ | refine a_ret ?_ | refine a_exit ?_ | refine a_skip ?_ | refine a_draw mixed ?_ | refine d_nil (by kernel_rfl) ?_ | refine o_yes rfl rfl rfl ?_ | refine o_no rfl rfl rfl (by decide) ?_ | refine o_no' rfl rfl rfl ?_ | refine a_condT rfl ?_ | refine a_condF rfl ?_ | refine d_no rfl rfl rfl (by decide) ?_ | refine d_no' rfl rfl rfl ?_ | (refine wq2 (fun hb => ?_) (fun hb => ?_) <;> (simp only [hb]; try simp only [hbs, ne_eq] at hb; try (exfalso; first | omega | exact hb trivial))) | fail)
    all_goals try (exfalso; omega)
    all_goals
      refine a_loop (X := {p : Nat × Int × Int × List Pn // p.1 ≤ m ∧ p.2.2.2.length = p.1 ∧ (p.2.2.1 = 0 → R = getE s no mark (rdPs s (m - p.1) p.2.1 p.2.2.2) ∧ m ≤ 2000) ∧ (p.2.2.1 ≠ 0 → R = (zG, p.2.2.1))}) (fun p => ⟨[(0, .v (.string s)), (2, .ref 0 0), (3, .v (.int .i64 0)), (4, .ref 1 0), (7, .v (.int .i64 m)), (8, .ref 2 0), (9, .v (.int .i64 p.1.1))], [(0, .box 24 [.v (.int .i64 0), .v (.int .i64 0), .v (.slice none 0 0)]), (1, .box 56 [.v (.string s), .v (.int .i64 p.1.2.1), .v (.int .i64 p.1.2.2.1)]), (2, .box 24 [.v (.int .i64 (min no 32)), .v (.int .i64 mark), .own 3 (p.1.2.2.2.map Pn.av).length]), (3, .row 45 6 (p.1.2.2.2.map Pn.av))]⟩) (fun p => m - p.1.1) ⟨(0, a3, b3, []), Nat.zero_le _, rfl, hY, hN⟩ ?_ ?_
      · have hmin : (no < 32 ∧ min no 32 = no) ∨ (¬ no < 32 ∧ min no 32 = 32) := by omega
        rcases hmin with ⟨hc1, hc2⟩ | ⟨hc1, hc2⟩ <;> first | (exfalso; omega) | skip
        all_goals
          dsimp only
          rw [hc2]
          refine ⟨by repeat' (first | exact trivial | exact FinA.one (FinB.cell (FinC.same rfl)) | exact FinA.one (FinB.cell FinC.nil) | exact FinA.bound rfl | exact FinA.one (FinB.cell (FinC.own rfl rfl rfl rfl)) | exact FinA.one (FinB.cell (FinC.v (by first | rfl | (simp)))) | exact FinA.one (FinB.cell (FinC.ow rfl (by first | rfl | (simp)))) | exact FinA.one (FinB.agg' rfl rfl) | refine ⟨⟨_, rfl, ?_⟩, ?_⟩), by repeat' (first | exact trivial | refine ⟨⟨_, rfl, by first | rfl | (simp; done) | (simp [renO, *]; done)⟩, by first | rfl | assumption, ?_⟩), rfl⟩
      clear hY hN h1 h2 h3
      rintro ⟨⟨q, i, bad, ps⟩, hq, hlen, hY, hN⟩
      dsimp only at hq hlen hY hN ⊢
      have hpl : (ps.map Pn.av).length = ps.length := List.length_map _
      by_cases hbad : bad = 0
      · subst hbad
        obtain ⟨hR, hm2⟩ := hY rfl
        by_cases hlt : q < m
        · obtain ⟨d, hd⟩ : ∃ d, m - q = d + 1 := ⟨m - q - 1, by omega⟩
          have hd2 : m - (q + 1) = d := by omega
          rw [hd] at hR
          simp only [rdPs] at hR
          obtain ⟨k, i1, b1, e1⟩ : ∃ n a b, rdX s i 0 = (n, a, b) := ⟨_, _, _, rfl⟩
          obtain ⟨lo, i2, b2, e2⟩ : ∃ n a b, rdN s i1 b1 = (n, a, b) := ⟨_, _, _, rfl⟩
          obtain ⟨hi, i3, b3, e3⟩ : ∃ n a b, rdN s i2 b2 = (n, a, b) := ⟨_, _, _, rfl⟩
          obtain ⟨n, i4, b4, e4⟩ : ∃ n a b, rdN s i3 b3 = (n, a, b) := ⟨_, _, _, rfl⟩
          obtain ⟨x, i5, b5, e5⟩ : ∃ n a b, rdZ s i4 b4 = (n, a, b) := ⟨_, _, _, rfl⟩
          obtain ⟨y, i6, b6, e6⟩ : ∃ n a b, rdZ s i5 b5 = (n, a, b) := ⟨_, _, _, rfl⟩
          have g1 := r_txt s i 0 hs
          have g2 := r_num s i1 b1 (by omega)
          have g3 := r_num s i2 b2 (by omega)
          have g4 := r_num s i3 b3 (by omega)
          have g5 := r_sgn s i4 b4 (by omega)
          have g6 := r_sgn s i5 b5 (by omega)
          rw [e1] at g1
          rw [e2] at g2
          rw [e3] at g3
          rw [e4] at g4
          rw [e5] at g5
          rw [e6] at g6
          have eP : rdP s i = (⟨lo, hi, k, n, x, y⟩, i6, b6) := by simp only [rdP, e1, e2, e3, e4, e5, e6]
          rw [eP] at hR
          dsimp only at hR
          clear e1 e2 e3 e4 e5 e6 eP
          unfold SR at g1 g2 g3 g4 g5 g6
          dsimp only at g1 g2 g3 g4 g5 g6
          have HR := hide hR
          clear hR hY hN
          repeat' (first | ((first | apply o_do | apply d_do | apply d_yes rfl rfl rfl); first | exact ls_callA [1] 50 g1 rfl rfl (by (repeat' (first | exact NilL.nil | refine NilL.cons Nil.same ?_ | refine NilL.cons Nil.nil ?_ | refine NilL.cons (Nil.agg ?_) ?_ | exact Nil1s.nil | refine Nil1s.cons Nil1.same ?_ | refine Nil1s.cons Nil1.nil ?_)); first | done | fail) rfl (by (repeat' (first | exact trivial | refine ⟨⟨_, rfl, by first | rfl | (simp [renO, *]; done) | fail⟩, ?_⟩)); first | done | fail) (by first | rfl | (simp [closO, *]; done) | fail) rfl rfl rfl rfl (by first | rfl | (simp [closO, *]; done) | fail) rfl | exact ls_nilCheck rfl rfl | exact lsq) | refine a_seq ?_ | refine a_region ?_ | refine o_nil ?_ | refine a_block ?_ | refine a_ret ?_ | refine a_exit ?_ | refine a_skip ?_ | refine a_draw mixed ?_ | refine d_nil (by kernel_rfl) ?_ | refine o_yes rfl rfl rfl ?_ | refine o_no rfl rfl rfl (by decide) ?_ | refine o_no' rfl rfl rfl ?_ | refine a_condT rfl ?_ | refine a_condF rfl ?_ | refine d_no rfl rfl rfl (by decide) ?_ | refine d_no' rfl rfl rfl ?_ | (refine wq2 (fun hb => ?_) (fun hb => ?_) <;> (simp only [hb]; try simp only [hbs, ne_eq] at hb; try (exfalso; first | omega | exact hb trivial))) | fail)
          repeat' (first | ((first | apply o_do | apply d_do | apply d_yes rfl rfl rfl); first | exact ls_callA [1] 50 g2 rfl rfl (by (repeat' (first | exact NilL.nil | refine NilL.cons Nil.same ?_ | refine NilL.cons Nil.nil ?_ | refine NilL.cons (Nil.agg ?_) ?_ | exact Nil1s.nil | refine Nil1s.cons Nil1.same ?_ | refine Nil1s.cons Nil1.nil ?_)); first | done | fail) rfl (by (repeat' (first | exact trivial | refine ⟨⟨_, rfl, by first | rfl | (simp [renO, *]; done) | fail⟩, ?_⟩)); first | done | fail) (by first | rfl | (simp [closO, *]; done) | fail) rfl rfl rfl rfl (by first | rfl | (simp [closO, *]; done) | fail) rfl | exact ls_nilCheck rfl rfl | exact lsq) | refine a_seq ?_ | refine a_region ?_ | refine o_nil ?_ | refine a_block ?_ | refine a_ret ?_ | refine a_exit ?_ | refine a_skip ?_ | refine a_draw mixed ?_ | refine d_nil (by kernel_rfl) ?_ | refine o_yes rfl rfl rfl ?_ | refine o_no rfl rfl rfl (by decide) ?_ | refine o_no' rfl rfl rfl ?_ | refine a_condT rfl ?_ | refine a_condF rfl ?_ | refine d_no rfl rfl rfl (by decide) ?_ | refine d_no' rfl rfl rfl ?_ | (refine wq2 (fun hb => ?_) (fun hb => ?_) <;> (simp only [hb]; try simp only [hbs, ne_eq] at hb; try (exfalso; first | omega | exact hb trivial))) | fail)
          repeat' (first | ((first | apply o_do | apply d_do | apply d_yes rfl rfl rfl); first | exact ls_callA [1] 50 g3 rfl rfl (by (repeat' (first | exact NilL.nil | refine NilL.cons Nil.same ?_ | refine NilL.cons Nil.nil ?_ | refine NilL.cons (Nil.agg ?_) ?_ | exact Nil1s.nil | refine Nil1s.cons Nil1.same ?_ | refine Nil1s.cons Nil1.nil ?_)); first | done | fail) rfl (by (repeat' (first | exact trivial | refine ⟨⟨_, rfl, by first | rfl | (simp [renO, *]; done) | fail⟩, ?_⟩)); first | done | fail) (by first | rfl | (simp [closO, *]; done) | fail) rfl rfl rfl rfl (by first | rfl | (simp [closO, *]; done) | fail) rfl | exact ls_nilCheck rfl rfl | exact lsq) | refine a_seq ?_ | refine a_region ?_ | refine o_nil ?_ | refine a_block ?_ | refine a_ret ?_ | refine a_exit ?_ | refine a_skip ?_ | refine a_draw mixed ?_ | refine d_nil (by kernel_rfl) ?_ | refine o_yes rfl rfl rfl ?_ | refine o_no rfl rfl rfl (by decide) ?_ | refine o_no' rfl rfl rfl ?_ | refine a_condT rfl ?_ | refine a_condF rfl ?_ | refine d_no rfl rfl rfl (by decide) ?_ | refine d_no' rfl rfl rfl ?_ | (refine wq2 (fun hb => ?_) (fun hb => ?_) <;> (simp only [hb]; try simp only [hbs, ne_eq] at hb; try (exfalso; first | omega | exact hb trivial))) | fail)
          repeat' (first | ((first | apply o_do | apply d_do | apply d_yes rfl rfl rfl); first | exact ls_callA [1] 50 g4 rfl rfl (by (repeat' (first | exact NilL.nil | refine NilL.cons Nil.same ?_ | refine NilL.cons Nil.nil ?_ | refine NilL.cons (Nil.agg ?_) ?_ | exact Nil1s.nil | refine Nil1s.cons Nil1.same ?_ | refine Nil1s.cons Nil1.nil ?_)); first | done | fail) rfl (by (repeat' (first | exact trivial | refine ⟨⟨_, rfl, by first | rfl | (simp [renO, *]; done) | fail⟩, ?_⟩)); first | done | fail) (by first | rfl | (simp [closO, *]; done) | fail) rfl rfl rfl rfl (by first | rfl | (simp [closO, *]; done) | fail) rfl | exact ls_nilCheck rfl rfl | exact lsq) | refine a_seq ?_ | refine a_region ?_ | refine o_nil ?_ | refine a_block ?_ | refine a_ret ?_ | refine a_exit ?_ | refine a_skip ?_ | refine a_draw mixed ?_ | refine d_nil (by kernel_rfl) ?_ | refine o_yes rfl rfl rfl ?_ | refine o_no rfl rfl rfl (by decide) ?_ | refine o_no' rfl rfl rfl ?_ | refine a_condT rfl ?_ | refine a_condF rfl ?_ | refine d_no rfl rfl rfl (by decide) ?_ | refine d_no' rfl rfl rfl ?_ | (refine wq2 (fun hb => ?_) (fun hb => ?_) <;> (simp only [hb]; try simp only [hbs, ne_eq] at hb; try (exfalso; first | omega | exact hb trivial))) | fail)
          repeat' (first | ((first | apply o_do | apply d_do | apply d_yes rfl rfl rfl); first | exact ls_callA [1] 50 g5 rfl rfl (by (repeat' (first | exact NilL.nil | refine NilL.cons Nil.same ?_ | refine NilL.cons Nil.nil ?_ | refine NilL.cons (Nil.agg ?_) ?_ | exact Nil1s.nil | refine Nil1s.cons Nil1.same ?_ | refine Nil1s.cons Nil1.nil ?_)); first | done | fail) rfl (by (repeat' (first | exact trivial | refine ⟨⟨_, rfl, by first | rfl | (simp [renO, *]; done) | fail⟩, ?_⟩)); first | done | fail) (by first | rfl | (simp [closO, *]; done) | fail) rfl rfl rfl rfl (by first | rfl | (simp [closO, *]; done) | fail) rfl | exact ls_nilCheck rfl rfl | exact lsq) | refine a_seq ?_ | refine a_region ?_ | refine o_nil ?_ | refine a_block ?_ | refine a_ret ?_ | refine a_exit ?_ | refine a_skip ?_ | refine a_draw mixed ?_ | refine d_nil (by kernel_rfl) ?_ | refine o_yes rfl rfl rfl ?_ | refine o_no rfl rfl rfl (by decide) ?_ | refine o_no' rfl rfl rfl ?_ | refine a_condT rfl ?_ | refine a_condF rfl ?_ | refine d_no rfl rfl rfl (by decide) ?_ | refine d_no' rfl rfl rfl ?_ | (refine wq2 (fun hb => ?_) (fun hb => ?_) <;> (simp only [hb]; try simp only [hbs, ne_eq] at hb; try (exfalso; first | omega | exact hb trivial))) | fail)
          repeat' (first | ((first | apply o_do | apply d_do | apply d_yes rfl rfl rfl); first | exact ls_callA [1] 50 g6 rfl rfl (by (repeat' (first | exact NilL.nil | refine NilL.cons Nil.same ?_ | refine NilL.cons Nil.nil ?_ | refine NilL.cons (Nil.agg ?_) ?_ | exact Nil1s.nil | refine Nil1s.cons Nil1.same ?_ | refine Nil1s.cons Nil1.nil ?_)); first | done | fail) rfl (by (repeat' (first | exact trivial | refine ⟨⟨_, rfl, by first | rfl | (simp [renO, *]; done) | fail⟩, ?_⟩)); first | done | fail) (by first | rfl | (simp [closO, *]; done) | fail) rfl rfl rfl rfl (by first | rfl | (simp [closO, *]; done) | fail) rfl | exact ls_nilCheck rfl rfl | focus (apply ls_append tab_ok rfl rfl rfl rfl ?hsrc rfl ?hlen rfl rfl; (case hsrc => first | exact SrcIs.sl | exact SrcIs.nil | exact SrcIs.own rfl rfl | fail); (case hlen => (try simp only [List.length_cons, List.length_nil]); omega); first | done | fail) | exact lsq) | refine a_seq ?_ | refine a_region ?_ | refine o_nil ?_ | refine a_block ?_ | refine a_ret ?_ | refine a_exit ?_ | refine a_skip ?_ | refine a_draw mixed ?_ | refine d_nil (by kernel_rfl) ?_ | refine o_yes rfl rfl rfl ?_ | refine o_no rfl rfl rfl (by decide) ?_ | refine o_no' rfl rfl rfl ?_ | refine a_condT rfl ?_ | refine a_condF rfl ?_ | refine d_no rfl rfl rfl (by decide) ?_ | refine d_no' rfl rfl rfl ?_ | (refine wq2 (fun hb => ?_) (fun hb => ?_) <;> (simp only [hb]; try simp only [hbs, ne_eq] at hb; try (exfalso; first | omega | exact hb trivial))) | fail)
          all_goals try (exfalso; omega)
          have hR := HR.out
          refine ⟨⟨(q + 1, i6, b6, ps ++ [⟨lo, hi, k, n, x, y⟩]), by dsimp only; omega, by simp [hlen], fun h => ?_, fun h => ?_⟩, by dsimp only; omega, ?_⟩
          · dsimp only at h
            rw [if_pos h] at hR
            dsimp only
            rw [hd2]
            exact ⟨hR, hm2⟩
          · dsimp only at h
            rw [if_neg h] at hR
            unfold getE at hR
            rw [if_pos (by dsimp only; exact h)] at hR
            exact hR
          · refine ⟨by repeat' (first | exact trivial | exact FinA.one (FinB.cell (FinC.same rfl)) | exact FinA.one (FinB.cell FinC.nil) | exact FinA.bound rfl | exact FinA.one (FinB.cell (FinC.own rfl rfl rfl rfl)) | exact FinA.one (FinB.cell (FinC.v (by first | rfl | ((first | (simp; done) | (simp; rfl)))))) | exact FinA.one (FinB.cell (FinC.ow rfl (by first | rfl | ((first | (simp; done) | (simp; rfl)))))) | exact FinA.one (FinB.agg' rfl rfl) | refine ⟨⟨_, rfl, ?_⟩, ?_⟩), by repeat' (first | exact trivial | refine ⟨⟨_, rfl, by first | rfl | ((first | (simp; done) | (simp; rfl)); done) | (simp [renO, *]; done)⟩, by first | rfl | assumption, ?_⟩), rfl⟩
        · obtain rfl : q = m := by omega
          rw [Nat.sub_self] at hR
          simp only [rdPs] at hR
          unfold getE at hR
          rw [if_neg (by dsimp only; omega)] at hR
          dsimp only at hR
          have hG := g_rRight (min no 32) mark ps (by omega)
          by_cases hlt2 : i < s.size
          · rw [if_pos hlt2] at hR
            subst hR
            unfold zG Gr.av
            repeat' (first | ((first | apply o_do | apply d_do | apply d_yes rfl rfl rfl); first | exact ls_nilCheck rfl rfl | exact lsq) | refine a_seq ?_ | refine a_region ?_ | refine o_nil ?_ | refine a_block ?_ | refine a_ret ?_ | refine a_exit ?_ | refine a_skip ?_ | refine a_draw mixed ?_ | refine d_nil (by kernel_rfl) ?_ | refine o_yes rfl rfl rfl ?_ | refine o_no rfl rfl rfl (by decide) ?_ | refine o_no' rfl rfl rfl ?_ | refine a_condT rfl ?_ | refine a_condF rfl ?_ | refine d_no rfl rfl rfl (by decide) ?_ | refine d_no' rfl rfl rfl ?_ | (refine wq2 (fun hb => ?_) (fun hb => ?_) <;> (simp only [hb]; try simp only [hbs, ne_eq] at hb; try (exfalso; first | omega | exact hb trivial))) | fail)
            all_goals try (exfalso; omega)
            all_goals refine ⟨by first | exact .inr rfl | exact .inl rfl, _, rfl, ?_, by repeat' (first | exact trivial | refine ⟨⟨_, rfl, by first | rfl | (simp [renO, *]; done)⟩, by first | rfl | assumption, ?_⟩)⟩
            all_goals (first | refine FinA.tup ?_ | refine FinA.one ?_); repeat' (first | exact FinBs.nil | exact FinCs.nil | refine FinBs.cons ?_ ?_ | refine FinCs.cons ?_ ?_ | refine FinB.cell (FinC.v ?_) | refine FinB.cell (FinC.own rfl rfl rfl ?_) | exact FinB.cell FinC.nil | refine FinB.cell (FinC.sl ?_) | exact FinB.agg' rfl rfl | exact FinB.cell (FinC.same rfl) | refine FinB.agg ?_ | refine FinC.v ?_ | refine FinC.own rfl rfl rfl ?_ | exact FinC.nil | refine FinC.sl ?_ | exact FinC.same rfl); all_goals try rfl
          · rw [if_neg hlt2] at hR
            cases hg : grR (min no 32) mark ps
            · rw [if_neg (by rw [hg]; simp)] at hR
              rw [hg] at hG
              subst hR
              unfold zG Gr.av
              repeat' (first | ((first | apply o_do | apply d_do | apply d_yes rfl rfl rfl); first | exact ls_callG hG rfl rfl (by (repeat' (first | exact AsG.nil | refine AsG.agg ?_ rfl ?_ | refine AsG.own rfl rfl rfl ?_ | refine AsG.vnil ?_ | refine AsG.v ?_ | refine AsG.sl ?_ | exact AsL.nil | refine AsL.own rfl rfl ?_ | refine AsL.vnil ?_ | refine AsL.same ?_)); first | done | fail) rfl rfl | exact ls_nilCheck rfl rfl | exact lsq) | refine a_seq ?_ | refine a_region ?_ | refine o_nil ?_ | refine a_block ?_ | refine a_ret ?_ | refine a_exit ?_ | refine a_skip ?_ | refine a_draw mixed ?_ | refine d_nil (by kernel_rfl) ?_ | refine o_yes rfl rfl rfl ?_ | refine o_no rfl rfl rfl (by decide) ?_ | refine o_no' rfl rfl rfl ?_ | refine a_condT rfl ?_ | refine a_condF rfl ?_ | refine d_no rfl rfl rfl (by decide) ?_ | refine d_no' rfl rfl rfl ?_ | (refine wq2 (fun hb => ?_) (fun hb => ?_) <;> (simp only [hb]; try simp only [hbs, ne_eq] at hb; try (exfalso; first | omega | exact hb trivial))) | fail)
              all_goals try (exfalso; omega)
              all_goals refine ⟨by first | exact .inr rfl | exact .inl rfl, _, rfl, ?_, by repeat' (first | exact trivial | refine ⟨⟨_, rfl, by first | rfl | (simp [renO, *]; done)⟩, by first | rfl | assumption, ?_⟩)⟩
              all_goals (first | refine FinA.tup ?_ | refine FinA.one ?_); repeat' (first | exact FinBs.nil | exact FinCs.nil | refine FinBs.cons ?_ ?_ | refine FinCs.cons ?_ ?_ | refine FinB.cell (FinC.v ?_) | refine FinB.cell (FinC.own rfl rfl rfl ?_) | exact FinB.cell FinC.nil | refine FinB.cell (FinC.sl ?_) | exact FinB.agg' rfl rfl | exact FinB.cell (FinC.same rfl) | refine FinB.agg ?_ | refine FinC.v ?_ | refine FinC.own rfl rfl rfl ?_ | exact FinC.nil | refine FinC.sl ?_ | exact FinC.same rfl); all_goals try rfl
            · rw [if_pos hg] at hR
              rw [hg] at hG
              subst hR
              unfold Gr.av
              repeat' (first | ((first | apply o_do | apply d_do | apply d_yes rfl rfl rfl); first | exact ls_callG hG rfl rfl (by (repeat' (first | exact AsG.nil | refine AsG.agg ?_ rfl ?_ | refine AsG.own rfl rfl rfl ?_ | refine AsG.vnil ?_ | refine AsG.v ?_ | refine AsG.sl ?_ | exact AsL.nil | refine AsL.own rfl rfl ?_ | refine AsL.vnil ?_ | refine AsL.same ?_)); first | done | fail) rfl rfl | exact ls_nilCheck rfl rfl | exact lsq) | refine a_seq ?_ | refine a_region ?_ | refine o_nil ?_ | refine a_block ?_ | refine a_ret ?_ | refine a_exit ?_ | refine a_skip ?_ | refine a_draw mixed ?_ | refine d_nil (by kernel_rfl) ?_ | refine o_yes rfl rfl rfl ?_ | refine o_no rfl rfl rfl (by decide) ?_ | refine o_no' rfl rfl rfl ?_ | refine a_condT rfl ?_ | refine a_condF rfl ?_ | refine d_no rfl rfl rfl (by decide) ?_ | refine d_no' rfl rfl rfl ?_ | (refine wq2 (fun hb => ?_) (fun hb => ?_) <;> (simp only [hb]; try simp only [hbs, ne_eq] at hb; try (exfalso; first | omega | exact hb trivial))) | fail)
              all_goals try (exfalso; omega)
              all_goals refine ⟨by first | exact .inr rfl | exact .inl rfl, _, rfl, ?_, by repeat' (first | exact trivial | refine ⟨⟨_, rfl, by first | rfl | (simp [renO, *]; done)⟩, by first | rfl | assumption, ?_⟩)⟩
              all_goals (first | refine FinA.tup ?_ | refine FinA.one ?_); repeat' (first | exact FinBs.nil | exact FinCs.nil | refine FinBs.cons ?_ ?_ | refine FinCs.cons ?_ ?_ | refine FinB.cell (FinC.v ?_) | refine FinB.cell (FinC.own rfl rfl rfl ?_) | exact FinB.cell FinC.nil | refine FinB.cell (FinC.sl ?_) | exact FinB.agg' rfl rfl | exact FinB.cell (FinC.same rfl) | refine FinB.agg ?_ | refine FinC.v ?_ | refine FinC.own rfl rfl rfl ?_ | exact FinC.nil | refine FinC.sl ?_ | exact FinC.same rfl); all_goals try rfl
      · have hR := hN hbad
        subst hR
        unfold zG Gr.av
        repeat' (first | ((first | apply o_do | apply d_do | apply d_yes rfl rfl rfl); first | exact ls_nilCheck rfl rfl | exact lsq) | refine a_seq ?_ | refine a_region ?_ | refine o_nil ?_ | refine a_block ?_ | refine a_ret ?_ | refine a_exit ?_ | refine a_skip ?_ | refine a_draw mixed ?_ | refine d_nil (by kernel_rfl) ?_ | refine o_yes rfl rfl rfl ?_ | refine o_no rfl rfl rfl (by decide) ?_ | refine o_no' rfl rfl rfl ?_ | refine a_condT rfl ?_ | refine a_condF rfl ?_ | refine d_no rfl rfl rfl (by decide) ?_ | refine d_no' rfl rfl rfl ?_ | (refine wq2 (fun hb => ?_) (fun hb => ?_) <;> (simp only [hb]; try simp only [hbs, ne_eq] at hb; try (exfalso; first | omega | exact hb trivial))) | fail)
        all_goals try (exfalso; omega)
        all_goals refine ⟨by first | exact .inr rfl | exact .inl rfl, _, rfl, ?_, by repeat' (first | exact trivial | refine ⟨⟨_, rfl, by first | rfl | (simp [renO, *]; done)⟩, by first | rfl | assumption, ?_⟩)⟩
        all_goals (first | refine FinA.tup ?_ | refine FinA.one ?_); repeat' (first | exact FinBs.nil | exact FinCs.nil | refine FinBs.cons ?_ ?_ | refine FinCs.cons ?_ ?_ | refine FinB.cell (FinC.v ?_) | refine FinB.cell (FinC.own rfl rfl rfl ?_) | exact FinB.cell FinC.nil | refine FinB.cell (FinC.sl ?_) | exact FinB.agg' rfl rfl | exact FinB.cell (FinC.same rfl) | refine FinB.agg ?_ | refine FinC.v ?_ | refine FinC.own rfl rfl rfl ?_ | exact FinC.nil | refine FinC.sl ?_ | exact FinC.same rfl); all_goals try rfl
end Go.Proofs.Ythlimflfglkpiaa
