/-
  Numbers and texts as bytes, walked over abstract values: written.
-/
import Derived.Test.YthlimflfglkpiaaBtC
namespace Go.Proofs.Ythlimflfglkpiaa
open Go.RowKit
set_option linter.unusedSimpArgs false
set_option linter.unusedVariables false
def dgB (n : Nat) : ByteArray := ⟨(dg n).toArray⟩
theorem dgB_size {n : Nat} (h : n < 18446744073709551616) : (dgB n).size ≤ 10 := by
  have := dg_len h
  unfold dgB ByteArray.size
  simpa using this
set_option maxHeartbeats 2000000 in
theorem v_text (n : Nat) (h : n < 18446744073709551616) : PC Try.prog 35 [.v (.int .u64 n)] (.v (.string (dgB n))) := by
  have hw := v_write n h
  have hs := b_String (dg n) (dg_ne n)
  unfold dgB
  unfold SB bP at *
  generalize dg n = l at *
  refine PC.mk (ac_body tab_ok Try.func35 rfl (by kernel_rfl) rfl ?_); intro w0 M μ0; simp only [Try.ntmps35, List.length_cons, List.length_nil, Nat.reduceAdd, Nat.reduceSub, numb]
  repeat' (first | refine a_adoptB 0 1 1 5 1 rfl rfl rfl ?_ | ((first | apply o_do | apply d_do | apply d_yes rfl rfl rfl); first | exact ls_callA [0, 1] 50 hw rfl rfl (by (repeat' (first | exact NilL.nil | refine NilL.cons Nil.same ?_ | refine NilL.cons Nil.nil ?_ | refine NilL.cons (Nil.agg ?_) ?_ | exact Nil1s.nil | refine Nil1s.cons Nil1.same ?_ | refine Nil1s.cons Nil1.nil ?_)); first | done | fail) rfl (by repeat' (first | exact trivial | refine ⟨⟨_, rfl, by first | rfl | (simp [renO, *]; done)⟩, ?_⟩)) (by first | rfl | simp [closO, *]) rfl rfl rfl rfl (by first | rfl | simp [closO, *]) rfl | exact ls_callA [0, 1] 50 hs rfl rfl (by (repeat' (first | exact NilL.nil | refine NilL.cons Nil.same ?_ | refine NilL.cons Nil.nil ?_ | refine NilL.cons (Nil.agg ?_) ?_ | exact Nil1s.nil | refine Nil1s.cons Nil1.same ?_ | refine Nil1s.cons Nil1.nil ?_)); first | done | fail) rfl (by repeat' (first | exact trivial | refine ⟨⟨_, rfl, by first | rfl | (simp [renO, *]; done)⟩, ?_⟩)) (by first | rfl | simp [closO, *]) rfl rfl rfl rfl (by first | rfl | simp [closO, *]) rfl | exact lsq) | refine a_seq ?_ | refine a_region ?_ | refine o_nil ?_ | refine a_block ?_ | refine a_ret ?_ | refine a_exit ?_ | refine a_skip ?_ | refine a_draw mixed ?_ | refine d_nil (by kernel_rfl) ?_ | refine o_yes rfl rfl rfl ?_ | refine o_no rfl rfl rfl (by decide) ?_ | refine o_no' rfl rfl rfl ?_ | refine a_condT rfl ?_ | refine a_condF rfl ?_ | refine d_no rfl rfl rfl (by decide) ?_ | refine d_no' rfl rfl rfl ?_ | (refine wq2 (fun hb => ?_) (fun hb => ?_) <;> (simp only [hb]; try simp only [hbs, ne_eq] at hb; try (exfalso; first | omega | exact hb trivial))) | fail)
  all_goals refine ⟨by first | exact .inr rfl | exact .inl rfl, _, rfl, ?_, by repeat' (first | exact trivial | refine ⟨⟨_, rfl, by first | rfl | (simp [renO, *]; done)⟩, by first | rfl | assumption, ?_⟩)⟩
  all_goals (first | refine FinA.tup ?_ | refine FinA.one ?_); repeat' (first | exact FinBs.nil | exact FinCs.nil | refine FinBs.cons ?_ ?_ | refine FinCs.cons ?_ ?_ | refine FinB.cell (FinC.v ?_) | refine FinB.cell (FinC.own rfl rfl rfl ?_) | exact FinB.cell FinC.nil | refine FinB.cell (FinC.sl ?_) | exact FinB.agg' rfl rfl | exact FinB.cell (FinC.same rfl) | refine FinB.agg ?_ | refine FinC.v ?_ | refine FinC.own rfl rfl rfl ?_ | exact FinC.nil | refine FinC.sl ?_ | exact FinC.same rfl); all_goals try rfl
/-- any number as one of 0 or more -/
def foldZ (n : Int) : Nat := if 0 ≤ n then (2 * n).toNat else (-2 * n - 1).toNat
theorem foldZ_lt {n : Int} (h1 : -9223372036854775808 ≤ n) (h2 : n ≤ 9223372036854775807) : foldZ n < 18446744073709551616 := by unfold foldZ; split <;> omega
theorem v_Put (n : Int) (h1 : -9223372036854775808 ≤ n) (h2 : n ≤ 9223372036854775807) : PC Try.prog 15 [.v (.int .i64 n)] (.tup [.v (.string (if 0 ≤ n then dgB n.toNat else ⟨#[]⟩)), .v (.int .i64 (if 0 ≤ n then 0 else 1))]) := by
  by_cases h0 : 0 ≤ n
  · rw [if_pos h0, if_pos h0]
    have hT := v_text n.toNat (by omega)
    have hc : IntKind.u64.wrap n = (n.toNat : Int) := by rw [IntKind.wrap_u64]; omega
    generalize dgB n.toNat = x at *
    rw [← hc] at hT
    refine PC.mk (ac_body tab_ok Try.func15 rfl (by kernel_rfl) rfl ?_); intro w0 M μ0; simp only [Try.ntmps15, List.length_cons, List.length_nil, Nat.reduceAdd, Nat.reduceSub, numb]
    repeat' (first | ((first | apply o_do | apply d_do | apply d_yes rfl rfl rfl); first | exact lsc (hT) | exact ls_conv tab_ok rfl Try.underlying2 Try.underlying67 rfl | exact lsq) | refine a_seq ?_ | refine a_region ?_ | refine o_nil ?_ | refine a_block ?_ | refine a_ret ?_ | refine a_exit ?_ | refine a_skip ?_ | refine a_draw mixed ?_ | refine d_nil (by kernel_rfl) ?_ | refine o_yes rfl rfl rfl ?_ | refine o_no rfl rfl rfl (by decide) ?_ | refine o_no' rfl rfl rfl ?_ | refine a_condT rfl ?_ | refine a_condF rfl ?_ | refine d_no rfl rfl rfl (by decide) ?_ | refine d_no' rfl rfl rfl ?_ | (refine wq2 (fun hb => ?_) (fun hb => ?_) <;> (simp only [hb]; try simp only [hbs, ne_eq] at hb; try (exfalso; first | omega | exact hb trivial))) | fail)
    all_goals refine ⟨by first | exact .inr rfl | exact .inl rfl, _, rfl, ?_, by repeat' (first | exact trivial | refine ⟨⟨_, rfl, by first | rfl | (simp [renO, *]; done)⟩, by first | rfl | assumption, ?_⟩)⟩
    all_goals (first | refine FinA.tup ?_ | refine FinA.one ?_); repeat' (first | exact FinBs.nil | exact FinCs.nil | refine FinBs.cons ?_ ?_ | refine FinCs.cons ?_ ?_ | refine FinB.cell (FinC.v ?_) | refine FinB.cell (FinC.own rfl rfl rfl ?_) | exact FinB.cell FinC.nil | refine FinB.cell (FinC.sl ?_) | exact FinB.agg' rfl rfl | exact FinB.cell (FinC.same rfl) | refine FinB.agg ?_ | refine FinC.v ?_ | refine FinC.own rfl rfl rfl ?_ | exact FinC.nil | refine FinC.sl ?_ | exact FinC.same rfl); all_goals try rfl
  · rw [if_neg h0, if_neg h0]
    refine PC.mk (ac_body tab_ok Try.func15 rfl (by kernel_rfl) rfl ?_); intro w0 M μ0; simp only [Try.ntmps15, List.length_cons, List.length_nil, Nat.reduceAdd, Nat.reduceSub, numb]
    repeat' (first | ((first | apply o_do | apply d_do | apply d_yes rfl rfl rfl); exact lsq) | refine a_seq ?_ | refine a_region ?_ | refine o_nil ?_ | refine a_block ?_ | refine a_ret ?_ | refine a_exit ?_ | refine a_skip ?_ | refine a_draw mixed ?_ | refine d_nil (by kernel_rfl) ?_ | refine o_yes rfl rfl rfl ?_ | refine o_no rfl rfl rfl (by decide) ?_ | refine o_no' rfl rfl rfl ?_ | refine a_condT rfl ?_ | refine a_condF rfl ?_ | refine d_no rfl rfl rfl (by decide) ?_ | refine d_no' rfl rfl rfl ?_ | (refine wq2 (fun hb => ?_) (fun hb => ?_) <;> (simp only [hb]; try simp only [hbs, ne_eq] at hb; try (exfalso; first | omega | exact hb trivial))) | fail)
    all_goals refine ⟨by first | exact .inr rfl | exact .inl rfl, _, rfl, ?_, by repeat' (first | exact trivial | refine ⟨⟨_, rfl, by first | rfl | (simp [renO, *]; done)⟩, by first | rfl | assumption, ?_⟩)⟩
    all_goals (first | refine FinA.tup ?_ | refine FinA.one ?_); repeat' (first | exact FinBs.nil | exact FinCs.nil | refine FinBs.cons ?_ ?_ | refine FinCs.cons ?_ ?_ | refine FinB.cell (FinC.v ?_) | refine FinB.cell (FinC.own rfl rfl rfl ?_) | exact FinB.cell FinC.nil | refine FinB.cell (FinC.sl ?_) | exact FinB.agg' rfl rfl | exact FinB.cell (FinC.same rfl) | refine FinB.agg ?_ | refine FinC.v ?_ | refine FinC.own rfl rfl rfl ?_ | exact FinC.nil | refine FinC.sl ?_ | exact FinC.same rfl); all_goals try rfl
theorem xor_zero (m : Nat) (hm : m < 18446744073709551616) : (BitVec.ofInt 64 (m : Int) ^^^ BitVec.ofInt 64 0).toNat = m := by
  rw [BitVec.ofInt_natCast]
  have : BitVec.ofInt 64 0 = 0#64 := rfl
  rw [this, BitVec.xor_zero, BitVec.toNat_ofNat]
  exact Nat.mod_eq_of_lt hm
theorem xor_ones (m : Nat) (hm : m < 18446744073709551616) : (BitVec.ofInt 64 (m : Int) ^^^ BitVec.ofInt 64 18446744073709551615).toNat = 18446744073709551615 - m := by
  rw [BitVec.ofInt_natCast]
  have : BitVec.ofInt 64 18446744073709551615 = BitVec.allOnes 64 := rfl
  rw [this, BitVec.xor_allOnes, BitVec.toNat_not, BitVec.toNat_ofNat]
  have : m % 2 ^ 64 = m := Nat.mod_eq_of_lt hm
  rw [this]
theorem v_Signed (n : Int) (h1 : -9223372036854775808 ≤ n) (h2 : n ≤ 9223372036854775807) : PC Try.prog 17 [.v (.int .i64 n)] (.v (.string (dgB (foldZ n)))) := by
  have hT := v_text (foldZ n) (foldZ_lt h1 h2)
  generalize dgB (foldZ n) = x at *
  obtain ⟨r1, hr1⟩ : ∃ r, IntKind.i64.wrap (n * 2 ^ min (1 : Int).toNat IntKind.i64.bits) = r := ⟨_, rfl⟩
  obtain ⟨r2, hr2⟩ : ∃ r, n.fdiv (2 ^ min (63 : Int).toNat IntKind.i64.bits) = r := ⟨_, rfl⟩
  have e1 : min (1 : Int).toNat IntKind.i64.bits = 1 := by decide
  have e2 : min (63 : Int).toNat IntKind.i64.bits = 63 := by decide
  have g1 := hr1
  have g2 := hr2
  rw [e1, IntKind.wrap_i64] at g1
  rw [e2, Int.fdiv_eq_ediv_of_nonneg _ (by decide)] at g2
  have p1 : (2 : Int) ^ 1 = 2 := by decide
  have p2 : (2 : Int) ^ 63 = 9223372036854775808 := by decide
  rw [p1] at g1
  rw [p2] at g2
  have hx : IntKind.u64.wrap (BitVec.ofInt IntKind.u64.bits (IntKind.u64.wrap r1) ^^^ BitVec.ofInt IntKind.u64.bits (IntKind.u64.wrap r2)).toNat = (foldZ n : Int) := by
    have hf := foldZ_lt h1 h2
    by_cases h0 : 0 ≤ n
    · have hz : foldZ n = (2 * n).toNat := by unfold foldZ; rw [if_pos h0]
      have a1 : IntKind.u64.wrap r1 = ((foldZ n : Nat) : Int) := by rw [IntKind.wrap_u64]; omega
      have a2 : IntKind.u64.wrap r2 = 0 := by rw [IntKind.wrap_u64]; omega
      rw [a1, a2]
      have := xor_zero (foldZ n) hf
      show IntKind.u64.wrap ((BitVec.ofInt 64 ((foldZ n : Nat) : Int) ^^^ BitVec.ofInt 64 0).toNat : Int) = _
      rw [this, IntKind.wrap_u64]
      omega
    · have hz : foldZ n = (-2 * n - 1).toNat := by unfold foldZ; rw [if_neg h0]
      obtain ⟨m, hm⟩ : ∃ m : Nat, (m : Int) = 2 * n + 18446744073709551616 := ⟨(2 * n + 18446744073709551616).toNat, by omega⟩
      have a1 : IntKind.u64.wrap r1 = (m : Int) := by rw [IntKind.wrap_u64]; omega
      have a2 : IntKind.u64.wrap r2 = 18446744073709551615 := by rw [IntKind.wrap_u64]; omega
      rw [a1, a2]
      have := xor_ones m (by omega)
      show IntKind.u64.wrap ((BitVec.ofInt 64 (m : Int) ^^^ BitVec.ofInt 64 18446744073709551615).toNat : Int) = _
      rw [this, IntKind.wrap_u64]
      omega
  clear g1 g2
  refine PC.mk (ac_body tab_ok Try.func17 rfl (by kernel_rfl) rfl ?_); intro w0 M μ0; simp only [Try.ntmps17, List.length_cons, List.length_nil, Nat.reduceAdd, Nat.reduceSub, numb]
  repeat' (first | ((first | apply o_do | apply d_do | apply d_yes rfl rfl rfl); first | exact lsc (hT) | exact ls_conv tab_ok rfl Try.underlying2 Try.underlying67 rfl | exact ls_shl hr1 rfl rfl (by decide) rfl | exact ls_shr hr2 rfl rfl (by decide) rfl | exact ls_xor hx rfl rfl rfl | exact lsq) | refine a_seq ?_ | refine a_region ?_ | refine o_nil ?_ | refine a_block ?_ | refine a_ret ?_ | refine a_exit ?_ | refine a_skip ?_ | refine a_draw mixed ?_ | refine d_nil (by kernel_rfl) ?_ | refine o_yes rfl rfl rfl ?_ | refine o_no rfl rfl rfl (by decide) ?_ | refine o_no' rfl rfl rfl ?_ | refine a_condT rfl ?_ | refine a_condF rfl ?_ | refine d_no rfl rfl rfl (by decide) ?_ | refine d_no' rfl rfl rfl ?_ | (refine wq2 (fun hb => ?_) (fun hb => ?_) <;> (simp only [hb]; try simp only [hbs, ne_eq] at hb; try (exfalso; first | omega | exact hb trivial))) | fail)
  all_goals refine ⟨by first | exact .inr rfl | exact .inl rfl, _, rfl, ?_, by repeat' (first | exact trivial | refine ⟨⟨_, rfl, by first | rfl | (simp [renO, *]; done)⟩, by first | rfl | assumption, ?_⟩)⟩
  all_goals (first | refine FinA.tup ?_ | refine FinA.one ?_); repeat' (first | exact FinBs.nil | exact FinCs.nil | refine FinBs.cons ?_ ?_ | refine FinCs.cons ?_ ?_ | refine FinB.cell (FinC.v ?_) | refine FinB.cell (FinC.own rfl rfl rfl ?_) | exact FinB.cell FinC.nil | refine FinB.cell (FinC.sl ?_) | exact FinB.agg' rfl rfl | exact FinB.cell (FinC.same rfl) | refine FinB.agg ?_ | refine FinC.v ?_ | refine FinC.own rfl rfl rfl ?_ | exact FinC.nil | refine FinC.sl ?_ | exact FinC.same rfl); all_goals try rfl
theorem v_Text (s : ByteArray) (hs : s.size ≤ 9223372036854775000) : PC Try.prog 16 [.v (.string s)] (.tup [.v (.string (if s.size ≤ 4096 then dgB s.size ++ s else ⟨#[]⟩)), .v (.int .i64 (if s.size ≤ 4096 then 0 else 2))]) := by
  by_cases h0 : s.size ≤ 4096
  · rw [if_pos h0, if_pos h0]
    have hT := v_text s.size (by omega)
    have hz := dgB_size (n := s.size) (by omega)
    have hc : IntKind.u64.wrap (s.size : Int) = (s.size : Int) := by rw [IntKind.wrap_u64]; omega
    generalize dgB s.size = x at *
    rw [← hc] at hT
    refine PC.mk (ac_body tab_ok Try.func16 rfl (by kernel_rfl) rfl ?_); intro w0 M μ0; simp only [Try.ntmps16, List.length_cons, List.length_nil, Nat.reduceAdd, Nat.reduceSub, numb]
    repeat' (first | ((first | apply o_do | apply d_do | apply d_yes rfl rfl rfl); first | exact lsc (hT) | exact ls_conv tab_ok rfl Try.underlying3 Try.underlying67 rfl | exact ls_cat rfl rfl (by omega) rfl | exact lsq) | refine a_seq ?_ | refine a_region ?_ | refine o_nil ?_ | refine a_block ?_ | refine a_ret ?_ | refine a_exit ?_ | refine a_skip ?_ | refine a_draw mixed ?_ | refine d_nil (by kernel_rfl) ?_ | refine o_yes rfl rfl rfl ?_ | refine o_no rfl rfl rfl (by decide) ?_ | refine o_no' rfl rfl rfl ?_ | refine a_condT rfl ?_ | refine a_condF rfl ?_ | refine d_no rfl rfl rfl (by decide) ?_ | refine d_no' rfl rfl rfl ?_ | (refine wq2 (fun hb => ?_) (fun hb => ?_) <;> (simp only [hb]; try simp only [hbs, ne_eq] at hb; try (exfalso; first | omega | exact hb trivial))) | fail)
    all_goals refine ⟨by first | exact .inr rfl | exact .inl rfl, _, rfl, ?_, by repeat' (first | exact trivial | refine ⟨⟨_, rfl, by first | rfl | (simp [renO, *]; done)⟩, by first | rfl | assumption, ?_⟩)⟩
    all_goals (first | refine FinA.tup ?_ | refine FinA.one ?_); repeat' (first | exact FinBs.nil | exact FinCs.nil | refine FinBs.cons ?_ ?_ | refine FinCs.cons ?_ ?_ | refine FinB.cell (FinC.v ?_) | refine FinB.cell (FinC.own rfl rfl rfl ?_) | exact FinB.cell FinC.nil | refine FinB.cell (FinC.sl ?_) | exact FinB.agg' rfl rfl | exact FinB.cell (FinC.same rfl) | refine FinB.agg ?_ | refine FinC.v ?_ | refine FinC.own rfl rfl rfl ?_ | exact FinC.nil | refine FinC.sl ?_ | exact FinC.same rfl); all_goals try rfl
  · rw [if_neg h0, if_neg h0]
    refine PC.mk (ac_body tab_ok Try.func16 rfl (by kernel_rfl) rfl ?_); intro w0 M μ0; simp only [Try.ntmps16, List.length_cons, List.length_nil, Nat.reduceAdd, Nat.reduceSub, numb]
    repeat' (first | ((first | apply o_do | apply d_do | apply d_yes rfl rfl rfl); exact lsq) | refine a_seq ?_ | refine a_region ?_ | refine o_nil ?_ | refine a_block ?_ | refine a_ret ?_ | refine a_exit ?_ | refine a_skip ?_ | refine a_draw mixed ?_ | refine d_nil (by kernel_rfl) ?_ | refine o_yes rfl rfl rfl ?_ | refine o_no rfl rfl rfl (by decide) ?_ | refine o_no' rfl rfl rfl ?_ | refine a_condT rfl ?_ | refine a_condF rfl ?_ | refine d_no rfl rfl rfl (by decide) ?_ | refine d_no' rfl rfl rfl ?_ | (refine wq2 (fun hb => ?_) (fun hb => ?_) <;> (simp only [hb]; try simp only [hbs, ne_eq] at hb; try (exfalso; first | omega | exact hb trivial))) | fail)
    all_goals refine ⟨by first | exact .inr rfl | exact .inl rfl, _, rfl, ?_, by repeat' (first | exact trivial | refine ⟨⟨_, rfl, by first | rfl | (simp [renO, *]; done)⟩, by first | rfl | assumption, ?_⟩)⟩
    all_goals (first | refine FinA.tup ?_ | refine FinA.one ?_); repeat' (first | exact FinBs.nil | exact FinCs.nil | refine FinBs.cons ?_ ?_ | refine FinCs.cons ?_ ?_ | refine FinB.cell (FinC.v ?_) | refine FinB.cell (FinC.own rfl rfl rfl ?_) | exact FinB.cell FinC.nil | refine FinB.cell (FinC.sl ?_) | exact FinB.agg' rfl rfl | exact FinB.cell (FinC.same rfl) | refine FinB.agg ?_ | refine FinC.v ?_ | refine FinC.own rfl rfl rfl ?_ | exact FinC.nil | refine FinC.sl ?_ | exact FinC.same rfl); all_goals try rfl
end Go.Proofs.Ythlimflfglkpiaa
