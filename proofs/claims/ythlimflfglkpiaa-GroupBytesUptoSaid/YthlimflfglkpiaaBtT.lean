/-
  The reference's bytes of numbers, walked over abstract values.
-/
import Derived.Test.YthlimflfglkpiaaBtS
import Derived.Test.YthlimflfglkpiaaBtL
namespace Go.Proofs.Ythlimflfglkpiaa
open Go.RowKit
set_option linter.unusedSimpArgs false
set_option linter.unusedVariables false
theorem digit_u8 (x : Nat) : IntKind.u8.wrap (IntKind.u8.wrap ((x % 128 : Nat) : Int) + 128) = (((UInt8.ofNat (x % 128 + 128)).toNat : Nat) : Int) := by
  rw [u8_nat (by omega), IntKind.wrap_u8, IntKind.wrap_u8]; omega
theorem last_u8 (x : Nat) : IntKind.u8.wrap ((x % 128 : Nat) : Int) = (((UInt8.ofNat (x % 128)).toNat : Nat) : Int) := by
  rw [u8_nat (by omega), IntKind.wrap_u8]; omega
set_option maxHeartbeats 4000000 in
theorem v_rDigits (N : Nat) (hN : N < 18446744073709551616) : PC Try.prog 44 [.v (.int .u64 N)] (.v (.string (dgB N))) := by
  have hq : ∀ n : Nat, n < 18446744073709551616 → IntKind.u64.wrap ((n : Int).tdiv 128) = ((n / 128 : Nat) : Int) := fun n h => by
    rw [Int.tdiv_eq_ediv_of_nonneg (by omega), IntKind.wrap_u64]; omega
  have hm : ∀ n : Nat, (n : Int).tmod 128 = ((n % 128 : Nat) : Int) := fun n => by
    rw [Int.tmod_eq_emod_of_nonneg (by omega)]; omega
  have q0 := hq N hN
  have m0 := hm N
  have l0 := last_u8 N
  have hl0 := dg_len hN
  unfold dgB
  refine PC.mk (ac_body tab_ok Try.func44 rfl (by kernel_rfl) rfl ?_); intro w0 M μ0; simp only [Try.ntmps44, List.length_cons, List.length_nil, Nat.reduceAdd, Nat.reduceSub, numb]
  repeat' (first | ((first | apply o_do | apply d_do | apply d_yes rfl rfl rfl); first | exact ls_remR m0 rfl rfl (by decide) rfl | exact ls_convR tab_ok l0 rfl Try.underlying67 Try.underlying5 rfl | exact ls_quoR q0 rfl rfl (by decide) rfl | exact lsq) | refine a_seq ?_ | refine a_region ?_ | refine o_nil ?_ | refine a_block ?_ | refine a_ret ?_ | refine a_exit ?_ | refine a_skip ?_ | refine a_draw mixed ?_ | refine d_nil (by kernel_rfl) ?_ | refine o_yes rfl rfl rfl ?_ | refine o_no rfl rfl rfl (by decide) ?_ | refine o_no' rfl rfl rfl ?_ | refine a_condT rfl ?_ | refine a_condF rfl ?_ | refine d_no rfl rfl rfl (by decide) ?_ | refine d_no' rfl rfl rfl ?_ | (refine wq2 (fun hb => ?_) (fun hb => ?_) <;> (simp only [hb]; try simp only [hbs, ne_eq] at hb; try (exfalso; first | omega | exact hb trivial))) | fail)
  refine a_loop (X := {p : Nat × List UInt8 // p.1 < 18446744073709551616 ∧ dg N = dgC p.1 ++ p.2}) (fun p => ⟨[(0, .v (.int .u64 p.1.1)), (3, .sl 1 (p.1.2.map byAv))], []⟩) (fun p => p.1.1) ⟨(N / 128, [UInt8.ofNat (N % 128)]), by dsimp only; omega, rfl⟩ ?_ ?_
  · refine ⟨by repeat' (first | exact trivial | exact FinA.one (FinB.cell (FinC.same rfl)) | exact FinA.one (FinB.cell FinC.nil) | exact FinA.bound rfl | exact FinA.one (FinB.cell (FinC.own rfl rfl rfl rfl)) | exact FinA.one (FinB.cell (FinC.v (by first | rfl | ((first | (simp; done) | (simp; rfl)))))) | exact FinA.one (FinB.cell (FinC.ow rfl (by first | rfl | ((first | (simp; done) | (simp; rfl)))))) | exact FinA.one (FinB.agg' rfl rfl) | refine ⟨⟨_, rfl, ?_⟩, ?_⟩), by repeat' (first | exact trivial | refine ⟨⟨_, rfl, by first | rfl | ((first | (simp; done) | (simp; rfl)); done) | (simp [renO, *]; done)⟩, by first | rfl | assumption, ?_⟩), rfl⟩
  clear q0 m0 l0
  rintro ⟨⟨n, l⟩, h1, h2⟩
  dsimp only at h1 h2 ⊢
  have q0 := hq n h1
  have m0 := hm n
  by_cases h0 : n = 0
  · subst h0
    rw [dgC_zero, List.nil_append] at h2
    rw [h2]
    repeat' (first | ((first | apply o_do | apply d_do | apply d_yes rfl rfl rfl); first | exact ls_toStrS tab_ok u8_ok rfl rfl rfl rfl rfl | exact lsq) | refine a_seq ?_ | refine a_region ?_ | refine o_nil ?_ | refine a_block ?_ | refine a_ret ?_ | refine a_exit ?_ | refine a_skip ?_ | refine a_draw mixed ?_ | refine d_nil (by kernel_rfl) ?_ | refine o_yes rfl rfl rfl ?_ | refine o_no rfl rfl rfl (by decide) ?_ | refine o_no' rfl rfl rfl ?_ | refine a_condT rfl ?_ | refine a_condF rfl ?_ | refine d_no rfl rfl rfl (by decide) ?_ | refine d_no' rfl rfl rfl ?_ | (refine wq2 (fun hb => ?_) (fun hb => ?_) <;> (simp only [hb]; try simp only [hbs, ne_eq] at hb; try (exfalso; first | omega | exact hb trivial))) | fail)
    all_goals refine ⟨by first | exact .inr rfl | exact .inl rfl, _, rfl, ?_, by repeat' (first | exact trivial | refine ⟨⟨_, rfl, by first | rfl | (simp [renO, *]; done)⟩, by first | rfl | assumption, ?_⟩)⟩
    all_goals (first | refine FinA.tup ?_ | refine FinA.one ?_); repeat' (first | exact FinBs.nil | exact FinCs.nil | refine FinBs.cons ?_ ?_ | refine FinCs.cons ?_ ?_ | refine FinB.cell (FinC.v ?_) | refine FinB.cell (FinC.own rfl rfl rfl ?_) | exact FinB.cell FinC.nil | refine FinB.cell (FinC.sl ?_) | exact FinB.agg' rfl rfl | exact FinB.cell (FinC.same rfl) | refine FinB.agg ?_ | refine FinC.v ?_ | refine FinC.own rfl rfl rfl ?_ | exact FinC.nil | refine FinC.sl ?_ | exact FinC.same rfl); all_goals try rfl
  · have hpos : 0 < n := by omega
    have hln : l.length ≤ 10 := by
      have := congrArg List.length h2
      rw [List.length_append] at this; omega
    have d0 := digit_u8 n
    have d1 : IntKind.u8.wrap ((n % 128 : Nat) : Int) = ((n % 128 : Nat) : Int) := by rw [IntKind.wrap_u8]; omega
    rw [d1] at d0
    have hml : (l.map byAv).length = l.length := List.length_map _
    repeat' (first | ((first | apply o_do | apply d_do | apply d_yes rfl rfl rfl); first | exact ls_remR m0 rfl rfl (by decide) rfl | exact ls_convR tab_ok d1 rfl Try.underlying67 Try.underlying5 rfl | exact ls_addR d0 rfl rfl rfl | exact ls_quoR q0 rfl rfl (by decide) rfl | exact ls_buildO (k := 0) tab_ok rfl rfl rfl rfl rfl rfl rfl | exact lsq) | refine a_seq ?_ | refine a_region ?_ | refine o_nil ?_ | refine a_block ?_ | refine a_ret ?_ | refine a_exit ?_ | refine a_skip ?_ | refine a_draw mixed ?_ | refine d_nil (by kernel_rfl) ?_ | refine o_yes rfl rfl rfl ?_ | refine o_no rfl rfl rfl (by decide) ?_ | refine o_no' rfl rfl rfl ?_ | refine a_condT rfl ?_ | refine a_condF rfl ?_ | refine d_no rfl rfl rfl (by decide) ?_ | refine d_no' rfl rfl rfl ?_ | (refine wq2 (fun hb => ?_) (fun hb => ?_) <;> (simp only [hb]; try simp only [hbs, ne_eq] at hb; try (exfalso; first | omega | exact hb trivial))) | fail)
    refine ⟨⟨(n / 128, UInt8.ofNat (n % 128 + 128) :: l), by dsimp only; omega, by dsimp only; rw [h2, dgC_pos h0, List.append_assoc]; rfl⟩, by dsimp only; omega, ?_⟩
    refine ⟨by repeat' (first | exact trivial | exact FinA.one (FinB.cell (FinC.same rfl)) | exact FinA.one (FinB.cell FinC.nil) | exact FinA.bound rfl | exact FinA.one (FinB.cell (FinC.own rfl rfl rfl rfl)) | exact FinA.one (FinB.cell (FinC.v (by first | rfl | ((first | (simp; done) | (simp; rfl)))))) | exact FinA.one (FinB.cell (FinC.ow rfl (by first | rfl | ((first | (simp; done) | (simp; rfl)))))) | exact FinA.one (FinB.agg' rfl rfl) | refine ⟨⟨_, rfl, ?_⟩, ?_⟩), by repeat' (first | exact trivial | refine ⟨⟨_, rfl, by first | rfl | ((first | (simp; done) | (simp; rfl)); done) | (simp [renO, *]; done)⟩, by first | rfl | assumption, ?_⟩), rfl⟩
end Go.Proofs.Ythlimflfglkpiaa
