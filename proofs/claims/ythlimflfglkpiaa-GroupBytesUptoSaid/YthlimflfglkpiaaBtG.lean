/-
  Numbers and texts as bytes, walked over abstract values: read, on both sides.
-/
import Derived.Test.YthlimflfglkpiaaBtF
namespace Go.Proofs.Ythlimflfglkpiaa
open Go.RowKit
set_option linter.unusedSimpArgs false
set_option linter.unusedVariables false
section
variable {P : Program} {T : List TyI} {Γ : Ctx} {s : ASt} {dst : Option Tmp} {ty : TypeId} {pos : String} {after : Array Edge}
/-- s[m:n] of a text -/
theorem ls_strSub (hT : okTab P T = true) {x y z : Operand} {t m n : Nat} {i j : Int} {k k' : IntKind} {b : ByteArray} (hx : ev s x = some (.v (.string b))) (hy : ev s y = some (.v (.int k i))) (hz : ev s z = some (.v (.int k' j))) (hty : nth T t = some .string) (hi : i = (m : Int)) (hj : j = (n : Int)) (hmn : m ≤ n) (hn : n ≤ b.size) (hd : okDst Γ.n dst = true) :
    LS P Γ ⟨dst, .slice t x (some y) (some z) none, ty, pos, after, none⟩ s (rd x (rd y (rd z []))) (dst1 dst (.v (.string (b.extract m n)))) [] :=
  ls_pure hd fun t' ht μ a w hr => by
    obtain ⟨e1, ht⟩ := ht.ev hx
    obtain ⟨e2, ht⟩ := ht.ev hy
    obtain ⟨e3, ht⟩ := ht.ev hz
    have e1 := hr.ev e1
    have e2 := hr.ev e2
    have e3 := hr.ev e3
    simp only [rep] at e1 e2 e3 ⊢
    have hu := str_ty hT hty
    subst hi hj
    have hnc : (n : Int) ≤ b.size := by omega
    have hmc : (m : Int) ≤ n := by omega
    have hm0 : ¬ (m : Int) < 0 := by omega
    have hn0 : ¬ (n : Int) < 0 := by omega
    refine ⟨.string (b.extract m n), ?_, rfl, rfl⟩
    simp [execOp, e1.1, e2.1, e3.1, Instr.sliceAt, Instr.slice, run_underlying hu, Instr.sliceBounds, Instr.sliceBound, asIntOf, hnc, hmc, hm0, hn0, hmn]
    intro h; omega
end
theorem rdV_bad {most : Nat} : ∀ (l : List UInt8) (f : Bool) (n i : Nat), (rdV most f n l i).2.2 ≠ 0 → (rdV most f n l i).1 = 0 ∧ (rdV most f n l i).2.1 = 0
  | [], _, _, _, _ => ⟨rfl, rfl⟩
  | c :: l, f, n, i, h => by
    unfold rdV at h ⊢
    split
    · exact ⟨rfl, rfl⟩
    · rename_i h1
      rw [if_neg h1] at h
      split
      · rename_i h2
        rw [if_pos h2] at h
        exact absurd rfl h
      · rename_i h2
        rw [if_neg h2] at h
        exact rdV_bad l false _ _ h
theorem vrd_bad {most : Nat} {s : ByteArray} {i : Int} (h : (vrd most s i).2.2 ≠ 0) : (vrd most s i).1 = 0 ∧ (vrd most s i).2.1 = 0 := by
  unfold vrd at h ⊢
  split
  · exact ⟨rfl, rfl⟩
  · rename_i h1
    rw [if_neg h1] at h
    exact rdV_bad _ _ _ _ h
theorem vrd_le {most : Nat} {s : ByteArray} {i : Int} : (vrd most s i).1 ≤ most := by
  unfold vrd
  split
  · exact Nat.zero_le _
  · exact rdV_le _ _ _ _
theorem vrd_to {most : Nat} {s : ByteArray} {i : Int} : 0 ≤ (vrd most s i).2.1 ∧ (vrd most s i).2.1 ≤ s.size := by
  unfold vrd
  split
  · exact ⟨Int.le_refl _, by dsimp only; omega⟩
  · rename_i h
    have h1 := rdV_to (most := most) (s.data.toList.drop i.toNat) true 0 i.toNat
    refine ⟨h1.1, Int.le_trans h1.2 ?_⟩
    rw [List.length_drop, Array.length_toList]
    have : s.data.size = s.size := rfl
    omega
theorem v_Get (s : ByteArray) (i : Int) (hs : s.size ≤ 9223372036854775807) : PC Try.prog 21 [.v (.string s), .v (.int .i64 i)] (.tup [.v (.int .i64 (vrd 9223372036854775807 s i).1), .v (.int .i64 (vrd 9223372036854775807 s i).2.1), .v (.int .i64 (vrd 9223372036854775807 s i).2.2)]) := by
  have h := v_read 9223372036854775807 s i hs (by decide) (by decide)
  have hl := vrd_le (most := 9223372036854775807) (s := s) (i := i)
  generalize vrd 9223372036854775807 s i = r at *
  obtain ⟨n, to, bad⟩ := r
  dsimp only at *
  have hc : IntKind.i64.wrap (n : Int) = (n : Int) := by rw [IntKind.wrap_i64]; omega
  have e : ((9223372036854775807 : Nat) : Int) = 9223372036854775807 := rfl
  rw [e] at h
  refine PC.mk (ac_body tab_ok Try.func21 rfl (by kernel_rfl) rfl ?_); intro w0 M μ0; simp only [Try.ntmps21, List.length_cons, List.length_nil, Nat.reduceAdd, Nat.reduceSub, numb]
  repeat' (first | ((first | apply o_do | apply d_do | apply d_yes rfl rfl rfl); first | exact lsc (h) | exact ls_convR tab_ok hc rfl Try.underlying67 Try.underlying2 rfl | exact lsq) | refine a_seq ?_ | refine a_region ?_ | refine o_nil ?_ | refine a_block ?_ | refine a_ret ?_ | refine a_exit ?_ | refine a_skip ?_ | refine a_draw mixed ?_ | refine d_nil (by kernel_rfl) ?_ | refine o_yes rfl rfl rfl ?_ | refine o_no rfl rfl rfl (by decide) ?_ | refine o_no' rfl rfl rfl ?_ | refine a_condT rfl ?_ | refine a_condF rfl ?_ | refine d_no rfl rfl rfl (by decide) ?_ | refine d_no' rfl rfl rfl ?_ | (refine wq2 (fun hb => ?_) (fun hb => ?_) <;> (simp only [hb]; try simp only [hbs, ne_eq] at hb; try (exfalso; first | omega | exact hb trivial))) | fail)
  all_goals refine ⟨by first | exact .inr rfl | exact .inl rfl, _, rfl, ?_, by repeat' (first | exact trivial | refine ⟨⟨_, rfl, by first | rfl | (simp [renO, *]; done)⟩, by first | rfl | assumption, ?_⟩)⟩
  all_goals (first | refine FinA.tup ?_ | refine FinA.one ?_); repeat' (first | exact FinBs.nil | exact FinCs.nil | refine FinBs.cons ?_ ?_ | refine FinCs.cons ?_ ?_ | refine FinB.cell (FinC.v ?_) | refine FinB.cell (FinC.own rfl rfl rfl ?_) | exact FinB.cell FinC.nil | refine FinB.cell (FinC.sl ?_) | exact FinB.agg' rfl rfl | exact FinB.cell (FinC.same rfl) | refine FinB.agg ?_ | refine FinC.v ?_ | refine FinC.own rfl rfl rfl ?_ | exact FinC.nil | refine FinC.sl ?_ | exact FinC.same rfl); all_goals try rfl
theorem v_rGet (s : ByteArray) (i : Int) (hs : s.size ≤ 9223372036854775807) : PC Try.prog 37 [.v (.string s), .v (.int .i64 i)] (.tup [.v (.int .i64 (vrd 9223372036854775807 s i).1), .v (.int .i64 (vrd 9223372036854775807 s i).2.1), .v (.int .i64 (vrd 9223372036854775807 s i).2.2)]) := by
  have h := v_rread 9223372036854775807 s i hs (by decide) (by decide)
  have hl := vrd_le (most := 9223372036854775807) (s := s) (i := i)
  generalize vrd 9223372036854775807 s i = r at *
  obtain ⟨n, to, bad⟩ := r
  dsimp only at *
  have hc : IntKind.i64.wrap (n : Int) = (n : Int) := by rw [IntKind.wrap_i64]; omega
  have e : ((9223372036854775807 : Nat) : Int) = 9223372036854775807 := rfl
  rw [e] at h
  refine PC.mk (ac_body tab_ok Try.func37 rfl (by kernel_rfl) rfl ?_); intro w0 M μ0; simp only [Try.ntmps37, List.length_cons, List.length_nil, Nat.reduceAdd, Nat.reduceSub, numb]
  repeat' (first | ((first | apply o_do | apply d_do | apply d_yes rfl rfl rfl); first | exact lsc (h) | exact ls_convR tab_ok hc rfl Try.underlying67 Try.underlying2 rfl | exact lsq) | refine a_seq ?_ | refine a_region ?_ | refine o_nil ?_ | refine a_block ?_ | refine a_ret ?_ | refine a_exit ?_ | refine a_skip ?_ | refine a_draw mixed ?_ | refine d_nil (by kernel_rfl) ?_ | refine o_yes rfl rfl rfl ?_ | refine o_no rfl rfl rfl (by decide) ?_ | refine o_no' rfl rfl rfl ?_ | refine a_condT rfl ?_ | refine a_condF rfl ?_ | refine d_no rfl rfl rfl (by decide) ?_ | refine d_no' rfl rfl rfl ?_ | (refine wq2 (fun hb => ?_) (fun hb => ?_) <;> (simp only [hb]; try simp only [hbs, ne_eq] at hb; try (exfalso; first | omega | exact hb trivial))) | fail)
  all_goals refine ⟨by first | exact .inr rfl | exact .inl rfl, _, rfl, ?_, by repeat' (first | exact trivial | refine ⟨⟨_, rfl, by first | rfl | (simp [renO, *]; done)⟩, by first | rfl | assumption, ?_⟩)⟩
  all_goals (first | refine FinA.tup ?_ | refine FinA.one ?_); repeat' (first | exact FinBs.nil | exact FinCs.nil | refine FinBs.cons ?_ ?_ | refine FinCs.cons ?_ ?_ | refine FinB.cell (FinC.v ?_) | refine FinB.cell (FinC.own rfl rfl rfl ?_) | exact FinB.cell FinC.nil | refine FinB.cell (FinC.sl ?_) | exact FinB.agg' rfl rfl | exact FinB.cell (FinC.same rfl) | refine FinB.agg ?_ | refine FinC.v ?_ | refine FinC.own rfl rfl rfl ?_ | exact FinC.nil | refine FinC.sl ?_ | exact FinC.same rfl); all_goals try rfl
/-- back: any number of one of 0 or more -/
def unf (n : Nat) : Int := if n % 2 = 0 then ((n / 2 : Nat) : Int) else -((n / 2 : Nat) : Int) - 1
theorem unf_in {n : Nat} (h : n ≤ 18446744073709551615) : -9223372036854775808 ≤ unf n ∧ unf n ≤ 9223372036854775807 := by unfold unf; split <;> omega
theorem unf_fold {n : Int} : unf (foldZ n) = n := by unfold unf foldZ; split <;> split <;> omega
theorem fold_unf (n : Nat) : foldZ (unf n) = n := by unfold unf foldZ; split <;> split <;> omega
theorem and1 {n : Nat} (h : n ≤ 18446744073709551615) : IntKind.u64.wrap (BitVec.ofInt IntKind.u64.bits (n : Int) &&& BitVec.ofInt IntKind.u64.bits 1).toNat = ((n % 2 : Nat) : Int) := by
  have e : (BitVec.ofInt 64 (n : Int) &&& BitVec.ofInt 64 1).toNat = n % 2 := by
    have e1 : BitVec.ofInt 64 1 = BitVec.ofNat 64 1 := rfl
    rw [BitVec.ofInt_natCast, e1, BitVec.toNat_and, BitVec.toNat_ofNat, BitVec.toNat_ofNat, Nat.mod_eq_of_lt (by omega), Nat.mod_eq_of_lt (by decide)]
    exact Nat.and_one_is_mod n
  show IntKind.u64.wrap ((BitVec.ofInt 64 (n : Int) &&& BitVec.ofInt 64 1).toNat : Int) = _
  rw [e, IntKind.wrap_u64]; omega
theorem v_GetSigned (s : ByteArray) (i : Int) (hs : s.size ≤ 9223372036854775807) : PC Try.prog 22 [.v (.string s), .v (.int .i64 i)] (.tup [.v (.int .i64 (unf (vrd 18446744073709551615 s i).1)), .v (.int .i64 (vrd 18446744073709551615 s i).2.1), .v (.int .i64 (vrd 18446744073709551615 s i).2.2)]) := by
  have h := v_read 18446744073709551615 s i hs (by decide) (by decide)
  have hl := vrd_le (most := 18446744073709551615) (s := s) (i := i)
  generalize vrd 18446744073709551615 s i = r at *
  obtain ⟨n, to, bad⟩ := r
  dsimp only at *
  have e : ((18446744073709551615 : Nat) : Int) = 18446744073709551615 := rfl
  rw [e] at h
  have g1 : (n : Int).fdiv (2 ^ min (1 : Int).toNat IntKind.u64.bits) = ((n / 2 : Nat) : Int) := by
    have e1 : min (1 : Int).toNat IntKind.u64.bits = 1 := by decide
    have e2 : (2 : Int) ^ 1 = 2 := by decide
    rw [e1, e2, Int.fdiv_eq_ediv_of_nonneg _ (by decide)]; omega
  have g2 : IntKind.i64.wrap ((n / 2 : Nat) : Int) = ((n / 2 : Nat) : Int) := by rw [IntKind.wrap_i64]; omega
  have g3 := and1 hl
  have g4 : IntKind.i64.wrap ((n % 2 : Nat) : Int) = ((n % 2 : Nat) : Int) := by rw [IntKind.wrap_i64]; omega
  have g5 : IntKind.i64.wrap (0 - ((n % 2 : Nat) : Int)) = -((n % 2 : Nat) : Int) := by rw [IntKind.wrap_i64]; omega
  have g6 : IntKind.i64.wrap (BitVec.ofInt IntKind.i64.bits ((n / 2 : Nat) : Int) ^^^ BitVec.ofInt IntKind.i64.bits (-((n % 2 : Nat) : Int))).toNat = unf n := by
    unfold unf
    by_cases h0 : n % 2 = 0
    · rw [if_pos h0, h0]
      have := xor_zero (n / 2) (by omega)
      show IntKind.i64.wrap ((BitVec.ofInt 64 ((n / 2 : Nat) : Int) ^^^ BitVec.ofInt 64 0).toNat : Int) = _
      rw [this, IntKind.wrap_i64]; omega
    · rw [if_neg h0]
      have h1 : n % 2 = 1 := by omega
      rw [h1]
      have := xor_ones (n / 2) (by omega)
      have e3 : BitVec.ofInt 64 18446744073709551615 = BitVec.ofInt 64 (-1) := by decide
      rw [e3] at this
      show IntKind.i64.wrap ((BitVec.ofInt 64 ((n / 2 : Nat) : Int) ^^^ BitVec.ofInt 64 (-1)).toNat : Int) = _
      rw [this, IntKind.wrap_i64]; omega
  refine PC.mk (ac_body tab_ok Try.func22 rfl (by kernel_rfl) rfl ?_); intro w0 M μ0; simp only [Try.ntmps22, List.length_cons, List.length_nil, Nat.reduceAdd, Nat.reduceSub, numb]
  repeat' (first | ((first | apply o_do | apply d_do | apply d_yes rfl rfl rfl); first | exact lsc (h) | exact ls_shr g1 rfl rfl (by decide) rfl | exact ls_convR tab_ok g2 rfl Try.underlying67 Try.underlying2 rfl | exact ls_and g3 rfl rfl rfl | exact ls_convR tab_ok g4 rfl Try.underlying67 Try.underlying2 rfl | exact ls_negR g5 rfl rfl | exact ls_xor g6 rfl rfl rfl | exact lsq) | refine a_seq ?_ | refine a_region ?_ | refine o_nil ?_ | refine a_block ?_ | refine a_ret ?_ | refine a_exit ?_ | refine a_skip ?_ | refine a_draw mixed ?_ | refine d_nil (by kernel_rfl) ?_ | refine o_yes rfl rfl rfl ?_ | refine o_no rfl rfl rfl (by decide) ?_ | refine o_no' rfl rfl rfl ?_ | refine a_condT rfl ?_ | refine a_condF rfl ?_ | refine d_no rfl rfl rfl (by decide) ?_ | refine d_no' rfl rfl rfl ?_ | (refine wq2 (fun hb => ?_) (fun hb => ?_) <;> (simp only [hb]; try simp only [hbs, ne_eq] at hb; try (exfalso; first | omega | exact hb trivial))) | fail)
  all_goals refine ⟨by first | exact .inr rfl | exact .inl rfl, _, rfl, ?_, by repeat' (first | exact trivial | refine ⟨⟨_, rfl, by first | rfl | (simp [renO, *]; done)⟩, by first | rfl | assumption, ?_⟩)⟩
  all_goals (first | refine FinA.tup ?_ | refine FinA.one ?_); repeat' (first | exact FinBs.nil | exact FinCs.nil | refine FinBs.cons ?_ ?_ | refine FinCs.cons ?_ ?_ | refine FinB.cell (FinC.v ?_) | refine FinB.cell (FinC.own rfl rfl rfl ?_) | exact FinB.cell FinC.nil | refine FinB.cell (FinC.sl ?_) | exact FinB.agg' rfl rfl | exact FinB.cell (FinC.same rfl) | refine FinB.agg ?_ | refine FinC.v ?_ | refine FinC.own rfl rfl rfl ?_ | exact FinC.nil | refine FinC.sl ?_ | exact FinC.same rfl); all_goals try rfl
theorem v_runf (n : Nat) (hl : n ≤ 18446744073709551615) : PC Try.prog 53 [.v (.int .u64 n)] (.v (.int .i64 (unf n))) := by
  have g1 : (n : Int).tmod 2 = ((n % 2 : Nat) : Int) := by
    rw [Int.tmod_eq_emod_of_nonneg (by omega)]; omega
  have g2 : IntKind.u64.wrap ((n : Int).tdiv 2) = ((n / 2 : Nat) : Int) := by
    rw [Int.tdiv_eq_ediv_of_nonneg (by omega), IntKind.wrap_u64]; omega
  have g3 : IntKind.i64.wrap ((n / 2 : Nat) : Int) = ((n / 2 : Nat) : Int) := by rw [IntKind.wrap_i64]; omega
  have g4 : IntKind.i64.wrap (0 - ((n / 2 : Nat) : Int)) = -((n / 2 : Nat) : Int) := by rw [IntKind.wrap_i64]; omega
  have g5 : IntKind.i64.wrap (-((n / 2 : Nat) : Int) - 1) = -((n / 2 : Nat) : Int) - 1 := by rw [IntKind.wrap_i64]; omega
  by_cases h0 : n % 2 = 0
  all_goals
    have hu : unf n = if n % 2 = 0 then ((n / 2 : Nat) : Int) else -((n / 2 : Nat) : Int) - 1 := rfl
    simp only [h0, if_true, if_false] at hu
    rw [hu]
    refine PC.mk (ac_body tab_ok Try.func53 rfl (by kernel_rfl) rfl ?_); intro w0 M μ0; simp only [Try.ntmps53, List.length_cons, List.length_nil, Nat.reduceAdd, Nat.reduceSub, numb]
    repeat' (first | ((first | apply o_do | apply d_do | apply d_yes rfl rfl rfl); first | exact ls_remR g1 rfl rfl (by decide) rfl | exact ls_quoR g2 rfl rfl (by decide) rfl | exact ls_convR tab_ok g3 rfl Try.underlying67 Try.underlying2 rfl | exact ls_negR g4 rfl rfl | exact ls_subR g5 rfl rfl rfl | exact lsq) | refine a_seq ?_ | refine a_region ?_ | refine o_nil ?_ | refine a_block ?_ | refine a_ret ?_ | refine a_exit ?_ | refine a_skip ?_ | refine a_draw mixed ?_ | refine d_nil (by kernel_rfl) ?_ | refine o_yes rfl rfl rfl ?_ | refine o_no rfl rfl rfl (by decide) ?_ | refine o_no' rfl rfl rfl ?_ | refine a_condT rfl ?_ | refine a_condF rfl ?_ | refine d_no rfl rfl rfl (by decide) ?_ | refine d_no' rfl rfl rfl ?_ | (refine wq2 (fun hb => ?_) (fun hb => ?_) <;> (simp only [hb]; try simp only [hbs, ne_eq] at hb; try (exfalso; first | omega | exact hb trivial))) | fail)
    all_goals try (exfalso; omega)
    all_goals refine ⟨by first | exact .inr rfl | exact .inl rfl, _, rfl, ?_, by repeat' (first | exact trivial | refine ⟨⟨_, rfl, by first | rfl | (simp [renO, *]; done)⟩, by first | rfl | assumption, ?_⟩)⟩
    all_goals (first | refine FinA.tup ?_ | refine FinA.one ?_); repeat' (first | exact FinBs.nil | exact FinCs.nil | refine FinBs.cons ?_ ?_ | refine FinCs.cons ?_ ?_ | refine FinB.cell (FinC.v ?_) | refine FinB.cell (FinC.own rfl rfl rfl ?_) | exact FinB.cell FinC.nil | refine FinB.cell (FinC.sl ?_) | exact FinB.agg' rfl rfl | exact FinB.cell (FinC.same rfl) | refine FinB.agg ?_ | refine FinC.v ?_ | refine FinC.own rfl rfl rfl ?_ | exact FinC.nil | refine FinC.sl ?_ | exact FinC.same rfl); all_goals try rfl
theorem v_rGetSigned (s : ByteArray) (i : Int) (hs : s.size ≤ 9223372036854775807) : PC Try.prog 39 [.v (.string s), .v (.int .i64 i)] (.tup [.v (.int .i64 (unf (vrd 18446744073709551615 s i).1)), .v (.int .i64 (vrd 18446744073709551615 s i).2.1), .v (.int .i64 (vrd 18446744073709551615 s i).2.2)]) := by
  have h := v_rread 18446744073709551615 s i hs (by decide) (by decide)
  have hl := vrd_le (most := 18446744073709551615) (s := s) (i := i)
  have hb := vrd_bad (most := 18446744073709551615) (s := s) (i := i)
  generalize vrd 18446744073709551615 s i = r at *
  obtain ⟨n, to, bad⟩ := r
  dsimp only at *
  have e : ((18446744073709551615 : Nat) : Int) = 18446744073709551615 := rfl
  rw [e] at h
  have hu := v_runf n hl
  by_cases h0 : bad = 0
  · subst h0
    refine PC.mk (ac_body tab_ok Try.func39 rfl (by kernel_rfl) rfl ?_); intro w0 M μ0; simp only [Try.ntmps39, List.length_cons, List.length_nil, Nat.reduceAdd, Nat.reduceSub, numb]
    repeat' (first | ((first | apply o_do | apply d_do | apply d_yes rfl rfl rfl); first | exact lsc (h) | exact lsc (hu) | exact lsq) | refine a_seq ?_ | refine a_region ?_ | refine o_nil ?_ | refine a_block ?_ | refine a_ret ?_ | refine a_exit ?_ | refine a_skip ?_ | refine a_draw mixed ?_ | refine d_nil (by kernel_rfl) ?_ | refine o_yes rfl rfl rfl ?_ | refine o_no rfl rfl rfl (by decide) ?_ | refine o_no' rfl rfl rfl ?_ | refine a_condT rfl ?_ | refine a_condF rfl ?_ | refine d_no rfl rfl rfl (by decide) ?_ | refine d_no' rfl rfl rfl ?_ | (refine wq2 (fun hb => ?_) (fun hb => ?_) <;> (simp only [hb]; try simp only [hbs, ne_eq] at hb; try (exfalso; first | omega | exact hb trivial))) | fail)
    all_goals try (exfalso; omega)
    all_goals refine ⟨by first | exact .inr rfl | exact .inl rfl, _, rfl, ?_, by repeat' (first | exact trivial | refine ⟨⟨_, rfl, by first | rfl | (simp [renO, *]; done)⟩, by first | rfl | assumption, ?_⟩)⟩
    all_goals (first | refine FinA.tup ?_ | refine FinA.one ?_); repeat' (first | exact FinBs.nil | exact FinCs.nil | refine FinBs.cons ?_ ?_ | refine FinCs.cons ?_ ?_ | refine FinB.cell (FinC.v ?_) | refine FinB.cell (FinC.own rfl rfl rfl ?_) | exact FinB.cell FinC.nil | refine FinB.cell (FinC.sl ?_) | exact FinB.agg' rfl rfl | exact FinB.cell (FinC.same rfl) | refine FinB.agg ?_ | refine FinC.v ?_ | refine FinC.own rfl rfl rfl ?_ | exact FinC.nil | refine FinC.sl ?_ | exact FinC.same rfl); all_goals try rfl
  · obtain ⟨rfl, rfl⟩ := hb h0
    have e2 : unf 0 = 0 := by decide
    rw [e2]
    refine PC.mk (ac_body tab_ok Try.func39 rfl (by kernel_rfl) rfl ?_); intro w0 M μ0; simp only [Try.ntmps39, List.length_cons, List.length_nil, Nat.reduceAdd, Nat.reduceSub, numb]
    repeat' (first | ((first | apply o_do | apply d_do | apply d_yes rfl rfl rfl); first | exact lsc (h) | exact lsq) | refine a_seq ?_ | refine a_region ?_ | refine o_nil ?_ | refine a_block ?_ | refine a_ret ?_ | refine a_exit ?_ | refine a_skip ?_ | refine a_draw mixed ?_ | refine d_nil (by kernel_rfl) ?_ | refine o_yes rfl rfl rfl ?_ | refine o_no rfl rfl rfl (by decide) ?_ | refine o_no' rfl rfl rfl ?_ | refine a_condT rfl ?_ | refine a_condF rfl ?_ | refine d_no rfl rfl rfl (by decide) ?_ | refine d_no' rfl rfl rfl ?_ | (refine wq2 (fun hb => ?_) (fun hb => ?_) <;> (simp only [hb]; try simp only [hbs, ne_eq] at hb; try (exfalso; first | omega | exact hb trivial))) | fail)
    all_goals try (exfalso; omega)
    all_goals refine ⟨by first | exact .inr rfl | exact .inl rfl, _, rfl, ?_, by repeat' (first | exact trivial | refine ⟨⟨_, rfl, by first | rfl | (simp [renO, *]; done)⟩, by first | rfl | assumption, ?_⟩)⟩
    all_goals (first | refine FinA.tup ?_ | refine FinA.one ?_); repeat' (first | exact FinBs.nil | exact FinCs.nil | refine FinBs.cons ?_ ?_ | refine FinCs.cons ?_ ?_ | refine FinB.cell (FinC.v ?_) | refine FinB.cell (FinC.own rfl rfl rfl ?_) | exact FinB.cell FinC.nil | refine FinB.cell (FinC.sl ?_) | exact FinB.agg' rfl rfl | exact FinB.cell (FinC.same rfl) | refine FinB.agg ?_ | refine FinC.v ?_ | refine FinC.own rfl rfl rfl ?_ | exact FinC.nil | refine FinC.sl ?_ | exact FinC.same rfl); all_goals try rfl
/-- a text read at a place -/
def gtx (s : ByteArray) (i : Int) : ByteArray × Int × Int :=
  if (vrd 9223372036854775807 s i).2.2 ≠ 0 then (⟨#[]⟩, 0, (vrd 9223372036854775807 s i).2.2) else if 4096 < (vrd 9223372036854775807 s i).1 then (⟨#[]⟩, 0, 2) else if (s.size : Int) - (vrd 9223372036854775807 s i).2.1 < (vrd 9223372036854775807 s i).1 then (⟨#[]⟩, 0, 20)
  else (s.extract (vrd 9223372036854775807 s i).2.1.toNat ((vrd 9223372036854775807 s i).2.1.toNat + (vrd 9223372036854775807 s i).1), (vrd 9223372036854775807 s i).2.1 + (vrd 9223372036854775807 s i).1, 0)
set_option maxHeartbeats 2000000 in
theorem v_GetText (s : ByteArray) (i : Int) (hs : s.size ≤ 9223372036854775807) : PC Try.prog 20 [.v (.string s), .v (.int .i64 i)] (.tup [.v (.string (gtx s i).1), .v (.int .i64 (gtx s i).2.1), .v (.int .i64 (gtx s i).2.2)]) := by
  have h := v_Get s i hs
  obtain ⟨R, hR⟩ : ∃ R, R = gtx s i := ⟨_, rfl⟩
  rw [← hR]
  unfold gtx at hR
  have ht := vrd_to (most := 9223372036854775807) (s := s) (i := i)
  have hl := vrd_le (most := 9223372036854775807) (s := s) (i := i)
  generalize vrd 9223372036854775807 s i = r at *
  obtain ⟨n, to, bad⟩ := r
  dsimp only at *
  obtain ⟨m, rfl⟩ : ∃ m : Nat, to = m := ⟨to.toNat, by omega⟩
  rw [Int.toNat_natCast] at hR
  by_cases h0 : bad = 0
  · rw [if_neg (by omega)] at hR
    subst h0
    by_cases h1 : 4096 < n
    · rw [if_pos h1] at hR
      subst hR
      refine PC.mk (ac_body tab_ok Try.func20 rfl (by kernel_rfl) rfl ?_); intro w0 M μ0; simp only [Try.ntmps20, List.length_cons, List.length_nil, Nat.reduceAdd, Nat.reduceSub, numb]
      repeat' (first | ((first | apply o_do | apply d_do | apply d_yes rfl rfl rfl); first | exact lsc (h) | exact lsq) | refine a_seq ?_ | refine a_region ?_ | refine o_nil ?_ | refine a_block ?_ | refine a_ret ?_ | refine a_exit ?_ | refine a_skip ?_ | refine a_draw mixed ?_ | refine d_nil (by kernel_rfl) ?_ | refine o_yes rfl rfl rfl ?_ | refine o_no rfl rfl rfl (by decide) ?_ | refine o_no' rfl rfl rfl ?_ | refine a_condT rfl ?_ | refine a_condF rfl ?_ | refine d_no rfl rfl rfl (by decide) ?_ | refine d_no' rfl rfl rfl ?_ | (refine wq2 (fun hb => ?_) (fun hb => ?_) <;> (simp only [hb]; try simp only [hbs, ne_eq] at hb; try (exfalso; first | omega | exact hb trivial))) | fail)
      all_goals try (exfalso; omega)
      all_goals refine ⟨by first | exact .inr rfl | exact .inl rfl, _, rfl, ?_, by repeat' (first | exact trivial | refine ⟨⟨_, rfl, by first | rfl | (simp [renO, *]; done)⟩, by first | rfl | assumption, ?_⟩)⟩
      all_goals (first | refine FinA.tup ?_ | refine FinA.one ?_); repeat' (first | exact FinBs.nil | exact FinCs.nil | refine FinBs.cons ?_ ?_ | refine FinCs.cons ?_ ?_ | refine FinB.cell (FinC.v ?_) | refine FinB.cell (FinC.own rfl rfl rfl ?_) | exact FinB.cell FinC.nil | refine FinB.cell (FinC.sl ?_) | exact FinB.agg' rfl rfl | exact FinB.cell (FinC.same rfl) | refine FinB.agg ?_ | refine FinC.v ?_ | refine FinC.own rfl rfl rfl ?_ | exact FinC.nil | refine FinC.sl ?_ | exact FinC.same rfl); all_goals try rfl
    rw [if_neg h1] at hR
    by_cases h2 : (s.size : Int) - m < n
    · rw [if_pos h2] at hR
      subst hR
      refine PC.mk (ac_body tab_ok Try.func20 rfl (by kernel_rfl) rfl ?_); intro w0 M μ0; simp only [Try.ntmps20, List.length_cons, List.length_nil, Nat.reduceAdd, Nat.reduceSub, numb]
      repeat' (first | ((first | apply o_do | apply d_do | apply d_yes rfl rfl rfl); first | exact lsc (h) | exact lsq) | refine a_seq ?_ | refine a_region ?_ | refine o_nil ?_ | refine a_block ?_ | refine a_ret ?_ | refine a_exit ?_ | refine a_skip ?_ | refine a_draw mixed ?_ | refine d_nil (by kernel_rfl) ?_ | refine o_yes rfl rfl rfl ?_ | refine o_no rfl rfl rfl (by decide) ?_ | refine o_no' rfl rfl rfl ?_ | refine a_condT rfl ?_ | refine a_condF rfl ?_ | refine d_no rfl rfl rfl (by decide) ?_ | refine d_no' rfl rfl rfl ?_ | (refine wq2 (fun hb => ?_) (fun hb => ?_) <;> (simp only [hb]; try simp only [hbs, ne_eq] at hb; try (exfalso; first | omega | exact hb trivial))) | fail)
      all_goals try (exfalso; omega)
      all_goals refine ⟨by first | exact .inr rfl | exact .inl rfl, _, rfl, ?_, by repeat' (first | exact trivial | refine ⟨⟨_, rfl, by first | rfl | (simp [renO, *]; done)⟩, by first | rfl | assumption, ?_⟩)⟩
      all_goals (first | refine FinA.tup ?_ | refine FinA.one ?_); repeat' (first | exact FinBs.nil | exact FinCs.nil | refine FinBs.cons ?_ ?_ | refine FinCs.cons ?_ ?_ | refine FinB.cell (FinC.v ?_) | refine FinB.cell (FinC.own rfl rfl rfl ?_) | exact FinB.cell FinC.nil | refine FinB.cell (FinC.sl ?_) | exact FinB.agg' rfl rfl | exact FinB.cell (FinC.same rfl) | refine FinB.agg ?_ | refine FinC.v ?_ | refine FinC.own rfl rfl rfl ?_ | exact FinC.nil | refine FinC.sl ?_ | exact FinC.same rfl); all_goals try rfl
    rw [if_neg h2] at hR
    subst hR
    refine PC.mk (ac_body tab_ok Try.func20 rfl (by kernel_rfl) rfl ?_); intro w0 M μ0; simp only [Try.ntmps20, List.length_cons, List.length_nil, Nat.reduceAdd, Nat.reduceSub, numb]
    repeat' (first | ((first | apply o_do | apply d_do | apply d_yes rfl rfl rfl); first | exact lsc (h) | exact ls_strSub (m := m) (n := m + n) tab_ok rfl rfl rfl rfl rfl (by omega) (by omega) (by omega) rfl | exact lsq) | refine a_seq ?_ | refine a_region ?_ | refine o_nil ?_ | refine a_block ?_ | refine a_ret ?_ | refine a_exit ?_ | refine a_skip ?_ | refine a_draw mixed ?_ | refine d_nil (by kernel_rfl) ?_ | refine o_yes rfl rfl rfl ?_ | refine o_no rfl rfl rfl (by decide) ?_ | refine o_no' rfl rfl rfl ?_ | refine a_condT rfl ?_ | refine a_condF rfl ?_ | refine d_no rfl rfl rfl (by decide) ?_ | refine d_no' rfl rfl rfl ?_ | (refine wq2 (fun hb => ?_) (fun hb => ?_) <;> (simp only [hb]; try simp only [hbs, ne_eq] at hb; try (exfalso; first | omega | exact hb trivial))) | fail)
    all_goals try (exfalso; omega)
    all_goals refine ⟨by first | exact .inr rfl | exact .inl rfl, _, rfl, ?_, by repeat' (first | exact trivial | refine ⟨⟨_, rfl, by first | rfl | (simp [renO, *]; done)⟩, by first | rfl | assumption, ?_⟩)⟩
    all_goals (first | refine FinA.tup ?_ | refine FinA.one ?_); repeat' (first | exact FinBs.nil | exact FinCs.nil | refine FinBs.cons ?_ ?_ | refine FinCs.cons ?_ ?_ | refine FinB.cell (FinC.v ?_) | refine FinB.cell (FinC.own rfl rfl rfl ?_) | exact FinB.cell FinC.nil | refine FinB.cell (FinC.sl ?_) | exact FinB.agg' rfl rfl | exact FinB.cell (FinC.same rfl) | refine FinB.agg ?_ | refine FinC.v ?_ | refine FinC.own rfl rfl rfl ?_ | exact FinC.nil | refine FinC.sl ?_ | exact FinC.same rfl); all_goals try rfl
  · rw [if_pos h0] at hR
    subst hR
    refine PC.mk (ac_body tab_ok Try.func20 rfl (by kernel_rfl) rfl ?_); intro w0 M μ0; simp only [Try.ntmps20, List.length_cons, List.length_nil, Nat.reduceAdd, Nat.reduceSub, numb]
    repeat' (first | ((first | apply o_do | apply d_do | apply d_yes rfl rfl rfl); first | exact lsc (h) | exact lsq) | refine a_seq ?_ | refine a_region ?_ | refine o_nil ?_ | refine a_block ?_ | refine a_ret ?_ | refine a_exit ?_ | refine a_skip ?_ | refine a_draw mixed ?_ | refine d_nil (by kernel_rfl) ?_ | refine o_yes rfl rfl rfl ?_ | refine o_no rfl rfl rfl (by decide) ?_ | refine o_no' rfl rfl rfl ?_ | refine a_condT rfl ?_ | refine a_condF rfl ?_ | refine d_no rfl rfl rfl (by decide) ?_ | refine d_no' rfl rfl rfl ?_ | (refine wq2 (fun hb => ?_) (fun hb => ?_) <;> (simp only [hb]; try simp only [hbs, ne_eq] at hb; try (exfalso; first | omega | exact hb trivial))) | fail)
    all_goals try (exfalso; omega)
    all_goals refine ⟨by first | exact .inr rfl | exact .inl rfl, _, rfl, ?_, by repeat' (first | exact trivial | refine ⟨⟨_, rfl, by first | rfl | (simp [renO, *]; done)⟩, by first | rfl | assumption, ?_⟩)⟩
    all_goals (first | refine FinA.tup ?_ | refine FinA.one ?_); repeat' (first | exact FinBs.nil | exact FinCs.nil | refine FinBs.cons ?_ ?_ | refine FinCs.cons ?_ ?_ | refine FinB.cell (FinC.v ?_) | refine FinB.cell (FinC.own rfl rfl rfl ?_) | exact FinB.cell FinC.nil | refine FinB.cell (FinC.sl ?_) | exact FinB.agg' rfl rfl | exact FinB.cell (FinC.same rfl) | refine FinB.agg ?_ | refine FinC.v ?_ | refine FinC.own rfl rfl rfl ?_ | exact FinC.nil | refine FinC.sl ?_ | exact FinC.same rfl); all_goals try rfl
set_option maxHeartbeats 2000000 in
theorem v_rGetText (s : ByteArray) (i : Int) (hs : s.size ≤ 9223372036854770000) : PC Try.prog 38 [.v (.string s), .v (.int .i64 i)] (.tup [.v (.string (gtx s i).1), .v (.int .i64 (gtx s i).2.1), .v (.int .i64 (gtx s i).2.2)]) := by
  have h := v_rGet s i (by omega)
  obtain ⟨R, hR⟩ : ∃ R, R = gtx s i := ⟨_, rfl⟩
  rw [← hR]
  unfold gtx at hR
  have ht := vrd_to (most := 9223372036854775807) (s := s) (i := i)
  have hl := vrd_le (most := 9223372036854775807) (s := s) (i := i)
  generalize vrd 9223372036854775807 s i = r at *
  obtain ⟨n, to, bad⟩ := r
  dsimp only at *
  obtain ⟨m, rfl⟩ : ∃ m : Nat, to = m := ⟨to.toNat, by omega⟩
  rw [Int.toNat_natCast] at hR
  by_cases h0 : bad = 0
  · rw [if_neg (by omega)] at hR
    subst h0
    by_cases h1 : 4096 < n
    · rw [if_pos h1] at hR
      subst hR
      refine PC.mk (ac_body tab_ok Try.func38 rfl (by kernel_rfl) rfl ?_); intro w0 M μ0; simp only [Try.ntmps38, List.length_cons, List.length_nil, Nat.reduceAdd, Nat.reduceSub, numb]
      repeat' (first | ((first | apply o_do | apply d_do | apply d_yes rfl rfl rfl); first | exact lsc (h) | exact lsq) | refine a_seq ?_ | refine a_region ?_ | refine o_nil ?_ | refine a_block ?_ | refine a_ret ?_ | refine a_exit ?_ | refine a_skip ?_ | refine a_draw mixed ?_ | refine d_nil (by kernel_rfl) ?_ | refine o_yes rfl rfl rfl ?_ | refine o_no rfl rfl rfl (by decide) ?_ | refine o_no' rfl rfl rfl ?_ | refine a_condT rfl ?_ | refine a_condF rfl ?_ | refine d_no rfl rfl rfl (by decide) ?_ | refine d_no' rfl rfl rfl ?_ | (refine wq2 (fun hb => ?_) (fun hb => ?_) <;> (simp only [hb]; try simp only [hbs, ne_eq] at hb; try (exfalso; first | omega | exact hb trivial))) | fail)
      all_goals try (exfalso; omega)
      all_goals refine ⟨by first | exact .inr rfl | exact .inl rfl, _, rfl, ?_, by repeat' (first | exact trivial | refine ⟨⟨_, rfl, by first | rfl | (simp [renO, *]; done)⟩, by first | rfl | assumption, ?_⟩)⟩
      all_goals (first | refine FinA.tup ?_ | refine FinA.one ?_); repeat' (first | exact FinBs.nil | exact FinCs.nil | refine FinBs.cons ?_ ?_ | refine FinCs.cons ?_ ?_ | refine FinB.cell (FinC.v ?_) | refine FinB.cell (FinC.own rfl rfl rfl ?_) | exact FinB.cell FinC.nil | refine FinB.cell (FinC.sl ?_) | exact FinB.agg' rfl rfl | exact FinB.cell (FinC.same rfl) | refine FinB.agg ?_ | refine FinC.v ?_ | refine FinC.own rfl rfl rfl ?_ | exact FinC.nil | refine FinC.sl ?_ | exact FinC.same rfl); all_goals try rfl
    rw [if_neg h1] at hR
    by_cases h2 : (s.size : Int) - m < n
    · rw [if_pos h2] at hR
      subst hR
      refine PC.mk (ac_body tab_ok Try.func38 rfl (by kernel_rfl) rfl ?_); intro w0 M μ0; simp only [Try.ntmps38, List.length_cons, List.length_nil, Nat.reduceAdd, Nat.reduceSub, numb]
      repeat' (first | ((first | apply o_do | apply d_do | apply d_yes rfl rfl rfl); first | exact lsc (h) | exact lsq) | refine a_seq ?_ | refine a_region ?_ | refine o_nil ?_ | refine a_block ?_ | refine a_ret ?_ | refine a_exit ?_ | refine a_skip ?_ | refine a_draw mixed ?_ | refine d_nil (by kernel_rfl) ?_ | refine o_yes rfl rfl rfl ?_ | refine o_no rfl rfl rfl (by decide) ?_ | refine o_no' rfl rfl rfl ?_ | refine a_condT rfl ?_ | refine a_condF rfl ?_ | refine d_no rfl rfl rfl (by decide) ?_ | refine d_no' rfl rfl rfl ?_ | (refine wq2 (fun hb => ?_) (fun hb => ?_) <;> (simp only [hb]; try simp only [hbs, ne_eq] at hb; try (exfalso; first | omega | exact hb trivial))) | fail)
      all_goals try (exfalso; omega)
      all_goals refine ⟨by first | exact .inr rfl | exact .inl rfl, _, rfl, ?_, by repeat' (first | exact trivial | refine ⟨⟨_, rfl, by first | rfl | (simp [renO, *]; done)⟩, by first | rfl | assumption, ?_⟩)⟩
      all_goals (first | refine FinA.tup ?_ | refine FinA.one ?_); repeat' (first | exact FinBs.nil | exact FinCs.nil | refine FinBs.cons ?_ ?_ | refine FinCs.cons ?_ ?_ | refine FinB.cell (FinC.v ?_) | refine FinB.cell (FinC.own rfl rfl rfl ?_) | exact FinB.cell FinC.nil | refine FinB.cell (FinC.sl ?_) | exact FinB.agg' rfl rfl | exact FinB.cell (FinC.same rfl) | refine FinB.agg ?_ | refine FinC.v ?_ | refine FinC.own rfl rfl rfl ?_ | exact FinC.nil | refine FinC.sl ?_ | exact FinC.same rfl); all_goals try rfl
    rw [if_neg h2] at hR
    subst hR
    refine PC.mk (ac_body tab_ok Try.func38 rfl (by kernel_rfl) rfl ?_); intro w0 M μ0; simp only [Try.ntmps38, List.length_cons, List.length_nil, Nat.reduceAdd, Nat.reduceSub, numb]
    repeat' (first | ((first | apply o_do | apply d_do | apply d_yes rfl rfl rfl); first | exact lsc (h) | exact ls_strSub (m := m) (n := m + n) tab_ok rfl rfl rfl rfl rfl (by omega) (by omega) (by omega) rfl | exact lsq) | refine a_seq ?_ | refine a_region ?_ | refine o_nil ?_ | refine a_block ?_ | refine a_ret ?_ | refine a_exit ?_ | refine a_skip ?_ | refine a_draw mixed ?_ | refine d_nil (by kernel_rfl) ?_ | refine o_yes rfl rfl rfl ?_ | refine o_no rfl rfl rfl (by decide) ?_ | refine o_no' rfl rfl rfl ?_ | refine a_condT rfl ?_ | refine a_condF rfl ?_ | refine d_no rfl rfl rfl (by decide) ?_ | refine d_no' rfl rfl rfl ?_ | (refine wq2 (fun hb => ?_) (fun hb => ?_) <;> (simp only [hb]; try simp only [hbs, ne_eq] at hb; try (exfalso; first | omega | exact hb trivial))) | fail)
    all_goals try (exfalso; omega)
    all_goals refine ⟨by first | exact .inr rfl | exact .inl rfl, _, rfl, ?_, by repeat' (first | exact trivial | refine ⟨⟨_, rfl, by first | rfl | (simp [renO, *]; done)⟩, by first | rfl | assumption, ?_⟩)⟩
    all_goals (first | refine FinA.tup ?_ | refine FinA.one ?_); repeat' (first | exact FinBs.nil | exact FinCs.nil | refine FinBs.cons ?_ ?_ | refine FinCs.cons ?_ ?_ | refine FinB.cell (FinC.v ?_) | refine FinB.cell (FinC.own rfl rfl rfl ?_) | exact FinB.cell FinC.nil | refine FinB.cell (FinC.sl ?_) | exact FinB.agg' rfl rfl | exact FinB.cell (FinC.same rfl) | refine FinB.agg ?_ | refine FinC.v ?_ | refine FinC.own rfl rfl rfl ?_ | exact FinC.nil | refine FinC.sl ?_ | exact FinC.same rfl); all_goals try rfl
  · rw [if_pos h0] at hR
    subst hR
    refine PC.mk (ac_body tab_ok Try.func38 rfl (by kernel_rfl) rfl ?_); intro w0 M μ0; simp only [Try.ntmps38, List.length_cons, List.length_nil, Nat.reduceAdd, Nat.reduceSub, numb]
    repeat' (first | ((first | apply o_do | apply d_do | apply d_yes rfl rfl rfl); first | exact lsc (h) | exact lsq) | refine a_seq ?_ | refine a_region ?_ | refine o_nil ?_ | refine a_block ?_ | refine a_ret ?_ | refine a_exit ?_ | refine a_skip ?_ | refine a_draw mixed ?_ | refine d_nil (by kernel_rfl) ?_ | refine o_yes rfl rfl rfl ?_ | refine o_no rfl rfl rfl (by decide) ?_ | refine o_no' rfl rfl rfl ?_ | refine a_condT rfl ?_ | refine a_condF rfl ?_ | refine d_no rfl rfl rfl (by decide) ?_ | refine d_no' rfl rfl rfl ?_ | (refine wq2 (fun hb => ?_) (fun hb => ?_) <;> (simp only [hb]; try simp only [hbs, ne_eq] at hb; try (exfalso; first | omega | exact hb trivial))) | fail)
    all_goals try (exfalso; omega)
    all_goals refine ⟨by first | exact .inr rfl | exact .inl rfl, _, rfl, ?_, by repeat' (first | exact trivial | refine ⟨⟨_, rfl, by first | rfl | (simp [renO, *]; done)⟩, by first | rfl | assumption, ?_⟩)⟩
    all_goals (first | refine FinA.tup ?_ | refine FinA.one ?_); repeat' (first | exact FinBs.nil | exact FinCs.nil | refine FinBs.cons ?_ ?_ | refine FinCs.cons ?_ ?_ | refine FinB.cell (FinC.v ?_) | refine FinB.cell (FinC.own rfl rfl rfl ?_) | exact FinB.cell FinC.nil | refine FinB.cell (FinC.sl ?_) | exact FinB.agg' rfl rfl | exact FinB.cell (FinC.same rfl) | refine FinB.agg ?_ | refine FinC.v ?_ | refine FinC.own rfl rfl rfl ?_ | exact FinC.nil | refine FinC.sl ?_ | exact FinC.same rfl); all_goals try rfl
end Go.Proofs.Ythlimflfglkpiaa
