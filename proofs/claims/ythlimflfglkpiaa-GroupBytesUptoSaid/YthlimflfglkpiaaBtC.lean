/-
  Numbers as bytes, walked over abstract values: written.
-/
import Derived.Test.YthlimflfglkpiaaBtB
import Derived.Test.YthlimflfglkpiaaBtP
namespace Go.Proofs.Ythlimflfglkpiaa
open Go.RowKit
set_option linter.unusedSimpArgs false
set_option linter.unusedVariables false
section
variable {P : Program} {Γ : Ctx} {s : ASt} {dst : Option Tmp} {ty : TypeId} {pos : String} {after : Array Edge}
theorem ls_shr {xt yt : TypeId} {x y : Operand} {k yk : IntKind} {a b r : Int} (hr : a.fdiv (2 ^ min b.toNat k.bits) = r) (hx : ev s x = some (.v (.int k a))) (hy : ev s y = some (.v (.int yk b))) (hb : 0 ≤ b) (hd : okDst Γ.n dst = true) : LS P Γ ⟨dst, .binOp .shr xt x y yt, ty, pos, after, none⟩ s (rd x (rd y [])) (dst1 dst (.v (.int k r))) [] :=
  ls_bin hx hy (fun w => by
    have h : ¬ b < 0 := by omega
    simp [eqGuard, binOp, Op.shift, h, hr]) rfl hd
theorem ls_shl {xt yt : TypeId} {x y : Operand} {k yk : IntKind} {a b r : Int} (hr : k.wrap (a * 2 ^ min b.toNat k.bits) = r) (hx : ev s x = some (.v (.int k a))) (hy : ev s y = some (.v (.int yk b))) (hb : 0 ≤ b) (hd : okDst Γ.n dst = true) : LS P Γ ⟨dst, .binOp .shl xt x y yt, ty, pos, after, none⟩ s (rd x (rd y [])) (dst1 dst (.v (.int k r))) [] :=
  ls_bin hx hy (fun w => by
    have h : ¬ b < 0 := by omega
    simp [eqGuard, binOp, Op.shift, h, hr]) rfl hd
theorem ls_and {xt yt : TypeId} {x y : Operand} {k : IntKind} {a b r : Int} (hr : k.wrap (BitVec.ofInt k.bits a &&& BitVec.ofInt k.bits b).toNat = r) (hx : ev s x = some (.v (.int k a))) (hy : ev s y = some (.v (.int k b))) (hd : okDst Γ.n dst = true) : LS P Γ ⟨dst, .binOp .and xt x y yt, ty, pos, after, none⟩ s (rd x (rd y [])) (dst1 dst (.v (.int k r))) [] :=
  ls_bin hx hy (fun w => by
    subst hr
    simp [eqGuard, binOp, Op.intBits]) rfl hd
theorem ls_or {xt yt : TypeId} {x y : Operand} {k : IntKind} {a b r : Int} (hr : k.wrap (BitVec.ofInt k.bits a ||| BitVec.ofInt k.bits b).toNat = r) (hx : ev s x = some (.v (.int k a))) (hy : ev s y = some (.v (.int k b))) (hd : okDst Γ.n dst = true) : LS P Γ ⟨dst, .binOp .or xt x y yt, ty, pos, after, none⟩ s (rd x (rd y [])) (dst1 dst (.v (.int k r))) [] :=
  ls_bin hx hy (fun w => by
    subst hr
    simp [eqGuard, binOp, Op.intBits]) rfl hd
theorem ls_xor {xt yt : TypeId} {x y : Operand} {k : IntKind} {a b r : Int} (hr : k.wrap (BitVec.ofInt k.bits a ^^^ BitVec.ofInt k.bits b).toNat = r) (hx : ev s x = some (.v (.int k a))) (hy : ev s y = some (.v (.int k b))) (hd : okDst Γ.n dst = true) : LS P Γ ⟨dst, .binOp .xor xt x y yt, ty, pos, after, none⟩ s (rd x (rd y [])) (dst1 dst (.v (.int k r))) [] :=
  ls_bin hx hy (fun w => by
    subst hr
    simp [eqGuard, binOp, Op.intBits]) rfl hd
end
theorem shr7 (n i : Nat) (hi : i ≤ 9) {b : Int} (hb : b = 7 * (i : Int)) : (n : Int).fdiv (2 ^ min b.toNat IntKind.u64.bits) = ((n / 128 ^ i : Nat) : Int) := by
  have h1 : min b.toNat IntKind.u64.bits = 7 * i := by
    have : IntKind.u64.bits = 64 := rfl
    rw [this]; omega
  have h2 : (2 : Int) ^ (7 * i) = ((128 ^ i : Nat) : Int) := by
    rw [Int.pow_mul]
    simp
  rw [h1, h2, Int.fdiv_eq_ediv_of_nonneg _ (Int.natCast_nonneg _)]
  exact (Int.natCast_ediv _ _).symm
theorem or128 (x : Nat) : IntKind.u8.wrap (BitVec.ofInt IntKind.u8.bits (IntKind.u8.wrap (x : Int)) ||| BitVec.ofInt IntKind.u8.bits 128).toNat = (((UInt8.ofNat (x % 128 + 128)).toNat : Nat) : Int) := by
  have key : ∀ y : Fin 256, (BitVec.ofNat 8 y.1 ||| BitVec.ofNat 8 128).toNat = y.1 % 128 + 128 := by decide +kernel
  have e1 : IntKind.u8.wrap (x : Int) = ((x % 256 : Nat) : Int) := by rw [IntKind.wrap_u8]; omega
  have e2 : (BitVec.ofInt IntKind.u8.bits ((x % 256 : Nat) : Int) ||| BitVec.ofInt IntKind.u8.bits 128).toNat = x % 256 % 128 + 128 := by
    rw [← key ⟨x % 256, by omega⟩]
    show (BitVec.ofInt 8 ((x % 256 : Nat) : Int) ||| BitVec.ofInt 8 128).toNat = _
    rw [BitVec.ofInt_natCast]; rfl
  rw [e1, e2, u8_nat (by omega), IntKind.wrap_u8]
  omega
theorem and127 (x : Nat) : IntKind.u8.wrap (BitVec.ofInt IntKind.u8.bits (IntKind.u8.wrap (x : Int)) &&& BitVec.ofInt IntKind.u8.bits 127).toNat = (((UInt8.ofNat (x % 128)).toNat : Nat) : Int) := by
  have key : ∀ y : Fin 256, (BitVec.ofNat 8 y.1 &&& BitVec.ofNat 8 127).toNat = y.1 % 128 := by decide +kernel
  have e1 : IntKind.u8.wrap (x : Int) = ((x % 256 : Nat) : Int) := by rw [IntKind.wrap_u8]; omega
  have e2 : (BitVec.ofInt IntKind.u8.bits ((x % 256 : Nat) : Int) &&& BitVec.ofInt IntKind.u8.bits 127).toNat = x % 256 % 128 := by
    rw [← key ⟨x % 256, by omega⟩]
    show (BitVec.ofInt 8 ((x % 256 : Nat) : Int) &&& BitVec.ofInt 8 127).toNat = _
    rw [BitVec.ofInt_natCast]; rfl
  rw [e1, e2, u8_nat (by omega), IntKind.wrap_u8]
  omega
/-- how many digits stand ahead of the last one -/
theorem ahead_ex (n : Nat) (h : n < 18446744073709551616) : ∃ k, k ≤ 9 ∧ n / 128 ^ k ≤ 127 ∧ ∀ j, j < k → 127 < n / 128 ^ j := by
  have h9 : n / 128 ^ 9 ≤ 127 := by
    have : (128 : Nat) ^ 9 = 9223372036854775808 := by decide
    rw [this]; omega
  have key : ∀ m, (∃ k, k ≤ m ∧ n / 128 ^ k ≤ 127 ∧ ∀ j, j < k → 127 < n / 128 ^ j) ∨ ∀ j, j ≤ m → 127 < n / 128 ^ j := by
    intro m
    induction m with
    | zero =>
      by_cases h : n / 128 ^ 0 ≤ 127
      · exact .inl ⟨0, Nat.le_refl _, h, fun j hj => absurd hj (Nat.not_lt_zero _)⟩
      · exact .inr fun j hj => by obtain rfl : j = 0 := by omega
                                  omega
    | succ m ih =>
      rcases ih with ⟨k, h1, h2, h3⟩ | ih
      · exact .inl ⟨k, by omega, h2, h3⟩
      by_cases h : n / 128 ^ (m + 1) ≤ 127
      · exact .inl ⟨m + 1, Nat.le_refl _, h, fun j hj => ih j (by omega)⟩
      · exact .inr fun j hj => by
          rcases Nat.lt_or_ge j (m + 1) with h1 | h1
          · exact ih j (by omega)
          · obtain rfl : j = m + 1 := by omega
            omega
  rcases key 9 with ⟨k, h1, h2, h3⟩ | h
  · exact ⟨k, h1, h2, h3⟩
  · have := h 9 (Nat.le_refl _); omega
/-- used as soon as a byte was written -/
def usd : List UInt8 → Bool
  | [] => false
  | _ => true
theorem usd_app (l : List UInt8) (b : UInt8) : usd (l ++ [b]) = true := by cases l <;> rfl
set_option maxHeartbeats 4000000 in
set_option maxRecDepth 20000 in
theorem v_write (n : Nat) (h : n < 18446744073709551616) : AC Try.prog 49 [.v (.int .u64 n), .clo (.func 50) [.ref 0 0] []] (SB false []) (.tup []) (SB true (dg n)) := by
  obtain ⟨k, hk, h1, h2⟩ := ahead_ex n h
  have hD : ∀ i, i ≤ k → dgC (n / 128 ^ i) = (if i = k + 1 then [] else dgC (n / 128 ^ (i + 1)) ++ [UInt8.ofNat (n / 128 ^ i % 128 + 128)]) ∨ n / 128 ^ i = 0 := by
    intro i hi
    by_cases h0 : n / 128 ^ i = 0
    · exact .inr h0
    · left
      rw [if_neg (by omega), dgC_pos h0, Nat.pow_succ, Nat.div_div_eq_div_mul]
  unfold SB bP
  refine (ac_body tab_ok Try.func49 rfl (by kernel_rfl) rfl ?_); intro w0 M μ0; simp only [Try.ntmps49, List.length_cons, List.length_nil, Nat.reduceAdd, Nat.reduceSub, numb]
  repeat' (first | ((first | apply o_do | apply d_do | apply d_yes rfl rfl rfl); exact lsq) | refine a_seq ?_ | refine a_region ?_ | refine o_nil ?_ | refine a_block ?_ | refine a_ret ?_ | refine a_exit ?_ | refine a_skip ?_ | refine a_draw mixed ?_ | refine d_nil (by kernel_rfl) ?_ | refine o_yes rfl rfl rfl ?_ | refine o_no rfl rfl rfl (by decide) ?_ | refine o_no' rfl rfl rfl ?_ | refine a_condT rfl ?_ | refine a_condF rfl ?_ | refine d_no rfl rfl rfl (by decide) ?_ | refine d_no' rfl rfl rfl ?_ | (refine wq2 (fun hb => ?_) (fun hb => ?_) <;> (simp only [hb]; try simp only [hbs, ne_eq] at hb; try (exfalso; first | omega | exact hb trivial))) | fail)
  refine a_loop (X := {i : Nat // i ≤ k}) (fun p => ⟨[(0, .v (.int .u64 n)), (1, .clo (.func 50) [.ref 0 0] []), (4, .v (.int .i64 (7 * (p.1 : Int))))], SB false []⟩) (fun p => k - p.1) ⟨0, Nat.zero_le _⟩ ?_ ?_
  · refine ⟨by repeat' (first | exact trivial | exact FinA.one (FinB.cell (FinC.same rfl)) | exact FinA.one (FinB.cell FinC.nil) | exact FinA.bound rfl | exact FinA.one (FinB.cell (FinC.own rfl rfl rfl rfl)) | exact FinA.one (FinB.cell (FinC.v (by first | rfl | (simp)))) | exact FinA.one (FinB.cell (FinC.ow rfl (by first | rfl | (simp)))) | exact FinA.one (FinB.agg' rfl rfl) | refine ⟨⟨_, rfl, ?_⟩, ?_⟩), by repeat' (first | exact trivial | refine ⟨⟨_, rfl, by first | rfl | (simp; done) | (simp [renO, *]; done)⟩, by first | rfl | assumption, ?_⟩), rfl⟩
  rintro ⟨i, hi⟩
  dsimp only
  by_cases hlt : i < k
  · have h3 := h2 i hlt
    have h4 : ((n / 128 ^ i : Nat) : Int) > 127 := by omega
    have hs := shr7 n i (by omega) (b := 7 * (i : Int)) rfl
    generalize n / 128 ^ i = v at *
    repeat' (first | ((first | apply o_do | apply d_do | apply d_yes rfl rfl rfl); first | exact ls_shr hs rfl rfl (by omega) rfl | exact lsq) | refine a_seq ?_ | refine a_region ?_ | refine o_nil ?_ | refine a_block ?_ | refine a_ret ?_ | refine a_exit ?_ | refine a_skip ?_ | refine a_draw mixed ?_ | refine d_nil (by kernel_rfl) ?_ | refine o_yes rfl rfl rfl ?_ | refine o_no rfl rfl rfl (by decide) ?_ | refine o_no' rfl rfl rfl ?_ | refine a_condT rfl ?_ | refine a_condF rfl ?_ | refine d_no rfl rfl rfl (by decide) ?_ | refine d_no' rfl rfl rfl ?_ | (refine wq2 (fun hb => ?_) (fun hb => ?_) <;> (simp only [hb]; try simp only [hbs, ne_eq] at hb; try (exfalso; first | omega | exact hb trivial))) | fail)
    refine ⟨⟨i + 1, by omega⟩, by dsimp only; omega, ?_⟩
    refine ⟨by repeat' (first | exact trivial | exact FinA.one (FinB.cell (FinC.same rfl)) | exact FinA.one (FinB.cell FinC.nil) | exact FinA.bound rfl | exact FinA.one (FinB.cell (FinC.own rfl rfl rfl rfl)) | exact FinA.one (FinB.cell (FinC.v (by first | rfl | ((congr 1; omega))))) | exact FinA.one (FinB.cell (FinC.ow rfl (by first | rfl | ((congr 1; omega))))) | exact FinA.one (FinB.agg' rfl rfl) | refine ⟨⟨_, rfl, ?_⟩, ?_⟩), by repeat' (first | exact trivial | refine ⟨⟨_, rfl, by first | rfl | ((congr 1; omega); done) | (simp [renO, *]; done)⟩, by first | rfl | assumption, ?_⟩), rfl⟩
  · obtain rfl : i = k := by omega
    have hs := shr7 n i (by omega) (b := 7 * (i : Int)) rfl
    have h0 : dgC (n / 128 ^ (i + 1)) = [] := by
      have : n / 128 ^ (i + 1) = 0 := by
        rw [Nat.pow_succ, ← Nat.div_div_eq_div_mul]
        exact Nat.div_eq_of_lt (Nat.lt_succ_of_le h1)
      rw [this, dgC_zero]
    generalize hv : n / 128 ^ i = v at hs h1
    repeat' (first | ((first | apply o_do | apply d_do | apply d_yes rfl rfl rfl); first | exact ls_shr hs rfl rfl (by omega) rfl | exact lsq) | refine a_seq ?_ | refine a_region ?_ | refine o_nil ?_ | refine a_block ?_ | refine a_ret ?_ | refine a_exit ?_ | refine a_skip ?_ | refine a_draw mixed ?_ | refine d_nil (by kernel_rfl) ?_ | refine o_yes rfl rfl rfl ?_ | refine o_no rfl rfl rfl (by decide) ?_ | refine o_no' rfl rfl rfl ?_ | refine a_condT rfl ?_ | refine a_condF rfl ?_ | refine d_no rfl rfl rfl (by decide) ?_ | refine d_no' rfl rfl rfl ?_ | (refine wq2 (fun hb => ?_) (fun hb => ?_) <;> (simp only [hb]; try simp only [hbs, ne_eq] at hb; try (exfalso; first | omega | exact hb trivial))) | fail)
    clear hs
    refine a_loop (X := {j : Nat // j ≤ i}) (fun p => ⟨[(0, .v (.int .u64 n)), (1, .clo (.func 50) [.ref 0 0] []), (4, .v (.int .i64 (7 * (p.1 : Int))))], SB (usd (dgC (n / 128 ^ (p.1 + 1)))) (dgC (n / 128 ^ (p.1 + 1)))⟩) (fun p => p.1) ⟨i, Nat.le_refl _⟩ ?_ ?_
    · rw [h0]
      refine ⟨by repeat' (first | exact trivial | exact FinA.one (FinB.cell (FinC.same rfl)) | exact FinA.one (FinB.cell FinC.nil) | exact FinA.bound rfl | exact FinA.one (FinB.cell (FinC.own rfl rfl rfl rfl)) | exact FinA.one (FinB.cell (FinC.v (by first | rfl | (simp)))) | exact FinA.one (FinB.cell (FinC.ow rfl (by first | rfl | (simp)))) | exact FinA.one (FinB.agg' rfl rfl) | refine ⟨⟨_, rfl, ?_⟩, ?_⟩), by repeat' (first | exact trivial | refine ⟨⟨_, rfl, by first | rfl | (simp; done) | (simp [renO, *]; done)⟩, by first | rfl | assumption, ?_⟩), rfl⟩
    rintro ⟨j, hj⟩
    dsimp only
    have hlen : (dgC (n / 128 ^ (j + 1))).length ≤ 9 := dgC_len 9 _ (by
      have : (128 : Nat) ^ 9 = 9223372036854775808 := by decide
      have h5 : n / 128 ^ (j + 1) ≤ n / 128 ^ 1 := Nat.div_le_div_left (Nat.pow_le_pow_right (by decide) (by omega)) (by decide)
      omega)
    by_cases hj0 : 0 < j
    · obtain ⟨q, rfl⟩ : ∃ q, j = q + 1 := ⟨j - 1, by omega⟩
      have hs := shr7 n (q + 1) (by omega) (b := 7 * ((q + 1 : Nat) : Int)) rfl
      have hne : n / 128 ^ (q + 1) ≠ 0 := by
        by_cases he : q + 1 = i
        · subst he
          have h6 := h2 q (by omega)
          rw [Nat.pow_succ, ← Nat.div_div_eq_div_mul]; omega
        · have := h2 (q + 1) (by omega); omega
      have hnx : dgC (n / 128 ^ (q + 1)) = dgC (n / 128 ^ (q + 1 + 1)) ++ [UInt8.ofNat (n / 128 ^ (q + 1) % 128 + 128)] := by
        rw [dgC_pos hne, Nat.pow_succ 128 (q + 1), Nat.div_div_eq_div_mul]
      have hor := or128 (n / 128 ^ (q + 1))
      have hwb := b_WriteByte (usd (dgC (n / 128 ^ (q + 1 + 1)))) (dgC (n / 128 ^ (q + 1 + 1))) (UInt8.ofNat (n / 128 ^ (q + 1) % 128 + 128)) (by omega)
      rw [← hnx] at hwb
      have hus : usd (dgC (n / 128 ^ (q + 1))) = true := by rw [hnx]; exact usd_app _ _
      clear hnx
      generalize dgC (n / 128 ^ (q + 1 + 1)) = l at *
      obtain ⟨l', hl'⟩ : ∃ l', dgC (n / 128 ^ (q + 1)) = l' := ⟨_, rfl⟩
      rw [hl'] at hwb hus
      generalize (UInt8.ofNat (n / 128 ^ (q + 1) % 128 + 128)).toNat = c at *
      obtain ⟨v', hv'⟩ : ∃ v', n / 128 ^ (q + 1) = v' := ⟨_, rfl⟩
      rw [hv'] at hs hor
      generalize usd l = us at *
      have hst : SB (usd (dgC (n / 128 ^ (q + 1)))) (dgC (n / 128 ^ (q + 1))) = SB true l' := by rw [hl', hus]
      unfold SB at hwb
      cases us
      all_goals
        unfold SB bP at *
        repeat' (first | ((first | apply o_do | apply d_do | apply d_yes rfl rfl rfl); first | exact ls_shr hs rfl rfl (by omega) rfl | exact ls_conv tab_ok rfl Try.underlying67 Try.underlying5 rfl | exact ls_or hor rfl rfl rfl | exact ls_callAB [0, 1] 50 hwb rfl rfl (by (repeat' (first | exact NilL.nil | refine NilL.cons Nil.same ?_ | refine NilL.cons Nil.nil ?_ | refine NilL.cons (Nil.agg ?_) ?_ | exact Nil1s.nil | refine Nil1s.cons Nil1.same ?_ | refine Nil1s.cons Nil1.nil ?_)); first | done | fail) rfl (by repeat' (first | exact trivial | refine ⟨⟨_, rfl, by first | rfl | (simp [renO, *]; done)⟩, ?_⟩)) (by first | rfl | simp [closO, *]) rfl rfl rfl rfl (by first | rfl | simp [closO, *]) rfl | exact lsq) | refine a_seq ?_ | refine a_region ?_ | refine o_nil ?_ | refine a_block ?_ | refine a_ret ?_ | refine a_exit ?_ | refine a_skip ?_ | refine a_draw mixed ?_ | refine d_nil (by kernel_rfl) ?_ | refine o_yes rfl rfl rfl ?_ | refine o_no rfl rfl rfl (by decide) ?_ | refine o_no' rfl rfl rfl ?_ | refine a_condT rfl ?_ | refine a_condF rfl ?_ | refine d_no rfl rfl rfl (by decide) ?_ | refine d_no' rfl rfl rfl ?_ | (refine wq2 (fun hb => ?_) (fun hb => ?_) <;> (simp only [hb]; try simp only [hbs, ne_eq] at hb; try (exfalso; first | omega | exact hb trivial))) | fail)
        refine ⟨⟨q, by omega⟩, by dsimp only; omega, ?_⟩
        dsimp only
        rw [hst]
        refine ⟨by repeat' (first | exact trivial | exact FinA.one (FinB.cell (FinC.same rfl)) | exact FinA.one (FinB.cell FinC.nil) | exact FinA.bound rfl | exact FinA.one (FinB.cell (FinC.own rfl rfl rfl rfl)) | exact FinA.one (FinB.cell (FinC.v (by first | rfl | ((congr 1; omega))))) | exact FinA.one (FinB.cell (FinC.ow rfl (by first | rfl | ((congr 1; omega))))) | exact FinA.one (FinB.agg' rfl rfl) | refine ⟨⟨_, rfl, ?_⟩, ?_⟩), by repeat' (first | exact trivial | refine ⟨⟨_, rfl, by first | rfl | ((congr 1; omega); done) | (simp [renO, *]; done)⟩, by first | rfl | assumption, ?_⟩), rfl⟩
    · obtain rfl : j = 0 := by omega
      have hand := and127 n
      have hwb := b_WriteByte (usd (dgC (n / 128 ^ 1))) (dgC (n / 128 ^ 1)) (UInt8.ofNat (n % 128)) (by simpa using Nat.le_trans hlen (by decide))
      have hn : dgC (n / 128 ^ 1) ++ [UInt8.ofNat (n % 128)] = dg n := by simp [dg]
      rw [hn] at hwb
      generalize (UInt8.ofNat (n % 128)).toNat = c at *
      simp only [Nat.zero_add]
      generalize dgC (n / 128 ^ 1) = l at *
      generalize usd l = us at *
      generalize dg n = l' at *
      unfold SB at hwb
      cases us
      all_goals
        unfold SB bP at *
        repeat' (first | ((first | apply o_do | apply d_do | apply d_yes rfl rfl rfl); first | exact ls_conv tab_ok rfl Try.underlying67 Try.underlying5 rfl | exact ls_and hand rfl rfl rfl | exact ls_callAB [0, 1] 50 hwb rfl rfl (by (repeat' (first | exact NilL.nil | refine NilL.cons Nil.same ?_ | refine NilL.cons Nil.nil ?_ | refine NilL.cons (Nil.agg ?_) ?_ | exact Nil1s.nil | refine Nil1s.cons Nil1.same ?_ | refine Nil1s.cons Nil1.nil ?_)); first | done | fail) rfl (by repeat' (first | exact trivial | refine ⟨⟨_, rfl, by first | rfl | (simp [renO, *]; done)⟩, ?_⟩)) (by first | rfl | simp [closO, *]) rfl rfl rfl rfl (by first | rfl | simp [closO, *]) rfl | exact lsq) | refine a_seq ?_ | refine a_region ?_ | refine o_nil ?_ | refine a_block ?_ | refine a_ret ?_ | refine a_exit ?_ | refine a_skip ?_ | refine a_draw mixed ?_ | refine d_nil (by kernel_rfl) ?_ | refine o_yes rfl rfl rfl ?_ | refine o_no rfl rfl rfl (by decide) ?_ | refine o_no' rfl rfl rfl ?_ | refine a_condT rfl ?_ | refine a_condF rfl ?_ | refine d_no rfl rfl rfl (by decide) ?_ | refine d_no' rfl rfl rfl ?_ | (refine wq2 (fun hb => ?_) (fun hb => ?_) <;> (simp only [hb]; try simp only [hbs, ne_eq] at hb; try (exfalso; first | omega | exact hb trivial))) | fail)
        all_goals refine ⟨by first | exact .inr rfl | exact .inl rfl, _, rfl, ?_, by repeat' (first | exact trivial | refine ⟨⟨_, rfl, by first | rfl | (simp [renO, *]; done)⟩, by first | rfl | assumption, ?_⟩)⟩
        all_goals (first | refine FinA.tup ?_ | refine FinA.one ?_); repeat' (first | exact FinBs.nil | exact FinCs.nil | refine FinBs.cons ?_ ?_ | refine FinCs.cons ?_ ?_ | refine FinB.cell (FinC.v ?_) | refine FinB.cell (FinC.own rfl rfl rfl ?_) | exact FinB.cell FinC.nil | refine FinB.cell (FinC.sl ?_) | exact FinB.agg' rfl rfl | exact FinB.cell (FinC.same rfl) | refine FinB.agg ?_ | refine FinC.v ?_ | refine FinC.own rfl rfl rfl ?_ | exact FinC.nil | refine FinC.sl ?_ | exact FinC.same rfl); all_goals try rfl
end Go.Proofs.Ythlimflfglkpiaa
