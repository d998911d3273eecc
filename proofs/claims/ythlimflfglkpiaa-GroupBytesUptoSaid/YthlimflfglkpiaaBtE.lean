/-
  Numbers as bytes, walked over abstract values: read.
-/
import Derived.Test.YthlimflfglkpiaaBtD
namespace Go.Proofs.Ythlimflfglkpiaa
open Go.RowKit
set_option linter.unusedSimpArgs false
set_option linter.unusedVariables false
section
variable {P : Program} {T : List TyI} {Γ : Ctx} {s : ASt} {dst : Option Tmp} {ty yt : TypeId} {pos : String} {after : Array Edge}
theorem ls_convR (hT : okTab P T = true) {x : Operand} {a b : Nat} {i r : Int} {k q : IntKind} (hr : q.wrap i = r) (hx : ev s x = some (.v (.int k i))) (ha : P.underlying a = some (.int k)) (hb : P.underlying b = some (.int q)) (hd : okDst Γ.n dst = true) :
    LS P Γ ⟨dst, .convert a b x, ty, pos, after, none⟩ s (rd x []) (dst1 dst (.v (.int q r))) [] := by subst hr; exact ls_conv hT hx ha hb hd
theorem ls_subR {xt : TypeId} {x y : Operand} {k : IntKind} {a b r : Int} (hr : k.wrap (a - b) = r) (hx : ev s x = some (.v (.int k a))) (hy : ev s y = some (.v (.int k b))) (hd : okDst Γ.n dst = true) : LS P Γ ⟨dst, .binOp .sub xt x y yt, ty, pos, after, none⟩ s (rd x (rd y [])) (dst1 dst (.v (.int k r))) [] := by subst hr; exact ls_sub hx hy hd
theorem ls_addR {xt : TypeId} {x y : Operand} {k : IntKind} {a b r : Int} (hr : k.wrap (a + b) = r) (hx : ev s x = some (.v (.int k a))) (hy : ev s y = some (.v (.int k b))) (hd : okDst Γ.n dst = true) : LS P Γ ⟨dst, .binOp .add xt x y yt, ty, pos, after, none⟩ s (rd x (rd y [])) (dst1 dst (.v (.int k r))) [] := by subst hr; exact ls_add hx hy hd
theorem ls_mulR {xt : TypeId} {x y : Operand} {k : IntKind} {a b r : Int} (hr : k.wrap (a * b) = r) (hx : ev s x = some (.v (.int k a))) (hy : ev s y = some (.v (.int k b))) (hd : okDst Γ.n dst = true) : LS P Γ ⟨dst, .binOp .mul xt x y yt, ty, pos, after, none⟩ s (rd x (rd y [])) (dst1 dst (.v (.int k r))) [] := by subst hr; exact ls_mul hx hy hd
theorem ls_quoR {xt : TypeId} {x y : Operand} {k : IntKind} {a b r : Int} (hr : k.wrap (a.tdiv b) = r) (hx : ev s x = some (.v (.int k a))) (hy : ev s y = some (.v (.int k b))) (hb : b ≠ 0) (hd : okDst Γ.n dst = true) : LS P Γ ⟨dst, .binOp .quo xt x y yt, ty, pos, after, none⟩ s (rd x (rd y [])) (dst1 dst (.v (.int k r))) [] :=
  ls_bin hx hy (fun w => by
    subst hr
    simp [eqGuard, binOp, Op.intDiv, hb]) rfl hd
theorem ls_remR {xt : TypeId} {x y : Operand} {k : IntKind} {a b r : Int} (hr : a.tmod b = r) (hx : ev s x = some (.v (.int k a))) (hy : ev s y = some (.v (.int k b))) (hb : b ≠ 0) (hd : okDst Γ.n dst = true) : LS P Γ ⟨dst, .binOp .rem xt x y yt, ty, pos, after, none⟩ s (rd x (rd y [])) (dst1 dst (.v (.int k r))) [] :=
  ls_bin hx hy (fun w => by
    subst hr
    simp [eqGuard, binOp, Op.intDiv, hb]) rfl hd
theorem ls_negR {xt : TypeId} {x : Operand} {k : IntKind} {a r : Int} (hr : k.wrap (0 - a) = r) (hx : ev s x = some (.v (.int k a))) (hd : okDst Γ.n dst = true) : LS P Γ ⟨dst, .unOp .neg xt x, ty, pos, after, none⟩ s (rd x []) (dst1 dst (.v (.int k r))) [] := by subst hr; exact ls_neg hx hd
theorem ls_idxR {x y : Operand} {t : Nat} {k : IntKind} {i : Int} {q c : Nat} {z : ByteArray} (hT : okTab P T = true) (hx : ev s x = some (.v (.string z))) (hy : ev s y = some (.v (.int k i))) (hty : nth T t = some .string) (hi : i = (q : Int)) (hq : q < z.size) (hc : z[q].toNat = c) (hd : okDst Γ.n dst = true) :
    LS P Γ ⟨dst, .index t x y, ty, pos, after, none⟩ s (rd x (rd y [])) (dst1 dst (.v (.int .u8 (c : Int)))) [] := by subst hc; exact ls_index_str hT hx hy hty hi hq hd
end
theorem or7 {a d : Nat} (hd : d < 128) (h : a * 128 + d < 18446744073709551616) : IntKind.u64.wrap (BitVec.ofInt IntKind.u64.bits ((a * 128 : Nat) : Int) ||| BitVec.ofInt IntKind.u64.bits (d : Int)).toNat = ((a * 128 + d : Nat) : Int) := by
  have e : (BitVec.ofInt 64 ((a * 128 : Nat) : Int) ||| BitVec.ofInt 64 (d : Int)).toNat = a * 128 + d := by
    rw [BitVec.ofInt_natCast, BitVec.ofInt_natCast, BitVec.toNat_or, BitVec.toNat_ofNat, BitVec.toNat_ofNat, Nat.mod_eq_of_lt (by omega), Nat.mod_eq_of_lt (by omega)]
    have := Nat.two_pow_add_eq_or_of_lt (i := 7) (b := d) (by omega) a
    rw [Nat.mul_comm a 128]
    exact this.symm
  show IntKind.u64.wrap ((BitVec.ofInt 64 ((a * 128 : Nat) : Int) ||| BitVec.ofInt 64 (d : Int)).toNat : Int) = _
  rw [e, IntKind.wrap_u64]
  omega
/-- a number read at a place -/
def vrd (most : Nat) (s : ByteArray) (i : Int) : Nat × Int × Int := if i < 0 ∨ (s.size : Int) < i then (0, 0, 1) else rdV most true 0 (s.data.toList.drop i.toNat) i.toNat
theorem drop_at {s : ByteArray} {i : Nat} (h : i < s.size) : s.data.toList.drop i = s[i] :: s.data.toList.drop (i + 1) := by
  have h2 : i < s.data.toList.length := by rw [Array.length_toList]; exact h
  rw [List.drop_eq_getElem_cons h2]
  rfl
theorem drop_end {s : ByteArray} {i : Nat} (h : ¬ i < s.size) : s.data.toList.drop i = [] := by
  apply List.drop_of_length_le
  rw [Array.length_toList]
  have : s.data.size = s.size := rfl
  omega
set_option maxHeartbeats 4000000 in
set_option maxRecDepth 20000 in
theorem v_read (most : Nat) (s : ByteArray) (i0 : Int) (hs : s.size ≤ 9223372036854775807) (hm : most < 18446744073709551616) (hm1 : 127 ≤ most) : PC Try.prog 36 [.v (.string s), .v (.int .i64 i0), .v (.int .u64 most)] (.tup [.v (.int .u64 (vrd most s i0).1), .v (.int .i64 (vrd most s i0).2.1), .v (.int .i64 (vrd most s i0).2.2)]) := by
  obtain ⟨R, hR⟩ : ∃ R, R = vrd most s i0 := ⟨_, rfl⟩
  rw [← hR]
  unfold vrd at hR
  by_cases hb0 : i0 < 0 ∨ (s.size : Int) < i0
  · rw [if_pos hb0] at hR
    subst hR
    refine PC.mk (ac_body tab_ok Try.func36 rfl (by kernel_rfl) rfl ?_); intro w0 M μ0; simp only [Try.ntmps36, List.length_cons, List.length_nil, Nat.reduceAdd, Nat.reduceSub, numb]
    repeat' (first | ((first | apply o_do | apply d_do | apply d_yes rfl rfl rfl); exact lsq) | refine a_seq ?_ | refine a_region ?_ | refine o_nil ?_ | refine a_block ?_ | refine a_ret ?_ | refine a_exit ?_ | refine a_skip ?_ | refine a_draw mixed ?_ | refine d_nil (by kernel_rfl) ?_ | refine o_yes rfl rfl rfl ?_ | refine o_no rfl rfl rfl (by decide) ?_ | refine o_no' rfl rfl rfl ?_ | refine a_condT rfl ?_ | refine a_condF rfl ?_ | refine d_no rfl rfl rfl (by decide) ?_ | refine d_no' rfl rfl rfl ?_ | (refine wq2 (fun hb => ?_) (fun hb => ?_) <;> (simp only [hb]; try simp only [hbs, ne_eq] at hb; try (exfalso; first | omega | exact hb trivial))) | fail)
    all_goals try (exfalso; omega)
    all_goals refine ⟨by first | exact .inr rfl | exact .inl rfl, _, rfl, ?_, by repeat' (first | exact trivial | refine ⟨⟨_, rfl, by first | rfl | (simp [renO, *]; done)⟩, by first | rfl | assumption, ?_⟩)⟩
    all_goals (first | refine FinA.tup ?_ | refine FinA.one ?_); repeat' (first | exact FinBs.nil | exact FinCs.nil | refine FinBs.cons ?_ ?_ | refine FinCs.cons ?_ ?_ | refine FinB.cell (FinC.v ?_) | refine FinB.cell (FinC.own rfl rfl rfl ?_) | exact FinB.cell FinC.nil | refine FinB.cell (FinC.sl ?_) | exact FinB.agg' rfl rfl | exact FinB.cell (FinC.same rfl) | refine FinB.agg ?_ | refine FinC.v ?_ | refine FinC.own rfl rfl rfl ?_ | exact FinC.nil | refine FinC.sl ?_ | exact FinC.same rfl); all_goals try rfl
  rw [if_neg hb0] at hR
  obtain ⟨at0, rfl⟩ : ∃ a : Nat, i0 = a := ⟨i0.toNat, by omega⟩
  rw [Int.toNat_natCast] at hR
  have hle : at0 ≤ s.size := by omega
  clear hb0
  refine PC.mk (ac_body tab_ok Try.func36 rfl (by kernel_rfl) rfl ?_); intro w0 M μ0; simp only [Try.ntmps36, List.length_cons, List.length_nil, Nat.reduceAdd, Nat.reduceSub, numb]
  repeat' (first | ((first | apply o_do | apply d_do | apply d_yes rfl rfl rfl); exact lsq) | refine a_seq ?_ | refine a_region ?_ | refine o_nil ?_ | refine a_block ?_ | refine a_ret ?_ | refine a_exit ?_ | refine a_skip ?_ | refine a_draw mixed ?_ | refine d_nil (by kernel_rfl) ?_ | refine o_yes rfl rfl rfl ?_ | refine o_no rfl rfl rfl (by decide) ?_ | refine o_no' rfl rfl rfl ?_ | refine a_condT rfl ?_ | refine a_condF rfl ?_ | refine d_no rfl rfl rfl (by decide) ?_ | refine d_no' rfl rfl rfl ?_ | (refine wq2 (fun hb => ?_) (fun hb => ?_) <;> (simp only [hb]; try simp only [hbs, ne_eq] at hb; try (exfalso; first | omega | exact hb trivial))) | fail)
  all_goals try (exfalso; omega)
  refine a_loop (X := {p : Nat × Nat // at0 ≤ p.2 ∧ p.2 ≤ s.size ∧ p.1 ≤ most ∧ R = rdV most (decide (p.2 = at0)) p.1 (s.data.toList.drop p.2) p.2}) (fun p => ⟨[(0, .v (.string s)), (1, .v (.int .i64 at0)), (2, .v (.int .u64 most)), (9, .v (.int .u64 p.1.1)), (10, .v (.int .i64 p.1.2))], []⟩) (fun p => s.size - p.1.2) ⟨(0, at0), Nat.le_refl _, hle, Nat.zero_le _, by simpa using hR⟩ ?_ ?_
  · refine ⟨by repeat' (first | exact trivial | exact FinA.one (FinB.cell (FinC.same rfl)) | exact FinA.one (FinB.cell FinC.nil) | exact FinA.bound rfl | exact FinA.one (FinB.cell (FinC.own rfl rfl rfl rfl)) | exact FinA.one (FinB.cell (FinC.v (by first | rfl | (simp)))) | exact FinA.one (FinB.cell (FinC.ow rfl (by first | rfl | (simp)))) | exact FinA.one (FinB.agg' rfl rfl) | refine ⟨⟨_, rfl, ?_⟩, ?_⟩), by repeat' (first | exact trivial | refine ⟨⟨_, rfl, by first | rfl | (simp; done) | (simp [renO, *]; done)⟩, by first | rfl | assumption, ?_⟩), rfl⟩
  clear hR hle
  rintro ⟨⟨n, i⟩, h1, h2, h3, hR⟩
  dsimp only at h1 h2 h3 hR ⊢
  by_cases hlt : i < s.size
  · rw [drop_at hlt] at hR
    have hc := s[i].toNat_lt
    obtain ⟨c, hcc⟩ : ∃ c, c = s[i].toNat := ⟨_, rfl⟩
    have hand := and127 c
    rw [u8_nat (by omega), show IntKind.u8.wrap (c : Int) = (c : Int) by rw [IntKind.wrap_u8]; omega] at hand
    unfold rdV at hR
    rw [← hcc] at hR hc
    have g1 : IntKind.u64.wrap ((c % 128 : Nat) : Int) = ((c % 128 : Nat) : Int) := by rw [IntKind.wrap_u64]; omega
    have g2 : IntKind.u64.wrap ((most : Int) - ((c % 128 : Nat) : Int)) = ((most - c % 128 : Nat) : Int) := by rw [IntKind.wrap_u64]; omega
    have g3 : (((most - c % 128 : Nat) : Int)).fdiv (2 ^ min (7 : Int).toNat IntKind.u64.bits) = (((most - c % 128) / 128 : Nat) : Int) := by
      have := shr7 (most - c % 128) 1 (by omega) (b := 7) (by omega)
      rw [Nat.pow_one] at this
      exact this
    by_cases hbad : (i = at0 ∧ c = 128) ∨ most < n * 128 + c % 128
    · rw [if_pos (by simpa using hbad)] at hR
      subst hR
      repeat' (first | ((first | apply o_do | apply d_do | apply d_yes rfl rfl rfl); first | exact ls_idxR (q := i) tab_ok rfl rfl rfl rfl hlt hcc.symm rfl | exact ls_and hand rfl rfl rfl | exact ls_convR tab_ok g1 rfl Try.underlying5 Try.underlying67 rfl | exact ls_subR g2 rfl rfl rfl | exact ls_shr g3 rfl rfl (by decide) rfl | exact lsq) | refine a_seq ?_ | refine a_region ?_ | refine o_nil ?_ | refine a_block ?_ | refine a_ret ?_ | refine a_exit ?_ | refine a_skip ?_ | refine a_draw mixed ?_ | refine d_nil (by kernel_rfl) ?_ | refine o_yes rfl rfl rfl ?_ | refine o_no rfl rfl rfl (by decide) ?_ | refine o_no' rfl rfl rfl ?_ | refine a_condT rfl ?_ | refine a_condF rfl ?_ | refine d_no rfl rfl rfl (by decide) ?_ | refine d_no' rfl rfl rfl ?_ | (refine wq2 (fun hb => ?_) (fun hb => ?_) <;> (simp only [hb]; try simp only [hbs, ne_eq] at hb; try (exfalso; first | omega | exact hb trivial))) | fail)
      all_goals try (exfalso; omega)
      all_goals refine ⟨by first | exact .inr rfl | exact .inl rfl, _, rfl, ?_, by repeat' (first | exact trivial | refine ⟨⟨_, rfl, by first | rfl | (simp [renO, *]; done)⟩, by first | rfl | assumption, ?_⟩)⟩
      all_goals (first | refine FinA.tup ?_ | refine FinA.one ?_); repeat' (first | exact FinBs.nil | exact FinCs.nil | refine FinBs.cons ?_ ?_ | refine FinCs.cons ?_ ?_ | refine FinB.cell (FinC.v ?_) | refine FinB.cell (FinC.own rfl rfl rfl ?_) | exact FinB.cell FinC.nil | refine FinB.cell (FinC.sl ?_) | exact FinB.agg' rfl rfl | exact FinB.cell (FinC.same rfl) | refine FinB.agg ?_ | refine FinC.v ?_ | refine FinC.own rfl rfl rfl ?_ | exact FinC.nil | refine FinC.sl ?_ | exact FinC.same rfl); all_goals try rfl
    · rw [if_neg (by simpa using hbad)] at hR
      have hle : n * 128 + c % 128 ≤ most := by omega
      have g4 : IntKind.u64.wrap ((n : Int) * 2 ^ min (7 : Int).toNat IntKind.u64.bits) = ((n * 128 : Nat) : Int) := by
        have e1 : min (7 : Int).toNat IntKind.u64.bits = 7 := by decide
        have e2 : (2 : Int) ^ 7 = 128 := by decide
        rw [e1, e2, IntKind.wrap_u64]; omega
      have g5 := or7 (a := n) (d := c % 128) (by omega) (by omega)
      by_cases hd : c < 128
      · rw [if_pos hd] at hR
        subst hR
        repeat' (first | ((first | apply o_do | apply d_do | apply d_yes rfl rfl rfl); first | exact ls_idxR (q := i) tab_ok rfl rfl rfl rfl hlt hcc.symm rfl | exact ls_and hand rfl rfl rfl | exact ls_convR tab_ok g1 rfl Try.underlying5 Try.underlying67 rfl | exact ls_subR g2 rfl rfl rfl | exact ls_shr g3 rfl rfl (by decide) rfl | exact ls_shl g4 rfl rfl (by decide) rfl | exact ls_or g5 rfl rfl rfl | exact lsq) | refine a_seq ?_ | refine a_region ?_ | refine o_nil ?_ | refine a_block ?_ | refine a_ret ?_ | refine a_exit ?_ | refine a_skip ?_ | refine a_draw mixed ?_ | refine d_nil (by kernel_rfl) ?_ | refine o_yes rfl rfl rfl ?_ | refine o_no rfl rfl rfl (by decide) ?_ | refine o_no' rfl rfl rfl ?_ | refine a_condT rfl ?_ | refine a_condF rfl ?_ | refine d_no rfl rfl rfl (by decide) ?_ | refine d_no' rfl rfl rfl ?_ | (refine wq2 (fun hb => ?_) (fun hb => ?_) <;> (simp only [hb]; try simp only [hbs, ne_eq] at hb; try (exfalso; first | omega | exact hb trivial))) | fail)
        all_goals try (exfalso; omega)
        all_goals refine ⟨by first | exact .inr rfl | exact .inl rfl, _, rfl, ?_, by repeat' (first | exact trivial | refine ⟨⟨_, rfl, by first | rfl | (simp [renO, *]; done)⟩, by first | rfl | assumption, ?_⟩)⟩
        all_goals (first | refine FinA.tup ?_ | refine FinA.one ?_); repeat' (first | exact FinBs.nil | exact FinCs.nil | refine FinBs.cons ?_ ?_ | refine FinCs.cons ?_ ?_ | refine FinB.cell (FinC.v ?_) | refine FinB.cell (FinC.own rfl rfl rfl ?_) | exact FinB.cell FinC.nil | refine FinB.cell (FinC.sl ?_) | exact FinB.agg' rfl rfl | exact FinB.cell (FinC.same rfl) | refine FinB.agg ?_ | refine FinC.v ?_ | refine FinC.own rfl rfl rfl ?_ | exact FinC.nil | refine FinC.sl ?_ | exact FinC.same rfl); all_goals try rfl
      · rw [if_neg hd] at hR
        repeat' (first | ((first | apply o_do | apply d_do | apply d_yes rfl rfl rfl); first | exact ls_idxR (q := i) tab_ok rfl rfl rfl rfl hlt hcc.symm rfl | exact ls_and hand rfl rfl rfl | exact ls_convR tab_ok g1 rfl Try.underlying5 Try.underlying67 rfl | exact ls_subR g2 rfl rfl rfl | exact ls_shr g3 rfl rfl (by decide) rfl | exact ls_shl g4 rfl rfl (by decide) rfl | exact ls_or g5 rfl rfl rfl | exact lsq) | refine a_seq ?_ | refine a_region ?_ | refine o_nil ?_ | refine a_block ?_ | refine a_ret ?_ | refine a_exit ?_ | refine a_skip ?_ | refine a_draw mixed ?_ | refine d_nil (by kernel_rfl) ?_ | refine o_yes rfl rfl rfl ?_ | refine o_no rfl rfl rfl (by decide) ?_ | refine o_no' rfl rfl rfl ?_ | refine a_condT rfl ?_ | refine a_condF rfl ?_ | refine d_no rfl rfl rfl (by decide) ?_ | refine d_no' rfl rfl rfl ?_ | (refine wq2 (fun hb => ?_) (fun hb => ?_) <;> (simp only [hb]; try simp only [hbs, ne_eq] at hb; try (exfalso; first | omega | exact hb trivial))) | fail)
        all_goals try (exfalso; omega)
        all_goals
          refine ⟨⟨(n * 128 + c % 128, i + 1), by dsimp only; omega, by dsimp only; omega, by dsimp only; omega, ?_⟩, by dsimp only; omega, ?_⟩
          · dsimp only
            rw [hR, decide_eq_false (by omega)]
          · refine ⟨by repeat' (first | exact trivial | exact FinA.one (FinB.cell (FinC.same rfl)) | exact FinA.one (FinB.cell FinC.nil) | exact FinA.bound rfl | exact FinA.one (FinB.cell (FinC.own rfl rfl rfl rfl)) | exact FinA.one (FinB.cell (FinC.v (by first | rfl | (simp)))) | exact FinA.one (FinB.cell (FinC.ow rfl (by first | rfl | (simp)))) | exact FinA.one (FinB.agg' rfl rfl) | refine ⟨⟨_, rfl, ?_⟩, ?_⟩), by repeat' (first | exact trivial | refine ⟨⟨_, rfl, by first | rfl | (simp; done) | (simp [renO, *]; done)⟩, by first | rfl | assumption, ?_⟩), rfl⟩
  · obtain rfl : i = s.size := by omega
    rw [drop_end hlt] at hR
    unfold rdV at hR
    subst hR
    repeat' (first | ((first | apply o_do | apply d_do | apply d_yes rfl rfl rfl); exact lsq) | refine a_seq ?_ | refine a_region ?_ | refine o_nil ?_ | refine a_block ?_ | refine a_ret ?_ | refine a_exit ?_ | refine a_skip ?_ | refine a_draw mixed ?_ | refine d_nil (by kernel_rfl) ?_ | refine o_yes rfl rfl rfl ?_ | refine o_no rfl rfl rfl (by decide) ?_ | refine o_no' rfl rfl rfl ?_ | refine a_condT rfl ?_ | refine a_condF rfl ?_ | refine d_no rfl rfl rfl (by decide) ?_ | refine d_no' rfl rfl rfl ?_ | (refine wq2 (fun hb => ?_) (fun hb => ?_) <;> (simp only [hb]; try simp only [hbs, ne_eq] at hb; try (exfalso; first | omega | exact hb trivial))) | fail)
    all_goals refine ⟨by first | exact .inr rfl | exact .inl rfl, _, rfl, ?_, by repeat' (first | exact trivial | refine ⟨⟨_, rfl, by first | rfl | (simp [renO, *]; done)⟩, by first | rfl | assumption, ?_⟩)⟩
    all_goals (first | refine FinA.tup ?_ | refine FinA.one ?_); repeat' (first | exact FinBs.nil | exact FinCs.nil | refine FinBs.cons ?_ ?_ | refine FinCs.cons ?_ ?_ | refine FinB.cell (FinC.v ?_) | refine FinB.cell (FinC.own rfl rfl rfl ?_) | exact FinB.cell FinC.nil | refine FinB.cell (FinC.sl ?_) | exact FinB.agg' rfl rfl | exact FinB.cell (FinC.same rfl) | refine FinB.agg ?_ | refine FinC.v ?_ | refine FinC.own rfl rfl rfl ?_ | exact FinC.nil | refine FinC.sl ?_ | exact FinC.same rfl); all_goals try rfl
end Go.Proofs.Ythlimflfglkpiaa
