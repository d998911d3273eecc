/-
  The reference's reading of jobs, walked over abstract values: a number.
-/
import Derived.Test.YthlimflfglkpiaaDoorJrA
namespace Go.Proofs.YthlimflfglkpiaaDoor
open Go.RowKit
set_option linter.unusedSimpArgs false
set_option linter.unusedVariables false
theorem maxB_dig : ∀ c ∈ maxB.data.toList, isD c = true := by decide
theorem maxB_val : valF 0 maxB.data.toList = 9223372036854775807 := by decide
theorem val_inj : ∀ (a b : List UInt8), a.length = b.length → (∀ c ∈ a, isD c = true) → (∀ c ∈ b, isD c = true) → valF 0 a = valF 0 b → a = b
  | [], [], _, _, _, _ => rfl
  | [], b :: l, h, _, _, _ => by simp at h
  | a :: l, [], h, _, _, _ => by simp at h
  | a :: l, b :: m, h, ha, hb, he => by
    have hl : l.length = m.length := by simpa using h
    have h1 := isD_iff.1 (ha a (by simp))
    have h2 := isD_iff.1 (hb b (by simp))
    have l1 := valF_lt l fun c hc => ha c (by simp [hc])
    have l2 := valF_lt m fun c hc => hb c (by simp [hc])
    have e1 : valF 0 (a :: l) = (0 * 10 + (a.toNat - 48)) * 10 ^ l.length + valF 0 l := valF_acc l _
    have e2 : valF 0 (b :: m) = (0 * 10 + (b.toNat - 48)) * 10 ^ l.length + valF 0 m := by rw [hl]; exact valF_acc m _
    rw [← hl] at l2
    rw [e1, e2] at he
    have hab : a.toNat = b.toNat := by
      generalize 10 ^ l.length = K at *
      rcases Nat.lt_trichotomy a.toNat b.toNat with hc | hc | hc
      · have : (0 * 10 + (a.toNat - 48) + 1) * K ≤ (0 * 10 + (b.toNat - 48)) * K := Nat.mul_le_mul_right _ (by omega)
        rw [Nat.add_mul] at this
        omega
      · exact hc
      · have : (0 * 10 + (b.toNat - 48) + 1) * K ≤ (0 * 10 + (a.toNat - 48)) * K := Nat.mul_le_mul_right _ (by omega)
        rw [Nat.add_mul] at this
        omega
    rw [hab] at he
    have := val_inj l m hl (fun c hc => ha c (by simp [hc])) (fun c hc => hb c (by simp [hc])) (by omega)
    rw [this, UInt8.toNat_inj.1 hab]
theorem gtr_max {d : List UInt8} (h : ∀ c ∈ d, isD c = true) (hl : d.length = 19) : (Op.bytesLess d maxB.data.toList || d == maxB.data.toList) = !(Op.bytesLess maxB.data.toList d) := by
  have hlen : maxB.data.toList.length = d.length := by rw [hl]; rfl
  have h1 := less_val maxB.data.toList d hlen maxB_dig h
  have h2 := less_val d maxB.data.toList hlen.symm h maxB_dig
  rcases Nat.lt_trichotomy (valF 0 maxB.data.toList) (valF 0 d) with hc | hc | hc
  · rw [h1.2 hc]
    have e1 : Op.bytesLess d maxB.data.toList = false := by
      cases hq : Op.bytesLess d maxB.data.toList
      · rfl
      · have := h2.1 hq; omega
    have e2 : (d == maxB.data.toList) = false := by
      cases hq : d == maxB.data.toList
      · rfl
      · have : d = maxB.data.toList := by simpa using hq
        rw [this] at hc; omega
    rw [e1, e2]; rfl
  · have e1 : Op.bytesLess maxB.data.toList d = false := by
      cases hq : Op.bytesLess maxB.data.toList d
      · rfl
      · have := h1.1 hq; omega
    have e2 : d = maxB.data.toList := (val_inj _ _ hlen maxB_dig h hc).symm
    rw [e1]
    have e3 : (d == maxB.data.toList) = true := by rw [e2]; exact beq_self_eq_true _
    rw [e3]; simp
  · have e1 : Op.bytesLess maxB.data.toList d = false := by
      cases hq : Op.bytesLess maxB.data.toList d
      · rfl
      · have := h1.1 hq; omega
    rw [e1, h2.2 hc]; rfl
/-- what is no bad row spells a number of int64 -/
theorem good_le {d : List UInt8} (h : ∀ c ∈ d, isD c = true) (hb : ¬ badN d) : valF 0 d ≤ 9223372036854775807 := by
  unfold badN at hb
  have h1 := valF_lt d h
  by_cases hl : d.length = 19
  · have := less_val maxB.data.toList d (by rw [hl]; rfl) maxB_dig h
    rw [maxB_val] at this
    have h2 : ¬ (Op.bytesLess maxB.data.toList d = true) := fun h => hb (.inr (.inr (.inr ⟨hl, h⟩)))
    rw [this] at h2
    omega
  · have h3 : d.length ≤ 18 := by
      have : ¬ 19 < d.length := fun h => hb (.inr (.inr (.inl h)))
      omega
    have h4 : 10 ^ d.length ≤ 10 ^ 18 := Nat.pow_le_pow_right (by decide) h3
    have h5 : (10 : Nat) ^ 18 = 1000000000000000000 := by decide
    omega
/-- how the number's test goes -/
def badC (s : ByteArray) (d : List UInt8) : Prop := d.length = 0 ∨ (d.length ≠ 0 ∧ 1 < d.length ∧ d.head? = some 48) ∨ (d.length ≠ 0 ∧ ¬ (1 < d.length ∧ d.head? = some 48) ∧ 19 < d.length) ∨ (d.length ≠ 0 ∧ ¬ (1 < d.length ∧ d.head? = some 48) ∧ ¬ 19 < d.length ∧ d.length = 19 ∧ Op.bytesLess maxB.data.toList d = true)
theorem bad_c {s : ByteArray} {d : List UInt8} (h : badN d) : badC s d := by
  unfold badN at h
  unfold badC
  by_cases h0 : d.length = 0
  · exact .inl h0
  · have hn : d ≠ [] := fun e => h0 (by rw [e]; rfl)
    by_cases h1 : 1 < d.length ∧ d.head? = some 48
    · exact .inr (.inl ⟨h0, h1⟩)
    · by_cases h2 : 19 < d.length
      · exact .inr (.inr (.inl ⟨h0, h1, h2⟩))
      · rcases h with h | h | h | h
        · exact absurd h hn
        · exact absurd h h1
        · exact absurd h h2
        · exact .inr (.inr (.inr ⟨h0, h1, h2, h⟩))
theorem head_at {d : List UInt8} (h : 0 < d.length) : d.head? = some d[0] := by
  cases d with
  | nil => simp at h
  | cons a t => rfl
theorem a_brk {P : Program} {Γ : Ctx} {c y : Code} {next : ASt → Prop} {Q1 Q2 : Exit → ASt → Prop} {s : ASt} (S1 : ASt) (h : AWP P Γ c (fun e s' => e = .exit 0 ∧ Weak Γ s' S1) s) (hy : AWP P Γ y Q1 S1) :
    AWP P Γ c (AThen next (AInBlock 0 (AThen (AWP P Γ y Q1) Q2))) s :=
  h.mono fun e s' ⟨he, hw⟩ => by subst he; exact a_weak hw hy
set_option maxHeartbeats 8000000 in
set_option maxRecDepth 20000 in
theorem p_NumN (s : ByteArray) (d r : List UInt8) (hD : Dg s d r) (hb0 : badN d) (hs : Sm s) : PC Tryd.prog 67 [.v (.string s)] (.tup [.v (.int .i64 0), .v (.string s), .v (.bool false)]) := by
  have hsz : s.size = d.length + r.length := by rw [← size_list, hD.eq, List.length_append]
  have hx := ext_pre hD.eq
  have hend := hD.end_
  have hbad : d.length = 0 ∨ (∃ h : 0 < s.size, d.length ≠ 0 ∧ ((1 < d.length ∧ (s[0].toNat : Int) = 48) ∨ ((d.length ≤ 1 ∨ ¬ (s[0].toNat : Int) = 48) ∧ (19 < d.length ∨ (d.length = 19 ∧ (Op.bytesLess (s.extract 0 d.length).toList maxB.toList || (s.extract 0 d.length).toList == maxB.toList) = false))))) := by
    rcases bad_c (s := s) hb0 with h | h
    · exact .inl h
    · right
      have h0 : d.length ≠ 0 := by rcases h with h | h | h <;> exact h.1
      obtain ⟨s0, e0⟩ := hD.at_ (q := 0) (by omega)
      have hhead : d.head? = some 48 ↔ (s[0].toNat : Int) = 48 := by
        rw [head_at (by omega), ← e0]
        constructor
        · intro h; injection h with h; rw [h]; rfl
        · intro h
          congr 1
          have e3 : UInt8.ofNat s[0].toNat = UInt8.ofNat 48 := by rw [show s[0].toNat = 48 by omega]
          rw [UInt8.ofNat_toNat] at e3; exact e3
      refine ⟨s0, h0, ?_⟩
      rcases h with ⟨_, h1, h2⟩ | ⟨_, h1, h2⟩ | ⟨_, h1, _, h2, h3⟩
      · exact .inl ⟨h1, hhead.1 h2⟩
      · refine .inr ⟨?_, .inl h2⟩
        by_cases h4 : 1 < d.length
        · exact .inr fun h => h1 ⟨h4, hhead.2 h⟩
        · exact .inl (by omega)
      · refine .inr ⟨?_, .inr ⟨h2, by rw [hx, ByteArray.toList_eq, ByteArray.toList_eq, mkB_list, gtr_max hD.dig h2, h3]; rfl⟩⟩
        by_cases h4 : 1 < d.length
        · exact .inr fun h => h1 ⟨h4, hhead.2 h⟩
        · exact .inl (by omega)
  have hv : s.size = d.length ∨ ∃ hs : d.length < s.size, (s[d.length].toNat < 48 ∨ 57 < s[d.length].toNat) := by
    rcases hend with h | ⟨h, h2⟩
    · exact .inl h
    · refine .inr ⟨h, ?_⟩
      have : ¬ (48 ≤ s[d.length].toNat ∧ s[d.length].toNat ≤ 57) := fun h3 => by rw [isD_iff.2 h3] at h2; cases h2
      omega
  unfold Sm at hs
  unfold maxB at hbad
  refine PC.mk (ac_body tab_ok Tryd.func67 rfl (by kernel_rfl) rfl ?_); intro w0 M μ0; simp only [Tryd.ntmps67, List.length_cons, List.length_nil, Nat.reduceAdd, Nat.reduceSub, numb]
  repeat' (first | ((first | apply o_do | apply d_do | apply d_yes rfl rfl rfl); exact lsq) | refine a_seq ?_ | refine a_region ?_ | refine o_nil ?_ | refine a_block ?_ | refine a_ret ?_ | refine a_exit ?_ | refine a_skip ?_ | refine a_draw mixed ?_ | refine d_nil (by kernel_rfl) ?_ | refine o_yes rfl rfl rfl ?_ | refine o_no rfl rfl rfl (by decide) ?_ | refine o_no' rfl rfl rfl ?_ | refine a_condT rfl ?_ | refine a_condF rfl ?_ | refine d_no rfl rfl rfl (by decide) ?_ | refine d_no' rfl rfl rfl ?_ | (refine wq2 (fun hb => ?_) (fun hb => ?_) <;> (simp only [hb]; try simp only [hbs, ne_eq] at hb; try (exfalso; first | omega | exact hb trivial))) | fail)
  refine a_loop (X := {q : Nat // q ≤ d.length}) (fun p => ⟨[(0, .v (.string s)), (5, .v (.int .i64 p.1))], []⟩) (fun p => d.length - p.1) ⟨0, Nat.zero_le _⟩ ?_ ?_
  · refine ⟨by repeat' (first | exact trivial | exact FinA.one (FinB.cell (FinC.same rfl)) | exact FinA.one (FinB.cell FinC.nil) | exact FinA.bound rfl | exact FinA.one (FinB.cell (FinC.own rfl rfl rfl rfl)) | exact FinA.one (FinB.cell (FinC.v (by first | rfl | (simp)))) | exact FinA.one (FinB.cell (FinC.ow rfl (by first | rfl | (simp)))) | exact FinA.one (FinB.agg' rfl rfl) | refine ⟨⟨_, rfl, ?_⟩, ?_⟩), by repeat' (first | exact trivial | refine ⟨⟨_, rfl, by first | rfl | (simp; done) | (simp [renO, *]; done)⟩, by first | rfl | assumption, ?_⟩), rfl⟩
  rintro ⟨q, hq⟩
  dsimp only
  by_cases hlt : q < d.length
  · obtain ⟨hqs, hqe⟩ := hD.at_ hlt
    have hdg := isD_iff.1 (hD.dig d[q] (List.getElem_mem hlt))
    rw [← hqe] at hdg
    repeat' (first | ((first | apply o_do | apply d_do | apply d_yes rfl rfl rfl); first | exact ls_index_str (q := q) tab_ok rfl rfl rfl rfl hqs rfl | exact lsq) | refine a_seq ?_ | refine a_region ?_ | refine o_nil ?_ | refine a_block ?_ | refine a_ret ?_ | refine a_exit ?_ | refine a_skip ?_ | refine a_draw mixed ?_ | refine d_nil (by kernel_rfl) ?_ | refine o_yes rfl rfl rfl ?_ | refine o_no rfl rfl rfl (by decide) ?_ | refine o_no' rfl rfl rfl ?_ | refine a_condT rfl ?_ | refine a_condF rfl ?_ | refine d_no rfl rfl rfl (by decide) ?_ | refine d_no' rfl rfl rfl ?_ | (refine wq2 (fun hb => ?_) (fun hb => ?_) <;> (simp only [hb]; try simp only [hbs, ne_eq] at hb; try (exfalso; first | omega | exact hb trivial))) | fail)
    refine ⟨⟨q + 1, by omega⟩, by dsimp only; omega, ?_⟩
    refine ⟨by repeat' (first | exact trivial | exact FinA.one (FinB.cell (FinC.same rfl)) | exact FinA.one (FinB.cell FinC.nil) | exact FinA.bound rfl | exact FinA.one (FinB.cell (FinC.own rfl rfl rfl rfl)) | exact FinA.one (FinB.cell (FinC.v (by first | rfl | (simp)))) | exact FinA.one (FinB.cell (FinC.ow rfl (by first | rfl | (simp)))) | exact FinA.one (FinB.agg' rfl rfl) | refine ⟨⟨_, rfl, ?_⟩, ?_⟩), by repeat' (first | exact trivial | refine ⟨⟨_, rfl, by first | rfl | (simp; done) | (simp [renO, *]; done)⟩, by first | rfl | assumption, ?_⟩), rfl⟩
  · obtain rfl : q = d.length := by omega
    refine a_brk ⟨[(0, .v (.string s)), (5, .v (.int .i64 d.length))], []⟩ ?_ ?_
    · rcases hv with he | ⟨he, hv⟩
      all_goals
        repeat' (first | ((first | apply o_do | apply d_do | apply d_yes rfl rfl rfl); first | exact ls_index_str (q := d.length) tab_ok rfl rfl rfl rfl he rfl | exact lsq) | refine a_seq ?_ | refine a_region ?_ | refine o_nil ?_ | refine a_block ?_ | refine a_ret ?_ | refine a_exit ?_ | refine a_skip ?_ | refine a_draw mixed ?_ | refine d_nil (by kernel_rfl) ?_ | refine o_yes rfl rfl rfl ?_ | refine o_no rfl rfl rfl (by decide) ?_ | refine o_no' rfl rfl rfl ?_ | refine a_condT rfl ?_ | refine a_condF rfl ?_ | refine d_no rfl rfl rfl (by decide) ?_ | refine d_no' rfl rfl rfl ?_ | (refine wq2 (fun hb => ?_) (fun hb => ?_) <;> (simp only [hb]; try simp only [hbs, ne_eq] at hb; try (exfalso; first | omega | exact hb trivial))) | fail)
        all_goals refine ⟨rfl, ?_⟩
        all_goals refine ⟨by repeat' (first | exact trivial | exact FinA.one (FinB.cell (FinC.same rfl)) | exact FinA.one (FinB.cell FinC.nil) | exact FinA.bound rfl | exact FinA.one (FinB.cell (FinC.own rfl rfl rfl rfl)) | exact FinA.one (FinB.cell (FinC.v (by first | rfl | (simp)))) | exact FinA.one (FinB.cell (FinC.ow rfl (by first | rfl | (simp)))) | exact FinA.one (FinB.agg' rfl rfl) | refine ⟨⟨_, rfl, ?_⟩, ?_⟩), by repeat' (first | exact trivial | refine ⟨⟨_, rfl, by first | rfl | (simp; done) | (simp [renO, *]; done)⟩, by first | rfl | assumption, ?_⟩), rfl⟩
    rcases hbad with hb1 | ⟨s0, hn0, ⟨hb1, hb2⟩ | ⟨hb3, hb4 | ⟨h19, hL⟩⟩⟩
    all_goals
      repeat' (first | ((first | apply o_do | apply d_do | apply d_yes rfl rfl rfl); first | exact ls_index_str (q := 0) tab_ok rfl rfl rfl rfl s0 rfl | exact ls_strTo (n := d.length) tab_ok rfl rfl rfl rfl (by omega) rfl | exact lsq) | refine a_seq ?_ | refine a_region ?_ | refine o_nil ?_ | refine a_block ?_ | refine a_ret ?_ | refine a_exit ?_ | refine a_skip ?_ | refine a_draw mixed ?_ | refine d_nil (by kernel_rfl) ?_ | refine o_yes rfl rfl rfl ?_ | refine o_no rfl rfl rfl (by decide) ?_ | refine o_no' rfl rfl rfl ?_ | refine a_condT rfl ?_ | refine a_condF rfl ?_ | refine d_no rfl rfl rfl (by decide) ?_ | refine d_no' rfl rfl rfl ?_ | (refine wq2 (fun hb => ?_) (fun hb => ?_) <;> (simp only [hb]; try simp only [hbs, ne_eq] at hb; try (exfalso; first | omega | exact hb trivial))) | fail)
      all_goals try (exfalso; rw [hL] at hb; cases hb; done)
      all_goals refine ⟨by first | exact .inr rfl | exact .inl rfl, _, rfl, ?_, by repeat' (first | exact trivial | refine ⟨⟨_, rfl, by first | rfl | (simp [renO, *]; done)⟩, by first | rfl | assumption, ?_⟩)⟩
      all_goals (first | refine FinA.tup ?_ | refine FinA.one ?_); repeat' (first | exact FinBs.nil | exact FinCs.nil | refine FinBs.cons ?_ ?_ | refine FinCs.cons ?_ ?_ | refine FinB.cell (FinC.v ?_) | refine FinB.cell (FinC.own rfl rfl rfl ?_) | exact FinB.cell FinC.nil | refine FinB.cell (FinC.sl ?_) | exact FinB.agg' rfl rfl | exact FinB.cell (FinC.same rfl) | refine FinB.agg ?_ | refine FinC.v ?_ | refine FinC.own rfl rfl rfl ?_ | exact FinC.nil | refine FinC.sl ?_ | exact FinC.same rfl); all_goals try rfl
end Go.Proofs.YthlimflfglkpiaaDoor
