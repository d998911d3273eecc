/-
  The reference's reading of jobs, walked over abstract values: a beginning, a number.
  The reference's reading of jobs, walked over abstract values: a number.
  The reference's reading of jobs, walked over abstract values: a number.
  The reference's reading of jobs, walked over abstract values: a number made small.
  The reference's reading of jobs: a beginning and a number, each as a plain function.
  The reference's reading of jobs: a number as a plain function.
-/
import Derived.Test.YtbhblhcgfenobaaGreatDoorK4
import Derived.Test.YtbhblhcgfenobaaGreatDoorK6
import Derived.Test.YtbhblhcgfenobaaGreatDoorK8
namespace Go.Proofs.YtbhblhcgfenobaaGreatDoor
open Go.RowKit
set_option linter.unusedSimpArgs false
set_option linter.unusedVariables false
theorem size_list (s : ByteArray) : s.data.toList.length = s.size := Array.length_toList
theorem ext_pre {s : ByteArray} {l r : List UInt8} (h : s.data.toList = l ++ r) : s.extract 0 l.length = mkB l := by
  apply bytes_ext2
  rw [ext_take, h, mkB_list]; exact List.take_left
theorem ext_post {s : ByteArray} {l r : List UInt8} (h : s.data.toList = l ++ r) : s.extract l.length s.size = mkB r := by
  apply bytes_ext2
  rw [ext_drop, h, mkB_list]; exact List.drop_left
theorem p_afterY (s b : ByteArray) (r : List UInt8) (h : s.data.toList = b.data.toList ++ r) (hs : Sm s) : PC Tryz.prog 106 [.v (.string s), .v (.string b)] (.tup [.v (.string (mkB r)), .v (.bool true)]) := by
  have hx := ext_pre h
  have hy := ext_post h
  rw [size_list, mkB_self] at hx
  rw [size_list] at hy
  have hsz : s.size = b.size + r.length := by rw [← size_list, h, List.length_append, size_list]
  refine PC.mk (ac_body tab_ok Tryz.func106 rfl (by kernel_rfl) rfl ?_); intro w0 M μ0; simp only [Tryz.ntmps106, List.length_cons, List.length_nil, Nat.reduceAdd, Nat.reduceSub, numb]
  repeat' (first | ((first | apply o_do | apply d_do | apply d_yes rfl rfl rfl); first | exact ls_strTo (n := b.size) tab_ok rfl rfl rfl rfl (by omega) rfl | exact ls_strFrom (n := b.size) tab_ok rfl rfl rfl rfl (by omega) rfl | exact lsq) | refine a_seq ?_ | refine a_region ?_ | refine o_nil ?_ | refine a_block ?_ | refine a_ret ?_ | refine a_exit ?_ | refine a_skip ?_ | refine a_draw mixed ?_ | refine d_nil (by kernel_rfl) ?_ | refine o_yes rfl rfl rfl ?_ | refine o_no rfl rfl rfl (by decide) ?_ | refine o_no' rfl rfl rfl ?_ | refine a_condT rfl ?_ | refine a_condF rfl ?_ | refine d_no rfl rfl rfl (by decide) ?_ | refine d_no' rfl rfl rfl ?_ | (refine wq2 (fun hb => ?_) (fun hb => ?_) <;> (simp only [hb]; try simp only [hbs, ne_eq] at hb; try (exfalso; first | omega | exact hb trivial))) | fail)
  all_goals try (exfalso; rw [hx] at hb; simp at hb; done)
  all_goals refine rq rfl ?_
  all_goals (first | refine FinA.tup ?_ | refine FinA.one ?_); repeat' (first | exact FinBs.nil | exact FinCs.nil | refine FinBs.cons ?_ ?_ | refine FinCs.cons ?_ ?_ | refine FinB.cell (FinC.v ?_) | refine FinB.cell (FinC.own rfl rfl rfl ?_) | exact FinB.cell FinC.nil | refine FinB.cell (FinC.sl ?_) | exact FinB.agg' rfl rfl | exact FinB.cell (FinC.same rfl) | refine FinB.agg ?_ | refine FinC.v ?_ | refine FinC.own rfl rfl rfl ?_ | exact FinC.nil | refine FinC.sl ?_ | exact FinC.same rfl); all_goals try rfl
  all_goals rw [hy]
theorem p_afterN (s b : ByteArray) (h : ¬ ∃ r, s.data.toList = b.data.toList ++ r) (hs : Sm s) : PC Tryz.prog 106 [.v (.string s), .v (.string b)] (.tup [.v (.string s), .v (.bool false)]) := by
  by_cases hl : s.size < b.size
  · refine PC.mk (ac_body tab_ok Tryz.func106 rfl (by kernel_rfl) rfl ?_); intro w0 M μ0; simp only [Tryz.ntmps106, List.length_cons, List.length_nil, Nat.reduceAdd, Nat.reduceSub, numb]
    repeat' (first | ((first | apply o_do | apply d_do | apply d_yes rfl rfl rfl); exact lsq) | refine a_seq ?_ | refine a_region ?_ | refine o_nil ?_ | refine a_block ?_ | refine a_ret ?_ | refine a_exit ?_ | refine a_skip ?_ | refine a_draw mixed ?_ | refine d_nil (by kernel_rfl) ?_ | refine o_yes rfl rfl rfl ?_ | refine o_no rfl rfl rfl (by decide) ?_ | refine o_no' rfl rfl rfl ?_ | refine a_condT rfl ?_ | refine a_condF rfl ?_ | refine d_no rfl rfl rfl (by decide) ?_ | refine d_no' rfl rfl rfl ?_ | (refine wq2 (fun hb => ?_) (fun hb => ?_) <;> (simp only [hb]; try simp only [hbs, ne_eq] at hb; try (exfalso; first | omega | exact hb trivial))) | fail)
    all_goals refine rq rfl ?_
    all_goals exact fnq
  · have hx : ((s.extract 0 b.size).toList == b.toList) = false := by
      cases hq : ((s.extract 0 b.size).toList == b.toList)
      · rfl
      · exfalso
        have e := bytes_ext (by simpa using hq : (s.extract 0 b.size).toList = b.toList)
        refine h ⟨s.data.toList.drop b.size, ?_⟩
        have e2 : b.data.toList = s.data.toList.take b.size := by rw [← ext_take, e]
        rw [e2, List.take_append_drop]
    refine PC.mk (ac_body tab_ok Tryz.func106 rfl (by kernel_rfl) rfl ?_); intro w0 M μ0; simp only [Tryz.ntmps106, List.length_cons, List.length_nil, Nat.reduceAdd, Nat.reduceSub, numb]
    repeat' (first | ((first | apply o_do | apply d_do | apply d_yes rfl rfl rfl); first | exact ls_strTo (n := b.size) tab_ok rfl rfl rfl rfl (by omega) rfl | exact ls_strFrom (n := b.size) tab_ok rfl rfl rfl rfl (by omega) rfl | exact lsq) | refine a_seq ?_ | refine a_region ?_ | refine o_nil ?_ | refine a_block ?_ | refine a_ret ?_ | refine a_exit ?_ | refine a_skip ?_ | refine a_draw mixed ?_ | refine d_nil (by kernel_rfl) ?_ | refine o_yes rfl rfl rfl ?_ | refine o_no rfl rfl rfl (by decide) ?_ | refine o_no' rfl rfl rfl ?_ | refine a_condT rfl ?_ | refine a_condF rfl ?_ | refine d_no rfl rfl rfl (by decide) ?_ | refine d_no' rfl rfl rfl ?_ | (refine wq2 (fun hb => ?_) (fun hb => ?_) <;> (simp only [hb]; try simp only [hbs, ne_eq] at hb; try (exfalso; first | omega | exact hb trivial))) | fail)
    all_goals try (exfalso; rw [hx] at hb; simp at hb; done)
    all_goals refine rq rfl ?_
    all_goals exact fnq
def maxB : ByteArray := ⟨#[57, 50, 50, 51, 51, 55, 50, 48, 51, 54, 56, 53, 52, 55, 55, 53, 56, 48, 55]⟩
/-- the first digits, and what stands behind them -/
structure Dg (s : ByteArray) (d r : List UInt8) : Prop where
  eq : s.data.toList = d ++ r
  dig : ∀ c ∈ d, isD c = true
  stop : ∀ c t, r = c :: t → isD c = false
theorem dg_list : ∀ l : List UInt8, ∃ d r, l = d ++ r ∧ (∀ c ∈ d, isD c = true) ∧ ∀ c t, r = c :: t → isD c = false
  | [] => ⟨[], [], rfl, by simp, by simp⟩
  | c :: l => by
    cases hc : isD c
    · exact ⟨[], c :: l, rfl, by simp, fun a t h => by injection h with h1 _; rw [← h1]; exact hc⟩
    · obtain ⟨d, r, h1, h2, h3⟩ := dg_list l
      refine ⟨c :: d, r, by rw [h1]; rfl, fun a ha => ?_, h3⟩
      rcases List.mem_cons.1 ha with rfl | ha
      · exact hc
      · exact h2 a ha
theorem dg_ex (s : ByteArray) : ∃ d r, Dg s d r := by
  obtain ⟨d, r, h1, h2, h3⟩ := dg_list s.data.toList
  exact ⟨d, r, h1, h2, h3⟩
/-- no number of int64 -/
def badN (d : List UInt8) : Prop := d = [] ∨ (1 < d.length ∧ d.head? = some 48) ∨ 19 < d.length ∨ (d.length = 19 ∧ Op.bytesLess maxB.data.toList d = true)
theorem Dg.at_ {s : ByteArray} {d r : List UInt8} (h : Dg s d r) {q : Nat} (hq : q < d.length) : ∃ hs : q < s.size, s[q] = d[q] := by
  have hsz : q < s.size := by rw [← size_list, h.eq, List.length_append]; omega
  refine ⟨hsz, ?_⟩
  have h1 : s.data.toList[q]? = some d[q] := by rw [h.eq, List.getElem?_append_left hq, List.getElem?_eq_getElem hq]
  rw [List.getElem?_eq_getElem (by rw [size_list]; exact hsz)] at h1
  injection h1 with h1
theorem Dg.end_ {s : ByteArray} {d r : List UInt8} (h : Dg s d r) : s.size = d.length ∨ ∃ hs : d.length < s.size, isD s[d.length] = false := by
  cases r with
  | nil => left; rw [← size_list, h.eq]; simp
  | cons c t =>
    right
    have hsz : d.length < s.size := by rw [← size_list, h.eq]; simp
    refine ⟨hsz, ?_⟩
    have h1 : s.data.toList[d.length]? = some c := by rw [h.eq]; simp
    rw [List.getElem?_eq_getElem (by rw [size_list]; exact hsz)] at h1
    injection h1 with h1
    have : s[d.length] = c := by rw [← h1]; rfl
    rw [this]; exact h.stop c t rfl
end Go.Proofs.YtbhblhcgfenobaaGreatDoor
namespace Go.Proofs.YtbhblhcgfenobaaGreatDoor
open Go.RowKit
set_option linter.unusedSimpArgs false
set_option linter.unusedVariables false
theorem maxB_dig : ∀ c ∈ maxB.data.toList, isD c = true := by decide
theorem maxB_val : valF 0 maxB.data.toList = 9223372036854775807 := by decide
theorem val_inj : ∀ (a b : List UInt8), a.length = b.length → (∀ c ∈ a, isD c = true) → (∀ c ∈ b, isD c = true) → valF 0 a = valF 0 b → a = b
  | [], [], _, _, _, _ => rfl
  | [], b :: l, h, _, _, _ => by simp at h
  | a :: l, [], h, _, _, _ => by simp at h
  | a :: l, b :: m, h, ha, hb, he => by
    have hl : l.length = m.length := by simpa using h
    have h1 := isD_iff.1 (ha a (by simp))
    have h2 := isD_iff.1 (hb b (by simp))
    have l1 := valF_lt l fun c hc => ha c (by simp [hc])
    have l2 := valF_lt m fun c hc => hb c (by simp [hc])
    have e1 : valF 0 (a :: l) = (0 * 10 + (a.toNat - 48)) * 10 ^ l.length + valF 0 l := valF_acc l _
    have e2 : valF 0 (b :: m) = (0 * 10 + (b.toNat - 48)) * 10 ^ l.length + valF 0 m := by rw [hl]; exact valF_acc m _
    rw [← hl] at l2
    rw [e1, e2] at he
    have hab : a.toNat = b.toNat := by
      generalize 10 ^ l.length = K at *
      rcases Nat.lt_trichotomy a.toNat b.toNat with hc | hc | hc
      · have : (0 * 10 + (a.toNat - 48) + 1) * K ≤ (0 * 10 + (b.toNat - 48)) * K := Nat.mul_le_mul_right _ (by omega)
        rw [Nat.add_mul] at this
        omega
      · exact hc
      · have : (0 * 10 + (b.toNat - 48) + 1) * K ≤ (0 * 10 + (a.toNat - 48)) * K := Nat.mul_le_mul_right _ (by omega)
        rw [Nat.add_mul] at this
        omega
    rw [hab] at he
    have := val_inj l m hl (fun c hc => ha c (by simp [hc])) (fun c hc => hb c (by simp [hc])) (by omega)
    rw [this, UInt8.toNat_inj.1 hab]
theorem gtr_max {d : List UInt8} (h : ∀ c ∈ d, isD c = true) (hl : d.length = 19) : (Op.bytesLess d maxB.data.toList || d == maxB.data.toList) = !(Op.bytesLess maxB.data.toList d) := by
  have hlen : maxB.data.toList.length = d.length := by rw [hl]; rfl
  have h1 := less_val maxB.data.toList d hlen maxB_dig h
  have h2 := less_val d maxB.data.toList hlen.symm h maxB_dig
  rcases Nat.lt_trichotomy (valF 0 maxB.data.toList) (valF 0 d) with hc | hc | hc
  · rw [h1.2 hc]
    have e1 : Op.bytesLess d maxB.data.toList = false := by
      cases hq : Op.bytesLess d maxB.data.toList
      · rfl
      · have := h2.1 hq; omega
    have e2 : (d == maxB.data.toList) = false := by
      cases hq : d == maxB.data.toList
      · rfl
      · have : d = maxB.data.toList := by simpa using hq
        rw [this] at hc; omega
    rw [e1, e2]; rfl
  · have e1 : Op.bytesLess maxB.data.toList d = false := by
      cases hq : Op.bytesLess maxB.data.toList d
      · rfl
      · have := h1.1 hq; omega
    have e2 : d = maxB.data.toList := (val_inj _ _ hlen maxB_dig h hc).symm
    rw [e1]
    have e3 : (d == maxB.data.toList) = true := by rw [e2]; exact beq_self_eq_true _
    rw [e3]; simp
  · have e1 : Op.bytesLess maxB.data.toList d = false := by
      cases hq : Op.bytesLess maxB.data.toList d
      · rfl
      · have := h1.1 hq; omega
    rw [e1, h2.2 hc]; rfl
/-- what is no bad row spells a number of int64 -/
theorem good_le {d : List UInt8} (h : ∀ c ∈ d, isD c = true) (hb : ¬ badN d) : valF 0 d ≤ 9223372036854775807 := by
  unfold badN at hb
  have h1 := valF_lt d h
  by_cases hl : d.length = 19
  · have := less_val maxB.data.toList d (by rw [hl]; rfl) maxB_dig h
    rw [maxB_val] at this
    have h2 : ¬ (Op.bytesLess maxB.data.toList d = true) := fun h => hb (.inr (.inr (.inr ⟨hl, h⟩)))
    rw [this] at h2
    omega
  · have h3 : d.length ≤ 18 := by
      have : ¬ 19 < d.length := fun h => hb (.inr (.inr (.inl h)))
      omega
    have h4 : 10 ^ d.length ≤ 10 ^ 18 := Nat.pow_le_pow_right (by decide) h3
    have h5 : (10 : Nat) ^ 18 = 1000000000000000000 := by decide
    omega
/-- how the number's test goes -/
def badC (s : ByteArray) (d : List UInt8) : Prop := d.length = 0 ∨ (d.length ≠ 0 ∧ 1 < d.length ∧ d.head? = some 48) ∨ (d.length ≠ 0 ∧ ¬ (1 < d.length ∧ d.head? = some 48) ∧ 19 < d.length) ∨ (d.length ≠ 0 ∧ ¬ (1 < d.length ∧ d.head? = some 48) ∧ ¬ 19 < d.length ∧ d.length = 19 ∧ Op.bytesLess maxB.data.toList d = true)
theorem bad_c {s : ByteArray} {d : List UInt8} (h : badN d) : badC s d := by
  unfold badN at h
  unfold badC
  by_cases h0 : d.length = 0
  · exact .inl h0
  · have hn : d ≠ [] := fun e => h0 (by rw [e]; rfl)
    by_cases h1 : 1 < d.length ∧ d.head? = some 48
    · exact .inr (.inl ⟨h0, h1⟩)
    · by_cases h2 : 19 < d.length
      · exact .inr (.inr (.inl ⟨h0, h1, h2⟩))
      · rcases h with h | h | h | h
        · exact absurd h hn
        · exact absurd h h1
        · exact absurd h h2
        · exact .inr (.inr (.inr ⟨h0, h1, h2, h⟩))
theorem head_at {d : List UInt8} (h : 0 < d.length) : d.head? = some d[0] := by
  cases d with
  | nil => simp at h
  | cons a t => rfl
theorem a_brk {P : Program} {Γ : Ctx} {c y : Code} {next : ASt → Prop} {Q1 Q2 : Exit → ASt → Prop} {s : ASt} (S1 : ASt) (h : AWP P Γ c (fun e s' => e = .exit 0 ∧ Weak Γ s' S1) s) (hy : AWP P Γ y Q1 S1) :
    AWP P Γ c (AThen next (AInBlock 0 (AThen (AWP P Γ y Q1) Q2))) s :=
  h.mono fun e s' ⟨he, hw⟩ => by subst he; exact a_weak hw hy
set_option maxHeartbeats 8000000 in
set_option maxRecDepth 20000 in
theorem p_NumN (s : ByteArray) (d r : List UInt8) (hD : Dg s d r) (hb0 : badN d) (hs : Sm s) : PC Tryz.prog 89 [.v (.string s)] (.tup [.v (.int .i64 0), .v (.string s), .v (.bool false)]) := by
  have hsz : s.size = d.length + r.length := by rw [← size_list, hD.eq, List.length_append]
  have hx := ext_pre hD.eq
  have hend := hD.end_
  have hbad : d.length = 0 ∨ (∃ h : 0 < s.size, d.length ≠ 0 ∧ ((1 < d.length ∧ (s[0].toNat : Int) = 48) ∨ ((d.length ≤ 1 ∨ ¬ (s[0].toNat : Int) = 48) ∧ (19 < d.length ∨ (d.length = 19 ∧ (Op.bytesLess (s.extract 0 d.length).toList maxB.toList || (s.extract 0 d.length).toList == maxB.toList) = false))))) := by
    rcases bad_c (s := s) hb0 with h | h
    · exact .inl h
    · right
      have h0 : d.length ≠ 0 := by rcases h with h | h | h <;> exact h.1
      obtain ⟨s0, e0⟩ := hD.at_ (q := 0) (by omega)
      have hhead : d.head? = some 48 ↔ (s[0].toNat : Int) = 48 := by
        rw [head_at (by omega), ← e0]
        constructor
        · intro h; injection h with h; rw [h]; rfl
        · intro h
          congr 1
          have e3 : UInt8.ofNat s[0].toNat = UInt8.ofNat 48 := by rw [show s[0].toNat = 48 by omega]
          rw [UInt8.ofNat_toNat] at e3; exact e3
      refine ⟨s0, h0, ?_⟩
      rcases h with ⟨_, h1, h2⟩ | ⟨_, h1, h2⟩ | ⟨_, h1, _, h2, h3⟩
      · exact .inl ⟨h1, hhead.1 h2⟩
      · refine .inr ⟨?_, .inl h2⟩
        by_cases h4 : 1 < d.length
        · exact .inr fun h => h1 ⟨h4, hhead.2 h⟩
        · exact .inl (by omega)
      · refine .inr ⟨?_, .inr ⟨h2, by rw [hx, ByteArray.toList_eq, ByteArray.toList_eq, mkB_list, gtr_max hD.dig h2, h3]; rfl⟩⟩
        by_cases h4 : 1 < d.length
        · exact .inr fun h => h1 ⟨h4, hhead.2 h⟩
        · exact .inl (by omega)
  have hv : s.size = d.length ∨ ∃ hs : d.length < s.size, (s[d.length].toNat < 48 ∨ 57 < s[d.length].toNat) := by
    rcases hend with h | ⟨h, h2⟩
    · exact .inl h
    · refine .inr ⟨h, ?_⟩
      have : ¬ (48 ≤ s[d.length].toNat ∧ s[d.length].toNat ≤ 57) := fun h3 => by rw [isD_iff.2 h3] at h2; cases h2
      omega
  unfold Sm at hs
  unfold maxB at hbad
  refine PC.mk (ac_body tab_ok Tryz.func89 rfl (by kernel_rfl) rfl ?_); intro w0 M μ0; simp only [Tryz.ntmps89, List.length_cons, List.length_nil, Nat.reduceAdd, Nat.reduceSub, numb]
  repeat' (first | ((first | apply o_do | apply d_do | apply d_yes rfl rfl rfl); exact lsq) | refine a_seq ?_ | refine a_region ?_ | refine o_nil ?_ | refine a_block ?_ | refine a_ret ?_ | refine a_exit ?_ | refine a_skip ?_ | refine a_draw mixed ?_ | refine d_nil (by kernel_rfl) ?_ | refine o_yes rfl rfl rfl ?_ | refine o_no rfl rfl rfl (by decide) ?_ | refine o_no' rfl rfl rfl ?_ | refine a_condT rfl ?_ | refine a_condF rfl ?_ | refine d_no rfl rfl rfl (by decide) ?_ | refine d_no' rfl rfl rfl ?_ | (refine wq2 (fun hb => ?_) (fun hb => ?_) <;> (simp only [hb]; try simp only [hbs, ne_eq] at hb; try (exfalso; first | omega | exact hb trivial))) | fail)
  refine a_loop (X := {q : Nat // q ≤ d.length}) (fun p => ⟨[(0, .v (.string s)), (5, .v (.int .i64 p.1))], []⟩) (fun p => d.length - p.1) ⟨0, Nat.zero_le _⟩ ?_ ?_
  · exact wkS
  rintro ⟨q, hq⟩
  dsimp only
  by_cases hlt : q < d.length
  · obtain ⟨hqs, hqe⟩ := hD.at_ hlt
    have hdg := isD_iff.1 (hD.dig d[q] (List.getElem_mem hlt))
    rw [← hqe] at hdg
    repeat' (first | ((first | apply o_do | apply d_do | apply d_yes rfl rfl rfl); first | exact ls_index_str (q := q) tab_ok rfl rfl rfl rfl hqs rfl | exact lsq) | refine a_seq ?_ | refine a_region ?_ | refine o_nil ?_ | refine a_block ?_ | refine a_ret ?_ | refine a_exit ?_ | refine a_skip ?_ | refine a_draw mixed ?_ | refine d_nil (by kernel_rfl) ?_ | refine o_yes rfl rfl rfl ?_ | refine o_no rfl rfl rfl (by decide) ?_ | refine o_no' rfl rfl rfl ?_ | refine a_condT rfl ?_ | refine a_condF rfl ?_ | refine d_no rfl rfl rfl (by decide) ?_ | refine d_no' rfl rfl rfl ?_ | (refine wq2 (fun hb => ?_) (fun hb => ?_) <;> (simp only [hb]; try simp only [hbs, ne_eq] at hb; try (exfalso; first | omega | exact hb trivial))) | fail)
    refine ⟨⟨q + 1, by omega⟩, by dsimp only; omega, ?_⟩
    exact wkS
  · obtain rfl : q = d.length := by omega
    refine a_brk ⟨[(0, .v (.string s)), (5, .v (.int .i64 d.length))], []⟩ ?_ ?_
    · rcases hv with he | ⟨he, hv⟩
      all_goals
        repeat' (first | ((first | apply o_do | apply d_do | apply d_yes rfl rfl rfl); first | exact ls_index_str (q := d.length) tab_ok rfl rfl rfl rfl he rfl | exact lsq) | refine a_seq ?_ | refine a_region ?_ | refine o_nil ?_ | refine a_block ?_ | refine a_ret ?_ | refine a_exit ?_ | refine a_skip ?_ | refine a_draw mixed ?_ | refine d_nil (by kernel_rfl) ?_ | refine o_yes rfl rfl rfl ?_ | refine o_no rfl rfl rfl (by decide) ?_ | refine o_no' rfl rfl rfl ?_ | refine a_condT rfl ?_ | refine a_condF rfl ?_ | refine d_no rfl rfl rfl (by decide) ?_ | refine d_no' rfl rfl rfl ?_ | (refine wq2 (fun hb => ?_) (fun hb => ?_) <;> (simp only [hb]; try simp only [hbs, ne_eq] at hb; try (exfalso; first | omega | exact hb trivial))) | fail)
        all_goals refine ⟨rfl, ?_⟩
        all_goals exact wkS
    rcases hbad with hb1 | ⟨s0, hn0, ⟨hb1, hb2⟩ | ⟨hb3, hb4 | ⟨h19, hL⟩⟩⟩
    all_goals
      repeat' (first | ((first | apply o_do | apply d_do | apply d_yes rfl rfl rfl); first | exact ls_index_str (q := 0) tab_ok rfl rfl rfl rfl s0 rfl | exact ls_strTo (n := d.length) tab_ok rfl rfl rfl rfl (by omega) rfl | exact lsq) | refine a_seq ?_ | refine a_region ?_ | refine o_nil ?_ | refine a_block ?_ | refine a_ret ?_ | refine a_exit ?_ | refine a_skip ?_ | refine a_draw mixed ?_ | refine d_nil (by kernel_rfl) ?_ | refine o_yes rfl rfl rfl ?_ | refine o_no rfl rfl rfl (by decide) ?_ | refine o_no' rfl rfl rfl ?_ | refine a_condT rfl ?_ | refine a_condF rfl ?_ | refine d_no rfl rfl rfl (by decide) ?_ | refine d_no' rfl rfl rfl ?_ | (refine wq2 (fun hb => ?_) (fun hb => ?_) <;> (simp only [hb]; try simp only [hbs, ne_eq] at hb; try (exfalso; first | omega | exact hb trivial))) | fail)
      all_goals try (exfalso; rw [hL] at hb; cases hb; done)
      all_goals refine rq rfl ?_
      all_goals exact fnq
end Go.Proofs.YtbhblhcgfenobaaGreatDoor
namespace Go.Proofs.YtbhblhcgfenobaaGreatDoor
open Go.RowKit
set_option linter.unusedSimpArgs false
set_option linter.unusedVariables false
theorem step_val (v t c : Nat) (h1 : 48 ≤ c) (h2 : c ≤ 57) (ht : t = v * 10 + (c - 48)) (hle : t ≤ 9223372036854775807) :
    IntKind.i64.wrap (IntKind.i64.wrap (10 * (v : Int)) + IntKind.i64.wrap (IntKind.u8.wrap ((c : Int) - 48))) = (t : Int) := by
  simp only [IntKind.wrap_u8, IntKind.wrap_i64]
  omega
set_option maxHeartbeats 8000000 in
set_option maxRecDepth 20000 in
theorem p_NumY (s : ByteArray) (d r : List UInt8) (hD : Dg s d r) (hb : ¬ badN d) (hs : Sm s) : PC Tryz.prog 89 [.v (.string s)] (.tup [.v (.int .i64 (valF 0 d : Nat)), .v (.string (mkB r)), .v (.bool true)]) := by
  have hM := good_le hD.dig hb
  unfold badN at hb
  have n0 : d.length ≠ 0 := fun e => hb (.inl (List.eq_nil_of_length_eq_zero e))
  have n1 : ¬ (1 < d.length ∧ d.head? = some 48) := fun e => hb (.inr (.inl e))
  have n2 : ¬ 19 < d.length := fun e => hb (.inr (.inr (.inl e)))
  have hsz : s.size = d.length + r.length := by rw [← size_list, hD.eq, List.length_append]
  have hx := ext_pre hD.eq
  have hy := ext_post hD.eq
  obtain ⟨s0, e0⟩ := hD.at_ (q := 0) (by omega)
  have n3 : 1 < d.length → ¬ ((s[0].toNat : Int) = 48) := by
    intro h1 h2
    have : s[0].toNat = 48 := by omega
    refine n1 ⟨h1, ?_⟩
    rw [head_at (by omega), ← e0]
    congr 1
    have e3 : UInt8.ofNat s[0].toNat = UInt8.ofNat 48 := by rw [this]
    rw [UInt8.ofNat_toNat] at e3; exact e3
  have n4 : d.length = 19 → (Op.bytesLess (mkB d).toList maxB.toList || (mkB d).toList == maxB.toList) = true := by
    intro h
    rw [ByteArray.toList_eq, ByteArray.toList_eq, mkB_list, gtr_max hD.dig h]
    cases hq : Op.bytesLess maxB.data.toList d
    · rfl
    · exact absurd (.inr (.inr (.inr ⟨h, hq⟩))) hb
  have hend := hD.end_
  unfold Sm at hs
  refine PC.mk (ac_body tab_ok Tryz.func89 rfl (by kernel_rfl) rfl ?_); intro w0 M μ0; simp only [Tryz.ntmps89, List.length_cons, List.length_nil, Nat.reduceAdd, Nat.reduceSub, numb]
  repeat' (first | ((first | apply o_do | apply d_do | apply d_yes rfl rfl rfl); exact lsq) | refine a_seq ?_ | refine a_region ?_ | refine o_nil ?_ | refine a_block ?_ | refine a_ret ?_ | refine a_exit ?_ | refine a_skip ?_ | refine a_draw mixed ?_ | refine d_nil (by kernel_rfl) ?_ | refine o_yes rfl rfl rfl ?_ | refine o_no rfl rfl rfl (by decide) ?_ | refine o_no' rfl rfl rfl ?_ | refine a_condT rfl ?_ | refine a_condF rfl ?_ | refine d_no rfl rfl rfl (by decide) ?_ | refine d_no' rfl rfl rfl ?_ | (refine wq2 (fun hb => ?_) (fun hb => ?_) <;> (simp only [hb]; try simp only [hbs, ne_eq] at hb; try (exfalso; first | omega | exact hb trivial))) | fail)
  refine a_loop (X := {q : Nat // q ≤ d.length}) (fun p => ⟨[(0, .v (.string s)), (5, .v (.int .i64 p.1))], []⟩) (fun p => d.length - p.1) ⟨0, Nat.zero_le _⟩ ?_ ?_
  · exact wkS
  rintro ⟨q, hq⟩
  dsimp only
  by_cases hlt : q < d.length
  · obtain ⟨hqs, hqe⟩ := hD.at_ hlt
    have hdg := isD_iff.1 (hD.dig d[q] (List.getElem_mem hlt))
    rw [← hqe] at hdg
    repeat' (first | ((first | apply o_do | apply d_do | apply d_yes rfl rfl rfl); first | exact ls_index_str (q := q) tab_ok rfl rfl rfl rfl hqs rfl | exact lsq) | refine a_seq ?_ | refine a_region ?_ | refine o_nil ?_ | refine a_block ?_ | refine a_ret ?_ | refine a_exit ?_ | refine a_skip ?_ | refine a_draw mixed ?_ | refine d_nil (by kernel_rfl) ?_ | refine o_yes rfl rfl rfl ?_ | refine o_no rfl rfl rfl (by decide) ?_ | refine o_no' rfl rfl rfl ?_ | refine a_condT rfl ?_ | refine a_condF rfl ?_ | refine d_no rfl rfl rfl (by decide) ?_ | refine d_no' rfl rfl rfl ?_ | (refine wq2 (fun hb => ?_) (fun hb => ?_) <;> (simp only [hb]; try simp only [hbs, ne_eq] at hb; try (exfalso; first | omega | exact hb trivial))) | fail)
    refine ⟨⟨q + 1, by omega⟩, by dsimp only; omega, ?_⟩
    exact wkS
  · obtain rfl : q = d.length := by omega
    have hv : s.size = d.length ∨ ∃ hs : d.length < s.size, (s[d.length].toNat < 48 ∨ 57 < s[d.length].toNat) := by
      rcases hend with h | ⟨h, h2⟩
      · exact .inl h
      · refine .inr ⟨h, ?_⟩
        have : ¬ (48 ≤ s[d.length].toNat ∧ s[d.length].toNat ≤ 57) := fun h3 => by rw [isD_iff.2 h3] at h2; cases h2
        omega
    have hn3 : d.length ≤ 1 ∨ ¬ ((s[0].toNat : Int) = 48) := by
      by_cases h1 : 1 < d.length
      · exact .inr (n3 h1)
      · exact .inl (by omega)
    rw [← hx] at n4
    unfold maxB at n4
    obtain ⟨D, hDD⟩ : ∃ D, s.extract 0 d.length = D := ⟨_, rfl⟩
    have hDg : Dg D d [] := ⟨by rw [← hDD, hx, mkB_list, List.append_nil], hD.dig, fun _ _ h => nomatch h⟩
    refine a_brk ⟨[(0, .v (.string s)), (5, .v (.int .i64 d.length))], []⟩ ?_ ?_
    · rcases hv with he | ⟨he, hv⟩
      all_goals
        repeat' (first | ((first | apply o_do | apply d_do | apply d_yes rfl rfl rfl); first | exact ls_index_str (q := d.length) tab_ok rfl rfl rfl rfl he rfl | exact lsq) | refine a_seq ?_ | refine a_region ?_ | refine o_nil ?_ | refine a_block ?_ | refine a_ret ?_ | refine a_exit ?_ | refine a_skip ?_ | refine a_draw mixed ?_ | refine d_nil (by kernel_rfl) ?_ | refine o_yes rfl rfl rfl ?_ | refine o_no rfl rfl rfl (by decide) ?_ | refine o_no' rfl rfl rfl ?_ | refine a_condT rfl ?_ | refine a_condF rfl ?_ | refine d_no rfl rfl rfl (by decide) ?_ | refine d_no' rfl rfl rfl ?_ | (refine wq2 (fun hb => ?_) (fun hb => ?_) <;> (simp only [hb]; try simp only [hbs, ne_eq] at hb; try (exfalso; first | omega | exact hb trivial))) | fail)
        all_goals refine ⟨rfl, ?_⟩
        all_goals exact wkS
    by_cases h19 : d.length = 19
    all_goals
      first
        | have hL := n4 h19
        | skip
      repeat' (first | ((first | apply o_do | apply d_do | apply d_yes rfl rfl rfl); first | exact ls_index_str (q := 0) tab_ok rfl rfl rfl rfl s0 rfl | exact ls_strTo (n := d.length) tab_ok rfl rfl rfl rfl (by omega) rfl | exact lsq) | refine a_seq ?_ | refine a_region ?_ | refine o_nil ?_ | refine a_block ?_ | refine a_ret ?_ | refine a_exit ?_ | refine a_skip ?_ | refine a_draw mixed ?_ | refine d_nil (by kernel_rfl) ?_ | refine o_yes rfl rfl rfl ?_ | refine o_no rfl rfl rfl (by decide) ?_ | refine o_no' rfl rfl rfl ?_ | refine a_condT rfl ?_ | refine a_condF rfl ?_ | refine d_no rfl rfl rfl (by decide) ?_ | refine d_no' rfl rfl rfl ?_ | (refine wq2 (fun hb => ?_) (fun hb => ?_) <;> (simp only [hb]; try simp only [hbs, ne_eq] at hb; try (exfalso; first | omega | exact hb trivial))) | fail)
      all_goals try (exfalso; rw [hL] at hb; cases hb; done)
      all_goals try (exfalso; first | omega | (exact n0 (Int.ofNat.inj hb); done) | (have hb' := hb; simp only [hDD] at hb'; simp only [hDD] at hL; rw [hL] at hb'; cases hb'; done) | (rw [hb] at hL; cases hL; done))
      all_goals
        refine a_loop (X := {k : Nat // k ≤ d.length}) (fun p => ⟨[(0, .v (.string s)), (5, .v (.int .i64 d.length)), (6, .v (.string D)), (7, .v (.int .i64 (valF 0 (d.take p.1) : Nat))), (8, .v (.int .i64 p.1))], []⟩) (fun p => d.length - p.1) ⟨0, Nat.zero_le _⟩ ?_ ?_
        · refine ⟨by repeat' (first | exact trivial | exact FinA.one (FinB.cell (FinC.same rfl)) | exact FinA.one (FinB.cell FinC.nil) | exact FinA.bound rfl | exact FinA.one (FinB.cell (FinC.own rfl rfl rfl rfl)) | exact FinA.one (FinB.cell (FinC.v (by first | rfl | ((first | (simp only [hDD]; done) | (simp [valF]; done) | simp))))) | exact FinA.one (FinB.cell (FinC.ow rfl (by first | rfl | ((first | (simp only [hDD]; done) | (simp [valF]; done) | simp))))) | exact FinA.one (FinB.agg' rfl rfl) | refine ⟨⟨_, rfl, ?_⟩, ?_⟩), by repeat' (first | exact trivial | refine ⟨⟨_, rfl, by first | rfl | ((first | (simp only [hDD]; done) | (simp [valF]; done) | simp); done) | (simp [renO, *]; done)⟩, by first | rfl | assumption, ?_⟩), rfl⟩
        rintro ⟨k, hk⟩
        dsimp only
        by_cases hkl : k < d.length
        · obtain ⟨hks, hke⟩ := hDg.at_ hkl
          have hdg := isD_iff.1 (hD.dig d[k] (List.getElem_mem hkl))
          rw [← hke] at hdg
          have ht : valF 0 (d.take (k + 1)) = valF 0 (d.take k) * 10 + (D[k].toNat - 48) := by
            rw [List.take_succ_eq_append_getElem hkl, valF_snoc, hke]
          have hle : valF 0 (d.take (k + 1)) ≤ valF 0 d := by
            have h1 := valF_app 0 (d.take (k + 1)) (d.drop (k + 1))
            rw [List.take_append_drop] at h1
            rw [h1]; exact valF_ge _ _
          have hval : IntKind.i64.wrap (IntKind.i64.wrap (10 * ((valF 0 (d.take k) : Nat) : Int)) + IntKind.i64.wrap (IntKind.u8.wrap ((D[k].toNat : Int) - 48))) = ((valF 0 (d.take (k + 1)) : Nat) : Int) :=
            step_val _ _ _ hdg.1 hdg.2 ht (Nat.le_trans hle hM)
          repeat' (first | ((first | apply o_do | apply d_do | apply d_yes rfl rfl rfl); first | exact ls_index_str (q := k) tab_ok rfl rfl rfl rfl hks rfl | exact ls_conv tab_ok rfl Tryz.underlying5 Tryz.underlying2 rfl | exact lsq) | refine a_seq ?_ | refine a_region ?_ | refine o_nil ?_ | refine a_block ?_ | refine a_ret ?_ | refine a_exit ?_ | refine a_skip ?_ | refine a_draw mixed ?_ | refine d_nil (by kernel_rfl) ?_ | refine o_yes rfl rfl rfl ?_ | refine o_no rfl rfl rfl (by decide) ?_ | refine o_no' rfl rfl rfl ?_ | refine a_condT rfl ?_ | refine a_condF rfl ?_ | refine d_no rfl rfl rfl (by decide) ?_ | refine d_no' rfl rfl rfl ?_ | (refine wq2 (fun hb => ?_) (fun hb => ?_) <;> (simp only [hb]; try simp only [hbs, ne_eq] at hb; try (exfalso; first | omega | exact hb trivial))) | fail)
          refine ⟨⟨k + 1, by omega⟩, by dsimp only; omega, ?_⟩
          refine ⟨by repeat' (first | exact trivial | exact FinA.one (FinB.cell (FinC.same rfl)) | exact FinA.one (FinB.cell FinC.nil) | exact FinA.bound rfl | exact FinA.one (FinB.cell (FinC.own rfl rfl rfl rfl)) | exact FinA.one (FinB.cell (FinC.v (by first | rfl | ((first | (simp only [hval]; done) | simp))))) | exact FinA.one (FinB.cell (FinC.ow rfl (by first | rfl | ((first | (simp only [hval]; done) | simp))))) | exact FinA.one (FinB.agg' rfl rfl) | refine ⟨⟨_, rfl, ?_⟩, ?_⟩), by repeat' (first | exact trivial | refine ⟨⟨_, rfl, by first | rfl | ((first | (simp only [hval]; done) | simp); done) | (simp [renO, *]; done)⟩, by first | rfl | assumption, ?_⟩), rfl⟩
        · obtain rfl : k = d.length := by omega
          rw [List.take_length]
          repeat' (first | ((first | apply o_do | apply d_do | apply d_yes rfl rfl rfl); first | exact ls_strFrom (n := d.length) tab_ok rfl rfl rfl rfl (by omega) rfl | exact lsq) | refine a_seq ?_ | refine a_region ?_ | refine o_nil ?_ | refine a_block ?_ | refine a_ret ?_ | refine a_exit ?_ | refine a_skip ?_ | refine a_draw mixed ?_ | refine d_nil (by kernel_rfl) ?_ | refine o_yes rfl rfl rfl ?_ | refine o_no rfl rfl rfl (by decide) ?_ | refine o_no' rfl rfl rfl ?_ | refine a_condT rfl ?_ | refine a_condF rfl ?_ | refine d_no rfl rfl rfl (by decide) ?_ | refine d_no' rfl rfl rfl ?_ | (refine wq2 (fun hb => ?_) (fun hb => ?_) <;> (simp only [hb]; try simp only [hbs, ne_eq] at hb; try (exfalso; first | omega | exact hb trivial))) | fail)
          all_goals refine rq rfl ?_
          all_goals (first | refine FinA.tup ?_ | refine FinA.one ?_); repeat' (first | exact FinBs.nil | exact FinCs.nil | refine FinBs.cons ?_ ?_ | refine FinCs.cons ?_ ?_ | refine FinB.cell (FinC.v ?_) | refine FinB.cell (FinC.own rfl rfl rfl ?_) | exact FinB.cell FinC.nil | refine FinB.cell (FinC.sl ?_) | exact FinB.agg' rfl rfl | exact FinB.cell (FinC.same rfl) | refine FinB.agg ?_ | refine FinC.v ?_ | refine FinC.own rfl rfl rfl ?_ | exact FinC.nil | refine FinC.sl ?_ | exact FinC.same rfl); all_goals try rfl
          all_goals rw [hy]
end Go.Proofs.YtbhblhcgfenobaaGreatDoor
namespace Go.Proofs.YtbhblhcgfenobaaGreatDoor
open Go.RowKit
set_option linter.unusedSimpArgs false
set_option linter.unusedVariables false
theorem p_rSmall (n : Int) : PC Tryz.prog 83 [.v (.int .i64 n)] (.v (.int .i64 (smallV n))) := by
  by_cases h : 1073741824 < n
  all_goals
    have hs : smallV n = if 1073741824 < n then 1073741824 else n := by unfold smallV; split <;> omega
    simp only [h, if_true, if_false] at hs
    rw [hs]
    refine PC.mk (ac_body tab_ok Tryz.func83 rfl (by kernel_rfl) rfl ?_); intro w0 M μ0; simp only [Tryz.ntmps83, List.length_cons, List.length_nil, Nat.reduceAdd, Nat.reduceSub, numb]
    repeat' (first | ((first | apply o_do | apply d_do | apply d_yes rfl rfl rfl); exact lsq) | refine a_seq ?_ | refine a_region ?_ | refine o_nil ?_ | refine a_block ?_ | refine a_ret ?_ | refine a_exit ?_ | refine a_skip ?_ | refine a_draw mixed ?_ | refine d_nil (by kernel_rfl) ?_ | refine o_yes rfl rfl rfl ?_ | refine o_no rfl rfl rfl (by decide) ?_ | refine o_no' rfl rfl rfl ?_ | refine a_condT rfl ?_ | refine a_condF rfl ?_ | refine d_no rfl rfl rfl (by decide) ?_ | refine d_no' rfl rfl rfl ?_ | (refine wq2 (fun hb => ?_) (fun hb => ?_) <;> (simp only [hb]; try simp only [hbs, ne_eq] at hb; try (exfalso; first | omega | exact hb trivial))) | fail)
    all_goals refine rq rfl ?_
    all_goals exact fnq
end Go.Proofs.YtbhblhcgfenobaaGreatDoor
namespace Go.Proofs.YtbhblhcgfenobaaGreatDoor
open Go.RowKit
set_option linter.unusedSimpArgs false
set_option linter.unusedVariables false
open Classical in
noncomputable def aftS (s b : ByteArray) : ByteArray × Bool := if h : ∃ r, s.data.toList = b.data.toList ++ r then (mkB (Classical.choose h), true) else (s, false)
theorem aftS_yes {s b : ByteArray} {r : List UInt8} (h : s.data.toList = b.data.toList ++ r) : aftS s b = (mkB r, true) := by
  have hx : ∃ r, s.data.toList = b.data.toList ++ r := ⟨r, h⟩
  have e2 : r = Classical.choose hx := List.append_cancel_left (h.symm.trans (Classical.choose_spec hx))
  unfold aftS
  rw [dif_pos hx, ← e2]
theorem aftS_no {s b : ByteArray} (h : ¬ ∃ r, s.data.toList = b.data.toList ++ r) : aftS s b = (s, false) := by
  unfold aftS; rw [dif_neg h]
theorem p_after (s b : ByteArray) (hs : Sm s) : PC Tryz.prog 106 [.v (.string s), .v (.string b)] (.tup [.v (.string (aftS s b).1), .v (.bool (aftS s b).2)]) := by
  by_cases h : ∃ r, s.data.toList = b.data.toList ++ r
  · obtain ⟨r, h⟩ := h
    rw [aftS_yes h]; exact p_afterY s b r h hs
  · rw [aftS_no h]; exact p_afterN s b h hs
theorem aftS_sm {s b : ByteArray} (hs : Sm s) : Sm (aftS s b).1 := by
  by_cases h : ∃ r, s.data.toList = b.data.toList ++ r
  · obtain ⟨r, h⟩ := h
    rw [aftS_yes h]
    have : (mkB r).size ≤ s.size := by rw [← size_list, ← size_list, h, mkB_list, List.length_append]; omega
    unfold Sm at *; dsimp only; omega
  · rw [aftS_no h]; exact hs
end Go.Proofs.YtbhblhcgfenobaaGreatDoor
namespace Go.Proofs.YtbhblhcgfenobaaGreatDoor
open Go.RowKit
set_option linter.unusedSimpArgs false
set_option linter.unusedVariables false
noncomputable def dgD (s : ByteArray) : List UInt8 := Classical.choose (dg_ex s)
noncomputable def dgR (s : ByteArray) : List UInt8 := Classical.choose (Classical.choose_spec (dg_ex s))
theorem dg_of (s : ByteArray) : Dg s (dgD s) (dgR s) := Classical.choose_spec (Classical.choose_spec (dg_ex s))
open Classical in
noncomputable def numS (s : ByteArray) : Int × ByteArray × Bool := if badN (dgD s) then (0, s, false) else (((valF 0 (dgD s) : Nat) : Int), mkB (dgR s), true)
theorem p_Number (s : ByteArray) (hs : Sm s) : PC Tryz.prog 89 [.v (.string s)] (.tup [.v (.int .i64 (numS s).1), .v (.string (numS s).2.1), .v (.bool (numS s).2.2)]) := by
  by_cases h : badN (dgD s)
  · have e : numS s = (0, s, false) := by unfold numS; rw [if_pos h]
    rw [e]; exact p_NumN s _ _ (dg_of s) h hs
  · have e : numS s = (((valF 0 (dgD s) : Nat) : Int), mkB (dgR s), true) := by unfold numS; rw [if_neg h]
    rw [e]; exact p_NumY s _ _ (dg_of s) h hs
theorem numS_sm {s : ByteArray} (hs : Sm s) : Sm (numS s).2.1 := by
  unfold numS
  split
  · exact hs
  · have : (mkB (dgR s)).size ≤ s.size := by rw [← size_list, ← size_list, (dg_of s).eq, mkB_list, List.length_append]; omega
    unfold Sm at *; dsimp only; omega
end Go.Proofs.YtbhblhcgfenobaaGreatDoor
