/-
  Jobs, walked over abstract values: a text read.
  Jobs' text in plain words: what is written is read again; what is read, written, is the text. Plain.
  Jobs' text in plain words: a job's text is read as that job; a text that is read is the job's. Plain.
  Jobs' text in plain words: a text that is read is the job's.
  Numbers by their first digits: which rows of digits are a number's own. Plain.
  Walks over abstract values: a text sliced; an integer turned to another kind. Over whatever program. No condition.
-/
import Derived.Test.YtbhblhcgfenobaaGreatDoorK3
import Derived.Test.YtbhblhcgfenobaaGreatDoorK4
import Derived.Test.YtbhblhcgfenobaaGreatDoorK5
import Derived.Test.YtbhblhcgfenobaaGreatDoorK7
namespace Go.Proofs.YtbhblhcgfenobaaGreatDoor
open Go.RowKit
set_option linter.unusedSimpArgs false
set_option linter.unusedVariables false
theorem one_any (k : Nat) (h1 : 1 ≤ k) (h6 : k ≤ 6) (j : J8) (s : ByteArray) (hs : Sm s) : ACT Tryz.prog TabP 44 [.ref 0 0, .v (.int .i64 k), .v (.string s)] (RJ j) (.v (.bool (step k s j).2)) (RJ (step k s j).1) := by
  rcases k with _ | _ | _ | _ | _ | _ | _ | k
  · omega
  · exact one_groups j s hs
  · exact one_window j s hs
  · exact one_fold j s hs
  · exact one_loop j s hs
  · exact one_delay j s hs
  · exact one_idle j s hs
  · omega
def zJ : J8 := ⟨0, 0, 0, 0, 0, 0, 0, 0⟩
def nl1 : ByteArray := ⟨#[10]⟩
def em : ByteArray := ⟨#[]⟩
def J8.ok (j : J8) : Bool := jobOK j.g j.s j.d j.k j.fu j.li j.de j.id
def pars : Nat → Nat → J8 → ByteArray → J8 × Int × Int
  | 0, _, j, s => if (s.toList == em.toList) = false then (zJ, 131, 7) else if j.ok = false then (zJ, 130, 0) else (j, 0, 0)
  | n + 1, k, j, s => if cutC s nl1 = true ∧ (step k (cutA s nl1) j).2 = true then pars n (k + 1) (step k (cutA s nl1) j).1 (cutB s nl1) else (zJ, 131, k)
theorem cut_sm {s : ByteArray} (h : Sm s) : Sm (cutA s nl1) ∧ Sm (cutB s nl1) := by
  have key : ∀ l sep : List UInt8, (Lib.cut l sep).1.length ≤ l.length ∧ (Lib.cut l sep).2.1.length ≤ l.length := by
    intro l sep
    unfold Lib.cut
    split
    · simp only [List.length_take, List.length_drop]; omega
    · simp
  have h1 := key s.data.toList nl1.data.toList
  have h2 : s.data.toList.length = s.size := Array.length_toList
  unfold Sm at *
  have e1 : (cutA s nl1).size = (Lib.cut s.data.toList nl1.data.toList).1.length := List.size_toArray
  have e2 : (cutB s nl1).size = (Lib.cut s.data.toList nl1.data.toList).2.1.length := List.size_toArray
  rw [e1, e2]
  omega
theorem p_jR (j : J8) : PC Tryz.prog 34 [.agg j.av] (.v (.bool j.ok)) := j_Right j.g j.s j.d j.k j.fu j.li j.de j.id
set_option maxHeartbeats 4000000 in
set_option maxRecDepth 20000 in
theorem p_Parse (s : ByteArray) (hs : Sm s) : PCT Tryz.prog TabP 15 [.v (.string s)] (.tup [.agg (pars 6 1 zJ s).1.av, .v (.int .i64 (pars 6 1 zJ s).2.1), .v (.int .i64 (pars 6 1 zJ s).2.2)]) := by
  obtain ⟨R, hR⟩ : ∃ R, R = pars 6 1 zJ s := ⟨_, rfl⟩
  rw [← hR]
  have hR0 := hR
  refine PCT.mk (act_body tab_ok Tryz.func15 rfl (by kernel_rfl) rfl ?_); intro w0 M μ0 hG; simp only [Tryz.ntmps15, List.length_cons, List.length_nil, Nat.reduceAdd, Nat.reduceSub, numb] at hG ⊢
  repeat' (first | ((first | apply o_do | apply d_do | apply d_yes rfl rfl rfl); exact lsq) | refine a_seq ?_ | refine a_region ?_ | refine o_nil ?_ | refine a_block ?_ | refine a_ret ?_ | refine a_exit ?_ | refine a_skip ?_ | refine a_draw mixed ?_ | refine d_nil (by kernel_rfl) ?_ | refine o_yes rfl rfl rfl ?_ | refine o_no rfl rfl rfl (by decide) ?_ | refine o_no' rfl rfl rfl ?_ | refine a_condT rfl ?_ | refine a_condF rfl ?_ | refine d_no rfl rfl rfl (by decide) ?_ | refine d_no' rfl rfl rfl ?_ | (refine wq2 (fun hb => ?_) (fun hb => ?_) <;> (simp only [hb]; try simp only [hbs, ne_eq] at hb; try (exfalso; first | omega | exact hb trivial))) | fail)
  refine a_loop (X := {p : Nat × Nat × J8 × ByteArray // p.1 + p.2.1 = 7 ∧ 1 ≤ p.1 ∧ R = pars p.2.1 p.1 p.2.2.1 p.2.2.2 ∧ Sm p.2.2.2}) (fun p => ⟨[(0, .v (.string p.1.2.2.2)), (2, .ref 0 0), (3, .v (.int .i64 0)), (4, .v (.int .i64 0)), (5, .ref 1 0), (6, .v (.int .i64 p.1.1))], [(0, .box 23 zJ.av), (1, .box 89 p.1.2.2.1.av)]⟩) (fun p => p.1.2.1) ⟨(1, 6, zJ, s), rfl, Nat.le_refl _, hR, hs⟩ ?_ ?_
  · exact wkS
  clear hR hR0 hs
  rintro ⟨⟨k, n, j, s⟩, hk, h1, hR, hs⟩
  dsimp only at hk h1 hR hs ⊢
  cases n with
  | zero =>
    obtain rfl : k = 7 := by omega
    have hJ := p_jR j
    unfold pars at hR
    cases he : (s.toList == em.toList)
    · rw [if_pos he] at hR
      subst hR
      unfold em at he
      unfold J8.av zJ at *
      repeat' (first | ((first | apply o_do | apply d_do | apply d_yes rfl rfl rfl); exact lsq) | refine a_seq ?_ | refine a_region ?_ | refine o_nil ?_ | refine a_block ?_ | refine a_ret ?_ | refine a_exit ?_ | refine a_skip ?_ | refine a_draw mixed ?_ | refine d_nil (by kernel_rfl) ?_ | refine o_yes rfl rfl rfl ?_ | refine o_no rfl rfl rfl (by decide) ?_ | refine o_no' rfl rfl rfl ?_ | refine a_condT rfl ?_ | refine a_condF rfl ?_ | refine d_no rfl rfl rfl (by decide) ?_ | refine d_no' rfl rfl rfl ?_ | (refine wq2 (fun hb => ?_) (fun hb => ?_) <;> (simp only [hb]; try simp only [hbs, ne_eq] at hb; try (exfalso; first | omega | exact hb trivial))) | fail)
      all_goals try (exfalso; simp_all; done)
      all_goals refine rq rfl ?_
      all_goals exact fnq
    · rw [if_neg (by rw [he]; simp)] at hR
      unfold em at he
      cases ho : j.ok
      · rw [if_pos ho] at hR
        rw [ho] at hJ
        subst hR
        unfold J8.av zJ at *
        repeat' (first | ((first | apply o_do | apply d_do | apply d_yes rfl rfl rfl); first | exact lsc (hJ) | exact ls_nilCheck rfl rfl | exact lsq) | refine a_seq ?_ | refine a_region ?_ | refine o_nil ?_ | refine a_block ?_ | refine a_ret ?_ | refine a_exit ?_ | refine a_skip ?_ | refine a_draw mixed ?_ | refine d_nil (by kernel_rfl) ?_ | refine o_yes rfl rfl rfl ?_ | refine o_no rfl rfl rfl (by decide) ?_ | refine o_no' rfl rfl rfl ?_ | refine a_condT rfl ?_ | refine a_condF rfl ?_ | refine d_no rfl rfl rfl (by decide) ?_ | refine d_no' rfl rfl rfl ?_ | (refine wq2 (fun hb => ?_) (fun hb => ?_) <;> (simp only [hb]; try simp only [hbs, ne_eq] at hb; try (exfalso; first | omega | exact hb trivial))) | fail)
        all_goals try (exfalso; simp_all; done)
        all_goals refine rq rfl ?_
        all_goals exact fnq
      · rw [if_neg (by rw [ho]; simp)] at hR
        rw [ho] at hJ
        subst hR
        unfold J8.av zJ at *
        repeat' (first | ((first | apply o_do | apply d_do | apply d_yes rfl rfl rfl); first | exact lsc (hJ) | exact ls_nilCheck rfl rfl | exact lsq) | refine a_seq ?_ | refine a_region ?_ | refine o_nil ?_ | refine a_block ?_ | refine a_ret ?_ | refine a_exit ?_ | refine a_skip ?_ | refine a_draw mixed ?_ | refine d_nil (by kernel_rfl) ?_ | refine o_yes rfl rfl rfl ?_ | refine o_no rfl rfl rfl (by decide) ?_ | refine o_no' rfl rfl rfl ?_ | refine a_condT rfl ?_ | refine a_condF rfl ?_ | refine d_no rfl rfl rfl (by decide) ?_ | refine d_no' rfl rfl rfl ?_ | (refine wq2 (fun hb => ?_) (fun hb => ?_) <;> (simp only [hb]; try simp only [hbs, ne_eq] at hb; try (exfalso; first | omega | exact hb trivial))) | fail)
        all_goals try (exfalso; simp_all; done)
        all_goals refine rq rfl ?_
        all_goals exact fnq
  | succ n =>
    have hC := p_Cut s nl1 (by unfold Sm at hs; omega)
    obtain ⟨sa, sb⟩ := cut_sm hs
    have hO := one_any k h1 (by omega) j (cutA s nl1) sa
    unfold pars at hR
    cases hc : cutC s nl1
    · rw [if_neg (by rw [hc]; simp)] at hR
      rw [hc] at hC
      subst hR
      generalize cutA s nl1 = A at *
      generalize cutB s nl1 = B at *
      unfold J8.av zJ nl1 at *
      repeat' (first | ((first | apply o_do | apply d_do | apply d_yes rfl rfl rfl); first | focus (apply ls_callT hG hC rfl rfl _ rfl rfl; (repeat' (first | exact NilL.nil | refine NilL.cons Nil.same ?_ | refine NilL.cons Nil.nil ?_ | refine NilL.cons (Nil.agg ?_) ?_ | exact Nil1s.nil | refine Nil1s.cons Nil1.same ?_ | refine Nil1s.cons Nil1.nil ?_)); done) | exact lsq) | refine a_seq ?_ | refine a_region ?_ | refine o_nil ?_ | refine a_block ?_ | refine a_ret ?_ | refine a_exit ?_ | refine a_skip ?_ | refine a_draw mixed ?_ | refine d_nil (by kernel_rfl) ?_ | refine o_yes rfl rfl rfl ?_ | refine o_no rfl rfl rfl (by decide) ?_ | refine o_no' rfl rfl rfl ?_ | refine a_condT rfl ?_ | refine a_condF rfl ?_ | refine d_no rfl rfl rfl (by decide) ?_ | refine d_no' rfl rfl rfl ?_ | (refine wq2 (fun hb => ?_) (fun hb => ?_) <;> (simp only [hb]; try simp only [hbs, ne_eq] at hb; try (exfalso; first | omega | exact hb trivial))) | fail)
      all_goals refine rq rfl ?_
      all_goals exact fnq
    · rw [hc] at hC hR
      cases ho : (step k (cutA s nl1) j).2
      · rw [if_neg (by rw [ho]; simp)] at hR
        rw [ho] at hO
        subst hR
        generalize (step k (cutA s nl1) j).1 = j' at *
        generalize cutA s nl1 = A at *
        generalize cutB s nl1 = B at *
        unfold RJ at hO
        unfold J8.av zJ nl1 at *
        repeat' (first | ((first | apply o_do | apply d_do | apply d_yes rfl rfl rfl); first | focus (apply ls_callT hG hC rfl rfl _ rfl rfl; (repeat' (first | exact NilL.nil | refine NilL.cons Nil.same ?_ | refine NilL.cons Nil.nil ?_ | refine NilL.cons (Nil.agg ?_) ?_ | exact Nil1s.nil | refine Nil1s.cons Nil1.same ?_ | refine Nil1s.cons Nil1.nil ?_)); done) | exact ls_callAT hG [1] 50 hO rfl rfl (by (repeat' (first | exact NilL.nil | refine NilL.cons Nil.same ?_ | refine NilL.cons Nil.nil ?_ | refine NilL.cons (Nil.agg ?_) ?_ | exact Nil1s.nil | refine Nil1s.cons Nil1.same ?_ | refine Nil1s.cons Nil1.nil ?_)); first | done | fail) rfl (by repeat' (first | exact trivial | refine ⟨⟨_, rfl, by first | rfl | (simp [renO, *]; done)⟩, ?_⟩)) (by first | rfl | simp [closO, *]) rfl rfl rfl rfl (by first | rfl | simp [closO, *]) rfl | exact lsq) | refine a_seq ?_ | refine a_region ?_ | refine o_nil ?_ | refine a_block ?_ | refine a_ret ?_ | refine a_exit ?_ | refine a_skip ?_ | refine a_draw mixed ?_ | refine d_nil (by kernel_rfl) ?_ | refine o_yes rfl rfl rfl ?_ | refine o_no rfl rfl rfl (by decide) ?_ | refine o_no' rfl rfl rfl ?_ | refine a_condT rfl ?_ | refine a_condF rfl ?_ | refine d_no rfl rfl rfl (by decide) ?_ | refine d_no' rfl rfl rfl ?_ | (refine wq2 (fun hb => ?_) (fun hb => ?_) <;> (simp only [hb]; try simp only [hbs, ne_eq] at hb; try (exfalso; first | omega | exact hb trivial))) | fail)
        all_goals refine rq rfl ?_
        all_goals exact fnq
      · rw [if_pos ⟨rfl, ho⟩] at hR
        rw [ho] at hO
        generalize (step k (cutA s nl1) j).1 = j' at *
        generalize cutA s nl1 = A at *
        generalize cutB s nl1 = B at *
        unfold RJ at hO
        unfold J8.av zJ nl1 at *
        repeat' (first | ((first | apply o_do | apply d_do | apply d_yes rfl rfl rfl); first | focus (apply ls_callT hG hC rfl rfl _ rfl rfl; (repeat' (first | exact NilL.nil | refine NilL.cons Nil.same ?_ | refine NilL.cons Nil.nil ?_ | refine NilL.cons (Nil.agg ?_) ?_ | exact Nil1s.nil | refine Nil1s.cons Nil1.same ?_ | refine Nil1s.cons Nil1.nil ?_)); done) | exact ls_callAT hG [1] 50 hO rfl rfl (by (repeat' (first | exact NilL.nil | refine NilL.cons Nil.same ?_ | refine NilL.cons Nil.nil ?_ | refine NilL.cons (Nil.agg ?_) ?_ | exact Nil1s.nil | refine Nil1s.cons Nil1.same ?_ | refine Nil1s.cons Nil1.nil ?_)); first | done | fail) rfl (by repeat' (first | exact trivial | refine ⟨⟨_, rfl, by first | rfl | (simp [renO, *]; done)⟩, ?_⟩)) (by first | rfl | simp [closO, *]) rfl rfl rfl rfl (by first | rfl | simp [closO, *]) rfl | exact lsq) | refine a_seq ?_ | refine a_region ?_ | refine o_nil ?_ | refine a_block ?_ | refine a_ret ?_ | refine a_exit ?_ | refine a_skip ?_ | refine a_draw mixed ?_ | refine d_nil (by kernel_rfl) ?_ | refine o_yes rfl rfl rfl ?_ | refine o_no rfl rfl rfl (by decide) ?_ | refine o_no' rfl rfl rfl ?_ | refine a_condT rfl ?_ | refine a_condF rfl ?_ | refine d_no rfl rfl rfl (by decide) ?_ | refine d_no' rfl rfl rfl ?_ | (refine wq2 (fun hb => ?_) (fun hb => ?_) <;> (simp only [hb]; try simp only [hbs, ne_eq] at hb; try (exfalso; first | omega | exact hb trivial))) | fail)
        refine ⟨⟨(k + 1, n, j', B), by dsimp only; omega, by dsimp only; omega, hR, sb⟩, by dsimp only; omega, ?_⟩
        exact wkS
end Go.Proofs.YtbhblhcgfenobaaGreatDoor
namespace Go.Proofs.YtbhblhcgfenobaaGreatDoor
open Go.RowKit
set_option linter.unusedSimpArgs false
set_option linter.unusedVariables false
/-! digits -/
theorem dig_one (u : Nat) (h : u < 10) : (UInt8.ofNat (48 + u)).toNat = 48 + u := by
  rw [UInt8.toNat_ofNat']; omega
theorem dig_all : ∀ (u : Nat), ∀ c ∈ Lib.decDigits u, 48 ≤ c.toNat ∧ c.toNat ≤ 57 := by
  intro u
  induction u using Nat.strongRecOn with
  | _ u ih =>
    intro c hc
    rw [Lib.decDigits] at hc
    split at hc
    · rename_i h
      rw [List.mem_singleton] at hc
      subst hc
      rw [dig_one u h]; omega
    · rename_i h
      rcases List.mem_append.1 hc with hc | hc
      · exact ih (u / 10) (by omega) c hc
      · rw [List.mem_singleton] at hc
        subst hc
        rw [dig_one (u % 10) (by omega)]; omega
theorem dig_ne (u : Nat) : Lib.decDigits u ≠ [] := by
  rw [Lib.decDigits]
  split <;> simp
theorem parse_dig (M : Nat) (hM : 9223372036854775807 ≤ M) : ∀ (u : Nat), u ≤ 9223372036854775807 → ∀ r, Lib.parseUintM M 0 (Lib.decDigits u ++ r) = Lib.parseUintM M u r := by
  intro u
  induction u using Nat.strongRecOn with
  | _ u ih =>
    intro hu r
    rw [Lib.decDigits]
    split
    · rename_i h
      have h1 := dig_one u h
      simp only [List.cons_append, List.nil_append, Lib.parseUintM, h1]
      rw [if_pos (by omega), if_neg (by omega), if_neg (by omega)]
      congr 1
      omega
    · rename_i h
      have h1 := dig_one (u % 10) (by omega)
      rw [List.append_assoc, ih (u / 10) (by omega) (by omega)]
      simp only [List.cons_append, List.nil_append, Lib.parseUintM, h1]
      rw [if_pos (by omega), if_neg (by omega), if_neg (by omega)]
      congr 1
      omega
theorem parse_itoa (n : Int) (h0 : 0 ≤ n) (h1 : n ≤ 9223372036854775807) : Lib.parseIntB 64 (itoB n).data.toList = .ok n := by
  obtain ⟨u, rfl⟩ : ∃ u : Nat, n = u := ⟨n.toNat, by omega⟩
  have e : (itoB (u : Int)).data.toList = Lib.decDigits u := by unfold itoB; rw [Lib.itoa_nonneg]
  rw [e]
  have hne := dig_ne u
  have hall := dig_all u
  have hp := parse_dig (2 ^ 64 - 1) (by decide) u (by omega) []
  rw [List.append_nil] at hp
  cases hd : Lib.decDigits u with
  | nil => exact absurd hd hne
  | cons c r =>
    rw [hd] at hall hp
    have hc := hall c (by simp)
    unfold Lib.parseIntB
    have h43 : ¬ (c.toNat = 43 ∨ c.toNat = 45) := by omega
    dsimp only
    rw [if_neg h43]
    have h2 : Lib.parseUintB 64 (c :: r) = .ok u := by
      unfold Lib.parseUintB
      rw [if_neg (by simp), hp]
      rfl
    rw [h2]
    dsimp only
    have h45 : ¬ c.toNat = 45 := by omega
    have e2 : (2 : Nat) ^ (64 - 1) = 9223372036854775808 := by decide
    rw [e2, if_neg (by omega), if_neg (by omega), if_neg h45]
theorem num_back {n : Int} (h0 : 0 ≤ n) (h1 : n ≤ 9223372036854775807) : numV (itoB n) = n ∧ numB (itoB n) = true := by
  have h := parse_itoa n h0 h1
  unfold numV numB
  rw [h]
  refine ⟨rfl, ?_⟩
  simp [h0]
theorem num_once {s : ByteArray} (h : numB s = true) : 0 ≤ numV s ∧ numV s ≤ 9223372036854775807 ∧ s = itoB (numV s) := by
  unfold numB at h
  unfold numV
  cases hp : Lib.parseIntB 64 s.data.toList with
  | ok v =>
    rw [hp] at h
    simp only [Bool.and_eq_true, decide_eq_true_eq, beq_iff_eq] at h
    have hb := Lib.parseIntB_bounds hp
    have e2 : ((2 ^ (64 - 1) : Nat) : Int) = 9223372036854775808 := by decide
    rw [e2] at hb
    refine ⟨h.1, by dsimp only; omega, (bytes_ext h.2).symm⟩
  | _ => rw [hp] at h; cases h
/-! where a byte stands -/
theorem ib_at (c : UInt8) : ∀ (l r : List UInt8), c ∉ l → Lib.indexByte (l ++ c :: r) c = (l.length : Int)
  | [], r, _ => by simp [Lib.indexByte]
  | b :: l, r, h => by
    have h1 : (b == c) = false := by simpa using fun e : b = c => h (by simp [e])
    have h2 := ib_at c l r fun hc => h (by simp [hc])
    simp only [List.cons_append, Lib.indexByte, h1, h2]
    rw [if_neg (by simp), if_neg (by first | (simp; done) | (simp; omega))]
    simp
theorem ib_no (c : UInt8) : ∀ (l : List UInt8), c ∉ l → Lib.indexByte l c = -1
  | [], _ => rfl
  | b :: l, h => by
    have h1 : (b == c) = false := by simpa using fun e : b = c => h (by simp [e])
    have h2 := ib_no c l fun hc => h (by simp [hc])
    simp [Lib.indexByte, h1, h2]
theorem mem_split (c : UInt8) : ∀ (s : List UInt8), c ∈ s → ∃ l r, s = l ++ c :: r ∧ c ∉ l
  | [], h => by cases h
  | b :: s, h => by
    by_cases e : b = c
    · exact ⟨[], s, by rw [e]; rfl, by simp⟩
    · obtain ⟨l, r, h1, h2⟩ := mem_split c s (by simpa [Ne.symm e] using h)
      exact ⟨b :: l, r, by rw [h1, List.cons_append], by simp [Ne.symm e, h2]⟩
def mkB (l : List UInt8) : ByteArray := ⟨l.toArray⟩
theorem mkB_self (s : ByteArray) : mkB s.data.toList = s := rfl
theorem mkB_list (l : List UInt8) : (mkB l).data.toList = l := rfl
theorem cut_at {s : ByteArray} {l r : List UInt8} (hs : s.data.toList = l ++ 10 :: r) (h : 10 ∉ l) : cutC s nl1 = true ∧ cutA s nl1 = mkB l ∧ cutB s nl1 = mkB r := by
  have e : nl1.data.toList = [10] := rfl
  have hi : Lib.index s.data.toList nl1.data.toList = (l.length : Int) := by rw [hs, e, Lib.index_one, ib_at 10 l r h]
  unfold cutC cutA cutB Lib.cut
  rw [hi, if_pos (by omega), e, hs]
  refine ⟨rfl, ?_, ?_⟩
  · simp [mkB]
  · simp [mkB]
theorem cut_yes {s : ByteArray} (h : cutC s nl1 = true) : s.data.toList = (cutA s nl1).data.toList ++ 10 :: (cutB s nl1).data.toList := by
  by_cases hm : (10 : UInt8) ∈ s.data.toList
  · obtain ⟨l, r, e, hl⟩ := mem_split 10 _ hm
    obtain ⟨_, h1, h2⟩ := cut_at e hl
    rw [h1, h2, e, mkB_list, mkB_list]
  · exfalso
    have e : nl1.data.toList = [10] := rfl
    have hi : Lib.index s.data.toList nl1.data.toList = -1 := by rw [e, Lib.index_one, ib_no 10 _ hm]
    unfold cutC Lib.cut at h
    rw [hi, if_neg (by omega)] at h
    cases h
theorem idx_sp (s : ByteArray) : Lib.indexB s sp1 = Lib.indexByte s.data.toList 32 := by
  rw [← Lib.index_one]; rfl
theorem ext_take (s : ByteArray) (i : Nat) : (s.extract 0 i).data.toList = s.data.toList.take i := by
  simp [ByteArray.data_extract]
theorem ext_drop (s : ByteArray) (i : Nat) : (s.extract i s.size).data.toList = s.data.toList.drop i := by
  have : s.size = s.data.toList.length := Array.length_toList.symm
  simp only [ByteArray.data_extract, Array.toList_extract, List.extract_eq_take_drop]
  exact List.take_of_length_le (by rw [List.length_drop, this]; exact Nat.le_refl _)
theorem spl_at {s : ByteArray} {l r : List UInt8} (hs : s.data.toList = l ++ 32 :: r) (h : 32 ∉ l) : spl s sp1 = mkB l :: spl (mkB r) sp1 := by
  have hi : Lib.indexB s sp1 = (l.length : Int) := by rw [idx_sp, hs, ib_at 32 l r h]
  have hc := Lib.countB_hit s sp1 l.length (by decide) hi
  have e1 : s.extract 0 l.length = mkB l := by
    apply bytes_ext2
    rw [ext_take, hs, mkB_list]
    simp
  have e2 : s.extract (l.length + 1) s.size = mkB r := by
    apply bytes_ext2
    rw [ext_drop, hs, mkB_list]
    simp
  have hsz : sp1.size = 1 := rfl
  unfold spl
  rw [hc, hsz, e2, Nat.add_comm 1, Lib.splitB_hit sp1 0 _ s l.length hi, hsz, e2, Nat.add_zero, e1]
theorem spl_no {s : ByteArray} (h : 32 ∉ s.data.toList) : spl s sp1 = [s] := by
  have hi : Lib.indexB s sp1 = -1 := by rw [idx_sp, ib_no 32 _ h]
  unfold spl
  exact Lib.splitB_miss sp1 0 _ s hi
/-- the text of which these are the pieces -/
def glue : List ByteArray → List UInt8
  | [] => []
  | [w] => w.data.toList
  | w :: r => w.data.toList ++ 32 :: glue r
theorem spl_glue : ∀ (n : Nat) (s : ByteArray), s.data.toList.length ≤ n → glue (spl s sp1) = s.data.toList := by
  intro n
  induction n with
  | zero =>
    intro s hn
    have : s.data.toList = [] := List.eq_nil_of_length_eq_zero (by omega)
    rw [spl_no (by rw [this]; simp)]; rfl
  | succ n ih =>
    intro s hn
    by_cases hm : (32 : UInt8) ∈ s.data.toList
    · obtain ⟨l, r, e, hl⟩ := mem_split 32 _ hm
      rw [spl_at e hl]
      have h1 := ih (mkB r) (by rw [mkB_list]; rw [e] at hn; simp at hn; omega)
      obtain ⟨w, t, h2⟩ := spl_ne (mkB r)
      rw [h2] at h1 ⊢
      simp only [glue]
      rw [h1, e]; rfl
    · rw [spl_no hm]; rfl
theorem fld_glue {word s : ByteArray} {many : Nat} {r : List ByteArray} (h : fld word many s = some r) : s.data.toList = glue (word :: r) := by
  have hg := spl_glue _ s (Nat.le_refl _)
  unfold fld at h
  split at h
  · cases h
  · rename_i w r' e
    split at h
    · rename_i hc
      injection h with h; subst h
      have hw : w = word := bytes_ext (by simpa using hc.1)
      subst hw
      rw [e] at hg
      exact hg.symm
    · cases h
theorem fld_one {word a : ByteArray} (hw : 32 ∉ word.data.toList) (ha : 32 ∉ a.data.toList) : fld word 1 (mkB (word.data.toList ++ 32 :: a.data.toList)) = some [a] := by
  unfold fld
  rw [spl_at (mkB_list _) hw, mkB_self, mkB_self, spl_no ha]
  simp
theorem fld_two {word a b : ByteArray} (hw : 32 ∉ word.data.toList) (ha : 32 ∉ a.data.toList) (hb : 32 ∉ b.data.toList) : fld word 2 (mkB (word.data.toList ++ 32 :: (a.data.toList ++ 32 :: b.data.toList))) = some [a, b] := by
  unfold fld
  rw [spl_at (mkB_list _) hw, mkB_self, spl_at (mkB_list _) ha, mkB_self, mkB_self, spl_no hb]
  simp
theorem ito_no (n : Int) (h0 : 0 ≤ n) (c : UInt8) (hc : c.toNat < 48) : c ∉ (itoB n).data.toList := by
  obtain ⟨u, rfl⟩ : ∃ u : Nat, n = u := ⟨n.toNat, by omega⟩
  have e : (itoB (u : Int)).data.toList = Lib.decDigits u := by unfold itoB; rw [Lib.itoa_nonneg]
  rw [e]
  intro h
  have := dig_all u c h
  omega
theorem nm_no (q : Nat) (h : q < 5) : 32 ∉ (nmQ q).data.toList ∧ 10 ∉ (nmQ q).data.toList ∧ nmIx (nmQ q) = q := by
  rcases q with _ | _ | _ | _ | _ | q
  · exact ⟨by decide, by decide, by unfold nmIx; simp only [ByteArray.toList_eq]; decide⟩
  · exact ⟨by decide, by decide, by unfold nmIx; simp only [ByteArray.toList_eq]; decide⟩
  · exact ⟨by decide, by decide, by unfold nmIx; simp only [ByteArray.toList_eq]; decide⟩
  · exact ⟨by decide, by decide, by unfold nmIx; simp only [ByteArray.toList_eq]; decide⟩
  · exact ⟨by decide, by decide, by unfold nmIx; simp only [ByteArray.toList_eq]; decide⟩
  · omega
theorem pars_next {n k : Nat} {j j' : J8} {l r : List UInt8} (hl : 10 ∉ l) (h : step k (mkB l) j = (j', true)) : pars (n + 1) k j (mkB (l ++ 10 :: r)) = pars n (k + 1) j' (mkB r) := by
  obtain ⟨h1, h2, h3⟩ := cut_at (mkB_list (l ++ 10 :: r)) hl
  unfold pars
  rw [h1, h2, h3, h, if_pos ⟨rfl, rfl⟩]
  cases n <;> rfl
end Go.Proofs.YtbhblhcgfenobaaGreatDoor
namespace Go.Proofs.YtbhblhcgfenobaaGreatDoor
open Go.RowKit
set_option linter.unusedSimpArgs false
set_option linter.unusedVariables false
set_option maxRecDepth 10000
def nn (n : Int) : Prop := 0 ≤ n ∧ n ≤ 9223372036854775807
theorem no32 {n : Int} (h : nn n) : 32 ∉ (itoB n).data.toList := ito_no n h.1 32 (by decide)
theorem no10 {n : Int} (h : nn n) : 10 ∉ (itoB n).data.toList := ito_no n h.1 10 (by decide)
def l1 (k : Nat) (a : ByteArray) : List UInt8 := (wordK k).data.toList ++ 32 :: a.data.toList
def l2 (k : Nat) (a b : ByteArray) : List UInt8 := (wordK k).data.toList ++ 32 :: (a.data.toList ++ 32 :: b.data.toList)
theorem wd (k : Nat) : 32 ∉ (wordK k).data.toList ∧ 10 ∉ (wordK k).data.toList := by
  unfold wordK
  split <;> exact ⟨by decide, by decide⟩
theorem l1_no {k : Nat} {a : ByteArray} (h : 10 ∉ a.data.toList) : 10 ∉ l1 k a := by
  unfold l1
  intro hm
  rcases List.mem_append.1 hm with hm | hm
  · exact (wd k).2 hm
  · rcases List.mem_cons.1 hm with hm | hm
    · exact absurd hm (by decide)
    · exact h hm
theorem l2_no {k : Nat} {a b : ByteArray} (h : 10 ∉ a.data.toList) (h2 : 10 ∉ b.data.toList) : 10 ∉ l2 k a b := by
  unfold l2
  intro hm
  rcases List.mem_append.1 hm with hm | hm
  · exact (wd k).2 hm
  · rcases List.mem_cons.1 hm with hm | hm
    · exact absurd hm (by decide)
    · rcases List.mem_append.1 hm with hm | hm
      · exact h hm
      · rcases List.mem_cons.1 hm with hm | hm
        · exact absurd hm (by decide)
        · exact h2 hm
theorem f1 (k : Nat) {a : ByteArray} (h : 32 ∉ a.data.toList) : fld (wordK k) 1 (mkB (l1 k a)) = some [a] := fld_one (wd k).1 h
theorem f2 (k : Nat) {a b : ByteArray} (h : 32 ∉ a.data.toList) (h2 : 32 ∉ b.data.toList) : fld (wordK k) 2 (mkB (l2 k a b)) = some [a, b] := fld_two (wd k).1 h h2
/-- a job's text, line by line -/
def tx (j : J8) (nm : ByteArray) : List UInt8 := l1 1 (itoB j.g) ++ 10 :: (l2 2 (itoB j.s) (itoB j.d) ++ 10 :: (l1 3 nm ++ 10 :: (l2 4 (itoB j.li) (itoB j.fu) ++ 10 :: (l1 5 (itoB j.de) ++ 10 :: (l1 6 (itoB j.id) ++ 10 :: [])))))
theorem tx_eq (j : J8) (nm : ByteArray) : jobT (itoB j.g) (itoB j.s) (itoB j.d) nm (itoB j.li) (itoB j.fu) (itoB j.de) (itoB j.id) = mkB (tx j nm) := by
  apply bytes_ext2
  rw [mkB_list]
  unfold tx l1 l2 jobT wordK
  simp [ByteArray.data_append, List.append_assoc]
theorem ok_parts {j : J8} (h : j.ok = true) (hi : JI j.g j.s j.d j.k j.fu j.li j.de j.id) : (1 ≤ j.g ∧ j.g ≤ 32) ∧ nn j.s ∧ nn j.d ∧ fRight j.k = true ∧ (0 ≤ j.fu ∧ j.fu ≤ 40) ∧ nn j.li ∧ nn j.de ∧ (0 ≤ j.id ∧ j.id ≤ 1048576) := by
  unfold J8.ok jobOK at h
  simp only [Bool.and_eq_true, decide_eq_true_eq, winB] at h
  obtain ⟨a1, a2, a3, a4, a5, a6, a7, a8, a9, a10, a11⟩ := h
  obtain ⟨b1, b2, b3, b4, b5, b6, b7⟩ := hi
  unfold i64 at *
  unfold nn
  refine ⟨⟨a1, a2⟩, ⟨?_, by omega⟩, ⟨?_, by omega⟩, a4, ⟨a5, a6⟩, ⟨by omega, by omega⟩, ⟨by omega, by omega⟩, ⟨by omega, by omega⟩⟩
  · omega
  · omega
theorem small_id {n : Int} (h : n ≤ 1048576) : smallV n = n := by unfold smallV; omega
/-- what is written is read again -/
theorem back (j : J8) (q : Nat) (hq : q < 5) (hk : j.k = (q : Int) + 1) (hi : JI j.g j.s j.d j.k j.fu j.li j.de j.id) (h : j.ok = true) : pars 6 1 zJ (mkB (tx j (nmQ q))) = (j, 0, 0) := by
  obtain ⟨hg, hs, hd, _, hfu, hli, hde, hid⟩ := ok_parts h hi
  have ng : nn j.g := ⟨by omega, by omega⟩
  have nf : nn j.fu := ⟨by omega, by omega⟩
  have nid : nn j.id := ⟨by omega, by omega⟩
  obtain ⟨m1, m2, m3⟩ := nm_no q hq
  have b := fun {n : Int} (h : nn n) => num_back h.1 h.2
  obtain ⟨g, s, d, k, fu, li, de, id⟩ := j
  dsimp only at *
  unfold tx
  dsimp only
  rw [pars_next (j' := { zJ with g := g }) (l1_no (no10 ng)) (by simp only [step]; rw [f1 1 (no32 ng)]; dsimp only; rw [(b ng).1, (b ng).2, small_id (by omega)])]
  rw [pars_next (j' := { zJ with g := g, s := s, d := d }) (l2_no (no10 hs) (no10 hd)) (by simp only [step]; rw [f2 2 (no32 hs) (no32 hd)]; dsimp only; rw [(b hs).1, (b hs).2, (b hd).1, (b hd).2]; try rfl)]
  rw [pars_next (j' := { zJ with g := g, s := s, d := d, k := k }) (l1_no m2) (by simp only [step]; rw [f1 3 m1]; dsimp only; rw [m3, hk, decide_eq_true (by omega)])]
  rw [pars_next (j' := { zJ with g := g, s := s, d := d, k := k, li := li, fu := fu }) (l2_no (no10 hli) (no10 nf)) (by simp only [step]; rw [f2 4 (no32 hli) (no32 nf)]; dsimp only; rw [(b hli).1, (b hli).2, (b nf).1, (b nf).2, small_id (by omega)]; try rfl)]
  rw [pars_next (j' := { zJ with g := g, s := s, d := d, k := k, li := li, fu := fu, de := de }) (l1_no (no10 hde)) (by simp only [step]; rw [f1 5 (no32 hde)]; dsimp only; rw [(b hde).1, (b hde).2])]
  rw [pars_next (j' := ⟨g, s, d, k, fu, li, de, id⟩) (l1_no (no10 nid)) (by simp only [step]; rw [f1 6 (no32 nid)]; dsimp only; rw [(b nid).1, (b nid).2, small_id (by omega)]; try rfl)]
  unfold pars
  have e : ((mkB []).toList == em.toList) = true := by simp [mkB, em]
  rw [e, if_neg (by simp), h, if_neg (by simp)]
/-! what is read is the text -/
theorem pars_in {n k : Nat} {j : J8} {s : ByteArray} (h : (pars (n + 1) k j s).2.1 = 0) : cutC s nl1 = true ∧ (step k (cutA s nl1) j).2 = true ∧ pars (n + 1) k j s = pars n (k + 1) (step k (cutA s nl1) j).1 (cutB s nl1) := by
  by_cases hc : cutC s nl1 = true ∧ (step k (cutA s nl1) j).2 = true
  · refine ⟨hc.1, hc.2, ?_⟩
    conv => lhs; unfold pars
    rw [if_pos hc]
  · exfalso
    unfold pars at h
    rw [if_neg hc] at h
    exact absurd h (show ¬ ((131 : Int) = 0) by decide)
theorem pars_end {k : Nat} {j : J8} {s : ByteArray} (h : (pars 0 k j s).2.1 = 0) : s = em ∧ j.ok = true ∧ pars 0 k j s = (j, 0, 0) := by
  unfold pars at h ⊢
  split at h
  · exact absurd h (by decide)
  · rename_i h1
    split at h
    · exact absurd h (by decide)
    · rename_i h2
      rw [if_neg h1, if_neg h2]
      exact ⟨bytes_ext (by simpa using h1), by simpa using h2, rfl⟩
theorem one_in {k : Nat} {s : ByteArray} {r : List ByteArray} (h : fld (wordK k) 1 s = some r) : ∃ a, r = [a] ∧ s.data.toList = l1 k a := by
  have hl := fld_len h
  match r, hl with
  | [a], _ => exact ⟨a, rfl, fld_glue h⟩
theorem two_in {k : Nat} {s : ByteArray} {r : List ByteArray} (h : fld (wordK k) 2 s = some r) : ∃ a b, r = [a, b] ∧ s.data.toList = l2 k a b := by
  have hl := fld_len h
  match r, hl with
  | [a, b], _ => exact ⟨a, b, rfl, fld_glue h⟩
theorem ix_in {a : ByteArray} (h : nmIx a + 1 > 0) : ∃ q : Nat, q < 5 ∧ nmIx a = q ∧ a = nmQ q := by
  unfold nmIx at h ⊢
  cases hf : (List.range 5).find? fun q => a.toList == (nmQ q).toList with
  | none => rw [hf] at h; exact absurd h (by decide)
  | some q => exact ⟨q, List.mem_range.1 (List.mem_of_find?_eq_some hf), rfl, bytes_ext (by simpa using List.find?_some hf)⟩
end Go.Proofs.YtbhblhcgfenobaaGreatDoor
namespace Go.Proofs.YtbhblhcgfenobaaGreatDoor
open Go.RowKit
set_option linter.unusedSimpArgs false
set_option linter.unusedVariables false
set_option maxRecDepth 10000
theorem num_in {a : ByteArray} (h : numB a = true) : ∃ n, nn n ∧ a = itoB n ∧ numV a = n := by
  obtain ⟨h1, h2, h3⟩ := num_once h
  exact ⟨numV a, ⟨h1, h2⟩, h3, rfl⟩
theorem in_groups {s : ByteArray} {j : J8} (h : (step 1 s j).2 = true) : ∃ n, nn n ∧ s.data.toList = l1 1 (itoB n) ∧ (step 1 s j).1 = { j with g := smallV n } := by
  cases hf : fld (wordK 1) 1 s with
  | none => simp only [step, hf] at h; exact absurd h (by decide)
  | some r =>
    obtain ⟨a, rfl, e⟩ := one_in hf
    simp only [step, hf] at h ⊢
    obtain ⟨n, h1, h2, h3⟩ := num_in h
    refine ⟨n, h1, by rw [e, h2], by rw [h3]⟩
theorem in_window {s : ByteArray} {j : J8} (h : (step 2 s j).2 = true) : ∃ n m, nn n ∧ nn m ∧ s.data.toList = l2 2 (itoB n) (itoB m) ∧ (step 2 s j).1 = { j with s := n, d := m } := by
  cases hf : fld (wordK 2) 2 s with
  | none => simp only [step, hf] at h; exact absurd h (by decide)
  | some r =>
    obtain ⟨a, b, rfl, e⟩ := two_in hf
    simp only [step, hf, Bool.and_eq_true] at h ⊢
    obtain ⟨n, h1, h2, h3⟩ := num_in h.1
    obtain ⟨m, h4, h5, h6⟩ := num_in h.2
    refine ⟨n, m, h1, h4, by rw [e, h2, h5], by rw [h3, h6]⟩
theorem in_fold {s : ByteArray} {j : J8} (h : (step 3 s j).2 = true) : ∃ q : Nat, q < 5 ∧ s.data.toList = l1 3 (nmQ q) ∧ (step 3 s j).1 = { j with k := (q : Int) + 1 } := by
  cases hf : fld (wordK 3) 1 s with
  | none => simp only [step, hf] at h; exact absurd h (by decide)
  | some r =>
    obtain ⟨a, rfl, e⟩ := one_in hf
    simp only [step, hf, decide_eq_true_eq] at h ⊢
    obtain ⟨q, h1, h2, h3⟩ := ix_in h
    exact ⟨q, h1, by rw [e, h3], by rw [h2]⟩
theorem in_loop {s : ByteArray} {j : J8} (h : (step 4 s j).2 = true) : ∃ n m, nn n ∧ nn m ∧ s.data.toList = l2 4 (itoB n) (itoB m) ∧ (step 4 s j).1 = { j with li := n, fu := smallV m } := by
  cases hf : fld (wordK 4) 2 s with
  | none => simp only [step, hf] at h; exact absurd h (by decide)
  | some r =>
    obtain ⟨a, b, rfl, e⟩ := two_in hf
    simp only [step, hf, Bool.and_eq_true] at h ⊢
    obtain ⟨n, h1, h2, h3⟩ := num_in h.1
    obtain ⟨m, h4, h5, h6⟩ := num_in h.2
    refine ⟨n, m, h1, h4, by rw [e, h2, h5], by rw [h3, h6]⟩
theorem in_delay {s : ByteArray} {j : J8} (h : (step 5 s j).2 = true) : ∃ n, nn n ∧ s.data.toList = l1 5 (itoB n) ∧ (step 5 s j).1 = { j with de := n } := by
  cases hf : fld (wordK 5) 1 s with
  | none => simp only [step, hf] at h; exact absurd h (by decide)
  | some r =>
    obtain ⟨a, rfl, e⟩ := one_in hf
    simp only [step, hf] at h ⊢
    obtain ⟨n, h1, h2, h3⟩ := num_in h
    refine ⟨n, h1, by rw [e, h2], by rw [h3]⟩
theorem in_idle {s : ByteArray} {j : J8} (h : (step 6 s j).2 = true) : ∃ n, nn n ∧ s.data.toList = l1 6 (itoB n) ∧ (step 6 s j).1 = { j with id := smallV n } := by
  cases hf : fld (wordK 6) 1 s with
  | none => simp only [step, hf] at h; exact absurd h (by decide)
  | some r =>
    obtain ⟨a, rfl, e⟩ := one_in hf
    simp only [step, hf] at h ⊢
    obtain ⟨n, h1, h2, h3⟩ := num_in h
    refine ⟨n, h1, by rw [e, h2], by rw [h3]⟩
theorem small_lt {n b : Int} (h : smallV n ≤ b) (hb : b < 1073741824) : smallV n = n := by unfold smallV at *; omega
theorem once (s : ByteArray) (h : (pars 6 1 zJ s).2.1 = 0) : ∃ (j : J8) (q : Nat), q < 5 ∧ j.k = (q : Int) + 1 ∧ pars 6 1 zJ s = (j, 0, 0) ∧ j.ok = true ∧ JI j.g j.s j.d j.k j.fu j.li j.de j.id ∧ s = mkB (tx j (nmQ q)) := by
  obtain ⟨c1, b1, e1⟩ := pars_in h
  rw [e1] at h ⊢
  have g1 := cut_yes c1
  generalize cutA s nl1 = A1 at *
  generalize cutB s nl1 = S1 at *
  obtain ⟨g, ng, t1, u1⟩ := in_groups b1
  rw [u1] at h ⊢
  obtain ⟨c2, b2, e2⟩ := pars_in h
  rw [e2] at h ⊢
  have g2 := cut_yes c2
  generalize cutA S1 nl1 = A2 at *
  generalize cutB S1 nl1 = S2 at *
  obtain ⟨sz, sl, nsz, nsl, t2, u2⟩ := in_window b2
  rw [u2] at h ⊢
  obtain ⟨c3, b3, e3⟩ := pars_in h
  rw [e3] at h ⊢
  have g3 := cut_yes c3
  generalize cutA S2 nl1 = A3 at *
  generalize cutB S2 nl1 = S3 at *
  obtain ⟨q, hq, t3, u3⟩ := in_fold b3
  rw [u3] at h ⊢
  obtain ⟨c4, b4, e4⟩ := pars_in h
  rw [e4] at h ⊢
  have g4 := cut_yes c4
  generalize cutA S3 nl1 = A4 at *
  generalize cutB S3 nl1 = S4 at *
  obtain ⟨li, fu, nli, nfu, t4, u4⟩ := in_loop b4
  rw [u4] at h ⊢
  obtain ⟨c5, b5, e5⟩ := pars_in h
  rw [e5] at h ⊢
  have g5 := cut_yes c5
  generalize cutA S4 nl1 = A5 at *
  generalize cutB S4 nl1 = S5 at *
  obtain ⟨de, nde, t5, u5⟩ := in_delay b5
  rw [u5] at h ⊢
  obtain ⟨c6, b6, e6⟩ := pars_in h
  rw [e6] at h ⊢
  have g6 := cut_yes c6
  generalize cutA S5 nl1 = A6 at *
  generalize cutB S5 nl1 = S6 at *
  obtain ⟨id, nid, t6, u6⟩ := in_idle b6
  rw [u6] at h ⊢
  obtain ⟨hem, hok, hfin⟩ := pars_end h
  rw [hfin]
  have ho := hok
  unfold J8.ok jobOK at ho
  simp only [Bool.and_eq_true, decide_eq_true_eq] at ho
  obtain ⟨a1, a2, a3, a4, a5, a6, a7, a8, a9, a10, a11⟩ := ho
  have v1 : smallV g = g := small_lt a2 (by omega)
  have v2 : smallV fu = fu := small_lt a6 (by omega)
  have v3 : smallV id = id := small_lt a11 (by omega)
  rw [v1, v2, v3] at hok ⊢
  unfold nn at *
  refine ⟨_, q, hq, rfl, rfl, hok, ⟨?_, ?_, ?_, ?_, ?_, ?_, ?_⟩, ?_⟩
  · exact ⟨by dsimp only; omega, by dsimp only; omega⟩
  · exact ⟨by dsimp only; omega, by dsimp only; omega⟩
  · exact ⟨by dsimp only; omega, by dsimp only; omega⟩
  · exact ⟨by dsimp only; omega, by dsimp only; omega⟩
  · exact ⟨by dsimp only; omega, by dsimp only; omega⟩
  · exact ⟨by dsimp only; omega, by dsimp only; omega⟩
  · exact ⟨by dsimp only; omega, by dsimp only; omega⟩
  apply bytes_ext2
  rw [mkB_list, g1, g2, g3, g4, g5, g6, t1, t2, t3, t4, t5, t6, hem]
  rfl
end Go.Proofs.YtbhblhcgfenobaaGreatDoor
namespace Go.Proofs.YtbhblhcgfenobaaGreatDoor
open Go.RowKit
set_option linter.unusedSimpArgs false
set_option linter.unusedVariables false
def isD (c : UInt8) : Bool := decide (48 ≤ c.toNat) && decide (c.toNat ≤ 57)
theorem isD_iff {c : UInt8} : isD c = true ↔ 48 ≤ c.toNat ∧ c.toNat ≤ 57 := by simp [isD]
def valF (n : Nat) (l : List UInt8) : Nat := l.foldl (fun a c => a * 10 + (c.toNat - 48)) n
theorem valF_snoc (n : Nat) (l : List UInt8) (c : UInt8) : valF n (l ++ [c]) = valF n l * 10 + (c.toNat - 48) := by simp [valF]
theorem valF_app (n : Nat) (l m : List UInt8) : valF n (l ++ m) = valF (valF n l) m := by simp [valF]
theorem valF_ge : ∀ (l : List UInt8) (n : Nat), n ≤ valF n l
  | [], n => Nat.le_refl _
  | c :: l, n => by
    have := valF_ge l (n * 10 + (c.toNat - 48))
    simp only [valF, List.foldl_cons] at this ⊢
    omega
theorem valF_acc : ∀ (l : List UInt8) (n : Nat), valF n l = n * 10 ^ l.length + valF 0 l
  | [], n => by simp [valF]
  | c :: l, n => by
    have h1 := valF_acc l (n * 10 + (c.toNat - 48))
    have h2 := valF_acc l (0 * 10 + (c.toNat - 48))
    simp only [valF, List.foldl_cons, List.length_cons] at h1 h2 ⊢
    rw [h1, h2, Nat.pow_succ]
    rw [Nat.add_mul, Nat.zero_mul, Nat.zero_add, Nat.mul_assoc, Nat.mul_comm 10, Nat.add_assoc]
theorem valF_lt : ∀ (l : List UInt8), (∀ c ∈ l, isD c = true) → valF 0 l < 10 ^ l.length
  | [], _ => by simp [valF]
  | c :: l, h => by
    have h1 := valF_lt l fun x hx => h x (by simp [hx])
    have h2 := isD_iff.1 (h c (by simp))
    have h3 := valF_acc l (0 * 10 + (c.toNat - 48))
    have e : valF 0 (c :: l) = valF (0 * 10 + (c.toNat - 48)) l := rfl
    rw [e, h3, List.length_cons, Nat.pow_succ]
    have h4 : (0 * 10 + (c.toNat - 48)) * 10 ^ l.length ≤ 9 * 10 ^ l.length := Nat.mul_le_mul_right _ (by omega)
    omega
theorem val_dig : ∀ (u : Nat), valF 0 (Lib.decDigits u) = u := by
  intro u
  induction u using Nat.strongRecOn with
  | _ u ih =>
    rw [Lib.decDigits]
    split
    · rename_i h
      have := dig_one u h
      simp only [valF, List.foldl_cons, List.foldl_nil, this]; omega
    · rename_i h
      rw [valF_snoc, ih (u / 10) (by omega), dig_one (u % 10) (by omega)]; omega
theorem dig_back {c : UInt8} (h : isD c = true) : UInt8.ofNat (48 + (c.toNat - 48)) = c := by
  have := isD_iff.1 h
  rw [show 48 + (c.toNat - 48) = c.toNat by omega]
  exact UInt8.ofNat_toNat
/-- digits without a zero ahead are those of what they spell -/
theorem canon : ∀ (n : Nat) (d : List UInt8), d.length = n → d ≠ [] → (∀ c ∈ d, isD c = true) → (1 < d.length → d.head? ≠ some 48) → Lib.decDigits (valF 0 d) = d := by
  intro n
  induction n with
  | zero => intro d h hne _ _; exact absurd (List.eq_nil_of_length_eq_zero h) hne
  | succ n ih =>
    intro d h hne hall hz
    rcases List.eq_nil_or_concat d with rfl | ⟨e, c, rfl⟩
    · exact absurd rfl hne
    rw [List.concat_eq_append] at *
    have hc : isD c = true := hall c (by simp)
    have hc2 := isD_iff.1 hc
    have he : ∀ x ∈ e, isD x = true := fun x hx => hall x (by simp [hx])
    by_cases h0 : e = []
    · subst h0
      have e1 : valF 0 ([] ++ [c]) = c.toNat - 48 := by simp [valF]
      rw [e1, Lib.decDigits, dif_pos (by omega), dig_back hc]; rfl
    · have hl : e.length = n := by simpa using h
      obtain ⟨a, t, rfl⟩ : ∃ a t, e = a :: t := by
        cases e with
        | nil => exact absurd rfl h0
        | cons a t => exact ⟨a, t, rfl⟩
      have ha : a ≠ 48 := fun e => hz (by simp) (by simp [e])
      have ha2 := isD_iff.1 (he a (by simp))
      have ha3 : a.toNat ≠ 48 := fun e => ha (by
        have : UInt8.ofNat a.toNat = UInt8.ofNat 48 := by rw [e]
        rw [UInt8.ofNat_toNat] at this; exact this)
      have hv : 1 ≤ valF 0 (a :: t) := by
        have := valF_ge t (0 * 10 + (a.toNat - 48))
        have e2 : valF 0 (a :: t) = valF (0 * 10 + (a.toNat - 48)) t := rfl
        omega
      have hi := ih (a :: t) hl (by simp) he (fun h => by simpa using ha)
      rw [valF_snoc, Lib.decDigits, dif_neg (by omega)]
      have q1 : (valF 0 (a :: t) * 10 + (c.toNat - 48)) / 10 = valF 0 (a :: t) := by omega
      have q2 : (valF 0 (a :: t) * 10 + (c.toNat - 48)) % 10 = c.toNat - 48 := by omega
      rw [q1, q2, hi, dig_back hc]
/-- rows of digits of one length stand in order as what they spell -/
theorem less_val : ∀ (a b : List UInt8), a.length = b.length → (∀ c ∈ a, isD c = true) → (∀ c ∈ b, isD c = true) → (Op.bytesLess a b = true ↔ valF 0 a < valF 0 b)
  | [], [], _, _, _ => by simp [valF, Op.bytesLess]
  | [], b :: l, h, _, _ => by simp at h
  | a :: l, [], h, _, _ => by simp at h
  | a :: l, b :: m, h, ha, hb => by
    have hl : l.length = m.length := by simpa using h
    have ih := less_val l m hl (fun c hc => ha c (by simp [hc])) (fun c hc => hb c (by simp [hc]))
    have h1 := isD_iff.1 (ha a (by simp))
    have h2 := isD_iff.1 (hb b (by simp))
    have l1 := valF_lt l fun c hc => ha c (by simp [hc])
    have l2 := valF_lt m fun c hc => hb c (by simp [hc])
    have e1 : valF 0 (a :: l) = (0 * 10 + (a.toNat - 48)) * 10 ^ l.length + valF 0 l := valF_acc l _
    have e2 : valF 0 (b :: m) = (0 * 10 + (b.toNat - 48)) * 10 ^ l.length + valF 0 m := by rw [hl]; exact valF_acc m _
    rw [← hl] at l2
    rw [e1, e2]
    generalize 10 ^ l.length = K at *
    have hlt : a < b ↔ a.toNat < b.toNat := UInt8.lt_iff_toNat_lt
    have heq : a = b ↔ a.toNat = b.toNat := UInt8.toNat_inj.symm
    rcases Nat.lt_trichotomy a.toNat b.toNat with hc | hc | hc
    · have : Op.bytesLess (a :: l) (b :: m) = true := by simp [Op.bytesLess, hlt.2 hc]
      rw [this]
      simp only [true_iff]
      have : (0 * 10 + (a.toNat - 48) + 1) * K ≤ (0 * 10 + (b.toNat - 48)) * K := Nat.mul_le_mul_right _ (by omega)
      rw [Nat.add_mul] at this
      omega
    · have he : a = b := heq.2 hc
      subst he
      have : Op.bytesLess (a :: l) (a :: m) = Op.bytesLess l m := by simp [Op.bytesLess]
      rw [this, ih]; omega
    · have : Op.bytesLess (a :: l) (b :: m) = false := by
        have n1 : ¬ a < b := fun h => by have := hlt.1 h; omega
        have n2 : ¬ a = b := fun h => by have := heq.1 h; omega
        simp [Op.bytesLess, n1, n2]
      rw [this]
      simp only [Bool.false_eq_true, false_iff]
      have : (0 * 10 + (b.toNat - 48) + 1) * K ≤ (0 * 10 + (a.toNat - 48)) * K := Nat.mul_le_mul_right _ (by omega)
      rw [Nat.add_mul] at this
      omega
end Go.Proofs.YtbhblhcgfenobaaGreatDoor
namespace Go.Proofs.YtbhblhcgfenobaaGreatDoor
open Go.RowKit
set_option linter.unusedSimpArgs false
set_option linter.unusedVariables false
section
variable {P : Program} {T : List TyI} {Γ : Ctx} {s : ASt} {dst : Option Tmp} {ty : TypeId} {pos : String} {after : Array Edge}
theorem str_ty (hT : okTab P T = true) {t : Nat} (hty : nth T t = some .string) : P.underlying t = some .string := by
  have h3 := okTab_at hT hty
  simp only [okTy] at h3
  split at h3
  · rename_i hu _; exact hu
  · cases h3
/-- s[:n] of a text -/
theorem ls_strTo (hT : okTab P T = true) {x y : Operand} {t n : Nat} {i : Int} {k : IntKind} {z : ByteArray} (hx : ev s x = some (.v (.string z))) (hy : ev s y = some (.v (.int k i))) (hty : nth T t = some .string) (hi : i = (n : Int)) (hn : n ≤ z.size) (hd : okDst Γ.n dst = true) :
    LS P Γ ⟨dst, .slice t x none (some y) none, ty, pos, after, none⟩ s (rd x (rd y [])) (dst1 dst (.v (.string (z.extract 0 n)))) [] :=
  ls_pure hd fun t' ht μ a w hr => by
    obtain ⟨e1, ht⟩ := ht.ev hx
    obtain ⟨e2, ht⟩ := ht.ev hy
    have e1 := hr.ev e1
    have e2 := hr.ev e2
    simp only [rep] at e1 e2 ⊢
    have hu := str_ty hT hty
    subst hi
    have hnc : (n : Int) ≤ z.size := by omega
    refine ⟨.string (z.extract 0 n), ?_, rfl, rfl⟩
    simp [execOp, e1.1, e2.1, Instr.sliceAt, Instr.slice, run_underlying hu, Instr.sliceBounds, Instr.sliceBound, asIntOf, hnc]
    intro h; omega
/-- s[n:] of a text -/
theorem ls_strFrom (hT : okTab P T = true) {x y : Operand} {t n : Nat} {i : Int} {k : IntKind} {z : ByteArray} (hx : ev s x = some (.v (.string z))) (hy : ev s y = some (.v (.int k i))) (hty : nth T t = some .string) (hi : i = (n : Int)) (hn : n ≤ z.size) (hd : okDst Γ.n dst = true) :
    LS P Γ ⟨dst, .slice t x (some y) none none, ty, pos, after, none⟩ s (rd x (rd y [])) (dst1 dst (.v (.string (z.extract n z.size)))) [] :=
  ls_pure hd fun t' ht μ a w hr => by
    obtain ⟨e1, ht⟩ := ht.ev hx
    obtain ⟨e2, ht⟩ := ht.ev hy
    have e1 := hr.ev e1
    have e2 := hr.ev e2
    simp only [rep] at e1 e2 ⊢
    have hu := str_ty hT hty
    subst hi
    have hnc : (n : Int) ≤ z.size := by omega
    refine ⟨.string (z.extract n z.size), ?_, rfl, rfl⟩
    simp [execOp, e1.1, e2.1, Instr.sliceAt, Instr.slice, run_underlying hu, Instr.sliceBounds, Instr.sliceBound, asIntOf, hnc]
    intro h; omega
/-- a kind of integers turned to another one -/
theorem ls_conv (hT : okTab P T = true) {x : Operand} {a b : Nat} {i : Int} {k q : IntKind} (hx : ev s x = some (.v (.int k i))) (ha : P.underlying a = some (.int k)) (hb : P.underlying b = some (.int q)) (hd : okDst Γ.n dst = true) :
    LS P Γ ⟨dst, .convert a b x, ty, pos, after, none⟩ s (rd x []) (dst1 dst (.v (.int q (q.wrap i)))) [] :=
  ls_pure hd fun t' ht μ ac w hr => by
    obtain ⟨e1, ht⟩ := ht.ev hx
    have e1 := hr.ev e1
    simp only [rep] at e1 ⊢
    refine ⟨.int q (q.wrap i), ?_, rfl, rfl⟩
    simp [execOp, e1.1, Go.convert, run_underlying ha, run_underlying hb, Conv.intToInt]
end
end Go.Proofs.YtbhblhcgfenobaaGreatDoor
