/-
  Jobs' text in plain words: a text that is read is the job's.
-/
import Derived.Test.YthlimflfglkpiaaDoorJpQ
import Derived.Test.YthlimflfglkpiaaDoorJpC
namespace Go.Proofs.YthlimflfglkpiaaDoor
open Go.RowKit
set_option linter.unusedSimpArgs false
set_option linter.unusedVariables false
set_option maxRecDepth 10000
theorem num_in {a : ByteArray} (h : numB a = true) : ∃ n, nn n ∧ a = itoB n ∧ numV a = n := by
  obtain ⟨h1, h2, h3⟩ := num_once h
  exact ⟨numV a, ⟨h1, h2⟩, h3, rfl⟩
theorem in_groups {s : ByteArray} {j : J8} (h : (step 1 s j).2 = true) : ∃ n, nn n ∧ s.data.toList = l1 1 (itoB n) ∧ (step 1 s j).1 = { j with g := smallV n } := by
  cases hf : fld (wordK 1) 1 s with
  | none => simp only [step, hf] at h; exact absurd h (by decide)
  | some r =>
    obtain ⟨a, rfl, e⟩ := one_in hf
    simp only [step, hf] at h ⊢
    obtain ⟨n, h1, h2, h3⟩ := num_in h
    refine ⟨n, h1, by rw [e, h2], by rw [h3]⟩
theorem in_window {s : ByteArray} {j : J8} (h : (step 2 s j).2 = true) : ∃ n m, nn n ∧ nn m ∧ s.data.toList = l2 2 (itoB n) (itoB m) ∧ (step 2 s j).1 = { j with s := n, d := m } := by
  cases hf : fld (wordK 2) 2 s with
  | none => simp only [step, hf] at h; exact absurd h (by decide)
  | some r =>
    obtain ⟨a, b, rfl, e⟩ := two_in hf
    simp only [step, hf, Bool.and_eq_true] at h ⊢
    obtain ⟨n, h1, h2, h3⟩ := num_in h.1
    obtain ⟨m, h4, h5, h6⟩ := num_in h.2
    refine ⟨n, m, h1, h4, by rw [e, h2, h5], by rw [h3, h6]⟩
theorem in_fold {s : ByteArray} {j : J8} (h : (step 3 s j).2 = true) : ∃ q : Nat, q < 5 ∧ s.data.toList = l1 3 (nmQ q) ∧ (step 3 s j).1 = { j with k := (q : Int) + 1 } := by
  cases hf : fld (wordK 3) 1 s with
  | none => simp only [step, hf] at h; exact absurd h (by decide)
  | some r =>
    obtain ⟨a, rfl, e⟩ := one_in hf
    simp only [step, hf, decide_eq_true_eq] at h ⊢
    obtain ⟨q, h1, h2, h3⟩ := ix_in h
    exact ⟨q, h1, by rw [e, h3], by rw [h2]⟩
theorem in_loop {s : ByteArray} {j : J8} (h : (step 4 s j).2 = true) : ∃ n m, nn n ∧ nn m ∧ s.data.toList = l2 4 (itoB n) (itoB m) ∧ (step 4 s j).1 = { j with li := n, fu := smallV m } := by
  cases hf : fld (wordK 4) 2 s with
  | none => simp only [step, hf] at h; exact absurd h (by decide)
  | some r =>
    obtain ⟨a, b, rfl, e⟩ := two_in hf
    simp only [step, hf, Bool.and_eq_true] at h ⊢
    obtain ⟨n, h1, h2, h3⟩ := num_in h.1
    obtain ⟨m, h4, h5, h6⟩ := num_in h.2
    refine ⟨n, m, h1, h4, by rw [e, h2, h5], by rw [h3, h6]⟩
theorem in_delay {s : ByteArray} {j : J8} (h : (step 5 s j).2 = true) : ∃ n, nn n ∧ s.data.toList = l1 5 (itoB n) ∧ (step 5 s j).1 = { j with de := n } := by
  cases hf : fld (wordK 5) 1 s with
  | none => simp only [step, hf] at h; exact absurd h (by decide)
  | some r =>
    obtain ⟨a, rfl, e⟩ := one_in hf
    simp only [step, hf] at h ⊢
    obtain ⟨n, h1, h2, h3⟩ := num_in h
    refine ⟨n, h1, by rw [e, h2], by rw [h3]⟩
theorem in_idle {s : ByteArray} {j : J8} (h : (step 6 s j).2 = true) : ∃ n, nn n ∧ s.data.toList = l1 6 (itoB n) ∧ (step 6 s j).1 = { j with id := smallV n } := by
  cases hf : fld (wordK 6) 1 s with
  | none => simp only [step, hf] at h; exact absurd h (by decide)
  | some r =>
    obtain ⟨a, rfl, e⟩ := one_in hf
    simp only [step, hf] at h ⊢
    obtain ⟨n, h1, h2, h3⟩ := num_in h
    refine ⟨n, h1, by rw [e, h2], by rw [h3]⟩
theorem small_lt {n b : Int} (h : smallV n ≤ b) (hb : b < 1073741824) : smallV n = n := by unfold smallV at *; omega
theorem once (s : ByteArray) (h : (pars 6 1 zJ s).2.1 = 0) : ∃ (j : J8) (q : Nat), q < 5 ∧ j.k = (q : Int) + 1 ∧ pars 6 1 zJ s = (j, 0, 0) ∧ j.ok = true ∧ JI j.g j.s j.d j.k j.fu j.li j.de j.id ∧ s = mkB (tx j (nmQ q)) := by
  obtain ⟨c1, b1, e1⟩ := pars_in h
  rw [e1] at h ⊢
  have g1 := cut_yes c1
  generalize cutA s nl1 = A1 at *
  generalize cutB s nl1 = S1 at *
  obtain ⟨g, ng, t1, u1⟩ := in_groups b1
  rw [u1] at h ⊢
  obtain ⟨c2, b2, e2⟩ := pars_in h
  rw [e2] at h ⊢
  have g2 := cut_yes c2
  generalize cutA S1 nl1 = A2 at *
  generalize cutB S1 nl1 = S2 at *
  obtain ⟨sz, sl, nsz, nsl, t2, u2⟩ := in_window b2
  rw [u2] at h ⊢
  obtain ⟨c3, b3, e3⟩ := pars_in h
  rw [e3] at h ⊢
  have g3 := cut_yes c3
  generalize cutA S2 nl1 = A3 at *
  generalize cutB S2 nl1 = S3 at *
  obtain ⟨q, hq, t3, u3⟩ := in_fold b3
  rw [u3] at h ⊢
  obtain ⟨c4, b4, e4⟩ := pars_in h
  rw [e4] at h ⊢
  have g4 := cut_yes c4
  generalize cutA S3 nl1 = A4 at *
  generalize cutB S3 nl1 = S4 at *
  obtain ⟨li, fu, nli, nfu, t4, u4⟩ := in_loop b4
  rw [u4] at h ⊢
  obtain ⟨c5, b5, e5⟩ := pars_in h
  rw [e5] at h ⊢
  have g5 := cut_yes c5
  generalize cutA S4 nl1 = A5 at *
  generalize cutB S4 nl1 = S5 at *
  obtain ⟨de, nde, t5, u5⟩ := in_delay b5
  rw [u5] at h ⊢
  obtain ⟨c6, b6, e6⟩ := pars_in h
  rw [e6] at h ⊢
  have g6 := cut_yes c6
  generalize cutA S5 nl1 = A6 at *
  generalize cutB S5 nl1 = S6 at *
  obtain ⟨id, nid, t6, u6⟩ := in_idle b6
  rw [u6] at h ⊢
  obtain ⟨hem, hok, hfin⟩ := pars_end h
  rw [hfin]
  have ho := hok
  unfold J8.ok jobOK at ho
  simp only [Bool.and_eq_true, decide_eq_true_eq] at ho
  obtain ⟨a1, a2, a3, a4, a5, a6, a7, a8, a9, a10, a11⟩ := ho
  have v1 : smallV g = g := small_lt a2 (by omega)
  have v2 : smallV fu = fu := small_lt a6 (by omega)
  have v3 : smallV id = id := small_lt a11 (by omega)
  rw [v1, v2, v3] at hok ⊢
  unfold nn at *
  refine ⟨_, q, hq, rfl, rfl, hok, ⟨?_, ?_, ?_, ?_, ?_, ?_, ?_⟩, ?_⟩
  · exact ⟨by dsimp only; omega, by dsimp only; omega⟩
  · exact ⟨by dsimp only; omega, by dsimp only; omega⟩
  · exact ⟨by dsimp only; omega, by dsimp only; omega⟩
  · exact ⟨by dsimp only; omega, by dsimp only; omega⟩
  · exact ⟨by dsimp only; omega, by dsimp only; omega⟩
  · exact ⟨by dsimp only; omega, by dsimp only; omega⟩
  · exact ⟨by dsimp only; omega, by dsimp only; omega⟩
  apply bytes_ext2
  rw [mkB_list, g1, g2, g3, g4, g5, g6, t1, t2, t3, t4, t5, t6, hem]
  rfl
end Go.Proofs.YthlimflfglkpiaaDoor
