/-
  The reference's reading of jobs, walked over abstract values: a number.
-/
import Derived.Test.YthlimflfglkpiaaDoorJrC
namespace Go.Proofs.YthlimflfglkpiaaDoor
open Go.RowKit
set_option linter.unusedSimpArgs false
set_option linter.unusedVariables false
theorem step_val (v t c : Nat) (h1 : 48 ≤ c) (h2 : c ≤ 57) (ht : t = v * 10 + (c - 48)) (hle : t ≤ 9223372036854775807) :
    IntKind.i64.wrap (IntKind.i64.wrap (10 * (v : Int)) + IntKind.i64.wrap (IntKind.u8.wrap ((c : Int) - 48))) = (t : Int) := by
  simp only [IntKind.wrap_u8, IntKind.wrap_i64]
  omega
set_option maxHeartbeats 8000000 in
set_option maxRecDepth 20000 in
theorem p_NumY (s : ByteArray) (d r : List UInt8) (hD : Dg s d r) (hb : ¬ badN d) (hs : Sm s) : PC Tryd.prog 67 [.v (.string s)] (.tup [.v (.int .i64 (valF 0 d : Nat)), .v (.string (mkB r)), .v (.bool true)]) := by
  have hM := good_le hD.dig hb
  unfold badN at hb
  have n0 : d.length ≠ 0 := fun e => hb (.inl (List.eq_nil_of_length_eq_zero e))
  have n1 : ¬ (1 < d.length ∧ d.head? = some 48) := fun e => hb (.inr (.inl e))
  have n2 : ¬ 19 < d.length := fun e => hb (.inr (.inr (.inl e)))
  have hsz : s.size = d.length + r.length := by rw [← size_list, hD.eq, List.length_append]
  have hx := ext_pre hD.eq
  have hy := ext_post hD.eq
  obtain ⟨s0, e0⟩ := hD.at_ (q := 0) (by omega)
  have n3 : 1 < d.length → ¬ ((s[0].toNat : Int) = 48) := by
    intro h1 h2
    have : s[0].toNat = 48 := by omega
    refine n1 ⟨h1, ?_⟩
    rw [head_at (by omega), ← e0]
    congr 1
    have e3 : UInt8.ofNat s[0].toNat = UInt8.ofNat 48 := by rw [this]
    rw [UInt8.ofNat_toNat] at e3; exact e3
  have n4 : d.length = 19 → (Op.bytesLess (mkB d).toList maxB.toList || (mkB d).toList == maxB.toList) = true := by
    intro h
    rw [ByteArray.toList_eq, ByteArray.toList_eq, mkB_list, gtr_max hD.dig h]
    cases hq : Op.bytesLess maxB.data.toList d
    · rfl
    · exact absurd (.inr (.inr (.inr ⟨h, hq⟩))) hb
  have hend := hD.end_
  unfold Sm at hs
  refine PC.mk (ac_body tab_ok Tryd.func67 rfl (by kernel_rfl) rfl ?_); intro w0 M μ0; simp only [Tryd.ntmps67, List.length_cons, List.length_nil, Nat.reduceAdd, Nat.reduceSub, numb]
  repeat' (first | ((first | apply o_do | apply d_do | apply d_yes rfl rfl rfl); exact lsq) | refine a_seq ?_ | refine a_region ?_ | refine o_nil ?_ | refine a_block ?_ | refine a_ret ?_ | refine a_exit ?_ | refine a_skip ?_ | refine a_draw mixed ?_ | refine d_nil (by kernel_rfl) ?_ | refine o_yes rfl rfl rfl ?_ | refine o_no rfl rfl rfl (by decide) ?_ | refine o_no' rfl rfl rfl ?_ | refine a_condT rfl ?_ | refine a_condF rfl ?_ | refine d_no rfl rfl rfl (by decide) ?_ | refine d_no' rfl rfl rfl ?_ | (refine wq2 (fun hb => ?_) (fun hb => ?_) <;> (simp only [hb]; try simp only [hbs, ne_eq] at hb; try (exfalso; first | omega | exact hb trivial))) | fail)
  refine a_loop (X := {q : Nat // q ≤ d.length}) (fun p => ⟨[(0, .v (.string s)), (5, .v (.int .i64 p.1))], []⟩) (fun p => d.length - p.1) ⟨0, Nat.zero_le _⟩ ?_ ?_
  · refine ⟨by repeat' (first | exact trivial | exact FinA.one (FinB.cell (FinC.same rfl)) | exact FinA.one (FinB.cell FinC.nil) | exact FinA.bound rfl | exact FinA.one (FinB.cell (FinC.own rfl rfl rfl rfl)) | exact FinA.one (FinB.cell (FinC.v (by first | rfl | (simp)))) | exact FinA.one (FinB.cell (FinC.ow rfl (by first | rfl | (simp)))) | exact FinA.one (FinB.agg' rfl rfl) | refine ⟨⟨_, rfl, ?_⟩, ?_⟩), by repeat' (first | exact trivial | refine ⟨⟨_, rfl, by first | rfl | (simp; done) | (simp [renO, *]; done)⟩, by first | rfl | assumption, ?_⟩), rfl⟩
  rintro ⟨q, hq⟩
  dsimp only
  by_cases hlt : q < d.length
  · obtain ⟨hqs, hqe⟩ := hD.at_ hlt
    have hdg := isD_iff.1 (hD.dig d[q] (List.getElem_mem hlt))
    rw [← hqe] at hdg
    repeat' (first | ((first | apply o_do | apply d_do | apply d_yes rfl rfl rfl); first | exact ls_index_str (q := q) tab_ok rfl rfl rfl rfl hqs rfl | exact lsq) | refine a_seq ?_ | refine a_region ?_ | refine o_nil ?_ | refine a_block ?_ | refine a_ret ?_ | refine a_exit ?_ | refine a_skip ?_ | refine a_draw mixed ?_ | refine d_nil (by kernel_rfl) ?_ | refine o_yes rfl rfl rfl ?_ | refine o_no rfl rfl rfl (by decide) ?_ | refine o_no' rfl rfl rfl ?_ | refine a_condT rfl ?_ | refine a_condF rfl ?_ | refine d_no rfl rfl rfl (by decide) ?_ | refine d_no' rfl rfl rfl ?_ | (refine wq2 (fun hb => ?_) (fun hb => ?_) <;> (simp only [hb]; try simp only [hbs, ne_eq] at hb; try (exfalso; first | omega | exact hb trivial))) | fail)
    refine ⟨⟨q + 1, by omega⟩, by dsimp only; omega, ?_⟩
    refine ⟨by repeat' (first | exact trivial | exact FinA.one (FinB.cell (FinC.same rfl)) | exact FinA.one (FinB.cell FinC.nil) | exact FinA.bound rfl | exact FinA.one (FinB.cell (FinC.own rfl rfl rfl rfl)) | exact FinA.one (FinB.cell (FinC.v (by first | rfl | (simp)))) | exact FinA.one (FinB.cell (FinC.ow rfl (by first | rfl | (simp)))) | exact FinA.one (FinB.agg' rfl rfl) | refine ⟨⟨_, rfl, ?_⟩, ?_⟩), by repeat' (first | exact trivial | refine ⟨⟨_, rfl, by first | rfl | (simp; done) | (simp [renO, *]; done)⟩, by first | rfl | assumption, ?_⟩), rfl⟩
  · obtain rfl : q = d.length := by omega
    have hv : s.size = d.length ∨ ∃ hs : d.length < s.size, (s[d.length].toNat < 48 ∨ 57 < s[d.length].toNat) := by
      rcases hend with h | ⟨h, h2⟩
      · exact .inl h
      · refine .inr ⟨h, ?_⟩
        have : ¬ (48 ≤ s[d.length].toNat ∧ s[d.length].toNat ≤ 57) := fun h3 => by rw [isD_iff.2 h3] at h2; cases h2
        omega
    have hn3 : d.length ≤ 1 ∨ ¬ ((s[0].toNat : Int) = 48) := by
      by_cases h1 : 1 < d.length
      · exact .inr (n3 h1)
      · exact .inl (by omega)
    rw [← hx] at n4
    unfold maxB at n4
    obtain ⟨D, hDD⟩ : ∃ D, s.extract 0 d.length = D := ⟨_, rfl⟩
    have hDg : Dg D d [] := ⟨by rw [← hDD, hx, mkB_list, List.append_nil], hD.dig, fun _ _ h => nomatch h⟩
    refine a_brk ⟨[(0, .v (.string s)), (5, .v (.int .i64 d.length))], []⟩ ?_ ?_
    · rcases hv with he | ⟨he, hv⟩
      all_goals
        repeat' (first | ((first | apply o_do | apply d_do | apply d_yes rfl rfl rfl); first | exact ls_index_str (q := d.length) tab_ok rfl rfl rfl rfl he rfl | exact lsq) | refine a_seq ?_ | refine a_region ?_ | refine o_nil ?_ | refine a_block ?_ | refine a_ret ?_ | refine a_exit ?_ | refine a_skip ?_ | refine a_draw mixed ?_ | refine d_nil (by kernel_rfl) ?_ | refine o_yes rfl rfl rfl ?_ | refine o_no rfl rfl rfl (by decide) ?_ | refine o_no' rfl rfl rfl ?_ | refine a_condT rfl ?_ | refine a_condF rfl ?_ | refine d_no rfl rfl rfl (by decide) ?_ | refine d_no' rfl rfl rfl ?_ | (refine wq2 (fun hb => ?_) (fun hb => ?_) <;> (simp only [hb]; try simp only [hbs, ne_eq] at hb; try (exfalso; first | omega | exact hb trivial))) | fail)
        all_goals refine ⟨rfl, ?_⟩
        all_goals refine ⟨by repeat' (first | exact trivial | exact FinA.one (FinB.cell (FinC.same rfl)) | exact FinA.one (FinB.cell FinC.nil) | exact FinA.bound rfl | exact FinA.one (FinB.cell (FinC.own rfl rfl rfl rfl)) | exact FinA.one (FinB.cell (FinC.v (by first | rfl | (simp)))) | exact FinA.one (FinB.cell (FinC.ow rfl (by first | rfl | (simp)))) | exact FinA.one (FinB.agg' rfl rfl) | refine ⟨⟨_, rfl, ?_⟩, ?_⟩), by repeat' (first | exact trivial | refine ⟨⟨_, rfl, by first | rfl | (simp; done) | (simp [renO, *]; done)⟩, by first | rfl | assumption, ?_⟩), rfl⟩
    by_cases h19 : d.length = 19
    all_goals
      first
        | have hL := n4 h19
        | skip
      repeat' (first | ((first | apply o_do | apply d_do | apply d_yes rfl rfl rfl); first | exact ls_index_str (q := 0) tab_ok rfl rfl rfl rfl s0 rfl | exact ls_strTo (n := d.length) tab_ok rfl rfl rfl rfl (by omega) rfl | exact lsq) | refine a_seq ?_ | refine a_region ?_ | refine o_nil ?_ | refine a_block ?_ | refine a_ret ?_ | refine a_exit ?_ | refine a_skip ?_ | refine a_draw mixed ?_ | refine d_nil (by kernel_rfl) ?_ | refine o_yes rfl rfl rfl ?_ | refine o_no rfl rfl rfl (by decide) ?_ | refine o_no' rfl rfl rfl ?_ | refine a_condT rfl ?_ | refine a_condF rfl ?_ | refine d_no rfl rfl rfl (by decide) ?_ | refine d_no' rfl rfl rfl ?_ | (refine wq2 (fun hb => ?_) (fun hb => ?_) <;> (simp only [hb]; try simp only [hbs, ne_eq] at hb; try (exfalso; first | omega | exact hb trivial))) | fail)
      all_goals try (exfalso; rw [hL] at hb; cases hb; done)
      all_goals try (exfalso; first | omega | (exact n0 (Int.ofNat.inj hb); done) | (have hb' := hb; simp only [hDD] at hb'; simp only [hDD] at hL; rw [hL] at hb'; cases hb'; done) | (rw [hb] at hL; cases hL; done))
      all_goals
        refine a_loop (X := {k : Nat // k ≤ d.length}) (fun p => ⟨[(0, .v (.string s)), (5, .v (.int .i64 d.length)), (6, .v (.string D)), (7, .v (.int .i64 (valF 0 (d.take p.1) : Nat))), (8, .v (.int .i64 p.1))], []⟩) (fun p => d.length - p.1) ⟨0, Nat.zero_le _⟩ ?_ ?_
        · refine ⟨by repeat' (first | exact trivial | exact FinA.one (FinB.cell (FinC.same rfl)) | exact FinA.one (FinB.cell FinC.nil) | exact FinA.bound rfl | exact FinA.one (FinB.cell (FinC.own rfl rfl rfl rfl)) | exact FinA.one (FinB.cell (FinC.v (by first | rfl | ((first | (simp only [hDD]; done) | (simp [valF]; done) | simp))))) | exact FinA.one (FinB.cell (FinC.ow rfl (by first | rfl | ((first | (simp only [hDD]; done) | (simp [valF]; done) | simp))))) | exact FinA.one (FinB.agg' rfl rfl) | refine ⟨⟨_, rfl, ?_⟩, ?_⟩), by repeat' (first | exact trivial | refine ⟨⟨_, rfl, by first | rfl | ((first | (simp only [hDD]; done) | (simp [valF]; done) | simp); done) | (simp [renO, *]; done)⟩, by first | rfl | assumption, ?_⟩), rfl⟩
        rintro ⟨k, hk⟩
        dsimp only
        by_cases hkl : k < d.length
        · obtain ⟨hks, hke⟩ := hDg.at_ hkl
          have hdg := isD_iff.1 (hD.dig d[k] (List.getElem_mem hkl))
          rw [← hke] at hdg
          have ht : valF 0 (d.take (k + 1)) = valF 0 (d.take k) * 10 + (D[k].toNat - 48) := by
            rw [List.take_succ_eq_append_getElem hkl, valF_snoc, hke]
          have hle : valF 0 (d.take (k + 1)) ≤ valF 0 d := by
            have h1 := valF_app 0 (d.take (k + 1)) (d.drop (k + 1))
            rw [List.take_append_drop] at h1
            rw [h1]; exact valF_ge _ _
          have hval : IntKind.i64.wrap (IntKind.i64.wrap (10 * ((valF 0 (d.take k) : Nat) : Int)) + IntKind.i64.wrap (IntKind.u8.wrap ((D[k].toNat : Int) - 48))) = ((valF 0 (d.take (k + 1)) : Nat) : Int) :=
            step_val _ _ _ hdg.1 hdg.2 ht (Nat.le_trans hle hM)
          repeat' (first | ((first | apply o_do | apply d_do | apply d_yes rfl rfl rfl); first | exact ls_index_str (q := k) tab_ok rfl rfl rfl rfl hks rfl | exact ls_conv tab_ok rfl Tryd.underlying5 Tryd.underlying2 rfl | exact lsq) | refine a_seq ?_ | refine a_region ?_ | refine o_nil ?_ | refine a_block ?_ | refine a_ret ?_ | refine a_exit ?_ | refine a_skip ?_ | refine a_draw mixed ?_ | refine d_nil (by kernel_rfl) ?_ | refine o_yes rfl rfl rfl ?_ | refine o_no rfl rfl rfl (by decide) ?_ | refine o_no' rfl rfl rfl ?_ | refine a_condT rfl ?_ | refine a_condF rfl ?_ | refine d_no rfl rfl rfl (by decide) ?_ | refine d_no' rfl rfl rfl ?_ | (refine wq2 (fun hb => ?_) (fun hb => ?_) <;> (simp only [hb]; try simp only [hbs, ne_eq] at hb; try (exfalso; first | omega | exact hb trivial))) | fail)
          refine ⟨⟨k + 1, by omega⟩, by dsimp only; omega, ?_⟩
          refine ⟨by repeat' (first | exact trivial | exact FinA.one (FinB.cell (FinC.same rfl)) | exact FinA.one (FinB.cell FinC.nil) | exact FinA.bound rfl | exact FinA.one (FinB.cell (FinC.own rfl rfl rfl rfl)) | exact FinA.one (FinB.cell (FinC.v (by first | rfl | ((first | (simp only [hval]; done) | simp))))) | exact FinA.one (FinB.cell (FinC.ow rfl (by first | rfl | ((first | (simp only [hval]; done) | simp))))) | exact FinA.one (FinB.agg' rfl rfl) | refine ⟨⟨_, rfl, ?_⟩, ?_⟩), by repeat' (first | exact trivial | refine ⟨⟨_, rfl, by first | rfl | ((first | (simp only [hval]; done) | simp); done) | (simp [renO, *]; done)⟩, by first | rfl | assumption, ?_⟩), rfl⟩
        · obtain rfl : k = d.length := by omega
          rw [List.take_length]
          repeat' (first | ((first | apply o_do | apply d_do | apply d_yes rfl rfl rfl); first | exact ls_strFrom (n := d.length) tab_ok rfl rfl rfl rfl (by omega) rfl | exact lsq) | refine a_seq ?_ | refine a_region ?_ | refine o_nil ?_ | refine a_block ?_ | refine a_ret ?_ | refine a_exit ?_ | refine a_skip ?_ | refine a_draw mixed ?_ | refine d_nil (by kernel_rfl) ?_ | refine o_yes rfl rfl rfl ?_ | refine o_no rfl rfl rfl (by decide) ?_ | refine o_no' rfl rfl rfl ?_ | refine a_condT rfl ?_ | refine a_condF rfl ?_ | refine d_no rfl rfl rfl (by decide) ?_ | refine d_no' rfl rfl rfl ?_ | (refine wq2 (fun hb => ?_) (fun hb => ?_) <;> (simp only [hb]; try simp only [hbs, ne_eq] at hb; try (exfalso; first | omega | exact hb trivial))) | fail)
          all_goals refine ⟨by first | exact .inr rfl | exact .inl rfl, _, rfl, ?_, by repeat' (first | exact trivial | refine ⟨⟨_, rfl, by first | rfl | (simp [renO, *]; done)⟩, by first | rfl | assumption, ?_⟩)⟩
          all_goals (first | refine FinA.tup ?_ | refine FinA.one ?_); repeat' (first | exact FinBs.nil | exact FinCs.nil | refine FinBs.cons ?_ ?_ | refine FinCs.cons ?_ ?_ | refine FinB.cell (FinC.v ?_) | refine FinB.cell (FinC.own rfl rfl rfl ?_) | exact FinB.cell FinC.nil | refine FinB.cell (FinC.sl ?_) | exact FinB.agg' rfl rfl | exact FinB.cell (FinC.same rfl) | refine FinB.agg ?_ | refine FinC.v ?_ | refine FinC.own rfl rfl rfl ?_ | exact FinC.nil | refine FinC.sl ?_ | exact FinC.same rfl); all_goals try rfl
          all_goals rw [hy]
end Go.Proofs.YthlimflfglkpiaaDoor
