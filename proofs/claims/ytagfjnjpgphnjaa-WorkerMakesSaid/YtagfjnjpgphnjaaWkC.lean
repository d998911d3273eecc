/-
  Rows that are cloned: of groups, of what workers are made of.
-/
import Derived.Test.YtagfjnjpgphnjaaWkP
namespace Go.Proofs.Ytagfjnjpgphnjaa
open Go.RowKit
set_option linter.unusedSimpArgs false
set_option linter.unusedVariables false
section
attribute [local go_sem ↓] Go.wp_at_zero Go.wp_at_succ
theorem info_Grp : (Try.prog.info? 44).map (fun i => (i.zero, i.size, i.bytes)) = some (some (.agg #[.int .i64 0, .int .i64 0, .slice none 0 0]), 3, 40) := by kernel_rfl
set_option maxRecDepth 10000 in
theorem clone_Grp (A : Option Addr) (n c : Nat) (us : List Value) (w : World) (hr : Reads w w.heap.size 3 A n us) (h1 : ∀ u ∈ us, u.oneCell' = true) (hn : n ≤ 1000000) :
    Calls Try.prog 15 #[.slice A n c] w fun e w' => ∃ y, e = .returned y ∧ w'.ownsRow w.heap.size 44 3 y n us ∧ Below w.heap.size w w' := by
  cases A with
  | none =>
    have h0 : n = 0 := by
      rcases Nat.eq_zero_or_pos n with h | h
      · exact h
      · obtain ⟨b, off, h, _⟩ := hr.2 h; cases h
    subst h0
    have hx : us = [] := List.length_eq_zero_iff.1 (by simpa using hr.1)
    subst hx
    have hq := fun w => Lib.run_eql_slice_nil (P := Try.prog) w 24 44 none 0 c 0 0 Try.underlying24
    simp only [Option.isNone_none] at hq
    go_enter Try.func15, Try.ntmps15
    go_wp2
    go_ret
    exact ⟨_, rfl, own_nil, by repeat (first | assumption | exact Below.refl _ _ | refine Gr.drew ?_ | refine Gr.drewN ?_ _ | refine Gr.alloc ?_ _ | refine Gr.set_ ?_ (by first | (simp; done) | assumption | omega | (simp; omega)) _)⟩
  | some ad =>
    have hq := fun w => Lib.run_eql_slice_nil (P := Try.prog) w 24 44 (some ad) n c 0 0 Try.underlying24
    simp only [Option.isNone_some] at hq
    go_enter Try.func15, Try.ntmps15
    go_wp2_with (at_builtin; refine app_any (.tmp 5) (.tmp 6) rfl rfl Try.underlying24 info_Grp rfl (by omega) (by rfl) (own_new (Blk.new _ _ _) (Nat.le_refl _) : World.ownsRow _ w.heap.size _ _ _ _ _) (by rfl) (hr.alloc (Nat.le_refl _) _) h1 n us (Nat.zero_add _) (List.nil_append _) (by omega) (by omega) (by simp) ?_; intro A1 c1 w1 ho1 hg1 h1 h2; have hb := grow_own (a := w) (by repeat (first | assumption | exact Below.refl _ _ | refine Gr.drew ?_ | refine Gr.drewN ?_ _ | refine Gr.alloc ?_ _ | refine Gr.set_ ?_ (by first | (simp; done) | assumption | omega | (simp; omega)) _)) hg1 (own_new (base := w.heap.size) (size := 3) (Blk.new _ _ _) (Nat.le_refl _)) (Nat.le_refl _))
    go_ret
    exact ⟨_, rfl, ho1, hb⟩
end
theorem okC_Grp : CallOK Try.prog 15 := ⟨_, Try.func15, by kernel_rfl, rfl⟩
theorem cl_Grp (xs : List (List AV)) (hx : xs.length ≤ 1000000) : AC Try.prog 15 [.sl 3 xs] [] (.own 0 xs.length) [(0, .row 44 3 xs)] := by
  refine ac_own okC_Grp fun w A vs h => ?_
  simp only [repL, rep] at h
  obtain ⟨y, us', rfl, ⟨ad, c, us, rfl, h1, h2, h3, h4⟩, rfl⟩ := h
  have hr : Reads w w.heap.size 3 ad xs.length us := by
    refine ⟨repLL_len h4, fun hn => ?_⟩
    rcases h3 with rfl | ⟨b, off, e, _, h6, h7⟩
    · have := repLL_len h4
      simp only [List.length_nil] at this
      omega
    · exact ⟨b, off, e, h6, h7⟩
  refine (clone_Grp ad xs.length c us w hr (repLL_one h4) hx).mono ?_
  rintro r w' ⟨y, rfl, h5, h6⟩
  exact ⟨y, us, rfl, h5, h4, h6⟩
end Go.Proofs.Ytagfjnjpgphnjaa
