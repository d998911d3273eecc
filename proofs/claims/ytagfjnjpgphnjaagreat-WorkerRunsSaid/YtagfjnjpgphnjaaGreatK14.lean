/-
  Rows that are cloned: of groups, of what workers are made of.
  More of the text GrA.
  Workers, walked over abstract values: which groups may be, which workers; new ones, likeness.
  More of the text GrB.
-/
import Derived.Test.YtagfjnjpgphnjaaGreatK4
import Derived.Test.YtagfjnjpgphnjaaGreatK6
import Derived.Test.YtagfjnjpgphnjaaGreatK10
import Derived.Test.YtagfjnjpgphnjaaGreatK11
namespace Go.Proofs.YtagfjnjpgphnjaaGreat
open Go.RowKit
set_option linter.unusedSimpArgs false
set_option linter.unusedVariables false
section
attribute [local go_sem ↓] Go.wp_at_zero Go.wp_at_succ
theorem info_Grp : (Tryz.prog.info? 109).map (fun i => (i.zero, i.size, i.bytes)) = some (some (.agg #[.int .i64 0, .int .i64 0, .slice none 0 0]), 3, 40) := by kernel_rfl
set_option maxRecDepth 10000 in
theorem clone_Grp (A : Option Addr) (n c : Nat) (us : List Value) (w : World) (hr : Reads w w.heap.size 3 A n us) (h1 : ∀ u ∈ us, u.oneCell' = true) (hn : n ≤ 1000000) :
    Calls Tryz.prog 47 #[.slice A n c] w fun e w' => ∃ y, e = .returned y ∧ w'.ownsRow w.heap.size 109 3 y n us ∧ Below w.heap.size w w' := by
  cases A with
  | none =>
    have h0 : n = 0 := by
      rcases Nat.eq_zero_or_pos n with h | h
      · exact h
      · obtain ⟨b, off, h, _⟩ := hr.2 h; cases h
    subst h0
    have hx : us = [] := List.length_eq_zero_iff.1 (by simpa using hr.1)
    subst hx
    have hq := fun w => Lib.run_eql_slice_nil (P := Tryz.prog) w 32 109 none 0 c 0 0 Tryz.underlying32
    simp only [Option.isNone_none] at hq
    go_enter Tryz.func47, Tryz.ntmps47
    go_wp2
    go_ret
    exact ⟨_, rfl, own_nil, by repeat (first | assumption | exact Below.refl _ _ | refine Gr.drew ?_ | refine Gr.drewN ?_ _ | refine Gr.alloc ?_ _ | refine Gr.set_ ?_ (by first | (simp; done) | assumption | omega | (simp; omega)) _)⟩
  | some ad =>
    have hq := fun w => Lib.run_eql_slice_nil (P := Tryz.prog) w 32 109 (some ad) n c 0 0 Tryz.underlying32
    simp only [Option.isNone_some] at hq
    go_enter Tryz.func47, Tryz.ntmps47
    go_wp2_with (at_builtin; refine app_any (.tmp 5) (.tmp 6) rfl rfl Tryz.underlying32 info_Grp rfl (by omega) (by rfl) (own_new (Blk.new _ _ _) (Nat.le_refl _) : World.ownsRow _ w.heap.size _ _ _ _ _) (by rfl) (hr.alloc (Nat.le_refl _) _) h1 n us (Nat.zero_add _) (List.nil_append _) (by omega) (by omega) (by simp) ?_; intro A1 c1 w1 ho1 hg1 h1 h2; have hb := grow_own (a := w) (by repeat (first | assumption | exact Below.refl _ _ | refine Gr.drew ?_ | refine Gr.drewN ?_ _ | refine Gr.alloc ?_ _ | refine Gr.set_ ?_ (by first | (simp; done) | assumption | omega | (simp; omega)) _)) hg1 (own_new (base := w.heap.size) (size := 3) (Blk.new _ _ _) (Nat.le_refl _)) (Nat.le_refl _))
    go_ret
    exact ⟨_, rfl, ho1, hb⟩
end
theorem okC_Grp : CallOK Tryz.prog 47 := ⟨_, Tryz.func47, by kernel_rfl, rfl⟩
theorem cl_Grp (xs : List (List AV)) (hx : xs.length ≤ 1000000) : AC Tryz.prog 47 [.sl 3 xs] [] (.own 0 xs.length) [(0, .row 109 3 xs)] := by
  refine ac_own okC_Grp fun w A vs h => ?_
  simp only [repL, rep] at h
  obtain ⟨y, us', rfl, ⟨ad, c, us, rfl, h1, h2, h3, h4⟩, rfl⟩ := h
  have hr : Reads w w.heap.size 3 ad xs.length us := by
    refine ⟨repLL_len h4, fun hn => ?_⟩
    rcases h3 with rfl | ⟨b, off, e, _, h6, h7⟩
    · have := repLL_len h4
      simp only [List.length_nil] at this
      omega
    · exact ⟨b, off, e, h6, h7⟩
  refine (clone_Grp ad xs.length c us w hr (repLL_one h4) hx).mono ?_
  rintro r w' ⟨y, rfl, h5, h6⟩
  exact ⟨y, us, rfl, h5, h4, h6⟩
section
attribute [local go_sem ↓] Go.wp_at_zero Go.wp_at_succ
theorem info_Inp : (Tryz.prog.info? 189).map (fun i => (i.zero, i.size, i.bytes)) = some (some (.agg #[.int .i64 0, .bool false]), 2, 16) := by kernel_rfl
set_option maxRecDepth 10000 in
theorem clone_Inp (A : Option Addr) (n c : Nat) (us : List Value) (w : World) (hr : Reads w w.heap.size 2 A n us) (h1 : ∀ u ∈ us, u.oneCell' = true) (hn : n ≤ 1000000) :
    Calls Tryz.prog 188 #[.slice A n c] w fun e w' => ∃ y, e = .returned y ∧ w'.ownsRow w.heap.size 189 2 y n us ∧ Below w.heap.size w w' := by
  cases A with
  | none =>
    have h0 : n = 0 := by
      rcases Nat.eq_zero_or_pos n with h | h
      · exact h
      · obtain ⟨b, off, h, _⟩ := hr.2 h; cases h
    subst h0
    have hx : us = [] := List.length_eq_zero_iff.1 (by simpa using hr.1)
    subst hx
    have hq := fun w => Lib.run_eql_slice_nil (P := Tryz.prog) w 33 189 none 0 c 0 0 Tryz.underlying33
    simp only [Option.isNone_none] at hq
    go_enter Tryz.func188, Tryz.ntmps188
    go_wp2
    go_ret
    exact ⟨_, rfl, own_nil, by repeat (first | assumption | exact Below.refl _ _ | refine Gr.drew ?_ | refine Gr.drewN ?_ _ | refine Gr.alloc ?_ _ | refine Gr.set_ ?_ (by first | (simp; done) | assumption | omega | (simp; omega)) _)⟩
  | some ad =>
    have hq := fun w => Lib.run_eql_slice_nil (P := Tryz.prog) w 33 189 (some ad) n c 0 0 Tryz.underlying33
    simp only [Option.isNone_some] at hq
    go_enter Tryz.func188, Tryz.ntmps188
    go_wp2_with (at_builtin; refine app_any (.tmp 5) (.tmp 6) rfl rfl Tryz.underlying33 info_Inp rfl (by omega) (by rfl) (own_new (Blk.new _ _ _) (Nat.le_refl _) : World.ownsRow _ w.heap.size _ _ _ _ _) (by rfl) (hr.alloc (Nat.le_refl _) _) h1 n us (Nat.zero_add _) (List.nil_append _) (by omega) (by omega) (by simp) ?_; intro A1 c1 w1 ho1 hg1 h1 h2; have hb := grow_own (a := w) (by repeat (first | assumption | exact Below.refl _ _ | refine Gr.drew ?_ | refine Gr.drewN ?_ _ | refine Gr.alloc ?_ _ | refine Gr.set_ ?_ (by first | (simp; done) | assumption | omega | (simp; omega)) _)) hg1 (own_new (base := w.heap.size) (size := 2) (Blk.new _ _ _) (Nat.le_refl _)) (Nat.le_refl _))
    go_ret
    exact ⟨_, rfl, ho1, hb⟩
end
theorem okC_Inp : CallOK Tryz.prog 188 := ⟨_, Tryz.func188, by kernel_rfl, rfl⟩
theorem cl_Inp (xs : List (List AV)) (hx : xs.length ≤ 1000000) : AC Tryz.prog 188 [.sl 2 xs] [] (.own 0 xs.length) [(0, .row 189 2 xs)] := by
  refine ac_own okC_Inp fun w A vs h => ?_
  simp only [repL, rep] at h
  obtain ⟨y, us', rfl, ⟨ad, c, us, rfl, h1, h2, h3, h4⟩, rfl⟩ := h
  have hr : Reads w w.heap.size 2 ad xs.length us := by
    refine ⟨repLL_len h4, fun hn => ?_⟩
    rcases h3 with rfl | ⟨b, off, e, _, h6, h7⟩
    · have := repLL_len h4
      simp only [List.length_nil] at this
      omega
    · exact ⟨b, off, e, h6, h7⟩
  refine (clone_Inp ad xs.length c us w hr (repLL_one h4) hx).mono ?_
  rintro r w' ⟨y, rfl, h5, h6⟩
  exact ⟨y, us, rfl, h5, h4, h6⟩
section
attribute [local go_sem ↓] Go.wp_at_zero Go.wp_at_succ
theorem info_Hld : (Tryz.prog.info? 195).map (fun i => (i.zero, i.size, i.bytes)) = some (some (.agg #[.int .i64 0, .int .i64 0]), 2, 16) := by kernel_rfl
set_option maxRecDepth 10000 in
theorem clone_Hld (A : Option Addr) (n c : Nat) (us : List Value) (w : World) (hr : Reads w w.heap.size 2 A n us) (h1 : ∀ u ∈ us, u.oneCell' = true) (hn : n ≤ 1000000) :
    Calls Tryz.prog 189 #[.slice A n c] w fun e w' => ∃ y, e = .returned y ∧ w'.ownsRow w.heap.size 195 2 y n us ∧ Below w.heap.size w w' := by
  cases A with
  | none =>
    have h0 : n = 0 := by
      rcases Nat.eq_zero_or_pos n with h | h
      · exact h
      · obtain ⟨b, off, h, _⟩ := hr.2 h; cases h
    subst h0
    have hx : us = [] := List.length_eq_zero_iff.1 (by simpa using hr.1)
    subst hx
    have hq := fun w => Lib.run_eql_slice_nil (P := Tryz.prog) w 34 195 none 0 c 0 0 Tryz.underlying34
    simp only [Option.isNone_none] at hq
    go_enter Tryz.func189, Tryz.ntmps189
    go_wp2
    go_ret
    exact ⟨_, rfl, own_nil, by repeat (first | assumption | exact Below.refl _ _ | refine Gr.drew ?_ | refine Gr.drewN ?_ _ | refine Gr.alloc ?_ _ | refine Gr.set_ ?_ (by first | (simp; done) | assumption | omega | (simp; omega)) _)⟩
  | some ad =>
    have hq := fun w => Lib.run_eql_slice_nil (P := Tryz.prog) w 34 195 (some ad) n c 0 0 Tryz.underlying34
    simp only [Option.isNone_some] at hq
    go_enter Tryz.func189, Tryz.ntmps189
    go_wp2_with (at_builtin; refine app_any (.tmp 5) (.tmp 6) rfl rfl Tryz.underlying34 info_Hld rfl (by omega) (by rfl) (own_new (Blk.new _ _ _) (Nat.le_refl _) : World.ownsRow _ w.heap.size _ _ _ _ _) (by rfl) (hr.alloc (Nat.le_refl _) _) h1 n us (Nat.zero_add _) (List.nil_append _) (by omega) (by omega) (by simp) ?_; intro A1 c1 w1 ho1 hg1 h1 h2; have hb := grow_own (a := w) (by repeat (first | assumption | exact Below.refl _ _ | refine Gr.drew ?_ | refine Gr.drewN ?_ _ | refine Gr.alloc ?_ _ | refine Gr.set_ ?_ (by first | (simp; done) | assumption | omega | (simp; omega)) _)) hg1 (own_new (base := w.heap.size) (size := 2) (Blk.new _ _ _) (Nat.le_refl _)) (Nat.le_refl _))
    go_ret
    exact ⟨_, rfl, ho1, hb⟩
end
theorem okC_Hld : CallOK Tryz.prog 189 := ⟨_, Tryz.func189, by kernel_rfl, rfl⟩
theorem cl_Hld (xs : List (List AV)) (hx : xs.length ≤ 1000000) : AC Tryz.prog 189 [.sl 2 xs] [] (.own 0 xs.length) [(0, .row 195 2 xs)] := by
  refine ac_own okC_Hld fun w A vs h => ?_
  simp only [repL, rep] at h
  obtain ⟨y, us', rfl, ⟨ad, c, us, rfl, h1, h2, h3, h4⟩, rfl⟩ := h
  have hr : Reads w w.heap.size 2 ad xs.length us := by
    refine ⟨repLL_len h4, fun hn => ?_⟩
    rcases h3 with rfl | ⟨b, off, e, _, h6, h7⟩
    · have := repLL_len h4
      simp only [List.length_nil] at this
      omega
    · exact ⟨b, off, e, h6, h7⟩
  refine (clone_Hld ad xs.length c us w hr (repLL_one h4) hx).mono ?_
  rintro r w' ⟨y, rfl, h5, h6⟩
  exact ⟨y, us, rfl, h5, h4, h6⟩
section
attribute [local go_sem ↓] Go.wp_at_zero Go.wp_at_succ
theorem info_Boo : (Tryz.prog.info? 4).map (fun i => (i.zero, i.size, i.bytes)) = some (some (.bool false), 1, 1) := by kernel_rfl
set_option maxRecDepth 10000 in
theorem clone_Boo (A : Option Addr) (n c : Nat) (us : List Value) (w : World) (hr : Reads w w.heap.size 1 A n us) (h1 : ∀ u ∈ us, u.oneCell' = true) (hn : n ≤ 1000000) :
    Calls Tryz.prog 145 #[.slice A n c] w fun e w' => ∃ y, e = .returned y ∧ w'.ownsRow w.heap.size 4 1 y n us ∧ Below w.heap.size w w' := by
  cases A with
  | none =>
    have h0 : n = 0 := by
      rcases Nat.eq_zero_or_pos n with h | h
      · exact h
      · obtain ⟨b, off, h, _⟩ := hr.2 h; cases h
    subst h0
    have hx : us = [] := List.length_eq_zero_iff.1 (by simpa using hr.1)
    subst hx
    have hq := fun w => Lib.run_eql_slice_nil (P := Tryz.prog) w 37 4 none 0 c 0 0 Tryz.underlying37
    simp only [Option.isNone_none] at hq
    go_enter Tryz.func145, Tryz.ntmps145
    go_wp2
    go_ret
    exact ⟨_, rfl, own_nil, by repeat (first | assumption | exact Below.refl _ _ | refine Gr.drew ?_ | refine Gr.drewN ?_ _ | refine Gr.alloc ?_ _ | refine Gr.set_ ?_ (by first | (simp; done) | assumption | omega | (simp; omega)) _)⟩
  | some ad =>
    have hq := fun w => Lib.run_eql_slice_nil (P := Tryz.prog) w 37 4 (some ad) n c 0 0 Tryz.underlying37
    simp only [Option.isNone_some] at hq
    go_enter Tryz.func145, Tryz.ntmps145
    go_wp2_with (at_builtin; refine app_any (.tmp 5) (.tmp 6) rfl rfl Tryz.underlying37 info_Boo rfl (by omega) (by rfl) (own_new (Blk.new _ _ _) (Nat.le_refl _) : World.ownsRow _ w.heap.size _ _ _ _ _) (by rfl) (hr.alloc (Nat.le_refl _) _) h1 n us (Nat.zero_add _) (List.nil_append _) (by omega) (by omega) (by simp) ?_; intro A1 c1 w1 ho1 hg1 h1 h2; have hb := grow_own (a := w) (by repeat (first | assumption | exact Below.refl _ _ | refine Gr.drew ?_ | refine Gr.drewN ?_ _ | refine Gr.alloc ?_ _ | refine Gr.set_ ?_ (by first | (simp; done) | assumption | omega | (simp; omega)) _)) hg1 (own_new (base := w.heap.size) (size := 1) (Blk.new _ _ _) (Nat.le_refl _)) (Nat.le_refl _))
    go_ret
    exact ⟨_, rfl, ho1, hb⟩
end
theorem okC_Boo : CallOK Tryz.prog 145 := ⟨_, Tryz.func145, by kernel_rfl, rfl⟩
theorem cl_Boo (xs : List (List AV)) (hx : xs.length ≤ 1000000) : AC Tryz.prog 145 [.sl 1 xs] [] (.own 0 xs.length) [(0, .row 4 1 xs)] := by
  refine ac_own okC_Boo fun w A vs h => ?_
  simp only [repL, rep] at h
  obtain ⟨y, us', rfl, ⟨ad, c, us, rfl, h1, h2, h3, h4⟩, rfl⟩ := h
  have hr : Reads w w.heap.size 1 ad xs.length us := by
    refine ⟨repLL_len h4, fun hn => ?_⟩
    rcases h3 with rfl | ⟨b, off, e, _, h6, h7⟩
    · have := repLL_len h4
      simp only [List.length_nil] at this
      omega
    · exact ⟨b, off, e, h6, h7⟩
  refine (clone_Boo ad xs.length c us w hr (repLL_one h4) hx).mono ?_
  rintro r w' ⟨y, rfl, h5, h6⟩
  exact ⟨y, us, rfl, h5, h4, h6⟩
section
attribute [local go_sem ↓] Go.wp_at_zero Go.wp_at_succ
theorem info_Its : (Tryz.prog.info? 53).map (fun i => (i.zero, i.size, i.bytes)) = some (some (.slice none 0 0), 1, 24) := by kernel_rfl
set_option maxRecDepth 10000 in
theorem clone_Its (A : Option Addr) (n c : Nat) (us : List Value) (w : World) (hr : Reads w w.heap.size 1 A n us) (h1 : ∀ u ∈ us, u.oneCell' = true) (hn : n ≤ 1000000) :
    Calls Tryz.prog 146 #[.slice A n c] w fun e w' => ∃ y, e = .returned y ∧ w'.ownsRow w.heap.size 53 1 y n us ∧ Below w.heap.size w w' := by
  cases A with
  | none =>
    have h0 : n = 0 := by
      rcases Nat.eq_zero_or_pos n with h | h
      · exact h
      · obtain ⟨b, off, h, _⟩ := hr.2 h; cases h
    subst h0
    have hx : us = [] := List.length_eq_zero_iff.1 (by simpa using hr.1)
    subst hx
    have hq := fun w => Lib.run_eql_slice_nil (P := Tryz.prog) w 38 53 none 0 c 0 0 Tryz.underlying38
    simp only [Option.isNone_none] at hq
    go_enter Tryz.func146, Tryz.ntmps146
    go_wp2
    go_ret
    exact ⟨_, rfl, own_nil, by repeat (first | assumption | exact Below.refl _ _ | refine Gr.drew ?_ | refine Gr.drewN ?_ _ | refine Gr.alloc ?_ _ | refine Gr.set_ ?_ (by first | (simp; done) | assumption | omega | (simp; omega)) _)⟩
  | some ad =>
    have hq := fun w => Lib.run_eql_slice_nil (P := Tryz.prog) w 38 53 (some ad) n c 0 0 Tryz.underlying38
    simp only [Option.isNone_some] at hq
    go_enter Tryz.func146, Tryz.ntmps146
    go_wp2_with (at_builtin; refine app_any (.tmp 5) (.tmp 6) rfl rfl Tryz.underlying38 info_Its rfl (by omega) (by rfl) (own_new (Blk.new _ _ _) (Nat.le_refl _) : World.ownsRow _ w.heap.size _ _ _ _ _) (by rfl) (hr.alloc (Nat.le_refl _) _) h1 n us (Nat.zero_add _) (List.nil_append _) (by omega) (by omega) (by simp) ?_; intro A1 c1 w1 ho1 hg1 h1 h2; have hb := grow_own (a := w) (by repeat (first | assumption | exact Below.refl _ _ | refine Gr.drew ?_ | refine Gr.drewN ?_ _ | refine Gr.alloc ?_ _ | refine Gr.set_ ?_ (by first | (simp; done) | assumption | omega | (simp; omega)) _)) hg1 (own_new (base := w.heap.size) (size := 1) (Blk.new _ _ _) (Nat.le_refl _)) (Nat.le_refl _))
    go_ret
    exact ⟨_, rfl, ho1, hb⟩
end
theorem okC_Its : CallOK Tryz.prog 146 := ⟨_, Tryz.func146, by kernel_rfl, rfl⟩
theorem cl_Its (xs : List (List AV)) (hx : xs.length ≤ 1000000) : AC Tryz.prog 146 [.sl 1 xs] [] (.own 0 xs.length) [(0, .row 53 1 xs)] := by
  refine ac_own okC_Its fun w A vs h => ?_
  simp only [repL, rep] at h
  obtain ⟨y, us', rfl, ⟨ad, c, us, rfl, h1, h2, h3, h4⟩, rfl⟩ := h
  have hr : Reads w w.heap.size 1 ad xs.length us := by
    refine ⟨repLL_len h4, fun hn => ?_⟩
    rcases h3 with rfl | ⟨b, off, e, _, h6, h7⟩
    · have := repLL_len h4
      simp only [List.length_nil] at this
      omega
    · exact ⟨b, off, e, h6, h7⟩
  refine (clone_Its ad xs.length c us w hr (repLL_one h4) hx).mono ?_
  rintro r w' ⟨y, rfl, h5, h6⟩
  exact ⟨y, us, rfl, h5, h4, h6⟩
section
attribute [local go_sem ↓] Go.wp_at_zero Go.wp_at_succ
theorem info_Itm : (Tryz.prog.info? 63).map (fun i => (i.zero, i.size, i.bytes)) = some (some (.agg #[.int .i64 0, .string ByteArray.empty, .int .i64 0, .int .i64 0, .int .i64 0, .int .i64 0, .int .i64 0, .int .i64 0, .string ByteArray.empty, .int .i64 0, .int .i64 0]), 11, 104) := by kernel_rfl
set_option maxRecDepth 10000 in
theorem clone_Itm (A : Option Addr) (n c : Nat) (us : List Value) (w : World) (hr : Reads w w.heap.size 11 A n us) (h1 : ∀ u ∈ us, u.oneCell' = true) (hn : n ≤ 1000000) :
    Calls Tryz.prog 99 #[.slice A n c] w fun e w' => ∃ y, e = .returned y ∧ w'.ownsRow w.heap.size 63 11 y n us ∧ Below w.heap.size w w' := by
  cases A with
  | none =>
    have h0 : n = 0 := by
      rcases Nat.eq_zero_or_pos n with h | h
      · exact h
      · obtain ⟨b, off, h, _⟩ := hr.2 h; cases h
    subst h0
    have hx : us = [] := List.length_eq_zero_iff.1 (by simpa using hr.1)
    subst hx
    have hq := fun w => Lib.run_eql_slice_nil (P := Tryz.prog) w 53 63 none 0 c 0 0 Tryz.underlying53
    simp only [Option.isNone_none] at hq
    go_enter Tryz.func99, Tryz.ntmps99
    go_wp2
    go_ret
    exact ⟨_, rfl, own_nil, by repeat (first | assumption | exact Below.refl _ _ | refine Gr.drew ?_ | refine Gr.drewN ?_ _ | refine Gr.alloc ?_ _ | refine Gr.set_ ?_ (by first | (simp; done) | assumption | omega | (simp; omega)) _)⟩
  | some ad =>
    have hq := fun w => Lib.run_eql_slice_nil (P := Tryz.prog) w 53 63 (some ad) n c 0 0 Tryz.underlying53
    simp only [Option.isNone_some] at hq
    go_enter Tryz.func99, Tryz.ntmps99
    go_wp2_with (at_builtin; refine app_any (.tmp 5) (.tmp 6) rfl rfl Tryz.underlying53 info_Itm rfl (by omega) (by rfl) (own_new (Blk.new _ _ _) (Nat.le_refl _) : World.ownsRow _ w.heap.size _ _ _ _ _) (by rfl) (hr.alloc (Nat.le_refl _) _) h1 n us (Nat.zero_add _) (List.nil_append _) (by omega) (by omega) (by simp) ?_; intro A1 c1 w1 ho1 hg1 h1 h2; have hb := grow_own (a := w) (by repeat (first | assumption | exact Below.refl _ _ | refine Gr.drew ?_ | refine Gr.drewN ?_ _ | refine Gr.alloc ?_ _ | refine Gr.set_ ?_ (by first | (simp; done) | assumption | omega | (simp; omega)) _)) hg1 (own_new (base := w.heap.size) (size := 11) (Blk.new _ _ _) (Nat.le_refl _)) (Nat.le_refl _))
    go_ret
    exact ⟨_, rfl, ho1, hb⟩
end
theorem okC_Itm : CallOK Tryz.prog 99 := ⟨_, Tryz.func99, by kernel_rfl, rfl⟩
theorem cl_Itm (xs : List (List AV)) (hx : xs.length ≤ 1000000) : AC Tryz.prog 99 [.sl 11 xs] [] (.own 0 xs.length) [(0, .row 63 11 xs)] := by
  refine ac_own okC_Itm fun w A vs h => ?_
  simp only [repL, rep] at h
  obtain ⟨y, us', rfl, ⟨ad, c, us, rfl, h1, h2, h3, h4⟩, rfl⟩ := h
  have hr : Reads w w.heap.size 11 ad xs.length us := by
    refine ⟨repLL_len h4, fun hn => ?_⟩
    rcases h3 with rfl | ⟨b, off, e, _, h6, h7⟩
    · have := repLL_len h4
      simp only [List.length_nil] at this
      omega
    · exact ⟨b, off, e, h6, h7⟩
  refine (clone_Itm ad xs.length c us w hr (repLL_one h4) hx).mono ?_
  rintro r w' ⟨y, rfl, h5, h6⟩
  exact ⟨y, us, rfl, h5, h4, h6⟩
end Go.Proofs.YtagfjnjpgphnjaaGreat
namespace Go.Proofs.YtagfjnjpgphnjaaGreat
open Go.RowKit
set_option linter.unusedSimpArgs false
set_option linter.unusedVariables false
theorem ridx_closed (mark : Int) (ps : List Pn) : (!decide (0 ≤ ridx (closed mark) ps)) = ps.all fun p => decide (mark < p.hi) := by
  have e : (ps.all fun p => decide (mark < p.hi)) = ps.all fun p => !closed mark p := by
    congr 1
    funext p
    have h1 : decide (mark < p.hi) = !decide (p.hi ≤ mark) := by
      by_cases h : p.hi ≤ mark
      · have : ¬ mark < p.hi := by omega
        simp [h, this]
      · have : mark < p.hi := by omega
        simp [h, this]
    exact h1
  rw [e]
  cases h : ps.all fun p => !closed mark p
  · unfold ridx
    have hlt : fidx (closed mark) ps < ps.length := by
      rcases Nat.lt_or_ge (fidx (closed mark) ps) ps.length with h1 | h1
      · exact h1
      · exfalso
        have h2 : (ps.takeWhile fun x => !closed mark x) = ps := by
          have h3 := List.takeWhile_sublist (l := ps) (fun x => !closed mark x)
          exact h3.eq_of_length (by unfold fidx at h1; have := h3.length_le; omega)
        have h4 : (ps.all fun p => !closed mark p) = true := by
          have := List.all_takeWhile (p := fun x => !closed mark x) (l := ps)
          rwa [h2] at this
        rw [h] at h4; cases h4
    rw [if_pos hlt]; simp
  · rw [ridx_all h]; simp
theorem c_GR1 (no mark : Int) (ps : List Pn) (lo hi : Int) (k : ByteArray) (n a b : Int) : AC Tryz.prog 129 [.agg [.v (.int .i64 lo), .v (.int .i64 hi), .v (.string k), .v (.int .i64 n), .v (.int .i64 a), .v (.int .i64 b)], .ref 0 0] [(0, .box 109 [.v (.int .i64 no), .v (.int .i64 mark), .sl 6 (ps.map Pn.av)])] (.v (.bool (closed mark ⟨lo, hi, k, n, a, b⟩))) [(0, .box 109 [.v (.int .i64 no), .v (.int .i64 mark), .sl 6 (ps.map Pn.av)])] := by
  refine (ac_body tab_ok Tryz.func129 rfl (by kernel_rfl) rfl ?_); intro w0 M μ0; simp only [Tryz.ntmps129, List.length_cons, List.length_nil, Nat.reduceAdd, Nat.reduceSub, numb]
  repeat' (first | ((first | apply o_do | apply d_do | apply d_yes rfl rfl rfl); first | exact lsc ((p_Closed _ _ _)) | exact lsq) | refine a_seq ?_ | refine a_region ?_ | refine o_nil ?_ | refine a_block ?_ | refine a_ret ?_ | refine a_exit ?_ | refine a_skip ?_ | refine a_draw mixed ?_ | refine d_nil (by kernel_rfl) ?_ | refine o_yes rfl rfl rfl ?_ | refine o_no rfl rfl rfl (by decide) ?_ | refine o_no' rfl rfl rfl ?_ | refine a_condT rfl ?_ | refine a_condF rfl ?_ | refine d_no rfl rfl rfl (by decide) ?_ | refine d_no' rfl rfl rfl ?_ | (refine wq2 (fun hb => ?_) (fun hb => ?_) <;> (simp only [hb]; try simp only [hbs, ne_eq] at hb; try (exfalso; first | omega | exact hb trivial))) | fail)
  refine rq rfl ?_
  exact fnq
set_option maxHeartbeats 1000000 in
theorem g_Right (no mark : Int) (ps : List Pn) (hx : ps.length ≤ 9223372036854775807) : PC Tryz.prog 82 [.agg [.v (.int .i64 no), .v (.int .i64 mark), .sl 6 (ps.map Pn.av)]] (.v (.bool (grR no mark ps))) := by
  have hp := p_Right ps hx
  have hc := p_Contains 129 (closed mark) 109 [.v (.int .i64 no), .v (.int .i64 mark), .sl 6 (ps.map Pn.av)] rfl (fun ρ => rfl) (fun lo hi k n a b => c_GR1 no mark ps lo hi k n a b) ps hx
  have hr := ridx_closed mark ps
  refine PC.mk (ac_body tab_ok Tryz.func82 rfl (by kernel_rfl) rfl ?_); intro w0 M μ0; simp only [Tryz.ntmps82, List.length_cons, List.length_nil, Nat.reduceAdd, Nat.reduceSub, numb]
  repeat' (first | ((first | apply o_do | apply d_do | apply d_yes rfl rfl rfl); first | exact lsc (hp) | exact ls_callA [0] 1 hc rfl rfl (by (repeat' (first | exact NilL.nil | refine NilL.cons Nil.same ?_ | refine NilL.cons Nil.nil ?_ | refine NilL.cons (Nil.agg ?_) ?_ | exact Nil1s.nil | refine Nil1s.cons Nil1.same ?_ | refine Nil1s.cons Nil1.nil ?_)); first | done | fail) rfl (by repeat' (first | exact trivial | refine ⟨⟨_, rfl, by first | rfl | (simp [renO, *]; done)⟩, ?_⟩)) (by first | rfl | simp [closO, *]) rfl rfl rfl rfl (by first | rfl | simp [closO, *]) rfl | exact lsq) | refine a_seq ?_ | refine a_region ?_ | refine o_nil ?_ | refine a_block ?_ | refine a_ret ?_ | refine a_exit ?_ | refine a_skip ?_ | refine a_draw mixed ?_ | refine d_nil (by kernel_rfl) ?_ | refine o_yes rfl rfl rfl ?_ | refine o_no rfl rfl rfl (by decide) ?_ | refine o_no' rfl rfl rfl ?_ | refine a_condT rfl ?_ | refine a_condF rfl ?_ | refine d_no rfl rfl rfl (by decide) ?_ | refine d_no' rfl rfl rfl ?_ | (refine wq2 (fun hb => ?_) (fun hb => ?_) <;> (simp only [hb]; try simp only [hbs, ne_eq] at hb; try (exfalso; first | omega | exact hb trivial))) | fail)
  all_goals refine rq rfl ?_
  all_goals (first | refine FinA.tup ?_ | refine FinA.one ?_); repeat' (first | exact FinBs.nil | exact FinCs.nil | refine FinBs.cons ?_ ?_ | refine FinCs.cons ?_ ?_ | refine FinB.cell (FinC.v ?_) | refine FinB.cell (FinC.own rfl rfl rfl ?_) | exact FinB.cell FinC.nil | refine FinB.cell (FinC.sl ?_) | exact FinB.agg' rfl rfl | exact FinB.cell (FinC.same rfl) | refine FinB.agg ?_ | refine FinC.v ?_ | refine FinC.own rfl rfl rfl ?_ | exact FinC.nil | refine FinC.sl ?_ | exact FinC.same rfl); all_goals try rfl
  all_goals first
    | (simp [grR, *]; done)
    | (simp [grR, *]; omega)
    | (have a1 : 0 ≤ no := by omega
       have a2 : no < 32 := by omega
       have a3 : 0 ≤ mark := by omega
       have a4 : mark ≤ 1099511627776 := by omega
       simp [grR, *])
set_option maxHeartbeats 1000000 in
theorem g_rRight (no mark : Int) (ps : List Pn) (hx : ps.length ≤ 9223372036854775807) : PC Tryz.prog 162 [.agg [.v (.int .i64 no), .v (.int .i64 mark), .sl 6 (ps.map Pn.av)]] (.v (.bool (grR no mark ps))) := by
  have hp := p_rRight ps hx
  cases hpre : (decide (0 ≤ no) && (decide (no < 32) && (decide (0 ≤ mark) && (decide (mark ≤ 1099511627776) && rightL ps))))
  · have e : grR no mark ps = false := by
      unfold grR
      revert hpre
      cases decide (0 ≤ no) <;> cases decide (no < 32) <;> cases decide (0 ≤ mark) <;> cases decide (mark ≤ 1099511627776) <;> cases rightL ps <;> simp
    rw [e]
    simp only [Bool.and_eq_false_iff, decide_eq_false_iff_not] at hpre
    refine PC.mk (ac_body tab_ok Tryz.func162 rfl (by kernel_rfl) rfl ?_); intro w0 M μ0; simp only [Tryz.ntmps162, List.length_cons, List.length_nil, Nat.reduceAdd, Nat.reduceSub, numb]
    repeat' (first | ((first | apply o_do | apply d_do | apply d_yes rfl rfl rfl); first | exact lsc (hp) | exact lsq) | refine a_seq ?_ | refine a_region ?_ | refine o_nil ?_ | refine a_block ?_ | refine a_ret ?_ | refine a_exit ?_ | refine a_skip ?_ | refine a_draw mixed ?_ | refine d_nil (by kernel_rfl) ?_ | refine o_yes rfl rfl rfl ?_ | refine o_no rfl rfl rfl (by decide) ?_ | refine o_no' rfl rfl rfl ?_ | refine a_condT rfl ?_ | refine a_condF rfl ?_ | refine d_no rfl rfl rfl (by decide) ?_ | refine d_no' rfl rfl rfl ?_ | (refine wq2 (fun hb => ?_) (fun hb => ?_) <;> (simp only [hb]; try simp only [hbs, ne_eq] at hb; try (exfalso; first | omega | exact hb trivial))) | fail)
    all_goals first
      | (refine rq rfl ?_; exact fnq; done)
      | skip
    exfalso
    rcases hpre with h | h | h | h | h
    · omega
    · omega
    · omega
    · omega
    · simp_all
  · simp only [Bool.and_eq_true, decide_eq_true_eq] at hpre
    obtain ⟨h1, h2, h3, h4, h5⟩ := hpre
    have e : grR no mark ps = ps.all fun p => decide (mark < p.hi) := by simp [grR, h1, h2, h3, h4, h5]
    rw [e]
    rw [h5] at hp
    refine PC.mk (ac_body tab_ok Tryz.func162 rfl (by kernel_rfl) rfl ?_); intro w0 M μ0; simp only [Tryz.ntmps162, List.length_cons, List.length_nil, Nat.reduceAdd, Nat.reduceSub, numb]
    repeat' (first | ((first | apply o_do | apply d_do | apply d_yes rfl rfl rfl); first | exact lsc (hp) | exact lsq) | refine a_seq ?_ | refine a_region ?_ | refine o_nil ?_ | refine a_block ?_ | refine a_ret ?_ | refine a_exit ?_ | refine a_skip ?_ | refine a_draw mixed ?_ | refine d_nil (by kernel_rfl) ?_ | refine o_yes rfl rfl rfl ?_ | refine o_no rfl rfl rfl (by decide) ?_ | refine o_no' rfl rfl rfl ?_ | refine a_condT rfl ?_ | refine a_condF rfl ?_ | refine d_no rfl rfl rfl (by decide) ?_ | refine d_no' rfl rfl rfl ?_ | (refine wq2 (fun hb => ?_) (fun hb => ?_) <;> (simp only [hb]; try simp only [hbs, ne_eq] at hb; try (exfalso; first | omega | exact hb trivial))) | fail)
    refine a_loop (X := {q : Nat // q ≤ ps.length ∧ ((ps.take q).all fun p => decide (mark < p.hi)) = true}) (fun x => ⟨[(1, .ref 0 0), (30, .sl 6 (ps.map Pn.av)), (31, .v (.int .i64 ps.length)), (32, .v (.int .i64 x.1))], [(0, .box 109 [.v (.int .i64 no), .v (.int .i64 mark), .sl 6 (ps.map Pn.av)])]⟩) (fun x => ps.length - x.1) ⟨0, Nat.zero_le _, by simp⟩ ?_ ?_
    · exact wkS
    rintro ⟨q, hq, hall⟩
    dsimp only
    by_cases hlt : q < ps.length
    · have hel : (ps.map Pn.av)[q]? = some (Pn.av ps[q]) := by simp [hlt]
      have hsn := take_snoc ps q hlt
      have hmem : ps[q] ∈ ps := List.getElem_mem hlt
      generalize ps[q] = x at *
      repeat' (first | ((first | apply o_do | apply d_do | apply d_yes rfl rfl rfl); first | exact ls_indexAddr_sl tab_ok rfl rfl rfl rfl (by assumption) rfl | exact lsq) | refine a_seq ?_ | refine a_region ?_ | refine o_nil ?_ | refine a_block ?_ | refine a_ret ?_ | refine a_exit ?_ | refine a_skip ?_ | refine a_draw mixed ?_ | refine d_nil (by kernel_rfl) ?_ | refine o_yes rfl rfl rfl ?_ | refine o_no rfl rfl rfl (by decide) ?_ | refine o_no' rfl rfl rfl ?_ | refine a_condT rfl ?_ | refine a_condF rfl ?_ | refine d_no rfl rfl rfl (by decide) ?_ | refine d_no' rfl rfl rfl ?_ | (refine wq2 (fun hb => ?_) (fun hb => ?_) <;> (simp only [hb]; try simp only [hbs, ne_eq] at hb; try (exfalso; first | omega | exact hb trivial))) | fail)
      · refine rq rfl ?_
        (first | refine FinA.tup ?_ | refine FinA.one ?_); repeat' (first | exact FinBs.nil | exact FinCs.nil | refine FinBs.cons ?_ ?_ | refine FinCs.cons ?_ ?_ | refine FinB.cell (FinC.v ?_) | refine FinB.cell (FinC.own rfl rfl rfl ?_) | exact FinB.cell FinC.nil | refine FinB.cell (FinC.sl ?_) | exact FinB.agg' rfl rfl | exact FinB.cell (FinC.same rfl) | refine FinB.agg ?_ | refine FinC.v ?_ | refine FinC.own rfl rfl rfl ?_ | exact FinC.nil | refine FinC.sl ?_ | exact FinC.same rfl); all_goals try rfl
        have : (ps.all fun p => decide (mark < p.hi)) = false := by
          rw [List.all_eq_false]
          exact ⟨x, hmem, by simp; omega⟩
        rw [this]
      · refine ⟨⟨q + 1, by omega, by rw [hsn, List.all_append, hall]; simp; omega⟩, by dsimp only; omega, ?_⟩
        exact wkS
    · obtain rfl : q = ps.length := by omega
      rw [List.take_length] at hall
      rw [hall]
      repeat' (first | ((first | apply o_do | apply d_do | apply d_yes rfl rfl rfl); exact lsq) | refine a_seq ?_ | refine a_region ?_ | refine o_nil ?_ | refine a_block ?_ | refine a_ret ?_ | refine a_exit ?_ | refine a_skip ?_ | refine a_draw mixed ?_ | refine d_nil (by kernel_rfl) ?_ | refine o_yes rfl rfl rfl ?_ | refine o_no rfl rfl rfl (by decide) ?_ | refine o_no' rfl rfl rfl ?_ | refine a_condT rfl ?_ | refine a_condF rfl ?_ | refine d_no rfl rfl rfl (by decide) ?_ | refine d_no' rfl rfl rfl ?_ | (refine wq2 (fun hb => ?_) (fun hb => ?_) <;> (simp only [hb]; try simp only [hbs, ne_eq] at hb; try (exfalso; first | omega | exact hb trivial))) | fail)
      refine rq rfl ?_
      exact fnq
theorem g_Job (g s d k fu li de id : Int) : PC Tryz.prog 158 [.agg [.v (.int .i64 g), .v (.int .i64 s), .v (.int .i64 d), .v (.int .i64 k), .v (.int .i64 fu), .v (.int .i64 li), .v (.int .i64 de), .v (.int .i64 id)]] (.v (.bool (jobR s d k))) := by
  refine PC.mk (ac_body tab_ok Tryz.func158 rfl (by kernel_rfl) rfl ?_); intro w0 M μ0; simp only [Tryz.ntmps158, List.length_cons, List.length_nil, Nat.reduceAdd, Nat.reduceSub, numb]
  repeat' (first | ((first | apply o_do | apply d_do | apply d_yes rfl rfl rfl); first | exact lsc ((p_wRight _ _)) | exact lsc ((p_fRight _)) | exact lsq) | refine a_seq ?_ | refine a_region ?_ | refine o_nil ?_ | refine a_block ?_ | refine a_ret ?_ | refine a_exit ?_ | refine a_skip ?_ | refine a_draw mixed ?_ | refine d_nil (by kernel_rfl) ?_ | refine o_yes rfl rfl rfl ?_ | refine o_no rfl rfl rfl (by decide) ?_ | refine o_no' rfl rfl rfl ?_ | refine a_condT rfl ?_ | refine a_condF rfl ?_ | refine d_no rfl rfl rfl (by decide) ?_ | refine d_no' rfl rfl rfl ?_ | (refine wq2 (fun hb => ?_) (fun hb => ?_) <;> (simp only [hb]; try simp only [hbs, ne_eq] at hb; try (exfalso; first | omega | exact hb trivial))) | fail)
  all_goals refine rq rfl ?_
  all_goals (first | refine FinA.tup ?_ | refine FinA.one ?_); repeat' (first | exact FinBs.nil | exact FinCs.nil | refine FinBs.cons ?_ ?_ | refine FinCs.cons ?_ ?_ | refine FinB.cell (FinC.v ?_) | refine FinB.cell (FinC.own rfl rfl rfl ?_) | exact FinB.cell FinC.nil | refine FinB.cell (FinC.sl ?_) | exact FinB.agg' rfl rfl | exact FinB.cell (FinC.same rfl) | refine FinB.agg ?_ | refine FinC.v ?_ | refine FinC.own rfl rfl rfl ?_ | exact FinC.nil | refine FinC.sl ?_ | exact FinC.same rfl); all_goals try rfl
  all_goals simp [jobR, *]
end Go.Proofs.YtagfjnjpgphnjaaGreat
namespace Go.Proofs.YtagfjnjpgphnjaaGreat
open Go.RowKit
set_option linter.unusedSimpArgs false
set_option linter.unusedVariables false
set_option maxHeartbeats 2000000 in
theorem w_groups (gs : List Gp) (hx : gs.length ≤ 9223372036854775807) (hp : ∀ g ∈ gs, g.ps.length ≤ 9223372036854775807) : PC Tryz.prog 46 [.sl 3 (gs.map Gp.av)] (.v (.bool (gsR gs))) := by
  have hn1 : (gs.map Gp.av).length = gs.length := List.length_map _
  by_cases hbig : 32 < gs.length
  · have e : gsR gs = false := by
      cases h : gsR gs
      · rfl
      · have := gsR_le h; omega
    rw [e]
    refine PC.mk (ac_body tab_ok Tryz.func46 rfl (by kernel_rfl) rfl ?_); intro w0 M μ0; simp only [Tryz.ntmps46, List.length_cons, List.length_nil, Nat.reduceAdd, Nat.reduceSub, numb]
    repeat' (first | ((first | apply o_do | apply d_do | apply d_yes rfl rfl rfl); exact lsq) | refine a_seq ?_ | refine a_region ?_ | refine o_nil ?_ | refine a_block ?_ | refine a_ret ?_ | refine a_exit ?_ | refine a_skip ?_ | refine a_draw mixed ?_ | refine d_nil (by kernel_rfl) ?_ | refine o_yes rfl rfl rfl ?_ | refine o_no rfl rfl rfl (by decide) ?_ | refine o_no' rfl rfl rfl ?_ | refine a_condT rfl ?_ | refine a_condF rfl ?_ | refine d_no rfl rfl rfl (by decide) ?_ | refine d_no' rfl rfl rfl ?_ | (refine wq2 (fun hb => ?_) (fun hb => ?_) <;> (simp only [hb]; try simp only [hbs, ne_eq] at hb; try (exfalso; first | omega | exact hb trivial))) | fail)
    all_goals refine rq rfl ?_
    all_goals exact fnq
  refine PC.mk (ac_body tab_ok Tryz.func46 rfl (by kernel_rfl) rfl ?_); intro w0 M μ0; simp only [Tryz.ntmps46, List.length_cons, List.length_nil, Nat.reduceAdd, Nat.reduceSub, numb]
  repeat' (first | ((first | apply o_do | apply d_do | apply d_yes rfl rfl rfl); exact lsq) | refine a_seq ?_ | refine a_region ?_ | refine o_nil ?_ | refine a_block ?_ | refine a_ret ?_ | refine a_exit ?_ | refine a_skip ?_ | refine a_draw mixed ?_ | refine d_nil (by kernel_rfl) ?_ | refine o_yes rfl rfl rfl ?_ | refine o_no rfl rfl rfl (by decide) ?_ | refine o_no' rfl rfl rfl ?_ | refine a_condT rfl ?_ | refine a_condF rfl ?_ | refine d_no rfl rfl rfl (by decide) ?_ | refine d_no' rfl rfl rfl ?_ | (refine wq2 (fun hb => ?_) (fun hb => ?_) <;> (simp only [hb]; try simp only [hbs, ne_eq] at hb; try (exfalso; first | omega | exact hb trivial))) | fail)
  refine a_loop (X := {q : Nat // q ≤ gs.length ∧ (List.range q).all (gpG gs) = true}) (fun x => ⟨[(0, .sl 3 (gs.map Gp.av)), (8, .sl 3 (gs.map Gp.av)), (9, .v (.int .i64 gs.length)), (10, .v (.int .i64 x.1))], []⟩) (fun x => gs.length - x.1) ⟨0, Nat.zero_le _, rfl⟩ ?_ ?_
  · exact wkS
  rintro ⟨q, hq, hok⟩
  dsimp only
  by_cases hlt : q < gs.length
  · have hel : (gs.map Gp.av)[q]? = some (Gp.av gs[q]) := by simp [hlt]
    have hbad : gpG gs q = false → gsR gs = false := fun h => rall_fail hlt h
    have hgo : gpG gs q = true → (List.range (q + 1)).all (gpG gs) = true := fun h => by rw [rall_snoc, hok, h]; rfl
    have hR := g_Right gs[q].no gs[q].mark gs[q].ps (hp _ (List.getElem_mem hlt))
    rcases Nat.eq_zero_or_pos q with rfl | hq0
    · have hG : gpG gs 0 = grR gs[0].no gs[0].mark gs[0].ps := by simp only [gpG, getD_at hlt]; simp
      generalize gs[0] = x at *
      obtain ⟨no, mark, ps⟩ := x
      dsimp only at *
      cases hr : grR no mark ps
      · rw [hr] at hR hG
        rw [hbad hG]
        repeat' (first | ((first | apply o_do | apply d_do | apply d_yes rfl rfl rfl); first | exact ls_indexAddr_sl tab_ok rfl rfl rfl rfl (by assumption) rfl | exact lsc (hR) | exact lsq) | refine a_seq ?_ | refine a_region ?_ | refine o_nil ?_ | refine a_block ?_ | refine a_ret ?_ | refine a_exit ?_ | refine a_skip ?_ | refine a_draw mixed ?_ | refine d_nil (by kernel_rfl) ?_ | refine o_yes rfl rfl rfl ?_ | refine o_no rfl rfl rfl (by decide) ?_ | refine o_no' rfl rfl rfl ?_ | refine a_condT rfl ?_ | refine a_condF rfl ?_ | refine d_no rfl rfl rfl (by decide) ?_ | refine d_no' rfl rfl rfl ?_ | (refine wq2 (fun hb => ?_) (fun hb => ?_) <;> (simp only [hb]; try simp only [hbs, ne_eq] at hb; try (exfalso; first | omega | exact hb trivial))) | fail)
        refine rq rfl ?_
        exact fnq
      · rw [hr] at hR hG
        repeat' (first | ((first | apply o_do | apply d_do | apply d_yes rfl rfl rfl); first | exact ls_indexAddr_sl tab_ok rfl rfl rfl rfl (by assumption) rfl | exact lsc (hR) | exact lsq) | refine a_seq ?_ | refine a_region ?_ | refine o_nil ?_ | refine a_block ?_ | refine a_ret ?_ | refine a_exit ?_ | refine a_skip ?_ | refine a_draw mixed ?_ | refine d_nil (by kernel_rfl) ?_ | refine o_yes rfl rfl rfl ?_ | refine o_no rfl rfl rfl (by decide) ?_ | refine o_no' rfl rfl rfl ?_ | refine a_condT rfl ?_ | refine a_condF rfl ?_ | refine d_no rfl rfl rfl (by decide) ?_ | refine d_no' rfl rfl rfl ?_ | (refine wq2 (fun hb => ?_) (fun hb => ?_) <;> (simp only [hb]; try simp only [hbs, ne_eq] at hb; try (exfalso; first | omega | exact hb trivial))) | fail)
        refine ⟨⟨0 + 1, by omega, hgo hG⟩, by dsimp only; omega, ?_⟩
        exact wkS
    · obtain ⟨j, rfl⟩ : ∃ j, q = j + 1 := ⟨q - 1, by omega⟩
      have hj : ((j + 1 : Nat) : Int) - 1 = (j : Int) := by omega
      have hlj : j < gs.length := by omega
      have hel2 : (gs.map Gp.av)[j]? = some (Gp.av gs[j]) := by simp [hlj]
      have hG : gpG gs (j + 1) = (grR gs[j + 1].no gs[j + 1].mark gs[j + 1].ps && decide (gs[j].no < gs[j + 1].no)) := by simp [gpG, hlt, hlj]
      generalize gs[j + 1] = x at *
      generalize gs[j] = y at *
      obtain ⟨no, mark, ps⟩ := x
      obtain ⟨no', mark', ps'⟩ := y
      dsimp only at *
      cases hr : grR no mark ps
      · rw [hr] at hR hG
        rw [hbad (by rw [hG]; rfl)]
        repeat' (first | ((first | apply o_do | apply d_do | apply d_yes rfl rfl rfl); first | exact ls_indexAddr_sl tab_ok rfl rfl rfl rfl (by assumption) rfl | exact ls_indexAddr_sl tab_ok rfl rfl rfl hj hel2 rfl | exact lsc (hR) | exact lsq) | refine a_seq ?_ | refine a_region ?_ | refine o_nil ?_ | refine a_block ?_ | refine a_ret ?_ | refine a_exit ?_ | refine a_skip ?_ | refine a_draw mixed ?_ | refine d_nil (by kernel_rfl) ?_ | refine o_yes rfl rfl rfl ?_ | refine o_no rfl rfl rfl (by decide) ?_ | refine o_no' rfl rfl rfl ?_ | refine a_condT rfl ?_ | refine a_condF rfl ?_ | refine d_no rfl rfl rfl (by decide) ?_ | refine d_no' rfl rfl rfl ?_ | (refine wq2 (fun hb => ?_) (fun hb => ?_) <;> (simp only [hb]; try simp only [hbs, ne_eq] at hb; try (exfalso; first | omega | exact hb trivial))) | fail)
        refine rq rfl ?_
        exact fnq
      · rw [hr] at hR hG
        by_cases hc : no' < no
        · have hg1 := hgo (by rw [hG]; simp [hc])
          repeat' (first | ((first | apply o_do | apply d_do | apply d_yes rfl rfl rfl); first | exact ls_indexAddr_sl tab_ok rfl rfl rfl rfl (by assumption) rfl | exact ls_indexAddr_sl tab_ok rfl rfl rfl hj hel2 rfl | exact lsc (hR) | exact lsq) | refine a_seq ?_ | refine a_region ?_ | refine o_nil ?_ | refine a_block ?_ | refine a_ret ?_ | refine a_exit ?_ | refine a_skip ?_ | refine a_draw mixed ?_ | refine d_nil (by kernel_rfl) ?_ | refine o_yes rfl rfl rfl ?_ | refine o_no rfl rfl rfl (by decide) ?_ | refine o_no' rfl rfl rfl ?_ | refine a_condT rfl ?_ | refine a_condF rfl ?_ | refine d_no rfl rfl rfl (by decide) ?_ | refine d_no' rfl rfl rfl ?_ | (refine wq2 (fun hb => ?_) (fun hb => ?_) <;> (simp only [hb]; try simp only [hbs, ne_eq] at hb; try (exfalso; first | omega | exact hb trivial))) | fail)
          refine ⟨⟨j + 1 + 1, by omega, hg1⟩, by dsimp only; omega, ?_⟩
          exact wkS
        · rw [hbad (by rw [hG]; simp; omega)]
          repeat' (first | ((first | apply o_do | apply d_do | apply d_yes rfl rfl rfl); first | exact ls_indexAddr_sl tab_ok rfl rfl rfl rfl (by assumption) rfl | exact ls_indexAddr_sl tab_ok rfl rfl rfl hj hel2 rfl | exact lsc (hR) | exact lsq) | refine a_seq ?_ | refine a_region ?_ | refine o_nil ?_ | refine a_block ?_ | refine a_ret ?_ | refine a_exit ?_ | refine a_skip ?_ | refine a_draw mixed ?_ | refine d_nil (by kernel_rfl) ?_ | refine o_yes rfl rfl rfl ?_ | refine o_no rfl rfl rfl (by decide) ?_ | refine o_no' rfl rfl rfl ?_ | refine a_condT rfl ?_ | refine a_condF rfl ?_ | refine d_no rfl rfl rfl (by decide) ?_ | refine d_no' rfl rfl rfl ?_ | (refine wq2 (fun hb => ?_) (fun hb => ?_) <;> (simp only [hb]; try simp only [hbs, ne_eq] at hb; try (exfalso; first | omega | exact hb trivial))) | fail)
          refine rq rfl ?_
          exact fnq
  · obtain rfl : q = gs.length := by omega
    have hend : gsR gs = true := hok
    rw [hend]
    repeat' (first | ((first | apply o_do | apply d_do | apply d_yes rfl rfl rfl); exact lsq) | refine a_seq ?_ | refine a_region ?_ | refine o_nil ?_ | refine a_block ?_ | refine a_ret ?_ | refine a_exit ?_ | refine a_skip ?_ | refine a_draw mixed ?_ | refine d_nil (by kernel_rfl) ?_ | refine o_yes rfl rfl rfl ?_ | refine o_no rfl rfl rfl (by decide) ?_ | refine o_no' rfl rfl rfl ?_ | refine a_condT rfl ?_ | refine a_condF rfl ?_ | refine d_no rfl rfl rfl (by decide) ?_ | refine d_no' rfl rfl rfl ?_ | (refine wq2 (fun hb => ?_) (fun hb => ?_) <;> (simp only [hb]; try simp only [hbs, ne_eq] at hb; try (exfalso; first | omega | exact hb trivial))) | fail)
    refine rq rfl ?_
    exact fnq
set_option maxHeartbeats 2000000 in
theorem w_rGroups (gs : List Gp) (hx : gs.length ≤ 9223372036854775807) (hp : ∀ g ∈ gs, g.ps.length ≤ 9223372036854775807) : PC Tryz.prog 108 [.sl 3 (gs.map Gp.av)] (.v (.bool (gsR gs))) := by
  have hn1 : (gs.map Gp.av).length = gs.length := List.length_map _
  refine PC.mk (ac_body tab_ok Tryz.func108 rfl (by kernel_rfl) rfl ?_); intro w0 M μ0; simp only [Tryz.ntmps108, List.length_cons, List.length_nil, Nat.reduceAdd, Nat.reduceSub, numb]
  repeat' (first | ((first | apply o_do | apply d_do | apply d_yes rfl rfl rfl); exact lsq) | refine a_seq ?_ | refine a_region ?_ | refine o_nil ?_ | refine a_block ?_ | refine a_ret ?_ | refine a_exit ?_ | refine a_skip ?_ | refine a_draw mixed ?_ | refine d_nil (by kernel_rfl) ?_ | refine o_yes rfl rfl rfl ?_ | refine o_no rfl rfl rfl (by decide) ?_ | refine o_no' rfl rfl rfl ?_ | refine a_condT rfl ?_ | refine a_condF rfl ?_ | refine d_no rfl rfl rfl (by decide) ?_ | refine d_no' rfl rfl rfl ?_ | (refine wq2 (fun hb => ?_) (fun hb => ?_) <;> (simp only [hb]; try simp only [hbs, ne_eq] at hb; try (exfalso; first | omega | exact hb trivial))) | fail)
  refine a_loop (X := {q : Nat // q ≤ gs.length ∧ (List.range q).all (gpG gs) = true}) (fun x => ⟨[(0, .sl 3 (gs.map Gp.av)), (5, .sl 3 (gs.map Gp.av)), (6, .v (.int .i64 gs.length)), (7, .v (.int .i64 x.1))], []⟩) (fun x => gs.length - x.1) ⟨0, Nat.zero_le _, rfl⟩ ?_ ?_
  · exact wkS
  rintro ⟨q, hq, hok⟩
  dsimp only
  by_cases hlt : q < gs.length
  · have hel : (gs.map Gp.av)[q]? = some (Gp.av gs[q]) := by simp [hlt]
    have hbad : gpG gs q = false → gsR gs = false := fun h => rall_fail hlt h
    have hgo : gpG gs q = true → (List.range (q + 1)).all (gpG gs) = true := fun h => by rw [rall_snoc, hok, h]; rfl
    have hR := g_rRight gs[q].no gs[q].mark gs[q].ps (hp _ (List.getElem_mem hlt))
    rcases Nat.eq_zero_or_pos q with rfl | hq0
    · have hG : gpG gs 0 = grR gs[0].no gs[0].mark gs[0].ps := by simp only [gpG, getD_at hlt]; simp
      generalize gs[0] = x at *
      obtain ⟨no, mark, ps⟩ := x
      dsimp only at *
      cases hr : grR no mark ps
      · rw [hr] at hR hG
        rw [hbad hG]
        repeat' (first | ((first | apply o_do | apply d_do | apply d_yes rfl rfl rfl); first | exact ls_indexAddr_sl tab_ok rfl rfl rfl rfl (by assumption) rfl | exact lsc (hR) | exact lsq) | refine a_seq ?_ | refine a_region ?_ | refine o_nil ?_ | refine a_block ?_ | refine a_ret ?_ | refine a_exit ?_ | refine a_skip ?_ | refine a_draw mixed ?_ | refine d_nil (by kernel_rfl) ?_ | refine o_yes rfl rfl rfl ?_ | refine o_no rfl rfl rfl (by decide) ?_ | refine o_no' rfl rfl rfl ?_ | refine a_condT rfl ?_ | refine a_condF rfl ?_ | refine d_no rfl rfl rfl (by decide) ?_ | refine d_no' rfl rfl rfl ?_ | (refine wq2 (fun hb => ?_) (fun hb => ?_) <;> (simp only [hb]; try simp only [hbs, ne_eq] at hb; try (exfalso; first | omega | exact hb trivial))) | fail)
        refine rq rfl ?_
        exact fnq
      · rw [hr] at hR hG
        repeat' (first | ((first | apply o_do | apply d_do | apply d_yes rfl rfl rfl); first | exact ls_indexAddr_sl tab_ok rfl rfl rfl rfl (by assumption) rfl | exact lsc (hR) | exact lsq) | refine a_seq ?_ | refine a_region ?_ | refine o_nil ?_ | refine a_block ?_ | refine a_ret ?_ | refine a_exit ?_ | refine a_skip ?_ | refine a_draw mixed ?_ | refine d_nil (by kernel_rfl) ?_ | refine o_yes rfl rfl rfl ?_ | refine o_no rfl rfl rfl (by decide) ?_ | refine o_no' rfl rfl rfl ?_ | refine a_condT rfl ?_ | refine a_condF rfl ?_ | refine d_no rfl rfl rfl (by decide) ?_ | refine d_no' rfl rfl rfl ?_ | (refine wq2 (fun hb => ?_) (fun hb => ?_) <;> (simp only [hb]; try simp only [hbs, ne_eq] at hb; try (exfalso; first | omega | exact hb trivial))) | fail)
        refine ⟨⟨0 + 1, by omega, hgo hG⟩, by dsimp only; omega, ?_⟩
        exact wkS
    · obtain ⟨j, rfl⟩ : ∃ j, q = j + 1 := ⟨q - 1, by omega⟩
      have hj : ((j + 1 : Nat) : Int) - 1 = (j : Int) := by omega
      have hlj : j < gs.length := by omega
      have hel2 : (gs.map Gp.av)[j]? = some (Gp.av gs[j]) := by simp [hlj]
      have hG : gpG gs (j + 1) = (grR gs[j + 1].no gs[j + 1].mark gs[j + 1].ps && decide (gs[j].no < gs[j + 1].no)) := by simp [gpG, hlt, hlj]
      generalize gs[j + 1] = x at *
      generalize gs[j] = y at *
      obtain ⟨no, mark, ps⟩ := x
      obtain ⟨no', mark', ps'⟩ := y
      dsimp only at *
      cases hr : grR no mark ps
      · rw [hr] at hR hG
        rw [hbad (by rw [hG]; rfl)]
        repeat' (first | ((first | apply o_do | apply d_do | apply d_yes rfl rfl rfl); first | exact ls_indexAddr_sl tab_ok rfl rfl rfl rfl (by assumption) rfl | exact ls_indexAddr_sl tab_ok rfl rfl rfl hj hel2 rfl | exact lsc (hR) | exact lsq) | refine a_seq ?_ | refine a_region ?_ | refine o_nil ?_ | refine a_block ?_ | refine a_ret ?_ | refine a_exit ?_ | refine a_skip ?_ | refine a_draw mixed ?_ | refine d_nil (by kernel_rfl) ?_ | refine o_yes rfl rfl rfl ?_ | refine o_no rfl rfl rfl (by decide) ?_ | refine o_no' rfl rfl rfl ?_ | refine a_condT rfl ?_ | refine a_condF rfl ?_ | refine d_no rfl rfl rfl (by decide) ?_ | refine d_no' rfl rfl rfl ?_ | (refine wq2 (fun hb => ?_) (fun hb => ?_) <;> (simp only [hb]; try simp only [hbs, ne_eq] at hb; try (exfalso; first | omega | exact hb trivial))) | fail)
        refine rq rfl ?_
        exact fnq
      · rw [hr] at hR hG
        by_cases hc : no' < no
        · have hg1 := hgo (by rw [hG]; simp [hc])
          repeat' (first | ((first | apply o_do | apply d_do | apply d_yes rfl rfl rfl); first | exact ls_indexAddr_sl tab_ok rfl rfl rfl rfl (by assumption) rfl | exact ls_indexAddr_sl tab_ok rfl rfl rfl hj hel2 rfl | exact lsc (hR) | exact lsq) | refine a_seq ?_ | refine a_region ?_ | refine o_nil ?_ | refine a_block ?_ | refine a_ret ?_ | refine a_exit ?_ | refine a_skip ?_ | refine a_draw mixed ?_ | refine d_nil (by kernel_rfl) ?_ | refine o_yes rfl rfl rfl ?_ | refine o_no rfl rfl rfl (by decide) ?_ | refine o_no' rfl rfl rfl ?_ | refine a_condT rfl ?_ | refine a_condF rfl ?_ | refine d_no rfl rfl rfl (by decide) ?_ | refine d_no' rfl rfl rfl ?_ | (refine wq2 (fun hb => ?_) (fun hb => ?_) <;> (simp only [hb]; try simp only [hbs, ne_eq] at hb; try (exfalso; first | omega | exact hb trivial))) | fail)
          refine ⟨⟨j + 1 + 1, by omega, hg1⟩, by dsimp only; omega, ?_⟩
          exact wkS
        · rw [hbad (by rw [hG]; simp; omega)]
          repeat' (first | ((first | apply o_do | apply d_do | apply d_yes rfl rfl rfl); first | exact ls_indexAddr_sl tab_ok rfl rfl rfl rfl (by assumption) rfl | exact ls_indexAddr_sl tab_ok rfl rfl rfl hj hel2 rfl | exact lsc (hR) | exact lsq) | refine a_seq ?_ | refine a_region ?_ | refine o_nil ?_ | refine a_block ?_ | refine a_ret ?_ | refine a_exit ?_ | refine a_skip ?_ | refine a_draw mixed ?_ | refine d_nil (by kernel_rfl) ?_ | refine o_yes rfl rfl rfl ?_ | refine o_no rfl rfl rfl (by decide) ?_ | refine o_no' rfl rfl rfl ?_ | refine a_condT rfl ?_ | refine a_condF rfl ?_ | refine d_no rfl rfl rfl (by decide) ?_ | refine d_no' rfl rfl rfl ?_ | (refine wq2 (fun hb => ?_) (fun hb => ?_) <;> (simp only [hb]; try simp only [hbs, ne_eq] at hb; try (exfalso; first | omega | exact hb trivial))) | fail)
          refine rq rfl ?_
          exact fnq
  · obtain rfl : q = gs.length := by omega
    have hend : gsR gs = true := hok
    rw [hend]
    repeat' (first | ((first | apply o_do | apply d_do | apply d_yes rfl rfl rfl); exact lsq) | refine a_seq ?_ | refine a_region ?_ | refine o_nil ?_ | refine a_block ?_ | refine a_ret ?_ | refine a_exit ?_ | refine a_skip ?_ | refine a_draw mixed ?_ | refine d_nil (by kernel_rfl) ?_ | refine o_yes rfl rfl rfl ?_ | refine o_no rfl rfl rfl (by decide) ?_ | refine o_no' rfl rfl rfl ?_ | refine a_condT rfl ?_ | refine a_condF rfl ?_ | refine d_no rfl rfl rfl (by decide) ?_ | refine d_no' rfl rfl rfl ?_ | (refine wq2 (fun hb => ?_) (fun hb => ?_) <;> (simp only [hb]; try simp only [hbs, ne_eq] at hb; try (exfalso; first | omega | exact hb trivial))) | fail)
    refine rq rfl ?_
    exact fnq
end Go.Proofs.YtagfjnjpgphnjaaGreat
namespace Go.Proofs.YtagfjnjpgphnjaaGreat
open Go.RowKit
set_option linter.unusedSimpArgs false
set_option linter.unusedVariables false
set_option maxHeartbeats 2000000 in
set_option maxRecDepth 10000 in
theorem g_Advance (g s d k fu li de id no mark : Int) (ps : List Pn) (m : Int) (hx : ps.length ≤ 9223372036854775807) :
    PC Tryz.prog 106 [.agg [.v (.int .i64 g), .v (.int .i64 s), .v (.int .i64 d), .v (.int .i64 k), .v (.int .i64 fu), .v (.int .i64 li), .v (.int .i64 de), .v (.int .i64 id)], .agg [.v (.int .i64 no), .v (.int .i64 mark), .sl 6 (ps.map Pn.av)], .v (.int .i64 m)] (adv s d k no mark ps m).av := by
  have hj := g_Job g s d k fu li de id
  have hr := g_Right no mark ps hx
  cases hJ : jobR s d k
  · rw [show adv s d k no mark ps m = ⟨0, 0, [], [], 130⟩ by simp [adv, hJ]]
    rw [hJ] at hj
    refine PC.mk (ac_body tab_ok Tryz.func106 rfl (by kernel_rfl) rfl ?_); intro w0 M μ0; simp only [Tryz.ntmps106, List.length_cons, List.length_nil, Nat.reduceAdd, Nat.reduceSub, numb]
    repeat' (first | ((first | apply o_do | apply d_do | apply d_yes rfl rfl rfl); first | exact lsc (hj) | exact lsq) | refine a_seq ?_ | refine a_region ?_ | refine o_nil ?_ | refine a_block ?_ | refine a_ret ?_ | refine a_exit ?_ | refine a_skip ?_ | refine a_draw mixed ?_ | refine d_nil (by kernel_rfl) ?_ | refine o_yes rfl rfl rfl ?_ | refine o_no rfl rfl rfl (by decide) ?_ | refine o_no' rfl rfl rfl ?_ | refine a_condT rfl ?_ | refine a_condF rfl ?_ | refine d_no rfl rfl rfl (by decide) ?_ | refine d_no' rfl rfl rfl ?_ | (refine wq2 (fun hb => ?_) (fun hb => ?_) <;> (simp only [hb]; try simp only [hbs, ne_eq] at hb; try (exfalso; first | omega | exact hb trivial))) | fail)
    refine rq rfl ?_
    exact fnq
  cases hG : grR no mark ps
  · rw [show adv s d k no mark ps m = ⟨0, 0, [], [], 1⟩ by simp [adv, hJ, hG]]
    rw [hJ] at hj
    rw [hG] at hr
    refine PC.mk (ac_body tab_ok Tryz.func106 rfl (by kernel_rfl) rfl ?_); intro w0 M μ0; simp only [Tryz.ntmps106, List.length_cons, List.length_nil, Nat.reduceAdd, Nat.reduceSub, numb]
    repeat' (first | ((first | apply o_do | apply d_do | apply d_yes rfl rfl rfl); first | exact lsc (hj) | exact lsc (hr) | exact lsq) | refine a_seq ?_ | refine a_region ?_ | refine o_nil ?_ | refine a_block ?_ | refine a_ret ?_ | refine a_exit ?_ | refine a_skip ?_ | refine a_draw mixed ?_ | refine d_nil (by kernel_rfl) ?_ | refine o_yes rfl rfl rfl ?_ | refine o_no rfl rfl rfl (by decide) ?_ | refine o_no' rfl rfl rfl ?_ | refine a_condT rfl ?_ | refine a_condF rfl ?_ | refine d_no rfl rfl rfl (by decide) ?_ | refine d_no' rfl rfl rfl ?_ | (refine wq2 (fun hb => ?_) (fun hb => ?_) <;> (simp only [hb]; try simp only [hbs, ne_eq] at hb; try (exfalso; first | omega | exact hb trivial))) | fail)
    refine rq rfl ?_
    exact fnq
  by_cases hm : m ≤ mark
  · rw [show adv s d k no mark ps m = ⟨no, mark, ps, [], 0⟩ by simp [adv, hJ, hG, hm]]
    rw [hJ] at hj
    rw [hG] at hr
    refine PC.mk (ac_body tab_ok Tryz.func106 rfl (by kernel_rfl) rfl ?_); intro w0 M μ0; simp only [Tryz.ntmps106, List.length_cons, List.length_nil, Nat.reduceAdd, Nat.reduceSub, numb]
    repeat' (first | ((first | apply o_do | apply d_do | apply d_yes rfl rfl rfl); first | exact lsc (hj) | exact lsc (hr) | exact lsq) | refine a_seq ?_ | refine a_region ?_ | refine o_nil ?_ | refine a_block ?_ | refine a_ret ?_ | refine a_exit ?_ | refine a_skip ?_ | refine a_draw mixed ?_ | refine d_nil (by kernel_rfl) ?_ | refine o_yes rfl rfl rfl ?_ | refine o_no rfl rfl rfl (by decide) ?_ | refine o_no' rfl rfl rfl ?_ | refine a_condT rfl ?_ | refine a_condF rfl ?_ | refine d_no rfl rfl rfl (by decide) ?_ | refine d_no' rfl rfl rfl ?_ | (refine wq2 (fun hb => ?_) (fun hb => ?_) <;> (simp only [hb]; try simp only [hbs, ne_eq] at hb; try (exfalso; first | omega | exact hb trivial))) | fail)
    refine rq rfl ?_
    exact fnq
  · rw [show adv s d k no mark ps m = ⟨no, min m 1099511627776, dueRB ps (min m 1099511627776), resultsL k (dueRA ps (min m 1099511627776)), 0⟩ by simp [adv, hJ, hG, hm]]
    rw [hJ] at hj
    rw [hG] at hr
    have hd := p_Due ps (min m 1099511627776) hx
    have hres := p_Results k (dueRA ps (min m 1099511627776)) (Nat.le_trans (dueRA_le _ _) hx)
    refine PC.mk (ac_body tab_ok Tryz.func106 rfl (by kernel_rfl) rfl ?_); intro w0 M μ0; simp only [Tryz.ntmps106, List.length_cons, List.length_nil, Nat.reduceAdd, Nat.reduceSub, numb]
    repeat' (first | ((first | apply o_do | apply d_do | apply d_yes rfl rfl rfl); first | exact lsc (hj) | exact lsc (hr) | exact lsc (hd) | exact lsc (hres) | exact lsq) | refine a_seq ?_ | refine a_region ?_ | refine o_nil ?_ | refine a_block ?_ | refine a_ret ?_ | refine a_exit ?_ | refine a_skip ?_ | refine a_draw mixed ?_ | refine d_nil (by kernel_rfl) ?_ | refine o_yes rfl rfl rfl ?_ | refine o_no rfl rfl rfl (by decide) ?_ | refine o_no' rfl rfl rfl ?_ | refine a_condT rfl ?_ | refine a_condF rfl ?_ | refine d_no rfl rfl rfl (by decide) ?_ | refine d_no' rfl rfl rfl ?_ | (refine wq2 (fun hb => ?_) (fun hb => ?_) <;> (simp only [hb]; try simp only [hbs, ne_eq] at hb; try (exfalso; first | omega | exact hb trivial))) | fail)
    refine rq rfl ?_
    exact fnq
set_option maxHeartbeats 2000000 in
set_option maxRecDepth 10000 in
theorem g_rAdvance (g s d k fu li de id no mark : Int) (ps : List Pn) (m : Int) (hx : ps.length ≤ 9223372036854775807) :
    PC Tryz.prog 119 [.agg [.v (.int .i64 g), .v (.int .i64 s), .v (.int .i64 d), .v (.int .i64 k), .v (.int .i64 fu), .v (.int .i64 li), .v (.int .i64 de), .v (.int .i64 id)], .agg [.v (.int .i64 no), .v (.int .i64 mark), .sl 6 (ps.map Pn.av)], .v (.int .i64 m)] (adv s d k no mark ps m).av := by
  have hj := g_rJob g s d k fu li de id
  have hr := g_rRight no mark ps hx
  cases hJ : jobR s d k
  · rw [show adv s d k no mark ps m = ⟨0, 0, [], [], 130⟩ by simp [adv, hJ]]
    rw [hJ] at hj
    refine PC.mk (ac_body tab_ok Tryz.func119 rfl (by kernel_rfl) rfl ?_); intro w0 M μ0; simp only [Tryz.ntmps119, List.length_cons, List.length_nil, Nat.reduceAdd, Nat.reduceSub, numb]
    repeat' (first | ((first | apply o_do | apply d_do | apply d_yes rfl rfl rfl); first | exact lsc (hj) | exact lsq) | refine a_seq ?_ | refine a_region ?_ | refine o_nil ?_ | refine a_block ?_ | refine a_ret ?_ | refine a_exit ?_ | refine a_skip ?_ | refine a_draw mixed ?_ | refine d_nil (by kernel_rfl) ?_ | refine o_yes rfl rfl rfl ?_ | refine o_no rfl rfl rfl (by decide) ?_ | refine o_no' rfl rfl rfl ?_ | refine a_condT rfl ?_ | refine a_condF rfl ?_ | refine d_no rfl rfl rfl (by decide) ?_ | refine d_no' rfl rfl rfl ?_ | (refine wq2 (fun hb => ?_) (fun hb => ?_) <;> (simp only [hb]; try simp only [hbs, ne_eq] at hb; try (exfalso; first | omega | exact hb trivial))) | fail)
    refine rq rfl ?_
    exact fnq
  cases hG : grR no mark ps
  · rw [show adv s d k no mark ps m = ⟨0, 0, [], [], 1⟩ by simp [adv, hJ, hG]]
    rw [hJ] at hj
    rw [hG] at hr
    refine PC.mk (ac_body tab_ok Tryz.func119 rfl (by kernel_rfl) rfl ?_); intro w0 M μ0; simp only [Tryz.ntmps119, List.length_cons, List.length_nil, Nat.reduceAdd, Nat.reduceSub, numb]
    repeat' (first | ((first | apply o_do | apply d_do | apply d_yes rfl rfl rfl); first | exact lsc (hj) | exact lsc (hr) | exact lsq) | refine a_seq ?_ | refine a_region ?_ | refine o_nil ?_ | refine a_block ?_ | refine a_ret ?_ | refine a_exit ?_ | refine a_skip ?_ | refine a_draw mixed ?_ | refine d_nil (by kernel_rfl) ?_ | refine o_yes rfl rfl rfl ?_ | refine o_no rfl rfl rfl (by decide) ?_ | refine o_no' rfl rfl rfl ?_ | refine a_condT rfl ?_ | refine a_condF rfl ?_ | refine d_no rfl rfl rfl (by decide) ?_ | refine d_no' rfl rfl rfl ?_ | (refine wq2 (fun hb => ?_) (fun hb => ?_) <;> (simp only [hb]; try simp only [hbs, ne_eq] at hb; try (exfalso; first | omega | exact hb trivial))) | fail)
    refine rq rfl ?_
    exact fnq
  by_cases hm : m ≤ mark
  · rw [show adv s d k no mark ps m = ⟨no, mark, ps, [], 0⟩ by simp [adv, hJ, hG, hm]]
    rw [hJ] at hj
    rw [hG] at hr
    refine PC.mk (ac_body tab_ok Tryz.func119 rfl (by kernel_rfl) rfl ?_); intro w0 M μ0; simp only [Tryz.ntmps119, List.length_cons, List.length_nil, Nat.reduceAdd, Nat.reduceSub, numb]
    repeat' (first | ((first | apply o_do | apply d_do | apply d_yes rfl rfl rfl); first | exact lsc (hj) | exact lsc (hr) | exact lsq) | refine a_seq ?_ | refine a_region ?_ | refine o_nil ?_ | refine a_block ?_ | refine a_ret ?_ | refine a_exit ?_ | refine a_skip ?_ | refine a_draw mixed ?_ | refine d_nil (by kernel_rfl) ?_ | refine o_yes rfl rfl rfl ?_ | refine o_no rfl rfl rfl (by decide) ?_ | refine o_no' rfl rfl rfl ?_ | refine a_condT rfl ?_ | refine a_condF rfl ?_ | refine d_no rfl rfl rfl (by decide) ?_ | refine d_no' rfl rfl rfl ?_ | (refine wq2 (fun hb => ?_) (fun hb => ?_) <;> (simp only [hb]; try simp only [hbs, ne_eq] at hb; try (exfalso; first | omega | exact hb trivial))) | fail)
    refine rq rfl ?_
    exact fnq
  · rw [show adv s d k no mark ps m = ⟨no, min m 1099511627776, dueRB ps (min m 1099511627776), resultsL k (dueRA ps (min m 1099511627776)), 0⟩ by simp [adv, hJ, hG, hm]]
    rw [hJ] at hj
    rw [hG] at hr
    obtain ⟨m', hm'⟩ : ∃ m', m' = min m 1099511627776 := ⟨_, rfl⟩
    rw [← hm']
    have hd := p_rDue ps m' hx
    have hres := p_rResults k (dueRA ps m') (Nat.le_trans (dueRA_le _ _) hx)
    by_cases hgt : 1099511627776 < m
    · obtain rfl : m' = 1099511627776 := by omega
      refine PC.mk (ac_body tab_ok Tryz.func119 rfl (by kernel_rfl) rfl ?_); intro w0 M μ0; simp only [Tryz.ntmps119, List.length_cons, List.length_nil, Nat.reduceAdd, Nat.reduceSub, numb]
      repeat' (first | ((first | apply o_do | apply d_do | apply d_yes rfl rfl rfl); first | exact lsc (hj) | exact lsc (hr) | exact lsc (hd) | exact lsc (hres) | exact lsq) | refine a_seq ?_ | refine a_region ?_ | refine o_nil ?_ | refine a_block ?_ | refine a_ret ?_ | refine a_exit ?_ | refine a_skip ?_ | refine a_draw mixed ?_ | refine d_nil (by kernel_rfl) ?_ | refine o_yes rfl rfl rfl ?_ | refine o_no rfl rfl rfl (by decide) ?_ | refine o_no' rfl rfl rfl ?_ | refine a_condT rfl ?_ | refine a_condF rfl ?_ | refine d_no rfl rfl rfl (by decide) ?_ | refine d_no' rfl rfl rfl ?_ | (refine wq2 (fun hb => ?_) (fun hb => ?_) <;> (simp only [hb]; try simp only [hbs, ne_eq] at hb; try (exfalso; first | omega | exact hb trivial))) | fail)
      refine rq rfl ?_
      exact fnq
    · obtain rfl : m' = m := by omega
      refine PC.mk (ac_body tab_ok Tryz.func119 rfl (by kernel_rfl) rfl ?_); intro w0 M μ0; simp only [Tryz.ntmps119, List.length_cons, List.length_nil, Nat.reduceAdd, Nat.reduceSub, numb]
      repeat' (first | ((first | apply o_do | apply d_do | apply d_yes rfl rfl rfl); first | exact lsc (hj) | exact lsc (hr) | exact lsc (hd) | exact lsc (hres) | exact lsq) | refine a_seq ?_ | refine a_region ?_ | refine o_nil ?_ | refine a_block ?_ | refine a_ret ?_ | refine a_exit ?_ | refine a_skip ?_ | refine a_draw mixed ?_ | refine d_nil (by kernel_rfl) ?_ | refine o_yes rfl rfl rfl ?_ | refine o_no rfl rfl rfl (by decide) ?_ | refine o_no' rfl rfl rfl ?_ | refine a_condT rfl ?_ | refine a_condF rfl ?_ | refine d_no rfl rfl rfl (by decide) ?_ | refine d_no' rfl rfl rfl ?_ | (refine wq2 (fun hb => ?_) (fun hb => ?_) <;> (simp only [hb]; try simp only [hbs, ne_eq] at hb; try (exfalso; first | omega | exact hb trivial))) | fail)
      refine rq rfl ?_
      exact fnq
theorem g_Like (no mark : Int) (ps : List Pn) (hx : ps.length ≤ 9223372036854775807) :
    PC Tryz.prog 120 [.agg [.v (.int .i64 no), .v (.int .i64 mark), .sl 6 (ps.map Pn.av)], .agg [.v (.int .i64 no), .v (.int .i64 mark), .sl 6 (ps.map Pn.av)]] (.v (.bool true)) := by
  have hl := p_Like ps hx
  refine PC.mk (ac_body tab_ok Tryz.func120 rfl (by kernel_rfl) rfl ?_); intro w0 M μ0; simp only [Tryz.ntmps120, List.length_cons, List.length_nil, Nat.reduceAdd, Nat.reduceSub, numb]
  repeat' (first | ((first | apply o_do | apply d_do | apply d_yes rfl rfl rfl); first | exact lsc (hl) | exact lsq) | refine a_seq ?_ | refine a_region ?_ | refine o_nil ?_ | refine a_block ?_ | refine a_ret ?_ | refine a_exit ?_ | refine a_skip ?_ | refine a_draw mixed ?_ | refine d_nil (by kernel_rfl) ?_ | refine o_yes rfl rfl rfl ?_ | refine o_no rfl rfl rfl (by decide) ?_ | refine o_no' rfl rfl rfl ?_ | refine a_condT rfl ?_ | refine a_condF rfl ?_ | refine d_no rfl rfl rfl (by decide) ?_ | refine d_no' rfl rfl rfl ?_ | (refine wq2 (fun hb => ?_) (fun hb => ?_) <;> (simp only [hb]; try simp only [hbs, ne_eq] at hb; try (exfalso; first | omega | exact hb trivial))) | fail)
  all_goals try (exfalso; simp only [not_true] at hb; done)
  all_goals refine rq rfl ?_
  all_goals exact fnq
end Go.Proofs.YtagfjnjpgphnjaaGreat
