/-
  Rows that are cloned: of groups, of what workers are made of.
  More of the text GrA.
  Workers, walked over abstract values: which groups may be, which workers; new ones, likeness.
  More of the text GrB.
  Workers, walked over abstract values: which may be; new ones, likeness.
  Marks: what they hold back, and what can be told. Plain.
  Aligners: an item that is offered. Plain.
  Workers: an item that is taken. Plain.
-/
import Derived.Test.YtilgagmfcdfjaaaGreatM4
import Derived.Test.YtilgagmfcdfjaaaGreatM5
import Derived.Test.YtilgagmfcdfjaaaGreatM6
import Derived.Test.YtilgagmfcdfjaaaGreatM8
import Derived.Test.YtilgagmfcdfjaaaGreatM11
import Derived.Test.YtilgagmfcdfjaaaGreatM12
set_option linter.unusedSimpArgs false
set_option linter.unusedVariables false
set_option maxHeartbeats 20000000
namespace Go.Proofs.YtilgagmfcdfjaaaGreat
open Go.RowKit
section
attribute [local go_sem ↓] Go.wp_at_zero Go.wp_at_succ
theorem info_Grp : (Tryz.prog.info? 98).map (fun i => (i.zero, i.size, i.bytes)) = some (some (.agg #[.int .i64 0, .int .i64 0, .slice none 0 0]), 3, 40) := by kernel_rfl
set_option maxRecDepth 10000 in
theorem clone_Grp (A : Option Addr) (n c : Nat) (us : List Value) (w : World) (hr : Reads w w.heap.size 3 A n us) (h1 : ∀ u ∈ us, u.oneCell' = true) (hn : n ≤ 1000000) :
  Calls Tryz.prog 38 #[.slice A n c] w fun e w' => ∃ y, e = .returned y ∧ w'.ownsRow w.heap.size 98 3 y n us ∧ Below w.heap.size w w' := by
 cases A with
 | none =>
  have h0 : n = 0 := by
   rcases Nat.eq_zero_or_pos n with h | h
   ·exact h
   ·obtain ⟨b, off, h, _⟩ := hr.2 h; cases h
  subst h0
  have hx : us = [] := List.length_eq_zero_iff.1 (by simpa using hr.1)
  subst hx
  have hq := fun w => Lib.run_eql_slice_nil (P := Tryz.prog) w 32 98 none 0 c 0 0 Tryz.underlying32
  simp only [Option.isNone_none] at hq
  go_enter Tryz.func38, Tryz.ntmps38
  go_wp2
  go_ret
  exact ⟨_, rfl, own_nil, by repeat (first | assumption | exact Below.refl _ _ | refine Gr.drew ?_ | refine Gr.drewN ?_ _ | refine Gr.alloc ?_ _ | refine Gr.set_ ?_ (by first | (simp; done) | assumption | omega | (simp; omega)) _)⟩
 | some ad =>
  have hq := fun w => Lib.run_eql_slice_nil (P := Tryz.prog) w 32 98 (some ad) n c 0 0 Tryz.underlying32
  simp only [Option.isNone_some] at hq
  go_enter Tryz.func38, Tryz.ntmps38
  go_wp2_with (at_builtin; refine app_any (.tmp 5) (.tmp 6) rfl rfl Tryz.underlying32 info_Grp rfl (by omega) (by rfl) (own_new (Blk.new _ _ _) (Nat.le_refl _) : World.ownsRow _ w.heap.size _ _ _ _ _) (by rfl) (hr.alloc (Nat.le_refl _) _) h1 n us (Nat.zero_add _) (List.nil_append _) (by omega) (by omega) (by simp) ?_; intro A1 c1 w1 ho1 hg1 h1 h2; have hb := grow_own (a := w) (by repeat (first | assumption | exact Below.refl _ _ | refine Gr.drew ?_ | refine Gr.drewN ?_ _ | refine Gr.alloc ?_ _ | refine Gr.set_ ?_ (by first | (simp; done) | assumption | omega | (simp; omega)) _)) hg1 (own_new (base := w.heap.size) (size := 3) (Blk.new _ _ _) (Nat.le_refl _)) (Nat.le_refl _))
  go_ret
  exact ⟨_, rfl, ho1, hb⟩
end
theorem okC_Grp : CallOK Tryz.prog 38 := ⟨_, Tryz.func38, by kernel_rfl, rfl⟩
theorem cl_Grp (xs : List (List AV)) (hx : xs.length ≤ 1000000) : AC Tryz.prog 38 [.sl 3 xs] [] (.own 0 xs.length) [(0, .row 98 3 xs)] := by
 refine ac_own okC_Grp fun w A vs h => ?_
 simp only [repL, rep] at h
 obtain ⟨y, us', rfl, ⟨ad, c, us, rfl, h1, h2, h3, h4⟩, rfl⟩ := h
 have hr : Reads w w.heap.size 3 ad xs.length us := by
  refine ⟨repLL_len h4, fun hn => ?_⟩
  rcases h3 with rfl | ⟨b, off, e, _, h6, h7⟩
  ·have := repLL_len h4
   simp only [List.length_nil] at this
   omega
  ·exact ⟨b, off, e, h6, h7⟩
 refine (clone_Grp ad xs.length c us w hr (repLL_one h4) hx).mono ?_
 rintro r w' ⟨y, rfl, h5, h6⟩
 exact ⟨y, us, rfl, h5, h4, h6⟩
section
attribute [local go_sem ↓] Go.wp_at_zero Go.wp_at_succ
theorem info_Inp : (Tryz.prog.info? 195).map (fun i => (i.zero, i.size, i.bytes)) = some (some (.agg #[.int .i64 0, .bool false]), 2, 16) := by kernel_rfl
set_option maxRecDepth 10000 in
theorem clone_Inp (A : Option Addr) (n c : Nat) (us : List Value) (w : World) (hr : Reads w w.heap.size 2 A n us) (h1 : ∀ u ∈ us, u.oneCell' = true) (hn : n ≤ 1000000) :
  Calls Tryz.prog 156 #[.slice A n c] w fun e w' => ∃ y, e = .returned y ∧ w'.ownsRow w.heap.size 195 2 y n us ∧ Below w.heap.size w w' := by
 cases A with
 | none =>
  have h0 : n = 0 := by
   rcases Nat.eq_zero_or_pos n with h | h
   ·exact h
   ·obtain ⟨b, off, h, _⟩ := hr.2 h; cases h
  subst h0
  have hx : us = [] := List.length_eq_zero_iff.1 (by simpa using hr.1)
  subst hx
  have hq := fun w => Lib.run_eql_slice_nil (P := Tryz.prog) w 33 195 none 0 c 0 0 Tryz.underlying33
  simp only [Option.isNone_none] at hq
  go_enter Tryz.func156, Tryz.ntmps156
  go_wp2
  go_ret
  exact ⟨_, rfl, own_nil, by repeat (first | assumption | exact Below.refl _ _ | refine Gr.drew ?_ | refine Gr.drewN ?_ _ | refine Gr.alloc ?_ _ | refine Gr.set_ ?_ (by first | (simp; done) | assumption | omega | (simp; omega)) _)⟩
 | some ad =>
  have hq := fun w => Lib.run_eql_slice_nil (P := Tryz.prog) w 33 195 (some ad) n c 0 0 Tryz.underlying33
  simp only [Option.isNone_some] at hq
  go_enter Tryz.func156, Tryz.ntmps156
  go_wp2_with (at_builtin; refine app_any (.tmp 5) (.tmp 6) rfl rfl Tryz.underlying33 info_Inp rfl (by omega) (by rfl) (own_new (Blk.new _ _ _) (Nat.le_refl _) : World.ownsRow _ w.heap.size _ _ _ _ _) (by rfl) (hr.alloc (Nat.le_refl _) _) h1 n us (Nat.zero_add _) (List.nil_append _) (by omega) (by omega) (by simp) ?_; intro A1 c1 w1 ho1 hg1 h1 h2; have hb := grow_own (a := w) (by repeat (first | assumption | exact Below.refl _ _ | refine Gr.drew ?_ | refine Gr.drewN ?_ _ | refine Gr.alloc ?_ _ | refine Gr.set_ ?_ (by first | (simp; done) | assumption | omega | (simp; omega)) _)) hg1 (own_new (base := w.heap.size) (size := 2) (Blk.new _ _ _) (Nat.le_refl _)) (Nat.le_refl _))
  go_ret
  exact ⟨_, rfl, ho1, hb⟩
end
theorem okC_Inp : CallOK Tryz.prog 156 := ⟨_, Tryz.func156, by kernel_rfl, rfl⟩
theorem cl_Inp (xs : List (List AV)) (hx : xs.length ≤ 1000000) : AC Tryz.prog 156 [.sl 2 xs] [] (.own 0 xs.length) [(0, .row 195 2 xs)] := by
 refine ac_own okC_Inp fun w A vs h => ?_
 simp only [repL, rep] at h
 obtain ⟨y, us', rfl, ⟨ad, c, us, rfl, h1, h2, h3, h4⟩, rfl⟩ := h
 have hr : Reads w w.heap.size 2 ad xs.length us := by
  refine ⟨repLL_len h4, fun hn => ?_⟩
  rcases h3 with rfl | ⟨b, off, e, _, h6, h7⟩
  ·have := repLL_len h4
   simp only [List.length_nil] at this
   omega
  ·exact ⟨b, off, e, h6, h7⟩
 refine (clone_Inp ad xs.length c us w hr (repLL_one h4) hx).mono ?_
 rintro r w' ⟨y, rfl, h5, h6⟩
 exact ⟨y, us, rfl, h5, h4, h6⟩
section
attribute [local go_sem ↓] Go.wp_at_zero Go.wp_at_succ
theorem info_Hld : (Tryz.prog.info? 192).map (fun i => (i.zero, i.size, i.bytes)) = some (some (.agg #[.int .i64 0, .int .i64 0]), 2, 16) := by kernel_rfl
set_option maxRecDepth 10000 in
theorem clone_Hld (A : Option Addr) (n c : Nat) (us : List Value) (w : World) (hr : Reads w w.heap.size 2 A n us) (h1 : ∀ u ∈ us, u.oneCell' = true) (hn : n ≤ 1000000) :
  Calls Tryz.prog 157 #[.slice A n c] w fun e w' => ∃ y, e = .returned y ∧ w'.ownsRow w.heap.size 192 2 y n us ∧ Below w.heap.size w w' := by
 cases A with
 | none =>
  have h0 : n = 0 := by
   rcases Nat.eq_zero_or_pos n with h | h
   ·exact h
   ·obtain ⟨b, off, h, _⟩ := hr.2 h; cases h
  subst h0
  have hx : us = [] := List.length_eq_zero_iff.1 (by simpa using hr.1)
  subst hx
  have hq := fun w => Lib.run_eql_slice_nil (P := Tryz.prog) w 34 192 none 0 c 0 0 Tryz.underlying34
  simp only [Option.isNone_none] at hq
  go_enter Tryz.func157, Tryz.ntmps157
  go_wp2
  go_ret
  exact ⟨_, rfl, own_nil, by repeat (first | assumption | exact Below.refl _ _ | refine Gr.drew ?_ | refine Gr.drewN ?_ _ | refine Gr.alloc ?_ _ | refine Gr.set_ ?_ (by first | (simp; done) | assumption | omega | (simp; omega)) _)⟩
 | some ad =>
  have hq := fun w => Lib.run_eql_slice_nil (P := Tryz.prog) w 34 192 (some ad) n c 0 0 Tryz.underlying34
  simp only [Option.isNone_some] at hq
  go_enter Tryz.func157, Tryz.ntmps157
  go_wp2_with (at_builtin; refine app_any (.tmp 5) (.tmp 6) rfl rfl Tryz.underlying34 info_Hld rfl (by omega) (by rfl) (own_new (Blk.new _ _ _) (Nat.le_refl _) : World.ownsRow _ w.heap.size _ _ _ _ _) (by rfl) (hr.alloc (Nat.le_refl _) _) h1 n us (Nat.zero_add _) (List.nil_append _) (by omega) (by omega) (by simp) ?_; intro A1 c1 w1 ho1 hg1 h1 h2; have hb := grow_own (a := w) (by repeat (first | assumption | exact Below.refl _ _ | refine Gr.drew ?_ | refine Gr.drewN ?_ _ | refine Gr.alloc ?_ _ | refine Gr.set_ ?_ (by first | (simp; done) | assumption | omega | (simp; omega)) _)) hg1 (own_new (base := w.heap.size) (size := 2) (Blk.new _ _ _) (Nat.le_refl _)) (Nat.le_refl _))
  go_ret
  exact ⟨_, rfl, ho1, hb⟩
end
theorem okC_Hld : CallOK Tryz.prog 157 := ⟨_, Tryz.func157, by kernel_rfl, rfl⟩
theorem cl_Hld (xs : List (List AV)) (hx : xs.length ≤ 1000000) : AC Tryz.prog 157 [.sl 2 xs] [] (.own 0 xs.length) [(0, .row 192 2 xs)] := by
 refine ac_own okC_Hld fun w A vs h => ?_
 simp only [repL, rep] at h
 obtain ⟨y, us', rfl, ⟨ad, c, us, rfl, h1, h2, h3, h4⟩, rfl⟩ := h
 have hr : Reads w w.heap.size 2 ad xs.length us := by
  refine ⟨repLL_len h4, fun hn => ?_⟩
  rcases h3 with rfl | ⟨b, off, e, _, h6, h7⟩
  ·have := repLL_len h4
   simp only [List.length_nil] at this
   omega
  ·exact ⟨b, off, e, h6, h7⟩
 refine (clone_Hld ad xs.length c us w hr (repLL_one h4) hx).mono ?_
 rintro r w' ⟨y, rfl, h5, h6⟩
 exact ⟨y, us, rfl, h5, h4, h6⟩
section
attribute [local go_sem ↓] Go.wp_at_zero Go.wp_at_succ
theorem info_Boo : (Tryz.prog.info? 4).map (fun i => (i.zero, i.size, i.bytes)) = some (some (.bool false), 1, 1) := by kernel_rfl
set_option maxRecDepth 10000 in
theorem clone_Boo (A : Option Addr) (n c : Nat) (us : List Value) (w : World) (hr : Reads w w.heap.size 1 A n us) (h1 : ∀ u ∈ us, u.oneCell' = true) (hn : n ≤ 1000000) :
  Calls Tryz.prog 128 #[.slice A n c] w fun e w' => ∃ y, e = .returned y ∧ w'.ownsRow w.heap.size 4 1 y n us ∧ Below w.heap.size w w' := by
 cases A with
 | none =>
  have h0 : n = 0 := by
   rcases Nat.eq_zero_or_pos n with h | h
   ·exact h
   ·obtain ⟨b, off, h, _⟩ := hr.2 h; cases h
  subst h0
  have hx : us = [] := List.length_eq_zero_iff.1 (by simpa using hr.1)
  subst hx
  have hq := fun w => Lib.run_eql_slice_nil (P := Tryz.prog) w 37 4 none 0 c 0 0 Tryz.underlying37
  simp only [Option.isNone_none] at hq
  go_enter Tryz.func128, Tryz.ntmps128
  go_wp2
  go_ret
  exact ⟨_, rfl, own_nil, by repeat (first | assumption | exact Below.refl _ _ | refine Gr.drew ?_ | refine Gr.drewN ?_ _ | refine Gr.alloc ?_ _ | refine Gr.set_ ?_ (by first | (simp; done) | assumption | omega | (simp; omega)) _)⟩
 | some ad =>
  have hq := fun w => Lib.run_eql_slice_nil (P := Tryz.prog) w 37 4 (some ad) n c 0 0 Tryz.underlying37
  simp only [Option.isNone_some] at hq
  go_enter Tryz.func128, Tryz.ntmps128
  go_wp2_with (at_builtin; refine app_any (.tmp 5) (.tmp 6) rfl rfl Tryz.underlying37 info_Boo rfl (by omega) (by rfl) (own_new (Blk.new _ _ _) (Nat.le_refl _) : World.ownsRow _ w.heap.size _ _ _ _ _) (by rfl) (hr.alloc (Nat.le_refl _) _) h1 n us (Nat.zero_add _) (List.nil_append _) (by omega) (by omega) (by simp) ?_; intro A1 c1 w1 ho1 hg1 h1 h2; have hb := grow_own (a := w) (by repeat (first | assumption | exact Below.refl _ _ | refine Gr.drew ?_ | refine Gr.drewN ?_ _ | refine Gr.alloc ?_ _ | refine Gr.set_ ?_ (by first | (simp; done) | assumption | omega | (simp; omega)) _)) hg1 (own_new (base := w.heap.size) (size := 1) (Blk.new _ _ _) (Nat.le_refl _)) (Nat.le_refl _))
  go_ret
  exact ⟨_, rfl, ho1, hb⟩
end
theorem okC_Boo : CallOK Tryz.prog 128 := ⟨_, Tryz.func128, by kernel_rfl, rfl⟩
theorem cl_Boo (xs : List (List AV)) (hx : xs.length ≤ 1000000) : AC Tryz.prog 128 [.sl 1 xs] [] (.own 0 xs.length) [(0, .row 4 1 xs)] := by
 refine ac_own okC_Boo fun w A vs h => ?_
 simp only [repL, rep] at h
 obtain ⟨y, us', rfl, ⟨ad, c, us, rfl, h1, h2, h3, h4⟩, rfl⟩ := h
 have hr : Reads w w.heap.size 1 ad xs.length us := by
  refine ⟨repLL_len h4, fun hn => ?_⟩
  rcases h3 with rfl | ⟨b, off, e, _, h6, h7⟩
  ·have := repLL_len h4
   simp only [List.length_nil] at this
   omega
  ·exact ⟨b, off, e, h6, h7⟩
 refine (clone_Boo ad xs.length c us w hr (repLL_one h4) hx).mono ?_
 rintro r w' ⟨y, rfl, h5, h6⟩
 exact ⟨y, us, rfl, h5, h4, h6⟩
section
attribute [local go_sem ↓] Go.wp_at_zero Go.wp_at_succ
theorem info_Its : (Tryz.prog.info? 53).map (fun i => (i.zero, i.size, i.bytes)) = some (some (.slice none 0 0), 1, 24) := by kernel_rfl
set_option maxRecDepth 10000 in
theorem clone_Its (A : Option Addr) (n c : Nat) (us : List Value) (w : World) (hr : Reads w w.heap.size 1 A n us) (h1 : ∀ u ∈ us, u.oneCell' = true) (hn : n ≤ 1000000) :
  Calls Tryz.prog 129 #[.slice A n c] w fun e w' => ∃ y, e = .returned y ∧ w'.ownsRow w.heap.size 53 1 y n us ∧ Below w.heap.size w w' := by
 cases A with
 | none =>
  have h0 : n = 0 := by
   rcases Nat.eq_zero_or_pos n with h | h
   ·exact h
   ·obtain ⟨b, off, h, _⟩ := hr.2 h; cases h
  subst h0
  have hx : us = [] := List.length_eq_zero_iff.1 (by simpa using hr.1)
  subst hx
  have hq := fun w => Lib.run_eql_slice_nil (P := Tryz.prog) w 38 53 none 0 c 0 0 Tryz.underlying38
  simp only [Option.isNone_none] at hq
  go_enter Tryz.func129, Tryz.ntmps129
  go_wp2
  go_ret
  exact ⟨_, rfl, own_nil, by repeat (first | assumption | exact Below.refl _ _ | refine Gr.drew ?_ | refine Gr.drewN ?_ _ | refine Gr.alloc ?_ _ | refine Gr.set_ ?_ (by first | (simp; done) | assumption | omega | (simp; omega)) _)⟩
 | some ad =>
  have hq := fun w => Lib.run_eql_slice_nil (P := Tryz.prog) w 38 53 (some ad) n c 0 0 Tryz.underlying38
  simp only [Option.isNone_some] at hq
  go_enter Tryz.func129, Tryz.ntmps129
  go_wp2_with (at_builtin; refine app_any (.tmp 5) (.tmp 6) rfl rfl Tryz.underlying38 info_Its rfl (by omega) (by rfl) (own_new (Blk.new _ _ _) (Nat.le_refl _) : World.ownsRow _ w.heap.size _ _ _ _ _) (by rfl) (hr.alloc (Nat.le_refl _) _) h1 n us (Nat.zero_add _) (List.nil_append _) (by omega) (by omega) (by simp) ?_; intro A1 c1 w1 ho1 hg1 h1 h2; have hb := grow_own (a := w) (by repeat (first | assumption | exact Below.refl _ _ | refine Gr.drew ?_ | refine Gr.drewN ?_ _ | refine Gr.alloc ?_ _ | refine Gr.set_ ?_ (by first | (simp; done) | assumption | omega | (simp; omega)) _)) hg1 (own_new (base := w.heap.size) (size := 1) (Blk.new _ _ _) (Nat.le_refl _)) (Nat.le_refl _))
  go_ret
  exact ⟨_, rfl, ho1, hb⟩
end
theorem okC_Its : CallOK Tryz.prog 129 := ⟨_, Tryz.func129, by kernel_rfl, rfl⟩
theorem cl_Its (xs : List (List AV)) (hx : xs.length ≤ 1000000) : AC Tryz.prog 129 [.sl 1 xs] [] (.own 0 xs.length) [(0, .row 53 1 xs)] := by
 refine ac_own okC_Its fun w A vs h => ?_
 simp only [repL, rep] at h
 obtain ⟨y, us', rfl, ⟨ad, c, us, rfl, h1, h2, h3, h4⟩, rfl⟩ := h
 have hr : Reads w w.heap.size 1 ad xs.length us := by
  refine ⟨repLL_len h4, fun hn => ?_⟩
  rcases h3 with rfl | ⟨b, off, e, _, h6, h7⟩
  ·have := repLL_len h4
   simp only [List.length_nil] at this
   omega
  ·exact ⟨b, off, e, h6, h7⟩
 refine (clone_Its ad xs.length c us w hr (repLL_one h4) hx).mono ?_
 rintro r w' ⟨y, rfl, h5, h6⟩
 exact ⟨y, us, rfl, h5, h4, h6⟩
section
attribute [local go_sem ↓] Go.wp_at_zero Go.wp_at_succ
theorem info_Itm : (Tryz.prog.info? 63).map (fun i => (i.zero, i.size, i.bytes)) = some (some (.agg #[.int .i64 0, .string ByteArray.empty, .int .i64 0, .int .i64 0, .int .i64 0, .int .i64 0, .int .i64 0, .int .i64 0, .string ByteArray.empty, .int .i64 0, .int .i64 0]), 11, 104) := by kernel_rfl
set_option maxRecDepth 10000 in
theorem clone_Itm (A : Option Addr) (n c : Nat) (us : List Value) (w : World) (hr : Reads w w.heap.size 11 A n us) (h1 : ∀ u ∈ us, u.oneCell' = true) (hn : n ≤ 1000000) :
  Calls Tryz.prog 100 #[.slice A n c] w fun e w' => ∃ y, e = .returned y ∧ w'.ownsRow w.heap.size 63 11 y n us ∧ Below w.heap.size w w' := by
 cases A with
 | none =>
  have h0 : n = 0 := by
   rcases Nat.eq_zero_or_pos n with h | h
   ·exact h
   ·obtain ⟨b, off, h, _⟩ := hr.2 h; cases h
  subst h0
  have hx : us = [] := List.length_eq_zero_iff.1 (by simpa using hr.1)
  subst hx
  have hq := fun w => Lib.run_eql_slice_nil (P := Tryz.prog) w 53 63 none 0 c 0 0 Tryz.underlying53
  simp only [Option.isNone_none] at hq
  go_enter Tryz.func100, Tryz.ntmps100
  go_wp2
  go_ret
  exact ⟨_, rfl, own_nil, by repeat (first | assumption | exact Below.refl _ _ | refine Gr.drew ?_ | refine Gr.drewN ?_ _ | refine Gr.alloc ?_ _ | refine Gr.set_ ?_ (by first | (simp; done) | assumption | omega | (simp; omega)) _)⟩
 | some ad =>
  have hq := fun w => Lib.run_eql_slice_nil (P := Tryz.prog) w 53 63 (some ad) n c 0 0 Tryz.underlying53
  simp only [Option.isNone_some] at hq
  go_enter Tryz.func100, Tryz.ntmps100
  go_wp2_with (at_builtin; refine app_any (.tmp 5) (.tmp 6) rfl rfl Tryz.underlying53 info_Itm rfl (by omega) (by rfl) (own_new (Blk.new _ _ _) (Nat.le_refl _) : World.ownsRow _ w.heap.size _ _ _ _ _) (by rfl) (hr.alloc (Nat.le_refl _) _) h1 n us (Nat.zero_add _) (List.nil_append _) (by omega) (by omega) (by simp) ?_; intro A1 c1 w1 ho1 hg1 h1 h2; have hb := grow_own (a := w) (by repeat (first | assumption | exact Below.refl _ _ | refine Gr.drew ?_ | refine Gr.drewN ?_ _ | refine Gr.alloc ?_ _ | refine Gr.set_ ?_ (by first | (simp; done) | assumption | omega | (simp; omega)) _)) hg1 (own_new (base := w.heap.size) (size := 11) (Blk.new _ _ _) (Nat.le_refl _)) (Nat.le_refl _))
  go_ret
  exact ⟨_, rfl, ho1, hb⟩
end
theorem okC_Itm : CallOK Tryz.prog 100 := ⟨_, Tryz.func100, by kernel_rfl, rfl⟩
theorem cl_Itm (xs : List (List AV)) (hx : xs.length ≤ 1000000) : AC Tryz.prog 100 [.sl 11 xs] [] (.own 0 xs.length) [(0, .row 63 11 xs)] := by
 refine ac_own okC_Itm fun w A vs h => ?_
 simp only [repL, rep] at h
 obtain ⟨y, us', rfl, ⟨ad, c, us, rfl, h1, h2, h3, h4⟩, rfl⟩ := h
 have hr : Reads w w.heap.size 11 ad xs.length us := by
  refine ⟨repLL_len h4, fun hn => ?_⟩
  rcases h3 with rfl | ⟨b, off, e, _, h6, h7⟩
  ·have := repLL_len h4
   simp only [List.length_nil] at this
   omega
  ·exact ⟨b, off, e, h6, h7⟩
 refine (clone_Itm ad xs.length c us w hr (repLL_one h4) hx).mono ?_
 rintro r w' ⟨y, rfl, h5, h6⟩
 exact ⟨y, us, rfl, h5, h4, h6⟩
theorem ridx_closed (mark : Int) (ps : List Pn) : (!decide (0 ≤ ridx (closed mark) ps)) = ps.all fun p => decide (mark < p.hi) := by
 have e : (ps.all fun p => decide (mark < p.hi)) = ps.all fun p => !closed mark p := by
  congr 1
  funext p
  have h1 : decide (mark < p.hi) = !decide (p.hi ≤ mark) := by
   by_cases h : p.hi ≤ mark
   ·have : ¬ mark < p.hi := by omega
    simp [h, this]
   ·have : mark < p.hi := by omega
    simp [h, this]
  exact h1
 rw [e]
 cases h : ps.all fun p => !closed mark p
 ·unfold ridx
  have hlt : fidx (closed mark) ps < ps.length := by
   rcases Nat.lt_or_ge (fidx (closed mark) ps) ps.length with h1 | h1
   ·exact h1
   ·exfalso
    have h2 : (ps.takeWhile fun x => !closed mark x) = ps := by
     have h3 := List.takeWhile_sublist (l := ps) (fun x => !closed mark x)
     exact h3.eq_of_length (by unfold fidx at h1; have := h3.length_le; omega)
    have h4 : (ps.all fun p => !closed mark p) = true := by
     have := List.all_takeWhile (p := fun x => !closed mark x) (l := ps)
     rwa [h2] at this
    rw [h] at h4; cases h4
  rw [if_pos hlt]; simp
 ·rw [ridx_all h]; simp
theorem c_GR1 (no mark : Int) (ps : List Pn) (lo hi : Int) (k : ByteArray) (n a b : Int) : AC Tryz.prog 86 [.agg [.v (.int .i64 lo), .v (.int .i64 hi), .v (.string k), .v (.int .i64 n), .v (.int .i64 a), .v (.int .i64 b)], .ref 0 0] [(0, .box 98 [.v (.int .i64 no), .v (.int .i64 mark), .sl 6 (ps.map Pn.av)])] (.v (.bool (closed mark ⟨lo, hi, k, n, a, b⟩))) [(0, .box 98 [.v (.int .i64 no), .v (.int .i64 mark), .sl 6 (ps.map Pn.av)])] := by
 refine (ac_body tab_ok Tryz.func86 rfl (by kernel_rfl) rfl ?_); intro w0 M μ0; simp only [Tryz.ntmps86, List.length_cons, List.length_nil, Nat.reduceAdd, Nat.reduceSub, numb]
 repeat' (first | ((first | apply o_do | apply d_do | apply d_yes rfl rfl rfl); first | exact lsc ((p_Closed _ _ _)) | exact lsq) | refine a_seq ?_ | refine a_region ?_ | refine o_nil ?_ | refine a_block ?_ | refine a_ret ?_ | refine a_exit ?_ | refine a_skip ?_ | refine a_draw mixed ?_ | refine d_nil (by kernel_rfl) ?_ | refine o_yes rfl rfl rfl ?_ | refine o_no rfl rfl rfl (by decide) ?_ | refine o_no' rfl rfl rfl ?_ | refine a_condT rfl ?_ | refine a_condF rfl ?_ | refine d_no rfl rfl rfl (by decide) ?_ | refine d_no' rfl rfl rfl ?_ | (refine wq2 (fun hb => ?_) (fun hb => ?_) <;> (simp only [hb]; try simp only [hbs, ne_eq] at hb; try (exfalso; first | omega | exact hb trivial))) | fail)
 refine rq rfl ?_
 exact fnq
theorem g_Right (no mark : Int) (ps : List Pn) (hx : ps.length ≤ 9223372036854775807) : PC Tryz.prog 57 [.agg [.v (.int .i64 no), .v (.int .i64 mark), .sl 6 (ps.map Pn.av)]] (.v (.bool (grR no mark ps))) := by
 have hp := p_Right ps hx
 have hc := p_Contains 86 (closed mark) 98 [.v (.int .i64 no), .v (.int .i64 mark), .sl 6 (ps.map Pn.av)] rfl (fun ρ => rfl) (fun lo hi k n a b => c_GR1 no mark ps lo hi k n a b) ps hx
 have hr := ridx_closed mark ps
 refine PC.mk (ac_body tab_ok Tryz.func57 rfl (by kernel_rfl) rfl ?_); intro w0 M μ0; simp only [Tryz.ntmps57, List.length_cons, List.length_nil, Nat.reduceAdd, Nat.reduceSub, numb]
 repeat' (first | ((first | apply o_do | apply d_do | apply d_yes rfl rfl rfl); first | exact lsc (hp) | exact lca [0] 1 hc | exact lsq) | refine a_seq ?_ | refine a_region ?_ | refine o_nil ?_ | refine a_block ?_ | refine a_ret ?_ | refine a_exit ?_ | refine a_skip ?_ | refine a_draw mixed ?_ | refine d_nil (by kernel_rfl) ?_ | refine o_yes rfl rfl rfl ?_ | refine o_no rfl rfl rfl (by decide) ?_ | refine o_no' rfl rfl rfl ?_ | refine a_condT rfl ?_ | refine a_condF rfl ?_ | refine d_no rfl rfl rfl (by decide) ?_ | refine d_no' rfl rfl rfl ?_ | (refine wq2 (fun hb => ?_) (fun hb => ?_) <;> (simp only [hb]; try simp only [hbs, ne_eq] at hb; try (exfalso; first | omega | exact hb trivial))) | fail)
 all_goals refine rq rfl ?_
 all_goals (first | refine FinA.tup ?_ | refine FinA.one ?_); repeat' (first | exact FinBs.nil | exact FinCs.nil | refine FinBs.cons ?_ ?_ | refine FinCs.cons ?_ ?_ | refine FinB.cell (FinC.v ?_) | refine FinB.cell (FinC.own rfl rfl rfl ?_) | exact FinB.cell FinC.nil | refine FinB.cell (FinC.sl ?_) | exact FinB.agg' rfl rfl | exact FinB.cell (FinC.same rfl) | refine FinB.agg ?_ | refine FinC.v ?_ | refine FinC.own rfl rfl rfl ?_ | exact FinC.nil | refine FinC.sl ?_ | exact FinC.same rfl); all_goals try rfl
 all_goals first
  | (simp [grR, *]; done)
  | (simp [grR, *]; omega)
  | (have a1 : 0 ≤ no := by omega
     have a2 : no < 32 := by omega
     have a3 : 0 ≤ mark := by omega
     have a4 : mark ≤ 1099511627776 := by omega
     simp [grR, *])
theorem g_Job (g s d k fu li de id : Int) : PC Tryz.prog 141 [.agg [.v (.int .i64 g), .v (.int .i64 s), .v (.int .i64 d), .v (.int .i64 k), .v (.int .i64 fu), .v (.int .i64 li), .v (.int .i64 de), .v (.int .i64 id)]] (.v (.bool (jobR s d k))) := by
 refine PC.mk (ac_body tab_ok Tryz.func141 rfl (by kernel_rfl) rfl ?_); intro w0 M μ0; simp only [Tryz.ntmps141, List.length_cons, List.length_nil, Nat.reduceAdd, Nat.reduceSub, numb]
 repeat' (first | ((first | apply o_do | apply d_do | apply d_yes rfl rfl rfl); first | exact lsc ((p_wRight _ _)) | exact lsc ((p_fRight _)) | exact lsq) | refine a_seq ?_ | refine a_region ?_ | refine o_nil ?_ | refine a_block ?_ | refine a_ret ?_ | refine a_exit ?_ | refine a_skip ?_ | refine a_draw mixed ?_ | refine d_nil (by kernel_rfl) ?_ | refine o_yes rfl rfl rfl ?_ | refine o_no rfl rfl rfl (by decide) ?_ | refine o_no' rfl rfl rfl ?_ | refine a_condT rfl ?_ | refine a_condF rfl ?_ | refine d_no rfl rfl rfl (by decide) ?_ | refine d_no' rfl rfl rfl ?_ | (refine wq2 (fun hb => ?_) (fun hb => ?_) <;> (simp only [hb]; try simp only [hbs, ne_eq] at hb; try (exfalso; first | omega | exact hb trivial))) | fail)
 all_goals refine rq rfl ?_
 all_goals (first | refine FinA.tup ?_ | refine FinA.one ?_); repeat' (first | exact FinBs.nil | exact FinCs.nil | refine FinBs.cons ?_ ?_ | refine FinCs.cons ?_ ?_ | refine FinB.cell (FinC.v ?_) | refine FinB.cell (FinC.own rfl rfl rfl ?_) | exact FinB.cell FinC.nil | refine FinB.cell (FinC.sl ?_) | exact FinB.agg' rfl rfl | exact FinB.cell (FinC.same rfl) | refine FinB.agg ?_ | refine FinC.v ?_ | refine FinC.own rfl rfl rfl ?_ | exact FinC.nil | refine FinC.sl ?_ | exact FinC.same rfl); all_goals try rfl
 all_goals simp [jobR, *]
theorem w_groups (gs : List Gp) (hx : gs.length ≤ 9223372036854775807) (hp : ∀ g ∈ gs, g.ps.length ≤ 9223372036854775807) : PC Tryz.prog 37 [.sl 3 (gs.map Gp.av)] (.v (.bool (gsR gs))) := by
 have hn1 : (gs.map Gp.av).length = gs.length := List.length_map _
 by_cases hbig : 32 < gs.length
 ·have e : gsR gs = false := by
   cases h : gsR gs
   ·rfl
   ·have := gsR_le h; omega
  rw [e]
  refine PC.mk (ac_body tab_ok Tryz.func37 rfl (by kernel_rfl) rfl ?_); intro w0 M μ0; simp only [Tryz.ntmps37, List.length_cons, List.length_nil, Nat.reduceAdd, Nat.reduceSub, numb]
  repeat' (first | ((first | apply o_do | apply d_do | apply d_yes rfl rfl rfl); exact lsq) | refine a_seq ?_ | refine a_region ?_ | refine o_nil ?_ | refine a_block ?_ | refine a_ret ?_ | refine a_exit ?_ | refine a_skip ?_ | refine a_draw mixed ?_ | refine d_nil (by kernel_rfl) ?_ | refine o_yes rfl rfl rfl ?_ | refine o_no rfl rfl rfl (by decide) ?_ | refine o_no' rfl rfl rfl ?_ | refine a_condT rfl ?_ | refine a_condF rfl ?_ | refine d_no rfl rfl rfl (by decide) ?_ | refine d_no' rfl rfl rfl ?_ | (refine wq2 (fun hb => ?_) (fun hb => ?_) <;> (simp only [hb]; try simp only [hbs, ne_eq] at hb; try (exfalso; first | omega | exact hb trivial))) | fail)
  all_goals refine rq rfl ?_
  all_goals exact fnq
 refine PC.mk (ac_body tab_ok Tryz.func37 rfl (by kernel_rfl) rfl ?_); intro w0 M μ0; simp only [Tryz.ntmps37, List.length_cons, List.length_nil, Nat.reduceAdd, Nat.reduceSub, numb]
 repeat' (first | ((first | apply o_do | apply d_do | apply d_yes rfl rfl rfl); exact lsq) | refine a_seq ?_ | refine a_region ?_ | refine o_nil ?_ | refine a_block ?_ | refine a_ret ?_ | refine a_exit ?_ | refine a_skip ?_ | refine a_draw mixed ?_ | refine d_nil (by kernel_rfl) ?_ | refine o_yes rfl rfl rfl ?_ | refine o_no rfl rfl rfl (by decide) ?_ | refine o_no' rfl rfl rfl ?_ | refine a_condT rfl ?_ | refine a_condF rfl ?_ | refine d_no rfl rfl rfl (by decide) ?_ | refine d_no' rfl rfl rfl ?_ | (refine wq2 (fun hb => ?_) (fun hb => ?_) <;> (simp only [hb]; try simp only [hbs, ne_eq] at hb; try (exfalso; first | omega | exact hb trivial))) | fail)
 refine a_loop (X := {q : Nat // q ≤ gs.length ∧ (List.range q).all (gpG gs) = true}) (fun x => ⟨[(0, .sl 3 (gs.map Gp.av)), (8, .sl 3 (gs.map Gp.av)), (9, .v (.int .i64 gs.length)), (10, .v (.int .i64 x.1))], []⟩) (fun x => gs.length - x.1) ⟨0, Nat.zero_le _, rfl⟩ ?_ ?_
 ·exact wkS
 rintro ⟨q, hq, hok⟩
 dsimp only
 by_cases hlt : q < gs.length
 ·have hel : (gs.map Gp.av)[q]? = some (Gp.av gs[q]) := by simp [hlt]
  have hbad : gpG gs q = false → gsR gs = false := fun h => rall_fail hlt h
  have hgo : gpG gs q = true → (List.range (q + 1)).all (gpG gs) = true := fun h => by rw [rall_snoc, hok, h]; rfl
  have hR := g_Right gs[q].no gs[q].mark gs[q].ps (hp _ (List.getElem_mem hlt))
  rcases Nat.eq_zero_or_pos q with rfl | hq0
  ·have hG : gpG gs 0 = grR gs[0].no gs[0].mark gs[0].ps := by simp only [gpG, getD_at hlt]; simp
   generalize gs[0] = x at *
   obtain ⟨no, mark, ps⟩ := x
   dsimp only at *
   cases hr : grR no mark ps
   ·rw [hr] at hR hG
    rw [hbad hG]
    repeat' (first | ((first | apply o_do | apply d_do | apply d_yes rfl rfl rfl); first | exact ls_indexAddr_sl tab_ok rfl rfl rfl rfl (by assumption) rfl | exact lsc (hR) | exact lsq) | refine a_seq ?_ | refine a_region ?_ | refine o_nil ?_ | refine a_block ?_ | refine a_ret ?_ | refine a_exit ?_ | refine a_skip ?_ | refine a_draw mixed ?_ | refine d_nil (by kernel_rfl) ?_ | refine o_yes rfl rfl rfl ?_ | refine o_no rfl rfl rfl (by decide) ?_ | refine o_no' rfl rfl rfl ?_ | refine a_condT rfl ?_ | refine a_condF rfl ?_ | refine d_no rfl rfl rfl (by decide) ?_ | refine d_no' rfl rfl rfl ?_ | (refine wq2 (fun hb => ?_) (fun hb => ?_) <;> (simp only [hb]; try simp only [hbs, ne_eq] at hb; try (exfalso; first | omega | exact hb trivial))) | fail)
    refine rq rfl ?_
    exact fnq
   ·rw [hr] at hR hG
    repeat' (first | ((first | apply o_do | apply d_do | apply d_yes rfl rfl rfl); first | exact ls_indexAddr_sl tab_ok rfl rfl rfl rfl (by assumption) rfl | exact lsc (hR) | exact lsq) | refine a_seq ?_ | refine a_region ?_ | refine o_nil ?_ | refine a_block ?_ | refine a_ret ?_ | refine a_exit ?_ | refine a_skip ?_ | refine a_draw mixed ?_ | refine d_nil (by kernel_rfl) ?_ | refine o_yes rfl rfl rfl ?_ | refine o_no rfl rfl rfl (by decide) ?_ | refine o_no' rfl rfl rfl ?_ | refine a_condT rfl ?_ | refine a_condF rfl ?_ | refine d_no rfl rfl rfl (by decide) ?_ | refine d_no' rfl rfl rfl ?_ | (refine wq2 (fun hb => ?_) (fun hb => ?_) <;> (simp only [hb]; try simp only [hbs, ne_eq] at hb; try (exfalso; first | omega | exact hb trivial))) | fail)
    refine ⟨⟨0 + 1, by omega, hgo hG⟩, by dsimp only; omega, ?_⟩
    exact wkS
  ·obtain ⟨j, rfl⟩ : ∃ j, q = j + 1 := ⟨q - 1, by omega⟩
   have hj : ((j + 1 : Nat) : Int) - 1 = (j : Int) := by omega
   have hlj : j < gs.length := by omega
   have hel2 : (gs.map Gp.av)[j]? = some (Gp.av gs[j]) := by simp [hlj]
   have hG : gpG gs (j + 1) = (grR gs[j + 1].no gs[j + 1].mark gs[j + 1].ps && decide (gs[j].no < gs[j + 1].no)) := by simp [gpG, hlt, hlj]
   generalize gs[j + 1] = x at *
   generalize gs[j] = y at *
   obtain ⟨no, mark, ps⟩ := x
   obtain ⟨no', mark', ps'⟩ := y
   dsimp only at *
   cases hr : grR no mark ps
   ·rw [hr] at hR hG
    rw [hbad (by rw [hG]; rfl)]
    repeat' (first | ((first | apply o_do | apply d_do | apply d_yes rfl rfl rfl); first | exact ls_indexAddr_sl tab_ok rfl rfl rfl rfl (by assumption) rfl | exact ls_indexAddr_sl tab_ok rfl rfl rfl hj hel2 rfl | exact lsc (hR) | exact lsq) | refine a_seq ?_ | refine a_region ?_ | refine o_nil ?_ | refine a_block ?_ | refine a_ret ?_ | refine a_exit ?_ | refine a_skip ?_ | refine a_draw mixed ?_ | refine d_nil (by kernel_rfl) ?_ | refine o_yes rfl rfl rfl ?_ | refine o_no rfl rfl rfl (by decide) ?_ | refine o_no' rfl rfl rfl ?_ | refine a_condT rfl ?_ | refine a_condF rfl ?_ | refine d_no rfl rfl rfl (by decide) ?_ | refine d_no' rfl rfl rfl ?_ | (refine wq2 (fun hb => ?_) (fun hb => ?_) <;> (simp only [hb]; try simp only [hbs, ne_eq] at hb; try (exfalso; first | omega | exact hb trivial))) | fail)
    refine rq rfl ?_
    exact fnq
   ·rw [hr] at hR hG
    by_cases hc : no' < no
    ·have hg1 := hgo (by rw [hG]; simp [hc])
     repeat' (first | ((first | apply o_do | apply d_do | apply d_yes rfl rfl rfl); first | exact ls_indexAddr_sl tab_ok rfl rfl rfl rfl (by assumption) rfl | exact ls_indexAddr_sl tab_ok rfl rfl rfl hj hel2 rfl | exact lsc (hR) | exact lsq) | refine a_seq ?_ | refine a_region ?_ | refine o_nil ?_ | refine a_block ?_ | refine a_ret ?_ | refine a_exit ?_ | refine a_skip ?_ | refine a_draw mixed ?_ | refine d_nil (by kernel_rfl) ?_ | refine o_yes rfl rfl rfl ?_ | refine o_no rfl rfl rfl (by decide) ?_ | refine o_no' rfl rfl rfl ?_ | refine a_condT rfl ?_ | refine a_condF rfl ?_ | refine d_no rfl rfl rfl (by decide) ?_ | refine d_no' rfl rfl rfl ?_ | (refine wq2 (fun hb => ?_) (fun hb => ?_) <;> (simp only [hb]; try simp only [hbs, ne_eq] at hb; try (exfalso; first | omega | exact hb trivial))) | fail)
     refine ⟨⟨j + 1 + 1, by omega, hg1⟩, by dsimp only; omega, ?_⟩
     exact wkS
    ·rw [hbad (by rw [hG]; simp; omega)]
     repeat' (first | ((first | apply o_do | apply d_do | apply d_yes rfl rfl rfl); first | exact ls_indexAddr_sl tab_ok rfl rfl rfl rfl (by assumption) rfl | exact ls_indexAddr_sl tab_ok rfl rfl rfl hj hel2 rfl | exact lsc (hR) | exact lsq) | refine a_seq ?_ | refine a_region ?_ | refine o_nil ?_ | refine a_block ?_ | refine a_ret ?_ | refine a_exit ?_ | refine a_skip ?_ | refine a_draw mixed ?_ | refine d_nil (by kernel_rfl) ?_ | refine o_yes rfl rfl rfl ?_ | refine o_no rfl rfl rfl (by decide) ?_ | refine o_no' rfl rfl rfl ?_ | refine a_condT rfl ?_ | refine a_condF rfl ?_ | refine d_no rfl rfl rfl (by decide) ?_ | refine d_no' rfl rfl rfl ?_ | (refine wq2 (fun hb => ?_) (fun hb => ?_) <;> (simp only [hb]; try simp only [hbs, ne_eq] at hb; try (exfalso; first | omega | exact hb trivial))) | fail)
     refine rq rfl ?_
     exact fnq
 ·obtain rfl : q = gs.length := by omega
  have hend : gsR gs = true := hok
  rw [hend]
  repeat' (first | ((first | apply o_do | apply d_do | apply d_yes rfl rfl rfl); exact lsq) | refine a_seq ?_ | refine a_region ?_ | refine o_nil ?_ | refine a_block ?_ | refine a_ret ?_ | refine a_exit ?_ | refine a_skip ?_ | refine a_draw mixed ?_ | refine d_nil (by kernel_rfl) ?_ | refine o_yes rfl rfl rfl ?_ | refine o_no rfl rfl rfl (by decide) ?_ | refine o_no' rfl rfl rfl ?_ | refine a_condT rfl ?_ | refine a_condF rfl ?_ | refine d_no rfl rfl rfl (by decide) ?_ | refine d_no' rfl rfl rfl ?_ | (refine wq2 (fun hb => ?_) (fun hb => ?_) <;> (simp only [hb]; try simp only [hbs, ne_eq] at hb; try (exfalso; first | omega | exact hb trivial))) | fail)
  refine rq rfl ?_
  exact fnq
set_option maxRecDepth 10000 in
theorem g_Advance (g s d k fu li de id no mark : Int) (ps : List Pn) (m : Int) (hx : ps.length ≤ 9223372036854775807) :
  PC Tryz.prog 107 [.agg [.v (.int .i64 g), .v (.int .i64 s), .v (.int .i64 d), .v (.int .i64 k), .v (.int .i64 fu), .v (.int .i64 li), .v (.int .i64 de), .v (.int .i64 id)], .agg [.v (.int .i64 no), .v (.int .i64 mark), .sl 6 (ps.map Pn.av)], .v (.int .i64 m)] (adv s d k no mark ps m).av := by
 have hj := g_Job g s d k fu li de id
 have hr := g_Right no mark ps hx
 cases hJ : jobR s d k
 ·rw [show adv s d k no mark ps m = ⟨0, 0, [], [], 130⟩ by simp [adv, hJ]]
  rw [hJ] at hj
  refine PC.mk (ac_body tab_ok Tryz.func107 rfl (by kernel_rfl) rfl ?_); intro w0 M μ0; simp only [Tryz.ntmps107, List.length_cons, List.length_nil, Nat.reduceAdd, Nat.reduceSub, numb]
  repeat' (first | ((first | apply o_do | apply d_do | apply d_yes rfl rfl rfl); first | exact lsc (hj) | exact lsq) | refine a_seq ?_ | refine a_region ?_ | refine o_nil ?_ | refine a_block ?_ | refine a_ret ?_ | refine a_exit ?_ | refine a_skip ?_ | refine a_draw mixed ?_ | refine d_nil (by kernel_rfl) ?_ | refine o_yes rfl rfl rfl ?_ | refine o_no rfl rfl rfl (by decide) ?_ | refine o_no' rfl rfl rfl ?_ | refine a_condT rfl ?_ | refine a_condF rfl ?_ | refine d_no rfl rfl rfl (by decide) ?_ | refine d_no' rfl rfl rfl ?_ | (refine wq2 (fun hb => ?_) (fun hb => ?_) <;> (simp only [hb]; try simp only [hbs, ne_eq] at hb; try (exfalso; first | omega | exact hb trivial))) | fail)
  refine rq rfl ?_
  exact fnq
 cases hG : grR no mark ps
 ·rw [show adv s d k no mark ps m = ⟨0, 0, [], [], 1⟩ by simp [adv, hJ, hG]]
  rw [hJ] at hj
  rw [hG] at hr
  refine PC.mk (ac_body tab_ok Tryz.func107 rfl (by kernel_rfl) rfl ?_); intro w0 M μ0; simp only [Tryz.ntmps107, List.length_cons, List.length_nil, Nat.reduceAdd, Nat.reduceSub, numb]
  repeat' (first | ((first | apply o_do | apply d_do | apply d_yes rfl rfl rfl); first | exact lsc (hj) | exact lsc (hr) | exact lsq) | refine a_seq ?_ | refine a_region ?_ | refine o_nil ?_ | refine a_block ?_ | refine a_ret ?_ | refine a_exit ?_ | refine a_skip ?_ | refine a_draw mixed ?_ | refine d_nil (by kernel_rfl) ?_ | refine o_yes rfl rfl rfl ?_ | refine o_no rfl rfl rfl (by decide) ?_ | refine o_no' rfl rfl rfl ?_ | refine a_condT rfl ?_ | refine a_condF rfl ?_ | refine d_no rfl rfl rfl (by decide) ?_ | refine d_no' rfl rfl rfl ?_ | (refine wq2 (fun hb => ?_) (fun hb => ?_) <;> (simp only [hb]; try simp only [hbs, ne_eq] at hb; try (exfalso; first | omega | exact hb trivial))) | fail)
  refine rq rfl ?_
  exact fnq
 by_cases hm : m ≤ mark
 ·rw [show adv s d k no mark ps m = ⟨no, mark, ps, [], 0⟩ by simp [adv, hJ, hG, hm]]
  rw [hJ] at hj
  rw [hG] at hr
  refine PC.mk (ac_body tab_ok Tryz.func107 rfl (by kernel_rfl) rfl ?_); intro w0 M μ0; simp only [Tryz.ntmps107, List.length_cons, List.length_nil, Nat.reduceAdd, Nat.reduceSub, numb]
  repeat' (first | ((first | apply o_do | apply d_do | apply d_yes rfl rfl rfl); first | exact lsc (hj) | exact lsc (hr) | exact lsq) | refine a_seq ?_ | refine a_region ?_ | refine o_nil ?_ | refine a_block ?_ | refine a_ret ?_ | refine a_exit ?_ | refine a_skip ?_ | refine a_draw mixed ?_ | refine d_nil (by kernel_rfl) ?_ | refine o_yes rfl rfl rfl ?_ | refine o_no rfl rfl rfl (by decide) ?_ | refine o_no' rfl rfl rfl ?_ | refine a_condT rfl ?_ | refine a_condF rfl ?_ | refine d_no rfl rfl rfl (by decide) ?_ | refine d_no' rfl rfl rfl ?_ | (refine wq2 (fun hb => ?_) (fun hb => ?_) <;> (simp only [hb]; try simp only [hbs, ne_eq] at hb; try (exfalso; first | omega | exact hb trivial))) | fail)
  refine rq rfl ?_
  exact fnq
 ·rw [show adv s d k no mark ps m = ⟨no, min m 1099511627776, dueRB ps (min m 1099511627776), resultsL k (dueRA ps (min m 1099511627776)), 0⟩ by simp [adv, hJ, hG, hm]]
  rw [hJ] at hj
  rw [hG] at hr
  have hd := p_Due ps (min m 1099511627776) hx
  have hres := p_Results k (dueRA ps (min m 1099511627776)) (Nat.le_trans (dueRA_le _ _) hx)
  refine PC.mk (ac_body tab_ok Tryz.func107 rfl (by kernel_rfl) rfl ?_); intro w0 M μ0; simp only [Tryz.ntmps107, List.length_cons, List.length_nil, Nat.reduceAdd, Nat.reduceSub, numb]
  repeat' (first | ((first | apply o_do | apply d_do | apply d_yes rfl rfl rfl); first | exact lsc (hj) | exact lsc (hr) | exact lsc (hd) | exact lsc (hres) | exact lsq) | refine a_seq ?_ | refine a_region ?_ | refine o_nil ?_ | refine a_block ?_ | refine a_ret ?_ | refine a_exit ?_ | refine a_skip ?_ | refine a_draw mixed ?_ | refine d_nil (by kernel_rfl) ?_ | refine o_yes rfl rfl rfl ?_ | refine o_no rfl rfl rfl (by decide) ?_ | refine o_no' rfl rfl rfl ?_ | refine a_condT rfl ?_ | refine a_condF rfl ?_ | refine d_no rfl rfl rfl (by decide) ?_ | refine d_no' rfl rfl rfl ?_ | (refine wq2 (fun hb => ?_) (fun hb => ?_) <;> (simp only [hb]; try simp only [hbs, ne_eq] at hb; try (exfalso; first | omega | exact hb trivial))) | fail)
  refine rq rfl ?_
  exact fnq
structure WkOk (k : Wk) : Prop where
 gs : k.gs.length ≤ 9223372036854775807
 ps : ∀ g ∈ k.gs, g.ps.length ≤ 9223372036854775807
 ins : k.mks.ins.length ≤ 9223372036854775807
 hs : k.mks.hs.length ≤ 9223372036854775807
 got : k.al.got.length ≤ 9223372036854775807
 held : k.al.held.length ≤ 9223372036854775807
 its : ∀ l ∈ k.al.held, l.length ≤ 9223372036854775807
theorem w_Right (k : Wk) (hk : WkOk k) : PC Tryz.prog 45 [.agg k.av] (.v (.bool (wkR k))) := by
 obtain ⟨k1, k2, k3, k4, k5, k6, k7⟩ := hk
 obtain ⟨gs, ⟨ins, hs, out⟩, ⟨n, got, held⟩, told⟩ := k
 dsimp only at k1 k2 k3 k4 k5 k6 k7
 have h1 := w_groups gs k1 k2
 have h2 := m_Right ⟨ins, hs, out⟩ k3 k4
 have h3 := l_Right ⟨n, got, held⟩ k5 k6 k7
 have n1 : (ins.map inAvM).length = ins.length := List.length_map _
 have n2 : (hs.map hoAv).length = hs.length := List.length_map _
 have n3 : (got.map boAv).length = got.length := List.length_map _
 simp only [Mk.av] at h2
 simp only [Al.av] at h3
 unfold wkR
 simp only [Wk.av]
 cases e1 : gsR gs <;> cases e2 : mkR ⟨ins, hs, out⟩ <;> cases e3 : alR ⟨n, got, held⟩
 all_goals
  rw [e1] at h1
  rw [e2] at h2
  rw [e3] at h3
  refine PC.mk (ac_body tab_ok Tryz.func45 rfl (by kernel_rfl) rfl ?_); intro w0 M μ0; simp only [Tryz.ntmps45, List.length_cons, List.length_nil, Nat.reduceAdd, Nat.reduceSub, numb]
  repeat' (first | ((first | apply o_do | apply d_do | apply d_yes rfl rfl rfl); first | exact lsc (h1) | exact lsc (h2) | exact lsc (h3) | exact lsq) | refine a_seq ?_ | refine a_region ?_ | refine o_nil ?_ | refine a_block ?_ | refine a_ret ?_ | refine a_exit ?_ | refine a_skip ?_ | refine a_draw mixed ?_ | refine d_nil (by kernel_rfl) ?_ | refine o_yes rfl rfl rfl ?_ | refine o_no rfl rfl rfl (by decide) ?_ | refine o_no' rfl rfl rfl ?_ | refine a_condT rfl ?_ | refine a_condF rfl ?_ | refine d_no rfl rfl rfl (by decide) ?_ | refine d_no' rfl rfl rfl ?_ | (refine wq2 (fun hb => ?_) (fun hb => ?_) <;> (simp only [hb]; try simp only [hbs, ne_eq] at hb; try (exfalso; first | omega | exact hb trivial))) | fail)
  all_goals refine rq rfl ?_
  all_goals (first | refine FinA.tup ?_ | refine FinA.one ?_); repeat' (first | exact FinBs.nil | exact FinCs.nil | refine FinBs.cons ?_ ?_ | refine FinCs.cons ?_ ?_ | refine FinB.cell (FinC.v ?_) | refine FinB.cell (FinC.own rfl rfl rfl ?_) | exact FinB.cell FinC.nil | refine FinB.cell (FinC.sl ?_) | exact FinB.agg' rfl rfl | exact FinB.cell (FinC.same rfl) | refine FinB.agg ?_ | refine FinC.v ?_ | refine FinC.own rfl rfl rfl ?_ | exact FinC.nil | refine FinC.sl ?_ | exact FinC.same rfl); all_goals try rfl
  all_goals first | (simp [*]; done) | (refine congrArg Value.bool ?_; rw [Bool.eq_iff_iff]; simp only [Bool.and_eq_true, decide_eq_true_eq, Bool.false_eq_true, true_and, false_and, and_true, false_iff, not_and]; omega)
def wkZ : Wk := ⟨[], ⟨[], [], 0⟩, ⟨0, [], []⟩, 0⟩
structure WkN where
 w : Wk
 e : Int
def WkN.av (x : WkN) : AV := .tup [.agg x.w.av, .v (.int .i64 x.e)]
def newW (ok : Bool) (n : Int) (gs : List Gp) : WkN :=
 if ok = false then ⟨wkZ, 130⟩
 else if 1 ≤ n ∧ n ≤ 8 ∧ gsR gs = true then ⟨⟨gs, ⟨newIns n, [], 0⟩, ⟨0, newGot n, newHeld n⟩, 0⟩, 0⟩
 else ⟨wkZ, 1⟩
theorem w_New (g s d k fu li de id n : Int) (gs : List Gp) (hx : gs.length ≤ 9223372036854775807) (hp : ∀ g ∈ gs, g.ps.length ≤ 9223372036854775807) :
  PC Tryz.prog 10 [.agg [.v (.int .i64 g), .v (.int .i64 s), .v (.int .i64 d), .v (.int .i64 k), .v (.int .i64 fu), .v (.int .i64 li), .v (.int .i64 de), .v (.int .i64 id)], .v (.int .i64 n), .sl 3 (gs.map Gp.av)] (newW (jobOK g s d k fu li de id) n gs).av := by
 have h1 := j_Right g s d k fu li de id
 have h2 := m_New n
 have h3 := l_New n
 have h4 := w_groups gs hx hp
 simp only [Mk.av] at h2
 simp only [Al.av] at h3
 unfold newW
 by_cases hn : 1 ≤ n ∧ n ≤ 8
 ·have e5 : newE n = 0 := by unfold newE; rw [if_pos hn]
  rw [e5] at h2 h3
  cases e1 : jobOK g s d k fu li de id <;> cases e4 : gsR gs
  all_goals
   rw [e1] at h1
   rw [e4] at h4
  ·simp only [if_true, WkN.av, wkZ, Wk.av, List.map_nil]
   refine PC.mk (ac_body tab_ok Tryz.func10 rfl (by kernel_rfl) rfl ?_); intro w0 M μ0; simp only [Tryz.ntmps10, List.length_cons, List.length_nil, Nat.reduceAdd, Nat.reduceSub, numb]
   repeat' (first | ((first | apply o_do | apply d_do | apply d_yes rfl rfl rfl); first | exact lsc (h1) | exact lsc (h2) | exact lsc (h3) | exact lsc (h4) | exact lsq) | refine a_seq ?_ | refine a_region ?_ | refine o_nil ?_ | refine a_block ?_ | refine a_ret ?_ | refine a_exit ?_ | refine a_skip ?_ | refine a_draw mixed ?_ | refine d_nil (by kernel_rfl) ?_ | refine o_yes rfl rfl rfl ?_ | refine o_no rfl rfl rfl (by decide) ?_ | refine o_no' rfl rfl rfl ?_ | refine a_condT rfl ?_ | refine a_condF rfl ?_ | refine d_no rfl rfl rfl (by decide) ?_ | refine d_no' rfl rfl rfl ?_ | (refine wq2 (fun hb => ?_) (fun hb => ?_) <;> (simp only [hb]; try simp only [hbs, ne_eq] at hb; try (exfalso; first | omega | exact hb trivial))) | fail)
   refine rq rfl ?_
   exact fnq
  ·simp only [if_true, WkN.av, wkZ, Wk.av, List.map_nil]
   refine PC.mk (ac_body tab_ok Tryz.func10 rfl (by kernel_rfl) rfl ?_); intro w0 M μ0; simp only [Tryz.ntmps10, List.length_cons, List.length_nil, Nat.reduceAdd, Nat.reduceSub, numb]
   repeat' (first | ((first | apply o_do | apply d_do | apply d_yes rfl rfl rfl); first | exact lsc (h1) | exact lsc (h2) | exact lsc (h3) | exact lsc (h4) | exact lsq) | refine a_seq ?_ | refine a_region ?_ | refine o_nil ?_ | refine a_block ?_ | refine a_ret ?_ | refine a_exit ?_ | refine a_skip ?_ | refine a_draw mixed ?_ | refine d_nil (by kernel_rfl) ?_ | refine o_yes rfl rfl rfl ?_ | refine o_no rfl rfl rfl (by decide) ?_ | refine o_no' rfl rfl rfl ?_ | refine a_condT rfl ?_ | refine a_condF rfl ?_ | refine d_no rfl rfl rfl (by decide) ?_ | refine d_no' rfl rfl rfl ?_ | (refine wq2 (fun hb => ?_) (fun hb => ?_) <;> (simp only [hb]; try simp only [hbs, ne_eq] at hb; try (exfalso; first | omega | exact hb trivial))) | fail)
   refine rq rfl ?_
   exact fnq
  ·simp only [Bool.true_eq_false, Bool.false_eq_true, and_false, if_false, WkN.av, wkZ, Wk.av, List.map_nil]
   refine PC.mk (ac_body tab_ok Tryz.func10 rfl (by kernel_rfl) rfl ?_); intro w0 M μ0; simp only [Tryz.ntmps10, List.length_cons, List.length_nil, Nat.reduceAdd, Nat.reduceSub, numb]
   repeat' (first | ((first | apply o_do | apply d_do | apply d_yes rfl rfl rfl); first | exact lsc (h1) | exact lsc (h2) | exact lsc (h3) | exact lsc (h4) | exact lsq) | refine a_seq ?_ | refine a_region ?_ | refine o_nil ?_ | refine a_block ?_ | refine a_ret ?_ | refine a_exit ?_ | refine a_skip ?_ | refine a_draw mixed ?_ | refine d_nil (by kernel_rfl) ?_ | refine o_yes rfl rfl rfl ?_ | refine o_no rfl rfl rfl (by decide) ?_ | refine o_no' rfl rfl rfl ?_ | refine a_condT rfl ?_ | refine a_condF rfl ?_ | refine d_no rfl rfl rfl (by decide) ?_ | refine d_no' rfl rfl rfl ?_ | (refine wq2 (fun hb => ?_) (fun hb => ?_) <;> (simp only [hb]; try simp only [hbs, ne_eq] at hb; try (exfalso; first | omega | exact hb trivial))) | fail)
   refine rq rfl ?_
   exact fnq
  ·simp only [Bool.true_eq_false, if_false, hn.1, hn.2, and_self, if_true, WkN.av, Wk.av, List.map_nil]
   have hc := cl_Grp (gs.map Gp.av) (by rw [List.length_map]; have := gsR_le e4; omega)
   refine PC.mk (ac_body tab_ok Tryz.func10 rfl (by kernel_rfl) rfl ?_); intro w0 M μ0; simp only [Tryz.ntmps10, List.length_cons, List.length_nil, Nat.reduceAdd, Nat.reduceSub, numb]
   repeat' (first | ((first | apply o_do | apply d_do | apply d_yes rfl rfl rfl); first | exact lsc (h1) | exact lsc (h2) | exact lsc (h3) | exact lsc (h4) | exact lca [] 4 hc | exact lsq) | refine a_seq ?_ | refine a_region ?_ | refine o_nil ?_ | refine a_block ?_ | refine a_ret ?_ | refine a_exit ?_ | refine a_skip ?_ | refine a_draw mixed ?_ | refine d_nil (by kernel_rfl) ?_ | refine o_yes rfl rfl rfl ?_ | refine o_no rfl rfl rfl (by decide) ?_ | refine o_no' rfl rfl rfl ?_ | refine a_condT rfl ?_ | refine a_condF rfl ?_ | refine d_no rfl rfl rfl (by decide) ?_ | refine d_no' rfl rfl rfl ?_ | (refine wq2 (fun hb => ?_) (fun hb => ?_) <;> (simp only [hb]; try simp only [hbs, ne_eq] at hb; try (exfalso; first | omega | exact hb trivial))) | fail)
   refine rq rfl ?_
   exact fnq
 ·have e5 : newE n = 1 := by unfold newE; rw [if_neg hn]
  rw [e5] at h2 h3
  have e6 : ¬ (1 ≤ n ∧ n ≤ 8 ∧ gsR gs = true) := fun h => hn ⟨h.1, h.2.1⟩
  cases e1 : jobOK g s d k fu li de id
  all_goals rw [e1] at h1
  ·simp only [if_true, WkN.av, wkZ, Wk.av, List.map_nil]
   refine PC.mk (ac_body tab_ok Tryz.func10 rfl (by kernel_rfl) rfl ?_); intro w0 M μ0; simp only [Tryz.ntmps10, List.length_cons, List.length_nil, Nat.reduceAdd, Nat.reduceSub, numb]
   repeat' (first | ((first | apply o_do | apply d_do | apply d_yes rfl rfl rfl); first | exact lsc (h1) | exact lsc (h2) | exact lsc (h3) | exact lsc (h4) | exact lsq) | refine a_seq ?_ | refine a_region ?_ | refine o_nil ?_ | refine a_block ?_ | refine a_ret ?_ | refine a_exit ?_ | refine a_skip ?_ | refine a_draw mixed ?_ | refine d_nil (by kernel_rfl) ?_ | refine o_yes rfl rfl rfl ?_ | refine o_no rfl rfl rfl (by decide) ?_ | refine o_no' rfl rfl rfl ?_ | refine a_condT rfl ?_ | refine a_condF rfl ?_ | refine d_no rfl rfl rfl (by decide) ?_ | refine d_no' rfl rfl rfl ?_ | (refine wq2 (fun hb => ?_) (fun hb => ?_) <;> (simp only [hb]; try simp only [hbs, ne_eq] at hb; try (exfalso; first | omega | exact hb trivial))) | fail)
   refine rq rfl ?_
   exact fnq
  ·rw [if_neg (by decide), if_neg e6]
   simp only [WkN.av, wkZ, Wk.av, List.map_nil]
   refine PC.mk (ac_body tab_ok Tryz.func10 rfl (by kernel_rfl) rfl ?_); intro w0 M μ0; simp only [Tryz.ntmps10, List.length_cons, List.length_nil, Nat.reduceAdd, Nat.reduceSub, numb]
   repeat' (first | ((first | apply o_do | apply d_do | apply d_yes rfl rfl rfl); first | exact lsc (h1) | exact lsc (h2) | exact lsc (h3) | exact lsc (h4) | exact lsq) | refine a_seq ?_ | refine a_region ?_ | refine o_nil ?_ | refine a_block ?_ | refine a_ret ?_ | refine a_exit ?_ | refine a_skip ?_ | refine a_draw mixed ?_ | refine d_nil (by kernel_rfl) ?_ | refine o_yes rfl rfl rfl ?_ | refine o_no rfl rfl rfl (by decide) ?_ | refine o_no' rfl rfl rfl ?_ | refine a_condT rfl ?_ | refine a_condF rfl ?_ | refine d_no rfl rfl rfl (by decide) ?_ | refine d_no' rfl rfl rfl ?_ | (refine wq2 (fun hb => ?_) (fun hb => ?_) <;> (simp only [hb]; try simp only [hbs, ne_eq] at hb; try (exfalso; first | omega | exact hb trivial))) | fail)
   refine rq rfl ?_
   exact fnq
def tiA (t : Int) : List AV := [.v (.int .i64 t)]
def firstT (l : List Int) : Int := l.foldl (fun a t => min a (clampT t)) 1099511627776
def backI (ins : List (Int × Bool)) : List Int := (ins.filter (!·.2)).map (·.1)
def backH (hs : List (Int × Int)) : List Int := hs.map (·.2)
theorem firstT_snoc (l : List Int) (t : Int) : firstT (l ++ [t]) = min (firstT l) (clampT t) := by
 unfold firstT; rw [List.foldl_append]; rfl
theorem backI_snoc (l : List (Int × Bool)) (x : Int × Bool) : backI (l ++ [x]) = backI l ++ (if x.2 then [] else [x.1]) := by
 unfold backI
 rw [List.filter_append, List.map_append]
 cases h : x.2 <;> simp [h]
theorem backI_le (l : List (Int × Bool)) : (backI l).length ≤ l.length := by
 unfold backI; rw [List.length_map]; exact List.length_filter_le _ _
theorem backH_snoc (l : List (Int × Int)) (x : Int × Int) : backH (l ++ [x]) = backH l ++ [x.2] := by simp [backH]
structure MkT where
 m : Mk
 t : Int
 is : Bool
def mkZ : Mk := ⟨[], [], 0⟩
def mkTell (m : Mk) : MkT :=
 if mkR m = false then ⟨mkZ, 0, false⟩
 else if backI m.ins ++ backH m.hs = [] ∨ firstT (backI m.ins ++ backH m.hs) ≤ m.out then ⟨m, m.out, false⟩
 else ⟨{ m with out := firstT (backI m.ins ++ backH m.hs) }, firstT (backI m.ins ++ backH m.hs), true⟩
def mkIn (m : Mk) (i : Int) : Bool := mkR m && (decide (0 ≤ i) && decide (i < m.ins.length))
def mkPut (m : Mk) (i : Int) (x : Int × Bool) : Mk := { m with ins := m.ins.set i.toNat x }
structure MkE where
 m : Mk
 e : Int
def mkSet (m : Mk) (i t : Int) : MkE := if mkIn m i = false then ⟨mkZ, 1⟩ else ⟨mkPut m i (max (m.ins.getD i.toNat (0, false)).1 (clampT t), false), 0⟩
def mkIdle (m : Mk) (i : Int) : MkE := if mkIn m i = false then ⟨mkZ, 1⟩ else ⟨mkPut m i ((m.ins.getD i.toNat (0, false)).1, true), 0⟩
def MkE.av (x : MkE) : AV := .tup [.agg x.m.av, .v (.int .i64 x.e)]
def MkT.av (x : MkT) : AV := .tup [.agg x.m.av, .v (.int .i64 x.t), .v (.bool x.is)]
theorem rev_ind {α : Type} {p : List α → Prop} (h0 : p []) (h1 : ∀ l x, p l → p (l ++ [x])) (l : List α) : p l := by
 have h : ∀ n, n ≤ l.length → p (l.take n) := by
  intro n
  induction n with
  | zero => intro _; simpa using h0
  | succ n ih => intro hn; rw [take_snoc l n (by omega)]; exact h1 _ _ (ih (by omega))
 have := h l.length (Nat.le_refl _)
 rwa [List.take_length] at this
theorem clampT_in (t : Int) : 0 ≤ clampT t := by unfold clampT; omega
structure Lt where
 input : Int
 it : It
def Lt.av (x : Lt) : List AV := [.v (.int .i64 x.input), .v (.int .i64 x.it.kind), .v (.string x.it.key), .v (.int .i64 x.it.at'), .v (.int .i64 x.it.val), .v (.int .i64 x.it.mark), .v (.int .i64 x.it.n), .v (.int .i64 x.it.lo), .v (.int .i64 x.it.hi), .v (.string x.it.rkey), .v (.int .i64 x.it.rn), .v (.int .i64 x.it.rval)]
def lts (k : Int) (l : List It) : List Lt := l.map fun x => ⟨k, x⟩
def latesN (held : List (List It)) (q : Nat) : List Lt := (List.range q).flatMap fun (k : Nat) => lts (k : Int) (held.getD k [])
theorem latesN_succ (held : List (List It)) (q : Nat) (h : q < held.length) : latesN held (q + 1) = latesN held q ++ lts q held[q] := by
 unfold latesN
 rw [List.range_succ, List.flatMap_append]
 simp [h]
theorem lts_snoc (k : Int) (l : List It) (x : It) : lts k (l ++ [x]) = lts k l ++ [⟨k, x⟩] := by simp [lts]
structure AlO where
 a : Al
 pass : Bool
 done : Int
 late : List Lt
 e : Int
def alZ : Al := ⟨0, [], []⟩
def alHas (a : Al) (i : Int) : Bool := alR a && (decide (0 ≤ i) && decide (i < a.got.length))
def alOffer (a : Al) (i : Int) (x : It) : AlO :=
 if (alHas a i && itR x) = false then ⟨alZ, false, 0, [], 1⟩
 else if a.got.getD i.toNat false = true then
  if 16 ≤ (a.held.getD i.toNat []).length then ⟨alZ, false, 0, [], 3⟩
  else ⟨⟨a.n, a.got, a.held.set i.toNat (a.held.getD i.toNat [] ++ [x])⟩, false, 0, [], 0⟩
 else if x.kind ≠ 4 then ⟨a, true, 0, [], 0⟩
 else if a.n ≠ 0 ∧ a.n ≠ x.n then ⟨alZ, false, 0, [], 190⟩
 else if (a.got.set i.toNat true).any (!·) = true then ⟨⟨x.n, a.got.set i.toNat true, a.held⟩, false, 0, [], 0⟩
 else ⟨⟨0, newGot a.got.length, newHeld a.got.length⟩, false, x.n, latesN a.held a.held.length, 0⟩
def AlO.av (o : AlO) : AV := .tup [.agg o.a.av, .v (.bool o.pass), .v (.int .i64 o.done), .sl 12 (o.late.map Lt.av), .v (.int .i64 o.e)]
theorem latesN_le {held : List (List It)} (h1 : held.length ≤ 8) (h2 : ∀ l ∈ held, l.length ≤ 16) : ∀ q, q ≤ held.length → (latesN held q).length ≤ 16 * q := by
 intro q
 induction q with
 | zero => intro _; simp [latesN]
 | succ q ih =>
  intro hq
  rw [latesN_succ held q (by omega), List.length_append]
  have := ih (by omega)
  have h3 := h2 held[q] (List.getElem_mem _)
  simp only [lts, List.length_map]
  omega
theorem alR_ok {a : Al} (h : alR a = true) : 1 ≤ a.got.length ∧ a.got.length ≤ 8 ∧ a.held.length = a.got.length ∧ 0 ≤ a.n ∧ a.n ≤ 1073741824 ∧ (a.got.any id = true ↔ 0 < a.n) ∧ a.got.any (!·) = true ∧ (∀ l ∈ a.held, l.length ≤ 16) := by
 simp only [alR, Bool.and_eq_true, decide_eq_true_eq] at h
 obtain ⟨h1, h2, h3, h4, h5, h6, h7, h8⟩ := h
 refine ⟨h1, h2, h3, h4, h5, ?_, h7, fun l hl => ?_⟩
 ·rw [beq_iff_eq] at h6
  rw [h6]; simp
 ·obtain ⟨i, hi, rfl⟩ := List.getElem_of_mem hl
  have := List.all_eq_true.1 h8 i (List.mem_range.2 hi)
  simp only [heG, getD_at hi, Bool.and_eq_true, decide_eq_true_eq] at this
  exact this.1
structure Jb where
 g : Int
 s : Int
 d : Int
 k : Int
 fu : Int
 li : Int
 de : Int
 id : Int
def Jb.av (j : Jb) : List AV := [.v (.int .i64 j.g), .v (.int .i64 j.s), .v (.int .i64 j.d), .v (.int .i64 j.k), .v (.int .i64 j.fu), .v (.int .i64 j.li), .v (.int .i64 j.de), .v (.int .i64 j.id)]
def gpTake (j : Jb) (x : It) (g : Gp) : TkR := takeR j.s j.d j.k g.no g.mark g.ps x.key x.at' x.val
def TkR.gp (t : TkR) : Gp := ⟨t.no, t.mark, t.ps⟩
def putM (j : Jb) (no : Int) (x : It) (l : List Gp) : List Gp := l.map fun g => if g.no = no then (gpTake j x g).gp else g
def putB (j : Jb) (no : Int) (x : It) (l : List Gp) : Int := l.foldl (fun b g => if g.no = no then (gpTake j x g).e else b) 160
def resItem (r : Rs) : It := ⟨5, .empty, 0, 0, 0, 0, r.lo, r.hi, r.key, r.n, r.val⟩
def markItem (t : Int) : It := ⟨2, .empty, 0, 0, t, 0, 0, 0, .empty, 0, 0⟩
def barItem (n : Int) : It := ⟨4, .empty, 0, 0, 0, n, 0, 0, .empty, 0, 0⟩
def gpAdv (j : Jb) (t : Int) (g : Gp) : AdvR := adv j.s j.d j.k g.no g.mark g.ps t
def AdvR.gp (a : AdvR) : Gp := ⟨a.no, a.mark, a.ps⟩
def advM (j : Jb) (t : Int) (l : List Gp) : List Gp := l.map fun g => (gpAdv j t g).gp
def advT (j : Jb) (t : Int) (l : List Gp) : List It := l.flatMap fun g => (gpAdv j t g).rs.map resItem
theorem advM_snoc (j : Jb) (t : Int) (l : List Gp) (g : Gp) : advM j t (l ++ [g]) = advM j t l ++ [(gpAdv j t g).gp] := by simp [advM]
theorem advT_snoc (j : Jb) (t : Int) (l : List Gp) (g : Gp) : advT j t (l ++ [g]) = advT j t l ++ (gpAdv j t g).rs.map resItem := by simp [advT]
structure TkW where
 w : Wk
 told : List It
 late : List Lt
 e : Int
def TkW.av (x : TkW) : AV := .tup [.agg x.w.av, .sl 11 (x.told.map It.av), .sl 12 (x.late.map Lt.av), .v (.int .i64 x.e)]
def wkFail (e : Int) : TkW := ⟨wkZ, [], [], e⟩
def wkGo (j : Jb) (gs : List Gp) (m : Mk) (al : Al) (told : Int) : TkW :=
 if (mkTell m).is = true then ⟨⟨advM j (mkTell m).t gs, (mkTell m).m, al, (mkTell m).t⟩, advT j (mkTell m).t gs ++ [markItem (mkTell m).t], [], 0⟩
 else ⟨⟨gs, (mkTell m).m, al, told⟩, [], [], 0⟩
def wkTake (ok : Bool) (j : Jb) (no : Int) (w : Wk) (input : Int) (x : It) : TkW :=
 if ok = false then wkFail 130
 else if (wkR w && itR x) = false ∨ x.kind = 5 then wkFail 1
 else if (alOffer w.al input x).e ≠ 0 then wkFail (alOffer w.al input x).e
 else if 0 < (alOffer w.al input x).done then ⟨{ w with al := (alOffer w.al input x).a }, [barItem (alOffer w.al input x).done], (alOffer w.al input x).late, 0⟩
 else if (alOffer w.al input x).pass = false then ⟨{ w with al := (alOffer w.al input x).a }, [], [], 0⟩
 else if x.kind = 1 then
  if putB j no x w.gs ≠ 0 then wkFail (putB j no x w.gs)
  else wkGo j (putM j no x w.gs) (mkSet w.mks input 0).m (alOffer w.al input x).a w.told
 else if x.kind = 2 then wkGo j w.gs (mkSet w.mks input x.mark).m (alOffer w.al input x).a w.told
 else if x.kind = 3 then wkGo j w.gs (mkIdle w.mks input).m (alOffer w.al input x).a w.told
 else wkGo j w.gs w.mks (alOffer w.al input x).a w.told
end Go.Proofs.YtilgagmfcdfjaaaGreat
