/-
  The reference's reading of jobs, walked over abstract values: a beginning, a number.
-/
import Derived.Test.YthlimflfglkpiaaDoorJrP
import Derived.Test.YthlimflfglkpiaaDoorAvE2
namespace Go.Proofs.YthlimflfglkpiaaDoor
open Go.RowKit
set_option linter.unusedSimpArgs false
set_option linter.unusedVariables false
theorem size_list (s : ByteArray) : s.data.toList.length = s.size := Array.length_toList
theorem ext_pre {s : ByteArray} {l r : List UInt8} (h : s.data.toList = l ++ r) : s.extract 0 l.length = mkB l := by
  apply bytes_ext2
  rw [ext_take, h, mkB_list]; exact List.take_left
theorem ext_post {s : ByteArray} {l r : List UInt8} (h : s.data.toList = l ++ r) : s.extract l.length s.size = mkB r := by
  apply bytes_ext2
  rw [ext_drop, h, mkB_list]; exact List.drop_left
theorem p_afterY (s b : ByteArray) (r : List UInt8) (h : s.data.toList = b.data.toList ++ r) (hs : Sm s) : PC Tryd.prog 66 [.v (.string s), .v (.string b)] (.tup [.v (.string (mkB r)), .v (.bool true)]) := by
  have hx := ext_pre h
  have hy := ext_post h
  rw [size_list, mkB_self] at hx
  rw [size_list] at hy
  have hsz : s.size = b.size + r.length := by rw [← size_list, h, List.length_append, size_list]
  refine PC.mk (ac_body tab_ok Tryd.func66 rfl (by kernel_rfl) rfl ?_); intro w0 M μ0; simp only [Tryd.ntmps66, List.length_cons, List.length_nil, Nat.reduceAdd, Nat.reduceSub, numb]
  repeat' (first | ((first | apply o_do | apply d_do | apply d_yes rfl rfl rfl); first | exact ls_strTo (n := b.size) tab_ok rfl rfl rfl rfl (by omega) rfl | exact ls_strFrom (n := b.size) tab_ok rfl rfl rfl rfl (by omega) rfl | exact lsq) | refine a_seq ?_ | refine a_region ?_ | refine o_nil ?_ | refine a_block ?_ | refine a_ret ?_ | refine a_exit ?_ | refine a_skip ?_ | refine a_draw mixed ?_ | refine d_nil (by kernel_rfl) ?_ | refine o_yes rfl rfl rfl ?_ | refine o_no rfl rfl rfl (by decide) ?_ | refine o_no' rfl rfl rfl ?_ | refine a_condT rfl ?_ | refine a_condF rfl ?_ | refine d_no rfl rfl rfl (by decide) ?_ | refine d_no' rfl rfl rfl ?_ | (refine wq2 (fun hb => ?_) (fun hb => ?_) <;> (simp only [hb]; try simp only [hbs, ne_eq] at hb; try (exfalso; first | omega | exact hb trivial))) | fail)
  all_goals try (exfalso; rw [hx] at hb; simp at hb; done)
  all_goals refine ⟨by first | exact .inr rfl | exact .inl rfl, _, rfl, ?_, by repeat' (first | exact trivial | refine ⟨⟨_, rfl, by first | rfl | (simp [renO, *]; done)⟩, by first | rfl | assumption, ?_⟩)⟩
  all_goals (first | refine FinA.tup ?_ | refine FinA.one ?_); repeat' (first | exact FinBs.nil | exact FinCs.nil | refine FinBs.cons ?_ ?_ | refine FinCs.cons ?_ ?_ | refine FinB.cell (FinC.v ?_) | refine FinB.cell (FinC.own rfl rfl rfl ?_) | exact FinB.cell FinC.nil | refine FinB.cell (FinC.sl ?_) | exact FinB.agg' rfl rfl | exact FinB.cell (FinC.same rfl) | refine FinB.agg ?_ | refine FinC.v ?_ | refine FinC.own rfl rfl rfl ?_ | exact FinC.nil | refine FinC.sl ?_ | exact FinC.same rfl); all_goals try rfl
  all_goals rw [hy]
theorem p_afterN (s b : ByteArray) (h : ¬ ∃ r, s.data.toList = b.data.toList ++ r) (hs : Sm s) : PC Tryd.prog 66 [.v (.string s), .v (.string b)] (.tup [.v (.string s), .v (.bool false)]) := by
  by_cases hl : s.size < b.size
  · refine PC.mk (ac_body tab_ok Tryd.func66 rfl (by kernel_rfl) rfl ?_); intro w0 M μ0; simp only [Tryd.ntmps66, List.length_cons, List.length_nil, Nat.reduceAdd, Nat.reduceSub, numb]
    repeat' (first | ((first | apply o_do | apply d_do | apply d_yes rfl rfl rfl); exact lsq) | refine a_seq ?_ | refine a_region ?_ | refine o_nil ?_ | refine a_block ?_ | refine a_ret ?_ | refine a_exit ?_ | refine a_skip ?_ | refine a_draw mixed ?_ | refine d_nil (by kernel_rfl) ?_ | refine o_yes rfl rfl rfl ?_ | refine o_no rfl rfl rfl (by decide) ?_ | refine o_no' rfl rfl rfl ?_ | refine a_condT rfl ?_ | refine a_condF rfl ?_ | refine d_no rfl rfl rfl (by decide) ?_ | refine d_no' rfl rfl rfl ?_ | (refine wq2 (fun hb => ?_) (fun hb => ?_) <;> (simp only [hb]; try simp only [hbs, ne_eq] at hb; try (exfalso; first | omega | exact hb trivial))) | fail)
    all_goals refine ⟨by first | exact .inr rfl | exact .inl rfl, _, rfl, ?_, by repeat' (first | exact trivial | refine ⟨⟨_, rfl, by first | rfl | (simp [renO, *]; done)⟩, by first | rfl | assumption, ?_⟩)⟩
    all_goals (first | refine FinA.tup ?_ | refine FinA.one ?_); repeat' (first | exact FinBs.nil | exact FinCs.nil | refine FinBs.cons ?_ ?_ | refine FinCs.cons ?_ ?_ | refine FinB.cell (FinC.v ?_) | refine FinB.cell (FinC.own rfl rfl rfl ?_) | exact FinB.cell FinC.nil | refine FinB.cell (FinC.sl ?_) | exact FinB.agg' rfl rfl | exact FinB.cell (FinC.same rfl) | refine FinB.agg ?_ | refine FinC.v ?_ | refine FinC.own rfl rfl rfl ?_ | exact FinC.nil | refine FinC.sl ?_ | exact FinC.same rfl); all_goals try rfl
  · have hx : ((s.extract 0 b.size).toList == b.toList) = false := by
      cases hq : ((s.extract 0 b.size).toList == b.toList)
      · rfl
      · exfalso
        have e := bytes_ext (by simpa using hq : (s.extract 0 b.size).toList = b.toList)
        refine h ⟨s.data.toList.drop b.size, ?_⟩
        have e2 : b.data.toList = s.data.toList.take b.size := by rw [← ext_take, e]
        rw [e2, List.take_append_drop]
    refine PC.mk (ac_body tab_ok Tryd.func66 rfl (by kernel_rfl) rfl ?_); intro w0 M μ0; simp only [Tryd.ntmps66, List.length_cons, List.length_nil, Nat.reduceAdd, Nat.reduceSub, numb]
    repeat' (first | ((first | apply o_do | apply d_do | apply d_yes rfl rfl rfl); first | exact ls_strTo (n := b.size) tab_ok rfl rfl rfl rfl (by omega) rfl | exact ls_strFrom (n := b.size) tab_ok rfl rfl rfl rfl (by omega) rfl | exact lsq) | refine a_seq ?_ | refine a_region ?_ | refine o_nil ?_ | refine a_block ?_ | refine a_ret ?_ | refine a_exit ?_ | refine a_skip ?_ | refine a_draw mixed ?_ | refine d_nil (by kernel_rfl) ?_ | refine o_yes rfl rfl rfl ?_ | refine o_no rfl rfl rfl (by decide) ?_ | refine o_no' rfl rfl rfl ?_ | refine a_condT rfl ?_ | refine a_condF rfl ?_ | refine d_no rfl rfl rfl (by decide) ?_ | refine d_no' rfl rfl rfl ?_ | (refine wq2 (fun hb => ?_) (fun hb => ?_) <;> (simp only [hb]; try simp only [hbs, ne_eq] at hb; try (exfalso; first | omega | exact hb trivial))) | fail)
    all_goals try (exfalso; rw [hx] at hb; simp at hb; done)
    all_goals refine ⟨by first | exact .inr rfl | exact .inl rfl, _, rfl, ?_, by repeat' (first | exact trivial | refine ⟨⟨_, rfl, by first | rfl | (simp [renO, *]; done)⟩, by first | rfl | assumption, ?_⟩)⟩
    all_goals (first | refine FinA.tup ?_ | refine FinA.one ?_); repeat' (first | exact FinBs.nil | exact FinCs.nil | refine FinBs.cons ?_ ?_ | refine FinCs.cons ?_ ?_ | refine FinB.cell (FinC.v ?_) | refine FinB.cell (FinC.own rfl rfl rfl ?_) | exact FinB.cell FinC.nil | refine FinB.cell (FinC.sl ?_) | exact FinB.agg' rfl rfl | exact FinB.cell (FinC.same rfl) | refine FinB.agg ?_ | refine FinC.v ?_ | refine FinC.own rfl rfl rfl ?_ | exact FinC.nil | refine FinC.sl ?_ | exact FinC.same rfl); all_goals try rfl
def maxB : ByteArray := ⟨#[57, 50, 50, 51, 51, 55, 50, 48, 51, 54, 56, 53, 52, 55, 55, 53, 56, 48, 55]⟩
/-- the first digits, and what stands behind them -/
structure Dg (s : ByteArray) (d r : List UInt8) : Prop where
  eq : s.data.toList = d ++ r
  dig : ∀ c ∈ d, isD c = true
  stop : ∀ c t, r = c :: t → isD c = false
theorem dg_list : ∀ l : List UInt8, ∃ d r, l = d ++ r ∧ (∀ c ∈ d, isD c = true) ∧ ∀ c t, r = c :: t → isD c = false
  | [] => ⟨[], [], rfl, by simp, by simp⟩
  | c :: l => by
    cases hc : isD c
    · exact ⟨[], c :: l, rfl, by simp, fun a t h => by injection h with h1 _; rw [← h1]; exact hc⟩
    · obtain ⟨d, r, h1, h2, h3⟩ := dg_list l
      refine ⟨c :: d, r, by rw [h1]; rfl, fun a ha => ?_, h3⟩
      rcases List.mem_cons.1 ha with rfl | ha
      · exact hc
      · exact h2 a ha
theorem dg_ex (s : ByteArray) : ∃ d r, Dg s d r := by
  obtain ⟨d, r, h1, h2, h3⟩ := dg_list s.data.toList
  exact ⟨d, r, h1, h2, h3⟩
/-- no number of int64 -/
def badN (d : List UInt8) : Prop := d = [] ∨ (1 < d.length ∧ d.head? = some 48) ∨ 19 < d.length ∨ (d.length = 19 ∧ Op.bytesLess maxB.data.toList d = true)
theorem Dg.at_ {s : ByteArray} {d r : List UInt8} (h : Dg s d r) {q : Nat} (hq : q < d.length) : ∃ hs : q < s.size, s[q] = d[q] := by
  have hsz : q < s.size := by rw [← size_list, h.eq, List.length_append]; omega
  refine ⟨hsz, ?_⟩
  have h1 : s.data.toList[q]? = some d[q] := by rw [h.eq, List.getElem?_append_left hq, List.getElem?_eq_getElem hq]
  rw [List.getElem?_eq_getElem (by rw [size_list]; exact hsz)] at h1
  injection h1 with h1
theorem Dg.end_ {s : ByteArray} {d r : List UInt8} (h : Dg s d r) : s.size = d.length ∨ ∃ hs : d.length < s.size, isD s[d.length] = false := by
  cases r with
  | nil => left; rw [← size_list, h.eq]; simp
  | cons c t =>
    right
    have hsz : d.length < s.size := by rw [← size_list, h.eq]; simp
    refine ⟨hsz, ?_⟩
    have h1 : s.data.toList[d.length]? = some c := by rw [h.eq]; simp
    rw [List.getElem?_eq_getElem (by rw [size_list]; exact hsz)] at h1
    injection h1 with h1
    have : s[d.length] = c := by rw [← h1]; rfl
    rw [this]; exact h.stop c t rfl
end Go.Proofs.YthlimflfglkpiaaDoor
