/-
  Script: a plan's lines.
-/
import Derived.Test.YtbhblhcgfenobaaDoorScH
namespace Go.Proofs.YtbhblhcgfenobaaDoor
open Go.RowKit
set_option linter.unusedSimpArgs false
set_option linter.unusedVariables false
theorem acW_len {a : Ac} (hok : acOK a = true) : (lineW (acW a)).length ≤ 40 := by
  have h8 := wdB_size a.what.toNat
  unfold acOK at hok
  unfold acW lineW
  split at hok
  case isFalse => cases hok
  split at hok
  · rename_i h1
    rw [if_pos h1, join2]
    simp only [Bool.and_eq_true] at hok
    have hI := smB_i64 hok.1
    have := itoB_size a.which hI.1 hI.2
    simp only [List.length_append, List.length_cons, List.length_nil, Array.length_toList]
    omega
  · rename_i h1
    rw [if_neg h1]
    split at hok
    · rename_i h2
      rw [if_pos h2, join2]
      simp only [Bool.and_eq_true] at hok
      have hI := smB_i64 hok.1
      have := itoB_size a.who hI.1 hI.2
      simp only [List.length_append, List.length_cons, List.length_nil, Array.length_toList]
      omega
    · rename_i h2
      rw [if_neg h2, join1]
      simp only [List.length_append, List.length_cons, List.length_nil, Array.length_toList]
      omega
/-- "workers" -/
def wksB : ByteArray := ⟨#[119, 111, 114, 107, 101, 114, 115]⟩
/-- a plan's lines behind those of its job -/
def plL (ls : List (List Et)) (wn : Int) (xs : List Ac) : List UInt8 := lineW [wksB, itoB wn] ++ ls.flatMap (fun es => lineW (srcW es)) ++ xs.flatMap (fun a => lineW (acW a))
theorem jobP_size {g s d nm li fu de id : ByteArray} (h1 : g.data.size ≤ 22) (h2 : s.data.size ≤ 22) (h3 : d.data.size ≤ 22) (h4 : nm.data.size ≤ 22) (h5 : li.data.size ≤ 22) (h6 : fu.data.size ≤ 22) (h7 : de.data.size ≤ 22) (h8 : id.data.size ≤ 22) : (jobP g s d nm li fu de id).data.size ≤ 1000 := by
  simp only [jobP, ByteArray.data_append, Array.size_append, List.size_toArray, List.length_cons, List.length_nil]
  omega
set_option maxHeartbeats 8000000 in
theorem s_Print (g s d fu li de id : Int) (q0 : Nat) (hq0 : q0 < 5) (ls : List (List Et)) (wn : Int) (xs : List Ac) (hJ : JI g s d ((q0 : Int) + 1) fu li de id) (hok : (Pl.mk g s d ((q0 : Int) + 1) fu li de id ls wn xs).ok = true) (hx : Small ls) (hv : ∀ es ∈ ls, I64s es) (T : ByteArray) (hT : T = jobP (spB g) (spB s) (spB d) (nmQ q0) (spB li) (spB fu) (spB de) (spB id)) (hTs : T.data.size ≤ 1000) :
    PCT Tryd.prog TabT 4 [.agg (Pl.mk g s d ((q0 : Int) + 1) fu li de id ls wn xs).av] (.tup [.v (.string ⟨(T.data.toList ++ plL ls wn xs).toArray⟩), .v (.int .i64 0)]) := by
  have hok2 := hok
  simp only [Pl.ok, Pl.jok, Bool.and_eq_true, decide_eq_true_eq] at hok2
  obtain ⟨hj, hi, w1, w2, x4, hle, hac⟩ := hok2
  have hR := s_Right (Pl.mk g s d ((q0 : Int) + 1) fu li de id ls wn xs) hx (by dsimp only; omega)
  rw [hok] at hR
  clear hok
  unfold Pl.av at *
  dsimp only at *
  have hP := j_Print g s d fu li de id q0 hq0 hJ hj
  rw [← hT] at hP
  unfold jAv at hP
  have hI : i64 wn := ⟨by omega, by omega⟩
  have hF := p_Itoa hI
  have hs := itoB_size wn hI.1 hI.2
  have hin := hi
  simp only [okIn, Bool.and_eq_true, decide_eq_true_eq, List.all_eq_true] at hin
  obtain ⟨n1, n4, hes⟩ := hin
  have hn : (ls.map inAv).length = ls.length := List.length_map _
  have hm : (xs.map Ac.av).length = xs.length := List.length_map _
  have hTl : T.data.toList.length = T.data.size := Array.length_toList
  have hW := b_WriteString 41 pr_lies false [] T (by have : T.size = T.data.size := rfl; simp only [List.length_nil]; omega)
  rw [List.nil_append] at hW
  unfold plL
  generalize itoB wn = z at *
  have hLn : (lineW [wksB, z]).length ≤ 40 := by
    unfold lineW
    rw [join2]
    simp only [List.length_append, List.length_cons, List.length_nil, Array.length_toList, wksB]
    have : (#[(119 : UInt8), 111, 114, 107, 101, 114, 115]).size = 7 := rfl
    omega
  have hL1 := p_line [wksB, z] true T.data.toList (by unfold lineW at hLn; rw [List.length_append] at hLn; omega) (by simp)
  have hB0 : T.data.toList ++ lineW [wksB, z] ≠ [] := by
    unfold lineW
    intro h
    have := congrArg List.length h
    simp at this
  unfold SB bP at hW hL1
  dsimp only at hW hL1
  refine PCT.mk (act_body tab_ok Tryd.func4 rfl (by kernel_rfl) rfl ?_); intro w0 M μ0 hG; simp only [Tryd.ntmps4, List.length_cons, List.length_nil, Nat.reduceAdd, Nat.reduceSub, numb] at hG ⊢
  repeat' (first | refine a_adoptB 1 1 2 5 1 rfl rfl rfl ?_ | ((first | apply o_do | apply d_do | apply d_yes rfl rfl rfl); first | exact lsc (hR) | focus (apply ls_callT hG hP rfl rfl _ rfl rfl; (repeat' (first | exact NilL.nil | refine NilL.cons Nil.same ?_ | refine NilL.cons Nil.nil ?_ | refine NilL.cons (Nil.agg ?_) ?_ | exact Nil1s.nil | refine Nil1s.cons Nil1.same ?_ | refine Nil1s.cons Nil1.nil ?_)); done) | focus (apply ls_callT hG hF rfl rfl _ rfl rfl; (repeat' (first | exact NilL.nil | refine NilL.cons Nil.same ?_ | refine NilL.cons Nil.nil ?_ | refine NilL.cons (Nil.agg ?_) ?_ | exact Nil1s.nil | refine Nil1s.cons Nil1.same ?_ | refine Nil1s.cons Nil1.nil ?_)); done) | exact ls_callA [1, 2] 50 hW rfl rfl (by (repeat' (first | exact NilL.nil | refine NilL.cons Nil.same ?_ | refine NilL.cons Nil.nil ?_ | refine NilL.cons (Nil.agg ?_) ?_ | exact Nil1s.nil | refine Nil1s.cons Nil1.same ?_ | refine Nil1s.cons Nil1.nil ?_)); first | done | fail) rfl (by (repeat' (first | exact trivial | refine ⟨⟨_, rfl, by first | rfl | (simp [renO, *]; done) | fail⟩, ?_⟩)); first | done | fail) (by first | rfl | (simp [closO, *]; done) | fail) rfl rfl rfl rfl (by first | rfl | (simp [closO, *]; done) | fail) rfl | exact ls_callA [1, 2] 50 hL1 rfl rfl (by (repeat' (first | exact NilL.nil | refine NilL.cons Nil.same ?_ | refine NilL.cons Nil.nil ?_ | refine NilL.cons (Nil.agg ?_) ?_ | exact Nil1s.nil | refine Nil1s.cons Nil1.same ?_ | refine Nil1s.cons Nil1.nil ?_)); first | done | fail) rfl (by (repeat' (first | exact trivial | refine ⟨⟨_, rfl, by first | rfl | (simp [renO, *]; done) | fail⟩, ?_⟩)); first | done | fail) (by first | rfl | (simp [closO, *]; done) | fail) rfl rfl rfl rfl (by first | rfl | (simp [closO, *]; done) | fail) rfl | exact ls_nilCheck rfl rfl | exact lsq) | refine a_seq ?_ | refine a_region ?_ | refine o_nil ?_ | refine a_block ?_ | refine a_ret ?_ | refine a_exit ?_ | refine a_skip ?_ | refine a_draw mixed ?_ | refine d_nil (by kernel_rfl) ?_ | refine o_yes rfl rfl rfl ?_ | refine o_no rfl rfl rfl (by decide) ?_ | refine o_no' rfl rfl rfl ?_ | refine a_condT rfl ?_ | refine a_condF rfl ?_ | refine d_no rfl rfl rfl (by decide) ?_ | refine d_no' rfl rfl rfl ?_ | (refine wq2 (fun hb => ?_) (fun hb => ?_) <;> (simp only [hb]; try simp only [hbs, ne_eq] at hb; try (exfalso; first | omega | exact hb trivial))) | fail)
  have hB1 : (T.data.toList ++ lineW [wksB, z]).length ≤ 1040 := by rw [List.length_append]; omega
  generalize hC : T.data.toList ++ lineW [wksB, z] = C at *
  refine a_loop (X := {x : Nat × List UInt8 // x.1 ≤ ls.length ∧ x.2 = C ++ (ls.take x.1).flatMap (fun es => lineW (srcW es)) ∧ x.2.length ≤ 2000 + 20000 * x.1}) (fun x => ⟨[(1, .ref 0 0), (6, .ref 1 0), (38, .sl 1 (ls.map inAv)), (39, .v (.int .i64 ls.length)), (40, .v (.int .i64 x.1.1))], [(0, .box 27 [.v (.int .i64 g), .v (.int .i64 s), .v (.int .i64 d), .v (.int .i64 ((q0 : Int) + 1)), .v (.int .i64 fu), .v (.int .i64 li), .v (.int .i64 de), .v (.int .i64 id), .sl 1 (ls.map inAv), .v (.int .i64 wn), .sl 3 (xs.map Ac.av)]), (1, .box 41 [.ref 1 0, .own 2 (x.1.2.map byAv).length]), (2, .row 5 1 (x.1.2.map byAv))]⟩) (fun x => ls.length - x.1.1) ⟨(0, C), Nat.zero_le _, by simp, by dsimp only; omega⟩ ?_ ?_
  · refine ⟨by repeat' (first | exact trivial | exact FinA.one (FinB.cell (FinC.same rfl)) | exact FinA.one (FinB.cell FinC.nil) | exact FinA.bound rfl | exact FinA.one (FinB.cell (FinC.own rfl rfl rfl rfl)) | exact FinA.one (FinB.cell (FinC.v (by first | rfl | (simp)))) | exact FinA.one (FinB.cell (FinC.ow rfl (by first | rfl | (simp)))) | exact FinA.one (FinB.agg' rfl rfl) | refine ⟨⟨_, rfl, ?_⟩, ?_⟩), by repeat' (first | exact trivial | refine ⟨⟨_, rfl, by first | rfl | (simp; done) | (simp [renO, *]; done)⟩, by first | rfl | assumption, ?_⟩), rfl⟩
  rintro ⟨⟨q, l⟩, hq, hl, hlb⟩
  dsimp only at hq hl hlb ⊢
  by_cases hlt : q < ls.length
  · have hel : (ls.map inAv)[q]? = some (inAv ls[q]) := by simp [hlt]
    have hsn := take_snoc ls q hlt
    have hP := p_psource ls[q] (hes _ (List.getElem_mem hlt)) (hv _ (List.getElem_mem hlt)) true l (by omega)
    have hln := srcW_len (hes _ (List.getElem_mem hlt)) (hv _ (List.getElem_mem hlt))
    have hl2 : l ++ lineW (srcW ls[q]) = C ++ (ls.take (q + 1)).flatMap (fun es => lineW (srcW es)) := by rw [hl, hsn]; simp only [List.flatMap_append, List.flatMap_cons, List.flatMap_nil, List.append_nil, List.append_assoc]
    have hl3 : (l ++ lineW (srcW ls[q])).length ≤ 2000 + 20000 * (q + 1) := by
      unfold lineW
      simp only [List.length_append, List.length_cons, List.length_nil]
      omega
    unfold inAv at hel
    unfold SB bP at hP
    dsimp only at hP
    generalize ls[q] = es at *
    repeat' (first | ((first | apply o_do | apply d_do | apply d_yes rfl rfl rfl); first | exact ls_indexAddr_sl tab_ok rfl rfl rfl rfl hel rfl | exact ls_callAT hG [1, 2] 50 hP rfl rfl (by (repeat' (first | exact NilL.nil | refine NilL.cons Nil.same ?_ | refine NilL.cons Nil.nil ?_ | refine NilL.cons (Nil.agg ?_) ?_ | exact Nil1s.nil | refine Nil1s.cons Nil1.same ?_ | refine Nil1s.cons Nil1.nil ?_)); first | done | fail) rfl (by repeat' (first | exact trivial | refine ⟨⟨_, rfl, by first | rfl | (simp [renO, *]; done)⟩, ?_⟩)) (by first | rfl | simp [closO, *]) rfl rfl rfl rfl (by first | rfl | simp [closO, *]) rfl | exact lsq) | refine a_seq ?_ | refine a_region ?_ | refine o_nil ?_ | refine a_block ?_ | refine a_ret ?_ | refine a_exit ?_ | refine a_skip ?_ | refine a_draw mixed ?_ | refine d_nil (by kernel_rfl) ?_ | refine o_yes rfl rfl rfl ?_ | refine o_no rfl rfl rfl (by decide) ?_ | refine o_no' rfl rfl rfl ?_ | refine a_condT rfl ?_ | refine a_condF rfl ?_ | refine d_no rfl rfl rfl (by decide) ?_ | refine d_no' rfl rfl rfl ?_ | (refine wq2 (fun hb => ?_) (fun hb => ?_) <;> (simp only [hb]; try simp only [hbs, ne_eq] at hb; try (exfalso; first | omega | exact hb trivial))) | fail)
    refine ⟨⟨(q + 1, l ++ lineW (srcW es)), by dsimp only; omega, hl2, hl3⟩, by dsimp only; omega, ?_⟩
    refine ⟨by repeat' (first | exact trivial | exact FinA.one (FinB.cell (FinC.same rfl)) | exact FinA.one (FinB.cell FinC.nil) | exact FinA.bound rfl | exact FinA.one (FinB.cell (FinC.own rfl rfl rfl rfl)) | exact FinA.one (FinB.cell (FinC.v (by first | rfl | (simp)))) | exact FinA.one (FinB.cell (FinC.ow rfl (by first | rfl | (simp)))) | exact FinA.one (FinB.agg' rfl rfl) | refine ⟨⟨_, rfl, ?_⟩, ?_⟩), by repeat' (first | exact trivial | refine ⟨⟨_, rfl, by first | rfl | (simp; done) | (simp [renO, *]; done)⟩, by first | rfl | assumption, ?_⟩), rfl⟩
  obtain rfl : q = ls.length := by omega
  rw [List.take_length] at hl
  have hDl : l.length ≤ 100000 := by omega
  have hDn : l ≠ [] := by
    rw [hl]
    intro h
    exact hB0 (List.append_eq_nil_iff.1 h).1
  have hres : C ++ ls.flatMap (fun es => lineW (srcW es)) ++ xs.flatMap (fun a => lineW (acW a)) = l ++ xs.flatMap (fun a => lineW (acW a)) := by rw [hl]
  have hfin : T.data.toList ++ (lineW [wksB, z] ++ ls.flatMap (fun es => lineW (srcW es)) ++ xs.flatMap (fun a => lineW (acW a))) = l ++ xs.flatMap (fun a => lineW (acW a)) := by
    rw [← hres, ← hC]; simp only [List.append_assoc]
  rw [hfin]
  clear hlb hl hres hfin hC
  generalize l = D at *
  repeat' (first | ((first | apply o_do | apply d_do | apply d_yes rfl rfl rfl); exact lsq) | refine a_seq ?_ | refine a_region ?_ | refine o_nil ?_ | refine a_block ?_ | refine a_ret ?_ | refine a_exit ?_ | refine a_skip ?_ | refine a_draw mixed ?_ | refine d_nil (by kernel_rfl) ?_ | refine o_yes rfl rfl rfl ?_ | refine o_no rfl rfl rfl (by decide) ?_ | refine o_no' rfl rfl rfl ?_ | refine a_condT rfl ?_ | refine a_condF rfl ?_ | refine d_no rfl rfl rfl (by decide) ?_ | refine d_no' rfl rfl rfl ?_ | (refine wq2 (fun hb => ?_) (fun hb => ?_) <;> (simp only [hb]; try simp only [hbs, ne_eq] at hb; try (exfalso; first | omega | exact hb trivial))) | fail)
  refine a_loop (X := {x : Nat × List UInt8 // x.1 ≤ xs.length ∧ x.2 = D ++ (xs.take x.1).flatMap (fun a => lineW (acW a)) ∧ x.2.length ≤ 100000 + 50 * x.1 ∧ x.2 ≠ []}) (fun x => ⟨[(1, .ref 0 0), (6, .ref 1 0), (9, .clo (.func 14) [.ref 1 0] []), (51, .sl 3 (xs.map Ac.av)), (52, .v (.int .i64 xs.length)), (53, .v (.int .i64 x.1.1))], [(0, .box 27 [.v (.int .i64 g), .v (.int .i64 s), .v (.int .i64 d), .v (.int .i64 ((q0 : Int) + 1)), .v (.int .i64 fu), .v (.int .i64 li), .v (.int .i64 de), .v (.int .i64 id), .sl 1 (ls.map inAv), .v (.int .i64 wn), .sl 3 (xs.map Ac.av)]), (1, .box 41 [.ref 1 0, .own 2 (x.1.2.map byAv).length]), (2, .row 5 1 (x.1.2.map byAv))]⟩) (fun x => xs.length - x.1.1) ⟨(0, D), Nat.zero_le _, by simp, by dsimp only; omega, hDn⟩ ?_ ?_
  · refine ⟨by repeat' (first | exact trivial | exact FinA.one (FinB.cell (FinC.same rfl)) | exact FinA.one (FinB.cell FinC.nil) | exact FinA.bound rfl | exact FinA.one (FinB.cell (FinC.own rfl rfl rfl rfl)) | exact FinA.one (FinB.cell (FinC.v (by first | rfl | (simp)))) | exact FinA.one (FinB.cell (FinC.ow rfl (by first | rfl | (simp)))) | exact FinA.one (FinB.agg' rfl rfl) | exact FinA.one (FinB.cell (FinC.el rfl rfl rfl rfl)) | refine FinA.clo ?_ ?_ | exact FinBs.nil | exact FinB.cell (FinC.same rfl) | exact FinB.cell (FinC.el rfl rfl rfl rfl) | refine FinBs.cons ?_ ?_ | refine ⟨⟨_, rfl, ?_⟩, ?_⟩), by repeat' (first | exact trivial | refine ⟨⟨_, rfl, by first | rfl | (simp; done) | (simp [renO, *]; done)⟩, by first | rfl | assumption, ?_⟩), rfl⟩
  rintro ⟨⟨q, l⟩, hq, hl, hlb, hln⟩
  dsimp only at hq hl hlb hln ⊢
  by_cases hlt : q < xs.length
  · have hel : (xs.map Ac.av)[q]? = some (Ac.av xs[q]) := by simp [hlt]
    have hsn := take_snoc xs q hlt
    have hak := List.all_eq_true.1 hac _ (List.getElem_mem hlt)
    have hP := p_pact xs[q] hak true l (by omega)
    have hl1 := acW_len hak
    have hl2 : l ++ lineW (acW xs[q]) = D ++ (xs.take (q + 1)).flatMap (fun a => lineW (acW a)) := by rw [hl, hsn]; simp only [List.flatMap_append, List.flatMap_cons, List.flatMap_nil, List.append_nil, List.append_assoc]
    have hl3 : (l ++ lineW (acW xs[q])).length ≤ 100000 + 50 * (q + 1) := by
      rw [List.length_append]
      omega
    have hl4 : l ++ lineW (acW xs[q]) ≠ [] := fun h => hln (List.append_eq_nil_iff.1 h).1
    unfold Ac.av at hel hP
    unfold SB bP at hP
    dsimp only at hP
    generalize xs[q] = a at *
    repeat' (first | ((first | apply o_do | apply d_do | apply d_yes rfl rfl rfl); first | exact ls_indexAddr_sl tab_ok rfl rfl rfl rfl hel rfl | exact ls_callAT hG [1, 2] 50 hP rfl rfl (by (repeat' (first | exact NilL.nil | refine NilL.cons Nil.same ?_ | refine NilL.cons Nil.nil ?_ | refine NilL.cons (Nil.agg ?_) ?_ | exact Nil1s.nil | refine Nil1s.cons Nil1.same ?_ | refine Nil1s.cons Nil1.nil ?_)); first | done | fail) rfl (by repeat' (first | exact trivial | refine ⟨⟨_, rfl, by first | rfl | (simp [renO, *]; done)⟩, ?_⟩)) (by first | rfl | simp [closO, *]) rfl rfl rfl rfl (by first | rfl | simp [closO, *]) rfl | exact lsq) | refine a_seq ?_ | refine a_region ?_ | refine o_nil ?_ | refine a_block ?_ | refine a_ret ?_ | refine a_exit ?_ | refine a_skip ?_ | refine a_draw mixed ?_ | refine d_nil (by kernel_rfl) ?_ | refine o_yes rfl rfl rfl ?_ | refine o_no rfl rfl rfl (by decide) ?_ | refine o_no' rfl rfl rfl ?_ | refine a_condT rfl ?_ | refine a_condF rfl ?_ | refine d_no rfl rfl rfl (by decide) ?_ | refine d_no' rfl rfl rfl ?_ | (refine wq2 (fun hb => ?_) (fun hb => ?_) <;> (simp only [hb]; try simp only [hbs, ne_eq] at hb; try (exfalso; first | omega | exact hb trivial))) | fail)
    refine ⟨⟨(q + 1, l ++ lineW (acW a)), by dsimp only; omega, hl2, hl3, hl4⟩, by dsimp only; omega, ?_⟩
    refine ⟨by repeat' (first | exact trivial | exact FinA.one (FinB.cell (FinC.same rfl)) | exact FinA.one (FinB.cell FinC.nil) | exact FinA.bound rfl | exact FinA.one (FinB.cell (FinC.own rfl rfl rfl rfl)) | exact FinA.one (FinB.cell (FinC.v (by first | rfl | (simp)))) | exact FinA.one (FinB.cell (FinC.ow rfl (by first | rfl | (simp)))) | exact FinA.one (FinB.agg' rfl rfl) | exact FinA.one (FinB.cell (FinC.el rfl rfl rfl rfl)) | refine FinA.clo ?_ ?_ | exact FinBs.nil | exact FinB.cell (FinC.same rfl) | exact FinB.cell (FinC.el rfl rfl rfl rfl) | refine FinBs.cons ?_ ?_ | refine ⟨⟨_, rfl, ?_⟩, ?_⟩), by repeat' (first | exact trivial | refine ⟨⟨_, rfl, by first | rfl | (simp; done) | (simp [renO, *]; done)⟩, by first | rfl | assumption, ?_⟩), rfl⟩
  obtain rfl : q = xs.length := by omega
  rw [List.take_length] at hl
  rw [← hl]
  have hSt := b_String 41 l hln
  unfold SB bP at hSt
  dsimp only at hSt
  repeat' (first | ((first | apply o_do | apply d_do | apply d_yes rfl rfl rfl); first | exact ls_nilCheck rfl rfl | exact ls_callA [1, 2] 50 hSt rfl rfl (by (repeat' (first | exact NilL.nil | refine NilL.cons Nil.same ?_ | refine NilL.cons Nil.nil ?_ | refine NilL.cons (Nil.agg ?_) ?_ | exact Nil1s.nil | refine Nil1s.cons Nil1.same ?_ | refine Nil1s.cons Nil1.nil ?_)); first | done | fail) rfl (by repeat' (first | exact trivial | refine ⟨⟨_, rfl, by first | rfl | (simp [renO, *]; done)⟩, ?_⟩)) (by first | rfl | simp [closO, *]) rfl rfl rfl rfl (by first | rfl | simp [closO, *]) rfl | exact lsq) | refine a_seq ?_ | refine a_region ?_ | refine o_nil ?_ | refine a_block ?_ | refine a_ret ?_ | refine a_exit ?_ | refine a_skip ?_ | refine a_draw mixed ?_ | refine d_nil (by kernel_rfl) ?_ | refine o_yes rfl rfl rfl ?_ | refine o_no rfl rfl rfl (by decide) ?_ | refine o_no' rfl rfl rfl ?_ | refine a_condT rfl ?_ | refine a_condF rfl ?_ | refine d_no rfl rfl rfl (by decide) ?_ | refine d_no' rfl rfl rfl ?_ | (refine wq2 (fun hb => ?_) (fun hb => ?_) <;> (simp only [hb]; try simp only [hbs, ne_eq] at hb; try (exfalso; first | omega | exact hb trivial))) | fail)
  all_goals refine ⟨by first | exact .inr rfl | exact .inl rfl, _, rfl, ?_, by repeat' (first | exact trivial | refine ⟨⟨_, rfl, by first | rfl | (simp [renO, *]; done)⟩, by first | rfl | assumption, ?_⟩)⟩
  all_goals (first | refine FinA.tup ?_ | refine FinA.one ?_); repeat' (first | exact FinBs.nil | exact FinCs.nil | refine FinBs.cons ?_ ?_ | refine FinCs.cons ?_ ?_ | refine FinB.cell (FinC.v ?_) | refine FinB.cell (FinC.own rfl rfl rfl ?_) | exact FinB.cell FinC.nil | refine FinB.cell (FinC.sl ?_) | exact FinB.agg' rfl rfl | exact FinB.cell (FinC.same rfl) | refine FinB.agg ?_ | refine FinC.v ?_ | refine FinC.own rfl rfl rfl ?_ | exact FinC.nil | refine FinC.sl ?_ | exact FinC.same rfl); all_goals try rfl
end Go.Proofs.YtbhblhcgfenobaaDoor
