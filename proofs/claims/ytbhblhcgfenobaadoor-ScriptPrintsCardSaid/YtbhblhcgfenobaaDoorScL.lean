/-
  Script: the reference's text of a plan that may be.
-/
import Derived.Test.YtbhblhcgfenobaaDoorScJ
import Derived.Test.YtbhblhcgfenobaaDoorScK
namespace Go.Proofs.YtbhblhcgfenobaaDoor
open Go.RowKit
set_option linter.unusedSimpArgs false
set_option linter.unusedVariables false
theorem evSp (e : Et) : ((((((⟨#[32]⟩ : ByteArray) ++ e.key) ++ ⟨#[64]⟩) ++ itoB e.at') ++ ⟨#[58]⟩) ++ itoB e.v).data.toList = 32 :: (evW e).data.toList := by simp [evW]
theorem lineSrc (es : List Et) : lineW (srcW es) = (⟨#[115, 111, 117, 114, 99, 101]⟩ : ByteArray).data.toList ++ spW (es.map evW) ++ [10] := by simp [lineW, srcW, joinW]
set_option maxHeartbeats 16000000 in
set_option maxRecDepth 20000 in
theorem r_Text (g s d fu li de id : Int) (q0 : Nat) (hq0 : q0 < 5) (ls : List (List Et)) (wn : Int) (xs : List Ac) (hJ : JI g s d ((q0 : Int) + 1) fu li de id) (hok : (Pl.mk g s d ((q0 : Int) + 1) fu li de id ls wn xs).ok = true) (hx : Small ls) (hv : ∀ es ∈ ls, I64s es) (T : ByteArray) (hT : T = jobT (itoB g) (itoB s) (itoB d) (nmQ q0) (itoB li) (itoB fu) (itoB de) (itoB id)) (hTs : T.data.size ≤ 1000) :
    PCT Tryd.prog TabT 8 [.agg (Pl.mk g s d ((q0 : Int) + 1) fu li de id ls wn xs).av] (.v (.string ⟨(T.data.toList ++ plL ls wn xs).toArray⟩)) := by
  simp only [Pl.ok, Pl.jok, Bool.and_eq_true, decide_eq_true_eq] at hok
  obtain ⟨hj, hi, w1, w2, x4, hle, hac⟩ := hok
  have hP := j_Text g s d fu li de id q0 hq0 hJ
  rw [← hT] at hP
  unfold jAv at hP
  clear hT
  have hI : i64 wn := ⟨by omega, by omega⟩
  have hF := p_Itoa hI
  have hs := itoB_size wn hI.1 hI.2
  have hin := hi
  simp only [okIn, Bool.and_eq_true, decide_eq_true_eq, List.all_eq_true] at hin
  obtain ⟨n1, n4, hes⟩ := hin
  have hn : (ls.map inAv).length = ls.length := List.length_map _
  have hm : (xs.map Ac.av).length = xs.length := List.length_map _
  have hhd := head_eq T (itoB wn)
  have hTz : T.size ≤ 1000 := hTs
  have hzz : (itoB wn).size ≤ 30 := Nat.le_trans hs (by omega)
  unfold plL
  rw [← List.append_assoc, ← List.append_assoc, ← hhd]
  clear hhd
  unfold Pl.av
  dsimp only
  generalize itoB wn = z at *
  have hsz : (((T ++ ⟨#[119, 111, 114, 107, 101, 114, 115, 32]⟩) ++ z) ++ ⟨#[10]⟩ : ByteArray).size ≤ 1100 := by
    have e1 : (⟨#[119, 111, 114, 107, 101, 114, 115, 32]⟩ : ByteArray).size = 8 := rfl
    have e2 : (⟨#[10]⟩ : ByteArray).size = 1 := rfl
    simp only [ByteArray.size_append, e1, e2]; omega
  have hCl : (((T ++ ⟨#[119, 111, 114, 107, 101, 114, 115, 32]⟩) ++ z) ++ ⟨#[10]⟩ : ByteArray).data.toList.length ≤ 1100 := by rw [Array.length_toList]; exact hsz
  refine PCT.mk (act_body tab_ok Tryd.func8 rfl (by kernel_rfl) rfl ?_); intro w0 M μ0 hG; simp only [Tryd.ntmps8, List.length_cons, List.length_nil, Nat.reduceAdd, Nat.reduceSub, numb] at hG ⊢
  repeat' (first | ((first | apply o_do | apply d_do | apply d_yes rfl rfl rfl); first | focus (apply ls_callT hG hP rfl rfl _ rfl rfl; (repeat' (first | exact NilL.nil | refine NilL.cons Nil.same ?_ | refine NilL.cons Nil.nil ?_ | refine NilL.cons (Nil.agg ?_) ?_ | exact Nil1s.nil | refine Nil1s.cons Nil1.same ?_ | refine Nil1s.cons Nil1.nil ?_)); done) | focus (apply ls_callT hG hF rfl rfl _ rfl rfl; (repeat' (first | exact NilL.nil | refine NilL.cons Nil.same ?_ | refine NilL.cons Nil.nil ?_ | refine NilL.cons (Nil.agg ?_) ?_ | exact Nil1s.nil | refine Nil1s.cons Nil1.same ?_ | refine Nil1s.cons Nil1.nil ?_)); done) | exact ls_cat rfl rfl (by simp only [ByteArray.size, ByteArray.data_append, Array.size_append, List.size_toArray, List.length_cons, List.length_nil]; omega) rfl | exact ls_toBytes (k := 1) tab_ok u8_ok rfl rfl rfl (by omega) rfl rfl | exact lsq) | refine a_seq ?_ | refine a_region ?_ | refine o_nil ?_ | refine a_block ?_ | refine a_ret ?_ | refine a_exit ?_ | refine a_skip ?_ | refine a_draw mixed ?_ | refine d_nil (by kernel_rfl) ?_ | refine o_yes rfl rfl rfl ?_ | refine o_no rfl rfl rfl (by decide) ?_ | refine o_no' rfl rfl rfl ?_ | refine a_condT rfl ?_ | refine a_condF rfl ?_ | refine d_no rfl rfl rfl (by decide) ?_ | refine d_no' rfl rfl rfl ?_ | (refine wq2 (fun hb => ?_) (fun hb => ?_) <;> (simp only [hb]; try simp only [hbs, ne_eq] at hb; try (exfalso; first | omega | exact hb trivial))) | fail)
  generalize (((T ++ ⟨#[119, 111, 114, 107, 101, 114, 115, 32]⟩) ++ z) ++ ⟨#[10]⟩ : ByteArray).data.toList = C at *
  refine a_loop (X := {x : Nat × List UInt8 // x.1 ≤ ls.length ∧ x.2 = C ++ (ls.take x.1).flatMap (fun es => lineW (srcW es)) ∧ x.2.length ≤ 2000 + 20000 * x.1}) (fun x => ⟨[(1, .ref 0 0), (3, .own 1 (x.1.2.map byAv).length), (21, .sl 1 (ls.map inAv)), (22, .v (.int .i64 ls.length)), (23, .v (.int .i64 x.1.1))], [(0, .box 27 [.v (.int .i64 g), .v (.int .i64 s), .v (.int .i64 d), .v (.int .i64 ((q0 : Int) + 1)), .v (.int .i64 fu), .v (.int .i64 li), .v (.int .i64 de), .v (.int .i64 id), .sl 1 (ls.map inAv), .v (.int .i64 wn), .sl 3 (xs.map Ac.av)]), (1, .row (5 + 1048576) 1 (x.1.2.map byAv))]⟩) (fun x => ls.length - x.1.1) ⟨(0, C), Nat.zero_le _, by simp, by dsimp only; omega⟩ ?_ ?_
  · refine ⟨by repeat' (first | exact trivial | exact FinA.one (FinB.cell (FinC.same rfl)) | exact FinA.one (FinB.cell FinC.nil) | exact FinA.bound rfl | exact FinA.one (FinB.cell (FinC.own rfl rfl rfl rfl)) | exact FinA.one (FinB.cell (FinC.v (by first | rfl | (simp)))) | exact FinA.one (FinB.cell (FinC.ow rfl (by first | rfl | (simp)))) | exact FinA.one (FinB.agg' rfl rfl) | refine ⟨⟨_, rfl, ?_⟩, ?_⟩), by repeat' (first | exact trivial | refine ⟨⟨_, rfl, by first | rfl | (simp; done) | (simp [renO, *]; done)⟩, by first | rfl | assumption, ?_⟩), rfl⟩
  rintro ⟨⟨q, l⟩, hq, hl, hlb⟩
  dsimp only at hq hl hlb ⊢
  by_cases hlt : q < ls.length
  · have hel : (ls.map inAv)[q]? = some (inAv ls[q]) := by simp [hlt]
    have hsn := take_snoc ls q hlt
    have hln := srcW_len (hes _ (List.getElem_mem hlt)) (hv _ (List.getElem_mem hlt))
    have hee := hes _ (List.getElem_mem hlt)
    have hve := hv _ (List.getElem_mem hlt)
    have hl2 : l ++ lineW (srcW ls[q]) = C ++ (ls.take (q + 1)).flatMap (fun es => lineW (srcW es)) := by rw [hl, hsn]; simp only [List.flatMap_append, List.flatMap_cons, List.flatMap_nil, List.append_nil, List.append_assoc]
    have hl3 : (l ++ lineW (srcW ls[q])).length ≤ 2000 + 20000 * (q + 1) := by
      unfold lineW
      simp only [List.length_append, List.length_cons, List.length_nil]
      omega
    unfold inAv at hel
    generalize ls[q] = es at *
    have hen : (es.map Et.av).length = es.length := List.length_map _
    simp only [okEs, Bool.and_eq_true, decide_eq_true_eq, List.all_eq_true] at hee
    obtain ⟨h200, hall⟩ := hee
    have hly : (l.map byAv).length + (⟨#[115, 111, 117, 114, 99, 101]⟩ : ByteArray).size ≤ 100000000000000 := by rw [List.length_map]; show _ + 6 ≤ _; omega
    rw [lineSrc] at hl2 hl3
    repeat' (first | ((first | apply o_do | apply d_do | apply d_yes rfl rfl rfl); first | exact ls_indexAddr_sl tab_ok rfl rfl rfl rfl hel rfl | exact ls_appendT tab_ok u8_ok rfl rfl rfl rfl rfl rfl rfl hly rfl | exact lsq) | refine a_seq ?_ | refine a_region ?_ | refine o_nil ?_ | refine a_block ?_ | refine a_ret ?_ | refine a_exit ?_ | refine a_skip ?_ | refine a_draw mixed ?_ | refine d_nil (by kernel_rfl) ?_ | refine o_yes rfl rfl rfl ?_ | refine o_no rfl rfl rfl (by decide) ?_ | refine o_no' rfl rfl rfl ?_ | refine a_condT rfl ?_ | refine a_condF rfl ?_ | refine d_no rfl rfl rfl (by decide) ?_ | refine d_no' rfl rfl rfl ?_ | (refine wq2 (fun hb => ?_) (fun hb => ?_) <;> (simp only [hb]; try simp only [hbs, ne_eq] at hb; try (exfalso; first | omega | exact hb trivial))) | fail)
    rw [← List.map_append]
    generalize hB : l ++ (⟨#[115, 111, 117, 114, 99, 101]⟩ : ByteArray).data.toList = B at *
    have hBl : B.length ≤ 2000 + 20000 * q + 6 := by rw [← hB, List.length_append, show (⟨#[115, 111, 117, 114, 99, 101]⟩ : ByteArray).data.toList.length = 6 from rfl]; omega
    have hBs : l ++ ((⟨#[115, 111, 117, 114, 99, 101]⟩ : ByteArray).data.toList ++ spW (es.map evW) ++ [10]) = B ++ spW (es.map evW) ++ [10] := by rw [← hB]; simp only [List.append_assoc]
    rw [hBs] at hl2 hl3
    clear hB hBs hly
    refine a_loop (X := {x : Nat × List UInt8 // x.1 ≤ es.length ∧ x.2 = B ++ spW ((es.take x.1).map evW) ∧ x.2.length ≤ 100000 + 100 * x.1}) (fun x => ⟨[(1, .ref 0 0), (3, .own 1 (x.1.2.map byAv).length), (5, .sl 3 (es.map Et.av)), (21, .sl 1 (ls.map inAv)), (22, .v (.int .i64 ls.length)), (23, .v (.int .i64 q)), (29, .sl 3 (es.map Et.av)), (30, .v (.int .i64 es.length)), (31, .v (.int .i64 x.1.1))], [(0, .box 27 [.v (.int .i64 g), .v (.int .i64 s), .v (.int .i64 d), .v (.int .i64 ((q0 : Int) + 1)), .v (.int .i64 fu), .v (.int .i64 li), .v (.int .i64 de), .v (.int .i64 id), .sl 1 (ls.map inAv), .v (.int .i64 wn), .sl 3 (xs.map Ac.av)]), (1, .row (5 + 1048576) 1 (x.1.2.map byAv))]⟩) (fun x => es.length - x.1.1) ⟨(0, B), Nat.zero_le _, by simp [spW], by dsimp only; omega⟩ ?_ ?_
    · refine ⟨by repeat' (first | exact trivial | exact FinA.one (FinB.cell (FinC.same rfl)) | exact FinA.one (FinB.cell FinC.nil) | exact FinA.bound rfl | exact FinA.one (FinB.cell (FinC.own rfl rfl rfl rfl)) | exact FinA.one (FinB.cell (FinC.v (by first | rfl | (simp)))) | exact FinA.one (FinB.cell (FinC.ow rfl (by first | rfl | (simp)))) | exact FinA.one (FinB.agg' rfl rfl) | refine ⟨⟨_, rfl, ?_⟩, ?_⟩), by repeat' (first | exact trivial | refine ⟨⟨_, rfl, by first | rfl | (simp; done) | (simp [renO, *]; done)⟩, by first | rfl | assumption, ?_⟩), rfl⟩
    rintro ⟨⟨r, m⟩, hr, hm2, hmb⟩
    dsimp only at hr hm2 hmb ⊢
    by_cases hrl : r < es.length
    · have hel2 : (es.map Et.av)[r]? = some (Et.av es[r]) := by simp [hrl]
      have hsn2 := take_snoc es r hrl
      obtain ⟨g1, g2⟩ := evR_facts (hall _ (List.getElem_mem hrl))
      have g3 := hve _ (List.getElem_mem hrl)
      have hF1 := p_Format es[r].at' g2.1 g2.2
      have hF2 := p_Format es[r].v g3.1 g3.2
      have s1 := itoB_size es[r].at' g2.1 g2.2
      have s2 := itoB_size es[r].v g3.1 g3.2
      have hm3 : m ++ (32 :: (evW es[r]).data.toList) = B ++ spW ((es.take (r + 1)).map evW) := by rw [hm2, hsn2, List.map_append, List.map_cons, List.map_nil, spW_snoc, List.append_assoc]
      rw [← evSp] at hm3
      unfold Et.av at hel2
      generalize es[r] = e at *
      obtain ⟨key, tm, val⟩ := e
      dsimp only at *
      have s1 : (itoB tm).size ≤ 30 := Nat.le_trans s1 (by omega)
      have s2 : (itoB val).size ≤ 30 := Nat.le_trans s2 (by omega)
      have g1 : key.size ≤ 16 := g1
      generalize itoB tm = z1 at *
      generalize itoB val = z2 at *
      have hszz : ((((((⟨#[32]⟩ : ByteArray) ++ key) ++ ⟨#[64]⟩) ++ z1) ++ ⟨#[58]⟩) ++ z2).size ≤ 100 := by
        have e1 : (⟨#[32]⟩ : ByteArray).size = 1 := rfl
        have e2 : (⟨#[64]⟩ : ByteArray).size = 1 := rfl
        have e3 : (⟨#[58]⟩ : ByteArray).size = 1 := rfl
        simp only [ByteArray.size_append, e1, e2, e3]; omega
      have hly : (m.map byAv).length + ((((((⟨#[32]⟩ : ByteArray) ++ key) ++ ⟨#[64]⟩) ++ z1) ++ ⟨#[58]⟩) ++ z2).size ≤ 100000000000000 := by rw [List.length_map]; omega
      have hmb2 : (m ++ ((((((⟨#[32]⟩ : ByteArray) ++ key) ++ ⟨#[64]⟩) ++ z1) ++ ⟨#[58]⟩) ++ z2).data.toList).length ≤ 100000 + 100 * (r + 1) := by
        have hq : ((((((⟨#[32]⟩ : ByteArray) ++ key) ++ ⟨#[64]⟩) ++ z1) ++ ⟨#[58]⟩) ++ z2).data.toList.length ≤ 100 := by rw [Array.length_toList]; exact hszz
        rw [List.length_append]
        omega
      repeat' (first | ((first | apply o_do | apply d_do | apply d_yes rfl rfl rfl); first | exact ls_indexAddr_sl tab_ok rfl rfl rfl rfl hel2 rfl | focus (apply ls_callT hG hF1 rfl rfl _ rfl rfl; (repeat' (first | exact NilL.nil | refine NilL.cons Nil.same ?_ | refine NilL.cons Nil.nil ?_ | refine NilL.cons (Nil.agg ?_) ?_ | exact Nil1s.nil | refine Nil1s.cons Nil1.same ?_ | refine Nil1s.cons Nil1.nil ?_)); done) | focus (apply ls_callT hG hF2 rfl rfl _ rfl rfl; (repeat' (first | exact NilL.nil | refine NilL.cons Nil.same ?_ | refine NilL.cons Nil.nil ?_ | refine NilL.cons (Nil.agg ?_) ?_ | exact Nil1s.nil | refine Nil1s.cons Nil1.same ?_ | refine Nil1s.cons Nil1.nil ?_)); done) | exact ls_cat rfl rfl (by simp only [ByteArray.size, ByteArray.data_append, Array.size_append, List.size_toArray, List.length_cons, List.length_nil]; omega) rfl | exact ls_appendT tab_ok u8_ok rfl rfl rfl rfl rfl rfl rfl hly rfl | exact lsq) | refine a_seq ?_ | refine a_region ?_ | refine o_nil ?_ | refine a_block ?_ | refine a_ret ?_ | refine a_exit ?_ | refine a_skip ?_ | refine a_draw mixed ?_ | refine d_nil (by kernel_rfl) ?_ | refine o_yes rfl rfl rfl ?_ | refine o_no rfl rfl rfl (by decide) ?_ | refine o_no' rfl rfl rfl ?_ | refine a_condT rfl ?_ | refine a_condF rfl ?_ | refine d_no rfl rfl rfl (by decide) ?_ | refine d_no' rfl rfl rfl ?_ | (refine wq2 (fun hb => ?_) (fun hb => ?_) <;> (simp only [hb]; try simp only [hbs, ne_eq] at hb; try (exfalso; first | omega | exact hb trivial))) | fail)
      rw [← List.map_append]
      refine ⟨⟨(r + 1, _), by dsimp only; omega, hm3, hmb2⟩, by dsimp only; omega, ?_⟩
      refine ⟨by repeat' (first | exact trivial | exact FinA.one (FinB.cell (FinC.same rfl)) | exact FinA.one (FinB.cell FinC.nil) | exact FinA.bound rfl | exact FinA.one (FinB.cell (FinC.own rfl rfl rfl rfl)) | exact FinA.one (FinB.cell (FinC.v (by first | rfl | (simp)))) | exact FinA.one (FinB.cell (FinC.ow rfl (by first | rfl | (simp)))) | exact FinA.one (FinB.agg' rfl rfl) | refine ⟨⟨_, rfl, ?_⟩, ?_⟩), by repeat' (first | exact trivial | refine ⟨⟨_, rfl, by first | rfl | (simp; done) | (simp [renO, *]; done)⟩, by first | rfl | assumption, ?_⟩), rfl⟩
    · obtain rfl : r = es.length := by omega
      rw [List.take_length] at hm2
      have hly : (m.map byAv).length + ([acells (con (.int .u8 10))] : List (List AV)).length ≤ 100000000000000 := by rw [List.length_map]; simp only [List.length_cons, List.length_nil]; omega
      rw [← hm2] at hl2 hl3
      repeat' (first | ((first | apply o_do | apply d_do | apply d_yes rfl rfl rfl); first | exact ls_appendTR tab_ok u8_ok rfl rfl rfl rfl rfl SrcIs.sl (by simp) rfl hly rfl | exact ls_appendTR tab_ok u8_ok rfl rfl rfl rfl rfl (SrcIs.own rfl rfl) (by simp) rfl hly rfl | exact lsq) | refine a_seq ?_ | refine a_region ?_ | refine o_nil ?_ | refine a_block ?_ | refine a_ret ?_ | refine a_exit ?_ | refine a_skip ?_ | refine a_draw mixed ?_ | refine d_nil (by kernel_rfl) ?_ | refine o_yes rfl rfl rfl ?_ | refine o_no rfl rfl rfl (by decide) ?_ | refine o_no' rfl rfl rfl ?_ | refine a_condT rfl ?_ | refine a_condF rfl ?_ | refine d_no rfl rfl rfl (by decide) ?_ | refine d_no' rfl rfl rfl ?_ | (refine wq2 (fun hb => ?_) (fun hb => ?_) <;> (simp only [hb]; try simp only [hbs, ne_eq] at hb; try (exfalso; first | omega | exact hb trivial))) | fail)
      rw [show (m.map byAv ++ [acells (con (.int .u8 10))]) = (m ++ [10]).map byAv by simp [byAv, acells, con]]
      refine ⟨⟨(q + 1, m ++ [10]), by dsimp only; omega, hl2, hl3⟩, by dsimp only; omega, ?_⟩
      refine ⟨by repeat' (first | exact trivial | exact FinA.one (FinB.cell (FinC.same rfl)) | exact FinA.one (FinB.cell FinC.nil) | exact FinA.bound rfl | exact FinA.one (FinB.cell (FinC.own rfl rfl rfl rfl)) | exact FinA.one (FinB.cell (FinC.v (by first | rfl | (simp)))) | exact FinA.one (FinB.cell (FinC.ow rfl (by first | rfl | (simp)))) | exact FinA.one (FinB.agg' rfl rfl) | refine ⟨⟨_, rfl, ?_⟩, ?_⟩), by repeat' (first | exact trivial | refine ⟨⟨_, rfl, by first | rfl | (simp; done) | (simp [renO, *]; done)⟩, by first | rfl | assumption, ?_⟩), rfl⟩
  obtain rfl : q = ls.length := by omega
  rw [List.take_length] at hl
  have hDl : l.length ≤ 100000 := by omega
  rw [← hl]
  clear hlb hl
  generalize l = D at *
  repeat' (first | ((first | apply o_do | apply d_do | apply d_yes rfl rfl rfl); exact lsq) | refine a_seq ?_ | refine a_region ?_ | refine o_nil ?_ | refine a_block ?_ | refine a_ret ?_ | refine a_exit ?_ | refine a_skip ?_ | refine a_draw mixed ?_ | refine d_nil (by kernel_rfl) ?_ | refine o_yes rfl rfl rfl ?_ | refine o_no rfl rfl rfl (by decide) ?_ | refine o_no' rfl rfl rfl ?_ | refine a_condT rfl ?_ | refine a_condF rfl ?_ | refine d_no rfl rfl rfl (by decide) ?_ | refine d_no' rfl rfl rfl ?_ | (refine wq2 (fun hb => ?_) (fun hb => ?_) <;> (simp only [hb]; try simp only [hbs, ne_eq] at hb; try (exfalso; first | omega | exact hb trivial))) | fail)
  refine a_loop (X := {x : Nat × List UInt8 // x.1 ≤ xs.length ∧ x.2 = D ++ (xs.take x.1).flatMap (fun a => lineW (acW a)) ∧ x.2.length ≤ 100000 + 50 * x.1}) (fun x => ⟨[(3, .own 1 (x.1.2.map byAv).length), (56, .sl 3 (xs.map Ac.av)), (57, .v (.int .i64 xs.length)), (58, .v (.int .i64 x.1.1))], [(1, .row (5 + 1048576) 1 (x.1.2.map byAv))]⟩) (fun x => xs.length - x.1.1) ⟨(0, D), Nat.zero_le _, by simp, by dsimp only; omega⟩ ?_ ?_
  · refine ⟨by repeat' (first | exact trivial | exact FinA.one (FinB.cell (FinC.same rfl)) | exact FinA.one (FinB.cell FinC.nil) | exact FinA.bound rfl | exact FinA.one (FinB.cell (FinC.own rfl rfl rfl rfl)) | exact FinA.one (FinB.cell (FinC.v (by first | rfl | (simp)))) | exact FinA.one (FinB.cell (FinC.ow rfl (by first | rfl | (simp)))) | exact FinA.one (FinB.agg' rfl rfl) | refine ⟨⟨_, rfl, ?_⟩, ?_⟩), by repeat' (first | exact trivial | refine ⟨⟨_, rfl, by first | rfl | (simp; done) | (simp [renO, *]; done)⟩, by first | rfl | assumption, ?_⟩), rfl⟩
  rintro ⟨⟨q, l⟩, hq, hl, hlb⟩
  dsimp only at hq hl hlb ⊢
  by_cases hlt : q < xs.length
  · have hel : (xs.map Ac.av)[q]? = some (Ac.av xs[q]) := by simp [hlt]
    have hsn := take_snoc xs q hlt
    have hak := List.all_eq_true.1 hac _ (List.getElem_mem hlt)
    have hl1 := acW_len hak
    have hl2 : l ++ lineW (acW xs[q]) = D ++ (xs.take (q + 1)).flatMap (fun a => lineW (acW a)) := by rw [hl, hsn]; simp only [List.flatMap_append, List.flatMap_cons, List.flatMap_nil, List.append_nil, List.append_assoc]
    have hl3 : (l ++ lineW (acW xs[q])).length ≤ 100000 + 50 * (q + 1) := by
      rw [List.length_append]
      omega
    generalize xs[q] = a at *
    obtain ⟨what, who, which⟩ := a
    unfold Ac.av at hel
    dsimp only at hel
    rcases what_in (what := what) with ⟨k, hk, rfl⟩ | h
    · have hw := p_rWordY k hk
      have hA := p_rWhich k hk
      have hB := p_rWho k hk
      have hws := wdB_size k
      unfold acOK at hak
      unfold acW at hl2 hl3
      dsimp only at hak hl2 hl3
      rw [if_pos ⟨by omega, by omega⟩, Int.toNat_natCast] at hak
      rw [Int.toNat_natCast] at hl2 hl3
      have hws : (wdB k).size ≤ 8 := hws
      generalize wdB k = w at *
      have hly : (l.map byAv).length + w.size ≤ 100000000000000 := by rw [List.length_map]; omega
      rcases wdN_in k with h0 | h0 | h0
      · rw [h0] at hA hB hl2 hl3 hak
        rw [if_neg (by decide), if_neg (by decide), lineW, join1, ← List.append_assoc] at hl2 hl3
        have hly2 : ((l ++ w.data.toList).map byAv).length + ([acells (con (.int .u8 10))] : List (List AV)).length ≤ 100000000000000 := by rw [List.length_map]; simp only [List.length_append, List.length_cons, List.length_nil] at hl3 ⊢; omega
        rw [List.map_append] at hly2
        repeat' (first | ((first | apply o_do | apply d_do | apply d_yes rfl rfl rfl); first | exact ls_indexAddr_sl tab_ok rfl rfl rfl rfl hel rfl | exact lsc (hw) | exact lsc (hA) | exact lsc (hB) | exact ls_appendT tab_ok u8_ok rfl rfl rfl rfl rfl rfl rfl hly rfl | exact ls_appendTR tab_ok u8_ok rfl rfl rfl rfl rfl SrcIs.sl (by simp) rfl hly2 rfl | exact ls_appendTR tab_ok u8_ok rfl rfl rfl rfl rfl (SrcIs.own rfl rfl) (by simp) rfl hly2 rfl | exact lsq) | refine a_seq ?_ | refine a_region ?_ | refine o_nil ?_ | refine a_block ?_ | refine a_ret ?_ | refine a_exit ?_ | refine a_skip ?_ | refine a_draw mixed ?_ | refine d_nil (by kernel_rfl) ?_ | refine o_yes rfl rfl rfl ?_ | refine o_no rfl rfl rfl (by decide) ?_ | refine o_no' rfl rfl rfl ?_ | refine a_condT rfl ?_ | refine a_condF rfl ?_ | refine d_no rfl rfl rfl (by decide) ?_ | refine d_no' rfl rfl rfl ?_ | (refine wq2 (fun hb => ?_) (fun hb => ?_) <;> (simp only [hb]; try simp only [hbs, ne_eq] at hb; try (exfalso; first | omega | exact hb trivial))) | fail)
        rw [show (l.map byAv ++ w.data.toList.map byAv ++ [acells (con (.int .u8 10))]) = (l ++ w.data.toList ++ [10]).map byAv by simp [byAv, acells, con]]
        refine ⟨⟨(q + 1, _), by dsimp only; omega, hl2, hl3⟩, by dsimp only; omega, ?_⟩
        refine ⟨by repeat' (first | exact trivial | exact FinA.one (FinB.cell (FinC.same rfl)) | exact FinA.one (FinB.cell FinC.nil) | exact FinA.bound rfl | exact FinA.one (FinB.cell (FinC.own rfl rfl rfl rfl)) | exact FinA.one (FinB.cell (FinC.v (by first | rfl | (simp)))) | exact FinA.one (FinB.cell (FinC.ow rfl (by first | rfl | (simp)))) | exact FinA.one (FinB.agg' rfl rfl) | refine ⟨⟨_, rfl, ?_⟩, ?_⟩), by repeat' (first | exact trivial | refine ⟨⟨_, rfl, by first | rfl | (simp; done) | (simp [renO, *]; done)⟩, by first | rfl | assumption, ?_⟩), rfl⟩
      · rw [h0] at hA hB hl2 hl3 hak
        rw [if_pos rfl] at hl2 hl3 hak
        rw [lineW, join2] at hl2 hl3
        simp only [Bool.and_eq_true] at hak
        have hI := smB_i64 hak.1
        have hF := p_Itoa hI
        have hs0 := itoB_size which hI.1 hI.2
        have hs : (itoB which).size ≤ 30 := Nat.le_trans (itoB_size which hI.1 hI.2) (by omega)
        generalize itoB which = z at *
        have hly1 : (l.map byAv ++ w.data.toList.map byAv).length + ((⟨#[32]⟩ : ByteArray) ++ z).size ≤ 100000000000000 := by
          simp only [List.length_append, List.length_map, Array.length_toList, ByteArray.size_append, show (⟨#[32]⟩ : ByteArray).size = 1 from rfl, show w.data.size = w.size from rfl]; omega
        have hly2 : (l.map byAv ++ w.data.toList.map byAv ++ ((⟨#[32]⟩ : ByteArray) ++ z).data.toList.map byAv).length + ([acells (con (.int .u8 10))] : List (List AV)).length ≤ 100000000000000 := by
          simp only [List.length_append, List.length_map, Array.length_toList, ByteArray.data_append, Array.size_append, List.size_toArray, List.length_cons, List.length_nil, show w.data.size = w.size from rfl, show z.data.size = z.size from rfl]; omega
        repeat' (first | ((first | apply o_do | apply d_do | apply d_yes rfl rfl rfl); first | exact ls_indexAddr_sl tab_ok rfl rfl rfl rfl hel rfl | exact lsc (hw) | exact lsc (hA) | exact lsc (hB) | focus (apply ls_callT hG hF rfl rfl _ rfl rfl; (repeat' (first | exact NilL.nil | refine NilL.cons Nil.same ?_ | refine NilL.cons Nil.nil ?_ | refine NilL.cons (Nil.agg ?_) ?_ | exact Nil1s.nil | refine Nil1s.cons Nil1.same ?_ | refine Nil1s.cons Nil1.nil ?_)); done) | exact ls_cat rfl rfl (by simp only [ByteArray.size, ByteArray.data_append, Array.size_append, List.size_toArray, List.length_cons, List.length_nil]; omega) rfl | exact ls_appendT tab_ok u8_ok rfl rfl rfl rfl rfl rfl rfl hly rfl | exact ls_appendT tab_ok u8_ok rfl rfl rfl rfl rfl rfl rfl hly1 rfl | exact ls_appendTR tab_ok u8_ok rfl rfl rfl rfl rfl SrcIs.sl (by simp) rfl hly2 rfl | exact ls_appendTR tab_ok u8_ok rfl rfl rfl rfl rfl (SrcIs.own rfl rfl) (by simp) rfl hly2 rfl | exact lsq) | refine a_seq ?_ | refine a_region ?_ | refine o_nil ?_ | refine a_block ?_ | refine a_ret ?_ | refine a_exit ?_ | refine a_skip ?_ | refine a_draw mixed ?_ | refine d_nil (by kernel_rfl) ?_ | refine o_yes rfl rfl rfl ?_ | refine o_no rfl rfl rfl (by decide) ?_ | refine o_no' rfl rfl rfl ?_ | refine a_condT rfl ?_ | refine a_condF rfl ?_ | refine d_no rfl rfl rfl (by decide) ?_ | refine d_no' rfl rfl rfl ?_ | (refine wq2 (fun hb => ?_) (fun hb => ?_) <;> (simp only [hb]; try simp only [hbs, ne_eq] at hb; try (exfalso; first | omega | exact hb trivial))) | fail)
        rw [show (l.map byAv ++ w.data.toList.map byAv ++ ((⟨#[32]⟩ : ByteArray) ++ z).data.toList.map byAv ++ [acells (con (.int .u8 10))]) = (l ++ (w.data.toList ++ 32 :: z.data.toList ++ [10])).map byAv by simp [byAv, acells, con]]
        refine ⟨⟨(q + 1, _), by dsimp only; omega, hl2, hl3⟩, by dsimp only; omega, ?_⟩
        refine ⟨by repeat' (first | exact trivial | exact FinA.one (FinB.cell (FinC.same rfl)) | exact FinA.one (FinB.cell FinC.nil) | exact FinA.bound rfl | exact FinA.one (FinB.cell (FinC.own rfl rfl rfl rfl)) | exact FinA.one (FinB.cell (FinC.v (by first | rfl | (simp)))) | exact FinA.one (FinB.cell (FinC.ow rfl (by first | rfl | (simp)))) | exact FinA.one (FinB.agg' rfl rfl) | refine ⟨⟨_, rfl, ?_⟩, ?_⟩), by repeat' (first | exact trivial | refine ⟨⟨_, rfl, by first | rfl | (simp; done) | (simp [renO, *]; done)⟩, by first | rfl | assumption, ?_⟩), rfl⟩
      · rw [h0] at hA hB hl2 hl3 hak
        rw [if_neg (by decide), if_pos rfl] at hl2 hl3 hak
        rw [lineW, join2] at hl2 hl3
        simp only [Bool.and_eq_true] at hak
        have hI := smB_i64 hak.1
        have hF := p_Itoa hI
        have hs0 := itoB_size who hI.1 hI.2
        have hs : (itoB who).size ≤ 30 := Nat.le_trans (itoB_size who hI.1 hI.2) (by omega)
        generalize itoB who = z at *
        have hly1 : (l.map byAv ++ w.data.toList.map byAv).length + ((⟨#[32]⟩ : ByteArray) ++ z).size ≤ 100000000000000 := by
          simp only [List.length_append, List.length_map, Array.length_toList, ByteArray.size_append, show (⟨#[32]⟩ : ByteArray).size = 1 from rfl, show w.data.size = w.size from rfl]; omega
        have hly2 : (l.map byAv ++ w.data.toList.map byAv ++ ((⟨#[32]⟩ : ByteArray) ++ z).data.toList.map byAv).length + ([acells (con (.int .u8 10))] : List (List AV)).length ≤ 100000000000000 := by
          simp only [List.length_append, List.length_map, Array.length_toList, ByteArray.data_append, Array.size_append, List.size_toArray, List.length_cons, List.length_nil, show w.data.size = w.size from rfl, show z.data.size = z.size from rfl]; omega
        repeat' (first | ((first | apply o_do | apply d_do | apply d_yes rfl rfl rfl); first | exact ls_indexAddr_sl tab_ok rfl rfl rfl rfl hel rfl | exact lsc (hw) | exact lsc (hA) | exact lsc (hB) | focus (apply ls_callT hG hF rfl rfl _ rfl rfl; (repeat' (first | exact NilL.nil | refine NilL.cons Nil.same ?_ | refine NilL.cons Nil.nil ?_ | refine NilL.cons (Nil.agg ?_) ?_ | exact Nil1s.nil | refine Nil1s.cons Nil1.same ?_ | refine Nil1s.cons Nil1.nil ?_)); done) | exact ls_cat rfl rfl (by simp only [ByteArray.size, ByteArray.data_append, Array.size_append, List.size_toArray, List.length_cons, List.length_nil]; omega) rfl | exact ls_appendT tab_ok u8_ok rfl rfl rfl rfl rfl rfl rfl hly rfl | exact ls_appendT tab_ok u8_ok rfl rfl rfl rfl rfl rfl rfl hly1 rfl | exact ls_appendTR tab_ok u8_ok rfl rfl rfl rfl rfl SrcIs.sl (by simp) rfl hly2 rfl | exact ls_appendTR tab_ok u8_ok rfl rfl rfl rfl rfl (SrcIs.own rfl rfl) (by simp) rfl hly2 rfl | exact lsq) | refine a_seq ?_ | refine a_region ?_ | refine o_nil ?_ | refine a_block ?_ | refine a_ret ?_ | refine a_exit ?_ | refine a_skip ?_ | refine a_draw mixed ?_ | refine d_nil (by kernel_rfl) ?_ | refine o_yes rfl rfl rfl ?_ | refine o_no rfl rfl rfl (by decide) ?_ | refine o_no' rfl rfl rfl ?_ | refine a_condT rfl ?_ | refine a_condF rfl ?_ | refine d_no rfl rfl rfl (by decide) ?_ | refine d_no' rfl rfl rfl ?_ | (refine wq2 (fun hb => ?_) (fun hb => ?_) <;> (simp only [hb]; try simp only [hbs, ne_eq] at hb; try (exfalso; first | omega | exact hb trivial))) | fail)
        rw [show (l.map byAv ++ w.data.toList.map byAv ++ ((⟨#[32]⟩ : ByteArray) ++ z).data.toList.map byAv ++ [acells (con (.int .u8 10))]) = (l ++ (w.data.toList ++ 32 :: z.data.toList ++ [10])).map byAv by simp [byAv, acells, con]]
        refine ⟨⟨(q + 1, _), by dsimp only; omega, hl2, hl3⟩, by dsimp only; omega, ?_⟩
        refine ⟨by repeat' (first | exact trivial | exact FinA.one (FinB.cell (FinC.same rfl)) | exact FinA.one (FinB.cell FinC.nil) | exact FinA.bound rfl | exact FinA.one (FinB.cell (FinC.own rfl rfl rfl rfl)) | exact FinA.one (FinB.cell (FinC.v (by first | rfl | (simp)))) | exact FinA.one (FinB.cell (FinC.ow rfl (by first | rfl | (simp)))) | exact FinA.one (FinB.agg' rfl rfl) | refine ⟨⟨_, rfl, ?_⟩, ?_⟩), by repeat' (first | exact trivial | refine ⟨⟨_, rfl, by first | rfl | (simp; done) | (simp [renO, *]; done)⟩, by first | rfl | assumption, ?_⟩), rfl⟩
    · unfold acOK at hak
      rw [if_neg (by dsimp only; omega)] at hak
      cases hak
  · obtain rfl : q = xs.length := by omega
    rw [List.take_length] at hl
    rw [← hl]
    repeat' (first | ((first | apply o_do | apply d_do | apply d_yes rfl rfl rfl); first | exact ls_toStrT tab_ok u8_ok rfl rfl rfl rfl rfl rfl rfl | exact lsq) | refine a_seq ?_ | refine a_region ?_ | refine o_nil ?_ | refine a_block ?_ | refine a_ret ?_ | refine a_exit ?_ | refine a_skip ?_ | refine a_draw mixed ?_ | refine d_nil (by kernel_rfl) ?_ | refine o_yes rfl rfl rfl ?_ | refine o_no rfl rfl rfl (by decide) ?_ | refine o_no' rfl rfl rfl ?_ | refine a_condT rfl ?_ | refine a_condF rfl ?_ | refine d_no rfl rfl rfl (by decide) ?_ | refine d_no' rfl rfl rfl ?_ | (refine wq2 (fun hb => ?_) (fun hb => ?_) <;> (simp only [hb]; try simp only [hbs, ne_eq] at hb; try (exfalso; first | omega | exact hb trivial))) | fail)
    all_goals refine ⟨by first | exact .inr rfl | exact .inl rfl, _, rfl, ?_, by repeat' (first | exact trivial | refine ⟨⟨_, rfl, by first | rfl | (simp [renO, *]; done)⟩, by first | rfl | assumption, ?_⟩)⟩
    all_goals (first | refine FinA.tup ?_ | refine FinA.one ?_); repeat' (first | exact FinBs.nil | exact FinCs.nil | refine FinBs.cons ?_ ?_ | refine FinCs.cons ?_ ?_ | refine FinB.cell (FinC.v ?_) | refine FinB.cell (FinC.own rfl rfl rfl ?_) | exact FinB.cell FinC.nil | refine FinB.cell (FinC.sl ?_) | exact FinB.agg' rfl rfl | exact FinB.cell (FinC.same rfl) | refine FinB.agg ?_ | refine FinC.v ?_ | refine FinC.own rfl rfl rfl ?_ | exact FinC.nil | refine FinC.sl ?_ | exact FinC.same rfl); all_goals try rfl
end Go.Proofs.YtbhblhcgfenobaaDoor
