/-
  Script: a printer's source.
  Script: a plan's lines.
  Scripts' texts in plain words: lines, words, what a line says, a plan. Plain.
-/
import Derived.Test.YtbhblhcgfenobaaGreatDoorK4
import Derived.Test.YtbhblhcgfenobaaGreatDoorK12
import Derived.Test.YtbhblhcgfenobaaGreatDoorK14
namespace Go.Proofs.YtbhblhcgfenobaaGreatDoor
open Go.RowKit
set_option linter.unusedSimpArgs false
set_option linter.unusedVariables false
/-- an event's word -/
def evW (e : Et) : ByteArray := e.key ++ ⟨#[64]⟩ ++ itoB e.at' ++ ⟨#[58]⟩ ++ itoB e.v
def srcW (es : List Et) : List ByteArray := ⟨#[115, 111, 117, 114, 99, 101]⟩ :: es.map evW
def I64s (es : List Et) : Prop := ∀ e ∈ es, i64 e.v
theorem evR_facts {e : Et} (h : evR e.key e.at' = true) : e.key.data.size ≤ 16 ∧ i64 e.at' := by
  simp only [evR, keyB, Bool.and_eq_true, decide_eq_true_eq] at h
  exact ⟨h.1.2, by omega, by omega⟩
theorem evW_size {e : Et} (h : evR e.key e.at' = true) (hv : i64 e.v) : (evW e).data.size ≤ 60 := by
  obtain ⟨h1, h2⟩ := evR_facts h
  have a := itoB_size e.at' h2.1 h2.2
  have b := itoB_size e.v hv.1 hv.2
  simp only [evW, ByteArray.data_append, Array.size_append, List.size_toArray, List.length_cons, List.length_nil]
  omega
theorem spW_le (ws : List ByteArray) (h : ∀ w ∈ ws, w.data.size ≤ 60) : (spW ws).length ≤ 61 * ws.length := by
  induction ws with
  | nil => simp [spW]
  | cons w ws ih =>
    have := ih fun v hv => h v (List.mem_cons_of_mem _ hv)
    have := h w (List.mem_cons_self ..)
    simp only [spW, List.flatMap_cons, List.length_append, List.length_cons, Array.length_toList] at *
    omega
theorem srcW_len {es : List Et} (hok : okEs es = true) (hv : I64s es) : (joinW (srcW es)).length ≤ 12206 := by
  simp only [okEs, Bool.and_eq_true, decide_eq_true_eq, List.all_eq_true] at hok
  have := spW_le (es.map evW) (by
    intro w hw
    obtain ⟨e, he, rfl⟩ := List.mem_map.1 hw
    exact evW_size (hok.2 e he) (hv e he))
  rw [List.length_map] at this
  unfold srcW joinW
  rw [List.length_append]
  have : (⟨#[115, 111, 117, 114, 99, 101]⟩ : ByteArray).data.toList.length = 6 := rfl
  omega
set_option maxHeartbeats 4000000 in
theorem p_psource (es : List Et) (hok : okEs es = true) (hv : I64s es) (p : Bool) (l : List UInt8) (hl : l.length ≤ 700000000) : ACT Tryz.prog TabT 31 [.ref 0 0, .sl 3 (es.map Et.av)] (SB 68 p l) (.tup []) (SB 68 true (l ++ lineW (srcW es))) := by
  have hlen := srcW_len hok hv
  have hok2 := hok
  simp only [okEs, Bool.and_eq_true, decide_eq_true_eq, List.all_eq_true] at hok2
  obtain ⟨h200, hall⟩ := hok2
  have hn : (es.map Et.av).length = es.length := List.length_map _
  have hsl : (srcW es).length = es.length + 1 := by simp [srcW]
  have hL := p_line (srcW es) p l (by omega) (by omega)
  unfold SB at *
  cases p
  · unfold bP at *
    refine (act_body tab_ok Tryz.func31 rfl (by kernel_rfl) rfl ?_); intro w0 M μ0 hG; simp only [Tryz.ntmps31, List.length_cons, List.length_nil, Nat.reduceAdd, Nat.reduceSub, numb] at hG ⊢
    repeat' (first | ((first | apply o_do | apply d_do | apply d_yes rfl rfl rfl); first | exact ls_buildO (k := 2) tab_ok rfl rfl rfl rfl rfl rfl rfl | exact lsq) | refine a_seq ?_ | refine a_region ?_ | refine o_nil ?_ | refine a_block ?_ | refine a_ret ?_ | refine a_exit ?_ | refine a_skip ?_ | refine a_draw mixed ?_ | refine d_nil (by kernel_rfl) ?_ | refine o_yes rfl rfl rfl ?_ | refine o_no rfl rfl rfl (by decide) ?_ | refine o_no' rfl rfl rfl ?_ | refine a_condT rfl ?_ | refine a_condF rfl ?_ | refine d_no rfl rfl rfl (by decide) ?_ | refine d_no' rfl rfl rfl ?_ | (refine wq2 (fun hb => ?_) (fun hb => ?_) <;> (simp only [hb]; try simp only [hbs, ne_eq] at hb; try (exfalso; first | omega | exact hb trivial))) | fail)
    refine a_loop (X := {x : Nat × List (List AV) // x.1 ≤ es.length ∧ x.2 = (srcW (es.take x.1)).map stAv}) (fun x => ⟨[(0, .ref 0 0), (4, .own 2 x.1.2.length), (8, .sl 3 (es.map Et.av)), (9, .v (.int .i64 es.length)), (10, .v (.int .i64 x.1.1))], [(0, .box 68 [.v (.pointer none), .own 1 (l.map byAv).length]), (1, .row 5 1 (l.map byAv)), (2, .row 9 1 x.1.2)]⟩) (fun x => es.length - x.1.1) ⟨(0, [[.v (.string ⟨#[115, 111, 117, 114, 99, 101]⟩)]]), Nat.zero_le _, rfl⟩ ?_ ?_
    · exact wkS
    rintro ⟨⟨q, R⟩, hq, hR⟩
    dsimp only at hq hR ⊢
    have hRl : R.length = q + 1 := by rw [hR]; simp [srcW]; omega
    by_cases hlt : q < es.length
    · have hel : (es.map Et.av)[q]? = some (Et.av es[q]) := by simp [hlt]
      have hsn := take_snoc es q hlt
      obtain ⟨g1, g2⟩ := evR_facts (hall _ (List.getElem_mem hlt))
      have g3 := hv _ (List.getElem_mem hlt)
      have hF1 := p_Format es[q].at' g2.1 g2.2
      have hF2 := p_Format es[q].v g3.1 g3.2
      have s1 := itoB_size es[q].at' g2.1 g2.2
      have s2 := itoB_size es[q].v g3.1 g3.2
      have hR2 : R ++ [[.v (.string (evW es[q]))]] = (srcW (es.take (q + 1))).map stAv := by rw [hR, hsn]; simp only [srcW, List.map_cons, List.map_append, List.map_nil, List.cons_append]; rfl
      unfold evW at hR2
      unfold Et.av at hel
      generalize es[q] = e at *
      obtain ⟨key, tm, val⟩ := e
      dsimp only at *
      generalize itoB tm = z1 at *
      generalize itoB val = z2 at *
      repeat' (first | ((first | apply o_do | apply d_do | apply d_yes rfl rfl rfl); first | exact ls_indexAddr_sl tab_ok rfl rfl rfl rfl hel rfl | focus (apply ls_callT hG hF1 rfl rfl _ rfl rfl; (repeat' (first | exact NilL.nil | refine NilL.cons Nil.same ?_ | refine NilL.cons Nil.nil ?_ | refine NilL.cons (Nil.agg ?_) ?_ | exact Nil1s.nil | refine Nil1s.cons Nil1.same ?_ | refine Nil1s.cons Nil1.nil ?_)); done) | focus (apply ls_callT hG hF2 rfl rfl _ rfl rfl; (repeat' (first | exact NilL.nil | refine NilL.cons Nil.same ?_ | refine NilL.cons Nil.nil ?_ | refine NilL.cons (Nil.agg ?_) ?_ | exact Nil1s.nil | refine Nil1s.cons Nil1.same ?_ | refine Nil1s.cons Nil1.nil ?_)); done) | exact ls_cat rfl rfl (by simp only [ByteArray.size, ByteArray.data_append, Array.size_append, List.size_toArray, List.length_cons, List.length_nil]; omega) rfl | focus (apply ls_append tab_ok rfl rfl ?hn rfl ?hsrc rfl ?hlen rfl rfl; (case hn => rfl); (case hsrc => first | exact SrcIs.sl | exact SrcIs.nil | exact SrcIs.own rfl rfl | fail); (case hlen => (try simp only [List.length_cons, List.length_nil]); omega); first | done | fail) | exact lsq) | refine a_seq ?_ | refine a_region ?_ | refine o_nil ?_ | refine a_block ?_ | refine a_ret ?_ | refine a_exit ?_ | refine a_skip ?_ | refine a_draw mixed ?_ | refine d_nil (by kernel_rfl) ?_ | refine o_yes rfl rfl rfl ?_ | refine o_no rfl rfl rfl (by decide) ?_ | refine o_no' rfl rfl rfl ?_ | refine a_condT rfl ?_ | refine a_condF rfl ?_ | refine d_no rfl rfl rfl (by decide) ?_ | refine d_no' rfl rfl rfl ?_ | (refine wq2 (fun hb => ?_) (fun hb => ?_) <;> (simp only [hb]; try simp only [hbs, ne_eq] at hb; try (exfalso; first | omega | exact hb trivial))) | fail)
      refine ⟨⟨(q + 1, _), by dsimp only; omega, hR2⟩, by dsimp only; omega, ?_⟩
      exact wkS
    · obtain rfl : q = es.length := by omega
      rw [List.take_length] at hR
      subst hR
      refine a_weak (t := ⟨[(0, .ref 0 0), (4, .sl 1 ((srcW es).map stAv)), (8, .sl 3 (es.map Et.av)), (9, .v (.int .i64 es.length)), (10, .v (.int .i64 es.length))], [(0, .box 68 [.v (.pointer none), .own 1 (l.map byAv).length]), (1, .row 5 1 (l.map byAv))]⟩) ?_ ?_
      · exact wkS
      repeat' (first | ((first | apply o_do | apply d_do | apply d_yes rfl rfl rfl); first | exact ls_callA [0, 1] 50 hL rfl rfl (by (repeat' (first | exact NilL.nil | refine NilL.cons Nil.same ?_ | refine NilL.cons Nil.nil ?_ | refine NilL.cons (Nil.agg ?_) ?_ | exact Nil1s.nil | refine Nil1s.cons Nil1.same ?_ | refine Nil1s.cons Nil1.nil ?_)); first | done | fail) rfl (by repeat' (first | exact trivial | refine ⟨⟨_, rfl, by first | rfl | (simp [renO, *]; done)⟩, ?_⟩)) (by first | rfl | simp [closO, *]) rfl rfl rfl rfl (by first | rfl | simp [closO, *]) rfl | exact lsq) | refine a_seq ?_ | refine a_region ?_ | refine o_nil ?_ | refine a_block ?_ | refine a_ret ?_ | refine a_exit ?_ | refine a_skip ?_ | refine a_draw mixed ?_ | refine d_nil (by kernel_rfl) ?_ | refine o_yes rfl rfl rfl ?_ | refine o_no rfl rfl rfl (by decide) ?_ | refine o_no' rfl rfl rfl ?_ | refine a_condT rfl ?_ | refine a_condF rfl ?_ | refine d_no rfl rfl rfl (by decide) ?_ | refine d_no' rfl rfl rfl ?_ | (refine wq2 (fun hb => ?_) (fun hb => ?_) <;> (simp only [hb]; try simp only [hbs, ne_eq] at hb; try (exfalso; first | omega | exact hb trivial))) | fail)
      all_goals refine rq rfl ?_
      all_goals exact fnq
  · unfold bP at *
    refine (act_body tab_ok Tryz.func31 rfl (by kernel_rfl) rfl ?_); intro w0 M μ0 hG; simp only [Tryz.ntmps31, List.length_cons, List.length_nil, Nat.reduceAdd, Nat.reduceSub, numb] at hG ⊢
    repeat' (first | ((first | apply o_do | apply d_do | apply d_yes rfl rfl rfl); first | exact ls_buildO (k := 2) tab_ok rfl rfl rfl rfl rfl rfl rfl | exact lsq) | refine a_seq ?_ | refine a_region ?_ | refine o_nil ?_ | refine a_block ?_ | refine a_ret ?_ | refine a_exit ?_ | refine a_skip ?_ | refine a_draw mixed ?_ | refine d_nil (by kernel_rfl) ?_ | refine o_yes rfl rfl rfl ?_ | refine o_no rfl rfl rfl (by decide) ?_ | refine o_no' rfl rfl rfl ?_ | refine a_condT rfl ?_ | refine a_condF rfl ?_ | refine d_no rfl rfl rfl (by decide) ?_ | refine d_no' rfl rfl rfl ?_ | (refine wq2 (fun hb => ?_) (fun hb => ?_) <;> (simp only [hb]; try simp only [hbs, ne_eq] at hb; try (exfalso; first | omega | exact hb trivial))) | fail)
    refine a_loop (X := {x : Nat × List (List AV) // x.1 ≤ es.length ∧ x.2 = (srcW (es.take x.1)).map stAv}) (fun x => ⟨[(0, .ref 0 0), (4, .own 2 x.1.2.length), (8, .sl 3 (es.map Et.av)), (9, .v (.int .i64 es.length)), (10, .v (.int .i64 x.1.1))], [(0, .box 68 [.ref 0 0, .own 1 (l.map byAv).length]), (1, .row 5 1 (l.map byAv)), (2, .row 9 1 x.1.2)]⟩) (fun x => es.length - x.1.1) ⟨(0, [[.v (.string ⟨#[115, 111, 117, 114, 99, 101]⟩)]]), Nat.zero_le _, rfl⟩ ?_ ?_
    · exact wkS
    rintro ⟨⟨q, R⟩, hq, hR⟩
    dsimp only at hq hR ⊢
    have hRl : R.length = q + 1 := by rw [hR]; simp [srcW]; omega
    by_cases hlt : q < es.length
    · have hel : (es.map Et.av)[q]? = some (Et.av es[q]) := by simp [hlt]
      have hsn := take_snoc es q hlt
      obtain ⟨g1, g2⟩ := evR_facts (hall _ (List.getElem_mem hlt))
      have g3 := hv _ (List.getElem_mem hlt)
      have hF1 := p_Format es[q].at' g2.1 g2.2
      have hF2 := p_Format es[q].v g3.1 g3.2
      have s1 := itoB_size es[q].at' g2.1 g2.2
      have s2 := itoB_size es[q].v g3.1 g3.2
      have hR2 : R ++ [[.v (.string (evW es[q]))]] = (srcW (es.take (q + 1))).map stAv := by rw [hR, hsn]; simp only [srcW, List.map_cons, List.map_append, List.map_nil, List.cons_append]; rfl
      unfold evW at hR2
      unfold Et.av at hel
      generalize es[q] = e at *
      obtain ⟨key, tm, val⟩ := e
      dsimp only at *
      generalize itoB tm = z1 at *
      generalize itoB val = z2 at *
      repeat' (first | ((first | apply o_do | apply d_do | apply d_yes rfl rfl rfl); first | exact ls_indexAddr_sl tab_ok rfl rfl rfl rfl hel rfl | focus (apply ls_callT hG hF1 rfl rfl _ rfl rfl; (repeat' (first | exact NilL.nil | refine NilL.cons Nil.same ?_ | refine NilL.cons Nil.nil ?_ | refine NilL.cons (Nil.agg ?_) ?_ | exact Nil1s.nil | refine Nil1s.cons Nil1.same ?_ | refine Nil1s.cons Nil1.nil ?_)); done) | focus (apply ls_callT hG hF2 rfl rfl _ rfl rfl; (repeat' (first | exact NilL.nil | refine NilL.cons Nil.same ?_ | refine NilL.cons Nil.nil ?_ | refine NilL.cons (Nil.agg ?_) ?_ | exact Nil1s.nil | refine Nil1s.cons Nil1.same ?_ | refine Nil1s.cons Nil1.nil ?_)); done) | exact ls_cat rfl rfl (by simp only [ByteArray.size, ByteArray.data_append, Array.size_append, List.size_toArray, List.length_cons, List.length_nil]; omega) rfl | focus (apply ls_append tab_ok rfl rfl ?hn rfl ?hsrc rfl ?hlen rfl rfl; (case hn => rfl); (case hsrc => first | exact SrcIs.sl | exact SrcIs.nil | exact SrcIs.own rfl rfl | fail); (case hlen => (try simp only [List.length_cons, List.length_nil]); omega); first | done | fail) | exact lsq) | refine a_seq ?_ | refine a_region ?_ | refine o_nil ?_ | refine a_block ?_ | refine a_ret ?_ | refine a_exit ?_ | refine a_skip ?_ | refine a_draw mixed ?_ | refine d_nil (by kernel_rfl) ?_ | refine o_yes rfl rfl rfl ?_ | refine o_no rfl rfl rfl (by decide) ?_ | refine o_no' rfl rfl rfl ?_ | refine a_condT rfl ?_ | refine a_condF rfl ?_ | refine d_no rfl rfl rfl (by decide) ?_ | refine d_no' rfl rfl rfl ?_ | (refine wq2 (fun hb => ?_) (fun hb => ?_) <;> (simp only [hb]; try simp only [hbs, ne_eq] at hb; try (exfalso; first | omega | exact hb trivial))) | fail)
      refine ⟨⟨(q + 1, _), by dsimp only; omega, hR2⟩, by dsimp only; omega, ?_⟩
      exact wkS
    · obtain rfl : q = es.length := by omega
      rw [List.take_length] at hR
      subst hR
      refine a_weak (t := ⟨[(0, .ref 0 0), (4, .sl 1 ((srcW es).map stAv)), (8, .sl 3 (es.map Et.av)), (9, .v (.int .i64 es.length)), (10, .v (.int .i64 es.length))], [(0, .box 68 [.ref 0 0, .own 1 (l.map byAv).length]), (1, .row 5 1 (l.map byAv))]⟩) ?_ ?_
      · exact wkS
      repeat' (first | ((first | apply o_do | apply d_do | apply d_yes rfl rfl rfl); first | exact ls_callA [0, 1] 50 hL rfl rfl (by (repeat' (first | exact NilL.nil | refine NilL.cons Nil.same ?_ | refine NilL.cons Nil.nil ?_ | refine NilL.cons (Nil.agg ?_) ?_ | exact Nil1s.nil | refine Nil1s.cons Nil1.same ?_ | refine Nil1s.cons Nil1.nil ?_)); first | done | fail) rfl (by repeat' (first | exact trivial | refine ⟨⟨_, rfl, by first | rfl | (simp [renO, *]; done)⟩, ?_⟩)) (by first | rfl | simp [closO, *]) rfl rfl rfl rfl (by first | rfl | simp [closO, *]) rfl | exact lsq) | refine a_seq ?_ | refine a_region ?_ | refine o_nil ?_ | refine a_block ?_ | refine a_ret ?_ | refine a_exit ?_ | refine a_skip ?_ | refine a_draw mixed ?_ | refine d_nil (by kernel_rfl) ?_ | refine o_yes rfl rfl rfl ?_ | refine o_no rfl rfl rfl (by decide) ?_ | refine o_no' rfl rfl rfl ?_ | refine a_condT rfl ?_ | refine a_condF rfl ?_ | refine d_no rfl rfl rfl (by decide) ?_ | refine d_no' rfl rfl rfl ?_ | (refine wq2 (fun hb => ?_) (fun hb => ?_) <;> (simp only [hb]; try simp only [hbs, ne_eq] at hb; try (exfalso; first | omega | exact hb trivial))) | fail)
      all_goals refine rq rfl ?_
      all_goals exact fnq
end Go.Proofs.YtbhblhcgfenobaaGreatDoor
namespace Go.Proofs.YtbhblhcgfenobaaGreatDoor
open Go.RowKit
set_option linter.unusedSimpArgs false
set_option linter.unusedVariables false
theorem acW_len {a : Ac} (hok : acOK a = true) : (lineW (acW a)).length ≤ 40 := by
  have h8 := wdB_size a.what.toNat
  unfold acOK at hok
  unfold acW lineW
  split at hok
  case isFalse => cases hok
  split at hok
  · rename_i h1
    rw [if_pos h1, join2]
    simp only [Bool.and_eq_true] at hok
    have hI := smB_i64 hok.1
    have := itoB_size a.which hI.1 hI.2
    simp only [List.length_append, List.length_cons, List.length_nil, Array.length_toList]
    omega
  · rename_i h1
    rw [if_neg h1]
    split at hok
    · rename_i h2
      rw [if_pos h2, join2]
      simp only [Bool.and_eq_true] at hok
      have hI := smB_i64 hok.1
      have := itoB_size a.who hI.1 hI.2
      simp only [List.length_append, List.length_cons, List.length_nil, Array.length_toList]
      omega
    · rename_i h2
      rw [if_neg h2, join1]
      simp only [List.length_append, List.length_cons, List.length_nil, Array.length_toList]
      omega
/-- "workers" -/
def wksB : ByteArray := ⟨#[119, 111, 114, 107, 101, 114, 115]⟩
/-- a plan's lines behind those of its job -/
def plL (ls : List (List Et)) (wn : Int) (xs : List Ac) : List UInt8 := lineW [wksB, itoB wn] ++ ls.flatMap (fun es => lineW (srcW es)) ++ xs.flatMap (fun a => lineW (acW a))
set_option maxHeartbeats 8000000 in
theorem s_Print (g s d fu li de id : Int) (q0 : Nat) (hq0 : q0 < 5) (ls : List (List Et)) (wn : Int) (xs : List Ac) (hJ : JI g s d ((q0 : Int) + 1) fu li de id) (hok : (Pl.mk g s d ((q0 : Int) + 1) fu li de id ls wn xs).ok = true) (hx : Small ls) (hv : ∀ es ∈ ls, I64s es) (T : ByteArray) (hT : T = jobP (spB g) (spB s) (spB d) (nmQ q0) (spB li) (spB fu) (spB de) (spB id)) (hTs : T.data.size ≤ 1000) :
    PCT Tryz.prog TabT 10 [.agg (Pl.mk g s d ((q0 : Int) + 1) fu li de id ls wn xs).av] (.tup [.v (.string ⟨(T.data.toList ++ plL ls wn xs).toArray⟩), .v (.int .i64 0)]) := by
  have hok2 := hok
  simp only [Pl.ok, Pl.jok, Bool.and_eq_true, decide_eq_true_eq] at hok2
  obtain ⟨hj, hi, w1, w2, x4, hle, hac⟩ := hok2
  have hR := s_Right (Pl.mk g s d ((q0 : Int) + 1) fu li de id ls wn xs) hx (by dsimp only; omega)
  rw [hok] at hR
  clear hok
  unfold Pl.av at *
  dsimp only at *
  have hP := j_Print g s d fu li de id q0 hq0 hJ hj
  rw [← hT] at hP
  unfold jAv at hP
  have hI : i64 wn := ⟨by omega, by omega⟩
  have hF := p_Itoa hI
  have hs := itoB_size wn hI.1 hI.2
  have hin := hi
  simp only [okIn, Bool.and_eq_true, decide_eq_true_eq, List.all_eq_true] at hin
  obtain ⟨n1, n4, hes⟩ := hin
  have hn : (ls.map inAv).length = ls.length := List.length_map _
  have hm : (xs.map Ac.av).length = xs.length := List.length_map _
  have hTl : T.data.toList.length = T.data.size := Array.length_toList
  have hW := b_WriteString 68 pr_lies false [] T (by have : T.size = T.data.size := rfl; simp only [List.length_nil]; omega)
  rw [List.nil_append] at hW
  unfold plL
  generalize itoB wn = z at *
  have hLn : (lineW [wksB, z]).length ≤ 40 := by
    unfold lineW
    rw [join2]
    simp only [List.length_append, List.length_cons, List.length_nil, Array.length_toList, wksB]
    have : (#[(119 : UInt8), 111, 114, 107, 101, 114, 115]).size = 7 := rfl
    omega
  have hL1 := p_line [wksB, z] true T.data.toList (by unfold lineW at hLn; rw [List.length_append] at hLn; omega) (by simp)
  have hB0 : T.data.toList ++ lineW [wksB, z] ≠ [] := by
    unfold lineW
    intro h
    have := congrArg List.length h
    simp at this
  unfold SB bP at hW hL1
  dsimp only at hW hL1
  refine PCT.mk (act_body tab_ok Tryz.func10 rfl (by kernel_rfl) rfl ?_); intro w0 M μ0 hG; simp only [Tryz.ntmps10, List.length_cons, List.length_nil, Nat.reduceAdd, Nat.reduceSub, numb] at hG ⊢
  repeat' (first | refine a_adoptB 1 1 2 5 1 rfl rfl rfl ?_ | ((first | apply o_do | apply d_do | apply d_yes rfl rfl rfl); first | exact lsc (hR) | focus (apply ls_callT hG hP rfl rfl _ rfl rfl; (repeat' (first | exact NilL.nil | refine NilL.cons Nil.same ?_ | refine NilL.cons Nil.nil ?_ | refine NilL.cons (Nil.agg ?_) ?_ | exact Nil1s.nil | refine Nil1s.cons Nil1.same ?_ | refine Nil1s.cons Nil1.nil ?_)); done) | focus (apply ls_callT hG hF rfl rfl _ rfl rfl; (repeat' (first | exact NilL.nil | refine NilL.cons Nil.same ?_ | refine NilL.cons Nil.nil ?_ | refine NilL.cons (Nil.agg ?_) ?_ | exact Nil1s.nil | refine Nil1s.cons Nil1.same ?_ | refine Nil1s.cons Nil1.nil ?_)); done) | exact ls_callA [1, 2] 50 hW rfl rfl (by (repeat' (first | exact NilL.nil | refine NilL.cons Nil.same ?_ | refine NilL.cons Nil.nil ?_ | refine NilL.cons (Nil.agg ?_) ?_ | exact Nil1s.nil | refine Nil1s.cons Nil1.same ?_ | refine Nil1s.cons Nil1.nil ?_)); first | done | fail) rfl (by (repeat' (first | exact trivial | refine ⟨⟨_, rfl, by first | rfl | (simp [renO, *]; done) | fail⟩, ?_⟩)); first | done | fail) (by first | rfl | (simp [closO, *]; done) | fail) rfl rfl rfl rfl (by first | rfl | (simp [closO, *]; done) | fail) rfl | exact ls_callA [1, 2] 50 hL1 rfl rfl (by (repeat' (first | exact NilL.nil | refine NilL.cons Nil.same ?_ | refine NilL.cons Nil.nil ?_ | refine NilL.cons (Nil.agg ?_) ?_ | exact Nil1s.nil | refine Nil1s.cons Nil1.same ?_ | refine Nil1s.cons Nil1.nil ?_)); first | done | fail) rfl (by (repeat' (first | exact trivial | refine ⟨⟨_, rfl, by first | rfl | (simp [renO, *]; done) | fail⟩, ?_⟩)); first | done | fail) (by first | rfl | (simp [closO, *]; done) | fail) rfl rfl rfl rfl (by first | rfl | (simp [closO, *]; done) | fail) rfl | exact ls_nilCheck rfl rfl | exact lsq) | refine a_seq ?_ | refine a_region ?_ | refine o_nil ?_ | refine a_block ?_ | refine a_ret ?_ | refine a_exit ?_ | refine a_skip ?_ | refine a_draw mixed ?_ | refine d_nil (by kernel_rfl) ?_ | refine o_yes rfl rfl rfl ?_ | refine o_no rfl rfl rfl (by decide) ?_ | refine o_no' rfl rfl rfl ?_ | refine a_condT rfl ?_ | refine a_condF rfl ?_ | refine d_no rfl rfl rfl (by decide) ?_ | refine d_no' rfl rfl rfl ?_ | (refine wq2 (fun hb => ?_) (fun hb => ?_) <;> (simp only [hb]; try simp only [hbs, ne_eq] at hb; try (exfalso; first | omega | exact hb trivial))) | fail)
  have hB1 : (T.data.toList ++ lineW [wksB, z]).length ≤ 1040 := by rw [List.length_append]; omega
  generalize hC : T.data.toList ++ lineW [wksB, z] = C at *
  refine a_loop (X := {x : Nat × List UInt8 // x.1 ≤ ls.length ∧ x.2 = C ++ (ls.take x.1).flatMap (fun es => lineW (srcW es)) ∧ x.2.length ≤ 2000 + 20000 * x.1}) (fun x => ⟨[(1, .ref 0 0), (6, .ref 1 0), (38, .sl 1 (ls.map inAv)), (39, .v (.int .i64 ls.length)), (40, .v (.int .i64 x.1.1))], [(0, .box 27 [.v (.int .i64 g), .v (.int .i64 s), .v (.int .i64 d), .v (.int .i64 ((q0 : Int) + 1)), .v (.int .i64 fu), .v (.int .i64 li), .v (.int .i64 de), .v (.int .i64 id), .sl 1 (ls.map inAv), .v (.int .i64 wn), .sl 3 (xs.map Ac.av)]), (1, .box 68 [.ref 1 0, .own 2 (x.1.2.map byAv).length]), (2, .row 5 1 (x.1.2.map byAv))]⟩) (fun x => ls.length - x.1.1) ⟨(0, C), Nat.zero_le _, by simp, by dsimp only; omega⟩ ?_ ?_
  · exact wkS
  rintro ⟨⟨q, l⟩, hq, hl, hlb⟩
  dsimp only at hq hl hlb ⊢
  by_cases hlt : q < ls.length
  · have hel : (ls.map inAv)[q]? = some (inAv ls[q]) := by simp [hlt]
    have hsn := take_snoc ls q hlt
    have hP := p_psource ls[q] (hes _ (List.getElem_mem hlt)) (hv _ (List.getElem_mem hlt)) true l (by omega)
    have hln := srcW_len (hes _ (List.getElem_mem hlt)) (hv _ (List.getElem_mem hlt))
    have hl2 : l ++ lineW (srcW ls[q]) = C ++ (ls.take (q + 1)).flatMap (fun es => lineW (srcW es)) := by rw [hl, hsn]; simp only [List.flatMap_append, List.flatMap_cons, List.flatMap_nil, List.append_nil, List.append_assoc]
    have hl3 : (l ++ lineW (srcW ls[q])).length ≤ 2000 + 20000 * (q + 1) := by
      unfold lineW
      simp only [List.length_append, List.length_cons, List.length_nil]
      omega
    unfold inAv at hel
    unfold SB bP at hP
    dsimp only at hP
    generalize ls[q] = es at *
    repeat' (first | ((first | apply o_do | apply d_do | apply d_yes rfl rfl rfl); first | exact ls_indexAddr_sl tab_ok rfl rfl rfl rfl hel rfl | exact ls_callAT hG [1, 2] 50 hP rfl rfl (by (repeat' (first | exact NilL.nil | refine NilL.cons Nil.same ?_ | refine NilL.cons Nil.nil ?_ | refine NilL.cons (Nil.agg ?_) ?_ | exact Nil1s.nil | refine Nil1s.cons Nil1.same ?_ | refine Nil1s.cons Nil1.nil ?_)); first | done | fail) rfl (by repeat' (first | exact trivial | refine ⟨⟨_, rfl, by first | rfl | (simp [renO, *]; done)⟩, ?_⟩)) (by first | rfl | simp [closO, *]) rfl rfl rfl rfl (by first | rfl | simp [closO, *]) rfl | exact lsq) | refine a_seq ?_ | refine a_region ?_ | refine o_nil ?_ | refine a_block ?_ | refine a_ret ?_ | refine a_exit ?_ | refine a_skip ?_ | refine a_draw mixed ?_ | refine d_nil (by kernel_rfl) ?_ | refine o_yes rfl rfl rfl ?_ | refine o_no rfl rfl rfl (by decide) ?_ | refine o_no' rfl rfl rfl ?_ | refine a_condT rfl ?_ | refine a_condF rfl ?_ | refine d_no rfl rfl rfl (by decide) ?_ | refine d_no' rfl rfl rfl ?_ | (refine wq2 (fun hb => ?_) (fun hb => ?_) <;> (simp only [hb]; try simp only [hbs, ne_eq] at hb; try (exfalso; first | omega | exact hb trivial))) | fail)
    refine ⟨⟨(q + 1, l ++ lineW (srcW es)), by dsimp only; omega, hl2, hl3⟩, by dsimp only; omega, ?_⟩
    exact wkS
  obtain rfl : q = ls.length := by omega
  rw [List.take_length] at hl
  have hDl : l.length ≤ 100000 := by omega
  have hDn : l ≠ [] := by
    rw [hl]
    intro h
    exact hB0 (List.append_eq_nil_iff.1 h).1
  have hres : C ++ ls.flatMap (fun es => lineW (srcW es)) ++ xs.flatMap (fun a => lineW (acW a)) = l ++ xs.flatMap (fun a => lineW (acW a)) := by rw [hl]
  have hfin : T.data.toList ++ (lineW [wksB, z] ++ ls.flatMap (fun es => lineW (srcW es)) ++ xs.flatMap (fun a => lineW (acW a))) = l ++ xs.flatMap (fun a => lineW (acW a)) := by
    rw [← hres, ← hC]; simp only [List.append_assoc]
  rw [hfin]
  clear hlb hl hres hfin hC
  generalize l = D at *
  repeat' (first | ((first | apply o_do | apply d_do | apply d_yes rfl rfl rfl); exact lsq) | refine a_seq ?_ | refine a_region ?_ | refine o_nil ?_ | refine a_block ?_ | refine a_ret ?_ | refine a_exit ?_ | refine a_skip ?_ | refine a_draw mixed ?_ | refine d_nil (by kernel_rfl) ?_ | refine o_yes rfl rfl rfl ?_ | refine o_no rfl rfl rfl (by decide) ?_ | refine o_no' rfl rfl rfl ?_ | refine a_condT rfl ?_ | refine a_condF rfl ?_ | refine d_no rfl rfl rfl (by decide) ?_ | refine d_no' rfl rfl rfl ?_ | (refine wq2 (fun hb => ?_) (fun hb => ?_) <;> (simp only [hb]; try simp only [hbs, ne_eq] at hb; try (exfalso; first | omega | exact hb trivial))) | fail)
  refine a_loop (X := {x : Nat × List UInt8 // x.1 ≤ xs.length ∧ x.2 = D ++ (xs.take x.1).flatMap (fun a => lineW (acW a)) ∧ x.2.length ≤ 100000 + 50 * x.1 ∧ x.2 ≠ []}) (fun x => ⟨[(1, .ref 0 0), (6, .ref 1 0), (9, .clo (.func 32) [.ref 1 0] []), (51, .sl 3 (xs.map Ac.av)), (52, .v (.int .i64 xs.length)), (53, .v (.int .i64 x.1.1))], [(0, .box 27 [.v (.int .i64 g), .v (.int .i64 s), .v (.int .i64 d), .v (.int .i64 ((q0 : Int) + 1)), .v (.int .i64 fu), .v (.int .i64 li), .v (.int .i64 de), .v (.int .i64 id), .sl 1 (ls.map inAv), .v (.int .i64 wn), .sl 3 (xs.map Ac.av)]), (1, .box 68 [.ref 1 0, .own 2 (x.1.2.map byAv).length]), (2, .row 5 1 (x.1.2.map byAv))]⟩) (fun x => xs.length - x.1.1) ⟨(0, D), Nat.zero_le _, by simp, by dsimp only; omega, hDn⟩ ?_ ?_
  · refine ⟨by repeat' (first | exact trivial | exact FinA.one (FinB.cell (FinC.same rfl)) | exact FinA.one (FinB.cell FinC.nil) | exact FinA.bound rfl | exact FinA.one (FinB.cell (FinC.own rfl rfl rfl rfl)) | exact FinA.one (FinB.cell (FinC.v (by first | rfl | (simp)))) | exact FinA.one (FinB.cell (FinC.ow rfl (by first | rfl | (simp)))) | exact FinA.one (FinB.agg' rfl rfl) | exact FinA.one (FinB.cell (FinC.el rfl rfl rfl rfl)) | refine FinA.clo ?_ ?_ | exact FinBs.nil | exact FinB.cell (FinC.same rfl) | exact FinB.cell (FinC.el rfl rfl rfl rfl) | refine FinBs.cons ?_ ?_ | refine ⟨⟨_, rfl, ?_⟩, ?_⟩), by repeat' (first | exact trivial | refine ⟨⟨_, rfl, by first | rfl | (simp; done) | (simp [renO, *]; done)⟩, by first | rfl | assumption, ?_⟩), rfl⟩
  rintro ⟨⟨q, l⟩, hq, hl, hlb, hln⟩
  dsimp only at hq hl hlb hln ⊢
  by_cases hlt : q < xs.length
  · have hel : (xs.map Ac.av)[q]? = some (Ac.av xs[q]) := by simp [hlt]
    have hsn := take_snoc xs q hlt
    have hak := List.all_eq_true.1 hac _ (List.getElem_mem hlt)
    have hP := p_pact xs[q] hak true l (by omega)
    have hl1 := acW_len hak
    have hl2 : l ++ lineW (acW xs[q]) = D ++ (xs.take (q + 1)).flatMap (fun a => lineW (acW a)) := by rw [hl, hsn]; simp only [List.flatMap_append, List.flatMap_cons, List.flatMap_nil, List.append_nil, List.append_assoc]
    have hl3 : (l ++ lineW (acW xs[q])).length ≤ 100000 + 50 * (q + 1) := by
      rw [List.length_append]
      omega
    have hl4 : l ++ lineW (acW xs[q]) ≠ [] := fun h => hln (List.append_eq_nil_iff.1 h).1
    unfold Ac.av at hel hP
    unfold SB bP at hP
    dsimp only at hP
    generalize xs[q] = a at *
    repeat' (first | ((first | apply o_do | apply d_do | apply d_yes rfl rfl rfl); first | exact ls_indexAddr_sl tab_ok rfl rfl rfl rfl hel rfl | exact ls_callAT hG [1, 2] 50 hP rfl rfl (by (repeat' (first | exact NilL.nil | refine NilL.cons Nil.same ?_ | refine NilL.cons Nil.nil ?_ | refine NilL.cons (Nil.agg ?_) ?_ | exact Nil1s.nil | refine Nil1s.cons Nil1.same ?_ | refine Nil1s.cons Nil1.nil ?_)); first | done | fail) rfl (by repeat' (first | exact trivial | refine ⟨⟨_, rfl, by first | rfl | (simp [renO, *]; done)⟩, ?_⟩)) (by first | rfl | simp [closO, *]) rfl rfl rfl rfl (by first | rfl | simp [closO, *]) rfl | exact lsq) | refine a_seq ?_ | refine a_region ?_ | refine o_nil ?_ | refine a_block ?_ | refine a_ret ?_ | refine a_exit ?_ | refine a_skip ?_ | refine a_draw mixed ?_ | refine d_nil (by kernel_rfl) ?_ | refine o_yes rfl rfl rfl ?_ | refine o_no rfl rfl rfl (by decide) ?_ | refine o_no' rfl rfl rfl ?_ | refine a_condT rfl ?_ | refine a_condF rfl ?_ | refine d_no rfl rfl rfl (by decide) ?_ | refine d_no' rfl rfl rfl ?_ | (refine wq2 (fun hb => ?_) (fun hb => ?_) <;> (simp only [hb]; try simp only [hbs, ne_eq] at hb; try (exfalso; first | omega | exact hb trivial))) | fail)
    refine ⟨⟨(q + 1, l ++ lineW (acW a)), by dsimp only; omega, hl2, hl3, hl4⟩, by dsimp only; omega, ?_⟩
    refine ⟨by repeat' (first | exact trivial | exact FinA.one (FinB.cell (FinC.same rfl)) | exact FinA.one (FinB.cell FinC.nil) | exact FinA.bound rfl | exact FinA.one (FinB.cell (FinC.own rfl rfl rfl rfl)) | exact FinA.one (FinB.cell (FinC.v (by first | rfl | (simp)))) | exact FinA.one (FinB.cell (FinC.ow rfl (by first | rfl | (simp)))) | exact FinA.one (FinB.agg' rfl rfl) | exact FinA.one (FinB.cell (FinC.el rfl rfl rfl rfl)) | refine FinA.clo ?_ ?_ | exact FinBs.nil | exact FinB.cell (FinC.same rfl) | exact FinB.cell (FinC.el rfl rfl rfl rfl) | refine FinBs.cons ?_ ?_ | refine ⟨⟨_, rfl, ?_⟩, ?_⟩), by repeat' (first | exact trivial | refine ⟨⟨_, rfl, by first | rfl | (simp; done) | (simp [renO, *]; done)⟩, by first | rfl | assumption, ?_⟩), rfl⟩
  obtain rfl : q = xs.length := by omega
  rw [List.take_length] at hl
  rw [← hl]
  have hSt := b_String 68 l hln
  unfold SB bP at hSt
  dsimp only at hSt
  repeat' (first | ((first | apply o_do | apply d_do | apply d_yes rfl rfl rfl); first | exact ls_nilCheck rfl rfl | exact ls_callA [1, 2] 50 hSt rfl rfl (by (repeat' (first | exact NilL.nil | refine NilL.cons Nil.same ?_ | refine NilL.cons Nil.nil ?_ | refine NilL.cons (Nil.agg ?_) ?_ | exact Nil1s.nil | refine Nil1s.cons Nil1.same ?_ | refine Nil1s.cons Nil1.nil ?_)); first | done | fail) rfl (by repeat' (first | exact trivial | refine ⟨⟨_, rfl, by first | rfl | (simp [renO, *]; done)⟩, ?_⟩)) (by first | rfl | simp [closO, *]) rfl rfl rfl rfl (by first | rfl | simp [closO, *]) rfl | exact lsq) | refine a_seq ?_ | refine a_region ?_ | refine o_nil ?_ | refine a_block ?_ | refine a_ret ?_ | refine a_exit ?_ | refine a_skip ?_ | refine a_draw mixed ?_ | refine d_nil (by kernel_rfl) ?_ | refine o_yes rfl rfl rfl ?_ | refine o_no rfl rfl rfl (by decide) ?_ | refine o_no' rfl rfl rfl ?_ | refine a_condT rfl ?_ | refine a_condF rfl ?_ | refine d_no rfl rfl rfl (by decide) ?_ | refine d_no' rfl rfl rfl ?_ | (refine wq2 (fun hb => ?_) (fun hb => ?_) <;> (simp only [hb]; try simp only [hbs, ne_eq] at hb; try (exfalso; first | omega | exact hb trivial))) | fail)
  all_goals refine rq rfl ?_
  all_goals exact fnq
end Go.Proofs.YtbhblhcgfenobaaGreatDoor
namespace Go.Proofs.YtbhblhcgfenobaaGreatDoor
open Go.RowKit
set_option linter.unusedSimpArgs false
set_option linter.unusedVariables false
/-! lines -/
def lnS : List UInt8 → List ByteArray × List UInt8
  | [] => ([], [])
  | c :: r => if c = 10 then (mkB [] :: (lnS r).1, (lnS r).2) else match (lnS r).1 with
    | [] => ([], c :: (lnS r).2)
    | l :: ls => (mkB (c :: l.data.toList) :: ls, (lnS r).2)
theorem lnS_at : ∀ {l r : List UInt8}, 10 ∉ l → lnS (l ++ 10 :: r) = (mkB l :: (lnS r).1, (lnS r).2)
  | [], r, _ => by rw [List.nil_append, lnS, if_pos rfl]
  | c :: l, r, h => by
    have hc : c ≠ 10 := fun e => h (by simp [e])
    have ih := lnS_at (l := l) (r := r) fun hm => h (by simp [hm])
    rw [List.cons_append, lnS, if_neg hc, ih]
    rfl
theorem lnS_no : ∀ {l : List UInt8}, 10 ∉ l → lnS l = ([], l)
  | [], _ => rfl
  | c :: l, h => by
    have hc : c ≠ 10 := fun e => h (by simp [e])
    have ih := lnS_no (l := l) fun hm => h (by simp [hm])
    rw [lnS, if_neg hc, ih]
/-- lines, each ended -/
def unl (L : List ByteArray) : List UInt8 := L.flatMap fun w => w.data.toList ++ [10]
theorem unl_cons (w : ByteArray) (L : List ByteArray) : unl (w :: L) = w.data.toList ++ 10 :: unl L := by simp [unl]
theorem unl_app (L K : List ByteArray) : unl (L ++ K) = unl L ++ unl K := by simp [unl]
theorem lnS_unl : ∀ (L : List ByteArray) (r : List UInt8), (∀ w ∈ L, 10 ∉ w.data.toList) → 10 ∉ r → lnS (unl L ++ r) = (L, r)
  | [], r, _, h => lnS_no h
  | w :: L, r, hL, h => by
    have ih := lnS_unl L r (fun v hv => hL v (by simp [hv])) h
    rw [unl_cons, List.append_assoc, List.cons_append, lnS_at (hL w (by simp)), ih]
    rfl
theorem lnS_join : ∀ (n : Nat) (t : List UInt8), t.length ≤ n → t = unl (lnS t).1 ++ (lnS t).2 ∧ (∀ w ∈ (lnS t).1, 10 ∉ w.data.toList) ∧ 10 ∉ (lnS t).2
  | 0, t, h => by
    obtain rfl : t = [] := List.eq_nil_of_length_eq_zero (by omega)
    exact ⟨rfl, by simp [lnS], by simp [lnS]⟩
  | n + 1, t, h => by
    by_cases hm : (10 : UInt8) ∈ t
    · obtain ⟨l, r, rfl, hl⟩ := mem_split 10 _ hm
      rw [List.length_append, List.length_cons] at h
      obtain ⟨h1, h2, h3⟩ := lnS_join n r (by omega)
      rw [lnS_at hl]
      dsimp only
      refine ⟨?_, fun w hw => ?_, h3⟩
      · rw [unl_cons, mkB_list, List.append_assoc, List.cons_append, ← h1]
      · rcases List.mem_cons.1 hw with rfl | hw
        · exact hl
        · exact h2 w hw
    · rw [lnS_no hm]
      exact ⟨rfl, by simp, hm⟩
/-! words -/
def unw (L : List ByteArray) : List UInt8 := L.flatMap fun w => w.data.toList ++ [32]
theorem unw_cons (w : ByteArray) (L : List ByteArray) : unw (w :: L) = w.data.toList ++ 32 :: unw L := by simp [unw]
theorem spl_unw : ∀ (L : List ByteArray) (r : List UInt8), (∀ w ∈ L, 32 ∉ w.data.toList) → 32 ∉ r → spl (mkB (unw L ++ r)) sp1 = L ++ [mkB r]
  | [], r, _, h => spl_no h
  | w :: L, r, hL, h => by
    have ih := spl_unw L r (fun v hv => hL v (by simp [hv])) h
    rw [unw_cons, List.append_assoc, List.cons_append, spl_at (mkB_list _) (hL w (by simp)), ih]
    rfl
theorem joinW_unw (L : List ByteArray) (w : ByteArray) : joinW (L ++ [w]) = unw L ++ w.data.toList := by
  induction L with
  | nil => simp [joinW, spW, unw]
  | cons v L ih =>
    rw [unw_cons, List.cons_append]
    cases L with
    | nil => simp [joinW, spW, unw]
    | cons u L =>
      rw [List.cons_append, List.append_assoc, List.cons_append, ← ih]
      simp [joinW, spW]
theorem spl_joinW (ws : List ByteArray) (hne : ws ≠ []) (h : ∀ w ∈ ws, 32 ∉ w.data.toList) : spl (mkB (joinW ws)) sp1 = ws := by
  have e := List.dropLast_concat_getLast hne
  have h1 := joinW_unw ws.dropLast (ws.getLast hne)
  rw [e] at h1
  rw [h1, spl_unw _ _ (fun w hw => h w (List.dropLast_subset _ hw)) (h _ (List.getLast_mem hne)), mkB_self, e]
theorem spl_parts : ∀ (n : Nat) (s : ByteArray), s.data.toList.length ≤ n → joinW (spl s sp1) = s.data.toList ∧ (∀ w ∈ spl s sp1, 32 ∉ w.data.toList) ∧ spl s sp1 ≠ []
  | n, s, h => by
    have h1 := spl_glue n s h
    have key : ∀ ws : List ByteArray, glue ws = joinW ws := by
      intro ws
      induction ws with
      | nil => rfl
      | cons w ws ih =>
        cases ws with
        | nil => simp [glue, joinW, spW]
        | cons v ws =>
          simp only [glue]
          rw [ih]
          simp [joinW, spW]
    rw [key] at h1
    refine ⟨h1, ?_, ?_⟩
    · have key2 : ∀ (n : Nat) (s : ByteArray), s.data.toList.length ≤ n → ∀ w ∈ spl s sp1, 32 ∉ w.data.toList := by
        intro n
        induction n with
        | zero =>
          intro s hn w hw
          have : s.data.toList = [] := List.eq_nil_of_length_eq_zero (by omega)
          rw [spl_no (by rw [this]; simp)] at hw
          rw [List.mem_singleton.1 hw, this]; simp
        | succ n ih =>
          intro s hn w hw
          by_cases hm : (32 : UInt8) ∈ s.data.toList
          · obtain ⟨l, r, e, hl⟩ := mem_split 32 _ hm
            rw [spl_at e hl] at hw
            rcases List.mem_cons.1 hw with rfl | hw
            · exact hl
            · exact ih (mkB r) (by rw [mkB_list]; rw [e, List.length_append, List.length_cons] at hn; omega) w hw
          · rw [spl_no hm] at hw
            rw [List.mem_singleton.1 hw]; exact hm
      exact key2 n s h
    · obtain ⟨w, r, e⟩ := spl_ne s
      rw [e]; simp
/-! what a line says -/
def evK (s : ByteArray) : ByteArray := cutA s (oneB 64)
def evT (s : ByteArray) : ByteArray := cutA (cutB s (oneB 64)) (oneB 58)
def evV (s : ByteArray) : ByteArray := cutB (cutB s (oneB 64)) (oneB 58)
def evOK (s : ByteArray) : Bool := cutC s (oneB 64) && (cutC (cutB s (oneB 64)) (oneB 58) && (wholeB (evT s) && (wholeB (evV s) && (letB (evK s) && evR (evK s) (numV (evT s))))))
def evP (s : ByteArray) : Et := ⟨evK s, numV (evT s), numV (evV s)⟩
def srcO (ws : List ByteArray) : Option (List Et) := if ws.length ≤ 200 ∧ ws.all evOK = true then some (ws.map evP) else none
def srcB : ByteArray := ⟨#[115, 111, 117, 114, 99, 101]⟩
/-- which act bears this word -/
def wdIx (w : ByteArray) : Option Nat := (List.range 10).find? fun k => (wdB k).toList == w.toList
def numO (x : ByteArray) : Option Int := if numB x = true ∧ numV x ≤ 1000000 then some (numV x) else none
def mkA (k : Nat) (n : Int) : Ac := if wdN k = 1 then ⟨(k : Int), 0, n⟩ else ⟨(k : Int), n, 0⟩
def actO : List ByteArray → Option Ac
  | [] => none
  | w :: r => match wdIx w with
    | none => none
    | some k => if wdN k = 0 then (if r = [] then some ⟨(k : Int), 0, 0⟩ else none) else match r with
      | [x] => (numO x).map (mkA k)
      | _ => none
def wkO : List ByteArray → Option Int
  | [a, b] => if (a.toList == wksB.toList) = true ∧ numB b = true ∧ 1 ≤ numV b ∧ numV b ≤ 8 then some (numV b) else none
  | _ => none
def isSrc (ws : List ByteArray) : Bool := match ws with
  | [] => false
  | w :: _ => w.toList == srcB.toList
def lnO (ws : List ByteArray) (ins : List (List Et)) (acs : List Ac) : Option (List (List Et) × List Ac) :=
  if acs.length = 0 ∧ isSrc ws = true ∧ ins.length < 4 then (srcO ws.tail).map fun es => (ins ++ [es], acs)
  else match actO ws with
    | none => none
    | some a => if ins.length = 0 ∨ 400 ≤ acs.length then none else some (ins, acs ++ [a])
def goP (re : Bool) : List ByteArray → Nat → List (List Et) → List Ac → Nat × List (List Et) × List Ac
  | [], i, ins, acs => if re = true ∧ ins ≠ [] then (0, ins, acs) else (i + 1, [], [])
  | l :: ls, i, ins, acs => match lnO (spl l sp1) ins acs with
    | none => (i + 1, [], [])
    | some x => goP re ls (i + 1) x.1 x.2
def zPl : Pl := ⟨0, 0, 0, 0, 0, 0, 0, 0, [], 0, []⟩
def hdS (s : ByteArray) : ByteArray := mkB (unl ((lnS s.data.toList).1.take 6))
def jPl (j : J8) (ins : List (List Et)) (wn : Int) (acs : List Ac) : Pl := ⟨j.g, j.s, j.d, j.k, j.fu, j.li, j.de, j.id, ins, wn, acs⟩
def endP (j : J8) (wn : Int) (G : Nat × List (List Et) × List Ac) : Pl × Int × Int := if G.1 = 0 then (jPl j G.2.1 wn G.2.2, 0, 0) else (zPl, 240, (G.1 : Int))
def tailP (j : J8) (re : Bool) : List ByteArray → Pl × Int × Int
  | [] => (zPl, 240, 7)
  | l :: ls => match wkO (spl l sp1) with
    | none => (zPl, 240, 7)
    | some wn => endP j wn (goP re ls 7 [] [])
def plan (s : ByteArray) : Pl × Int × Int :=
  if (pars 6 1 zJ (hdS s)).2.1 ≠ 0 then (zPl, (pars 6 1 zJ (hdS s)).2.1, (pars 6 1 zJ (hdS s)).2.2)
  else tailP (pars 6 1 zJ (hdS s)).1 (lnS s.data.toList).2.isEmpty ((lnS s.data.toList).1.drop 6)
end Go.Proofs.YtbhblhcgfenobaaGreatDoor
