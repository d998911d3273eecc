/-
  Script: a printer's source.
-/
import Derived.Test.YtbhblhcgfenobaaDoorScG
namespace Go.Proofs.YtbhblhcgfenobaaDoor
open Go.RowKit
set_option linter.unusedSimpArgs false
set_option linter.unusedVariables false
/-- an event's word -/
def evW (e : Et) : ByteArray := e.key ++ ⟨#[64]⟩ ++ itoB e.at' ++ ⟨#[58]⟩ ++ itoB e.v
def srcW (es : List Et) : List ByteArray := ⟨#[115, 111, 117, 114, 99, 101]⟩ :: es.map evW
def I64s (es : List Et) : Prop := ∀ e ∈ es, i64 e.v
theorem evR_facts {e : Et} (h : evR e.key e.at' = true) : e.key.data.size ≤ 16 ∧ i64 e.at' := by
  simp only [evR, keyB, Bool.and_eq_true, decide_eq_true_eq] at h
  exact ⟨h.1.2, by omega, by omega⟩
theorem evW_size {e : Et} (h : evR e.key e.at' = true) (hv : i64 e.v) : (evW e).data.size ≤ 60 := by
  obtain ⟨h1, h2⟩ := evR_facts h
  have a := itoB_size e.at' h2.1 h2.2
  have b := itoB_size e.v hv.1 hv.2
  simp only [evW, ByteArray.data_append, Array.size_append, List.size_toArray, List.length_cons, List.length_nil]
  omega
theorem spW_le (ws : List ByteArray) (h : ∀ w ∈ ws, w.data.size ≤ 60) : (spW ws).length ≤ 61 * ws.length := by
  induction ws with
  | nil => simp [spW]
  | cons w ws ih =>
    have := ih fun v hv => h v (List.mem_cons_of_mem _ hv)
    have := h w (List.mem_cons_self ..)
    simp only [spW, List.flatMap_cons, List.length_append, List.length_cons, Array.length_toList] at *
    omega
theorem srcW_len {es : List Et} (hok : okEs es = true) (hv : I64s es) : (joinW (srcW es)).length ≤ 12206 := by
  simp only [okEs, Bool.and_eq_true, decide_eq_true_eq, List.all_eq_true] at hok
  have := spW_le (es.map evW) (by
    intro w hw
    obtain ⟨e, he, rfl⟩ := List.mem_map.1 hw
    exact evW_size (hok.2 e he) (hv e he))
  rw [List.length_map] at this
  unfold srcW joinW
  rw [List.length_append]
  have : (⟨#[115, 111, 117, 114, 99, 101]⟩ : ByteArray).data.toList.length = 6 := rfl
  omega
set_option maxHeartbeats 4000000 in
theorem p_psource (es : List Et) (hok : okEs es = true) (hv : I64s es) (p : Bool) (l : List UInt8) (hl : l.length ≤ 700000000) : ACT Tryd.prog TabT 13 [.ref 0 0, .sl 3 (es.map Et.av)] (SB 41 p l) (.tup []) (SB 41 true (l ++ lineW (srcW es))) := by
  have hlen := srcW_len hok hv
  have hok2 := hok
  simp only [okEs, Bool.and_eq_true, decide_eq_true_eq, List.all_eq_true] at hok2
  obtain ⟨h200, hall⟩ := hok2
  have hn : (es.map Et.av).length = es.length := List.length_map _
  have hsl : (srcW es).length = es.length + 1 := by simp [srcW]
  have hL := p_line (srcW es) p l (by omega) (by omega)
  unfold SB at *
  cases p
  · unfold bP at *
    refine (act_body tab_ok Tryd.func13 rfl (by kernel_rfl) rfl ?_); intro w0 M μ0 hG; simp only [Tryd.ntmps13, List.length_cons, List.length_nil, Nat.reduceAdd, Nat.reduceSub, numb] at hG ⊢
    repeat' (first | ((first | apply o_do | apply d_do | apply d_yes rfl rfl rfl); first | exact ls_buildO (k := 2) tab_ok rfl rfl rfl rfl rfl rfl rfl | exact lsq) | refine a_seq ?_ | refine a_region ?_ | refine o_nil ?_ | refine a_block ?_ | refine a_ret ?_ | refine a_exit ?_ | refine a_skip ?_ | refine a_draw mixed ?_ | refine d_nil (by kernel_rfl) ?_ | refine o_yes rfl rfl rfl ?_ | refine o_no rfl rfl rfl (by decide) ?_ | refine o_no' rfl rfl rfl ?_ | refine a_condT rfl ?_ | refine a_condF rfl ?_ | refine d_no rfl rfl rfl (by decide) ?_ | refine d_no' rfl rfl rfl ?_ | (refine wq2 (fun hb => ?_) (fun hb => ?_) <;> (simp only [hb]; try simp only [hbs, ne_eq] at hb; try (exfalso; first | omega | exact hb trivial))) | fail)
    refine a_loop (X := {x : Nat × List (List AV) // x.1 ≤ es.length ∧ x.2 = (srcW (es.take x.1)).map stAv}) (fun x => ⟨[(0, .ref 0 0), (4, .own 2 x.1.2.length), (8, .sl 3 (es.map Et.av)), (9, .v (.int .i64 es.length)), (10, .v (.int .i64 x.1.1))], [(0, .box 41 [.v (.pointer none), .own 1 (l.map byAv).length]), (1, .row 5 1 (l.map byAv)), (2, .row 9 1 x.1.2)]⟩) (fun x => es.length - x.1.1) ⟨(0, [[.v (.string ⟨#[115, 111, 117, 114, 99, 101]⟩)]]), Nat.zero_le _, rfl⟩ ?_ ?_
    · refine ⟨by repeat' (first | exact trivial | exact FinA.one (FinB.cell (FinC.same rfl)) | exact FinA.one (FinB.cell FinC.nil) | exact FinA.bound rfl | exact FinA.one (FinB.cell (FinC.own rfl rfl rfl rfl)) | exact FinA.one (FinB.cell (FinC.v (by first | rfl | (simp)))) | exact FinA.one (FinB.cell (FinC.ow rfl (by first | rfl | (simp)))) | exact FinA.one (FinB.agg' rfl rfl) | refine ⟨⟨_, rfl, ?_⟩, ?_⟩), by repeat' (first | exact trivial | refine ⟨⟨_, rfl, by first | rfl | (simp; done) | (simp [renO, *]; done)⟩, by first | rfl | assumption, ?_⟩), rfl⟩
    rintro ⟨⟨q, R⟩, hq, hR⟩
    dsimp only at hq hR ⊢
    have hRl : R.length = q + 1 := by rw [hR]; simp [srcW]; omega
    by_cases hlt : q < es.length
    · have hel : (es.map Et.av)[q]? = some (Et.av es[q]) := by simp [hlt]
      have hsn := take_snoc es q hlt
      obtain ⟨g1, g2⟩ := evR_facts (hall _ (List.getElem_mem hlt))
      have g3 := hv _ (List.getElem_mem hlt)
      have hF1 := p_Format es[q].at' g2.1 g2.2
      have hF2 := p_Format es[q].v g3.1 g3.2
      have s1 := itoB_size es[q].at' g2.1 g2.2
      have s2 := itoB_size es[q].v g3.1 g3.2
      have hR2 : R ++ [[.v (.string (evW es[q]))]] = (srcW (es.take (q + 1))).map stAv := by rw [hR, hsn]; simp only [srcW, List.map_cons, List.map_append, List.map_nil, List.cons_append]; rfl
      unfold evW at hR2
      unfold Et.av at hel
      generalize es[q] = e at *
      obtain ⟨key, tm, val⟩ := e
      dsimp only at *
      generalize itoB tm = z1 at *
      generalize itoB val = z2 at *
      repeat' (first | ((first | apply o_do | apply d_do | apply d_yes rfl rfl rfl); first | exact ls_indexAddr_sl tab_ok rfl rfl rfl rfl hel rfl | focus (apply ls_callT hG hF1 rfl rfl _ rfl rfl; (repeat' (first | exact NilL.nil | refine NilL.cons Nil.same ?_ | refine NilL.cons Nil.nil ?_ | refine NilL.cons (Nil.agg ?_) ?_ | exact Nil1s.nil | refine Nil1s.cons Nil1.same ?_ | refine Nil1s.cons Nil1.nil ?_)); done) | focus (apply ls_callT hG hF2 rfl rfl _ rfl rfl; (repeat' (first | exact NilL.nil | refine NilL.cons Nil.same ?_ | refine NilL.cons Nil.nil ?_ | refine NilL.cons (Nil.agg ?_) ?_ | exact Nil1s.nil | refine Nil1s.cons Nil1.same ?_ | refine Nil1s.cons Nil1.nil ?_)); done) | exact ls_cat rfl rfl (by simp only [ByteArray.size, ByteArray.data_append, Array.size_append, List.size_toArray, List.length_cons, List.length_nil]; omega) rfl | focus (apply ls_append tab_ok rfl rfl ?hn rfl ?hsrc rfl ?hlen rfl rfl; (case hn => rfl); (case hsrc => first | exact SrcIs.sl | exact SrcIs.nil | exact SrcIs.own rfl rfl | fail); (case hlen => (try simp only [List.length_cons, List.length_nil]); omega); first | done | fail) | exact lsq) | refine a_seq ?_ | refine a_region ?_ | refine o_nil ?_ | refine a_block ?_ | refine a_ret ?_ | refine a_exit ?_ | refine a_skip ?_ | refine a_draw mixed ?_ | refine d_nil (by kernel_rfl) ?_ | refine o_yes rfl rfl rfl ?_ | refine o_no rfl rfl rfl (by decide) ?_ | refine o_no' rfl rfl rfl ?_ | refine a_condT rfl ?_ | refine a_condF rfl ?_ | refine d_no rfl rfl rfl (by decide) ?_ | refine d_no' rfl rfl rfl ?_ | (refine wq2 (fun hb => ?_) (fun hb => ?_) <;> (simp only [hb]; try simp only [hbs, ne_eq] at hb; try (exfalso; first | omega | exact hb trivial))) | fail)
      refine ⟨⟨(q + 1, _), by dsimp only; omega, hR2⟩, by dsimp only; omega, ?_⟩
      refine ⟨by repeat' (first | exact trivial | exact FinA.one (FinB.cell (FinC.same rfl)) | exact FinA.one (FinB.cell FinC.nil) | exact FinA.bound rfl | exact FinA.one (FinB.cell (FinC.own rfl rfl rfl rfl)) | exact FinA.one (FinB.cell (FinC.v (by first | rfl | (simp)))) | exact FinA.one (FinB.cell (FinC.ow rfl (by first | rfl | (simp)))) | exact FinA.one (FinB.agg' rfl rfl) | refine ⟨⟨_, rfl, ?_⟩, ?_⟩), by repeat' (first | exact trivial | refine ⟨⟨_, rfl, by first | rfl | (simp; done) | (simp [renO, *]; done)⟩, by first | rfl | assumption, ?_⟩), rfl⟩
    · obtain rfl : q = es.length := by omega
      rw [List.take_length] at hR
      subst hR
      refine a_weak (t := ⟨[(0, .ref 0 0), (4, .sl 1 ((srcW es).map stAv)), (8, .sl 3 (es.map Et.av)), (9, .v (.int .i64 es.length)), (10, .v (.int .i64 es.length))], [(0, .box 41 [.v (.pointer none), .own 1 (l.map byAv).length]), (1, .row 5 1 (l.map byAv))]⟩) ?_ ?_
      · refine ⟨by repeat' (first | exact trivial | exact FinA.one (FinB.cell (FinC.same rfl)) | exact FinA.one (FinB.cell FinC.nil) | exact FinA.bound rfl | exact FinA.one (FinB.cell (FinC.own rfl rfl rfl rfl)) | exact FinA.one (FinB.cell (FinC.v (by first | rfl | (simp)))) | exact FinA.one (FinB.cell (FinC.ow rfl (by first | rfl | (simp)))) | exact FinA.one (FinB.agg' rfl rfl) | refine ⟨⟨_, rfl, ?_⟩, ?_⟩), by repeat' (first | exact trivial | refine ⟨⟨_, rfl, by first | rfl | (simp; done) | (simp [renO, *]; done)⟩, by first | rfl | assumption, ?_⟩), rfl⟩
      repeat' (first | ((first | apply o_do | apply d_do | apply d_yes rfl rfl rfl); first | exact ls_callA [0, 1] 50 hL rfl rfl (by (repeat' (first | exact NilL.nil | refine NilL.cons Nil.same ?_ | refine NilL.cons Nil.nil ?_ | refine NilL.cons (Nil.agg ?_) ?_ | exact Nil1s.nil | refine Nil1s.cons Nil1.same ?_ | refine Nil1s.cons Nil1.nil ?_)); first | done | fail) rfl (by repeat' (first | exact trivial | refine ⟨⟨_, rfl, by first | rfl | (simp [renO, *]; done)⟩, ?_⟩)) (by first | rfl | simp [closO, *]) rfl rfl rfl rfl (by first | rfl | simp [closO, *]) rfl | exact lsq) | refine a_seq ?_ | refine a_region ?_ | refine o_nil ?_ | refine a_block ?_ | refine a_ret ?_ | refine a_exit ?_ | refine a_skip ?_ | refine a_draw mixed ?_ | refine d_nil (by kernel_rfl) ?_ | refine o_yes rfl rfl rfl ?_ | refine o_no rfl rfl rfl (by decide) ?_ | refine o_no' rfl rfl rfl ?_ | refine a_condT rfl ?_ | refine a_condF rfl ?_ | refine d_no rfl rfl rfl (by decide) ?_ | refine d_no' rfl rfl rfl ?_ | (refine wq2 (fun hb => ?_) (fun hb => ?_) <;> (simp only [hb]; try simp only [hbs, ne_eq] at hb; try (exfalso; first | omega | exact hb trivial))) | fail)
      all_goals refine ⟨by first | exact .inr rfl | exact .inl rfl, _, rfl, ?_, by repeat' (first | exact trivial | refine ⟨⟨_, rfl, by first | rfl | (simp [renO, *]; done)⟩, by first | rfl | assumption, ?_⟩)⟩
      all_goals (first | refine FinA.tup ?_ | refine FinA.one ?_); repeat' (first | exact FinBs.nil | exact FinCs.nil | refine FinBs.cons ?_ ?_ | refine FinCs.cons ?_ ?_ | refine FinB.cell (FinC.v ?_) | refine FinB.cell (FinC.own rfl rfl rfl ?_) | exact FinB.cell FinC.nil | refine FinB.cell (FinC.sl ?_) | exact FinB.agg' rfl rfl | exact FinB.cell (FinC.same rfl) | refine FinB.agg ?_ | refine FinC.v ?_ | refine FinC.own rfl rfl rfl ?_ | exact FinC.nil | refine FinC.sl ?_ | exact FinC.same rfl); all_goals try rfl
  · unfold bP at *
    refine (act_body tab_ok Tryd.func13 rfl (by kernel_rfl) rfl ?_); intro w0 M μ0 hG; simp only [Tryd.ntmps13, List.length_cons, List.length_nil, Nat.reduceAdd, Nat.reduceSub, numb] at hG ⊢
    repeat' (first | ((first | apply o_do | apply d_do | apply d_yes rfl rfl rfl); first | exact ls_buildO (k := 2) tab_ok rfl rfl rfl rfl rfl rfl rfl | exact lsq) | refine a_seq ?_ | refine a_region ?_ | refine o_nil ?_ | refine a_block ?_ | refine a_ret ?_ | refine a_exit ?_ | refine a_skip ?_ | refine a_draw mixed ?_ | refine d_nil (by kernel_rfl) ?_ | refine o_yes rfl rfl rfl ?_ | refine o_no rfl rfl rfl (by decide) ?_ | refine o_no' rfl rfl rfl ?_ | refine a_condT rfl ?_ | refine a_condF rfl ?_ | refine d_no rfl rfl rfl (by decide) ?_ | refine d_no' rfl rfl rfl ?_ | (refine wq2 (fun hb => ?_) (fun hb => ?_) <;> (simp only [hb]; try simp only [hbs, ne_eq] at hb; try (exfalso; first | omega | exact hb trivial))) | fail)
    refine a_loop (X := {x : Nat × List (List AV) // x.1 ≤ es.length ∧ x.2 = (srcW (es.take x.1)).map stAv}) (fun x => ⟨[(0, .ref 0 0), (4, .own 2 x.1.2.length), (8, .sl 3 (es.map Et.av)), (9, .v (.int .i64 es.length)), (10, .v (.int .i64 x.1.1))], [(0, .box 41 [.ref 0 0, .own 1 (l.map byAv).length]), (1, .row 5 1 (l.map byAv)), (2, .row 9 1 x.1.2)]⟩) (fun x => es.length - x.1.1) ⟨(0, [[.v (.string ⟨#[115, 111, 117, 114, 99, 101]⟩)]]), Nat.zero_le _, rfl⟩ ?_ ?_
    · refine ⟨by repeat' (first | exact trivial | exact FinA.one (FinB.cell (FinC.same rfl)) | exact FinA.one (FinB.cell FinC.nil) | exact FinA.bound rfl | exact FinA.one (FinB.cell (FinC.own rfl rfl rfl rfl)) | exact FinA.one (FinB.cell (FinC.v (by first | rfl | (simp)))) | exact FinA.one (FinB.cell (FinC.ow rfl (by first | rfl | (simp)))) | exact FinA.one (FinB.agg' rfl rfl) | refine ⟨⟨_, rfl, ?_⟩, ?_⟩), by repeat' (first | exact trivial | refine ⟨⟨_, rfl, by first | rfl | (simp; done) | (simp [renO, *]; done)⟩, by first | rfl | assumption, ?_⟩), rfl⟩
    rintro ⟨⟨q, R⟩, hq, hR⟩
    dsimp only at hq hR ⊢
    have hRl : R.length = q + 1 := by rw [hR]; simp [srcW]; omega
    by_cases hlt : q < es.length
    · have hel : (es.map Et.av)[q]? = some (Et.av es[q]) := by simp [hlt]
      have hsn := take_snoc es q hlt
      obtain ⟨g1, g2⟩ := evR_facts (hall _ (List.getElem_mem hlt))
      have g3 := hv _ (List.getElem_mem hlt)
      have hF1 := p_Format es[q].at' g2.1 g2.2
      have hF2 := p_Format es[q].v g3.1 g3.2
      have s1 := itoB_size es[q].at' g2.1 g2.2
      have s2 := itoB_size es[q].v g3.1 g3.2
      have hR2 : R ++ [[.v (.string (evW es[q]))]] = (srcW (es.take (q + 1))).map stAv := by rw [hR, hsn]; simp only [srcW, List.map_cons, List.map_append, List.map_nil, List.cons_append]; rfl
      unfold evW at hR2
      unfold Et.av at hel
      generalize es[q] = e at *
      obtain ⟨key, tm, val⟩ := e
      dsimp only at *
      generalize itoB tm = z1 at *
      generalize itoB val = z2 at *
      repeat' (first | ((first | apply o_do | apply d_do | apply d_yes rfl rfl rfl); first | exact ls_indexAddr_sl tab_ok rfl rfl rfl rfl hel rfl | focus (apply ls_callT hG hF1 rfl rfl _ rfl rfl; (repeat' (first | exact NilL.nil | refine NilL.cons Nil.same ?_ | refine NilL.cons Nil.nil ?_ | refine NilL.cons (Nil.agg ?_) ?_ | exact Nil1s.nil | refine Nil1s.cons Nil1.same ?_ | refine Nil1s.cons Nil1.nil ?_)); done) | focus (apply ls_callT hG hF2 rfl rfl _ rfl rfl; (repeat' (first | exact NilL.nil | refine NilL.cons Nil.same ?_ | refine NilL.cons Nil.nil ?_ | refine NilL.cons (Nil.agg ?_) ?_ | exact Nil1s.nil | refine Nil1s.cons Nil1.same ?_ | refine Nil1s.cons Nil1.nil ?_)); done) | exact ls_cat rfl rfl (by simp only [ByteArray.size, ByteArray.data_append, Array.size_append, List.size_toArray, List.length_cons, List.length_nil]; omega) rfl | focus (apply ls_append tab_ok rfl rfl ?hn rfl ?hsrc rfl ?hlen rfl rfl; (case hn => rfl); (case hsrc => first | exact SrcIs.sl | exact SrcIs.nil | exact SrcIs.own rfl rfl | fail); (case hlen => (try simp only [List.length_cons, List.length_nil]); omega); first | done | fail) | exact lsq) | refine a_seq ?_ | refine a_region ?_ | refine o_nil ?_ | refine a_block ?_ | refine a_ret ?_ | refine a_exit ?_ | refine a_skip ?_ | refine a_draw mixed ?_ | refine d_nil (by kernel_rfl) ?_ | refine o_yes rfl rfl rfl ?_ | refine o_no rfl rfl rfl (by decide) ?_ | refine o_no' rfl rfl rfl ?_ | refine a_condT rfl ?_ | refine a_condF rfl ?_ | refine d_no rfl rfl rfl (by decide) ?_ | refine d_no' rfl rfl rfl ?_ | (refine wq2 (fun hb => ?_) (fun hb => ?_) <;> (simp only [hb]; try simp only [hbs, ne_eq] at hb; try (exfalso; first | omega | exact hb trivial))) | fail)
      refine ⟨⟨(q + 1, _), by dsimp only; omega, hR2⟩, by dsimp only; omega, ?_⟩
      refine ⟨by repeat' (first | exact trivial | exact FinA.one (FinB.cell (FinC.same rfl)) | exact FinA.one (FinB.cell FinC.nil) | exact FinA.bound rfl | exact FinA.one (FinB.cell (FinC.own rfl rfl rfl rfl)) | exact FinA.one (FinB.cell (FinC.v (by first | rfl | (simp)))) | exact FinA.one (FinB.cell (FinC.ow rfl (by first | rfl | (simp)))) | exact FinA.one (FinB.agg' rfl rfl) | refine ⟨⟨_, rfl, ?_⟩, ?_⟩), by repeat' (first | exact trivial | refine ⟨⟨_, rfl, by first | rfl | (simp; done) | (simp [renO, *]; done)⟩, by first | rfl | assumption, ?_⟩), rfl⟩
    · obtain rfl : q = es.length := by omega
      rw [List.take_length] at hR
      subst hR
      refine a_weak (t := ⟨[(0, .ref 0 0), (4, .sl 1 ((srcW es).map stAv)), (8, .sl 3 (es.map Et.av)), (9, .v (.int .i64 es.length)), (10, .v (.int .i64 es.length))], [(0, .box 41 [.ref 0 0, .own 1 (l.map byAv).length]), (1, .row 5 1 (l.map byAv))]⟩) ?_ ?_
      · refine ⟨by repeat' (first | exact trivial | exact FinA.one (FinB.cell (FinC.same rfl)) | exact FinA.one (FinB.cell FinC.nil) | exact FinA.bound rfl | exact FinA.one (FinB.cell (FinC.own rfl rfl rfl rfl)) | exact FinA.one (FinB.cell (FinC.v (by first | rfl | (simp)))) | exact FinA.one (FinB.cell (FinC.ow rfl (by first | rfl | (simp)))) | exact FinA.one (FinB.agg' rfl rfl) | refine ⟨⟨_, rfl, ?_⟩, ?_⟩), by repeat' (first | exact trivial | refine ⟨⟨_, rfl, by first | rfl | (simp; done) | (simp [renO, *]; done)⟩, by first | rfl | assumption, ?_⟩), rfl⟩
      repeat' (first | ((first | apply o_do | apply d_do | apply d_yes rfl rfl rfl); first | exact ls_callA [0, 1] 50 hL rfl rfl (by (repeat' (first | exact NilL.nil | refine NilL.cons Nil.same ?_ | refine NilL.cons Nil.nil ?_ | refine NilL.cons (Nil.agg ?_) ?_ | exact Nil1s.nil | refine Nil1s.cons Nil1.same ?_ | refine Nil1s.cons Nil1.nil ?_)); first | done | fail) rfl (by repeat' (first | exact trivial | refine ⟨⟨_, rfl, by first | rfl | (simp [renO, *]; done)⟩, ?_⟩)) (by first | rfl | simp [closO, *]) rfl rfl rfl rfl (by first | rfl | simp [closO, *]) rfl | exact lsq) | refine a_seq ?_ | refine a_region ?_ | refine o_nil ?_ | refine a_block ?_ | refine a_ret ?_ | refine a_exit ?_ | refine a_skip ?_ | refine a_draw mixed ?_ | refine d_nil (by kernel_rfl) ?_ | refine o_yes rfl rfl rfl ?_ | refine o_no rfl rfl rfl (by decide) ?_ | refine o_no' rfl rfl rfl ?_ | refine a_condT rfl ?_ | refine a_condF rfl ?_ | refine d_no rfl rfl rfl (by decide) ?_ | refine d_no' rfl rfl rfl ?_ | (refine wq2 (fun hb => ?_) (fun hb => ?_) <;> (simp only [hb]; try simp only [hbs, ne_eq] at hb; try (exfalso; first | omega | exact hb trivial))) | fail)
      all_goals refine ⟨by first | exact .inr rfl | exact .inl rfl, _, rfl, ?_, by repeat' (first | exact trivial | refine ⟨⟨_, rfl, by first | rfl | (simp [renO, *]; done)⟩, by first | rfl | assumption, ?_⟩)⟩
      all_goals (first | refine FinA.tup ?_ | refine FinA.one ?_); repeat' (first | exact FinBs.nil | exact FinCs.nil | refine FinBs.cons ?_ ?_ | refine FinCs.cons ?_ ?_ | refine FinB.cell (FinC.v ?_) | refine FinB.cell (FinC.own rfl rfl rfl ?_) | exact FinB.cell FinC.nil | refine FinB.cell (FinC.sl ?_) | exact FinB.agg' rfl rfl | exact FinB.cell (FinC.same rfl) | refine FinB.agg ?_ | refine FinC.v ?_ | refine FinC.own rfl rfl rfl ?_ | exact FinC.nil | refine FinC.sl ?_ | exact FinC.same rfl); all_goals try rfl
end Go.Proofs.YtbhblhcgfenobaaDoor
