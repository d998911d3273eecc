/-
  'clepsydralaw22.WorkerShares' returns true for every input.
-/
import Derived.Test.YtilgagmfcdfjaaaGreatM4
import Derived.Test.YtilgagmfcdfjaaaGreatM9
import Derived.Test.YtilgagmfcdfjaaaGreatM17
import Derived.Test.YtilgagmfcdfjaaaGreatM20
import Derived.Test.YtilgagmfcdfjaaaGreatM21
import Derived.Test.YtilgagmfcdfjaaaGreatM22
set_option linter.unusedSimpArgs false
set_option linter.unusedVariables false
set_option maxHeartbeats 20000000
namespace Go.Proofs.YtilgagmfcdfjaaaGreat
open Go.RowKit
theorem AC.res {P : Program} {f : FuncId} {args : List AV} {σ σ' : Store} {r r' : AV} (h : AC P f args σ r σ') (hr : ∀ σ μ w A y, rep σ μ w A r y → rep σ μ w A r' y) : AC P f args σ r' σ' :=
 ⟨h.ok, fun w M μ vs h1 h2 => (h.out w M μ vs h1 h2).mono fun e w' ⟨y, μ', e1, e2, e3, e4⟩ => ⟨y, μ', e1, e2, hr _ _ _ _ _ e3, e4⟩⟩
theorem share_one (bb sd : Int) (g s d k fu li de id : Int) (F : List (List Et)) (ts : List Int) (hts : ts.length ≤ 200) (h4 : F.length ≤ 4) (hl : ∀ es ∈ F, es.length ≤ 12) (hfe : ∀ es ∈ F, ∀ e ∈ es, -9223372036854775808 ≤ e.v ∧ e.v ≤ 9223372036854775807) (hr : (runN g s d k fu li de id F).2 = 0) :
  ∃ (Z : List (List AV)) (out : List Rs), AC Tryz.prog 19 [.agg (Jb.av ⟨g, s, d, k, fu, li, de, id⟩), .clo (.func 23) [] [.ref 0 0, .ref 1 0]] (shS bb sd) (.sl 3 Z) (shS bb sd) ∧ F.all (good ⟨g, s, d, k, fu, li, de, id⟩) = true ∧
   AC Tryz.prog 18 [.agg (Jb.av ⟨g, s, d, k, fu, li, de, id⟩), .sl 3 Z, .sl 1 (F.map (rowA ⟨g, s, d, k, fu, li, de, id⟩)), .sl 1 (ts.map toAv), .clo (.func 24) [] [.ref 2 0, .ref 3 0]] (shP bb sd g s d k fu li de id) (.tup [.sl 5 (out.map Rs.av), .v (.bool true)]) (shP bb sd g s d k fu li de id) ∧
   TG ⟨g, s, d, k, fu, li, de, id⟩ (zeroI g.toNat) (allK li fu de F) ∧ out.Perm (outD ⟨g, s, d, k, fu, li, de, id⟩ ((zeroI g.toNat).filter (ownB bb sd)) (allVals s d ((allK li fu de F).filter (mineE g (ownB bb sd)))) 1099511627776) := by
 have hc0 : checkN g s d k fu li de id F = 0 := Classical.byContradiction fun h => by
  unfold runN at hr
  rw [if_neg h] at hr
  exact h hr
 have hrow : (rowV k (allVals s d (allK li fu de F))).length ≤ 2000 := Classical.byContradiction fun h => by
  unfold runN outR at hr
  rw [if_pos hc0, if_neg h] at hr
  exact absurd hr (show ¬ (3 : Int) = 0 by decide)
 obtain ⟨hF0, hgood⟩ := (good_in h4).1 hc0
 obtain ⟨_, _, _, hes⟩ := check_parts hc0
 have hj : jobOK g s d k fu li de id = true := by
  cases hj : jobOK g s d k fu li de id
  ·unfold checkN at hc0; rw [if_pos hj] at hc0; exact absurd hc0 (by decide)
  ·rfl
 have hjp := hj
 unfold jobOK at hjp
 simp only [Bool.and_eq_true, decide_eq_true_eq] at hjp
 have hn1 : 1 ≤ F.length := by
  cases F with
  | nil => exact absurd rfl hF0
  | cons a F => simp
 obtain ⟨G, hG⟩ : ∃ G : Nat, g = (G : Int) := ⟨g.toNat, by omega⟩
 have hgn : g.toNat = G := by omega
 have hz := (o_zeroC ⟨g, s, d, k, fu, li, de, id⟩ G bb sd hG (by omega)).res (r' := .sl 3 ((((zeroI G).filter (ownB bb sd)).map zGp).map Gp.av)) fun σ μ w A y hy => by
  have := zAv_sl (μ := μ) (w := w) (A := A) ((zeroI G).filter (ownB bb sd)) y (by simpa only [rep] using hy)
  simpa only [rep] using this
 have hJG := zeroI_jg (j := ⟨g, s, d, k, fu, li, de, id⟩) hj hG (by omega)
 have hTG := tg0 hJG hG (by dsimp only; omega) h4 hes hrow
 have hJp : JG ⟨g, s, d, k, fu, li, de, id⟩ ((zeroI G).filter (ownB bb sd)) := (hTG.part (own := ownB bb sd)).jg
 obtain ⟨hW0, hNew⟩ := start hJp hn1 (show F.length ≤ 8 by omega)
 have hN := w_New g s d k fu li de id F.length (((zeroI G).filter (ownB bb sd)).map zGp) (by rw [List.length_map]; have := List.length_filter_le (ownB bb sd) (zeroI G); rw [zeroI_len] at this; omega) (by
  intro x hx
  obtain ⟨no, _, rfl⟩ := List.mem_map.1 hx
  simp [zGp])
 rw [hj, zGp_gp ⟨g, s, d, k, fu, li, de, id⟩, hNew] at hN
 rw [zGp_gp ⟨g, s, d, k, fu, li, de, id⟩] at hz
 have hall : ∀ es ∈ F, ∀ e ∈ es, evR e.key e.at' = true ∧ ev64 e := fun es he e hee => ⟨(hes es he).2 e hee, hfe es he e hee⟩
 have hde : 0 ≤ de := by omega
 have hil : (F.map (rowI ⟨g, s, d, k, fu, li, de, id⟩)).length = F.length := List.length_map _
 have hev := rows_evs (j := ⟨g, s, d, k, fu, li, de, id⟩) hde hall
 have hRA : RW ⟨g, s, d, k, fu, li, de, id⟩ (zeroI G) (F.map (rowI ⟨g, s, d, k, fu, li, de, id⟩)) := by
  refine ⟨fun r hr => ?_, by omega, by omega, by rw [hev]; exact hTG⟩
  obtain ⟨es, he, rfl⟩ := List.mem_map.1 hr
  exact (rowI_ok hde (hall es he)).1
 have hRW := hRA.part (own := ownB bb sd)
 have hend : ∀ r ∈ (F.map (rowI ⟨g, s, d, k, fu, li, de, id⟩)).map (List.filter (mineI g (ownB bb sd))), mkI r = 1099511627776 := by
  intro r hr
  obtain ⟨x, hx, rfl⟩ := List.mem_map.1 hr
  obtain ⟨es, he, rfl⟩ := List.mem_map.1 hx
  rw [mk_filter]
  exact (rowI_ok hde (hall es he)).2.1
 have hrl : ∀ r ∈ F.map (rowI ⟨g, s, d, k, fu, li, de, id⟩), r.length ≤ 25 := by
  intro r hr
  obtain ⟨es, he, rfl⟩ := List.mem_map.1 hr
  have := rowI_len (j := ⟨g, s, d, k, fu, li, de, id⟩) (es := es)
  have := hl es he
  omega
 have hit : ∀ r ∈ F.map (rowI ⟨g, s, d, k, fu, li, de, id⟩), ∀ x ∈ r, x.kind = 1 → x.key.size ≤ 1000000 := by
  intro r hr x hx hk
  obtain ⟨a, t, rfl⟩ := List.append_of_mem hx
  rcases hRA.ok _ hr a x t rfl with ⟨e, rfl, he, _⟩ | ⟨m, rfl, _⟩
  ·exact itR_key (itR_ev he) hk
  ·exact absurd hk (show ¬ (2 : Int) = 1 by decide)
 have hL0 : leftN (F.map (rowI ⟨g, s, d, k, fu, li, de, id⟩)) (List.replicate (F.map (rowI ⟨g, s, d, k, fu, li, de, id⟩)).length 0) ≤ 8000 := by
  have := left_le (F.map (rowI ⟨g, s, d, k, fu, li, de, id⟩)) (F.map (rowI ⟨g, s, d, k, fu, li, de, id⟩)).length fun r hr => by have := hrl r hr; omega
  omega
 rw [← hil] at hW0 hN
 have hE := ord_end (ts := ts) hRW hend hW0 _ rfl (Nat.le_refl _)
 rw [flat_filter hRA.ok, hev] at hE
 obtain ⟨e1, e2, e3⟩ := hE
 have hplay := fun Z hNew' => o_playC bb sd ⟨g, s, d, k, fu, li, de, id⟩ (mineI g (ownB bb sd)) rfl (by dsimp only; omega) (by dsimp only; omega) 1 Z (F.map (rowI ⟨g, s, d, k, fu, li, de, id⟩)) ts _ _ _ (ord_play hRW) (by omega) (by omega) hts (fun r hr => by have := hrl r hr; omega) hit hL0 hNew' rfl e1 _ rfl
 unfold WkN.av at hN
 have hp := hplay _ hN
 rw [e2, decide_eq_true rfl, show (F.map (rowI ⟨g, s, d, k, fu, li, de, id⟩)).map riAv = F.map (rowA ⟨g, s, d, k, fu, li, de, id⟩) by rw [List.map_map]; rfl] at hp
 rw [hgn]
 exact ⟨_, _, hz, hgood, hp, hTG, e3⟩
set_option maxRecDepth 20000 in
theorem o_shares (j : Jb) (ls : List (List Et)) (ts : List Int) (bb : Int) (hx : Small ls) (hls : ∀ es ∈ ls, ∀ e ∈ es, -9223372036854775808 ≤ e.v ∧ e.v ≤ 9223372036854775807) (hli : j.li ≤ 9223372036854775807) (hts : ts.length ≤ 9223372036854775807) :
  PC Tryz.prog 5 [.agg j.av, .sl 1 (ls.map inAv), .sl 1 (ts.map toAv), .v (.int .u32 bb)] (.v (.bool true)) := by
 have hfew := o_few ls hx
 have hsm := few4_small hx
 have h4 := few4_len (ls := ls)
 have hes := few4_es (ls := ls)
 have hfe := few4_ev hls
 have hal := w_alive
 have hrows := o_rows j (few4 ls) hsm h4 hfe hli
 have hrun := m_Run j.g j.s j.d j.k j.fu j.li j.de j.id (few4 ls) hsm hfe hli
 have hchk := m_rCheck j.g j.s j.d j.k j.fu j.li j.de j.id (few4 ls) hsm
 have hTl : (ts.map toAv).length = ts.length := List.length_map _
 generalize few4 ls = F at *
 have hFl : (F.map inAv).length = F.length := List.length_map _
 obtain ⟨g, s, d, k, fu, li, de, id⟩ := j
 dsimp only at hrun hli hchk
 by_cases hr0 : (runN g s d k fu li de id F).2 = 0
 ·obtain ⟨us, hus, hcase⟩ : ∃ us : List Int, us.length ≤ 200 ∧ ((200 < ts.length ∧ (ts.map toAv).take 200 = us.map toAv) ∨ (¬ 200 < ts.length ∧ us = ts)) := by
   by_cases h : 200 < ts.length
   ·exact ⟨ts.take 200, by rw [List.length_take]; omega, .inl ⟨h, by rw [List.map_take]⟩⟩
   ·exact ⟨ts, by omega, .inr ⟨h, rfl⟩⟩
  obtain ⟨Z0, out0, hz0, hgood, hp0, hTG, hP0⟩ := share_one bb 0 g s d k fu li de id F us hus h4 hes hfe hr0
  obtain ⟨Z1, out1, hz1, _, hp1, _, hP1⟩ := share_one bb 1 g s d k fu li de id F us hus h4 hes hfe hr0
  have hc0 : checkN g s d k fu li de id F = 0 := Classical.byContradiction fun h => by
   unfold runN at hr0
   rw [if_neg h] at hr0
   exact h hr0
  have hrow : (rowV k (allVals s d (allK li fu de F))).length ≤ 2000 := Classical.byContradiction fun h => by
   unfold runN outR at hr0
   rw [if_pos hc0, if_neg h] at hr0
   exact absurd hr0 (show ¬ (3 : Int) = 0 by decide)
  have hwant : (runN g s d k fu li de id F).1 = resultsL k (rowV k (allVals s d (allK li fu de F))) := by
   unfold runN outR
   rw [if_pos hc0, if_pos hrow]
  have hown : ownB bb 1 = fun n => !ownB bb 0 n := funext fun n => own_not bb n
  rw [hown] at hP1
  have hboth := outD_both (j := ⟨g, s, d, k, fu, li, de, id⟩) (allK li fu de F) 1099511627776 hP0 hP1
  have hO := out_all hTG rfl (check_parts hc0).1 hboth hfe
  have hol : (out0 ++ out1).length ≤ 2000 := by rw [hO.1.length_eq]; exact hO.2.2
  have hlike := l_like (out0 ++ out1) _ hO.1 (by omega) fun r hr => hO.2.1 r (hO.1.mem_iff.1 hr)
  rw [← hwant, List.map_append] at hlike
  rw [List.length_append] at hol
  rw [hc0] at hchk
  unfold rowsR at hrows
  rw [if_pos hgood] at hrows
  clear hP0 hP1 hboth hO hwant hTG
  generalize F.map (rowA ⟨g, s, d, k, fu, li, de, id⟩) = RW' at *
  generalize runN g s d k fu li de id F = r at *
  obtain ⟨rs, e⟩ := r
  dsimp only at hr0 hlike
  subst hr0
  unfold RR.av at hrun
  dsimp only at hrun
  generalize rs.map Rs.av = Rs' at *
  have e0 : (out0.map Rs.av).length = out0.length := List.length_map _
  have e1 : (out1.map Rs.av).length = out1.length := List.length_map _
  generalize out0.map Rs.av = O0 at *
  generalize out1.map Rs.av = O1 at *
  unfold Jb.av shS shP at *
  dsimp only at *
  rcases hcase with ⟨h1, h2⟩ | ⟨h1, rfl⟩
  all_goals
   refine PC.mk (ac_body tab_ok Tryz.func5 rfl (by kernel_rfl) rfl ?_); intro w0 M μ0; simp only [Tryz.ntmps5, List.length_cons, List.length_nil, Nat.reduceAdd, Nat.reduceSub, numb]
   repeat' (first | ((first | apply o_do | apply d_do | apply d_yes rfl rfl rfl); first | exact lsc (hfew) | exact lsc (hrun) | exact lsc (hrows) | exact ls_slice_to (n := 200) tab_ok rfl rfl rfl rfl (by rw [hTl]; omega) rfl | exact lsc (hal) | exact lsq) | refine a_seq ?_ | refine a_region ?_ | refine o_nil ?_ | refine a_block ?_ | refine a_ret ?_ | refine a_exit ?_ | refine a_skip ?_ | refine a_draw mixed ?_ | refine d_nil (by kernel_rfl) ?_ | refine o_yes rfl rfl rfl ?_ | refine o_no rfl rfl rfl (by decide) ?_ | refine o_no' rfl rfl rfl ?_ | refine a_condT rfl ?_ | refine a_condF rfl ?_ | refine d_no rfl rfl rfl (by decide) ?_ | refine d_no' rfl rfl rfl ?_ | (refine wq2 (fun hb => ?_) (fun hb => ?_) <;> (simp only [hb]; try simp only [hbs, ne_eq] at hb; try (exfalso; first | omega | exact hb trivial))) | fail)
   try simp only [h2]
   try repeat' (first | ((first | apply o_do | apply d_do | apply d_yes rfl rfl rfl); exact lsq) | refine a_seq ?_ | refine a_region ?_ | refine o_nil ?_ | refine a_block ?_ | refine a_ret ?_ | refine a_exit ?_ | refine a_skip ?_ | refine a_draw mixed ?_ | refine d_nil (by kernel_rfl) ?_ | refine o_yes rfl rfl rfl ?_ | refine o_no rfl rfl rfl (by decide) ?_ | refine o_no' rfl rfl rfl ?_ | refine a_condT rfl ?_ | refine a_condF rfl ?_ | refine d_no rfl rfl rfl (by decide) ?_ | refine d_no' rfl rfl rfl ?_ | (refine wq2 (fun hb => ?_) (fun hb => ?_) <;> (simp only [hb]; try simp only [hbs, ne_eq] at hb; try (exfalso; first | omega | exact hb trivial))) | fail)
   refine a_adopt 13 2 61 5 rfl rfl ?_
   refine a_loop (X := {q : Nat // q ≤ 2}) (fun x => ⟨[(1, .sl 1 (F.map inAv)), (2, .sl 1 (us.map toAv)), (4, .ref 0 0), (7, .ref 1 0), (9, .sl 5 Rs'), (11, .sl 1 RW'), (13, .own 2 (if x.1 = 0 then [] else if x.1 = 1 then O0 else O0 ++ O1).length), (44, .v (.int .u32 x.1))], [(0, .box 23 [.v (.int .i64 g), .v (.int .i64 s), .v (.int .i64 d), .v (.int .i64 k), .v (.int .i64 fu), .v (.int .i64 li), .v (.int .i64 de), .v (.int .i64 id)]), (1, .box 75 [.v (.int .u32 bb)]), (2, .row 61 5 (if x.1 = 0 then [] else if x.1 = 1 then O0 else O0 ++ O1))]⟩) (fun x => 2 - x.1) ⟨0, Nat.zero_le _⟩ ?_ ?_
   ·exact wkS
   rintro ⟨q, hq⟩
   dsimp only
   rcases (show q = 0 ∨ q = 1 ∨ q = 2 by omega) with rfl | rfl | rfl
   ·rw [if_pos rfl]
    repeat' (first | ((first | apply o_do | apply d_do | apply d_yes rfl rfl rfl); first | exact lca [1, 3] 50 hz0 | exact lca [1, 3, 4, 0] 60 hp0 | focus (apply ls_append tab_ok rfl rfl ?hn rfl ?hsrc rfl ?hlen rfl rfl; (case hn => rfl); (case hsrc => first | exact SrcIs.sl | exact SrcIs.nil | exact SrcIs.own rfl rfl | fail); (case hlen => (try simp only [List.length_cons, List.length_nil]); (omega)); first | done | fail) | exact lsq) | refine a_seq ?_ | refine a_region ?_ | refine o_nil ?_ | refine a_block ?_ | refine a_ret ?_ | refine a_exit ?_ | refine a_skip ?_ | refine a_draw mixed ?_ | refine d_nil (by kernel_rfl) ?_ | refine o_yes rfl rfl rfl ?_ | refine o_no rfl rfl rfl (by decide) ?_ | refine o_no' rfl rfl rfl ?_ | refine a_condT rfl ?_ | refine a_condF rfl ?_ | refine d_no rfl rfl rfl (by decide) ?_ | refine d_no' rfl rfl rfl ?_ | (refine wq2 (fun hb => ?_) (fun hb => ?_) <;> (simp only [hb]; try simp only [hbs, ne_eq] at hb; try (exfalso; first | omega | exact hb trivial))) | fail)
    refine ⟨⟨1, by omega⟩, by dsimp only; omega, ?_⟩
    dsimp only
    rw [if_neg (show ¬ (1 = 0) by decide), if_pos rfl]
    exact wkS
   ·rw [if_neg (show ¬ (1 = 0) by decide), if_pos rfl]
    repeat' (first | ((first | apply o_do | apply d_do | apply d_yes rfl rfl rfl); first | exact lca [1, 3] 50 hz1 | exact lca [1, 3, 4, 0] 60 hp1 | focus (apply ls_append tab_ok rfl rfl ?hn rfl ?hsrc rfl ?hlen rfl rfl; (case hn => rfl); (case hsrc => first | exact SrcIs.sl | exact SrcIs.nil | exact SrcIs.own rfl rfl | fail); (case hlen => (try simp only [List.length_cons, List.length_nil]); (omega)); first | done | fail) | exact lsq) | refine a_seq ?_ | refine a_region ?_ | refine o_nil ?_ | refine a_block ?_ | refine a_ret ?_ | refine a_exit ?_ | refine a_skip ?_ | refine a_draw mixed ?_ | refine d_nil (by kernel_rfl) ?_ | refine o_yes rfl rfl rfl ?_ | refine o_no rfl rfl rfl (by decide) ?_ | refine o_no' rfl rfl rfl ?_ | refine a_condT rfl ?_ | refine a_condF rfl ?_ | refine d_no rfl rfl rfl (by decide) ?_ | refine d_no' rfl rfl rfl ?_ | (refine wq2 (fun hb => ?_) (fun hb => ?_) <;> (simp only [hb]; try simp only [hbs, ne_eq] at hb; try (exfalso; first | omega | exact hb trivial))) | fail)
    refine ⟨⟨2, by omega⟩, by dsimp only; omega, ?_⟩
    dsimp only
    rw [if_neg (show ¬ (2 = 0) by decide), if_neg (show ¬ (2 = 1) by decide)]
    exact wkS
   ·rw [if_neg (show ¬ (2 = 0) by decide), if_neg (show ¬ (2 = 1) by decide)]
    repeat' (first | ((first | apply o_do | apply d_do | apply d_yes rfl rfl rfl); first | exact lsc (hal) | exact lcs (hlike) | exact lsc (hchk) | exact lsq) | refine a_seq ?_ | refine a_region ?_ | refine o_nil ?_ | refine a_block ?_ | refine a_ret ?_ | refine a_exit ?_ | refine a_skip ?_ | refine a_draw mixed ?_ | refine d_nil (by kernel_rfl) ?_ | refine o_yes rfl rfl rfl ?_ | refine o_no rfl rfl rfl (by decide) ?_ | refine o_no' rfl rfl rfl ?_ | refine a_condT rfl ?_ | refine a_condF rfl ?_ | refine d_no rfl rfl rfl (by decide) ?_ | refine d_no' rfl rfl rfl ?_ | (refine wq2 (fun hb => ?_) (fun hb => ?_) <;> (simp only [hb]; try simp only [hbs, ne_eq] at hb; try (exfalso; first | omega | exact hb trivial))) | fail)
    all_goals refine rq rfl ?_
    all_goals exact fnq
 ·have hcase : (rowsR ⟨g, s, d, k, fu, li, de, id⟩ F = .tup [.sl 1 [], .v (.bool false)]) ∨ ∃ X, rowsR ⟨g, s, d, k, fu, li, de, id⟩ F = .tup [.sl 1 X, .v (.bool true)] := by
   unfold rowsR
   split
   ·exact .inr ⟨_, rfl⟩
   ·exact .inl rfl
  generalize runN g s d k fu li de id F = r at *
  obtain ⟨rs, e⟩ := r
  dsimp only at hr0
  unfold RR.av at hrun
  dsimp only at hrun
  generalize rs.map Rs.av = Rs' at *
  unfold Jb.av at *
  dsimp only at *
  rcases hcase with hc | ⟨X, hc⟩
  all_goals
   rw [hc] at hrows
   refine PC.mk (ac_body tab_ok Tryz.func5 rfl (by kernel_rfl) rfl ?_); intro w0 M μ0; simp only [Tryz.ntmps5, List.length_cons, List.length_nil, Nat.reduceAdd, Nat.reduceSub, numb]
   repeat' (first | ((first | apply o_do | apply d_do | apply d_yes rfl rfl rfl); first | exact lsc (hfew) | exact lsc (hrun) | exact lsc (hrows) | exact lsc (hal) | exact lsq) | refine a_seq ?_ | refine a_region ?_ | refine o_nil ?_ | refine a_block ?_ | refine a_ret ?_ | refine a_exit ?_ | refine a_skip ?_ | refine a_draw mixed ?_ | refine d_nil (by kernel_rfl) ?_ | refine o_yes rfl rfl rfl ?_ | refine o_no rfl rfl rfl (by decide) ?_ | refine o_no' rfl rfl rfl ?_ | refine a_condT rfl ?_ | refine a_condF rfl ?_ | refine d_no rfl rfl rfl (by decide) ?_ | refine d_no' rfl rfl rfl ?_ | (refine wq2 (fun hb => ?_) (fun hb => ?_) <;> (simp only [hb]; try simp only [hbs, ne_eq] at hb; try (exfalso; first | omega | exact hb trivial))) | fail)
   all_goals refine rq rfl ?_
   all_goals exact fnq
end Go.Proofs.YtilgagmfcdfjaaaGreat
namespace Go.Proofs.YtilgagmfcdfjaaaGreat
open Go.RowKit Go.WideShapes Go.ChangeShapes Go.ChangeAt
set_option maxRecDepth 100000
theorem workerShares_contract (H : Type) (enc : TypeId × Value → H) (W : World) (base : Nat) (args : Array Value) (ds gs : List (DataW H)) (before : List MemPlace)
  (hval0 : ∀ (j : Nat) t v, Tryz.f5.params[j]? = some t → args[j]? = some v → Value.okWide Tryz.prog W .any base t v)
  (hW : DataW.Whole enc Tryz.prog Tryz.f5.params.toList Rows.workerSharesSpec.vars false W args.toList ds gs before) :
  Calls Tryz.prog 5 args W fun e W' => ∃ v, e = .returned v ∧ Rows.workerSharesSpec.post enc Tryz.prog Tryz.f5 false true false false W args v W' := by
 have hval := hval0
 have hW' := hW
 obtain ⟨p, q, hA0, hV, rfl, hfz, hnd⟩ := hW
 have hA : DataW.TrodAll enc Tryz.prog W 0 (fun _ => true) true Tryz.f5.params.toList args.toList ds p := hA0
 rw [Tryz.params5] at hA hval
 obtain ⟨v0, vs0, d0, ds0, p0, q0, hargs, rfl, rfl, h0, r0⟩ := trodAll_cons hA
 obtain ⟨v1, vs1, d1, ds1, p1, q1, rfl, rfl, rfl, h1, r1⟩ := trodAll_cons r0
 obtain ⟨v2, vs2, d2, ds2, p2, q2, rfl, rfl, rfl, h2, r2⟩ := trodAll_cons r1
 obtain ⟨v3, vs3, d3, ds3, p3, q3, rfl, rfl, rfl, h3, r3⟩ := trodAll_cons r2
 obtain ⟨rfl, rfl, rfl⟩ := trodAll_nil r3
 obtain rfl : args = #[v0, v1, v2, v3] := by cases args; simp_all
 obtain ⟨rfl, rfl⟩ := trodVars_none hV
 clear hA0 hval0
 obtain ⟨cs0, rfl, _, _, g0⟩ := open_struct_arg Tryz.underlying23 (hval 0 23 v0 rfl rfl) h0
 obtain ⟨g, s, d, k, fu, li, de, id, rfl, hj⟩ := rd_Job g0
 obtain ⟨ls, hsm, hrg, hins⟩ := open_ins_arg (hval 1 24 v1 rfl rfl) h1
 obtain ⟨ts, hts, htr⟩ := open_ints1_arg (hval 2 25 v2 rfl rfl) h2
 obtain ⟨bb, rfl, rfl, rfl, _⟩ := open_int Tryz.underlying75 (hval 3 75 v3 rfl rfl) h3
 have hbb : rep [] (fun _ => undef) W (fun _ => False) (.v (.int .u32 bb)) (.int .u32 bb) := by simp [rep, scal]
 refine ((o_shares ⟨g, s, d, k, fu, li, de, id⟩ ls ts bb hsm hrg (by dsimp only; omega) hts).law (vs := [_, _, _, _]) ⟨_, _, rfl, rep_Job, _, _, rfl, hins, _, _, rfl, htr, _, _, rfl, hbb, rfl⟩).mono fun e W' ⟨he, hb⟩ => ?_
 subst he
 exact ⟨_, rfl, post_law @A_laidOut (rd_of (by kernel_rfl : (Tryz.f5.params.toList.all fun t => Tryz.prog.readableRec t && decide (t < Tryz.prog.types.size)) = true)) rfl rfl Tryz.underlying4 hW' rfl hb⟩

theorem workerShares_own : ownKnob Tryz.prog.godebug = none := by kernel_rfl
set_option maxRecDepth 100000 in
theorem workerShares_lifted (os : Os) (started : os.Started) (H : Type) (enc : TypeId × Value → H) :
  ReturnsInHanded {} Tryz.checked os 5 .any (Rows.workerSharesSpec.pre6 enc Tryz.prog Tryz.f5 Rows.workerSharesRow.domain false) (Rows.workerSharesSpec.post enc Tryz.prog Tryz.f5 false true false false) := by
 refine returnsInHanded_of_change (C := Tryz.checked) workerShares_own started (by kernel_rfl) Tryz.func5
  (ChangeSpec.witness6 (enc := enc) (C := Tryz.checked) false ⟨#[], #[.agg #[.int .i64 0, .int .i64 0, .int .i64 0, .int .i64 0, .int .i64 0, .int .i64 0, .int .i64 0, .int .i64 0], .slice none 0 0, .slice none 0 0, .int .u32 0], []⟩ 8 (by kernel_rfl) (by kernel_rfl) (by kernel_rfl) (by kernel_rfl)) ?_
 intro W base args ds gs before hval hW _ _
 exact workerShares_contract H enc W base args ds gs before hval hW
theorem workerShares_proved : Rows.WorkerSharesSaid :=
 OpenClaim.holds_of_wide 5 Tryz.f5 rfl rfl rfl rfl rfl rfl rfl ⟨rfl, rfl, rfl, rfl, rfl⟩ rfl rfl rfl rfl rfl (by kernel_rfl) Tryz.func5 (by kernel_rfl)
  (of_decide_eq_true (by kernel_rfl)) (by unfold Func.isWrapper; first | (rw [if_pos (by decide +kernel)]; kernel_rfl) | (rw [if_neg (by decide +kernel)]; exact ⟨rfl, rfl⟩))
  (fun os started H enc _ => workerShares_lifted os started H enc)
end Go.Proofs.YtilgagmfcdfjaaaGreat
