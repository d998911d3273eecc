/-
  'clepsydralaw22.WorkerBars' returns true for every input.
-/
import Derived.Test.YtilgagmfcdfjaaaGreatM4
import Derived.Test.YtilgagmfcdfjaaaGreatM9
import Derived.Test.YtilgagmfcdfjaaaGreatM15
import Derived.Test.YtilgagmfcdfjaaaGreatM17
import Derived.Test.YtilgagmfcdfjaaaGreatM20
import Derived.Test.YtilgagmfcdfjaaaGreatM21
import Derived.Test.YtilgagmfcdfjaaaGreatM22
set_option linter.unusedSimpArgs false
set_option linter.unusedVariables false
set_option maxHeartbeats 20000000
namespace Go.Proofs.YtilgagmfcdfjaaaGreat
open Go.RowKit
def posB (pl : List Int) (k len : Nat) : Nat := (max (if k < pl.length then ((pl.getD k 0).tmod ((len : Int) + 1) + (len : Int) + 1).tmod ((len : Int) + 1) else 0) ((len : Int) - 8)).toNat
theorem pos_rng (pl : List Int) (k len : Nat) : max (if k < pl.length then ((pl.getD k 0).tmod ((len : Int) + 1) + (len : Int) + 1).tmod ((len : Int) + 1) else 0) ((len : Int) - 8) = ((posB pl k len : Nat) : Int) ∧ posB pl k len ≤ len ∧ len ≤ posB pl k len + 8 := by
 unfold posB
 generalize pl.getD k 0 = a
 have h1 : -((len : Int) + 1) < a.tmod ((len : Int) + 1) := by
  have h3 := Int.tmod_lt_of_pos (-a) (show (0 : Int) < (len : Int) + 1 by omega)
  rw [Int.neg_tmod] at h3
  omega
 have h2 := Int.tmod_lt_of_pos (a.tmod ((len : Int) + 1) + (len : Int) + 1) (show (0 : Int) < (len : Int) + 1 by omega)
 have h4 := Int.tmod_nonneg ((len : Int) + 1) (show 0 ≤ a.tmod ((len : Int) + 1) + (len : Int) + 1 by omega)
 split <;> omega
def rbs (j : Jb) (pl : List Int) (F : List (List Et)) : List Rb := F.mapIdx fun k es => ⟨rowI j es, posB pl k (rowI j es).length⟩
theorem rbs_len {j : Jb} {pl : List Int} {F : List (List Et)} : (rbs j pl F).length = F.length := by unfold rbs; rw [List.length_mapIdx]
theorem rbs_r {j : Jb} {pl : List Int} {F : List (List Et)} : (rbs j pl F).map Rb.r = F.map (rowI j) := by
 apply List.ext_getElem?
 intro i
 unfold rbs
 rw [List.getElem?_map, List.getElem?_mapIdx, List.getElem?_map]
 cases F[i]? <;> rfl
theorem rbs_ok {j : Jb} {pl : List Int} {F : List (List Et)} : ∀ x ∈ rbs j pl F, x.b ≤ x.r.length ∧ x.r.length ≤ x.b + 8 := by
 intro x hx
 unfold rbs at hx
 obtain ⟨i, hi, rfl⟩ := List.mem_mapIdx.1 hx
 exact (pos_rng pl i _).2
theorem bars_all (fz fc : FuncId) (cz : ∀ no : Int, PC Tryz.prog fz [.v (.int .i64 no)] (.v (.bool true))) (cc : ∀ x : It, PC Tryz.prog fc [.agg x.av] (.v (.bool true))) (g s d k fu li de id : Int) (F : List (List Et)) (pl ts : List Int) (hts : ts.length ≤ 200) (h4 : F.length ≤ 4) (hl : ∀ es ∈ F, es.length ≤ 12) (hfe : ∀ es ∈ F, ∀ e ∈ es, -9223372036854775808 ≤ e.v ∧ e.v ≤ 9223372036854775807) (hr : (runN g s d k fu li de id F).2 = 0) :
  ∃ (Z : List (List AV)) (out : List Rs), PC Tryz.prog 19 [.agg (Jb.av ⟨g, s, d, k, fu, li, de, id⟩), .clo (.func fz) [] []] (.sl 3 Z) ∧ F.all (good ⟨g, s, d, k, fu, li, de, id⟩) = true ∧
   PC Tryz.prog 18 [.agg (Jb.av ⟨g, s, d, k, fu, li, de, id⟩), .sl 3 Z, .sl 1 ((rbs ⟨g, s, d, k, fu, li, de, id⟩ pl F).map fun x => riAv x.row), .sl 1 (ts.map toAv), .clo (.func fc) [] []] (.tup [.sl 5 (out.map Rs.av), .v (.bool true)]) ∧
   out.Perm (runN g s d k fu li de id F).1 ∧ (∀ r ∈ out, r.right) ∧ out.length ≤ 2000 := by
 have hc0 : checkN g s d k fu li de id F = 0 := Classical.byContradiction fun h => by
  unfold runN at hr
  rw [if_neg h] at hr
  exact h hr
 have hrow : (rowV k (allVals s d (allK li fu de F))).length ≤ 2000 := Classical.byContradiction fun h => by
  unfold runN outR at hr
  rw [if_pos hc0, if_neg h] at hr
  exact absurd hr (show ¬ (3 : Int) = 0 by decide)
 have hwant : (runN g s d k fu li de id F).1 = resultsL k (rowV k (allVals s d (allK li fu de F))) := by
  unfold runN outR
  rw [if_pos hc0, if_pos hrow]
 obtain ⟨hF0, hgood⟩ := (good_in h4).1 hc0
 obtain ⟨_, _, _, hes⟩ := check_parts hc0
 have hj : jobOK g s d k fu li de id = true := by
  cases hj : jobOK g s d k fu li de id
  ·unfold checkN at hc0; rw [if_pos hj] at hc0; exact absurd hc0 (by decide)
  ·rfl
 have hjp := hj
 unfold jobOK at hjp
 simp only [Bool.and_eq_true, decide_eq_true_eq] at hjp
 have hn1 : 1 ≤ F.length := by
  cases F with
  | nil => exact absurd rfl hF0
  | cons a F => simp
 obtain ⟨G, hG⟩ : ∃ G : Nat, g = (G : Int) := ⟨g.toNat, by omega⟩
 have hz := o_zero ⟨g, s, d, k, fu, li, de, id⟩ G fz cz hG (by omega)
 have hJG := zeroI_jg (j := ⟨g, s, d, k, fu, li, de, id⟩) hj hG (by omega)
 have hTG := tg0 hJG hG (by dsimp only; omega) h4 hes hrow
 obtain ⟨hW0, hNew⟩ := start hJG hn1 (show F.length ≤ 8 by omega)
 have hN := w_New g s d k fu li de id F.length ((zeroI G).map zGp) (by rw [List.length_map, zeroI_len]; omega) (by
  intro x hx
  obtain ⟨no, _, rfl⟩ := List.mem_map.1 hx
  simp [zGp])
 rw [hj, zGp_gp ⟨g, s, d, k, fu, li, de, id⟩, hNew] at hN
 rw [zGp_gp ⟨g, s, d, k, fu, li, de, id⟩] at hz
 have hall : ∀ es ∈ F, ∀ e ∈ es, evR e.key e.at' = true ∧ ev64 e := fun es he e hee => ⟨(hes es he).2 e hee, hfe es he e hee⟩
 have hde : 0 ≤ de := by omega
 have hil : (F.map (rowI ⟨g, s, d, k, fu, li, de, id⟩)).length = F.length := List.length_map _
 have hev := rows_evs (j := ⟨g, s, d, k, fu, li, de, id⟩) hde hall
 have hrr := rbs_r (j := ⟨g, s, d, k, fu, li, de, id⟩) (pl := pl) (F := F)
 have hrbl : (rbs ⟨g, s, d, k, fu, li, de, id⟩ pl F).length = F.length := rbs_len
 have hRW : RW ⟨g, s, d, k, fu, li, de, id⟩ (zeroI G) ((rbs ⟨g, s, d, k, fu, li, de, id⟩ pl F).map Rb.r) := by
  rw [hrr]
  refine ⟨fun r hr => ?_, by omega, by omega, by rw [hev]; exact hTG⟩
  obtain ⟨es, he, rfl⟩ := List.mem_map.1 hr
  exact (rowI_ok hde (hall es he)).1
 have hend : ∀ r ∈ (rbs ⟨g, s, d, k, fu, li, de, id⟩ pl F).map Rb.r, mkI r = 1099511627776 := by
  rw [hrr]
  intro r hr
  obtain ⟨es, he, rfl⟩ := List.mem_map.1 hr
  exact (rowI_ok hde (hall es he)).2.1
 have hB : RbOk (rbs ⟨g, s, d, k, fu, li, de, id⟩ pl F) := ⟨rbs_ok, by omega⟩
 have hrl : ∀ r ∈ (rbs ⟨g, s, d, k, fu, li, de, id⟩ pl F).map Rb.row, r.length ≤ 26 := by
  intro r hr
  obtain ⟨X, hX, rfl⟩ := List.mem_map.1 hr
  have h1 : X.r ∈ F.map (rowI ⟨g, s, d, k, fu, li, de, id⟩) := by rw [← hrr]; exact List.mem_map.2 ⟨X, hX, rfl⟩
  obtain ⟨es, he, h2⟩ := List.mem_map.1 h1
  have := rowI_len (j := ⟨g, s, d, k, fu, li, de, id⟩) (es := es)
  have := hl es he
  rw [Rb.len (hB.b X hX).1, ← h2]
  omega
 have hbil : ((rbs ⟨g, s, d, k, fu, li, de, id⟩ pl F).map Rb.row).length = F.length := by rw [List.length_map, hrbl]
 have hL0 : leftN ((rbs ⟨g, s, d, k, fu, li, de, id⟩ pl F).map Rb.row) (List.replicate (rbs ⟨g, s, d, k, fu, li, de, id⟩ pl F).length 0) ≤ 8000 := by
  have := left_le ((rbs ⟨g, s, d, k, fu, li, de, id⟩ pl F).map Rb.row) (rbs ⟨g, s, d, k, fu, li, de, id⟩ pl F).length fun r hr => by have := hrl r hr; omega
  omega
 rw [← hrbl] at hW0
 rw [← hbil] at hN
 have hE := bar_end (ts := ts) hRW hB hend hW0 _ rfl (Nat.le_refl _)
 rw [hrr, hev] at hE
 obtain ⟨e1, e2, e3⟩ := hE
 have hO := out_all hTG rfl hjp.2.2.2.1 e3 (fun es he e hee => hfe es he e hee)
 have hl3 : ((rbs ⟨g, s, d, k, fu, li, de, id⟩ pl F).map Rb.row).length = (rbs ⟨g, s, d, k, fu, li, de, id⟩ pl F).length := List.length_map _
 rw [← hl3] at e1 e2 e3 hL0 hO
 have hplay := fun Z hNew' => o_play fc (fun _ => true) cc ⟨g, s, d, k, fu, li, de, id⟩ (by dsimp only; omega) 100 Z ((rbs ⟨g, s, d, k, fu, li, de, id⟩ pl F).map Rb.row) ts _ _ _ (bar_play hRW hB) (by omega) (by omega) hts (fun r hr => by have := hrl r hr; omega) hL0 hNew' rfl e1 _ rfl
 unfold WkN.av at hN
 have hp := hplay _ hN
 rw [e2, decide_eq_true rfl, show ((rbs ⟨g, s, d, k, fu, li, de, id⟩ pl F).map Rb.row).map riAv = (rbs ⟨g, s, d, k, fu, li, de, id⟩ pl F).map fun x => riAv x.row by rw [List.map_map]; rfl] at hp
 refine ⟨_, _, hz, hgood, hp, ?_, ?_, ?_⟩
 ·rw [hwant]; exact hO.1
 ·intro r hr; exact hO.2.1 r (hO.1.mem_iff.1 hr)
 ·rw [hO.1.length_eq]; exact hO.2.2
theorem c_bar1 (no : Int) : PC Tryz.prog 27 [.v (.int .i64 no)] (.v (.bool true)) := by
 refine PC.mk (ac_body tab_ok Tryz.func27 rfl (by kernel_rfl) rfl ?_); intro w0 M μ0; simp only [Tryz.ntmps27, List.length_cons, List.length_nil, Nat.reduceAdd, Nat.reduceSub, numb]
 repeat' (first | ((first | apply o_do | apply d_do | apply d_yes rfl rfl rfl); exact lsq) | refine a_seq ?_ | refine a_region ?_ | refine o_nil ?_ | refine a_block ?_ | refine a_ret ?_ | refine a_exit ?_ | refine a_skip ?_ | refine a_draw mixed ?_ | refine d_nil (by kernel_rfl) ?_ | refine o_yes rfl rfl rfl ?_ | refine o_no rfl rfl rfl (by decide) ?_ | refine o_no' rfl rfl rfl ?_ | refine a_condT rfl ?_ | refine a_condF rfl ?_ | refine d_no rfl rfl rfl (by decide) ?_ | refine d_no' rfl rfl rfl ?_ | (refine wq2 (fun hb => ?_) (fun hb => ?_) <;> (simp only [hb]; try simp only [hbs, ne_eq] at hb; try (exfalso; first | omega | exact hb trivial))) | fail)
 all_goals refine rq rfl ?_
 all_goals exact fnq
theorem c_bar2 (x : It) : PC Tryz.prog 28 [.agg x.av] (.v (.bool true)) := by
 unfold It.av
 refine PC.mk (ac_body tab_ok Tryz.func28 rfl (by kernel_rfl) rfl ?_); intro w0 M μ0; simp only [Tryz.ntmps28, List.length_cons, List.length_nil, Nat.reduceAdd, Nat.reduceSub, numb]
 repeat' (first | ((first | apply o_do | apply d_do | apply d_yes rfl rfl rfl); exact lsq) | refine a_seq ?_ | refine a_region ?_ | refine o_nil ?_ | refine a_block ?_ | refine a_ret ?_ | refine a_exit ?_ | refine a_skip ?_ | refine a_draw mixed ?_ | refine d_nil (by kernel_rfl) ?_ | refine o_yes rfl rfl rfl ?_ | refine o_no rfl rfl rfl (by decide) ?_ | refine o_no' rfl rfl rfl ?_ | refine a_condT rfl ?_ | refine a_condF rfl ?_ | refine d_no rfl rfl rfl (by decide) ?_ | refine d_no' rfl rfl rfl ?_ | (refine wq2 (fun hb => ?_) (fun hb => ?_) <;> (simp only [hb]; try simp only [hbs, ne_eq] at hb; try (exfalso; first | omega | exact hb trivial))) | fail)
 all_goals refine rq rfl ?_
 all_goals exact fnq
def inB (j : Jb) (pl : List Int) (F : List (List Et)) (q : Nat) : List (List AV) := F.mapIdx fun k es => if k < q then riAv (Rb.row ⟨rowI j es, posB pl k (rowI j es).length⟩) else rowA j es
theorem inB_len {j : Jb} {pl : List Int} {F : List (List Et)} {q : Nat} : (inB j pl F q).length = F.length := by unfold inB; rw [List.length_mapIdx]
theorem inB_zero {j : Jb} {pl : List Int} {F : List (List Et)} : inB j pl F 0 = F.map (rowA j) := by
 apply List.ext_getElem?
 intro i
 unfold inB
 rw [List.getElem?_mapIdx, List.getElem?_map]
 cases F[i]? <;> simp
theorem inB_all {j : Jb} {pl : List Int} {F : List (List Et)} : inB j pl F F.length = (rbs j pl F).map fun x => riAv x.row := by
 apply List.ext_getElem?
 intro i
 unfold inB rbs
 rw [List.getElem?_mapIdx, List.getElem?_map, List.getElem?_mapIdx]
 cases h : F[i]? with
 | none => rfl
 | some es =>
  have := (List.getElem?_eq_some_iff.1 h).1
  simp [this]
theorem inB_get {j : Jb} {pl : List Int} {F : List (List Et)} {q : Nat} (hq : q < F.length) : (inB j pl F q)[q]? = some (rowA j F[q]) := by
 unfold inB
 rw [List.getElem?_mapIdx, List.getElem?_eq_getElem hq, Option.map_some, if_neg (Nat.lt_irrefl _)]
theorem inB_set {j : Jb} {pl : List Int} {F : List (List Et)} {q : Nat} (hq : q < F.length) : inB j pl F (q + 1) = (inB j pl F q).set q (riAv (Rb.row ⟨rowI j F[q], posB pl q (rowI j F[q]).length⟩)) := by
 apply List.ext_getElem?
 intro i
 rw [List.getElem?_set, inB_len]
 unfold inB
 rw [List.getElem?_mapIdx, List.getElem?_mapIdx]
 by_cases c : q = i
 ·subst c
  rw [if_pos rfl, if_pos hq, List.getElem?_eq_getElem hq, Option.map_some, if_pos (by omega)]
 ·rw [if_neg c]
  congr 1
  funext es
  by_cases c2 : i < q
  ·rw [if_pos (by omega), if_pos c2]
  ·rw [if_neg (by omega), if_neg c2]
set_option maxRecDepth 20000 in
theorem o_bars (j : Jb) (ls : List (List Et)) (pl ts : List Int) (hx : Small ls) (hls : ∀ es ∈ ls, ∀ e ∈ es, -9223372036854775808 ≤ e.v ∧ e.v ≤ 9223372036854775807) (hli : j.li ≤ 9223372036854775807) (hpl : pl.length ≤ 9223372036854775807) (hts : ts.length ≤ 9223372036854775807) :
  PC Tryz.prog 6 [.agg j.av, .sl 1 (ls.map inAv), .sl 1 (pl.map toAv), .sl 1 (ts.map toAv)] (.v (.bool true)) := by
 have hfew := o_few ls hx
 have hsm := few4_small hx
 have h4 := few4_len (ls := ls)
 have hes := few4_es (ls := ls)
 have hfe := few4_ev hls
 have hal := w_alive
 have hrows := o_rows j (few4 ls) hsm h4 hfe hli
 have hrowsA := o_rowsA j (few4 ls) hsm h4 hfe hli
 have hrun := m_Run j.g j.s j.d j.k j.fu j.li j.de j.id (few4 ls) hsm hfe hli
 have hTl : (ts.map toAv).length = ts.length := List.length_map _
 have hPl : (pl.map toAv).length = pl.length := List.length_map _
 generalize few4 ls = F at *
 have hFl : (F.map inAv).length = F.length := List.length_map _
 obtain ⟨g, s, d, k, fu, li, de, id⟩ := j
 dsimp only at hrun hli
 by_cases hr0 : (runN g s d k fu li de id F).2 = 0
 ·obtain ⟨us, hus, hcase⟩ : ∃ us : List Int, us.length ≤ 200 ∧ ((200 < ts.length ∧ (ts.map toAv).take 200 = us.map toAv) ∨ (¬ 200 < ts.length ∧ us = ts)) := by
   by_cases h : 200 < ts.length
   ·exact ⟨ts.take 200, by rw [List.length_take]; omega, .inl ⟨h, by rw [List.map_take]⟩⟩
   ·exact ⟨ts, by omega, .inr ⟨h, rfl⟩⟩
  obtain ⟨Z, out, hz, hgood, hp, hperm, hright, holen⟩ := bars_all _ _ c_bar1 c_bar2 g s d k fu li de id F pl us hus h4 hes hfe hr0
  have hlike := l_like out _ hperm (by omega) hright
  have hrA := hrowsA hgood
  clear hrows hrowsA
  have hne : F.length ≠ 0 := by
   intro h
   have hc0 : checkN g s d k fu li de id F = 0 := Classical.byContradiction fun h => by
    unfold runN at hr0
    rw [if_neg h] at hr0
    exact h hr0
   exact ((good_in h4).1 hc0).1 (List.eq_nil_of_length_eq_zero h)
  have hRl : ∀ q (h : q < F.length), (rowI ⟨g, s, d, k, fu, li, de, id⟩ F[q]).length ≤ 1000 := fun q h => by
   have := rowI_len (j := ⟨g, s, d, k, fu, li, de, id⟩) (es := F[q])
   have := hes _ (List.getElem_mem h)
   omega
  rw [← inB_zero (pl := pl)] at hrA
  rw [← inB_all] at hp
  have hiL : ∀ q, (inB ⟨g, s, d, k, fu, li, de, id⟩ pl F q).length = F.length := fun q => inB_len
  have hiS := fun q => inB_set (j := ⟨g, s, d, k, fu, li, de, id⟩) (pl := pl) (F := F) (q := q)
  have hiG := fun q => inB_get (j := ⟨g, s, d, k, fu, li, de, id⟩) (pl := pl) (F := F) (q := q)
  generalize inB ⟨g, s, d, k, fu, li, de, id⟩ pl F = IB at *
  generalize runN g s d k fu li de id F = r at *
  obtain ⟨rs, e⟩ := r
  dsimp only at hr0 hlike
  subst hr0
  unfold RR.av at hrun
  dsimp only at hrun
  generalize rs.map Rs.av = Rs' at *
  generalize out.map Rs.av = Os at *
  unfold Jb.av at *
  dsimp only at *
  have hI0 := hiL 0
  refine PC.mk (ac_body tab_ok Tryz.func6 rfl (by kernel_rfl) rfl ?_); intro w0 M μ0; simp only [Tryz.ntmps6, List.length_cons, List.length_nil, Nat.reduceAdd, Nat.reduceSub, numb]
  repeat' (first | ((first | apply o_do | apply d_do | apply d_yes rfl rfl rfl); first | exact lsc (hfew) | exact lsc (hrun) | exact lca [] 50 hrA | exact lsc (hal) | exact lsq) | refine a_seq ?_ | refine a_region ?_ | refine o_nil ?_ | refine a_block ?_ | refine a_ret ?_ | refine a_exit ?_ | refine a_skip ?_ | refine a_draw mixed ?_ | refine d_nil (by kernel_rfl) ?_ | refine o_yes rfl rfl rfl ?_ | refine o_no rfl rfl rfl (by decide) ?_ | refine o_no' rfl rfl rfl ?_ | refine a_condT rfl ?_ | refine a_condF rfl ?_ | refine d_no rfl rfl rfl (by decide) ?_ | refine d_no' rfl rfl rfl ?_ | (refine wq2 (fun hb => ?_) (fun hb => ?_) <;> (simp only [hb]; try simp only [hbs, ne_eq] at hb; try (exfalso; first | omega | exact hb trivial))) | fail)
  refine a_loop (X := {q : Nat // q ≤ F.length}) (fun x => ⟨[(2, .sl 1 (pl.map toAv)), (3, .sl 1 (ts.map toAv)), (4, .ref 0 0), (9, .sl 5 Rs'), (11, .own 51 (IB x.1).length), (43, .own 51 (IB x.1).length), (44, .v (.int .i64 F.length)), (45, .v (.int .i64 x.1))], [(0, .box 23 [.v (.int .i64 g), .v (.int .i64 s), .v (.int .i64 d), .v (.int .i64 k), .v (.int .i64 fu), .v (.int .i64 li), .v (.int .i64 de), .v (.int .i64 id)]), (51, .row 53 1 (IB x.1))]⟩) (fun x => F.length - x.1) ⟨0, Nat.zero_le _⟩ ?_ ?_
  ·refine ⟨by repeat' (first | exact trivial | exact FinA.one (FinB.cell (FinC.same rfl)) | exact FinA.one (FinB.cell FinC.nil) | exact FinA.bound rfl | exact FinA.one (FinB.cell (FinC.own rfl rfl rfl rfl)) | exact FinA.one (FinB.cell (FinC.v (by first | rfl | ((simp [hI0]))))) | exact FinA.one (FinB.cell (FinC.ow rfl (by first | rfl | ((simp [hI0]))))) | exact FinA.one (FinB.agg' rfl rfl) | refine ⟨⟨_, rfl, ?_⟩, ?_⟩), by repeat' (first | exact trivial | refine ⟨⟨_, rfl, by first | rfl | ((simp [hI0]); done) | (simp [renO, *]; done)⟩, by first | rfl | assumption, ?_⟩), rfl⟩
  ·rintro ⟨q, hq⟩
   dsimp only
   have hqL := hiL q
   by_cases hlt : q < F.length
   ·have hel := hiG q hlt
    have hset := hiS q hlt
    have hlen : (IB q).length = (IB (q + 1)).length := by rw [hiL, hiL]
    have hqx : q < (IB q).length := by omega
    have hRq := hRl q hlt
    obtain ⟨hpos, hbl, _⟩ := pos_rng pl q (rowI ⟨g, s, d, k, fu, li, de, id⟩ F[q]).length
    have hel : (IB q)[q]? = some [.sl 11 ((rowI ⟨g, s, d, k, fu, li, de, id⟩ F[q]).map It.av)] := hel
    generalize posB pl q (rowI ⟨g, s, d, k, fu, li, de, id⟩ F[q]).length = b at *
    have hset : IB (q + 1) = (IB q).set q [.sl 11 ([] ++ ((rowI ⟨g, s, d, k, fu, li, de, id⟩ F[q]).map It.av).take b ++ [It.av (barItem 1)] ++ ((rowI ⟨g, s, d, k, fu, li, de, id⟩ F[q]).map It.av).drop b)] := by
     rw [hset]
     unfold riAv Rb.row
     simp [List.map_take, List.map_drop]
    have hRL : ((rowI ⟨g, s, d, k, fu, li, de, id⟩ F[q]).map It.av).length = (rowI ⟨g, s, d, k, fu, li, de, id⟩ F[q]).length := List.length_map _
    rw [← hRL] at hpos hbl hRq
    generalize (rowI ⟨g, s, d, k, fu, li, de, id⟩ F[q]).map It.av = R at *
    have htk : (R.take b).length = b := by rw [List.length_take]; omega
    have hdk : (R.drop b).length = R.length - b := List.length_drop
    have hF1000 : F.length ≤ 4 := h4
    by_cases c : q < pl.length
    ·rw [if_pos c] at hpos
     have hep : (pl.map toAv)[q]? = some (toAv (pl.getD q 0)) := by rw [List.getElem?_map, List.getD_eq_getElem?_getD, List.getElem?_eq_getElem c]; rfl
     generalize pl.getD q 0 = a at *
     have b1 : -((R.length : Int) + 1) < a.tmod ((R.length : Int) + 1) ∧ a.tmod ((R.length : Int) + 1) < (R.length : Int) + 1 := by
      have h3 := Int.tmod_lt_of_pos (-a) (show (0 : Int) < (R.length : Int) + 1 by omega)
      rw [Int.neg_tmod] at h3
      have h5 := Int.tmod_lt_of_pos a (show (0 : Int) < (R.length : Int) + 1 by omega)
      omega
     obtain ⟨r1, hr1⟩ : ∃ r, a.tmod ((R.length : Int) + 1) = r := ⟨_, rfl⟩
     rw [hr1] at hpos b1
     have b2 := Int.tmod_lt_of_pos (r1 + (R.length : Int) + 1) (show (0 : Int) < (R.length : Int) + 1 by omega)
     have b3 := Int.tmod_nonneg ((R.length : Int) + 1) (show 0 ≤ r1 + (R.length : Int) + 1 by omega)
     obtain ⟨r2, hr2⟩ : ∃ r, (r1 + (R.length : Int) + 1).tmod ((R.length : Int) + 1) = r := ⟨_, rfl⟩
     rw [hr2] at hpos b2 b3
     repeat' (first | refine a_draw2 15 mixed (by kernel_rfl) ?_ | ((first | apply o_do | apply d_do | apply d_yes rfl rfl rfl); first | exact ls_indexAddr_own tab_ok rfl rfl rfl rfl rfl rfl hqx rfl | exact ls_load_eref tab_ok rfl rfl rfl hel rfl rfl rfl rfl | exact ls_indexAddr_sl tab_ok rfl rfl rfl rfl hep rfl | exact ls_rem64 hr1 rfl rfl (by omega) (by omega) rfl | exact ls_rem64 hr2 rfl rfl (by omega) (by omega) rfl | exact ls_max rfl rfl rfl | exact ls_slice_to (n := b) tab_ok rfl rfl rfl hpos hbl rfl | exact ls_slice_from (n := b) tab_ok rfl rfl rfl hpos hbl rfl | focus (apply ls_append tab_ok rfl rfl ?hn rfl ?hsrc rfl ?hlen rfl rfl; (case hn => rfl); (case hsrc => first | exact SrcIs.sl | exact SrcIs.nil | exact SrcIs.own rfl rfl | fail); (case hlen => (try simp only [List.length_cons, List.length_nil]); ((try simp only [List.length_append, List.length_nil, List.length_cons, htk, hdk]); omega)); first | done | fail) | exact lsq) | refine a_seq ?_ | refine a_region ?_ | refine o_nil ?_ | refine a_block ?_ | refine a_ret ?_ | refine a_exit ?_ | refine a_skip ?_ | refine a_draw mixed ?_ | refine d_nil (by kernel_rfl) ?_ | refine o_yes rfl rfl rfl ?_ | refine o_no rfl rfl rfl (by decide) ?_ | refine o_no' rfl rfl rfl ?_ | refine a_condT rfl ?_ | refine a_condF rfl ?_ | refine d_no rfl rfl rfl (by decide) ?_ | refine d_no' rfl rfl rfl ?_ | (refine wq2 (fun hb => ?_) (fun hb => ?_) <;> (simp only [hb]; try simp only [hbs, ne_eq] at hb; try (exfalso; first | omega | exact hb trivial))) | fail)
     refine ⟨⟨[(2, .sl 1 (pl.map toAv)), (3, .sl 1 (ts.map toAv)), (4, .ref 0 0), (9, .sl 5 Rs'), (11, .own 51 (IB q).length), (43, .own 51 (IB q).length), (44, .v (.int .i64 F.length)), (45, .v (.int .i64 q)), (88, .sl 11 ([] ++ R.take b ++ [It.av (barItem 1)] ++ R.drop b)), (89, .eref 51 (IB q).length q 0)], [(0, .box 23 [.v (.int .i64 g), .v (.int .i64 s), .v (.int .i64 d), .v (.int .i64 k), .v (.int .i64 fu), .v (.int .i64 li), .v (.int .i64 de), .v (.int .i64 id)]), (51, .row 53 1 (IB q))]⟩, ?_, ?_⟩
     ·exact wkS
     repeat' (first | ((first | apply o_do | apply d_do | apply d_yes rfl rfl rfl); first | exact ls_store_eref (cs' := [.sl 11 ([] ++ R.take b ++ [It.av (barItem 1)] ++ R.drop b)]) tab_ok rfl rfl rfl rfl hel rfl rfl (pureS _ _) rfl rfl rfl rfl | exact lsq) | refine a_seq ?_ | refine a_region ?_ | refine o_nil ?_ | refine a_block ?_ | refine a_ret ?_ | refine a_exit ?_ | refine a_skip ?_ | refine a_draw mixed ?_ | refine d_nil (by kernel_rfl) ?_ | refine o_yes rfl rfl rfl ?_ | refine o_no rfl rfl rfl (by decide) ?_ | refine o_no' rfl rfl rfl ?_ | refine a_condT rfl ?_ | refine a_condF rfl ?_ | refine d_no rfl rfl rfl (by decide) ?_ | refine d_no' rfl rfl rfl ?_ | (refine wq2 (fun hb => ?_) (fun hb => ?_) <;> (simp only [hb]; try simp only [hbs, ne_eq] at hb; try (exfalso; first | omega | exact hb trivial))) | fail)
     refine ⟨⟨q + 1, by omega⟩, by dsimp only; omega, ?_⟩
     refine ⟨by repeat' (first | exact trivial | exact FinA.one (FinB.cell (FinC.same rfl)) | exact FinA.one (FinB.cell FinC.nil) | exact FinA.bound rfl | exact FinA.one (FinB.cell (FinC.own rfl rfl rfl rfl)) | exact FinA.one (FinB.cell (FinC.v (by first | rfl | ((first | (simp only [hset]; done) | exact hlen | (rw [hlen]; rfl) | simp))))) | exact FinA.one (FinB.cell (FinC.ow rfl (by first | rfl | ((first | (simp only [hset]; done) | exact hlen | (rw [hlen]; rfl) | simp))))) | exact FinA.one (FinB.agg' rfl rfl) | refine ⟨⟨_, rfl, ?_⟩, ?_⟩), by repeat' (first | exact trivial | refine ⟨⟨_, rfl, by first | rfl | ((first | (simp only [hset]; done) | exact hlen | (rw [hlen]; rfl) | simp); done) | (simp [renO, *]; done)⟩, by first | rfl | assumption, ?_⟩), rfl⟩
    ·rw [if_neg c] at hpos
     repeat' (first | refine a_draw2 15 mixed (by kernel_rfl) ?_ | ((first | apply o_do | apply d_do | apply d_yes rfl rfl rfl); first | exact ls_indexAddr_own tab_ok rfl rfl rfl rfl rfl rfl hqx rfl | exact ls_load_eref tab_ok rfl rfl rfl hel rfl rfl rfl rfl | exact ls_indexAddr_sl tab_ok rfl rfl rfl rfl hep rfl | exact ls_rem64 hr1 rfl rfl (by omega) (by omega) rfl | exact ls_rem64 hr2 rfl rfl (by omega) (by omega) rfl | exact ls_max rfl rfl rfl | exact ls_slice_to (n := b) tab_ok rfl rfl rfl hpos hbl rfl | exact ls_slice_from (n := b) tab_ok rfl rfl rfl hpos hbl rfl | focus (apply ls_append tab_ok rfl rfl ?hn rfl ?hsrc rfl ?hlen rfl rfl; (case hn => rfl); (case hsrc => first | exact SrcIs.sl | exact SrcIs.nil | exact SrcIs.own rfl rfl | fail); (case hlen => (try simp only [List.length_cons, List.length_nil]); ((try simp only [List.length_append, List.length_nil, List.length_cons, htk, hdk]); omega)); first | done | fail) | exact lsq) | refine a_seq ?_ | refine a_region ?_ | refine o_nil ?_ | refine a_block ?_ | refine a_ret ?_ | refine a_exit ?_ | refine a_skip ?_ | refine a_draw mixed ?_ | refine d_nil (by kernel_rfl) ?_ | refine o_yes rfl rfl rfl ?_ | refine o_no rfl rfl rfl (by decide) ?_ | refine o_no' rfl rfl rfl ?_ | refine a_condT rfl ?_ | refine a_condF rfl ?_ | refine d_no rfl rfl rfl (by decide) ?_ | refine d_no' rfl rfl rfl ?_ | (refine wq2 (fun hb => ?_) (fun hb => ?_) <;> (simp only [hb]; try simp only [hbs, ne_eq] at hb; try (exfalso; first | omega | exact hb trivial))) | fail)
     refine ⟨⟨[(2, .sl 1 (pl.map toAv)), (3, .sl 1 (ts.map toAv)), (4, .ref 0 0), (9, .sl 5 Rs'), (11, .own 51 (IB q).length), (43, .own 51 (IB q).length), (44, .v (.int .i64 F.length)), (45, .v (.int .i64 q)), (88, .sl 11 ([] ++ R.take b ++ [It.av (barItem 1)] ++ R.drop b)), (89, .eref 51 (IB q).length q 0)], [(0, .box 23 [.v (.int .i64 g), .v (.int .i64 s), .v (.int .i64 d), .v (.int .i64 k), .v (.int .i64 fu), .v (.int .i64 li), .v (.int .i64 de), .v (.int .i64 id)]), (51, .row 53 1 (IB q))]⟩, ?_, ?_⟩
     ·exact wkS
     repeat' (first | ((first | apply o_do | apply d_do | apply d_yes rfl rfl rfl); first | exact ls_store_eref (cs' := [.sl 11 ([] ++ R.take b ++ [It.av (barItem 1)] ++ R.drop b)]) tab_ok rfl rfl rfl rfl hel rfl rfl (pureS _ _) rfl rfl rfl rfl | exact lsq) | refine a_seq ?_ | refine a_region ?_ | refine o_nil ?_ | refine a_block ?_ | refine a_ret ?_ | refine a_exit ?_ | refine a_skip ?_ | refine a_draw mixed ?_ | refine d_nil (by kernel_rfl) ?_ | refine o_yes rfl rfl rfl ?_ | refine o_no rfl rfl rfl (by decide) ?_ | refine o_no' rfl rfl rfl ?_ | refine a_condT rfl ?_ | refine a_condF rfl ?_ | refine d_no rfl rfl rfl (by decide) ?_ | refine d_no' rfl rfl rfl ?_ | (refine wq2 (fun hb => ?_) (fun hb => ?_) <;> (simp only [hb]; try simp only [hbs, ne_eq] at hb; try (exfalso; first | omega | exact hb trivial))) | fail)
     refine ⟨⟨q + 1, by omega⟩, by dsimp only; omega, ?_⟩
     refine ⟨by repeat' (first | exact trivial | exact FinA.one (FinB.cell (FinC.same rfl)) | exact FinA.one (FinB.cell FinC.nil) | exact FinA.bound rfl | exact FinA.one (FinB.cell (FinC.own rfl rfl rfl rfl)) | exact FinA.one (FinB.cell (FinC.v (by first | rfl | ((first | (simp only [hset]; done) | exact hlen | (rw [hlen]; rfl) | simp))))) | exact FinA.one (FinB.cell (FinC.ow rfl (by first | rfl | ((first | (simp only [hset]; done) | exact hlen | (rw [hlen]; rfl) | simp))))) | exact FinA.one (FinB.agg' rfl rfl) | refine ⟨⟨_, rfl, ?_⟩, ?_⟩), by repeat' (first | exact trivial | refine ⟨⟨_, rfl, by first | rfl | ((first | (simp only [hset]; done) | exact hlen | (rw [hlen]; rfl) | simp); done) | (simp [renO, *]; done)⟩, by first | rfl | assumption, ?_⟩), rfl⟩
   ·obtain rfl : q = F.length := by omega
    refine a_weak (t := ⟨[(3, .sl 1 (ts.map toAv)), (4, .ref 0 0), (9, .sl 5 Rs'), (11, .sl 1 (IB F.length)), (43, .sl 1 (IB F.length)), (44, .v (.int .i64 F.length)), (45, .v (.int .i64 F.length))], [(0, .box 23 [.v (.int .i64 g), .v (.int .i64 s), .v (.int .i64 d), .v (.int .i64 k), .v (.int .i64 fu), .v (.int .i64 li), .v (.int .i64 de), .v (.int .i64 id)])]⟩) ?_ ?_
    ·exact wkS
    rcases hcase with ⟨h1, h2⟩ | ⟨h1, rfl⟩
    all_goals
     repeat' (first | ((first | apply o_do | apply d_do | apply d_yes rfl rfl rfl); first | exact ls_slice_to (n := 200) tab_ok rfl rfl rfl rfl (by rw [hTl]; omega) rfl | exact lsq) | refine a_seq ?_ | refine a_region ?_ | refine o_nil ?_ | refine a_block ?_ | refine a_ret ?_ | refine a_exit ?_ | refine a_skip ?_ | refine a_draw mixed ?_ | refine d_nil (by kernel_rfl) ?_ | refine o_yes rfl rfl rfl ?_ | refine o_no rfl rfl rfl (by decide) ?_ | refine o_no' rfl rfl rfl ?_ | refine a_condT rfl ?_ | refine a_condF rfl ?_ | refine d_no rfl rfl rfl (by decide) ?_ | refine d_no' rfl rfl rfl ?_ | (refine wq2 (fun hb => ?_) (fun hb => ?_) <;> (simp only [hb]; try simp only [hbs, ne_eq] at hb; try (exfalso; first | omega | exact hb trivial))) | fail)
     try simp only [h2]
     repeat' (first | ((first | apply o_do | apply d_do | apply d_yes rfl rfl rfl); first | exact lsc (hz) | exact lsc (hp) | exact lsc (hal) | exact lsc (hlike) | exact lsq) | refine a_seq ?_ | refine a_region ?_ | refine o_nil ?_ | refine a_block ?_ | refine a_ret ?_ | refine a_exit ?_ | refine a_skip ?_ | refine a_draw mixed ?_ | refine d_nil (by kernel_rfl) ?_ | refine o_yes rfl rfl rfl ?_ | refine o_no rfl rfl rfl (by decide) ?_ | refine o_no' rfl rfl rfl ?_ | refine a_condT rfl ?_ | refine a_condF rfl ?_ | refine d_no rfl rfl rfl (by decide) ?_ | refine d_no' rfl rfl rfl ?_ | (refine wq2 (fun hb => ?_) (fun hb => ?_) <;> (simp only [hb]; try simp only [hbs, ne_eq] at hb; try (exfalso; first | omega | exact hb trivial))) | fail)
     all_goals refine rq rfl ?_
     all_goals exact fnq
 ·have hcase : (rowsR ⟨g, s, d, k, fu, li, de, id⟩ F = .tup [.sl 1 [], .v (.bool false)]) ∨ ∃ X, rowsR ⟨g, s, d, k, fu, li, de, id⟩ F = .tup [.sl 1 X, .v (.bool true)] := by
   unfold rowsR
   split
   ·exact .inr ⟨_, rfl⟩
   ·exact .inl rfl
  generalize runN g s d k fu li de id F = r at *
  obtain ⟨rs, e⟩ := r
  dsimp only at hr0
  unfold RR.av at hrun
  dsimp only at hrun
  generalize rs.map Rs.av = Rs' at *
  unfold Jb.av at *
  dsimp only at *
  rcases hcase with hc | ⟨X, hc⟩
  all_goals
   rw [hc] at hrows
   refine PC.mk (ac_body tab_ok Tryz.func6 rfl (by kernel_rfl) rfl ?_); intro w0 M μ0; simp only [Tryz.ntmps6, List.length_cons, List.length_nil, Nat.reduceAdd, Nat.reduceSub, numb]
   repeat' (first | ((first | apply o_do | apply d_do | apply d_yes rfl rfl rfl); first | exact lsc (hfew) | exact lsc (hrun) | exact lsc (hrows) | exact lsc (hal) | exact lsq) | refine a_seq ?_ | refine a_region ?_ | refine o_nil ?_ | refine a_block ?_ | refine a_ret ?_ | refine a_exit ?_ | refine a_skip ?_ | refine a_draw mixed ?_ | refine d_nil (by kernel_rfl) ?_ | refine o_yes rfl rfl rfl ?_ | refine o_no rfl rfl rfl (by decide) ?_ | refine o_no' rfl rfl rfl ?_ | refine a_condT rfl ?_ | refine a_condF rfl ?_ | refine d_no rfl rfl rfl (by decide) ?_ | refine d_no' rfl rfl rfl ?_ | (refine wq2 (fun hb => ?_) (fun hb => ?_) <;> (simp only [hb]; try simp only [hbs, ne_eq] at hb; try (exfalso; first | omega | exact hb trivial))) | fail)
   all_goals refine rq rfl ?_
   all_goals exact fnq
end Go.Proofs.YtilgagmfcdfjaaaGreat
namespace Go.Proofs.YtilgagmfcdfjaaaGreat
open Go.RowKit Go.WideShapes Go.ChangeShapes Go.ChangeAt
set_option maxRecDepth 100000
theorem workerBars_contract (H : Type) (enc : TypeId × Value → H) (W : World) (base : Nat) (args : Array Value) (ds gs : List (DataW H)) (before : List MemPlace)
  (hval0 : ∀ (j : Nat) t v, Tryz.f6.params[j]? = some t → args[j]? = some v → Value.okWide Tryz.prog W .any base t v)
  (hW : DataW.Whole enc Tryz.prog Tryz.f6.params.toList Rows.workerBarsSpec.vars false W args.toList ds gs before) :
  Calls Tryz.prog 6 args W fun e W' => ∃ v, e = .returned v ∧ Rows.workerBarsSpec.post enc Tryz.prog Tryz.f6 false true false false W args v W' := by
 have hval := hval0
 have hW' := hW
 obtain ⟨p, q, hA0, hV, rfl, hfz, hnd⟩ := hW
 have hA : DataW.TrodAll enc Tryz.prog W 0 (fun _ => true) true Tryz.f6.params.toList args.toList ds p := hA0
 rw [Tryz.params6] at hA hval
 obtain ⟨v0, vs0, d0, ds0, p0, q0, hargs, rfl, rfl, h0, r0⟩ := trodAll_cons hA
 obtain ⟨v1, vs1, d1, ds1, p1, q1, rfl, rfl, rfl, h1, r1⟩ := trodAll_cons r0
 obtain ⟨v2, vs2, d2, ds2, p2, q2, rfl, rfl, rfl, h2, r2⟩ := trodAll_cons r1
 obtain ⟨v3, vs3, d3, ds3, p3, q3, rfl, rfl, rfl, h3, r3⟩ := trodAll_cons r2
 obtain ⟨rfl, rfl, rfl⟩ := trodAll_nil r3
 obtain rfl : args = #[v0, v1, v2, v3] := by cases args; simp_all
 obtain ⟨rfl, rfl⟩ := trodVars_none hV
 clear hA0 hval0
 obtain ⟨cs0, rfl, _, _, g0⟩ := open_struct_arg Tryz.underlying23 (hval 0 23 v0 rfl rfl) h0
 obtain ⟨g, s, d, k, fu, li, de, id, rfl, hj⟩ := rd_Job g0
 obtain ⟨ls, hsm, hrg, hins⟩ := open_ins_arg (hval 1 24 v1 rfl rfl) h1
 obtain ⟨pl, hpl, hpr⟩ := open_ints1_arg (hval 2 25 v2 rfl rfl) h2
 obtain ⟨ts, hts, htr⟩ := open_ints1_arg (hval 3 25 v3 rfl rfl) h3
 refine ((o_bars ⟨g, s, d, k, fu, li, de, id⟩ ls pl ts hsm hrg (by dsimp only; omega) hpl hts).law (vs := [_, _, _, _]) ⟨_, _, rfl, rep_Job, _, _, rfl, hins, _, _, rfl, hpr, _, _, rfl, htr, rfl⟩).mono fun e W' ⟨he, hb⟩ => ?_
 subst he
 exact ⟨_, rfl, post_law @A_laidOut (rd_of (by kernel_rfl : (Tryz.f6.params.toList.all fun t => Tryz.prog.readableRec t && decide (t < Tryz.prog.types.size)) = true)) rfl rfl Tryz.underlying4 hW' rfl hb⟩

theorem workerBars_own : ownKnob Tryz.prog.godebug = none := by kernel_rfl
set_option maxRecDepth 100000 in
theorem workerBars_lifted (os : Os) (started : os.Started) (H : Type) (enc : TypeId × Value → H) :
  ReturnsInHanded {} Tryz.checked os 6 .any (Rows.workerBarsSpec.pre6 enc Tryz.prog Tryz.f6 Rows.workerBarsRow.domain false) (Rows.workerBarsSpec.post enc Tryz.prog Tryz.f6 false true false false) := by
 refine returnsInHanded_of_change (C := Tryz.checked) workerBars_own started (by kernel_rfl) Tryz.func6
  (ChangeSpec.witness6 (enc := enc) (C := Tryz.checked) false ⟨#[], #[.agg #[.int .i64 0, .int .i64 0, .int .i64 0, .int .i64 0, .int .i64 0, .int .i64 0, .int .i64 0, .int .i64 0], .slice none 0 0, .slice none 0 0, .slice none 0 0], []⟩ 8 (by kernel_rfl) (by kernel_rfl) (by kernel_rfl) (by kernel_rfl)) ?_
 intro W base args ds gs before hval hW _ _
 exact workerBars_contract H enc W base args ds gs before hval hW
theorem workerBars_proved : Rows.WorkerBarsSaid :=
 OpenClaim.holds_of_wide 6 Tryz.f6 rfl rfl rfl rfl rfl rfl rfl ⟨rfl, rfl, rfl, rfl, rfl⟩ rfl rfl rfl rfl rfl (by kernel_rfl) Tryz.func6 (by kernel_rfl)
  (of_decide_eq_true (by kernel_rfl)) (by unfold Func.isWrapper; first | (rw [if_pos (by decide +kernel)]; kernel_rfl) | (rw [if_neg (by decide +kernel)]; exact ⟨rfl, rfl⟩))
  (fun os started H enc _ => workerBars_lifted os started H enc)
end Go.Proofs.YtilgagmfcdfjaaaGreat
