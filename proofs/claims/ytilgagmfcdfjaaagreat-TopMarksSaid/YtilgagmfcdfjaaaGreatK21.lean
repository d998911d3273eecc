/-
  'clepsydratop.TopMarks' returns true for every input.
-/
import Derived.Test.YtilgagmfcdfjaaaGreatK4
import Derived.Test.YtilgagmfcdfjaaaGreatK10
import Derived.Test.YtilgagmfcdfjaaaGreatK15
import Derived.Test.YtilgagmfcdfjaaaGreatK20
namespace Go.Proofs.YtilgagmfcdfjaaaGreat
open Go.RowKit
set_option linter.unusedSimpArgs false
set_option linter.unusedVariables false
set_option maxRecDepth 20000
set_option maxHeartbeats 8000000
theorem tmod_in {a b : Int} (hb : 0 < b) : -b < a.tmod b ∧ a.tmod b < b := by
  have h1 := Int.tmod_lt_of_pos a hb
  have h2 : -b < a.tmod b := by
    have h3 := Int.tmod_lt_of_pos (-a) hb
    rw [Int.neg_tmod] at h3
    omega
  exact ⟨h2, h1⟩
theorem tmod_up {a b : Int} (ha : 0 ≤ a) (hb : 0 < b) : 0 ≤ a.tmod b ∧ a.tmod b < b := ⟨Int.tmod_nonneg b ha, Int.tmod_lt_of_pos a hb⟩
def tnAv (t : Int) : List AV := [.v (.int .i64 t)]
theorem few3_small {ls : List (List Et)} (hx : Small ls) : Small (few3 ls) := by
  refine ⟨by unfold few3; simp; omega, fun es he => ?_⟩
  unfold few3 at he
  obtain ⟨x, hx2, rfl⟩ := List.mem_map.1 he
  rw [List.length_take]; omega
theorem zeroI_get {n q : Nat} (h : q < (zeroI n).length) : (zeroI n)[q] = (q : Int) := by
  have h2 : q < ((List.range n).map fun (q : Nat) => (q : Int)).length := h
  show ((List.range n).map fun (q : Nat) => (q : Int))[q]'h2 = _
  rw [List.getElem_map, List.getElem_range]
theorem zeroI_len (n : Nat) : (zeroI n).length = n := by simp [zeroI]
theorem zeroI_mem {n : Nat} {no : Int} : no ∈ zeroI n ↔ 0 ≤ no ∧ no < n := by
  unfold zeroI
  simp only [List.mem_map, List.mem_range]
  constructor
  · rintro ⟨q, hq, rfl⟩; omega
  · rintro ⟨h1, h2⟩; exact ⟨no.toNat, by omega, by omega⟩
theorem zeroI_jg {j : Jb} {G : Nat} (hj : jobOK j.g j.s j.d j.k j.fu j.li j.de j.id = true) (hg : j.g = (G : Int)) (h32 : G ≤ 32) : JG j (zeroI G) := by
  refine ⟨hj, ?_, fun no hn => by have := zeroI_mem.1 hn; omega⟩
  rw [List.pairwise_iff_getElem]
  intro a b ha hb hab
  rw [zeroI_get ha, zeroI_get hb]; omega
theorem grp_in {G : Nat} {g : Int} (hg : g = (G : Int)) (h1 : 1 ≤ g) (l : List UInt8) : grpV l g ∈ zeroI G := by
  rw [zeroI_mem, grpV_high (by omega)]
  have h2 := Int.emod_nonneg (hashN l : Int) (show g ≠ 0 by omega)
  have h3 := Int.emod_lt_of_pos (hashN l : Int) (show 0 < g by omega)
  omega
theorem zGp_gp (j : Jb) (l : List Int) : l.map zGp = l.map (gpOf j [] 0) := List.map_congr_left fun no _ => rfl
def ss0 (F : List (List Et)) : List Src := F.map fun es => ⟨es, 0, false⟩
theorem rn0 {j : Jb} {F : List (List Et)} (h1 : 1 ≤ F.length) (h4 : F.length ≤ 4) (hes : ∀ es ∈ F, es.length ≤ 200 ∧ ∀ e ∈ es, evR e.key e.at' = true) (hd : 0 ≤ j.de) : Rn j (ss0 F) (allK j.li j.fu j.de F) := by
  refine ⟨fun s hs => ?_, by unfold ss0; simp; omega, by unfold ss0; simp; omega, hd, ?_⟩
  · obtain ⟨es, he, rfl⟩ := List.mem_map.1 hs
    exact ⟨Nat.zero_le _, fun h => by simp at h, (hes es he).2, (hes es he).1⟩
  · unfold ss0
    rw [List.map_map]
    congr 1
    exact (List.map_id' F).symm
theorem kept0 {li fu de : Int} {F : List (List Et)} : keptS li fu de (ss0 F) = [] := by
  unfold keptS ss0
  rw [List.flatMap_map]
  induction F with
  | nil => rfl
  | cons es F ih => rw [List.flatMap_cons, ih]; rfl
theorem tg0 {j : Jb} {G : Nat} {F : List (List Et)} (hj : JG j (zeroI G)) (hg : j.g = (G : Int)) (hg1 : 1 ≤ j.g) (h4 : F.length ≤ 4) (hes : ∀ es ∈ F, es.length ≤ 200 ∧ ∀ e ∈ es, evR e.key e.at' = true) (hrow : (rowV j.k (allVals j.s j.d (allK j.li j.fu j.de F))).length ≤ 2000) : TG j (zeroI G) (allK j.li j.fu j.de F) := by
  have h := allK_len (li := j.li) (fu := j.fu) (de := j.de) (ls := F) fun es he => (hes es he).1
  exact ⟨hj, fun e _ => grp_in hg hg1 _, allK_ok fun es he => (hes es he).2, by omega, hrow⟩
theorem t_marks (j : Jb) (ls : List (List Et)) (ts : List Int) (hx : Small ls) (hls : ∀ es ∈ ls, ∀ e ∈ es, -9223372036854775808 ≤ e.v ∧ e.v ≤ 9223372036854775807) (hli : j.li ≤ 9223372036854775807) (hts : ts.length ≤ 9223372036854775807) :
    PC Tryz.prog 3 [.agg j.av, .sl 1 (ls.map inAv), .sl 1 (ts.map tnAv)] (.v (.bool true)) := by
  have hfew := t_few ls hx
  have hsm := few3_small hx
  have hfe : ∀ es ∈ few3 ls, ∀ e ∈ es, -9223372036854775808 ≤ e.v ∧ e.v ≤ 9223372036854775807 := by
    intro es he e hee
    unfold few3 at he
    obtain ⟨x, hx2, rfl⟩ := List.mem_map.1 he
    exact hls x (List.mem_of_mem_take hx2) e (List.mem_of_mem_take hee)
  have hal := t_alive
  obtain ⟨g, s0, d, k, fu, li, de, id⟩ := j
  dsimp only at hli
  have hrun := m_Run g s0 d k fu li de 0 (few3 ls) hsm hfe hli
  generalize few3 ls = F at *
  have hFl : (F.map inAv).length = F.length := by simp
  unfold Jb.av
  dsimp only
  by_cases hok : (runN g s0 d k fu li de 0 F).2 = 0 ∧ F ≠ []
  · obtain ⟨hr0, hF0⟩ := hok
    have hc0 : checkN g s0 d k fu li de 0 F = 0 := Classical.byContradiction fun h => by
      unfold runN at hr0
      rw [if_neg h] at hr0
      exact h hr0
    have hrow : (rowV k (allVals s0 d (allK li fu de F))).length ≤ 2000 := Classical.byContradiction fun h => by
      unfold runN outR at hr0
      rw [if_pos hc0, if_neg h] at hr0
      exact absurd hr0 (show ¬ (3 : Int) = 0 by decide)
    have hj : jobOK g s0 d k fu li de 0 = true := by
      cases hj : jobOK g s0 d k fu li de 0
      · unfold checkN at hc0; rw [if_pos hj] at hc0; exact absurd hc0 (by decide)
      · rfl
    have hin : okIn F = true := by
      cases hi : okIn F
      · unfold checkN at hc0; rw [if_neg (by rw [hj]; simp), if_pos hi] at hc0; exact absurd hc0 (by decide)
      · rfl
    have hjp := hj
    unfold jobOK at hjp
    simp only [Bool.and_eq_true, decide_eq_true_eq] at hjp
    have hip := hin
    unfold okIn at hip
    simp only [Bool.and_eq_true, decide_eq_true_eq, List.all_eq_true] at hip
    obtain ⟨G, hG⟩ : ∃ G : Nat, g = (G : Int) := ⟨g.toNat, by omega⟩
    have hz := t_zero ⟨g, s0, d, k, fu, li, de, 0⟩ G hG (by omega)
    generalize hr : runN g s0 d k fu li de 0 F = r at *
    obtain ⟨rs, e⟩ := r
    dsimp only at hr0
    subst hr0
    unfold RR.av at hrun
    dsimp only at hrun
    have hJG := zeroI_jg (j := ⟨g, s0, d, k, fu, li, de, 0⟩) hj hG (by omega)
    have hn1 : 1 ≤ F.length := by omega
    obtain ⟨hW0, hNew⟩ := start hJG hn1 (show F.length ≤ 8 by omega)
    have hN := w_New g s0 d k fu li de 0 F.length ((zeroI G).map zGp) (by rw [List.length_map, zeroI_len]; omega) (by
      intro x hx
      obtain ⟨no, _, rfl⟩ := List.mem_map.1 hx
      simp [zGp])
    rw [hj, zGp_gp ⟨g, s0, d, k, fu, li, de, 0⟩, hNew] at hN
    rw [zGp_gp ⟨g, s0, d, k, fu, li, de, 0⟩] at hz
    unfold Jb.av at hz
    dsimp only at hz
    generalize hw1 : (⟨(zeroI G).map (gpOf ⟨g, s0, d, k, fu, li, de, 0⟩ [] 0), ⟨newIns F.length, [], 0⟩, ⟨0, newGot F.length, newHeld F.length⟩, 0⟩ : Wk) = v0 at *
    generalize ((zeroI G).map (gpOf ⟨g, s0, d, k, fu, li, de, 0⟩ [] 0)).map Gp.av = Z at *
    generalize hRs : rs.map Rs.av = Rs' at *
    rw [← hFl] at hN
    unfold WkN.av Wk.av at hN
    dsimp only at hN
    refine PC.mk (ac_body tab_ok Tryz.func3 rfl (by kernel_rfl) rfl ?_); intro w0 M μ0; simp only [Tryz.ntmps3, List.length_cons, List.length_nil, Nat.reduceAdd, Nat.reduceSub, numb]
    have hFm : (F.map inAv).length ≤ 1000000 := by rw [hFl]; omega
    repeat' (first | ((first | apply o_do | apply d_do | apply d_yes rfl rfl rfl); first | exact lsc (hfew) | exact lsc (hrun) | exact lsc (hal) | exact lsc (hz) | exact lsc (hN) | exact ls_make (k := 2) tab_ok tab_zero rfl rfl rfl rfl rfl rfl rfl hFm rfl rfl rfl | exact lsq) | refine a_seq ?_ | refine a_region ?_ | refine o_nil ?_ | refine a_block ?_ | refine a_ret ?_ | refine a_exit ?_ | refine a_skip ?_ | refine a_draw mixed ?_ | refine d_nil (by kernel_rfl) ?_ | refine o_yes rfl rfl rfl ?_ | refine o_no rfl rfl rfl (by decide) ?_ | refine o_no' rfl rfl rfl ?_ | refine a_condT rfl ?_ | refine a_condF rfl ?_ | refine d_no rfl rfl rfl (by decide) ?_ | refine d_no' rfl rfl rfl ?_ | (refine wq2 (fun hb => ?_) (fun hb => ?_) <;> (simp only [hb]; try simp only [hbs, ne_eq] at hb; try (exfalso; first | omega | exact hb trivial))) | fail)
    refine a_adopt 11 3 50 5 rfl rfl ?_
    refine a_loop (X := {q : Nat // q ≤ F.length}) (fun x => ⟨[(1, .sl 1 (F.map inAv)), (2, .sl 1 (ts.map tnAv)), (3, .ref 0 0), (9, .ref 1 0), (11, .own 3 (((F.take x.1).map fun es => Sr.av ⟨es, 0, 0, 0, false⟩)).length), (12, .own 2 (List.replicate (F.map inAv).length [AV.v (.int .i64 0)]).length), (65, .sl 1 (F.map inAv)), (66, .v (.int .i64 F.length)), (67, .v (.int .i64 x.1))], [(0, .box 23 [.v (.int .i64 g), .v (.int .i64 s0), .v (.int .i64 d), .v (.int .i64 k), .v (.int .i64 fu), .v (.int .i64 li), .v (.int .i64 de), .v (.int .i64 0)]), (1, .box 42 v0.av), (2, .row 2 1 (List.replicate (F.map inAv).length [AV.v (.int .i64 0)])), (3, .row 50 5 ((F.take x.1).map fun es => Sr.av ⟨es, 0, 0, 0, false⟩))]⟩) (fun x => F.length - x.1) ⟨0, Nat.zero_le _⟩ ?_ ?_
    · exact wkS
    · rintro ⟨q, hq⟩
      dsimp only
      by_cases hlt : q < F.length
      · have hel : (F.map inAv)[q]? = some (inAv F[q]) := by simp [hlt]
        have hm := List.getElem_mem hlt
        have hS := s_New0 ⟨g, s0, d, k, fu, li, de, 0⟩ F[q] ⟨by simp, fun es he => hsm.2 es (by rw [List.mem_singleton.1 he]; exact hm)⟩ (hfe _ hm) hli hj (by
          have := hip.2.2 _ hm
          unfold okIn; simp [this])
        have hsn : (F.take (q + 1)).map (fun es => Sr.av ⟨es, 0, 0, 0, false⟩) = (F.take q).map (fun es => Sr.av ⟨es, 0, 0, 0, false⟩) ++ [Sr.av ⟨F[q], 0, 0, 0, false⟩] := by
          rw [take_snoc F q hlt, List.map_append]; rfl
        have hTl : ((F.take q).map (fun es => Sr.av ⟨es, 0, 0, 0, false⟩)).length = q := by simp; omega
        unfold Jb.av Sr.av at hS
        dsimp only at hS
        generalize (F.take q).map (fun es => Sr.av ⟨es, 0, 0, 0, false⟩) = X at *
        generalize F[q] = es at *
        repeat' (first | ((first | apply o_do | apply d_do | apply d_yes rfl rfl rfl); first | exact ls_indexAddr_sl tab_ok rfl rfl rfl rfl hel rfl | exact lsc (hS) | focus (apply ls_append tab_ok rfl rfl ?hn rfl ?hsrc rfl ?hlen rfl rfl; (case hn => rfl); (case hsrc => first | exact SrcIs.sl | exact SrcIs.nil | exact SrcIs.own rfl rfl | fail); (case hlen => (try simp only [List.length_cons, List.length_nil]); (omega)); first | done | fail) | exact lsq) | refine a_seq ?_ | refine a_region ?_ | refine o_nil ?_ | refine a_block ?_ | refine a_ret ?_ | refine a_exit ?_ | refine a_skip ?_ | refine a_draw mixed ?_ | refine d_nil (by kernel_rfl) ?_ | refine o_yes rfl rfl rfl ?_ | refine o_no rfl rfl rfl (by decide) ?_ | refine o_no' rfl rfl rfl ?_ | refine a_condT rfl ?_ | refine a_condF rfl ?_ | refine d_no rfl rfl rfl (by decide) ?_ | refine d_no' rfl rfl rfl ?_ | (refine wq2 (fun hb => ?_) (fun hb => ?_) <;> (simp only [hb]; try simp only [hbs, ne_eq] at hb; try (exfalso; first | omega | exact hb trivial))) | fail)
        refine ⟨⟨q + 1, by omega⟩, by dsimp only; omega, ?_⟩
        dsimp only
        rw [hsn]
        exact wkS
      · obtain rfl : q = F.length := by omega
        rw [List.take_length]
        have hss : F.map (fun es => Sr.av ⟨es, 0, 0, 0, false⟩) = (F.map fun es => (⟨es, 0, false⟩ : Src)).map fun s => (s.sr de).av := by rw [List.map_map]; rfl
        have hmk0 : (F.map fun es => (⟨es, 0, false⟩ : Src)).map (Src.mk' de) = List.replicate F.length 0 := by
          rw [List.map_map, List.eq_replicate_iff]
          exact ⟨by simp, fun x hx => by obtain ⟨es, _, rfl⟩ := List.mem_map.1 hx; rfl⟩
        have hmk : List.replicate (F.map inAv).length [AV.v (.int .i64 0)] = ((F.map fun es => (⟨es, 0, false⟩ : Src)).map (Src.mk' de)).map tnAv := by
          rw [hmk0, List.map_replicate, hFl]; rfl
        rw [hss, hmk]
        have hes : ∀ es ∈ F, es.length ≤ 200 ∧ ∀ e ∈ es, evR e.key e.at' = true := (check_parts hc0).2.2.2
        have hTG := tg0 hJG hG (by dsimp only; omega) hip.2.1 hes hrow
        have hRn := rn0 (j := ⟨g, s0, d, k, fu, li, de, 0⟩) hip.1 hip.2.1 hes hjp.2.2.2.2.2.2.2.1
        have hWI : WI ⟨g, s0, d, k, fu, li, de, 0⟩ (zeroI G) (allVals s0 d []) ((ss0 F).map (Src.mk' de)) v0 := by
          unfold ss0
          rw [hmk0]
          exact hW0
        repeat' (first | ((first | apply o_do | apply d_do | apply d_yes rfl rfl rfl); exact lsq) | refine a_seq ?_ | refine a_region ?_ | refine o_nil ?_ | refine a_block ?_ | refine a_ret ?_ | refine a_exit ?_ | refine a_skip ?_ | refine a_draw mixed ?_ | refine d_nil (by kernel_rfl) ?_ | refine o_yes rfl rfl rfl ?_ | refine o_no rfl rfl rfl (by decide) ?_ | refine o_no' rfl rfl rfl ?_ | refine a_condT rfl ?_ | refine a_condF rfl ?_ | refine d_no rfl rfl rfl (by decide) ?_ | refine d_no' rfl rfl rfl ?_ | (refine wq2 (fun hb => ?_) (fun hb => ?_) <;> (simp only [hb]; try simp only [hbs, ne_eq] at hb; try (exfalso; first | omega | exact hb trivial))) | fail)
        refine a_loop (X := {x : Nat × List Src × Wk × List Et // x.1 ≤ 100 ∧ Rn ⟨g, s0, d, k, fu, li, de, 0⟩ x.2.1 (allK li fu de F) ∧ x.2.1.map Src.es = F ∧ x.2.2.2.Perm (keptS li fu de x.2.1) ∧ WI ⟨g, s0, d, k, fu, li, de, 0⟩ (zeroI G) (allVals s0 d x.2.2.2) (x.2.1.map (Src.mk' de)) x.2.2.1})
          (fun x => ⟨[(2, .sl 1 (ts.map tnAv)), (3, .ref 0 0), (9, .ref 1 0), (11, .own 3 (x.1.2.1.map fun s => (s.sr de).av).length), (12, .own 2 ((x.1.2.1.map (Src.mk' de)).map tnAv).length), (17, .v (.int .i64 x.1.1))], [(0, .box 23 [.v (.int .i64 g), .v (.int .i64 s0), .v (.int .i64 d), .v (.int .i64 k), .v (.int .i64 fu), .v (.int .i64 li), .v (.int .i64 de), .v (.int .i64 0)]), (1, .box 42 x.1.2.2.1.av), (2, .row 2 1 ((x.1.2.1.map (Src.mk' de)).map tnAv)), (3, .row 50 5 (x.1.2.1.map fun s => (s.sr de).av))]⟩) (fun x => 100 - x.1.1) ⟨(0, ss0 F, v0, []), by dsimp only; omega, hRn, by dsimp only; unfold ss0; rw [List.map_map]; exact List.map_id' F, by dsimp only; rw [kept0], hWI⟩ ?_ ?_
        · exact wkS
        rintro ⟨⟨i, ss, w, K⟩, hi, hRn, hes2, hK, hWI⟩
        dsimp only at hi hRn hes2 hK hWI ⊢
        have hn1 := hRn.n1
        have hn8 := hRn.n8
        have hTl : (ts.map tnAv).length = ts.length := List.length_map _
        by_cases hlt : i < 100
        · obtain ⟨a, ha⟩ : ∃ a : Int, ((i < ts.length ∧ i < 60) ∧ (ts.map tnAv)[i]? = some (tnAv a)) ∨ (¬ (i < ts.length ∧ i < 60) ∧ a = (i : Int)) := by
            by_cases c : i < ts.length ∧ i < 60
            · exact ⟨ts[i]'c.1, .inl ⟨c, by simp [c.1]⟩⟩
            · exact ⟨i, .inr ⟨c, rfl⟩⟩
          have hgs : ∀ s : Src, (s.sr de).av = [.sl 3 (s.es.map Et.av), .v (.int .i64 s.n), .v (.int .i64 (markE de 0 (s.es.take s.n))), .v (.int .i64 0), .v (.bool s.en)] := fun s => rfl
          have hS3 : ∀ l : List Src, (l.map fun s => (s.sr de).av).length = l.length := fun l => List.length_map _
          have hS2 : ∀ l : List Int, (l.map tnAv).length = l.length := fun l => List.length_map _
          obtain ⟨r1, hr1⟩ : ∃ r, a.tmod ((ss.map fun s => (s.sr de).av).length : Int) = r := ⟨_, rfl⟩
          obtain ⟨r2, hr2⟩ : ∃ r, (r1 + ((ss.map fun s => (s.sr de).av).length : Int)).tmod ((ss.map fun s => (s.sr de).av).length : Int) = r := ⟨_, rfl⟩
          have hS3s := hS3 ss
          have b1 := tmod_in (a := a) (b := ((ss.map fun s => (s.sr de).av).length : Int)) (by omega)
          rw [hr1] at b1
          have b2 := tmod_up (a := r1 + ((ss.map fun s => (s.sr de).av).length : Int)) (b := ((ss.map fun s => (s.sr de).av).length : Int)) (by omega) (by omega)
          rw [hr2] at b2
          obtain ⟨q, rfl⟩ : ∃ q : Nat, r2 = (q : Int) := ⟨r2.toNat, by omega⟩
          have hq : q < ss.length := by omega
          have hqx : q < (ss.map fun s => (s.sr de).av).length := by omega
          obtain ⟨s, hs⟩ : ∃ s, ss[q]? = some s := ⟨ss[q], List.getElem?_eq_getElem hq⟩
          have hel3 : (ss.map fun s => (s.sr de).av)[q]? = some (s.sr de).av := by rw [List.getElem?_map, hs]; rfl
          have hpu : ∀ y : Src, ∀ (σ : Store) (μ : Nat → Value) (w : World) (A : Nat → Prop) (z : Value), rep σ μ w A (.agg (y.sr de).av) z → rep [] μ w A (.agg (y.sr de).av) z := fun y _ _ _ _ _ h => rep_pureB h rfl
          cases hen : s.en
          · obtain ⟨s', its, w', K', hNx, hil, hse, hTo, hK', hW', hR'⟩ := turn_any hTG hRn hK hWI hs hen (hfe _ (by
              rw [← hes2]; exact List.mem_map.2 ⟨s, List.mem_of_getElem? hs, rfl⟩)) hli
            have hes' : (ss.set q s').map Src.es = F := by
              rw [List.map_set, hse, ← hes2]
              obtain ⟨hq2, rfl⟩ := List.getElem?_eq_some_iff.1 hs
              have : (ss[q]).es = (ss.map Src.es)[q]'(by rw [List.length_map]; exact hq2) := by simp
              rw [this, List.set_getElem_self]
            have hset : (ss.map fun s => (s.sr de).av).set q (s'.sr de).av = (ss.set q s').map fun s => (s.sr de).av := List.map_set.symm
            obtain ⟨en2, hen2⟩ : ∃ en2, (ss.set q s').all Src.en = en2 := ⟨_, rfl⟩
            rw [hen2] at hTo
            unfold Jb.av at hNx
            dsimp only at hNx hTo hK' hW' hR'
            have hln : (ss.set q s').length = ss.length := List.length_set
            rcases ha with ⟨c, hel⟩ | ⟨c, rfl⟩
            all_goals
              repeat' (first | ((first | apply o_do | apply d_do | apply d_yes rfl rfl rfl); first | exact ls_indexAddr_sl tab_ok rfl rfl rfl rfl hel rfl | exact ls_rem64 hr1 rfl rfl (by omega) (by omega) rfl | exact ls_rem64 hr2 rfl rfl (by omega) (by omega) rfl | exact ls_indexAddr_own tab_ok rfl rfl rfl rfl rfl rfl hqx rfl | exact ls_load_eref tab_ok rfl rfl rfl hel3 rfl rfl rfl rfl | exact lsc (hNx) | exact ls_store_eref (cs' := (s'.sr de).av) tab_ok rfl rfl rfl rfl hel3 rfl rfl (hpu s') rfl rfl rfl rfl | exact lsq) | refine a_seq ?_ | refine a_region ?_ | refine o_nil ?_ | refine a_block ?_ | refine a_ret ?_ | refine a_exit ?_ | refine a_skip ?_ | refine a_draw mixed ?_ | refine d_nil (by kernel_rfl) ?_ | refine o_yes rfl rfl rfl ?_ | refine o_no rfl rfl rfl (by decide) ?_ | refine o_no' rfl rfl rfl ?_ | refine a_condT rfl ?_ | refine a_condF rfl ?_ | refine d_no rfl rfl rfl (by decide) ?_ | refine d_no' rfl rfl rfl ?_ | (refine wq2 (fun hb => ?_) (fun hb => ?_) <;> (simp only [hb]; try simp only [hbs, ne_eq] at hb; try (exfalso; first | omega | exact hb trivial))) | fail)
            all_goals
              refine a_loop (X := {x : Nat × Wk × List Int // x.1 ≤ its.length ∧ x.2.2.length = ss.length ∧ Told ⟨g, s0, d, k, fu, li, de, 0⟩ q en2 x.2.1 x.2.2 (its.drop x.1) w' ((ss.set q s').map (Src.mk' de))})
                (fun x => ⟨[(2, .sl 1 (ts.map tnAv)), (3, .ref 0 0), (9, .ref 1 0), (11, .own 3 ((ss.set q s').map fun s => (s.sr de).av).length), (12, .own 2 (x.1.2.2.map tnAv).length), (17, .v (.int .i64 i)), (18, .v (.int .i64 q)), (129, .sl 11 (its.map It.av)), (130, .v (.int .i64 (its.map It.av).length)), (131, .v (.int .i64 x.1.1))], [(0, .box 23 [.v (.int .i64 g), .v (.int .i64 s0), .v (.int .i64 d), .v (.int .i64 k), .v (.int .i64 fu), .v (.int .i64 li), .v (.int .i64 de), .v (.int .i64 0)]), (1, .box 42 x.1.2.1.av), (2, .row 2 1 (x.1.2.2.map tnAv)), (3, .row 50 5 ((ss.set q s').map fun s => (s.sr de).av))]⟩) (fun x => its.length - x.1.1) ⟨(0, w, ss.map (Src.mk' de)), Nat.zero_le _, by simp, by exact hTo⟩ ?_ ?_
              · refine ⟨by repeat' (first | exact trivial | exact FinA.one (FinB.cell (FinC.same rfl)) | exact FinA.one (FinB.cell FinC.nil) | exact FinA.bound rfl | exact FinA.one (FinB.cell (FinC.own rfl rfl rfl rfl)) | exact FinA.one (FinB.cell (FinC.v (by first | rfl | ((first | (simp only [hset]; done) | (rw [← hset]; simp) | simp))))) | exact FinA.one (FinB.cell (FinC.ow rfl (by first | rfl | ((first | (simp only [hset]; done) | (rw [← hset]; simp) | simp))))) | exact FinA.one (FinB.agg' rfl rfl) | refine ⟨⟨_, rfl, ?_⟩, ?_⟩), by repeat' (first | exact trivial | refine ⟨⟨_, rfl, by first | rfl | ((first | (simp only [hset]; done) | (rw [← hset]; simp) | simp); done) | (simp [renO, *]; done)⟩, by first | rfl | assumption, ?_⟩), rfl⟩
              rintro ⟨⟨p, v, mk⟩, hp, hmkl, hTd⟩
              dsimp only at hp hmkl hTd ⊢
              have hItl : (its.map It.av).length = its.length := List.length_map _
              by_cases hpl : p < its.length
              · rw [List.drop_eq_getElem_cons hpl] at hTd
                obtain ⟨w1, mk1, told1, ho, hr, hm, hc, hf, ht⟩ := hTd.uncons
                have helI : (its.map It.av)[p]? = some (It.av its[p]) := by simp [hpl]
                have hRunC := w_Run ⟨g, s0, d, k, fu, li, de, 0⟩ (by dsimp only; omega) 1 v (q : Int) its[p] ho.1 ho.2.1 ho.2.2.2.1 ho.2.2.1
                rw [hr] at hRunC
                generalize its[p] = x at *
                have hml : mk1.length = ss.length := by rw [hm]; split <;> simp [hmkl]
                have hq2 : q < (mk.map tnAv).length := by rw [List.length_map]; omega
                obtain ⟨y, hely⟩ : ∃ y, (mk.map tnAv)[q]? = some (tnAv y) := ⟨mk[q]'(by omega), by simp [show q < mk.length by omega]⟩
                have hL : (mk.map tnAv).length = (mk1.map tnAv).length := by simp [hml, hmkl]
                have hL1 : (mk1.map tnAv).length = ss.length := by rw [List.length_map]; exact hml
                have hL0 : (mk.map tnAv).length = ((mk.map tnAv).set q (tnAv x.mark)).length := List.length_set.symm
                have hpu2 : ∀ y : Int, ∀ (σ : Store) (μ : Nat → Value) (w : World) (A : Nat → Prop) (z : Value), rep σ μ w A (.v (.int .i64 y)) z → rep [] μ w A (.v (.int .i64 y)) z := fun y _ _ _ _ _ h => rep_pureB h rfl
                unfold RnW.av Jb.av at hRunC
                dsimp only at hRunC
                rcases (show (x.kind = 2 ∧ (mk.map tnAv).set q (tnAv x.mark) = mk1.map tnAv) ∨ (¬ x.kind = 2 ∧ mk.map tnAv = mk1.map tnAv) from by
                  by_cases hk2 : x.kind = 2
                  · rw [if_pos hk2] at hm; exact .inl ⟨hk2, by rw [hm, List.map_set]⟩
                  · rw [if_neg hk2] at hm; exact .inr ⟨hk2, by rw [hm]⟩) with ⟨hk2, hrow⟩ | ⟨hk2, hrow⟩
                all_goals
                  repeat' (first | ((first | apply o_do | apply d_do | apply d_yes rfl rfl rfl); first | exact ls_indexAddr_sl tab_ok rfl rfl rfl rfl helI rfl | exact lsc (hRunC) | exact ls_indexAddr_own tab_ok rfl rfl rfl rfl rfl rfl hq2 rfl | exact ls_store_eref (cs' := tnAv x.mark) tab_ok rfl rfl rfl rfl hely rfl rfl (hpu2 _) rfl rfl rfl rfl | exact ls_len_own tab_ok rfl rfl hL0 rfl rfl | exact lsq) | refine a_seq ?_ | refine a_region ?_ | refine o_nil ?_ | refine a_block ?_ | refine a_ret ?_ | refine a_exit ?_ | refine a_skip ?_ | refine a_draw mixed ?_ | refine d_nil (by kernel_rfl) ?_ | refine o_yes rfl rfl rfl ?_ | refine o_no rfl rfl rfl (by decide) ?_ | refine o_no' rfl rfl rfl ?_ | refine a_condT rfl ?_ | refine a_condF rfl ?_ | refine d_no rfl rfl rfl (by decide) ?_ | refine d_no' rfl rfl rfl ?_ | (refine wq2 (fun hb => ?_) (fun hb => ?_) <;> (simp only [hb]; try simp only [hbs, ne_eq] at hb; try (exfalso; first | omega | exact hb trivial))) | fail)
                all_goals
                  refine a_loop (X := {r : Nat // r ≤ ss.length})
                    (fun r => ⟨[(2, .sl 1 (ts.map tnAv)), (3, .ref 0 0), (9, .ref 1 0), (11, .own 3 ((ss.set q s').map fun s => (s.sr de).av).length), (12, .own 2 (mk1.map tnAv).length), (17, .v (.int .i64 i)), (18, .v (.int .i64 q)), (27, .v (.bool (((ss.set q s').take r.1).all Src.en))), (129, .sl 11 (its.map It.av)), (130, .v (.int .i64 (its.map It.av).length)), (131, .v (.int .i64 p)), (155, .own 2 (mk1.map tnAv).length), (156, .v (.int .i64 (mk1.map tnAv).length)), (157, .v (.int .i64 r.1))], [(0, .box 23 [.v (.int .i64 g), .v (.int .i64 s0), .v (.int .i64 d), .v (.int .i64 k), .v (.int .i64 fu), .v (.int .i64 li), .v (.int .i64 de), .v (.int .i64 0)]), (1, .box 42 w1.av), (2, .row 2 1 (mk1.map tnAv)), (3, .row 50 5 ((ss.set q s').map fun s => (s.sr de).av))]⟩) (fun r => ss.length - r.1) ⟨0, Nat.zero_le _⟩ ?_ ?_
                  · refine ⟨by repeat' (first | exact trivial | exact FinA.one (FinB.cell (FinC.same rfl)) | exact FinA.one (FinB.cell FinC.nil) | exact FinA.bound rfl | exact FinA.one (FinB.cell (FinC.own rfl rfl rfl rfl)) | exact FinA.one (FinB.cell (FinC.v (by first | rfl | ((first | (simp only [hrow]; done) | exact hL | (rw [hL]; rfl) | simp))))) | exact FinA.one (FinB.cell (FinC.ow rfl (by first | rfl | ((first | (simp only [hrow]; done) | exact hL | (rw [hL]; rfl) | simp))))) | exact FinA.one (FinB.agg' rfl rfl) | refine ⟨⟨_, rfl, ?_⟩, ?_⟩), by repeat' (first | exact trivial | refine ⟨⟨_, rfl, by first | rfl | ((first | (simp only [hrow]; done) | exact hL | (rw [hL]; rfl) | simp); done) | (simp [renO, *]; done)⟩, by first | rfl | assumption, ?_⟩), rfl⟩
                  rintro ⟨r, hr9⟩
                  dsimp only
                  by_cases hrl : r < ss.length
                  · have helm : (mk1.map tnAv)[r]? = some (tnAv (mk1[r]'(by omega))) := by simp [show r < mk1.length by omega]
                    have hrm : r < (mk1.map tnAv).length := by rw [List.length_map]; omega
                    have hle := hc (mk1[r]'(by omega)) (List.getElem_mem _)
                    have hls' : r < (ss.set q s').length := by omega
                    have hels : ((ss.set q s').map fun s => (s.sr de).av)[r]? = some (((ss.set q s')[r]).sr de).av := by simp only [List.getElem?_map, List.getElem?_eq_getElem hls', Option.map_some]
                    have hrs : r < ((ss.set q s').map fun s => (s.sr de).av).length := by rw [List.length_map]; omega
                    have htk : ((ss.set q s').take (r + 1)).all Src.en = (((ss.set q s').take r).all Src.en && ((ss.set q s')[r]).en) := by
                      rw [take_snoc _ r hls', List.all_append]; simp
                    generalize (ss.set q s')[r] = z at *
                    generalize mk1[r]'(by omega) = y1 at *
                    unfold Src.sr Sr.av at hels
                    obtain ⟨z1, z2, z3⟩ := z
                    dsimp only at hels htk
                    unfold Wk.av
                    cases hal2 : ((ss.set q s').take r).all Src.en
                    all_goals
                      repeat' (first | ((first | apply o_do | apply d_do | apply d_yes rfl rfl rfl); first | exact ls_indexAddr_own tab_ok rfl rfl rfl rfl rfl rfl hrm rfl | exact ls_load_eref tab_ok rfl rfl rfl helm rfl rfl rfl rfl | exact ls_indexAddr_own tab_ok rfl rfl rfl rfl rfl rfl hrs rfl | exact ls_fieldAddr_eref tab_ok rfl rfl rfl rfl rfl rfl rfl | exact ls_load_eref tab_ok rfl rfl rfl hels rfl rfl rfl rfl | exact lsq) | refine a_seq ?_ | refine a_region ?_ | refine o_nil ?_ | refine a_block ?_ | refine a_ret ?_ | refine a_exit ?_ | refine a_skip ?_ | refine a_draw mixed ?_ | refine d_nil (by kernel_rfl) ?_ | refine o_yes rfl rfl rfl ?_ | refine o_no rfl rfl rfl (by decide) ?_ | refine o_no' rfl rfl rfl ?_ | refine a_condT rfl ?_ | refine a_condF rfl ?_ | refine d_no rfl rfl rfl (by decide) ?_ | refine d_no' rfl rfl rfl ?_ | (refine wq2 (fun hb => ?_) (fun hb => ?_) <;> (simp only [hb]; try simp only [hbs, ne_eq] at hb; try (exfalso; first | omega | exact hb trivial))) | fail)
                      refine ⟨⟨r + 1, by omega⟩, by dsimp only; omega, ?_⟩
                      refine ⟨by repeat' (first | exact trivial | exact FinA.one (FinB.cell (FinC.same rfl)) | exact FinA.one (FinB.cell FinC.nil) | exact FinA.bound rfl | exact FinA.one (FinB.cell (FinC.own rfl rfl rfl rfl)) | exact FinA.one (FinB.cell (FinC.v (by first | rfl | (simp [htk, hal2])))) | exact FinA.one (FinB.cell (FinC.ow rfl (by first | rfl | (simp [htk, hal2])))) | exact FinA.one (FinB.agg' rfl rfl) | refine ⟨⟨_, rfl, ?_⟩, ?_⟩), by repeat' (first | exact trivial | refine ⟨⟨_, rfl, by first | rfl | (simp [htk, hal2]; done) | (simp [renO, *]; done)⟩, by first | rfl | assumption, ?_⟩), rfl⟩
                  · obtain rfl : r = ss.length := by omega
                    rw [List.take_of_length_le (show (ss.set q s').length ≤ ss.length by omega), hen2]
                    unfold Wk.av
                    cases en2
                    · have hne : ¬ w1.told = 1099511627776 := fun h => by simp [h] at hf
                      repeat' (first | ((first | apply o_do | apply d_do | apply d_yes rfl rfl rfl); exact lsq) | refine a_seq ?_ | refine a_region ?_ | refine o_nil ?_ | refine a_block ?_ | refine a_ret ?_ | refine a_exit ?_ | refine a_skip ?_ | refine a_draw mixed ?_ | refine d_nil (by kernel_rfl) ?_ | refine o_yes rfl rfl rfl ?_ | refine o_no rfl rfl rfl (by decide) ?_ | refine o_no' rfl rfl rfl ?_ | refine a_condT rfl ?_ | refine a_condF rfl ?_ | refine d_no rfl rfl rfl (by decide) ?_ | refine d_no' rfl rfl rfl ?_ | (refine wq2 (fun hb => ?_) (fun hb => ?_) <;> (simp only [hb]; try simp only [hbs, ne_eq] at hb; try (exfalso; first | omega | exact hb trivial))) | fail)
                      · exfalso; simp [hne] at hb
                      refine ⟨⟨(p + 1, w1, mk1), by dsimp only; omega, hml, ht⟩, by dsimp only; omega, ?_⟩
                      exact wkS
                    · have heq : w1.told = 1099511627776 := hf.2 rfl
                      repeat' (first | ((first | apply o_do | apply d_do | apply d_yes rfl rfl rfl); exact lsq) | refine a_seq ?_ | refine a_region ?_ | refine o_nil ?_ | refine a_block ?_ | refine a_ret ?_ | refine a_exit ?_ | refine a_skip ?_ | refine a_draw mixed ?_ | refine d_nil (by kernel_rfl) ?_ | refine o_yes rfl rfl rfl ?_ | refine o_no rfl rfl rfl (by decide) ?_ | refine o_no' rfl rfl rfl ?_ | refine a_condT rfl ?_ | refine a_condF rfl ?_ | refine d_no rfl rfl rfl (by decide) ?_ | refine d_no' rfl rfl rfl ?_ | (refine wq2 (fun hb => ?_) (fun hb => ?_) <;> (simp only [hb]; try simp only [hbs, ne_eq] at hb; try (exfalso; first | omega | exact hb trivial))) | fail)
                      · exfalso; simp [heq] at hb
                      refine ⟨⟨(p + 1, w1, mk1), by dsimp only; omega, hml, ht⟩, by dsimp only; omega, ?_⟩
                      exact wkS
              · obtain rfl : p = its.length := by omega
                rw [List.drop_length] at hTd
                obtain ⟨e1, e2⟩ := hTd.unnil
                rw [e1, e2]
                repeat' (first | ((first | apply o_do | apply d_do | apply d_yes rfl rfl rfl); exact lsq) | refine a_seq ?_ | refine a_region ?_ | refine o_nil ?_ | refine a_block ?_ | refine a_ret ?_ | refine a_exit ?_ | refine a_skip ?_ | refine a_draw mixed ?_ | refine d_nil (by kernel_rfl) ?_ | refine o_yes rfl rfl rfl ?_ | refine o_no rfl rfl rfl (by decide) ?_ | refine o_no' rfl rfl rfl ?_ | refine a_condT rfl ?_ | refine a_condF rfl ?_ | refine d_no rfl rfl rfl (by decide) ?_ | refine d_no' rfl rfl rfl ?_ | (refine wq2 (fun hb => ?_) (fun hb => ?_) <;> (simp only [hb]; try simp only [hbs, ne_eq] at hb; try (exfalso; first | omega | exact hb trivial))) | fail)
                refine ⟨⟨(i + 1, ss.set q s', w', K'), by dsimp only; omega, hR', hes', hK', hW'⟩, by dsimp only; omega, ?_⟩
                exact wkS
          · have hNx := turn_not (j := ⟨g, s0, d, k, fu, li, de, 0⟩) hj hRn hs hen
            unfold Jb.av zSr Sr.av at hNx
            dsimp only at hNx
            rcases ha with ⟨c, hel⟩ | ⟨c, rfl⟩
            all_goals
              repeat' (first | ((first | apply o_do | apply d_do | apply d_yes rfl rfl rfl); first | exact ls_indexAddr_sl tab_ok rfl rfl rfl rfl hel rfl | exact ls_rem64 hr1 rfl rfl (by omega) (by omega) rfl | exact ls_rem64 hr2 rfl rfl (by omega) (by omega) rfl | exact ls_indexAddr_own tab_ok rfl rfl rfl rfl rfl rfl hqx rfl | exact ls_load_eref tab_ok rfl rfl rfl hel3 rfl rfl rfl rfl | exact lsc (hNx) | exact lsq) | refine a_seq ?_ | refine a_region ?_ | refine o_nil ?_ | refine a_block ?_ | refine a_ret ?_ | refine a_exit ?_ | refine a_skip ?_ | refine a_draw mixed ?_ | refine d_nil (by kernel_rfl) ?_ | refine o_yes rfl rfl rfl ?_ | refine o_no rfl rfl rfl (by decide) ?_ | refine o_no' rfl rfl rfl ?_ | refine a_condT rfl ?_ | refine a_condF rfl ?_ | refine d_no rfl rfl rfl (by decide) ?_ | refine d_no' rfl rfl rfl ?_ | (refine wq2 (fun hb => ?_) (fun hb => ?_) <;> (simp only [hb]; try simp only [hbs, ne_eq] at hb; try (exfalso; first | omega | exact hb trivial))) | fail)
            all_goals
              refine ⟨⟨(i + 1, ss, w, K), by dsimp only; omega, hRn, hes2, hK, hWI⟩, by dsimp only; omega, ?_⟩
              exact wkS
        · obtain rfl : i = 100 := by omega
          repeat' (first | ((first | apply o_do | apply d_do | apply d_yes rfl rfl rfl); exact lsq) | refine a_seq ?_ | refine a_region ?_ | refine o_nil ?_ | refine a_block ?_ | refine a_ret ?_ | refine a_exit ?_ | refine a_skip ?_ | refine a_draw mixed ?_ | refine d_nil (by kernel_rfl) ?_ | refine o_yes rfl rfl rfl ?_ | refine o_no rfl rfl rfl (by decide) ?_ | refine o_no' rfl rfl rfl ?_ | refine a_condT rfl ?_ | refine a_condF rfl ?_ | refine d_no rfl rfl rfl (by decide) ?_ | refine d_no' rfl rfl rfl ?_ | (refine wq2 (fun hb => ?_) (fun hb => ?_) <;> (simp only [hb]; try simp only [hbs, ne_eq] at hb; try (exfalso; first | omega | exact hb trivial))) | fail)
          all_goals refine rq rfl ?_
          all_goals exact fnq
  · generalize runN g s0 d k fu li de 0 F = r at *
    obtain ⟨rs, e⟩ := r
    unfold RR.av at hrun
    dsimp only at hrun hok
    generalize rs.map Rs.av = Rs' at *
    by_cases he : e = 0
    · have hF : F = [] := by
        apply Classical.byContradiction; intro h; exact hok ⟨he, h⟩
      subst he
      subst hF
      refine PC.mk (ac_body tab_ok Tryz.func3 rfl (by kernel_rfl) rfl ?_); intro w0 M μ0; simp only [Tryz.ntmps3, List.length_cons, List.length_nil, Nat.reduceAdd, Nat.reduceSub, numb]
      repeat' (first | ((first | apply o_do | apply d_do | apply d_yes rfl rfl rfl); first | exact lsc (hfew) | exact lsc (hrun) | exact lsc (hal) | exact lsq) | refine a_seq ?_ | refine a_region ?_ | refine o_nil ?_ | refine a_block ?_ | refine a_ret ?_ | refine a_exit ?_ | refine a_skip ?_ | refine a_draw mixed ?_ | refine d_nil (by kernel_rfl) ?_ | refine o_yes rfl rfl rfl ?_ | refine o_no rfl rfl rfl (by decide) ?_ | refine o_no' rfl rfl rfl ?_ | refine a_condT rfl ?_ | refine a_condF rfl ?_ | refine d_no rfl rfl rfl (by decide) ?_ | refine d_no' rfl rfl rfl ?_ | (refine wq2 (fun hb => ?_) (fun hb => ?_) <;> (simp only [hb]; try simp only [hbs, ne_eq] at hb; try (exfalso; first | omega | exact hb trivial))) | fail)
      all_goals refine rq rfl ?_
      all_goals exact fnq
    · refine PC.mk (ac_body tab_ok Tryz.func3 rfl (by kernel_rfl) rfl ?_); intro w0 M μ0; simp only [Tryz.ntmps3, List.length_cons, List.length_nil, Nat.reduceAdd, Nat.reduceSub, numb]
      repeat' (first | ((first | apply o_do | apply d_do | apply d_yes rfl rfl rfl); first | exact lsc (hfew) | exact lsc (hrun) | exact lsc (hal) | exact lsq) | refine a_seq ?_ | refine a_region ?_ | refine o_nil ?_ | refine a_block ?_ | refine a_ret ?_ | refine a_exit ?_ | refine a_skip ?_ | refine a_draw mixed ?_ | refine d_nil (by kernel_rfl) ?_ | refine o_yes rfl rfl rfl ?_ | refine o_no rfl rfl rfl (by decide) ?_ | refine o_no' rfl rfl rfl ?_ | refine a_condT rfl ?_ | refine a_condF rfl ?_ | refine d_no rfl rfl rfl (by decide) ?_ | refine d_no' rfl rfl rfl ?_ | (refine wq2 (fun hb => ?_) (fun hb => ?_) <;> (simp only [hb]; try simp only [hbs, ne_eq] at hb; try (exfalso; first | omega | exact hb trivial))) | fail)
      all_goals refine rq rfl ?_
      all_goals exact fnq
end Go.Proofs.YtilgagmfcdfjaaaGreat
namespace Go.Proofs.YtilgagmfcdfjaaaGreat
open Go.RowKit Go.WideShapes Go.ChangeShapes Go.ChangeAt
set_option linter.unusedSimpArgs false
set_option linter.unusedVariables false
set_option maxRecDepth 100000
theorem topMarks_contract (H : Type) (enc : TypeId × Value → H) (W : World) (base : Nat) (args : Array Value) (ds gs : List (DataW H)) (before : List MemPlace)
    (hval0 : ∀ (j : Nat) t v, Tryz.f3.params[j]? = some t → args[j]? = some v → Value.okWide Tryz.prog W .any base t v)
    (hW : DataW.Whole enc Tryz.prog Tryz.f3.params.toList Rows.topMarksSpec.vars false W args.toList ds gs before) :
    Calls Tryz.prog 3 args W fun e W' => ∃ v, e = .returned v ∧ Rows.topMarksSpec.post enc Tryz.prog Tryz.f3 false true false false W args v W' := by
  have hval := hval0
  have hW' := hW
  obtain ⟨p, q, hA0, hV, rfl, hfz, hnd⟩ := hW
  have hA : DataW.TrodAll enc Tryz.prog W 0 (fun _ => true) true Tryz.f3.params.toList args.toList ds p := hA0
  rw [Tryz.params3] at hA hval
  obtain ⟨v0, vs0, d0, ds0, p0, q0, hargs, rfl, rfl, h0, r0⟩ := trodAll_cons hA
  obtain ⟨v1, vs1, d1, ds1, p1, q1, rfl, rfl, rfl, h1, r1⟩ := trodAll_cons r0
  obtain ⟨v2, vs2, d2, ds2, p2, q2, rfl, rfl, rfl, h2, r2⟩ := trodAll_cons r1
  obtain ⟨rfl, rfl, rfl⟩ := trodAll_nil r2
  obtain rfl : args = #[v0, v1, v2] := by cases args; simp_all
  obtain ⟨rfl, rfl⟩ := trodVars_none hV
  clear hA0 hval0
  obtain ⟨cs0, rfl, _, _, g0⟩ := open_struct_arg Tryz.underlying23 (hval 0 23 v0 rfl rfl) h0
  obtain ⟨g, s, d, k, fu, li, de, id, rfl, hj⟩ := rd_Job g0
  obtain ⟨ls, hsm, hrg, hins⟩ := open_ins_arg (hval 1 24 v1 rfl rfl) h1
  obtain ⟨ts, hts, htr⟩ := open_ints1_arg (hval 2 25 v2 rfl rfl) h2
  refine ((t_marks ⟨g, s, d, k, fu, li, de, id⟩ ls ts hsm hrg (by dsimp only; omega) hts).law (vs := [_, _, _]) ⟨_, _, rfl, rep_Job, _, _, rfl, hins, _, _, rfl, htr, rfl⟩).mono fun e W' ⟨he, hb⟩ => ?_
  subst he
  exact ⟨_, rfl, post_law @A_laidOut (rd_of (by kernel_rfl : (Tryz.f3.params.toList.all fun t => Tryz.prog.readableRec t && decide (t < Tryz.prog.types.size)) = true)) rfl rfl Tryz.underlying4 hW' rfl hb⟩

theorem topMarks_own : ownKnob Tryz.prog.godebug = none := by kernel_rfl
set_option maxRecDepth 100000 in
theorem topMarks_lifted (os : Os) (started : os.Started) (H : Type) (enc : TypeId × Value → H) :
    ReturnsInHanded {} Tryz.checked os 3 .any (Rows.topMarksSpec.pre6 enc Tryz.prog Tryz.f3 Rows.topMarksRow.domain false) (Rows.topMarksSpec.post enc Tryz.prog Tryz.f3 false true false false) := by
  refine returnsInHanded_of_change (C := Tryz.checked) topMarks_own started (by kernel_rfl) Tryz.func3
    (ChangeSpec.witness6 (enc := enc) (C := Tryz.checked) false ⟨#[], #[.agg #[.int .i64 0, .int .i64 0, .int .i64 0, .int .i64 0, .int .i64 0, .int .i64 0, .int .i64 0, .int .i64 0], .slice none 0 0, .slice none 0 0], []⟩ 8 (by kernel_rfl) (by kernel_rfl) (by kernel_rfl) (by kernel_rfl)) ?_
  intro W base args ds gs before hval hW _ _
  exact topMarks_contract H enc W base args ds gs before hval hW
theorem topMarks_proved : Rows.TopMarksSaid :=
  OpenClaim.holds_of_wide 3 Tryz.f3 rfl rfl rfl rfl rfl rfl rfl ⟨rfl, rfl, rfl, rfl, rfl⟩ rfl rfl rfl rfl rfl (by kernel_rfl) Tryz.func3 (by kernel_rfl)
    (of_decide_eq_true (by kernel_rfl)) (by unfold Func.isWrapper; first | (rw [if_pos (by decide +kernel)]; kernel_rfl) | (rw [if_neg (by decide +kernel)]; exact ⟨rfl, rfl⟩))
    (fun os started H enc _ => topMarks_lifted os started H enc)
end Go.Proofs.YtilgagmfcdfjaaaGreat
