/-
  What sources tell from their beginning to their end, as a row of one's own.
  A worker whose inputs wait at a barrier: offers, and what waited. Plain.
  A worker played with rows that hold a barrier each. Plain.
  A turn of a worker whose rows hold a barrier each. Plain.
  A worker played with rows that hold a barrier each: the end. Plain.
-/
import Derived.Test.YtilgagmfcdfjaaaGreatM4
import Derived.Test.YtilgagmfcdfjaaaGreatM19
set_option linter.unusedSimpArgs false
set_option linter.unusedVariables false
set_option maxHeartbeats 20000000
namespace Go.Proofs.YtilgagmfcdfjaaaGreat
open Go.RowKit
set_option maxRecDepth 20000 in
theorem o_rowsA (j : Jb) (F : List (List Et)) (hsm : Small F) (hF4 : F.length ≤ 4) (hes : ∀ es ∈ F, ∀ e ∈ es, -9223372036854775808 ≤ e.v ∧ e.v ≤ 9223372036854775807) (hli : j.li ≤ 9223372036854775807) (hga : F.all (good j) = true) :
  AC Tryz.prog 16 [.agg j.av, .sl 1 (F.map inAv)] [] (.tup [.own 1 (F.map (rowA j)).length, .v (.bool true)]) [(1, .row 53 1 (F.map (rowA j)))] := by
 have hFl : (F.map inAv).length = F.length := List.length_map _
 have hF1 := hsm.1
 have hgs : ∀ es : List Et, good j es = true ↔ jobOK j.g j.s j.d j.k j.fu j.li j.de j.id = true ∧ okIn [es] = true := fun es => by unfold good; rw [Bool.and_eq_true]
 have hde : jobOK j.g j.s j.d j.k j.fu j.li j.de j.id = true → 0 ≤ j.de := fun h => by
  unfold jobOK at h
  simp only [Bool.and_eq_true, decide_eq_true_eq] at h
  omega
 have hJ : j.av = [.v (.int .i64 j.g), .v (.int .i64 j.s), .v (.int .i64 j.d), .v (.int .i64 j.k), .v (.int .i64 j.fu), .v (.int .i64 j.li), .v (.int .i64 j.de), .v (.int .i64 j.id)] := rfl
 have hN := fun es hx h => s_New0 j es hx h hli
 have hgo := fun es n => s_go j es n
 rw [hJ] at hN hgo ⊢
 refine (ac_body tab_ok Tryz.func16 rfl (by kernel_rfl) rfl ?_); intro w0 M μ0; simp only [Tryz.ntmps16, List.length_cons, List.length_nil, Nat.reduceAdd, Nat.reduceSub, numb]
 repeat' (first | ((first | apply o_do | apply d_do | apply d_yes rfl rfl rfl); exact lsq) | refine a_seq ?_ | refine a_region ?_ | refine o_nil ?_ | refine a_block ?_ | refine a_ret ?_ | refine a_exit ?_ | refine a_skip ?_ | refine a_draw mixed ?_ | refine d_nil (by kernel_rfl) ?_ | refine o_yes rfl rfl rfl ?_ | refine o_no rfl rfl rfl (by decide) ?_ | refine o_no' rfl rfl rfl ?_ | refine a_condT rfl ?_ | refine a_condF rfl ?_ | refine d_no rfl rfl rfl (by decide) ?_ | refine d_no' rfl rfl rfl ?_ | (refine wq2 (fun hb => ?_) (fun hb => ?_) <;> (simp only [hb]; try simp only [hbs, ne_eq] at hb; try (exfalso; first | omega | exact hb trivial))) | fail)
 refine a_adopt 6 1 53 1 rfl rfl ?_
 refine a_loop (X := {q : Nat // q ≤ F.length ∧ (F.take q).all (good j) = true}) (fun x => ⟨[(1, .sl 1 (F.map inAv)), (2, .ref 0 0), (6, .own 1 ((F.take x.1).map (rowA j)).length), (16, .sl 1 (F.map inAv)), (17, .v (.int .i64 F.length)), (18, .v (.int .i64 x.1))], [(0, .box 23 [.v (.int .i64 j.g), .v (.int .i64 j.s), .v (.int .i64 j.d), .v (.int .i64 j.k), .v (.int .i64 j.fu), .v (.int .i64 j.li), .v (.int .i64 j.de), .v (.int .i64 j.id)]), (1, .row 53 1 ((F.take x.1).map (rowA j)))]⟩) (fun x => F.length - x.1) ⟨0, Nat.zero_le _, by simp⟩ ?_ ?_
 ·exact wkS
 rintro ⟨q, hq, hall⟩
 dsimp only
 by_cases hlt : q < F.length
 ·have hel : (F.map inAv)[q]? = some (inAv F[q]) := by simp [hlt]
  have hm := List.getElem_mem hlt
  have hev := hes _ hm
  have hSm : Small [F[q]] := ⟨by simp, fun es he => hsm.2 es (by rw [List.mem_singleton.1 he]; exact hm)⟩
  have hsn : (F.take (q + 1)).map (rowA j) = (F.take q).map (rowA j) ++ [rowA j F[q]] := by
   rw [take_snoc F q hlt, List.map_append]; rfl
  have hTl : ((F.take q).map (rowA j)).length = q := by simp; omega
  have hsa : (F.take (q + 1)).all (good j) = ((F.take q).all (good j) && good j F[q]) := by rw [take_snoc F q hlt, List.all_append]; simp
  have hgq := List.all_eq_true.1 hga _ hm
  have hN1 := hN F[q] hSm hev
  have hg1 := hgs F[q]
  have hgo1 := hgo F[q]
  generalize F[q] = es at *
  generalize (F.take q).map (rowA j) = T at *
  have hgd := hgq
  obtain ⟨hj, ho⟩ := hg1.1 hgd
  have hN2 := hN1 hj ho
  have hd := hde hj
  have hln := (List.mem_singleton.1 (List.mem_singleton.2 rfl) : es = es)
  have hel0 : es.length ≤ 9223372036854775807 := hSm.2 es (by simp)
  have hl200 : es.length ≤ 200 := by
   have hip := ho
   unfold okIn at hip
   simp only [Bool.and_eq_true, decide_eq_true_eq, List.all_eq_true] at hip
   have he2 : okEs es = true := hip.2.2 es (by simp)
   unfold okEs at he2
   simp only [Bool.and_eq_true, decide_eq_true_eq] at he2
   exact he2.1
  have hEl : (es.map Et.av).length = es.length := List.length_map _
  unfold Sr.av at hN2
  dsimp only at hN2
  repeat' (first | ((first | apply o_do | apply d_do | apply d_yes rfl rfl rfl); first | exact ls_indexAddr_sl tab_ok rfl rfl rfl rfl hel rfl | exact lsc (hN2) | exact lsq) | refine a_seq ?_ | refine a_region ?_ | refine o_nil ?_ | refine a_block ?_ | refine a_ret ?_ | refine a_exit ?_ | refine a_skip ?_ | refine a_draw mixed ?_ | refine d_nil (by kernel_rfl) ?_ | refine o_yes rfl rfl rfl ?_ | refine o_no rfl rfl rfl (by decide) ?_ | refine o_no' rfl rfl rfl ?_ | refine a_condT rfl ?_ | refine a_condF rfl ?_ | refine d_no rfl rfl rfl (by decide) ?_ | refine d_no' rfl rfl rfl ?_ | (refine wq2 (fun hb => ?_) (fun hb => ?_) <;> (simp only [hb]; try simp only [hbs, ne_eq] at hb; try (exfalso; first | omega | exact hb trivial))) | fail)
  refine a_adopt 11 3 63 11 rfl rfl ?_
  refine a_loop (X := {x : Nat × Bool // x.1 ≤ es.length ∧ (x.2 = true → x.1 = es.length)}) (fun x => ⟨[(1, .sl 1 (F.map inAv)), (2, .ref 0 0), (6, .own 1 T.length), (8, .sl 3 (es.map Et.av)), (9, .ref 2 0), (11, .own 3 ((tellL j 0 (es.take x.1.1) ++ (if x.1.2 = true then [markItem 1099511627776] else [])).map It.av).length), (12, .v (.int .i64 ((x.1.1 + x.1.2.toNat : Nat) : Int))), (16, .sl 1 (F.map inAv)), (17, .v (.int .i64 F.length)), (18, .v (.int .i64 q))], [(0, .box 23 [.v (.int .i64 j.g), .v (.int .i64 j.s), .v (.int .i64 j.d), .v (.int .i64 j.k), .v (.int .i64 j.fu), .v (.int .i64 j.li), .v (.int .i64 j.de), .v (.int .i64 j.id)]), (1, .row 53 1 T), (2, .box 50 ((⟨es, x.1.1, x.1.2⟩ : Src).sr j.de).av), (3, .row 63 11 ((tellL j 0 (es.take x.1.1) ++ (if x.1.2 = true then [markItem 1099511627776] else [])).map It.av))]⟩) (fun x => es.length + 1 - (x.1.1 + x.1.2.toNat)) ⟨(0, false), Nat.zero_le _, fun h => by simp at h⟩ ?_ ?_
  ·exact wkS
  rintro ⟨⟨n, en⟩, hn, hen⟩
  dsimp only at hn hen ⊢
  cases en
  ·simp only [Bool.toNat_false, Nat.add_zero]
   obtain ⟨g1, g2⟩ := hgo1 n hj ho hd hev hli hn
   have hLl := tellL_len (j := j) (es := es.take n) (m := 0)
   rw [List.length_take] at hLl
   rw [if_neg (by simp), List.append_nil]
   by_cases hne : n = es.length
   ·have hg := g1 hne
    have hIl : ((tellL j 0 (es.take n)).map It.av).length ≤ 400 := by rw [List.length_map]; omega
    have hap : (tellL j 0 (es.take n) ++ (if true = true then [markItem 1099511627776] else [])).map It.av = (tellL j 0 (es.take n)).map It.av ++ [markItem 1099511627776].map It.av := by rw [if_pos rfl]; exact List.map_append
    have hml : ([markItem 1099511627776].map It.av).length = 1 := rfl
    generalize (tellL j 0 (es.take n)).map It.av = X at *
    generalize [markItem 1099511627776].map It.av = Y at *
    unfold Src.sr Sr.av at hg ⊢
    dsimp only at hg ⊢
    repeat' (first | ((first | apply o_do | apply d_do | apply d_yes rfl rfl rfl); first | exact lsc (hg) | focus (apply ls_append tab_ok rfl rfl ?hn rfl ?hsrc rfl ?hlen rfl rfl; (case hn => rfl); (case hsrc => first | exact SrcIs.sl | exact SrcIs.nil | exact SrcIs.own rfl rfl | fail); (case hlen => (try simp only [List.length_cons, List.length_nil]); (omega)); first | done | fail) | exact lsq) | refine a_seq ?_ | refine a_region ?_ | refine o_nil ?_ | refine a_block ?_ | refine a_ret ?_ | refine a_exit ?_ | refine a_skip ?_ | refine a_draw mixed ?_ | refine d_nil (by kernel_rfl) ?_ | refine o_yes rfl rfl rfl ?_ | refine o_no rfl rfl rfl (by decide) ?_ | refine o_no' rfl rfl rfl ?_ | refine a_condT rfl ?_ | refine a_condF rfl ?_ | refine d_no rfl rfl rfl (by decide) ?_ | refine d_no' rfl rfl rfl ?_ | (refine wq2 (fun hb => ?_) (fun hb => ?_) <;> (simp only [hb]; try simp only [hbs, ne_eq] at hb; try (exfalso; first | omega | exact hb trivial))) | fail)
    all_goals
     refine ⟨⟨(n, true), hn, fun _ => hne⟩, by simp only [Bool.toNat_true, Bool.toNat_false]; omega, ?_⟩
     dsimp only
     rw [hap]
     exact wkS
   ·have hnl : n < es.length := by omega
    have hg := g2 hnl
    have hIl : ((tellL j 0 (es.take n)).map It.av).length ≤ 400 := by rw [List.length_map]; omega
    have hap : (tellL j 0 (es.take (n + 1)) ++ (if false = true then [markItem 1099511627776] else [])).map It.av = (tellL j 0 (es.take n)).map It.av ++ (tellX j (markE j.de 0 (es.take n)) es[n]).map It.av := by rw [if_neg (by simp), List.append_nil, tellL_step hnl, List.map_append]
    have hml : ((tellX j (markE j.de 0 (es.take n)) es[n]).map It.av).length ≤ 2 := by rw [List.length_map]; exact tellX_len
    generalize (tellX j (markE j.de 0 (es.take n)) es[n]).map It.av = Y at *
    generalize (tellL j 0 (es.take n)).map It.av = X at *
    unfold Src.sr Sr.av at hg ⊢
    dsimp only at hg ⊢
    repeat' (first | ((first | apply o_do | apply d_do | apply d_yes rfl rfl rfl); first | exact lsc (hg) | focus (apply ls_append tab_ok rfl rfl ?hn rfl ?hsrc rfl ?hlen rfl rfl; (case hn => rfl); (case hsrc => first | exact SrcIs.sl | exact SrcIs.nil | exact SrcIs.own rfl rfl | fail); (case hlen => (try simp only [List.length_cons, List.length_nil]); (omega)); first | done | fail) | exact lsq) | refine a_seq ?_ | refine a_region ?_ | refine o_nil ?_ | refine a_block ?_ | refine a_ret ?_ | refine a_exit ?_ | refine a_skip ?_ | refine a_draw mixed ?_ | refine d_nil (by kernel_rfl) ?_ | refine o_yes rfl rfl rfl ?_ | refine o_no rfl rfl rfl (by decide) ?_ | refine o_no' rfl rfl rfl ?_ | refine a_condT rfl ?_ | refine a_condF rfl ?_ | refine d_no rfl rfl rfl (by decide) ?_ | refine d_no' rfl rfl rfl ?_ | (refine wq2 (fun hb => ?_) (fun hb => ?_) <;> (simp only [hb]; try simp only [hbs, ne_eq] at hb; try (exfalso; first | omega | exact hb trivial))) | fail)
    all_goals
     refine ⟨⟨(n + 1, false), hnl, fun h => by simp at h⟩, by simp only [Bool.toNat_false]; omega, ?_⟩
     dsimp only
     rw [hap]
     exact wkS
  ·have hne := hen rfl
   subst hne
   simp only [Bool.toNat_true]
   have hrow : tellL j 0 (es.take es.length) ++ [markItem 1099511627776] = rowI j es := by rw [List.take_length]; rfl
   try simp only [if_true]
   rw [hrow]
   have hrl := rowI_len (j := j) (es := es)
   have hrA : rowA j es = [.sl 11 ((rowI j es).map It.av)] := rfl
   rw [hrA] at hsn
   generalize (rowI j es).map It.av = X at *
   unfold Src.sr Sr.av
   dsimp only
   repeat' (first | ((first | apply o_do | apply d_do | apply d_yes rfl rfl rfl); exact lsq) | refine a_seq ?_ | refine a_region ?_ | refine o_nil ?_ | refine a_block ?_ | refine a_ret ?_ | refine a_exit ?_ | refine a_skip ?_ | refine a_draw mixed ?_ | refine d_nil (by kernel_rfl) ?_ | refine o_yes rfl rfl rfl ?_ | refine o_no rfl rfl rfl (by decide) ?_ | refine o_no' rfl rfl rfl ?_ | refine a_condT rfl ?_ | refine a_condF rfl ?_ | refine d_no rfl rfl rfl (by decide) ?_ | refine d_no' rfl rfl rfl ?_ | (refine wq2 (fun hb => ?_) (fun hb => ?_) <;> (simp only [hb]; try simp only [hbs, ne_eq] at hb; try (exfalso; first | omega | exact hb trivial))) | fail)
   refine o_weak (t := ⟨[(1, .sl 1 (F.map inAv)), (2, .ref 0 0), (16, .sl 1 (F.map inAv)), (17, .v (.int .i64 F.length)), (18, .v (.int .i64 q)), (55, .own 1 T.length), (56, .sl 11 X)], [(0, .box 23 [.v (.int .i64 j.g), .v (.int .i64 j.s), .v (.int .i64 j.d), .v (.int .i64 j.k), .v (.int .i64 j.fu), .v (.int .i64 j.li), .v (.int .i64 j.de), .v (.int .i64 j.id)]), (1, .row 53 1 T)]⟩) ?_ ?_
   ·exact wkS
   repeat' (first | ((first | apply o_do | apply d_do | apply d_yes rfl rfl rfl); first | focus (apply ls_append tab_ok rfl rfl ?hn rfl ?hsrc rfl ?hlen rfl rfl; (case hn => rfl); (case hsrc => first | exact SrcIs.sl | exact SrcIs.nil | exact SrcIs.own rfl rfl | fail); (case hlen => (try simp only [List.length_cons, List.length_nil]); (omega)); first | done | fail) | exact lsq) | refine a_seq ?_ | refine a_region ?_ | refine o_nil ?_ | refine a_block ?_ | refine a_ret ?_ | refine a_exit ?_ | refine a_skip ?_ | refine a_draw mixed ?_ | refine d_nil (by kernel_rfl) ?_ | refine o_yes rfl rfl rfl ?_ | refine o_no rfl rfl rfl (by decide) ?_ | refine o_no' rfl rfl rfl ?_ | refine a_condT rfl ?_ | refine a_condF rfl ?_ | refine d_no rfl rfl rfl (by decide) ?_ | refine d_no' rfl rfl rfl ?_ | (refine wq2 (fun hb => ?_) (fun hb => ?_) <;> (simp only [hb]; try simp only [hbs, ne_eq] at hb; try (exfalso; first | omega | exact hb trivial))) | fail)
   refine ⟨⟨q + 1, by omega, by rw [hsa, hall, hgd]; rfl⟩, by dsimp only; omega, ?_⟩
   dsimp only
   rw [hsn]
   exact wkS
 ·obtain rfl : q = F.length := by omega
  rw [List.take_length] at hall ⊢
  generalize F.map (rowA j) = T at *
  repeat' (first | ((first | apply o_do | apply d_do | apply d_yes rfl rfl rfl); exact lsq) | refine a_seq ?_ | refine a_region ?_ | refine o_nil ?_ | refine a_block ?_ | refine a_ret ?_ | refine a_exit ?_ | refine a_skip ?_ | refine a_draw mixed ?_ | refine d_nil (by kernel_rfl) ?_ | refine o_yes rfl rfl rfl ?_ | refine o_no rfl rfl rfl (by decide) ?_ | refine o_no' rfl rfl rfl ?_ | refine a_condT rfl ?_ | refine a_condF rfl ?_ | refine d_no rfl rfl rfl (by decide) ?_ | refine d_no' rfl rfl rfl ?_ | (refine wq2 (fun hb => ?_) (fun hb => ?_) <;> (simp only [hb]; try simp only [hbs, ne_eq] at hb; try (exfalso; first | omega | exact hb trivial))) | fail)
  all_goals refine rq rfl ?_
  all_goals exact fnq
abbrev Hd := List (Bool × List It)
def alOf (H : Hd) : Al := ⟨if H.any Prod.fst = true then 1 else 0, H.map Prod.fst, H.map Prod.snd⟩
structure HOk (H : Hd) : Prop where
 n1 : 1 ≤ H.length
 n8 : H.length ≤ 8
 wait : H.any (fun p => !p.1) = true
 len : ∀ p ∈ H, p.2.length ≤ 8
 got : ∀ p ∈ H, p.2 ≠ [] → p.1 = true
 ok : ∀ p ∈ H, ∀ x ∈ p.2, itR x = true ∧ ItV x
section
variable {j : Jb} {nos : List Int} {rows D : List (List It)} {H : Hd} {v w : Wk} {q : Nat} {x : It} {aa : Al} {out : List Rs}
theorem HOk.al (h : HOk H) : alR (alOf H) = true := by
 have h1 := h.n1
 have h8 := h.n8
 unfold alR alOf
 dsimp only
 simp only [List.length_map, Bool.and_eq_true, decide_eq_true_eq]
 have e1 : (H.map Prod.fst).any id = H.any Prod.fst := by rw [List.any_map]; rfl
 have e2 : (H.map Prod.fst).any (!·) = H.any (fun p => !p.1) := by rw [List.any_map]; rfl
 refine ⟨h1, h8, trivial, by split <;> omega, by split <;> omega, ?_, by rw [e2]; exact h.wait, ?_⟩
 ·rw [e1]
  cases H.any Prod.fst <;> simp
 ·rw [List.all_eq_true]
  intro i hi
  have hi := List.mem_range.1 hi
  have hm := List.getElem_mem hi
  have g1 : (H.map Prod.snd).getD i [] = H[i].2 := by simp [List.getD, hi]
  have g2 : (H.map Prod.fst).getD i false = H[i].1 := by simp [List.getD, hi]
  unfold heG
  rw [g1, g2]
  have := h.len _ hm
  simp only [Bool.and_eq_true, decide_eq_true_eq, Bool.or_eq_true, List.all_eq_true]
  refine ⟨by omega, ?_, fun y hy => (h.ok _ hm y hy).1⟩
  by_cases c : H[i].2 = []
  ·left; rw [c]; rfl
  ·exact .inr (h.got _ hm c)
theorem HOk.has (h : HOk H) (hq : q < H.length) : alHas (alOf H) (q : Int) = true := by
 unfold alHas
 rw [h.al]
 unfold alOf
 dsimp only
 rw [List.length_map]
 simp only [Bool.true_and, Bool.and_eq_true, decide_eq_true_eq]
 omega
theorem alOf_get {p : Bool × List It} (hq : H[q]? = some p) : (alOf H).got.getD (q : Int).toNat false = p.1 ∧ (alOf H).held.getD (q : Int).toNat [] = p.2 := by
 unfold alOf
 dsimp only
 simp [List.getD, hq]
theorem offer_pass (h : HOk H) (hq : H[q]? = some (false, [])) (hx : itR x = true) (h4 : x.kind ≠ 4) : alOffer (alOf H) (q : Int) x = ⟨alOf H, true, 0, [], 0⟩ := by
 obtain ⟨hl, _⟩ := List.getElem?_eq_some_iff.1 hq
 unfold alOffer
 rw [h.has hl, hx, (alOf_get hq).1, if_neg (by simp), if_neg (by simp), if_pos h4]
theorem any_set {H : Hd} {q : Nat} {a b : List It} {g : Bool} (hq : H[q]? = some (g, a)) : (H.set q (g, b)).any Prod.fst = H.any Prod.fst := by
 have e : (H.set q (g, b)).map Prod.fst = H.map Prod.fst := by
  rw [List.map_set]
  obtain ⟨hl, he⟩ := List.getElem?_eq_some_iff.1 hq
  have : g = (H.map Prod.fst)[q]'(by rw [List.length_map]; exact hl) := by simp [he]
  conv => lhs; rw [show ((g, b) : Bool × List It).1 = (H.map Prod.fst)[q]'(by rw [List.length_map]; exact hl) from this, List.set_getElem_self]
 have h1 : ∀ L : Hd, L.any Prod.fst = (L.map Prod.fst).any id := fun L => by rw [List.any_map]; rfl
 rw [h1, h1, e]
theorem offer_hold (h : HOk H) {l : List It} (hq : H[q]? = some (true, l)) (hx : itR x = true) (hl : l.length ≤ 8) : alOffer (alOf H) (q : Int) x = ⟨alOf (H.set q (true, l ++ [x])), false, 0, [], 0⟩ := by
 obtain ⟨hlt, he⟩ := List.getElem?_eq_some_iff.1 hq
 obtain ⟨g1, g2⟩ := alOf_get hq
 unfold alOffer
 rw [h.has hlt, hx, g1, g2, if_neg (by simp), if_pos rfl, if_neg (by dsimp only; omega)]
 unfold alOf
 dsimp only
 rw [any_set hq, List.map_set, List.map_set, Int.toNat_natCast]
 have e : (H.map Prod.fst).set q true = H.map Prod.fst := by
  have : true = (H.map Prod.fst)[q]'(by rw [List.length_map]; exact hlt) := by simp [he]
  conv => lhs; rw [this, List.set_getElem_self]
 rw [e]
theorem offer_bar (h : HOk H) (hq : H[q]? = some (false, [])) : alOffer (alOf H) (q : Int) (barItem 1) = if (H.set q (true, [])).any (fun p => !p.1) = true then ⟨alOf (H.set q (true, [])), false, 0, [], 0⟩ else ⟨⟨0, newGot H.length, newHeld H.length⟩, false, 1, latesN (H.map Prod.snd) H.length, 0⟩ := by
 obtain ⟨hlt, he⟩ := List.getElem?_eq_some_iff.1 hq
 obtain ⟨g1, g2⟩ := alOf_get hq
 unfold alOffer
 rw [h.has hlt, show itR (barItem 1) = true from rfl, g1, if_neg (by simp), if_neg (by simp), if_neg (show ¬ ((barItem 1).kind ≠ 4) by show ¬ ((4 : Int) ≠ 4); decide)]
 rw [if_neg (by unfold alOf; dsimp only; show ¬ (_ ∧ _ ≠ (1 : Int)); split <;> omega)]
 have e1 : (alOf H).got.set (q : Int).toNat true = (H.set q (true, [])).map Prod.fst := by
  unfold alOf; dsimp only; rw [List.map_set, Int.toNat_natCast]
 have e2 : ((H.set q (true, [])).map Prod.fst).any (!·) = (H.set q (true, [])).any (fun p => !p.1) := by rw [List.any_map]; rfl
 have e3 : (alOf H).held = (H.set q (true, [])).map Prod.snd := by
  unfold alOf; dsimp only
  rw [List.map_set]
  have : ([] : List It) = (H.map Prod.snd)[q]'(by rw [List.length_map]; exact hlt) := by simp [he]
  conv => rhs; rw [show ((true, []) : Bool × List It).2 = (H.map Prod.snd)[q]'(by rw [List.length_map]; exact hlt) from this, List.set_getElem_self]
 have e4 : (H.set q (true, [])).any Prod.fst = true := by
  rw [List.any_eq_true]
  exact ⟨(true, []), List.mem_set hlt _, rfl⟩
 have e5 : (alOf H).held = H.map Prod.snd := rfl
 have e6 : (alOf H).got.length = H.length := by unfold alOf; dsimp only; rw [List.length_map]
 rw [e1, e2]
 by_cases c : (H.set q (true, [])).any (fun p => !p.1) = true
 ·rw [if_pos c, if_pos c, e3]
  unfold alOf
  rw [if_pos e4]
  rfl
 ·rw [if_neg c, if_neg c, e5, e6, List.length_map]
  rfl
theorem wkR_al (h : wkR v = true) (ha : alR aa = true) (hl : aa.got.length = v.mks.ins.length) : wkR { v with al := aa } = true := by
 unfold wkR at h ⊢
 simp only [Bool.and_eq_true, decide_eq_true_eq] at h ⊢
 exact ⟨h.1, h.2.1, h.2.2.1, ha, hl, h.2.2.2.2.2⟩
theorem go_al (gs : List Gp) (m : Mk) (a b : Al) (t : Int) : wkGo j gs m b t = ⟨{ (wkGo j gs m a t).w with al := b }, (wkGo j gs m a t).told, (wkGo j gs m a t).late, (wkGo j gs m a t).e⟩ := by
 unfold wkGo
 split <;> rfl
theorem tk_eq (hv : wkR v = true) (hx : itR x = true) (h5 : x.kind ≠ 5) (o1 : alOffer v.al (q : Int) x = ⟨v.al, true, 0, [], 0⟩) (hj : jobOK j.g j.s j.d j.k j.fu j.li j.de j.id = true) :
  tkJ j v q x = if x.kind = 1 then (if putB j (grpV x.key.data.toList j.g) x v.gs ≠ 0 then wkFail (putB j (grpV x.key.data.toList j.g) x v.gs) else wkGo j (putM j (grpV x.key.data.toList j.g) x v.gs) (mkSet v.mks (q : Int) 0).m v.al v.told)
   else if x.kind = 2 then wkGo j v.gs (mkSet v.mks (q : Int) x.mark).m v.al v.told else if x.kind = 3 then wkGo j v.gs (mkIdle v.mks (q : Int)).m v.al v.told else wkGo j v.gs v.mks v.al v.told := by
 have c1 : ¬ ((wkR v && itR x) = false ∨ x.kind = 5) := by rw [hv, hx]; simp [h5]
 unfold tkJ wkTake
 rw [hj, if_neg (by simp), if_neg c1, o1]
 dsimp only
 rw [if_neg (by simp), if_neg (by simp), if_neg (by simp)]
theorem tk_al (hv : wkR v = true) (hw : wkR { v with al := aa } = true) (hx : itR x = true) (h5 : x.kind ≠ 5) (o1 : alOffer v.al (q : Int) x = ⟨v.al, true, 0, [], 0⟩) (o2 : alOffer aa (q : Int) x = ⟨aa, true, 0, [], 0⟩) (hj : jobOK j.g j.s j.d j.k j.fu j.li j.de j.id = true) (he : (tkJ j v q x).e = 0) :
  tkJ j { v with al := aa } q x = ⟨{ (tkJ j v q x).w with al := aa }, (tkJ j v q x).told, (tkJ j v q x).late, 0⟩ := by
 have e1 := tk_eq hv hx h5 o1 hj
 have e2 := tk_eq (v := { v with al := aa }) hw hx h5 o2 hj
 dsimp only at e2
 rw [e1] at he ⊢
 rw [e2]
 by_cases k1 : x.kind = 1
 ·rw [if_pos k1] at he ⊢
  rw [if_pos k1]
  by_cases hp : putB j (grpV x.key.data.toList j.g) x v.gs ≠ 0
  ·rw [if_pos hp] at he; exact absurd he hp
  ·rw [if_neg hp] at he ⊢
   rw [if_neg hp, go_al (a := v.al), he]
 ·rw [if_neg k1] at he ⊢
  rw [if_neg k1]
  by_cases k2 : x.kind = 2
  ·rw [if_pos k2] at he ⊢
   rw [if_pos k2, go_al (a := v.al), he]
  ·rw [if_neg k2] at he ⊢
   rw [if_neg k2]
   by_cases k3 : x.kind = 3
   ·rw [if_pos k3] at he ⊢
    rw [if_pos k3, go_al (a := v.al), he]
   ·rw [if_neg k3] at he ⊢
    rw [if_neg k3, go_al (a := v.al), he]
theorem scan_app : ∀ {A B : List It} {m t : Int}, scan m A = some t → scan m (A ++ B) = scan t B
 | [], B, m, t, h => by simp only [scan, Option.some.injEq] at h; subst h; rfl
 | x :: A, B, m, t, h => by
  simp only [List.cons_append, scan] at h ⊢
  split
  ·rename_i c
   rw [if_pos c] at h
   split
   ·rename_i c2; rw [if_pos c2] at h; cases h
   ·rename_i c2; rw [if_neg c2] at h; exact scan_app h
  ·rename_i c
   rw [if_neg c] at h
   split
   ·rename_i c2
    rw [if_pos c2] at h
    split
    ·rename_i c3; rw [if_pos c3] at h; cases h
    ·rename_i c3; rw [if_neg c3] at h; exact scan_app h
   ·rename_i c2
    rw [if_neg c2] at h
    exact scan_app h
theorem resT_app {A B : List It} : resT (A ++ B) = resT A ++ resT B := List.filterMap_append
theorem run_list (hR : RW j nos rows) (n : Nat) : ∀ {l d r : List It} {D : List (List It)} {w : Wk} {out : List Rs} {o : List It} {L : List Lt}, Pre D rows → PI j nos D w out → D[q]? = some d → rows[q]? = some (d ++ (l ++ r)) →
  ∃ w' T, rnLoop (wkRun j (n + 1)) (lts (q : Int) l ++ L) w o = rnLoop (wkRun j (n + 1)) L w' (o ++ T) ∧ scan w.told T = some w'.told ∧ PI j nos (D.set q (d ++ l)) w' (out ++ resT T) ∧ Pre (D.set q (d ++ l)) rows
 | [], d, r, D, w, out, o, L, hD, h, hd, hr => by
  obtain ⟨hq, hdq⟩ := List.getElem?_eq_some_iff.1 hd
  refine ⟨w, [], by simp [lts], rfl, ?_, ?_⟩
  ·rw [List.append_nil, ← hdq, List.set_getElem_self]
   simpa [resT] using h
  ·rw [List.append_nil, ← hdq, List.set_getElem_self]
   exact hD
 | x :: l, d, r, D, w, out, o, L, hD, h, hd, hr => by
  obtain ⟨hq, hdq⟩ := List.getElem?_eq_some_iff.1 hd
  obtain ⟨w1, rs, h1, h2, h3, h4, h5, h6⟩ := tell_item hR hD h hd (by simpa using hr) n
  obtain ⟨w', T, g1, g2, g3, g4⟩ := run_list hR n (l := l) (d := d ++ [x]) (r := r) (o := o ++ (rs.map resItem ++ mkTail w.told w1.told)) (L := L) (hD.set hd (by simpa using hr)) h5 (by rw [List.getElem?_set_self (by simpa using hq)]) (by rw [hr]; simp)
  refine ⟨w', (rs.map resItem ++ mkTail w.told w1.told) ++ T, ?_, ?_, ?_, ?_⟩
  ·simp only [lts, List.map_cons, List.cons_append, rnLoop]
   rw [h1, if_neg (by simp)]
   simp only [lts] at g1
   rw [g1, List.append_assoc]
  ·rw [scan_app (t := w1.told) (by rw [scan_res h2, scan_tail h3]), g2]
  ·rw [List.set_set, List.append_assoc, List.singleton_append] at g3
   rw [resT_app (A := rs.map resItem ++ mkTail w.told w1.told), resT_told, ← List.append_assoc]
   exact g3
  ·rw [List.set_set, List.append_assoc, List.singleton_append] at g4
   exact g4
end
def advD (D held : List (List It)) (q : Nat) : List (List It) := (List.range D.length).map fun i => if i < q then D.getD i [] ++ held.getD i [] else D.getD i []
structure Rb where
 r : List It
 b : Nat
def Rb.row (x : Rb) : List It := x.r.take x.b ++ barItem 1 :: x.r.drop x.b
def hdB (RB : List Rb) (at' : List Nat) : Hd := List.zipWith (fun x p => (decide (x.b < p), (x.r.drop x.b).take (p - 1 - x.b))) RB at'
def allB (RB : List Rb) (at' : List Nat) : Bool := (hdB RB at').all Prod.fst
def dB (c : Bool) (RB : List Rb) (at' : List Nat) : List (List It) := List.zipWith (fun x p => x.r.take (if p ≤ x.b then p else if c = true then p - 1 else x.b)) RB at'
section
variable {j : Jb} {nos : List Int} {rows D held : List (List It)} {RB : List Rb} {ts : List Int} {at' : List Nat} {v w : Wk} {k p q : Nat} {x : It} {out : List Rs} {L0 : Nat} {s : Ps}
theorem advD_len : (advD D held q).length = D.length := by simp [advD]
theorem advD_get {i : Nat} (hi : i < D.length) : (advD D held q)[i]? = some (if i < q then D.getD i [] ++ held.getD i [] else D.getD i []) := by
 unfold advD
 rw [List.getElem?_map, List.getElem?_range hi]; rfl
theorem advD_zero : advD D held 0 = D := by
 apply List.ext_getElem?
 intro i
 by_cases hi : i < D.length
 ·rw [advD_get hi, if_neg (Nat.not_lt_zero _)]; simp [List.getD, hi]
 ·rw [List.getElem?_eq_none (by rw [advD_len]; omega), List.getElem?_eq_none (by omega)]
theorem advD_succ {d h : List It} (hd : D[q]? = some d) (hh : held[q]? = some h) : advD D held (q + 1) = (advD D held q).set q (d ++ h) := by
 obtain ⟨hq, _⟩ := List.getElem?_eq_some_iff.1 hd
 apply List.ext_getElem?
 intro i
 rw [List.getElem?_set, advD_len]
 by_cases c : q = i
 ·subst c
  rw [if_pos rfl, if_pos hq, advD_get hq, if_pos (by omega)]
  simp [List.getD, hd, hh]
 ·rw [if_neg c]
  by_cases hi : i < D.length
  ·rw [advD_get hi, advD_get hi]
   by_cases c2 : i < q
   ·rw [if_pos (by omega), if_pos c2]
   ·rw [if_neg (by omega), if_neg c2]
  ·rw [List.getElem?_eq_none (by rw [advD_len]; omega), List.getElem?_eq_none (by rw [advD_len]; omega)]
theorem run_lates (hR : RW j nos rows) (n : Nat) (hl : held.length = D.length) (hnext : ∀ (i : Nat) (d h : List It), D[i]? = some d → held[i]? = some h → ∃ r, rows[i]? = some (d ++ (h ++ r))) (hD : Pre D rows) (h : PI j nos D w out) :
  ∀ q, q ≤ D.length → ∀ (L : List Lt) (o : List It), ∃ w' T, rnLoop (wkRun j (n + 1)) (latesN held q ++ L) w o = rnLoop (wkRun j (n + 1)) L w' (o ++ T) ∧ scan w.told T = some w'.told ∧ PI j nos (advD D held q) w' (out ++ resT T) ∧ Pre (advD D held q) rows := by
 intro q
 induction q with
 | zero =>
  intro _ L o
  refine ⟨w, [], by simp [latesN], rfl, ?_, ?_⟩
  ·rw [advD_zero]; simpa [resT] using h
  ·rw [advD_zero]; exact hD
 | succ q ih =>
  intro hq L o
  have hq1 : q < D.length := by omega
  have hq2 : q < held.length := by omega
  obtain ⟨w1, T1, g1, g2, g3, g4⟩ := ih (by omega) (lts (q : Int) held[q] ++ L) o
  have hd : (advD D held q)[q]? = some D[q] := by rw [advD_get hq1, if_neg (Nat.lt_irrefl _)]; simp [List.getD, hq1]
  obtain ⟨r, hr⟩ := hnext q D[q] held[q] (List.getElem?_eq_getElem hq1) (List.getElem?_eq_getElem hq2)
  obtain ⟨w2, T2, f1, f2, f3, f4⟩ := run_list hR n (o := o ++ T1) (L := L) g4 g3 hd hr
  refine ⟨w2, T1 ++ T2, ?_, by rw [scan_app g2, f2], ?_, ?_⟩
  ·rw [latesN_succ held q hq2, List.append_assoc, g1, f1, List.append_assoc]
  ·rw [advD_succ (List.getElem?_eq_getElem hq1) (List.getElem?_eq_getElem hq2), resT_app, ← List.append_assoc]
   exact f3
  ·rw [advD_succ (List.getElem?_eq_getElem hq1) (List.getElem?_eq_getElem hq2)]
   exact f4
theorem Rb.get_lt {x : Rb} (hb : x.b ≤ x.r.length) (h : p < x.b) : x.row[p]? = x.r[p]? := by
 unfold Rb.row
 rw [List.getElem?_append_left (by rw [List.length_take]; omega), List.getElem?_take_of_lt h]
theorem Rb.get_eq {x : Rb} (hb : x.b ≤ x.r.length) : x.row[x.b]? = some (barItem 1) := by
 unfold Rb.row
 rw [List.getElem?_append_right (by rw [List.length_take]; omega), List.length_take, show x.b - min x.b x.r.length = 0 by omega]
 rfl
theorem Rb.get_gt {x : Rb} (hb : x.b ≤ x.r.length) (h : x.b < p) : x.row[p]? = x.r[p - 1]? := by
 unfold Rb.row
 rw [List.getElem?_append_right (by rw [List.length_take]; omega), List.length_take, show p - min x.b x.r.length = (p - 1 - x.b) + 1 by omega, List.getElem?_cons_succ, List.getElem?_drop]
 congr 1; omega
theorem Rb.len {x : Rb} (hb : x.b ≤ x.r.length) : x.row.length = x.r.length + 1 := by
 unfold Rb.row
 simp only [List.length_append, List.length_take, List.length_cons, List.length_drop]
 omega
theorem row_mem {r : List It} (h : RowOk r) (hx : x ∈ r) : itR x = true ∧ ItV x ∧ x.kind ≠ 5 ∧ x.kind ≠ 4 := by
 obtain ⟨d, t, rfl⟩ := List.append_of_mem hx
 rcases h d x t rfl with ⟨e, rfl, he, _, hv⟩ | ⟨m, rfl, h1, h2⟩
 ·exact ⟨itR_ev he, hv, by show ¬ (1 : Int) = 5; decide, by show ¬ (1 : Int) = 4; decide⟩
 ·have h3 := mkI_rng (h.pre)
  refine ⟨?_, ⟨(show (-9223372036854775808 : Int) ≤ 0 by decide), (show (0 : Int) ≤ 9223372036854775807 by decide)⟩, by show ¬ (2 : Int) = 5; decide, by show ¬ (2 : Int) = 4; decide⟩
  unfold itR markItem
  simp [noR, noE]
  omega
variable {X : Rb}
theorem hd_get (hr : RB[k]? = some X) (hp : at'[k]? = some p) : (hdB RB at')[k]? = some (decide (X.b < p), (X.r.drop X.b).take (p - 1 - X.b)) := by
 unfold hdB; rw [List.getElem?_zipWith, hr, hp]
theorem d_get {c : Bool} (hr : RB[k]? = some X) (hp : at'[k]? = some p) : (dB c RB at')[k]? = some (X.r.take (if p ≤ X.b then p else if c = true then p - 1 else X.b)) := by
 unfold dB; rw [List.getElem?_zipWith, hr, hp]
theorem hd_len (hl : at'.length = RB.length) : (hdB RB at').length = RB.length := by unfold hdB; rw [List.length_zipWith]; omega
theorem d_len {c : Bool} (hl : at'.length = RB.length) : (dB c RB at').length = RB.length := by unfold dB; rw [List.length_zipWith]; omega
theorem zw_set {α β : Type} (F : α → Nat → β) {A : List α} {at' : List Nat} {a : α} {k p' : Nat} (ha : A[k]? = some a) (hk : k < at'.length) : List.zipWith F A (at'.set k p') = (List.zipWith F A at').set k (F a p') := by
 apply List.ext_getElem?
 intro i
 obtain ⟨hA, _⟩ := List.getElem?_eq_some_iff.1 ha
 rw [List.getElem?_set, List.length_zipWith]
 by_cases c : k = i
 ·subst c
  rw [if_pos rfl, if_pos (by omega), List.getElem?_zipWith, ha, List.getElem?_set_self hk]
 ·rw [if_neg c, List.getElem?_zipWith, List.getElem?_zipWith, List.getElem?_set_ne c]
structure RbOk (RB : List Rb) : Prop where
 b : ∀ x ∈ RB, x.b ≤ x.r.length ∧ x.r.length ≤ x.b + 8
 n8 : RB.length ≤ 8
theorem hd_ok (hR : RW j nos (RB.map Rb.r)) (hB : RbOk RB) (hl : at'.length = RB.length) (hc : allB RB at' = false) : HOk (hdB RB at') := by
 have hn1 := hR.n1
 rw [List.length_map] at hn1
 have hmem : ∀ y ∈ hdB RB at', ∃ (X : Rb) (p : Nat), X ∈ RB ∧ y = (decide (X.b < p), (X.r.drop X.b).take (p - 1 - X.b)) := by
  intro y hy
  obtain ⟨i, hi, rfl⟩ := List.getElem_of_mem hy
  rw [hd_len hl] at hi
  refine ⟨RB[i], at'[i]'(by omega), List.getElem_mem hi, ?_⟩
  have := hd_get (k := i) (List.getElem?_eq_getElem hi) (List.getElem?_eq_getElem (show i < at'.length by omega))
  rw [List.getElem?_eq_getElem (by rw [hd_len hl]; exact hi)] at this
  exact Option.some.inj this
 refine ⟨by rw [hd_len hl]; exact hn1, by rw [hd_len hl]; exact hB.n8, ?_, fun y hy => ?_, fun y hy hne => ?_, fun y hy x hx => ?_⟩
 ·unfold allB at hc
  rw [List.all_eq_false] at hc
  obtain ⟨y, hy, h⟩ := hc
  rw [List.any_eq_true]
  exact ⟨y, hy, by simpa using h⟩
 ·obtain ⟨X, p, hX, rfl⟩ := hmem y hy
  have := hB.b X hX
  simp only [List.length_take, List.length_drop]
  omega
 ·obtain ⟨X, p, hX, rfl⟩ := hmem y hy
  simp only [decide_eq_true_eq]
  refine Classical.byContradiction fun h => hne ?_
  dsimp only
  rw [show p - 1 - X.b = 0 by omega, List.take_zero]
 ·obtain ⟨X, p, hX, rfl⟩ := hmem y hy
  have h := row_mem (hR.ok X.r (List.mem_map.2 ⟨X, hX, rfl⟩)) (List.mem_of_mem_drop (List.mem_of_mem_take hx))
  exact ⟨h.1, h.2.1⟩
theorem d_pre {c : Bool} (hl : at'.length = RB.length) : Pre (dB c RB at') (RB.map Rb.r) := by
 refine ⟨by rw [d_len hl, List.length_map], fun i d hd => ?_⟩
 obtain ⟨hi, _⟩ := List.getElem?_eq_some_iff.1 hd
 rw [d_len hl] at hi
 rw [d_get (List.getElem?_eq_getElem hi) (List.getElem?_eq_getElem (show i < at'.length by omega))] at hd
 cases hd
 exact ⟨RB[i].r.drop (if at'[i]'(by omega) ≤ RB[i].b then at'[i]'(by omega) else if c = true then at'[i]'(by omega) - 1 else RB[i].b), by rw [List.getElem?_map, List.getElem?_eq_getElem hi, Option.map_some, List.take_append_drop]⟩
end
def StB (j : Jb) (nos : List Int) (RB : List Rb) (at' : List Nat) (w : Wk) (out : List Rs) : Prop :=
 ∃ v, PI j nos (dB (allB RB at') RB at') v out ∧ w = if allB RB at' = true then v else { v with al := alOf (hdB RB at') }
section
variable {j : Jb} {nos : List Int} {RB : List Rb} {ts : List Int} {at' : List Nat} {v w : Wk} {k p q : Nat} {x : It} {out : List Rs} {L0 : Nat} {s : Ps} {X : Rb} {D : List (List It)} {aa : Al}
theorem all_set {α : Type} {f : α → Bool} {l : List α} {y : α} {k : Nat} (h : l.all f = true) (hy : f y = true) : (l.set k y).all f = true := by
 rw [List.all_eq_true] at h ⊢
 intro a ha
 rcases List.mem_or_eq_of_mem_set ha with h1 | rfl
 ·exact h a h1
 ·exact hy
theorem pi_marks (h : PI j nos D v out) : ∀ g ∈ v.gs, g.mark = v.told := by
 intro g hg
 rw [h.wi.gs] at hg
 obtain ⟨no, _, rfl⟩ := List.mem_map.1 hg
 rfl
theorem go_late (gs : List Gp) (m : Mk) (a : Al) (t : Int) : (wkGo j gs m a t).late = [] := by
 unfold wkGo; split <;> rfl
theorem run_al (hv : wkR v = true) (hw : wkR { v with al := aa } = true) (hx : itR x = true) (h5 : x.kind ≠ 5) (o1 : alOffer v.al (q : Int) x = ⟨v.al, true, 0, [], 0⟩) (o2 : alOffer aa (q : Int) x = ⟨aa, true, 0, [], 0⟩) (hj : jobOK j.g j.s j.d j.k j.fu j.li j.de j.id = true) {n : Nat} {v' : Wk} {T : List It} (h : wkRun j (n + 1) v (q : Int) x = ⟨v', T, 0⟩) :
  wkRun j (n + 1) { v with al := aa } (q : Int) x = ⟨{ v' with al := aa }, T, 0⟩ := by
 have e1 := tk_eq hv hx h5 o1 hj
 have hlate : (tkJ j v q x).e = 0 → (tkJ j v q x).late = [] := by
  intro he
  rw [e1] at he ⊢
  split at he
  ·rename_i c
   rw [if_pos c]
   split at he
   ·rename_i c2; exact absurd he c2
   ·rename_i c2; rw [if_neg c2]; exact go_late _ _ _ _
  ·rename_i c
   rw [if_neg c]
   split
   ·exact go_late _ _ _ _
   ·split <;> exact go_late _ _ _ _
 rw [wkRun] at h ⊢
 unfold rnT at h ⊢
 by_cases he : (tkJ j v q x).e = 0
 ·rw [if_neg (by simp [he]), hlate he] at h
  simp only [rnLoop, RnW.mk.injEq, and_true] at h
  rw [tk_al hv hw hx h5 o1 o2 hj he, if_neg (by simp)]
  dsimp only
  rw [hlate he]
  simp only [rnLoop, RnW.mk.injEq, and_true]
  exact ⟨by rw [← h.1], h.2⟩
 ·rw [if_pos he] at h
  simp only [rnFail, RnW.mk.injEq] at h
  exact absurd h.2.2 he
theorem take_hold (hw : wkR w = true) (hx : itR x = true) (h5 : x.kind ≠ 5) (o : alOffer w.al (q : Int) x = ⟨aa, false, 0, [], 0⟩) (hj : jobOK j.g j.s j.d j.k j.fu j.li j.de j.id = true) (n : Nat) :
  wkRun j (n + 1) w (q : Int) x = ⟨{ w with al := aa }, [], 0⟩ := by
 have c1 : ¬ ((wkR w && itR x) = false ∨ x.kind = 5) := by rw [hw, hx]; simp [h5]
 rw [wkRun]
 unfold rnT tkJ wkTake
 rw [hj, if_neg (show ¬ (true = false) by simp), if_neg c1, o]
 dsimp only
 rw [if_neg (show ¬ ((0 : Int) ≠ 0) by simp), if_neg (show ¬ ((0 : Int) < 0) by simp), if_pos rfl]
 simp [rnLoop]
theorem take_bar {n0 : Int} {L : List Lt} (hw : wkR w = true) (o : alOffer w.al (q : Int) (barItem 1) = ⟨aa, false, 1, L, 0⟩) (hj : jobOK j.g j.s j.d j.k j.fu j.li j.de j.id = true) (n : Nat) :
  wkRun j (n + 1) w (q : Int) (barItem 1) = rnLoop (wkRun j n) L { w with al := aa } [barItem 1] := by
 have c1 : ¬ ((wkR w && itR (barItem 1)) = false ∨ (barItem 1).kind = 5) := by rw [hw]; show ¬ ((true && true) = false ∨ (4 : Int) = 5); decide
 rw [wkRun]
 unfold rnT tkJ wkTake
 rw [hj, if_neg (show ¬ (true = false) by simp), if_neg c1, o]
 dsimp only
 rw [if_neg (show ¬ ((0 : Int) ≠ 0) by simp), if_pos (show (0 : Int) < 1 by decide)]
 simp
theorem held_le {H : Hd} (h : ∀ p ∈ H, p.2.length ≤ 8) : ((H.map Prod.snd).map List.length).sum ≤ 8 * H.length := by
 induction H with
 | nil => simp
 | cons a H ih =>
  have := h a (by simp)
  have := ih fun p hp => h p (by simp [hp])
  simp only [List.map_cons, List.sum_cons, List.length_cons]
  omega
theorem bar_one (hR : RW j nos (RB.map Rb.r)) (hB : RbOk RB) (hl : at'.length = RB.length) (h : StB j nos RB at' w out) (hr : RB[k]? = some X) (hp : at'[k]? = some p) (hx : X.row[p]? = some x) :
  (WkOk w ∧ HV w ∧ heldN w.al < 100 ∧ ItV x) ∧ ∃ w' T, wkRun j 100 w (k : Int) x = ⟨w', T, 0⟩ ∧ scan w.told T = some w'.told ∧ (∀ g ∈ w'.gs, g.mark = w'.told) ∧ StB j nos RB (at'.set k (p + 1)) w' (out ++ resT T) := by
 obtain ⟨v, hv, hw⟩ := h
 obtain ⟨hk, _⟩ := List.getElem?_eq_some_iff.1 hp
 have hkR : k < RB.length := by omega
 have hXm : X ∈ RB := List.mem_of_getElem? hr
 obtain ⟨hXb, hXl⟩ := hB.b X hXm
 have hj := hR.tg.jg.ok
 have hl' : (at'.set k (p + 1)).length = RB.length := by rw [List.length_set]; exact hl
 have hsh : hdB RB (at'.set k (p + 1)) = (hdB RB at').set k (decide (X.b < p + 1), (X.r.drop X.b).take (p + 1 - 1 - X.b)) := zw_set _ hr hk
 have hsd : ∀ c, dB c RB (at'.set k (p + 1)) = (dB c RB at').set k (X.r.take (if p + 1 ≤ X.b then p + 1 else if c = true then p + 1 - 1 else X.b)) := fun c => zw_set _ hr hk
 have hD : Pre (dB (allB RB at') RB at') (RB.map Rb.r) := d_pre hl
 have hok := hD.okk hR hv
 have hrX : (RB.map Rb.r)[k]? = some X.r := by rw [List.getElem?_map, hr]; rfl
 have hro := hR.ok X.r (List.mem_of_getElem? hrX)
 have hdk := fun c => d_get (c := c) hr hp
 have hhk := hd_get hr hp
 have hDl : ∀ c, (dB c RB at').length = RB.length := fun c => d_len hl
 have hHl : (hdB RB at').length = RB.length := hd_len hl
 cases hc : allB RB at'
 ·
  rw [hc] at hv hw hD
  rw [if_neg (by simp)] at hw
  have hH := hd_ok hR hB hl hc
  have hM := hD.mg hR
  have hV := hD.vg hR
  have hvR := hv.wi.right hR.tg.jg hM hV
  have hgot : (alOf (hdB RB at')).got.length = v.mks.ins.length := by
   rw [hv.wi.mks]
   unfold alOf
   dsimp only
   rw [List.length_map, List.length_map, List.length_map, hHl, hDl]
  have hwR : wkR { v with al := alOf (hdB RB at') } = true := wkR_al hvR hH.al hgot
  have h8 := hH.n8
  have hwok : WkOk w ∧ HV w ∧ heldN w.al < 100 := by
   rw [hw]
   refine ⟨⟨hok.1.gs, hok.1.ps, hok.1.ins, hok.1.hs, ?_, ?_, ?_⟩, ?_, ?_⟩
   ·show ((hdB RB at').map Prod.fst).length ≤ _
    rw [List.length_map]; omega
   ·show ((hdB RB at').map Prod.snd).length ≤ _
    rw [List.length_map]; omega
   ·intro l hl2
    obtain ⟨y, hy, rfl⟩ := List.mem_map.1 (show l ∈ (hdB RB at').map Prod.snd from hl2)
    have := hH.len y hy
    omega
   ·intro l hl2 z hz
    obtain ⟨y, hy, rfl⟩ := List.mem_map.1 (show l ∈ (hdB RB at').map Prod.snd from hl2)
    exact (hH.ok y hy z hz).2
   ·have := held_le hH.len
    show (((hdB RB at').map Prod.snd).map List.length).sum < 100
    omega
  have hwt : w.told = v.told := by rw [hw]
  have same : ∀ (b : Nat) (c : Bool), (if p ≤ X.b then p else if false = true then p - 1 else X.b) = b → (dB false RB at').set k (X.r.take b) = dB false RB at' := by
   intro b c e
   obtain ⟨hq, he⟩ := List.getElem?_eq_some_iff.1 (hdk false)
   rw [e] at he
   rw [← he, List.set_getElem_self]
  rcases Nat.lt_trichotomy p X.b with hpb | hpb | hpb
  ·rw [Rb.get_lt hXb hpb] at hx
   obtain ⟨hpl, hxe⟩ := List.getElem?_eq_some_iff.1 hx
   have hxm : x ∈ X.r := List.mem_of_getElem? hx
   obtain ⟨i1, i2, i3, i4⟩ := row_mem hro hxm
   have hhk2 : (hdB RB at')[k]? = some (false, []) := by
    rw [hhk, show decide (X.b < p) = false by simp; omega, show p - 1 - X.b = 0 by omega]; simp
   have hd : (dB false RB at')[k]? = some (X.r.take p) := by rw [hdk, if_pos (by omega)]
   have hrow : (RB.map Rb.r)[k]? = some (X.r.take p ++ x :: X.r.drop (p + 1)) := by
    rw [hrX]
    congr 1
    conv => lhs; rw [← List.take_append_drop p X.r, List.drop_eq_getElem_cons hpl, hxe]
   obtain ⟨v', rs, h1, h2, h3, h4, h5, h6⟩ := tell_item hR hD hv hd hrow 99
   have hqm : k < ((dB false RB at').map mkI).length := by rw [List.length_map, hDl]; exact hkR
   have o1 := al_pass hM hv.wi hvR hqm i1 i4
   have o2 := offer_pass hH hhk2 i1 i4
   have hrun := run_al hvR hwR i1 i3 o1 o2 hj h1
   refine ⟨⟨hwok.1, hwok.2.1, hwok.2.2, i2⟩, { v' with al := alOf (hdB RB at') }, rs.map resItem ++ mkTail v.told v'.told, by rw [hw]; exact hrun, ?_, ?_, v', ?_, ?_⟩
   ·rw [hwt, scan_res h2, scan_tail h3]
   ·exact fun g hg => pi_marks h5 g hg
   ·have hH' : hdB RB (at'.set k (p + 1)) = hdB RB at' := by
     rw [hsh, show decide (X.b < p + 1) = false by simp; omega, show p + 1 - 1 - X.b = 0 by omega, List.take_zero]
     obtain ⟨hq, he⟩ := List.getElem?_eq_some_iff.1 hhk2
     rw [← he, List.set_getElem_self]
    have hc' : allB RB (at'.set k (p + 1)) = false := by unfold allB at hc ⊢; rw [hH']; exact hc
    rw [hc', hsd, if_pos (by omega), resT_told, take_snoc X.r p hpl, hxe]
    exact h5
   ·have hH' : hdB RB (at'.set k (p + 1)) = hdB RB at' := by
     rw [hsh, show decide (X.b < p + 1) = false by simp; omega, show p + 1 - 1 - X.b = 0 by omega, List.take_zero]
     obtain ⟨hq, he⟩ := List.getElem?_eq_some_iff.1 hhk2
     rw [← he, List.set_getElem_self]
    have hc' : allB RB (at'.set k (p + 1)) = false := by unfold allB at hc ⊢; rw [hH']; exact hc
    rw [hc', if_neg (by simp), hH']
  ·subst hpb
   rw [Rb.get_eq hXb] at hx
   cases hx
   have hhk2 : (hdB RB at')[k]? = some (false, []) := by
    rw [hhk, show decide (X.b < X.b) = false by simp, show X.b - 1 - X.b = 0 by omega]; simp
   have hsh2 : hdB RB (at'.set k (X.b + 1)) = (hdB RB at').set k (true, []) := by
    rw [hsh, show decide (X.b < X.b + 1) = true by simp, show X.b + 1 - 1 - X.b = 0 by omega, List.take_zero]
   have hob := offer_bar hH hhk2
   have hneg : ∀ L : Hd, L.all Prod.fst = !(L.any fun p => !p.1) := by
    intro L
    induction L with
    | nil => rfl
    | cons a L ih => rw [List.all_cons, List.any_cons, ih]; cases a.1 <;> simp
   have hallb : allB RB (at'.set k (X.b + 1)) = !(((hdB RB at').set k (true, [])).any fun p => !p.1) := by
    unfold allB; rw [hsh2]; exact hneg _
   have hItB : ItV (barItem 1) := ⟨(show (-9223372036854775808 : Int) ≤ 0 by decide), (show (0 : Int) ≤ 9223372036854775807 by decide)⟩
   by_cases hany : ((hdB RB at').set k (true, [])).any (fun p => !p.1) = true
   ·rw [if_pos hany] at hob
    rw [hany] at hallb
    have hrun := take_hold (w := { v with al := alOf (hdB RB at') }) hwR (show itR (barItem 1) = true from rfl) (show ¬ ((4 : Int) = 5) by decide) hob hj 99
    refine ⟨⟨hwok.1, hwok.2.1, hwok.2.2, hItB⟩, _, [], by rw [hw]; exact hrun, by rw [hwt]; rfl, ?_, v, ?_, ?_⟩
    ·exact fun g hg => pi_marks hv g hg
    ·rw [hallb]
     show PI j nos (dB false RB (at'.set k (X.b + 1))) v (out ++ [])
     rw [hsd, if_neg (by omega), if_neg (by simp), List.append_nil, same X.b false (by rw [if_pos (Nat.le_refl _)])]
     exact hv
    ·rw [hallb, if_neg (by simp), hsh2]
   ·rw [if_neg hany] at hob
    have hallb : allB RB (at'.set k (X.b + 1)) = true := by
     rw [hallb]; simpa using hany
    have hrun := take_bar (n0 := 0) (w := { v with al := alOf (hdB RB at') }) hwR hob hj 99
    have hval : ({ v with al := ⟨0, newGot (hdB RB at').length, newHeld (hdB RB at').length⟩ } : Wk) = v := by
     have := hv.wi.al
     rw [List.length_map, hDl] at this
     have hn1 := hH.n1
     unfold newGot newHeld
     rw [if_pos (by omega), if_pos (by omega), hHl, Int.toNat_natCast, ← this]
    dsimp only at hrun
    rw [hval] at hrun
    have hheld : ((hdB RB at').map Prod.snd).length = (dB false RB at').length := by rw [List.length_map, hHl, hDl]
    have others : ∀ (i : Nat) (Y : Rb) (r : Nat), i ≠ k → RB[i]? = some Y → at'[i]? = some r → Y.b < r := by
     intro i Y r hik hY hri
     unfold allB at hallb
     rw [hsh2, List.all_eq_true] at hallb
     have h1 : ((hdB RB at').set k (true, []))[i]? = some (decide (Y.b < r), (Y.r.drop Y.b).take (r - 1 - Y.b)) := by
      rw [List.getElem?_set_ne (Ne.symm hik), hd_get hY hri]
     have := hallb _ (List.mem_of_getElem? h1)
     simpa using this
    have hnext : ∀ (i : Nat) (d hh : List It), (dB false RB at')[i]? = some d → ((hdB RB at').map Prod.snd)[i]? = some hh → ∃ r, (RB.map Rb.r)[i]? = some (d ++ (hh ++ r)) := by
     intro i d hh h1 h2
     obtain ⟨hi, _⟩ := List.getElem?_eq_some_iff.1 h1
     rw [hDl] at hi
     obtain ⟨Y, hY⟩ : ∃ Y, RB[i]? = some Y := ⟨_, List.getElem?_eq_getElem hi⟩
     obtain ⟨r, hri⟩ : ∃ r, at'[i]? = some r := ⟨_, List.getElem?_eq_getElem (show i < at'.length by omega)⟩
     rw [d_get hY hri] at h1
     rw [List.getElem?_map, hd_get hY hri, Option.map_some] at h2
     cases h1; cases h2
     have hb2 : (if r ≤ Y.b then r else if false = true then r - 1 else Y.b) = Y.b := by
      by_cases c : i = k
      ·subst c
       rw [hr] at hY; cases hY
       rw [hp] at hri; cases hri
       rw [if_pos (Nat.le_refl _)]
      ·have := others i Y r c hY hri
       rw [if_neg (by omega), if_neg (by simp)]
     rw [hb2]
     refine ⟨(Y.r.drop Y.b).drop (r - 1 - Y.b), ?_⟩
     rw [List.take_append_drop, List.take_append_drop, List.getElem?_map, hY]; rfl
    obtain ⟨w', T, g1, g2, g3, g4⟩ := run_lates hR 98 hheld hnext hD hv (dB false RB at').length (Nat.le_refl _) [] [barItem 1]
    rw [List.append_nil] at g1
    have hadv : advD (dB false RB at') ((hdB RB at').map Prod.snd) (dB false RB at').length = dB true RB (at'.set k (X.b + 1)) := by
     apply List.ext_getElem?
     intro i
     by_cases hi : i < RB.length
     ·rw [advD_get (by rw [hDl]; exact hi), if_pos (by rw [hDl]; exact hi)]
      obtain ⟨Y, hY⟩ : ∃ Y, RB[i]? = some Y := ⟨_, List.getElem?_eq_getElem hi⟩
      obtain ⟨r, hri⟩ : ∃ r, at'[i]? = some r := ⟨_, List.getElem?_eq_getElem (show i < at'.length by omega)⟩
      have e1 : (dB false RB at').getD i [] = Y.r.take (if r ≤ Y.b then r else if false = true then r - 1 else Y.b) := by
       rw [List.getD_eq_getElem?_getD, d_get hY hri]; rfl
      have e2 : ((hdB RB at').map Prod.snd).getD i [] = (Y.r.drop Y.b).take (r - 1 - Y.b) := by
       rw [List.getD_eq_getElem?_getD, List.getElem?_map, hd_get hY hri]; rfl
      rw [e1, e2]
      by_cases c : i = k
      ·subst c
       rw [hr] at hY; cases hY
       rw [hp] at hri; cases hri
       rw [d_get hr (List.getElem?_set_self hk), if_pos (Nat.le_refl _), if_neg (by omega), if_pos rfl, show X.b - 1 - X.b = 0 by omega, List.take_zero, List.append_nil]
       rfl
      ·have := others i Y r c hY hri
       rw [d_get hY (by rw [List.getElem?_set_ne (Ne.symm c)]; exact hri), if_neg (by omega), if_neg (by simp), if_neg (by omega), if_pos rfl]
       congr 1
       rw [show r - 1 = Y.b + (r - 1 - Y.b) by omega, List.take_add]
       congr 2
       omega
     ·rw [List.getElem?_eq_none (by rw [advD_len, hDl]; omega), List.getElem?_eq_none (by rw [d_len hl']; omega)]
    rw [hadv] at g3
    rw [hHl, ← hDl false, g1] at hrun
    refine ⟨⟨hwok.1, hwok.2.1, hwok.2.2, hItB⟩, w', barItem 1 :: T, by rw [hw]; exact hrun, ?_, ?_, w', ?_, ?_⟩
    ·rw [hwt]
     simp only [scan]
     rw [if_neg (show ¬ (barItem 1).kind = 5 by show ¬ (4 : Int) = 5; decide), if_neg (show ¬ (barItem 1).kind = 2 by show ¬ (4 : Int) = 2; decide)]
     exact g2
    ·exact pi_marks g3
    ·rw [hallb]
     exact g3
    ·rw [hallb, if_pos rfl]
  ·rw [Rb.get_gt hXb hpb] at hx
   obtain ⟨hpl, hxe⟩ := List.getElem?_eq_some_iff.1 hx
   have hxm : x ∈ X.r := List.mem_of_getElem? hx
   obtain ⟨i1, i2, i3, i4⟩ := row_mem hro hxm
   have hhk2 : (hdB RB at')[k]? = some (true, (X.r.drop X.b).take (p - 1 - X.b)) := by
    rw [hhk, show decide (X.b < p) = true by simp; omega]
   have hll : ((X.r.drop X.b).take (p - 1 - X.b)).length ≤ 8 := hH.len _ (List.mem_of_getElem? hhk2)
   have hoh := offer_hold hH hhk2 i1 hll
   have hsnoc : (X.r.drop X.b).take (p + 1 - 1 - X.b) = (X.r.drop X.b).take (p - 1 - X.b) ++ [x] := by
    rw [show p + 1 - 1 - X.b = (p - 1 - X.b) + 1 by omega, take_snoc (X.r.drop X.b) (p - 1 - X.b) (by rw [List.length_drop]; omega)]
    congr 2
    rw [List.getElem_drop]
    have e3 : X.b + (p - 1 - X.b) = p - 1 := by omega
    simp only [e3]
    exact hxe
   have hsh2 : hdB RB (at'.set k (p + 1)) = (hdB RB at').set k (true, (X.r.drop X.b).take (p - 1 - X.b) ++ [x]) := by
    rw [hsh, hsnoc, show decide (X.b < p + 1) = true by simp; omega]
   have hc' : allB RB (at'.set k (p + 1)) = false := by
    have e0 : ∀ L : Hd, L.all Prod.fst = (L.map Prod.fst).all _root_.id := fun L => by rw [List.all_map]; rfl
    have e1 : (hdB RB (at'.set k (p + 1))).map Prod.fst = (hdB RB at').map Prod.fst := by
     rw [hsh2, List.map_set]
     obtain ⟨hq, he⟩ := List.getElem?_eq_some_iff.1 hhk2
     have : true = ((hdB RB at').map Prod.fst)[k]'(by rw [List.length_map]; exact hq) := by simp [he]
     conv => lhs; rw [show ((true, (X.r.drop X.b).take (p - 1 - X.b) ++ [x]) : Bool × List It).1 = ((hdB RB at').map Prod.fst)[k]'(by rw [List.length_map]; exact hq) from this, List.set_getElem_self]
    unfold allB at hc ⊢
    rw [e0, e1, ← e0]; exact hc
   have hrun := take_hold (w := { v with al := alOf (hdB RB at') }) hwR i1 i3 hoh hj 99
   refine ⟨⟨hwok.1, hwok.2.1, hwok.2.2, i2⟩, _, [], by rw [hw]; exact hrun, by rw [hwt]; rfl, ?_, v, ?_, ?_⟩
   ·exact fun g hg => pi_marks hv g hg
   ·rw [hc']
    show PI j nos (dB false RB (at'.set k (p + 1))) v (out ++ [])
    rw [hsd, if_neg (by omega), if_neg (by simp), List.append_nil, same X.b false (by rw [if_neg (by omega), if_neg (by simp)])]
    exact hv
   ·rw [hc', if_neg (by simp), hsh2]
 ·
  rw [hc] at hv hw hD
  rw [if_pos rfl] at hw
  subst hw
  have hpb : X.b < p := by
   have h1 := hc
   unfold allB at h1
   rw [List.all_eq_true] at h1
   have := h1 _ (List.mem_of_getElem? hhk)
   simpa using this
  rw [Rb.get_gt hXb hpb] at hx
  obtain ⟨hpl, hxe⟩ := List.getElem?_eq_some_iff.1 hx
  have hd : (dB true RB at')[k]? = some (X.r.take (p - 1)) := by rw [hdk, if_neg (by omega), if_pos rfl]
  have hrow : (RB.map Rb.r)[k]? = some (X.r.take (p - 1) ++ x :: X.r.drop (p - 1 + 1)) := by
   rw [hrX]
   congr 1
   conv => lhs; rw [← List.take_append_drop (p - 1) X.r, List.drop_eq_getElem_cons hpl, hxe]
  obtain ⟨w', rs, h1, h2, h3, h4, h5, h6⟩ := tell_item hR hD hv hd hrow 99
  refine ⟨⟨hok.1, hok.2.1, by have := hok.2.2; omega, h6⟩, w', _, h1, by rw [scan_res h2, scan_tail h3], pi_marks h5, w', ?_, ?_⟩
  ·have hc' : allB RB (at'.set k (p + 1)) = true := by
    unfold allB at hc ⊢
    rw [hsh]
    exact all_set hc (by simp; omega)
   have hts : X.r.take p = X.r.take (p - 1) ++ [x] := by
    have := take_snoc X.r (p - 1) hpl
    rw [show p - 1 + 1 = p by omega, hxe] at this
    exact this
   rw [hc', hsd, if_neg (by omega), if_pos rfl, resT_told, show p + 1 - 1 = p by omega, hts]
   exact h5
  ·have hc' : allB RB (at'.set k (p + 1)) = true := by
    unfold allB at hc ⊢
    rw [hsh]
    exact all_set hc (by simp; omega)
   rw [hc', if_pos rfl]
end
structure BarI (j : Jb) (nos : List Int) (RB : List Rb) (ts : List Int) (L0 : Nat) (s : Ps) : Prop where
 pot : Pot (RB.map Rb.row) ts L0 s
 st : StB j nos RB s.at' s.w s.out
section
variable {j : Jb} {nos : List Int} {RB : List Rb} {ts : List Int} {L0 : Nat} {s : Ps}
theorem stb_w {at' : List Nat} {w : Wk} {out : List Rs} (hR : RW j nos (RB.map Rb.r)) (h : StB j nos RB at' w out) : w.gs.length ≤ 32 ∧ out.length ≤ 64000 := by
 obtain ⟨v, hv, hw⟩ := h
 have h1 := nos_len hR.tg.jg
 have h2 := outD_len (j := j) hR.tg.jg (allVals j.s j.d ((dB (allB RB at') RB at').flatMap evsI)) v.told
 have h3 := hv.out.length_eq
 refine ⟨?_, by omega⟩
 have e : w.gs = v.gs := by rw [hw]; split <;> rfl
 rw [e, hv.wi.gs, List.length_map]
 exact h1
theorem bar_play (hR : RW j nos (RB.map Rb.r)) (hB : RbOk RB) : PlayI j 100 (RB.map Rb.row) ts (fun _ => true) L0 (BarI j nos RB ts L0) := by
 have hn : 0 < (RB.map Rb.row).length := by have := hR.n1; rw [List.length_map] at this ⊢; exact this
 have hget : ∀ (k : Nat) (r : List It), (RB.map Rb.row)[k]? = some r → ∃ X, RB[k]? = some X ∧ r = X.row := fun k r h => by
  rw [List.getElem?_map] at h
  obtain ⟨X, hX, rfl⟩ := Option.map_eq_some_iff.1 h
  exact ⟨X, hX, rfl⟩
 refine ⟨fun s h => h.pot, fun s h h0 => ?_, fun s k r p x h hr hp hx hm => ?_, fun s h => ?_, fun s h => ?_⟩
 ·refine ⟨(h.pot.step hn h0).1, ?_⟩
  have hal := h.pot.al
  have hk := turn_lt (ts := ts) (i := s.i) hn
  obtain ⟨r, hr⟩ : ∃ r, (RB.map Rb.row)[turn ts s.i (RB.map Rb.row).length]? = some r := ⟨_, List.getElem?_eq_getElem hk⟩
  obtain ⟨p, hp⟩ : ∃ p, s.at'[turn ts s.i (RB.map Rb.row).length]? = some p := ⟨_, List.getElem?_eq_getElem (by rw [hal]; exact hk)⟩
  have er : (RB.map Rb.row).getD (turn ts s.i (RB.map Rb.row).length) [] = r := by rw [List.getD_eq_getElem?_getD, hr]; rfl
  have ep : s.at'.getD (turn ts s.i (RB.map Rb.row).length) 0 = p := by rw [List.getD_eq_getElem?_getD, hp]; rfl
  unfold pstep
  dsimp only
  rw [er, ep]
  cases hx : r[p]? with
  | none => exact h.st
  | some x =>
   dsimp only
   rw [if_pos rfl]
   obtain ⟨X, hX, rfl⟩ := hget _ _ hr
   obtain ⟨_, w', T, h1, _, _, h2⟩ := bar_one hR hB (by rw [hal, List.length_map]) h.st hX hp hx
   rw [h1]
   exact h2
 ·obtain ⟨X, hX, rfl⟩ := hget _ _ hr
  obtain ⟨h1, w', T, h2, h3, h4, _⟩ := bar_one hR hB (by rw [h.pot.al, List.length_map]) h.st hX hp hx
  exact ⟨h1, w', T, h2, h3, h4⟩
 ·have := (stb_w hR h.st).2; omega
 ·have := (stb_w hR h.st).1; omega
theorem zw_zero {α β : Type} (F : α → Nat → β) : ∀ (A : List α), List.zipWith F A (List.replicate A.length 0) = A.map fun a => F a 0
 | [] => rfl
 | a :: A => by simp only [List.length_cons, List.replicate_succ, List.zipWith_cons_cons, zw_zero F A, List.map_cons]
theorem bar_end (hR : RW j nos (RB.map Rb.r)) (hB : RbOk RB) (hend : ∀ r ∈ RB.map Rb.r, mkI r = 1099511627776) {w0 : Wk} (hW : WI j nos [] (List.replicate RB.length 0) w0) (n : Nat) (hL : L0 = leftN (RB.map Rb.row) (List.replicate RB.length 0)) (hN : ts.length + RB.length + RB.length * L0 + 1 ≤ n) :
  BarI j nos RB ts L0 ⟨List.replicate RB.length 0, L0, 0, w0, []⟩ ∧ (playN j 100 (RB.map Rb.row) ts (fun _ => true) n ⟨List.replicate RB.length 0, L0, 0, w0, []⟩).w.told = 1099511627776 ∧
  (playN j 100 (RB.map Rb.row) ts (fun _ => true) n ⟨List.replicate RB.length 0, L0, 0, w0, []⟩).out.Perm (outD j nos (allVals j.s j.d ((RB.map Rb.r).flatMap evsI)) 1099511627776) := by
 have hil : (RB.map Rb.row).length = RB.length := List.length_map _
 have hn1 := hR.n1
 rw [List.length_map] at hn1
 have hn : 0 < (RB.map Rb.row).length := by omega
 have hrepE : ∀ n : Nat, (List.replicate n ([] : List It)).flatMap evsI = [] := by
  intro n
  induction n with
  | zero => rfl
  | succ n ih => rw [List.replicate_succ, List.flatMap_cons, ih]; rfl
 have hH0 : hdB RB (List.replicate RB.length 0) = List.replicate RB.length (false, []) := by
  unfold hdB
  rw [zw_zero, List.eq_replicate_iff]
  refine ⟨by simp, fun y hy => ?_⟩
  obtain ⟨X, _, rfl⟩ := List.mem_map.1 hy
  rw [show 0 - 1 - X.b = 0 by omega]; simp
 have hc0 : allB RB (List.replicate RB.length 0) = false := by
  unfold allB
  rw [hH0, List.all_eq_false]
  exact ⟨(false, []), by rw [List.mem_replicate]; exact ⟨by omega, rfl⟩, by simp⟩
 have hd0 : dB false RB (List.replicate RB.length 0) = List.replicate RB.length [] := by
  unfold dB
  rw [zw_zero, List.eq_replicate_iff]
  refine ⟨by simp, fun y hy => ?_⟩
  obtain ⟨X, _, rfl⟩ := List.mem_map.1 hy
  simp
 have hw0 : ({ w0 with al := alOf (hdB RB (List.replicate RB.length 0)) } : Wk) = w0 := by
  have := hW.al
  rw [List.length_replicate] at this
  have e : alOf (hdB RB (List.replicate RB.length 0)) = w0.al := by
   rw [hH0, this]
   unfold alOf
   have e1 : (List.replicate RB.length ((false, []) : Bool × List It)).any Prod.fst = false := by
    rw [List.any_eq_false]
    intro y hy
    rw [List.eq_of_mem_replicate hy]; simp
   rw [e1, List.map_replicate, List.map_replicate]
   rfl
  rw [e]
 have h0 : BarI j nos RB ts L0 ⟨List.replicate RB.length 0, L0, 0, w0, []⟩ := by
  refine ⟨⟨by simp, hL, Nat.le_refl _, .inl (Nat.zero_le _)⟩, w0, ⟨?_, ?_⟩, ?_⟩
  ·dsimp only
   rw [hc0, hd0, hrepE, List.map_replicate]
   exact hW
  ·dsimp only
   rw [hc0, hd0, hrepE]
   have e : outD j nos (allVals j.s j.d []) w0.told = [] := by
    unfold outD
    rw [List.flatMap_eq_nil_iff]
    intro no _
    show resultsL j.k (dueA (rowV j.k []) w0.told) = []
    exact resultsL_nil j.k
   rw [e]
  ·dsimp only
   rw [hc0, if_neg (by simp), hw0]
 have hE := playN_inv (bar_play (ts := ts) (L0 := L0) hR hB).step n _ h0
 have hlf := playN_end (j := j) (f := 100) (mine := fun _ => true) hn n ⟨List.replicate RB.length 0, L0, 0, w0, []⟩ h0.pot (by dsimp only; rw [hil]; omega)
 generalize playN j 100 (RB.map Rb.row) ts (fun _ => true) n ⟨List.replicate RB.length 0, L0, 0, w0, []⟩ = R at *
 have hal : R.at'.length = RB.length := by rw [hE.pot.al, hil]
 have hfin := left_none hE.pot.al (by rw [← hE.pot.lf]; exact hlf)
 have hp : ∀ (i : Nat) (X : Rb) (p : Nat), RB[i]? = some X → R.at'[i]? = some p → X.b < p ∧ X.r.length ≤ p - 1 := by
  intro i X p hX hpi
  have h1 := hfin i X.row p (by rw [List.getElem?_map, hX]; rfl) hpi
  have h2 := hB.b X (List.mem_of_getElem? hX)
  rw [Rb.len h2.1] at h1
  omega
 have hall : allB RB R.at' = true := by
  unfold allB
  rw [List.all_eq_true]
  intro y hy
  obtain ⟨i, hi, rfl⟩ := List.getElem_of_mem hy
  rw [hd_len hal] at hi
  have h1 := hd_get (k := i) (List.getElem?_eq_getElem hi) (List.getElem?_eq_getElem (show i < R.at'.length by omega))
  rw [List.getElem?_eq_getElem (by rw [hd_len hal]; exact hi)] at h1
  rw [Option.some.inj h1]
  simp only [decide_eq_true_eq]
  exact (hp i _ _ (List.getElem?_eq_getElem hi) (List.getElem?_eq_getElem (show i < R.at'.length by omega))).1
 have hfull : dB true RB R.at' = RB.map Rb.r := by
  apply List.ext_getElem?
  intro i
  by_cases hi : i < RB.length
  ·have hX := List.getElem?_eq_getElem hi
   have hpi := List.getElem?_eq_getElem (show i < R.at'.length by omega)
   have h1 := hp i _ _ hX hpi
   rw [d_get hX hpi, if_neg (by omega), if_pos rfl, List.take_of_length_le h1.2, List.getElem?_map, hX]; rfl
  ·rw [List.getElem?_eq_none (by rw [d_len hal]; omega), List.getElem?_eq_none (by rw [List.length_map]; omega)]
 obtain ⟨v, hv, hw⟩ := hE.st
 rw [hall, hfull] at hv
 rw [hall, if_pos rfl] at hw
 rw [hw]
 exact ⟨h0, told_all hR hv hend⟩
end
end Go.Proofs.YtilgagmfcdfjaaaGreat
