/-
  Aligners, walked over abstract values: an item that is offered.
  Aligners, walked over abstract values: an item that is offered, whole.
  Aligners, walked over abstract values: an item that is offered, in all cases.
  More of the text WnI.
-/
import Derived.Test.YtilgagmfcdfjaaaGreatL4
import Derived.Test.YtilgagmfcdfjaaaGreatL5
import Derived.Test.YtilgagmfcdfjaaaGreatL6
import Derived.Test.YtilgagmfcdfjaaaGreatL8
import Derived.Test.YtilgagmfcdfjaaaGreatL12
import Derived.Test.YtilgagmfcdfjaaaGreatL13
namespace Go.Proofs.YtilgagmfcdfjaaaGreat
open Go.RowKit
set_option linter.unusedSimpArgs false
set_option linter.unusedVariables false
theorem l_has (a : Al) (i : Int) (hg : a.got.length ≤ 9223372036854775807) (hh : a.held.length ≤ 9223372036854775807) (hi : ∀ l ∈ a.held, l.length ≤ 9223372036854775807) : PC Tryz.prog 98 [.agg a.av, .v (.int .i64 i)] (.v (.bool (alHas a i))) := by
  have h := l_Right a hg hh hi
  obtain ⟨n, got, held⟩ := a
  have n1 : (got.map boAv).length = got.length := List.length_map _
  unfold alHas
  simp only [Al.av] at h ⊢
  cases hr : alR ⟨n, got, held⟩
  all_goals
    rw [hr] at h
    refine PC.mk (ac_body tab_ok Tryz.func98 rfl (by kernel_rfl) rfl ?_); intro w0 M μ0; simp only [Tryz.ntmps98, List.length_cons, List.length_nil, Nat.reduceAdd, Nat.reduceSub, numb]
    repeat' (first | ((first | apply o_do | apply d_do | apply d_yes rfl rfl rfl); first | exact lsc (h) | exact lsq) | refine a_seq ?_ | refine a_region ?_ | refine o_nil ?_ | refine a_block ?_ | refine a_ret ?_ | refine a_exit ?_ | refine a_skip ?_ | refine a_draw mixed ?_ | refine d_nil (by kernel_rfl) ?_ | refine o_yes rfl rfl rfl ?_ | refine o_no rfl rfl rfl (by decide) ?_ | refine o_no' rfl rfl rfl ?_ | refine a_condT rfl ?_ | refine a_condF rfl ?_ | refine d_no rfl rfl rfl (by decide) ?_ | refine d_no' rfl rfl rfl ?_ | (refine wq2 (fun hb => ?_) (fun hb => ?_) <;> (simp only [hb]; try simp only [hbs, ne_eq] at hb; try (exfalso; first | omega | exact hb trivial))) | fail)
    all_goals refine rq rfl ?_
    all_goals (first | refine FinA.tup ?_ | refine FinA.one ?_); repeat' (first | exact FinBs.nil | exact FinCs.nil | refine FinBs.cons ?_ ?_ | refine FinCs.cons ?_ ?_ | refine FinB.cell (FinC.v ?_) | refine FinB.cell (FinC.own rfl rfl rfl ?_) | exact FinB.cell FinC.nil | refine FinB.cell (FinC.sl ?_) | exact FinB.agg' rfl rfl | exact FinB.cell (FinC.same rfl) | refine FinB.agg ?_ | refine FinC.v ?_ | refine FinC.own rfl rfl rfl ?_ | exact FinC.nil | refine FinC.sl ?_ | exact FinC.same rfl); all_goals try rfl
    all_goals simp [*]
theorem l_own (n : Int) (a b : List (List AV)) (ha : a.length ≤ 1000000) (hb : b.length ≤ 1000000) : AC Tryz.prog 99 [.agg [.v (.int .i64 n), .sl 1 a, .sl 1 b]] [] (.ref 0 0) [(0, .box 182 [.v (.int .i64 n), .own 1 a.length, .own 2 b.length]), (1, .row 4 1 a), (2, .row 53 1 b)] := by
  have h1 := cl_Boo a ha
  have h2 := cl_Its b hb
  refine (ac_body tab_ok Tryz.func99 rfl (by kernel_rfl) rfl ?_); intro w0 M μ0; simp only [Tryz.ntmps99, List.length_cons, List.length_nil, Nat.reduceAdd, Nat.reduceSub, numb]
  repeat' (first | ((first | apply o_do | apply d_do | apply d_yes rfl rfl rfl); first | exact ls_box (k := 3) rfl rfl rfl rfl | exact ls_callA [] 1 h1 rfl rfl (by (repeat' (first | exact NilL.nil | refine NilL.cons Nil.same ?_ | refine NilL.cons Nil.nil ?_ | refine NilL.cons (Nil.agg ?_) ?_ | exact Nil1s.nil | refine Nil1s.cons Nil1.same ?_ | refine Nil1s.cons Nil1.nil ?_)); first | done | fail) rfl (by repeat' (first | exact trivial | refine ⟨⟨_, rfl, by first | rfl | (simp [renO, *]; done)⟩, ?_⟩)) (by first | rfl | simp [closO, *]) rfl rfl rfl rfl (by first | rfl | simp [closO, *]) rfl | exact ls_callA [] 2 h2 rfl rfl (by (repeat' (first | exact NilL.nil | refine NilL.cons Nil.same ?_ | refine NilL.cons Nil.nil ?_ | refine NilL.cons (Nil.agg ?_) ?_ | exact Nil1s.nil | refine Nil1s.cons Nil1.same ?_ | refine Nil1s.cons Nil1.nil ?_)); first | done | fail) rfl (by repeat' (first | exact trivial | refine ⟨⟨_, rfl, by first | rfl | (simp [renO, *]; done)⟩, ?_⟩)) (by first | rfl | simp [closO, *]) rfl rfl rfl rfl (by first | rfl | simp [closO, *]) rfl | exact ls_box (k := 0) rfl rfl rfl rfl | exact lsq) | refine a_seq ?_ | refine a_region ?_ | refine o_nil ?_ | refine a_block ?_ | refine a_ret ?_ | refine a_exit ?_ | refine a_skip ?_ | refine a_draw mixed ?_ | refine d_nil (by kernel_rfl) ?_ | refine o_yes rfl rfl rfl ?_ | refine o_no rfl rfl rfl (by decide) ?_ | refine o_no' rfl rfl rfl ?_ | refine a_condT rfl ?_ | refine a_condF rfl ?_ | refine d_no rfl rfl rfl (by decide) ?_ | refine d_no' rfl rfl rfl ?_ | (refine wq2 (fun hb => ?_) (fun hb => ?_) <;> (simp only [hb]; try simp only [hbs, ne_eq] at hb; try (exfalso; first | omega | exact hb trivial))) | fail)
  refine rq rfl ?_
  exact fnq
set_option maxHeartbeats 2000000 in
theorem l_late (n : Int) (a : List (List AV)) (held : List (List It)) (k : Nat) (hk : k < held.length) (hl : held[k].length ≤ 16) : AC Tryz.prog 102 [.ref 0 0, .v (.int .i64 k)] [(0, .box 182 [.v (.int .i64 n), .own 1 a.length, .own 2 (held.map heAv).length]), (1, .row 4 1 a), (2, .row 53 1 (held.map heAv))] (.own 3 ((lts k held[k]).map Lt.av).length) [(0, .box 182 [.v (.int .i64 n), .own 1 a.length, .own 2 (held.map heAv).length]), (1, .row 4 1 a), (2, .row 53 1 (held.map heAv)), (3, .row 109 12 ((lts k held[k]).map Lt.av))] := by
  have hel : (held.map heAv)[k]? = some (heAv held[k]) := by simp [hk]
  have hkx : k < (held.map heAv).length := by rw [List.length_map]; exact hk
  generalize held[k] = l at *
  refine (ac_body tab_ok Tryz.func102 rfl (by kernel_rfl) rfl ?_); intro w0 M μ0; simp only [Tryz.ntmps102, List.length_cons, List.length_nil, Nat.reduceAdd, Nat.reduceSub, numb]
  repeat' (first | ((first | apply o_do | apply d_do | apply d_yes rfl rfl rfl); first | exact ls_nilCheck rfl rfl | exact ls_indexAddr_own tab_ok rfl rfl rfl rfl rfl rfl hkx rfl | exact ls_load_eref tab_ok rfl rfl rfl hel rfl rfl rfl rfl | exact lsq) | refine a_seq ?_ | refine a_region ?_ | refine o_nil ?_ | refine a_block ?_ | refine a_ret ?_ | refine a_exit ?_ | refine a_skip ?_ | refine a_draw mixed ?_ | refine d_nil (by kernel_rfl) ?_ | refine o_yes rfl rfl rfl ?_ | refine o_no rfl rfl rfl (by decide) ?_ | refine o_no' rfl rfl rfl ?_ | refine a_condT rfl ?_ | refine a_condF rfl ?_ | refine d_no rfl rfl rfl (by decide) ?_ | refine d_no' rfl rfl rfl ?_ | (refine wq2 (fun hb => ?_) (fun hb => ?_) <;> (simp only [hb]; try simp only [hbs, ne_eq] at hb; try (exfalso; first | omega | exact hb trivial))) | fail)
  refine a_adopt 5 3 109 12 rfl rfl ?_
  refine a_loop (X := {q : Nat // q ≤ l.length}) (fun x => ⟨[(1, .v (.int .i64 k)), (5, .own 3 ((lts k (l.take x.1)).map Lt.av).length), (15, .sl 11 (l.map It.av)), (16, .v (.int .i64 l.length)), (17, .v (.int .i64 x.1))], [(0, .box 182 [.v (.int .i64 n), .own 1 a.length, .own 2 (held.map heAv).length]), (1, .row 4 1 a), (2, .row 53 1 (held.map heAv)), (3, .row 109 12 ((lts k (l.take x.1)).map Lt.av))]⟩) (fun x => l.length - x.1) ⟨0, Nat.zero_le _⟩ ?_ ?_
  · refine ⟨by repeat' (first | exact trivial | exact FinA.one (FinB.cell (FinC.same rfl)) | exact FinA.one (FinB.cell FinC.nil) | exact FinA.bound rfl | exact FinA.one (FinB.cell (FinC.own rfl rfl rfl rfl)) | exact FinA.one (FinB.cell (FinC.v (by first | rfl | (simp [lts])))) | exact FinA.one (FinB.cell (FinC.ow rfl (by first | rfl | (simp [lts])))) | exact FinA.one (FinB.agg' rfl rfl) | refine ⟨⟨_, rfl, ?_⟩, ?_⟩), by repeat' (first | exact trivial | refine ⟨⟨_, rfl, by first | rfl | (simp [lts]; done) | (simp [renO, *]; done)⟩, by first | rfl | assumption, ?_⟩), rfl⟩
  rintro ⟨q, hq⟩
  dsimp only
  by_cases hlt : q < l.length
  · have hel2 : (l.map It.av)[q]? = some (It.av l[q]) := by simp [hlt]
    have hsn := take_snoc l q hlt
    have hls := lts_snoc k (l.take q) l[q]
    rw [← hsn] at hls
    have hl2 : ((lts k (l.take q)).map Lt.av).length ≤ 16 := by simp [lts]; omega
    generalize l[q] = x at *
    have e : (lts k (l.take (q + 1))).map Lt.av = (lts k (l.take q)).map Lt.av ++ [Lt.av ⟨k, x⟩] := by rw [hls]; simp
    repeat' (first | ((first | apply o_do | apply d_do | apply d_yes rfl rfl rfl); first | exact ls_indexAddr_sl tab_ok rfl rfl rfl rfl hel2 rfl | focus (apply ls_append tab_ok rfl rfl ?hn rfl ?hsrc rfl ?hlen rfl rfl; (case hn => rfl); (case hsrc => first | exact SrcIs.sl | exact SrcIs.nil | exact SrcIs.own rfl rfl | fail); (case hlen => (try simp only [List.length_cons, List.length_nil]); omega); first | done | fail) | exact lsq) | refine a_seq ?_ | refine a_region ?_ | refine o_nil ?_ | refine a_block ?_ | refine a_ret ?_ | refine a_exit ?_ | refine a_skip ?_ | refine a_draw mixed ?_ | refine d_nil (by kernel_rfl) ?_ | refine o_yes rfl rfl rfl ?_ | refine o_no rfl rfl rfl (by decide) ?_ | refine o_no' rfl rfl rfl ?_ | refine a_condT rfl ?_ | refine a_condF rfl ?_ | refine d_no rfl rfl rfl (by decide) ?_ | refine d_no' rfl rfl rfl ?_ | (refine wq2 (fun hb => ?_) (fun hb => ?_) <;> (simp only [hb]; try simp only [hbs, ne_eq] at hb; try (exfalso; first | omega | exact hb trivial))) | fail)
    refine ⟨⟨q + 1, by omega⟩, by dsimp only; omega, ?_⟩
    refine ⟨by repeat' (first | exact trivial | exact FinA.one (FinB.cell (FinC.same rfl)) | exact FinA.one (FinB.cell FinC.nil) | exact FinA.bound rfl | exact FinA.one (FinB.cell (FinC.own rfl rfl rfl rfl)) | exact FinA.one (FinB.cell (FinC.v (by first | rfl | ((first | (simp only [e]; rfl) | simp))))) | exact FinA.one (FinB.cell (FinC.ow rfl (by first | rfl | ((first | (simp only [e]; rfl) | simp))))) | exact FinA.one (FinB.agg' rfl rfl) | refine ⟨⟨_, rfl, ?_⟩, ?_⟩), by repeat' (first | exact trivial | refine ⟨⟨_, rfl, by first | rfl | ((first | (simp only [e]; rfl) | simp); done) | (simp [renO, *]; done)⟩, by first | rfl | assumption, ?_⟩), rfl⟩
  · obtain rfl : q = l.length := by omega
    rw [List.take_length]
    repeat' (first | ((first | apply o_do | apply d_do | apply d_yes rfl rfl rfl); exact lsq) | refine a_seq ?_ | refine a_region ?_ | refine o_nil ?_ | refine a_block ?_ | refine a_ret ?_ | refine a_exit ?_ | refine a_skip ?_ | refine a_draw mixed ?_ | refine d_nil (by kernel_rfl) ?_ | refine o_yes rfl rfl rfl ?_ | refine o_no rfl rfl rfl (by decide) ?_ | refine o_no' rfl rfl rfl ?_ | refine a_condT rfl ?_ | refine a_condF rfl ?_ | refine d_no rfl rfl rfl (by decide) ?_ | refine d_no' rfl rfl rfl ?_ | (refine wq2 (fun hb => ?_) (fun hb => ?_) <;> (simp only [hb]; try simp only [hbs, ne_eq] at hb; try (exfalso; first | omega | exact hb trivial))) | fail)
    refine rq rfl ?_
    exact fnq
theorem l_fail (e : Int) : PC Tryz.prog 97 [.v (.int .i64 e)] (AlO.av ⟨alZ, false, 0, [], e⟩) := by
  simp only [AlO.av, alZ, Al.av, List.map_nil]
  refine PC.mk (ac_body tab_ok Tryz.func97 rfl (by kernel_rfl) rfl ?_); intro w0 M μ0; simp only [Tryz.ntmps97, List.length_cons, List.length_nil, Nat.reduceAdd, Nat.reduceSub, numb]
  repeat' (first | ((first | apply o_do | apply d_do | apply d_yes rfl rfl rfl); exact lsq) | refine a_seq ?_ | refine a_region ?_ | refine o_nil ?_ | refine a_block ?_ | refine a_ret ?_ | refine a_exit ?_ | refine a_skip ?_ | refine a_draw mixed ?_ | refine d_nil (by kernel_rfl) ?_ | refine o_yes rfl rfl rfl ?_ | refine o_no rfl rfl rfl (by decide) ?_ | refine o_no' rfl rfl rfl ?_ | refine a_condT rfl ?_ | refine a_condF rfl ?_ | refine d_no rfl rfl rfl (by decide) ?_ | refine d_no' rfl rfl rfl ?_ | (refine wq2 (fun hb => ?_) (fun hb => ?_) <;> (simp only [hb]; try simp only [hbs, ne_eq] at hb; try (exfalso; first | omega | exact hb trivial))) | fail)
  refine rq rfl ?_
  exact fnq
theorem pureV (x : Value) : ∀ (σ : Store) (μ : Nat → Value) (w : World) (A : Nat → Prop) (z : Value), rep σ μ w A (.v x) z → rep [] μ w A (.v x) z := by
  intro σ μ w A z h
  simpa only [rep] using h
theorem pureS (n : Nat) (xs : List (List AV)) : ∀ (σ : Store) (μ : Nat → Value) (w : World) (A : Nat → Prop) (z : Value), rep σ μ w A (.sl n xs) z → rep [] μ w A (.sl n xs) z := by
  intro σ μ w A z h
  simpa only [rep] using h
set_option maxRecDepth 10000 in
set_option maxHeartbeats 8000000 in
/-- the barrier comes to an input that has none yet -/
theorem l_bar (n : Int) (got : List Bool) (held : List (List It)) (k : Nat) (x : It) (hr : alR ⟨n, got, held⟩ = true) (hk : k < got.length) (hit : itR x = true) (hg : got[k] = false) (h4 : x.kind = 4) (hn : ¬ (n ≠ 0 ∧ n ≠ x.n)) :
    PC Tryz.prog 70 [.agg (Al.av ⟨n, got, held⟩), .v (.int .i64 k), .agg x.av]
      (AlO.av (if (got.set k true).any (!·) = true then ⟨⟨x.n, got.set k true, held⟩, false, 0, [], 0⟩ else ⟨⟨0, newGot got.length, newHeld got.length⟩, false, x.n, latesN held held.length, 0⟩)) := by
  obtain ⟨b1, b2, b3, b4, b5, b6, b7, b8⟩ := alR_ok hr
  dsimp only at b1 b2 b3 b4 b5 b6 b7 b8
  have h1 := l_has ⟨n, got, held⟩ k (by dsimp only; omega) (by dsimp only; omega) (fun l hl => by have := b8 l hl; omega)
  have eh : alHas ⟨n, got, held⟩ k = true := by simp [alHas, hr, hk]
  rw [eh] at h1
  have h2 := i_Right x
  rw [hit] at h2
  have hl4 : alOffer ⟨n, got, held⟩ k x = alOffer ⟨n, got, held⟩ k x := rfl
  have ho := l_own n (got.map boAv) (held.map heAv) (by rw [List.length_map]; omega) (by rw [List.length_map]; omega)
  have hnew := l_New got.length
  have eE : newE (got.length : Int) = 0 := by unfold newE; rw [if_pos ⟨by omega, by omega⟩]
  rw [eE] at hnew
  have hel : (got.map boAv)[k]? = some (boAv false) := by simp [hk, hg]
  have hkx : k < (got.map boAv).length := by rw [List.length_map]; exact hk
  have hGl : (got.set k true).length = got.length := List.length_set
  have n1 : (got.map boAv).length = got.length := List.length_map _
  have hset : (got.map boAv).set k [.v (.bool true)] = (got.set k true).map boAv := List.map_set.symm
  have hcon := b_Contains (got.set k true) false (by omega)
  rw [any_false] at hcon
  have hlate := fun q (hq : q < held.length) => l_late x.n ((got.set k true).map boAv) held q hq (b8 _ (List.getElem_mem hq))
  generalize hGd : got.set k true = G at *
  have hGm : (G.map boAv).length = (got.map boAv).length := by rw [List.length_map, List.length_map, hGl]
  simp only [Al.av] at h1 ho hnew ⊢
  have hn2 : n = 0 ∨ n = x.n := by omega
  have n3 : (held.map heAv).length = held.length := List.length_map _
  have n1' : ((G.map boAv).length : Int) = (got.length : Int) := by rw [hGm, n1]
  cases hany : G.any (!·)
  · rw [hany] at hcon
    rw [← n1'] at hnew
    simp only [Bool.false_eq_true, if_false, AlO.av, Al.av]
    by_cases hn0 : n = 0
    all_goals
      refine PC.mk (ac_body tab_ok Tryz.func70 rfl (by kernel_rfl) rfl ?_); intro w0 M μ0; simp only [Tryz.ntmps70, List.length_cons, List.length_nil, Nat.reduceAdd, Nat.reduceSub, numb]
      repeat' (first | ((first | apply o_do | apply d_do | apply d_yes rfl rfl rfl); first | exact lsc (h1) | exact lsc (h2) | exact ls_indexAddr_sl tab_ok rfl rfl rfl rfl hel rfl | exact ls_callA [] 3 ho rfl rfl (by (repeat' (first | exact NilL.nil | refine NilL.cons Nil.same ?_ | refine NilL.cons Nil.nil ?_ | refine NilL.cons (Nil.agg ?_) ?_ | exact Nil1s.nil | refine Nil1s.cons Nil1.same ?_ | refine Nil1s.cons Nil1.nil ?_)); first | done | fail) rfl (by repeat' (first | exact trivial | refine ⟨⟨_, rfl, by first | rfl | (simp [renO, *]; done)⟩, ?_⟩)) (by first | rfl | simp [closO, *]) rfl rfl rfl rfl (by first | rfl | simp [closO, *]) rfl | exact ls_nilCheck rfl rfl | exact ls_indexAddr_own tab_ok rfl rfl rfl rfl rfl rfl hkx rfl | exact ls_load_eref tab_ok rfl rfl rfl hel rfl rfl rfl rfl | exact ls_store_eref (cs' := [.v (.bool true)]) tab_ok rfl rfl rfl rfl hel rfl rfl (pureV _) rfl rfl rfl rfl | exact lsq) | refine a_seq ?_ | refine a_region ?_ | refine o_nil ?_ | refine a_block ?_ | refine a_ret ?_ | refine a_exit ?_ | refine a_skip ?_ | refine a_draw mixed ?_ | refine d_nil (by kernel_rfl) ?_ | refine o_yes rfl rfl rfl ?_ | refine o_no rfl rfl rfl (by decide) ?_ | refine o_no' rfl rfl rfl ?_ | refine a_condT rfl ?_ | refine a_condF rfl ?_ | refine d_no rfl rfl rfl (by decide) ?_ | refine d_no' rfl rfl rfl ?_ | (refine wq2 (fun hb => ?_) (fun hb => ?_) <;> (simp only [hb]; try simp only [hbs, ne_eq] at hb; try (exfalso; first | omega | exact hb trivial))) | fail)
      refine o_weak (t := ⟨[(5, .ref 1 0), (6, .ref 2 0), (12, .ref 3 0), (146, .own 4 (G.map boAv).length)], [(1, .box 63 x.av), (2, .box 40 [.v (.int .i64 0), .v (.slice none 0 0), .v (.slice none 0 0)]), (3, .box 182 [.v (.int .i64 x.n), .own 4 (G.map boAv).length, .own 5 (held.map heAv).length]), (4, .row 4 1 (G.map boAv)), (5, .row 53 1 (held.map heAv))]⟩) ?_ ?_
      · refine ⟨by repeat' (first | exact trivial | exact FinA.one (FinB.cell (FinC.same rfl)) | exact FinA.one (FinB.cell FinC.nil) | exact FinA.bound rfl | exact FinA.one (FinB.cell (FinC.own rfl rfl rfl rfl)) | exact FinA.one (FinB.cell (FinC.v (by first | rfl | ((first | (simp only [hset]; done) | (simp only [hGm]; done) | (simp only [hGm]; rfl) | (rw [hset]; rfl) | simp [hset]))))) | exact FinA.one (FinB.cell (FinC.ow rfl (by first | rfl | ((first | (simp only [hset]; done) | (simp only [hGm]; done) | (simp only [hGm]; rfl) | (rw [hset]; rfl) | simp [hset]))))) | exact FinA.one (FinB.agg' rfl rfl) | refine ⟨⟨_, rfl, ?_⟩, ?_⟩), by repeat' (first | exact trivial | refine ⟨⟨_, rfl, by first | rfl | ((first | (simp only [hset]; done) | (simp only [hGm]; done) | (simp only [hGm]; rfl) | (rw [hset]; rfl) | simp [hset]); done) | (simp [renO, *]; done)⟩, by first | rfl | assumption, ?_⟩), rfl⟩
      repeat' (first | ((first | apply o_do | apply d_do | apply d_yes rfl rfl rfl); first | exact lcs (hcon) | exact ls_nilCheck rfl rfl | exact lsq) | refine a_seq ?_ | refine a_region ?_ | refine o_nil ?_ | refine a_block ?_ | refine a_ret ?_ | refine a_exit ?_ | refine a_skip ?_ | refine a_draw mixed ?_ | refine d_nil (by kernel_rfl) ?_ | refine o_yes rfl rfl rfl ?_ | refine o_no rfl rfl rfl (by decide) ?_ | refine o_no' rfl rfl rfl ?_ | refine a_condT rfl ?_ | refine a_condF rfl ?_ | refine d_no rfl rfl rfl (by decide) ?_ | refine d_no' rfl rfl rfl ?_ | (refine wq2 (fun hb => ?_) (fun hb => ?_) <;> (simp only [hb]; try simp only [hbs, ne_eq] at hb; try (exfalso; first | omega | exact hb trivial))) | fail)
      refine a_adopt 14 6 109 12 rfl rfl ?_
      refine a_loop (X := {q : Nat // q ≤ held.length}) (fun y => ⟨[(5, .ref 1 0), (6, .ref 2 0), (12, .ref 3 0), (13, .clo (.func 102) [.ref 3 0] []), (14, .own 6 ((latesN held y.1).map Lt.av).length), (159, .v (.int .i64 held.length)), (160, .v (.int .i64 y.1))], [(1, .box 63 x.av), (2, .box 40 [.v (.int .i64 0), .v (.slice none 0 0), .v (.slice none 0 0)]), (3, .box 182 [.v (.int .i64 x.n), .own 4 (G.map boAv).length, .own 5 (held.map heAv).length]), (4, .row 4 1 (G.map boAv)), (5, .row 53 1 (held.map heAv)), (6, .row 109 12 ((latesN held y.1).map Lt.av))]⟩) (fun y => held.length - y.1) ⟨0, Nat.zero_le _⟩ ?_ ?_
      · refine ⟨by repeat' (first | exact trivial | exact FinA.one (FinB.cell (FinC.same rfl)) | exact FinA.one (FinB.cell FinC.nil) | exact FinA.bound rfl | exact FinA.one (FinB.cell (FinC.own rfl rfl rfl rfl)) | exact FinA.one (FinB.cell (FinC.v (by first | rfl | ((first | rfl | simp [latesN]))))) | exact FinA.one (FinB.cell (FinC.ow rfl (by first | rfl | ((first | rfl | simp [latesN]))))) | exact FinA.one (FinB.agg' rfl rfl) | exact FinA.one (FinB.cell (FinC.el rfl rfl rfl rfl)) | refine FinA.clo ?_ ?_ | exact FinBs.nil | exact FinB.cell (FinC.same rfl) | exact FinB.cell (FinC.el rfl rfl rfl rfl) | refine FinBs.cons ?_ ?_ | refine ⟨⟨_, rfl, ?_⟩, ?_⟩), by repeat' (first | exact trivial | refine ⟨⟨_, rfl, by first | rfl | ((first | rfl | simp [latesN]); done) | (simp [renO, *]; done)⟩, by first | rfl | assumption, ?_⟩), rfl⟩
      rintro ⟨q, hq⟩
      dsimp only
      by_cases hlt : q < held.length
      · have hla := hlate q hlt
        have hlat := latesN_succ held q hlt
        have hlle := latesN_le (held := held) (by omega) b8 q (by omega)
        have hll := b8 _ (List.getElem_mem hlt)
        generalize held[q] = l at *
        have e : (latesN held (q + 1)).map Lt.av = (latesN held q).map Lt.av ++ (lts q l).map Lt.av := by rw [hlat]; simp
        have hl2 : ((latesN held q).map Lt.av).length + ((lts q l).map Lt.av).length ≤ 1000 := by simp [lts]; omega
        repeat' (first | ((first | apply o_do | apply d_do | apply d_yes rfl rfl rfl); first | exact ls_callAB [3, 4, 5] 4 hla rfl rfl (by (repeat' (first | exact NilL.nil | refine NilL.cons Nil.same ?_ | refine NilL.cons Nil.nil ?_ | refine NilL.cons (Nil.agg ?_) ?_ | exact Nil1s.nil | refine Nil1s.cons Nil1.same ?_ | refine Nil1s.cons Nil1.nil ?_)); first | done | fail) rfl (by repeat' (first | exact trivial | refine ⟨⟨_, rfl, by first | rfl | (simp [renO, *]; done)⟩, ?_⟩)) (by first | rfl | simp [closO, *]) rfl rfl rfl rfl (by first | rfl | simp [closO, *]) rfl | focus (apply ls_append tab_ok rfl rfl ?hn rfl ?hsrc rfl ?hlen rfl rfl; (case hn => rfl); (case hsrc => first | exact SrcIs.sl | exact SrcIs.nil | exact SrcIs.own rfl rfl | fail); (case hlen => (try simp only [List.length_cons, List.length_nil]); omega); first | done | fail) | exact lsq) | refine a_seq ?_ | refine a_region ?_ | refine o_nil ?_ | refine a_block ?_ | refine a_ret ?_ | refine a_exit ?_ | refine a_skip ?_ | refine a_draw mixed ?_ | refine d_nil (by kernel_rfl) ?_ | refine o_yes rfl rfl rfl ?_ | refine o_no rfl rfl rfl (by decide) ?_ | refine o_no' rfl rfl rfl ?_ | refine a_condT rfl ?_ | refine a_condF rfl ?_ | refine d_no rfl rfl rfl (by decide) ?_ | refine d_no' rfl rfl rfl ?_ | (refine wq2 (fun hb => ?_) (fun hb => ?_) <;> (simp only [hb]; try simp only [hbs, ne_eq] at hb; try (exfalso; first | omega | exact hb trivial))) | fail)
        refine ⟨⟨q + 1, by omega⟩, by dsimp only; omega, ?_⟩
        refine ⟨by repeat' (first | exact trivial | exact FinA.one (FinB.cell (FinC.same rfl)) | exact FinA.one (FinB.cell FinC.nil) | exact FinA.bound rfl | exact FinA.one (FinB.cell (FinC.own rfl rfl rfl rfl)) | exact FinA.one (FinB.cell (FinC.v (by first | rfl | ((first | (simp only [e]; done) | (simp only [e]; rfl) | simp))))) | exact FinA.one (FinB.cell (FinC.ow rfl (by first | rfl | ((first | (simp only [e]; done) | (simp only [e]; rfl) | simp))))) | exact FinA.one (FinB.agg' rfl rfl) | exact FinA.one (FinB.cell (FinC.el rfl rfl rfl rfl)) | refine FinA.clo ?_ ?_ | exact FinBs.nil | exact FinB.cell (FinC.same rfl) | exact FinB.cell (FinC.el rfl rfl rfl rfl) | refine FinBs.cons ?_ ?_ | refine ⟨⟨_, rfl, ?_⟩, ?_⟩), by repeat' (first | exact trivial | refine ⟨⟨_, rfl, by first | rfl | ((first | (simp only [e]; done) | (simp only [e]; rfl) | simp); done) | (simp [renO, *]; done)⟩, by first | rfl | assumption, ?_⟩), rfl⟩
      · obtain rfl : q = held.length := by omega
        repeat' (first | ((first | apply o_do | apply d_do | apply d_yes rfl rfl rfl); first | exact lsc (hnew) | exact ls_nilCheck rfl rfl | exact lsq) | refine a_seq ?_ | refine a_region ?_ | refine o_nil ?_ | refine a_block ?_ | refine a_ret ?_ | refine a_exit ?_ | refine a_skip ?_ | refine a_draw mixed ?_ | refine d_nil (by kernel_rfl) ?_ | refine o_yes rfl rfl rfl ?_ | refine o_no rfl rfl rfl (by decide) ?_ | refine o_no' rfl rfl rfl ?_ | refine a_condT rfl ?_ | refine a_condF rfl ?_ | refine d_no rfl rfl rfl (by decide) ?_ | refine d_no' rfl rfl rfl ?_ | (refine wq2 (fun hb => ?_) (fun hb => ?_) <;> (simp only [hb]; try simp only [hbs, ne_eq] at hb; try (exfalso; first | omega | exact hb trivial))) | fail)
        refine rq rfl ?_
        (first | refine FinA.tup ?_ | refine FinA.one ?_); repeat' (first | exact FinBs.nil | exact FinCs.nil | refine FinBs.cons ?_ ?_ | refine FinCs.cons ?_ ?_ | refine FinB.cell (FinC.v ?_) | refine FinB.cell (FinC.own rfl rfl rfl ?_) | exact FinB.cell FinC.nil | refine FinB.cell (FinC.sl ?_) | exact FinB.agg' rfl rfl | exact FinB.cell (FinC.same rfl) | refine FinB.agg ?_ | refine FinC.v ?_ | refine FinC.own rfl rfl rfl ?_ | exact FinC.nil | refine FinC.sl ?_ | exact FinC.same rfl); all_goals try rfl
        all_goals rw [n1']
  · rw [hany] at hcon
    simp only [if_true, AlO.av, Al.av, List.map_nil]
    by_cases hn0 : n = 0
    all_goals
      refine PC.mk (ac_body tab_ok Tryz.func70 rfl (by kernel_rfl) rfl ?_); intro w0 M μ0; simp only [Tryz.ntmps70, List.length_cons, List.length_nil, Nat.reduceAdd, Nat.reduceSub, numb]
      repeat' (first | ((first | apply o_do | apply d_do | apply d_yes rfl rfl rfl); first | exact lsc (h1) | exact lsc (h2) | exact ls_indexAddr_sl tab_ok rfl rfl rfl rfl hel rfl | exact ls_callA [] 3 ho rfl rfl (by (repeat' (first | exact NilL.nil | refine NilL.cons Nil.same ?_ | refine NilL.cons Nil.nil ?_ | refine NilL.cons (Nil.agg ?_) ?_ | exact Nil1s.nil | refine Nil1s.cons Nil1.same ?_ | refine Nil1s.cons Nil1.nil ?_)); first | done | fail) rfl (by repeat' (first | exact trivial | refine ⟨⟨_, rfl, by first | rfl | (simp [renO, *]; done)⟩, ?_⟩)) (by first | rfl | simp [closO, *]) rfl rfl rfl rfl (by first | rfl | simp [closO, *]) rfl | exact ls_nilCheck rfl rfl | exact ls_indexAddr_own tab_ok rfl rfl rfl rfl rfl rfl hkx rfl | exact ls_load_eref tab_ok rfl rfl rfl hel rfl rfl rfl rfl | exact ls_store_eref (cs' := [.v (.bool true)]) tab_ok rfl rfl rfl rfl hel rfl rfl (pureV _) rfl rfl rfl rfl | exact lsq) | refine a_seq ?_ | refine a_region ?_ | refine o_nil ?_ | refine a_block ?_ | refine a_ret ?_ | refine a_exit ?_ | refine a_skip ?_ | refine a_draw mixed ?_ | refine d_nil (by kernel_rfl) ?_ | refine o_yes rfl rfl rfl ?_ | refine o_no rfl rfl rfl (by decide) ?_ | refine o_no' rfl rfl rfl ?_ | refine a_condT rfl ?_ | refine a_condF rfl ?_ | refine d_no rfl rfl rfl (by decide) ?_ | refine d_no' rfl rfl rfl ?_ | (refine wq2 (fun hb => ?_) (fun hb => ?_) <;> (simp only [hb]; try simp only [hbs, ne_eq] at hb; try (exfalso; first | omega | exact hb trivial))) | fail)
      refine o_weak (t := ⟨[(5, .ref 1 0), (6, .ref 2 0), (12, .ref 3 0), (146, .own 4 (G.map boAv).length)], [(1, .box 63 x.av), (2, .box 40 [.v (.int .i64 0), .v (.slice none 0 0), .v (.slice none 0 0)]), (3, .box 182 [.v (.int .i64 x.n), .own 4 (G.map boAv).length, .own 5 (held.map heAv).length]), (4, .row 4 1 (G.map boAv)), (5, .row 53 1 (held.map heAv))]⟩) ?_ ?_
      · refine ⟨by repeat' (first | exact trivial | exact FinA.one (FinB.cell (FinC.same rfl)) | exact FinA.one (FinB.cell FinC.nil) | exact FinA.bound rfl | exact FinA.one (FinB.cell (FinC.own rfl rfl rfl rfl)) | exact FinA.one (FinB.cell (FinC.v (by first | rfl | ((first | (simp only [hset]; done) | (simp only [hGm]; done) | (simp only [hGm]; rfl) | (rw [hset]; rfl) | simp [hset]))))) | exact FinA.one (FinB.cell (FinC.ow rfl (by first | rfl | ((first | (simp only [hset]; done) | (simp only [hGm]; done) | (simp only [hGm]; rfl) | (rw [hset]; rfl) | simp [hset]))))) | exact FinA.one (FinB.agg' rfl rfl) | refine ⟨⟨_, rfl, ?_⟩, ?_⟩), by repeat' (first | exact trivial | refine ⟨⟨_, rfl, by first | rfl | ((first | (simp only [hset]; done) | (simp only [hGm]; done) | (simp only [hGm]; rfl) | (rw [hset]; rfl) | simp [hset]); done) | (simp [renO, *]; done)⟩, by first | rfl | assumption, ?_⟩), rfl⟩
      repeat' (first | ((first | apply o_do | apply d_do | apply d_yes rfl rfl rfl); first | exact lcs (hcon) | exact ls_nilCheck rfl rfl | exact lsq) | refine a_seq ?_ | refine a_region ?_ | refine o_nil ?_ | refine a_block ?_ | refine a_ret ?_ | refine a_exit ?_ | refine a_skip ?_ | refine a_draw mixed ?_ | refine d_nil (by kernel_rfl) ?_ | refine o_yes rfl rfl rfl ?_ | refine o_no rfl rfl rfl (by decide) ?_ | refine o_no' rfl rfl rfl ?_ | refine a_condT rfl ?_ | refine a_condF rfl ?_ | refine d_no rfl rfl rfl (by decide) ?_ | refine d_no' rfl rfl rfl ?_ | (refine wq2 (fun hb => ?_) (fun hb => ?_) <;> (simp only [hb]; try simp only [hbs, ne_eq] at hb; try (exfalso; first | omega | exact hb trivial))) | fail)
      refine rq rfl ?_
      exact fnq
set_option maxRecDepth 10000 in
set_option maxHeartbeats 8000000 in
theorem l_Offer (a : Al) (i : Int) (x : It) (hg : a.got.length ≤ 9223372036854775807) (hh : a.held.length ≤ 9223372036854775807) (hi : ∀ l ∈ a.held, l.length ≤ 9223372036854775807) : PC Tryz.prog 70 [.agg a.av, .v (.int .i64 i), .agg x.av] (alOffer a i x).av := by
  have h1 := l_has a i hg hh hi
  have h2 := i_Right x
  obtain ⟨n, got, held⟩ := a
  dsimp only at hg hh hi
  have n1 : (got.map boAv).length = got.length := List.length_map _
  unfold alOffer
  have f1 := l_fail 1
  have f3 := l_fail 3
  have f190 := l_fail 190
  simp only [AlO.av, alZ, Al.av, List.map_nil] at f1 f3 f190 h1
  cases hit : itR x
  · rw [hit] at h2
    simp only [Bool.and_false, if_true, AlO.av, alZ, Al.av, List.map_nil]
    cases hr : alHas ⟨n, got, held⟩ i
    all_goals
      rw [hr] at h1
      refine PC.mk (ac_body tab_ok Tryz.func70 rfl (by kernel_rfl) rfl ?_); intro w0 M μ0; simp only [Tryz.ntmps70, List.length_cons, List.length_nil, Nat.reduceAdd, Nat.reduceSub, numb]
      repeat' (first | ((first | apply o_do | apply d_do | apply d_yes rfl rfl rfl); first | exact lsc (h1) | exact lsc (h2) | exact lsc (f1) | exact lsq) | refine a_seq ?_ | refine a_region ?_ | refine o_nil ?_ | refine a_block ?_ | refine a_ret ?_ | refine a_exit ?_ | refine a_skip ?_ | refine a_draw mixed ?_ | refine d_nil (by kernel_rfl) ?_ | refine o_yes rfl rfl rfl ?_ | refine o_no rfl rfl rfl (by decide) ?_ | refine o_no' rfl rfl rfl ?_ | refine a_condT rfl ?_ | refine a_condF rfl ?_ | refine d_no rfl rfl rfl (by decide) ?_ | refine d_no' rfl rfl rfl ?_ | (refine wq2 (fun hb => ?_) (fun hb => ?_) <;> (simp only [hb]; try simp only [hbs, ne_eq] at hb; try (exfalso; first | omega | exact hb trivial))) | fail)
      refine rq rfl ?_
      exact fnq
  cases hr : alHas ⟨n, got, held⟩ i
  · rw [hit] at h2
    rw [hr] at h1
    simp only [Bool.false_and, if_true, AlO.av, alZ, Al.av, List.map_nil]
    refine PC.mk (ac_body tab_ok Tryz.func70 rfl (by kernel_rfl) rfl ?_); intro w0 M μ0; simp only [Tryz.ntmps70, List.length_cons, List.length_nil, Nat.reduceAdd, Nat.reduceSub, numb]
    repeat' (first | ((first | apply o_do | apply d_do | apply d_yes rfl rfl rfl); first | exact lsc (h1) | exact lsc (h2) | exact lsc (f1) | exact lsq) | refine a_seq ?_ | refine a_region ?_ | refine o_nil ?_ | refine a_block ?_ | refine a_ret ?_ | refine a_exit ?_ | refine a_skip ?_ | refine a_draw mixed ?_ | refine d_nil (by kernel_rfl) ?_ | refine o_yes rfl rfl rfl ?_ | refine o_no rfl rfl rfl (by decide) ?_ | refine o_no' rfl rfl rfl ?_ | refine a_condT rfl ?_ | refine a_condF rfl ?_ | refine d_no rfl rfl rfl (by decide) ?_ | refine d_no' rfl rfl rfl ?_ | (refine wq2 (fun hb => ?_) (fun hb => ?_) <;> (simp only [hb]; try simp only [hbs, ne_eq] at hb; try (exfalso; first | omega | exact hb trivial))) | fail)
    refine rq rfl ?_
    exact fnq
  have hr2 := hr
  simp only [alHas, Bool.and_eq_true, decide_eq_true_eq] at hr2
  obtain ⟨hR, h5, h6⟩ := hr2
  obtain ⟨b1, b2, b3, b4, b5, b6, b7, b8⟩ := alR_ok hR
  dsimp only at b1 b2 b3 b4 b5 b6 b7 b8
  obtain ⟨k, rfl⟩ : ∃ k : Nat, i = (k : Int) := ⟨i.toNat, by omega⟩
  have hk : k < got.length := by omega
  have hkh : k < held.length := by omega
  rw [hr] at h1
  rw [hit] at h2
  simp only [Bool.and_self, Bool.true_eq_false, if_false, Int.toNat_natCast, getD_at hk, getD_at hkh]
  have hel : (got.map boAv)[k]? = some (boAv got[k]) := by simp [hk]
  have hel2 : (held.map heAv)[k]? = some (heAv held[k]) := by simp [hkh]
  have hkx : k < (got.map boAv).length := by rw [List.length_map]; exact hk
  have hkx2 : k < (held.map heAv).length := by rw [List.length_map]; exact hkh
  have ho := l_own n (got.map boAv) (held.map heAv) (by rw [List.length_map]; omega) (by rw [List.length_map]; omega)
  cases hg0 : got[k]
  · rw [hg0] at hel
    by_cases h4 : x.kind = 4
    · by_cases hn : n ≠ 0 ∧ n ≠ x.n
      · obtain ⟨hn1, hn2⟩ := hn
        simp only [Bool.false_eq_true, if_false, h4, ne_eq, not_true, hn1, hn2, not_false_eq_true, and_self, if_true, AlO.av, alZ, Al.av, List.map_nil]
        refine PC.mk (ac_body tab_ok Tryz.func70 rfl (by kernel_rfl) rfl ?_); intro w0 M μ0; simp only [Tryz.ntmps70, List.length_cons, List.length_nil, Nat.reduceAdd, Nat.reduceSub, numb]
        repeat' (first | ((first | apply o_do | apply d_do | apply d_yes rfl rfl rfl); first | exact lsc (h1) | exact lsc (h2) | exact lsc (f190) | exact ls_indexAddr_sl tab_ok rfl rfl rfl rfl hel rfl | exact lsq) | refine a_seq ?_ | refine a_region ?_ | refine o_nil ?_ | refine a_block ?_ | refine a_ret ?_ | refine a_exit ?_ | refine a_skip ?_ | refine a_draw mixed ?_ | refine d_nil (by kernel_rfl) ?_ | refine o_yes rfl rfl rfl ?_ | refine o_no rfl rfl rfl (by decide) ?_ | refine o_no' rfl rfl rfl ?_ | refine a_condT rfl ?_ | refine a_condF rfl ?_ | refine d_no rfl rfl rfl (by decide) ?_ | refine d_no' rfl rfl rfl ?_ | (refine wq2 (fun hb => ?_) (fun hb => ?_) <;> (simp only [hb]; try simp only [hbs, ne_eq] at hb; try (exfalso; first | omega | exact hb trivial))) | fail)
        refine rq rfl ?_
        exact fnq
      · have hb := l_bar n got held k x hR hk hit hg0 h4 hn
        simp only [Bool.false_eq_true, if_false, h4, ne_eq, not_true, if_neg hn]
        exact hb
    · simp only [Bool.false_eq_true, if_false, h4, ne_eq, not_false_eq_true, if_true, AlO.av, Al.av, List.map_nil]
      refine PC.mk (ac_body tab_ok Tryz.func70 rfl (by kernel_rfl) rfl ?_); intro w0 M μ0; simp only [Tryz.ntmps70, List.length_cons, List.length_nil, Nat.reduceAdd, Nat.reduceSub, numb]
      repeat' (first | ((first | apply o_do | apply d_do | apply d_yes rfl rfl rfl); first | exact lsc (h1) | exact lsc (h2) | exact ls_indexAddr_sl tab_ok rfl rfl rfl rfl hel rfl | exact lsq) | refine a_seq ?_ | refine a_region ?_ | refine o_nil ?_ | refine a_block ?_ | refine a_ret ?_ | refine a_exit ?_ | refine a_skip ?_ | refine a_draw mixed ?_ | refine d_nil (by kernel_rfl) ?_ | refine o_yes rfl rfl rfl ?_ | refine o_no rfl rfl rfl (by decide) ?_ | refine o_no' rfl rfl rfl ?_ | refine a_condT rfl ?_ | refine a_condF rfl ?_ | refine d_no rfl rfl rfl (by decide) ?_ | refine d_no' rfl rfl rfl ?_ | (refine wq2 (fun hb => ?_) (fun hb => ?_) <;> (simp only [hb]; try simp only [hbs, ne_eq] at hb; try (exfalso; first | omega | exact hb trivial))) | fail)
      refine rq rfl ?_
      exact fnq
  · rw [hg0] at hel
    have hlh := b8 _ (List.getElem_mem hkh)
    have hset2 : ∀ l : List It, (held.set k (l ++ [x])).map heAv = (held.map heAv).set k [.sl 11 (l.map It.av ++ [It.av x])] := fun l => by rw [List.map_set]; simp [heAv]
    have n2 : (held[k].map It.av).length = held[k].length := List.length_map _
    generalize held[k] = l at *
    by_cases h16 : 16 ≤ l.length
    · simp only [if_true, h16, AlO.av, alZ, Al.av, List.map_nil]
      refine PC.mk (ac_body tab_ok Tryz.func70 rfl (by kernel_rfl) rfl ?_); intro w0 M μ0; simp only [Tryz.ntmps70, List.length_cons, List.length_nil, Nat.reduceAdd, Nat.reduceSub, numb]
      repeat' (first | ((first | apply o_do | apply d_do | apply d_yes rfl rfl rfl); first | exact lsc (h1) | exact lsc (h2) | exact lsc (f3) | exact ls_indexAddr_sl tab_ok rfl rfl rfl rfl hel rfl | exact ls_indexAddr_sl tab_ok rfl rfl rfl rfl hel2 rfl | exact lsq) | refine a_seq ?_ | refine a_region ?_ | refine o_nil ?_ | refine a_block ?_ | refine a_ret ?_ | refine a_exit ?_ | refine a_skip ?_ | refine a_draw mixed ?_ | refine d_nil (by kernel_rfl) ?_ | refine o_yes rfl rfl rfl ?_ | refine o_no rfl rfl rfl (by decide) ?_ | refine o_no' rfl rfl rfl ?_ | refine a_condT rfl ?_ | refine a_condF rfl ?_ | refine d_no rfl rfl rfl (by decide) ?_ | refine d_no' rfl rfl rfl ?_ | (refine wq2 (fun hb => ?_) (fun hb => ?_) <;> (simp only [hb]; try simp only [hbs, ne_eq] at hb; try (exfalso; first | omega | exact hb trivial))) | fail)
      refine rq rfl ?_
      exact fnq
    · have hcI := cl_Itm (l.map It.av) (by omega)
      have hl2 : (l.map It.av).length ≤ 16 := by omega
      simp only [if_true, h16, if_false, AlO.av, Al.av, List.map_nil, hset2]
      refine PC.mk (ac_body tab_ok Tryz.func70 rfl (by kernel_rfl) rfl ?_); intro w0 M μ0; simp only [Tryz.ntmps70, List.length_cons, List.length_nil, Nat.reduceAdd, Nat.reduceSub, numb]
      repeat' (first | refine a_draw2 19 mixed (by kernel_rfl) ?_ | ((first | apply o_do | apply d_do | apply d_yes rfl rfl rfl); first | exact lsc (h1) | exact lsc (h2) | exact ls_indexAddr_sl tab_ok rfl rfl rfl rfl hel rfl | exact ls_indexAddr_sl tab_ok rfl rfl rfl rfl hel2 rfl | exact ls_callA [] 3 ho rfl rfl (by (repeat' (first | exact NilL.nil | refine NilL.cons Nil.same ?_ | refine NilL.cons Nil.nil ?_ | refine NilL.cons (Nil.agg ?_) ?_ | exact Nil1s.nil | refine Nil1s.cons Nil1.same ?_ | refine Nil1s.cons Nil1.nil ?_)); first | done | fail) rfl (by repeat' (first | exact trivial | refine ⟨⟨_, rfl, by first | rfl | (simp [renO, *]; done)⟩, ?_⟩)) (by first | rfl | simp [closO, *]) rfl rfl rfl rfl (by first | rfl | simp [closO, *]) rfl | exact ls_nilCheck rfl rfl | exact ls_indexAddr_own tab_ok rfl rfl rfl rfl rfl rfl hkx rfl | exact ls_indexAddr_own tab_ok rfl rfl rfl rfl rfl rfl hkx2 rfl | exact ls_load_eref tab_ok rfl rfl rfl hel rfl rfl rfl rfl | exact ls_load_eref tab_ok rfl rfl rfl hel2 rfl rfl rfl rfl | exact ls_callA [] 6 hcI rfl rfl (by (repeat' (first | exact NilL.nil | refine NilL.cons Nil.same ?_ | refine NilL.cons Nil.nil ?_ | refine NilL.cons (Nil.agg ?_) ?_ | exact Nil1s.nil | refine Nil1s.cons Nil1.same ?_ | refine Nil1s.cons Nil1.nil ?_)); first | done | fail) rfl (by repeat' (first | exact trivial | refine ⟨⟨_, rfl, by first | rfl | (simp [renO, *]; done)⟩, ?_⟩)) (by first | rfl | simp [closO, *]) rfl rfl rfl rfl (by first | rfl | simp [closO, *]) rfl | focus (apply ls_append tab_ok rfl rfl ?hn rfl ?hsrc rfl ?hlen rfl rfl; (case hn => rfl); (case hsrc => first | exact SrcIs.sl | exact SrcIs.nil | exact SrcIs.own rfl rfl | fail); (case hlen => (try simp only [List.length_cons, List.length_nil]); omega); first | done | fail) | exact lsq) | refine a_seq ?_ | refine a_region ?_ | refine o_nil ?_ | refine a_block ?_ | refine a_ret ?_ | refine a_exit ?_ | refine a_skip ?_ | refine a_draw mixed ?_ | refine d_nil (by kernel_rfl) ?_ | refine o_yes rfl rfl rfl ?_ | refine o_no rfl rfl rfl (by decide) ?_ | refine o_no' rfl rfl rfl ?_ | refine a_condT rfl ?_ | refine a_condF rfl ?_ | refine d_no rfl rfl rfl (by decide) ?_ | refine d_no' rfl rfl rfl ?_ | (refine wq2 (fun hb => ?_) (fun hb => ?_) <;> (simp only [hb]; try simp only [hbs, ne_eq] at hb; try (exfalso; first | omega | exact hb trivial))) | fail)
      refine ⟨⟨[(6, .ref 2 0), (12, .ref 3 0), (123, .sl 11 (l.map It.av ++ [It.av x])), (124, .eref 5 (held.map heAv).length k 0)], [(2, .box 40 [.v (.int .i64 0), .v (.slice none 0 0), .v (.slice none 0 0)]), (3, .box 182 [.v (.int .i64 n), .own 4 (got.map boAv).length, .own 5 (held.map heAv).length]), (4, .row 4 1 (got.map boAv)), (5, .row 53 1 (held.map heAv))]⟩, ?_, ?_⟩
      · exact wkS
      repeat' (first | ((first | apply o_do | apply d_do | apply d_yes rfl rfl rfl); first | exact ls_store_eref (cs' := [.sl 11 (l.map It.av ++ [It.av x])]) tab_ok rfl rfl rfl rfl hel2 rfl rfl (pureS _ _) rfl rfl rfl rfl | exact ls_nilCheck rfl rfl | exact lsq) | refine a_seq ?_ | refine a_region ?_ | refine o_nil ?_ | refine a_block ?_ | refine a_ret ?_ | refine a_exit ?_ | refine a_skip ?_ | refine a_draw mixed ?_ | refine d_nil (by kernel_rfl) ?_ | refine o_yes rfl rfl rfl ?_ | refine o_no rfl rfl rfl (by decide) ?_ | refine o_no' rfl rfl rfl ?_ | refine a_condT rfl ?_ | refine a_condF rfl ?_ | refine d_no rfl rfl rfl (by decide) ?_ | refine d_no' rfl rfl rfl ?_ | (refine wq2 (fun hb => ?_) (fun hb => ?_) <;> (simp only [hb]; try simp only [hbs, ne_eq] at hb; try (exfalso; first | omega | exact hb trivial))) | fail)
      refine rq rfl ?_
      (first | refine FinA.tup ?_ | refine FinA.one ?_); repeat' (first | exact FinBs.nil | exact FinCs.nil | refine FinBs.cons ?_ ?_ | refine FinCs.cons ?_ ?_ | refine FinB.cell (FinC.v ?_) | refine FinB.cell (FinC.own rfl rfl rfl ?_) | exact FinB.cell FinC.nil | refine FinB.cell (FinC.sl ?_) | exact FinB.agg' rfl rfl | exact FinB.cell (FinC.same rfl) | refine FinB.agg ?_ | refine FinC.v ?_ | refine FinC.own rfl rfl rfl ?_ | exact FinC.nil | refine FinC.sl ?_ | exact FinC.same rfl); all_goals try rfl
      all_goals exact FinC.own rfl (by simp) rfl rfl
end Go.Proofs.YtilgagmfcdfjaaaGreat
namespace Go.Proofs.YtilgagmfcdfjaaaGreat
open Go.RowKit
set_option linter.unusedSimpArgs false
set_option linter.unusedVariables false
/-- a function that is handed what was made since, and gives what is only read -/
theorem calls_fresh {P : Program} {T : List TyI} (hT : okTab P T = true) {f : FuncId} {fn : Func} {c : Code} {args : List AV} {r : AV} {σ : Store} (hf : P.funcs[f]? = some fn) (hb : fn.body = some c)
    (H : ∀ w0 M μ0, AWP P ⟨w0, M, [], μ0, args.length + (fn.ntmps - args.length), none, w0.heap.size⟩ c (RetQ T fn.results.toList r []) ⟨numb 0 args, σ⟩) {w0 w : World} {M : Nat → Prop} {μ μ0 : Nat → Value} {vs : List Value} (hs : SRel σ μ w M) (hg : Gro [] μ0 w0 σ μ w) (hrep : repL σ μ w (av σ μ M) args vs) :
    Calls P f vs.toArray w fun e w' => ∃ y μ', e = .returned y ∧ SRel [] μ' w' M ∧ rep [] μ' w' (av [] μ' M) r y ∧ Gro [] μ0 w0 [] μ' w' := by
  refine (callsIn_wide (n := 0)).1 (callsIn_of_wp_marks hf hb trivial ?_ rfl)
  have hlen := repL_len hrep
  have hrel : Rel ⟨w0, M, [], μ0, args.length + (fn.ntmps - args.length), none, w0.heap.size⟩ ⟨numb 0 args, σ⟩ μ { tmps := vs.toArray ++ Array.replicate (fn.ntmps - vs.toArray.size) undef, defers := [] } w := by
    refine ⟨marks_nil, by simp [hlen], fun t x hx => ?_, hs, hg⟩
    obtain ⟨j, rfl, hj⟩ := find_numb hx
    obtain ⟨u, h1, h2⟩ := repL_get hrep hj
    have hlt : j < vs.length := (List.getElem?_eq_some_iff.1 h1).1
    have : (vs.toArray ++ Array.replicate (fn.ntmps - vs.toArray.size) undef)[0 + j]? = some u := by
      rw [Array.getElem?_append_left (by simpa using hlt)]
      simpa using h1
    rw [Array.getD_eq_getD_getElem?, this]
    exact h2
  refine wpIn_mono ((H w0 M μ0).out μ _ w hrel) ?_
  rintro e a w' ⟨s', μ', hr', he, vs', hvs, hfin, hk⟩
  have hfin : LeavesInM Fence.wide 0 P fn a.tmps (fun e w' => ∃ y μ', e = .returned y ∧ SRel [] μ' w' M ∧ rep [] μ' w' (av [] μ' M) r y ∧ Gro [] μ0 w0 [] μ' w') a.defers .returning w' := by
    refine leave_ok hT (Nat.le_refl _) a.defers hr' rfl hvs fun a' w2 hr2 y h1 h2 => ?_
    have h3 := finA_rep hr2.store hk hfin h2
    have h4 := hk.srel hr2.store
    have h5 := hk.gro hr2.gro (fun id o hf => by simp [find] at hf)
    exact ⟨y, μ', rfl, h4, h3, h5⟩
  rcases he with rfl | rfl
  · exact hfin
  · exact hfin
theorem c_Open1 (m lo hi : Int) : AC Tryz.prog 165 [.agg [.v (.int .i64 lo), .v (.int .i64 hi)], .ref 0 0] [(0, .box 2 [.v (.int .i64 m)])] (.v (.bool (closedW m ⟨lo, hi⟩))) [(0, .box 2 [.v (.int .i64 m)])] := by
  refine (ac_body tab_ok Tryz.func165 rfl (by kernel_rfl) rfl ?_); intro w0 M μ0; simp only [Tryz.ntmps165, List.length_cons, List.length_nil, Nat.reduceAdd, Nat.reduceSub, numb]
  repeat' (first | ((first | apply o_do | apply d_do | apply d_yes rfl rfl rfl); first | exact lsc ((p_Closed _ _ _)) | exact lsq) | refine a_seq ?_ | refine a_region ?_ | refine o_nil ?_ | refine a_block ?_ | refine a_ret ?_ | refine a_exit ?_ | refine a_skip ?_ | refine a_draw mixed ?_ | refine d_nil (by kernel_rfl) ?_ | refine o_yes rfl rfl rfl ?_ | refine o_no rfl rfl rfl (by decide) ?_ | refine o_no' rfl rfl rfl ?_ | refine a_condT rfl ?_ | refine a_condF rfl ?_ | refine d_no rfl rfl rfl (by decide) ?_ | refine d_no' rfl rfl rfl ?_ | (refine wq2 (fun hb => ?_) (fun hb => ?_) <;> (simp only [hb]; try simp only [hbs, ne_eq] at hb; try (exfalso; first | omega | exact hb trivial))) | fail)
  refine rq rfl ?_
  exact fnq
theorem fidxW_at (p : Wn → Bool) (xs : List Wn) (q : Nat) (h : q < xs.length) (h1 : (xs.take q).all (fun x => !p x) = true) (h2 : p xs[q] = true) : fidxW p xs = q := by
  unfold fidxW
  have e : xs = xs.take q ++ xs.drop q := (List.take_append_drop q xs).symm
  have e2 : xs.drop q = xs[q] :: xs.drop (q + 1) := List.drop_eq_getElem_cons h
  rw [e, List.takeWhile_append_of_pos (by intro a ha; exact List.all_eq_true.1 h1 a ha), e2, List.takeWhile_cons_of_neg (by simp [h2])]
  simp
  omega
theorem fidxW_all (p : Wn → Bool) (xs : List Wn) (h1 : xs.all (fun x => !p x) = true) : fidxW p xs = xs.length := by
  unfold fidxW
  have := List.takeWhile_append_of_pos (l₁ := xs) (l₂ := []) (p := fun x : Wn => !p x) (by intro a ha; exact List.all_eq_true.1 h1 a ha)
  rw [List.append_nil] at this
  rw [this]; simp
theorem ridxW_at {p : Wn → Bool} {xs : List Wn} {q : Nat} (h : q < xs.length) (h1 : (xs.take q).all (fun x => !p x) = true) (h2 : p xs[q] = true) : ridxW p xs = (q : Int) := by
  unfold ridxW
  rw [fidxW_at p xs q h h1 h2, if_pos h]
theorem ridxW_all {p : Wn → Bool} {xs : List Wn} (h1 : xs.all (fun x => !p x) = true) : ridxW p xs = -1 := by
  unfold ridxW
  rw [fidxW_all p xs h1, if_neg (by omega)]
set_option maxHeartbeats 1000000 in
theorem p_IndexW (mk : Int) (xs : List Wn) (hx : xs.length ≤ 1000000) :
    AC Tryz.prog 167 [.own 1 (xs.map Wn.av).length, .clo (.func 165) [] [.ref 0 0]] [(0, .box 2 [.v (.int .i64 mk)]), (1, .row 59 2 (xs.map Wn.av))] (.v (.int .i64 (ridxW (closedW mk) xs))) [(0, .box 2 [.v (.int .i64 mk)]), (1, .row 59 2 (xs.map Wn.av))] := by
  have hn : (xs.map Wn.av).length = xs.length := List.length_map _
  refine (ac_body tab_ok Tryz.func167 rfl (by kernel_rfl) rfl ?_); intro w0 M μ0; simp only [Tryz.ntmps167, List.length_cons, List.length_nil, Nat.reduceAdd, Nat.reduceSub, numb]
  repeat' (first | ((first | apply o_do | apply d_do | apply d_yes rfl rfl rfl); exact lsq) | refine a_seq ?_ | refine a_region ?_ | refine o_nil ?_ | refine a_block ?_ | refine a_ret ?_ | refine a_exit ?_ | refine a_skip ?_ | refine a_draw mixed ?_ | refine d_nil (by kernel_rfl) ?_ | refine o_yes rfl rfl rfl ?_ | refine o_no rfl rfl rfl (by decide) ?_ | refine o_no' rfl rfl rfl ?_ | refine a_condT rfl ?_ | refine a_condF rfl ?_ | refine d_no rfl rfl rfl (by decide) ?_ | refine d_no' rfl rfl rfl ?_ | (refine wq2 (fun hb => ?_) (fun hb => ?_) <;> (simp only [hb]; try simp only [hbs, ne_eq] at hb; try (exfalso; first | omega | exact hb trivial))) | fail)
  refine a_loop (X := {q : Nat // q ≤ xs.length ∧ (xs.take q).all (fun x => !closedW mk x) = true}) (fun x => ⟨[(0, .own 1 (xs.map Wn.av).length), (1, .clo (.func 165) [] [.ref 0 0]), (7, .v (.int .i64 (xs.map Wn.av).length)), (8, .v (.int .i64 x.1))], [(0, .box 2 [.v (.int .i64 mk)]), (1, .row 59 2 (xs.map Wn.av))]⟩) (fun x => xs.length - x.1) ⟨0, Nat.zero_le _, by simp⟩ ?_ ?_
  · exact wkS
  rintro ⟨q, hq, hall⟩
  dsimp only
  by_cases hlt : q < xs.length
  · have hel : (xs.map Wn.av)[q]? = some (Wn.av xs[q]) := by simp [hlt]
    have hqx : q < (xs.map Wn.av).length := by omega
    have hsn := take_snoc xs q hlt
    have hat := fun h => ridxW_at (p := closedW mk) hlt hall h
    have hcl := c_Open1 mk xs[q].lo xs[q].hi
    rw [show (Wn.mk xs[q].lo xs[q].hi) = xs[q] from rfl] at hcl
    generalize xs[q] = x at *
    repeat' (first | ((first | apply o_do | apply d_do | apply d_yes rfl rfl rfl); first | exact ls_indexAddr_own tab_ok rfl rfl rfl rfl rfl rfl hqx rfl | exact ls_load_eref tab_ok rfl rfl rfl hel rfl rfl rfl rfl | exact ls_callA [0] 2 hcl rfl rfl (by (repeat' (first | exact NilL.nil | refine NilL.cons Nil.same ?_ | refine NilL.cons Nil.nil ?_ | refine NilL.cons (Nil.agg ?_) ?_ | exact Nil1s.nil | refine Nil1s.cons Nil1.same ?_ | refine Nil1s.cons Nil1.nil ?_)); first | done | fail) rfl (by repeat' (first | exact trivial | refine ⟨⟨_, rfl, by first | rfl | (simp [renO, *]; done)⟩, ?_⟩)) (by first | rfl | simp [closO, *]) rfl rfl rfl rfl (by first | rfl | simp [closO, *]) rfl | exact lsq) | refine a_seq ?_ | refine a_region ?_ | refine o_nil ?_ | refine a_block ?_ | refine a_ret ?_ | refine a_exit ?_ | refine a_skip ?_ | refine a_draw mixed ?_ | refine d_nil (by kernel_rfl) ?_ | refine o_yes rfl rfl rfl ?_ | refine o_no rfl rfl rfl (by decide) ?_ | refine o_no' rfl rfl rfl ?_ | refine a_condT rfl ?_ | refine a_condF rfl ?_ | refine d_no rfl rfl rfl (by decide) ?_ | refine d_no' rfl rfl rfl ?_ | (refine wq2 (fun hb => ?_) (fun hb => ?_) <;> (simp only [hb]; try simp only [hbs, ne_eq] at hb; try (exfalso; first | omega | exact hb trivial))) | fail)
    · refine rq rfl ?_
      (first | refine FinA.tup ?_ | refine FinA.one ?_); repeat' (first | exact FinBs.nil | exact FinCs.nil | refine FinBs.cons ?_ ?_ | refine FinCs.cons ?_ ?_ | refine FinB.cell (FinC.v ?_) | refine FinB.cell (FinC.own rfl rfl rfl ?_) | exact FinB.cell FinC.nil | refine FinB.cell (FinC.sl ?_) | exact FinB.agg' rfl rfl | exact FinB.cell (FinC.same rfl) | refine FinB.agg ?_ | refine FinC.v ?_ | refine FinC.own rfl rfl rfl ?_ | exact FinC.nil | refine FinC.sl ?_ | exact FinC.same rfl); all_goals try rfl
      rw [hat hb]
    · refine ⟨⟨q + 1, by omega, by rw [hsn, List.all_append, hall]; simp; exact hb⟩, by dsimp only; omega, ?_⟩
      exact wkS
  · repeat' (first | ((first | apply o_do | apply d_do | apply d_yes rfl rfl rfl); exact lsq) | refine a_seq ?_ | refine a_region ?_ | refine o_nil ?_ | refine a_block ?_ | refine a_ret ?_ | refine a_exit ?_ | refine a_skip ?_ | refine a_draw mixed ?_ | refine d_nil (by kernel_rfl) ?_ | refine o_yes rfl rfl rfl ?_ | refine o_no rfl rfl rfl (by decide) ?_ | refine o_no' rfl rfl rfl ?_ | refine a_condT rfl ?_ | refine a_condF rfl ?_ | refine d_no rfl rfl rfl (by decide) ?_ | refine d_no' rfl rfl rfl ?_ | (refine wq2 (fun hb => ?_) (fun hb => ?_) <;> (simp only [hb]; try simp only [hbs, ne_eq] at hb; try (exfalso; first | omega | exact hb trivial))) | fail)
    refine rq rfl ?_
    (first | refine FinA.tup ?_ | refine FinA.one ?_); repeat' (first | exact FinBs.nil | exact FinCs.nil | refine FinBs.cons ?_ ?_ | refine FinCs.cons ?_ ?_ | refine FinB.cell (FinC.v ?_) | refine FinB.cell (FinC.own rfl rfl rfl ?_) | exact FinB.cell FinC.nil | refine FinB.cell (FinC.sl ?_) | exact FinB.agg' rfl rfl | exact FinB.cell (FinC.same rfl) | refine FinB.agg ?_ | refine FinC.v ?_ | refine FinC.own rfl rfl rfl ?_ | exact FinC.nil | refine FinC.sl ?_ | exact FinC.same rfl); all_goals try rfl
    obtain rfl : q = xs.length := by omega
    rw [List.take_length] at hall
    rw [ridxW_all hall]
theorem find_closed (mk : Int) (xs : List Wn) : (xs.all (fun x => !closedW mk x) = true) ∨ ∃ q, ∃ h : q < xs.length, (xs.take q).all (fun x => !closedW mk x) = true ∧ closedW mk xs[q] = true := by
  induction xs with
  | nil => exact .inl rfl
  | cons x l ih =>
    cases hx : closedW mk x
    · rcases ih with h | ⟨q, hq, h1, h2⟩
      · exact .inl (by simp [hx]; simpa using h)
      · exact .inr ⟨q + 1, by simp; omega, by simp [hx]; simpa using h1, by simpa using h2⟩
    · exact .inr ⟨0, by simp, by simp, by simpa using hx⟩
set_option maxHeartbeats 4000000 in
theorem c_Del (mk : Int) (xs : List Wn) (hx : xs.length ≤ 1000000) {w0 w : World} {M : Nat → Prop} {μ μ0 : Nat → Value} {vs : List Value} (hs : SRel [(0, .box 2 [.v (.int .i64 mk)]), (1, .row 59 2 (xs.map Wn.av))] μ w M) (hg : Gro [] μ0 w0 [(0, .box 2 [.v (.int .i64 mk)]), (1, .row 59 2 (xs.map Wn.av))] μ w)
    (hrep : repL [(0, .box 2 [.v (.int .i64 mk)]), (1, .row 59 2 (xs.map Wn.av))] μ w (av [(0, .box 2 [.v (.int .i64 mk)]), (1, .row 59 2 (xs.map Wn.av))] μ M) [.own 1 (xs.map Wn.av).length, .clo (.func 165) [] [.ref 0 0]] vs) :
    Calls Tryz.prog 164 vs.toArray w fun e w' => ∃ y μ', e = .returned y ∧ SRel [] μ' w' M ∧ rep [] μ' w' (av [] μ' M) (.sl 2 ((openW mk xs).map Wn.av)) y ∧ Gro [] μ0 w0 [] μ' w' := by
  have hn : (xs.map Wn.av).length = xs.length := List.length_map _
  have hI := p_IndexW mk xs hx
  refine calls_fresh tab_ok Tryz.func164 rfl ?_ hs hg hrep
  intro w0 M μ0
  simp only [Tryz.ntmps164, List.length_cons, List.length_nil, Nat.reduceAdd, Nat.reduceSub, numb]
  rcases find_closed mk xs with hall | ⟨q, hq, h1, h2⟩
  · rw [ridxW_all hall] at hI
    rw [show openW mk xs = xs by unfold openW; rw [List.filter_eq_self]; intro a ha; exact List.all_eq_true.1 hall a ha]
    repeat' (first | ((first | apply o_do | apply d_do | apply d_yes rfl rfl rfl); first | exact ls_callA [0, 1] 2 hI rfl rfl (by (repeat' (first | exact NilL.nil | refine NilL.cons Nil.same ?_ | refine NilL.cons Nil.nil ?_ | refine NilL.cons (Nil.agg ?_) ?_ | exact Nil1s.nil | refine Nil1s.cons Nil1.same ?_ | refine Nil1s.cons Nil1.nil ?_)); first | done | fail) rfl (by repeat' (first | exact trivial | refine ⟨⟨_, rfl, by first | rfl | (simp [renO, *]; done)⟩, ?_⟩)) (by first | rfl | simp [closO, *]) rfl rfl rfl rfl (by first | rfl | simp [closO, *]) rfl | exact lsq) | refine a_seq ?_ | refine a_region ?_ | refine o_nil ?_ | refine a_block ?_ | refine a_ret ?_ | refine a_exit ?_ | refine a_skip ?_ | refine a_draw mixed ?_ | refine d_nil (by kernel_rfl) ?_ | refine o_yes rfl rfl rfl ?_ | refine o_no rfl rfl rfl (by decide) ?_ | refine o_no' rfl rfl rfl ?_ | refine a_condT rfl ?_ | refine a_condF rfl ?_ | refine d_no rfl rfl rfl (by decide) ?_ | refine d_no' rfl rfl rfl ?_ | (refine wq2 (fun hb => ?_) (fun hb => ?_) <;> (simp only [hb]; try simp only [hbs, ne_eq] at hb; try (exfalso; first | omega | exact hb trivial))) | fail)
    all_goals refine rq rfl ?_
    all_goals exact fnq
  · rw [ridxW_at hq h1 h2] at hI
    repeat' (first | ((first | apply o_do | apply d_do | apply d_yes rfl rfl rfl); first | exact ls_callA [0, 1] 2 hI rfl rfl (by (repeat' (first | exact NilL.nil | refine NilL.cons Nil.same ?_ | refine NilL.cons Nil.nil ?_ | refine NilL.cons (Nil.agg ?_) ?_ | exact Nil1s.nil | refine Nil1s.cons Nil1.same ?_ | refine Nil1s.cons Nil1.nil ?_)); first | done | fail) rfl (by repeat' (first | exact trivial | refine ⟨⟨_, rfl, by first | rfl | (simp [renO, *]; done)⟩, ?_⟩)) (by first | rfl | simp [closO, *]) rfl rfl rfl rfl (by first | rfl | simp [closO, *]) rfl | exact lsq) | refine a_seq ?_ | refine a_region ?_ | refine o_nil ?_ | refine a_block ?_ | refine a_ret ?_ | refine a_exit ?_ | refine a_skip ?_ | refine a_draw mixed ?_ | refine d_nil (by kernel_rfl) ?_ | refine o_yes rfl rfl rfl ?_ | refine o_no rfl rfl rfl (by decide) ?_ | refine o_no' rfl rfl rfl ?_ | refine a_condT rfl ?_ | refine a_condF rfl ?_ | refine d_no rfl rfl rfl (by decide) ?_ | refine d_no' rfl rfl rfl ?_ | (refine wq2 (fun hb => ?_) (fun hb => ?_) <;> (simp only [hb]; try simp only [hbs, ne_eq] at hb; try (exfalso; first | omega | exact hb trivial))) | fail)
    refine a_loop (X := {x : Nat × Nat × List Wn // DelX mk xs x}) (fun x => ⟨[(0, .own 1 (x.1.2.2.map Wn.av).length), (1, .clo (.func 165) [] [.ref 0 0]), (5, .v (.int .i64 x.1.1)), (6, .v (.int .i64 x.1.2.1))], [(0, .box 2 [.v (.int .i64 mk)]), (1, .row 59 2 (x.1.2.2.map Wn.av))]⟩) (fun x => xs.length - x.1.2.1) ⟨(q, q + 1, xs), DelX.start hq h1 h2⟩ ?_ ?_
    · exact wkS
    rintro ⟨⟨i, j, m⟩, hD⟩
    have hD' := hD
    obtain ⟨d1, d2, d3, d4, d5⟩ := hD'
    dsimp only at d1 d2 d3 d4 d5 ⊢
    have hmn : (m.map Wn.av).length = m.length := List.length_map _
    by_cases hlt : j < xs.length
    · have e1 : (m.map Wn.av)[j]? = some (Wn.av xs[j]) := by rw [List.getElem?_map, d5 j (Nat.le_refl _), List.getElem?_eq_getElem hlt]; rfl
      have hjx : j < (m.map Wn.av).length := by omega
      have hix : i < (m.map Wn.av).length := by omega
      obtain ⟨u, e2⟩ : ∃ u : Wn, (m.map Wn.av)[i]? = some (Wn.av u) := ⟨m[i]'(by omega), by simp [show i < m.length by omega]⟩
      have hcl := c_Open1 mk xs[j].lo xs[j].hi
      rw [show (Wn.mk xs[j].lo xs[j].hi) = xs[j] from rfl] at hcl
      have hk := fun h => hD.keep hlt rfl h
      have hd := fun h => hD.drop hlt rfl h
      have hN : ∀ x : Wn, (m.set i x).map Wn.av = (m.map Wn.av).set i (Wn.av x) := fun x => List.map_set
      have hL : ∀ x : Wn, (m.map Wn.av).length = ((m.set i x).map Wn.av).length := fun x => by simp
      have hpu : ∀ y : Wn, ∀ (σ : Store) (μ : Nat → Value) (w : World) (A : Nat → Prop) (z : Value), rep σ μ w A (.agg (Wn.av y)) z → rep [] μ w A (.agg (Wn.av y)) z := fun y _ _ _ _ _ h => rep_pureB h rfl
      generalize xs[j] = x at *
      cases hc : closedW mk x
      · rw [hc] at hcl
        repeat' (first | ((first | apply o_do | apply d_do | apply d_yes rfl rfl rfl); first | exact ls_indexAddr_own tab_ok rfl rfl rfl rfl rfl rfl hjx rfl | exact ls_indexAddr_own tab_ok rfl rfl rfl rfl rfl rfl hix rfl | exact ls_load_eref tab_ok rfl rfl rfl e1 rfl rfl rfl rfl | exact ls_store_eref (cs' := Wn.av x) tab_ok rfl rfl rfl rfl e2 rfl rfl (hpu _) rfl rfl rfl rfl | exact ls_callA [0] 3 hcl rfl rfl (by (repeat' (first | exact NilL.nil | refine NilL.cons Nil.same ?_ | refine NilL.cons Nil.nil ?_ | refine NilL.cons (Nil.agg ?_) ?_ | exact Nil1s.nil | refine Nil1s.cons Nil1.same ?_ | refine Nil1s.cons Nil1.nil ?_)); first | done | fail) rfl (by repeat' (first | exact trivial | refine ⟨⟨_, rfl, by first | rfl | (simp [renO, *]; done)⟩, ?_⟩)) (by first | rfl | simp [closO, *]) rfl rfl rfl rfl (by first | rfl | simp [closO, *]) rfl | exact lsq) | refine a_seq ?_ | refine a_region ?_ | refine o_nil ?_ | refine a_block ?_ | refine a_ret ?_ | refine a_exit ?_ | refine a_skip ?_ | refine a_draw mixed ?_ | refine d_nil (by kernel_rfl) ?_ | refine o_yes rfl rfl rfl ?_ | refine o_no rfl rfl rfl (by decide) ?_ | refine o_no' rfl rfl rfl ?_ | refine a_condT rfl ?_ | refine a_condF rfl ?_ | refine d_no rfl rfl rfl (by decide) ?_ | refine d_no' rfl rfl rfl ?_ | (refine wq2 (fun hb => ?_) (fun hb => ?_) <;> (simp only [hb]; try simp only [hbs, ne_eq] at hb; try (exfalso; first | omega | exact hb trivial))) | fail)
        refine ⟨⟨(i + 1, j + 1, m.set i x), hk hc⟩, by dsimp only; omega, ?_⟩
        refine ⟨by repeat' (first | exact trivial | exact FinA.one (FinB.cell (FinC.same rfl)) | exact FinA.one (FinB.cell FinC.nil) | exact FinA.bound rfl | exact FinA.one (FinB.cell (FinC.own rfl rfl rfl rfl)) | exact FinA.one (FinB.cell (FinC.v (by first | rfl | ((first | (simp only [hN]; done) | (simp only [hN]; rfl) | (exact hL x) | simp))))) | exact FinA.one (FinB.cell (FinC.ow rfl (by first | rfl | ((first | (simp only [hN]; done) | (simp only [hN]; rfl) | (exact hL x) | simp))))) | exact FinA.one (FinB.agg' rfl rfl) | refine ⟨⟨_, rfl, ?_⟩, ?_⟩), by repeat' (first | exact trivial | refine ⟨⟨_, rfl, by first | rfl | ((first | (simp only [hN]; done) | (simp only [hN]; rfl) | (exact hL x) | simp); done) | (simp [renO, *]; done)⟩, by first | rfl | assumption, ?_⟩), rfl⟩
      · rw [hc] at hcl
        repeat' (first | ((first | apply o_do | apply d_do | apply d_yes rfl rfl rfl); first | exact ls_indexAddr_own tab_ok rfl rfl rfl rfl rfl rfl hjx rfl | exact ls_load_eref tab_ok rfl rfl rfl e1 rfl rfl rfl rfl | exact ls_callA [0] 3 hcl rfl rfl (by (repeat' (first | exact NilL.nil | refine NilL.cons Nil.same ?_ | refine NilL.cons Nil.nil ?_ | refine NilL.cons (Nil.agg ?_) ?_ | exact Nil1s.nil | refine Nil1s.cons Nil1.same ?_ | refine Nil1s.cons Nil1.nil ?_)); first | done | fail) rfl (by repeat' (first | exact trivial | refine ⟨⟨_, rfl, by first | rfl | (simp [renO, *]; done)⟩, ?_⟩)) (by first | rfl | simp [closO, *]) rfl rfl rfl rfl (by first | rfl | simp [closO, *]) rfl | exact lsq) | refine a_seq ?_ | refine a_region ?_ | refine o_nil ?_ | refine a_block ?_ | refine a_ret ?_ | refine a_exit ?_ | refine a_skip ?_ | refine a_draw mixed ?_ | refine d_nil (by kernel_rfl) ?_ | refine o_yes rfl rfl rfl ?_ | refine o_no rfl rfl rfl (by decide) ?_ | refine o_no' rfl rfl rfl ?_ | refine a_condT rfl ?_ | refine a_condF rfl ?_ | refine d_no rfl rfl rfl (by decide) ?_ | refine d_no' rfl rfl rfl ?_ | (refine wq2 (fun hb => ?_) (fun hb => ?_) <;> (simp only [hb]; try simp only [hbs, ne_eq] at hb; try (exfalso; first | omega | exact hb trivial))) | fail)
        refine ⟨⟨(i, j + 1, m), hd hc⟩, by dsimp only; omega, ?_⟩
        exact wkS
    · obtain rfl : j = xs.length := by omega
      rw [List.take_length] at d4
      have hix : i < (m.map Wn.av).length := by omega
      repeat' (first | ((first | apply o_do | apply d_do | apply d_yes rfl rfl rfl); exact lsq) | refine a_seq ?_ | refine a_region ?_ | refine o_nil ?_ | refine a_block ?_ | refine a_ret ?_ | refine a_exit ?_ | refine a_skip ?_ | refine a_draw mixed ?_ | refine d_nil (by kernel_rfl) ?_ | refine o_yes rfl rfl rfl ?_ | refine o_no rfl rfl rfl (by decide) ?_ | refine o_no' rfl rfl rfl ?_ | refine a_condT rfl ?_ | refine a_condF rfl ?_ | refine d_no rfl rfl rfl (by decide) ?_ | refine d_no' rfl rfl rfl ?_ | (refine wq2 (fun hb => ?_) (fun hb => ?_) <;> (simp only [hb]; try simp only [hbs, ne_eq] at hb; try (exfalso; first | omega | exact hb trivial))) | fail)
      refine o_sliceClear (q := i) (zc := [.v (.int .i64 0), .v (.int .i64 0)]) (zv := .agg #[.int .i64 0, .int .i64 0]) tab_ok rfl rfl rfl rfl rfl hix rfl (fun w => by go_simp) (fun _ _ _ _ => repC_con (cs := [.int .i64 0, .int .i64 0]) rfl) rfl rfl rfl ?_
      repeat' (first | ((first | apply o_do | apply d_do | apply d_yes rfl rfl rfl); exact lsq) | refine a_seq ?_ | refine a_region ?_ | refine o_nil ?_ | refine a_block ?_ | refine a_ret ?_ | refine a_exit ?_ | refine a_skip ?_ | refine a_draw mixed ?_ | refine d_nil (by kernel_rfl) ?_ | refine o_yes rfl rfl rfl ?_ | refine o_no rfl rfl rfl (by decide) ?_ | refine o_no' rfl rfl rfl ?_ | refine a_condT rfl ?_ | refine a_condF rfl ?_ | refine d_no rfl rfl rfl (by decide) ?_ | refine d_no' rfl rfl rfl ?_ | (refine wq2 (fun hb => ?_) (fun hb => ?_) <;> (simp only [hb]; try simp only [hbs, ne_eq] at hb; try (exfalso; first | omega | exact hb trivial))) | fail)
      have hlen : (m.map Wn.av).length = ((m.map Wn.av).take i ++ List.replicate ((m.map Wn.av).length - i) [AV.v (.int .i64 0), AV.v (.int .i64 0)]).length := by
        rw [List.length_append, List.length_take, List.length_replicate]; omega
      refine o_weak (t := ⟨[(39, .sl 2 ((m.map Wn.av).take i ++ List.replicate ((m.map Wn.av).length - i) [AV.v (.int .i64 0), AV.v (.int .i64 0)])), (40, .v (.int .i64 i))], []⟩) ⟨⟨⟨_, rfl, FinA.one (FinB.cell (FinC.own rfl hlen rfl rfl))⟩, ⟨⟨_, rfl, FinA.one (FinB.cell (FinC.same rfl))⟩, trivial⟩⟩, trivial, rfl⟩ ?_
      repeat' (first | ((first | apply o_do | apply d_do | apply d_yes rfl rfl rfl); first | exact ls_slice_to (n := i) tab_ok rfl rfl rfl rfl (by rw [← hlen]; omega) rfl | exact lsq) | refine a_seq ?_ | refine a_region ?_ | refine o_nil ?_ | refine a_block ?_ | refine a_ret ?_ | refine a_exit ?_ | refine a_skip ?_ | refine a_draw mixed ?_ | refine d_nil (by kernel_rfl) ?_ | refine o_yes rfl rfl rfl ?_ | refine o_no rfl rfl rfl (by decide) ?_ | refine o_no' rfl rfl rfl ?_ | refine a_condT rfl ?_ | refine a_condF rfl ?_ | refine d_no rfl rfl rfl (by decide) ?_ | refine d_no' rfl rfl rfl ?_ | (refine wq2 (fun hb => ?_) (fun hb => ?_) <;> (simp only [hb]; try simp only [hbs, ne_eq] at hb; try (exfalso; first | omega | exact hb trivial))) | fail)
      refine rq rfl ?_
      (first | refine FinA.tup ?_ | refine FinA.one ?_); repeat' (first | exact FinBs.nil | exact FinCs.nil | refine FinBs.cons ?_ ?_ | refine FinCs.cons ?_ ?_ | refine FinB.cell (FinC.v ?_) | refine FinB.cell (FinC.own rfl rfl rfl ?_) | exact FinB.cell FinC.nil | refine FinB.cell (FinC.sl ?_) | exact FinB.agg' rfl rfl | exact FinB.cell (FinC.same rfl) | refine FinB.agg ?_ | refine FinC.v ?_ | refine FinC.own rfl rfl rfl ?_ | exact FinC.nil | refine FinC.sl ?_ | exact FinC.same rfl); all_goals try rfl
      rw [← d4, List.take_append_of_le_length (by rw [List.length_take]; omega), List.take_take, Nat.min_self, List.map_take]
end Go.Proofs.YtilgagmfcdfjaaaGreat
namespace Go.Proofs.YtilgagmfcdfjaaaGreat
open Go.RowKit
set_option linter.unusedSimpArgs false
set_option linter.unusedVariables false
theorem c_OfAll (size slide t : Int) (w : World) : Calls Tryz.prog 51 #[.int .i64 size, .int .i64 slide, .int .i64 t] w fun e w' => ∃ v, e = .returned v ∧ RowW w.heap.size w' v (winL size slide t) ∧ Below w.heap.size w w' := by
  cases hok : okT size slide t
  · have e : winL size slide t = [] := by simp [winL, hok]
    rw [e]
    refine ((p_OfNo size slide t hok).law (w := w) (vs := [_, _, _]) ⟨_, _, rfl, by simp [rep, scal], _, _, rfl, by simp [rep, scal], _, _, rfl, by simp [rep, scal], rfl⟩).mono ?_
    rintro e w' ⟨rfl, hb⟩
    exact ⟨_, rfl, World.ownsRow_nil _ _ _ _, hb⟩
  · exact c_Of size slide t w hok
/-- a box and a row, made since -/
theorem caught2 {w w2 : World} {M : Nat → Prop} {v : Value} {mk : Int} {ws : List Wn} (hbox : Blk w2 w.heap.size 2 #[.int .i64 mk]) (hrow : RowW (w.heap.size + 1) w2 v ws) (hM : ∀ b, M b → b < w.heap.size) (hB : Below w.heap.size w w2) (μ : Nat → Value) :
    SRel [(0, .box 2 [.v (.int .i64 mk)]), (1, .row 59 2 (ws.map Wn.av))] (mu2 w.heap.size v) w2 M ∧
    Gro [] μ w [(0, .box 2 [.v (.int .i64 mk)]), (1, .row 59 2 (ws.map Wn.av))] (mu2 w.heap.size v) w2 ∧
    repL [(0, .box 2 [.v (.int .i64 mk)]), (1, .row 59 2 (ws.map Wn.av))] (mu2 w.heap.size v) w2 (av [(0, .box 2 [.v (.int .i64 mk)]), (1, .row 59 2 (ws.map Wn.av))] (mu2 w.heap.size v) M) [.own 1 (ws.map Wn.av).length, .clo (.func 165) [] [.ref 0 0]] [v, .func (.func 165) #[] #[.pointer (some ⟨w.heap.size, 0, none⟩)]] := by
  have hf : ∀ id o, find [((0 : Nat), SObj.box 2 [AV.v (.int .i64 mk)]), (1, .row 59 2 (ws.map Wn.av))] id = some o → (id = 0 ∧ o = .box 2 [.v (.int .i64 mk)]) ∨ (id = 1 ∧ o = .row 59 2 (ws.map Wn.av)) := by
    intro id o h
    rw [find_cons, find_cons] at h
    split at h
    · rename_i e; injection h with h; exact .inl ⟨e.symm, h.symm⟩
    · split at h
      · rename_i e; injection h with h; exact .inr ⟨e.symm, h.symm⟩
      · simp [find] at h
  have hv : ∀ b, blk v = some b → w.heap.size + 1 ≤ b := by
    intro b hb
    rcases hrow.2 with ⟨rfl, _⟩ | ⟨g, cap, cur, rfl, h1, _⟩
    · simp [blk] at hb
    · simp [blk] at hb; omega
  have hone : v.oneCell' = true := by
    rcases hrow.2 with ⟨rfl, _⟩ | ⟨g, cap, cur, rfl, h1, _⟩ <;> rfl
  have hlt := Blk.lt hbox
  have hb0 : ∀ b, blk (mu2 w.heap.size v 0) = some b → b = w.heap.size := by
    intro b hb; simp [mu2, blk] at hb; exact hb.symm
  refine ⟨⟨fun id o h => ?_, fun id id' o o' g h1 h2 h3 h4 => ?_, fun b h => by have := hM b h; omega, fun id o b h1 h2 h3 => ?_⟩, ⟨hB.os, hB.tape, hB.output, hB.size, fun b hb _ => hB.block b hb, fun id o b h1 h2 h3 => ?_, fun _ _ _ h => by simp [find] at h, fun _ _ _ _ h => by simp [find] at h, fun _ _ h => by simp [find] at h, fun _ h => by simp [find] at h⟩, ?_⟩
  · rcases hf id o h with ⟨rfl, rfl⟩ | ⟨rfl, rfl⟩
    · exact ⟨w.heap.size, [.int .i64 mk], rfl, hbox, repC_con (cs := [.int .i64 mk]) rfl⟩
    · refine ⟨ws.flatMap Wn.cells, ?_, wn_repLL ws⟩
      rw [List.length_map]
      exact OwnS.of (own_base' hrow (Nat.zero_le _)) rfl
  · rcases hf id o h1 with ⟨rfl, _⟩ | ⟨rfl, _⟩ <;> rcases hf id' o' h2 with ⟨rfl, _⟩ | ⟨rfl, _⟩
    · rfl
    · have := hb0 g h3; have := hv g h4; omega
    · have := hb0 g h4; have := hv g h3; omega
    · rfl
  · rcases hf id o h1 with ⟨rfl, _⟩ | ⟨rfl, _⟩
    · have := hb0 b h2; have := hM b h3; omega
    · have := hv b h2; have := hM b h3; omega
  · rcases hf id o h1 with ⟨rfl, _⟩ | ⟨rfl, _⟩
    · have := hb0 b h2; omega
    · have := hv b h2; omega
  · refine ⟨v, _, rfl, ?_, _, [], rfl, ?_, rfl⟩
    · simp only [rep]
      exact ⟨hone, .inr ⟨_, _, _, rfl, Nat.le_refl _, fun _ => rfl⟩⟩
    · simp only [rep]
      refine ⟨[], [.pointer (some ⟨w.heap.size, 0, none⟩)], rfl, rfl, _, [], rfl, ?_, rfl⟩
      simp only [rep]
      exact ⟨_, _, w.heap.size, rfl, Nat.zero_le _, rfl, rfl⟩
theorem ok_Open : CallOK Tryz.prog 153 := ⟨_, Tryz.func153, by kernel_rfl, rfl⟩
section
attribute [local go_sem ↓] Go.wp_at_zero Go.wp_at_succ
set_option maxRecDepth 10000 in
set_option maxHeartbeats 2000000 in
theorem p_Open (size slide t mark : Int) : PC Tryz.prog 153 [.v (.int .i64 size), .v (.int .i64 slide), .v (.int .i64 t), .v (.int .i64 mark)] (.sl 2 ((openL size slide t mark).map Wn.av)) := by
  refine ⟨⟨ok_Open, fun w M μ vs hs hrep => ?_⟩⟩
  simp only [repL, rep] at hrep
  obtain ⟨a, l, rfl, ⟨rfl, _⟩, b, m, rfl, ⟨rfl, _⟩, c, n, rfl, ⟨rfl, _⟩, d, o, rfl, ⟨rfl, _⟩, rfl⟩ := hrep
  go_enter Tryz.func153, Tryz.ntmps153
  go_wp2_with fail
  refine (c_OfAll size slide t _).mono ?_
  rintro e w2 ⟨v, rfl, hrow, hb⟩
  go_wp2_with fail
  have hbox : Blk w2 w.heap.size 2 #[.int .i64 mark] := (hb.block w.heap.size (by simp)).trans (Blk.new _ _ _)
  have hB : Below w.heap.size w w2 := ((Below.refl _ w).alloc (Nat.le_refl _) _).trans (hb.mono (by simp))
  rw [World.size_alloc] at hrow
  obtain ⟨q1, q2, q3⟩ := caught2 (M := M) (mk := mark) (ws := winL size slide t) hbox hrow (fun b hM => hs.lt b hM) hB μ
  refine (c_Del mark (winL size slide t) (by have := winL_len size slide t; omega) (vs := [_, _]) q1 q2 q3).mono ?_
  rintro e w3 ⟨y, μ', rfl, h1, h2, h3⟩
  go_wp2
  go_ret
  exact ⟨y, μ', rfl, h1, h2, h3⟩
end
end Go.Proofs.YtilgagmfcdfjaaaGreat
namespace Go.Proofs.YtilgagmfcdfjaaaGreat
open Go.RowKit
set_option linter.unusedSimpArgs false
set_option linter.unusedVariables false
section
variable {P : Program} {Γ : Ctx} {s : ASt} {dst : Option Tmp} {ty : TypeId} {pos : String} {after : Array Edge}
end
end Go.Proofs.YtilgagmfcdfjaaaGreat
