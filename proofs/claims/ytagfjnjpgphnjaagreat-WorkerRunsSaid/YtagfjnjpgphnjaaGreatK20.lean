/-
  Aligners, walked over abstract values: an item that is offered, by the reference.
  Aligners, walked over abstract values: an item that is offered, by the reference, whole.
  Workers, walked over abstract values: an event put into its group, time that goes on, by the reference.
-/
import Derived.Test.YtagfjnjpgphnjaaGreatK4
import Derived.Test.YtagfjnjpgphnjaaGreatK7
import Derived.Test.YtagfjnjpgphnjaaGreatK11
import Derived.Test.YtagfjnjpgphnjaaGreatK13
import Derived.Test.YtagfjnjpgphnjaaGreatK15
import Derived.Test.YtagfjnjpgphnjaaGreatK18
import Derived.Test.YtagfjnjpgphnjaaGreatK19
namespace Go.Proofs.YtagfjnjpgphnjaaGreat
open Go.RowKit
set_option linter.unusedSimpArgs false
set_option linter.unusedVariables false
def behA (n : Int) (got : List Bool) (held : List (List It)) (k : Nat) (x : It) : Al :=
  if got.getD k false = true then ⟨n, got, held.set k (held.getD k [] ++ [x])⟩ else ⟨x.n, got.set k true, held⟩
theorem set_getD {α : Type} {l : List α} {k : Nat} {d : α} (h : k < l.length) : l.set k (l.getD k d) = l := by
  rw [getD_at h]
  exact List.set_getElem_self h
/-- what goes behind an input's items, and where it stands -/
def behG (got : List Bool) (k : Nat) : List Bool := got.set k true
def behH (got : List Bool) (held : List (List It)) (k : Nat) (x : It) : List (List It) := held.set k (if got.getD k false = true then held.getD k [] ++ [x] else held.getD k [])
def behN (n : Int) (got : List Bool) (k : Nat) (x : It) (q : Nat) : Int := if k < q ∧ got.getD k false = false then x.n else n
theorem behA_eq {n : Int} {got : List Bool} {held : List (List It)} {k : Nat} {x : It} (h : k < got.length) (hl : held.length = got.length) : behA n got held k x = ⟨behN n got k x got.length, behG got k, behH got held k x⟩ := by
  unfold behA behN behG behH
  have hk : k < held.length := by omega
  cases hg : got.getD k false
  · simp only [Bool.false_eq_true, if_false, h, and_self, if_true]
    rw [set_getD hk]
  · simp only [if_true, Bool.true_eq_false, and_false, if_false]
    have : got.set k true = got := by
      have := set_getD (l := got) (d := false) h
      rw [hg] at this
      exact this
    rw [this]
set_option maxRecDepth 10000 in
set_option maxHeartbeats 8000000 in
theorem r_behind (n : Int) (got : List Bool) (held : List (List It)) (k : Nat) (x : It) (hk : k < got.length) (h8 : got.length ≤ 8) (hl : held.length = got.length) (h16 : ∀ l ∈ held, l.length ≤ 16) : PC Tryz.prog 113 [.agg (Al.av ⟨n, got, held⟩), .v (.int .i64 k), .agg x.av] (.agg (behA n got held k x).av) := by
  rw [behA_eq hk hl]
  simp only [Al.av]
  have hGl : (behG got k).length = got.length := List.length_set
  have hHl : (behH got held k x).length = got.length := by unfold behH; rw [List.length_set, hl]
  refine PC.mk (ac_body tab_ok Tryz.func113 rfl (by kernel_rfl) rfl ?_); intro w0 M μ0; simp only [Tryz.ntmps113, List.length_cons, List.length_nil, Nat.reduceAdd, Nat.reduceSub, numb]
  repeat' (first | ((first | apply o_do | apply d_do | apply d_yes rfl rfl rfl); exact lsq) | refine a_seq ?_ | refine a_region ?_ | refine o_nil ?_ | refine a_block ?_ | refine a_ret ?_ | refine a_exit ?_ | refine a_skip ?_ | refine a_draw mixed ?_ | refine d_nil (by kernel_rfl) ?_ | refine o_yes rfl rfl rfl ?_ | refine o_no rfl rfl rfl (by decide) ?_ | refine o_no' rfl rfl rfl ?_ | refine a_condT rfl ?_ | refine a_condF rfl ?_ | refine d_no rfl rfl rfl (by decide) ?_ | refine d_no' rfl rfl rfl ?_ | (refine wq2 (fun hb => ?_) (fun hb => ?_) <;> (simp only [hb]; try simp only [hbs, ne_eq] at hb; try (exfalso; first | omega | exact hb trivial))) | fail)
  refine a_adoptB 3 1 4 4 1 rfl rfl rfl ?_
  refine a_adoptB 3 2 5 53 1 rfl rfl rfl ?_
  refine a_loop (X := {q : Nat // q ≤ got.length}) (fun y => ⟨[(1, .v (.int .i64 k)), (3, .ref 0 0), (5, .ref 1 0), (6, .ref 2 0), (7, .ref 3 0), (17, .sl 1 (got.map boAv)), (18, .v (.int .i64 got.length)), (19, .v (.int .i64 y.1))], [(0, .box 40 [.v (.int .i64 n), .sl 1 (got.map boAv), .sl 1 (held.map heAv)]), (1, .box 63 x.av), (2, .box 40 [.v (.int .i64 0), .v (.slice none 0 0), .v (.slice none 0 0)]), (3, .box 40 [.v (.int .i64 (behN n got k x y.1)), .own 4 (((behG got k).take y.1).map boAv).length, .own 5 (((behH got held k x).take y.1).map heAv).length]), (4, .row 4 1 (((behG got k).take y.1).map boAv)), (5, .row 53 1 (((behH got held k x).take y.1).map heAv))]⟩) (fun y => got.length - y.1) ⟨0, Nat.zero_le _⟩ ?_ ?_
  · refine ⟨by repeat' (first | exact trivial | exact FinA.one (FinB.cell (FinC.same rfl)) | exact FinA.one (FinB.cell FinC.nil) | exact FinA.bound rfl | exact FinA.one (FinB.cell (FinC.own rfl rfl rfl rfl)) | exact FinA.one (FinB.cell (FinC.v (by first | rfl | (simp [behN])))) | exact FinA.one (FinB.cell (FinC.ow rfl (by first | rfl | (simp [behN])))) | exact FinA.one (FinB.agg' rfl rfl) | refine ⟨⟨_, rfl, ?_⟩, ?_⟩), by repeat' (first | exact trivial | refine ⟨⟨_, rfl, by first | rfl | (simp [behN]; done) | (simp [renO, *]; done)⟩, by first | rfl | assumption, ?_⟩), rfl⟩
  rintro ⟨q, hq⟩
  dsimp only
  by_cases hlt : q < got.length
  · have hlh : q < held.length := by omega
    have hel : (got.map boAv)[q]? = some (boAv got[q]) := by simp [hlt]
    have hel2 : (held.map heAv)[q]? = some (heAv held[q]) := by simp [hlh]
    have hsG := take_snoc (behG got k) q (by omega)
    have hsH := take_snoc (behH got held k x) q (by omega)
    have hl1 : (((behG got k).take q).map boAv).length ≤ 8 := by rw [List.length_map, List.length_take]; omega
    have hl2 : (((behH got held k x).take q).map heAv).length ≤ 8 := by rw [List.length_map, List.length_take]; omega
    have hll := h16 _ (List.getElem_mem hlh)
    have hgG : (behG got k)[q]'(by omega) = if k = q then true else got[q] := by simp only [behG, List.getElem_set]
    have hgH : (behH got held k x)[q]'(by omega) = if k = q then (if got.getD k false = true then held.getD k [] ++ [x] else held.getD k []) else held[q] := by simp only [behH, List.getElem_set]
    have hgk : k = q → got.getD k false = got[q] ∧ held.getD k [] = held[q] := by rintro rfl; exact ⟨getD_at hlt, getD_at hlh⟩
    generalize hg0 : got[q] = g at *
    generalize hl0 : held[q] = l at *
    repeat' (first | ((first | apply o_do | apply d_do | apply d_yes rfl rfl rfl); first | exact ls_indexAddr_sl tab_ok rfl rfl rfl rfl (by assumption) rfl | exact ls_indexAddr_sl tab_ok rfl rfl rfl rfl hel2 rfl | exact lsq) | refine a_seq ?_ | refine a_region ?_ | refine o_nil ?_ | refine a_block ?_ | refine a_ret ?_ | refine a_exit ?_ | refine a_skip ?_ | refine a_draw mixed ?_ | refine d_nil (by kernel_rfl) ?_ | refine o_yes rfl rfl rfl ?_ | refine o_no rfl rfl rfl (by decide) ?_ | refine o_no' rfl rfl rfl ?_ | refine a_condT rfl ?_ | refine a_condF rfl ?_ | refine d_no rfl rfl rfl (by decide) ?_ | refine d_no' rfl rfl rfl ?_ | (refine wq2 (fun hb => ?_) (fun hb => ?_) <;> (simp only [hb]; try simp only [hbs, ne_eq] at hb; try (exfalso; first | omega | exact hb trivial))) | fail)
    refine a_loop (X := {p : Nat // p ≤ l.length}) (fun y => ⟨[(1, .v (.int .i64 k)), (3, .ref 0 0), (5, .ref 1 0), (6, .ref 2 0), (7, .ref 3 0), (8, .v (.int .i64 q)), (9, .v (.bool g)), (10, .own 6 ((l.take y.1).map It.av).length), (17, .sl 1 (got.map boAv)), (18, .v (.int .i64 got.length)), (19, .v (.int .i64 q)), (29, .sl 11 (l.map It.av)), (30, .v (.int .i64 l.length)), (31, .v (.int .i64 y.1))], [(0, .box 40 [.v (.int .i64 n), .sl 1 (got.map boAv), .sl 1 (held.map heAv)]), (1, .box 63 x.av), (2, .box 40 [.v (.int .i64 0), .v (.slice none 0 0), .v (.slice none 0 0)]), (3, .box 40 [.v (.int .i64 (behN n got k x q)), .own 4 (((behG got k).take q).map boAv).length, .own 5 (((behH got held k x).take q).map heAv).length]), (4, .row 4 1 (((behG got k).take q).map boAv)), (5, .row 53 1 (((behH got held k x).take q).map heAv)), (6, .row 63 11 ((l.take y.1).map It.av))]⟩) (fun y => l.length - y.1) ⟨0, Nat.zero_le _⟩ ?_ ?_
    · exact wkS
    rintro ⟨p, hp⟩
    dsimp only
    by_cases hpl : p < l.length
    · have hel3 : (l.map It.av)[p]? = some (It.av l[p]) := by simp [hpl]
      have hsn := take_snoc l p hpl
      have hl3 : ((l.take p).map It.av).length ≤ 16 := by rw [List.length_map, List.length_take]; omega
      generalize l[p] = z at *
      have e : (l.take (p + 1)).map It.av = (l.take p).map It.av ++ [It.av z] := by rw [hsn]; simp
      repeat' (first | ((first | apply o_do | apply d_do | apply d_yes rfl rfl rfl); first | exact ls_indexAddr_sl tab_ok rfl rfl rfl rfl hel3 rfl | exact ls_append tab_ok rfl rfl rfl rfl (by first | exact SrcIs.sl | exact SrcIs.nil | exact SrcIs.own rfl rfl) rfl (by (try simp only [List.length_cons, List.length_nil]); omega) rfl rfl | exact lsq) | refine a_seq ?_ | refine a_region ?_ | refine o_nil ?_ | refine a_block ?_ | refine a_ret ?_ | refine a_exit ?_ | refine a_skip ?_ | refine a_draw mixed ?_ | refine d_nil (by kernel_rfl) ?_ | refine o_yes rfl rfl rfl ?_ | refine o_no rfl rfl rfl (by decide) ?_ | refine o_no' rfl rfl rfl ?_ | refine a_condT rfl ?_ | refine a_condF rfl ?_ | refine d_no rfl rfl rfl (by decide) ?_ | refine d_no' rfl rfl rfl ?_ | (refine wq2 (fun hb => ?_) (fun hb => ?_) <;> (simp only [hb]; try simp only [hbs, ne_eq] at hb; try (exfalso; first | omega | exact hb trivial))) | fail)
      refine ⟨⟨p + 1, by omega⟩, by dsimp only; omega, ?_⟩
      refine ⟨by repeat' (first | exact trivial | exact FinA.one (FinB.cell (FinC.same rfl)) | exact FinA.one (FinB.cell FinC.nil) | exact FinA.bound rfl | exact FinA.one (FinB.cell (FinC.own rfl rfl rfl rfl)) | exact FinA.one (FinB.cell (FinC.v (by first | rfl | ((first | (simp only [e]; rfl) | simp))))) | exact FinA.one (FinB.cell (FinC.ow rfl (by first | rfl | ((first | (simp only [e]; rfl) | simp))))) | exact FinA.one (FinB.agg' rfl rfl) | refine ⟨⟨_, rfl, ?_⟩, ?_⟩), by repeat' (first | exact trivial | refine ⟨⟨_, rfl, by first | rfl | ((first | (simp only [e]; rfl) | simp); done) | (simp [renO, *]; done)⟩, by first | rfl | assumption, ?_⟩), rfl⟩
    · obtain rfl : p = l.length := by omega
      rw [List.take_length]
      have hl3 : (l.map It.av).length ≤ 16 := by rw [List.length_map]; omega
      by_cases hkq : k = q
      · subst hkq
        obtain ⟨e1, e2⟩ := hgk rfl
        rw [if_pos rfl] at hgG hgH
        rw [e1, e2] at hgH
        rw [hgG] at hsG
        rw [hgH] at hsH
        have hN0 : behN n got k x k = n := by unfold behN; rw [if_neg (by omega)]
        cases g
        · have hN : behN n got k x (k + 1) = x.n := by unfold behN; rw [if_pos ⟨by omega, e1⟩]
          simp only [Bool.false_eq_true, if_false] at hsH
          have eG : ((behG got k).take (k + 1)).map boAv = ((behG got k).take k).map boAv ++ [boAv true] := by rw [hsG]; simp
          have eH : ((behH got held k x).take (k + 1)).map heAv = ((behH got held k x).take k).map heAv ++ [heAv l] := by rw [hsH]; simp
          repeat' (first | ((first | apply o_do | apply d_do | apply d_yes rfl rfl rfl); first | exact ls_append tab_ok rfl rfl rfl rfl (by first | exact SrcIs.sl | exact SrcIs.nil | exact SrcIs.own rfl rfl) rfl (by (try simp only [List.length_cons, List.length_nil]); omega) rfl rfl | exact lsq) | refine a_seq ?_ | refine a_region ?_ | refine o_nil ?_ | refine a_block ?_ | refine a_ret ?_ | refine a_exit ?_ | refine a_skip ?_ | refine a_draw mixed ?_ | refine d_nil (by kernel_rfl) ?_ | refine o_yes rfl rfl rfl ?_ | refine o_no rfl rfl rfl (by decide) ?_ | refine o_no' rfl rfl rfl ?_ | refine a_condT rfl ?_ | refine a_condF rfl ?_ | refine d_no rfl rfl rfl (by decide) ?_ | refine d_no' rfl rfl rfl ?_ | (refine wq2 (fun hb => ?_) (fun hb => ?_) <;> (simp only [hb]; try simp only [hbs, ne_eq] at hb; try (exfalso; first | omega | exact hb trivial))) | fail)
          refine o_weak (t := ⟨[(1, .v (.int .i64 k)), (3, .ref 0 0), (5, .ref 1 0), (6, .ref 2 0), (7, .ref 3 0), (17, .sl 1 (got.map boAv)), (18, .v (.int .i64 got.length)), (19, .v (.int .i64 k)), (67, .own 5 (((behH got held k x).take k).map heAv).length), (68, .sl 11 (l.map It.av))], [(0, .box 40 [.v (.int .i64 n), .sl 1 (got.map boAv), .sl 1 (held.map heAv)]), (1, .box 63 x.av), (2, .box 40 [.v (.int .i64 0), .v (.slice none 0 0), .v (.slice none 0 0)]), (3, .box 40 [.v (.int .i64 x.n), .own 4 (((behG got k).take k).map boAv ++ [boAv true]).length, .own 5 (((behH got held k x).take k).map heAv).length]), (4, .row 4 1 (((behG got k).take k).map boAv ++ [boAv true])), (5, .row 53 1 (((behH got held k x).take k).map heAv))]⟩) ?_ ?_
          · exact wkS
          repeat' (first | ((first | apply o_do | apply d_do | apply d_yes rfl rfl rfl); first | exact ls_append tab_ok rfl rfl rfl rfl (by first | exact SrcIs.sl | exact SrcIs.nil | exact SrcIs.own rfl rfl) rfl (by (try simp only [List.length_cons, List.length_nil]); omega) rfl rfl | exact lsq) | refine a_seq ?_ | refine a_region ?_ | refine o_nil ?_ | refine a_block ?_ | refine a_ret ?_ | refine a_exit ?_ | refine a_skip ?_ | refine a_draw mixed ?_ | refine d_nil (by kernel_rfl) ?_ | refine o_yes rfl rfl rfl ?_ | refine o_no rfl rfl rfl (by decide) ?_ | refine o_no' rfl rfl rfl ?_ | refine a_condT rfl ?_ | refine a_condF rfl ?_ | refine d_no rfl rfl rfl (by decide) ?_ | refine d_no' rfl rfl rfl ?_ | (refine wq2 (fun hb => ?_) (fun hb => ?_) <;> (simp only [hb]; try simp only [hbs, ne_eq] at hb; try (exfalso; first | omega | exact hb trivial))) | fail)
          refine ⟨⟨k + 1, by omega⟩, by dsimp only; omega, ?_⟩
          refine ⟨by repeat' (first | exact trivial | exact FinA.one (FinB.cell (FinC.same rfl)) | exact FinA.one (FinB.cell FinC.nil) | exact FinA.bound rfl | exact FinA.one (FinB.cell (FinC.own rfl rfl rfl rfl)) | exact FinA.one (FinB.cell (FinC.v (by first | rfl | ((first | (simp only [eG]; done) | (simp only [eH]; rfl) | (simp only [hN, eG, eH]; done) | (simp only [hN, eG, eH]; rfl) | simp))))) | exact FinA.one (FinB.cell (FinC.ow rfl (by first | rfl | ((first | (simp only [eG]; done) | (simp only [eH]; rfl) | (simp only [hN, eG, eH]; done) | (simp only [hN, eG, eH]; rfl) | simp))))) | exact FinA.one (FinB.agg' rfl rfl) | refine ⟨⟨_, rfl, ?_⟩, ?_⟩), by repeat' (first | exact trivial | refine ⟨⟨_, rfl, by first | rfl | ((first | (simp only [eG]; done) | (simp only [eH]; rfl) | (simp only [hN, eG, eH]; done) | (simp only [hN, eG, eH]; rfl) | simp); done) | (simp [renO, *]; done)⟩, by first | rfl | assumption, ?_⟩), rfl⟩
        · have hN : behN n got k x (k + 1) = n := by unfold behN; rw [if_neg (by rw [e1]; simp)]
          simp only [if_true] at hsH
          have eG : ((behG got k).take (k + 1)).map boAv = ((behG got k).take k).map boAv ++ [boAv true] := by rw [hsG]; simp
          have eH : ((behH got held k x).take (k + 1)).map heAv = ((behH got held k x).take k).map heAv ++ [[AV.sl 11 (l.map It.av ++ [It.av x])]] := by rw [hsH]; simp [heAv]
          have eI : (l ++ [x]).map It.av = l.map It.av ++ [It.av x] := by simp
          repeat' (first | ((first | apply o_do | apply d_do | apply d_yes rfl rfl rfl); first | exact ls_append tab_ok rfl rfl rfl rfl (by first | exact SrcIs.sl | exact SrcIs.nil | exact SrcIs.own rfl rfl) rfl (by (try simp only [List.length_cons, List.length_nil]); omega) rfl rfl | exact lsq) | refine a_seq ?_ | refine a_region ?_ | refine o_nil ?_ | refine a_block ?_ | refine a_ret ?_ | refine a_exit ?_ | refine a_skip ?_ | refine a_draw mixed ?_ | refine d_nil (by kernel_rfl) ?_ | refine o_yes rfl rfl rfl ?_ | refine o_no rfl rfl rfl (by decide) ?_ | refine o_no' rfl rfl rfl ?_ | refine a_condT rfl ?_ | refine a_condF rfl ?_ | refine d_no rfl rfl rfl (by decide) ?_ | refine d_no' rfl rfl rfl ?_ | (refine wq2 (fun hb => ?_) (fun hb => ?_) <;> (simp only [hb]; try simp only [hbs, ne_eq] at hb; try (exfalso; first | omega | exact hb trivial))) | fail)
          refine o_weak (t := ⟨[(1, .v (.int .i64 k)), (3, .ref 0 0), (5, .ref 1 0), (6, .ref 2 0), (7, .ref 3 0), (17, .sl 1 (got.map boAv)), (18, .v (.int .i64 got.length)), (19, .v (.int .i64 k)), (67, .own 5 (((behH got held k x).take k).map heAv).length), (68, .sl 11 (l.map It.av ++ [It.av x]))], [(0, .box 40 [.v (.int .i64 n), .sl 1 (got.map boAv), .sl 1 (held.map heAv)]), (1, .box 63 x.av), (2, .box 40 [.v (.int .i64 0), .v (.slice none 0 0), .v (.slice none 0 0)]), (3, .box 40 [.v (.int .i64 n), .own 4 (((behG got k).take k).map boAv ++ [boAv true]).length, .own 5 (((behH got held k x).take k).map heAv).length]), (4, .row 4 1 (((behG got k).take k).map boAv ++ [boAv true])), (5, .row 53 1 (((behH got held k x).take k).map heAv))]⟩) ?_ ?_
          · refine ⟨by repeat' (first | exact trivial | exact FinA.one (FinB.cell (FinC.same rfl)) | exact FinA.one (FinB.cell FinC.nil) | exact FinA.bound rfl | exact FinA.one (FinB.cell (FinC.own rfl rfl rfl rfl)) | exact FinA.one (FinB.cell (FinC.v (by first | rfl | ((first | (simp only [hN0]; done) | simp [hN0]))))) | exact FinA.one (FinB.cell (FinC.ow rfl (by first | rfl | ((first | (simp only [hN0]; done) | simp [hN0]))))) | exact FinA.one (FinB.agg' rfl rfl) | refine ⟨⟨_, rfl, ?_⟩, ?_⟩), by repeat' (first | exact trivial | refine ⟨⟨_, rfl, by first | rfl | ((first | (simp only [hN0]; done) | simp [hN0]); done) | (simp [renO, *]; done)⟩, by first | rfl | assumption, ?_⟩), rfl⟩
          repeat' (first | ((first | apply o_do | apply d_do | apply d_yes rfl rfl rfl); first | exact ls_append tab_ok rfl rfl rfl rfl (by first | exact SrcIs.sl | exact SrcIs.nil | exact SrcIs.own rfl rfl) rfl (by (try simp only [List.length_cons, List.length_nil]); omega) rfl rfl | exact lsq) | refine a_seq ?_ | refine a_region ?_ | refine o_nil ?_ | refine a_block ?_ | refine a_ret ?_ | refine a_exit ?_ | refine a_skip ?_ | refine a_draw mixed ?_ | refine d_nil (by kernel_rfl) ?_ | refine o_yes rfl rfl rfl ?_ | refine o_no rfl rfl rfl (by decide) ?_ | refine o_no' rfl rfl rfl ?_ | refine a_condT rfl ?_ | refine a_condF rfl ?_ | refine d_no rfl rfl rfl (by decide) ?_ | refine d_no' rfl rfl rfl ?_ | (refine wq2 (fun hb => ?_) (fun hb => ?_) <;> (simp only [hb]; try simp only [hbs, ne_eq] at hb; try (exfalso; first | omega | exact hb trivial))) | fail)
          refine ⟨⟨k + 1, by omega⟩, by dsimp only; omega, ?_⟩
          refine ⟨by repeat' (first | exact trivial | exact FinA.one (FinB.cell (FinC.same rfl)) | exact FinA.one (FinB.cell FinC.nil) | exact FinA.bound rfl | exact FinA.one (FinB.cell (FinC.own rfl rfl rfl rfl)) | exact FinA.one (FinB.cell (FinC.v (by first | rfl | ((first | (simp only [eG]; done) | (simp only [eH]; rfl) | (simp only [hN, eG, eH]; done) | (simp only [hN, eG, eH]; rfl) | simp))))) | exact FinA.one (FinB.cell (FinC.ow rfl (by first | rfl | ((first | (simp only [eG]; done) | (simp only [eH]; rfl) | (simp only [hN, eG, eH]; done) | (simp only [hN, eG, eH]; rfl) | simp))))) | exact FinA.one (FinB.agg' rfl rfl) | refine ⟨⟨_, rfl, ?_⟩, ?_⟩), by repeat' (first | exact trivial | refine ⟨⟨_, rfl, by first | rfl | ((first | (simp only [eG]; done) | (simp only [eH]; rfl) | (simp only [hN, eG, eH]; done) | (simp only [hN, eG, eH]; rfl) | simp); done) | (simp [renO, *]; done)⟩, by first | rfl | assumption, ?_⟩), rfl⟩
      · rw [if_neg hkq] at hgG hgH
        rw [hgG] at hsG
        rw [hgH] at hsH
        have hkI : ¬ (q : Int) = (k : Int) := by omega
        have hN : behN n got k x (q + 1) = behN n got k x q := by
          unfold behN
          by_cases h : k < q
          · by_cases h2 : got.getD k false = false
            · rw [if_pos ⟨by omega, h2⟩, if_pos ⟨h, h2⟩]
            · rw [if_neg (fun h3 => h2 h3.2), if_neg (fun h3 => h2 h3.2)]
          · rw [if_neg (by omega), if_neg (by omega)]
        have eG : ((behG got k).take (q + 1)).map boAv = ((behG got k).take q).map boAv ++ [boAv g] := by rw [hsG]; simp
        have eH : ((behH got held k x).take (q + 1)).map heAv = ((behH got held k x).take q).map heAv ++ [heAv l] := by rw [hsH]; simp
        repeat' (first | ((first | apply o_do | apply d_do | apply d_yes rfl rfl rfl); first | exact ls_append tab_ok rfl rfl rfl rfl (by first | exact SrcIs.sl | exact SrcIs.nil | exact SrcIs.own rfl rfl) rfl (by (try simp only [List.length_cons, List.length_nil]); omega) rfl rfl | exact lsq) | refine a_seq ?_ | refine a_region ?_ | refine o_nil ?_ | refine a_block ?_ | refine a_ret ?_ | refine a_exit ?_ | refine a_skip ?_ | refine a_draw mixed ?_ | refine d_nil (by kernel_rfl) ?_ | refine o_yes rfl rfl rfl ?_ | refine o_no rfl rfl rfl (by decide) ?_ | refine o_no' rfl rfl rfl ?_ | refine a_condT rfl ?_ | refine a_condF rfl ?_ | refine d_no rfl rfl rfl (by decide) ?_ | refine d_no' rfl rfl rfl ?_ | (refine wq2 (fun hb => ?_) (fun hb => ?_) <;> (simp only [hb]; try simp only [hbs, ne_eq] at hb; try (exfalso; first | omega | exact hb trivial))) | fail)
        refine o_weak (t := ⟨[(1, .v (.int .i64 k)), (3, .ref 0 0), (5, .ref 1 0), (6, .ref 2 0), (7, .ref 3 0), (17, .sl 1 (got.map boAv)), (18, .v (.int .i64 got.length)), (19, .v (.int .i64 q)), (67, .own 5 (((behH got held k x).take q).map heAv).length), (68, .sl 11 (l.map It.av))], [(0, .box 40 [.v (.int .i64 n), .sl 1 (got.map boAv), .sl 1 (held.map heAv)]), (1, .box 63 x.av), (2, .box 40 [.v (.int .i64 0), .v (.slice none 0 0), .v (.slice none 0 0)]), (3, .box 40 [.v (.int .i64 (behN n got k x q)), .own 4 (((behG got k).take q).map boAv ++ [boAv g]).length, .own 5 (((behH got held k x).take q).map heAv).length]), (4, .row 4 1 (((behG got k).take q).map boAv ++ [boAv g])), (5, .row 53 1 (((behH got held k x).take q).map heAv))]⟩) ?_ ?_
        · exact wkS
        repeat' (first | ((first | apply o_do | apply d_do | apply d_yes rfl rfl rfl); first | exact ls_append tab_ok rfl rfl rfl rfl (by first | exact SrcIs.sl | exact SrcIs.nil | exact SrcIs.own rfl rfl) rfl (by (try simp only [List.length_cons, List.length_nil]); omega) rfl rfl | exact lsq) | refine a_seq ?_ | refine a_region ?_ | refine o_nil ?_ | refine a_block ?_ | refine a_ret ?_ | refine a_exit ?_ | refine a_skip ?_ | refine a_draw mixed ?_ | refine d_nil (by kernel_rfl) ?_ | refine o_yes rfl rfl rfl ?_ | refine o_no rfl rfl rfl (by decide) ?_ | refine o_no' rfl rfl rfl ?_ | refine a_condT rfl ?_ | refine a_condF rfl ?_ | refine d_no rfl rfl rfl (by decide) ?_ | refine d_no' rfl rfl rfl ?_ | (refine wq2 (fun hb => ?_) (fun hb => ?_) <;> (simp only [hb]; try simp only [hbs, ne_eq] at hb; try (exfalso; first | omega | exact hb trivial))) | fail)
        refine ⟨⟨q + 1, by omega⟩, by dsimp only; omega, ?_⟩
        refine ⟨by repeat' (first | exact trivial | exact FinA.one (FinB.cell (FinC.same rfl)) | exact FinA.one (FinB.cell FinC.nil) | exact FinA.bound rfl | exact FinA.one (FinB.cell (FinC.own rfl rfl rfl rfl)) | exact FinA.one (FinB.cell (FinC.v (by first | rfl | ((first | (simp only [eG]; done) | (simp only [eH]; rfl) | (simp only [hN, eG, eH]; done) | (simp only [hN, eG, eH]; rfl) | simp))))) | exact FinA.one (FinB.cell (FinC.ow rfl (by first | rfl | ((first | (simp only [eG]; done) | (simp only [eH]; rfl) | (simp only [hN, eG, eH]; done) | (simp only [hN, eG, eH]; rfl) | simp))))) | exact FinA.one (FinB.agg' rfl rfl) | refine ⟨⟨_, rfl, ?_⟩, ?_⟩), by repeat' (first | exact trivial | refine ⟨⟨_, rfl, by first | rfl | ((first | (simp only [eG]; done) | (simp only [eH]; rfl) | (simp only [hN, eG, eH]; done) | (simp only [hN, eG, eH]; rfl) | simp); done) | (simp [renO, *]; done)⟩, by first | rfl | assumption, ?_⟩), rfl⟩
  · obtain rfl : q = got.length := by omega
    rw [List.take_of_length_le (by omega : (behG got k).length ≤ got.length), List.take_of_length_le (by omega : (behH got held k x).length ≤ got.length)]
    repeat' (first | ((first | apply o_do | apply d_do | apply d_yes rfl rfl rfl); exact lsq) | refine a_seq ?_ | refine a_region ?_ | refine o_nil ?_ | refine a_block ?_ | refine a_ret ?_ | refine a_exit ?_ | refine a_skip ?_ | refine a_draw mixed ?_ | refine d_nil (by kernel_rfl) ?_ | refine o_yes rfl rfl rfl ?_ | refine o_no rfl rfl rfl (by decide) ?_ | refine o_no' rfl rfl rfl ?_ | refine a_condT rfl ?_ | refine a_condF rfl ?_ | refine d_no rfl rfl rfl (by decide) ?_ | refine d_no' rfl rfl rfl ?_ | (refine wq2 (fun hb => ?_) (fun hb => ?_) <;> (simp only [hb]; try simp only [hbs, ne_eq] at hb; try (exfalso; first | omega | exact hb trivial))) | fail)
    refine rq rfl ?_
    exact fnq
end Go.Proofs.YtagfjnjpgphnjaaGreat
namespace Go.Proofs.YtagfjnjpgphnjaaGreat
open Go.RowKit
set_option linter.unusedSimpArgs false
set_option linter.unusedVariables false
set_option maxRecDepth 10000 in
set_option maxHeartbeats 8000000 in
/-- the barrier comes to an input that has none yet -/
theorem r_bar (n : Int) (got : List Bool) (held : List (List It)) (k : Nat) (x : It) (hr : alR ⟨n, got, held⟩ = true) (hk : k < got.length) (hit : itR x = true) (hg : got[k] = false) (h4 : x.kind = 4) (hn : ¬ (n ≠ 0 ∧ n ≠ x.n)) :
    PC Tryz.prog 63 [.agg (Al.av ⟨n, got, held⟩), .v (.int .i64 k), .agg x.av]
      (AlO.avR (if (got.set k true).any (!·) = true then ⟨⟨x.n, got.set k true, held⟩, false, 0, [], 0⟩ else ⟨⟨0, newGot got.length, newHeld got.length⟩, false, x.n, latesN held held.length, 0⟩)) := by
  obtain ⟨b1, b2, b3, b4, b5, b6, b7, b8⟩ := alR_ok hr
  dsimp only at b1 b2 b3 b4 b5 b6 b7 b8
  have h1 := l_rRight ⟨n, got, held⟩ (by dsimp only; omega) (by dsimp only; omega) (fun l hl => by have := b8 l hl; omega)
  rw [hr] at h1
  have h2 := i_rRight x
  rw [hit] at h2
  have hbe := r_behind n got held k x hk b2 b3 b8
  have hnew := l_rNew got.length
  have eE : newE (got.length : Int) = 0 := by unfold newE; rw [if_pos ⟨by omega, by omega⟩]
  rw [eE] at hnew
  have hgD : got.getD k false = false := (getD_at hk).trans hg
  have ebe : behA n got held k x = ⟨x.n, got.set k true, held⟩ := by unfold behA; rw [if_neg (by rw [hgD]; simp)]
  rw [ebe] at hbe
  have hel : (got.map boAv)[k]? = some (boAv false) := by simp [hk, hg]
  have hGl : (got.set k true).length = got.length := List.length_set
  have n1 : (got.map boAv).length = got.length := List.length_map _
  generalize hGd : got.set k true = G at *
  simp only [Al.av] at h1 hbe hnew ⊢
  by_cases hn0 : n = 0
  all_goals
    have hn2 : n = 0 ∨ n = x.n := by omega
    refine PC.mk (ac_body tab_ok Tryz.func63 rfl (by kernel_rfl) rfl ?_); intro w0 M μ0; simp only [Tryz.ntmps63, List.length_cons, List.length_nil, Nat.reduceAdd, Nat.reduceSub, numb]
    repeat' (first | ((first | apply o_do | apply d_do | apply d_yes rfl rfl rfl); first | exact lsc (h1) | exact lsc (h2) | exact ls_indexAddr_sl tab_ok rfl rfl rfl rfl hel rfl | exact lsc (hbe) | exact lsq) | refine a_seq ?_ | refine a_region ?_ | refine o_nil ?_ | refine a_block ?_ | refine a_ret ?_ | refine a_exit ?_ | refine a_skip ?_ | refine a_draw mixed ?_ | refine d_nil (by kernel_rfl) ?_ | refine o_yes rfl rfl rfl ?_ | refine o_no rfl rfl rfl (by decide) ?_ | refine o_no' rfl rfl rfl ?_ | refine a_condT rfl ?_ | refine a_condF rfl ?_ | refine d_no rfl rfl rfl (by decide) ?_ | refine d_no' rfl rfl rfl ?_ | (refine wq2 (fun hb => ?_) (fun hb => ?_) <;> (simp only [hb]; try simp only [hbs, ne_eq] at hb; try (exfalso; first | omega | exact hb trivial))) | fail)
    refine a_loop (X := {q : Nat // q ≤ got.length ∧ (G.take q).all id = true}) (fun y => ⟨[(3, .ref 0 0), (5, .ref 1 0), (6, .ref 2 0), (7, .ref 3 0), (8, .own 4 ((latesN held y.1).map Lt.av).length), (75, .sl 1 (G.map boAv)), (76, .v (.int .i64 got.length)), (77, .v (.int .i64 y.1))], [(0, .box 40 [.v (.int .i64 n), .sl 1 (got.map boAv), .sl 1 (held.map heAv)]), (1, .box 63 x.av), (2, .box 128 [.v (.int .i64 0), .v (.slice none 0 0), .v (.slice none 0 0), .v (.bool false), .v (.int .i64 0), .v (.slice none 0 0), .v (.int .i64 0)]), (3, .box 40 [.v (.int .i64 x.n), .sl 1 (G.map boAv), .sl 1 (held.map heAv)]), (4, .row 117 12 ((latesN held y.1).map Lt.av))]⟩) (fun y => got.length - y.1) ⟨0, Nat.zero_le _, rfl⟩ ?_ ?_
    · refine ⟨by repeat' (first | exact trivial | exact FinA.one (FinB.cell (FinC.same rfl)) | exact FinA.one (FinB.cell FinC.nil) | exact FinA.bound rfl | exact FinA.one (FinB.cell (FinC.own rfl rfl rfl rfl)) | exact FinA.one (FinB.cell (FinC.v (by first | rfl | ((first | rfl | simp [hGl] | simp [latesN]))))) | exact FinA.one (FinB.cell (FinC.ow rfl (by first | rfl | ((first | rfl | simp [hGl] | simp [latesN]))))) | exact FinA.one (FinB.agg' rfl rfl) | refine ⟨⟨_, rfl, ?_⟩, ?_⟩), by repeat' (first | exact trivial | refine ⟨⟨_, rfl, by first | rfl | ((first | rfl | simp [hGl] | simp [latesN]); done) | (simp [renO, *]; done)⟩, by first | rfl | assumption, ?_⟩), rfl⟩
    rintro ⟨q, hq, hall⟩
    dsimp only
    by_cases hlt : q < got.length
    · have hlG : q < G.length := by omega
      have hlh : q < held.length := by omega
      have hel2 : (G.map boAv)[q]? = some (boAv G[q]) := by simp [hlG]
      have hel3 : (held.map heAv)[q]? = some (heAv held[q]) := by simp [hlh]
      have hsn := take_snoc G q hlG
      have hll := b8 _ (List.getElem_mem hlh)
      have hlat := latesN_succ held q hlh
      have hlle := latesN_le (held := held) (by omega) b8 q (by omega)
      have hany : G[q] = false → G.any (!·) = true := fun h => List.any_eq_true.2 ⟨G[q], List.getElem_mem hlG, by rw [h]; rfl⟩
      have hgo : G[q] = true → (G.take (q + 1)).all id = true := fun h => by rw [hsn, List.all_append, hall]; simp [h]
      cases hg0 : G[q]
      · rw [hg0] at hel2
        rw [if_pos (hany hg0)]
        simp only [AlO.avR, List.map_nil]
        repeat' (first | ((first | apply o_do | apply d_do | apply d_yes rfl rfl rfl); first | exact ls_indexAddr_sl tab_ok rfl rfl rfl rfl hel2 rfl | exact lsq) | refine a_seq ?_ | refine a_region ?_ | refine o_nil ?_ | refine a_block ?_ | refine a_ret ?_ | refine a_exit ?_ | refine a_skip ?_ | refine a_draw mixed ?_ | refine d_nil (by kernel_rfl) ?_ | refine o_yes rfl rfl rfl ?_ | refine o_no rfl rfl rfl (by decide) ?_ | refine o_no' rfl rfl rfl ?_ | refine a_condT rfl ?_ | refine a_condF rfl ?_ | refine d_no rfl rfl rfl (by decide) ?_ | refine d_no' rfl rfl rfl ?_ | (refine wq2 (fun hb => ?_) (fun hb => ?_) <;> (simp only [hb]; try simp only [hbs, ne_eq] at hb; try (exfalso; first | omega | exact hb trivial))) | fail)
        refine rq rfl ?_
        exact fnq
      · rw [hg0] at hel2
        have hg1 := hgo hg0
        generalize held[q] = l at *
        repeat' (first | ((first | apply o_do | apply d_do | apply d_yes rfl rfl rfl); first | exact ls_indexAddr_sl tab_ok rfl rfl rfl rfl hel2 rfl | exact ls_indexAddr_sl tab_ok rfl rfl rfl rfl hel3 rfl | exact lsq) | refine a_seq ?_ | refine a_region ?_ | refine o_nil ?_ | refine a_block ?_ | refine a_ret ?_ | refine a_exit ?_ | refine a_skip ?_ | refine a_draw mixed ?_ | refine d_nil (by kernel_rfl) ?_ | refine o_yes rfl rfl rfl ?_ | refine o_no rfl rfl rfl (by decide) ?_ | refine o_no' rfl rfl rfl ?_ | refine a_condT rfl ?_ | refine a_condF rfl ?_ | refine d_no rfl rfl rfl (by decide) ?_ | refine d_no' rfl rfl rfl ?_ | (refine wq2 (fun hb => ?_) (fun hb => ?_) <;> (simp only [hb]; try simp only [hbs, ne_eq] at hb; try (exfalso; first | omega | exact hb trivial))) | fail)
        refine a_loop (X := {p : Nat // p ≤ l.length}) (fun y => ⟨[(3, .ref 0 0), (5, .ref 1 0), (6, .ref 2 0), (7, .ref 3 0), (8, .own 4 ((latesN held q).map Lt.av ++ (lts q (l.take y.1)).map Lt.av).length), (9, .v (.int .i64 q)), (75, .sl 1 (G.map boAv)), (76, .v (.int .i64 got.length)), (77, .v (.int .i64 q)), (90, .sl 11 (l.map It.av)), (91, .v (.int .i64 l.length)), (92, .v (.int .i64 y.1))], [(0, .box 40 [.v (.int .i64 n), .sl 1 (got.map boAv), .sl 1 (held.map heAv)]), (1, .box 63 x.av), (2, .box 128 [.v (.int .i64 0), .v (.slice none 0 0), .v (.slice none 0 0), .v (.bool false), .v (.int .i64 0), .v (.slice none 0 0), .v (.int .i64 0)]), (3, .box 40 [.v (.int .i64 x.n), .sl 1 (G.map boAv), .sl 1 (held.map heAv)]), (4, .row 117 12 ((latesN held q).map Lt.av ++ (lts q (l.take y.1)).map Lt.av))]⟩) (fun y => l.length - y.1) ⟨0, Nat.zero_le _⟩ ?_ ?_
        · refine ⟨by repeat' (first | exact trivial | exact FinA.one (FinB.cell (FinC.same rfl)) | exact FinA.one (FinB.cell FinC.nil) | exact FinA.bound rfl | exact FinA.one (FinB.cell (FinC.own rfl rfl rfl rfl)) | exact FinA.one (FinB.cell (FinC.v (by first | rfl | (simp [lts])))) | exact FinA.one (FinB.cell (FinC.ow rfl (by first | rfl | (simp [lts])))) | exact FinA.one (FinB.agg' rfl rfl) | refine ⟨⟨_, rfl, ?_⟩, ?_⟩), by repeat' (first | exact trivial | refine ⟨⟨_, rfl, by first | rfl | (simp [lts]; done) | (simp [renO, *]; done)⟩, by first | rfl | assumption, ?_⟩), rfl⟩
        rintro ⟨p, hp⟩
        dsimp only
        by_cases hpl : p < l.length
        · have hel4 : (l.map It.av)[p]? = some (It.av l[p]) := by simp [hpl]
          have hsn2 := take_snoc l p hpl
          have hls := lts_snoc q (l.take p) l[p]
          rw [← hsn2] at hls
          have hl2 : ((latesN held q).map Lt.av ++ (lts q (l.take p)).map Lt.av).length ≤ 1000 := by simp [lts]; omega
          generalize l[p] = z at *
          have e : (latesN held q).map Lt.av ++ (lts q (l.take (p + 1))).map Lt.av = ((latesN held q).map Lt.av ++ (lts q (l.take p)).map Lt.av) ++ [Lt.av ⟨q, z⟩] := by rw [hls]; simp
          repeat' (first | ((first | apply o_do | apply d_do | apply d_yes rfl rfl rfl); first | exact ls_indexAddr_sl tab_ok rfl rfl rfl rfl hel4 rfl | exact ls_append tab_ok rfl rfl rfl rfl (by first | exact SrcIs.sl | exact SrcIs.nil | exact SrcIs.own rfl rfl) rfl (by (try simp only [List.length_cons, List.length_nil]); omega) rfl rfl | exact lsq) | refine a_seq ?_ | refine a_region ?_ | refine o_nil ?_ | refine a_block ?_ | refine a_ret ?_ | refine a_exit ?_ | refine a_skip ?_ | refine a_draw mixed ?_ | refine d_nil (by kernel_rfl) ?_ | refine o_yes rfl rfl rfl ?_ | refine o_no rfl rfl rfl (by decide) ?_ | refine o_no' rfl rfl rfl ?_ | refine a_condT rfl ?_ | refine a_condF rfl ?_ | refine d_no rfl rfl rfl (by decide) ?_ | refine d_no' rfl rfl rfl ?_ | (refine wq2 (fun hb => ?_) (fun hb => ?_) <;> (simp only [hb]; try simp only [hbs, ne_eq] at hb; try (exfalso; first | omega | exact hb trivial))) | fail)
          refine ⟨⟨p + 1, by omega⟩, by dsimp only; omega, ?_⟩
          refine ⟨by repeat' (first | exact trivial | exact FinA.one (FinB.cell (FinC.same rfl)) | exact FinA.one (FinB.cell FinC.nil) | exact FinA.bound rfl | exact FinA.one (FinB.cell (FinC.own rfl rfl rfl rfl)) | exact FinA.one (FinB.cell (FinC.v (by first | rfl | ((first | (simp only [e]; rfl) | simp))))) | exact FinA.one (FinB.cell (FinC.ow rfl (by first | rfl | ((first | (simp only [e]; rfl) | simp))))) | exact FinA.one (FinB.agg' rfl rfl) | refine ⟨⟨_, rfl, ?_⟩, ?_⟩), by repeat' (first | exact trivial | refine ⟨⟨_, rfl, by first | rfl | ((first | (simp only [e]; rfl) | simp); done) | (simp [renO, *]; done)⟩, by first | rfl | assumption, ?_⟩), rfl⟩
        · obtain rfl : p = l.length := by omega
          rw [List.take_length]
          have e : (latesN held (q + 1)).map Lt.av = (latesN held q).map Lt.av ++ (lts q l).map Lt.av := by rw [hlat]; simp
          repeat' (first | ((first | apply o_do | apply d_do | apply d_yes rfl rfl rfl); exact lsq) | refine a_seq ?_ | refine a_region ?_ | refine o_nil ?_ | refine a_block ?_ | refine a_ret ?_ | refine a_exit ?_ | refine a_skip ?_ | refine a_draw mixed ?_ | refine d_nil (by kernel_rfl) ?_ | refine o_yes rfl rfl rfl ?_ | refine o_no rfl rfl rfl (by decide) ?_ | refine o_no' rfl rfl rfl ?_ | refine a_condT rfl ?_ | refine a_condF rfl ?_ | refine d_no rfl rfl rfl (by decide) ?_ | refine d_no' rfl rfl rfl ?_ | (refine wq2 (fun hb => ?_) (fun hb => ?_) <;> (simp only [hb]; try simp only [hbs, ne_eq] at hb; try (exfalso; first | omega | exact hb trivial))) | fail)
          refine ⟨⟨q + 1, by omega, hg1⟩, by dsimp only; omega, ?_⟩
          refine ⟨by repeat' (first | exact trivial | exact FinA.one (FinB.cell (FinC.same rfl)) | exact FinA.one (FinB.cell FinC.nil) | exact FinA.bound rfl | exact FinA.one (FinB.cell (FinC.own rfl rfl rfl rfl)) | exact FinA.one (FinB.cell (FinC.v (by first | rfl | ((first | (simp only [e]; done) | (simp only [e]; rfl) | simp))))) | exact FinA.one (FinB.cell (FinC.ow rfl (by first | rfl | ((first | (simp only [e]; done) | (simp only [e]; rfl) | simp))))) | exact FinA.one (FinB.agg' rfl rfl) | refine ⟨⟨_, rfl, ?_⟩, ?_⟩), by repeat' (first | exact trivial | refine ⟨⟨_, rfl, by first | rfl | ((first | (simp only [e]; done) | (simp only [e]; rfl) | simp); done) | (simp [renO, *]; done)⟩, by first | rfl | assumption, ?_⟩), rfl⟩
    · obtain rfl : q = got.length := by omega
      rw [List.take_of_length_le (by omega)] at hall
      have hany : ¬ G.any (!·) = true := by
        intro h
        obtain ⟨z, hz, hz2⟩ := List.any_eq_true.1 h
        have := List.all_eq_true.1 hall z hz
        cases z <;> simp_all
      rw [if_neg hany, b3]
      simp only [AlO.avR]
      have n1' : ((got.map boAv).length : Int) = (got.length : Int) := by rw [n1]
      rw [← n1'] at hnew
      repeat' (first | ((first | apply o_do | apply d_do | apply d_yes rfl rfl rfl); first | exact lsc (hnew) | exact lsq) | refine a_seq ?_ | refine a_region ?_ | refine o_nil ?_ | refine a_block ?_ | refine a_ret ?_ | refine a_exit ?_ | refine a_skip ?_ | refine a_draw mixed ?_ | refine d_nil (by kernel_rfl) ?_ | refine o_yes rfl rfl rfl ?_ | refine o_no rfl rfl rfl (by decide) ?_ | refine o_no' rfl rfl rfl ?_ | refine a_condT rfl ?_ | refine a_condF rfl ?_ | refine d_no rfl rfl rfl (by decide) ?_ | refine d_no' rfl rfl rfl ?_ | (refine wq2 (fun hb => ?_) (fun hb => ?_) <;> (simp only [hb]; try simp only [hbs, ne_eq] at hb; try (exfalso; first | omega | exact hb trivial))) | fail)
      refine rq rfl ?_
      (first | refine FinA.tup ?_ | refine FinA.one ?_); repeat' (first | exact FinBs.nil | exact FinCs.nil | refine FinBs.cons ?_ ?_ | refine FinCs.cons ?_ ?_ | refine FinB.cell (FinC.v ?_) | refine FinB.cell (FinC.own rfl rfl rfl ?_) | exact FinB.cell FinC.nil | refine FinB.cell (FinC.sl ?_) | exact FinB.agg' rfl rfl | exact FinB.cell (FinC.same rfl) | refine FinB.agg ?_ | refine FinC.v ?_ | refine FinC.own rfl rfl rfl ?_ | exact FinC.nil | refine FinC.sl ?_ | exact FinC.same rfl); all_goals try rfl
      all_goals rw [n1]
set_option maxHeartbeats 4000000 in
theorem r_Offer (a : Al) (i : Int) (x : It) (hg : a.got.length ≤ 9223372036854775807) (hh : a.held.length ≤ 9223372036854775807) (hi : ∀ l ∈ a.held, l.length ≤ 9223372036854775807) : PC Tryz.prog 63 [.agg a.av, .v (.int .i64 i), .agg x.av] (alOffer a i x).avR := by
  have h1 := l_rRight a hg hh hi
  have h2 := i_rRight x
  obtain ⟨n, got, held⟩ := a
  dsimp only at hg hh hi
  have n1 : (got.map boAv).length = got.length := List.length_map _
  unfold alOffer alHas
  by_cases hok : alR ⟨n, got, held⟩ = true ∧ (0 ≤ i ∧ i < got.length) ∧ itR x = true
  · obtain ⟨hr, ⟨h5, h6⟩, hit⟩ := hok
    obtain ⟨k, rfl⟩ : ∃ k : Nat, i = (k : Int) := ⟨i.toNat, by omega⟩
    have hk : k < got.length := by omega
    obtain ⟨b1, b2, b3, b4, b5, b6, b7, b8⟩ := alR_ok hr
    dsimp only at b1 b2 b3 b4 b5 b6 b7 b8
    have hkh : k < held.length := by omega
    rw [hr] at h1
    rw [hit] at h2
    simp only [hr, hit, Bool.true_and, h5, h6, decide_true, Bool.and_self, Bool.true_eq_false, if_false, Int.toNat_natCast, getD_at hk, getD_at hkh]
    have hel : (got.map boAv)[k]? = some (boAv got[k]) := by simp [hk]
    have hel2 : (held.map heAv)[k]? = some (heAv held[k]) := by simp [hkh]
    have hbe := r_behind n got held k x hk b2 b3 b8
    cases hg0 : got[k]
    · rw [hg0] at hel
      by_cases h4 : x.kind = 4
      · by_cases hn : n ≠ 0 ∧ n ≠ x.n
        · simp only [Bool.false_eq_true, if_false, h4, ne_eq, not_true, hn, not_false_eq_true, and_self, if_true, AlO.avR, alZ, Al.av, List.map_nil] at h1 ⊢
          obtain ⟨hn1, hn2⟩ := hn
          refine PC.mk (ac_body tab_ok Tryz.func63 rfl (by kernel_rfl) rfl ?_); intro w0 M μ0; simp only [Tryz.ntmps63, List.length_cons, List.length_nil, Nat.reduceAdd, Nat.reduceSub, numb]
          repeat' (first | ((first | apply o_do | apply d_do | apply d_yes rfl rfl rfl); first | exact lsc (h1) | exact lsc (h2) | exact ls_indexAddr_sl tab_ok rfl rfl rfl rfl hel rfl | exact lsq) | refine a_seq ?_ | refine a_region ?_ | refine o_nil ?_ | refine a_block ?_ | refine a_ret ?_ | refine a_exit ?_ | refine a_skip ?_ | refine a_draw mixed ?_ | refine d_nil (by kernel_rfl) ?_ | refine o_yes rfl rfl rfl ?_ | refine o_no rfl rfl rfl (by decide) ?_ | refine o_no' rfl rfl rfl ?_ | refine a_condT rfl ?_ | refine a_condF rfl ?_ | refine d_no rfl rfl rfl (by decide) ?_ | refine d_no' rfl rfl rfl ?_ | (refine wq2 (fun hb => ?_) (fun hb => ?_) <;> (simp only [hb]; try simp only [hbs, ne_eq] at hb; try (exfalso; first | omega | exact hb trivial))) | fail)
          all_goals first
            | (refine rq rfl ?_; (exact fnq); done)
            | (exfalso; omega)
        · have hb := r_bar n got held k x hr hk hit hg0 h4 hn
          simp only [Bool.false_eq_true, if_false, h4, ne_eq, not_true, if_neg hn]
          exact hb
      · simp only [Bool.false_eq_true, if_false, h4, ne_eq, not_false_eq_true, if_true, AlO.avR, Al.av, List.map_nil] at h1 ⊢
        refine PC.mk (ac_body tab_ok Tryz.func63 rfl (by kernel_rfl) rfl ?_); intro w0 M μ0; simp only [Tryz.ntmps63, List.length_cons, List.length_nil, Nat.reduceAdd, Nat.reduceSub, numb]
        repeat' (first | ((first | apply o_do | apply d_do | apply d_yes rfl rfl rfl); first | exact lsc (h1) | exact lsc (h2) | exact ls_indexAddr_sl tab_ok rfl rfl rfl rfl hel rfl | exact lsq) | refine a_seq ?_ | refine a_region ?_ | refine o_nil ?_ | refine a_block ?_ | refine a_ret ?_ | refine a_exit ?_ | refine a_skip ?_ | refine a_draw mixed ?_ | refine d_nil (by kernel_rfl) ?_ | refine o_yes rfl rfl rfl ?_ | refine o_no rfl rfl rfl (by decide) ?_ | refine o_no' rfl rfl rfl ?_ | refine a_condT rfl ?_ | refine a_condF rfl ?_ | refine d_no rfl rfl rfl (by decide) ?_ | refine d_no' rfl rfl rfl ?_ | (refine wq2 (fun hb => ?_) (fun hb => ?_) <;> (simp only [hb]; try simp only [hbs, ne_eq] at hb; try (exfalso; first | omega | exact hb trivial))) | fail)
        refine rq rfl ?_
        exact fnq
    · rw [hg0] at hel
      have hlh := b8 _ (List.getElem_mem hkh)
      have hbA : behA n got held k x = ⟨n, got, held.set k (held[k] ++ [x])⟩ := by unfold behA; rw [getD_at hk, hg0, if_pos rfl, getD_at hkh]
      rw [hbA] at hbe
      have n2 : (held[k].map It.av).length = held[k].length := List.length_map _
      generalize held[k] = l at *
      by_cases h16 : 16 ≤ l.length
      · have h16' : l.length = 16 := by omega
        simp only [if_true, h16, AlO.avR, alZ, Al.av, List.map_nil] at h1 ⊢
        refine PC.mk (ac_body tab_ok Tryz.func63 rfl (by kernel_rfl) rfl ?_); intro w0 M μ0; simp only [Tryz.ntmps63, List.length_cons, List.length_nil, Nat.reduceAdd, Nat.reduceSub, numb]
        repeat' (first | ((first | apply o_do | apply d_do | apply d_yes rfl rfl rfl); first | exact lsc (h1) | exact lsc (h2) | exact ls_indexAddr_sl tab_ok rfl rfl rfl rfl hel rfl | exact ls_indexAddr_sl tab_ok rfl rfl rfl rfl hel2 rfl | exact lsq) | refine a_seq ?_ | refine a_region ?_ | refine o_nil ?_ | refine a_block ?_ | refine a_ret ?_ | refine a_exit ?_ | refine a_skip ?_ | refine a_draw mixed ?_ | refine d_nil (by kernel_rfl) ?_ | refine o_yes rfl rfl rfl ?_ | refine o_no rfl rfl rfl (by decide) ?_ | refine o_no' rfl rfl rfl ?_ | refine a_condT rfl ?_ | refine a_condF rfl ?_ | refine d_no rfl rfl rfl (by decide) ?_ | refine d_no' rfl rfl rfl ?_ | (refine wq2 (fun hb => ?_) (fun hb => ?_) <;> (simp only [hb]; try simp only [hbs, ne_eq] at hb; try (exfalso; first | omega | exact hb trivial))) | fail)
        refine rq rfl ?_
        exact fnq
      · simp only [if_true, h16, if_false, AlO.avR, Al.av, List.map_nil] at h1 hbe ⊢
        refine PC.mk (ac_body tab_ok Tryz.func63 rfl (by kernel_rfl) rfl ?_); intro w0 M μ0; simp only [Tryz.ntmps63, List.length_cons, List.length_nil, Nat.reduceAdd, Nat.reduceSub, numb]
        repeat' (first | ((first | apply o_do | apply d_do | apply d_yes rfl rfl rfl); first | exact lsc (h1) | exact lsc (h2) | exact lsc (hbe) | exact ls_indexAddr_sl tab_ok rfl rfl rfl rfl hel rfl | exact ls_indexAddr_sl tab_ok rfl rfl rfl rfl hel2 rfl | exact lsq) | refine a_seq ?_ | refine a_region ?_ | refine o_nil ?_ | refine a_block ?_ | refine a_ret ?_ | refine a_exit ?_ | refine a_skip ?_ | refine a_draw mixed ?_ | refine d_nil (by kernel_rfl) ?_ | refine o_yes rfl rfl rfl ?_ | refine o_no rfl rfl rfl (by decide) ?_ | refine o_no' rfl rfl rfl ?_ | refine a_condT rfl ?_ | refine a_condF rfl ?_ | refine d_no rfl rfl rfl (by decide) ?_ | refine d_no' rfl rfl rfl ?_ | (refine wq2 (fun hb => ?_) (fun hb => ?_) <;> (simp only [hb]; try simp only [hbs, ne_eq] at hb; try (exfalso; first | omega | exact hb trivial))) | fail)
        refine rq rfl ?_
        exact fnq
  · have e : (alR ⟨n, got, held⟩ && (decide (0 ≤ i) && decide (i < (got.length : Int))) && itR x) = false := by
      cases hc : (alR ⟨n, got, held⟩ && (decide (0 ≤ i) && decide (i < (got.length : Int))) && itR x)
      · rfl
      · simp only [Bool.and_eq_true, decide_eq_true_eq] at hc
        exact absurd ⟨hc.1.1, hc.1.2, hc.2⟩ hok
    dsimp only
    rw [if_pos e]
    simp only [AlO.avR, alZ, Al.av, List.map_nil] at h1 ⊢
    cases hr : alR ⟨n, got, held⟩ <;> cases hit : itR x
    all_goals
      rw [hr] at h1
      rw [hit] at h2
      refine PC.mk (ac_body tab_ok Tryz.func63 rfl (by kernel_rfl) rfl ?_); intro w0 M μ0; simp only [Tryz.ntmps63, List.length_cons, List.length_nil, Nat.reduceAdd, Nat.reduceSub, numb]
      repeat' (first | ((first | apply o_do | apply d_do | apply d_yes rfl rfl rfl); first | exact lsc (h1) | exact lsc (h2) | exact lsq) | refine a_seq ?_ | refine a_region ?_ | refine o_nil ?_ | refine a_block ?_ | refine a_ret ?_ | refine a_exit ?_ | refine a_skip ?_ | refine a_draw mixed ?_ | refine d_nil (by kernel_rfl) ?_ | refine o_yes rfl rfl rfl ?_ | refine o_no rfl rfl rfl (by decide) ?_ | refine o_no' rfl rfl rfl ?_ | refine a_condT rfl ?_ | refine a_condF rfl ?_ | refine d_no rfl rfl rfl (by decide) ?_ | refine d_no' rfl rfl rfl ?_ | (refine wq2 (fun hb => ?_) (fun hb => ?_) <;> (simp only [hb]; try simp only [hbs, ne_eq] at hb; try (exfalso; first | omega | exact hb trivial))) | fail)
      all_goals first
        | (exfalso; apply hok; refine ⟨hr, ⟨?_, ?_⟩, hit⟩ <;> omega)
        | (refine rq rfl ?_; (exact fnq); done)
end Go.Proofs.YtagfjnjpgphnjaaGreat
namespace Go.Proofs.YtagfjnjpgphnjaaGreat
open Go.RowKit
set_option linter.unusedSimpArgs false
set_option linter.unusedVariables false
theorem grow_le {j : Jb} {x : It} {g : Gp} (h : g.ps.length ≤ 9223372036854775807) : (gpTake j x g).gp.ps.length ≤ 9223372036854775807 := takeR_le j.s j.d j.k g.no g.mark g.ps x.key x.at' x.val h
set_option maxRecDepth 10000 in
set_option maxHeartbeats 4000000 in
theorem r_put (j : Jb) (no : Int) (x : It) (gs : List Gp) (hgs : gs.length ≤ 1000) (hp : ∀ g ∈ gs, g.ps.length ≤ 9223372036854775807) (hv : -9223372036854775808 ≤ x.val ∧ x.val ≤ 9223372036854775807)
    (hgrp : PC Tryz.prog 34 [.v (.string x.key), .v (.int .i64 j.g)] (.v (.int .i64 no))) :
    PC Tryz.prog 64 [.agg j.av, .sl 3 (gs.map Gp.av), .agg [.v (.string x.key), .v (.int .i64 x.at'), .v (.int .i64 x.val)]] (.tup [.sl 3 ((putM j no x gs).map Gp.av), .v (.int .i64 (putB j no x gs))]) := by
  simp only [Jb.av]
  refine PC.mk (ac_body tab_ok Tryz.func64 rfl (by kernel_rfl) rfl ?_); intro w0 M μ0; simp only [Tryz.ntmps64, List.length_cons, List.length_nil, Nat.reduceAdd, Nat.reduceSub, numb]
  repeat' (first | ((first | apply o_do | apply d_do | apply d_yes rfl rfl rfl); first | exact lsc (hgrp) | exact lsq) | refine a_seq ?_ | refine a_region ?_ | refine o_nil ?_ | refine a_block ?_ | refine a_ret ?_ | refine a_exit ?_ | refine a_skip ?_ | refine a_draw mixed ?_ | refine d_nil (by kernel_rfl) ?_ | refine o_yes rfl rfl rfl ?_ | refine o_no rfl rfl rfl (by decide) ?_ | refine o_no' rfl rfl rfl ?_ | refine a_condT rfl ?_ | refine a_condF rfl ?_ | refine d_no rfl rfl rfl (by decide) ?_ | refine d_no' rfl rfl rfl ?_ | (refine wq2 (fun hb => ?_) (fun hb => ?_) <;> (simp only [hb]; try simp only [hbs, ne_eq] at hb; try (exfalso; first | omega | exact hb trivial))) | fail)
  refine a_loop (X := {q : Nat // q ≤ gs.length}) (fun y => ⟨[(3, .ref 0 0), (5, .ref 1 0), (8, .own 2 ((putM j no x (gs.take y.1)).map Gp.av).length), (9, .v (.int .i64 no)), (10, .v (.int .i64 (putB j no x (gs.take y.1)))), (22, .sl 3 (gs.map Gp.av)), (23, .v (.int .i64 gs.length)), (24, .v (.int .i64 y.1))], [(0, .box 23 j.av), (1, .box 57 [.v (.string x.key), .v (.int .i64 x.at'), .v (.int .i64 x.val)]), (2, .row 109 3 ((putM j no x (gs.take y.1)).map Gp.av))]⟩) (fun y => gs.length - y.1) ⟨0, Nat.zero_le _⟩ ?_ ?_
  · exact wkS
  rintro ⟨q, hq⟩
  dsimp only
  by_cases hlt : q < gs.length
  · have hel : (gs.map Gp.av)[q]? = some (Gp.av gs[q]) := by simp [hlt]
    have hsn := take_snoc gs q hlt
    have hM := putM_snoc j no x (gs.take q) gs[q]
    have hB := putB_snoc j no x (gs.take q) gs[q]
    rw [← hsn] at hM hB
    have ht := g_rTake j.g j.s j.d j.k j.fu j.li j.de j.id gs[q].no gs[q].mark gs[q].ps x.key x.at' x.val (hp _ (List.getElem_mem hlt)) hv
    have hl2 : ((putM j no x (gs.take q)).map Gp.av).length ≤ 1000 := by simp [putM]; omega
    generalize gs[q] = y at *
    obtain ⟨yn, ym, yp⟩ := y
    unfold gpTake at hM hB
    dsimp only at ht hM hB
    generalize takeR j.s j.d j.k yn ym yp x.key x.at' x.val = T at *
    obtain ⟨tn, tm, tp, tc, te⟩ := T
    simp only [TkR.av] at ht
    by_cases hno : yn = no
    · rw [if_pos hno] at hM hB
      have eM : (putM j no x (gs.take (q + 1))).map Gp.av = (putM j no x (gs.take q)).map Gp.av ++ [Gp.av ⟨tn, tm, tp⟩] := by rw [hM]; simp [TkR.gp]
      repeat' (first | ((first | apply o_do | apply d_do | apply d_yes rfl rfl rfl); first | exact ls_indexAddr_sl tab_ok rfl rfl rfl rfl (by assumption) rfl | exact lsc (ht) | exact ls_append tab_ok rfl rfl rfl rfl (by first | exact SrcIs.sl | exact SrcIs.nil | exact SrcIs.own rfl rfl) rfl (by (try simp only [List.length_cons, List.length_nil]); omega) rfl rfl | exact lsq) | refine a_seq ?_ | refine a_region ?_ | refine o_nil ?_ | refine a_block ?_ | refine a_ret ?_ | refine a_exit ?_ | refine a_skip ?_ | refine a_draw mixed ?_ | refine d_nil (by kernel_rfl) ?_ | refine o_yes rfl rfl rfl ?_ | refine o_no rfl rfl rfl (by decide) ?_ | refine o_no' rfl rfl rfl ?_ | refine a_condT rfl ?_ | refine a_condF rfl ?_ | refine d_no rfl rfl rfl (by decide) ?_ | refine d_no' rfl rfl rfl ?_ | (refine wq2 (fun hb => ?_) (fun hb => ?_) <;> (simp only [hb]; try simp only [hbs, ne_eq] at hb; try (exfalso; first | omega | exact hb trivial))) | fail)
      refine ⟨⟨q + 1, by omega⟩, by dsimp only; omega, ?_⟩
      refine ⟨by repeat' (first | exact trivial | exact FinA.one (FinB.cell (FinC.same rfl)) | exact FinA.one (FinB.cell FinC.nil) | exact FinA.bound rfl | exact FinA.one (FinB.cell (FinC.own rfl rfl rfl rfl)) | exact FinA.one (FinB.cell (FinC.v (by first | rfl | ((first | (simp only [eM]; done) | (simp only [eM]; rfl) | (simp only [hB]; done) | simp))))) | exact FinA.one (FinB.cell (FinC.ow rfl (by first | rfl | ((first | (simp only [eM]; done) | (simp only [eM]; rfl) | (simp only [hB]; done) | simp))))) | exact FinA.one (FinB.agg' rfl rfl) | refine ⟨⟨_, rfl, ?_⟩, ?_⟩), by repeat' (first | exact trivial | refine ⟨⟨_, rfl, by first | rfl | ((first | (simp only [eM]; done) | (simp only [eM]; rfl) | (simp only [hB]; done) | simp); done) | (simp [renO, *]; done)⟩, by first | rfl | assumption, ?_⟩), rfl⟩
    · rw [if_neg hno] at hM hB
      have eM : (putM j no x (gs.take (q + 1))).map Gp.av = (putM j no x (gs.take q)).map Gp.av ++ [Gp.av ⟨yn, ym, yp⟩] := by rw [hM]; simp
      repeat' (first | ((first | apply o_do | apply d_do | apply d_yes rfl rfl rfl); first | exact ls_indexAddr_sl tab_ok rfl rfl rfl rfl (by assumption) rfl | exact lsc (ht) | exact ls_append tab_ok rfl rfl rfl rfl (by first | exact SrcIs.sl | exact SrcIs.nil | exact SrcIs.own rfl rfl) rfl (by (try simp only [List.length_cons, List.length_nil]); omega) rfl rfl | exact lsq) | refine a_seq ?_ | refine a_region ?_ | refine o_nil ?_ | refine a_block ?_ | refine a_ret ?_ | refine a_exit ?_ | refine a_skip ?_ | refine a_draw mixed ?_ | refine d_nil (by kernel_rfl) ?_ | refine o_yes rfl rfl rfl ?_ | refine o_no rfl rfl rfl (by decide) ?_ | refine o_no' rfl rfl rfl ?_ | refine a_condT rfl ?_ | refine a_condF rfl ?_ | refine d_no rfl rfl rfl (by decide) ?_ | refine d_no' rfl rfl rfl ?_ | (refine wq2 (fun hb => ?_) (fun hb => ?_) <;> (simp only [hb]; try simp only [hbs, ne_eq] at hb; try (exfalso; first | omega | exact hb trivial))) | fail)
      refine ⟨⟨q + 1, by omega⟩, by dsimp only; omega, ?_⟩
      refine ⟨by repeat' (first | exact trivial | exact FinA.one (FinB.cell (FinC.same rfl)) | exact FinA.one (FinB.cell FinC.nil) | exact FinA.bound rfl | exact FinA.one (FinB.cell (FinC.own rfl rfl rfl rfl)) | exact FinA.one (FinB.cell (FinC.v (by first | rfl | ((first | (simp only [eM]; done) | (simp only [eM]; rfl) | (simp only [hB]; done) | simp))))) | exact FinA.one (FinB.cell (FinC.ow rfl (by first | rfl | ((first | (simp only [eM]; done) | (simp only [eM]; rfl) | (simp only [hB]; done) | simp))))) | exact FinA.one (FinB.agg' rfl rfl) | refine ⟨⟨_, rfl, ?_⟩, ?_⟩), by repeat' (first | exact trivial | refine ⟨⟨_, rfl, by first | rfl | ((first | (simp only [eM]; done) | (simp only [eM]; rfl) | (simp only [hB]; done) | simp); done) | (simp [renO, *]; done)⟩, by first | rfl | assumption, ?_⟩), rfl⟩
  · obtain rfl : q = gs.length := by omega
    rw [List.take_length]
    repeat' (first | ((first | apply o_do | apply d_do | apply d_yes rfl rfl rfl); exact lsq) | refine a_seq ?_ | refine a_region ?_ | refine o_nil ?_ | refine a_block ?_ | refine a_ret ?_ | refine a_exit ?_ | refine a_skip ?_ | refine a_draw mixed ?_ | refine d_nil (by kernel_rfl) ?_ | refine o_yes rfl rfl rfl ?_ | refine o_no rfl rfl rfl (by decide) ?_ | refine o_no' rfl rfl rfl ?_ | refine a_condT rfl ?_ | refine a_condF rfl ?_ | refine d_no rfl rfl rfl (by decide) ?_ | refine d_no' rfl rfl rfl ?_ | (refine wq2 (fun hb => ?_) (fun hb => ?_) <;> (simp only [hb]; try simp only [hbs, ne_eq] at hb; try (exfalso; first | omega | exact hb trivial))) | fail)
    refine rq rfl ?_
    exact fnq
theorem adv_rs (s d k no mark : Int) (ps : List Pn) (m : Int) : (adv s d k no mark ps m).rs.length ≤ 2000 := by
  unfold adv
  split
  · simp
  split
  · simp
  split
  · simp
  · dsimp only
    unfold resultsL
    split
    · rename_i h
      simp only [Bool.and_eq_true] at h
      rw [List.length_map]
      exact (rightL_ok h.1).1
    · simp
theorem advT_le (j : Jb) (t : Int) (l : List Gp) : (advT j t l).length ≤ 2000 * l.length := by
  induction l with
  | nil => simp [advT]
  | cons g l ih =>
    have : advT j t (g :: l) = (gpAdv j t g).rs.map resItem ++ advT j t l := by simp [advT]
    rw [this, List.length_append, List.length_map, List.length_cons]
    have := adv_rs j.s j.d j.k g.no g.mark g.ps t
    unfold gpAdv
    omega
set_option maxRecDepth 10000 in
set_option maxHeartbeats 8000000 in
theorem r_later (j : Jb) (w : Wk) (m : Mk) (t : Int) (hgs : w.gs.length ≤ 1000) (hp : ∀ g ∈ w.gs, g.ps.length ≤ 9223372036854775807) :
    PC Tryz.prog 68 [.agg j.av, .agg w.av, .agg m.av, .v (.int .i64 t)] (TkW.avR ⟨⟨advM j t w.gs, m, w.al, t⟩, advT j t w.gs ++ [markItem t], [], 0⟩) := by
  obtain ⟨gs, m0, al, told⟩ := w
  dsimp only at hgs hp ⊢
  simp only [Jb.av, Wk.av, Mk.av, TkW.avR, List.map_nil]
  refine PC.mk (ac_body tab_ok Tryz.func68 rfl (by kernel_rfl) rfl ?_); intro w0 M μ0; simp only [Tryz.ntmps68, List.length_cons, List.length_nil, Nat.reduceAdd, Nat.reduceSub, numb]
  repeat' (first | ((first | apply o_do | apply d_do | apply d_yes rfl rfl rfl); exact lsq) | refine a_seq ?_ | refine a_region ?_ | refine o_nil ?_ | refine a_block ?_ | refine a_ret ?_ | refine a_exit ?_ | refine a_skip ?_ | refine a_draw mixed ?_ | refine d_nil (by kernel_rfl) ?_ | refine o_yes rfl rfl rfl ?_ | refine o_no rfl rfl rfl (by decide) ?_ | refine o_no' rfl rfl rfl ?_ | refine a_condT rfl ?_ | refine a_condF rfl ?_ | refine d_no rfl rfl rfl (by decide) ?_ | refine d_no' rfl rfl rfl ?_ | (refine wq2 (fun hb => ?_) (fun hb => ?_) <;> (simp only [hb]; try simp only [hbs, ne_eq] at hb; try (exfalso; first | omega | exact hb trivial))) | fail)
  refine a_adoptB 4 0 5 109 3 rfl rfl rfl ?_
  refine a_adoptB 4 8 6 63 11 rfl rfl rfl ?_
  refine a_loop (X := {q : Nat // q ≤ gs.length}) (fun y => ⟨[(3, .v (.int .i64 t)), (4, .ref 0 0), (8, .ref 3 0), (9, .ref 4 0), (24, .sl 3 (gs.map Gp.av)), (25, .v (.int .i64 gs.length)), (26, .v (.int .i64 y.1))], [(0, .box 23 j.av), (3, .box 72 [.v (.slice none 0 0), .v (.slice none 0 0), .v (.slice none 0 0), .v (.int .i64 0), .v (.int .i64 0), .v (.slice none 0 0), .v (.slice none 0 0), .v (.int .i64 0), .v (.slice none 0 0), .v (.slice none 0 0), .v (.int .i64 0)]), (4, .box 72 [.own 5 ((advM j t (gs.take y.1)).map Gp.av).length, .sl 2 (m.ins.map inAvM), .sl 2 (m.hs.map hoAv), .v (.int .i64 m.out), .v (.int .i64 al.n), .sl 1 (al.got.map boAv), .sl 1 (al.held.map heAv), .v (.int .i64 t), .own 6 ((advT j t (gs.take y.1)).map It.av).length, .v (.slice none 0 0), .v (.int .i64 0)]), (5, .row 109 3 ((advM j t (gs.take y.1)).map Gp.av)), (6, .row 63 11 ((advT j t (gs.take y.1)).map It.av))]⟩) (fun y => gs.length - y.1) ⟨0, Nat.zero_le _⟩ ?_ ?_
  · refine ⟨by repeat' (first | exact trivial | exact FinA.one (FinB.cell (FinC.same rfl)) | exact FinA.one (FinB.cell FinC.nil) | exact FinA.bound rfl | exact FinA.one (FinB.cell (FinC.own rfl rfl rfl rfl)) | exact FinA.one (FinB.cell (FinC.v (by first | rfl | (simp [advM, advT])))) | exact FinA.one (FinB.cell (FinC.ow rfl (by first | rfl | (simp [advM, advT])))) | exact FinA.one (FinB.agg' rfl rfl) | refine ⟨⟨_, rfl, ?_⟩, ?_⟩), by repeat' (first | exact trivial | refine ⟨⟨_, rfl, by first | rfl | (simp [advM, advT]; done) | (simp [renO, *]; done)⟩, by first | rfl | assumption, ?_⟩), rfl⟩
  rintro ⟨q, hq⟩
  dsimp only
  by_cases hlt : q < gs.length
  · have hel : (gs.map Gp.av)[q]? = some (Gp.av gs[q]) := by simp [hlt]
    have hsn := take_snoc gs q hlt
    have hM := advM_snoc j t (gs.take q) gs[q]
    have hT := advT_snoc j t (gs.take q) gs[q]
    rw [← hsn] at hM hT
    have ht := g_rAdvance j.g j.s j.d j.k j.fu j.li j.de j.id gs[q].no gs[q].mark gs[q].ps t (hp _ (List.getElem_mem hlt))
    have hl2 : ((advM j t (gs.take q)).map Gp.av).length ≤ 1000 := by simp [advM]; omega
    have hl3 := advT_le j t (gs.take q)
    rw [List.length_take] at hl3
    have hrs := adv_rs j.s j.d j.k gs[q].no gs[q].mark gs[q].ps t
    generalize gs[q] = y at *
    obtain ⟨yn, ym, yp⟩ := y
    unfold gpAdv at hM hT
    dsimp only at ht hM hT hrs
    generalize adv j.s j.d j.k yn ym yp t = T at *
    obtain ⟨tn, tm, tp, rs, te⟩ := T
    simp only [AdvR.av] at ht
    dsimp only at hrs hT
    have eM : (advM j t (gs.take (q + 1))).map Gp.av = (advM j t (gs.take q)).map Gp.av ++ [Gp.av ⟨tn, tm, tp⟩] := by rw [hM]; simp [AdvR.gp]
    repeat' (first | ((first | apply o_do | apply d_do | apply d_yes rfl rfl rfl); first | exact ls_indexAddr_sl tab_ok rfl rfl rfl rfl (by assumption) rfl | exact lsc (ht) | exact ls_append tab_ok rfl rfl rfl rfl (by first | exact SrcIs.sl | exact SrcIs.nil | exact SrcIs.own rfl rfl) rfl (by (try simp only [List.length_cons, List.length_nil]); omega) rfl rfl | exact lsq) | refine a_seq ?_ | refine a_region ?_ | refine o_nil ?_ | refine a_block ?_ | refine a_ret ?_ | refine a_exit ?_ | refine a_skip ?_ | refine a_draw mixed ?_ | refine d_nil (by kernel_rfl) ?_ | refine o_yes rfl rfl rfl ?_ | refine o_no rfl rfl rfl (by decide) ?_ | refine o_no' rfl rfl rfl ?_ | refine a_condT rfl ?_ | refine a_condF rfl ?_ | refine d_no rfl rfl rfl (by decide) ?_ | refine d_no' rfl rfl rfl ?_ | (refine wq2 (fun hb => ?_) (fun hb => ?_) <;> (simp only [hb]; try simp only [hbs, ne_eq] at hb; try (exfalso; first | omega | exact hb trivial))) | fail)
    refine a_loop (X := {p : Nat // p ≤ rs.length}) (fun y => ⟨[(3, .v (.int .i64 t)), (4, .ref 0 0), (8, .ref 3 0), (9, .ref 4 0), (24, .sl 3 (gs.map Gp.av)), (25, .v (.int .i64 gs.length)), (26, .v (.int .i64 q)), (46, .sl 5 (rs.map Rs.av)), (47, .v (.int .i64 rs.length)), (48, .v (.int .i64 y.1))], [(0, .box 23 j.av), (3, .box 72 [.v (.slice none 0 0), .v (.slice none 0 0), .v (.slice none 0 0), .v (.int .i64 0), .v (.int .i64 0), .v (.slice none 0 0), .v (.slice none 0 0), .v (.int .i64 0), .v (.slice none 0 0), .v (.slice none 0 0), .v (.int .i64 0)]), (4, .box 72 [.own 5 ((advM j t (gs.take q)).map Gp.av ++ [Gp.av ⟨tn, tm, tp⟩]).length, .sl 2 (m.ins.map inAvM), .sl 2 (m.hs.map hoAv), .v (.int .i64 m.out), .v (.int .i64 al.n), .sl 1 (al.got.map boAv), .sl 1 (al.held.map heAv), .v (.int .i64 t), .own 6 ((advT j t (gs.take q)).map It.av ++ ((rs.take y.1).map resItem).map It.av).length, .v (.slice none 0 0), .v (.int .i64 0)]), (5, .row 109 3 ((advM j t (gs.take q)).map Gp.av ++ [Gp.av ⟨tn, tm, tp⟩])), (6, .row 63 11 ((advT j t (gs.take q)).map It.av ++ ((rs.take y.1).map resItem).map It.av))]⟩) (fun y => rs.length - y.1) ⟨0, Nat.zero_le _⟩ ?_ ?_
    · exact wkS
    rintro ⟨p, hpp⟩
    dsimp only
    by_cases hpl : p < rs.length
    · have hel2 : (rs.map Rs.av)[p]? = some (Rs.av rs[p]) := by simp [hpl]
      have hsn2 := take_snoc rs p hpl
      have hl4 : ((advT j t (gs.take q)).map It.av ++ ((rs.take p).map resItem).map It.av).length ≤ 10000000 := by simp; omega
      generalize rs[p] = z at *
      have e : (advT j t (gs.take q)).map It.av ++ ((rs.take (p + 1)).map resItem).map It.av = ((advT j t (gs.take q)).map It.av ++ ((rs.take p).map resItem).map It.av) ++ [It.av (resItem z)] := by rw [hsn2]; simp
      repeat' (first | ((first | apply o_do | apply d_do | apply d_yes rfl rfl rfl); first | exact ls_indexAddr_sl tab_ok rfl rfl rfl rfl hel2 rfl | exact ls_append tab_ok rfl rfl rfl rfl (by first | exact SrcIs.sl | exact SrcIs.nil | exact SrcIs.own rfl rfl) rfl (by (try simp only [List.length_cons, List.length_nil]); omega) rfl rfl | exact lsq) | refine a_seq ?_ | refine a_region ?_ | refine o_nil ?_ | refine a_block ?_ | refine a_ret ?_ | refine a_exit ?_ | refine a_skip ?_ | refine a_draw mixed ?_ | refine d_nil (by kernel_rfl) ?_ | refine o_yes rfl rfl rfl ?_ | refine o_no rfl rfl rfl (by decide) ?_ | refine o_no' rfl rfl rfl ?_ | refine a_condT rfl ?_ | refine a_condF rfl ?_ | refine d_no rfl rfl rfl (by decide) ?_ | refine d_no' rfl rfl rfl ?_ | (refine wq2 (fun hb => ?_) (fun hb => ?_) <;> (simp only [hb]; try simp only [hbs, ne_eq] at hb; try (exfalso; first | omega | exact hb trivial))) | fail)
      refine ⟨⟨p + 1, by omega⟩, by dsimp only; omega, ?_⟩
      refine ⟨by repeat' (first | exact trivial | exact FinA.one (FinB.cell (FinC.same rfl)) | exact FinA.one (FinB.cell FinC.nil) | exact FinA.bound rfl | exact FinA.one (FinB.cell (FinC.own rfl rfl rfl rfl)) | exact FinA.one (FinB.cell (FinC.v (by first | rfl | ((first | (simp only [e]; done) | (simp only [e]; rfl) | simp))))) | exact FinA.one (FinB.cell (FinC.ow rfl (by first | rfl | ((first | (simp only [e]; done) | (simp only [e]; rfl) | simp))))) | exact FinA.one (FinB.agg' rfl rfl) | refine ⟨⟨_, rfl, ?_⟩, ?_⟩), by repeat' (first | exact trivial | refine ⟨⟨_, rfl, by first | rfl | ((first | (simp only [e]; done) | (simp only [e]; rfl) | simp); done) | (simp [renO, *]; done)⟩, by first | rfl | assumption, ?_⟩), rfl⟩
    · obtain rfl : p = rs.length := by omega
      rw [List.take_length]
      have eT : (advT j t (gs.take (q + 1))).map It.av = (advT j t (gs.take q)).map It.av ++ (rs.map resItem).map It.av := by rw [hT]; simp
      repeat' (first | ((first | apply o_do | apply d_do | apply d_yes rfl rfl rfl); exact lsq) | refine a_seq ?_ | refine a_region ?_ | refine o_nil ?_ | refine a_block ?_ | refine a_ret ?_ | refine a_exit ?_ | refine a_skip ?_ | refine a_draw mixed ?_ | refine d_nil (by kernel_rfl) ?_ | refine o_yes rfl rfl rfl ?_ | refine o_no rfl rfl rfl (by decide) ?_ | refine o_no' rfl rfl rfl ?_ | refine a_condT rfl ?_ | refine a_condF rfl ?_ | refine d_no rfl rfl rfl (by decide) ?_ | refine d_no' rfl rfl rfl ?_ | (refine wq2 (fun hb => ?_) (fun hb => ?_) <;> (simp only [hb]; try simp only [hbs, ne_eq] at hb; try (exfalso; first | omega | exact hb trivial))) | fail)
      refine ⟨⟨q + 1, by omega⟩, by dsimp only; omega, ?_⟩
      refine ⟨by repeat' (first | exact trivial | exact FinA.one (FinB.cell (FinC.same rfl)) | exact FinA.one (FinB.cell FinC.nil) | exact FinA.bound rfl | exact FinA.one (FinB.cell (FinC.own rfl rfl rfl rfl)) | exact FinA.one (FinB.cell (FinC.v (by first | rfl | ((first | (simp only [eM]; done) | (simp only [eT]; done) | (simp only [eM, eT]; done) | (simp only [eM, eT]; rfl) | simp))))) | exact FinA.one (FinB.cell (FinC.ow rfl (by first | rfl | ((first | (simp only [eM]; done) | (simp only [eT]; done) | (simp only [eM, eT]; done) | (simp only [eM, eT]; rfl) | simp))))) | exact FinA.one (FinB.agg' rfl rfl) | refine ⟨⟨_, rfl, ?_⟩, ?_⟩), by repeat' (first | exact trivial | refine ⟨⟨_, rfl, by first | rfl | ((first | (simp only [eM]; done) | (simp only [eT]; done) | (simp only [eM, eT]; done) | (simp only [eM, eT]; rfl) | simp); done) | (simp [renO, *]; done)⟩, by first | rfl | assumption, ?_⟩), rfl⟩
  · obtain rfl : q = gs.length := by omega
    rw [List.take_length]
    have hl3 := advT_le j t gs
    have hl4 : ((advT j t gs).map It.av).length ≤ 10000000 := by rw [List.length_map]; omega
    have e : (advT j t gs ++ [markItem t]).map It.av = (advT j t gs).map It.av ++ [It.av (markItem t)] := by simp
    rw [e]
    repeat' (first | ((first | apply o_do | apply d_do | apply d_yes rfl rfl rfl); first | exact ls_append tab_ok rfl rfl rfl rfl (by first | exact SrcIs.sl | exact SrcIs.nil | exact SrcIs.own rfl rfl) rfl (by (try simp only [List.length_cons, List.length_nil]); omega) rfl rfl | exact lsq) | refine a_seq ?_ | refine a_region ?_ | refine o_nil ?_ | refine a_block ?_ | refine a_ret ?_ | refine a_exit ?_ | refine a_skip ?_ | refine a_draw mixed ?_ | refine d_nil (by kernel_rfl) ?_ | refine o_yes rfl rfl rfl ?_ | refine o_no rfl rfl rfl (by decide) ?_ | refine o_no' rfl rfl rfl ?_ | refine a_condT rfl ?_ | refine a_condF rfl ?_ | refine d_no rfl rfl rfl (by decide) ?_ | refine d_no' rfl rfl rfl ?_ | (refine wq2 (fun hb => ?_) (fun hb => ?_) <;> (simp only [hb]; try simp only [hbs, ne_eq] at hb; try (exfalso; first | omega | exact hb trivial))) | fail)
    refine rq rfl ?_
    exact fnq
end Go.Proofs.YtagfjnjpgphnjaaGreat
