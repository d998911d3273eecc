/-
  A worker played with rows of items, walked over abstract values.
  Walks over abstract values: maps of one's own. Over whatever program. No condition.
  Walks over abstract values: a region that draws its order, every order walked. Over whatever program. No condition.
  How many of each result there are, counted in a map.
  What results hold fits 64 bits; what must come out is what was told. Plain.
  What stands fast where a worker of all groups is told by sources. Plain.
  Which inputs may be, for laws of workers that are played. Plain.
-/
import Derived.DeepKeys3
import Derived.StringKeys
import Derived.Test.YtilgagmfcdfjaaaGreatM3
import Derived.Test.YtilgagmfcdfjaaaGreatM4
import Derived.Test.YtilgagmfcdfjaaaGreatM5
import Derived.Test.YtilgagmfcdfjaaaGreatM14
import Derived.Test.YtilgagmfcdfjaaaGreatM18
import Derived.Test.YtilgagmfcdfjaaaGreatM19
set_option linter.unusedSimpArgs false
set_option linter.unusedVariables false
set_option maxHeartbeats 20000000
namespace Go.Proofs.YtilgagmfcdfjaaaGreat
open Go.RowKit
def naAv (p : Nat) : List AV := [.v (.int .i64 (p : Int))]
def toAv (t : Int) : List AV := [.v (.int .i64 t)]
def riAv (r : List It) : List AV := [.sl 11 (r.map It.av)]
theorem resT_cons (x : It) (l : List It) : resT (x :: l) = (if x.kind = 5 then [rsOf x] else []) ++ resT l := by
 unfold resT
 rw [List.filterMap_cons]
 split <;> split at * <;> simp_all
theorem tmod_in {a b : Int} (hb : 0 < b) : -b < a.tmod b ∧ a.tmod b < b := by
 have h1 := Int.tmod_lt_of_pos a hb
 have h2 : -b < a.tmod b := by
  have h3 := Int.tmod_lt_of_pos (-a) hb
  rw [Int.neg_tmod] at h3
  omega
 exact ⟨h2, h1⟩
theorem turn_val {ts : List Int} {i n : Nat} (hn : 0 < n) : ((if i < ts.length then ts.getD i 0 else (i : Int)).tmod (n : Int) + (n : Int)).tmod (n : Int) = ((turn ts i n : Nat) : Int) := by
 unfold turn
 generalize (if i < ts.length then ts.getD i 0 else (i : Int)) = a
 have h1 : -(n : Int) < a.tmod n := by
  have h3 := Int.tmod_lt_of_pos (-a) (show (0 : Int) < n by omega)
  rw [Int.neg_tmod] at h3
  omega
 have h4 := Int.tmod_nonneg (n : Int) (show 0 ≤ a.tmod n + n by omega)
 omega
theorem left_snoc : ∀ (A : List (List It)) (r : List It), leftN (A ++ [r]) (List.replicate (A.length + 1) 0) = leftN A (List.replicate A.length 0) + r.length
 | [], r => by simp [leftN, List.replicate]
 | a :: A, r => by
  have ih := left_snoc A r
  simp only [List.cons_append, List.length_cons, List.replicate_succ, leftN] at ih ⊢
  omega
theorem left_le : ∀ (A : List (List It)) (n : Nat), (∀ r ∈ A, r.length ≤ 1000) → leftN A (List.replicate n 0) ≤ 1000 * A.length
 | [], n, _ => by simp [leftN]
 | a :: A, 0, _ => by simp [leftN, List.replicate]
 | a :: A, n + 1, h => by
  have ih := left_le A n fun r hr => h r (by simp [hr])
  have := h a (by simp)
  simp only [List.length_cons, List.replicate_succ, leftN]
  omega
set_option maxRecDepth 20000 in
theorem o_play (fc : FuncId) (mine : It → Bool) (hclo : ∀ x : It, PC Tryz.prog fc [.agg x.av] (.v (.bool (mine x)))) (j : Jb) (hg : -9223372036854775808 ≤ j.g ∧ j.g ≤ 9223372036854775807) (f : Nat) (Z : List (List AV)) (ins : List (List It)) (ts : List Int) (w0' : Wk) (L0 : Nat) (I : Ps → Prop)
  (hI : PlayI j f ins ts mine L0 I) (hn1 : 1 ≤ ins.length) (hn8 : ins.length ≤ 8) (hts : ts.length ≤ 200) (hil : ∀ r ∈ ins, r.length ≤ 1000) (hL : L0 ≤ 8000)
  (hNew : PC Tryz.prog 10 [.agg j.av, .v (.int .i64 (ins.length : Int)), .sl 3 Z] (.tup [.agg w0'.av, .v (.int .i64 0)])) (hw0 : w0'.told = 0)
  (hs0 : I ⟨List.replicate ins.length 0, L0, 0, w0', []⟩) (R : Ps) (hR : playN j f ins ts mine (ts.length + ins.length + ins.length * L0 + 1) ⟨List.replicate ins.length 0, L0, 0, w0', []⟩ = R) :
  PC Tryz.prog 18 [.agg j.av, .sl 3 Z, .sl 1 (ins.map riAv), .sl 1 (ts.map toAv), .clo (.func fc) [] []] (.tup [.sl 5 (R.out.map Rs.av), .v (.bool (decide (R.w.told = 1099511627776)))]) := by
 have hIl : (ins.map riAv).length = ins.length := List.length_map _
 have hTl : (ts.map toAv).length = ts.length := List.length_map _
 have hRun := w_Run j hg f
 obtain ⟨g, s0, d, k, fu, li, de, id⟩ := j
 unfold Jb.av at hNew hRun ⊢
 dsimp only at hNew hRun ⊢
 have hL0 : L0 = leftN ins (List.replicate ins.length 0) := (hI.pot _ hs0).lf
 have hNb : ts.length + ins.length + ins.length * L0 + 1 ≤ 90000 := by
  have : ins.length * L0 ≤ 8 * 8000 := Nat.mul_le_mul hn8 hL
  omega
 generalize hN : ts.length + ins.length + ins.length * L0 + 1 = N at *
 unfold Wk.av at hNew
 refine PC.mk (ac_body tab_ok Tryz.func18 rfl (by kernel_rfl) rfl ?_); intro w0 M μ0; simp only [Tryz.ntmps18, List.length_cons, List.length_nil, Nat.reduceAdd, Nat.reduceSub, numb]
 rw [← hIl] at hNew
 have hFm : (ins.map riAv).length ≤ 1000000 := by omega
 repeat' (first | ((first | apply o_do | apply d_do | apply d_yes rfl rfl rfl); first | exact lsc (hNew) | exact ls_make (k := 2) tab_ok tab_zero rfl rfl rfl rfl rfl rfl rfl hFm rfl rfl rfl | exact lsq) | refine a_seq ?_ | refine a_region ?_ | refine o_nil ?_ | refine a_block ?_ | refine a_ret ?_ | refine a_exit ?_ | refine a_skip ?_ | refine a_draw mixed ?_ | refine d_nil (by kernel_rfl) ?_ | refine o_yes rfl rfl rfl ?_ | refine o_no rfl rfl rfl (by decide) ?_ | refine o_no' rfl rfl rfl ?_ | refine a_condT rfl ?_ | refine a_condF rfl ?_ | refine d_no rfl rfl rfl (by decide) ?_ | refine d_no' rfl rfl rfl ?_ | (refine wq2 (fun hb => ?_) (fun hb => ?_) <;> (simp only [hb]; try simp only [hbs, ne_eq] at hb; try (exfalso; first | omega | exact hb trivial))) | fail)
 refine a_loop (X := {q : Nat // q ≤ ins.length}) (fun x => ⟨[(2, .sl 1 (ins.map riAv)), (3, .sl 1 (ts.map toAv)), (4, .clo (.func fc) [] []), (5, .ref 0 0), (12, .ref 1 0), (14, .own 2 ((List.replicate ins.length 0).map naAv).length), (15, .v (.int .i64 ((leftN (ins.take x.1) (List.replicate x.1 0) : Nat) : Int))), (43, .sl 1 (ins.map riAv)), (44, .v (.int .i64 ins.length)), (45, .v (.int .i64 x.1))], [(0, .box 23 [.v (.int .i64 g), .v (.int .i64 s0), .v (.int .i64 d), .v (.int .i64 k), .v (.int .i64 fu), .v (.int .i64 li), .v (.int .i64 de), .v (.int .i64 id)]), (1, .box 42 w0'.av), (2, .row 3 1 ((List.replicate ins.length 0).map naAv))]⟩) (fun x => ins.length - x.1) ⟨0, Nat.zero_le _⟩ ?_ ?_
 ·have e1 : (List.replicate ins.length 0).map naAv = List.replicate (ins.map riAv).length [AV.v (.int .i64 0)] := by rw [List.map_replicate, hIl]; rfl
  rw [e1]
  unfold Wk.av
  refine ⟨by repeat' (first | exact trivial | exact FinA.one (FinB.cell (FinC.same rfl)) | exact FinA.one (FinB.cell FinC.nil) | exact FinA.bound rfl | exact FinA.one (FinB.cell (FinC.own rfl rfl rfl rfl)) | exact FinA.one (FinB.cell (FinC.v (by first | rfl | (simp [leftN])))) | exact FinA.one (FinB.cell (FinC.ow rfl (by first | rfl | (simp [leftN])))) | exact FinA.one (FinB.agg' rfl rfl) | refine ⟨⟨_, rfl, ?_⟩, ?_⟩), by repeat' (first | exact trivial | refine ⟨⟨_, rfl, by first | rfl | (simp [leftN]; done) | (simp [renO, *]; done)⟩, by first | rfl | assumption, ?_⟩), rfl⟩
 ·rintro ⟨q, hq⟩
  dsimp only
  by_cases hlt : q < ins.length
  ·have hel : (ins.map riAv)[q]? = some (riAv ins[q]) := by simp [hlt]
   have hrl := hil _ (List.getElem_mem hlt)
   have hlf : leftN (ins.take (q + 1)) (List.replicate (q + 1) 0) = leftN (ins.take q) (List.replicate q 0) + ins[q].length := by
    rw [take_snoc ins q hlt]
    have hl : (ins.take q).length = q := by rw [List.length_take]; omega
    have h1 := left_snoc (ins.take q) ins[q]
    rw [hl] at h1
    exact h1
   have hlb : leftN (ins.take q) (List.replicate q 0) ≤ 8000 := by
    have h1 := left_le (ins.take q) q fun r hr => hil r (List.mem_of_mem_take hr)
    have h2 := List.length_take (i := q) (l := ins)
    omega
   generalize leftN (ins.take q) (List.replicate q 0) = lq at *
   generalize ins[q] = r at *
   have hrl2 : (r.map It.av).length = r.length := List.length_map _
   repeat' (first | ((first | apply o_do | apply d_do | apply d_yes rfl rfl rfl); first | exact ls_indexAddr_sl tab_ok rfl rfl rfl rfl hel rfl | exact lsq) | refine a_seq ?_ | refine a_region ?_ | refine o_nil ?_ | refine a_block ?_ | refine a_ret ?_ | refine a_exit ?_ | refine a_skip ?_ | refine a_draw mixed ?_ | refine d_nil (by kernel_rfl) ?_ | refine o_yes rfl rfl rfl ?_ | refine o_no rfl rfl rfl (by decide) ?_ | refine o_no' rfl rfl rfl ?_ | refine a_condT rfl ?_ | refine a_condF rfl ?_ | refine d_no rfl rfl rfl (by decide) ?_ | refine d_no' rfl rfl rfl ?_ | (refine wq2 (fun hb => ?_) (fun hb => ?_) <;> (simp only [hb]; try simp only [hbs, ne_eq] at hb; try (exfalso; first | omega | exact hb trivial))) | fail)
   refine ⟨⟨q + 1, by omega⟩, by dsimp only; omega, ?_⟩
   refine ⟨by repeat' (first | exact trivial | exact FinA.one (FinB.cell (FinC.same rfl)) | exact FinA.one (FinB.cell FinC.nil) | exact FinA.bound rfl | exact FinA.one (FinB.cell (FinC.own rfl rfl rfl rfl)) | exact FinA.one (FinB.cell (FinC.v (by first | rfl | ((first | (simp only [hlf]; done) | (simp [hlf]; done) | simp))))) | exact FinA.one (FinB.cell (FinC.ow rfl (by first | rfl | ((first | (simp only [hlf]; done) | (simp [hlf]; done) | simp))))) | exact FinA.one (FinB.agg' rfl rfl) | refine ⟨⟨_, rfl, ?_⟩, ?_⟩), by repeat' (first | exact trivial | refine ⟨⟨_, rfl, by first | rfl | ((first | (simp only [hlf]; done) | (simp [hlf]; done) | simp); done) | (simp [renO, *]; done)⟩, by first | rfl | assumption, ?_⟩), rfl⟩
  ·obtain rfl : q = ins.length := by omega
   rw [List.take_length, ← hL0]
   repeat' (first | ((first | apply o_do | apply d_do | apply d_yes rfl rfl rfl); exact lsq) | refine a_seq ?_ | refine a_region ?_ | refine o_nil ?_ | refine a_block ?_ | refine a_ret ?_ | refine a_exit ?_ | refine a_skip ?_ | refine a_draw mixed ?_ | refine d_nil (by kernel_rfl) ?_ | refine o_yes rfl rfl rfl ?_ | refine o_no rfl rfl rfl (by decide) ?_ | refine o_no' rfl rfl rfl ?_ | refine a_condT rfl ?_ | refine a_condF rfl ?_ | refine d_no rfl rfl rfl (by decide) ?_ | refine d_no' rfl rfl rfl ?_ | (refine wq2 (fun hb => ?_) (fun hb => ?_) <;> (simp only [hb]; try simp only [hbs, ne_eq] at hb; try (exfalso; first | omega | exact hb trivial))) | fail)
   refine a_adopt 18 3 61 5 rfl rfl ?_
   refine a_loop (X := {s : Ps // I s ∧ playN ⟨g, s0, d, k, fu, li, de, id⟩ f ins ts mine (N - s.i) s = R})
    (fun s => ⟨[(2, .sl 1 (ins.map riAv)), (3, .sl 1 (ts.map toAv)), (4, .clo (.func fc) [] []), (5, .ref 0 0), (12, .ref 1 0), (14, .own 2 (s.1.at'.map naAv).length), (15, .v (.int .i64 (s.1.lf : Int))), (18, .own 3 (s.1.out.map Rs.av).length), (19, .v (.int .i64 s.1.w.told)), (20, .v (.int .i64 (s.1.i : Int)))], [(0, .box 23 [.v (.int .i64 g), .v (.int .i64 s0), .v (.int .i64 d), .v (.int .i64 k), .v (.int .i64 fu), .v (.int .i64 li), .v (.int .i64 de), .v (.int .i64 id)]), (1, .box 42 s.1.w.av), (2, .row 3 1 (s.1.at'.map naAv)), (3, .row 61 5 (s.1.out.map Rs.av))]⟩) (fun s => N - s.1.i) ⟨⟨List.replicate ins.length 0, L0, 0, w0', []⟩, hs0, hR⟩ ?_ ?_
   ·dsimp only
    rw [hw0]
    exact wkS
   clear hs0 hR hL0 hNew
   rintro ⟨s, hIs, hP⟩
   dsimp only
   have hpot := hI.pot s hIs
   have hle := hpot.le_i
   have hout := hI.out s hIs
   have hoL : (s.out.map Rs.av).length = s.out.length := List.length_map _
   have haL : (s.at'.map naAv).length = s.at'.length := List.length_map _
   have hal := hpot.al
   by_cases h0 : s.lf = 0
   ·have hsR : s = R := by
     rw [← hP, show N - s.i = (N - s.i - 1) + 1 by omega]
     unfold playN
     rw [if_pos h0]
    subst hsR
    unfold Wk.av
    repeat' (first | ((first | apply o_do | apply d_do | apply d_yes rfl rfl rfl); exact lsq) | refine a_seq ?_ | refine a_region ?_ | refine o_nil ?_ | refine a_block ?_ | refine a_ret ?_ | refine a_exit ?_ | refine a_skip ?_ | refine a_draw mixed ?_ | refine d_nil (by kernel_rfl) ?_ | refine o_yes rfl rfl rfl ?_ | refine o_no rfl rfl rfl (by decide) ?_ | refine o_no' rfl rfl rfl ?_ | refine a_condT rfl ?_ | refine a_condF rfl ?_ | refine d_no rfl rfl rfl (by decide) ?_ | refine d_no' rfl rfl rfl ?_ | (refine wq2 (fun hb => ?_) (fun hb => ?_) <;> (simp only [hb]; try simp only [hbs, ne_eq] at hb; try (exfalso; first | omega | exact hb trivial))) | fail)
    all_goals refine rq rfl ?_
    all_goals exact fnq
   ·have hst := hpot.step (j := ⟨g, s0, d, k, fu, li, de, id⟩) (f := f) (mine := mine) (by omega) h0
    have hI' := hI.step s hIs h0
    have hP' : playN ⟨g, s0, d, k, fu, li, de, id⟩ f ins ts mine (N - (pstep ⟨g, s0, d, k, fu, li, de, id⟩ f ins ts mine s).i) (pstep ⟨g, s0, d, k, fu, li, de, id⟩ f ins ts mine s) = R := by
     have e : N - s.i = (N - (s.i + 1)) + 1 := by
      have := hst.1.le_i
      rw [hst.2] at this
      omega
     rw [hst.2]
     rw [e] at hP
     unfold playN at hP
     rw [if_neg h0] at hP
     exact hP
    have hout' := hI.out _ hI'
    have hk := turn_lt (ts := ts) (i := s.i) (n := ins.length) (by omega)
    have hkv := turn_val (ts := ts) (i := s.i) (n := ins.length) (by omega)
    obtain ⟨r, hr⟩ : ∃ r, ins[turn ts s.i ins.length]? = some r := ⟨_, List.getElem?_eq_getElem hk⟩
    obtain ⟨p, hp⟩ : ∃ p, s.at'[turn ts s.i ins.length]? = some p := ⟨_, List.getElem?_eq_getElem (by rw [hal]; exact hk)⟩
    have er : ins.getD (turn ts s.i ins.length) [] = r := by simp [List.getD, hr]
    have ep : s.at'.getD (turn ts s.i ins.length) 0 = p := by simp [List.getD, hp]
    have hone := hI.one s (turn ts s.i ins.length) r p
    unfold pstep at hI' hP' hout'
    dsimp only at hI' hP' hout'
    rw [er, ep] at hI' hP' hout'
    generalize turn ts s.i ins.length = kk at *
    have hel2 : (ins.map riAv)[kk]? = some [.sl 11 (r.map It.av)] := by rw [List.getElem?_map, hr]; rfl
    have hela : (s.at'.map naAv)[kk]? = some (naAv p) := by rw [List.getElem?_map, hp]; rfl
    have hkx : kk < (s.at'.map naAv).length := by omega
    have hrl := hil r (List.mem_of_getElem? hr)
    have hrL : (r.map It.av).length = r.length := List.length_map _
    obtain ⟨a, ha⟩ : ∃ a : Int, (if s.i < ts.length then ts.getD s.i 0 else (s.i : Int)) = a ∧ ((s.i < ts.length ∧ (ts.map toAv)[s.i]? = some (toAv a)) ∨ (¬ s.i < ts.length ∧ a = (s.i : Int))) := by
     by_cases c : s.i < ts.length
     ·exact ⟨ts[s.i], by rw [if_pos c]; simp [List.getD, c], .inl ⟨c, by simp [c]⟩⟩
     ·exact ⟨s.i, by rw [if_neg c], .inr ⟨c, rfl⟩⟩
    obtain ⟨ha1, ha⟩ := ha
    rw [ha1, ← hIl] at hkv
    obtain ⟨r1, hr1⟩ : ∃ r, a.tmod ((ins.map riAv).length : Int) = r := ⟨_, rfl⟩
    rw [hr1] at hkv
    have b1 := tmod_in (a := a) (b := ((ins.map riAv).length : Int)) (by omega)
    rw [hr1] at b1
    cases hx : r[p]? with
    | none =>
     rw [hx] at hI' hP'
     dsimp only at hI' hP'
     have hpl := List.getElem?_eq_none_iff.1 hx
     rcases ha with ⟨c, hel⟩ | ⟨c, rfl⟩
     all_goals
      repeat' (first | ((first | apply o_do | apply d_do | apply d_yes rfl rfl rfl); first | exact ls_indexAddr_sl tab_ok rfl rfl rfl rfl hel rfl | exact ls_indexAddr_sl tab_ok rfl rfl rfl rfl hel2 rfl | exact ls_rem64 hr1 rfl rfl (by omega) (by omega) rfl | exact ls_rem64 hkv rfl rfl (by omega) (by omega) rfl | exact ls_indexAddr_own tab_ok rfl rfl rfl rfl rfl rfl hkx rfl | exact ls_load_eref tab_ok rfl rfl rfl hela rfl rfl rfl rfl | exact lsq) | refine a_seq ?_ | refine a_region ?_ | refine o_nil ?_ | refine a_block ?_ | refine a_ret ?_ | refine a_exit ?_ | refine a_skip ?_ | refine a_draw mixed ?_ | refine d_nil (by kernel_rfl) ?_ | refine o_yes rfl rfl rfl ?_ | refine o_no rfl rfl rfl (by decide) ?_ | refine o_no' rfl rfl rfl ?_ | refine a_condT rfl ?_ | refine a_condF rfl ?_ | refine d_no rfl rfl rfl (by decide) ?_ | refine d_no' rfl rfl rfl ?_ | (refine wq2 (fun hb => ?_) (fun hb => ?_) <;> (simp only [hb]; try simp only [hbs, ne_eq] at hb; try (exfalso; first | omega | exact hb trivial))) | fail)
      refine ⟨⟨_, hI', hP'⟩, by dsimp only; omega, ?_⟩
      dsimp only
      exact wkS
    | some x =>
     rw [hx] at hI' hP' hout'
     dsimp only at hI' hP' hout'
     have hpl : p < r.length := (List.getElem?_eq_some_iff.1 hx).1
     have helx : (r.map It.av)[p]? = some (It.av x) := by rw [List.getElem?_map, hx]; rfl
     have hset : (s.at'.map naAv).set kk [.v (.int .i64 ((p : Int) + 1))] = (s.at'.set kk (p + 1)).map naAv := by rw [List.map_set]; rfl
     have hsl : ((s.at'.set kk (p + 1)).map naAv).length = (s.at'.map naAv).length := by simp
     have hlf1 : ((s.lf - 1 : Nat) : Int) = (s.lf : Int) - 1 := by omega
     have hlfb : s.lf ≤ 8000 := by have := hpot.le; omega
     have hpu : ∀ y : Int, ∀ (σ : Store) (μ : Nat → Value) (w : World) (A : Nat → Prop) (z : Value), rep σ μ w A (.v (.int .i64 y)) z → rep [] μ w A (.v (.int .i64 y)) z := fun y _ _ _ _ _ h => rep_pureB h rfl
     have hcl := hclo x
     cases hm : mine x
     ·rw [if_neg (by rw [hm]; simp)] at hI' hP'
      rw [hm] at hcl
      rcases ha with ⟨c, hel⟩ | ⟨c, rfl⟩
      all_goals
       repeat' (first | ((first | apply o_do | apply d_do | apply d_yes rfl rfl rfl); first | exact ls_indexAddr_sl tab_ok rfl rfl rfl rfl hel rfl | exact ls_indexAddr_sl tab_ok rfl rfl rfl rfl hel2 rfl | exact ls_indexAddr_sl tab_ok rfl rfl rfl rfl helx rfl | exact ls_rem64 hr1 rfl rfl (by omega) (by omega) rfl | exact ls_rem64 hkv rfl rfl (by omega) (by omega) rfl | exact ls_indexAddr_own tab_ok rfl rfl rfl rfl rfl rfl hkx rfl | exact ls_load_eref tab_ok rfl rfl rfl hela rfl rfl rfl rfl | exact ls_store_eref (cs' := [.v (.int .i64 ((p : Int) + 1))]) tab_ok rfl rfl rfl rfl hela rfl rfl (hpu _) rfl rfl rfl rfl | exact lsc (hcl) | exact lsq) | refine a_seq ?_ | refine a_region ?_ | refine o_nil ?_ | refine a_block ?_ | refine a_ret ?_ | refine a_exit ?_ | refine a_skip ?_ | refine a_draw mixed ?_ | refine d_nil (by kernel_rfl) ?_ | refine o_yes rfl rfl rfl ?_ | refine o_no rfl rfl rfl (by decide) ?_ | refine o_no' rfl rfl rfl ?_ | refine a_condT rfl ?_ | refine a_condF rfl ?_ | refine d_no rfl rfl rfl (by decide) ?_ | refine d_no' rfl rfl rfl ?_ | (refine wq2 (fun hb => ?_) (fun hb => ?_) <;> (simp only [hb]; try simp only [hbs, ne_eq] at hb; try (exfalso; first | omega | exact hb trivial))) | fail)
       refine ⟨⟨_, hI', hP'⟩, by dsimp only; omega, ?_⟩
       dsimp only
       rw [hlf1]
       refine ⟨by repeat' (first | exact trivial | exact FinA.one (FinB.cell (FinC.same rfl)) | exact FinA.one (FinB.cell FinC.nil) | exact FinA.bound rfl | exact FinA.one (FinB.cell (FinC.own rfl rfl rfl rfl)) | exact FinA.one (FinB.cell (FinC.v (by first | rfl | ((first | (simp only [hset]; done) | (rw [← hset]; simp) | simp))))) | exact FinA.one (FinB.cell (FinC.ow rfl (by first | rfl | ((first | (simp only [hset]; done) | (rw [← hset]; simp) | simp))))) | exact FinA.one (FinB.agg' rfl rfl) | refine ⟨⟨_, rfl, ?_⟩, ?_⟩), by repeat' (first | exact trivial | refine ⟨⟨_, rfl, by first | rfl | ((first | (simp only [hset]; done) | (rw [← hset]; simp) | simp); done) | (simp [renO, *]; done)⟩, by first | rfl | assumption, ?_⟩), rfl⟩
     ·rw [if_pos hm] at hI' hP' hout'
      rw [hm] at hcl
      obtain ⟨⟨o1, o2, o3, o4⟩, w', T, hTe, hsc, hgm⟩ := hone x hIs hr hp hx hm
      have hTl := run_len ⟨g, s0, d, k, fu, li, de, id⟩ f s.w (kk : Int) x o1 o2 o4
      have hRC := hRun s.w (kk : Int) x o1 o2 o4 o3
      rw [hTe] at hI' hP' hout' hTl hRC
      unfold RnW.av at hRC
      dsimp only at hI' hP' hout' hTl hRC
      have hgl := hI.gs _ hI'
      dsimp only at hgl
      have hTL : (T.map It.av).length = T.length := List.length_map _
      rcases ha with ⟨c, hel⟩ | ⟨c, rfl⟩
      all_goals
       repeat' (first | ((first | apply o_do | apply d_do | apply d_yes rfl rfl rfl); first | exact ls_indexAddr_sl tab_ok rfl rfl rfl rfl hel rfl | exact ls_indexAddr_sl tab_ok rfl rfl rfl rfl hel2 rfl | exact ls_indexAddr_sl tab_ok rfl rfl rfl rfl helx rfl | exact ls_rem64 hr1 rfl rfl (by omega) (by omega) rfl | exact ls_rem64 hkv rfl rfl (by omega) (by omega) rfl | exact ls_indexAddr_own tab_ok rfl rfl rfl rfl rfl rfl hkx rfl | exact ls_load_eref tab_ok rfl rfl rfl hela rfl rfl rfl rfl | exact ls_store_eref (cs' := [.v (.int .i64 ((p : Int) + 1))]) tab_ok rfl rfl rfl rfl hela rfl rfl (hpu _) rfl rfl rfl rfl | exact lsc (hcl) | exact lsc (hRC) | exact lsq) | refine a_seq ?_ | refine a_region ?_ | refine o_nil ?_ | refine a_block ?_ | refine a_ret ?_ | refine a_exit ?_ | refine a_skip ?_ | refine a_draw mixed ?_ | refine d_nil (by kernel_rfl) ?_ | refine o_yes rfl rfl rfl ?_ | refine o_no rfl rfl rfl (by decide) ?_ | refine o_no' rfl rfl rfl ?_ | refine a_condT rfl ?_ | refine a_condF rfl ?_ | refine d_no rfl rfl rfl (by decide) ?_ | refine d_no' rfl rfl rfl ?_ | (refine wq2 (fun hb => ?_) (fun hb => ?_) <;> (simp only [hb]; try simp only [hbs, ne_eq] at hb; try (exfalso; first | omega | exact hb trivial))) | fail)
       refine a_loop (X := {y : Nat × Int × List Rs // y.1 ≤ T.length ∧ scan y.2.1 (T.drop y.1) = some w'.told ∧ y.2.2 ++ resT (T.drop y.1) = s.out ++ resT T}) (fun y => ⟨[(2, .sl 1 (ins.map riAv)), (3, .sl 1 (ts.map toAv)), (4, .clo (.func fc) [] []), (5, .ref 0 0), (12, .ref 1 0), (14, .own 2 ((s.at'.set kk (p + 1)).map naAv).length), (15, .v (.int .i64 ((s.lf : Int) - 1))), (18, .own 3 (y.1.2.2.map Rs.av).length), (19, .v (.int .i64 y.1.2.1)), (20, .v (.int .i64 (s.i : Int))), (129, .sl 11 (T.map It.av)), (130, .v (.int .i64 (T.map It.av).length)), (131, .v (.int .i64 y.1.1))], [(0, .box 23 [.v (.int .i64 g), .v (.int .i64 s0), .v (.int .i64 d), .v (.int .i64 k), .v (.int .i64 fu), .v (.int .i64 li), .v (.int .i64 de), .v (.int .i64 id)]), (1, .box 42 w'.av), (2, .row 3 1 ((s.at'.set kk (p + 1)).map naAv)), (3, .row 61 5 (y.1.2.2.map Rs.av))]⟩) (fun y => T.length - y.1.1) ⟨(0, s.w.told, s.out), Nat.zero_le _, hsc, rfl⟩ ?_ ?_
       ·refine ⟨by repeat' (first | exact trivial | exact FinA.one (FinB.cell (FinC.same rfl)) | exact FinA.one (FinB.cell FinC.nil) | exact FinA.bound rfl | exact FinA.one (FinB.cell (FinC.own rfl rfl rfl rfl)) | exact FinA.one (FinB.cell (FinC.v (by first | rfl | ((first | (simp only [hset]; done) | (rw [← hset]; simp) | simp))))) | exact FinA.one (FinB.cell (FinC.ow rfl (by first | rfl | ((first | (simp only [hset]; done) | (rw [← hset]; simp) | simp))))) | exact FinA.one (FinB.agg' rfl rfl) | refine ⟨⟨_, rfl, ?_⟩, ?_⟩), by repeat' (first | exact trivial | refine ⟨⟨_, rfl, by first | rfl | ((first | (simp only [hset]; done) | (rw [← hset]; simp) | simp); done) | (simp [renO, *]; done)⟩, by first | rfl | assumption, ?_⟩), rfl⟩
       rintro ⟨⟨q, m, O⟩, hq, hsq, hOq⟩
       dsimp only at hq hsq hOq ⊢
       have hOL : (O.map Rs.av).length = O.length := List.length_map _
       have hOl : O.length ≤ 1000000 := by
        have := congrArg List.length hOq
        rw [List.length_append] at this
        omega
       by_cases hql : q < T.length
       ·rw [List.drop_eq_getElem_cons hql] at hsq hOq
        have helT : (T.map It.av)[q]? = some (It.av T[q]) := by simp [hql]
        rw [resT_cons] at hOq
        generalize T[q] = y at *
        obtain ⟨y1, y2, y3, y4, y5, y6, y7, y8, y9, y10, y11⟩ := y
        unfold scan at hsq
        dsimp only at hsq hOq
        by_cases k5 : y1 = 5
        ·rw [if_pos k5] at hsq hOq
         by_cases hh : y8 ≤ m
         ·rw [if_pos hh] at hsq; cases hsq
         ·rw [if_neg hh] at hsq
          have hmap : (O ++ [rsOf ⟨y1, y2, y3, y4, y5, y6, y7, y8, y9, y10, y11⟩]).map Rs.av = O.map Rs.av ++ [[.v (.int .i64 y7), .v (.int .i64 y8), .v (.string y9), .v (.int .i64 y10), .v (.int .i64 y11)]] := by rw [List.map_append]; rfl
          repeat' (first | ((first | apply o_do | apply d_do | apply d_yes rfl rfl rfl); first | exact ls_indexAddr_sl tab_ok rfl rfl rfl rfl helT rfl | focus (apply ls_append tab_ok rfl rfl ?hn rfl ?hsrc rfl ?hlen rfl rfl; (case hn => rfl); (case hsrc => first | exact SrcIs.sl | exact SrcIs.nil | exact SrcIs.own rfl rfl | fail); (case hlen => (try simp only [List.length_cons, List.length_nil]); (omega)); first | done | fail) | exact lsq) | refine a_seq ?_ | refine a_region ?_ | refine o_nil ?_ | refine a_block ?_ | refine a_ret ?_ | refine a_exit ?_ | refine a_skip ?_ | refine a_draw mixed ?_ | refine d_nil (by kernel_rfl) ?_ | refine o_yes rfl rfl rfl ?_ | refine o_no rfl rfl rfl (by decide) ?_ | refine o_no' rfl rfl rfl ?_ | refine a_condT rfl ?_ | refine a_condF rfl ?_ | refine d_no rfl rfl rfl (by decide) ?_ | refine d_no' rfl rfl rfl ?_ | (refine wq2 (fun hb => ?_) (fun hb => ?_) <;> (simp only [hb]; try simp only [hbs, ne_eq] at hb; try (exfalso; first | omega | exact hb trivial))) | fail)
          refine ⟨⟨(q + 1, m, O ++ [rsOf ⟨y1, y2, y3, y4, y5, y6, y7, y8, y9, y10, y11⟩]), hql, hsq, by dsimp only; rw [List.append_assoc]; exact hOq⟩, by dsimp only; omega, ?_⟩
          dsimp only
          rw [hmap]
          exact wkS
        ·rw [if_neg k5] at hsq hOq
         by_cases k2 : y1 = 2
         ·rw [if_pos k2] at hsq
          by_cases hh : y5 ≤ m
          ·rw [if_pos hh] at hsq; cases hsq
          ·rw [if_neg hh] at hsq
           repeat' (first | ((first | apply o_do | apply d_do | apply d_yes rfl rfl rfl); first | exact ls_indexAddr_sl tab_ok rfl rfl rfl rfl helT rfl | exact lsq) | refine a_seq ?_ | refine a_region ?_ | refine o_nil ?_ | refine a_block ?_ | refine a_ret ?_ | refine a_exit ?_ | refine a_skip ?_ | refine a_draw mixed ?_ | refine d_nil (by kernel_rfl) ?_ | refine o_yes rfl rfl rfl ?_ | refine o_no rfl rfl rfl (by decide) ?_ | refine o_no' rfl rfl rfl ?_ | refine a_condT rfl ?_ | refine a_condF rfl ?_ | refine d_no rfl rfl rfl (by decide) ?_ | refine d_no' rfl rfl rfl ?_ | (refine wq2 (fun hb => ?_) (fun hb => ?_) <;> (simp only [hb]; try simp only [hbs, ne_eq] at hb; try (exfalso; first | omega | exact hb trivial))) | fail)
           refine ⟨⟨(q + 1, y5, O), hql, hsq, hOq⟩, by dsimp only; omega, ?_⟩
           exact wkS
         ·rw [if_neg k2] at hsq
          repeat' (first | ((first | apply o_do | apply d_do | apply d_yes rfl rfl rfl); first | exact ls_indexAddr_sl tab_ok rfl rfl rfl rfl helT rfl | exact lsq) | refine a_seq ?_ | refine a_region ?_ | refine o_nil ?_ | refine a_block ?_ | refine a_ret ?_ | refine a_exit ?_ | refine a_skip ?_ | refine a_draw mixed ?_ | refine d_nil (by kernel_rfl) ?_ | refine o_yes rfl rfl rfl ?_ | refine o_no rfl rfl rfl (by decide) ?_ | refine o_no' rfl rfl rfl ?_ | refine a_condT rfl ?_ | refine a_condF rfl ?_ | refine d_no rfl rfl rfl (by decide) ?_ | refine d_no' rfl rfl rfl ?_ | (refine wq2 (fun hb => ?_) (fun hb => ?_) <;> (simp only [hb]; try simp only [hbs, ne_eq] at hb; try (exfalso; first | omega | exact hb trivial))) | fail)
          refine ⟨⟨(q + 1, m, O), hql, hsq, hOq⟩, by dsimp only; omega, ?_⟩
          exact wkS
       ·obtain rfl : q = T.length := by omega
        rw [List.drop_length] at hsq hOq
        simp only [scan, Option.some.injEq] at hsq
        subst hsq
        have hO2 : O = s.out ++ resT T := by rw [← hOq]; simp [resT]
        subst hO2
        unfold Wk.av
        repeat' (first | ((first | apply o_do | apply d_do | apply d_yes rfl rfl rfl); exact lsq) | refine a_seq ?_ | refine a_region ?_ | refine o_nil ?_ | refine a_block ?_ | refine a_ret ?_ | refine a_exit ?_ | refine a_skip ?_ | refine a_draw mixed ?_ | refine d_nil (by kernel_rfl) ?_ | refine o_yes rfl rfl rfl ?_ | refine o_no rfl rfl rfl (by decide) ?_ | refine o_no' rfl rfl rfl ?_ | refine a_condT rfl ?_ | refine a_condF rfl ?_ | refine d_no rfl rfl rfl (by decide) ?_ | refine d_no' rfl rfl rfl ?_ | (refine wq2 (fun hb => ?_) (fun hb => ?_) <;> (simp only [hb]; try simp only [hbs, ne_eq] at hb; try (exfalso; first | omega | exact hb trivial))) | fail)
        have hGl : (w'.gs.map Gp.av).length = w'.gs.length := List.length_map _
        refine a_loop (X := {q : Nat // q ≤ w'.gs.length}) (fun y => ⟨[(2, .sl 1 (ins.map riAv)), (3, .sl 1 (ts.map toAv)), (4, .clo (.func fc) [] []), (5, .ref 0 0), (12, .ref 1 0), (14, .own 2 ((s.at'.set kk (p + 1)).map naAv).length), (15, .v (.int .i64 ((s.lf : Int) - 1))), (18, .own 3 ((s.out ++ resT T).map Rs.av).length), (19, .v (.int .i64 w'.told)), (20, .v (.int .i64 (s.i : Int))), (160, .sl 3 (w'.gs.map Gp.av)), (161, .v (.int .i64 (w'.gs.map Gp.av).length)), (162, .v (.int .i64 y.1))], [(0, .box 23 [.v (.int .i64 g), .v (.int .i64 s0), .v (.int .i64 d), .v (.int .i64 k), .v (.int .i64 fu), .v (.int .i64 li), .v (.int .i64 de), .v (.int .i64 id)]), (1, .box 42 w'.av), (2, .row 3 1 ((s.at'.set kk (p + 1)).map naAv)), (3, .row 61 5 ((s.out ++ resT T).map Rs.av))]⟩) (fun y => w'.gs.length - y.1) ⟨0, Nat.zero_le _⟩ ?_ ?_
        ·unfold Wk.av
         exact wkS
        rintro ⟨q, hq⟩
        dsimp only
        by_cases hql : q < w'.gs.length
        ·have helG : (w'.gs.map Gp.av)[q]? = some (Gp.av w'.gs[q]) := by simp [hql]
         have hgq := hgm _ (List.getElem_mem hql)
         generalize w'.gs[q] = y at *
         obtain ⟨y1, y2, y3⟩ := y
         dsimp only at hgq
         subst hgq
         unfold Gp.av at helG
         dsimp only at helG
         unfold Wk.av
         repeat' (first | ((first | apply o_do | apply d_do | apply d_yes rfl rfl rfl); first | exact ls_indexAddr_sl tab_ok rfl rfl rfl rfl helG rfl | exact lsq) | refine a_seq ?_ | refine a_region ?_ | refine o_nil ?_ | refine a_block ?_ | refine a_ret ?_ | refine a_exit ?_ | refine a_skip ?_ | refine a_draw mixed ?_ | refine d_nil (by kernel_rfl) ?_ | refine o_yes rfl rfl rfl ?_ | refine o_no rfl rfl rfl (by decide) ?_ | refine o_no' rfl rfl rfl ?_ | refine a_condT rfl ?_ | refine a_condF rfl ?_ | refine d_no rfl rfl rfl (by decide) ?_ | refine d_no' rfl rfl rfl ?_ | (refine wq2 (fun hb => ?_) (fun hb => ?_) <;> (simp only [hb]; try simp only [hbs, ne_eq] at hb; try (exfalso; first | omega | exact hb trivial))) | fail)
         refine ⟨⟨q + 1, by omega⟩, by dsimp only; omega, ?_⟩
         exact wkS
        ·obtain rfl : q = w'.gs.length := by omega
         repeat' (first | ((first | apply o_do | apply d_do | apply d_yes rfl rfl rfl); exact lsq) | refine a_seq ?_ | refine a_region ?_ | refine o_nil ?_ | refine a_block ?_ | refine a_ret ?_ | refine a_exit ?_ | refine a_skip ?_ | refine a_draw mixed ?_ | refine d_nil (by kernel_rfl) ?_ | refine o_yes rfl rfl rfl ?_ | refine o_no rfl rfl rfl (by decide) ?_ | refine o_no' rfl rfl rfl ?_ | refine a_condT rfl ?_ | refine a_condF rfl ?_ | refine d_no rfl rfl rfl (by decide) ?_ | refine d_no' rfl rfl rfl ?_ | (refine wq2 (fun hb => ?_) (fun hb => ?_) <;> (simp only [hb]; try simp only [hbs, ne_eq] at hb; try (exfalso; first | omega | exact hb trivial))) | fail)
         refine ⟨⟨_, hI', hP'⟩, by dsimp only; omega, ?_⟩
         dsimp only
         rw [hlf1]
         exact wkS
def convL : List AV → Option (List Value)
 | [] => some []
 | .v x :: l => match convL l with
  | some us => some (x :: us)
  | none => none
 | _ => none
def conv : AV → Option Value
 | .v x => some x
 | .agg cs => match convL cs with
  | some us => some (.agg us.toArray)
  | none => none
 | _ => none
section
variable {P : Program} {Γ : Ctx} {s : ASt} {σ : Store} {μ : Nat → Value} {w : World} {A : Nat → Prop}
variable {dst : Option Tmp} {ty : TypeId} {pos : String} {after : Array Edge}
theorem convL_rep : ∀ {cs : List AV} {xs us : List Value}, convL cs = some xs → repC σ μ w A cs us → us = xs
 | [], xs, us, h, h2 => by
  simp only [convL, Option.some.injEq] at h; subst h
  simpa only [repC] using h2
 | .v x :: cs, xs, us, h, h2 => by
  simp only [convL] at h
  split at h
  ·rename_i ys hy
   injection h with h; subst h
   simp only [repC, rep] at h2
   obtain ⟨u, us', rfl, _, ⟨rfl, _⟩, h3⟩ := h2
   rw [convL_rep hy h3]
  ·cases h
 | .agg _ :: _, _, _, h, _ => by simp [convL] at h
 | .tup _ :: _, _, _, h, _ => by simp [convL] at h
 | .sl _ _ :: _, _, _, h, _ => by simp [convL] at h
 | .own _ _ :: _, _, _, h, _ => by simp [convL] at h
 | .ref _ _ :: _, _, _, h, _ => by simp [convL] at h
 | .eref _ _ _ _ :: _, _, _, h, _ => by simp [convL] at h
 | .el _ :: _, _, _, h, _ => by simp [convL] at h
 | .clo _ _ _ :: _, _, _, h, _ => by simp [convL] at h
 | .mp _ :: _, _, _, h, _ => by simp [convL] at h
theorem conv_rep {v : AV} {x y : Value} (h : conv v = some x) (hr : rep σ μ w A v y) : y = x := by
 cases v with
 | v z => simp only [conv, Option.some.injEq] at h; subst h; simp only [rep] at hr; exact hr.1
 | agg cs =>
  simp only [conv] at h
  split at h
  ·rename_i us hu
   injection h with h; subst h
   simp only [rep] at hr
   obtain ⟨us', rfl, h2⟩ := hr
   rw [convL_rep hu h2]
  ·cases h
 | _ => cases h
theorem borns_push {ents : Array MapEntry} {ck : Nat} (h : Borns ents ck) (key val : Value) : Borns (ents.push { key, val := val, born := ck }) (ck + 1) := by
 refine ⟨by simp [h.1], fun i e he => ?_⟩
 rw [Array.getElem?_push] at he
 split at he
 ·rename_i h1; injection he with he; subst he; exact h.1.trans h1.symm
 ·exact h.2 i e he
theorem borns_modify {ents : Array MapEntry} {ck : Nat} (h : Borns ents ck) (j : Nat) (f : MapEntry → MapEntry) (hf : ∀ e, (f e).born = e.born) : Borns (ents.modify j f) ck := by
 refine ⟨by simp [h.1], fun i e he => ?_⟩
 rw [Array.getElem?_modify] at he
 split at he
 ·cases hi : ents[i]? with
  | none => rw [hi] at he; cases he
  | some e' =>
   rw [hi] at he
   simp only [Option.map_some, Option.some.injEq] at he
   subst he
   rw [hf]; exact h.2 i e' hi
 ·exact h.2 i e he
theorem obj_map {id : Nat} {es : List (Value × Value)} (h : ObjRel σ μ w A id (.mp (.m es))) : ∃ g ents ck, μ id = .map (some g) ∧ w.heap[g]? = some (.map ents ck) ∧ ents.toList.map (fun e => (e.key, e.val)) = es ∧ Borns ents ck := by
 obtain ⟨g, v, ob, h1, h2, h3, g', ents, ck, rfl, rfl, h4, h5⟩ := h
 simp only [blk, Option.some.injEq] at h2
 subst h2
 exact ⟨_, ents, ck, h1, h3, h4, h5⟩
theorem obj_mapI {id : Nat} {es : List (Value × Value)} (h : ∃ g ents ck, μ id = .map (some g) ∧ w.heap[g]? = some (.map ents ck) ∧ ents.toList.map (fun e => (e.key, e.val)) = es ∧ Borns ents ck) : ObjRel σ μ w A id (.mp (.m es)) := by
 obtain ⟨g, ents, ck, h1, h2, h3, h4⟩ := h
 exact ⟨g, _, _, h1, rfl, h2, g, ents, ck, rfl, rfl, h3, h4⟩
theorem ls_makeMap {t k : Nat} (hk : find s.σ k = none) (hd : okDst Γ.n dst = true) : LS P Γ ⟨dst, .makeMap t none, ty, pos, after, none⟩ s [.obj k] (dst1 dst (.mp k)) [(k, .mp (.m []))] := by
 refine ⟨fun t' ht Q μ a w hr K hK => ?_⟩
 have hk' : find t'.σ k = none := ht.1.trans hk
 have hn := hr.new (w' := w.alloc (.map #[] 0)) (v := .map (some w.heap.size)) (o := .mp (.m [])) hk' (below_alloc _ _) (by simp [blk]) (fun μ' A hμ hμk hA hst => by
  exact obj_mapI ⟨w.heap.size, #[], 0, hμk, (MapKept.heap_alloc w _).1, rfl, rfl, fun i e h => by simp at h⟩)
 have hfin := hn.put (d := dst) (x := .mp k) (y := .map (some w.heap.size)) hd (by
  simp only [rep, ASt.eff, List.cons_append, List.nil_append, find_cons, if_true]
  exact ⟨rfl, (setμ_same _ _ _).symm, _, rfl⟩)
 unfold Oper.wp
 have hrun : (execOp a.eval ⟨dst, .makeMap t none, ty, pos, after, none⟩).run P w = .ok (.value (.map (some w.heap.size))) (w.alloc (.map #[] 0)) := by
  simp [execOp, Instr.makeMap, run_newObj]
 rw [hrun]
 refine hK (setμ μ k (.map (some w.heap.size))) _ _ ?_
 cases dst <;> exact hfin
theorem ls_lookup {kt : TypeId} (K : WideMaps.KeyLaw P kt) {m x : Operand} {t et id : Nat} {es : List (Value × Value)} {kv : AV} {key r z : Value} {b : Bool} {kl : Lit} (c : Bool)
  (hm : ev s m = some (.mp id)) (hx : ev s x = some kv) (hσ : find s.σ id = some (.mp (.m es))) (hu : P.underlying t = some (.map kt et)) (hk : conv kv = some key) (hz : ∀ w, (zeroValue et).run P w = .ok z w) (hr : scal r = true)
  (hkey : keyOf P kt key = some kl) (hall : ∀ p ∈ es, ∃ l, keyOf P kt p.1 = some l) (h1 : (∀ p ∈ es, p.1 ≠ key) → r = z ∧ b = false) (h2 : ∀ (j : Nat) (p : Value × Value), es[j]? = some p → p.1 = key → r = p.2 ∧ b = true) (hd : okDst Γ.n dst = true) :
  LS P Γ ⟨dst, .lookup t m x c, ty, pos, after, none⟩ s (rd m (rd x [.obj id])) (dst1 dst (match c with | true => .tup [.v r, .v (.bool b)] | false => .v r)) [] :=
 ls_pure hd fun t' ht μ a w hR => by
  obtain ⟨e1, ht⟩ := ht.ev hm
  obtain ⟨e2, ht⟩ := ht.ev hx
  have e0 : find t'.σ id = some (.mp (.m es)) := ht.1.trans hσ
  have e1 := hR.ev e1
  have e2 := conv_rep hk (hR.ev e2)
  simp only [rep] at e1
  obtain ⟨g, ents, ck, h3, h4, h5, hbo⟩ := obj_map (hR.store.obj id _ e0)
  have hall' : ∀ e ∈ ents.toList, ∃ l, keyOf P kt e.key = some l := fun e he => hall (e.key, e.val) (by rw [← h5]; exact List.mem_map.2 ⟨e, he, rfl⟩)
  have hrun : (Instr.lookup t (.map (some g)) key c).run P w = .ok (if c then .tuple #[r, .bool b] else r) w := by
   rcases K.find w hkey ents.toList hall' with ⟨h6, h7⟩ | ⟨j, e, h6, h7, h8⟩
   ·obtain ⟨rfl, rfl⟩ := h1 fun p hp => by
     rw [← h5] at hp
     obtain ⟨e, he, rfl⟩ := List.mem_map.1 hp
     exact h7 e he
    simp [Instr.lookup, run_underlying hu, MapKept.run_getObj_map h4, K.check w _ hkey, h6, hz]
   ·obtain ⟨rfl, rfl⟩ := h2 j (e.key, e.val) (by rw [← h5, List.getElem?_map, h7]; rfl) h8
    simp [Instr.lookup, run_underlying hu, MapKept.run_getObj_map h4, K.check w _ hkey, h6]
  refine ⟨if c then .tuple #[r, .bool b] else r, by simp only [execOp, e1.2.1, h3, e2, Sem.run_bind, hrun, Result.andThen_ok, Sem.run_pure], ?_⟩
  cases c
  ·simp only [rep]; exact ⟨rfl, hr⟩
  ·simp only [rep, repL]; exact ⟨[_, _], rfl, _, _, rfl, ⟨rfl, hr⟩, _, _, rfl, ⟨rfl, rfl⟩, rfl⟩
theorem ls_mapEntry {kt : TypeId} (K : WideMaps.KeyLaw P kt) {m x : Operand} {t et id i : Nat} {es es' : List (Value × Value)} {kv : AV} {key r z : Value} {kl : Lit}
  (hm : ev s m = some (.mp id)) (hx : ev s x = some kv) (hσ : find s.σ id = some (.mp (.m es))) (hu : P.underlying t = some (.map kt et)) (hk : conv kv = some key) (hz : ∀ w, (zeroValue et).run P w = .ok z w) (hr : scal r = true)
  (hkey : keyOf P kt key = some kl) (hall : ∀ p ∈ es, ∃ l, keyOf P kt p.1 = some l) (h1 : (∀ p ∈ es, p.1 ≠ key) → r = z ∧ i = es.length ∧ es' = es ++ [(key, z)]) (h2 : ∀ j p, es[j]? = some p → p.1 = key → r = p.2 ∧ i = j ∧ es' = es) (hd : okDst Γ.n dst = true) :
  LS P Γ ⟨dst, .mapEntry t m x, ty, pos, after, none⟩ s (rd m (rd x [.obj id])) (dst1 dst (.tup [.v r, .v (.int .i64 i)])) [(id, .mp (.m es'))] := by
 refine ⟨fun t' ht Q μ a w hR K' hK => ?_⟩
 obtain ⟨e1, ht⟩ := ht.ev hm
 obtain ⟨e2, ht⟩ := ht.ev hx
 have e0 : find t'.σ id = some (.mp (.m es)) := ht.1.trans hσ
 have e1 := hR.ev e1
 have e2 := conv_rep hk (hR.ev e2)
 simp only [rep] at e1
 obtain ⟨g, ents, ck, h3, h4, h5, hbo⟩ := obj_map (hR.store.obj id _ e0)
 have hall' : ∀ e ∈ ents.toList, ∃ l, keyOf P kt e.key = some l := fun e he => hall (e.key, e.val) (by rw [← h5]; exact List.mem_map.2 ⟨e, he, rfl⟩)
 have hlen : ents.size = es.length := by rw [← h5]; simp
 obtain ⟨ents', ck', hrun, hents⟩ : ∃ ents' ck', (Instr.mapEntry t (.map (some g)) key).run P w = .ok (.tuple #[r, .int .i64 i]) { w with heap := w.heap.setIfInBounds g (.map ents' ck') } ∧ ents'.toList.map (fun e => (e.key, e.val)) = es' ∧ Borns ents' ck' := by
  rcases K.find w hkey ents.toList hall' with ⟨h6, h7⟩ | ⟨j, e, h6, h7, h8⟩
  ·obtain ⟨rfl, rfl, rfl⟩ := h1 fun p hp => by
    rw [← h5] at hp
    obtain ⟨e, he, rfl⟩ := List.mem_map.1 hp
    exact h7 e he
   refine ⟨ents.push { key, val := r, born := ck }, ck + 1, ?_, ?_, borns_push hbo _ _⟩
   ·have : (ck : Int) = (es.length : Int) := by rw [hbo.1, hlen]
    simp [Instr.mapEntry, run_underlying hu, MapKept.run_getObj_map h4, K.check w false hkey, h6, hz, MapKept.run_setObj_map _ h4, goInt, this]
   ·rw [Array.toList_push, List.map_append, h5]; rfl
  ·have hj : j < ents.size := by simpa using (List.getElem?_eq_some_iff.1 h7).1
   have hge : ents[j]? = some e := by simpa using h7
   obtain ⟨rfl, rfl, rfl⟩ := h2 j (e.key, e.val) (by rw [← h5, List.getElem?_map, h7]; rfl) h8
   refine ⟨ents.modify i fun e => { e with key }, ck, ?_, ?_, borns_modify hbo i _ (fun _ => rfl)⟩
   ·simp [Instr.mapEntry, run_underlying hu, MapKept.run_getObj_map h4, K.check w false hkey, h6, hge, h8, K.stays w hkey, MapKept.run_setObj_map _ h4, goInt, hbo.2 i e hge]
   ·rw [← h5, Array.toList_modify]
    apply List.ext_getElem?
    intro q
    rw [List.getElem?_map, List.getElem?_modify, List.getElem?_map]
    by_cases hij : i = q
    ·subst hij
     rw [h7]
     simp [h8]
    ·simp [hij]
 have hst := store_rel hR e0 (g := g) (o' := .mp (.m es')) (w' := { w with heap := w.heap.setIfInBounds g (.map ents' ck') }) (by rw [h3]; rfl) (by simp) rfl rfl rfl (fun b hb => by simp only [Array.getElem?_setIfInBounds_ne (Ne.symm hb)]) trivial (fun A hst hA => by
  have hlt := (Array.getElem?_eq_some_iff.1 h4).1
  exact obj_mapI ⟨g, ents', ck', h3, by simp [hlt], hents⟩)
 have hfin := hst.put (d := dst) (x := .tup [.v r, .v (.int .i64 i)]) (y := .tuple #[r, .int .i64 i]) hd (by
  simp only [rep, repL]
  exact ⟨[_, _], rfl, _, _, rfl, ⟨rfl, hr⟩, _, _, rfl, ⟨rfl, rfl⟩, rfl⟩)
 unfold Oper.wp
 have hrun2 : (execOp a.eval ⟨dst, .mapEntry t m x, ty, pos, after, none⟩).run P w = .ok (.value (.tuple #[r, .int .i64 i])) { w with heap := w.heap.setIfInBounds g (.map ents' ck') } := by
  simp only [execOp, e1.2.1, h3, e2, Sem.run_bind, hrun, Result.andThen_ok, Sem.run_pure]
 rw [hrun2]
 refine hK μ _ _ ?_
 cases dst <;> exact hfin
theorem ls_entryStore {m st y : Operand} {t id i : Nat} {es : List (Value × Value)} {vv : AV} {val k0 v0 : Value}
  (hm : ev s m = some (.mp id)) (hst : ev s st = some (.v (.int .i64 i))) (hy : ev s y = some vv) (hσ : find s.σ id = some (.mp (.m es))) (hv : conv vv = some val) (hi : es[i]? = some (k0, v0)) (hdst : dst = none) :
  LS P Γ ⟨dst, .entryStore t m st y, ty, pos, after, none⟩ s (rd m (rd st (rd y [.obj id]))) [] [(id, .mp (.m (es.set i (k0, val))))] := by
 refine ⟨fun t' ht Q μ a w hR K' hK => ?_⟩
 subst hdst
 obtain ⟨e1, ht⟩ := ht.ev hm
 obtain ⟨e2, ht⟩ := ht.ev hst
 obtain ⟨e3, ht⟩ := ht.ev hy
 have e0 : find t'.σ id = some (.mp (.m es)) := ht.1.trans hσ
 have e1 := hR.ev e1
 have e2 := hR.ev e2
 have e3 := conv_rep hv (hR.ev e3)
 simp only [rep] at e1 e2
 obtain ⟨g, ents, ck, h3, h4, h5, hbo⟩ := obj_map (hR.store.obj id _ e0)
 have hie : ∃ e, ents[i]? = some e ∧ e.key = k0 := by
  rw [← h5, List.getElem?_map] at hi
  cases he : ents.toList[i]? with
  | none => rw [he] at hi; cases hi
  | some e =>
   rw [he] at hi
   simp only [Option.map_some, Option.some.injEq, Prod.mk.injEq] at hi
   exact ⟨e, by simpa using he, hi.1⟩
 obtain ⟨e, he, hk⟩ := hie
 have hlt : i < ents.size := (Array.getElem?_eq_some_iff.1 he).1
 have hfind : ents.findIdx? (fun e => (e.born : Int) == (i : Int)) = some i := by
  rw [Array.findIdx?_eq_some_iff_getElem]
  refine ⟨hlt, ?_, fun j hj => ?_⟩
  ·have : ents[i].born = i := hbo.2 i _ (by rw [Array.getElem?_eq_getElem hlt])
   simp [this]
  ·have : ents[j].born = j := hbo.2 j _ (by rw [Array.getElem?_eq_getElem (by omega)])
   simp [this]; omega
 have hrun : (Instr.entryStore t (.map (some g)) (.int .i64 i) val).run P w = .ok () { w with heap := w.heap.setIfInBounds g (.map (ents.modify i fun e => { e with val := val }) ck) } := by
  simp [Instr.entryStore, MapKept.run_getObj_map h4, asInt, asIntOf, hfind, MapKept.run_setObj_map _ h4]
 unfold Oper.wp
 have hrun2 : (execOp a.eval ⟨none, .entryStore t m st y, ty, pos, after, none⟩).run P w = .ok .skip { w with heap := w.heap.setIfInBounds g (.map (ents.modify i fun e => { e with val := val }) ck) } := by
  simp only [execOp, e1.2.1, h3, e2.1, e3, Sem.run_bind, hrun, Result.andThen_ok, Sem.run_pure]
 rw [hrun2]
 refine hK μ _ _ ?_
 refine store_rel hR e0 (g := g) (by rw [h3]; rfl) (by simp) rfl rfl rfl (fun b hb => by simp only [Array.getElem?_setIfInBounds_ne (Ne.symm hb)]) trivial (fun A hst hA => ?_)
 have hlt2 := (Array.getElem?_eq_some_iff.1 h4).1
 refine obj_mapI ⟨g, ents.modify i fun e => { e with val := val }, ck, h3, by simp [hlt2], ?_, borns_modify hbo i (fun e => { e with val := val }) (fun _ => rfl)⟩
 rw [← h5, Array.toList_modify]
 apply List.ext_getElem?
 intro q
 rw [List.getElem?_map, List.getElem?_modify, List.getElem?_set, List.getElem?_map]
 by_cases hij : i = q
 ·subst hij
  have : ents.toList[i]? = some e := by simpa using he
  rw [this]
  simp [hk, hlt]
 ·simp [hij]
end
section
variable {P : Program} {Γ : Ctx} {Q : Exit → ASt → Prop} {s t : ASt}
structure AR (P : Program) (Γ : Ctx) (ops : List Oper) (Q : Exit → ASt → Prop) (fuel : Nat) (listed : Array Bool) (s : ASt) : Prop where
 out : ∀ μ a w, Rel Γ s μ a w → wpAnyIn Γ.F 0 P .any ops.toArray (AK Γ Q) fuel listed a w
structure ARL (P : Program) (Γ : Ctx) (ops : List Oper) (Q : Exit → ASt → Prop) (fuel : Nat) (listed : Array Bool) (l : List Nat) (s : ASt) : Prop where
 out : ∀ i ∈ l, ∀ μ a w, Rel Γ s μ a w → wpOpIn Γ.F 0 P ops.toArray (AK Γ Q) i (wpAnyIn Γ.F 0 P .any ops.toArray (AK Γ Q) fuel (listed.setIfInBounds i true)) a w
variable {ops : List Oper} {fuel : Nat} {listed : Array Bool} {l : List Nat}
theorem ar_done (hl : Region.ready .any ops.toArray listed = []) (hQ : Q .normal s) : AR P Γ ops Q fuel listed s := by
 refine ⟨fun μ a w hr => ?_⟩
 cases fuel with
 | zero => exact ⟨hl, s, μ, hr, hQ⟩
 | succ fuel => exact ⟨fun _ => ⟨s, μ, hr, hQ⟩, fun i hi => by rw [hl] at hi; cases hi⟩
theorem ar_step (l : List Nat) (hl : Region.ready .any ops.toArray listed = l) (hne : l.isEmpty = false) (h : ARL P Γ ops Q fuel listed l s) : AR P Γ ops Q (fuel + 1) listed s := by
 refine ⟨fun μ a w hr => ⟨fun h0 => ?_, fun i hi => h.out i (by rw [← hl]; exact hi) μ a w hr⟩⟩
 rw [hl] at h0; subst h0; cases hne
theorem arl_nil : ARL P Γ ops Q fuel listed [] s := ⟨fun _ h => nomatch h⟩
theorem arl_cons {i : Nat} {dst : Option Tmp} {op : Op} {ty : TypeId} {pos : String} {after : Array Edge} {R : List Loc} {er : List (Nat × AV)} {eσ : List (Nat × SObj)} (ho : ops[i]? = some ⟨dst, op, ty, pos, after, none⟩) (hd : noDefer op = true) (h : LS P Γ ⟨dst, op, ty, pos, after, none⟩ s R er eσ)
  (hk : AR P Γ ops Q fuel (listed.setIfInBounds i true) (s.eff er eσ)) (hl : ARL P Γ ops Q fuel listed l s) : ARL P Γ ops Q fuel listed (i :: l) s := by
 refine ⟨fun j hj μ a w hr => ?_⟩
 rcases List.mem_cons.1 hj with rfl | hj
 ·unfold wpOpIn
  simp only [List.getElem?_toArray, ho]
  have h2 : Region.wanted ⟨dst, op, ty, pos, after, none⟩ (yielded ops.toArray a.tmps) = true := by simp [Region.wanted]
  rw [if_pos h2]
  exact up_in hd (h.out s (Agree.refl s _) (AK Γ Q) μ a w hr _ fun μ' a' w' hr' => hk.out μ' a' w' hr')
 ·exact hl.out j hj μ a w hr
theorem a_drawA {id : Nat} (hm : P.follows .mixedOrders = true) (h : AR P Γ ops Q ops.length (Array.replicate ops.length false) s) : AWP P Γ (.region id ops.toArray true) Q s := by
 refine ⟨fun μ a w hr => wpIn_region_any hm ?_⟩
 exact h.out μ a w.drew (hr.world ((Below.refl _ w).drew))
end
deriving instance DecidableEq for Rs
abbrev Cnt := List (Rs × Int)
def cAt (ms : Cnt) (t : Rs) : Int := match ms.find? (fun p => decide (p.1 = t)) with
 | some p => p.2
 | none => 0
def cIdx (ms : Cnt) (t : Rs) : Nat := ms.findIdx fun p => decide (p.1 = t)
def cMake (ms : Cnt) (t : Rs) : Cnt := if cIdx ms t < ms.length then ms else ms ++ [(t, 0)]
def cSet (ms : Cnt) (t : Rs) (n : Int) : Cnt := (cMake ms t).set (cIdx ms t) (t, n)
theorem idx_none {ms : Cnt} {t : Rs} : (∀ p ∈ ms, p.1 ≠ t) ↔ cIdx ms t = ms.length := by
 unfold cIdx
 rw [List.findIdx_eq_length]
 simp
theorem idx_le (ms : Cnt) (t : Rs) : cIdx ms t ≤ ms.length := List.findIdx_le_length
theorem idx_at {ms : Cnt} {t : Rs} (h : cIdx ms t < ms.length) : ms[cIdx ms t].1 = t := by
 have h' : ms.findIdx (fun p : Rs × Int => decide (p.1 = t)) < ms.length := h
 have := List.findIdx_getElem (xs := ms) (p := fun p : Rs × Int => decide (p.1 = t)) (w := h')
 exact of_decide_eq_true this
theorem at_idx {ms : Cnt} {t : Rs} (h : cIdx ms t < ms.length) : cAt ms t = ms[cIdx ms t].2 := by
 unfold cAt
 rw [List.find?_eq_getElem?_findIdx]
 have : ms[ms.findIdx fun p => decide (p.1 = t)]? = some ms[cIdx ms t] := List.getElem?_eq_getElem h
 rw [this]
theorem at_none {ms : Cnt} {t : Rs} (h : ∀ p ∈ ms, p.1 ≠ t) : cAt ms t = 0 := by
 unfold cAt
 rw [List.find?_eq_none.2 (by simpa using h)]
def cUniq (ms : Cnt) : Prop := ∀ (i j : Nat) (p q : Rs × Int), ms[i]? = some p → ms[j]? = some q → p.1 = q.1 → i = j
theorem uniq_idx {ms : Cnt} (hu : cUniq ms) {i : Nat} {p : Rs × Int} (h : ms[i]? = some p) : cIdx ms p.1 = i := by
 have hlt : cIdx ms p.1 < ms.length := by
  rcases Nat.lt_or_ge (cIdx ms p.1) ms.length with h1 | h1
  ·exact h1
  ·have h2 : cIdx ms p.1 = ms.length := Nat.le_antisymm (idx_le _ _) h1
   exact absurd rfl (idx_none.2 h2 p (List.mem_of_getElem? h))
 exact hu _ _ _ _ (List.getElem?_eq_getElem hlt) h (idx_at hlt)
theorem make_len (ms : Cnt) (t : Rs) : cIdx ms t < (cMake ms t).length := by
 unfold cMake
 have := idx_le ms t
 split
 ·assumption
 ·rw [List.length_append]; simp only [List.length_cons, List.length_nil]; omega
theorem make_at (ms : Cnt) (t : Rs) : (cMake ms t)[cIdx ms t]? = some (t, cAt ms t) := by
 unfold cMake
 split
 ·rename_i h
  rw [List.getElem?_eq_getElem h, at_idx h]
  exact congrArg some (Prod.ext (idx_at h) rfl)
 ·rename_i h
  have e : cIdx ms t = ms.length := Nat.le_antisymm (idx_le _ _) (Nat.le_of_not_lt h)
  rw [e, at_none (idx_none.2 e)]
  simp
theorem set_get (ms : Cnt) (t : Rs) (n : Int) (i : Nat) : (cSet ms t n)[i]? = if i = cIdx ms t then some (t, n) else ms[i]? := by
 unfold cSet
 rw [List.getElem?_set]
 have h1 := make_len ms t
 by_cases h : cIdx ms t = i
 ·subst h; rw [if_pos rfl, if_pos h1, if_pos rfl]
 ·rw [if_neg h, if_neg (Ne.symm h)]
  unfold cMake
  split
  ·rfl
  ·rename_i h2
   have e : cIdx ms t = ms.length := Nat.le_antisymm (idx_le _ _) (Nat.le_of_not_lt h2)
   rcases Nat.lt_or_ge i ms.length with h3 | h3
   ·rw [List.getElem?_append_left h3]
   ·rw [List.getElem?_eq_none (by rw [List.length_append]; simp; omega), List.getElem?_eq_none h3]
theorem set_uniq {ms : Cnt} (hu : cUniq ms) (t : Rs) (n : Int) : cUniq (cSet ms t n) := by
 intro i j p q hi hj he
 rw [set_get] at hi hj
 split at hi
 ·rename_i h1
  injection hi with hi; subst hi
  split at hj
  ·rename_i h2; rw [h1, h2]
  ·have := uniq_idx hu hj
   rw [← he] at this
   dsimp only at this
   omega
 ·rename_i h1
  split at hj
  ·rename_i h2
   injection hj with hj; subst hj
   have := uniq_idx hu hi
   rw [he] at this
   dsimp only at this
   omega
  ·exact hu _ _ _ _ hi hj he
theorem uniq_at {ms : Cnt} (hu : cUniq ms) {i : Nat} {p : Rs × Int} (h : ms[i]? = some p) : cAt ms p.1 = p.2 := by
 have h1 := uniq_idx hu h
 have h2 : cIdx ms p.1 < ms.length := by rw [h1]; exact (List.getElem?_eq_some_iff.1 h).1
 rw [at_idx h2]
 have h3 : ms[cIdx ms p.1]? = some p := by rw [h1]; exact h
 rw [List.getElem?_eq_getElem h2] at h3
 injection h3 with h3; rw [h3]
theorem set_at {ms : Cnt} (hu : cUniq ms) (t : Rs) (n : Int) (x : Rs) : cAt (cSet ms t n) x = if x = t then n else cAt ms x := by
 have hs := set_uniq hu t n
 by_cases h : x = t
 ·subst h
  rw [if_pos rfl]
  exact uniq_at hs (i := cIdx ms x) (p := (x, n)) (by rw [set_get, if_pos rfl])
 ·rw [if_neg h]
  by_cases h2 : cIdx ms x < ms.length
  ·have h3 : (cSet ms t n)[cIdx ms x]? = some ms[cIdx ms x] := by
    rw [set_get, if_neg, List.getElem?_eq_getElem h2]
    intro e
    have e1 := idx_at h2
    have h4 : cIdx ms t < ms.length := by omega
    have e2 := idx_at h4
    simp only [e] at e1
    exact h (e1.symm.trans e2)
   have := uniq_at hs h3
   rw [idx_at h2] at this
   rw [this, at_idx h2]
  ·have e : cIdx ms x = ms.length := Nat.le_antisymm (idx_le _ _) (Nat.le_of_not_lt h2)
   rw [at_none (idx_none.2 e)]
   refine at_none fun p hp => ?_
   obtain ⟨i, hi, rfl⟩ := List.getElem_of_mem hp
   have h3 : (cSet ms t n)[i]? = some (cSet ms t n)[i] := List.getElem?_eq_getElem hi
   rw [set_get] at h3
   split at h3
   ·injection h3 with h3; rw [← h3]; exact fun e => h e.symm
   ·exact idx_none.2 e _ (List.mem_of_getElem? h3)
theorem uniq_nil : cUniq [] := fun i j p q h _ _ => by simp at h
def Rs.right (r : Rs) : Prop := (-9223372036854775808 ≤ r.lo ∧ r.lo ≤ 9223372036854775807) ∧ (-9223372036854775808 ≤ r.hi ∧ r.hi ≤ 9223372036854775807) ∧ r.key.size ≤ 9223372036854775807 ∧ (-9223372036854775808 ≤ r.n ∧ r.n ≤ 9223372036854775807) ∧ (-9223372036854775808 ≤ r.val ∧ r.val ≤ 9223372036854775807)
def keyR (r : Rs) : Value := .agg #[.int .i64 r.lo, .int .i64 r.hi, .string r.key, .int .i64 r.n, .int .i64 r.val]
def cEnt (p : Rs × Int) : Value × Value := (keyR p.1, .int .i64 p.2)
theorem keyR_inj {x y : Rs} (h : keyR y = keyR x) : y = x := by
 unfold keyR at h
 injection h with h
 simp at h
 obtain ⟨a, b, c, d, e⟩ := x
 obtain ⟨a', b', c', d', e'⟩ := y
 simp only at h
 obtain ⟨rfl, rfl, rfl, rfl, rfl⟩ := h
 rfl
theorem res_law : WideMaps.KeyLaw Tryz.prog 61 := Go.deep_law (m := 4) (by omega) (by kernel_rfl) (by kernel_rfl) (by kernel_rfl)
theorem res_key {x : Rs} (hs : x.right) : ∃ l, keyOf Tryz.prog 61 (keyR x) = some l := by
 obtain ⟨⟨h1, h2⟩, ⟨h3, h4⟩, h5, ⟨h6, h7⟩, h8, h9⟩ := hs
 have hk : Tryz.prog.keyType 61 = true := by kernel_rfl
 have hb : Nat.ble 6 Tryz.prog.types.size = true := by kernel_rfl
 obtain ⟨n, hn⟩ : ∃ n, Tryz.prog.types.size + 1 = n + 7 := ⟨Tryz.prog.types.size - 6, by have := Nat.le_of_ble_eq_true hb; omega⟩
 have c1 : Tryz.prog.cellsOf 61 = 5 := by kernel_rfl
 have c2 : Tryz.prog.cellsOf 59 = 2 := by kernel_rfl
 have c3 : Tryz.prog.cellsOf 2 = 1 := by kernel_rfl
 have c4 : Tryz.prog.cellsOf 9 = 1 := by kernel_rfl
 have hmin : IntKind.i64.min = -9223372036854775808 := rfl
 unfold keyOf keyR
 rw [Tryz.underlying61]
 simp only [hk, Bool.true_and, Value.formed, Tryz.underlying61, c1]
 rw [hn]
 simp [Program.keyLits, Tryz.underlying61, Tryz.underlying59, Tryz.underlying2, Tryz.underlying9, c1, c2, c3, c4, Value.cells, Lit.wf, maxLen, h5, hmin, h1, h2, h3, h4, h6, h7, h8, h9]
 rw [if_pos (by decide)]
 exact ⟨_, rfl⟩
theorem cl1 {ms : Cnt} {x : Rs} (h : ∀ p ∈ ms.map cEnt, p.1 ≠ keyR x) : ∀ p ∈ ms, p.1 ≠ x := by
 intro p hp e
 exact h (cEnt p) (List.mem_map.2 ⟨p, hp, rfl⟩) (by rw [← e]; rfl)
theorem cl2 {ms : Cnt} (hu : cUniq ms) {x : Rs} {j : Nat} {p : Value × Value} (h : (ms.map cEnt)[j]? = some p) (h2 : p.1 = keyR x) : ms[j]? = some (x, cAt ms x) ∧ p.2 = .int .i64 (cAt ms x) ∧ cIdx ms x = j := by
 rw [List.getElem?_map] at h
 obtain ⟨q, hq, rfl⟩ := Option.map_eq_some_iff.1 h
 have e := keyR_inj h2
 have e2 := uniq_at hu hq
 have e3 := uniq_idx hu hq
 rw [e] at e2 e3
 obtain ⟨a, b⟩ := q
 dsimp only at e e2
 subst e
 rw [e2]
 exact ⟨hq, rfl, e3⟩
theorem c_look (ms : Cnt) (hu : cUniq ms) (x : Rs) : ((∀ p ∈ ms.map cEnt, p.1 ≠ keyR x) → Value.int .i64 (cAt ms x) = .int .i64 0 ∧ decide (cIdx ms x < ms.length) = false) ∧ ∀ (j : Nat) (p : Value × Value), (ms.map cEnt)[j]? = some p → p.1 = keyR x → Value.int .i64 (cAt ms x) = p.2 ∧ decide (cIdx ms x < ms.length) = true := by
 refine ⟨fun h => ?_, fun j p h h2 => ?_⟩
 ·have h3 := cl1 h
  rw [at_none h3, idx_none.1 h3]
  exact ⟨rfl, by simp⟩
 ·obtain ⟨h3, h4, h5⟩ := cl2 hu h h2
  refine ⟨h4.symm, ?_⟩
  rw [h5]
  simpa using (List.getElem?_eq_some_iff.1 h3).1
theorem c_make (ms : Cnt) (hu : cUniq ms) (x : Rs) : ((∀ p ∈ ms.map cEnt, p.1 ≠ keyR x) → Value.int .i64 (cAt ms x) = .int .i64 0 ∧ cIdx ms x = (ms.map cEnt).length ∧ (cMake ms x).map cEnt = ms.map cEnt ++ [(keyR x, .int .i64 0)]) ∧ ∀ (j : Nat) (p : Value × Value), (ms.map cEnt)[j]? = some p → p.1 = keyR x → Value.int .i64 (cAt ms x) = p.2 ∧ cIdx ms x = j ∧ (cMake ms x).map cEnt = ms.map cEnt := by
 refine ⟨fun h => ?_, fun j p h h2 => ?_⟩
 ·have h3 := cl1 h
  have h4 := idx_none.1 h3
  refine ⟨by rw [at_none h3], by rw [h4, List.length_map], ?_⟩
  unfold cMake
  rw [if_neg (by omega), List.map_append]
  rfl
 ·obtain ⟨h3, h4, h5⟩ := cl2 hu h h2
  refine ⟨h4.symm, h5, ?_⟩
  unfold cMake
  rw [if_pos (by rw [h5]; exact (List.getElem?_eq_some_iff.1 h3).1)]
theorem c_there (ms : Cnt) (x : Rs) : ((cMake ms x).map cEnt)[cIdx ms x]? = some (keyR x, .int .i64 (cAt ms x)) := by
 rw [List.getElem?_map, make_at]; rfl
theorem c_set (ms : Cnt) (x : Rs) (n : Int) : ((cMake ms x).map cEnt).set (cIdx ms x) (keyR x, .int .i64 n) = (cSet ms x n).map cEnt := by
 unfold cSet; rw [List.map_set]; rfl
theorem c_right {ms : Cnt} {x : Rs} {n : Int} (h : ∀ p ∈ ms, p.1.right) (hx : x.right) : ∀ p ∈ cSet ms x n, p.1.right := by
 intro p hp
 unfold cSet at hp
 rcases List.mem_or_eq_of_mem_set hp with h1 | h1
 ·unfold cMake at h1
  split at h1
  ·exact h p h1
  ·rcases List.mem_append.1 h1 with h2 | h2
   ·exact h p h2
   ·rw [List.mem_singleton] at h2; subst h2; exact hx
 ·subst h1; exact hx
theorem make_set (ms : Cnt) (x : Rs) : cMake ms x = cSet ms x (cAt ms x) := by
 unfold cSet
 have h := make_at ms x
 apply List.ext_getElem?
 intro i
 rw [List.getElem?_set]
 split
 ·rename_i e
  subst e
  rw [h, if_pos (List.getElem?_eq_some_iff.1 h).1]
 ·rfl
structure CntF (ms : Cnt) (f : Rs → Int) : Prop where
 uniq : cUniq ms
 at' : ∀ t, cAt ms t = f t
 hr : ∀ p ∈ ms, p.1.right
theorem cntF_nil : CntF [] fun _ => 0 := ⟨uniq_nil, fun t => by simp [cAt], by simp⟩
theorem CntF.set {ms : Cnt} {f : Rs → Int} (h : CntF ms f) {x : Rs} (hx : x.right) (n : Int) : CntF (cSet ms x n) fun t => if t = x then n else f t := by
 refine ⟨set_uniq h.uniq _ _, fun t => ?_, c_right h.hr hx⟩
 rw [set_at h.uniq]
 split
 ·rfl
 ·exact h.at' t
theorem kr_conv (x : Rs) : conv (.agg x.av) = some (keyR x) := rfl
theorem z_int (w : World) : (zeroValue 3).run Tryz.prog w = .ok (.int .i64 0) w := by go_simp
structure CF (ms : Cnt) (x : Rs) : Prop where
 kl : ∃ kl, keyOf Tryz.prog 61 (keyR x) = some kl
 hks : ∀ p ∈ ms.map cEnt, ∃ lt, keyOf Tryz.prog 61 p.1 = some lt
 hks' : ∀ p ∈ (cMake ms x).map cEnt, ∃ lt, keyOf Tryz.prog 61 p.1 = some lt
 hu : cUniq ms
 hu' : cUniq (cMake ms x)
 ha : cAt (cMake ms x) x = cAt ms x
theorem keys_of {ms : Cnt} (h : ∀ p ∈ ms, p.1.right) : ∀ p ∈ ms.map cEnt, ∃ lt, keyOf Tryz.prog 61 p.1 = some lt := by
 intro p hp
 obtain ⟨q, hq, rfl⟩ := List.mem_map.1 hp
 exact res_key (h q hq)
theorem CF.of {ms : Cnt} {f : Rs → Int} {x : Rs} (hc : CntF ms f) (hx : x.right) : CF ms x := by
 have hm := make_set ms x
 have hu' : cUniq (cMake ms x) := by rw [hm]; exact set_uniq hc.uniq _ _
 refine ⟨res_key hx, keys_of hc.hr, ?_, hc.uniq, hu', ?_⟩
 ·rw [hm]; exact keys_of (c_right hc.hr hx)
 ·rw [hm, set_at hc.uniq, if_pos rfl]
section
variable {Γ : Ctx} {s : ASt} {dst : Option Tmp} {ty yt : TypeId} {pos : String} {after : Array Edge} {m x y st : Operand} {id : Nat}
theorem ls_cl {ms : Cnt} {t : Rs} (h : CF ms t) (hm : ev s m = some (.mp id)) (hx : ev s x = some (.agg t.av)) (hσ : find s.σ id = some (.mp (.m (ms.map cEnt)))) (hd : okDst Γ.n dst = true) :
  LS Tryz.prog Γ ⟨dst, .lookup 111 m x false, ty, pos, after, none⟩ s (rd m (rd x [.obj id])) (dst1 dst (.v (.int .i64 (cAt ms t)))) [] := by
 obtain ⟨kl, hkl⟩ := h.kl
 obtain ⟨k1, k2⟩ := c_look ms h.hu t
 exact ls_lookup (key := keyR t) (r := .int .i64 (cAt ms t)) (z := .int .i64 0) (b := decide (cIdx ms t < ms.length)) res_law false hm hx hσ Tryz.underlying111 (kr_conv t) z_int rfl hkl h.hks k1 k2 hd
theorem ls_cl' {ms : Cnt} {t : Rs} (h : CF ms t) (hm : ev s m = some (.mp id)) (hx : ev s x = some (.agg t.av)) (hσ : find s.σ id = some (.mp (.m ((cMake ms t).map cEnt)))) (hd : okDst Γ.n dst = true) :
  LS Tryz.prog Γ ⟨dst, .lookup 111 m x false, ty, pos, after, none⟩ s (rd m (rd x [.obj id])) (dst1 dst (.v (.int .i64 (cAt ms t)))) [] := by
 obtain ⟨kl, hkl⟩ := h.kl
 obtain ⟨k1, k2⟩ := c_look (cMake ms t) h.hu' t
 rw [h.ha] at k1 k2
 exact ls_lookup (key := keyR t) (r := .int .i64 (cAt ms t)) (z := .int .i64 0) (b := decide (cIdx (cMake ms t) t < (cMake ms t).length)) res_law false hm hx hσ Tryz.underlying111 (kr_conv t) z_int rfl hkl h.hks' k1 k2 hd
theorem ls_cm {ms : Cnt} {t : Rs} (h : CF ms t) (hm : ev s m = some (.mp id)) (hx : ev s x = some (.agg t.av)) (hσ : find s.σ id = some (.mp (.m (ms.map cEnt)))) (hd : okDst Γ.n dst = true) :
  LS Tryz.prog Γ ⟨dst, .mapEntry 111 m x, ty, pos, after, none⟩ s (rd m (rd x [.obj id])) (dst1 dst (.tup [.v (.int .i64 (cAt ms t)), .v (.int .i64 (cIdx ms t))])) [(id, .mp (.m ((cMake ms t).map cEnt)))] := by
 obtain ⟨kl, hkl⟩ := h.kl
 obtain ⟨k3, k4⟩ := c_make ms h.hu t
 exact ls_mapEntry (key := keyR t) (r := .int .i64 (cAt ms t)) (z := .int .i64 0) (i := cIdx ms t) (es' := (cMake ms t).map cEnt) res_law hm hx hσ Tryz.underlying111 (kr_conv t) z_int rfl hkl h.hks k3 k4 hd
theorem ls_ce {ms : Cnt} {t : Rs} {n : Int} (hm : ev s m = some (.mp id)) (hst : ev s st = some (.v (.int .i64 (cIdx ms t)))) (hy : ev s y = some (.v (.int .i64 n))) (hσ : find s.σ id = some (.mp (.m ((cMake ms t).map cEnt)))) (hdst : dst = none) :
  LS Tryz.prog Γ ⟨dst, .entryStore 111 m st y, ty, pos, after, none⟩ s (rd m (rd st (rd y [.obj id]))) [] [(id, .mp (.m ((cSet ms t n).map cEnt)))] := by
 have h := ls_entryStore (P := Tryz.prog) (Γ := Γ) (s := s) (dst := dst) (ty := ty) (pos := pos) (after := after) (t := 111) (k0 := keyR t) hm hst hy hσ rfl (c_there ms t) hdst
 rw [c_set] at h
 exact h
end

structure AI (p : Pn) : Prop where
 n : I64 p.n
 a : I64 p.a
 b : I64 p.b
section
variable {j : Jb} {nos : List Int} {k : Int} {p x : Pn} {l : List Pn} {V : List Vl}
theorem join_AI (hp : AI p) (hx : AI x) : AI (joinP k p x) := by
 have key : I64 (fJoin k ⟨p.n, p.a, p.b⟩ ⟨x.n, x.a, x.b⟩).n ∧ I64 (fJoin k ⟨p.n, p.a, p.b⟩ ⟨x.n, x.a, x.b⟩).a ∧ I64 (fJoin k ⟨p.n, p.a, p.b⟩ ⟨x.n, x.a, x.b⟩).b := by
  have z : I64 0 := by unfold I64; omega
  have h1 := hp.a
  have h2 := hp.b
  have h3 := hx.a
  have h4 := hx.b
  unfold fJoin
  split
  ·exact ⟨z, z, z⟩
  split
  ·exact ⟨hx.n, hx.a, hx.b⟩
  split
  ·exact ⟨hp.n, hp.a, hp.b⟩
  refine ⟨wrap64_i64 _, ?_, ?_⟩
  ·dsimp only
   unfold joinA
   unfold I64 at h1 h2 h3 h4
   repeat' split
   all_goals first | exact wrap64_i64 _ | (unfold I64; omega)
  ·dsimp only
   unfold joinB
   unfold I64 at h1 h2 h3 h4
   repeat' split
   all_goals (unfold I64; omega)
 exact ⟨key.1, key.2.1, key.2.2⟩
theorem ins_AI (hx : AI x) : ∀ {l : List Pn}, (∀ p ∈ l, AI p) → ∀ p ∈ insP k l x, AI p
 | [], _ => by
  intro p hp
  rw [show insP k [] x = [x] from rfl, List.mem_singleton] at hp
  rw [hp]; exact hx
 | q :: l, h => by
  have ih := ins_AI hx (l := l) fun p hp => h p (by simp [hp])
  have hq := h q (by simp)
  intro p hp
  rcases rel3 q x with h3 | h3 | h3
  ·rw [ins_a h3] at hp
   rcases List.mem_cons.1 hp with rfl | hp
   ·exact hq
   ·exact ih p hp
  ·rw [ins_s h3] at hp
   rcases List.mem_cons.1 hp with rfl | hp
   ·exact join_AI hq hx
   ·exact h p (by simp [hp])
  ·rw [ins_b h3] at hp
   rcases List.mem_cons.1 hp with rfl | hp
   ·exact hx
   ·exact h p hp
theorem row_AI (h : ∀ v ∈ V, I64 v.v) : ∀ p ∈ rowV k V, AI p := by
 refine snoc_ind (p := fun V => (∀ v ∈ V, I64 v.v) → ∀ p ∈ rowV k V, AI p) (fun _ p hp => by simp [rowV, insAll] at hp) (fun V v ih hV => ?_) V h
 rw [rowV_snoc]
 refine ins_AI ?_ (ih fun x hx => hV x (by simp [hx]))
 have hv := hV v (by simp)
 have z : I64 0 := by unfold I64; omega
 have o : I64 1 := by unfold I64; omega
 have e : vP k v = ⟨v.lo, v.hi, v.key, (fOne k v.v).n, (fOne k v.v).a, (fOne k v.v).b⟩ := rfl
 rw [e]
 refine ⟨?_, ?_, ?_⟩ <;> dsimp only <;> unfold fOne <;> (repeat' split) <;> first | exact z | exact o | exact hv
theorem res_right {l : List Pn} (hr : rightL l = true) (hA : ∀ p ∈ l, AI p) : ∀ r ∈ resultsL k l, r.right := by
 intro r hm
 unfold resultsL at hm
 split at hm
 ·obtain ⟨p, hp, rfl⟩ := List.mem_map.1 hm
  have h1 := (rightL_ok hr).2.1 p hp
  have h2 := hA p hp
  unfold mayB keyB at h1
  simp only [Bool.and_eq_true, decide_eq_true_eq] at h1
  have hn := h2.n
  have ha := h2.a
  unfold I64 at hn ha
  have hv : I64 (fVal k ⟨p.n, p.a, p.b⟩) := by
   unfold fVal
   dsimp only
   repeat' split
   all_goals first | exact wrap64_i64 _ | (unfold I64; omega)
  unfold I64 at hv
  exact ⟨⟨by show _ ≤ p.lo; omega, by show p.lo ≤ _; omega⟩, ⟨by show _ ≤ p.hi; omega, by show p.hi ≤ _; omega⟩, by show p.key.size ≤ _; omega, hn, hv⟩
 ·cases hm
theorem kept_64 {li fu de : Int} : ∀ {es : List Et} {m : Int}, (∀ e ∈ es, ev64 e) → ∀ e ∈ keptE li fu de m es, ev64 e
 | [], _, _, e, he => by simp [keptE] at he
 | x :: es, m, h, e, he => by
  rw [keptE] at he
  rcases List.mem_append.1 he with h1 | h1
  ·split at h1
   ·simp at h1
   ·rw [List.mem_singleton.1 h1]
    exact goV_rng _ _ _ _ (h x (by simp))
  ·exact kept_64 (fun y hy => h y (by simp [hy])) e h1
theorem vals_64 {s d li fu de : Int} {F : List (List Et)} (h : ∀ es ∈ F, ∀ e ∈ es, ev64 e) : ∀ v ∈ allVals s d (allK li fu de F), I64 v.v := by
 intro v hv
 obtain ⟨e, he, hv⟩ := List.mem_flatMap.1 hv
 obtain ⟨es, hes, he⟩ := List.mem_flatMap.1 he
 obtain ⟨w, _, rfl⟩ := List.mem_map.1 hv
 exact kept_64 (h es hes) e he
theorem out_all {li fu de : Int} {F : List (List Et)} {T : List Et} (hT : TG j nos T) (hTe : T = allK li fu de F) (hk : fRight j.k = true) {out : List Rs} (h : out.Perm (outD j nos (allVals j.s j.d T) 1099511627776)) (h64 : ∀ es ∈ F, ∀ e ∈ es, ev64 e) :
  out.Perm (resultsL j.k (rowV j.k (allVals j.s j.d T))) ∧ (∀ r ∈ resultsL j.k (rowV j.k (allVals j.s j.d T)), r.right) ∧ (resultsL j.k (rowV j.k (allVals j.s j.d T))).length ≤ 2000 := by
 have hV : VG j.k (allVals j.s j.d T) := hT.vg (R := []) (by rw [List.append_nil])
 refine ⟨h.trans (outD_all hV hk hT.jg.lt fun v hv => ?_), res_right hV.right (row_AI (by rw [hTe]; exact vals_64 h64)), resL_len _ _⟩
 obtain ⟨e, he, hv⟩ := List.mem_flatMap.1 hv
 rw [vals_key v hv]
 exact hT.all e he
end
theorem zeroI_get {n q : Nat} (h : q < (zeroI n).length) : (zeroI n)[q] = (q : Int) := by
 have h2 : q < ((List.range n).map fun (q : Nat) => (q : Int)).length := h
 show ((List.range n).map fun (q : Nat) => (q : Int))[q]'h2 = _
 rw [List.getElem_map, List.getElem_range]
theorem zeroI_len (n : Nat) : (zeroI n).length = n := by simp [zeroI]
theorem zeroI_mem {n : Nat} {no : Int} : no ∈ zeroI n ↔ 0 ≤ no ∧ no < n := by
 unfold zeroI
 simp only [List.mem_map, List.mem_range]
 constructor
 ·rintro ⟨q, hq, rfl⟩; omega
 ·rintro ⟨h1, h2⟩; exact ⟨no.toNat, by omega, by omega⟩
theorem zeroI_jg {j : Jb} {G : Nat} (hj : jobOK j.g j.s j.d j.k j.fu j.li j.de j.id = true) (hg : j.g = (G : Int)) (h32 : G ≤ 32) : JG j (zeroI G) := by
 refine ⟨hj, ?_, fun no hn => by have := zeroI_mem.1 hn; omega⟩
 rw [List.pairwise_iff_getElem]
 intro a b ha hb hab
 rw [zeroI_get ha, zeroI_get hb]; omega
theorem grp_in {G : Nat} {g : Int} (hg : g = (G : Int)) (h1 : 1 ≤ g) (l : List UInt8) : grpV l g ∈ zeroI G := by
 rw [zeroI_mem, grpV_high (by omega)]
 have h2 := Int.emod_nonneg (hashN l : Int) (show g ≠ 0 by omega)
 have h3 := Int.emod_lt_of_pos (hashN l : Int) (show 0 < g by omega)
 omega
theorem zGp_gp (j : Jb) (l : List Int) : l.map zGp = l.map (gpOf j [] 0) := List.map_congr_left fun no _ => rfl
theorem tg0 {j : Jb} {G : Nat} {F : List (List Et)} (hj : JG j (zeroI G)) (hg : j.g = (G : Int)) (hg1 : 1 ≤ j.g) (h4 : F.length ≤ 4) (hes : ∀ es ∈ F, es.length ≤ 200 ∧ ∀ e ∈ es, evR e.key e.at' = true) (hrow : (rowV j.k (allVals j.s j.d (allK j.li j.fu j.de F))).length ≤ 2000) : TG j (zeroI G) (allK j.li j.fu j.de F) := by
 have h := allK_len (li := j.li) (fu := j.fu) (de := j.de) (ls := F) fun es he => (hes es he).1
 exact ⟨hj, fun e _ => grp_in hg hg1 _, allK_ok fun es he => (hes es he).2, by omega, hrow⟩
theorem few4_small {ls : List (List Et)} (hx : Small ls) : Small (few4 ls) := by
 refine ⟨by unfold few4; simp; omega, fun es he => ?_⟩
 unfold few4 at he
 obtain ⟨x, hx2, rfl⟩ := List.mem_map.1 he
 rw [List.length_take]; omega
theorem few4_len {ls : List (List Et)} : (few4 ls).length ≤ 4 := by unfold few4; simp; omega
theorem few4_es {ls : List (List Et)} : ∀ es ∈ few4 ls, es.length ≤ 12 := by
 intro es he
 unfold few4 at he
 obtain ⟨x, hx2, rfl⟩ := List.mem_map.1 he
 rw [List.length_take]; omega
theorem few4_ev {ls : List (List Et)} (h : ∀ es ∈ ls, ∀ e ∈ es, -9223372036854775808 ≤ e.v ∧ e.v ≤ 9223372036854775807) : ∀ es ∈ few4 ls, ∀ e ∈ es, -9223372036854775808 ≤ e.v ∧ e.v ≤ 9223372036854775807 := by
 intro es he e hee
 unfold few4 at he
 obtain ⟨x, hx2, rfl⟩ := List.mem_map.1 he
 exact h x (List.mem_of_mem_take hx2) e (List.mem_of_mem_take hee)
theorem okIn_one {es : List Et} : okIn [es] = okEs es := by
 unfold okIn
 simp
theorem good_in {g s d k fu li de id : Int} {F : List (List Et)} (h4 : F.length ≤ 4) : (checkN g s d k fu li de id F = 0 ↔ F ≠ [] ∧ F.all (good ⟨g, s, d, k, fu, li, de, id⟩) = true) := by
 have e : ∀ es : List Et, good ⟨g, s, d, k, fu, li, de, id⟩ es = (jobOK g s d k fu li de id && okEs es) := fun es => by unfold good; rw [okIn_one]
 have ho : okIn F = true ↔ F ≠ [] ∧ F.all okEs = true := by
  unfold okIn
  simp only [Bool.and_eq_true, decide_eq_true_eq]
  cases F with
  | nil => simp
  | cons a F => simp only [List.length_cons] at h4 ⊢; simp; omega
 constructor
 ·intro h
  have hj : jobOK g s d k fu li de id = true := by
   cases hj : jobOK g s d k fu li de id
   ·unfold checkN at h; rw [if_pos hj] at h; exact absurd h (by decide)
   ·rfl
  have hin : okIn F = true := by
   cases hi : okIn F
   ·unfold checkN at h; rw [if_neg (by rw [hj]; simp), if_pos hi] at h; exact absurd h (by decide)
   ·rfl
  obtain ⟨h1, h2⟩ := ho.1 hin
  refine ⟨h1, ?_⟩
  rw [List.all_eq_true] at h2 ⊢
  intro es he
  rw [e, hj, h2 es he]; rfl
 ·rintro ⟨h1, h2⟩
  rw [List.all_eq_true] at h2
  have hj : jobOK g s d k fu li de id = true := by
   cases F with
   | nil => exact absurd rfl h1
   | cons a F =>
    have := h2 a (by simp)
    rw [e] at this
    simp only [Bool.and_eq_true] at this
    exact this.1
  have hin : okIn F = true := ho.2 ⟨h1, by
   rw [List.all_eq_true]
   intro es he
   have := h2 es he
   rw [e] at this
   simp only [Bool.and_eq_true] at this
   exact this.2⟩
  unfold checkN
  rw [if_neg (by rw [hj]; simp), if_neg (by rw [hin]; simp)]
end Go.Proofs.YtilgagmfcdfjaaaGreat
