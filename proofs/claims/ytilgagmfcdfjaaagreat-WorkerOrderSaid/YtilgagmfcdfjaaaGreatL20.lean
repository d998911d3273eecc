/-
  A worker played with rows of items, walked over abstract values.
  A worker of rows of items, played: what it tells in the end. Plain.
  Walks over abstract values: maps of one's own. Over whatever program. No condition.
  Walks over abstract values: a region that draws its order, every order walked. Over whatever program. No condition.
-/
import Derived.DeepKeys3
import Derived.StringKeys
import Derived.Test.YtilgagmfcdfjaaaGreatL3
import Derived.Test.YtilgagmfcdfjaaaGreatL4
import Derived.Test.YtilgagmfcdfjaaaGreatL18
import Derived.Test.YtilgagmfcdfjaaaGreatL19
namespace Go.Proofs.YtilgagmfcdfjaaaGreat
open Go.RowKit
set_option linter.unusedSimpArgs false
set_option linter.unusedVariables false
def naAv (p : Nat) : List AV := [.v (.int .i64 (p : Int))]
def toAv (t : Int) : List AV := [.v (.int .i64 t)]
def riAv (r : List It) : List AV := [.sl 11 (r.map It.av)]
theorem resT_cons (x : It) (l : List It) : resT (x :: l) = (if x.kind = 5 then [rsOf x] else []) ++ resT l := by
  unfold resT
  rw [List.filterMap_cons]
  split <;> split at * <;> simp_all
theorem tmod_in {a b : Int} (hb : 0 < b) : -b < a.tmod b ∧ a.tmod b < b := by
  have h1 := Int.tmod_lt_of_pos a hb
  have h2 : -b < a.tmod b := by
    have h3 := Int.tmod_lt_of_pos (-a) hb
    rw [Int.neg_tmod] at h3
    omega
  exact ⟨h2, h1⟩
theorem turn_val {ts : List Int} {i n : Nat} (hn : 0 < n) : ((if i < ts.length then ts.getD i 0 else (i : Int)).tmod (n : Int) + (n : Int)).tmod (n : Int) = ((turn ts i n : Nat) : Int) := by
  unfold turn
  generalize (if i < ts.length then ts.getD i 0 else (i : Int)) = a
  have h1 : -(n : Int) < a.tmod n := by
    have h3 := Int.tmod_lt_of_pos (-a) (show (0 : Int) < n by omega)
    rw [Int.neg_tmod] at h3
    omega
  have h4 := Int.tmod_nonneg (n : Int) (show 0 ≤ a.tmod n + n by omega)
  omega
theorem left_snoc : ∀ (A : List (List It)) (r : List It), leftN (A ++ [r]) (List.replicate (A.length + 1) 0) = leftN A (List.replicate A.length 0) + r.length
  | [], r => by simp [leftN, List.replicate]
  | a :: A, r => by
    have ih := left_snoc A r
    simp only [List.cons_append, List.length_cons, List.replicate_succ, leftN] at ih ⊢
    omega
theorem left_le : ∀ (A : List (List It)) (n : Nat), (∀ r ∈ A, r.length ≤ 1000) → leftN A (List.replicate n 0) ≤ 1000 * A.length
  | [], n, _ => by simp [leftN]
  | a :: A, 0, _ => by simp [leftN, List.replicate]
  | a :: A, n + 1, h => by
    have ih := left_le A n fun r hr => h r (by simp [hr])
    have := h a (by simp)
    simp only [List.length_cons, List.replicate_succ, leftN]
    omega
set_option maxRecDepth 20000 in
set_option maxHeartbeats 16000000 in
theorem o_play (fc : FuncId) (mine : It → Bool) (hclo : ∀ x : It, PC Tryz.prog fc [.agg x.av] (.v (.bool (mine x)))) (j : Jb) (hg : -9223372036854775808 ≤ j.g ∧ j.g ≤ 9223372036854775807) (f : Nat) (Z : List (List AV)) (ins : List (List It)) (ts : List Int) (w0' : Wk) (L0 : Nat) (I : Ps → Prop)
    (hI : PlayI j f ins ts mine L0 I) (hn1 : 1 ≤ ins.length) (hn8 : ins.length ≤ 8) (hts : ts.length ≤ 200) (hil : ∀ r ∈ ins, r.length ≤ 1000) (hL : L0 ≤ 8000)
    (hNew : PC Tryz.prog 10 [.agg j.av, .v (.int .i64 (ins.length : Int)), .sl 3 Z] (.tup [.agg w0'.av, .v (.int .i64 0)])) (hw0 : w0'.told = 0)
    (hs0 : I ⟨List.replicate ins.length 0, L0, 0, w0', []⟩) (R : Ps) (hR : playN j f ins ts mine (ts.length + ins.length + ins.length * L0 + 1) ⟨List.replicate ins.length 0, L0, 0, w0', []⟩ = R) :
    PC Tryz.prog 18 [.agg j.av, .sl 3 Z, .sl 1 (ins.map riAv), .sl 1 (ts.map toAv), .clo (.func fc) [] []] (.tup [.sl 5 (R.out.map Rs.av), .v (.bool (decide (R.w.told = 1099511627776)))]) := by
  have hIl : (ins.map riAv).length = ins.length := List.length_map _
  have hTl : (ts.map toAv).length = ts.length := List.length_map _
  have hRun := w_Run j hg f
  obtain ⟨g, s0, d, k, fu, li, de, id⟩ := j
  unfold Jb.av at hNew hRun ⊢
  dsimp only at hNew hRun ⊢
  have hL0 : L0 = leftN ins (List.replicate ins.length 0) := (hI.pot _ hs0).lf
  have hNb : ts.length + ins.length + ins.length * L0 + 1 ≤ 90000 := by
    have : ins.length * L0 ≤ 8 * 8000 := Nat.mul_le_mul hn8 hL
    omega
  generalize hN : ts.length + ins.length + ins.length * L0 + 1 = N at *
  unfold Wk.av at hNew
  refine PC.mk (ac_body tab_ok Tryz.func18 rfl (by kernel_rfl) rfl ?_); intro w0 M μ0; simp only [Tryz.ntmps18, List.length_cons, List.length_nil, Nat.reduceAdd, Nat.reduceSub, numb]
  rw [← hIl] at hNew
  have hFm : (ins.map riAv).length ≤ 1000000 := by omega
  repeat' (first | ((first | apply o_do | apply d_do | apply d_yes rfl rfl rfl); first | exact lsc (hNew) | exact ls_make (k := 2) tab_ok tab_zero rfl rfl rfl rfl rfl rfl rfl hFm rfl rfl rfl | exact lsq) | refine a_seq ?_ | refine a_region ?_ | refine o_nil ?_ | refine a_block ?_ | refine a_ret ?_ | refine a_exit ?_ | refine a_skip ?_ | refine a_draw mixed ?_ | refine d_nil (by kernel_rfl) ?_ | refine o_yes rfl rfl rfl ?_ | refine o_no rfl rfl rfl (by decide) ?_ | refine o_no' rfl rfl rfl ?_ | refine a_condT rfl ?_ | refine a_condF rfl ?_ | refine d_no rfl rfl rfl (by decide) ?_ | refine d_no' rfl rfl rfl ?_ | (refine wq2 (fun hb => ?_) (fun hb => ?_) <;> (simp only [hb]; try simp only [hbs, ne_eq] at hb; try (exfalso; first | omega | exact hb trivial))) | fail)
  refine a_loop (X := {q : Nat // q ≤ ins.length}) (fun x => ⟨[(2, .sl 1 (ins.map riAv)), (3, .sl 1 (ts.map toAv)), (4, .clo (.func fc) [] []), (5, .ref 0 0), (12, .ref 1 0), (14, .own 2 ((List.replicate ins.length 0).map naAv).length), (15, .v (.int .i64 ((leftN (ins.take x.1) (List.replicate x.1 0) : Nat) : Int))), (43, .sl 1 (ins.map riAv)), (44, .v (.int .i64 ins.length)), (45, .v (.int .i64 x.1))], [(0, .box 23 [.v (.int .i64 g), .v (.int .i64 s0), .v (.int .i64 d), .v (.int .i64 k), .v (.int .i64 fu), .v (.int .i64 li), .v (.int .i64 de), .v (.int .i64 id)]), (1, .box 42 w0'.av), (2, .row 3 1 ((List.replicate ins.length 0).map naAv))]⟩) (fun x => ins.length - x.1) ⟨0, Nat.zero_le _⟩ ?_ ?_
  · have e1 : (List.replicate ins.length 0).map naAv = List.replicate (ins.map riAv).length [AV.v (.int .i64 0)] := by rw [List.map_replicate, hIl]; rfl
    rw [e1]
    unfold Wk.av
    refine ⟨by repeat' (first | exact trivial | exact FinA.one (FinB.cell (FinC.same rfl)) | exact FinA.one (FinB.cell FinC.nil) | exact FinA.bound rfl | exact FinA.one (FinB.cell (FinC.own rfl rfl rfl rfl)) | exact FinA.one (FinB.cell (FinC.v (by first | rfl | (simp [leftN])))) | exact FinA.one (FinB.cell (FinC.ow rfl (by first | rfl | (simp [leftN])))) | exact FinA.one (FinB.agg' rfl rfl) | refine ⟨⟨_, rfl, ?_⟩, ?_⟩), by repeat' (first | exact trivial | refine ⟨⟨_, rfl, by first | rfl | (simp [leftN]; done) | (simp [renO, *]; done)⟩, by first | rfl | assumption, ?_⟩), rfl⟩
  · rintro ⟨q, hq⟩
    dsimp only
    by_cases hlt : q < ins.length
    · have hel : (ins.map riAv)[q]? = some (riAv ins[q]) := by simp [hlt]
      have hrl := hil _ (List.getElem_mem hlt)
      have hlf : leftN (ins.take (q + 1)) (List.replicate (q + 1) 0) = leftN (ins.take q) (List.replicate q 0) + ins[q].length := by
        rw [take_snoc ins q hlt]
        have hl : (ins.take q).length = q := by rw [List.length_take]; omega
        have h1 := left_snoc (ins.take q) ins[q]
        rw [hl] at h1
        exact h1
      have hlb : leftN (ins.take q) (List.replicate q 0) ≤ 8000 := by
        have h1 := left_le (ins.take q) q fun r hr => hil r (List.mem_of_mem_take hr)
        have h2 := List.length_take (i := q) (l := ins)
        omega
      generalize leftN (ins.take q) (List.replicate q 0) = lq at *
      generalize ins[q] = r at *
      have hrl2 : (r.map It.av).length = r.length := List.length_map _
      repeat' (first | ((first | apply o_do | apply d_do | apply d_yes rfl rfl rfl); first | exact ls_indexAddr_sl tab_ok rfl rfl rfl rfl hel rfl | exact lsq) | refine a_seq ?_ | refine a_region ?_ | refine o_nil ?_ | refine a_block ?_ | refine a_ret ?_ | refine a_exit ?_ | refine a_skip ?_ | refine a_draw mixed ?_ | refine d_nil (by kernel_rfl) ?_ | refine o_yes rfl rfl rfl ?_ | refine o_no rfl rfl rfl (by decide) ?_ | refine o_no' rfl rfl rfl ?_ | refine a_condT rfl ?_ | refine a_condF rfl ?_ | refine d_no rfl rfl rfl (by decide) ?_ | refine d_no' rfl rfl rfl ?_ | (refine wq2 (fun hb => ?_) (fun hb => ?_) <;> (simp only [hb]; try simp only [hbs, ne_eq] at hb; try (exfalso; first | omega | exact hb trivial))) | fail)
      refine ⟨⟨q + 1, by omega⟩, by dsimp only; omega, ?_⟩
      refine ⟨by repeat' (first | exact trivial | exact FinA.one (FinB.cell (FinC.same rfl)) | exact FinA.one (FinB.cell FinC.nil) | exact FinA.bound rfl | exact FinA.one (FinB.cell (FinC.own rfl rfl rfl rfl)) | exact FinA.one (FinB.cell (FinC.v (by first | rfl | ((first | (simp only [hlf]; done) | (simp [hlf]; done) | simp))))) | exact FinA.one (FinB.cell (FinC.ow rfl (by first | rfl | ((first | (simp only [hlf]; done) | (simp [hlf]; done) | simp))))) | exact FinA.one (FinB.agg' rfl rfl) | refine ⟨⟨_, rfl, ?_⟩, ?_⟩), by repeat' (first | exact trivial | refine ⟨⟨_, rfl, by first | rfl | ((first | (simp only [hlf]; done) | (simp [hlf]; done) | simp); done) | (simp [renO, *]; done)⟩, by first | rfl | assumption, ?_⟩), rfl⟩
    · obtain rfl : q = ins.length := by omega
      rw [List.take_length, ← hL0]
      repeat' (first | ((first | apply o_do | apply d_do | apply d_yes rfl rfl rfl); exact lsq) | refine a_seq ?_ | refine a_region ?_ | refine o_nil ?_ | refine a_block ?_ | refine a_ret ?_ | refine a_exit ?_ | refine a_skip ?_ | refine a_draw mixed ?_ | refine d_nil (by kernel_rfl) ?_ | refine o_yes rfl rfl rfl ?_ | refine o_no rfl rfl rfl (by decide) ?_ | refine o_no' rfl rfl rfl ?_ | refine a_condT rfl ?_ | refine a_condF rfl ?_ | refine d_no rfl rfl rfl (by decide) ?_ | refine d_no' rfl rfl rfl ?_ | (refine wq2 (fun hb => ?_) (fun hb => ?_) <;> (simp only [hb]; try simp only [hbs, ne_eq] at hb; try (exfalso; first | omega | exact hb trivial))) | fail)
      refine a_adopt 18 3 61 5 rfl rfl ?_
      refine a_loop (X := {s : Ps // I s ∧ playN ⟨g, s0, d, k, fu, li, de, id⟩ f ins ts mine (N - s.i) s = R})
        (fun s => ⟨[(2, .sl 1 (ins.map riAv)), (3, .sl 1 (ts.map toAv)), (4, .clo (.func fc) [] []), (5, .ref 0 0), (12, .ref 1 0), (14, .own 2 (s.1.at'.map naAv).length), (15, .v (.int .i64 (s.1.lf : Int))), (18, .own 3 (s.1.out.map Rs.av).length), (19, .v (.int .i64 s.1.w.told)), (20, .v (.int .i64 (s.1.i : Int)))], [(0, .box 23 [.v (.int .i64 g), .v (.int .i64 s0), .v (.int .i64 d), .v (.int .i64 k), .v (.int .i64 fu), .v (.int .i64 li), .v (.int .i64 de), .v (.int .i64 id)]), (1, .box 42 s.1.w.av), (2, .row 3 1 (s.1.at'.map naAv)), (3, .row 61 5 (s.1.out.map Rs.av))]⟩) (fun s => N - s.1.i) ⟨⟨List.replicate ins.length 0, L0, 0, w0', []⟩, hs0, hR⟩ ?_ ?_
      · dsimp only
        rw [hw0]
        exact wkS
      clear hs0 hR hL0 hNew
      rintro ⟨s, hIs, hP⟩
      dsimp only
      have hpot := hI.pot s hIs
      have hle := hpot.le_i
      have hout := hI.out s hIs
      have hoL : (s.out.map Rs.av).length = s.out.length := List.length_map _
      have haL : (s.at'.map naAv).length = s.at'.length := List.length_map _
      have hal := hpot.al
      by_cases h0 : s.lf = 0
      · have hsR : s = R := by
          rw [← hP, show N - s.i = (N - s.i - 1) + 1 by omega]
          unfold playN
          rw [if_pos h0]
        subst hsR
        unfold Wk.av
        repeat' (first | ((first | apply o_do | apply d_do | apply d_yes rfl rfl rfl); exact lsq) | refine a_seq ?_ | refine a_region ?_ | refine o_nil ?_ | refine a_block ?_ | refine a_ret ?_ | refine a_exit ?_ | refine a_skip ?_ | refine a_draw mixed ?_ | refine d_nil (by kernel_rfl) ?_ | refine o_yes rfl rfl rfl ?_ | refine o_no rfl rfl rfl (by decide) ?_ | refine o_no' rfl rfl rfl ?_ | refine a_condT rfl ?_ | refine a_condF rfl ?_ | refine d_no rfl rfl rfl (by decide) ?_ | refine d_no' rfl rfl rfl ?_ | (refine wq2 (fun hb => ?_) (fun hb => ?_) <;> (simp only [hb]; try simp only [hbs, ne_eq] at hb; try (exfalso; first | omega | exact hb trivial))) | fail)
        all_goals refine rq rfl ?_
        all_goals exact fnq
      · have hst := hpot.step (j := ⟨g, s0, d, k, fu, li, de, id⟩) (f := f) (mine := mine) (by omega) h0
        have hI' := hI.step s hIs h0
        have hP' : playN ⟨g, s0, d, k, fu, li, de, id⟩ f ins ts mine (N - (pstep ⟨g, s0, d, k, fu, li, de, id⟩ f ins ts mine s).i) (pstep ⟨g, s0, d, k, fu, li, de, id⟩ f ins ts mine s) = R := by
          have e : N - s.i = (N - (s.i + 1)) + 1 := by
            have := hst.1.le_i
            rw [hst.2] at this
            omega
          rw [hst.2]
          rw [e] at hP
          unfold playN at hP
          rw [if_neg h0] at hP
          exact hP
        have hout' := hI.out _ hI'
        have hk := turn_lt (ts := ts) (i := s.i) (n := ins.length) (by omega)
        have hkv := turn_val (ts := ts) (i := s.i) (n := ins.length) (by omega)
        obtain ⟨r, hr⟩ : ∃ r, ins[turn ts s.i ins.length]? = some r := ⟨_, List.getElem?_eq_getElem hk⟩
        obtain ⟨p, hp⟩ : ∃ p, s.at'[turn ts s.i ins.length]? = some p := ⟨_, List.getElem?_eq_getElem (by rw [hal]; exact hk)⟩
        have er : ins.getD (turn ts s.i ins.length) [] = r := by simp [List.getD, hr]
        have ep : s.at'.getD (turn ts s.i ins.length) 0 = p := by simp [List.getD, hp]
        have hone := hI.one s (turn ts s.i ins.length) r p
        unfold pstep at hI' hP' hout'
        dsimp only at hI' hP' hout'
        rw [er, ep] at hI' hP' hout'
        generalize turn ts s.i ins.length = kk at *
        have hel2 : (ins.map riAv)[kk]? = some [.sl 11 (r.map It.av)] := by rw [List.getElem?_map, hr]; rfl
        have hela : (s.at'.map naAv)[kk]? = some (naAv p) := by rw [List.getElem?_map, hp]; rfl
        have hkx : kk < (s.at'.map naAv).length := by omega
        have hrl := hil r (List.mem_of_getElem? hr)
        have hrL : (r.map It.av).length = r.length := List.length_map _
        obtain ⟨a, ha⟩ : ∃ a : Int, (if s.i < ts.length then ts.getD s.i 0 else (s.i : Int)) = a ∧ ((s.i < ts.length ∧ (ts.map toAv)[s.i]? = some (toAv a)) ∨ (¬ s.i < ts.length ∧ a = (s.i : Int))) := by
          by_cases c : s.i < ts.length
          · exact ⟨ts[s.i], by rw [if_pos c]; simp [List.getD, c], .inl ⟨c, by simp [c]⟩⟩
          · exact ⟨s.i, by rw [if_neg c], .inr ⟨c, rfl⟩⟩
        obtain ⟨ha1, ha⟩ := ha
        rw [ha1, ← hIl] at hkv
        obtain ⟨r1, hr1⟩ : ∃ r, a.tmod ((ins.map riAv).length : Int) = r := ⟨_, rfl⟩
        rw [hr1] at hkv
        have b1 := tmod_in (a := a) (b := ((ins.map riAv).length : Int)) (by omega)
        rw [hr1] at b1
        cases hx : r[p]? with
        | none =>
          rw [hx] at hI' hP'
          dsimp only at hI' hP'
          have hpl := List.getElem?_eq_none_iff.1 hx
          rcases ha with ⟨c, hel⟩ | ⟨c, rfl⟩
          all_goals
            repeat' (first | ((first | apply o_do | apply d_do | apply d_yes rfl rfl rfl); first | exact ls_indexAddr_sl tab_ok rfl rfl rfl rfl hel rfl | exact ls_indexAddr_sl tab_ok rfl rfl rfl rfl hel2 rfl | exact ls_rem64 hr1 rfl rfl (by omega) (by omega) rfl | exact ls_rem64 hkv rfl rfl (by omega) (by omega) rfl | exact ls_indexAddr_own tab_ok rfl rfl rfl rfl rfl rfl hkx rfl | exact ls_load_eref tab_ok rfl rfl rfl hela rfl rfl rfl rfl | exact lsq) | refine a_seq ?_ | refine a_region ?_ | refine o_nil ?_ | refine a_block ?_ | refine a_ret ?_ | refine a_exit ?_ | refine a_skip ?_ | refine a_draw mixed ?_ | refine d_nil (by kernel_rfl) ?_ | refine o_yes rfl rfl rfl ?_ | refine o_no rfl rfl rfl (by decide) ?_ | refine o_no' rfl rfl rfl ?_ | refine a_condT rfl ?_ | refine a_condF rfl ?_ | refine d_no rfl rfl rfl (by decide) ?_ | refine d_no' rfl rfl rfl ?_ | (refine wq2 (fun hb => ?_) (fun hb => ?_) <;> (simp only [hb]; try simp only [hbs, ne_eq] at hb; try (exfalso; first | omega | exact hb trivial))) | fail)
            refine ⟨⟨_, hI', hP'⟩, by dsimp only; omega, ?_⟩
            dsimp only
            exact wkS
        | some x =>
          rw [hx] at hI' hP' hout'
          dsimp only at hI' hP' hout'
          have hpl : p < r.length := (List.getElem?_eq_some_iff.1 hx).1
          have helx : (r.map It.av)[p]? = some (It.av x) := by rw [List.getElem?_map, hx]; rfl
          have hset : (s.at'.map naAv).set kk [.v (.int .i64 ((p : Int) + 1))] = (s.at'.set kk (p + 1)).map naAv := by rw [List.map_set]; rfl
          have hsl : ((s.at'.set kk (p + 1)).map naAv).length = (s.at'.map naAv).length := by simp
          have hlf1 : ((s.lf - 1 : Nat) : Int) = (s.lf : Int) - 1 := by omega
          have hlfb : s.lf ≤ 8000 := by have := hpot.le; omega
          have hpu : ∀ y : Int, ∀ (σ : Store) (μ : Nat → Value) (w : World) (A : Nat → Prop) (z : Value), rep σ μ w A (.v (.int .i64 y)) z → rep [] μ w A (.v (.int .i64 y)) z := fun y _ _ _ _ _ h => rep_pureB h rfl
          have hcl := hclo x
          cases hm : mine x
          · rw [if_neg (by rw [hm]; simp)] at hI' hP'
            rw [hm] at hcl
            rcases ha with ⟨c, hel⟩ | ⟨c, rfl⟩
            all_goals
              repeat' (first | ((first | apply o_do | apply d_do | apply d_yes rfl rfl rfl); first | exact ls_indexAddr_sl tab_ok rfl rfl rfl rfl hel rfl | exact ls_indexAddr_sl tab_ok rfl rfl rfl rfl hel2 rfl | exact ls_indexAddr_sl tab_ok rfl rfl rfl rfl helx rfl | exact ls_rem64 hr1 rfl rfl (by omega) (by omega) rfl | exact ls_rem64 hkv rfl rfl (by omega) (by omega) rfl | exact ls_indexAddr_own tab_ok rfl rfl rfl rfl rfl rfl hkx rfl | exact ls_load_eref tab_ok rfl rfl rfl hela rfl rfl rfl rfl | exact ls_store_eref (cs' := [.v (.int .i64 ((p : Int) + 1))]) tab_ok rfl rfl rfl rfl hela rfl rfl (hpu _) rfl rfl rfl rfl | exact lsc (hcl) | exact lsq) | refine a_seq ?_ | refine a_region ?_ | refine o_nil ?_ | refine a_block ?_ | refine a_ret ?_ | refine a_exit ?_ | refine a_skip ?_ | refine a_draw mixed ?_ | refine d_nil (by kernel_rfl) ?_ | refine o_yes rfl rfl rfl ?_ | refine o_no rfl rfl rfl (by decide) ?_ | refine o_no' rfl rfl rfl ?_ | refine a_condT rfl ?_ | refine a_condF rfl ?_ | refine d_no rfl rfl rfl (by decide) ?_ | refine d_no' rfl rfl rfl ?_ | (refine wq2 (fun hb => ?_) (fun hb => ?_) <;> (simp only [hb]; try simp only [hbs, ne_eq] at hb; try (exfalso; first | omega | exact hb trivial))) | fail)
              refine ⟨⟨_, hI', hP'⟩, by dsimp only; omega, ?_⟩
              dsimp only
              rw [hlf1]
              refine ⟨by repeat' (first | exact trivial | exact FinA.one (FinB.cell (FinC.same rfl)) | exact FinA.one (FinB.cell FinC.nil) | exact FinA.bound rfl | exact FinA.one (FinB.cell (FinC.own rfl rfl rfl rfl)) | exact FinA.one (FinB.cell (FinC.v (by first | rfl | ((first | (simp only [hset]; done) | (rw [← hset]; simp) | simp))))) | exact FinA.one (FinB.cell (FinC.ow rfl (by first | rfl | ((first | (simp only [hset]; done) | (rw [← hset]; simp) | simp))))) | exact FinA.one (FinB.agg' rfl rfl) | refine ⟨⟨_, rfl, ?_⟩, ?_⟩), by repeat' (first | exact trivial | refine ⟨⟨_, rfl, by first | rfl | ((first | (simp only [hset]; done) | (rw [← hset]; simp) | simp); done) | (simp [renO, *]; done)⟩, by first | rfl | assumption, ?_⟩), rfl⟩
          · rw [if_pos hm] at hI' hP' hout'
            rw [hm] at hcl
            obtain ⟨⟨o1, o2, o3, o4⟩, w', T, hTe, hsc, hgm⟩ := hone x hIs hr hp hx hm
            have hTl := run_len ⟨g, s0, d, k, fu, li, de, id⟩ f s.w (kk : Int) x o1 o2 o4
            have hRC := hRun s.w (kk : Int) x o1 o2 o4 o3
            rw [hTe] at hI' hP' hout' hTl hRC
            unfold RnW.av at hRC
            dsimp only at hI' hP' hout' hTl hRC
            have hgl := hI.gs _ hI'
            dsimp only at hgl
            have hTL : (T.map It.av).length = T.length := List.length_map _
            rcases ha with ⟨c, hel⟩ | ⟨c, rfl⟩
            all_goals
              repeat' (first | ((first | apply o_do | apply d_do | apply d_yes rfl rfl rfl); first | exact ls_indexAddr_sl tab_ok rfl rfl rfl rfl hel rfl | exact ls_indexAddr_sl tab_ok rfl rfl rfl rfl hel2 rfl | exact ls_indexAddr_sl tab_ok rfl rfl rfl rfl helx rfl | exact ls_rem64 hr1 rfl rfl (by omega) (by omega) rfl | exact ls_rem64 hkv rfl rfl (by omega) (by omega) rfl | exact ls_indexAddr_own tab_ok rfl rfl rfl rfl rfl rfl hkx rfl | exact ls_load_eref tab_ok rfl rfl rfl hela rfl rfl rfl rfl | exact ls_store_eref (cs' := [.v (.int .i64 ((p : Int) + 1))]) tab_ok rfl rfl rfl rfl hela rfl rfl (hpu _) rfl rfl rfl rfl | exact lsc (hcl) | exact lsc (hRC) | exact lsq) | refine a_seq ?_ | refine a_region ?_ | refine o_nil ?_ | refine a_block ?_ | refine a_ret ?_ | refine a_exit ?_ | refine a_skip ?_ | refine a_draw mixed ?_ | refine d_nil (by kernel_rfl) ?_ | refine o_yes rfl rfl rfl ?_ | refine o_no rfl rfl rfl (by decide) ?_ | refine o_no' rfl rfl rfl ?_ | refine a_condT rfl ?_ | refine a_condF rfl ?_ | refine d_no rfl rfl rfl (by decide) ?_ | refine d_no' rfl rfl rfl ?_ | (refine wq2 (fun hb => ?_) (fun hb => ?_) <;> (simp only [hb]; try simp only [hbs, ne_eq] at hb; try (exfalso; first | omega | exact hb trivial))) | fail)
              refine a_loop (X := {y : Nat × Int × List Rs // y.1 ≤ T.length ∧ scan y.2.1 (T.drop y.1) = some w'.told ∧ y.2.2 ++ resT (T.drop y.1) = s.out ++ resT T}) (fun y => ⟨[(2, .sl 1 (ins.map riAv)), (3, .sl 1 (ts.map toAv)), (4, .clo (.func fc) [] []), (5, .ref 0 0), (12, .ref 1 0), (14, .own 2 ((s.at'.set kk (p + 1)).map naAv).length), (15, .v (.int .i64 ((s.lf : Int) - 1))), (18, .own 3 (y.1.2.2.map Rs.av).length), (19, .v (.int .i64 y.1.2.1)), (20, .v (.int .i64 (s.i : Int))), (129, .sl 11 (T.map It.av)), (130, .v (.int .i64 (T.map It.av).length)), (131, .v (.int .i64 y.1.1))], [(0, .box 23 [.v (.int .i64 g), .v (.int .i64 s0), .v (.int .i64 d), .v (.int .i64 k), .v (.int .i64 fu), .v (.int .i64 li), .v (.int .i64 de), .v (.int .i64 id)]), (1, .box 42 w'.av), (2, .row 3 1 ((s.at'.set kk (p + 1)).map naAv)), (3, .row 61 5 (y.1.2.2.map Rs.av))]⟩) (fun y => T.length - y.1.1) ⟨(0, s.w.told, s.out), Nat.zero_le _, hsc, rfl⟩ ?_ ?_
              · refine ⟨by repeat' (first | exact trivial | exact FinA.one (FinB.cell (FinC.same rfl)) | exact FinA.one (FinB.cell FinC.nil) | exact FinA.bound rfl | exact FinA.one (FinB.cell (FinC.own rfl rfl rfl rfl)) | exact FinA.one (FinB.cell (FinC.v (by first | rfl | ((first | (simp only [hset]; done) | (rw [← hset]; simp) | simp))))) | exact FinA.one (FinB.cell (FinC.ow rfl (by first | rfl | ((first | (simp only [hset]; done) | (rw [← hset]; simp) | simp))))) | exact FinA.one (FinB.agg' rfl rfl) | refine ⟨⟨_, rfl, ?_⟩, ?_⟩), by repeat' (first | exact trivial | refine ⟨⟨_, rfl, by first | rfl | ((first | (simp only [hset]; done) | (rw [← hset]; simp) | simp); done) | (simp [renO, *]; done)⟩, by first | rfl | assumption, ?_⟩), rfl⟩
              rintro ⟨⟨q, m, O⟩, hq, hsq, hOq⟩
              dsimp only at hq hsq hOq ⊢
              have hOL : (O.map Rs.av).length = O.length := List.length_map _
              have hOl : O.length ≤ 1000000 := by
                have := congrArg List.length hOq
                rw [List.length_append] at this
                omega
              by_cases hql : q < T.length
              · rw [List.drop_eq_getElem_cons hql] at hsq hOq
                have helT : (T.map It.av)[q]? = some (It.av T[q]) := by simp [hql]
                rw [resT_cons] at hOq
                generalize T[q] = y at *
                obtain ⟨y1, y2, y3, y4, y5, y6, y7, y8, y9, y10, y11⟩ := y
                unfold scan at hsq
                dsimp only at hsq hOq
                by_cases k5 : y1 = 5
                · rw [if_pos k5] at hsq hOq
                  by_cases hh : y8 ≤ m
                  · rw [if_pos hh] at hsq; cases hsq
                  · rw [if_neg hh] at hsq
                    have hmap : (O ++ [rsOf ⟨y1, y2, y3, y4, y5, y6, y7, y8, y9, y10, y11⟩]).map Rs.av = O.map Rs.av ++ [[.v (.int .i64 y7), .v (.int .i64 y8), .v (.string y9), .v (.int .i64 y10), .v (.int .i64 y11)]] := by rw [List.map_append]; rfl
                    repeat' (first | ((first | apply o_do | apply d_do | apply d_yes rfl rfl rfl); first | exact ls_indexAddr_sl tab_ok rfl rfl rfl rfl helT rfl | focus (apply ls_append tab_ok rfl rfl ?hn rfl ?hsrc rfl ?hlen rfl rfl; (case hn => rfl); (case hsrc => first | exact SrcIs.sl | exact SrcIs.nil | exact SrcIs.own rfl rfl | fail); (case hlen => (try simp only [List.length_cons, List.length_nil]); (omega)); first | done | fail) | exact lsq) | refine a_seq ?_ | refine a_region ?_ | refine o_nil ?_ | refine a_block ?_ | refine a_ret ?_ | refine a_exit ?_ | refine a_skip ?_ | refine a_draw mixed ?_ | refine d_nil (by kernel_rfl) ?_ | refine o_yes rfl rfl rfl ?_ | refine o_no rfl rfl rfl (by decide) ?_ | refine o_no' rfl rfl rfl ?_ | refine a_condT rfl ?_ | refine a_condF rfl ?_ | refine d_no rfl rfl rfl (by decide) ?_ | refine d_no' rfl rfl rfl ?_ | (refine wq2 (fun hb => ?_) (fun hb => ?_) <;> (simp only [hb]; try simp only [hbs, ne_eq] at hb; try (exfalso; first | omega | exact hb trivial))) | fail)
                    refine ⟨⟨(q + 1, m, O ++ [rsOf ⟨y1, y2, y3, y4, y5, y6, y7, y8, y9, y10, y11⟩]), hql, hsq, by dsimp only; rw [List.append_assoc]; exact hOq⟩, by dsimp only; omega, ?_⟩
                    dsimp only
                    rw [hmap]
                    exact wkS
                · rw [if_neg k5] at hsq hOq
                  by_cases k2 : y1 = 2
                  · rw [if_pos k2] at hsq
                    by_cases hh : y5 ≤ m
                    · rw [if_pos hh] at hsq; cases hsq
                    · rw [if_neg hh] at hsq
                      repeat' (first | ((first | apply o_do | apply d_do | apply d_yes rfl rfl rfl); first | exact ls_indexAddr_sl tab_ok rfl rfl rfl rfl helT rfl | exact lsq) | refine a_seq ?_ | refine a_region ?_ | refine o_nil ?_ | refine a_block ?_ | refine a_ret ?_ | refine a_exit ?_ | refine a_skip ?_ | refine a_draw mixed ?_ | refine d_nil (by kernel_rfl) ?_ | refine o_yes rfl rfl rfl ?_ | refine o_no rfl rfl rfl (by decide) ?_ | refine o_no' rfl rfl rfl ?_ | refine a_condT rfl ?_ | refine a_condF rfl ?_ | refine d_no rfl rfl rfl (by decide) ?_ | refine d_no' rfl rfl rfl ?_ | (refine wq2 (fun hb => ?_) (fun hb => ?_) <;> (simp only [hb]; try simp only [hbs, ne_eq] at hb; try (exfalso; first | omega | exact hb trivial))) | fail)
                      refine ⟨⟨(q + 1, y5, O), hql, hsq, hOq⟩, by dsimp only; omega, ?_⟩
                      exact wkS
                  · rw [if_neg k2] at hsq
                    repeat' (first | ((first | apply o_do | apply d_do | apply d_yes rfl rfl rfl); first | exact ls_indexAddr_sl tab_ok rfl rfl rfl rfl helT rfl | exact lsq) | refine a_seq ?_ | refine a_region ?_ | refine o_nil ?_ | refine a_block ?_ | refine a_ret ?_ | refine a_exit ?_ | refine a_skip ?_ | refine a_draw mixed ?_ | refine d_nil (by kernel_rfl) ?_ | refine o_yes rfl rfl rfl ?_ | refine o_no rfl rfl rfl (by decide) ?_ | refine o_no' rfl rfl rfl ?_ | refine a_condT rfl ?_ | refine a_condF rfl ?_ | refine d_no rfl rfl rfl (by decide) ?_ | refine d_no' rfl rfl rfl ?_ | (refine wq2 (fun hb => ?_) (fun hb => ?_) <;> (simp only [hb]; try simp only [hbs, ne_eq] at hb; try (exfalso; first | omega | exact hb trivial))) | fail)
                    refine ⟨⟨(q + 1, m, O), hql, hsq, hOq⟩, by dsimp only; omega, ?_⟩
                    exact wkS
              · obtain rfl : q = T.length := by omega
                rw [List.drop_length] at hsq hOq
                simp only [scan, Option.some.injEq] at hsq
                subst hsq
                have hO2 : O = s.out ++ resT T := by rw [← hOq]; simp [resT]
                subst hO2
                unfold Wk.av
                repeat' (first | ((first | apply o_do | apply d_do | apply d_yes rfl rfl rfl); exact lsq) | refine a_seq ?_ | refine a_region ?_ | refine o_nil ?_ | refine a_block ?_ | refine a_ret ?_ | refine a_exit ?_ | refine a_skip ?_ | refine a_draw mixed ?_ | refine d_nil (by kernel_rfl) ?_ | refine o_yes rfl rfl rfl ?_ | refine o_no rfl rfl rfl (by decide) ?_ | refine o_no' rfl rfl rfl ?_ | refine a_condT rfl ?_ | refine a_condF rfl ?_ | refine d_no rfl rfl rfl (by decide) ?_ | refine d_no' rfl rfl rfl ?_ | (refine wq2 (fun hb => ?_) (fun hb => ?_) <;> (simp only [hb]; try simp only [hbs, ne_eq] at hb; try (exfalso; first | omega | exact hb trivial))) | fail)
                have hGl : (w'.gs.map Gp.av).length = w'.gs.length := List.length_map _
                refine a_loop (X := {q : Nat // q ≤ w'.gs.length}) (fun y => ⟨[(2, .sl 1 (ins.map riAv)), (3, .sl 1 (ts.map toAv)), (4, .clo (.func fc) [] []), (5, .ref 0 0), (12, .ref 1 0), (14, .own 2 ((s.at'.set kk (p + 1)).map naAv).length), (15, .v (.int .i64 ((s.lf : Int) - 1))), (18, .own 3 ((s.out ++ resT T).map Rs.av).length), (19, .v (.int .i64 w'.told)), (20, .v (.int .i64 (s.i : Int))), (160, .sl 3 (w'.gs.map Gp.av)), (161, .v (.int .i64 (w'.gs.map Gp.av).length)), (162, .v (.int .i64 y.1))], [(0, .box 23 [.v (.int .i64 g), .v (.int .i64 s0), .v (.int .i64 d), .v (.int .i64 k), .v (.int .i64 fu), .v (.int .i64 li), .v (.int .i64 de), .v (.int .i64 id)]), (1, .box 42 w'.av), (2, .row 3 1 ((s.at'.set kk (p + 1)).map naAv)), (3, .row 61 5 ((s.out ++ resT T).map Rs.av))]⟩) (fun y => w'.gs.length - y.1) ⟨0, Nat.zero_le _⟩ ?_ ?_
                · unfold Wk.av
                  exact wkS
                rintro ⟨q, hq⟩
                dsimp only
                by_cases hql : q < w'.gs.length
                · have helG : (w'.gs.map Gp.av)[q]? = some (Gp.av w'.gs[q]) := by simp [hql]
                  have hgq := hgm _ (List.getElem_mem hql)
                  generalize w'.gs[q] = y at *
                  obtain ⟨y1, y2, y3⟩ := y
                  dsimp only at hgq
                  subst hgq
                  unfold Gp.av at helG
                  dsimp only at helG
                  unfold Wk.av
                  repeat' (first | ((first | apply o_do | apply d_do | apply d_yes rfl rfl rfl); first | exact ls_indexAddr_sl tab_ok rfl rfl rfl rfl helG rfl | exact lsq) | refine a_seq ?_ | refine a_region ?_ | refine o_nil ?_ | refine a_block ?_ | refine a_ret ?_ | refine a_exit ?_ | refine a_skip ?_ | refine a_draw mixed ?_ | refine d_nil (by kernel_rfl) ?_ | refine o_yes rfl rfl rfl ?_ | refine o_no rfl rfl rfl (by decide) ?_ | refine o_no' rfl rfl rfl ?_ | refine a_condT rfl ?_ | refine a_condF rfl ?_ | refine d_no rfl rfl rfl (by decide) ?_ | refine d_no' rfl rfl rfl ?_ | (refine wq2 (fun hb => ?_) (fun hb => ?_) <;> (simp only [hb]; try simp only [hbs, ne_eq] at hb; try (exfalso; first | omega | exact hb trivial))) | fail)
                  refine ⟨⟨q + 1, by omega⟩, by dsimp only; omega, ?_⟩
                  exact wkS
                · obtain rfl : q = w'.gs.length := by omega
                  repeat' (first | ((first | apply o_do | apply d_do | apply d_yes rfl rfl rfl); exact lsq) | refine a_seq ?_ | refine a_region ?_ | refine o_nil ?_ | refine a_block ?_ | refine a_ret ?_ | refine a_exit ?_ | refine a_skip ?_ | refine a_draw mixed ?_ | refine d_nil (by kernel_rfl) ?_ | refine o_yes rfl rfl rfl ?_ | refine o_no rfl rfl rfl (by decide) ?_ | refine o_no' rfl rfl rfl ?_ | refine a_condT rfl ?_ | refine a_condF rfl ?_ | refine d_no rfl rfl rfl (by decide) ?_ | refine d_no' rfl rfl rfl ?_ | (refine wq2 (fun hb => ?_) (fun hb => ?_) <;> (simp only [hb]; try simp only [hbs, ne_eq] at hb; try (exfalso; first | omega | exact hb trivial))) | fail)
                  refine ⟨⟨_, hI', hP'⟩, by dsimp only; omega, ?_⟩
                  dsimp only
                  rw [hlf1]
                  exact wkS
/-- what was told of rows, some of whose items only are meant -/
def takeD (mine : It → Bool) (ins : List (List It)) (at' : List Nat) : List (List It) := List.zipWith (fun r p => (r.take p).filter mine) ins at'
section
variable {j : Jb} {nos : List Int} {ins rows : List (List It)} {ts : List Int} {mine : It → Bool} {s : Ps} {at' : List Nat} {L0 : Nat}
theorem nos_len (hJ : JG j nos) : nos.length ≤ 32 := by
  refine Classical.byContradiction fun hc => ?_
  have h0 : ∀ i, (hi : i < nos.length) → (i : Int) ≤ nos[i] := by
    intro i
    induction i with
    | zero => intro hi; exact (hJ.rng _ (List.getElem_mem hi)).1
    | succ i ih =>
      intro hi
      have h1 := ih (by omega)
      have h2 := List.pairwise_iff_getElem.1 hJ.lt i (i + 1) (by omega) hi (by omega)
      omega
  have := h0 32 (by omega)
  have := (hJ.rng _ (List.getElem_mem (show 32 < nos.length by omega))).2
  omega
theorem resL_len (k : Int) (l : List Pn) : (resultsL k l).length ≤ 2000 := by
  unfold resultsL
  split
  · rename_i h
    simp only [Bool.and_eq_true] at h
    rw [List.length_map]
    exact (rightL_ok h.1).1
  · simp
theorem outD_len (hJ : JG j nos) (V : List Vl) (t : Int) : (outD j nos V t).length ≤ 64000 := by
  have h : ∀ l : List Int, (outD j l V t).length ≤ 2000 * l.length := by
    intro l
    induction l with
    | nil => simp [outD]
    | cons no l ih =>
      have := resL_len j.k (dueA (allG j V no) t)
      unfold outD at ih ⊢
      rw [List.flatMap_cons, List.length_append, List.length_cons]
      omega
  have := h nos
  have := nos_len hJ
  omega
theorem takeD_len (hl : at'.length = ins.length) : (takeD mine ins at').length = ins.length := by
  unfold takeD; rw [List.length_zipWith]; omega
theorem takeD_get {k : Nat} {r : List It} {p : Nat} (hr : ins[k]? = some r) (hp : at'[k]? = some p) : (takeD mine ins at')[k]? = some ((r.take p).filter mine) := by
  unfold takeD
  rw [List.getElem?_zipWith, hr, hp]
theorem takeD_set {k : Nat} {r : List It} {p : Nat} {x : It} (hl : at'.length = ins.length) (hr : ins[k]? = some r) (hp : at'[k]? = some p) (hx : r[p]? = some x) :
    takeD mine ins (at'.set k (p + 1)) = (takeD mine ins at').set k ((r.take p).filter mine ++ (if mine x = true then [x] else [])) := by
  obtain ⟨hk, _⟩ := List.getElem?_eq_some_iff.1 hp
  obtain ⟨hpl, hxe⟩ := List.getElem?_eq_some_iff.1 hx
  apply List.ext_getElem?
  intro i
  rw [List.getElem?_set, takeD_len hl]
  by_cases c : k = i
  · subst c
    rw [if_pos rfl, if_pos (by omega), takeD_get hr (List.getElem?_set_self hk), take_snoc r p hpl, List.filter_append, hxe]
    rw [show [x].filter mine = if mine x = true then [x] else [] by rw [List.filter_cons, List.filter_nil]]
  · rw [if_neg c]
    unfold takeD
    rw [List.getElem?_zipWith, List.getElem?_zipWith, List.getElem?_set_ne c]
theorem takeD_pre (hl : at'.length = ins.length) : Pre (takeD mine ins at') (ins.map (List.filter mine)) := by
  refine ⟨by rw [takeD_len hl, List.length_map], fun q d hd => ?_⟩
  obtain ⟨hq, _⟩ := List.getElem?_eq_some_iff.1 hd
  rw [takeD_len hl] at hq
  obtain ⟨r, hr⟩ : ∃ r, ins[q]? = some r := ⟨_, List.getElem?_eq_getElem hq⟩
  obtain ⟨p, hp⟩ : ∃ p, at'[q]? = some p := ⟨_, List.getElem?_eq_getElem (by omega)⟩
  rw [takeD_get hr hp] at hd
  cases hd
  refine ⟨(r.drop p).filter mine, ?_⟩
  rw [List.getElem?_map, hr, Option.map_some, ← List.filter_append, List.take_append_drop]
theorem takeD_zero : takeD mine ins (List.replicate ins.length 0) = List.replicate ins.length [] := by
  unfold takeD
  induction ins with
  | nil => rfl
  | cons r ins ih => simp only [List.length_cons, List.replicate_succ, List.zipWith_cons_cons, ih, List.take_zero, List.filter_nil]
theorem takeD_full (hl : at'.length = ins.length) (h : ∀ (k : Nat) (r : List It) (p : Nat), ins[k]? = some r → at'[k]? = some p → r.length ≤ p) : takeD mine ins at' = ins.map (List.filter mine) := by
  apply List.ext_getElem?
  intro i
  rw [List.getElem?_map]
  cases hr : ins[i]? with
  | none =>
    have := List.getElem?_eq_none_iff.1 hr
    rw [List.getElem?_eq_none_iff.2 (by rw [takeD_len hl]; exact this)]; rfl
  | some r =>
    obtain ⟨hi, _⟩ := List.getElem?_eq_some_iff.1 hr
    obtain ⟨p, hp⟩ : ∃ p, at'[i]? = some p := ⟨_, List.getElem?_eq_getElem (by omega)⟩
    rw [takeD_get hr hp, List.take_of_length_le (h i r p hr hp)]; rfl
theorem rsOf_res (r : Rs) : rsOf (resItem r) = r := rfl
theorem scan_res : ∀ {rs : List Rs} {m : Int} {l : List It}, (∀ r ∈ rs, m < r.hi) → scan m (rs.map resItem ++ l) = scan m l
  | [], _, _, _ => rfl
  | r :: rs, m, l, h => by
    have h1 := h r (by simp)
    simp only [List.map_cons, List.cons_append, scan]
    rw [if_pos (show (resItem r).kind = 5 from rfl), if_neg (show ¬ (resItem r).hi ≤ m by show ¬ r.hi ≤ m; omega)]
    exact scan_res fun x hx => h x (by simp [hx])
theorem scan_tail {a b : Int} (h : a ≤ b) : scan a (mkTail a b) = some b := by
  unfold mkTail
  split
  · simp only [scan]
    rw [if_neg (show ¬ (markItem b).kind = 5 by show ¬ (2 : Int) = 5; decide), if_pos (show (markItem b).kind = 2 from rfl), if_neg (show ¬ (markItem b).mark ≤ a by show ¬ b ≤ a; omega)]
    rfl
  · simp only [scan]; congr 1; omega
theorem resT_told {rs : List Rs} {a b : Int} : resT (rs.map resItem ++ mkTail a b) = rs := by
  unfold resT
  rw [List.filterMap_append]
  have h1 : List.filterMap (fun x => if x.kind = 5 then some (rsOf x) else none) (mkTail a b) = [] := by
    unfold mkTail
    split
    · rfl
    · rfl
  rw [h1, List.append_nil]
  induction rs with
  | nil => rfl
  | cons r rs ih =>
    rw [List.map_cons, List.filterMap_cons]
    simp only [show (resItem r).kind = 5 from rfl, if_true, ih, rsOf_res]
/-- .. and what holds at each turn -/
structure OrdI (j : Jb) (nos : List Int) (ins : List (List It)) (ts : List Int) (mine : It → Bool) (L0 : Nat) (s : Ps) : Prop where
  pot : Pot ins ts L0 s
  pi : PI j nos (takeD mine ins s.at') s.w s.out
theorem ord_one (hR : RW j nos (ins.map (List.filter mine))) (h : OrdI j nos ins ts mine L0 s) {k p : Nat} {r : List It} {x : It} (hr : ins[k]? = some r) (hp : s.at'[k]? = some p) (hx : r[p]? = some x) (hm : mine x = true) :
    (WkOk s.w ∧ HV s.w ∧ heldN s.w.al < 1 ∧ ItV x) ∧ ∃ w' T, wkRun j 1 s.w (k : Int) x = ⟨w', T, 0⟩ ∧ scan s.w.told T = some w'.told ∧ (∀ g ∈ w'.gs, g.mark = w'.told) ∧ PI j nos (takeD mine ins (s.at'.set k (p + 1))) w' (s.out ++ resT T) := by
  have hal := h.pot.al
  have hD := takeD_pre (mine := mine) hal
  have hd := takeD_get (mine := mine) hr hp
  have hrow : (ins.map (List.filter mine))[k]? = some ((r.take p).filter mine ++ x :: (r.drop (p + 1)).filter mine) := by
    obtain ⟨hpl, hxe⟩ := List.getElem?_eq_some_iff.1 hx
    rw [List.getElem?_map, hr, Option.map_some]
    congr 1
    conv => lhs; rw [← List.take_append_drop p r, List.filter_append, List.drop_eq_getElem_cons hpl, hxe, List.filter_cons, if_pos hm]
  obtain ⟨w', rs, h1, h2, h3, h4, h5, h6⟩ := tell_item hR hD h.pi hd hrow 0
  obtain ⟨o1, o2, o3⟩ := hD.okk hR h.pi
  refine ⟨⟨o1, o2, o3, h6⟩, w', _, h1, ?_, ?_, ?_⟩
  · rw [scan_res h2, scan_tail h3]
  · intro g hg
    rw [h5.wi.gs] at hg
    obtain ⟨no, _, rfl⟩ := List.mem_map.1 hg
    rfl
  · rw [resT_told, takeD_set hal hr hp hx, if_pos hm]
    exact h5
theorem ord_play (hR : RW j nos (ins.map (List.filter mine))) : PlayI j 1 ins ts mine L0 (OrdI j nos ins ts mine L0) := by
  have hn : 0 < ins.length := by have := hR.n1; rw [List.length_map] at this; exact this
  refine ⟨fun s h => h.pot, fun s h h0 => ?_, fun s k r p x h hr hp hx hm => ?_, fun s h => ?_, fun s h => ?_⟩
  · refine ⟨(h.pot.step hn h0).1, ?_⟩
    have hal := h.pot.al
    have hk := turn_lt (ts := ts) (i := s.i) hn
    obtain ⟨r, hr⟩ : ∃ r, ins[turn ts s.i ins.length]? = some r := ⟨_, List.getElem?_eq_getElem hk⟩
    obtain ⟨p, hp⟩ : ∃ p, s.at'[turn ts s.i ins.length]? = some p := ⟨_, List.getElem?_eq_getElem (by rw [hal]; exact hk)⟩
    have er : ins.getD (turn ts s.i ins.length) [] = r := by simp [List.getD, hr]
    have ep : s.at'.getD (turn ts s.i ins.length) 0 = p := by simp [List.getD, hp]
    unfold pstep
    dsimp only
    rw [er, ep]
    cases hx : r[p]? with
    | none => exact h.pi
    | some x =>
      dsimp only
      by_cases hm : mine x = true
      · rw [if_pos hm]
        obtain ⟨_, w', T, h1, _, _, h2⟩ := ord_one hR h hr hp hx hm
        rw [h1]
        exact h2
      · rw [if_neg hm]
        dsimp only
        rw [takeD_set hal hr hp hx, if_neg hm, List.append_nil]
        have hd := takeD_get (mine := mine) hr hp
        obtain ⟨hq, hqe⟩ := List.getElem?_eq_some_iff.1 hd
        rw [← hqe, List.set_getElem_self]
        exact h.pi
  · obtain ⟨h1, w', T, h2, h3, h4, _⟩ := ord_one hR h hr hp hx hm
    exact ⟨h1, w', T, h2, h3, h4⟩
  · have := h.pi.out.length_eq
    have := outD_len (j := j) hR.tg.jg (allVals j.s j.d ((takeD mine ins s.at').flatMap evsI)) s.w.told
    omega
  · have := nos_len hR.tg.jg
    rw [h.pi.wi.gs, List.length_map]
    omega
/-- the end -/
theorem ord_end (hR : RW j nos (ins.map (List.filter mine))) (hend : ∀ r ∈ ins.map (List.filter mine), mkI r = 1099511627776) {w0 : Wk} (hW : WI j nos [] (List.replicate ins.length 0) w0) (n : Nat) (hL : L0 = leftN ins (List.replicate ins.length 0)) (hN : ts.length + ins.length + ins.length * L0 + 1 ≤ n) :
    OrdI j nos ins ts mine L0 ⟨List.replicate ins.length 0, L0, 0, w0, []⟩ ∧ (playN j 1 ins ts mine n ⟨List.replicate ins.length 0, L0, 0, w0, []⟩).w.told = 1099511627776 ∧
    (playN j 1 ins ts mine n ⟨List.replicate ins.length 0, L0, 0, w0, []⟩).out.Perm (outD j nos (allVals j.s j.d ((ins.map (List.filter mine)).flatMap evsI)) 1099511627776) := by
  have hn : 0 < ins.length := by have := hR.n1; rw [List.length_map] at this; exact this
  have hrepE : ∀ n : Nat, (List.replicate n ([] : List It)).flatMap evsI = [] := by
    intro n
    induction n with
    | zero => rfl
    | succ n ih => rw [List.replicate_succ, List.flatMap_cons, ih]; rfl
  have h0 : OrdI j nos ins ts mine L0 ⟨List.replicate ins.length 0, L0, 0, w0, []⟩ := by
    refine ⟨⟨by simp, hL, Nat.le_refl _, .inl (Nat.zero_le _)⟩, ?_, ?_⟩
    · dsimp only
      rw [takeD_zero, hrepE, List.map_replicate]
      exact hW
    · dsimp only
      rw [takeD_zero, hrepE]
      have e : outD j nos (allVals j.s j.d []) w0.told = [] := by
        unfold outD
        rw [List.flatMap_eq_nil_iff]
        intro no _
        show resultsL j.k (dueA (rowV j.k []) w0.told) = []
        exact resultsL_nil j.k
      rw [e]
  have hE := playN_inv (ord_play hR).step n _ h0
  have hlf := playN_end (j := j) (f := 1) (mine := mine) hn n ⟨List.replicate ins.length 0, L0, 0, w0, []⟩ h0.pot (by dsimp only; omega)
  generalize playN j 1 ins ts mine n ⟨List.replicate ins.length 0, L0, 0, w0, []⟩ = R at *
  have hfull := takeD_full (mine := mine) hE.pot.al (left_none hE.pot.al (by rw [← hE.pot.lf]; exact hlf))
  have hP := hE.pi
  rw [hfull] at hP
  exact ⟨h0, told_all hR hP hend⟩
end
def convL : List AV → Option (List Value)
  | [] => some []
  | .v x :: l => match convL l with
    | some us => some (x :: us)
    | none => none
  | _ => none
/-- the value that an abstract one that holds no memory stands for -/
def conv : AV → Option Value
  | .v x => some x
  | .agg cs => match convL cs with
    | some us => some (.agg us.toArray)
    | none => none
  | _ => none
section
variable {P : Program} {Γ : Ctx} {s : ASt} {σ : Store} {μ : Nat → Value} {w : World} {A : Nat → Prop}
variable {dst : Option Tmp} {ty : TypeId} {pos : String} {after : Array Edge}
theorem convL_rep : ∀ {cs : List AV} {xs us : List Value}, convL cs = some xs → repC σ μ w A cs us → us = xs
  | [], xs, us, h, h2 => by
    simp only [convL, Option.some.injEq] at h; subst h
    simpa only [repC] using h2
  | .v x :: cs, xs, us, h, h2 => by
    simp only [convL] at h
    split at h
    · rename_i ys hy
      injection h with h; subst h
      simp only [repC, rep] at h2
      obtain ⟨u, us', rfl, _, ⟨rfl, _⟩, h3⟩ := h2
      rw [convL_rep hy h3]
    · cases h
  | .agg _ :: _, _, _, h, _ => by simp [convL] at h
  | .tup _ :: _, _, _, h, _ => by simp [convL] at h
  | .sl _ _ :: _, _, _, h, _ => by simp [convL] at h
  | .own _ _ :: _, _, _, h, _ => by simp [convL] at h
  | .ref _ _ :: _, _, _, h, _ => by simp [convL] at h
  | .eref _ _ _ _ :: _, _, _, h, _ => by simp [convL] at h
  | .el _ :: _, _, _, h, _ => by simp [convL] at h
  | .clo _ _ _ :: _, _, _, h, _ => by simp [convL] at h
  | .mp _ :: _, _, _, h, _ => by simp [convL] at h
theorem conv_rep {v : AV} {x y : Value} (h : conv v = some x) (hr : rep σ μ w A v y) : y = x := by
  cases v with
  | v z => simp only [conv, Option.some.injEq] at h; subst h; simp only [rep] at hr; exact hr.1
  | agg cs =>
    simp only [conv] at h
    split at h
    · rename_i us hu
      injection h with h; subst h
      simp only [rep] at hr
      obtain ⟨us', rfl, h2⟩ := hr
      rw [convL_rep hu h2]
    · cases h
  | _ => cases h
theorem borns_push {ents : Array MapEntry} {ck : Nat} (h : Borns ents ck) (key val : Value) : Borns (ents.push { key, val := val, born := ck }) (ck + 1) := by
  refine ⟨by simp [h.1], fun i e he => ?_⟩
  rw [Array.getElem?_push] at he
  split at he
  · rename_i h1; injection he with he; subst he; exact h.1.trans h1.symm
  · exact h.2 i e he
theorem borns_modify {ents : Array MapEntry} {ck : Nat} (h : Borns ents ck) (j : Nat) (f : MapEntry → MapEntry) (hf : ∀ e, (f e).born = e.born) : Borns (ents.modify j f) ck := by
  refine ⟨by simp [h.1], fun i e he => ?_⟩
  rw [Array.getElem?_modify] at he
  split at he
  · cases hi : ents[i]? with
    | none => rw [hi] at he; cases he
    | some e' =>
      rw [hi] at he
      simp only [Option.map_some, Option.some.injEq] at he
      subst he
      rw [hf]; exact h.2 i e' hi
  · exact h.2 i e he
theorem obj_map {id : Nat} {es : List (Value × Value)} (h : ObjRel σ μ w A id (.mp (.m es))) : ∃ g ents ck, μ id = .map (some g) ∧ w.heap[g]? = some (.map ents ck) ∧ ents.toList.map (fun e => (e.key, e.val)) = es ∧ Borns ents ck := by
  obtain ⟨g, v, ob, h1, h2, h3, g', ents, ck, rfl, rfl, h4, h5⟩ := h
  simp only [blk, Option.some.injEq] at h2
  subst h2
  exact ⟨_, ents, ck, h1, h3, h4, h5⟩
theorem obj_mapI {id : Nat} {es : List (Value × Value)} (h : ∃ g ents ck, μ id = .map (some g) ∧ w.heap[g]? = some (.map ents ck) ∧ ents.toList.map (fun e => (e.key, e.val)) = es ∧ Borns ents ck) : ObjRel σ μ w A id (.mp (.m es)) := by
  obtain ⟨g, ents, ck, h1, h2, h3, h4⟩ := h
  exact ⟨g, _, _, h1, rfl, h2, g, ents, ck, rfl, rfl, h3, h4⟩
theorem ls_makeMap {t k : Nat} (hk : find s.σ k = none) (hd : okDst Γ.n dst = true) : LS P Γ ⟨dst, .makeMap t none, ty, pos, after, none⟩ s [.obj k] (dst1 dst (.mp k)) [(k, .mp (.m []))] := by
  refine ⟨fun t' ht Q μ a w hr K hK => ?_⟩
  have hk' : find t'.σ k = none := ht.1.trans hk
  have hn := hr.new (w' := w.alloc (.map #[] 0)) (v := .map (some w.heap.size)) (o := .mp (.m [])) hk' (below_alloc _ _) (by simp [blk]) (fun μ' A hμ hμk hA hst => by
    exact obj_mapI ⟨w.heap.size, #[], 0, hμk, (MapKept.heap_alloc w _).1, rfl, rfl, fun i e h => by simp at h⟩)
  have hfin := hn.put (d := dst) (x := .mp k) (y := .map (some w.heap.size)) hd (by
    simp only [rep, ASt.eff, List.cons_append, List.nil_append, find_cons, if_true]
    exact ⟨rfl, (setμ_same _ _ _).symm, _, rfl⟩)
  unfold Oper.wp
  have hrun : (execOp a.eval ⟨dst, .makeMap t none, ty, pos, after, none⟩).run P w = .ok (.value (.map (some w.heap.size))) (w.alloc (.map #[] 0)) := by
    simp [execOp, Instr.makeMap, run_newObj]
  rw [hrun]
  refine hK (setμ μ k (.map (some w.heap.size))) _ _ ?_
  cases dst <;> exact hfin
/-- m[k], asked -/
theorem ls_lookup {kt : TypeId} (K : WideMaps.KeyLaw P kt) {m x : Operand} {t et id : Nat} {es : List (Value × Value)} {kv : AV} {key r z : Value} {b : Bool} {kl : Lit} (c : Bool)
    (hm : ev s m = some (.mp id)) (hx : ev s x = some kv) (hσ : find s.σ id = some (.mp (.m es))) (hu : P.underlying t = some (.map kt et)) (hk : conv kv = some key) (hz : ∀ w, (zeroValue et).run P w = .ok z w) (hr : scal r = true)
    (hkey : keyOf P kt key = some kl) (hall : ∀ p ∈ es, ∃ l, keyOf P kt p.1 = some l) (h1 : (∀ p ∈ es, p.1 ≠ key) → r = z ∧ b = false) (h2 : ∀ (j : Nat) (p : Value × Value), es[j]? = some p → p.1 = key → r = p.2 ∧ b = true) (hd : okDst Γ.n dst = true) :
    LS P Γ ⟨dst, .lookup t m x c, ty, pos, after, none⟩ s (rd m (rd x [.obj id])) (dst1 dst (match c with | true => .tup [.v r, .v (.bool b)] | false => .v r)) [] :=
  ls_pure hd fun t' ht μ a w hR => by
    obtain ⟨e1, ht⟩ := ht.ev hm
    obtain ⟨e2, ht⟩ := ht.ev hx
    have e0 : find t'.σ id = some (.mp (.m es)) := ht.1.trans hσ
    have e1 := hR.ev e1
    have e2 := conv_rep hk (hR.ev e2)
    simp only [rep] at e1
    obtain ⟨g, ents, ck, h3, h4, h5, hbo⟩ := obj_map (hR.store.obj id _ e0)
    have hall' : ∀ e ∈ ents.toList, ∃ l, keyOf P kt e.key = some l := fun e he => hall (e.key, e.val) (by rw [← h5]; exact List.mem_map.2 ⟨e, he, rfl⟩)
    have hrun : (Instr.lookup t (.map (some g)) key c).run P w = .ok (if c then .tuple #[r, .bool b] else r) w := by
      rcases K.find w hkey ents.toList hall' with ⟨h6, h7⟩ | ⟨j, e, h6, h7, h8⟩
      · obtain ⟨rfl, rfl⟩ := h1 fun p hp => by
          rw [← h5] at hp
          obtain ⟨e, he, rfl⟩ := List.mem_map.1 hp
          exact h7 e he
        simp [Instr.lookup, run_underlying hu, MapKept.run_getObj_map h4, K.check w _ hkey, h6, hz]
      · obtain ⟨rfl, rfl⟩ := h2 j (e.key, e.val) (by rw [← h5, List.getElem?_map, h7]; rfl) h8
        simp [Instr.lookup, run_underlying hu, MapKept.run_getObj_map h4, K.check w _ hkey, h6]
    refine ⟨if c then .tuple #[r, .bool b] else r, by simp only [execOp, e1.2.1, h3, e2, Sem.run_bind, hrun, Result.andThen_ok, Sem.run_pure], ?_⟩
    cases c
    · simp only [rep]; exact ⟨rfl, hr⟩
    · simp only [rep, repL]; exact ⟨[_, _], rfl, _, _, rfl, ⟨rfl, hr⟩, _, _, rfl, ⟨rfl, rfl⟩, rfl⟩
/-- m[k] op= v, its first half: the entry is there, or is made -/
theorem ls_mapEntry {kt : TypeId} (K : WideMaps.KeyLaw P kt) {m x : Operand} {t et id i : Nat} {es es' : List (Value × Value)} {kv : AV} {key r z : Value} {kl : Lit}
    (hm : ev s m = some (.mp id)) (hx : ev s x = some kv) (hσ : find s.σ id = some (.mp (.m es))) (hu : P.underlying t = some (.map kt et)) (hk : conv kv = some key) (hz : ∀ w, (zeroValue et).run P w = .ok z w) (hr : scal r = true)
    (hkey : keyOf P kt key = some kl) (hall : ∀ p ∈ es, ∃ l, keyOf P kt p.1 = some l) (h1 : (∀ p ∈ es, p.1 ≠ key) → r = z ∧ i = es.length ∧ es' = es ++ [(key, z)]) (h2 : ∀ j p, es[j]? = some p → p.1 = key → r = p.2 ∧ i = j ∧ es' = es) (hd : okDst Γ.n dst = true) :
    LS P Γ ⟨dst, .mapEntry t m x, ty, pos, after, none⟩ s (rd m (rd x [.obj id])) (dst1 dst (.tup [.v r, .v (.int .i64 i)])) [(id, .mp (.m es'))] := by
  refine ⟨fun t' ht Q μ a w hR K' hK => ?_⟩
  obtain ⟨e1, ht⟩ := ht.ev hm
  obtain ⟨e2, ht⟩ := ht.ev hx
  have e0 : find t'.σ id = some (.mp (.m es)) := ht.1.trans hσ
  have e1 := hR.ev e1
  have e2 := conv_rep hk (hR.ev e2)
  simp only [rep] at e1
  obtain ⟨g, ents, ck, h3, h4, h5, hbo⟩ := obj_map (hR.store.obj id _ e0)
  have hall' : ∀ e ∈ ents.toList, ∃ l, keyOf P kt e.key = some l := fun e he => hall (e.key, e.val) (by rw [← h5]; exact List.mem_map.2 ⟨e, he, rfl⟩)
  have hlen : ents.size = es.length := by rw [← h5]; simp
  obtain ⟨ents', ck', hrun, hents⟩ : ∃ ents' ck', (Instr.mapEntry t (.map (some g)) key).run P w = .ok (.tuple #[r, .int .i64 i]) { w with heap := w.heap.setIfInBounds g (.map ents' ck') } ∧ ents'.toList.map (fun e => (e.key, e.val)) = es' ∧ Borns ents' ck' := by
    rcases K.find w hkey ents.toList hall' with ⟨h6, h7⟩ | ⟨j, e, h6, h7, h8⟩
    · obtain ⟨rfl, rfl, rfl⟩ := h1 fun p hp => by
        rw [← h5] at hp
        obtain ⟨e, he, rfl⟩ := List.mem_map.1 hp
        exact h7 e he
      refine ⟨ents.push { key, val := r, born := ck }, ck + 1, ?_, ?_, borns_push hbo _ _⟩
      · have : (ck : Int) = (es.length : Int) := by rw [hbo.1, hlen]
        simp [Instr.mapEntry, run_underlying hu, MapKept.run_getObj_map h4, K.check w false hkey, h6, hz, MapKept.run_setObj_map _ h4, goInt, this]
      · rw [Array.toList_push, List.map_append, h5]; rfl
    · have hj : j < ents.size := by simpa using (List.getElem?_eq_some_iff.1 h7).1
      have hge : ents[j]? = some e := by simpa using h7
      obtain ⟨rfl, rfl, rfl⟩ := h2 j (e.key, e.val) (by rw [← h5, List.getElem?_map, h7]; rfl) h8
      refine ⟨ents.modify i fun e => { e with key }, ck, ?_, ?_, borns_modify hbo i _ (fun _ => rfl)⟩
      · simp [Instr.mapEntry, run_underlying hu, MapKept.run_getObj_map h4, K.check w false hkey, h6, hge, h8, K.stays w hkey, MapKept.run_setObj_map _ h4, goInt, hbo.2 i e hge]
      · rw [← h5, Array.toList_modify]
        apply List.ext_getElem?
        intro q
        rw [List.getElem?_map, List.getElem?_modify, List.getElem?_map]
        by_cases hij : i = q
        · subst hij
          rw [h7]
          simp [h8]
        · simp [hij]
  have hst := store_rel hR e0 (g := g) (o' := .mp (.m es')) (w' := { w with heap := w.heap.setIfInBounds g (.map ents' ck') }) (by rw [h3]; rfl) (by simp) rfl rfl rfl (fun b hb => by simp only [Array.getElem?_setIfInBounds_ne (Ne.symm hb)]) trivial (fun A hst hA => by
    have hlt := (Array.getElem?_eq_some_iff.1 h4).1
    exact obj_mapI ⟨g, ents', ck', h3, by simp [hlt], hents⟩)
  have hfin := hst.put (d := dst) (x := .tup [.v r, .v (.int .i64 i)]) (y := .tuple #[r, .int .i64 i]) hd (by
    simp only [rep, repL]
    exact ⟨[_, _], rfl, _, _, rfl, ⟨rfl, hr⟩, _, _, rfl, ⟨rfl, rfl⟩, rfl⟩)
  unfold Oper.wp
  have hrun2 : (execOp a.eval ⟨dst, .mapEntry t m x, ty, pos, after, none⟩).run P w = .ok (.value (.tuple #[r, .int .i64 i])) { w with heap := w.heap.setIfInBounds g (.map ents' ck') } := by
    simp only [execOp, e1.2.1, h3, e2, Sem.run_bind, hrun, Result.andThen_ok, Sem.run_pure]
  rw [hrun2]
  refine hK μ _ _ ?_
  cases dst <;> exact hfin
/-- .. its second half -/
theorem ls_entryStore {m st y : Operand} {t id i : Nat} {es : List (Value × Value)} {vv : AV} {val k0 v0 : Value}
    (hm : ev s m = some (.mp id)) (hst : ev s st = some (.v (.int .i64 i))) (hy : ev s y = some vv) (hσ : find s.σ id = some (.mp (.m es))) (hv : conv vv = some val) (hi : es[i]? = some (k0, v0)) (hdst : dst = none) :
    LS P Γ ⟨dst, .entryStore t m st y, ty, pos, after, none⟩ s (rd m (rd st (rd y [.obj id]))) [] [(id, .mp (.m (es.set i (k0, val))))] := by
  refine ⟨fun t' ht Q μ a w hR K' hK => ?_⟩
  subst hdst
  obtain ⟨e1, ht⟩ := ht.ev hm
  obtain ⟨e2, ht⟩ := ht.ev hst
  obtain ⟨e3, ht⟩ := ht.ev hy
  have e0 : find t'.σ id = some (.mp (.m es)) := ht.1.trans hσ
  have e1 := hR.ev e1
  have e2 := hR.ev e2
  have e3 := conv_rep hv (hR.ev e3)
  simp only [rep] at e1 e2
  obtain ⟨g, ents, ck, h3, h4, h5, hbo⟩ := obj_map (hR.store.obj id _ e0)
  have hie : ∃ e, ents[i]? = some e ∧ e.key = k0 := by
    rw [← h5, List.getElem?_map] at hi
    cases he : ents.toList[i]? with
    | none => rw [he] at hi; cases hi
    | some e =>
      rw [he] at hi
      simp only [Option.map_some, Option.some.injEq, Prod.mk.injEq] at hi
      exact ⟨e, by simpa using he, hi.1⟩
  obtain ⟨e, he, hk⟩ := hie
  have hlt : i < ents.size := (Array.getElem?_eq_some_iff.1 he).1
  have hfind : ents.findIdx? (fun e => (e.born : Int) == (i : Int)) = some i := by
    rw [Array.findIdx?_eq_some_iff_getElem]
    refine ⟨hlt, ?_, fun j hj => ?_⟩
    · have : ents[i].born = i := hbo.2 i _ (by rw [Array.getElem?_eq_getElem hlt])
      simp [this]
    · have : ents[j].born = j := hbo.2 j _ (by rw [Array.getElem?_eq_getElem (by omega)])
      simp [this]; omega
  have hrun : (Instr.entryStore t (.map (some g)) (.int .i64 i) val).run P w = .ok () { w with heap := w.heap.setIfInBounds g (.map (ents.modify i fun e => { e with val := val }) ck) } := by
    simp [Instr.entryStore, MapKept.run_getObj_map h4, asInt, asIntOf, hfind, MapKept.run_setObj_map _ h4]
  unfold Oper.wp
  have hrun2 : (execOp a.eval ⟨none, .entryStore t m st y, ty, pos, after, none⟩).run P w = .ok .skip { w with heap := w.heap.setIfInBounds g (.map (ents.modify i fun e => { e with val := val }) ck) } := by
    simp only [execOp, e1.2.1, h3, e2.1, e3, Sem.run_bind, hrun, Result.andThen_ok, Sem.run_pure]
  rw [hrun2]
  refine hK μ _ _ ?_
  refine store_rel hR e0 (g := g) (by rw [h3]; rfl) (by simp) rfl rfl rfl (fun b hb => by simp only [Array.getElem?_setIfInBounds_ne (Ne.symm hb)]) trivial (fun A hst hA => ?_)
  have hlt2 := (Array.getElem?_eq_some_iff.1 h4).1
  refine obj_mapI ⟨g, ents.modify i fun e => { e with val := val }, ck, h3, by simp [hlt2], ?_, borns_modify hbo i (fun e => { e with val := val }) (fun _ => rfl)⟩
  rw [← h5, Array.toList_modify]
  apply List.ext_getElem?
  intro q
  rw [List.getElem?_map, List.getElem?_modify, List.getElem?_set, List.getElem?_map]
  by_cases hij : i = q
  · subst hij
    have : ents.toList[i]? = some e := by simpa using he
    rw [this]
    simp [hk, hlt]
  · simp [hij]
end
section
variable {P : Program} {Γ : Ctx} {Q : Exit → ASt → Prop} {s t : ASt}
/-- what is left of a region, in whatever order -/
structure AR (P : Program) (Γ : Ctx) (ops : List Oper) (Q : Exit → ASt → Prop) (fuel : Nat) (listed : Array Bool) (s : ASt) : Prop where
  out : ∀ μ a w, Rel Γ s μ a w → wpAnyIn Γ.F 0 P .any ops.toArray (AK Γ Q) fuel listed a w
structure ARL (P : Program) (Γ : Ctx) (ops : List Oper) (Q : Exit → ASt → Prop) (fuel : Nat) (listed : Array Bool) (l : List Nat) (s : ASt) : Prop where
  out : ∀ i ∈ l, ∀ μ a w, Rel Γ s μ a w → wpOpIn Γ.F 0 P ops.toArray (AK Γ Q) i (wpAnyIn Γ.F 0 P .any ops.toArray (AK Γ Q) fuel (listed.setIfInBounds i true)) a w
variable {ops : List Oper} {fuel : Nat} {listed : Array Bool} {l : List Nat}
theorem ar_done (hl : Region.ready .any ops.toArray listed = []) (hQ : Q .normal s) : AR P Γ ops Q fuel listed s := by
  refine ⟨fun μ a w hr => ?_⟩
  cases fuel with
  | zero => exact ⟨hl, s, μ, hr, hQ⟩
  | succ fuel => exact ⟨fun _ => ⟨s, μ, hr, hQ⟩, fun i hi => by rw [hl] at hi; cases hi⟩
theorem ar_step (l : List Nat) (hl : Region.ready .any ops.toArray listed = l) (hne : l.isEmpty = false) (h : ARL P Γ ops Q fuel listed l s) : AR P Γ ops Q (fuel + 1) listed s := by
  refine ⟨fun μ a w hr => ⟨fun h0 => ?_, fun i hi => h.out i (by rw [← hl]; exact hi) μ a w hr⟩⟩
  rw [hl] at h0; subst h0; cases hne
theorem arl_nil : ARL P Γ ops Q fuel listed [] s := ⟨fun _ h => nomatch h⟩
theorem arl_cons {i : Nat} {dst : Option Tmp} {op : Op} {ty : TypeId} {pos : String} {after : Array Edge} {R : List Loc} {er : List (Nat × AV)} {eσ : List (Nat × SObj)} (ho : ops[i]? = some ⟨dst, op, ty, pos, after, none⟩) (hd : noDefer op = true) (h : LS P Γ ⟨dst, op, ty, pos, after, none⟩ s R er eσ)
    (hk : AR P Γ ops Q fuel (listed.setIfInBounds i true) (s.eff er eσ)) (hl : ARL P Γ ops Q fuel listed l s) : ARL P Γ ops Q fuel listed (i :: l) s := by
  refine ⟨fun j hj μ a w hr => ?_⟩
  rcases List.mem_cons.1 hj with rfl | hj
  · unfold wpOpIn
    simp only [List.getElem?_toArray, ho]
    have h2 : Region.wanted ⟨dst, op, ty, pos, after, none⟩ (yielded ops.toArray a.tmps) = true := by simp [Region.wanted]
    rw [if_pos h2]
    exact up_in hd (h.out s (Agree.refl s _) (AK Γ Q) μ a w hr _ fun μ' a' w' hr' => hk.out μ' a' w' hr')
  · exact hl.out j hj μ a w hr
theorem a_drawA {id : Nat} (hm : P.follows .mixedOrders = true) (h : AR P Γ ops Q ops.length (Array.replicate ops.length false) s) : AWP P Γ (.region id ops.toArray true) Q s := by
  refine ⟨fun μ a w hr => wpIn_region_any hm ?_⟩
  exact h.out μ a w.drew (hr.world ((Below.refl _ w).drew))
end
end Go.Proofs.YtilgagmfcdfjaaaGreat
