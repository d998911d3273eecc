/-
  Workers, walked over abstract values: time that goes on, told.
  Groups, walked over abstract values: the law of an event's windows.
  Groups in plain Lean: two steps are one.
  Groups: events that are taken one behind the other, walked, and in plain Lean: in any order.
  Workers: facts on an item that is taken. Plain.
  Workers, walked over abstract values: an item that is taken.
  Workers, walked over abstract values: an item that is taken, in all cases.
  Workers, walked over abstract values: an item that is taken, by the reference.
  Workers, walked over abstract values: the law of what can be made.
  Layer ring in plain Lean: a text's hash, moves between owners; no program in sight. No condition.
  Walks of layer ring (its part without the library) and of its reference.
-/
import Derived.RowKit
import Derived.Laws.BitsAllLaws
import Derived.Test.YtilgagmfcdfjaaaGreatRows
import Derived.Test.YtilgagmfcdfjaaaGreatM1
import Derived.Test.YtilgagmfcdfjaaaGreatM4
import Derived.Test.YtilgagmfcdfjaaaGreatM8
import Derived.Test.YtilgagmfcdfjaaaGreatM9
import Derived.Test.YtilgagmfcdfjaaaGreatM13
import Derived.Test.YtilgagmfcdfjaaaGreatM16
set_option linter.unusedSimpArgs false
set_option linter.unusedVariables false
set_option maxHeartbeats 20000000
namespace Go.Proofs.YtilgagmfcdfjaaaGreat
open Go.RowKit
section
variable (m : Mk) (a : Al) (told : Int) (j : Jb) (input : Int) (x : It)
set_option maxRecDepth 10000 in
theorem y_goYes (gs : List Gp) (N : Nat) (hN : N = (gs.map Gp.av).length) (hx : gs.length ≤ 1000) (hp : ∀ g ∈ gs, g.ps.length ≤ 9223372036854775807) (hi : m.ins.length ≤ 9223372036854775807) (hh : m.hs.length ≤ 9223372036854775807) (hyes : (mkTell m).is = true) (hadv : ∀ g ∈ gs, (gpAdv j (mkTell m).t g).e = 0) :
  AC Tryz.prog 73 [.ref 0 0] [(0, .box 146 (wayC (.own 1 N) nilA m a told j input x)), (1, .row 98 3 (gs.map Gp.av))] (.v (.int .i64 0))
   [(0, .box 146 (wayC (.own 1 N) (.own 2 ((advT j (mkTell m).t gs).map It.av ++ [It.av (markItem (mkTell m).t)]).length) (mkTell m).m a (mkTell m).t j input x)), (1, .row 98 3 ((advM j (mkTell m).t gs).map Gp.av)), (2, .row 63 11 ((advT j (mkTell m).t gs).map It.av ++ [It.av (markItem (mkTell m).t)]))] := by
 have h := m_Tell m hi hh
 generalize mkTell m = T at *
 obtain ⟨tm, t, ti⟩ := T
 dsimp only at hyes hadv ⊢
 subst hyes
 simp only [MkT.av, Mk.av] at h
 have n1 : (gs.map Gp.av).length = gs.length := List.length_map _
 have hNI : (N : Int) = (gs.length : Int) := by rw [hN, n1]
 have hlenQ : ∀ q, N = ((advQ j t gs q).map Gp.av).length := fun q => by rw [List.length_map, advQ_len, hN, n1]
 have hR0 : (gs.map Gp.av) = (advQ j t gs 0).map Gp.av := by simp [advQ, advM]
 refine (ac_body tab_ok Tryz.func73 rfl (by kernel_rfl) rfl ?_); intro w0 M μ0; simp only [Tryz.ntmps73, List.length_cons, List.length_nil, Nat.reduceAdd, Nat.reduceSub, numb]
 unfold wayC
 repeat' (first | ((first | apply o_do | apply d_do | apply d_yes rfl rfl rfl); first | exact ls_nilCheck rfl rfl | exact lsc (h) | exact ls_len_own tab_ok rfl rfl hN rfl rfl | exact ls_alloc (k := 9) tab_zero rfl rfl rfl rfl | exact lsq) | refine a_seq ?_ | refine a_region ?_ | refine o_nil ?_ | refine a_block ?_ | refine a_ret ?_ | refine a_exit ?_ | refine a_skip ?_ | refine a_draw mixed ?_ | refine d_nil (by kernel_rfl) ?_ | refine o_yes rfl rfl rfl ?_ | refine o_no rfl rfl rfl (by decide) ?_ | refine o_no' rfl rfl rfl ?_ | refine a_condT rfl ?_ | refine a_condF rfl ?_ | refine d_no rfl rfl rfl (by decide) ?_ | refine d_no' rfl rfl rfl ?_ | (refine wq2 (fun hb => ?_) (fun hb => ?_) <;> (simp only [hb]; try simp only [hbs, ne_eq] at hb; try (exfalso; first | omega | exact hb trivial))) | fail)
 refine a_adoptB 0 28 2 63 11 rfl rfl rfl ?_
 refine a_loop (X := {q : Nat // q ≤ gs.length}) (fun y => ⟨[(0, .ref 0 0), (4, .v (.int .i64 t)), (34, .own 1 N), (35, .v (.int .i64 gs.length)), (36, .v (.int .i64 y.1))], [(0, .box 146 (wayC (.own 1 N) (.own 2 ((advT j t (gs.take y.1)).map It.av).length) tm a told j input x)), (1, .row 98 3 ((advQ j t gs y.1).map Gp.av)), (2, .row 63 11 ((advT j t (gs.take y.1)).map It.av))]⟩) (fun y => gs.length - y.1) ⟨0, Nat.zero_le _⟩ ?_ ?_
 ·refine ⟨by repeat' (first | exact trivial | exact FinA.one (FinB.cell (FinC.same rfl)) | exact FinA.one (FinB.cell FinC.nil) | exact FinA.bound rfl | exact FinA.one (FinB.cell (FinC.own rfl rfl rfl rfl)) | exact FinA.one (FinB.cell (FinC.v (by first | rfl | ((first | (rw [hNI]; done) | (simp only [hR0]; done) | simp [advT]))))) | exact FinA.one (FinB.cell (FinC.ow rfl (by first | rfl | ((first | (rw [hNI]; done) | (simp only [hR0]; done) | simp [advT]))))) | exact FinA.one (FinB.agg' rfl rfl) | refine ⟨⟨_, rfl, ?_⟩, ?_⟩), by repeat' (first | exact trivial | refine ⟨⟨_, rfl, by first | rfl | ((first | (rw [hNI]; done) | (simp only [hR0]; done) | simp [advT]); done) | (simp [renO, *]; done)⟩, by first | rfl | assumption, ?_⟩), rfl⟩
 rintro ⟨q, hq⟩
 dsimp only
 have hlenq := hlenQ q
 by_cases hlt : q < gs.length
 ·have hel : ((advQ j t gs q).map Gp.av)[q]? = some (Gp.av gs[q]) := by rw [List.getElem?_map, advQ_at j t gs q hlt]; rfl
  have hqx : q < ((advQ j t gs q).map Gp.av).length := by rw [← hlenq]; omega
  have hsn := take_snoc gs q hlt
  have hT := advT_snoc j t (gs.take q) gs[q]
  rw [← hsn] at hT
  have hset := advQ_set j t gs q hlt
  have he := hadv _ (List.getElem_mem hlt)
  have ht := g_Advance j.g j.s j.d j.k j.fu j.li j.de j.id gs[q].no gs[q].mark gs[q].ps t (hp _ (List.getElem_mem hlt))
  have hl3 := advT_le j t (gs.take q)
  rw [List.length_take] at hl3
  have hrs := adv_rs j.s j.d j.k gs[q].no gs[q].mark gs[q].ps t
  generalize gs[q] = y at *
  obtain ⟨yn, ym, yp⟩ := y
  unfold gpAdv at hT hset he
  dsimp only at ht hT hrs hset he
  generalize adv j.s j.d j.k yn ym yp t = T at *
  obtain ⟨tn, tmk, tp, rs, te⟩ := T
  simp only [AdvR.av] at ht
  dsimp only [AdvR.gp] at hrs hT hset he
  subst he
  have hsetA : ((advQ j t gs q).map Gp.av).set q (Gp.av ⟨tn, tmk, tp⟩) = (advQ j t gs (q + 1)).map Gp.av := by rw [← hset, List.map_set]
  have hlenq1 := hlenQ (q + 1)
  repeat' (first | ((first | apply o_do | apply d_do | apply d_yes rfl rfl rfl); first | exact ls_nilCheck rfl rfl | exact ls_indexAddr_own tab_ok rfl rfl hlenq rfl rfl rfl hqx rfl | exact ls_load_eref tab_ok rfl rfl hlenq hel rfl rfl rfl rfl | exact ls_store_eref (cs' := Gp.av ⟨tn, tmk, tp⟩) tab_ok rfl rfl rfl hlenq hel rfl rfl (pureG ⟨tn, tmk, tp⟩) rfl rfl rfl rfl | exact lsc (ht) | exact lsq) | refine a_seq ?_ | refine a_region ?_ | refine o_nil ?_ | refine a_block ?_ | refine a_ret ?_ | refine a_exit ?_ | refine a_skip ?_ | refine a_draw mixed ?_ | refine d_nil (by kernel_rfl) ?_ | refine o_yes rfl rfl rfl ?_ | refine o_no rfl rfl rfl (by decide) ?_ | refine o_no' rfl rfl rfl ?_ | refine a_condT rfl ?_ | refine a_condF rfl ?_ | refine d_no rfl rfl rfl (by decide) ?_ | refine d_no' rfl rfl rfl ?_ | (refine wq2 (fun hb => ?_) (fun hb => ?_) <;> (simp only [hb]; try simp only [hbs, ne_eq] at hb; try (exfalso; first | omega | exact hb trivial))) | fail)
  refine a_loop (X := {p : Nat // p ≤ rs.length}) (fun y => ⟨[(0, .ref 0 0), (4, .v (.int .i64 t)), (34, .own 1 N), (35, .v (.int .i64 gs.length)), (36, .v (.int .i64 q)), (63, .sl 5 (rs.map Rs.av)), (64, .v (.int .i64 rs.length)), (65, .v (.int .i64 y.1))], [(0, .box 146 (wayC (.own 1 N) (.own 2 ((advT j t (gs.take q)).map It.av ++ ((rs.take y.1).map resItem).map It.av).length) tm a told j input x)), (1, .row 98 3 ((advQ j t gs (q + 1)).map Gp.av)), (2, .row 63 11 ((advT j t (gs.take q)).map It.av ++ ((rs.take y.1).map resItem).map It.av))]⟩) (fun y => rs.length - y.1) ⟨0, Nat.zero_le _⟩ ?_ ?_
  ·refine ⟨by repeat' (first | exact trivial | exact FinA.one (FinB.cell (FinC.same rfl)) | exact FinA.one (FinB.cell FinC.nil) | exact FinA.bound rfl | exact FinA.one (FinB.cell (FinC.own rfl rfl rfl rfl)) | exact FinA.one (FinB.cell (FinC.v (by first | rfl | ((first | (simp only [hsetA]; done) | simp))))) | exact FinA.one (FinB.cell (FinC.ow rfl (by first | rfl | ((first | (simp only [hsetA]; done) | simp))))) | exact FinA.one (FinB.agg' rfl rfl) | refine ⟨⟨_, rfl, ?_⟩, ?_⟩), by repeat' (first | exact trivial | refine ⟨⟨_, rfl, by first | rfl | ((first | (simp only [hsetA]; done) | simp); done) | (simp [renO, *]; done)⟩, by first | rfl | assumption, ?_⟩), rfl⟩
  rintro ⟨p, hpp⟩
  dsimp only
  by_cases hpl : p < rs.length
  ·have hel2 : (rs.map Rs.av)[p]? = some (Rs.av rs[p]) := by simp [hpl]
   have hsn2 := take_snoc rs p hpl
   have hl4 : ((advT j t (gs.take q)).map It.av ++ ((rs.take p).map resItem).map It.av).length ≤ 100000000 := by simp; omega
   generalize rs[p] = z at *
   have hty := y_tell N ((advQ j t gs (q + 1)).map Gp.av) tm a told j input x ((advT j t (gs.take q)).map It.av ++ ((rs.take p).map resItem).map It.av) (resItem z) hl4
   have e : (advT j t (gs.take q)).map It.av ++ ((rs.take (p + 1)).map resItem).map It.av = ((advT j t (gs.take q)).map It.av ++ ((rs.take p).map resItem).map It.av) ++ [It.av (resItem z)] := by rw [hsn2]; simp
   repeat' (first | ((first | apply o_do | apply d_do | apply d_yes rfl rfl rfl); first | exact ls_indexAddr_sl tab_ok rfl rfl rfl rfl hel2 rfl | exact lca [0, 1, 2] 3 hty | exact lsq) | refine a_seq ?_ | refine a_region ?_ | refine o_nil ?_ | refine a_block ?_ | refine a_ret ?_ | refine a_exit ?_ | refine a_skip ?_ | refine a_draw mixed ?_ | refine d_nil (by kernel_rfl) ?_ | refine o_yes rfl rfl rfl ?_ | refine o_no rfl rfl rfl (by decide) ?_ | refine o_no' rfl rfl rfl ?_ | refine a_condT rfl ?_ | refine a_condF rfl ?_ | refine d_no rfl rfl rfl (by decide) ?_ | refine d_no' rfl rfl rfl ?_ | (refine wq2 (fun hb => ?_) (fun hb => ?_) <;> (simp only [hb]; try simp only [hbs, ne_eq] at hb; try (exfalso; first | omega | exact hb trivial))) | fail)
   refine ⟨⟨p + 1, by omega⟩, by dsimp only; omega, ?_⟩
   refine ⟨by repeat' (first | exact trivial | exact FinA.one (FinB.cell (FinC.same rfl)) | exact FinA.one (FinB.cell FinC.nil) | exact FinA.bound rfl | exact FinA.one (FinB.cell (FinC.own rfl rfl rfl rfl)) | exact FinA.one (FinB.cell (FinC.v (by first | rfl | ((first | (simp only [e]; done) | (simp only [e]; rfl) | simp))))) | exact FinA.one (FinB.cell (FinC.ow rfl (by first | rfl | ((first | (simp only [e]; done) | (simp only [e]; rfl) | simp))))) | exact FinA.one (FinB.agg' rfl rfl) | refine ⟨⟨_, rfl, ?_⟩, ?_⟩), by repeat' (first | exact trivial | refine ⟨⟨_, rfl, by first | rfl | ((first | (simp only [e]; done) | (simp only [e]; rfl) | simp); done) | (simp [renO, *]; done)⟩, by first | rfl | assumption, ?_⟩), rfl⟩
  ·obtain rfl : p = rs.length := by omega
   rw [List.take_length]
   have eT : (advT j t (gs.take (q + 1))).map It.av = (advT j t (gs.take q)).map It.av ++ (rs.map resItem).map It.av := by rw [hT]; simp
   repeat' (first | ((first | apply o_do | apply d_do | apply d_yes rfl rfl rfl); exact lsq) | refine a_seq ?_ | refine a_region ?_ | refine o_nil ?_ | refine a_block ?_ | refine a_ret ?_ | refine a_exit ?_ | refine a_skip ?_ | refine a_draw mixed ?_ | refine d_nil (by kernel_rfl) ?_ | refine o_yes rfl rfl rfl ?_ | refine o_no rfl rfl rfl (by decide) ?_ | refine o_no' rfl rfl rfl ?_ | refine a_condT rfl ?_ | refine a_condF rfl ?_ | refine d_no rfl rfl rfl (by decide) ?_ | refine d_no' rfl rfl rfl ?_ | (refine wq2 (fun hb => ?_) (fun hb => ?_) <;> (simp only [hb]; try simp only [hbs, ne_eq] at hb; try (exfalso; first | omega | exact hb trivial))) | fail)
   refine ⟨⟨q + 1, by omega⟩, by dsimp only; omega, ?_⟩
   refine ⟨by repeat' (first | exact trivial | exact FinA.one (FinB.cell (FinC.same rfl)) | exact FinA.one (FinB.cell FinC.nil) | exact FinA.bound rfl | exact FinA.one (FinB.cell (FinC.own rfl rfl rfl rfl)) | exact FinA.one (FinB.cell (FinC.v (by first | rfl | ((first | (simp only [eT]; done) | (simp only [eT]; rfl) | simp))))) | exact FinA.one (FinB.cell (FinC.ow rfl (by first | rfl | ((first | (simp only [eT]; done) | (simp only [eT]; rfl) | simp))))) | exact FinA.one (FinB.agg' rfl rfl) | refine ⟨⟨_, rfl, ?_⟩, ?_⟩), by repeat' (first | exact trivial | refine ⟨⟨_, rfl, by first | rfl | ((first | (simp only [eT]; done) | (simp only [eT]; rfl) | simp); done) | (simp [renO, *]; done)⟩, by first | rfl | assumption, ?_⟩), rfl⟩
 ·obtain rfl : q = gs.length := by omega
  rw [List.take_length]
  have hQ : (advQ j t gs gs.length).map Gp.av = (advM j t gs).map Gp.av := by simp [advQ]
  have hl3 := advT_le j t gs
  have hl4 : ((advT j t gs).map It.av).length ≤ 100000000 := by rw [List.length_map]; omega
  have hty := y_tell N ((advQ j t gs gs.length).map Gp.av) tm a t j input x ((advT j t gs).map It.av) (markItem t) hl4
  rw [hQ] at hty ⊢
  repeat' (first | ((first | apply o_do | apply d_do | apply d_yes rfl rfl rfl); first | exact ls_nilCheck rfl rfl | exact lca [0, 1, 2] 3 hty | exact lsq) | refine a_seq ?_ | refine a_region ?_ | refine o_nil ?_ | refine a_block ?_ | refine a_ret ?_ | refine a_exit ?_ | refine a_skip ?_ | refine a_draw mixed ?_ | refine d_nil (by kernel_rfl) ?_ | refine o_yes rfl rfl rfl ?_ | refine o_no rfl rfl rfl (by decide) ?_ | refine o_no' rfl rfl rfl ?_ | refine a_condT rfl ?_ | refine a_condF rfl ?_ | refine d_no rfl rfl rfl (by decide) ?_ | refine d_no' rfl rfl rfl ?_ | (refine wq2 (fun hb => ?_) (fun hb => ?_) <;> (simp only [hb]; try simp only [hbs, ne_eq] at hb; try (exfalso; first | omega | exact hb trivial))) | fail)
  refine rq rfl ?_
  exact fnq
end
section
variable {s d t mark : Int}
end
theorem evR_okT {s d k : Int} {key : ByteArray} {t : Int} (h1 : jobR s d k = true) (h2 : evR key t = true) : okT s d t = true := by
 unfold jobR at h1
 unfold evR at h2
 unfold okT
 simp only [Bool.and_eq_true] at h1 h2 ⊢
 exact ⟨h1.1, h2.2⟩
section
variable (g s d k fu li de id no mark : Int) (ps : List Pn) (key : ByteArray) (at' v : Int)
end
theorem grR_iff {no mark : Int} {ps : List Pn} : grR no mark ps = true ↔ 0 ≤ no ∧ no < 32 ∧ 0 ≤ mark ∧ mark ≤ 1099511627776 ∧ rightL ps = true ∧ ∀ p ∈ ps, mark < p.hi := by
 simp [grR]
theorem dueB_dueB (ps : List Pn) {m1 m2 : Int} (h : m1 ≤ m2) : dueB (dueB ps m1) m2 = dueB ps m2 := by
 unfold dueB
 rw [List.filter_filter]
 congr 1
 funext p
 by_cases h1 : p.hi ≤ m2
 ·simp [h1]
 ·have : ¬ p.hi ≤ m1 := by omega
  simp [h1, this]
theorem dueA_none {ps : List Pn} {m : Int} (h : ∀ p ∈ ps, ¬ p.hi ≤ m) : dueA ps m = [] := by
 unfold dueA
 rw [List.filter_eq_nil_iff]
 intro p hp
 simp [h p hp]
theorem dueB_all {ps : List Pn} {m : Int} (h : ∀ p ∈ ps, ¬ p.hi ≤ m) : dueB ps m = ps := by
 unfold dueB
 rw [List.filter_eq_self]
 intro p hp
 simp [h p hp]
theorem dueA_steps {m1 m2 : Int} (h : m1 ≤ m2) : ∀ (ps : List Pn), ps.Pairwise (fun p q => ahead p q = true) → dueA ps m1 ++ dueA (dueB ps m1) m2 = dueA ps m2 := by
 intro ps
 induction ps with
 | nil => intro _; rfl
 | cons p l ih =>
  intro hp
  rw [List.pairwise_cons] at hp
  by_cases h1 : p.hi ≤ m1
  ·have h2 : p.hi ≤ m2 := by omega
   have := ih hp.2
   unfold dueA dueB at this ⊢
   simp only [List.filter_cons, h1, h2, decide_true, if_true, Bool.not_true, Bool.false_eq_true, if_false, List.cons_append, this]
  ·have hall : ∀ q ∈ p :: l, ¬ q.hi ≤ m1 := by
    intro q hq
    rcases List.mem_cons.1 hq with rfl | hq
    ·exact h1
    ·have := ahead_hi (hp.1 q hq); omega
   rw [dueA_none hall, dueB_all hall, List.nil_append]
theorem resultsL_app {k : Int} {a b c : List Pn} (ha : rightL a = true) (hb : rightL b = true) (hc : rightL c = true) (h : a ++ b = c) : resultsL k a ++ resultsL k b = resultsL k c := by
 subst h
 unfold resultsL
 rw [ha, hb, hc]
 cases fRight k <;> simp
theorem dueA_sub (ps : List Pn) (m : Int) : (dueA ps m).Sublist ps := List.filter_sublist
theorem dueB_sub (ps : List Pn) (m : Int) : (dueB ps m).Sublist ps := List.filter_sublist
theorem resultsL_nil (k : Int) : resultsL k [] = [] := by unfold resultsL; split <;> rfl
def oneE (k : Int) (e : Et) (w : Wn) : Pn := oneP k w.lo w.hi e.key e.v
def evVals (s d k mark : Int) (e : Et) : List Pn := (openL s d e.at' mark).map (oneE k e)
def allE (s d k no mark : Int) : List Pn → List Et → List Pn × Bool
 | ps, [] => (ps, true)
 | ps, e :: es => if (takeR s d k no mark ps e.key e.at' e.v).e = 0 then allE s d k no mark (takeR s d k no mark ps e.key e.at' e.v).ps es else (ps, false)
section
variable {s d k no mark : Int}
theorem takeR_form (s d k no mark : Int) (ps : List Pn) (key : ByteArray) (at' v : Int) : (∃ l n, takeR s d k no mark ps key at' v = ⟨no, mark, l, n, 0⟩) ∨ (∃ e, takeR s d k no mark ps key at' v = ⟨0, 0, [], 0, e⟩ ∧ e ≠ 0) := by
 unfold takeR
 split
 ·exact .inr ⟨130, rfl, by omega⟩
 ·split
  ·exact .inr ⟨1, rfl, by omega⟩
  ·split
   ·exact .inl ⟨_, _, rfl⟩
   ·rename_i h; exact .inr ⟨_, rfl, h⟩
theorem vals_may (hj : jobR s d k = true) {e : Et} (he : evR e.key e.at' = true) : ∀ p ∈ evVals s d k mark e, mayB p = true ∧ p.n = 1 ∧ mark < p.hi := by
 have hok := evR_okT hj he
 have hk : fRight k = true := by unfold jobR at hj; simp only [Bool.and_eq_true] at hj; exact hj.2
 intro p hp
 obtain ⟨w, hw, rfl⟩ := List.mem_map.1 hp
 have hw' := List.mem_filter.1 hw
 obtain ⟨a1, a2, a3⟩ := win_may hok hw'.1
 have h2 : mark < w.hi := by
  have := hw'.2
  simp [closedW] at this
  omega
 have hn : (fOne k e.v).n = 1 := fOne_n hk
 have hkey : keyB e.key = true := by unfold evR at he; simp only [Bool.and_eq_true] at he; exact he.1
 refine ⟨?_, hn, h2⟩
 simp [mayB, oneE, oneP, hkey, hn, a1, a2, a3]
theorem fold_keeps (hk : fRight k = true) {vs : List Pn} : ∀ {ps r : List Pn}, grR no mark ps = true → (∀ p ∈ vs, mayB p = true ∧ p.n = 1 ∧ mark < p.hi) → vs.foldlM (putL k) ps = some r → grR no mark r = true := by
 induction vs with
 | nil => intro ps r hg _ h; simp at h; subst h; exact hg
 | cons x vs ih =>
  intro ps r hg hm h
  rw [List.foldlM_cons] at h
  cases hp : putL k ps x with
  | none => rw [hp] at h; cases h
  | some l =>
   rw [hp] at h
   refine ih ?_ (fun p hq => hm p (List.mem_cons_of_mem _ hq)) h
   obtain ⟨h1, h2, h3, h4, h5, h6⟩ := grR_iff.1 hg
   obtain ⟨m1, m2, m3⟩ := hm x List.mem_cons_self
   refine grR_iff.2 ⟨h1, h2, h3, h4, putL_right hp h5 m1, fun q hq => ?_⟩
   rw [putL_ins hp] at hq
   rcases ins_mem q hq with a | a | ⟨p, a, b, _⟩
   ·exact h6 q a
   ·rw [a]; exact m3
   ·rw [b]; exact h6 p a
theorem allE_char (hj : jobR s d k = true) {es : List Et} : ∀ {ps r : List Pn}, grR no mark ps = true → (allE s d k no mark ps es = (r, true) ↔ (∀ e ∈ es, evR e.key e.at' = true) ∧ (es.flatMap (evVals s d k mark)).foldlM (putL k) ps = some r) := by
 have hk : fRight k = true := by unfold jobR at hj; simp only [Bool.and_eq_true] at hj; exact hj.2
 induction es with
 | nil => intro ps r _; simp [allE]
 | cons e es ih =>
  intro ps r hg
  rw [List.flatMap_cons, List.foldlM_append]
  cases he : evR e.key e.at'
  ·have : takeR s d k no mark ps e.key e.at' e.v = ⟨0, 0, [], 0, 1⟩ := by simp [takeR, hj, he]
   rw [allE, this]
   simp [he]
  ·have hv := vals_may (mark := mark) hj he
   have hr := (grR_iff.1 hg).2.2.2.2.1
   have hw := takeW_fold hk (key := e.key) (v := e.v) (ws := openL s d e.at' mark) hr (fun w hw => (hv (oneE k e w) (List.mem_map_of_mem hw)).1)
   have hvv : ((openL s d e.at' mark).map fun w => oneP k w.lo w.hi e.key e.v) = evVals s d k mark e := rfl
   rw [hvv] at hw
   cases hf : (evVals s d k mark e).foldlM (putL k) ps with
   | none =>
    rw [hf] at hw
    have : takeR s d k no mark ps e.key e.at' e.v = ⟨0, 0, [], 0, 3⟩ := by simp [takeR, hj, he, hg, hw]
    rw [allE, this]
    simp
   | some l =>
    rw [hf] at hw
    have ht : takeR s d k no mark ps e.key e.at' e.v = ⟨no, mark, l, (openL s d e.at' mark).length, 0⟩ := by simp [takeR, hj, he, hg, hw]
    rw [allE, ht]
    simp only [if_true, Option.bind_eq_bind, Option.bind_some]
    rw [ih (fold_keeps hk hg hv hf)]
    simp [he]
end
section
variable (g s d k fu li de id no mark : Int)
end
theorem gsR_at {gs : List Gp} (h : gsR gs = true) (i : Nat) (hi : i < gs.length) : grR gs[i].no gs[i].mark gs[i].ps = true := by
 have := List.all_eq_true.1 h i (List.mem_range.2 hi)
 simp only [gpG, getD_at hi, Bool.and_eq_true] at this
 exact this.1
theorem gsR_lt {gs : List Gp} (h : gsR gs = true) : ∀ (d i : Nat) (hi : i + d + 1 < gs.length), gs[i].no < gs[i + d + 1].no
 | 0, i, hi => by
  have := List.all_eq_true.1 h (i + 1) (List.mem_range.2 hi)
  simp only [gpG, getD_at hi, Bool.and_eq_true, Bool.or_eq_true, decide_eq_true_eq, Nat.add_sub_cancel] at this
  rcases this.2 with h1 | h1
  ·omega
  ·have e : gs.getD i ⟨0, 0, []⟩ = gs[i] := getD_at (by omega)
   rw [e] at h1
   exact h1
 | d + 1, i, hi => by
  have h1 := gsR_lt h d i (by omega)
  have h2 := gsR_lt h 0 (i + d + 1) (by omega)
  simp only [Nat.add_zero] at h2
  exact Int.lt_trans h1 h2
theorem gsR_ne {gs : List Gp} (h : gsR gs = true) {p q : Nat} (hp : p < gs.length) (hq : q < gs.length) (hne : p ≠ q) : gs[p].no ≠ gs[q].no := by
 rcases Nat.lt_or_gt_of_ne hne with hl | hl
 ·have := gsR_lt h (q - p - 1) p (by omega)
  have e : p + (q - p - 1) + 1 = q := by omega
  simp only [e] at this
  omega
 ·have := gsR_lt h (p - q - 1) q (by omega)
  have e : q + (p - q - 1) + 1 = p := by omega
  simp only [e] at this
  omega
theorem put_none {j : Jb} {no : Int} {x : It} {gs : List Gp} (h : ∀ g ∈ gs, ¬ g.no = no) : putM j no x gs = gs ∧ putB j no x gs = 160 := by
 constructor
 ·unfold putM
  conv => rhs; rw [← List.map_id gs]
  exact List.map_congr_left fun g hg => by rw [if_neg (h g hg)]; rfl
 ·unfold putB
  have : ∀ (l : List Gp) (b : Int), (∀ g ∈ l, ¬ g.no = no) → l.foldl (fun b g => if g.no = no then (gpTake j x g).e else b) b = b := by
   intro l
   induction l with
   | nil => intro b _; rfl
   | cons g l ih =>
    intro b hl
    simp only [List.foldl_cons]
    rw [if_neg (hl g (by simp))]
    exact ih b fun g hg => hl g (by simp [hg])
  exact this gs 160 h
theorem put_at {j : Jb} {no : Int} {x : It} {gs : List Gp} (hR : gsR gs = true) {q : Nat} (hq : q < gs.length) (hno : gs[q].no = no) : putM j no x gs = gs.set q (gpTake j x gs[q]).gp ∧ putB j no x gs = (gpTake j x gs[q]).e := by
 have hother : ∀ p (hp : p < gs.length), p ≠ q → ¬ gs[p].no = no := fun p hp hne h => gsR_ne hR hp hq hne (h.trans hno.symm)
 constructor
 ·apply List.ext_getElem
  ·simp [putM]
  ·intro p h1 h2
   have hp : p < gs.length := by simpa [putM] using h1
   rw [List.getElem_set]
   simp only [putM, List.getElem_map]
   by_cases e : q = p
   ·subst e; rw [if_pos hno, if_pos rfl]
   ·rw [if_neg (hother p hp (Ne.symm e)), if_neg e]
 ·have e1 : gs = gs.take q ++ gs[q] :: gs.drop (q + 1) := by rw [← List.drop_eq_getElem_cons hq, List.take_append_drop]
  have h1 : ∀ g ∈ gs.drop (q + 1), ¬ g.no = no := by
   intro g hg
   obtain ⟨i, hi, rfl⟩ := List.getElem_of_mem hg
   rw [List.getElem_drop]
   rw [List.length_drop] at hi
   exact hother _ (by omega) (by omega)
  have h2 : ∀ (l : List Gp) (b : Int), (∀ g ∈ l, ¬ g.no = no) → l.foldl (fun b g => if g.no = no then (gpTake j x g).e else b) b = b := by
   intro l
   induction l with
   | nil => intro b _; rfl
   | cons g l ih =>
    intro b hl
    simp only [List.foldl_cons]
    rw [if_neg (hl g (by simp))]
    exact ih b fun g hg => hl g (by simp [hg])
  unfold putB
  have e2 : gs.foldl (fun b g => if g.no = no then (gpTake j x g).e else b) 160 = (gs.take q ++ gs[q] :: gs.drop (q + 1)).foldl (fun b g => if g.no = no then (gpTake j x g).e else b) 160 := congrArg (fun l => List.foldl (fun b g => if g.no = no then (gpTake j x g).e else b) 160 l) e1
  rw [e2, List.foldl_append, List.foldl_cons, h2 _ _ h1, if_pos hno]
theorem take_grR {s d k no mark : Int} {ps : List Pn} {key : ByteArray} {at' v : Int} (hj : jobR s d k = true) (hg : grR no mark ps = true) (he : (takeR s d k no mark ps key at' v).e = 0) : grR no mark (takeR s d k no mark ps key at' v).ps = true ∧ (takeR s d k no mark ps key at' v).no = no ∧ (takeR s d k no mark ps key at' v).mark = mark := by
 rcases takeR_form s d k no mark ps key at' v with ⟨l, n, h⟩ | ⟨e, h, hne⟩
 ·rw [h]
  have hall : allE s d k no mark ps [⟨key, at', v⟩] = (l, true) := by
   simp only [allE, h]
   simp [allE]
  obtain ⟨h1, h2⟩ := (allE_char hj hg).1 hall
  have hk : fRight k = true := by simp only [jobR, Bool.and_eq_true] at hj; exact hj.2
  refine ⟨fold_keeps hk hg ?_ h2, rfl, rfl⟩
  intro p hp
  obtain ⟨e, he, hp⟩ := List.mem_flatMap.1 hp
  exact vals_may hj (h1 e he) p hp
 ·rw [h] at he
  exact absurd he hne
theorem adv_ok {s d k no mark : Int} {ps : List Pn} {t : Int} (hj : jobR s d k = true) (hg : grR no mark ps = true) : (adv s d k no mark ps t).e = 0 := by
 unfold adv
 rw [if_neg (by rw [hj]; simp), if_neg (by rw [hg]; simp)]
 split <;> rfl
theorem offer_ok {a : Al} {i : Int} {x : It} (hx : itR x = true) (he : (alOffer a i x).e = 0) : alHas a i = true ∧ ((alOffer a i x).pass = true → (alOffer a i x).done = 0 ∧ x.kind ≠ 4) ∧ (¬ 0 < (alOffer a i x).done → (alOffer a i x).late = []) := by
 have h4 : x.kind = 4 → 0 < x.n := by
  intro h
  obtain ⟨kind, k, av, v, m, n, lo, hi, rk, rn, rv⟩ := x
  dsimp only at h ⊢
  subst h
  simp only [itR, Bool.and_eq_true, decide_eq_true_eq] at hx
  simp at hx
  omega
 unfold alOffer at he ⊢
 split at he
 ·simp at he
 ·rename_i hc
  rw [if_neg hc]
  have hh : alHas a i = true := by
   cases h : alHas a i
   ·rw [h] at hc; simp at hc
   ·rfl
  refine ⟨hh, ?_⟩
  split
  ·split
   ·exact ⟨fun h => by simp at h, fun _ => rfl⟩
   ·exact ⟨fun h => by simp at h, fun _ => rfl⟩
  ·split
   ·rename_i hk; exact ⟨fun _ => ⟨rfl, hk⟩, fun _ => rfl⟩
   ·rename_i hk
    split
    ·exact ⟨fun h => by simp at h, fun _ => rfl⟩
    ·split
     ·exact ⟨fun h => by simp at h, fun _ => rfl⟩
     ·refine ⟨fun h => by simp at h, fun h => absurd (h4 (by simpa using hk)) h⟩
theorem o_adoptB {P : Program} {Γ : Ctx} {Q : Exit → ASt → Prop} {s : ASt} {ops : Array Oper} {rest : List Oper} (b i k e size : Nat) {t : TypeId} {cs : List AV} (hb : find s.σ b = some (.box t cs)) (hv : cs[i]? = some (.v (.slice none 0 0))) (hk : find s.σ k = none) (h : AOps P Γ ops rest Q ⟨s.regs, (b, .box t (cs.set i (.own k 0))) :: (k, .row e size []) :: s.σ⟩) : AOps P Γ ops rest Q s := by
 refine ⟨fun hnd μ a w hr => h.out hnd (setμ μ k (.slice none 0 0)) a w ?_⟩
 have hn := hr.new (w' := w) (v := .slice none 0 0) (o := .row e size []) hk (Below.refl _ w) (by simp [blk]) (fun μ' A hμ hμk hA hst => ⟨[], by rw [hμk]; exact OwnS.nil, by simp [repLL]⟩)
 have hbk : k ≠ b := fun e1 => by subst e1; rw [hk] at hb; cases hb
 have hb' : find ((k, SObj.row e size []) :: s.σ) b = some (.box t cs) := by rw [find_cons, if_neg hbk]; exact hb
 obtain ⟨g, us, hg1, hg2, hg3⟩ := hn.store.obj b _ hb'
 have hs := store_rel (s := s.eff [] [(k, .row e size [])]) (o' := .box t (cs.set i (.own k 0))) (g := g) hn hb' (by rw [hg1]; rfl) rfl rfl rfl rfl (fun _ _ => rfl) ⟨rfl, List.length_set⟩ (fun A hst hA => by
  refine ⟨g, us, hg1, hg2, repC_set (repC_mono hst hg3) hv (fun _ => ?_)⟩
  simp only [rep]
  refine ⟨rfl, .inr ⟨e, size, [], ?_, Nat.le_refl _, fun _ => (setμ_same _ _ _).symm⟩⟩
  rw [find_cons, if_neg (Ne.symm hbk)]
  simp [ASt.eff, find_cons])
 exact hs
theorem y_of1 : PC Tryz.prog 72 [.v (.int .i64 1)] (.clo (.func 103) [] []) := by
 refine PC.mk (ac_body tab_ok Tryz.func72 rfl (by kernel_rfl) rfl ?_); intro w0 M μ0; simp only [Tryz.ntmps72, List.length_cons, List.length_nil, Nat.reduceAdd, Nat.reduceSub, numb]
 repeat' (first | ((first | apply o_do | apply d_do | apply d_yes rfl rfl rfl); exact lsq) | refine a_seq ?_ | refine a_region ?_ | refine o_nil ?_ | refine a_block ?_ | refine a_ret ?_ | refine a_exit ?_ | refine a_skip ?_ | refine a_draw mixed ?_ | refine d_nil (by kernel_rfl) ?_ | refine o_yes rfl rfl rfl ?_ | refine o_no rfl rfl rfl (by decide) ?_ | refine o_no' rfl rfl rfl ?_ | refine a_condT rfl ?_ | refine a_condF rfl ?_ | refine d_no rfl rfl rfl (by decide) ?_ | refine d_no' rfl rfl rfl ?_ | (refine wq2 (fun hb => ?_) (fun hb => ?_) <;> (simp only [hb]; try simp only [hbs, ne_eq] at hb; try (exfalso; first | omega | exact hb trivial))) | fail)
 refine rq rfl ?_
 (first | refine FinA.tup ?_ | refine FinA.clo ?_ ?_ | refine FinA.one ?_); repeat' (first | exact FinBs.nil | exact FinCs.nil | refine FinBs.cons ?_ ?_ | refine FinCs.cons ?_ ?_ | refine FinB.cell (FinC.v ?_) | refine FinB.cell (FinC.own rfl rfl rfl ?_) | exact FinB.cell (FinC.el rfl rfl rfl rfl) | exact FinB.cell FinC.nil | refine FinB.cell (FinC.sl ?_) | exact FinB.agg' rfl rfl | exact FinB.cell (FinC.same rfl) | refine FinB.agg ?_ | refine FinC.v ?_ | refine FinC.own rfl rfl rfl ?_ | exact FinC.nil | refine FinC.sl ?_ | exact FinC.same rfl); all_goals try rfl
theorem y_of2 : PC Tryz.prog 72 [.v (.int .i64 2)] (.clo (.func 104) [] []) := by
 refine PC.mk (ac_body tab_ok Tryz.func72 rfl (by kernel_rfl) rfl ?_); intro w0 M μ0; simp only [Tryz.ntmps72, List.length_cons, List.length_nil, Nat.reduceAdd, Nat.reduceSub, numb]
 repeat' (first | ((first | apply o_do | apply d_do | apply d_yes rfl rfl rfl); exact lsq) | refine a_seq ?_ | refine a_region ?_ | refine o_nil ?_ | refine a_block ?_ | refine a_ret ?_ | refine a_exit ?_ | refine a_skip ?_ | refine a_draw mixed ?_ | refine d_nil (by kernel_rfl) ?_ | refine o_yes rfl rfl rfl ?_ | refine o_no rfl rfl rfl (by decide) ?_ | refine o_no' rfl rfl rfl ?_ | refine a_condT rfl ?_ | refine a_condF rfl ?_ | refine d_no rfl rfl rfl (by decide) ?_ | refine d_no' rfl rfl rfl ?_ | (refine wq2 (fun hb => ?_) (fun hb => ?_) <;> (simp only [hb]; try simp only [hbs, ne_eq] at hb; try (exfalso; first | omega | exact hb trivial))) | fail)
 refine rq rfl ?_
 (first | refine FinA.tup ?_ | refine FinA.clo ?_ ?_ | refine FinA.one ?_); repeat' (first | exact FinBs.nil | exact FinCs.nil | refine FinBs.cons ?_ ?_ | refine FinCs.cons ?_ ?_ | refine FinB.cell (FinC.v ?_) | refine FinB.cell (FinC.own rfl rfl rfl ?_) | exact FinB.cell (FinC.el rfl rfl rfl rfl) | exact FinB.cell FinC.nil | refine FinB.cell (FinC.sl ?_) | exact FinB.agg' rfl rfl | exact FinB.cell (FinC.same rfl) | refine FinB.agg ?_ | refine FinC.v ?_ | refine FinC.own rfl rfl rfl ?_ | exact FinC.nil | refine FinC.sl ?_ | exact FinC.same rfl); all_goals try rfl
theorem y_of3 : PC Tryz.prog 72 [.v (.int .i64 3)] (.clo (.func 105) [] []) := by
 refine PC.mk (ac_body tab_ok Tryz.func72 rfl (by kernel_rfl) rfl ?_); intro w0 M μ0; simp only [Tryz.ntmps72, List.length_cons, List.length_nil, Nat.reduceAdd, Nat.reduceSub, numb]
 repeat' (first | ((first | apply o_do | apply d_do | apply d_yes rfl rfl rfl); exact lsq) | refine a_seq ?_ | refine a_region ?_ | refine o_nil ?_ | refine a_block ?_ | refine a_ret ?_ | refine a_exit ?_ | refine a_skip ?_ | refine a_draw mixed ?_ | refine d_nil (by kernel_rfl) ?_ | refine o_yes rfl rfl rfl ?_ | refine o_no rfl rfl rfl (by decide) ?_ | refine o_no' rfl rfl rfl ?_ | refine a_condT rfl ?_ | refine a_condF rfl ?_ | refine d_no rfl rfl rfl (by decide) ?_ | refine d_no' rfl rfl rfl ?_ | (refine wq2 (fun hb => ?_) (fun hb => ?_) <;> (simp only [hb]; try simp only [hbs, ne_eq] at hb; try (exfalso; first | omega | exact hb trivial))) | fail)
 refine rq rfl ?_
 (first | refine FinA.tup ?_ | refine FinA.clo ?_ ?_ | refine FinA.one ?_); repeat' (first | exact FinBs.nil | exact FinCs.nil | refine FinBs.cons ?_ ?_ | refine FinCs.cons ?_ ?_ | refine FinB.cell (FinC.v ?_) | refine FinB.cell (FinC.own rfl rfl rfl ?_) | exact FinB.cell (FinC.el rfl rfl rfl rfl) | exact FinB.cell FinC.nil | refine FinB.cell (FinC.sl ?_) | exact FinB.agg' rfl rfl | exact FinB.cell (FinC.same rfl) | refine FinB.agg ?_ | refine FinC.v ?_ | refine FinC.own rfl rfl rfl ?_ | exact FinC.nil | refine FinC.sl ?_ | exact FinC.same rfl); all_goals try rfl
theorem itR_kind {x : It} (h : itR x = true) : x.kind = 1 ∨ x.kind = 2 ∨ x.kind = 3 ∨ x.kind = 4 ∨ x.kind = 5 := by
 obtain ⟨kind, k, av, v, m, n, lo, hi, rk, rn, rv⟩ := x
 dsimp only
 simp only [itR] at h
 split at h
 ·omega
 split at h
 ·omega
 split at h
 ·omega
 split at h
 ·omega
 split at h
 ·omega
 ·simp at h
set_option maxRecDepth 10000 in
theorem w_Stops (j : Jb) (no : Int) (w : Wk) (input : Int) (x : It) (hw : WkOk w)
  (hstop : jobOK j.g j.s j.d j.k j.fu j.li j.de j.id = false ∨ ((wkR w && itR x) = false ∨ x.kind = 5) ∨ (alOffer w.al input x).e ≠ 0 ∨ (alOffer w.al input x).pass = false) :
  PC Tryz.prog 44 [.agg j.av, .agg w.av, .v (.int .i64 input), .agg x.av] (wkTake (jobOK j.g j.s j.d j.k j.fu j.li j.de j.id) j no w input x).av := by
 have h1 := j_Right j.g j.s j.d j.k j.fu j.li j.de j.id
 have h2 := w_Right w hw
 have h3 := i_Right x
 have h4 := l_Offer w.al input x hw.got hw.held hw.its
 have f130 := y_fail 130
 have f1 := y_fail 1
 have hR : wkR w = true → w.gs.length ≤ 1000 := fun h => by
  simp only [wkR, Bool.and_eq_true] at h
  have := gsR_le h.1
  omega
 have hok := fun h => offer_ok (a := w.al) (i := input) (x := x) h
 unfold wkTake
 simp only [wkFail, TkW.av, wkZ, List.map_nil, Wk.av] at f130 f1
 cases e1 : jobOK j.g j.s j.d j.k j.fu j.li j.de j.id
 ·rw [e1] at h1
  simp only [if_true, wkFail, TkW.av, wkZ, List.map_nil, Jb.av, Wk.av]
  refine PC.mk (ac_body tab_ok Tryz.func44 rfl (by kernel_rfl) rfl ?_); intro w0 M μ0; simp only [Tryz.ntmps44, List.length_cons, List.length_nil, Nat.reduceAdd, Nat.reduceSub, numb]
  repeat' (first | ((first | apply o_do | apply d_do | apply d_yes rfl rfl rfl); first | exact lsc (h1) | exact lsc (f130) | exact lsq) | refine a_seq ?_ | refine a_region ?_ | refine o_nil ?_ | refine a_block ?_ | refine a_ret ?_ | refine a_exit ?_ | refine a_skip ?_ | refine a_draw mixed ?_ | refine d_nil (by kernel_rfl) ?_ | refine o_yes rfl rfl rfl ?_ | refine o_no rfl rfl rfl (by decide) ?_ | refine o_no' rfl rfl rfl ?_ | refine a_condT rfl ?_ | refine a_condF rfl ?_ | refine d_no rfl rfl rfl (by decide) ?_ | refine d_no' rfl rfl rfl ?_ | (refine wq2 (fun hb => ?_) (fun hb => ?_) <;> (simp only [hb]; try simp only [hbs, ne_eq] at hb; try (exfalso; first | omega | exact hb trivial))) | fail)
  refine rq rfl ?_
  exact fnq
 rw [e1] at h1 hstop
 simp only [Bool.true_eq_false, if_false]
 by_cases e2 : (wkR w && itR x) = false ∨ x.kind = 5
 ·rw [if_pos e2]
  simp only [wkFail, TkW.av, wkZ, List.map_nil, Jb.av, Wk.av] at h2 ⊢
  cases w1 : wkR w <;> cases x1 : itR x
  all_goals
   rw [w1] at h2
   rw [x1] at h3
   refine PC.mk (ac_body tab_ok Tryz.func44 rfl (by kernel_rfl) rfl ?_); intro w0 M μ0; simp only [Tryz.ntmps44, List.length_cons, List.length_nil, Nat.reduceAdd, Nat.reduceSub, numb]
   repeat' (first | ((first | apply o_do | apply d_do | apply d_yes rfl rfl rfl); first | exact lsc (h1) | exact lsc (h2) | exact lsc (h3) | exact lsc (f1) | exact lsq) | refine a_seq ?_ | refine a_region ?_ | refine o_nil ?_ | refine a_block ?_ | refine a_ret ?_ | refine a_exit ?_ | refine a_skip ?_ | refine a_draw mixed ?_ | refine d_nil (by kernel_rfl) ?_ | refine o_yes rfl rfl rfl ?_ | refine o_no rfl rfl rfl (by decide) ?_ | refine o_no' rfl rfl rfl ?_ | refine a_condT rfl ?_ | refine a_condF rfl ?_ | refine d_no rfl rfl rfl (by decide) ?_ | refine d_no' rfl rfl rfl ?_ | (refine wq2 (fun hb => ?_) (fun hb => ?_) <;> (simp only [hb]; try simp only [hbs, ne_eq] at hb; try (exfalso; first | omega | exact hb trivial))) | fail)
   all_goals first
    | (refine rq rfl ?_; (exact fnq); done)
    | (exfalso; rw [w1, x1] at e2; simp at e2; exact absurd e2 (by assumption))
 rw [if_neg e2]
 have e3 : wkR w = true ∧ itR x = true ∧ ¬ x.kind = 5 := by
  cases w1 : wkR w <;> cases x1 : itR x <;> simp [w1, x1] at e2 ⊢
  exact e2
 obtain ⟨w1, x1, x5⟩ := e3
 have hgl := hR w1
 have hok := hok x1
 rw [w1] at h2
 rw [x1] at h3
 have hcl := cl_Grp (w.gs.map Gp.av) (by rw [List.length_map]; omega)
 have hty := fun y => y_tell (w.gs.map Gp.av).length (w.gs.map Gp.av) w.mks (alOffer w.al input x).a w.told j input x [] y (by simp)
 generalize alOffer w.al input x = O at *
 obtain ⟨oa, op, od, ol, oe⟩ := O
 dsimp only at *
 by_cases c1 : oe ≠ 0
 ·rw [if_pos c1]
  have foe := y_fail oe
  simp only [wkFail, TkW.av, wkZ, List.map_nil, Jb.av, Wk.av, Al.av, AlO.av] at h2 h4 foe ⊢
  refine PC.mk (ac_body tab_ok Tryz.func44 rfl (by kernel_rfl) rfl ?_); intro w0 M μ0; simp only [Tryz.ntmps44, List.length_cons, List.length_nil, Nat.reduceAdd, Nat.reduceSub, numb]
  repeat' (first | ((first | apply o_do | apply d_do | apply d_yes rfl rfl rfl); first | exact lsc (h1) | exact lsc (h2) | exact lsc (h3) | exact lsc (h4) | exact lsc (foe) | exact lsq) | refine a_seq ?_ | refine a_region ?_ | refine o_nil ?_ | refine a_block ?_ | refine a_ret ?_ | refine a_exit ?_ | refine a_skip ?_ | refine a_draw mixed ?_ | refine d_nil (by kernel_rfl) ?_ | refine o_yes rfl rfl rfl ?_ | refine o_no rfl rfl rfl (by decide) ?_ | refine o_no' rfl rfl rfl ?_ | refine a_condT rfl ?_ | refine a_condF rfl ?_ | refine d_no rfl rfl rfl (by decide) ?_ | refine d_no' rfl rfl rfl ?_ | (refine wq2 (fun hb => ?_) (fun hb => ?_) <;> (simp only [hb]; try simp only [hbs, ne_eq] at hb; try (exfalso; first | omega | exact hb trivial))) | fail)
  refine rq rfl ?_
  exact fnq
 rw [if_neg c1]
 have c1 : oe = 0 := by omega
 obtain ⟨hhas, hpass, hlate⟩ := hok c1
 have hop : op = false := by
  rcases hstop with h | h | h | h
  ·simp at h
  ·exact absurd h e2
  ·exact absurd c1 h
  ·exact h
 subst hop
 by_cases c2 : 0 < od
 ·rw [if_pos c2]
  have hty := hty (barItem od)
  unfold wayC at hty
  simp only [TkW.av, List.map_nil, List.map_cons, Jb.av, Wk.av, Al.av, AlO.av] at h2 h4 hty ⊢
  refine PC.mk (ac_body tab_ok Tryz.func44 rfl (by kernel_rfl) rfl ?_); intro w0 M μ0; simp only [Tryz.ntmps44, List.length_cons, List.length_nil, Nat.reduceAdd, Nat.reduceSub, numb]
  repeat' (first | ((first | apply o_do | apply d_do | apply d_yes rfl rfl rfl); first | exact lsc (h1) | exact lsc (h2) | exact lsc (h3) | exact lsc (h4) | exact lca [] 6 hcl | exact ls_nilCheck rfl rfl | exact lsq) | refine a_seq ?_ | refine a_region ?_ | refine o_nil ?_ | refine a_block ?_ | refine a_ret ?_ | refine a_exit ?_ | refine a_skip ?_ | refine a_draw mixed ?_ | refine d_nil (by kernel_rfl) ?_ | refine o_yes rfl rfl rfl ?_ | refine o_no rfl rfl rfl (by decide) ?_ | refine o_no' rfl rfl rfl ?_ | refine a_condT rfl ?_ | refine a_condF rfl ?_ | refine d_no rfl rfl rfl (by decide) ?_ | refine d_no' rfl rfl rfl ?_ | (refine wq2 (fun hb => ?_) (fun hb => ?_) <;> (simp only [hb]; try simp only [hbs, ne_eq] at hb; try (exfalso; first | omega | exact hb trivial))) | fail)
  refine o_adoptB 5 28 7 63 11 rfl rfl rfl ?_
  repeat' (first | ((first | apply o_do | apply d_do | apply d_yes rfl rfl rfl); first | exact lca [5, 6, 7] 8 hty | exact ls_nilCheck rfl rfl | exact lsq) | refine a_seq ?_ | refine a_region ?_ | refine o_nil ?_ | refine a_block ?_ | refine a_ret ?_ | refine a_exit ?_ | refine a_skip ?_ | refine a_draw mixed ?_ | refine d_nil (by kernel_rfl) ?_ | refine o_yes rfl rfl rfl ?_ | refine o_no rfl rfl rfl (by decide) ?_ | refine o_no' rfl rfl rfl ?_ | refine a_condT rfl ?_ | refine a_condF rfl ?_ | refine d_no rfl rfl rfl (by decide) ?_ | refine d_no' rfl rfl rfl ?_ | (refine wq2 (fun hb => ?_) (fun hb => ?_) <;> (simp only [hb]; try simp only [hbs, ne_eq] at hb; try (exfalso; first | omega | exact hb trivial))) | fail)
  refine rq rfl ?_
  exact fnq
 ·rw [if_neg c2]
  have hl0 := hlate c2
  subst hl0
  simp only [if_true, TkW.av, List.map_nil, List.map_cons, Jb.av, Wk.av, Al.av, AlO.av] at h2 h4 ⊢
  refine PC.mk (ac_body tab_ok Tryz.func44 rfl (by kernel_rfl) rfl ?_); intro w0 M μ0; simp only [Tryz.ntmps44, List.length_cons, List.length_nil, Nat.reduceAdd, Nat.reduceSub, numb]
  repeat' (first | ((first | apply o_do | apply d_do | apply d_yes rfl rfl rfl); first | exact lsc (h1) | exact lsc (h2) | exact lsc (h3) | exact lsc (h4) | exact lca [] 6 hcl | exact ls_nilCheck rfl rfl | exact lsq) | refine a_seq ?_ | refine a_region ?_ | refine o_nil ?_ | refine a_block ?_ | refine a_ret ?_ | refine a_exit ?_ | refine a_skip ?_ | refine a_draw mixed ?_ | refine d_nil (by kernel_rfl) ?_ | refine o_yes rfl rfl rfl ?_ | refine o_no rfl rfl rfl (by decide) ?_ | refine o_no' rfl rfl rfl ?_ | refine a_condT rfl ?_ | refine a_condF rfl ?_ | refine d_no rfl rfl rfl (by decide) ?_ | refine d_no' rfl rfl rfl ?_ | (refine wq2 (fun hb => ?_) (fun hb => ?_) <;> (simp only [hb]; try simp only [hbs, ne_eq] at hb; try (exfalso; first | omega | exact hb trivial))) | fail)
  refine rq rfl ?_
  exact fnq
theorem mkSet_ok0 {m : Mk} {i t : Int} (h : mkIn m i = true) : (mkSet m i t).e = 0 ∧ (mkSet m i t).m.ins.length = m.ins.length ∧ (mkSet m i t).m.hs.length = m.hs.length := by
 unfold mkSet
 rw [if_neg (by rw [h]; simp)]
 simp [mkPut]
theorem mkIdle_ok0 {m : Mk} {i : Int} (h : mkIn m i = true) : (mkIdle m i).e = 0 ∧ (mkIdle m i).m.ins.length = m.ins.length ∧ (mkIdle m i).m.hs.length = m.hs.length := by
 unfold mkIdle
 rw [if_neg (by rw [h]; simp)]
 simp [mkPut]
set_option maxRecDepth 10000 in
theorem w_Take (j : Jb) (no : Int) (w : Wk) (input : Int) (x : It) (hw : WkOk w)
  (hgrp : x.kind = 1 → itR x = true → PC Tryz.prog 131 [.v (.string x.key), .v (.int .i64 j.g)] (.v (.int .i64 no))) :
  PC Tryz.prog 44 [.agg j.av, .agg w.av, .v (.int .i64 input), .agg x.av] (wkTake (jobOK j.g j.s j.d j.k j.fu j.li j.de j.id) j no w input x).av := by
 by_cases hstop : jobOK j.g j.s j.d j.k j.fu j.li j.de j.id = false ∨ ((wkR w && itR x) = false ∨ x.kind = 5) ∨ (alOffer w.al input x).e ≠ 0 ∨ (alOffer w.al input x).pass = false
 ·exact w_Stops j no w input x hw hstop
 have hs1 : jobOK j.g j.s j.d j.k j.fu j.li j.de j.id = true := by
  cases h : jobOK j.g j.s j.d j.k j.fu j.li j.de j.id
  ·exact absurd (.inl h) hstop
  ·rfl
 have e2 : ¬ ((wkR w && itR x) = false ∨ x.kind = 5) := fun h => hstop (.inr (.inl h))
 have c1 : (alOffer w.al input x).e = 0 := by
  by_cases h : (alOffer w.al input x).e = 0
  ·exact h
  ·exact absurd (.inr (.inr (.inl h))) hstop
 have cp : (alOffer w.al input x).pass = true := by
  cases h : (alOffer w.al input x).pass
  ·exact absurd (.inr (.inr (.inr h))) hstop
  ·rfl
 have e3 : wkR w = true ∧ itR x = true ∧ ¬ x.kind = 5 := by
  cases w1 : wkR w <;> cases x1 : itR x <;> simp [w1, x1] at e2 ⊢
  exact e2
 obtain ⟨w1, x1, x5⟩ := e3
 obtain ⟨hhas, hpass, hlate⟩ := offer_ok x1 c1
 obtain ⟨cd, x4⟩ := hpass cp
 have hkind : x.kind = 1 ∨ x.kind = 2 ∨ x.kind = 3 := by have := itR_kind x1; omega
 have h1 := j_Right j.g j.s j.d j.k j.fu j.li j.de j.id
 have h2 := w_Right w hw
 have h3 := i_Right x
 have h4 := l_Offer w.al input x hw.got hw.held hw.its
 rw [hs1] at h1
 rw [w1] at h2
 rw [x1] at h3
 have w1' := w1
 simp only [wkR, Bool.and_eq_true, decide_eq_true_eq] at w1'
 obtain ⟨wg, wm, wh, wa, wl, wt1, wt2⟩ := w1'
 have hgl : w.gs.length ≤ 1000 := by have := gsR_le wg; omega
 have hin : mkIn w.mks input = true := by
  simp only [alHas, Bool.and_eq_true, decide_eq_true_eq] at hhas
  simp only [mkIn, wm, Bool.true_and, Bool.and_eq_true, decide_eq_true_eq]
  omega
 have hjR : jobR j.s j.d j.k = true := by
  simp only [jobOK, Bool.and_eq_true] at hs1
  simp only [jobR, Bool.and_eq_true]
  exact ⟨hs1.2.2.1, hs1.2.2.2.1⟩
 have hcl := cl_Grp (w.gs.map Gp.av) (by rw [List.length_map]; omega)
 have hadv0 : ∀ t, ∀ g ∈ w.gs, (gpAdv j t g).e = 0 := by
  intro t g hg
  obtain ⟨i, hi, rfl⟩ := List.getElem_of_mem hg
  exact adv_ok hjR (gsR_at wg i hi)
 have g3 := hw.ins
 have g4 := hw.hs
 have g2 := hw.ps
 unfold wkTake
 rw [if_neg (by rw [hs1]; simp), if_neg e2, if_neg (by rw [c1]; simp), if_neg (by rw [cd]; omega), if_neg (by rw [cp]; simp)]
 generalize alOffer w.al input x = O at *
 obtain ⟨oa, op, od, ol, oe⟩ := O
 dsimp only at c1 cp cd h4 ⊢
 subst c1 cp cd
 rcases hkind with k1 | k2 | k3
 ·rw [if_pos k1]
  have hof := y_of1
  rw [← k1] at hof
  have hring := hgrp k1 x1
  rcases y_event w.mks oa w.told j input x no w.gs hgl g2 g3 g4 hring with ⟨hnone, hev⟩ | ⟨q, hq, hno, ⟨hne, hev⟩ | ⟨he0, hev⟩⟩
  ·obtain ⟨_, p2⟩ := put_none (j := j) (x := x) hnone
   rw [p2, if_pos (by decide)]
   have f160 := y_fail 160
   unfold wayC at hev
   simp only [wkFail, TkW.av, wkZ, List.map_nil, Jb.av, Wk.av, Al.av, AlO.av] at h2 h4 f160 ⊢
   refine PC.mk (ac_body tab_ok Tryz.func44 rfl (by kernel_rfl) rfl ?_); intro w0 M μ0; simp only [Tryz.ntmps44, List.length_cons, List.length_nil, Nat.reduceAdd, Nat.reduceSub, numb]
   repeat' (first | ((first | apply o_do | apply d_do | apply d_yes rfl rfl rfl); first | exact lsc (h1) | exact lsc (h2) | exact lsc (h3) | exact lsc (h4) | exact lca [] 6 hcl | exact ls_nilCheck rfl rfl | exact lsc (hof) | exact lca [5, 6] 7 hev | exact lsc (f160) | exact lsq) | refine a_seq ?_ | refine a_region ?_ | refine o_nil ?_ | refine a_block ?_ | refine a_ret ?_ | refine a_exit ?_ | refine a_skip ?_ | refine a_draw mixed ?_ | refine d_nil (by kernel_rfl) ?_ | refine o_yes rfl rfl rfl ?_ | refine o_no rfl rfl rfl (by decide) ?_ | refine o_no' rfl rfl rfl ?_ | refine a_condT rfl ?_ | refine a_condF rfl ?_ | refine d_no rfl rfl rfl (by decide) ?_ | refine d_no' rfl rfl rfl ?_ | (refine wq2 (fun hb => ?_) (fun hb => ?_) <;> (simp only [hb]; try simp only [hbs, ne_eq] at hb; try (exfalso; first | omega | exact hb trivial))) | fail)
   refine rq rfl ?_
   exact fnq
  ·obtain ⟨_, p2⟩ := put_at (j := j) (x := x) wg hq hno
   rw [p2, if_pos hne]
   have ft := y_fail (gpTake j x w.gs[q]).e
   generalize (gpTake j x w.gs[q]).e = E at *
   unfold wayC at hev
   simp only [wkFail, TkW.av, wkZ, List.map_nil, Jb.av, Wk.av, Al.av, AlO.av] at h2 h4 ft ⊢
   refine PC.mk (ac_body tab_ok Tryz.func44 rfl (by kernel_rfl) rfl ?_); intro w0 M μ0; simp only [Tryz.ntmps44, List.length_cons, List.length_nil, Nat.reduceAdd, Nat.reduceSub, numb]
   repeat' (first | ((first | apply o_do | apply d_do | apply d_yes rfl rfl rfl); first | exact lsc (h1) | exact lsc (h2) | exact lsc (h3) | exact lsc (h4) | exact lca [] 6 hcl | exact ls_nilCheck rfl rfl | exact lsc (hof) | exact lca [5, 6] 7 hev | exact lsc (ft) | exact lsq) | refine a_seq ?_ | refine a_region ?_ | refine o_nil ?_ | refine a_block ?_ | refine a_ret ?_ | refine a_exit ?_ | refine a_skip ?_ | refine a_draw mixed ?_ | refine d_nil (by kernel_rfl) ?_ | refine o_yes rfl rfl rfl ?_ | refine o_no rfl rfl rfl (by decide) ?_ | refine o_no' rfl rfl rfl ?_ | refine a_condT rfl ?_ | refine a_condF rfl ?_ | refine d_no rfl rfl rfl (by decide) ?_ | refine d_no' rfl rfl rfl ?_ | (refine wq2 (fun hb => ?_) (fun hb => ?_) <;> (simp only [hb]; try simp only [hbs, ne_eq] at hb; try (exfalso; first | omega | exact hb trivial))) | fail)
   refine rq rfl ?_
   exact fnq
  ·obtain ⟨p1, p2⟩ := put_at (j := j) (x := x) wg hq hno
   rw [p1, p2, if_neg (by rw [he0]; simp)]
   obtain ⟨s0, s1, s2⟩ := mkSet_ok0 (t := 0) hin
   rw [s0] at hev
   have hgR := gsR_at wg q hq
   have htk := take_grR (key := x.key) (at' := x.at') (v := x.val) hjR hgR he0
   have hadv : ∀ t, ∀ g ∈ w.gs.set q (gpTake j x w.gs[q]).gp, (gpAdv j t g).e = 0 := by
    intro t g hg
    rcases List.mem_or_eq_of_mem_set hg with hg | rfl
    ·exact hadv0 t g hg
    ·refine adv_ok hjR ?_
     show grR (gpTake j x w.gs[q]).no (gpTake j x w.gs[q]).mark (gpTake j x w.gs[q]).ps = true
     unfold gpTake
     rw [htk.2.1, htk.2.2]
     exact htk.1
   have hps : ∀ g ∈ w.gs.set q (gpTake j x w.gs[q]).gp, g.ps.length ≤ 9223372036854775807 := by
    intro g hg
    rcases List.mem_or_eq_of_mem_set hg with hg | rfl
    ·exact g2 g hg
    ·exact grow_le (g2 _ (List.getElem_mem hq))
   have hset : (w.gs.map Gp.av).set q (Gp.av (gpTake j x w.gs[q]).gp) = (w.gs.set q (gpTake j x w.gs[q]).gp).map Gp.av := List.map_set.symm
   rw [hset] at hev
   have hsl : (w.gs.set q (gpTake j x w.gs[q]).gp).length = w.gs.length := List.length_set
   generalize w.gs.set q (gpTake j x w.gs[q]).gp = M at *
   have hN : (w.gs.map Gp.av).length = (M.map Gp.av).length := by rw [List.length_map, List.length_map, hsl]
   have hgoN := fun h => y_goNo (mkSet w.mks input 0).m oa w.told j input x (w.gs.map Gp.av).length (M.map Gp.av) (by omega) (by omega) h
   have hgoY := fun h => y_goYes (mkSet w.mks input 0).m oa w.told j input x M (w.gs.map Gp.av).length hN (by omega) hps (by omega) (by omega) h (hadv _)
   unfold wkGo
   generalize mkSet w.mks input 0 = S at *
   obtain ⟨sm, se⟩ := S
   dsimp only at *
   generalize mkTell sm = T at *
   obtain ⟨tm, tt, ti⟩ := T
   cases ti
   ·have hgo := hgoN rfl
    unfold wayC at hev hgo
    simp only [Bool.false_eq_true, if_false, TkW.av, List.map_nil, Jb.av, Wk.av, Al.av, AlO.av] at h2 h4 ⊢
    refine PC.mk (ac_body tab_ok Tryz.func44 rfl (by kernel_rfl) rfl ?_); intro w0 M μ0; simp only [Tryz.ntmps44, List.length_cons, List.length_nil, Nat.reduceAdd, Nat.reduceSub, numb]
    repeat' (first | ((first | apply o_do | apply d_do | apply d_yes rfl rfl rfl); first | exact lsc (h1) | exact lsc (h2) | exact lsc (h3) | exact lsc (h4) | exact lca [] 6 hcl | exact ls_nilCheck rfl rfl | exact lsc (hof) | exact lca [5, 6] 7 hev | exact lca [5, 6] 7 hgo | exact lsq) | refine a_seq ?_ | refine a_region ?_ | refine o_nil ?_ | refine a_block ?_ | refine a_ret ?_ | refine a_exit ?_ | refine a_skip ?_ | refine a_draw mixed ?_ | refine d_nil (by kernel_rfl) ?_ | refine o_yes rfl rfl rfl ?_ | refine o_no rfl rfl rfl (by decide) ?_ | refine o_no' rfl rfl rfl ?_ | refine a_condT rfl ?_ | refine a_condF rfl ?_ | refine d_no rfl rfl rfl (by decide) ?_ | refine d_no' rfl rfl rfl ?_ | (refine wq2 (fun hb => ?_) (fun hb => ?_) <;> (simp only [hb]; try simp only [hbs, ne_eq] at hb; try (exfalso; first | omega | exact hb trivial))) | fail)
    refine rq rfl ?_
    (first | refine FinA.tup ?_ | refine FinA.one ?_); repeat' (first | exact FinBs.nil | exact FinCs.nil | refine FinBs.cons ?_ ?_ | refine FinCs.cons ?_ ?_ | refine FinB.cell (FinC.v ?_) | refine FinB.cell (FinC.own rfl rfl rfl ?_) | exact FinB.cell FinC.nil | refine FinB.cell (FinC.sl ?_) | exact FinB.agg' rfl rfl | exact FinB.cell (FinC.same rfl) | refine FinB.agg ?_ | refine FinC.v ?_ | refine FinC.own rfl rfl rfl ?_ | exact FinC.nil | refine FinC.sl ?_ | exact FinC.same rfl); all_goals try rfl
    all_goals exact FinC.own rfl hN rfl rfl
   ·have hgo := hgoY rfl
    unfold wayC at hev hgo
    simp only [if_true, TkW.av, List.map_nil, Jb.av, Wk.av, Al.av, AlO.av, List.map_append, List.map_cons] at h2 h4 ⊢
    refine PC.mk (ac_body tab_ok Tryz.func44 rfl (by kernel_rfl) rfl ?_); intro w0 M μ0; simp only [Tryz.ntmps44, List.length_cons, List.length_nil, Nat.reduceAdd, Nat.reduceSub, numb]
    repeat' (first | ((first | apply o_do | apply d_do | apply d_yes rfl rfl rfl); first | exact lsc (h1) | exact lsc (h2) | exact lsc (h3) | exact lsc (h4) | exact lca [] 6 hcl | exact ls_nilCheck rfl rfl | exact lsc (hof) | exact lca [5, 6] 7 hev | exact lca [5, 6] 7 hgo | exact lsq) | refine a_seq ?_ | refine a_region ?_ | refine o_nil ?_ | refine a_block ?_ | refine a_ret ?_ | refine a_exit ?_ | refine a_skip ?_ | refine a_draw mixed ?_ | refine d_nil (by kernel_rfl) ?_ | refine o_yes rfl rfl rfl ?_ | refine o_no rfl rfl rfl (by decide) ?_ | refine o_no' rfl rfl rfl ?_ | refine a_condT rfl ?_ | refine a_condF rfl ?_ | refine d_no rfl rfl rfl (by decide) ?_ | refine d_no' rfl rfl rfl ?_ | (refine wq2 (fun hb => ?_) (fun hb => ?_) <;> (simp only [hb]; try simp only [hbs, ne_eq] at hb; try (exfalso; first | omega | exact hb trivial))) | fail)
    refine rq rfl ?_
    (first | refine FinA.tup ?_ | refine FinA.one ?_); repeat' (first | exact FinBs.nil | exact FinCs.nil | refine FinBs.cons ?_ ?_ | refine FinCs.cons ?_ ?_ | refine FinB.cell (FinC.v ?_) | refine FinB.cell (FinC.own rfl rfl rfl ?_) | exact FinB.cell FinC.nil | refine FinB.cell (FinC.sl ?_) | exact FinB.agg' rfl rfl | exact FinB.cell (FinC.same rfl) | refine FinB.agg ?_ | refine FinC.v ?_ | refine FinC.own rfl rfl rfl ?_ | exact FinC.nil | refine FinC.sl ?_ | exact FinC.same rfl); all_goals try rfl
    all_goals exact FinC.own rfl (by rw [hN]; simp [advM]) rfl rfl
 ·rw [if_neg (by omega), if_pos k2]
  have hof := y_of2
  rw [← k2] at hof
  obtain ⟨s0, s1, s2⟩ := mkSet_ok0 (t := x.mark) hin
  have hev := y_mark (w.gs.map Gp.av).length (w.gs.map Gp.av) w.mks oa w.told j input x g3 g4
  rw [s0] at hev
  have hgoN := fun h => y_goNo (mkSet w.mks input x.mark).m oa w.told j input x (w.gs.map Gp.av).length (w.gs.map Gp.av) (by omega) (by omega) h
  have hgoY := fun h => y_goYes (mkSet w.mks input x.mark).m oa w.told j input x w.gs (w.gs.map Gp.av).length rfl (by omega) g2 (by omega) (by omega) h (hadv0 _)
  unfold wkGo
  generalize mkSet w.mks input x.mark = S at *
  obtain ⟨sm, se⟩ := S
  dsimp only at *
  generalize mkTell sm = T at *
  obtain ⟨tm, tt, ti⟩ := T
  cases ti
  ·have hgo := hgoN rfl
   unfold wayC at hev hgo
   simp only [Bool.false_eq_true, if_false, TkW.av, List.map_nil, Jb.av, Wk.av, Al.av, AlO.av] at h2 h4 ⊢
   refine PC.mk (ac_body tab_ok Tryz.func44 rfl (by kernel_rfl) rfl ?_); intro w0 M μ0; simp only [Tryz.ntmps44, List.length_cons, List.length_nil, Nat.reduceAdd, Nat.reduceSub, numb]
   repeat' (first | ((first | apply o_do | apply d_do | apply d_yes rfl rfl rfl); first | exact lsc (h1) | exact lsc (h2) | exact lsc (h3) | exact lsc (h4) | exact lca [] 6 hcl | exact ls_nilCheck rfl rfl | exact lsc (hof) | exact lca [5, 6] 7 hev | exact lca [5, 6] 7 hgo | exact lsq) | refine a_seq ?_ | refine a_region ?_ | refine o_nil ?_ | refine a_block ?_ | refine a_ret ?_ | refine a_exit ?_ | refine a_skip ?_ | refine a_draw mixed ?_ | refine d_nil (by kernel_rfl) ?_ | refine o_yes rfl rfl rfl ?_ | refine o_no rfl rfl rfl (by decide) ?_ | refine o_no' rfl rfl rfl ?_ | refine a_condT rfl ?_ | refine a_condF rfl ?_ | refine d_no rfl rfl rfl (by decide) ?_ | refine d_no' rfl rfl rfl ?_ | (refine wq2 (fun hb => ?_) (fun hb => ?_) <;> (simp only [hb]; try simp only [hbs, ne_eq] at hb; try (exfalso; first | omega | exact hb trivial))) | fail)
   refine rq rfl ?_
   exact fnq
  ·have hgo := hgoY rfl
   unfold wayC at hev hgo
   simp only [if_true, TkW.av, List.map_nil, Jb.av, Wk.av, Al.av, AlO.av, List.map_append, List.map_cons] at h2 h4 ⊢
   refine PC.mk (ac_body tab_ok Tryz.func44 rfl (by kernel_rfl) rfl ?_); intro w0 M μ0; simp only [Tryz.ntmps44, List.length_cons, List.length_nil, Nat.reduceAdd, Nat.reduceSub, numb]
   repeat' (first | ((first | apply o_do | apply d_do | apply d_yes rfl rfl rfl); first | exact lsc (h1) | exact lsc (h2) | exact lsc (h3) | exact lsc (h4) | exact lca [] 6 hcl | exact ls_nilCheck rfl rfl | exact lsc (hof) | exact lca [5, 6] 7 hev | exact lca [5, 6] 7 hgo | exact lsq) | refine a_seq ?_ | refine a_region ?_ | refine o_nil ?_ | refine a_block ?_ | refine a_ret ?_ | refine a_exit ?_ | refine a_skip ?_ | refine a_draw mixed ?_ | refine d_nil (by kernel_rfl) ?_ | refine o_yes rfl rfl rfl ?_ | refine o_no rfl rfl rfl (by decide) ?_ | refine o_no' rfl rfl rfl ?_ | refine a_condT rfl ?_ | refine a_condF rfl ?_ | refine d_no rfl rfl rfl (by decide) ?_ | refine d_no' rfl rfl rfl ?_ | (refine wq2 (fun hb => ?_) (fun hb => ?_) <;> (simp only [hb]; try simp only [hbs, ne_eq] at hb; try (exfalso; first | omega | exact hb trivial))) | fail)
   refine rq rfl ?_
   (first | refine FinA.tup ?_ | refine FinA.one ?_); repeat' (first | exact FinBs.nil | exact FinCs.nil | refine FinBs.cons ?_ ?_ | refine FinCs.cons ?_ ?_ | refine FinB.cell (FinC.v ?_) | refine FinB.cell (FinC.own rfl rfl rfl ?_) | exact FinB.cell FinC.nil | refine FinB.cell (FinC.sl ?_) | exact FinB.agg' rfl rfl | exact FinB.cell (FinC.same rfl) | refine FinB.agg ?_ | refine FinC.v ?_ | refine FinC.own rfl rfl rfl ?_ | exact FinC.nil | refine FinC.sl ?_ | exact FinC.same rfl); all_goals try rfl
   all_goals exact FinC.own rfl (by simp [advM]) rfl rfl
 ·rw [if_neg (by omega), if_neg (by omega), if_pos k3]
  have hof := y_of3
  rw [← k3] at hof
  obtain ⟨s0, s1, s2⟩ := mkIdle_ok0 hin
  have hev := y_idle (w.gs.map Gp.av).length (w.gs.map Gp.av) w.mks oa w.told j input x g3 g4
  rw [s0] at hev
  have hgoN := fun h => y_goNo (mkIdle w.mks input).m oa w.told j input x (w.gs.map Gp.av).length (w.gs.map Gp.av) (by omega) (by omega) h
  have hgoY := fun h => y_goYes (mkIdle w.mks input).m oa w.told j input x w.gs (w.gs.map Gp.av).length rfl (by omega) g2 (by omega) (by omega) h (hadv0 _)
  unfold wkGo
  generalize mkIdle w.mks input = S at *
  obtain ⟨sm, se⟩ := S
  dsimp only at *
  generalize mkTell sm = T at *
  obtain ⟨tm, tt, ti⟩ := T
  cases ti
  ·have hgo := hgoN rfl
   unfold wayC at hev hgo
   simp only [Bool.false_eq_true, if_false, TkW.av, List.map_nil, Jb.av, Wk.av, Al.av, AlO.av] at h2 h4 ⊢
   refine PC.mk (ac_body tab_ok Tryz.func44 rfl (by kernel_rfl) rfl ?_); intro w0 M μ0; simp only [Tryz.ntmps44, List.length_cons, List.length_nil, Nat.reduceAdd, Nat.reduceSub, numb]
   repeat' (first | ((first | apply o_do | apply d_do | apply d_yes rfl rfl rfl); first | exact lsc (h1) | exact lsc (h2) | exact lsc (h3) | exact lsc (h4) | exact lca [] 6 hcl | exact ls_nilCheck rfl rfl | exact lsc (hof) | exact lca [5, 6] 7 hev | exact lca [5, 6] 7 hgo | exact lsq) | refine a_seq ?_ | refine a_region ?_ | refine o_nil ?_ | refine a_block ?_ | refine a_ret ?_ | refine a_exit ?_ | refine a_skip ?_ | refine a_draw mixed ?_ | refine d_nil (by kernel_rfl) ?_ | refine o_yes rfl rfl rfl ?_ | refine o_no rfl rfl rfl (by decide) ?_ | refine o_no' rfl rfl rfl ?_ | refine a_condT rfl ?_ | refine a_condF rfl ?_ | refine d_no rfl rfl rfl (by decide) ?_ | refine d_no' rfl rfl rfl ?_ | (refine wq2 (fun hb => ?_) (fun hb => ?_) <;> (simp only [hb]; try simp only [hbs, ne_eq] at hb; try (exfalso; first | omega | exact hb trivial))) | fail)
   refine rq rfl ?_
   exact fnq
  ·have hgo := hgoY rfl
   unfold wayC at hev hgo
   simp only [if_true, TkW.av, List.map_nil, Jb.av, Wk.av, Al.av, AlO.av, List.map_append, List.map_cons] at h2 h4 ⊢
   refine PC.mk (ac_body tab_ok Tryz.func44 rfl (by kernel_rfl) rfl ?_); intro w0 M μ0; simp only [Tryz.ntmps44, List.length_cons, List.length_nil, Nat.reduceAdd, Nat.reduceSub, numb]
   repeat' (first | ((first | apply o_do | apply d_do | apply d_yes rfl rfl rfl); first | exact lsc (h1) | exact lsc (h2) | exact lsc (h3) | exact lsc (h4) | exact lca [] 6 hcl | exact ls_nilCheck rfl rfl | exact lsc (hof) | exact lca [5, 6] 7 hev | exact lca [5, 6] 7 hgo | exact lsq) | refine a_seq ?_ | refine a_region ?_ | refine o_nil ?_ | refine a_block ?_ | refine a_ret ?_ | refine a_exit ?_ | refine a_skip ?_ | refine a_draw mixed ?_ | refine d_nil (by kernel_rfl) ?_ | refine o_yes rfl rfl rfl ?_ | refine o_no rfl rfl rfl (by decide) ?_ | refine o_no' rfl rfl rfl ?_ | refine a_condT rfl ?_ | refine a_condF rfl ?_ | refine d_no rfl rfl rfl (by decide) ?_ | refine d_no' rfl rfl rfl ?_ | (refine wq2 (fun hb => ?_) (fun hb => ?_) <;> (simp only [hb]; try simp only [hbs, ne_eq] at hb; try (exfalso; first | omega | exact hb trivial))) | fail)
   refine rq rfl ?_
   (first | refine FinA.tup ?_ | refine FinA.one ?_); repeat' (first | exact FinBs.nil | exact FinCs.nil | refine FinBs.cons ?_ ?_ | refine FinCs.cons ?_ ?_ | refine FinB.cell (FinC.v ?_) | refine FinB.cell (FinC.own rfl rfl rfl ?_) | exact FinB.cell FinC.nil | refine FinB.cell (FinC.sl ?_) | exact FinB.agg' rfl rfl | exact FinB.cell (FinC.same rfl) | refine FinB.agg ?_ | refine FinC.v ?_ | refine FinC.own rfl rfl rfl ?_ | exact FinC.nil | refine FinC.sl ?_ | exact FinC.same rfl); all_goals try rfl
   all_goals exact FinC.own rfl (by simp [advM]) rfl rfl
theorem mkSet_len (m : Mk) (i t : Int) : (mkSet m i t).m.ins.length ≤ m.ins.length ∧ (mkSet m i t).m.hs.length ≤ m.hs.length := by
 unfold mkSet
 split <;> simp [mkZ, mkPut]
theorem mkIdle_len (m : Mk) (i : Int) : (mkIdle m i).m.ins.length ≤ m.ins.length ∧ (mkIdle m i).m.hs.length ≤ m.hs.length := by
 unfold mkIdle
 split <;> simp [mkZ, mkPut]
theorem putM_ok {j : Jb} {no : Int} {x : It} {gs : List Gp} (hp : ∀ g ∈ gs, g.ps.length ≤ 9223372036854775807) : ∀ g ∈ putM j no x gs, g.ps.length ≤ 9223372036854775807 := by
 intro g hg
 obtain ⟨y, hy, rfl⟩ := List.mem_map.1 hg
 split
 ·exact grow_le (hp y hy)
 ·exact hp y hy
end Go.Proofs.YtilgagmfcdfjaaaGreat
namespace Go.Proofs.YtilgagmfcdfjaaaGreat
open Go.RowKit
theorem wkZ_ok : WkOk wkZ := ⟨Nat.zero_le _, nofun, Nat.zero_le _, Nat.zero_le _, Nat.zero_le _, Nat.zero_le _, nofun⟩
theorem w_alive : PC Tryz.prog 17 [] (.v (.bool true)) := by
 have h1 := w_New 1 1 1 2 0 0 0 0 1 [] (Nat.zero_le _) nofun
 have e : newW (jobOK 1 1 1 2 0 0 0 0) 1 [] = ⟨⟨[], ⟨[(0, false)], [], 0⟩, ⟨0, [false], [[]]⟩, 0⟩, 0⟩ := by kernel_rfl
 rw [e] at h1
 have h2 := w_Right ⟨[], ⟨[(0, false)], [], 0⟩, ⟨0, [false], [[]]⟩, 0⟩ ⟨by simp, by simp, by simp, by simp, by simp, by simp, by simp⟩
 have e2 : wkR ⟨[], ⟨[(0, false)], [], 0⟩, ⟨0, [false], [[]]⟩, 0⟩ = true := by decide +kernel
 rw [e2] at h2
 simp only [WkN.av, Wk.av, List.map_nil, List.map_cons] at h1 h2
 refine PC.mk (ac_body tab_ok Tryz.func17 rfl (by kernel_rfl) rfl ?_); intro w0 M μ0; simp only [Tryz.ntmps17, List.length_cons, List.length_nil, Nat.reduceAdd, Nat.reduceSub, numb]
 repeat' (first | ((first | apply o_do | apply d_do | apply d_yes rfl rfl rfl); first | exact lsc (h1) | exact lsc (h2) | exact lsq) | refine a_seq ?_ | refine a_region ?_ | refine o_nil ?_ | refine a_block ?_ | refine a_ret ?_ | refine a_exit ?_ | refine a_skip ?_ | refine a_draw mixed ?_ | refine d_nil (by kernel_rfl) ?_ | refine o_yes rfl rfl rfl ?_ | refine o_no rfl rfl rfl (by decide) ?_ | refine o_no' rfl rfl rfl ?_ | refine a_condT rfl ?_ | refine a_condF rfl ?_ | refine d_no rfl rfl rfl (by decide) ?_ | refine d_no' rfl rfl rfl ?_ | (refine wq2 (fun hb => ?_) (fun hb => ?_) <;> (simp only [hb]; try simp only [hbs, ne_eq] at hb; try (exfalso; first | omega | exact hb trivial))) | fail)
 all_goals refine rq rfl ?_
 all_goals exact fnq
end Go.Proofs.YtilgagmfcdfjaaaGreat
namespace Go.Proofs.YtilgagmfcdfjaaaGreat
open Go.RowKit

def hStep (h : Nat) (b : UInt8) : Nat := ((h ^^^ b.toNat) * 16777619) % 4294967296
def hBase : Nat := 2166136261
def hashN (l : List UInt8) : Nat := l.foldl hStep hBase
theorem hashN_nil : hashN [] = hBase := rfl
theorem hashN_snoc (l : List UInt8) (b : UInt8) : hashN (l ++ [b]) = hStep (hashN l) b := by unfold hashN; rw [List.foldl_append, List.foldl_cons, List.foldl_nil]
theorem hStep_lt (h : Nat) (b : UInt8) : hStep h b < 4294967296 := Nat.mod_lt _ (by omega)
theorem hashN_lt (l : List UInt8) : hashN l < 4294967296 := by
 rcases List.eq_nil_or_concat l with rfl | ⟨m, x, rfl⟩
 ·rw [hashN_nil]; unfold hBase; omega
 ·rw [List.concat_eq_append, hashN_snoc]; exact hStep_lt _ _

def grpV (l : List UInt8) (g : Int) : Int := if g < 1 then 0 else (hashN l : Int) % g
theorem grpV_low {l : List UInt8} {g : Int} (h : g < 1) : grpV l g = 0 := if_pos h
theorem grpV_high {l : List UInt8} {g : Int} (h : ¬ g < 1) : grpV l g = (hashN l : Int) % g := if_neg h

attribute [local go_sem ↓] Go.wp_at_zero Go.wp_at_succ

theorem bytes_snoc (s : ByteArray) (k : Nat) (h : k < s.size) : s.data.toList.take (k + 1) = s.data.toList.take k ++ [s[k]] := by
 rw [List.take_succ_eq_append_getElem (by simpa using h)]; rfl
theorem h32 (q : Nat) (b : UInt8) (hq : q < 4294967296) : bits .xor .u32 (q : Int) ((b.toNat : Int) % 4294967296) * 16777619 % 4294967296 = ((hStep q b : Nat) : Int) := by
 have hb : b.toNat < 256 := b.toNat_lt
 rw [show ((b.toNat : Int) % 4294967296) = (b.toNat : Int) from by omega, u32_xor_nat q b.toNat hq (by omega)]
 unfold hStep
 omega

theorem h64 (q : Nat) (b : UInt8) (hq : q < 4294967296) : (IntKind.u64.wrap (bits .xor .u64 (q : Int) (IntKind.u64.wrap (b.toNat : Int)) * 16777619)).tmod 4294967296 = ((hStep q b : Nat) : Int) := by
 have hb : b.toNat < 256 := b.toNat_lt
 have hx : q ^^^ b.toNat < 2 ^ 32 := Nat.xor_lt_two_pow (by omega) (by omega)
 rw [show IntKind.u64.wrap (b.toNat : Int) = (b.toNat : Int) from by rw [IntKind.wrap_u64]; omega, u64_xor_nat q b.toNat (by omega) (by omega)]
 rw [show IntKind.u64.wrap (((q ^^^ b.toNat : Nat) : Int) * 16777619) = ((q ^^^ b.toNat : Nat) : Int) * 16777619 from by rw [IntKind.wrap_u64]; omega]
 rw [Int.tmod_eq_emod_of_nonneg (by omega)]
 unfold hStep
 omega

theorem ring_Hash (s : ByteArray) (w : World) (hs : s.size ≤ 1000000) :
  Calls Tryz.prog 152 #[.string s] w fun e w' => ∃ q : Nat, Hid (q = hashN s.data.toList) ∧ e = .returned (.int .u32 q) ∧ w = w' := by
 have hs' : (s.size : Int) ≤ 1000000 := by omega
 go_enter Tryz.func152, Tryz.ntmps152
 go_wp2
 go_loop [3, 7] (fun h i => ∃ (k q : Nat), k ≤ s.size ∧ i = .int .i64 k ∧ h = .int .u32 q ∧ Hid (q = hashN (s.data.toList.take k)) ∧ q < 4294967296) (fun _ i => s.size - (intOf i).toNat)
 case atStart => exact ⟨0, 2166136261, Nat.zero_le _, rfl, rfl, hide rfl, by omega⟩
 case round =>
  obtain ⟨k, q, hk, rfl, rfl, HQ, hq⟩ := hrel
  by_cases hlt : k < s.size
  ·have hlt' : (k : Int) < s.size := by omega
   go_wp2
   go_round
   case rel =>
    refine ⟨k + 1, hStep q s[k], by omega, by go_num, ?_, hide ?_, hStep_lt _ _⟩
    ·rw [h32 q s[k] hq]
    ·rw [bytes_snoc s k hlt, hashN_snoc, ← HQ.out]
   case measure => simp [intOf]; omega
  ·have hk' : k = s.size := by omega
   go_wp2
   go_ret
   refine ⟨q, ?_, rfl, rfl⟩
   subst hk'
   rw [List.take_of_length_le (by simp)] at HQ
   exact HQ

theorem ref11_Hash (s : ByteArray) (w : World) (hs : s.size ≤ 1000000) :
  Calls Tryz.prog 46 #[.string s] w fun e w' => ∃ q : Nat, Hid (q = hashN s.data.toList) ∧ e = .returned (.int .u32 q) ∧ w = w' := by
 have hs' : (s.size : Int) ≤ 1000000 := by omega
 go_enter Tryz.func46, Tryz.ntmps46
 go_wp2
 go_loop [3, 4] (fun h i => ∃ (k q : Nat), k ≤ s.size ∧ i = .int .i64 k ∧ h = .int .u64 q ∧ Hid (q = hashN (s.data.toList.take k)) ∧ q < 4294967296) (fun _ i => s.size - (intOf i).toNat)
 case atStart => exact ⟨0, 2166136261, Nat.zero_le _, rfl, rfl, hide rfl, by omega⟩
 case round =>
  obtain ⟨k, q, hk, rfl, rfl, HQ, hq⟩ := hrel
  by_cases hlt : k < s.size
  ·have hlt' : (k : Int) < s.size := by omega
   go_wp2
   go_round
   case rel =>
    refine ⟨k + 1, hStep q s[k], by omega, by go_num, ?_, hide ?_, hStep_lt _ _⟩
    ·rw [h64 q s[k] hq]
    ·rw [bytes_snoc s k hlt, hashN_snoc, ← HQ.out]
   case measure => simp [intOf]; omega
  ·have hk' : k = s.size := by omega
   have hq' : (q : Int) < 4294967296 := by omega
   go_wp2
   go_ret
   refine ⟨q, ?_, rfl, rfl⟩
   subst hk'
   rw [List.take_of_length_le (by simp)] at HQ
   exact HQ

theorem ring_Group (s : ByteArray) (g : Int) (w : World) (hs : s.size ≤ 1000000) (hg : -9223372036854775808 ≤ g ∧ g ≤ 9223372036854775807) :
  Calls Tryz.prog 131 #[.string s, .int .i64 g] w fun e w' => e = .returned (.int .i64 (grpV s.data.toList g)) ∧ w = w' := by
 by_cases h1 : g < 1
 ·rw [grpV_low h1]
  go_enter Tryz.func131, Tryz.ntmps131
  go_wp2
  go_ret
  exact ⟨rfl, rfl⟩
 ·rw [grpV_high h1]
  have h2 : 1 ≤ g := by omega
  have h3 := hg.2
  go_enter Tryz.func131, Tryz.ntmps131
  go_wp2_with fail
  refine (ring_Hash s _ hs).mono ?_
  rintro e w' ⟨q, HQ, rfl, rfl⟩
  have hq : (q : Int) < 4294967296 := by have := hashN_lt s.data.toList; have := HQ.out; omega
  have hq0 : 0 ≤ (q : Int) := by omega
  have z : (g == 0) = false := by simp; omega
  have hm0 : 0 ≤ (q : Int) % g := Int.emod_nonneg _ (by omega)
  have hm1 : (q : Int) % g < g := Int.emod_lt_of_pos _ (by omega)
  go_wp2
  go_ret
  refine ⟨?_, rfl⟩
  rw [HQ.out]; rfl

theorem ref11_Group (s : ByteArray) (g : Int) (w : World) (hs : s.size ≤ 1000000) (hg : -9223372036854775808 ≤ g ∧ g ≤ 9223372036854775807) :
  Calls Tryz.prog 25 #[.string s, .int .i64 g] w fun e w' => e = .returned (.int .i64 (grpV s.data.toList g)) ∧ w = w' := by
 by_cases h1 : g < 1
 ·rw [grpV_low h1]
  go_enter Tryz.func25, Tryz.ntmps25
  go_wp2
  go_ret
  exact ⟨rfl, rfl⟩
 ·rw [grpV_high h1]
  have h2 : 1 ≤ g := by omega
  have h3 := hg.2
  go_enter Tryz.func25, Tryz.ntmps25
  go_wp2_with fail
  refine (ref11_Hash s _ hs).mono ?_
  rintro e w' ⟨q, HQ, rfl, rfl⟩
  have hq : (q : Int) < 4294967296 := by have := hashN_lt s.data.toList; have := HQ.out; omega
  have hq0 : 0 ≤ (q : Int) := by omega
  have z : (g == 0) = false := by simp; omega
  have hm0 : 0 ≤ (q : Int) % g := Int.emod_nonneg _ (by omega)
  have hm1 : (q : Int) % g < g := Int.emod_lt_of_pos _ (by omega)
  go_wp2
  go_ret
  refine ⟨?_, rfl⟩
  rw [HQ.out]; rfl

end Go.Proofs.YtilgagmfcdfjaaaGreat
