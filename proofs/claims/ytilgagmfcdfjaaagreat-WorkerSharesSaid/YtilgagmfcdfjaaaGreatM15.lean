/-
  Marks, walked over abstract values: an input that tells a time, or is idle; what can be told.
  Aligners, walked over abstract values: an item that is offered.
  Aligners, walked over abstract values: an item that is offered, whole.
  Aligners, walked over abstract values: an item that is offered, in all cases.
-/
import Derived.Test.YtilgagmfcdfjaaaGreatM4
import Derived.Test.YtilgagmfcdfjaaaGreatM5
import Derived.Test.YtilgagmfcdfjaaaGreatM6
import Derived.Test.YtilgagmfcdfjaaaGreatM12
import Derived.Test.YtilgagmfcdfjaaaGreatM13
set_option linter.unusedSimpArgs false
set_option linter.unusedVariables false
set_option maxHeartbeats 20000000
namespace Go.Proofs.YtilgagmfcdfjaaaGreat
open Go.RowKit
theorem m_own (a b : List (List AV)) (out : Int) (ha : a.length ≤ 1000000) (hb : b.length ≤ 1000000) : AC Tryz.prog 140 [.agg [.sl 2 a, .sl 2 b, .v (.int .i64 out)]] [] (.agg [.own 0 a.length, .own 1 b.length, .v (.int .i64 out)]) [(0, .row 195 2 a), (1, .row 192 2 b)] := by
 have h1 := cl_Inp a ha
 have h2 := cl_Hld b hb
 refine (ac_body tab_ok Tryz.func140 rfl (by kernel_rfl) rfl ?_); intro w0 M μ0; simp only [Tryz.ntmps140, List.length_cons, List.length_nil, Nat.reduceAdd, Nat.reduceSub, numb]
 repeat' (first | ((first | apply o_do | apply d_do | apply d_yes rfl rfl rfl); first | exact ls_box (k := 2) rfl rfl rfl rfl | exact ls_alloc (k := 3) tab_zero rfl rfl rfl rfl | exact lca [] 0 h1 | exact lca [] 1 h2 | exact lsq) | refine a_seq ?_ | refine a_region ?_ | refine o_nil ?_ | refine a_block ?_ | refine a_ret ?_ | refine a_exit ?_ | refine a_skip ?_ | refine a_draw mixed ?_ | refine d_nil (by kernel_rfl) ?_ | refine o_yes rfl rfl rfl ?_ | refine o_no rfl rfl rfl (by decide) ?_ | refine o_no' rfl rfl rfl ?_ | refine a_condT rfl ?_ | refine a_condF rfl ?_ | refine d_no rfl rfl rfl (by decide) ?_ | refine d_no' rfl rfl rfl ?_ | (refine wq2 (fun hb => ?_) (fun hb => ?_) <;> (simp only [hb]; try simp only [hbs, ne_eq] at hb; try (exfalso; first | omega | exact hb trivial))) | fail)
 refine rq rfl ?_
 exact fnq
theorem m_input (m : Mk) (i : Int) (hi : m.ins.length ≤ 9223372036854775807) (hh : m.hs.length ≤ 9223372036854775807) : PC Tryz.prog 154 [.agg m.av, .v (.int .i64 i)] (.v (.bool (mkIn m i))) := by
 have h := m_Right m hi hh
 obtain ⟨ins, hs, out⟩ := m
 have n1 : (ins.map inAvM).length = ins.length := List.length_map _
 unfold mkIn
 simp only [Mk.av] at h ⊢
 cases hr : mkR ⟨ins, hs, out⟩
 all_goals
  rw [hr] at h
  refine PC.mk (ac_body tab_ok Tryz.func154 rfl (by kernel_rfl) rfl ?_); intro w0 M μ0; simp only [Tryz.ntmps154, List.length_cons, List.length_nil, Nat.reduceAdd, Nat.reduceSub, numb]
  repeat' (first | ((first | apply o_do | apply d_do | apply d_yes rfl rfl rfl); first | exact lsc (h) | exact lsq) | refine a_seq ?_ | refine a_region ?_ | refine o_nil ?_ | refine a_block ?_ | refine a_ret ?_ | refine a_exit ?_ | refine a_skip ?_ | refine a_draw mixed ?_ | refine d_nil (by kernel_rfl) ?_ | refine o_yes rfl rfl rfl ?_ | refine o_no rfl rfl rfl (by decide) ?_ | refine o_no' rfl rfl rfl ?_ | refine a_condT rfl ?_ | refine a_condF rfl ?_ | refine d_no rfl rfl rfl (by decide) ?_ | refine d_no' rfl rfl rfl ?_ | (refine wq2 (fun hb => ?_) (fun hb => ?_) <;> (simp only [hb]; try simp only [hbs, ne_eq] at hb; try (exfalso; first | omega | exact hb trivial))) | fail)
  all_goals refine rq rfl ?_
  all_goals (first | refine FinA.tup ?_ | refine FinA.one ?_); repeat' (first | exact FinBs.nil | exact FinCs.nil | refine FinBs.cons ?_ ?_ | refine FinCs.cons ?_ ?_ | refine FinB.cell (FinC.v ?_) | refine FinB.cell (FinC.own rfl rfl rfl ?_) | exact FinB.cell FinC.nil | refine FinB.cell (FinC.sl ?_) | exact FinB.agg' rfl rfl | exact FinB.cell (FinC.same rfl) | refine FinB.agg ?_ | refine FinC.v ?_ | refine FinC.own rfl rfl rfl ?_ | exact FinC.nil | refine FinC.sl ?_ | exact FinC.same rfl); all_goals try rfl
  all_goals simp [*]
theorem pure2 (x y : Value) (hx : scal x = true) (hy : scal y = true) : ∀ (σ : Store) (μ : Nat → Value) (w : World) (A : Nat → Prop) (z : Value), rep σ μ w A (.agg [.v x, .v y]) z → rep [] μ w A (.agg [.v x, .v y]) z := by
 intro σ μ w A z h
 simpa only [rep, repC] using h
theorem pure1 (x : Value) : ∀ (σ : Store) (μ : Nat → Value) (w : World) (A : Nat → Prop) (z : Value), rep σ μ w A (.v x) z → rep [] μ w A (.v x) z := by
 intro σ μ w A z h
 simpa only [rep] using h
theorem m_Set (m : Mk) (i t : Int) (hi : m.ins.length ≤ 9223372036854775807) (hh : m.hs.length ≤ 9223372036854775807) : PC Tryz.prog 135 [.agg m.av, .v (.int .i64 i), .v (.int .i64 t)] (mkSet m i t).av := by
 have h := m_input m i hi hh
 have hcl := p_clamp t
 obtain ⟨ins, hs, out⟩ := m
 have n1 : (ins.map inAvM).length = ins.length := List.length_map _
 unfold mkSet
 cases hr : mkIn ⟨ins, hs, out⟩ i
 ·rw [hr] at h
  simp only [if_true, MkE.av, mkZ, Mk.av, List.map_nil] at h ⊢
  refine PC.mk (ac_body tab_ok Tryz.func135 rfl (by kernel_rfl) rfl ?_); intro w0 M μ0; simp only [Tryz.ntmps135, List.length_cons, List.length_nil, Nat.reduceAdd, Nat.reduceSub, numb]
  repeat' (first | ((first | apply o_do | apply d_do | apply d_yes rfl rfl rfl); first | exact lsc (h) | exact lsq) | refine a_seq ?_ | refine a_region ?_ | refine o_nil ?_ | refine a_block ?_ | refine a_ret ?_ | refine a_exit ?_ | refine a_skip ?_ | refine a_draw mixed ?_ | refine d_nil (by kernel_rfl) ?_ | refine o_yes rfl rfl rfl ?_ | refine o_no rfl rfl rfl (by decide) ?_ | refine o_no' rfl rfl rfl ?_ | refine a_condT rfl ?_ | refine a_condF rfl ?_ | refine d_no rfl rfl rfl (by decide) ?_ | refine d_no' rfl rfl rfl ?_ | (refine wq2 (fun hb => ?_) (fun hb => ?_) <;> (simp only [hb]; try simp only [hbs, ne_eq] at hb; try (exfalso; first | omega | exact hb trivial))) | fail)
  refine rq rfl ?_
  exact fnq
 ·rw [hr] at h
  have hr2 := hr
  simp only [mkIn, mkR, Bool.and_eq_true, decide_eq_true_eq] at hr2
  obtain ⟨⟨h1, h2, h3, h4⟩, h5, h6⟩ := hr2
  obtain ⟨q, rfl⟩ : ∃ q : Nat, i = (q : Int) := ⟨i.toNat, by omega⟩
  have hq : q < ins.length := by omega
  have ho := m_own (ins.map inAvM) (hs.map hoAv) out (by rw [List.length_map]; omega) (by rw [List.length_map]; omega)
  have hel : (ins.map inAvM)[q]? = some (inAvM ins[q]) := by simp [hq]
  have hqx : q < (ins.map inAvM).length := by rw [n1]; exact hq
  have hset : ∀ y : Int × Bool, (ins.set q y).map inAvM = (ins.map inAvM).set q (inAvM y) := fun y => List.map_set
  simp only [Bool.true_eq_false, if_false, MkE.av, mkPut, Mk.av, Int.toNat_natCast, getD_at hq, hset] at h ⊢
  generalize ins[q] = x at *
  obtain ⟨a, b⟩ := x
  refine PC.mk (ac_body tab_ok Tryz.func135 rfl (by kernel_rfl) rfl ?_); intro w0 M μ0; simp only [Tryz.ntmps135, List.length_cons, List.length_nil, Nat.reduceAdd, Nat.reduceSub, numb]
  repeat' (first | ((first | apply o_do | apply d_do | apply d_yes rfl rfl rfl); first | exact lsc (h) | exact lsc (hcl) | exact lca [] 2 ho | exact ls_indexAddr_own tab_ok rfl rfl rfl rfl rfl rfl hqx rfl | exact ls_fieldAddr_eref tab_ok rfl rfl rfl rfl rfl rfl rfl | exact ls_load_eref tab_ok rfl rfl rfl hel rfl rfl rfl rfl | exact ls_store_eref (cs' := inAvM (max a (clampT t), false)) tab_ok rfl rfl rfl rfl hel rfl rfl (pure2 _ _ rfl rfl) rfl rfl rfl rfl | exact lsq) | refine a_seq ?_ | refine a_region ?_ | refine o_nil ?_ | refine a_block ?_ | refine a_ret ?_ | refine a_exit ?_ | refine a_skip ?_ | refine a_draw mixed ?_ | refine d_nil (by kernel_rfl) ?_ | refine o_yes rfl rfl rfl ?_ | refine o_no rfl rfl rfl (by decide) ?_ | refine o_no' rfl rfl rfl ?_ | refine a_condT rfl ?_ | refine a_condF rfl ?_ | refine d_no rfl rfl rfl (by decide) ?_ | refine d_no' rfl rfl rfl ?_ | (refine wq2 (fun hb => ?_) (fun hb => ?_) <;> (simp only [hb]; try simp only [hbs, ne_eq] at hb; try (exfalso; first | omega | exact hb trivial))) | fail)
  refine rq rfl ?_
  (first | refine FinA.tup ?_ | refine FinA.one ?_); repeat' (first | exact FinBs.nil | exact FinCs.nil | refine FinBs.cons ?_ ?_ | refine FinCs.cons ?_ ?_ | refine FinB.cell (FinC.v ?_) | refine FinB.cell (FinC.own rfl rfl rfl ?_) | exact FinB.cell FinC.nil | refine FinB.cell (FinC.sl ?_) | exact FinB.agg' rfl rfl | exact FinB.cell (FinC.same rfl) | refine FinB.agg ?_ | refine FinC.v ?_ | refine FinC.own rfl rfl rfl ?_ | exact FinC.nil | refine FinC.sl ?_ | exact FinC.same rfl); all_goals try rfl
  all_goals exact FinC.own rfl (by simp) rfl rfl
theorem m_Idle (m : Mk) (i : Int) (hi : m.ins.length ≤ 9223372036854775807) (hh : m.hs.length ≤ 9223372036854775807) : PC Tryz.prog 136 [.agg m.av, .v (.int .i64 i)] (mkIdle m i).av := by
 have h := m_input m i hi hh
 obtain ⟨ins, hs, out⟩ := m
 have n1 : (ins.map inAvM).length = ins.length := List.length_map _
 unfold mkIdle
 cases hr : mkIn ⟨ins, hs, out⟩ i
 ·rw [hr] at h
  simp only [if_true, MkE.av, mkZ, Mk.av, List.map_nil] at h ⊢
  refine PC.mk (ac_body tab_ok Tryz.func136 rfl (by kernel_rfl) rfl ?_); intro w0 M μ0; simp only [Tryz.ntmps136, List.length_cons, List.length_nil, Nat.reduceAdd, Nat.reduceSub, numb]
  repeat' (first | ((first | apply o_do | apply d_do | apply d_yes rfl rfl rfl); first | exact lsc (h) | exact lsq) | refine a_seq ?_ | refine a_region ?_ | refine o_nil ?_ | refine a_block ?_ | refine a_ret ?_ | refine a_exit ?_ | refine a_skip ?_ | refine a_draw mixed ?_ | refine d_nil (by kernel_rfl) ?_ | refine o_yes rfl rfl rfl ?_ | refine o_no rfl rfl rfl (by decide) ?_ | refine o_no' rfl rfl rfl ?_ | refine a_condT rfl ?_ | refine a_condF rfl ?_ | refine d_no rfl rfl rfl (by decide) ?_ | refine d_no' rfl rfl rfl ?_ | (refine wq2 (fun hb => ?_) (fun hb => ?_) <;> (simp only [hb]; try simp only [hbs, ne_eq] at hb; try (exfalso; first | omega | exact hb trivial))) | fail)
  refine rq rfl ?_
  exact fnq
 ·rw [hr] at h
  have hr2 := hr
  simp only [mkIn, mkR, Bool.and_eq_true, decide_eq_true_eq] at hr2
  obtain ⟨⟨h1, h2, h3, h4⟩, h5, h6⟩ := hr2
  obtain ⟨q, rfl⟩ : ∃ q : Nat, i = (q : Int) := ⟨i.toNat, by omega⟩
  have hq : q < ins.length := by omega
  have ho := m_own (ins.map inAvM) (hs.map hoAv) out (by rw [List.length_map]; omega) (by rw [List.length_map]; omega)
  have hel : (ins.map inAvM)[q]? = some (inAvM ins[q]) := by simp [hq]
  have hqx : q < (ins.map inAvM).length := by rw [n1]; exact hq
  have hset : ∀ y : Int × Bool, (ins.set q y).map inAvM = (ins.map inAvM).set q (inAvM y) := fun y => List.map_set
  simp only [Bool.true_eq_false, if_false, MkE.av, mkPut, Mk.av, Int.toNat_natCast, getD_at hq, hset] at h ⊢
  generalize ins[q] = x at *
  obtain ⟨a, b⟩ := x
  refine PC.mk (ac_body tab_ok Tryz.func136 rfl (by kernel_rfl) rfl ?_); intro w0 M μ0; simp only [Tryz.ntmps136, List.length_cons, List.length_nil, Nat.reduceAdd, Nat.reduceSub, numb]
  repeat' (first | ((first | apply o_do | apply d_do | apply d_yes rfl rfl rfl); first | exact lsc (h) | exact lca [] 2 ho | exact ls_indexAddr_own tab_ok rfl rfl rfl rfl rfl rfl hqx rfl | exact ls_fieldAddr_eref tab_ok rfl rfl rfl rfl rfl rfl rfl | exact ls_load_eref tab_ok rfl rfl rfl hel rfl rfl rfl rfl | exact ls_store_eref (cs' := inAvM (a, true)) tab_ok rfl rfl rfl rfl hel rfl rfl (pure1 _) rfl rfl rfl rfl | exact lsq) | refine a_seq ?_ | refine a_region ?_ | refine o_nil ?_ | refine a_block ?_ | refine a_ret ?_ | refine a_exit ?_ | refine a_skip ?_ | refine a_draw mixed ?_ | refine d_nil (by kernel_rfl) ?_ | refine o_yes rfl rfl rfl ?_ | refine o_no rfl rfl rfl (by decide) ?_ | refine o_no' rfl rfl rfl ?_ | refine a_condT rfl ?_ | refine a_condF rfl ?_ | refine d_no rfl rfl rfl (by decide) ?_ | refine d_no' rfl rfl rfl ?_ | (refine wq2 (fun hb => ?_) (fun hb => ?_) <;> (simp only [hb]; try simp only [hbs, ne_eq] at hb; try (exfalso; first | omega | exact hb trivial))) | fail)
  refine rq rfl ?_
  (first | refine FinA.tup ?_ | refine FinA.one ?_); repeat' (first | exact FinBs.nil | exact FinCs.nil | refine FinBs.cons ?_ ?_ | refine FinCs.cons ?_ ?_ | refine FinB.cell (FinC.v ?_) | refine FinB.cell (FinC.own rfl rfl rfl ?_) | exact FinB.cell FinC.nil | refine FinB.cell (FinC.sl ?_) | exact FinB.agg' rfl rfl | exact FinB.cell (FinC.same rfl) | refine FinB.agg ?_ | refine FinC.v ?_ | refine FinC.own rfl rfl rfl ?_ | exact FinC.nil | refine FinC.sl ?_ | exact FinC.same rfl); all_goals try rfl
  all_goals exact FinC.own rfl (by simp) rfl rfl
theorem m_backI (ins : List (Int × Bool)) (hx : ins.length ≤ 1000000) : AC Tryz.prog 138 [.sl 2 (ins.map inAvM)] [] (.own 0 ((backI ins).map tiA).length) [(0, .row 2 1 ((backI ins).map tiA))] := by
 refine (ac_body tab_ok Tryz.func138 rfl (by kernel_rfl) rfl ?_); intro w0 M μ0; simp only [Tryz.ntmps138, List.length_cons, List.length_nil, Nat.reduceAdd, Nat.reduceSub, numb]
 repeat' (first | ((first | apply o_do | apply d_do | apply d_yes rfl rfl rfl); exact lsq) | refine a_seq ?_ | refine a_region ?_ | refine o_nil ?_ | refine a_block ?_ | refine a_ret ?_ | refine a_exit ?_ | refine a_skip ?_ | refine a_draw mixed ?_ | refine d_nil (by kernel_rfl) ?_ | refine o_yes rfl rfl rfl ?_ | refine o_no rfl rfl rfl (by decide) ?_ | refine o_no' rfl rfl rfl ?_ | refine a_condT rfl ?_ | refine a_condF rfl ?_ | refine d_no rfl rfl rfl (by decide) ?_ | refine d_no' rfl rfl rfl ?_ | (refine wq2 (fun hb => ?_) (fun hb => ?_) <;> (simp only [hb]; try simp only [hbs, ne_eq] at hb; try (exfalso; first | omega | exact hb trivial))) | fail)
 refine a_adopt 3 0 2 1 rfl rfl ?_
 refine a_loop (X := {q : Nat // q ≤ ins.length}) (fun x => ⟨[(3, .own 0 ((backI (ins.take x.1)).map tiA).length), (6, .sl 2 (ins.map inAvM)), (7, .v (.int .i64 ins.length)), (8, .v (.int .i64 x.1))], [(0, .row 2 1 ((backI (ins.take x.1)).map tiA))]⟩) (fun x => ins.length - x.1) ⟨0, Nat.zero_le _⟩ ?_ ?_
 ·exact wkS
 rintro ⟨q, hq⟩
 dsimp only
 by_cases hlt : q < ins.length
 ·have hel : (ins.map inAvM)[q]? = some (inAvM ins[q]) := by simp [hlt]
  have hsn := take_snoc ins q hlt
  have hbk := backI_snoc (ins.take q) ins[q]
  rw [← hsn] at hbk
  have hl := backI_le (ins.take q)
  rw [List.length_take] at hl
  have hl2 : ((backI (ins.take q)).map tiA).length ≤ 1000000 := by rw [List.length_map]; omega
  generalize ins[q] = x at *
  obtain ⟨a, b⟩ := x
  cases b
  ·have e : (backI (ins.take (q + 1))).map tiA = (backI (ins.take q)).map tiA ++ [tiA a] := by rw [hbk]; simp
   repeat' (first | ((first | apply o_do | apply d_do | apply d_yes rfl rfl rfl); first | exact ls_indexAddr_sl tab_ok rfl rfl rfl rfl (by assumption) rfl | focus (apply ls_append tab_ok rfl rfl ?hn rfl ?hsrc rfl ?hlen rfl rfl; (case hn => rfl); (case hsrc => first | exact SrcIs.sl | exact SrcIs.nil | exact SrcIs.own rfl rfl | fail); (case hlen => (try simp only [List.length_cons, List.length_nil]); omega); first | done | fail) | exact lsq) | refine a_seq ?_ | refine a_region ?_ | refine o_nil ?_ | refine a_block ?_ | refine a_ret ?_ | refine a_exit ?_ | refine a_skip ?_ | refine a_draw mixed ?_ | refine d_nil (by kernel_rfl) ?_ | refine o_yes rfl rfl rfl ?_ | refine o_no rfl rfl rfl (by decide) ?_ | refine o_no' rfl rfl rfl ?_ | refine a_condT rfl ?_ | refine a_condF rfl ?_ | refine d_no rfl rfl rfl (by decide) ?_ | refine d_no' rfl rfl rfl ?_ | (refine wq2 (fun hb => ?_) (fun hb => ?_) <;> (simp only [hb]; try simp only [hbs, ne_eq] at hb; try (exfalso; first | omega | exact hb trivial))) | fail)
   refine ⟨⟨q + 1, by omega⟩, by dsimp only; omega, ?_⟩
   refine ⟨by repeat' (first | exact trivial | exact FinA.one (FinB.cell (FinC.same rfl)) | exact FinA.one (FinB.cell FinC.nil) | exact FinA.bound rfl | exact FinA.one (FinB.cell (FinC.own rfl rfl rfl rfl)) | exact FinA.one (FinB.cell (FinC.v (by first | rfl | ((first | (simp only [e]; rfl) | simp))))) | exact FinA.one (FinB.cell (FinC.ow rfl (by first | rfl | ((first | (simp only [e]; rfl) | simp))))) | exact FinA.one (FinB.agg' rfl rfl) | refine ⟨⟨_, rfl, ?_⟩, ?_⟩), by repeat' (first | exact trivial | refine ⟨⟨_, rfl, by first | rfl | ((first | (simp only [e]; rfl) | simp); done) | (simp [renO, *]; done)⟩, by first | rfl | assumption, ?_⟩), rfl⟩
  ·have e : (backI (ins.take (q + 1))).map tiA = (backI (ins.take q)).map tiA := by rw [hbk]; simp
   repeat' (first | ((first | apply o_do | apply d_do | apply d_yes rfl rfl rfl); first | exact ls_indexAddr_sl tab_ok rfl rfl rfl rfl (by assumption) rfl | focus (apply ls_append tab_ok rfl rfl ?hn rfl ?hsrc rfl ?hlen rfl rfl; (case hn => rfl); (case hsrc => first | exact SrcIs.sl | exact SrcIs.nil | exact SrcIs.own rfl rfl | fail); (case hlen => (try simp only [List.length_cons, List.length_nil]); omega); first | done | fail) | exact lsq) | refine a_seq ?_ | refine a_region ?_ | refine o_nil ?_ | refine a_block ?_ | refine a_ret ?_ | refine a_exit ?_ | refine a_skip ?_ | refine a_draw mixed ?_ | refine d_nil (by kernel_rfl) ?_ | refine o_yes rfl rfl rfl ?_ | refine o_no rfl rfl rfl (by decide) ?_ | refine o_no' rfl rfl rfl ?_ | refine a_condT rfl ?_ | refine a_condF rfl ?_ | refine d_no rfl rfl rfl (by decide) ?_ | refine d_no' rfl rfl rfl ?_ | (refine wq2 (fun hb => ?_) (fun hb => ?_) <;> (simp only [hb]; try simp only [hbs, ne_eq] at hb; try (exfalso; first | omega | exact hb trivial))) | fail)
   refine ⟨⟨q + 1, by omega⟩, by dsimp only; omega, ?_⟩
   refine ⟨by repeat' (first | exact trivial | exact FinA.one (FinB.cell (FinC.same rfl)) | exact FinA.one (FinB.cell FinC.nil) | exact FinA.bound rfl | exact FinA.one (FinB.cell (FinC.own rfl rfl rfl rfl)) | exact FinA.one (FinB.cell (FinC.v (by first | rfl | ((first | (simp only [e]; done) | (simp only [e]; rfl) | simp))))) | exact FinA.one (FinB.cell (FinC.ow rfl (by first | rfl | ((first | (simp only [e]; done) | (simp only [e]; rfl) | simp))))) | exact FinA.one (FinB.agg' rfl rfl) | refine ⟨⟨_, rfl, ?_⟩, ?_⟩), by repeat' (first | exact trivial | refine ⟨⟨_, rfl, by first | rfl | ((first | (simp only [e]; done) | (simp only [e]; rfl) | simp); done) | (simp [renO, *]; done)⟩, by first | rfl | assumption, ?_⟩), rfl⟩
 ·obtain rfl : q = ins.length := by omega
  rw [List.take_length]
  repeat' (first | ((first | apply o_do | apply d_do | apply d_yes rfl rfl rfl); exact lsq) | refine a_seq ?_ | refine a_region ?_ | refine o_nil ?_ | refine a_block ?_ | refine a_ret ?_ | refine a_exit ?_ | refine a_skip ?_ | refine a_draw mixed ?_ | refine d_nil (by kernel_rfl) ?_ | refine o_yes rfl rfl rfl ?_ | refine o_no rfl rfl rfl (by decide) ?_ | refine o_no' rfl rfl rfl ?_ | refine a_condT rfl ?_ | refine a_condF rfl ?_ | refine d_no rfl rfl rfl (by decide) ?_ | refine d_no' rfl rfl rfl ?_ | (refine wq2 (fun hb => ?_) (fun hb => ?_) <;> (simp only [hb]; try simp only [hbs, ne_eq] at hb; try (exfalso; first | omega | exact hb trivial))) | fail)
  refine rq rfl ?_
  exact fnq
theorem m_backH (hs : List (Int × Int)) (hx : hs.length ≤ 1000000) : AC Tryz.prog 139 [.sl 2 (hs.map hoAv)] [] (.own 0 ((backH hs).map tiA).length) [(0, .row 2 1 ((backH hs).map tiA))] := by
 refine (ac_body tab_ok Tryz.func139 rfl (by kernel_rfl) rfl ?_); intro w0 M μ0; simp only [Tryz.ntmps139, List.length_cons, List.length_nil, Nat.reduceAdd, Nat.reduceSub, numb]
 repeat' (first | ((first | apply o_do | apply d_do | apply d_yes rfl rfl rfl); exact lsq) | refine a_seq ?_ | refine a_region ?_ | refine o_nil ?_ | refine a_block ?_ | refine a_ret ?_ | refine a_exit ?_ | refine a_skip ?_ | refine a_draw mixed ?_ | refine d_nil (by kernel_rfl) ?_ | refine o_yes rfl rfl rfl ?_ | refine o_no rfl rfl rfl (by decide) ?_ | refine o_no' rfl rfl rfl ?_ | refine a_condT rfl ?_ | refine a_condF rfl ?_ | refine d_no rfl rfl rfl (by decide) ?_ | refine d_no' rfl rfl rfl ?_ | (refine wq2 (fun hb => ?_) (fun hb => ?_) <;> (simp only [hb]; try simp only [hbs, ne_eq] at hb; try (exfalso; first | omega | exact hb trivial))) | fail)
 refine a_adopt 3 0 2 1 rfl rfl ?_
 refine a_loop (X := {q : Nat // q ≤ hs.length}) (fun x => ⟨[(3, .own 0 ((backH (hs.take x.1)).map tiA).length), (6, .sl 2 (hs.map hoAv)), (7, .v (.int .i64 hs.length)), (8, .v (.int .i64 x.1))], [(0, .row 2 1 ((backH (hs.take x.1)).map tiA))]⟩) (fun x => hs.length - x.1) ⟨0, Nat.zero_le _⟩ ?_ ?_
 ·exact wkS
 rintro ⟨q, hq⟩
 dsimp only
 by_cases hlt : q < hs.length
 ·have hel : (hs.map hoAv)[q]? = some (hoAv hs[q]) := by simp [hlt]
  have hsn := take_snoc hs q hlt
  have hbk := backH_snoc (hs.take q) hs[q]
  rw [← hsn] at hbk
  have hl2 : ((backH (hs.take q)).map tiA).length ≤ 1000000 := by simp [backH]; omega
  generalize hs[q] = x at *
  obtain ⟨a, b⟩ := x
  have e : (backH (hs.take (q + 1))).map tiA = (backH (hs.take q)).map tiA ++ [tiA b] := by rw [hbk]; simp
  repeat' (first | ((first | apply o_do | apply d_do | apply d_yes rfl rfl rfl); first | exact ls_indexAddr_sl tab_ok rfl rfl rfl rfl (by assumption) rfl | focus (apply ls_append tab_ok rfl rfl ?hn rfl ?hsrc rfl ?hlen rfl rfl; (case hn => rfl); (case hsrc => first | exact SrcIs.sl | exact SrcIs.nil | exact SrcIs.own rfl rfl | fail); (case hlen => (try simp only [List.length_cons, List.length_nil]); omega); first | done | fail) | exact lsq) | refine a_seq ?_ | refine a_region ?_ | refine o_nil ?_ | refine a_block ?_ | refine a_ret ?_ | refine a_exit ?_ | refine a_skip ?_ | refine a_draw mixed ?_ | refine d_nil (by kernel_rfl) ?_ | refine o_yes rfl rfl rfl ?_ | refine o_no rfl rfl rfl (by decide) ?_ | refine o_no' rfl rfl rfl ?_ | refine a_condT rfl ?_ | refine a_condF rfl ?_ | refine d_no rfl rfl rfl (by decide) ?_ | refine d_no' rfl rfl rfl ?_ | (refine wq2 (fun hb => ?_) (fun hb => ?_) <;> (simp only [hb]; try simp only [hbs, ne_eq] at hb; try (exfalso; first | omega | exact hb trivial))) | fail)
  refine ⟨⟨q + 1, by omega⟩, by dsimp only; omega, ?_⟩
  refine ⟨by repeat' (first | exact trivial | exact FinA.one (FinB.cell (FinC.same rfl)) | exact FinA.one (FinB.cell FinC.nil) | exact FinA.bound rfl | exact FinA.one (FinB.cell (FinC.own rfl rfl rfl rfl)) | exact FinA.one (FinB.cell (FinC.v (by first | rfl | ((first | (simp only [e]; rfl) | simp))))) | exact FinA.one (FinB.cell (FinC.ow rfl (by first | rfl | ((first | (simp only [e]; rfl) | simp))))) | exact FinA.one (FinB.agg' rfl rfl) | refine ⟨⟨_, rfl, ?_⟩, ?_⟩), by repeat' (first | exact trivial | refine ⟨⟨_, rfl, by first | rfl | ((first | (simp only [e]; rfl) | simp); done) | (simp [renO, *]; done)⟩, by first | rfl | assumption, ?_⟩), rfl⟩
 ·obtain rfl : q = hs.length := by omega
  rw [List.take_length]
  repeat' (first | ((first | apply o_do | apply d_do | apply d_yes rfl rfl rfl); exact lsq) | refine a_seq ?_ | refine a_region ?_ | refine o_nil ?_ | refine a_block ?_ | refine a_ret ?_ | refine a_exit ?_ | refine a_skip ?_ | refine a_draw mixed ?_ | refine d_nil (by kernel_rfl) ?_ | refine o_yes rfl rfl rfl ?_ | refine o_no rfl rfl rfl (by decide) ?_ | refine o_no' rfl rfl rfl ?_ | refine a_condT rfl ?_ | refine a_condF rfl ?_ | refine d_no rfl rfl rfl (by decide) ?_ | refine d_no' rfl rfl rfl ?_ | (refine wq2 (fun hb => ?_) (fun hb => ?_) <;> (simp only [hb]; try simp only [hbs, ne_eq] at hb; try (exfalso; first | omega | exact hb trivial))) | fail)
  refine rq rfl ?_
  exact fnq
theorem t_First (l : List Int) (hx : l.length ≤ 9223372036854775807) : PC Tryz.prog 155 [.sl 1 (l.map tiA)] (.v (.int .i64 (firstT l))) := by
 refine PC.mk (ac_body tab_ok Tryz.func155 rfl (by kernel_rfl) rfl ?_); intro w0 M μ0; simp only [Tryz.ntmps155, List.length_cons, List.length_nil, Nat.reduceAdd, Nat.reduceSub, numb]
 repeat' (first | ((first | apply o_do | apply d_do | apply d_yes rfl rfl rfl); exact lsq) | refine a_seq ?_ | refine a_region ?_ | refine o_nil ?_ | refine a_block ?_ | refine a_ret ?_ | refine a_exit ?_ | refine a_skip ?_ | refine a_draw mixed ?_ | refine d_nil (by kernel_rfl) ?_ | refine o_yes rfl rfl rfl ?_ | refine o_no rfl rfl rfl (by decide) ?_ | refine o_no' rfl rfl rfl ?_ | refine a_condT rfl ?_ | refine a_condF rfl ?_ | refine d_no rfl rfl rfl (by decide) ?_ | refine d_no' rfl rfl rfl ?_ | (refine wq2 (fun hb => ?_) (fun hb => ?_) <;> (simp only [hb]; try simp only [hbs, ne_eq] at hb; try (exfalso; first | omega | exact hb trivial))) | fail)
 refine a_loop (X := {q : Nat // q ≤ l.length}) (fun x => ⟨[(3, .v (.int .i64 (firstT (l.take x.1)))), (6, .sl 1 (l.map tiA)), (7, .v (.int .i64 l.length)), (8, .v (.int .i64 x.1))], []⟩) (fun x => l.length - x.1) ⟨0, Nat.zero_le _⟩ ?_ ?_
 ·refine ⟨by repeat' (first | exact trivial | exact FinA.one (FinB.cell (FinC.same rfl)) | exact FinA.one (FinB.cell FinC.nil) | exact FinA.bound rfl | exact FinA.one (FinB.cell (FinC.own rfl rfl rfl rfl)) | exact FinA.one (FinB.cell (FinC.v (by first | rfl | (simp [firstT])))) | exact FinA.one (FinB.cell (FinC.ow rfl (by first | rfl | (simp [firstT])))) | exact FinA.one (FinB.agg' rfl rfl) | refine ⟨⟨_, rfl, ?_⟩, ?_⟩), by repeat' (first | exact trivial | refine ⟨⟨_, rfl, by first | rfl | (simp [firstT]; done) | (simp [renO, *]; done)⟩, by first | rfl | assumption, ?_⟩), rfl⟩
 rintro ⟨q, hq⟩
 dsimp only
 by_cases hlt : q < l.length
 ·have hel : (l.map tiA)[q]? = some (tiA l[q]) := by simp [hlt]
  have hsn := take_snoc l q hlt
  have hf := firstT_snoc (l.take q) l[q]
  rw [← hsn] at hf
  have hcl := p_clamp l[q]
  generalize l[q] = x at *
  repeat' (first | ((first | apply o_do | apply d_do | apply d_yes rfl rfl rfl); first | exact ls_indexAddr_sl tab_ok rfl rfl rfl rfl (by assumption) rfl | exact lsc (hcl) | exact lsq) | refine a_seq ?_ | refine a_region ?_ | refine o_nil ?_ | refine a_block ?_ | refine a_ret ?_ | refine a_exit ?_ | refine a_skip ?_ | refine a_draw mixed ?_ | refine d_nil (by kernel_rfl) ?_ | refine o_yes rfl rfl rfl ?_ | refine o_no rfl rfl rfl (by decide) ?_ | refine o_no' rfl rfl rfl ?_ | refine a_condT rfl ?_ | refine a_condF rfl ?_ | refine d_no rfl rfl rfl (by decide) ?_ | refine d_no' rfl rfl rfl ?_ | (refine wq2 (fun hb => ?_) (fun hb => ?_) <;> (simp only [hb]; try simp only [hbs, ne_eq] at hb; try (exfalso; first | omega | exact hb trivial))) | fail)
  refine ⟨⟨q + 1, by omega⟩, by dsimp only; omega, ?_⟩
  refine ⟨by repeat' (first | exact trivial | exact FinA.one (FinB.cell (FinC.same rfl)) | exact FinA.one (FinB.cell FinC.nil) | exact FinA.bound rfl | exact FinA.one (FinB.cell (FinC.own rfl rfl rfl rfl)) | exact FinA.one (FinB.cell (FinC.v (by first | rfl | ((first | (rw [hf]; done) | simp [hf]))))) | exact FinA.one (FinB.cell (FinC.ow rfl (by first | rfl | ((first | (rw [hf]; done) | simp [hf]))))) | exact FinA.one (FinB.agg' rfl rfl) | refine ⟨⟨_, rfl, ?_⟩, ?_⟩), by repeat' (first | exact trivial | refine ⟨⟨_, rfl, by first | rfl | ((first | (rw [hf]; done) | simp [hf]); done) | (simp [renO, *]; done)⟩, by first | rfl | assumption, ?_⟩), rfl⟩
 ·obtain rfl : q = l.length := by omega
  rw [List.take_length]
  repeat' (first | ((first | apply o_do | apply d_do | apply d_yes rfl rfl rfl); exact lsq) | refine a_seq ?_ | refine a_region ?_ | refine o_nil ?_ | refine a_block ?_ | refine a_ret ?_ | refine a_exit ?_ | refine a_skip ?_ | refine a_draw mixed ?_ | refine d_nil (by kernel_rfl) ?_ | refine o_yes rfl rfl rfl ?_ | refine o_no rfl rfl rfl (by decide) ?_ | refine o_no' rfl rfl rfl ?_ | refine a_condT rfl ?_ | refine a_condF rfl ?_ | refine d_no rfl rfl rfl (by decide) ?_ | refine d_no' rfl rfl rfl ?_ | (refine wq2 (fun hb => ?_) (fun hb => ?_) <;> (simp only [hb]; try simp only [hbs, ne_eq] at hb; try (exfalso; first | omega | exact hb trivial))) | fail)
  refine rq rfl ?_
  exact fnq
theorem m_first (ins : List (Int × Bool)) (hs : List (Int × Int)) (h1 : ins.length ≤ 1000000) (h2 : hs.length ≤ 1000000) : PC Tryz.prog 137 [.sl 2 (ins.map inAvM), .sl 2 (hs.map hoAv), .clo (.func 138) [] [], .clo (.func 139) [] []] (.tup [.v (.int .i64 (firstT (backI ins ++ backH hs))), .v (.bool (decide (backI ins ++ backH hs ≠ [])))]) := by
 have hb1 := m_backI ins h1
 have hb2 := m_backH hs h2
 have hl := backI_le ins
 have hl2 : (backH hs).length = hs.length := by simp [backH]
 have hf := t_First (backI ins ++ backH hs) (by rw [List.length_append]; omega)
 rw [List.map_append] at hf
 have e : decide (backI ins ++ backH hs ≠ []) = decide (((0 : Int) < (((backI ins).map tiA ++ (backH hs).map tiA).length : Int))) := by
  rw [← List.map_append, List.length_map]
  cases backI ins ++ backH hs <;> simp
 rw [e]
 have hq : ((backI ins).map tiA).length + ((backH hs).map tiA).length ≤ 1000000000 := by rw [List.length_map, List.length_map]; omega
 refine PC.mk (ac_body tab_ok Tryz.func137 rfl (by kernel_rfl) rfl ?_); intro w0 M μ0; simp only [Tryz.ntmps137, List.length_cons, List.length_nil, Nat.reduceAdd, Nat.reduceSub, numb]
 repeat' (first | ((first | apply o_do | apply d_do | apply d_yes rfl rfl rfl); first | exact lca [] 0 hb1 | exact lca [] 1 hb2 | focus (apply ls_append tab_ok rfl rfl ?hn rfl ?hsrc rfl ?hlen rfl rfl; (case hn => rfl); (case hsrc => first | exact SrcIs.sl | exact SrcIs.nil | exact SrcIs.own rfl rfl | fail); (case hlen => (try simp only [List.length_cons, List.length_nil]); omega); first | done | fail) | exact lcs (hf) | exact lsq) | refine a_seq ?_ | refine a_region ?_ | refine o_nil ?_ | refine a_block ?_ | refine a_ret ?_ | refine a_exit ?_ | refine a_skip ?_ | refine a_draw mixed ?_ | refine d_nil (by kernel_rfl) ?_ | refine o_yes rfl rfl rfl ?_ | refine o_no rfl rfl rfl (by decide) ?_ | refine o_no' rfl rfl rfl ?_ | refine a_condT rfl ?_ | refine a_condF rfl ?_ | refine d_no rfl rfl rfl (by decide) ?_ | refine d_no' rfl rfl rfl ?_ | (refine wq2 (fun hb => ?_) (fun hb => ?_) <;> (simp only [hb]; try simp only [hbs, ne_eq] at hb; try (exfalso; first | omega | exact hb trivial))) | fail)
 refine rq rfl ?_
 exact fnq
theorem m_Tell (m : Mk) (hi : m.ins.length ≤ 9223372036854775807) (hh : m.hs.length ≤ 9223372036854775807) : PC Tryz.prog 106 [.agg m.av] (mkTell m).av := by
 have h := m_Right m hi hh
 obtain ⟨ins, hs, out⟩ := m
 unfold mkTell
 cases hr : mkR ⟨ins, hs, out⟩
 ·rw [hr] at h
  simp only [if_true, MkT.av, mkZ, Mk.av, List.map_nil] at h ⊢
  refine PC.mk (ac_body tab_ok Tryz.func106 rfl (by kernel_rfl) rfl ?_); intro w0 M μ0; simp only [Tryz.ntmps106, List.length_cons, List.length_nil, Nat.reduceAdd, Nat.reduceSub, numb]
  repeat' (first | ((first | apply o_do | apply d_do | apply d_yes rfl rfl rfl); first | exact lsc (h) | exact lsq) | refine a_seq ?_ | refine a_region ?_ | refine o_nil ?_ | refine a_block ?_ | refine a_ret ?_ | refine a_exit ?_ | refine a_skip ?_ | refine a_draw mixed ?_ | refine d_nil (by kernel_rfl) ?_ | refine o_yes rfl rfl rfl ?_ | refine o_no rfl rfl rfl (by decide) ?_ | refine o_no' rfl rfl rfl ?_ | refine a_condT rfl ?_ | refine a_condF rfl ?_ | refine d_no rfl rfl rfl (by decide) ?_ | refine d_no' rfl rfl rfl ?_ | (refine wq2 (fun hb => ?_) (fun hb => ?_) <;> (simp only [hb]; try simp only [hbs, ne_eq] at hb; try (exfalso; first | omega | exact hb trivial))) | fail)
  refine rq rfl ?_
  exact fnq
 ·rw [hr] at h
  have hr2 := hr
  simp only [mkR, Bool.and_eq_true, decide_eq_true_eq] at hr2
  obtain ⟨h1, h2, h3, h4⟩ := hr2
  have hf := m_first ins hs (by omega) (by omega)
  have ho := m_own (ins.map inAvM) (hs.map hoAv) out (by rw [List.length_map]; omega) (by rw [List.length_map]; omega)
  simp only [Mk.av] at h
  by_cases hnil : backI ins ++ backH hs = []
  ·rw [decide_eq_false (by simp [hnil])] at hf
   simp only [Bool.true_eq_false, if_false, hnil, true_or, if_true, MkT.av, Mk.av]
   refine PC.mk (ac_body tab_ok Tryz.func106 rfl (by kernel_rfl) rfl ?_); intro w0 M μ0; simp only [Tryz.ntmps106, List.length_cons, List.length_nil, Nat.reduceAdd, Nat.reduceSub, numb]
   repeat' (first | ((first | apply o_do | apply d_do | apply d_yes rfl rfl rfl); first | exact lsc (h) | exact lsc (hf) | exact lca [] 2 ho | exact lsq) | refine a_seq ?_ | refine a_region ?_ | refine o_nil ?_ | refine a_block ?_ | refine a_ret ?_ | refine a_exit ?_ | refine a_skip ?_ | refine a_draw mixed ?_ | refine d_nil (by kernel_rfl) ?_ | refine o_yes rfl rfl rfl ?_ | refine o_no rfl rfl rfl (by decide) ?_ | refine o_no' rfl rfl rfl ?_ | refine a_condT rfl ?_ | refine a_condF rfl ?_ | refine d_no rfl rfl rfl (by decide) ?_ | refine d_no' rfl rfl rfl ?_ | (refine wq2 (fun hb => ?_) (fun hb => ?_) <;> (simp only [hb]; try simp only [hbs, ne_eq] at hb; try (exfalso; first | omega | exact hb trivial))) | fail)
   refine rq rfl ?_
   exact fnq
  ·rw [decide_eq_true hnil] at hf
   by_cases hle : firstT (backI ins ++ backH hs) ≤ out
   ·simp only [Bool.true_eq_false, if_false, hle, or_true, if_true, MkT.av, Mk.av]
    refine PC.mk (ac_body tab_ok Tryz.func106 rfl (by kernel_rfl) rfl ?_); intro w0 M μ0; simp only [Tryz.ntmps106, List.length_cons, List.length_nil, Nat.reduceAdd, Nat.reduceSub, numb]
    repeat' (first | ((first | apply o_do | apply d_do | apply d_yes rfl rfl rfl); first | exact lsc (h) | exact lsc (hf) | exact lca [] 2 ho | exact lsq) | refine a_seq ?_ | refine a_region ?_ | refine o_nil ?_ | refine a_block ?_ | refine a_ret ?_ | refine a_exit ?_ | refine a_skip ?_ | refine a_draw mixed ?_ | refine d_nil (by kernel_rfl) ?_ | refine o_yes rfl rfl rfl ?_ | refine o_no rfl rfl rfl (by decide) ?_ | refine o_no' rfl rfl rfl ?_ | refine a_condT rfl ?_ | refine a_condF rfl ?_ | refine d_no rfl rfl rfl (by decide) ?_ | refine d_no' rfl rfl rfl ?_ | (refine wq2 (fun hb => ?_) (fun hb => ?_) <;> (simp only [hb]; try simp only [hbs, ne_eq] at hb; try (exfalso; first | omega | exact hb trivial))) | fail)
    refine rq rfl ?_
    exact fnq
   ·simp only [Bool.true_eq_false, if_false, hle, hnil, or_self, MkT.av, Mk.av]
    refine PC.mk (ac_body tab_ok Tryz.func106 rfl (by kernel_rfl) rfl ?_); intro w0 M μ0; simp only [Tryz.ntmps106, List.length_cons, List.length_nil, Nat.reduceAdd, Nat.reduceSub, numb]
    repeat' (first | ((first | apply o_do | apply d_do | apply d_yes rfl rfl rfl); first | exact lsc (h) | exact lsc (hf) | exact lca [] 2 ho | exact lsq) | refine a_seq ?_ | refine a_region ?_ | refine o_nil ?_ | refine a_block ?_ | refine a_ret ?_ | refine a_exit ?_ | refine a_skip ?_ | refine a_draw mixed ?_ | refine d_nil (by kernel_rfl) ?_ | refine o_yes rfl rfl rfl ?_ | refine o_no rfl rfl rfl (by decide) ?_ | refine o_no' rfl rfl rfl ?_ | refine a_condT rfl ?_ | refine a_condF rfl ?_ | refine d_no rfl rfl rfl (by decide) ?_ | refine d_no' rfl rfl rfl ?_ | (refine wq2 (fun hb => ?_) (fun hb => ?_) <;> (simp only [hb]; try simp only [hbs, ne_eq] at hb; try (exfalso; first | omega | exact hb trivial))) | fail)
    refine rq rfl ?_
    exact fnq
theorem l_has (a : Al) (i : Int) (hg : a.got.length ≤ 9223372036854775807) (hh : a.held.length ≤ 9223372036854775807) (hi : ∀ l ∈ a.held, l.length ≤ 9223372036854775807) : PC Tryz.prog 98 [.agg a.av, .v (.int .i64 i)] (.v (.bool (alHas a i))) := by
 have h := l_Right a hg hh hi
 obtain ⟨n, got, held⟩ := a
 have n1 : (got.map boAv).length = got.length := List.length_map _
 unfold alHas
 simp only [Al.av] at h ⊢
 cases hr : alR ⟨n, got, held⟩
 all_goals
  rw [hr] at h
  refine PC.mk (ac_body tab_ok Tryz.func98 rfl (by kernel_rfl) rfl ?_); intro w0 M μ0; simp only [Tryz.ntmps98, List.length_cons, List.length_nil, Nat.reduceAdd, Nat.reduceSub, numb]
  repeat' (first | ((first | apply o_do | apply d_do | apply d_yes rfl rfl rfl); first | exact lsc (h) | exact lsq) | refine a_seq ?_ | refine a_region ?_ | refine o_nil ?_ | refine a_block ?_ | refine a_ret ?_ | refine a_exit ?_ | refine a_skip ?_ | refine a_draw mixed ?_ | refine d_nil (by kernel_rfl) ?_ | refine o_yes rfl rfl rfl ?_ | refine o_no rfl rfl rfl (by decide) ?_ | refine o_no' rfl rfl rfl ?_ | refine a_condT rfl ?_ | refine a_condF rfl ?_ | refine d_no rfl rfl rfl (by decide) ?_ | refine d_no' rfl rfl rfl ?_ | (refine wq2 (fun hb => ?_) (fun hb => ?_) <;> (simp only [hb]; try simp only [hbs, ne_eq] at hb; try (exfalso; first | omega | exact hb trivial))) | fail)
  all_goals refine rq rfl ?_
  all_goals (first | refine FinA.tup ?_ | refine FinA.one ?_); repeat' (first | exact FinBs.nil | exact FinCs.nil | refine FinBs.cons ?_ ?_ | refine FinCs.cons ?_ ?_ | refine FinB.cell (FinC.v ?_) | refine FinB.cell (FinC.own rfl rfl rfl ?_) | exact FinB.cell FinC.nil | refine FinB.cell (FinC.sl ?_) | exact FinB.agg' rfl rfl | exact FinB.cell (FinC.same rfl) | refine FinB.agg ?_ | refine FinC.v ?_ | refine FinC.own rfl rfl rfl ?_ | exact FinC.nil | refine FinC.sl ?_ | exact FinC.same rfl); all_goals try rfl
  all_goals simp [*]
theorem l_own (n : Int) (a b : List (List AV)) (ha : a.length ≤ 1000000) (hb : b.length ≤ 1000000) : AC Tryz.prog 99 [.agg [.v (.int .i64 n), .sl 1 a, .sl 1 b]] [] (.ref 0 0) [(0, .box 182 [.v (.int .i64 n), .own 1 a.length, .own 2 b.length]), (1, .row 4 1 a), (2, .row 53 1 b)] := by
 have h1 := cl_Boo a ha
 have h2 := cl_Its b hb
 refine (ac_body tab_ok Tryz.func99 rfl (by kernel_rfl) rfl ?_); intro w0 M μ0; simp only [Tryz.ntmps99, List.length_cons, List.length_nil, Nat.reduceAdd, Nat.reduceSub, numb]
 repeat' (first | ((first | apply o_do | apply d_do | apply d_yes rfl rfl rfl); first | exact ls_box (k := 3) rfl rfl rfl rfl | exact lca [] 1 h1 | exact lca [] 2 h2 | exact ls_box (k := 0) rfl rfl rfl rfl | exact lsq) | refine a_seq ?_ | refine a_region ?_ | refine o_nil ?_ | refine a_block ?_ | refine a_ret ?_ | refine a_exit ?_ | refine a_skip ?_ | refine a_draw mixed ?_ | refine d_nil (by kernel_rfl) ?_ | refine o_yes rfl rfl rfl ?_ | refine o_no rfl rfl rfl (by decide) ?_ | refine o_no' rfl rfl rfl ?_ | refine a_condT rfl ?_ | refine a_condF rfl ?_ | refine d_no rfl rfl rfl (by decide) ?_ | refine d_no' rfl rfl rfl ?_ | (refine wq2 (fun hb => ?_) (fun hb => ?_) <;> (simp only [hb]; try simp only [hbs, ne_eq] at hb; try (exfalso; first | omega | exact hb trivial))) | fail)
 refine rq rfl ?_
 exact fnq
theorem l_late (n : Int) (a : List (List AV)) (held : List (List It)) (k : Nat) (hk : k < held.length) (hl : held[k].length ≤ 16) : AC Tryz.prog 102 [.ref 0 0, .v (.int .i64 k)] [(0, .box 182 [.v (.int .i64 n), .own 1 a.length, .own 2 (held.map heAv).length]), (1, .row 4 1 a), (2, .row 53 1 (held.map heAv))] (.own 3 ((lts k held[k]).map Lt.av).length) [(0, .box 182 [.v (.int .i64 n), .own 1 a.length, .own 2 (held.map heAv).length]), (1, .row 4 1 a), (2, .row 53 1 (held.map heAv)), (3, .row 109 12 ((lts k held[k]).map Lt.av))] := by
 have hel : (held.map heAv)[k]? = some (heAv held[k]) := by simp [hk]
 have hkx : k < (held.map heAv).length := by rw [List.length_map]; exact hk
 generalize held[k] = l at *
 refine (ac_body tab_ok Tryz.func102 rfl (by kernel_rfl) rfl ?_); intro w0 M μ0; simp only [Tryz.ntmps102, List.length_cons, List.length_nil, Nat.reduceAdd, Nat.reduceSub, numb]
 repeat' (first | ((first | apply o_do | apply d_do | apply d_yes rfl rfl rfl); first | exact ls_nilCheck rfl rfl | exact ls_indexAddr_own tab_ok rfl rfl rfl rfl rfl rfl hkx rfl | exact ls_load_eref tab_ok rfl rfl rfl hel rfl rfl rfl rfl | exact lsq) | refine a_seq ?_ | refine a_region ?_ | refine o_nil ?_ | refine a_block ?_ | refine a_ret ?_ | refine a_exit ?_ | refine a_skip ?_ | refine a_draw mixed ?_ | refine d_nil (by kernel_rfl) ?_ | refine o_yes rfl rfl rfl ?_ | refine o_no rfl rfl rfl (by decide) ?_ | refine o_no' rfl rfl rfl ?_ | refine a_condT rfl ?_ | refine a_condF rfl ?_ | refine d_no rfl rfl rfl (by decide) ?_ | refine d_no' rfl rfl rfl ?_ | (refine wq2 (fun hb => ?_) (fun hb => ?_) <;> (simp only [hb]; try simp only [hbs, ne_eq] at hb; try (exfalso; first | omega | exact hb trivial))) | fail)
 refine a_adopt 5 3 109 12 rfl rfl ?_
 refine a_loop (X := {q : Nat // q ≤ l.length}) (fun x => ⟨[(1, .v (.int .i64 k)), (5, .own 3 ((lts k (l.take x.1)).map Lt.av).length), (15, .sl 11 (l.map It.av)), (16, .v (.int .i64 l.length)), (17, .v (.int .i64 x.1))], [(0, .box 182 [.v (.int .i64 n), .own 1 a.length, .own 2 (held.map heAv).length]), (1, .row 4 1 a), (2, .row 53 1 (held.map heAv)), (3, .row 109 12 ((lts k (l.take x.1)).map Lt.av))]⟩) (fun x => l.length - x.1) ⟨0, Nat.zero_le _⟩ ?_ ?_
 ·refine ⟨by repeat' (first | exact trivial | exact FinA.one (FinB.cell (FinC.same rfl)) | exact FinA.one (FinB.cell FinC.nil) | exact FinA.bound rfl | exact FinA.one (FinB.cell (FinC.own rfl rfl rfl rfl)) | exact FinA.one (FinB.cell (FinC.v (by first | rfl | (simp [lts])))) | exact FinA.one (FinB.cell (FinC.ow rfl (by first | rfl | (simp [lts])))) | exact FinA.one (FinB.agg' rfl rfl) | refine ⟨⟨_, rfl, ?_⟩, ?_⟩), by repeat' (first | exact trivial | refine ⟨⟨_, rfl, by first | rfl | (simp [lts]; done) | (simp [renO, *]; done)⟩, by first | rfl | assumption, ?_⟩), rfl⟩
 rintro ⟨q, hq⟩
 dsimp only
 by_cases hlt : q < l.length
 ·have hel2 : (l.map It.av)[q]? = some (It.av l[q]) := by simp [hlt]
  have hsn := take_snoc l q hlt
  have hls := lts_snoc k (l.take q) l[q]
  rw [← hsn] at hls
  have hl2 : ((lts k (l.take q)).map Lt.av).length ≤ 16 := by simp [lts]; omega
  generalize l[q] = x at *
  have e : (lts k (l.take (q + 1))).map Lt.av = (lts k (l.take q)).map Lt.av ++ [Lt.av ⟨k, x⟩] := by rw [hls]; simp
  repeat' (first | ((first | apply o_do | apply d_do | apply d_yes rfl rfl rfl); first | exact ls_indexAddr_sl tab_ok rfl rfl rfl rfl hel2 rfl | focus (apply ls_append tab_ok rfl rfl ?hn rfl ?hsrc rfl ?hlen rfl rfl; (case hn => rfl); (case hsrc => first | exact SrcIs.sl | exact SrcIs.nil | exact SrcIs.own rfl rfl | fail); (case hlen => (try simp only [List.length_cons, List.length_nil]); omega); first | done | fail) | exact lsq) | refine a_seq ?_ | refine a_region ?_ | refine o_nil ?_ | refine a_block ?_ | refine a_ret ?_ | refine a_exit ?_ | refine a_skip ?_ | refine a_draw mixed ?_ | refine d_nil (by kernel_rfl) ?_ | refine o_yes rfl rfl rfl ?_ | refine o_no rfl rfl rfl (by decide) ?_ | refine o_no' rfl rfl rfl ?_ | refine a_condT rfl ?_ | refine a_condF rfl ?_ | refine d_no rfl rfl rfl (by decide) ?_ | refine d_no' rfl rfl rfl ?_ | (refine wq2 (fun hb => ?_) (fun hb => ?_) <;> (simp only [hb]; try simp only [hbs, ne_eq] at hb; try (exfalso; first | omega | exact hb trivial))) | fail)
  refine ⟨⟨q + 1, by omega⟩, by dsimp only; omega, ?_⟩
  refine ⟨by repeat' (first | exact trivial | exact FinA.one (FinB.cell (FinC.same rfl)) | exact FinA.one (FinB.cell FinC.nil) | exact FinA.bound rfl | exact FinA.one (FinB.cell (FinC.own rfl rfl rfl rfl)) | exact FinA.one (FinB.cell (FinC.v (by first | rfl | ((first | (simp only [e]; rfl) | simp))))) | exact FinA.one (FinB.cell (FinC.ow rfl (by first | rfl | ((first | (simp only [e]; rfl) | simp))))) | exact FinA.one (FinB.agg' rfl rfl) | refine ⟨⟨_, rfl, ?_⟩, ?_⟩), by repeat' (first | exact trivial | refine ⟨⟨_, rfl, by first | rfl | ((first | (simp only [e]; rfl) | simp); done) | (simp [renO, *]; done)⟩, by first | rfl | assumption, ?_⟩), rfl⟩
 ·obtain rfl : q = l.length := by omega
  rw [List.take_length]
  repeat' (first | ((first | apply o_do | apply d_do | apply d_yes rfl rfl rfl); exact lsq) | refine a_seq ?_ | refine a_region ?_ | refine o_nil ?_ | refine a_block ?_ | refine a_ret ?_ | refine a_exit ?_ | refine a_skip ?_ | refine a_draw mixed ?_ | refine d_nil (by kernel_rfl) ?_ | refine o_yes rfl rfl rfl ?_ | refine o_no rfl rfl rfl (by decide) ?_ | refine o_no' rfl rfl rfl ?_ | refine a_condT rfl ?_ | refine a_condF rfl ?_ | refine d_no rfl rfl rfl (by decide) ?_ | refine d_no' rfl rfl rfl ?_ | (refine wq2 (fun hb => ?_) (fun hb => ?_) <;> (simp only [hb]; try simp only [hbs, ne_eq] at hb; try (exfalso; first | omega | exact hb trivial))) | fail)
  refine rq rfl ?_
  exact fnq
theorem l_fail (e : Int) : PC Tryz.prog 97 [.v (.int .i64 e)] (AlO.av ⟨alZ, false, 0, [], e⟩) := by
 simp only [AlO.av, alZ, Al.av, List.map_nil]
 refine PC.mk (ac_body tab_ok Tryz.func97 rfl (by kernel_rfl) rfl ?_); intro w0 M μ0; simp only [Tryz.ntmps97, List.length_cons, List.length_nil, Nat.reduceAdd, Nat.reduceSub, numb]
 repeat' (first | ((first | apply o_do | apply d_do | apply d_yes rfl rfl rfl); exact lsq) | refine a_seq ?_ | refine a_region ?_ | refine o_nil ?_ | refine a_block ?_ | refine a_ret ?_ | refine a_exit ?_ | refine a_skip ?_ | refine a_draw mixed ?_ | refine d_nil (by kernel_rfl) ?_ | refine o_yes rfl rfl rfl ?_ | refine o_no rfl rfl rfl (by decide) ?_ | refine o_no' rfl rfl rfl ?_ | refine a_condT rfl ?_ | refine a_condF rfl ?_ | refine d_no rfl rfl rfl (by decide) ?_ | refine d_no' rfl rfl rfl ?_ | (refine wq2 (fun hb => ?_) (fun hb => ?_) <;> (simp only [hb]; try simp only [hbs, ne_eq] at hb; try (exfalso; first | omega | exact hb trivial))) | fail)
 refine rq rfl ?_
 exact fnq
theorem pureV (x : Value) : ∀ (σ : Store) (μ : Nat → Value) (w : World) (A : Nat → Prop) (z : Value), rep σ μ w A (.v x) z → rep [] μ w A (.v x) z := by
 intro σ μ w A z h
 simpa only [rep] using h
theorem pureS (n : Nat) (xs : List (List AV)) : ∀ (σ : Store) (μ : Nat → Value) (w : World) (A : Nat → Prop) (z : Value), rep σ μ w A (.sl n xs) z → rep [] μ w A (.sl n xs) z := by
 intro σ μ w A z h
 simpa only [rep] using h
set_option maxRecDepth 10000 in
theorem l_bar (n : Int) (got : List Bool) (held : List (List It)) (k : Nat) (x : It) (hr : alR ⟨n, got, held⟩ = true) (hk : k < got.length) (hit : itR x = true) (hg : got[k] = false) (h4 : x.kind = 4) (hn : ¬ (n ≠ 0 ∧ n ≠ x.n)) :
  PC Tryz.prog 70 [.agg (Al.av ⟨n, got, held⟩), .v (.int .i64 k), .agg x.av]
   (AlO.av (if (got.set k true).any (!·) = true then ⟨⟨x.n, got.set k true, held⟩, false, 0, [], 0⟩ else ⟨⟨0, newGot got.length, newHeld got.length⟩, false, x.n, latesN held held.length, 0⟩)) := by
 obtain ⟨b1, b2, b3, b4, b5, b6, b7, b8⟩ := alR_ok hr
 dsimp only at b1 b2 b3 b4 b5 b6 b7 b8
 have h1 := l_has ⟨n, got, held⟩ k (by dsimp only; omega) (by dsimp only; omega) (fun l hl => by have := b8 l hl; omega)
 have eh : alHas ⟨n, got, held⟩ k = true := by simp [alHas, hr, hk]
 rw [eh] at h1
 have h2 := i_Right x
 rw [hit] at h2
 have hl4 : alOffer ⟨n, got, held⟩ k x = alOffer ⟨n, got, held⟩ k x := rfl
 have ho := l_own n (got.map boAv) (held.map heAv) (by rw [List.length_map]; omega) (by rw [List.length_map]; omega)
 have hnew := l_New got.length
 have eE : newE (got.length : Int) = 0 := by unfold newE; rw [if_pos ⟨by omega, by omega⟩]
 rw [eE] at hnew
 have hel : (got.map boAv)[k]? = some (boAv false) := by simp [hk, hg]
 have hkx : k < (got.map boAv).length := by rw [List.length_map]; exact hk
 have hGl : (got.set k true).length = got.length := List.length_set
 have n1 : (got.map boAv).length = got.length := List.length_map _
 have hset : (got.map boAv).set k [.v (.bool true)] = (got.set k true).map boAv := List.map_set.symm
 have hcon := b_Contains (got.set k true) false (by omega)
 rw [any_false] at hcon
 have hlate := fun q (hq : q < held.length) => l_late x.n ((got.set k true).map boAv) held q hq (b8 _ (List.getElem_mem hq))
 generalize hGd : got.set k true = G at *
 have hGm : (G.map boAv).length = (got.map boAv).length := by rw [List.length_map, List.length_map, hGl]
 simp only [Al.av] at h1 ho hnew ⊢
 have hn2 : n = 0 ∨ n = x.n := by omega
 have n3 : (held.map heAv).length = held.length := List.length_map _
 have n1' : ((G.map boAv).length : Int) = (got.length : Int) := by rw [hGm, n1]
 cases hany : G.any (!·)
 ·rw [hany] at hcon
  rw [← n1'] at hnew
  simp only [Bool.false_eq_true, if_false, AlO.av, Al.av]
  by_cases hn0 : n = 0
  all_goals
   refine PC.mk (ac_body tab_ok Tryz.func70 rfl (by kernel_rfl) rfl ?_); intro w0 M μ0; simp only [Tryz.ntmps70, List.length_cons, List.length_nil, Nat.reduceAdd, Nat.reduceSub, numb]
   repeat' (first | ((first | apply o_do | apply d_do | apply d_yes rfl rfl rfl); first | exact lsc (h1) | exact lsc (h2) | exact ls_indexAddr_sl tab_ok rfl rfl rfl rfl hel rfl | exact lca [] 3 ho | exact ls_nilCheck rfl rfl | exact ls_indexAddr_own tab_ok rfl rfl rfl rfl rfl rfl hkx rfl | exact ls_load_eref tab_ok rfl rfl rfl hel rfl rfl rfl rfl | exact ls_store_eref (cs' := [.v (.bool true)]) tab_ok rfl rfl rfl rfl hel rfl rfl (pureV _) rfl rfl rfl rfl | exact lsq) | refine a_seq ?_ | refine a_region ?_ | refine o_nil ?_ | refine a_block ?_ | refine a_ret ?_ | refine a_exit ?_ | refine a_skip ?_ | refine a_draw mixed ?_ | refine d_nil (by kernel_rfl) ?_ | refine o_yes rfl rfl rfl ?_ | refine o_no rfl rfl rfl (by decide) ?_ | refine o_no' rfl rfl rfl ?_ | refine a_condT rfl ?_ | refine a_condF rfl ?_ | refine d_no rfl rfl rfl (by decide) ?_ | refine d_no' rfl rfl rfl ?_ | (refine wq2 (fun hb => ?_) (fun hb => ?_) <;> (simp only [hb]; try simp only [hbs, ne_eq] at hb; try (exfalso; first | omega | exact hb trivial))) | fail)
   refine o_weak (t := ⟨[(5, .ref 1 0), (6, .ref 2 0), (12, .ref 3 0), (146, .own 4 (G.map boAv).length)], [(1, .box 63 x.av), (2, .box 40 [.v (.int .i64 0), .v (.slice none 0 0), .v (.slice none 0 0)]), (3, .box 182 [.v (.int .i64 x.n), .own 4 (G.map boAv).length, .own 5 (held.map heAv).length]), (4, .row 4 1 (G.map boAv)), (5, .row 53 1 (held.map heAv))]⟩) ?_ ?_
   ·refine ⟨by repeat' (first | exact trivial | exact FinA.one (FinB.cell (FinC.same rfl)) | exact FinA.one (FinB.cell FinC.nil) | exact FinA.bound rfl | exact FinA.one (FinB.cell (FinC.own rfl rfl rfl rfl)) | exact FinA.one (FinB.cell (FinC.v (by first | rfl | ((first | (simp only [hset]; done) | (simp only [hGm]; done) | (simp only [hGm]; rfl) | (rw [hset]; rfl) | simp [hset]))))) | exact FinA.one (FinB.cell (FinC.ow rfl (by first | rfl | ((first | (simp only [hset]; done) | (simp only [hGm]; done) | (simp only [hGm]; rfl) | (rw [hset]; rfl) | simp [hset]))))) | exact FinA.one (FinB.agg' rfl rfl) | refine ⟨⟨_, rfl, ?_⟩, ?_⟩), by repeat' (first | exact trivial | refine ⟨⟨_, rfl, by first | rfl | ((first | (simp only [hset]; done) | (simp only [hGm]; done) | (simp only [hGm]; rfl) | (rw [hset]; rfl) | simp [hset]); done) | (simp [renO, *]; done)⟩, by first | rfl | assumption, ?_⟩), rfl⟩
   repeat' (first | ((first | apply o_do | apply d_do | apply d_yes rfl rfl rfl); first | exact lcs (hcon) | exact ls_nilCheck rfl rfl | exact lsq) | refine a_seq ?_ | refine a_region ?_ | refine o_nil ?_ | refine a_block ?_ | refine a_ret ?_ | refine a_exit ?_ | refine a_skip ?_ | refine a_draw mixed ?_ | refine d_nil (by kernel_rfl) ?_ | refine o_yes rfl rfl rfl ?_ | refine o_no rfl rfl rfl (by decide) ?_ | refine o_no' rfl rfl rfl ?_ | refine a_condT rfl ?_ | refine a_condF rfl ?_ | refine d_no rfl rfl rfl (by decide) ?_ | refine d_no' rfl rfl rfl ?_ | (refine wq2 (fun hb => ?_) (fun hb => ?_) <;> (simp only [hb]; try simp only [hbs, ne_eq] at hb; try (exfalso; first | omega | exact hb trivial))) | fail)
   refine a_adopt 14 6 109 12 rfl rfl ?_
   refine a_loop (X := {q : Nat // q ≤ held.length}) (fun y => ⟨[(5, .ref 1 0), (6, .ref 2 0), (12, .ref 3 0), (13, .clo (.func 102) [.ref 3 0] []), (14, .own 6 ((latesN held y.1).map Lt.av).length), (159, .v (.int .i64 held.length)), (160, .v (.int .i64 y.1))], [(1, .box 63 x.av), (2, .box 40 [.v (.int .i64 0), .v (.slice none 0 0), .v (.slice none 0 0)]), (3, .box 182 [.v (.int .i64 x.n), .own 4 (G.map boAv).length, .own 5 (held.map heAv).length]), (4, .row 4 1 (G.map boAv)), (5, .row 53 1 (held.map heAv)), (6, .row 109 12 ((latesN held y.1).map Lt.av))]⟩) (fun y => held.length - y.1) ⟨0, Nat.zero_le _⟩ ?_ ?_
   ·refine ⟨by repeat' (first | exact trivial | exact FinA.one (FinB.cell (FinC.same rfl)) | exact FinA.one (FinB.cell FinC.nil) | exact FinA.bound rfl | exact FinA.one (FinB.cell (FinC.own rfl rfl rfl rfl)) | exact FinA.one (FinB.cell (FinC.v (by first | rfl | ((first | rfl | simp [latesN]))))) | exact FinA.one (FinB.cell (FinC.ow rfl (by first | rfl | ((first | rfl | simp [latesN]))))) | exact FinA.one (FinB.agg' rfl rfl) | exact FinA.one (FinB.cell (FinC.el rfl rfl rfl rfl)) | refine FinA.clo ?_ ?_ | exact FinBs.nil | exact FinB.cell (FinC.same rfl) | exact FinB.cell (FinC.el rfl rfl rfl rfl) | refine FinBs.cons ?_ ?_ | refine ⟨⟨_, rfl, ?_⟩, ?_⟩), by repeat' (first | exact trivial | refine ⟨⟨_, rfl, by first | rfl | ((first | rfl | simp [latesN]); done) | (simp [renO, *]; done)⟩, by first | rfl | assumption, ?_⟩), rfl⟩
   rintro ⟨q, hq⟩
   dsimp only
   by_cases hlt : q < held.length
   ·have hla := hlate q hlt
    have hlat := latesN_succ held q hlt
    have hlle := latesN_le (held := held) (by omega) b8 q (by omega)
    have hll := b8 _ (List.getElem_mem hlt)
    generalize held[q] = l at *
    have e : (latesN held (q + 1)).map Lt.av = (latesN held q).map Lt.av ++ (lts q l).map Lt.av := by rw [hlat]; simp
    have hl2 : ((latesN held q).map Lt.av).length + ((lts q l).map Lt.av).length ≤ 1000 := by simp [lts]; omega
    repeat' (first | ((first | apply o_do | apply d_do | apply d_yes rfl rfl rfl); first | exact ls_callAB [3, 4, 5] 4 hla rfl rfl (by (repeat' (first | exact NilL.nil | refine NilL.cons Nil.same ?_ | refine NilL.cons Nil.nil ?_ | refine NilL.cons (Nil.agg ?_) ?_ | exact Nil1s.nil | refine Nil1s.cons Nil1.same ?_ | refine Nil1s.cons Nil1.nil ?_)); first | done | fail) rfl (by repeat' (first | exact trivial | refine ⟨⟨_, rfl, by first | rfl | (simp [renO, *]; done)⟩, ?_⟩)) (by first | rfl | simp [closO, *]) rfl rfl rfl rfl (by first | rfl | simp [closO, *]) rfl | focus (apply ls_append tab_ok rfl rfl ?hn rfl ?hsrc rfl ?hlen rfl rfl; (case hn => rfl); (case hsrc => first | exact SrcIs.sl | exact SrcIs.nil | exact SrcIs.own rfl rfl | fail); (case hlen => (try simp only [List.length_cons, List.length_nil]); omega); first | done | fail) | exact lsq) | refine a_seq ?_ | refine a_region ?_ | refine o_nil ?_ | refine a_block ?_ | refine a_ret ?_ | refine a_exit ?_ | refine a_skip ?_ | refine a_draw mixed ?_ | refine d_nil (by kernel_rfl) ?_ | refine o_yes rfl rfl rfl ?_ | refine o_no rfl rfl rfl (by decide) ?_ | refine o_no' rfl rfl rfl ?_ | refine a_condT rfl ?_ | refine a_condF rfl ?_ | refine d_no rfl rfl rfl (by decide) ?_ | refine d_no' rfl rfl rfl ?_ | (refine wq2 (fun hb => ?_) (fun hb => ?_) <;> (simp only [hb]; try simp only [hbs, ne_eq] at hb; try (exfalso; first | omega | exact hb trivial))) | fail)
    refine ⟨⟨q + 1, by omega⟩, by dsimp only; omega, ?_⟩
    refine ⟨by repeat' (first | exact trivial | exact FinA.one (FinB.cell (FinC.same rfl)) | exact FinA.one (FinB.cell FinC.nil) | exact FinA.bound rfl | exact FinA.one (FinB.cell (FinC.own rfl rfl rfl rfl)) | exact FinA.one (FinB.cell (FinC.v (by first | rfl | ((first | (simp only [e]; done) | (simp only [e]; rfl) | simp))))) | exact FinA.one (FinB.cell (FinC.ow rfl (by first | rfl | ((first | (simp only [e]; done) | (simp only [e]; rfl) | simp))))) | exact FinA.one (FinB.agg' rfl rfl) | exact FinA.one (FinB.cell (FinC.el rfl rfl rfl rfl)) | refine FinA.clo ?_ ?_ | exact FinBs.nil | exact FinB.cell (FinC.same rfl) | exact FinB.cell (FinC.el rfl rfl rfl rfl) | refine FinBs.cons ?_ ?_ | refine ⟨⟨_, rfl, ?_⟩, ?_⟩), by repeat' (first | exact trivial | refine ⟨⟨_, rfl, by first | rfl | ((first | (simp only [e]; done) | (simp only [e]; rfl) | simp); done) | (simp [renO, *]; done)⟩, by first | rfl | assumption, ?_⟩), rfl⟩
   ·obtain rfl : q = held.length := by omega
    repeat' (first | ((first | apply o_do | apply d_do | apply d_yes rfl rfl rfl); first | exact lsc (hnew) | exact ls_nilCheck rfl rfl | exact lsq) | refine a_seq ?_ | refine a_region ?_ | refine o_nil ?_ | refine a_block ?_ | refine a_ret ?_ | refine a_exit ?_ | refine a_skip ?_ | refine a_draw mixed ?_ | refine d_nil (by kernel_rfl) ?_ | refine o_yes rfl rfl rfl ?_ | refine o_no rfl rfl rfl (by decide) ?_ | refine o_no' rfl rfl rfl ?_ | refine a_condT rfl ?_ | refine a_condF rfl ?_ | refine d_no rfl rfl rfl (by decide) ?_ | refine d_no' rfl rfl rfl ?_ | (refine wq2 (fun hb => ?_) (fun hb => ?_) <;> (simp only [hb]; try simp only [hbs, ne_eq] at hb; try (exfalso; first | omega | exact hb trivial))) | fail)
    refine rq rfl ?_
    (first | refine FinA.tup ?_ | refine FinA.one ?_); repeat' (first | exact FinBs.nil | exact FinCs.nil | refine FinBs.cons ?_ ?_ | refine FinCs.cons ?_ ?_ | refine FinB.cell (FinC.v ?_) | refine FinB.cell (FinC.own rfl rfl rfl ?_) | exact FinB.cell FinC.nil | refine FinB.cell (FinC.sl ?_) | exact FinB.agg' rfl rfl | exact FinB.cell (FinC.same rfl) | refine FinB.agg ?_ | refine FinC.v ?_ | refine FinC.own rfl rfl rfl ?_ | exact FinC.nil | refine FinC.sl ?_ | exact FinC.same rfl); all_goals try rfl
    all_goals rw [n1']
 ·rw [hany] at hcon
  simp only [if_true, AlO.av, Al.av, List.map_nil]
  by_cases hn0 : n = 0
  all_goals
   refine PC.mk (ac_body tab_ok Tryz.func70 rfl (by kernel_rfl) rfl ?_); intro w0 M μ0; simp only [Tryz.ntmps70, List.length_cons, List.length_nil, Nat.reduceAdd, Nat.reduceSub, numb]
   repeat' (first | ((first | apply o_do | apply d_do | apply d_yes rfl rfl rfl); first | exact lsc (h1) | exact lsc (h2) | exact ls_indexAddr_sl tab_ok rfl rfl rfl rfl hel rfl | exact lca [] 3 ho | exact ls_nilCheck rfl rfl | exact ls_indexAddr_own tab_ok rfl rfl rfl rfl rfl rfl hkx rfl | exact ls_load_eref tab_ok rfl rfl rfl hel rfl rfl rfl rfl | exact ls_store_eref (cs' := [.v (.bool true)]) tab_ok rfl rfl rfl rfl hel rfl rfl (pureV _) rfl rfl rfl rfl | exact lsq) | refine a_seq ?_ | refine a_region ?_ | refine o_nil ?_ | refine a_block ?_ | refine a_ret ?_ | refine a_exit ?_ | refine a_skip ?_ | refine a_draw mixed ?_ | refine d_nil (by kernel_rfl) ?_ | refine o_yes rfl rfl rfl ?_ | refine o_no rfl rfl rfl (by decide) ?_ | refine o_no' rfl rfl rfl ?_ | refine a_condT rfl ?_ | refine a_condF rfl ?_ | refine d_no rfl rfl rfl (by decide) ?_ | refine d_no' rfl rfl rfl ?_ | (refine wq2 (fun hb => ?_) (fun hb => ?_) <;> (simp only [hb]; try simp only [hbs, ne_eq] at hb; try (exfalso; first | omega | exact hb trivial))) | fail)
   refine o_weak (t := ⟨[(5, .ref 1 0), (6, .ref 2 0), (12, .ref 3 0), (146, .own 4 (G.map boAv).length)], [(1, .box 63 x.av), (2, .box 40 [.v (.int .i64 0), .v (.slice none 0 0), .v (.slice none 0 0)]), (3, .box 182 [.v (.int .i64 x.n), .own 4 (G.map boAv).length, .own 5 (held.map heAv).length]), (4, .row 4 1 (G.map boAv)), (5, .row 53 1 (held.map heAv))]⟩) ?_ ?_
   ·refine ⟨by repeat' (first | exact trivial | exact FinA.one (FinB.cell (FinC.same rfl)) | exact FinA.one (FinB.cell FinC.nil) | exact FinA.bound rfl | exact FinA.one (FinB.cell (FinC.own rfl rfl rfl rfl)) | exact FinA.one (FinB.cell (FinC.v (by first | rfl | ((first | (simp only [hset]; done) | (simp only [hGm]; done) | (simp only [hGm]; rfl) | (rw [hset]; rfl) | simp [hset]))))) | exact FinA.one (FinB.cell (FinC.ow rfl (by first | rfl | ((first | (simp only [hset]; done) | (simp only [hGm]; done) | (simp only [hGm]; rfl) | (rw [hset]; rfl) | simp [hset]))))) | exact FinA.one (FinB.agg' rfl rfl) | refine ⟨⟨_, rfl, ?_⟩, ?_⟩), by repeat' (first | exact trivial | refine ⟨⟨_, rfl, by first | rfl | ((first | (simp only [hset]; done) | (simp only [hGm]; done) | (simp only [hGm]; rfl) | (rw [hset]; rfl) | simp [hset]); done) | (simp [renO, *]; done)⟩, by first | rfl | assumption, ?_⟩), rfl⟩
   repeat' (first | ((first | apply o_do | apply d_do | apply d_yes rfl rfl rfl); first | exact lcs (hcon) | exact ls_nilCheck rfl rfl | exact lsq) | refine a_seq ?_ | refine a_region ?_ | refine o_nil ?_ | refine a_block ?_ | refine a_ret ?_ | refine a_exit ?_ | refine a_skip ?_ | refine a_draw mixed ?_ | refine d_nil (by kernel_rfl) ?_ | refine o_yes rfl rfl rfl ?_ | refine o_no rfl rfl rfl (by decide) ?_ | refine o_no' rfl rfl rfl ?_ | refine a_condT rfl ?_ | refine a_condF rfl ?_ | refine d_no rfl rfl rfl (by decide) ?_ | refine d_no' rfl rfl rfl ?_ | (refine wq2 (fun hb => ?_) (fun hb => ?_) <;> (simp only [hb]; try simp only [hbs, ne_eq] at hb; try (exfalso; first | omega | exact hb trivial))) | fail)
   refine rq rfl ?_
   exact fnq
set_option maxRecDepth 10000 in
theorem l_Offer (a : Al) (i : Int) (x : It) (hg : a.got.length ≤ 9223372036854775807) (hh : a.held.length ≤ 9223372036854775807) (hi : ∀ l ∈ a.held, l.length ≤ 9223372036854775807) : PC Tryz.prog 70 [.agg a.av, .v (.int .i64 i), .agg x.av] (alOffer a i x).av := by
 have h1 := l_has a i hg hh hi
 have h2 := i_Right x
 obtain ⟨n, got, held⟩ := a
 dsimp only at hg hh hi
 have n1 : (got.map boAv).length = got.length := List.length_map _
 unfold alOffer
 have f1 := l_fail 1
 have f3 := l_fail 3
 have f190 := l_fail 190
 simp only [AlO.av, alZ, Al.av, List.map_nil] at f1 f3 f190 h1
 cases hit : itR x
 ·rw [hit] at h2
  simp only [Bool.and_false, if_true, AlO.av, alZ, Al.av, List.map_nil]
  cases hr : alHas ⟨n, got, held⟩ i
  all_goals
   rw [hr] at h1
   refine PC.mk (ac_body tab_ok Tryz.func70 rfl (by kernel_rfl) rfl ?_); intro w0 M μ0; simp only [Tryz.ntmps70, List.length_cons, List.length_nil, Nat.reduceAdd, Nat.reduceSub, numb]
   repeat' (first | ((first | apply o_do | apply d_do | apply d_yes rfl rfl rfl); first | exact lsc (h1) | exact lsc (h2) | exact lsc (f1) | exact lsq) | refine a_seq ?_ | refine a_region ?_ | refine o_nil ?_ | refine a_block ?_ | refine a_ret ?_ | refine a_exit ?_ | refine a_skip ?_ | refine a_draw mixed ?_ | refine d_nil (by kernel_rfl) ?_ | refine o_yes rfl rfl rfl ?_ | refine o_no rfl rfl rfl (by decide) ?_ | refine o_no' rfl rfl rfl ?_ | refine a_condT rfl ?_ | refine a_condF rfl ?_ | refine d_no rfl rfl rfl (by decide) ?_ | refine d_no' rfl rfl rfl ?_ | (refine wq2 (fun hb => ?_) (fun hb => ?_) <;> (simp only [hb]; try simp only [hbs, ne_eq] at hb; try (exfalso; first | omega | exact hb trivial))) | fail)
   refine rq rfl ?_
   exact fnq
 cases hr : alHas ⟨n, got, held⟩ i
 ·rw [hit] at h2
  rw [hr] at h1
  simp only [Bool.false_and, if_true, AlO.av, alZ, Al.av, List.map_nil]
  refine PC.mk (ac_body tab_ok Tryz.func70 rfl (by kernel_rfl) rfl ?_); intro w0 M μ0; simp only [Tryz.ntmps70, List.length_cons, List.length_nil, Nat.reduceAdd, Nat.reduceSub, numb]
  repeat' (first | ((first | apply o_do | apply d_do | apply d_yes rfl rfl rfl); first | exact lsc (h1) | exact lsc (h2) | exact lsc (f1) | exact lsq) | refine a_seq ?_ | refine a_region ?_ | refine o_nil ?_ | refine a_block ?_ | refine a_ret ?_ | refine a_exit ?_ | refine a_skip ?_ | refine a_draw mixed ?_ | refine d_nil (by kernel_rfl) ?_ | refine o_yes rfl rfl rfl ?_ | refine o_no rfl rfl rfl (by decide) ?_ | refine o_no' rfl rfl rfl ?_ | refine a_condT rfl ?_ | refine a_condF rfl ?_ | refine d_no rfl rfl rfl (by decide) ?_ | refine d_no' rfl rfl rfl ?_ | (refine wq2 (fun hb => ?_) (fun hb => ?_) <;> (simp only [hb]; try simp only [hbs, ne_eq] at hb; try (exfalso; first | omega | exact hb trivial))) | fail)
  refine rq rfl ?_
  exact fnq
 have hr2 := hr
 simp only [alHas, Bool.and_eq_true, decide_eq_true_eq] at hr2
 obtain ⟨hR, h5, h6⟩ := hr2
 obtain ⟨b1, b2, b3, b4, b5, b6, b7, b8⟩ := alR_ok hR
 dsimp only at b1 b2 b3 b4 b5 b6 b7 b8
 obtain ⟨k, rfl⟩ : ∃ k : Nat, i = (k : Int) := ⟨i.toNat, by omega⟩
 have hk : k < got.length := by omega
 have hkh : k < held.length := by omega
 rw [hr] at h1
 rw [hit] at h2
 simp only [Bool.and_self, Bool.true_eq_false, if_false, Int.toNat_natCast, getD_at hk, getD_at hkh]
 have hel : (got.map boAv)[k]? = some (boAv got[k]) := by simp [hk]
 have hel2 : (held.map heAv)[k]? = some (heAv held[k]) := by simp [hkh]
 have hkx : k < (got.map boAv).length := by rw [List.length_map]; exact hk
 have hkx2 : k < (held.map heAv).length := by rw [List.length_map]; exact hkh
 have ho := l_own n (got.map boAv) (held.map heAv) (by rw [List.length_map]; omega) (by rw [List.length_map]; omega)
 cases hg0 : got[k]
 ·rw [hg0] at hel
  by_cases h4 : x.kind = 4
  ·by_cases hn : n ≠ 0 ∧ n ≠ x.n
   ·obtain ⟨hn1, hn2⟩ := hn
    simp only [Bool.false_eq_true, if_false, h4, ne_eq, not_true, hn1, hn2, not_false_eq_true, and_self, if_true, AlO.av, alZ, Al.av, List.map_nil]
    refine PC.mk (ac_body tab_ok Tryz.func70 rfl (by kernel_rfl) rfl ?_); intro w0 M μ0; simp only [Tryz.ntmps70, List.length_cons, List.length_nil, Nat.reduceAdd, Nat.reduceSub, numb]
    repeat' (first | ((first | apply o_do | apply d_do | apply d_yes rfl rfl rfl); first | exact lsc (h1) | exact lsc (h2) | exact lsc (f190) | exact ls_indexAddr_sl tab_ok rfl rfl rfl rfl hel rfl | exact lsq) | refine a_seq ?_ | refine a_region ?_ | refine o_nil ?_ | refine a_block ?_ | refine a_ret ?_ | refine a_exit ?_ | refine a_skip ?_ | refine a_draw mixed ?_ | refine d_nil (by kernel_rfl) ?_ | refine o_yes rfl rfl rfl ?_ | refine o_no rfl rfl rfl (by decide) ?_ | refine o_no' rfl rfl rfl ?_ | refine a_condT rfl ?_ | refine a_condF rfl ?_ | refine d_no rfl rfl rfl (by decide) ?_ | refine d_no' rfl rfl rfl ?_ | (refine wq2 (fun hb => ?_) (fun hb => ?_) <;> (simp only [hb]; try simp only [hbs, ne_eq] at hb; try (exfalso; first | omega | exact hb trivial))) | fail)
    refine rq rfl ?_
    exact fnq
   ·have hb := l_bar n got held k x hR hk hit hg0 h4 hn
    simp only [Bool.false_eq_true, if_false, h4, ne_eq, not_true, if_neg hn]
    exact hb
  ·simp only [Bool.false_eq_true, if_false, h4, ne_eq, not_false_eq_true, if_true, AlO.av, Al.av, List.map_nil]
   refine PC.mk (ac_body tab_ok Tryz.func70 rfl (by kernel_rfl) rfl ?_); intro w0 M μ0; simp only [Tryz.ntmps70, List.length_cons, List.length_nil, Nat.reduceAdd, Nat.reduceSub, numb]
   repeat' (first | ((first | apply o_do | apply d_do | apply d_yes rfl rfl rfl); first | exact lsc (h1) | exact lsc (h2) | exact ls_indexAddr_sl tab_ok rfl rfl rfl rfl hel rfl | exact lsq) | refine a_seq ?_ | refine a_region ?_ | refine o_nil ?_ | refine a_block ?_ | refine a_ret ?_ | refine a_exit ?_ | refine a_skip ?_ | refine a_draw mixed ?_ | refine d_nil (by kernel_rfl) ?_ | refine o_yes rfl rfl rfl ?_ | refine o_no rfl rfl rfl (by decide) ?_ | refine o_no' rfl rfl rfl ?_ | refine a_condT rfl ?_ | refine a_condF rfl ?_ | refine d_no rfl rfl rfl (by decide) ?_ | refine d_no' rfl rfl rfl ?_ | (refine wq2 (fun hb => ?_) (fun hb => ?_) <;> (simp only [hb]; try simp only [hbs, ne_eq] at hb; try (exfalso; first | omega | exact hb trivial))) | fail)
   refine rq rfl ?_
   exact fnq
 ·rw [hg0] at hel
  have hlh := b8 _ (List.getElem_mem hkh)
  have hset2 : ∀ l : List It, (held.set k (l ++ [x])).map heAv = (held.map heAv).set k [.sl 11 (l.map It.av ++ [It.av x])] := fun l => by rw [List.map_set]; simp [heAv]
  have n2 : (held[k].map It.av).length = held[k].length := List.length_map _
  generalize held[k] = l at *
  by_cases h16 : 16 ≤ l.length
  ·simp only [if_true, h16, AlO.av, alZ, Al.av, List.map_nil]
   refine PC.mk (ac_body tab_ok Tryz.func70 rfl (by kernel_rfl) rfl ?_); intro w0 M μ0; simp only [Tryz.ntmps70, List.length_cons, List.length_nil, Nat.reduceAdd, Nat.reduceSub, numb]
   repeat' (first | ((first | apply o_do | apply d_do | apply d_yes rfl rfl rfl); first | exact lsc (h1) | exact lsc (h2) | exact lsc (f3) | exact ls_indexAddr_sl tab_ok rfl rfl rfl rfl hel rfl | exact ls_indexAddr_sl tab_ok rfl rfl rfl rfl hel2 rfl | exact lsq) | refine a_seq ?_ | refine a_region ?_ | refine o_nil ?_ | refine a_block ?_ | refine a_ret ?_ | refine a_exit ?_ | refine a_skip ?_ | refine a_draw mixed ?_ | refine d_nil (by kernel_rfl) ?_ | refine o_yes rfl rfl rfl ?_ | refine o_no rfl rfl rfl (by decide) ?_ | refine o_no' rfl rfl rfl ?_ | refine a_condT rfl ?_ | refine a_condF rfl ?_ | refine d_no rfl rfl rfl (by decide) ?_ | refine d_no' rfl rfl rfl ?_ | (refine wq2 (fun hb => ?_) (fun hb => ?_) <;> (simp only [hb]; try simp only [hbs, ne_eq] at hb; try (exfalso; first | omega | exact hb trivial))) | fail)
   refine rq rfl ?_
   exact fnq
  ·have hcI := cl_Itm (l.map It.av) (by omega)
   have hl2 : (l.map It.av).length ≤ 16 := by omega
   simp only [if_true, h16, if_false, AlO.av, Al.av, List.map_nil, hset2]
   refine PC.mk (ac_body tab_ok Tryz.func70 rfl (by kernel_rfl) rfl ?_); intro w0 M μ0; simp only [Tryz.ntmps70, List.length_cons, List.length_nil, Nat.reduceAdd, Nat.reduceSub, numb]
   repeat' (first | refine a_draw2 19 mixed (by kernel_rfl) ?_ | ((first | apply o_do | apply d_do | apply d_yes rfl rfl rfl); first | exact lsc (h1) | exact lsc (h2) | exact ls_indexAddr_sl tab_ok rfl rfl rfl rfl hel rfl | exact ls_indexAddr_sl tab_ok rfl rfl rfl rfl hel2 rfl | exact lca [] 3 ho | exact ls_nilCheck rfl rfl | exact ls_indexAddr_own tab_ok rfl rfl rfl rfl rfl rfl hkx rfl | exact ls_indexAddr_own tab_ok rfl rfl rfl rfl rfl rfl hkx2 rfl | exact ls_load_eref tab_ok rfl rfl rfl hel rfl rfl rfl rfl | exact ls_load_eref tab_ok rfl rfl rfl hel2 rfl rfl rfl rfl | exact lca [] 6 hcI | focus (apply ls_append tab_ok rfl rfl ?hn rfl ?hsrc rfl ?hlen rfl rfl; (case hn => rfl); (case hsrc => first | exact SrcIs.sl | exact SrcIs.nil | exact SrcIs.own rfl rfl | fail); (case hlen => (try simp only [List.length_cons, List.length_nil]); omega); first | done | fail) | exact lsq) | refine a_seq ?_ | refine a_region ?_ | refine o_nil ?_ | refine a_block ?_ | refine a_ret ?_ | refine a_exit ?_ | refine a_skip ?_ | refine a_draw mixed ?_ | refine d_nil (by kernel_rfl) ?_ | refine o_yes rfl rfl rfl ?_ | refine o_no rfl rfl rfl (by decide) ?_ | refine o_no' rfl rfl rfl ?_ | refine a_condT rfl ?_ | refine a_condF rfl ?_ | refine d_no rfl rfl rfl (by decide) ?_ | refine d_no' rfl rfl rfl ?_ | (refine wq2 (fun hb => ?_) (fun hb => ?_) <;> (simp only [hb]; try simp only [hbs, ne_eq] at hb; try (exfalso; first | omega | exact hb trivial))) | fail)
   refine ⟨⟨[(6, .ref 2 0), (12, .ref 3 0), (123, .sl 11 (l.map It.av ++ [It.av x])), (124, .eref 5 (held.map heAv).length k 0)], [(2, .box 40 [.v (.int .i64 0), .v (.slice none 0 0), .v (.slice none 0 0)]), (3, .box 182 [.v (.int .i64 n), .own 4 (got.map boAv).length, .own 5 (held.map heAv).length]), (4, .row 4 1 (got.map boAv)), (5, .row 53 1 (held.map heAv))]⟩, ?_, ?_⟩
   ·exact wkS
   repeat' (first | ((first | apply o_do | apply d_do | apply d_yes rfl rfl rfl); first | exact ls_store_eref (cs' := [.sl 11 (l.map It.av ++ [It.av x])]) tab_ok rfl rfl rfl rfl hel2 rfl rfl (pureS _ _) rfl rfl rfl rfl | exact ls_nilCheck rfl rfl | exact lsq) | refine a_seq ?_ | refine a_region ?_ | refine o_nil ?_ | refine a_block ?_ | refine a_ret ?_ | refine a_exit ?_ | refine a_skip ?_ | refine a_draw mixed ?_ | refine d_nil (by kernel_rfl) ?_ | refine o_yes rfl rfl rfl ?_ | refine o_no rfl rfl rfl (by decide) ?_ | refine o_no' rfl rfl rfl ?_ | refine a_condT rfl ?_ | refine a_condF rfl ?_ | refine d_no rfl rfl rfl (by decide) ?_ | refine d_no' rfl rfl rfl ?_ | (refine wq2 (fun hb => ?_) (fun hb => ?_) <;> (simp only [hb]; try simp only [hbs, ne_eq] at hb; try (exfalso; first | omega | exact hb trivial))) | fail)
   refine rq rfl ?_
   (first | refine FinA.tup ?_ | refine FinA.one ?_); repeat' (first | exact FinBs.nil | exact FinCs.nil | refine FinBs.cons ?_ ?_ | refine FinCs.cons ?_ ?_ | refine FinB.cell (FinC.v ?_) | refine FinB.cell (FinC.own rfl rfl rfl ?_) | exact FinB.cell FinC.nil | refine FinB.cell (FinC.sl ?_) | exact FinB.agg' rfl rfl | exact FinB.cell (FinC.same rfl) | refine FinB.agg ?_ | refine FinC.v ?_ | refine FinC.own rfl rfl rfl ?_ | exact FinC.nil | refine FinC.sl ?_ | exact FinC.same rfl); all_goals try rfl
   all_goals exact FinC.own rfl (by simp) rfl rfl
end Go.Proofs.YtilgagmfcdfjaaaGreat
