/-
  More of the text GrE.
  Workers, walked over abstract values: what one on its way does with an item.
  Workers, walked over abstract values: an event, and time that goes on.
  Workers, walked over abstract values: an event put into its group, time that goes on, by the reference.
  Workers, walked over abstract values: time that goes on, told.
  Groups, walked over abstract values: the law of an event's windows.
  Groups in plain Lean: two steps are one.
  Groups: events that are taken one behind the other, walked, and in plain Lean: in any order.
  Workers: facts on an item that is taken. Plain.
-/
import Derived.Test.YtilgagmfcdfjaaaGreatL4
import Derived.Test.YtilgagmfcdfjaaaGreatL6
import Derived.Test.YtilgagmfcdfjaaaGreatL8
import Derived.Test.YtilgagmfcdfjaaaGreatL11
import Derived.Test.YtilgagmfcdfjaaaGreatL12
import Derived.Test.YtilgagmfcdfjaaaGreatL13
import Derived.Test.YtilgagmfcdfjaaaGreatL14
import Derived.Test.YtilgagmfcdfjaaaGreatL15
namespace Go.Proofs.YtilgagmfcdfjaaaGreat
open Go.RowKit
set_option linter.unusedSimpArgs false
set_option linter.unusedVariables false
theorem takeW_le {k : Int} {key : ByteArray} {v : Int} : ∀ {ws : List Wn} {ps : List Pn}, ps.length ≤ 9223372036854775807 → (takeW k key v ps ws).1.length ≤ 9223372036854775807
  | [], ps, h => h
  | w :: ws, ps, h => by
    unfold takeW
    split
    · exact takeW_le (by have := addR_le k ps (oneP k w.lo w.hi key v); omega)
    · simp
theorem takeW_bad {k : Int} {key : ByteArray} {v : Int} {ps : List Pn} {ws : List Wn} {q : Nat} (hq : q < ws.length) {e : Int} (h : addR k ps (oneP k ws[q].lo ws[q].hi key v) = ([], e)) (he : e ≠ 0) : takeW k key v ps (ws.drop q) = ([], e) := by
  rw [List.drop_eq_getElem_cons hq, takeW, h]
  simp [he]
theorem takeW_ok {k : Int} {key : ByteArray} {v : Int} {ps ps' : List Pn} {ws : List Wn} {q : Nat} (hq : q < ws.length) (h : addR k ps (oneP k ws[q].lo ws[q].hi key v) = (ps', 0)) : takeW k key v ps (ws.drop q) = takeW k key v ps' (ws.drop (q + 1)) := by
  rw [List.drop_eq_getElem_cons hq, takeW, h]
  simp
theorem openL_len (s d t mark : Int) : (openL s d t mark).length ≤ 16 := by
  unfold openL openW
  exact Nat.le_trans (List.length_filter_le _ _) (winL_len s d t)
section
variable (g s d k fu li de id no mark : Int) (ps : List Pn) (key : ByteArray) (at' v : Int)
set_option maxHeartbeats 8000000 in
set_option maxRecDepth 20000 in
theorem g_Take (hx : ps.length ≤ 9223372036854775807) :
    PC Tryz.prog 134 [.agg [.v (.int .i64 g), .v (.int .i64 s), .v (.int .i64 d), .v (.int .i64 k), .v (.int .i64 fu), .v (.int .i64 li), .v (.int .i64 de), .v (.int .i64 id)], .agg [.v (.int .i64 no), .v (.int .i64 mark), .sl 6 (ps.map Pn.av)], .agg [.v (.string key), .v (.int .i64 at'), .v (.int .i64 v)]] (takeR s d k no mark ps key at' v).av := by
  have hj := g_Job g s d k fu li de id
  have hr := g_Right no mark ps hx
  have he := p_Event key at' v
  have ho := p_Open s d at' mark
  have hol := openL_len s d at' mark
  unfold takeR
  cases hJ : jobR s d k
  · rw [hJ] at hj
    refine PC.mk (ac_body tab_ok Tryz.func134 rfl (by kernel_rfl) rfl ?_); intro w0 M μ0; simp only [Tryz.ntmps134, List.length_cons, List.length_nil, Nat.reduceAdd, Nat.reduceSub, numb]
    repeat' (first | ((first | apply o_do | apply d_do | apply d_yes rfl rfl rfl); first | exact lsc (hj) | exact lsq) | refine a_seq ?_ | refine a_region ?_ | refine o_nil ?_ | refine a_block ?_ | refine a_ret ?_ | refine a_exit ?_ | refine a_skip ?_ | refine a_draw mixed ?_ | refine d_nil (by kernel_rfl) ?_ | refine o_yes rfl rfl rfl ?_ | refine o_no rfl rfl rfl (by decide) ?_ | refine o_no' rfl rfl rfl ?_ | refine a_condT rfl ?_ | refine a_condF rfl ?_ | refine d_no rfl rfl rfl (by decide) ?_ | refine d_no' rfl rfl rfl ?_ | (refine wq2 (fun hb => ?_) (fun hb => ?_) <;> (simp only [hb]; try simp only [hbs, ne_eq] at hb; try (exfalso; first | omega | exact hb trivial))) | fail)
    all_goals refine rq rfl ?_
    all_goals exact fnq
  rw [hJ] at hj
  cases hR : grR no mark ps
  · rw [hR] at hr
    refine PC.mk (ac_body tab_ok Tryz.func134 rfl (by kernel_rfl) rfl ?_); intro w0 M μ0; simp only [Tryz.ntmps134, List.length_cons, List.length_nil, Nat.reduceAdd, Nat.reduceSub, numb]
    repeat' (first | ((first | apply o_do | apply d_do | apply d_yes rfl rfl rfl); first | exact lsc (hj) | exact lsc (hr) | exact lsq) | refine a_seq ?_ | refine a_region ?_ | refine o_nil ?_ | refine a_block ?_ | refine a_ret ?_ | refine a_exit ?_ | refine a_skip ?_ | refine a_draw mixed ?_ | refine d_nil (by kernel_rfl) ?_ | refine o_yes rfl rfl rfl ?_ | refine o_no rfl rfl rfl (by decide) ?_ | refine o_no' rfl rfl rfl ?_ | refine a_condT rfl ?_ | refine a_condF rfl ?_ | refine d_no rfl rfl rfl (by decide) ?_ | refine d_no' rfl rfl rfl ?_ | (refine wq2 (fun hb => ?_) (fun hb => ?_) <;> (simp only [hb]; try simp only [hbs, ne_eq] at hb; try (exfalso; first | omega | exact hb trivial))) | fail)
    all_goals refine rq rfl ?_
    all_goals exact fnq
  rw [hR] at hr
  cases hE : evR key at'
  · rw [hE] at he
    refine PC.mk (ac_body tab_ok Tryz.func134 rfl (by kernel_rfl) rfl ?_); intro w0 M μ0; simp only [Tryz.ntmps134, List.length_cons, List.length_nil, Nat.reduceAdd, Nat.reduceSub, numb]
    repeat' (first | ((first | apply o_do | apply d_do | apply d_yes rfl rfl rfl); first | exact lsc (hj) | exact lsc (hr) | exact lsc (he) | exact lsq) | refine a_seq ?_ | refine a_region ?_ | refine o_nil ?_ | refine a_block ?_ | refine a_ret ?_ | refine a_exit ?_ | refine a_skip ?_ | refine a_draw mixed ?_ | refine d_nil (by kernel_rfl) ?_ | refine o_yes rfl rfl rfl ?_ | refine o_no rfl rfl rfl (by decide) ?_ | refine o_no' rfl rfl rfl ?_ | refine a_condT rfl ?_ | refine a_condF rfl ?_ | refine d_no rfl rfl rfl (by decide) ?_ | refine d_no' rfl rfl rfl ?_ | (refine wq2 (fun hb => ?_) (fun hb => ?_) <;> (simp only [hb]; try simp only [hbs, ne_eq] at hb; try (exfalso; first | omega | exact hb trivial))) | fail)
    all_goals refine rq rfl ?_
    all_goals exact fnq
  rw [hE] at he
  simp only [Bool.and_self, if_false, Bool.true_eq_false]
  generalize openL s d at' mark = ws at *
  refine PC.mk (ac_body tab_ok Tryz.func134 rfl (by kernel_rfl) rfl ?_); intro w0 M μ0; simp only [Tryz.ntmps134, List.length_cons, List.length_nil, Nat.reduceAdd, Nat.reduceSub, numb]
  repeat' (first | ((first | apply o_do | apply d_do | apply d_yes rfl rfl rfl); first | exact lsc (hj) | exact lsc (hr) | exact lsc (he) | exact lsc (ho) | exact lsq) | refine a_seq ?_ | refine a_region ?_ | refine o_nil ?_ | refine a_block ?_ | refine a_ret ?_ | refine a_exit ?_ | refine a_skip ?_ | refine a_draw mixed ?_ | refine d_nil (by kernel_rfl) ?_ | refine o_yes rfl rfl rfl ?_ | refine o_no rfl rfl rfl (by decide) ?_ | refine o_no' rfl rfl rfl ?_ | refine a_condT rfl ?_ | refine a_condF rfl ?_ | refine d_no rfl rfl rfl (by decide) ?_ | refine d_no' rfl rfl rfl ?_ | (refine wq2 (fun hb => ?_) (fun hb => ?_) <;> (simp only [hb]; try simp only [hbs, ne_eq] at hb; try (exfalso; first | omega | exact hb trivial))) | fail)
  refine a_loop (X := {x : Nat × List Pn // x.1 ≤ ws.length ∧ takeW k key v ps ws = takeW k key v x.2 (ws.drop x.1) ∧ x.2.length ≤ 9223372036854775807}) (fun x => ⟨[(3, .ref 0 0), (4, .ref 1 0), (5, .ref 2 0), (6, .ref 3 0), (9, .sl 2 (ws.map Wn.av)), (38, .sl 2 (ws.map Wn.av)), (39, .v (.int .i64 ws.length)), (40, .v (.int .i64 x.1.1))], [(0, .box 23 [.v (.int .i64 g), .v (.int .i64 s), .v (.int .i64 d), .v (.int .i64 k), .v (.int .i64 fu), .v (.int .i64 li), .v (.int .i64 de), .v (.int .i64 id)]), (1, .box 98 [.v (.int .i64 no), .v (.int .i64 mark), .sl 6 (x.1.2.map Pn.av)]), (2, .box 57 [.v (.string key), .v (.int .i64 at'), .v (.int .i64 v)]), (3, .box 98 [.v (.int .i64 0), .v (.int .i64 0), .v (.slice none 0 0)])]⟩) (fun x => ws.length - x.1.1) ⟨(0, ps), Nat.zero_le _, rfl, hx⟩ ?_ ?_
  · exact wkS
  rintro ⟨⟨q, cur⟩, hq, htk, hc⟩
  dsimp only at hq htk hc ⊢
  rw [htk]
  by_cases hlt : q < ws.length
  · have hel : (ws.map Wn.av)[q]? = some (Wn.av ws[q]) := by simp [hlt]
    have hA := p_Add cur k key ws[q].lo ws[q].hi v hc
    rcases addR_form k cur (oneP k ws[q].lo ws[q].hi key v) with ⟨l, hl, hll⟩ | ⟨e, hl, hne⟩
    · have ht := takeW_ok hlt hl
      rw [hl] at hA
      dsimp only [PR.av] at hA
      rw [ht]
      generalize ws[q] = w at *
      repeat' (first | ((first | apply o_do | apply d_do | apply d_yes rfl rfl rfl); first | exact lsc (hA) | exact lsq) | refine a_seq ?_ | refine a_region ?_ | refine o_nil ?_ | refine a_block ?_ | refine a_ret ?_ | refine a_exit ?_ | refine a_skip ?_ | refine a_draw mixed ?_ | refine d_nil (by kernel_rfl) ?_ | refine o_yes rfl rfl rfl ?_ | refine o_no rfl rfl rfl (by decide) ?_ | refine o_no' rfl rfl rfl ?_ | refine a_condT rfl ?_ | refine a_condF rfl ?_ | refine d_no rfl rfl rfl (by decide) ?_ | refine d_no' rfl rfl rfl ?_ | (refine wq2 (fun hb => ?_) (fun hb => ?_) <;> (simp only [hb]; try simp only [hbs, ne_eq] at hb; try (exfalso; first | omega | exact hb trivial))) | fail)
      refine ⟨⟨(q + 1, l), by dsimp only; omega, rfl, by dsimp only; omega⟩, by dsimp only; omega, ?_⟩
      exact wkS
    · have ht := takeW_bad hlt hl hne
      rw [hl] at hA
      dsimp only [PR.av] at hA
      rw [ht]
      simp only [if_neg hne]
      generalize ws[q] = w at *
      repeat' (first | ((first | apply o_do | apply d_do | apply d_yes rfl rfl rfl); first | exact lsc (hA) | exact lsq) | refine a_seq ?_ | refine a_region ?_ | refine o_nil ?_ | refine a_block ?_ | refine a_ret ?_ | refine a_exit ?_ | refine a_skip ?_ | refine a_draw mixed ?_ | refine d_nil (by kernel_rfl) ?_ | refine o_yes rfl rfl rfl ?_ | refine o_no rfl rfl rfl (by decide) ?_ | refine o_no' rfl rfl rfl ?_ | refine a_condT rfl ?_ | refine a_condF rfl ?_ | refine d_no rfl rfl rfl (by decide) ?_ | refine d_no' rfl rfl rfl ?_ | (refine wq2 (fun hb => ?_) (fun hb => ?_) <;> (simp only [hb]; try simp only [hbs, ne_eq] at hb; try (exfalso; first | omega | exact hb trivial))) | fail)
      all_goals refine rq rfl ?_
      all_goals exact fnq
  · obtain rfl : q = ws.length := by omega
    rw [List.drop_length]
    simp only [takeW, if_true]
    repeat' (first | ((first | apply o_do | apply d_do | apply d_yes rfl rfl rfl); exact lsq) | refine a_seq ?_ | refine a_region ?_ | refine o_nil ?_ | refine a_block ?_ | refine a_ret ?_ | refine a_exit ?_ | refine a_skip ?_ | refine a_draw mixed ?_ | refine d_nil (by kernel_rfl) ?_ | refine o_yes rfl rfl rfl ?_ | refine o_no rfl rfl rfl (by decide) ?_ | refine o_no' rfl rfl rfl ?_ | refine a_condT rfl ?_ | refine a_condF rfl ?_ | refine d_no rfl rfl rfl (by decide) ?_ | refine d_no' rfl rfl rfl ?_ | (refine wq2 (fun hb => ?_) (fun hb => ?_) <;> (simp only [hb]; try simp only [hbs, ne_eq] at hb; try (exfalso; first | omega | exact hb trivial))) | fail)
    all_goals refine rq rfl ?_
    all_goals (first | refine FinA.tup ?_ | refine FinA.one ?_); repeat' (first | exact FinBs.nil | exact FinCs.nil | refine FinBs.cons ?_ ?_ | refine FinCs.cons ?_ ?_ | refine FinB.cell (FinC.v ?_) | refine FinB.cell (FinC.own rfl rfl rfl ?_) | exact FinB.cell FinC.nil | refine FinB.cell (FinC.sl ?_) | exact FinB.agg' rfl rfl | exact FinB.cell (FinC.same rfl) | refine FinB.agg ?_ | refine FinC.v ?_ | refine FinC.own rfl rfl rfl ?_ | exact FinC.nil | refine FinC.sl ?_ | exact FinC.same rfl); all_goals try rfl
    all_goals simp
end
end Go.Proofs.YtilgagmfcdfjaaaGreat
namespace Go.Proofs.YtilgagmfcdfjaaaGreat
open Go.RowKit
set_option linter.unusedSimpArgs false
set_option linter.unusedVariables false
theorem takeR_le (s d k no mark : Int) (ps : List Pn) (key : ByteArray) (at' v : Int) (hx : ps.length ≤ 9223372036854775807) : (takeR s d k no mark ps key at' v).ps.length ≤ 9223372036854775807 := by
  have h := takeW_le (k := k) (key := key) (v := v) (ws := openL s d at' mark) hx
  unfold takeR
  repeat' split
  all_goals simp only [List.length_nil]
  all_goals omega
section
variable (g s d k fu li de id no mark : Int) (ps : List Pn) (key : ByteArray) (at' v : Int)
end
/-- a worker on its way, as it lies -/
def wayC (gv tv : AV) (m : Mk) (a : Al) (told : Int) (j : Jb) (input : Int) (x : It) : List AV :=
  [gv, .sl 2 (m.ins.map inAvM), .sl 2 (m.hs.map hoAv), .v (.int .i64 m.out), .v (.int .i64 a.n), .sl 1 (a.got.map boAv), .sl 1 (a.held.map heAv), .v (.int .i64 told),
    .v (.int .i64 j.g), .v (.int .i64 j.s), .v (.int .i64 j.d), .v (.int .i64 j.k), .v (.int .i64 j.fu), .v (.int .i64 j.li), .v (.int .i64 j.de), .v (.int .i64 j.id), .v (.int .i64 input),
    .v (.int .i64 x.kind), .v (.string x.key), .v (.int .i64 x.at'), .v (.int .i64 x.val), .v (.int .i64 x.mark), .v (.int .i64 x.n), .v (.int .i64 x.lo), .v (.int .i64 x.hi), .v (.string x.rkey), .v (.int .i64 x.rn), .v (.int .i64 x.rval), tv]
abbrev nilA : AV := .v (.slice none 0 0)
section
variable (N : Nat) (G : List (List AV)) (m : Mk) (a : Al) (told : Int) (j : Jb) (input : Int) (x : It)
set_option maxRecDepth 10000 in
set_option maxHeartbeats 4000000 in
theorem y_tell (L : List (List AV)) (y : It) (hL : L.length ≤ 100000000) : AC Tryz.prog 71 [.ref 0 0, .agg y.av] [(0, .box 146 (wayC (.own 1 N) (.own 2 L.length) m a told j input x)), (1, .row 98 3 G), (2, .row 63 11 L)] (.tup []) [(0, .box 146 (wayC (.own 1 N) (.own 2 (L ++ [y.av]).length) m a told j input x)), (1, .row 98 3 G), (2, .row 63 11 (L ++ [y.av]))] := by
  unfold wayC
  refine (ac_body tab_ok Tryz.func71 rfl (by kernel_rfl) rfl ?_); intro w0 M μ0; simp only [Tryz.ntmps71, List.length_cons, List.length_nil, Nat.reduceAdd, Nat.reduceSub, numb]
  repeat' (first | ((first | apply o_do | apply d_do | apply d_yes rfl rfl rfl); first | exact ls_nilCheck rfl rfl | focus (apply ls_append tab_ok rfl rfl ?hn rfl ?hsrc rfl ?hlen rfl rfl; (case hn => rfl); (case hsrc => first | exact SrcIs.sl | exact SrcIs.nil | exact SrcIs.own rfl rfl | fail); (case hlen => (try simp only [List.length_cons, List.length_nil]); omega); first | done | fail) | exact lsq) | refine a_seq ?_ | refine a_region ?_ | refine o_nil ?_ | refine a_block ?_ | refine a_ret ?_ | refine a_exit ?_ | refine a_skip ?_ | refine a_draw mixed ?_ | refine d_nil (by kernel_rfl) ?_ | refine o_yes rfl rfl rfl ?_ | refine o_no rfl rfl rfl (by decide) ?_ | refine o_no' rfl rfl rfl ?_ | refine a_condT rfl ?_ | refine a_condF rfl ?_ | refine d_no rfl rfl rfl (by decide) ?_ | refine d_no' rfl rfl rfl ?_ | (refine wq2 (fun hb => ?_) (fun hb => ?_) <;> (simp only [hb]; try simp only [hbs, ne_eq] at hb; try (exfalso; first | omega | exact hb trivial))) | fail)
  refine rq rfl ?_
  exact fnq
set_option maxRecDepth 10000 in
set_option maxHeartbeats 4000000 in
theorem y_mark (hi : m.ins.length ≤ 9223372036854775807) (hh : m.hs.length ≤ 9223372036854775807) : AC Tryz.prog 104 [.ref 0 0] [(0, .box 146 (wayC (.own 1 N) nilA m a told j input x)), (1, .row 98 3 G)] (.v (.int .i64 (mkSet m input x.mark).e)) [(0, .box 146 (wayC (.own 1 N) nilA (mkSet m input x.mark).m a told j input x)), (1, .row 98 3 G)] := by
  have h := m_Set m input x.mark hi hh
  generalize mkSet m input x.mark = S at *
  obtain ⟨sm, se⟩ := S
  simp only [MkE.av, Mk.av] at h
  unfold wayC
  refine (ac_body tab_ok Tryz.func104 rfl (by kernel_rfl) rfl ?_); intro w0 M μ0; simp only [Tryz.ntmps104, List.length_cons, List.length_nil, Nat.reduceAdd, Nat.reduceSub, numb]
  repeat' (first | ((first | apply o_do | apply d_do | apply d_yes rfl rfl rfl); first | exact ls_nilCheck rfl rfl | exact lsc (h) | exact lsq) | refine a_seq ?_ | refine a_region ?_ | refine o_nil ?_ | refine a_block ?_ | refine a_ret ?_ | refine a_exit ?_ | refine a_skip ?_ | refine a_draw mixed ?_ | refine d_nil (by kernel_rfl) ?_ | refine o_yes rfl rfl rfl ?_ | refine o_no rfl rfl rfl (by decide) ?_ | refine o_no' rfl rfl rfl ?_ | refine a_condT rfl ?_ | refine a_condF rfl ?_ | refine d_no rfl rfl rfl (by decide) ?_ | refine d_no' rfl rfl rfl ?_ | (refine wq2 (fun hb => ?_) (fun hb => ?_) <;> (simp only [hb]; try simp only [hbs, ne_eq] at hb; try (exfalso; first | omega | exact hb trivial))) | fail)
  refine rq rfl ?_
  exact fnq
set_option maxRecDepth 10000 in
set_option maxHeartbeats 4000000 in
theorem y_idle (hi : m.ins.length ≤ 9223372036854775807) (hh : m.hs.length ≤ 9223372036854775807) : AC Tryz.prog 105 [.ref 0 0] [(0, .box 146 (wayC (.own 1 N) nilA m a told j input x)), (1, .row 98 3 G)] (.v (.int .i64 (mkIdle m input).e)) [(0, .box 146 (wayC (.own 1 N) nilA (mkIdle m input).m a told j input x)), (1, .row 98 3 G)] := by
  have h := m_Idle m input hi hh
  generalize mkIdle m input = S at *
  obtain ⟨sm, se⟩ := S
  simp only [MkE.av, Mk.av] at h
  unfold wayC
  refine (ac_body tab_ok Tryz.func105 rfl (by kernel_rfl) rfl ?_); intro w0 M μ0; simp only [Tryz.ntmps105, List.length_cons, List.length_nil, Nat.reduceAdd, Nat.reduceSub, numb]
  repeat' (first | ((first | apply o_do | apply d_do | apply d_yes rfl rfl rfl); first | exact ls_nilCheck rfl rfl | exact lsc (h) | exact lsq) | refine a_seq ?_ | refine a_region ?_ | refine o_nil ?_ | refine a_block ?_ | refine a_ret ?_ | refine a_exit ?_ | refine a_skip ?_ | refine a_draw mixed ?_ | refine d_nil (by kernel_rfl) ?_ | refine o_yes rfl rfl rfl ?_ | refine o_no rfl rfl rfl (by decide) ?_ | refine o_no' rfl rfl rfl ?_ | refine a_condT rfl ?_ | refine a_condF rfl ?_ | refine d_no rfl rfl rfl (by decide) ?_ | refine d_no' rfl rfl rfl ?_ | (refine wq2 (fun hb => ?_) (fun hb => ?_) <;> (simp only [hb]; try simp only [hbs, ne_eq] at hb; try (exfalso; first | omega | exact hb trivial))) | fail)
  refine rq rfl ?_
  exact fnq
end
theorem y_is (no : Int) (g : Gp) : AC Tryz.prog 133 [.agg g.av, .ref 0 0] [(0, .box 3 [.v (.int .i64 no)])] (.v (.bool (decide (g.no = no)))) [(0, .box 3 [.v (.int .i64 no)])] := by
  obtain ⟨n, mk, ps⟩ := g
  refine (ac_body tab_ok Tryz.func133 rfl (by kernel_rfl) rfl ?_); intro w0 M μ0; simp only [Tryz.ntmps133, List.length_cons, List.length_nil, Nat.reduceAdd, Nat.reduceSub, numb]
  repeat' (first | ((first | apply o_do | apply d_do | apply d_yes rfl rfl rfl); exact lsq) | refine a_seq ?_ | refine a_region ?_ | refine o_nil ?_ | refine a_block ?_ | refine a_ret ?_ | refine a_exit ?_ | refine a_skip ?_ | refine a_draw mixed ?_ | refine d_nil (by kernel_rfl) ?_ | refine o_yes rfl rfl rfl ?_ | refine o_no rfl rfl rfl (by decide) ?_ | refine o_no' rfl rfl rfl ?_ | refine a_condT rfl ?_ | refine a_condF rfl ?_ | refine d_no rfl rfl rfl (by decide) ?_ | refine d_no' rfl rfl rfl ?_ | (refine wq2 (fun hb => ?_) (fun hb => ?_) <;> (simp only [hb]; try simp only [hbs, ne_eq] at hb; try (exfalso; first | omega | exact hb trivial))) | fail)
  refine rq rfl ?_
  exact fnq
set_option maxHeartbeats 2000000 in
theorem y_find (no : Int) (gs : List Gp) (hx : gs.length ≤ 1000) : ∃ (q : Nat) (b : Bool), (b = true → ∃ h : q < gs.length, gs[q].no = no) ∧ (b = false → ∀ g ∈ gs, ¬ g.no = no) ∧
    AC Tryz.prog 132 [.own 1 (gs.map Gp.av).length, .clo (.func 133) [] [.ref 0 0]] [(0, .box 3 [.v (.int .i64 no)]), (1, .row 98 3 (gs.map Gp.av))] (.tup [.v (.int .i64 q), .v (.bool b)]) [(0, .box 3 [.v (.int .i64 no)]), (1, .row 98 3 (gs.map Gp.av))] := by
  have n1 : (gs.map Gp.av).length = gs.length := List.length_map _
  rcases fst_all (fun g : Gp => !decide (g.no = no)) gs with hall | ⟨q0, hq0, h1, h2⟩
  · refine ⟨0, false, (fun h => nomatch h), fun _ g hg => by simpa using List.all_eq_true.1 hall g hg, ?_⟩
    refine (ac_body tab_ok Tryz.func132 rfl (by kernel_rfl) rfl ?_); intro w0 M μ0; simp only [Tryz.ntmps132, List.length_cons, List.length_nil, Nat.reduceAdd, Nat.reduceSub, numb]
    repeat' (first | ((first | apply o_do | apply d_do | apply d_yes rfl rfl rfl); exact lsq) | refine a_seq ?_ | refine a_region ?_ | refine o_nil ?_ | refine a_block ?_ | refine a_ret ?_ | refine a_exit ?_ | refine a_skip ?_ | refine a_draw mixed ?_ | refine d_nil (by kernel_rfl) ?_ | refine o_yes rfl rfl rfl ?_ | refine o_no rfl rfl rfl (by decide) ?_ | refine o_no' rfl rfl rfl ?_ | refine a_condT rfl ?_ | refine a_condF rfl ?_ | refine d_no rfl rfl rfl (by decide) ?_ | refine d_no' rfl rfl rfl ?_ | (refine wq2 (fun hb => ?_) (fun hb => ?_) <;> (simp only [hb]; try simp only [hbs, ne_eq] at hb; try (exfalso; first | omega | exact hb trivial))) | fail)
    refine a_loop (X := {q : Nat // q ≤ gs.length}) (fun y => ⟨[(1, .clo (.func 133) [] [.ref 0 0]), (8, .own 1 (gs.map Gp.av).length), (9, .v (.int .i64 gs.length)), (10, .v (.int .i64 y.1))], [(0, .box 3 [.v (.int .i64 no)]), (1, .row 98 3 (gs.map Gp.av))]⟩) (fun y => gs.length - y.1) ⟨0, Nat.zero_le _⟩ ?_ ?_
    · refine ⟨by repeat' (first | exact trivial | exact FinA.one (FinB.cell (FinC.same rfl)) | exact FinA.one (FinB.cell FinC.nil) | exact FinA.bound rfl | exact FinA.one (FinB.cell (FinC.own rfl rfl rfl rfl)) | exact FinA.one (FinB.cell (FinC.v (by first | rfl | (simp)))) | exact FinA.one (FinB.cell (FinC.ow rfl (by first | rfl | (simp)))) | exact FinA.one (FinB.agg' rfl rfl) | exact FinA.one (FinB.cell (FinC.el rfl rfl rfl rfl)) | refine FinA.clo ?_ ?_ | exact FinBs.nil | exact FinB.cell (FinC.same rfl) | exact FinB.cell (FinC.el rfl rfl rfl rfl) | refine FinBs.cons ?_ ?_ | refine ⟨⟨_, rfl, ?_⟩, ?_⟩), by repeat' (first | exact trivial | refine ⟨⟨_, rfl, by first | rfl | (simp; done) | (simp [renO, *]; done)⟩, by first | rfl | assumption, ?_⟩), rfl⟩
    rintro ⟨q, hq⟩
    dsimp only
    by_cases hlt : q < gs.length
    · have hel : (gs.map Gp.av)[q]? = some (Gp.av gs[q]) := by simp [hlt]
      have hqx : q < (gs.map Gp.av).length := by omega
      have hbd := y_is no gs[q]
      have hne := List.all_eq_true.1 hall _ (List.getElem_mem hlt)
      rw [show decide (gs[q].no = no) = false by simpa using hne] at hbd
      generalize gs[q] = y at *
      repeat' (first | ((first | apply o_do | apply d_do | apply d_yes rfl rfl rfl); first | exact ls_indexAddr_own tab_ok rfl rfl rfl rfl rfl rfl hqx rfl | exact ls_load_eref tab_ok rfl rfl rfl hel rfl rfl rfl rfl | exact ls_callA [0] 2 hbd rfl rfl (by (repeat' (first | exact NilL.nil | refine NilL.cons Nil.same ?_ | refine NilL.cons Nil.nil ?_ | refine NilL.cons (Nil.agg ?_) ?_ | exact Nil1s.nil | refine Nil1s.cons Nil1.same ?_ | refine Nil1s.cons Nil1.nil ?_)); first | done | fail) rfl (by repeat' (first | exact trivial | refine ⟨⟨_, rfl, by first | rfl | (simp [renO, *]; done)⟩, ?_⟩)) (by first | rfl | simp [closO, *]) rfl rfl rfl rfl (by first | rfl | simp [closO, *]) rfl | exact lsq) | refine a_seq ?_ | refine a_region ?_ | refine o_nil ?_ | refine a_block ?_ | refine a_ret ?_ | refine a_exit ?_ | refine a_skip ?_ | refine a_draw mixed ?_ | refine d_nil (by kernel_rfl) ?_ | refine o_yes rfl rfl rfl ?_ | refine o_no rfl rfl rfl (by decide) ?_ | refine o_no' rfl rfl rfl ?_ | refine a_condT rfl ?_ | refine a_condF rfl ?_ | refine d_no rfl rfl rfl (by decide) ?_ | refine d_no' rfl rfl rfl ?_ | (refine wq2 (fun hb => ?_) (fun hb => ?_) <;> (simp only [hb]; try simp only [hbs, ne_eq] at hb; try (exfalso; first | omega | exact hb trivial))) | fail)
      refine ⟨⟨q + 1, by omega⟩, by dsimp only; omega, ?_⟩
      refine ⟨by repeat' (first | exact trivial | exact FinA.one (FinB.cell (FinC.same rfl)) | exact FinA.one (FinB.cell FinC.nil) | exact FinA.bound rfl | exact FinA.one (FinB.cell (FinC.own rfl rfl rfl rfl)) | exact FinA.one (FinB.cell (FinC.v (by first | rfl | (simp)))) | exact FinA.one (FinB.cell (FinC.ow rfl (by first | rfl | (simp)))) | exact FinA.one (FinB.agg' rfl rfl) | exact FinA.one (FinB.cell (FinC.el rfl rfl rfl rfl)) | refine FinA.clo ?_ ?_ | exact FinBs.nil | exact FinB.cell (FinC.same rfl) | exact FinB.cell (FinC.el rfl rfl rfl rfl) | refine FinBs.cons ?_ ?_ | refine ⟨⟨_, rfl, ?_⟩, ?_⟩), by repeat' (first | exact trivial | refine ⟨⟨_, rfl, by first | rfl | (simp; done) | (simp [renO, *]; done)⟩, by first | rfl | assumption, ?_⟩), rfl⟩
    · repeat' (first | ((first | apply o_do | apply d_do | apply d_yes rfl rfl rfl); exact lsq) | refine a_seq ?_ | refine a_region ?_ | refine o_nil ?_ | refine a_block ?_ | refine a_ret ?_ | refine a_exit ?_ | refine a_skip ?_ | refine a_draw mixed ?_ | refine d_nil (by kernel_rfl) ?_ | refine o_yes rfl rfl rfl ?_ | refine o_no rfl rfl rfl (by decide) ?_ | refine o_no' rfl rfl rfl ?_ | refine a_condT rfl ?_ | refine a_condF rfl ?_ | refine d_no rfl rfl rfl (by decide) ?_ | refine d_no' rfl rfl rfl ?_ | (refine wq2 (fun hb => ?_) (fun hb => ?_) <;> (simp only [hb]; try simp only [hbs, ne_eq] at hb; try (exfalso; first | omega | exact hb trivial))) | fail)
      refine rq rfl ?_
      exact fnq
  · refine ⟨q0, true, fun _ => ⟨hq0, by simpa using h2⟩, (fun h => nomatch h), ?_⟩
    refine (ac_body tab_ok Tryz.func132 rfl (by kernel_rfl) rfl ?_); intro w0 M μ0; simp only [Tryz.ntmps132, List.length_cons, List.length_nil, Nat.reduceAdd, Nat.reduceSub, numb]
    repeat' (first | ((first | apply o_do | apply d_do | apply d_yes rfl rfl rfl); exact lsq) | refine a_seq ?_ | refine a_region ?_ | refine o_nil ?_ | refine a_block ?_ | refine a_ret ?_ | refine a_exit ?_ | refine a_skip ?_ | refine a_draw mixed ?_ | refine d_nil (by kernel_rfl) ?_ | refine o_yes rfl rfl rfl ?_ | refine o_no rfl rfl rfl (by decide) ?_ | refine o_no' rfl rfl rfl ?_ | refine a_condT rfl ?_ | refine a_condF rfl ?_ | refine d_no rfl rfl rfl (by decide) ?_ | refine d_no' rfl rfl rfl ?_ | (refine wq2 (fun hb => ?_) (fun hb => ?_) <;> (simp only [hb]; try simp only [hbs, ne_eq] at hb; try (exfalso; first | omega | exact hb trivial))) | fail)
    refine a_loop (X := {q : Nat // q ≤ q0}) (fun y => ⟨[(1, .clo (.func 133) [] [.ref 0 0]), (8, .own 1 (gs.map Gp.av).length), (9, .v (.int .i64 gs.length)), (10, .v (.int .i64 y.1))], [(0, .box 3 [.v (.int .i64 no)]), (1, .row 98 3 (gs.map Gp.av))]⟩) (fun y => gs.length - y.1) ⟨0, Nat.zero_le _⟩ ?_ ?_
    · refine ⟨by repeat' (first | exact trivial | exact FinA.one (FinB.cell (FinC.same rfl)) | exact FinA.one (FinB.cell FinC.nil) | exact FinA.bound rfl | exact FinA.one (FinB.cell (FinC.own rfl rfl rfl rfl)) | exact FinA.one (FinB.cell (FinC.v (by first | rfl | (simp)))) | exact FinA.one (FinB.cell (FinC.ow rfl (by first | rfl | (simp)))) | exact FinA.one (FinB.agg' rfl rfl) | exact FinA.one (FinB.cell (FinC.el rfl rfl rfl rfl)) | refine FinA.clo ?_ ?_ | exact FinBs.nil | exact FinB.cell (FinC.same rfl) | exact FinB.cell (FinC.el rfl rfl rfl rfl) | refine FinBs.cons ?_ ?_ | refine ⟨⟨_, rfl, ?_⟩, ?_⟩), by repeat' (first | exact trivial | refine ⟨⟨_, rfl, by first | rfl | (simp; done) | (simp [renO, *]; done)⟩, by first | rfl | assumption, ?_⟩), rfl⟩
    rintro ⟨q, hq⟩
    dsimp only
    have hlt : q < gs.length := by omega
    have hel : (gs.map Gp.av)[q]? = some (Gp.av gs[q]) := by simp [hlt]
    have hqx : q < (gs.map Gp.av).length := by omega
    have hbd := y_is no gs[q]
    rcases Nat.lt_or_eq_of_le hq with h | h
    · have hm : gs[q] ∈ gs.take q0 := by
        rw [List.mem_take_iff_getElem]
        exact ⟨q, by omega, rfl⟩
      have hne := List.all_eq_true.1 h1 _ hm
      rw [show decide (gs[q].no = no) = false by simpa using hne] at hbd
      generalize gs[q] = y at *
      repeat' (first | ((first | apply o_do | apply d_do | apply d_yes rfl rfl rfl); first | exact ls_indexAddr_own tab_ok rfl rfl rfl rfl rfl rfl hqx rfl | exact ls_load_eref tab_ok rfl rfl rfl hel rfl rfl rfl rfl | exact ls_callA [0] 2 hbd rfl rfl (by (repeat' (first | exact NilL.nil | refine NilL.cons Nil.same ?_ | refine NilL.cons Nil.nil ?_ | refine NilL.cons (Nil.agg ?_) ?_ | exact Nil1s.nil | refine Nil1s.cons Nil1.same ?_ | refine Nil1s.cons Nil1.nil ?_)); first | done | fail) rfl (by repeat' (first | exact trivial | refine ⟨⟨_, rfl, by first | rfl | (simp [renO, *]; done)⟩, ?_⟩)) (by first | rfl | simp [closO, *]) rfl rfl rfl rfl (by first | rfl | simp [closO, *]) rfl | exact lsq) | refine a_seq ?_ | refine a_region ?_ | refine o_nil ?_ | refine a_block ?_ | refine a_ret ?_ | refine a_exit ?_ | refine a_skip ?_ | refine a_draw mixed ?_ | refine d_nil (by kernel_rfl) ?_ | refine o_yes rfl rfl rfl ?_ | refine o_no rfl rfl rfl (by decide) ?_ | refine o_no' rfl rfl rfl ?_ | refine a_condT rfl ?_ | refine a_condF rfl ?_ | refine d_no rfl rfl rfl (by decide) ?_ | refine d_no' rfl rfl rfl ?_ | (refine wq2 (fun hb => ?_) (fun hb => ?_) <;> (simp only [hb]; try simp only [hbs, ne_eq] at hb; try (exfalso; first | omega | exact hb trivial))) | fail)
      refine ⟨⟨q + 1, by omega⟩, by dsimp only; omega, ?_⟩
      refine ⟨by repeat' (first | exact trivial | exact FinA.one (FinB.cell (FinC.same rfl)) | exact FinA.one (FinB.cell FinC.nil) | exact FinA.bound rfl | exact FinA.one (FinB.cell (FinC.own rfl rfl rfl rfl)) | exact FinA.one (FinB.cell (FinC.v (by first | rfl | (simp)))) | exact FinA.one (FinB.cell (FinC.ow rfl (by first | rfl | (simp)))) | exact FinA.one (FinB.agg' rfl rfl) | exact FinA.one (FinB.cell (FinC.el rfl rfl rfl rfl)) | refine FinA.clo ?_ ?_ | exact FinBs.nil | exact FinB.cell (FinC.same rfl) | exact FinB.cell (FinC.el rfl rfl rfl rfl) | refine FinBs.cons ?_ ?_ | refine ⟨⟨_, rfl, ?_⟩, ?_⟩), by repeat' (first | exact trivial | refine ⟨⟨_, rfl, by first | rfl | (simp; done) | (simp [renO, *]; done)⟩, by first | rfl | assumption, ?_⟩), rfl⟩
    · subst h
      rw [show decide (gs[q].no = no) = true by simpa using h2] at hbd
      generalize gs[q] = y at *
      repeat' (first | ((first | apply o_do | apply d_do | apply d_yes rfl rfl rfl); first | exact ls_indexAddr_own tab_ok rfl rfl rfl rfl rfl rfl hqx rfl | exact ls_load_eref tab_ok rfl rfl rfl hel rfl rfl rfl rfl | exact ls_callA [0] 2 hbd rfl rfl (by (repeat' (first | exact NilL.nil | refine NilL.cons Nil.same ?_ | refine NilL.cons Nil.nil ?_ | refine NilL.cons (Nil.agg ?_) ?_ | exact Nil1s.nil | refine Nil1s.cons Nil1.same ?_ | refine Nil1s.cons Nil1.nil ?_)); first | done | fail) rfl (by repeat' (first | exact trivial | refine ⟨⟨_, rfl, by first | rfl | (simp [renO, *]; done)⟩, ?_⟩)) (by first | rfl | simp [closO, *]) rfl rfl rfl rfl (by first | rfl | simp [closO, *]) rfl | exact lsq) | refine a_seq ?_ | refine a_region ?_ | refine o_nil ?_ | refine a_block ?_ | refine a_ret ?_ | refine a_exit ?_ | refine a_skip ?_ | refine a_draw mixed ?_ | refine d_nil (by kernel_rfl) ?_ | refine o_yes rfl rfl rfl ?_ | refine o_no rfl rfl rfl (by decide) ?_ | refine o_no' rfl rfl rfl ?_ | refine a_condT rfl ?_ | refine a_condF rfl ?_ | refine d_no rfl rfl rfl (by decide) ?_ | refine d_no' rfl rfl rfl ?_ | (refine wq2 (fun hb => ?_) (fun hb => ?_) <;> (simp only [hb]; try simp only [hbs, ne_eq] at hb; try (exfalso; first | omega | exact hb trivial))) | fail)
      refine rq rfl ?_
      exact fnq
theorem y_fail (e : Int) : PC Tryz.prog 68 [.v (.int .i64 e)] (wkFail e).av := by
  simp only [wkFail, TkW.av, wkZ, Wk.av, List.map_nil]
  refine PC.mk (ac_body tab_ok Tryz.func68 rfl (by kernel_rfl) rfl ?_); intro w0 M μ0; simp only [Tryz.ntmps68, List.length_cons, List.length_nil, Nat.reduceAdd, Nat.reduceSub, numb]
  repeat' (first | ((first | apply o_do | apply d_do | apply d_yes rfl rfl rfl); exact lsq) | refine a_seq ?_ | refine a_region ?_ | refine o_nil ?_ | refine a_block ?_ | refine a_ret ?_ | refine a_exit ?_ | refine a_skip ?_ | refine a_draw mixed ?_ | refine d_nil (by kernel_rfl) ?_ | refine o_yes rfl rfl rfl ?_ | refine o_no rfl rfl rfl (by decide) ?_ | refine o_no' rfl rfl rfl ?_ | refine a_condT rfl ?_ | refine a_condF rfl ?_ | refine d_no rfl rfl rfl (by decide) ?_ | refine d_no' rfl rfl rfl ?_ | (refine wq2 (fun hb => ?_) (fun hb => ?_) <;> (simp only [hb]; try simp only [hbs, ne_eq] at hb; try (exfalso; first | omega | exact hb trivial))) | fail)
  refine rq rfl ?_
  exact fnq
section
variable (m : Mk) (a : Al) (told : Int) (j : Jb) (input : Int) (x : It)
theorem pureG (g : Gp) : ∀ (σ : Store) (μ : Nat → Value) (w : World) (A : Nat → Prop) (z : Value), rep σ μ w A (.agg g.av) z → rep [] μ w A (.agg g.av) z := by
  intro σ μ w A z h
  simpa only [Gp.av, rep, repC] using h
set_option maxRecDepth 10000 in
set_option maxHeartbeats 8000000 in
theorem y_event (no : Int) (gs : List Gp) (hx : gs.length ≤ 1000) (hp : ∀ g ∈ gs, g.ps.length ≤ 9223372036854775807) (hi : m.ins.length ≤ 9223372036854775807) (hh : m.hs.length ≤ 9223372036854775807)
    (hgrp : PC Tryz.prog 131 [.v (.string x.key), .v (.int .i64 j.g)] (.v (.int .i64 no))) :
    ((∀ g ∈ gs, ¬ g.no = no) ∧ AC Tryz.prog 103 [.ref 0 0] [(0, .box 146 (wayC (.own 1 (gs.map Gp.av).length) nilA m a told j input x)), (1, .row 98 3 (gs.map Gp.av))] (.v (.int .i64 160)) [(0, .box 146 (wayC (.own 1 (gs.map Gp.av).length) nilA m a told j input x)), (1, .row 98 3 (gs.map Gp.av))]) ∨
    ∃ (q : Nat) (hq : q < gs.length), gs[q].no = no ∧ (((gpTake j x gs[q]).e ≠ 0 ∧ AC Tryz.prog 103 [.ref 0 0] [(0, .box 146 (wayC (.own 1 (gs.map Gp.av).length) nilA m a told j input x)), (1, .row 98 3 (gs.map Gp.av))] (.v (.int .i64 (gpTake j x gs[q]).e)) [(0, .box 146 (wayC (.own 1 (gs.map Gp.av).length) nilA m a told j input x)), (1, .row 98 3 (gs.map Gp.av))]) ∨
      ((gpTake j x gs[q]).e = 0 ∧ AC Tryz.prog 103 [.ref 0 0] [(0, .box 146 (wayC (.own 1 (gs.map Gp.av).length) nilA m a told j input x)), (1, .row 98 3 (gs.map Gp.av))] (.v (.int .i64 (mkSet m input 0).e)) [(0, .box 146 (wayC (.own 1 (gs.map Gp.av).length) nilA (mkSet m input 0).m a told j input x)), (1, .row 98 3 ((gs.map Gp.av).set q (Gp.av (gpTake j x gs[q]).gp)))])) := by
  obtain ⟨q, b, hb1, hb2, hf⟩ := y_find no gs hx
  cases b
  · refine .inl ⟨hb2 rfl, ?_⟩
    unfold wayC
    refine (ac_body tab_ok Tryz.func103 rfl (by kernel_rfl) rfl ?_); intro w0 M μ0; simp only [Tryz.ntmps103, List.length_cons, List.length_nil, Nat.reduceAdd, Nat.reduceSub, numb]
    repeat' (first | ((first | apply o_do | apply d_do | apply d_yes rfl rfl rfl); first | exact ls_nilCheck rfl rfl | exact lsc (hgrp) | exact ls_callA [2, 1] 3 hf rfl rfl (by (repeat' (first | exact NilL.nil | refine NilL.cons Nil.same ?_ | refine NilL.cons Nil.nil ?_ | refine NilL.cons (Nil.agg ?_) ?_ | exact Nil1s.nil | refine Nil1s.cons Nil1.same ?_ | refine Nil1s.cons Nil1.nil ?_)); first | done | fail) rfl (by repeat' (first | exact trivial | refine ⟨⟨_, rfl, by first | rfl | (simp [renO, *]; done)⟩, ?_⟩)) (by first | rfl | simp [closO, *]) rfl rfl rfl rfl (by first | rfl | simp [closO, *]) rfl | exact lsq) | refine a_seq ?_ | refine a_region ?_ | refine o_nil ?_ | refine a_block ?_ | refine a_ret ?_ | refine a_exit ?_ | refine a_skip ?_ | refine a_draw mixed ?_ | refine d_nil (by kernel_rfl) ?_ | refine o_yes rfl rfl rfl ?_ | refine o_no rfl rfl rfl (by decide) ?_ | refine o_no' rfl rfl rfl ?_ | refine a_condT rfl ?_ | refine a_condF rfl ?_ | refine d_no rfl rfl rfl (by decide) ?_ | refine d_no' rfl rfl rfl ?_ | (refine wq2 (fun hb => ?_) (fun hb => ?_) <;> (simp only [hb]; try simp only [hbs, ne_eq] at hb; try (exfalso; first | omega | exact hb trivial))) | fail)
    refine rq rfl ?_
    exact fnq
  · obtain ⟨hq, hno⟩ := hb1 rfl
    refine .inr ⟨q, hq, hno, ?_⟩
    have hel : (gs.map Gp.av)[q]? = some (Gp.av gs[q]) := by simp [hq]
    have hqx : q < (gs.map Gp.av).length := by rw [List.length_map]; exact hq
    have ht := g_Take j.g j.s j.d j.k j.fu j.li j.de j.id gs[q].no gs[q].mark gs[q].ps x.key x.at' x.val (hp _ (List.getElem_mem hq))
    have hs := m_Set m input 0 hi hh
    generalize gs[q] = y at *
    obtain ⟨yn, ym, yp⟩ := y
    unfold gpTake
    dsimp only at ht ⊢
    generalize takeR j.s j.d j.k yn ym yp x.key x.at' x.val = T at *
    obtain ⟨tn, tm, tp, tc, te⟩ := T
    generalize mkSet m input 0 = S at *
    obtain ⟨sm, se⟩ := S
    simp only [TkR.av] at ht
    simp only [MkE.av, Mk.av] at hs
    dsimp only [TkR.gp]
    by_cases he : te = 0
    · refine .inr ⟨he, ?_⟩
      unfold wayC
      refine (ac_body tab_ok Tryz.func103 rfl (by kernel_rfl) rfl ?_); intro w0 M μ0; simp only [Tryz.ntmps103, List.length_cons, List.length_nil, Nat.reduceAdd, Nat.reduceSub, numb]
      repeat' (first | ((first | apply o_do | apply d_do | apply d_yes rfl rfl rfl); first | exact ls_nilCheck rfl rfl | exact lsc (hgrp) | exact ls_callA [2, 1] 3 hf rfl rfl (by (repeat' (first | exact NilL.nil | refine NilL.cons Nil.same ?_ | refine NilL.cons Nil.nil ?_ | refine NilL.cons (Nil.agg ?_) ?_ | exact Nil1s.nil | refine Nil1s.cons Nil1.same ?_ | refine Nil1s.cons Nil1.nil ?_)); first | done | fail) rfl (by repeat' (first | exact trivial | refine ⟨⟨_, rfl, by first | rfl | (simp [renO, *]; done)⟩, ?_⟩)) (by first | rfl | simp [closO, *]) rfl rfl rfl rfl (by first | rfl | simp [closO, *]) rfl | exact ls_indexAddr_own tab_ok rfl rfl rfl rfl rfl rfl hqx rfl | exact ls_load_eref tab_ok rfl rfl rfl hel rfl rfl rfl rfl | exact ls_store_eref (cs' := Gp.av ⟨tn, tm, tp⟩) tab_ok rfl rfl rfl rfl hel rfl rfl (pureG ⟨tn, tm, tp⟩) rfl rfl rfl rfl | exact lsc (ht) | exact lsc (hs) | exact lsq) | refine a_seq ?_ | refine a_region ?_ | refine o_nil ?_ | refine a_block ?_ | refine a_ret ?_ | refine a_exit ?_ | refine a_skip ?_ | refine a_draw mixed ?_ | refine d_nil (by kernel_rfl) ?_ | refine o_yes rfl rfl rfl ?_ | refine o_no rfl rfl rfl (by decide) ?_ | refine o_no' rfl rfl rfl ?_ | refine a_condT rfl ?_ | refine a_condF rfl ?_ | refine d_no rfl rfl rfl (by decide) ?_ | refine d_no' rfl rfl rfl ?_ | (refine wq2 (fun hb => ?_) (fun hb => ?_) <;> (simp only [hb]; try simp only [hbs, ne_eq] at hb; try (exfalso; first | omega | exact hb trivial))) | fail)
      refine rq rfl ?_
      exact fnq
    · refine .inl ⟨he, ?_⟩
      unfold wayC
      refine (ac_body tab_ok Tryz.func103 rfl (by kernel_rfl) rfl ?_); intro w0 M μ0; simp only [Tryz.ntmps103, List.length_cons, List.length_nil, Nat.reduceAdd, Nat.reduceSub, numb]
      repeat' (first | ((first | apply o_do | apply d_do | apply d_yes rfl rfl rfl); first | exact ls_nilCheck rfl rfl | exact lsc (hgrp) | exact ls_callA [2, 1] 3 hf rfl rfl (by (repeat' (first | exact NilL.nil | refine NilL.cons Nil.same ?_ | refine NilL.cons Nil.nil ?_ | refine NilL.cons (Nil.agg ?_) ?_ | exact Nil1s.nil | refine Nil1s.cons Nil1.same ?_ | refine Nil1s.cons Nil1.nil ?_)); first | done | fail) rfl (by repeat' (first | exact trivial | refine ⟨⟨_, rfl, by first | rfl | (simp [renO, *]; done)⟩, ?_⟩)) (by first | rfl | simp [closO, *]) rfl rfl rfl rfl (by first | rfl | simp [closO, *]) rfl | exact ls_indexAddr_own tab_ok rfl rfl rfl rfl rfl rfl hqx rfl | exact ls_load_eref tab_ok rfl rfl rfl hel rfl rfl rfl rfl | exact lsc (ht) | exact lsc (hs) | exact lsq) | refine a_seq ?_ | refine a_region ?_ | refine o_nil ?_ | refine a_block ?_ | refine a_ret ?_ | refine a_exit ?_ | refine a_skip ?_ | refine a_draw mixed ?_ | refine d_nil (by kernel_rfl) ?_ | refine o_yes rfl rfl rfl ?_ | refine o_no rfl rfl rfl (by decide) ?_ | refine o_no' rfl rfl rfl ?_ | refine a_condT rfl ?_ | refine a_condF rfl ?_ | refine d_no rfl rfl rfl (by decide) ?_ | refine d_no' rfl rfl rfl ?_ | (refine wq2 (fun hb => ?_) (fun hb => ?_) <;> (simp only [hb]; try simp only [hbs, ne_eq] at hb; try (exfalso; first | omega | exact hb trivial))) | fail)
      refine rq rfl ?_
      exact fnq
set_option maxRecDepth 10000 in
set_option maxHeartbeats 8000000 in
theorem y_goNo (N : Nat) (G : List (List AV)) (hi : m.ins.length ≤ 9223372036854775807) (hh : m.hs.length ≤ 9223372036854775807) (hno : (mkTell m).is = false) :
    AC Tryz.prog 73 [.ref 0 0] [(0, .box 146 (wayC (.own 1 N) nilA m a told j input x)), (1, .row 98 3 G)] (.v (.int .i64 0)) [(0, .box 146 (wayC (.own 1 N) nilA (mkTell m).m a told j input x)), (1, .row 98 3 G)] := by
  have h := m_Tell m hi hh
  generalize mkTell m = T at *
  obtain ⟨tm, tt, ti⟩ := T
  dsimp only at hno
  subst hno
  simp only [MkT.av, Mk.av] at h
  unfold wayC
  refine (ac_body tab_ok Tryz.func73 rfl (by kernel_rfl) rfl ?_); intro w0 M μ0; simp only [Tryz.ntmps73, List.length_cons, List.length_nil, Nat.reduceAdd, Nat.reduceSub, numb]
  repeat' (first | ((first | apply o_do | apply d_do | apply d_yes rfl rfl rfl); first | exact ls_nilCheck rfl rfl | exact lsc (h) | exact lsq) | refine a_seq ?_ | refine a_region ?_ | refine o_nil ?_ | refine a_block ?_ | refine a_ret ?_ | refine a_exit ?_ | refine a_skip ?_ | refine a_draw mixed ?_ | refine d_nil (by kernel_rfl) ?_ | refine o_yes rfl rfl rfl ?_ | refine o_no rfl rfl rfl (by decide) ?_ | refine o_no' rfl rfl rfl ?_ | refine a_condT rfl ?_ | refine a_condF rfl ?_ | refine d_no rfl rfl rfl (by decide) ?_ | refine d_no' rfl rfl rfl ?_ | (refine wq2 (fun hb => ?_) (fun hb => ?_) <;> (simp only [hb]; try simp only [hbs, ne_eq] at hb; try (exfalso; first | omega | exact hb trivial))) | fail)
  refine rq rfl ?_
  exact fnq
end
/-- groups of which the first ones have gone on -/
def advQ (j : Jb) (t : Int) (gs : List Gp) (q : Nat) : List Gp := advM j t (gs.take q) ++ gs.drop q
theorem advQ_len (j : Jb) (t : Int) (gs : List Gp) (q : Nat) : (advQ j t gs q).length = gs.length := by
  unfold advQ advM
  rw [List.length_append, List.length_map, List.length_take, List.length_drop]
  omega
theorem advQ_at (j : Jb) (t : Int) (gs : List Gp) (q : Nat) (h : q < gs.length) : (advQ j t gs q)[q]? = some gs[q] := by
  unfold advQ advM
  rw [List.getElem?_append_right (by rw [List.length_map, List.length_take]; omega), List.length_map, List.length_take, List.getElem?_drop]
  rw [show min q gs.length = q by omega, show q + (q - q) = q by omega]
  exact List.getElem?_eq_getElem h
theorem advQ_set (j : Jb) (t : Int) (gs : List Gp) (q : Nat) (h : q < gs.length) : (advQ j t gs q).set q (gpAdv j t gs[q]).gp = advQ j t gs (q + 1) := by
  have e : gs.drop q = gs[q] :: gs.drop (q + 1) := List.drop_eq_getElem_cons h
  unfold advQ
  rw [e, take_snoc gs q h, advM_snoc, List.set_append_right _ _ (by unfold advM; rw [List.length_map, List.length_take]; omega)]
  have : q - (advM j t (gs.take q)).length = 0 := by unfold advM; rw [List.length_map, List.length_take]; omega
  rw [this]
  simp only [List.set_cons_zero, List.append_assoc, List.singleton_append]
theorem grow_le {j : Jb} {x : It} {g : Gp} (h : g.ps.length ≤ 9223372036854775807) : (gpTake j x g).gp.ps.length ≤ 9223372036854775807 := takeR_le j.s j.d j.k g.no g.mark g.ps x.key x.at' x.val h
theorem adv_rs (s d k no mark : Int) (ps : List Pn) (m : Int) : (adv s d k no mark ps m).rs.length ≤ 2000 := by
  unfold adv
  split
  · simp
  split
  · simp
  split
  · simp
  · dsimp only
    unfold resultsL
    split
    · rename_i h
      simp only [Bool.and_eq_true] at h
      rw [List.length_map]
      exact (rightL_ok h.1).1
    · simp
theorem advT_le (j : Jb) (t : Int) (l : List Gp) : (advT j t l).length ≤ 2000 * l.length := by
  induction l with
  | nil => simp [advT]
  | cons g l ih =>
    have : advT j t (g :: l) = (gpAdv j t g).rs.map resItem ++ advT j t l := by simp [advT]
    rw [this, List.length_append, List.length_map, List.length_cons]
    have := adv_rs j.s j.d j.k g.no g.mark g.ps t
    unfold gpAdv
    omega
section
variable (m : Mk) (a : Al) (told : Int) (j : Jb) (input : Int) (x : It)
set_option maxRecDepth 10000 in
set_option maxHeartbeats 16000000 in
theorem y_goYes (gs : List Gp) (N : Nat) (hN : N = (gs.map Gp.av).length) (hx : gs.length ≤ 1000) (hp : ∀ g ∈ gs, g.ps.length ≤ 9223372036854775807) (hi : m.ins.length ≤ 9223372036854775807) (hh : m.hs.length ≤ 9223372036854775807) (hyes : (mkTell m).is = true) (hadv : ∀ g ∈ gs, (gpAdv j (mkTell m).t g).e = 0) :
    AC Tryz.prog 73 [.ref 0 0] [(0, .box 146 (wayC (.own 1 N) nilA m a told j input x)), (1, .row 98 3 (gs.map Gp.av))] (.v (.int .i64 0))
      [(0, .box 146 (wayC (.own 1 N) (.own 2 ((advT j (mkTell m).t gs).map It.av ++ [It.av (markItem (mkTell m).t)]).length) (mkTell m).m a (mkTell m).t j input x)), (1, .row 98 3 ((advM j (mkTell m).t gs).map Gp.av)), (2, .row 63 11 ((advT j (mkTell m).t gs).map It.av ++ [It.av (markItem (mkTell m).t)]))] := by
  have h := m_Tell m hi hh
  generalize mkTell m = T at *
  obtain ⟨tm, t, ti⟩ := T
  dsimp only at hyes hadv ⊢
  subst hyes
  simp only [MkT.av, Mk.av] at h
  have n1 : (gs.map Gp.av).length = gs.length := List.length_map _
  have hNI : (N : Int) = (gs.length : Int) := by rw [hN, n1]
  have hlenQ : ∀ q, N = ((advQ j t gs q).map Gp.av).length := fun q => by rw [List.length_map, advQ_len, hN, n1]
  have hR0 : (gs.map Gp.av) = (advQ j t gs 0).map Gp.av := by simp [advQ, advM]
  refine (ac_body tab_ok Tryz.func73 rfl (by kernel_rfl) rfl ?_); intro w0 M μ0; simp only [Tryz.ntmps73, List.length_cons, List.length_nil, Nat.reduceAdd, Nat.reduceSub, numb]
  unfold wayC
  repeat' (first | ((first | apply o_do | apply d_do | apply d_yes rfl rfl rfl); first | exact ls_nilCheck rfl rfl | exact lsc (h) | exact ls_len_own tab_ok rfl rfl hN rfl rfl | exact ls_alloc (k := 9) tab_zero rfl rfl rfl rfl | exact lsq) | refine a_seq ?_ | refine a_region ?_ | refine o_nil ?_ | refine a_block ?_ | refine a_ret ?_ | refine a_exit ?_ | refine a_skip ?_ | refine a_draw mixed ?_ | refine d_nil (by kernel_rfl) ?_ | refine o_yes rfl rfl rfl ?_ | refine o_no rfl rfl rfl (by decide) ?_ | refine o_no' rfl rfl rfl ?_ | refine a_condT rfl ?_ | refine a_condF rfl ?_ | refine d_no rfl rfl rfl (by decide) ?_ | refine d_no' rfl rfl rfl ?_ | (refine wq2 (fun hb => ?_) (fun hb => ?_) <;> (simp only [hb]; try simp only [hbs, ne_eq] at hb; try (exfalso; first | omega | exact hb trivial))) | fail)
  refine a_adoptB 0 28 2 63 11 rfl rfl rfl ?_
  refine a_loop (X := {q : Nat // q ≤ gs.length}) (fun y => ⟨[(0, .ref 0 0), (4, .v (.int .i64 t)), (34, .own 1 N), (35, .v (.int .i64 gs.length)), (36, .v (.int .i64 y.1))], [(0, .box 146 (wayC (.own 1 N) (.own 2 ((advT j t (gs.take y.1)).map It.av).length) tm a told j input x)), (1, .row 98 3 ((advQ j t gs y.1).map Gp.av)), (2, .row 63 11 ((advT j t (gs.take y.1)).map It.av))]⟩) (fun y => gs.length - y.1) ⟨0, Nat.zero_le _⟩ ?_ ?_
  · refine ⟨by repeat' (first | exact trivial | exact FinA.one (FinB.cell (FinC.same rfl)) | exact FinA.one (FinB.cell FinC.nil) | exact FinA.bound rfl | exact FinA.one (FinB.cell (FinC.own rfl rfl rfl rfl)) | exact FinA.one (FinB.cell (FinC.v (by first | rfl | ((first | (rw [hNI]; done) | (simp only [hR0]; done) | simp [advT]))))) | exact FinA.one (FinB.cell (FinC.ow rfl (by first | rfl | ((first | (rw [hNI]; done) | (simp only [hR0]; done) | simp [advT]))))) | exact FinA.one (FinB.agg' rfl rfl) | refine ⟨⟨_, rfl, ?_⟩, ?_⟩), by repeat' (first | exact trivial | refine ⟨⟨_, rfl, by first | rfl | ((first | (rw [hNI]; done) | (simp only [hR0]; done) | simp [advT]); done) | (simp [renO, *]; done)⟩, by first | rfl | assumption, ?_⟩), rfl⟩
  rintro ⟨q, hq⟩
  dsimp only
  have hlenq := hlenQ q
  by_cases hlt : q < gs.length
  · have hel : ((advQ j t gs q).map Gp.av)[q]? = some (Gp.av gs[q]) := by rw [List.getElem?_map, advQ_at j t gs q hlt]; rfl
    have hqx : q < ((advQ j t gs q).map Gp.av).length := by rw [← hlenq]; omega
    have hsn := take_snoc gs q hlt
    have hT := advT_snoc j t (gs.take q) gs[q]
    rw [← hsn] at hT
    have hset := advQ_set j t gs q hlt
    have he := hadv _ (List.getElem_mem hlt)
    have ht := g_Advance j.g j.s j.d j.k j.fu j.li j.de j.id gs[q].no gs[q].mark gs[q].ps t (hp _ (List.getElem_mem hlt))
    have hl3 := advT_le j t (gs.take q)
    rw [List.length_take] at hl3
    have hrs := adv_rs j.s j.d j.k gs[q].no gs[q].mark gs[q].ps t
    generalize gs[q] = y at *
    obtain ⟨yn, ym, yp⟩ := y
    unfold gpAdv at hT hset he
    dsimp only at ht hT hrs hset he
    generalize adv j.s j.d j.k yn ym yp t = T at *
    obtain ⟨tn, tmk, tp, rs, te⟩ := T
    simp only [AdvR.av] at ht
    dsimp only [AdvR.gp] at hrs hT hset he
    subst he
    have hsetA : ((advQ j t gs q).map Gp.av).set q (Gp.av ⟨tn, tmk, tp⟩) = (advQ j t gs (q + 1)).map Gp.av := by rw [← hset, List.map_set]
    have hlenq1 := hlenQ (q + 1)
    repeat' (first | ((first | apply o_do | apply d_do | apply d_yes rfl rfl rfl); first | exact ls_nilCheck rfl rfl | exact ls_indexAddr_own tab_ok rfl rfl hlenq rfl rfl rfl hqx rfl | exact ls_load_eref tab_ok rfl rfl hlenq hel rfl rfl rfl rfl | exact ls_store_eref (cs' := Gp.av ⟨tn, tmk, tp⟩) tab_ok rfl rfl rfl hlenq hel rfl rfl (pureG ⟨tn, tmk, tp⟩) rfl rfl rfl rfl | exact lsc (ht) | exact lsq) | refine a_seq ?_ | refine a_region ?_ | refine o_nil ?_ | refine a_block ?_ | refine a_ret ?_ | refine a_exit ?_ | refine a_skip ?_ | refine a_draw mixed ?_ | refine d_nil (by kernel_rfl) ?_ | refine o_yes rfl rfl rfl ?_ | refine o_no rfl rfl rfl (by decide) ?_ | refine o_no' rfl rfl rfl ?_ | refine a_condT rfl ?_ | refine a_condF rfl ?_ | refine d_no rfl rfl rfl (by decide) ?_ | refine d_no' rfl rfl rfl ?_ | (refine wq2 (fun hb => ?_) (fun hb => ?_) <;> (simp only [hb]; try simp only [hbs, ne_eq] at hb; try (exfalso; first | omega | exact hb trivial))) | fail)
    refine a_loop (X := {p : Nat // p ≤ rs.length}) (fun y => ⟨[(0, .ref 0 0), (4, .v (.int .i64 t)), (34, .own 1 N), (35, .v (.int .i64 gs.length)), (36, .v (.int .i64 q)), (63, .sl 5 (rs.map Rs.av)), (64, .v (.int .i64 rs.length)), (65, .v (.int .i64 y.1))], [(0, .box 146 (wayC (.own 1 N) (.own 2 ((advT j t (gs.take q)).map It.av ++ ((rs.take y.1).map resItem).map It.av).length) tm a told j input x)), (1, .row 98 3 ((advQ j t gs (q + 1)).map Gp.av)), (2, .row 63 11 ((advT j t (gs.take q)).map It.av ++ ((rs.take y.1).map resItem).map It.av))]⟩) (fun y => rs.length - y.1) ⟨0, Nat.zero_le _⟩ ?_ ?_
    · refine ⟨by repeat' (first | exact trivial | exact FinA.one (FinB.cell (FinC.same rfl)) | exact FinA.one (FinB.cell FinC.nil) | exact FinA.bound rfl | exact FinA.one (FinB.cell (FinC.own rfl rfl rfl rfl)) | exact FinA.one (FinB.cell (FinC.v (by first | rfl | ((first | (simp only [hsetA]; done) | simp))))) | exact FinA.one (FinB.cell (FinC.ow rfl (by first | rfl | ((first | (simp only [hsetA]; done) | simp))))) | exact FinA.one (FinB.agg' rfl rfl) | refine ⟨⟨_, rfl, ?_⟩, ?_⟩), by repeat' (first | exact trivial | refine ⟨⟨_, rfl, by first | rfl | ((first | (simp only [hsetA]; done) | simp); done) | (simp [renO, *]; done)⟩, by first | rfl | assumption, ?_⟩), rfl⟩
    rintro ⟨p, hpp⟩
    dsimp only
    by_cases hpl : p < rs.length
    · have hel2 : (rs.map Rs.av)[p]? = some (Rs.av rs[p]) := by simp [hpl]
      have hsn2 := take_snoc rs p hpl
      have hl4 : ((advT j t (gs.take q)).map It.av ++ ((rs.take p).map resItem).map It.av).length ≤ 100000000 := by simp; omega
      generalize rs[p] = z at *
      have hty := y_tell N ((advQ j t gs (q + 1)).map Gp.av) tm a told j input x ((advT j t (gs.take q)).map It.av ++ ((rs.take p).map resItem).map It.av) (resItem z) hl4
      have e : (advT j t (gs.take q)).map It.av ++ ((rs.take (p + 1)).map resItem).map It.av = ((advT j t (gs.take q)).map It.av ++ ((rs.take p).map resItem).map It.av) ++ [It.av (resItem z)] := by rw [hsn2]; simp
      repeat' (first | ((first | apply o_do | apply d_do | apply d_yes rfl rfl rfl); first | exact ls_indexAddr_sl tab_ok rfl rfl rfl rfl hel2 rfl | exact ls_callA [0, 1, 2] 3 hty rfl rfl (by (repeat' (first | exact NilL.nil | refine NilL.cons Nil.same ?_ | refine NilL.cons Nil.nil ?_ | refine NilL.cons (Nil.agg ?_) ?_ | exact Nil1s.nil | refine Nil1s.cons Nil1.same ?_ | refine Nil1s.cons Nil1.nil ?_)); first | done | fail) rfl (by repeat' (first | exact trivial | refine ⟨⟨_, rfl, by first | rfl | (simp [renO, *]; done)⟩, ?_⟩)) (by first | rfl | simp [closO, *]) rfl rfl rfl rfl (by first | rfl | simp [closO, *]) rfl | exact lsq) | refine a_seq ?_ | refine a_region ?_ | refine o_nil ?_ | refine a_block ?_ | refine a_ret ?_ | refine a_exit ?_ | refine a_skip ?_ | refine a_draw mixed ?_ | refine d_nil (by kernel_rfl) ?_ | refine o_yes rfl rfl rfl ?_ | refine o_no rfl rfl rfl (by decide) ?_ | refine o_no' rfl rfl rfl ?_ | refine a_condT rfl ?_ | refine a_condF rfl ?_ | refine d_no rfl rfl rfl (by decide) ?_ | refine d_no' rfl rfl rfl ?_ | (refine wq2 (fun hb => ?_) (fun hb => ?_) <;> (simp only [hb]; try simp only [hbs, ne_eq] at hb; try (exfalso; first | omega | exact hb trivial))) | fail)
      refine ⟨⟨p + 1, by omega⟩, by dsimp only; omega, ?_⟩
      refine ⟨by repeat' (first | exact trivial | exact FinA.one (FinB.cell (FinC.same rfl)) | exact FinA.one (FinB.cell FinC.nil) | exact FinA.bound rfl | exact FinA.one (FinB.cell (FinC.own rfl rfl rfl rfl)) | exact FinA.one (FinB.cell (FinC.v (by first | rfl | ((first | (simp only [e]; done) | (simp only [e]; rfl) | simp))))) | exact FinA.one (FinB.cell (FinC.ow rfl (by first | rfl | ((first | (simp only [e]; done) | (simp only [e]; rfl) | simp))))) | exact FinA.one (FinB.agg' rfl rfl) | refine ⟨⟨_, rfl, ?_⟩, ?_⟩), by repeat' (first | exact trivial | refine ⟨⟨_, rfl, by first | rfl | ((first | (simp only [e]; done) | (simp only [e]; rfl) | simp); done) | (simp [renO, *]; done)⟩, by first | rfl | assumption, ?_⟩), rfl⟩
    · obtain rfl : p = rs.length := by omega
      rw [List.take_length]
      have eT : (advT j t (gs.take (q + 1))).map It.av = (advT j t (gs.take q)).map It.av ++ (rs.map resItem).map It.av := by rw [hT]; simp
      repeat' (first | ((first | apply o_do | apply d_do | apply d_yes rfl rfl rfl); exact lsq) | refine a_seq ?_ | refine a_region ?_ | refine o_nil ?_ | refine a_block ?_ | refine a_ret ?_ | refine a_exit ?_ | refine a_skip ?_ | refine a_draw mixed ?_ | refine d_nil (by kernel_rfl) ?_ | refine o_yes rfl rfl rfl ?_ | refine o_no rfl rfl rfl (by decide) ?_ | refine o_no' rfl rfl rfl ?_ | refine a_condT rfl ?_ | refine a_condF rfl ?_ | refine d_no rfl rfl rfl (by decide) ?_ | refine d_no' rfl rfl rfl ?_ | (refine wq2 (fun hb => ?_) (fun hb => ?_) <;> (simp only [hb]; try simp only [hbs, ne_eq] at hb; try (exfalso; first | omega | exact hb trivial))) | fail)
      refine ⟨⟨q + 1, by omega⟩, by dsimp only; omega, ?_⟩
      refine ⟨by repeat' (first | exact trivial | exact FinA.one (FinB.cell (FinC.same rfl)) | exact FinA.one (FinB.cell FinC.nil) | exact FinA.bound rfl | exact FinA.one (FinB.cell (FinC.own rfl rfl rfl rfl)) | exact FinA.one (FinB.cell (FinC.v (by first | rfl | ((first | (simp only [eT]; done) | (simp only [eT]; rfl) | simp))))) | exact FinA.one (FinB.cell (FinC.ow rfl (by first | rfl | ((first | (simp only [eT]; done) | (simp only [eT]; rfl) | simp))))) | exact FinA.one (FinB.agg' rfl rfl) | refine ⟨⟨_, rfl, ?_⟩, ?_⟩), by repeat' (first | exact trivial | refine ⟨⟨_, rfl, by first | rfl | ((first | (simp only [eT]; done) | (simp only [eT]; rfl) | simp); done) | (simp [renO, *]; done)⟩, by first | rfl | assumption, ?_⟩), rfl⟩
  · obtain rfl : q = gs.length := by omega
    rw [List.take_length]
    have hQ : (advQ j t gs gs.length).map Gp.av = (advM j t gs).map Gp.av := by simp [advQ]
    have hl3 := advT_le j t gs
    have hl4 : ((advT j t gs).map It.av).length ≤ 100000000 := by rw [List.length_map]; omega
    have hty := y_tell N ((advQ j t gs gs.length).map Gp.av) tm a t j input x ((advT j t gs).map It.av) (markItem t) hl4
    rw [hQ] at hty ⊢
    repeat' (first | ((first | apply o_do | apply d_do | apply d_yes rfl rfl rfl); first | exact ls_nilCheck rfl rfl | exact ls_callA [0, 1, 2] 3 hty rfl rfl (by (repeat' (first | exact NilL.nil | refine NilL.cons Nil.same ?_ | refine NilL.cons Nil.nil ?_ | refine NilL.cons (Nil.agg ?_) ?_ | exact Nil1s.nil | refine Nil1s.cons Nil1.same ?_ | refine Nil1s.cons Nil1.nil ?_)); first | done | fail) rfl (by repeat' (first | exact trivial | refine ⟨⟨_, rfl, by first | rfl | (simp [renO, *]; done)⟩, ?_⟩)) (by first | rfl | simp [closO, *]) rfl rfl rfl rfl (by first | rfl | simp [closO, *]) rfl | exact lsq) | refine a_seq ?_ | refine a_region ?_ | refine o_nil ?_ | refine a_block ?_ | refine a_ret ?_ | refine a_exit ?_ | refine a_skip ?_ | refine a_draw mixed ?_ | refine d_nil (by kernel_rfl) ?_ | refine o_yes rfl rfl rfl ?_ | refine o_no rfl rfl rfl (by decide) ?_ | refine o_no' rfl rfl rfl ?_ | refine a_condT rfl ?_ | refine a_condF rfl ?_ | refine d_no rfl rfl rfl (by decide) ?_ | refine d_no' rfl rfl rfl ?_ | (refine wq2 (fun hb => ?_) (fun hb => ?_) <;> (simp only [hb]; try simp only [hbs, ne_eq] at hb; try (exfalso; first | omega | exact hb trivial))) | fail)
    refine rq rfl ?_
    exact fnq
end
section
variable {s d t mark : Int}
end
theorem evR_okT {s d k : Int} {key : ByteArray} {t : Int} (h1 : jobR s d k = true) (h2 : evR key t = true) : okT s d t = true := by
  unfold jobR at h1
  unfold evR at h2
  unfold okT
  simp only [Bool.and_eq_true] at h1 h2 ⊢
  exact ⟨h1.1, h2.2⟩
section
variable (g s d k fu li de id no mark : Int) (ps : List Pn) (key : ByteArray) (at' v : Int)
end
theorem grR_iff {no mark : Int} {ps : List Pn} : grR no mark ps = true ↔ 0 ≤ no ∧ no < 32 ∧ 0 ≤ mark ∧ mark ≤ 1099511627776 ∧ rightL ps = true ∧ ∀ p ∈ ps, mark < p.hi := by
  simp [grR]
theorem dueB_dueB (ps : List Pn) {m1 m2 : Int} (h : m1 ≤ m2) : dueB (dueB ps m1) m2 = dueB ps m2 := by
  unfold dueB
  rw [List.filter_filter]
  congr 1
  funext p
  by_cases h1 : p.hi ≤ m2
  · simp [h1]
  · have : ¬ p.hi ≤ m1 := by omega
    simp [h1, this]
theorem dueA_none {ps : List Pn} {m : Int} (h : ∀ p ∈ ps, ¬ p.hi ≤ m) : dueA ps m = [] := by
  unfold dueA
  rw [List.filter_eq_nil_iff]
  intro p hp
  simp [h p hp]
theorem dueB_all {ps : List Pn} {m : Int} (h : ∀ p ∈ ps, ¬ p.hi ≤ m) : dueB ps m = ps := by
  unfold dueB
  rw [List.filter_eq_self]
  intro p hp
  simp [h p hp]
theorem dueA_steps {m1 m2 : Int} (h : m1 ≤ m2) : ∀ (ps : List Pn), ps.Pairwise (fun p q => ahead p q = true) → dueA ps m1 ++ dueA (dueB ps m1) m2 = dueA ps m2 := by
  intro ps
  induction ps with
  | nil => intro _; rfl
  | cons p l ih =>
    intro hp
    rw [List.pairwise_cons] at hp
    by_cases h1 : p.hi ≤ m1
    · have h2 : p.hi ≤ m2 := by omega
      have := ih hp.2
      unfold dueA dueB at this ⊢
      simp only [List.filter_cons, h1, h2, decide_true, if_true, Bool.not_true, Bool.false_eq_true, if_false, List.cons_append, this]
    · have hall : ∀ q ∈ p :: l, ¬ q.hi ≤ m1 := by
        intro q hq
        rcases List.mem_cons.1 hq with rfl | hq
        · exact h1
        · have := ahead_hi (hp.1 q hq); omega
      rw [dueA_none hall, dueB_all hall, List.nil_append]
theorem resultsL_app {k : Int} {a b c : List Pn} (ha : rightL a = true) (hb : rightL b = true) (hc : rightL c = true) (h : a ++ b = c) : resultsL k a ++ resultsL k b = resultsL k c := by
  subst h
  unfold resultsL
  rw [ha, hb, hc]
  cases fRight k <;> simp
theorem dueA_sub (ps : List Pn) (m : Int) : (dueA ps m).Sublist ps := List.filter_sublist
theorem dueB_sub (ps : List Pn) (m : Int) : (dueB ps m).Sublist ps := List.filter_sublist
theorem resultsL_nil (k : Int) : resultsL k [] = [] := by unfold resultsL; split <;> rfl
def oneE (k : Int) (e : Et) (w : Wn) : Pn := oneP k w.lo w.hi e.key e.v
def evVals (s d k mark : Int) (e : Et) : List Pn := (openL s d e.at' mark).map (oneE k e)
/-- events taken, one behind the other; false: one can't be -/
def allE (s d k no mark : Int) : List Pn → List Et → List Pn × Bool
  | ps, [] => (ps, true)
  | ps, e :: es => if (takeR s d k no mark ps e.key e.at' e.v).e = 0 then allE s d k no mark (takeR s d k no mark ps e.key e.at' e.v).ps es else (ps, false)
section
variable {s d k no mark : Int}
theorem takeR_form (s d k no mark : Int) (ps : List Pn) (key : ByteArray) (at' v : Int) : (∃ l n, takeR s d k no mark ps key at' v = ⟨no, mark, l, n, 0⟩) ∨ (∃ e, takeR s d k no mark ps key at' v = ⟨0, 0, [], 0, e⟩ ∧ e ≠ 0) := by
  unfold takeR
  split
  · exact .inr ⟨130, rfl, by omega⟩
  · split
    · exact .inr ⟨1, rfl, by omega⟩
    · split
      · exact .inl ⟨_, _, rfl⟩
      · rename_i h; exact .inr ⟨_, rfl, h⟩
theorem vals_may (hj : jobR s d k = true) {e : Et} (he : evR e.key e.at' = true) : ∀ p ∈ evVals s d k mark e, mayB p = true ∧ p.n = 1 ∧ mark < p.hi := by
  have hok := evR_okT hj he
  have hk : fRight k = true := by unfold jobR at hj; simp only [Bool.and_eq_true] at hj; exact hj.2
  intro p hp
  obtain ⟨w, hw, rfl⟩ := List.mem_map.1 hp
  have hw' := List.mem_filter.1 hw
  obtain ⟨a1, a2, a3⟩ := win_may hok hw'.1
  have h2 : mark < w.hi := by
    have := hw'.2
    simp [closedW] at this
    omega
  have hn : (fOne k e.v).n = 1 := fOne_n hk
  have hkey : keyB e.key = true := by unfold evR at he; simp only [Bool.and_eq_true] at he; exact he.1
  refine ⟨?_, hn, h2⟩
  simp [mayB, oneE, oneP, hkey, hn, a1, a2, a3]
theorem fold_keeps (hk : fRight k = true) {vs : List Pn} : ∀ {ps r : List Pn}, grR no mark ps = true → (∀ p ∈ vs, mayB p = true ∧ p.n = 1 ∧ mark < p.hi) → vs.foldlM (putL k) ps = some r → grR no mark r = true := by
  induction vs with
  | nil => intro ps r hg _ h; simp at h; subst h; exact hg
  | cons x vs ih =>
    intro ps r hg hm h
    rw [List.foldlM_cons] at h
    cases hp : putL k ps x with
    | none => rw [hp] at h; cases h
    | some l =>
      rw [hp] at h
      refine ih ?_ (fun p hq => hm p (List.mem_cons_of_mem _ hq)) h
      obtain ⟨h1, h2, h3, h4, h5, h6⟩ := grR_iff.1 hg
      obtain ⟨m1, m2, m3⟩ := hm x List.mem_cons_self
      refine grR_iff.2 ⟨h1, h2, h3, h4, putL_right hp h5 m1, fun q hq => ?_⟩
      rw [putL_ins hp] at hq
      rcases ins_mem q hq with a | a | ⟨p, a, b, _⟩
      · exact h6 q a
      · rw [a]; exact m3
      · rw [b]; exact h6 p a
theorem allE_char (hj : jobR s d k = true) {es : List Et} : ∀ {ps r : List Pn}, grR no mark ps = true → (allE s d k no mark ps es = (r, true) ↔ (∀ e ∈ es, evR e.key e.at' = true) ∧ (es.flatMap (evVals s d k mark)).foldlM (putL k) ps = some r) := by
  have hk : fRight k = true := by unfold jobR at hj; simp only [Bool.and_eq_true] at hj; exact hj.2
  induction es with
  | nil => intro ps r _; simp [allE]
  | cons e es ih =>
    intro ps r hg
    rw [List.flatMap_cons, List.foldlM_append]
    cases he : evR e.key e.at'
    · have : takeR s d k no mark ps e.key e.at' e.v = ⟨0, 0, [], 0, 1⟩ := by simp [takeR, hj, he]
      rw [allE, this]
      simp [he]
    · have hv := vals_may (mark := mark) hj he
      have hr := (grR_iff.1 hg).2.2.2.2.1
      have hw := takeW_fold hk (key := e.key) (v := e.v) (ws := openL s d e.at' mark) hr (fun w hw => (hv (oneE k e w) (List.mem_map_of_mem hw)).1)
      have hvv : ((openL s d e.at' mark).map fun w => oneP k w.lo w.hi e.key e.v) = evVals s d k mark e := rfl
      rw [hvv] at hw
      cases hf : (evVals s d k mark e).foldlM (putL k) ps with
      | none =>
        rw [hf] at hw
        have : takeR s d k no mark ps e.key e.at' e.v = ⟨0, 0, [], 0, 3⟩ := by simp [takeR, hj, he, hg, hw]
        rw [allE, this]
        simp
      | some l =>
        rw [hf] at hw
        have ht : takeR s d k no mark ps e.key e.at' e.v = ⟨no, mark, l, (openL s d e.at' mark).length, 0⟩ := by simp [takeR, hj, he, hg, hw]
        rw [allE, ht]
        simp only [if_true, Option.bind_eq_bind, Option.bind_some]
        rw [ih (fold_keeps hk hg hv hf)]
        simp [he]
end
section
variable (g s d k fu li de id no mark : Int)
end
theorem gsR_at {gs : List Gp} (h : gsR gs = true) (i : Nat) (hi : i < gs.length) : grR gs[i].no gs[i].mark gs[i].ps = true := by
  have := List.all_eq_true.1 h i (List.mem_range.2 hi)
  simp only [gpG, getD_at hi, Bool.and_eq_true] at this
  exact this.1
theorem gsR_lt {gs : List Gp} (h : gsR gs = true) : ∀ (d i : Nat) (hi : i + d + 1 < gs.length), gs[i].no < gs[i + d + 1].no
  | 0, i, hi => by
    have := List.all_eq_true.1 h (i + 1) (List.mem_range.2 hi)
    simp only [gpG, getD_at hi, Bool.and_eq_true, Bool.or_eq_true, decide_eq_true_eq, Nat.add_sub_cancel] at this
    rcases this.2 with h1 | h1
    · omega
    · have e : gs.getD i ⟨0, 0, []⟩ = gs[i] := getD_at (by omega)
      rw [e] at h1
      exact h1
  | d + 1, i, hi => by
    have h1 := gsR_lt h d i (by omega)
    have h2 := gsR_lt h 0 (i + d + 1) (by omega)
    simp only [Nat.add_zero] at h2
    exact Int.lt_trans h1 h2
theorem gsR_ne {gs : List Gp} (h : gsR gs = true) {p q : Nat} (hp : p < gs.length) (hq : q < gs.length) (hne : p ≠ q) : gs[p].no ≠ gs[q].no := by
  rcases Nat.lt_or_gt_of_ne hne with hl | hl
  · have := gsR_lt h (q - p - 1) p (by omega)
    have e : p + (q - p - 1) + 1 = q := by omega
    simp only [e] at this
    omega
  · have := gsR_lt h (p - q - 1) q (by omega)
    have e : q + (p - q - 1) + 1 = p := by omega
    simp only [e] at this
    omega
theorem put_none {j : Jb} {no : Int} {x : It} {gs : List Gp} (h : ∀ g ∈ gs, ¬ g.no = no) : putM j no x gs = gs ∧ putB j no x gs = 160 := by
  constructor
  · unfold putM
    conv => rhs; rw [← List.map_id gs]
    exact List.map_congr_left fun g hg => by rw [if_neg (h g hg)]; rfl
  · unfold putB
    have : ∀ (l : List Gp) (b : Int), (∀ g ∈ l, ¬ g.no = no) → l.foldl (fun b g => if g.no = no then (gpTake j x g).e else b) b = b := by
      intro l
      induction l with
      | nil => intro b _; rfl
      | cons g l ih =>
        intro b hl
        simp only [List.foldl_cons]
        rw [if_neg (hl g (by simp))]
        exact ih b fun g hg => hl g (by simp [hg])
    exact this gs 160 h
theorem put_at {j : Jb} {no : Int} {x : It} {gs : List Gp} (hR : gsR gs = true) {q : Nat} (hq : q < gs.length) (hno : gs[q].no = no) : putM j no x gs = gs.set q (gpTake j x gs[q]).gp ∧ putB j no x gs = (gpTake j x gs[q]).e := by
  have hother : ∀ p (hp : p < gs.length), p ≠ q → ¬ gs[p].no = no := fun p hp hne h => gsR_ne hR hp hq hne (h.trans hno.symm)
  constructor
  · apply List.ext_getElem
    · simp [putM]
    · intro p h1 h2
      have hp : p < gs.length := by simpa [putM] using h1
      rw [List.getElem_set]
      simp only [putM, List.getElem_map]
      by_cases e : q = p
      · subst e; rw [if_pos hno, if_pos rfl]
      · rw [if_neg (hother p hp (Ne.symm e)), if_neg e]
  · have e1 : gs = gs.take q ++ gs[q] :: gs.drop (q + 1) := by rw [← List.drop_eq_getElem_cons hq, List.take_append_drop]
    have h1 : ∀ g ∈ gs.drop (q + 1), ¬ g.no = no := by
      intro g hg
      obtain ⟨i, hi, rfl⟩ := List.getElem_of_mem hg
      rw [List.getElem_drop]
      rw [List.length_drop] at hi
      exact hother _ (by omega) (by omega)
    have h2 : ∀ (l : List Gp) (b : Int), (∀ g ∈ l, ¬ g.no = no) → l.foldl (fun b g => if g.no = no then (gpTake j x g).e else b) b = b := by
      intro l
      induction l with
      | nil => intro b _; rfl
      | cons g l ih =>
        intro b hl
        simp only [List.foldl_cons]
        rw [if_neg (hl g (by simp))]
        exact ih b fun g hg => hl g (by simp [hg])
    unfold putB
    have e2 : gs.foldl (fun b g => if g.no = no then (gpTake j x g).e else b) 160 = (gs.take q ++ gs[q] :: gs.drop (q + 1)).foldl (fun b g => if g.no = no then (gpTake j x g).e else b) 160 := congrArg (fun l => List.foldl (fun b g => if g.no = no then (gpTake j x g).e else b) 160 l) e1
    rw [e2, List.foldl_append, List.foldl_cons, h2 _ _ h1, if_pos hno]
/-- what is taken leaves a group that may be -/
theorem take_grR {s d k no mark : Int} {ps : List Pn} {key : ByteArray} {at' v : Int} (hj : jobR s d k = true) (hg : grR no mark ps = true) (he : (takeR s d k no mark ps key at' v).e = 0) : grR no mark (takeR s d k no mark ps key at' v).ps = true ∧ (takeR s d k no mark ps key at' v).no = no ∧ (takeR s d k no mark ps key at' v).mark = mark := by
  rcases takeR_form s d k no mark ps key at' v with ⟨l, n, h⟩ | ⟨e, h, hne⟩
  · rw [h]
    have hall : allE s d k no mark ps [⟨key, at', v⟩] = (l, true) := by
      simp only [allE, h]
      simp [allE]
    obtain ⟨h1, h2⟩ := (allE_char hj hg).1 hall
    have hk : fRight k = true := by simp only [jobR, Bool.and_eq_true] at hj; exact hj.2
    refine ⟨fold_keeps hk hg ?_ h2, rfl, rfl⟩
    intro p hp
    obtain ⟨e, he, hp⟩ := List.mem_flatMap.1 hp
    exact vals_may hj (h1 e he) p hp
  · rw [h] at he
    exact absurd he hne
theorem adv_ok {s d k no mark : Int} {ps : List Pn} {t : Int} (hj : jobR s d k = true) (hg : grR no mark ps = true) : (adv s d k no mark ps t).e = 0 := by
  unfold adv
  rw [if_neg (by rw [hj]; simp), if_neg (by rw [hg]; simp)]
  split <;> rfl
/-- what is known of an offer that is taken -/
theorem offer_ok {a : Al} {i : Int} {x : It} (hx : itR x = true) (he : (alOffer a i x).e = 0) : alHas a i = true ∧ ((alOffer a i x).pass = true → (alOffer a i x).done = 0 ∧ x.kind ≠ 4) ∧ (¬ 0 < (alOffer a i x).done → (alOffer a i x).late = []) := by
  have h4 : x.kind = 4 → 0 < x.n := by
    intro h
    obtain ⟨kind, k, av, v, m, n, lo, hi, rk, rn, rv⟩ := x
    dsimp only at h ⊢
    subst h
    simp only [itR, Bool.and_eq_true, decide_eq_true_eq] at hx
    simp at hx
    omega
  unfold alOffer at he ⊢
  split at he
  · simp at he
  · rename_i hc
    rw [if_neg hc]
    have hh : alHas a i = true := by
      cases h : alHas a i
      · rw [h] at hc; simp at hc
      · rfl
    refine ⟨hh, ?_⟩
    split
    · split
      · exact ⟨fun h => by simp at h, fun _ => rfl⟩
      · exact ⟨fun h => by simp at h, fun _ => rfl⟩
    · split
      · rename_i hk; exact ⟨fun _ => ⟨rfl, hk⟩, fun _ => rfl⟩
      · rename_i hk
        split
        · exact ⟨fun h => by simp at h, fun _ => rfl⟩
        · split
          · exact ⟨fun h => by simp at h, fun _ => rfl⟩
          · refine ⟨fun h => by simp at h, fun h => absurd (h4 (by simpa using hk)) h⟩
end Go.Proofs.YtilgagmfcdfjaaaGreat
