/-
  An event put into its windows by the model, walked over abstract values.
    What must come out of a job and inputs by the model, walked over abstract values.
    The laws of the model: is it alive; few inputs.
  Walks over abstract values: maps of one's own. Over whatever program. No condition.
  Walks over abstract values: a range over a map of one's own, in whatever order. Over whatever program. No condition.
  Walks over abstract values: maps whose blocks are known, a map of maps. Over whatever program. No condition.
-/
import Derived.DeepKeys3
import Derived.StringKeys
import Derived.Maps.Range
import Derived.Test.YtlgbadlgfdlheaaR3
import Derived.Test.YtlgbadlgfdlheaaR4
import Derived.Test.YtlgbadlgfdlheaaR9
import Derived.Test.YtlgbadlgfdlheaaR10
set_option linter.unusedSimpArgs false
set_option linter.unusedVariables false
set_option maxHeartbeats 20000000
namespace Go.Proofs.Ytlgbadlgfdlheaa
open Go.RowKit
theorem pc_of_own {P : Program} {f : FuncId} {args : List AV} {e size : Nat} {xs : List (List AV)} (h : AC P f args [] (.own 0 xs.length) [(0, .row e size xs)]) : PC P f args (.sl size xs) := by
 refine ⟨h.ok, fun w M μ vs hs hr => (h.out w M μ vs hs hr).mono ?_⟩
 rintro r w' ⟨y, μ', rfl, h1, h2, h3⟩
 have hk : Kept [((0 : Nat), SObj.row e size xs)] [] [] := trivial
 refine ⟨y, μ', rfl, hk.srel h1, finA_rep h1 hk (FinA.one (FinB.cell ?_)) h2, hk.gro h3 (fun id o hf => by simp [find] at hf)⟩
 exact FinC.own rfl rfl rfl rfl
theorem p_OfS (size slide t : Int) : PC Try.prog 16 [.v (.int .i64 size), .v (.int .i64 slide), .v (.int .i64 t)] (.sl 2 ((winL size slide t).map Wn.av)) := pc_of_own (p_Of size slide t)
def gW (k : Int) (key : ByteArray) (v : Int) : List Pn → List Wn → List Pn × Int
 | ps, [] => (ps, 0)
 | ps, w :: ws => if (addR k ps (oneP k w.lo w.hi key v)).2 = 0 then gW k key v (addR k ps (oneP k w.lo w.hi key v)).1 ws else (ps, (addR k ps (oneP k w.lo w.hi key v)).2)
theorem gW_take {k : Int} {key : ByteArray} {v : Int} : ∀ {ws : List Wn} {ps : List Pn}, (gW k key v ps ws).2 = (takeW k key v ps ws).2 ∧ ((takeW k key v ps ws).2 = 0 → (gW k key v ps ws).1 = (takeW k key v ps ws).1)
 | [], ps => ⟨rfl, fun _ => rfl⟩
 | w :: ws, ps => by
  unfold gW takeW
  split
  ·exact gW_take
  ·exact ⟨rfl, fun h => by simp_all⟩
section
variable (g s d k fu li de id : Int) (ps : List Pn) (key : ByteArray) (at' v : Int)
theorem gW_bad {k : Int} {key : ByteArray} {v : Int} {ps : List Pn} {ws : List Wn} {q : Nat} (hq : q < ws.length) {e : Int} (h : addR k ps (oneP k ws[q].lo ws[q].hi key v) = ([], e)) (he : e ≠ 0) : gW k key v ps (ws.drop q) = (ps, e) := by
 rw [List.drop_eq_getElem_cons hq, gW, h]
 simp [he]
theorem gW_ok {k : Int} {key : ByteArray} {v : Int} {ps ps' : List Pn} {ws : List Wn} {q : Nat} (hq : q < ws.length) (h : addR k ps (oneP k ws[q].lo ws[q].hi key v) = (ps', 0)) : gW k key v ps (ws.drop q) = gW k key v ps' (ws.drop (q + 1)) := by
 rw [List.drop_eq_getElem_cons hq, gW, h]
 simp
def gthAv (g s d k fu li de id : Int) (ps : List Pn) (bad : Int) : List AV := [.v (.int .i64 g), .v (.int .i64 s), .v (.int .i64 d), .v (.int .i64 k), .v (.int .i64 fu), .v (.int .i64 li), .v (.int .i64 de), .v (.int .i64 id), .sl 6 (ps.map Pn.av), .v (.int .i64 bad)]
set_option maxRecDepth 20000 in
theorem m_take (hx : ps.length ≤ 9223372036854775807) :
  AC Try.prog 10 [.ref 0 0, .agg [.v (.string key), .v (.int .i64 at'), .v (.int .i64 v)]] [(0, .box 43 (gthAv g s d k fu li de id ps 0))] (.v (.bool (decide ((gW k key v ps (winL s d at')).2 = 0)))) [(0, .box 43 (gthAv g s d k fu li de id (gW k key v ps (winL s d at')).1 (gW k key v ps (winL s d at')).2))] := by
 have ho := p_OfS s d at'
 have hol := winL_len s d at'
 generalize winL s d at' = ws at *
 refine (ac_body tab_ok Try.func10 rfl (by kernel_rfl) rfl ?_); intro w0 M μ0; simp only [Try.ntmps10, List.length_cons, List.length_nil, Nat.reduceAdd, Nat.reduceSub, numb]
 repeat' (first | ((first | apply o_do | apply d_do | apply d_yes rfl rfl rfl); first | exact lsc (ho) | exact ls_nilCheck rfl rfl | exact lsq) | refine a_seq ?_ | refine a_region ?_ | refine o_nil ?_ | refine a_block ?_ | refine a_ret ?_ | refine a_exit ?_ | refine a_skip ?_ | refine a_draw mixed ?_ | refine d_nil (by kernel_rfl) ?_ | refine o_yes rfl rfl rfl ?_ | refine o_no rfl rfl rfl (by decide) ?_ | refine o_no' rfl rfl rfl ?_ | refine a_condT rfl ?_ | refine a_condF rfl ?_ | refine d_no rfl rfl rfl (by decide) ?_ | refine d_no' rfl rfl rfl ?_ | (refine wq2 (fun hb => ?_) (fun hb => ?_) <;> (simp only [hb]; try simp only [hbs, ne_eq] at hb; try (exfalso; first | omega | exact hb trivial))) | fail)
 refine a_loop (X := {x : Nat × List Pn // x.1 ≤ ws.length ∧ gW k key v ps ws = gW k key v x.2 (ws.drop x.1) ∧ x.2.length ≤ 9223372036854775807}) (fun x => ⟨[(0, .ref 0 0), (3, .ref 1 0), (21, .sl 2 (ws.map Wn.av)), (22, .v (.int .i64 ws.length)), (23, .v (.int .i64 x.1.1))], [(0, .box 43 (gthAv g s d k fu li de id x.1.2 0)), (1, .box 49 [.v (.string key), .v (.int .i64 at'), .v (.int .i64 v)])]⟩) (fun x => ws.length - x.1.1) ⟨(0, ps), Nat.zero_le _, rfl, hx⟩ ?_ ?_
 ·exact wkS
 rintro ⟨⟨q, cur⟩, hq, htk, hc⟩
 dsimp only at hq htk hc ⊢
 rw [htk]
 by_cases hlt : q < ws.length
 ·have hel : (ws.map Wn.av)[q]? = some (Wn.av ws[q]) := by simp [hlt]
  have hA := p_Add cur k key ws[q].lo ws[q].hi v hc
  rcases addR_form k cur (oneP k ws[q].lo ws[q].hi key v) with ⟨l, hl, hll⟩ | ⟨e, hl, hne⟩
  ·have ht := gW_ok hlt hl
   rw [hl] at hA
   dsimp only [PR.av] at hA
   rw [ht]
   generalize ws[q] = w at *
   repeat' (first | ((first | apply o_do | apply d_do | apply d_yes rfl rfl rfl); first | exact lsc (hA) | exact ls_nilCheck rfl rfl | exact ls_indexAddr_sl tab_ok rfl rfl rfl rfl hel rfl | exact lsq) | refine a_seq ?_ | refine a_region ?_ | refine o_nil ?_ | refine a_block ?_ | refine a_ret ?_ | refine a_exit ?_ | refine a_skip ?_ | refine a_draw mixed ?_ | refine d_nil (by kernel_rfl) ?_ | refine o_yes rfl rfl rfl ?_ | refine o_no rfl rfl rfl (by decide) ?_ | refine o_no' rfl rfl rfl ?_ | refine a_condT rfl ?_ | refine a_condF rfl ?_ | refine d_no rfl rfl rfl (by decide) ?_ | refine d_no' rfl rfl rfl ?_ | (refine wq2 (fun hb => ?_) (fun hb => ?_) <;> (simp only [hb]; try simp only [hbs, ne_eq] at hb; try (exfalso; first | omega | exact hb trivial))) | fail)
   refine ⟨⟨(q + 1, l), by dsimp only; omega, rfl, by dsimp only; omega⟩, by dsimp only; omega, ?_⟩
   exact wkS
  ·have ht := gW_bad hlt hl hne
   rw [hl] at hA
   dsimp only [PR.av] at hA
   rw [ht]
   simp only [if_neg hne]
   generalize ws[q] = w at *
   repeat' (first | ((first | apply o_do | apply d_do | apply d_yes rfl rfl rfl); first | exact lsc (hA) | exact ls_nilCheck rfl rfl | exact ls_indexAddr_sl tab_ok rfl rfl rfl rfl hel rfl | exact lsq) | refine a_seq ?_ | refine a_region ?_ | refine o_nil ?_ | refine a_block ?_ | refine a_ret ?_ | refine a_exit ?_ | refine a_skip ?_ | refine a_draw mixed ?_ | refine d_nil (by kernel_rfl) ?_ | refine o_yes rfl rfl rfl ?_ | refine o_no rfl rfl rfl (by decide) ?_ | refine o_no' rfl rfl rfl ?_ | refine a_condT rfl ?_ | refine a_condF rfl ?_ | refine d_no rfl rfl rfl (by decide) ?_ | refine d_no' rfl rfl rfl ?_ | (refine wq2 (fun hb => ?_) (fun hb => ?_) <;> (simp only [hb]; try simp only [hbs, ne_eq] at hb; try (exfalso; first | omega | exact hb trivial))) | fail)
   all_goals refine rq rfl ?_
   all_goals (first | refine FinA.tup ?_ | refine FinA.one ?_); repeat' (first | exact FinBs.nil | exact FinCs.nil | refine FinBs.cons ?_ ?_ | refine FinCs.cons ?_ ?_ | refine FinB.cell (FinC.v ?_) | refine FinB.cell (FinC.own rfl rfl rfl ?_) | exact FinB.cell FinC.nil | refine FinB.cell (FinC.sl ?_) | exact FinB.agg' rfl rfl | exact FinB.cell (FinC.same rfl) | refine FinB.agg ?_ | refine FinC.v ?_ | refine FinC.own rfl rfl rfl ?_ | exact FinC.nil | refine FinC.sl ?_ | exact FinC.same rfl); all_goals try rfl
   all_goals simp [hne]
 ·obtain rfl : q = ws.length := by omega
  rw [List.drop_length]
  simp only [gW, if_true]
  repeat' (first | ((first | apply o_do | apply d_do | apply d_yes rfl rfl rfl); exact lsq) | refine a_seq ?_ | refine a_region ?_ | refine o_nil ?_ | refine a_block ?_ | refine a_ret ?_ | refine a_exit ?_ | refine a_skip ?_ | refine a_draw mixed ?_ | refine d_nil (by kernel_rfl) ?_ | refine o_yes rfl rfl rfl ?_ | refine o_no rfl rfl rfl (by decide) ?_ | refine o_no' rfl rfl rfl ?_ | refine a_condT rfl ?_ | refine a_condF rfl ?_ | refine d_no rfl rfl rfl (by decide) ?_ | refine d_no' rfl rfl rfl ?_ | (refine wq2 (fun hb => ?_) (fun hb => ?_) <;> (simp only [hb]; try simp only [hbs, ne_eq] at hb; try (exfalso; first | omega | exact hb trivial))) | fail)
  all_goals refine rq rfl ?_
  all_goals (first | refine FinA.tup ?_ | refine FinA.one ?_); repeat' (first | exact FinBs.nil | exact FinCs.nil | refine FinBs.cons ?_ ?_ | refine FinCs.cons ?_ ?_ | refine FinB.cell (FinC.v ?_) | refine FinB.cell (FinC.own rfl rfl rfl ?_) | exact FinB.cell FinC.nil | refine FinB.cell (FinC.sl ?_) | exact FinB.agg' rfl rfl | exact FinB.cell (FinC.same rfl) | refine FinB.agg ?_ | refine FinC.v ?_ | refine FinC.own rfl rfl rfl ?_ | exact FinC.nil | refine FinC.sl ?_ | exact FinC.same rfl); all_goals try rfl
  all_goals simp
end
end Go.Proofs.Ytlgbadlgfdlheaa
namespace Go.Proofs.Ytlgbadlgfdlheaa
open Go.RowKit
theorem a_swap {P : Program} {Γ : Ctx} {Q : Exit → ASt → Prop} {s : ASt} {c : Code} (b : Nat) {bt : TypeId} {cs : List AV} (cs' : List AV) (hb : find s.σ b = some (.box bt cs)) (hl : cs'.length = cs.length) (hc : ∀ σ μ w A us, repC σ μ w A cs us → repC σ μ w A cs' us)
  (h : AWP P Γ c Q ⟨s.regs, upd s.σ b (.box bt cs')⟩) : AWP P Γ c Q s := ⟨fun μ a w hr => h.out μ a w (Rel.swap (regs := s.regs) hr hb hl (fun us => hc _ _ _ _ us))⟩
theorem allK_len {li fu de : Int} : ∀ {ls : List (List Et)}, (∀ es ∈ ls, es.length ≤ 200) → (allK li fu de ls).length ≤ 200 * ls.length
 | [], _ => by simp [allK]
 | es :: ls, h => by
  have h1 := allK_len (li := li) (fu := fu) (de := de) (ls := ls) fun x hx => h x (by simp [hx])
  have h2 := h es (by simp)
  have h3 := keptE_len (li := li) (fu := fu) (de := de) (es := es) (m := 0)
  unfold allK at *
  rw [List.flatMap_cons, List.length_append, List.length_cons]
  omega
theorem allK_ok {li fu de : Int} {ls : List (List Et)} (h : ∀ es ∈ ls, ∀ e ∈ es, evR e.key e.at' = true) : ∀ e ∈ allK li fu de ls, evR e.key e.at' = true := by
 intro e he
 obtain ⟨es, h1, h2⟩ := List.mem_flatMap.1 he
 exact keptE_ok (h es h1) e h2
def runN (g s d k fu li de id : Int) (ls : List (List Et)) : List Rs × Int := if checkN g s d k fu li de id ls = 0 then outR k (allVals s d (allK li fu de ls)) else ([], checkN g s d k fu li de id ls)
def RR.av (r : List Rs × Int) : AV := .tup [.sl 5 (r.1.map Rs.av), .v (.int .i64 r.2)]
section
variable (g s d k fu li de id : Int) (ls : List (List Et))
set_option maxRecDepth 20000 in
theorem m_Run (hx : Small ls) (hls : ∀ es ∈ ls, ∀ e ∈ es, -9223372036854775808 ≤ e.v ∧ e.v ≤ 9223372036854775807) (hli : li ≤ 9223372036854775807) :
  PC Try.prog 5 [.agg [.v (.int .i64 g), .v (.int .i64 s), .v (.int .i64 d), .v (.int .i64 k), .v (.int .i64 fu), .v (.int .i64 li), .v (.int .i64 de), .v (.int .i64 id)], .sl 1 (ls.map inAv)] (RR.av (runN g s d k fu li de id ls)) := by
 have hc := m_check g s d k fu li de id ls hx
 unfold runN
 by_cases h0 : checkN g s d k fu li de id ls = 0
 ·obtain ⟨hfr, hw, hl4, hes⟩ := check_parts h0
  rw [h0] at hc
  simp only [h0, if_true]
  have hseq := seq_all g s d k fu li de id ls (fun es he => ⟨hls es he, by have := (hes es he).1; omega⟩) hli (by omega)
  have hKl := allK_len (li := li) (fu := fu) (de := de) (ls := ls) fun es he => (hes es he).1
  have hKo := allK_ok (li := li) (fu := fu) (de := de) (ls := ls) fun es he => (hes es he).2
  generalize allK li fu de ls = K at *
  refine PC.mk (ac_body tab_ok Try.func5 rfl (by kernel_rfl) rfl ?_); intro w0 M μ0; simp only [Try.ntmps5, List.length_cons, List.length_nil, Nat.reduceAdd, Nat.reduceSub, numb]
  repeat' (first | ((first | apply o_do | apply d_do | apply d_yes rfl rfl rfl); first | exact lsc (hc) | exact lsq) | refine a_seq ?_ | refine a_region ?_ | refine o_nil ?_ | refine a_block ?_ | refine a_ret ?_ | refine a_exit ?_ | refine a_skip ?_ | refine a_draw mixed ?_ | refine d_nil (by kernel_rfl) ?_ | refine o_yes rfl rfl rfl ?_ | refine o_no rfl rfl rfl (by decide) ?_ | refine o_no' rfl rfl rfl ?_ | refine a_condT rfl ?_ | refine a_condF rfl ?_ | refine d_no rfl rfl rfl (by decide) ?_ | refine d_no' rfl rfl rfl ?_ | (refine wq2 (fun hb => ?_) (fun hb => ?_) <;> (simp only [hb]; try simp only [hbs, ne_eq] at hb; try (exfalso; first | omega | exact hb trivial))) | fail)
  refine a_weak (t := ⟨[(2, .el [.v (.int .i64 g), .v (.int .i64 s), .v (.int .i64 d), .v (.int .i64 k), .v (.int .i64 fu), .v (.int .i64 li), .v (.int .i64 de), .v (.int .i64 id)]), (4, .ref 2 0), (5, .ref 3 0), (7, .ref 5 0), (9, .ref 6 0), (23, .clo (.func 8) [] [.el [.sl 1 (ls.map inAv)], .el [.v (.int .i64 g), .v (.int .i64 s), .v (.int .i64 d), .v (.int .i64 k), .v (.int .i64 fu), .v (.int .i64 li), .v (.int .i64 de), .v (.int .i64 id)]])], [(2, .box 27 [.v (.slice none 0 0)]), (3, .box 28 [.v (.int .i64 0)]), (4, .box 43 [.v (.int .i64 g), .v (.int .i64 s), .v (.int .i64 d), .v (.int .i64 k), .v (.int .i64 fu), .v (.int .i64 li), .v (.int .i64 de), .v (.int .i64 id), .v (.slice none 0 0), .v (.int .i64 0)]), (5, .box 40 [.ref 4 0]), (6, .box 44 [.clo (.func 10) [.ref 4 0] []])]⟩) ?_ ?_
  ·refine ⟨by repeat' (first | exact trivial | exact FinA.one (FinB.cell (FinC.same rfl)) | exact FinA.one (FinB.cell FinC.nil) | exact FinA.bound rfl | exact FinA.one (FinB.cell (FinC.own rfl rfl rfl rfl)) | exact FinA.one (FinB.cell (FinC.v (by first | rfl | (simp)))) | exact FinA.one (FinB.cell (FinC.ow rfl (by first | rfl | (simp)))) | exact FinA.one (FinB.agg' rfl rfl) | exact FinA.one (FinB.cell (FinC.el rfl rfl rfl rfl)) | refine FinA.clo ?_ ?_ | exact FinBs.nil | exact FinB.cell (FinC.same rfl) | exact FinB.cell (FinC.el rfl rfl rfl rfl) | refine FinBs.cons ?_ ?_ | refine ⟨⟨_, rfl, ?_⟩, ?_⟩), by repeat' (first | exact trivial | refine ⟨⟨_, rfl, by first | rfl | (simp; done) | (simp [renO, *]; done)⟩, by first | rfl | assumption, ?_⟩), rfl⟩
  refine a_swap 4 (gthAv g s d k fu li de id [] 0) rfl rfl (fun σ μ w A us h => ?_) ?_
  ·simp only [gthAv, repC, rep] at h ⊢
   obtain ⟨a1, m1, rfl, o1, h1, a2, m2, rfl, o2, h2, a3, m3, rfl, o3, h3, a4, m4, rfl, o4, h4, a5, m5, rfl, o5, h5, a6, m6, rfl, o6, h6, a7, m7, rfl, o7, h7, a8, m8, rfl, o8, h8, a9, m9, rfl, o9, h9, a10, m10, rfl, o10, h10, rfl⟩ := h
   exact ⟨_, _, rfl, o1, h1, _, _, rfl, o2, h2, _, _, rfl, o3, h3, _, _, rfl, o4, h4, _, _, rfl, o5, h5, _, _, rfl, o6, h6, _, _, rfl, o7, h7, _, _, rfl, o8, h8, _, _, rfl, o9, ⟨none, 0, [], h9.1, Nat.le_refl _, by simp [maxLen], .inl rfl, by simp [repLL]⟩, _, _, rfl, o10, h10, rfl⟩
  refine a_range (fun x => .agg (Et.av x)) K rfl hseq rfl et_cav rfl (fun i => [(2, .box 27 [.v (.slice none 0 0)]), (3, .box 28 [.v (.int .i64 0)]), (4, .box 43 (gthAv g s d k fu li de id (rowV k (allVals s d (K.take i))) 0)), (5, .box 40 [.ref 4 0]), (6, .box 44 [.clo (.func 10) [.ref 4 0] []])]) (fun i => (rowV k (allVals s d (K.take i))).length ≤ 2000) rfl (fun _ _ => rfl) (by simp [allVals, rowV, insAll]) ?_ ?_
  ·intro i x hxi hok W M' μi L
   have hil : i < K.length := (List.getElem?_eq_some_iff.1 hxi).1
   have hsn : allVals s d (K.take (i + 1)) = allVals s d (K.take i) ++ valsV s d x := by
    rw [take_snoc K i hil, allVals_snoc]
    have := (List.getElem?_eq_some_iff.1 hxi).2
    rw [this]
   have hxm : x ∈ K := List.mem_of_getElem? hxi
   have hvl := allVals_len (s := s) (d := d) (es := K.take i)
   rw [List.length_take, Nat.min_eq_left (by omega)] at hvl
   have htk := take_row (vs := allVals s d (K.take i)) (e := x) hfr hw (hKo x hxm) (allVals_ok hfr hw fun e he => hKo e (List.mem_of_mem_take he)) (by omega) hok
   have hT := m_take g s d k fu li de id (rowV k (allVals s d (K.take i))) x.key x.at' x.v (by omega)
   obtain ⟨hg1, hg2⟩ := gW_take (k := k) (key := x.key) (v := x.v) (ws := winL s d x.at') (ps := rowV k (allVals s d (K.take i)))
   dsimp only
   rw [hsn]
   rw [← hsn] at htk ⊢
   rw [htk] at hg1 hg2
   have hfin : ¬ (rowV k (allVals s d (K.take (i + 1)))).length ≤ 2000 → ¬ (rowV k (allVals s d K)).length ≤ 2000 := fun h1 h2 => h1 (by
    have e : allVals s d K = allVals s d (K.take (i + 1)) ++ allVals s d (K.drop (i + 1)) := by
     unfold allVals
     rw [← List.flatMap_append, List.take_append_drop]
    rw [e] at h2
    exact Nat.le_trans rowM_mono h2)
   generalize rowV k (allVals s d (K.take i)) = R at *
   generalize rowV k (allVals s d (K.take (i + 1))) = R' at *
   generalize gW k x.key x.v R (winL s d x.at') = G at *
   obtain ⟨G1, G2⟩ := G
   dsimp only at hg1 hg2 hT
   by_cases h2 : R'.length ≤ 2000
   ·rw [if_pos h2] at hg1 hg2
    have hg2 := hg2 rfl
    dsimp only at hg1 hg2
    subst hg1 hg2
    repeat' (first | ((first | apply o_do | apply d_do | apply d_yes rfl rfl rfl); exact lsq) | refine a_seq ?_ | refine a_region ?_ | refine o_nil ?_ | refine a_block ?_ | refine a_ret ?_ | refine a_exit ?_ | refine a_skip ?_ | refine a_draw mixed ?_ | refine d_nil (by kernel_rfl) ?_ | refine o_yes rfl rfl rfl ?_ | refine o_no rfl rfl rfl (by decide) ?_ | refine o_no' rfl rfl rfl ?_ | refine a_condT rfl ?_ | refine a_condF rfl ?_ | refine d_no rfl rfl rfl (by decide) ?_ | refine d_no' rfl rfl rfl ?_ | (refine wq2 (fun hb => ?_) (fun hb => ?_) <;> (simp only [hb]; try simp only [hbs, ne_eq] at hb; try (exfalso; first | omega | exact hb trivial))) | fail)
    dsimp only [AThen1]
    intro W M' μi L d0
    repeat' (first | ((first | apply o_do | apply d_do | apply d_yes rfl rfl rfl); first | exact ls_callAB [4] 20 hT rfl rfl (by (repeat' (first | exact NilL.nil | refine NilL.cons Nil.same ?_ | refine NilL.cons Nil.nil ?_ | refine NilL.cons (Nil.agg ?_) ?_ | exact Nil1s.nil | refine Nil1s.cons Nil1.same ?_ | refine Nil1s.cons Nil1.nil ?_)); first | done | fail) rfl (by repeat' (first | exact trivial | refine ⟨⟨_, rfl, by first | rfl | (simp [renO, *]; done)⟩, ?_⟩)) (by first | rfl | simp [closO, *]) rfl rfl rfl rfl (by first | rfl | simp [closO, *]) rfl | exact lsq) | refine a_seq ?_ | refine a_region ?_ | refine o_nil ?_ | refine a_block ?_ | refine a_ret ?_ | refine a_exit ?_ | refine a_skip ?_ | refine a_draw mixed ?_ | refine d_nil (by kernel_rfl) ?_ | refine o_yes rfl rfl rfl ?_ | refine o_no rfl rfl rfl (by decide) ?_ | refine o_no' rfl rfl rfl ?_ | refine a_condT rfl ?_ | refine a_condF rfl ?_ | refine d_no rfl rfl rfl (by decide) ?_ | refine d_no' rfl rfl rfl ?_ | (refine wq2 (fun hb => ?_) (fun hb => ?_) <;> (simp only [hb]; try simp only [hbs, ne_eq] at hb; try (exfalso; first | omega | exact hb trivial))) | fail)
    refine ⟨h2, ?_⟩
    repeat' (first | exact trivial | refine ⟨⟨_, rfl, by first | rfl | (simp [renO, *]; done)⟩, by first | rfl | assumption, ?_⟩)
   ·rw [if_neg h2] at hg1 hg2
    dsimp only at hg1 hg2
    subst hg1
    have hout : outR k (allVals s d K) = ([], 3) := by
     unfold outR
     rw [if_neg]
     intro h
     refine hfin h2 ?_
     exact h
    rw [hout]
    repeat' (first | ((first | apply o_do | apply d_do | apply d_yes rfl rfl rfl); exact lsq) | refine a_seq ?_ | refine a_region ?_ | refine o_nil ?_ | refine a_block ?_ | refine a_ret ?_ | refine a_exit ?_ | refine a_skip ?_ | refine a_draw mixed ?_ | refine d_nil (by kernel_rfl) ?_ | refine o_yes rfl rfl rfl ?_ | refine o_no rfl rfl rfl (by decide) ?_ | refine o_no' rfl rfl rfl ?_ | refine a_condT rfl ?_ | refine a_condF rfl ?_ | refine d_no rfl rfl rfl (by decide) ?_ | refine d_no' rfl rfl rfl ?_ | (refine wq2 (fun hb => ?_) (fun hb => ?_) <;> (simp only [hb]; try simp only [hbs, ne_eq] at hb; try (exfalso; first | omega | exact hb trivial))) | fail)
    dsimp only [AThen1]
    intro W M' μi L d0
    repeat' (first | ((first | apply o_do | apply d_do | apply d_yes rfl rfl rfl); first | exact ls_callAB [4] 20 hT rfl rfl (by (repeat' (first | exact NilL.nil | refine NilL.cons Nil.same ?_ | refine NilL.cons Nil.nil ?_ | refine NilL.cons (Nil.agg ?_) ?_ | exact Nil1s.nil | refine Nil1s.cons Nil1.same ?_ | refine Nil1s.cons Nil1.nil ?_)); first | done | fail) rfl (by repeat' (first | exact trivial | refine ⟨⟨_, rfl, by first | rfl | (simp [renO, *]; done)⟩, ?_⟩)) (by first | rfl | simp [closO, *]) rfl rfl rfl rfl (by first | rfl | simp [closO, *]) rfl | exact ls_nilCheck rfl rfl | exact lsq) | refine a_seq ?_ | refine a_region ?_ | refine o_nil ?_ | refine a_block ?_ | refine a_ret ?_ | refine a_exit ?_ | refine a_skip ?_ | refine a_draw mixed ?_ | refine d_nil (by kernel_rfl) ?_ | refine o_yes rfl rfl rfl ?_ | refine o_no rfl rfl rfl (by decide) ?_ | refine o_no' rfl rfl rfl ?_ | refine a_condT rfl ?_ | refine a_condF rfl ?_ | refine d_no rfl rfl rfl (by decide) ?_ | refine d_no' rfl rfl rfl ?_ | (refine wq2 (fun hb => ?_) (fun hb => ?_) <;> (simp only [hb]; try simp only [hbs, ne_eq] at hb; try (exfalso; first | omega | exact hb trivial))) | fail)
    refine ⟨[(2, .box 27 [.v (.slice none 0 0)]), (3, .box 28 [.v (.int .i64 3)]), (4, .box 43 (gthAv g s d k fu li de id G1 3)), (5, .box 40 [.ref 4 0]), (6, .box 44 [.clo (.func 10) [.ref 4 0] []])], ?_, rfl, ?_⟩
    ·repeat' (first | exact trivial | refine ⟨⟨_, rfl, by first | rfl | (simp [renO, *]; done)⟩, by first | rfl | assumption, ?_⟩)
    ·refine rq rfl ?_
     all_goals exact fnq
  ·intro hok
   dsimp only
   rw [List.take_length] at hok ⊢
   have hR := p_Results k (rowV k (allVals s d K)) (by omega)
   have hout : outR k (allVals s d K) = (resultsL k (rowV k (allVals s d K)), 0) := by
    unfold outR
    rw [if_pos hok]
   rw [hout]
   generalize resultsL k (rowV k (allVals s d K)) = U at *
   generalize rowV k (allVals s d K) = R at *
   repeat' (first | ((first | apply o_do | apply d_do | apply d_yes rfl rfl rfl); first | exact lsc (hR) | exact ls_nilCheck rfl rfl | exact lsq) | refine a_seq ?_ | refine a_region ?_ | refine o_nil ?_ | refine a_block ?_ | refine a_ret ?_ | refine a_exit ?_ | refine a_skip ?_ | refine a_draw mixed ?_ | refine d_nil (by kernel_rfl) ?_ | refine o_yes rfl rfl rfl ?_ | refine o_no rfl rfl rfl (by decide) ?_ | refine o_no' rfl rfl rfl ?_ | refine a_condT rfl ?_ | refine a_condF rfl ?_ | refine d_no rfl rfl rfl (by decide) ?_ | refine d_no' rfl rfl rfl ?_ | (refine wq2 (fun hb => ?_) (fun hb => ?_) <;> (simp only [hb]; try simp only [hbs, ne_eq] at hb; try (exfalso; first | omega | exact hb trivial))) | fail)
   all_goals refine rq rfl ?_
   all_goals exact fnq
 ·rw [if_neg h0]
  generalize checkN g s d k fu li de id ls = r at *
  refine PC.mk (ac_body tab_ok Try.func5 rfl (by kernel_rfl) rfl ?_); intro w0 M μ0; simp only [Try.ntmps5, List.length_cons, List.length_nil, Nat.reduceAdd, Nat.reduceSub, numb]
  repeat' (first | ((first | apply o_do | apply d_do | apply d_yes rfl rfl rfl); first | exact lsc (hc) | exact lsq) | refine a_seq ?_ | refine a_region ?_ | refine o_nil ?_ | refine a_block ?_ | refine a_ret ?_ | refine a_exit ?_ | refine a_skip ?_ | refine a_draw mixed ?_ | refine d_nil (by kernel_rfl) ?_ | refine o_yes rfl rfl rfl ?_ | refine o_no rfl rfl rfl (by decide) ?_ | refine o_no' rfl rfl rfl ?_ | refine a_condT rfl ?_ | refine a_condF rfl ?_ | refine d_no rfl rfl rfl (by decide) ?_ | refine d_no' rfl rfl rfl ?_ | (refine wq2 (fun hb => ?_) (fun hb => ?_) <;> (simp only [hb]; try simp only [hbs, ne_eq] at hb; try (exfalso; first | omega | exact hb trivial))) | fail)
  all_goals refine rq rfl ?_
  all_goals exact fnq
end
end Go.Proofs.Ytlgbadlgfdlheaa
namespace Go.Proofs.Ytlgbadlgfdlheaa
open Go.RowKit
def aliveE : Et := ⟨⟨#[97]⟩, 0, 0⟩
theorem alive_check : checkN 1 1 1 2 0 0 0 0 [[aliveE]] = 0 := by rfl
theorem alive_vals : allVals 1 1 (allK 0 0 0 [[aliveE]]) = [⟨⟨#[97]⟩, 0, 1, 0⟩] := by rfl
theorem alive_out : ∃ r, runN 1 1 1 2 0 0 0 0 [[aliveE]] = ([r], 0) := by
 unfold runN
 rw [if_pos alive_check, alive_vals]
 exact ⟨_, rfl⟩
theorem m_alive : PC Try.prog 6 [] (.v (.bool true)) := by
 obtain ⟨r, hr⟩ := alive_out
 have h := m_Run 1 1 1 2 0 0 0 0 [[aliveE]] ⟨by simp, by simp⟩ (by simp [aliveE]) (by omega)
 rw [hr] at h
 have h : PC Try.prog 5 [.agg [.v (.int .i64 1), .v (.int .i64 1), .v (.int .i64 1), .v (.int .i64 2), .v (.int .i64 0), .v (.int .i64 0), .v (.int .i64 0), .v (.int .i64 0)], .sl 1 [[.sl 3 [[.v (.string ⟨#[97]⟩), .v (.int .i64 0), .v (.int .i64 0)]]]]] (.tup [.sl 5 [Rs.av r], .v (.int .i64 0)]) := h
 refine PC.mk (ac_body tab_ok Try.func6 rfl (by kernel_rfl) rfl ?_); intro w0 M μ0; simp only [Try.ntmps6, List.length_cons, List.length_nil, Nat.reduceAdd, Nat.reduceSub, numb]
 repeat' (first | ((first | apply o_do | apply d_do | apply d_yes rfl rfl rfl); first | exact lsc (h) | exact lsq) | refine a_seq ?_ | refine a_region ?_ | refine o_nil ?_ | refine a_block ?_ | refine a_ret ?_ | refine a_exit ?_ | refine a_skip ?_ | refine a_draw mixed ?_ | refine d_nil (by kernel_rfl) ?_ | refine o_yes rfl rfl rfl ?_ | refine o_no rfl rfl rfl (by decide) ?_ | refine o_no' rfl rfl rfl ?_ | refine a_condT rfl ?_ | refine a_condF rfl ?_ | refine d_no rfl rfl rfl (by decide) ?_ | refine d_no' rfl rfl rfl ?_ | (refine wq2 (fun hb => ?_) (fun hb => ?_) <;> (simp only [hb]; try simp only [hbs, ne_eq] at hb; try (exfalso; first | omega | exact hb trivial))) | fail)
 all_goals refine rq rfl ?_
 all_goals exact fnq
def few30 (es : List Et) : List Et := if 30 < es.length ∧ es.length ≤ 200 then es.take 30 else es
def fewI (ls : List (List Et)) : List (List Et) := (ls.take 6).map few30
theorem m_few (ls : List (List Et)) (hx : Small ls) : PC Try.prog 4 [.sl 1 (ls.map inAv)] (.sl 1 ((fewI ls).map inAv)) := by
 have hlx := hx.1
 refine PC.mk (ac_body tab_ok Try.func4 rfl (by kernel_rfl) rfl ?_); intro w0 M μ0; simp only [Try.ntmps4, List.length_cons, List.length_nil, Nat.reduceAdd, Nat.reduceSub, numb]
 repeat' (first | ((first | apply o_do | apply d_do | apply d_yes rfl rfl rfl); exact lsq) | refine a_seq ?_ | refine a_region ?_ | refine o_nil ?_ | refine a_block ?_ | refine a_ret ?_ | refine a_exit ?_ | refine a_skip ?_ | refine a_draw mixed ?_ | refine d_nil (by kernel_rfl) ?_ | refine o_yes rfl rfl rfl ?_ | refine o_no rfl rfl rfl (by decide) ?_ | refine o_no' rfl rfl rfl ?_ | refine a_condT rfl ?_ | refine a_condF rfl ?_ | refine d_no rfl rfl rfl (by decide) ?_ | refine d_no' rfl rfl rfl ?_ | (refine wq2 (fun hb => ?_) (fun hb => ?_) <;> (simp only [hb]; try simp only [hbs, ne_eq] at hb; try (exfalso; first | omega | exact hb trivial))) | fail)
 refine a_adopt 3 0 25 1 rfl rfl ?_
 refine a_loop (X := {q : Nat // q ≤ ls.length ∧ q ≤ 6}) (fun x => ⟨[(0, .sl 1 (ls.map inAv)), (3, .own 0 (((ls.take x.1).map few30).map inAv).length), (6, .sl 1 (ls.map inAv)), (7, .v (.int .i64 ls.length)), (8, .v (.int .i64 x.1))], [(0, .row 25 1 (((ls.take x.1).map few30).map inAv))]⟩) (fun x => ls.length - x.1) ⟨0, Nat.zero_le _, by omega⟩ ?_ ?_
 ·exact wkS
 rintro ⟨q, hq, hq6⟩
 dsimp only
 by_cases hlt : q < ls.length
 ·have hel : (ls.map inAv)[q]? = some (inAv ls[q]) := by simp [hlt]
  have hen := hx.2 _ (List.getElem_mem hlt)
  have hsn : ((ls.take (q + 1)).map few30).map inAv = ((ls.take q).map few30).map inAv ++ [inAv (few30 ls[q])] := by rw [take_snoc ls q hlt, List.map_append, List.map_append]; rfl
  have hTl : (((ls.take q).map few30).map inAv).length = q := by simp; omega
  by_cases h6 : q = 6
  ·subst h6
   unfold fewI
   generalize (ls.take 6).map few30 = T at *
   generalize ls[6] = es at *
   repeat' (first | ((first | apply o_do | apply d_do | apply d_yes rfl rfl rfl); first | exact ls_indexAddr_sl tab_ok rfl rfl rfl rfl hel rfl | exact lsq) | refine a_seq ?_ | refine a_region ?_ | refine o_nil ?_ | refine a_block ?_ | refine a_ret ?_ | refine a_exit ?_ | refine a_skip ?_ | refine a_draw mixed ?_ | refine d_nil (by kernel_rfl) ?_ | refine o_yes rfl rfl rfl ?_ | refine o_no rfl rfl rfl (by decide) ?_ | refine o_no' rfl rfl rfl ?_ | refine a_condT rfl ?_ | refine a_condF rfl ?_ | refine d_no rfl rfl rfl (by decide) ?_ | refine d_no' rfl rfl rfl ?_ | (refine wq2 (fun hb => ?_) (fun hb => ?_) <;> (simp only [hb]; try simp only [hbs, ne_eq] at hb; try (exfalso; first | omega | exact hb trivial))) | fail)
   all_goals refine rq rfl ?_
   all_goals exact fnq
  ·generalize ((ls.take q).map few30).map inAv = T at *
   generalize ls[q] = es at *
   have hml : (es.map Et.av).length = es.length := List.length_map _
   by_cases h30 : 30 < es.length
   ·by_cases h200 : es.length ≤ 200
    ·have hf : inAv (few30 es) = [.sl 3 ((es.map Et.av).take 30)] := by
      simp [few30, h30, h200, inAv, List.map_take]
     rw [hf] at hsn
     repeat' (first | ((first | apply o_do | apply d_do | apply d_yes rfl rfl rfl); first | exact ls_indexAddr_sl tab_ok rfl rfl rfl rfl hel rfl | exact ls_slice_to (n := 30) tab_ok rfl rfl rfl rfl (by rw [hml]; omega) rfl | focus (apply ls_append tab_ok rfl rfl ?hn rfl ?hsrc rfl ?hlen rfl rfl; (case hn => rfl); (case hsrc => first | exact SrcIs.sl | exact SrcIs.nil | exact SrcIs.own rfl rfl | fail); (case hlen => (try simp only [List.length_cons, List.length_nil]); (omega)); first | done | fail) | exact lsq) | refine a_seq ?_ | refine a_region ?_ | refine o_nil ?_ | refine a_block ?_ | refine a_ret ?_ | refine a_exit ?_ | refine a_skip ?_ | refine a_draw mixed ?_ | refine d_nil (by kernel_rfl) ?_ | refine o_yes rfl rfl rfl ?_ | refine o_no rfl rfl rfl (by decide) ?_ | refine o_no' rfl rfl rfl ?_ | refine a_condT rfl ?_ | refine a_condF rfl ?_ | refine d_no rfl rfl rfl (by decide) ?_ | refine d_no' rfl rfl rfl ?_ | (refine wq2 (fun hb => ?_) (fun hb => ?_) <;> (simp only [hb]; try simp only [hbs, ne_eq] at hb; try (exfalso; first | omega | exact hb trivial))) | fail)
     refine ⟨⟨q + 1, by omega, by omega⟩, by dsimp only; omega, ?_⟩
     refine ⟨by repeat' (first | exact trivial | exact FinA.one (FinB.cell (FinC.same rfl)) | exact FinA.one (FinB.cell FinC.nil) | exact FinA.bound rfl | exact FinA.one (FinB.cell (FinC.own rfl rfl rfl rfl)) | exact FinA.one (FinB.cell (FinC.v (by first | rfl | ((first | (simp; done) | (simp only [hsn]; rfl)))))) | exact FinA.one (FinB.cell (FinC.ow rfl (by first | rfl | ((first | (simp; done) | (simp only [hsn]; rfl)))))) | exact FinA.one (FinB.agg' rfl rfl) | refine ⟨⟨_, rfl, ?_⟩, ?_⟩), by repeat' (first | exact trivial | refine ⟨⟨_, rfl, by first | rfl | ((first | (simp; done) | (simp only [hsn]; rfl)); done) | (simp [renO, *]; done)⟩, by first | rfl | assumption, ?_⟩), rfl⟩
    ·have hf : few30 es = es := by simp [few30, h200]
     rw [hf] at hsn
     repeat' (first | ((first | apply o_do | apply d_do | apply d_yes rfl rfl rfl); first | exact ls_indexAddr_sl tab_ok rfl rfl rfl rfl hel rfl | focus (apply ls_append tab_ok rfl rfl ?hn rfl ?hsrc rfl ?hlen rfl rfl; (case hn => rfl); (case hsrc => first | exact SrcIs.sl | exact SrcIs.nil | exact SrcIs.own rfl rfl | fail); (case hlen => (try simp only [List.length_cons, List.length_nil]); (omega)); first | done | fail) | exact lsq) | refine a_seq ?_ | refine a_region ?_ | refine o_nil ?_ | refine a_block ?_ | refine a_ret ?_ | refine a_exit ?_ | refine a_skip ?_ | refine a_draw mixed ?_ | refine d_nil (by kernel_rfl) ?_ | refine o_yes rfl rfl rfl ?_ | refine o_no rfl rfl rfl (by decide) ?_ | refine o_no' rfl rfl rfl ?_ | refine a_condT rfl ?_ | refine a_condF rfl ?_ | refine d_no rfl rfl rfl (by decide) ?_ | refine d_no' rfl rfl rfl ?_ | (refine wq2 (fun hb => ?_) (fun hb => ?_) <;> (simp only [hb]; try simp only [hbs, ne_eq] at hb; try (exfalso; first | omega | exact hb trivial))) | fail)
     refine ⟨⟨q + 1, by omega, by omega⟩, by dsimp only; omega, ?_⟩
     refine ⟨by repeat' (first | exact trivial | exact FinA.one (FinB.cell (FinC.same rfl)) | exact FinA.one (FinB.cell FinC.nil) | exact FinA.bound rfl | exact FinA.one (FinB.cell (FinC.own rfl rfl rfl rfl)) | exact FinA.one (FinB.cell (FinC.v (by first | rfl | ((first | (simp; done) | (simp only [hsn]; rfl)))))) | exact FinA.one (FinB.cell (FinC.ow rfl (by first | rfl | ((first | (simp; done) | (simp only [hsn]; rfl)))))) | exact FinA.one (FinB.agg' rfl rfl) | refine ⟨⟨_, rfl, ?_⟩, ?_⟩), by repeat' (first | exact trivial | refine ⟨⟨_, rfl, by first | rfl | ((first | (simp; done) | (simp only [hsn]; rfl)); done) | (simp [renO, *]; done)⟩, by first | rfl | assumption, ?_⟩), rfl⟩
   ·have hf : few30 es = es := by simp [few30, h30]
    rw [hf] at hsn
    repeat' (first | ((first | apply o_do | apply d_do | apply d_yes rfl rfl rfl); first | exact ls_indexAddr_sl tab_ok rfl rfl rfl rfl hel rfl | focus (apply ls_append tab_ok rfl rfl ?hn rfl ?hsrc rfl ?hlen rfl rfl; (case hn => rfl); (case hsrc => first | exact SrcIs.sl | exact SrcIs.nil | exact SrcIs.own rfl rfl | fail); (case hlen => (try simp only [List.length_cons, List.length_nil]); (omega)); first | done | fail) | exact lsq) | refine a_seq ?_ | refine a_region ?_ | refine o_nil ?_ | refine a_block ?_ | refine a_ret ?_ | refine a_exit ?_ | refine a_skip ?_ | refine a_draw mixed ?_ | refine d_nil (by kernel_rfl) ?_ | refine o_yes rfl rfl rfl ?_ | refine o_no rfl rfl rfl (by decide) ?_ | refine o_no' rfl rfl rfl ?_ | refine a_condT rfl ?_ | refine a_condF rfl ?_ | refine d_no rfl rfl rfl (by decide) ?_ | refine d_no' rfl rfl rfl ?_ | (refine wq2 (fun hb => ?_) (fun hb => ?_) <;> (simp only [hb]; try simp only [hbs, ne_eq] at hb; try (exfalso; first | omega | exact hb trivial))) | fail)
    refine ⟨⟨q + 1, by omega, by omega⟩, by dsimp only; omega, ?_⟩
    refine ⟨by repeat' (first | exact trivial | exact FinA.one (FinB.cell (FinC.same rfl)) | exact FinA.one (FinB.cell FinC.nil) | exact FinA.bound rfl | exact FinA.one (FinB.cell (FinC.own rfl rfl rfl rfl)) | exact FinA.one (FinB.cell (FinC.v (by first | rfl | ((first | (simp; done) | (simp only [hsn]; rfl)))))) | exact FinA.one (FinB.cell (FinC.ow rfl (by first | rfl | ((first | (simp; done) | (simp only [hsn]; rfl)))))) | exact FinA.one (FinB.agg' rfl rfl) | refine ⟨⟨_, rfl, ?_⟩, ?_⟩), by repeat' (first | exact trivial | refine ⟨⟨_, rfl, by first | rfl | ((first | (simp; done) | (simp only [hsn]; rfl)); done) | (simp [renO, *]; done)⟩, by first | rfl | assumption, ?_⟩), rfl⟩
 ·obtain rfl : q = ls.length := by omega
  unfold fewI
  rw [List.take_length, List.take_of_length_le (by omega)]
  generalize ls.map few30 = T at *
  repeat' (first | ((first | apply o_do | apply d_do | apply d_yes rfl rfl rfl); exact lsq) | refine a_seq ?_ | refine a_region ?_ | refine o_nil ?_ | refine a_block ?_ | refine a_ret ?_ | refine a_exit ?_ | refine a_skip ?_ | refine a_draw mixed ?_ | refine d_nil (by kernel_rfl) ?_ | refine o_yes rfl rfl rfl ?_ | refine o_no rfl rfl rfl (by decide) ?_ | refine o_no' rfl rfl rfl ?_ | refine a_condT rfl ?_ | refine a_condF rfl ?_ | refine d_no rfl rfl rfl (by decide) ?_ | refine d_no' rfl rfl rfl ?_ | (refine wq2 (fun hb => ?_) (fun hb => ?_) <;> (simp only [hb]; try simp only [hbs, ne_eq] at hb; try (exfalso; first | omega | exact hb trivial))) | fail)
  all_goals refine rq rfl ?_
  all_goals exact fnq
theorem few30_len (es : List Et) : (few30 es).length ≤ es.length := by
 unfold few30
 split
 ·rw [List.length_take]; omega
 ·exact Nat.le_refl _
theorem few30_mem {es : List Et} {e : Et} (h : e ∈ few30 es) : e ∈ es := by
 unfold few30 at h
 split at h
 ·exact List.mem_of_mem_take h
 ·exact h
theorem fewI_small {ls : List (List Et)} (hx : Small ls) : Small (fewI ls) := by
 refine ⟨?_, fun es h => ?_⟩
 ·unfold fewI; rw [List.length_map, List.length_take]; omega
 ·obtain ⟨x, h1, rfl⟩ := List.mem_map.1 h
  have := hx.2 x (List.mem_of_mem_take h1)
  have := few30_len x
  omega
theorem fewI_range {ls : List (List Et)} (h : ∀ es ∈ ls, ∀ e ∈ es, -9223372036854775808 ≤ e.v ∧ e.v ≤ 9223372036854775807) : ∀ es ∈ fewI ls, ∀ e ∈ es, -9223372036854775808 ≤ e.v ∧ e.v ≤ 9223372036854775807 := by
 intro es h1 e h2
 obtain ⟨x, h3, rfl⟩ := List.mem_map.1 h1
 exact h x (List.mem_of_mem_take h3) e (few30_mem h2)
def convL : List AV → Option (List Value)
 | [] => some []
 | .v x :: l => match convL l with
  | some us => some (x :: us)
  | none => none
 | _ => none
def conv : AV → Option Value
 | .v x => some x
 | .agg cs => match convL cs with
  | some us => some (.agg us.toArray)
  | none => none
 | _ => none
section
variable {P : Program} {Γ : Ctx} {s : ASt} {σ : Store} {μ : Nat → Value} {w : World} {A : Nat → Prop}
variable {dst : Option Tmp} {ty : TypeId} {pos : String} {after : Array Edge}
theorem convL_rep : ∀ {cs : List AV} {xs us : List Value}, convL cs = some xs → repC σ μ w A cs us → us = xs
 | [], xs, us, h, h2 => by
  simp only [convL, Option.some.injEq] at h; subst h
  simpa only [repC] using h2
 | .v x :: cs, xs, us, h, h2 => by
  simp only [convL] at h
  split at h
  ·rename_i ys hy
   injection h with h; subst h
   simp only [repC, rep] at h2
   obtain ⟨u, us', rfl, _, ⟨rfl, _⟩, h3⟩ := h2
   rw [convL_rep hy h3]
  ·cases h
 | .agg _ :: _, _, _, h, _ => by simp [convL] at h
 | .tup _ :: _, _, _, h, _ => by simp [convL] at h
 | .sl _ _ :: _, _, _, h, _ => by simp [convL] at h
 | .own _ _ :: _, _, _, h, _ => by simp [convL] at h
 | .ref _ _ :: _, _, _, h, _ => by simp [convL] at h
 | .eref _ _ _ _ :: _, _, _, h, _ => by simp [convL] at h
 | .el _ :: _, _, _, h, _ => by simp [convL] at h
 | .clo _ _ _ :: _, _, _, h, _ => by simp [convL] at h
 | .mp _ :: _, _, _, h, _ => by simp [convL] at h
theorem conv_rep {v : AV} {x y : Value} (h : conv v = some x) (hr : rep σ μ w A v y) : y = x := by
 cases v with
 | v z => simp only [conv, Option.some.injEq] at h; subst h; simp only [rep] at hr; exact hr.1
 | agg cs =>
  simp only [conv] at h
  split at h
  ·rename_i us hu
   injection h with h; subst h
   simp only [rep] at hr
   obtain ⟨us', rfl, h2⟩ := hr
   rw [convL_rep hu h2]
  ·cases h
 | _ => cases h
theorem borns_push {ents : Array MapEntry} {ck : Nat} (h : Borns ents ck) (key val : Value) : Borns (ents.push { key, val := val, born := ck }) (ck + 1) := by
 refine ⟨by simp [h.1], fun i e he => ?_⟩
 rw [Array.getElem?_push] at he
 split at he
 ·rename_i h1; injection he with he; subst he; exact h.1.trans h1.symm
 ·exact h.2 i e he
theorem borns_modify {ents : Array MapEntry} {ck : Nat} (h : Borns ents ck) (j : Nat) (f : MapEntry → MapEntry) (hf : ∀ e, (f e).born = e.born) : Borns (ents.modify j f) ck := by
 refine ⟨by simp [h.1], fun i e he => ?_⟩
 rw [Array.getElem?_modify] at he
 split at he
 ·cases hi : ents[i]? with
  | none => rw [hi] at he; cases he
  | some e' =>
   rw [hi] at he
   simp only [Option.map_some, Option.some.injEq] at he
   subst he
   rw [hf]; exact h.2 i e' hi
 ·exact h.2 i e he
theorem obj_map {id : Nat} {es : List (Value × Value)} (h : ObjRel σ μ w A id (.mp (.m es))) : ∃ g ents ck, μ id = .map (some g) ∧ w.heap[g]? = some (.map ents ck) ∧ ents.toList.map (fun e => (e.key, e.val)) = es ∧ Borns ents ck := by
 obtain ⟨g, v, ob, h1, h2, h3, g', ents, ck, rfl, rfl, h4, h5⟩ := h
 simp only [blk, Option.some.injEq] at h2
 subst h2
 exact ⟨_, ents, ck, h1, h3, h4, h5⟩
theorem obj_mapI {id : Nat} {es : List (Value × Value)} (h : ∃ g ents ck, μ id = .map (some g) ∧ w.heap[g]? = some (.map ents ck) ∧ ents.toList.map (fun e => (e.key, e.val)) = es ∧ Borns ents ck) : ObjRel σ μ w A id (.mp (.m es)) := by
 obtain ⟨g, ents, ck, h1, h2, h3, h4⟩ := h
 exact ⟨g, _, _, h1, rfl, h2, g, ents, ck, rfl, rfl, h3, h4⟩
theorem ls_makeMap {t k : Nat} (hk : find s.σ k = none) (hd : okDst Γ.n dst = true) : LS P Γ ⟨dst, .makeMap t none, ty, pos, after, none⟩ s [.obj k] (dst1 dst (.mp k)) [(k, .mp (.m []))] := by
 refine ⟨fun t' ht Q μ a w hr K hK => ?_⟩
 have hk' : find t'.σ k = none := ht.1.trans hk
 have hn := hr.new (w' := w.alloc (.map #[] 0)) (v := .map (some w.heap.size)) (o := .mp (.m [])) hk' (below_alloc _ _) (by simp [blk]) (fun μ' A hμ hμk hA hst => by
  exact obj_mapI ⟨w.heap.size, #[], 0, hμk, (MapKept.heap_alloc w _).1, rfl, rfl, fun i e h => by simp at h⟩)
 have hfin := hn.put (d := dst) (x := .mp k) (y := .map (some w.heap.size)) hd (by
  simp only [rep, ASt.eff, List.cons_append, List.nil_append, find_cons, if_true]
  exact ⟨rfl, (setμ_same _ _ _).symm, _, rfl⟩)
 unfold Oper.wp
 have hrun : (execOp a.eval ⟨dst, .makeMap t none, ty, pos, after, none⟩).run P w = .ok (.value (.map (some w.heap.size))) (w.alloc (.map #[] 0)) := by
  simp [execOp, Instr.makeMap, run_newObj]
 rw [hrun]
 refine hK (setμ μ k (.map (some w.heap.size))) _ _ ?_
 cases dst <;> exact hfin
theorem ls_lookup {kt : TypeId} (K : WideMaps.KeyLaw P kt) {m x : Operand} {t et id : Nat} {es : List (Value × Value)} {kv : AV} {key r z : Value} {b : Bool} {kl : Lit} (c : Bool)
  (hm : ev s m = some (.mp id)) (hx : ev s x = some kv) (hσ : find s.σ id = some (.mp (.m es))) (hu : P.underlying t = some (.map kt et)) (hk : conv kv = some key) (hz : ∀ w, (zeroValue et).run P w = .ok z w) (hr : scal r = true)
  (hkey : keyOf P kt key = some kl) (hall : ∀ p ∈ es, ∃ l, keyOf P kt p.1 = some l) (h1 : (∀ p ∈ es, p.1 ≠ key) → r = z ∧ b = false) (h2 : ∀ (j : Nat) (p : Value × Value), es[j]? = some p → p.1 = key → r = p.2 ∧ b = true) (hd : okDst Γ.n dst = true) :
  LS P Γ ⟨dst, .lookup t m x c, ty, pos, after, none⟩ s (rd m (rd x [.obj id])) (dst1 dst (match c with | true => .tup [.v r, .v (.bool b)] | false => .v r)) [] :=
 ls_pure hd fun t' ht μ a w hR => by
  obtain ⟨e1, ht⟩ := ht.ev hm
  obtain ⟨e2, ht⟩ := ht.ev hx
  have e0 : find t'.σ id = some (.mp (.m es)) := ht.1.trans hσ
  have e1 := hR.ev e1
  have e2 := conv_rep hk (hR.ev e2)
  simp only [rep] at e1
  obtain ⟨g, ents, ck, h3, h4, h5, hbo⟩ := obj_map (hR.store.obj id _ e0)
  have hall' : ∀ e ∈ ents.toList, ∃ l, keyOf P kt e.key = some l := fun e he => hall (e.key, e.val) (by rw [← h5]; exact List.mem_map.2 ⟨e, he, rfl⟩)
  have hrun : (Instr.lookup t (.map (some g)) key c).run P w = .ok (if c then .tuple #[r, .bool b] else r) w := by
   rcases K.find w hkey ents.toList hall' with ⟨h6, h7⟩ | ⟨j, e, h6, h7, h8⟩
   ·obtain ⟨rfl, rfl⟩ := h1 fun p hp => by
     rw [← h5] at hp
     obtain ⟨e, he, rfl⟩ := List.mem_map.1 hp
     exact h7 e he
    simp [Instr.lookup, run_underlying hu, MapKept.run_getObj_map h4, K.check w _ hkey, h6, hz]
   ·obtain ⟨rfl, rfl⟩ := h2 j (e.key, e.val) (by rw [← h5, List.getElem?_map, h7]; rfl) h8
    simp [Instr.lookup, run_underlying hu, MapKept.run_getObj_map h4, K.check w _ hkey, h6]
  refine ⟨if c then .tuple #[r, .bool b] else r, by simp only [execOp, e1.2.1, h3, e2, Sem.run_bind, hrun, Result.andThen_ok, Sem.run_pure], ?_⟩
  cases c
  ·simp only [rep]; exact ⟨rfl, hr⟩
  ·simp only [rep, repL]; exact ⟨[_, _], rfl, _, _, rfl, ⟨rfl, hr⟩, _, _, rfl, ⟨rfl, rfl⟩, rfl⟩
end
end Go.Proofs.Ytlgbadlgfdlheaa
namespace Go.Proofs.Ytlgbadlgfdlheaa
open Go.RowKit Go.ChangeMaps Go.MapKept
section
variable {P : Program} {Γ : Ctx} {s : ASt} {Q : Exit → ASt → Prop} {ops : Array Oper} {rest : List Oper}
variable {dst : Option Tmp} {ty : TypeId} {pos : String} {after : Array Edge}
theorem obj_g {σ : Store} {μ : Nat → Value} {w : World} {A : Nat → Prop} {id b : Nat} {es : List (Value × Value)} (h : ObjRel σ μ w A id (.mp (.g es b))) : ∃ ents ck, μ id = .map (some b) ∧ w.heap[b]? = some (.map ents ck) ∧ ents.toList.map (fun e => (e.key, e.val)) = es ∧ Borns ents ck := by
 obtain ⟨g, v, ob, h1, h2, h3, ents, ck, rfl, rfl, h4, h5⟩ := h
 simp only [blk, Option.some.injEq] at h2
 subst h2
 exact ⟨ents, ck, h1, h3, h4, h5⟩
end
end Go.Proofs.Ytlgbadlgfdlheaa
namespace Go.Proofs.Ytlgbadlgfdlheaa
open Go.RowKit Go.ChangeMaps Go.MapKept
section
variable {P : Program} {Γ : Ctx} {s : ASt} {Q : Exit → ASt → Prop} {ops : Array Oper} {rest : List Oper}
variable {dst : Option Tmp} {ty : TypeId} {pos : String} {after : Array Edge}
theorem o_known {id : Nat} {es : List (Value × Value)} (hσ : find s.σ id = some (.mp (.m es))) (h : ∀ b, AOps P Γ ops rest Q (s.eff [] [(id, .mp (.g es b))])) : AOps P Γ ops rest Q s :=
 ⟨fun hnd μ a w hr => by
  obtain ⟨g, ents, ck, h1, h2, h3, hbo⟩ := obj_map (hr.store.obj id _ hσ)
  exact (h g).out hnd μ a w (store_rel hr hσ (g := g) (by rw [h1]; rfl) rfl rfl rfl rfl (fun _ _ => rfl) trivial (fun A hst hA => ⟨g, _, _, h1, rfl, h2, ents, ck, rfl, rfl, h3, hbo⟩))⟩
theorem rep_g {σ : Store} {μ : Nat → Value} {w : World} {A A' : Nat → Prop} {id b : Nat} {es : List (Value × Value)} {y : Value} (ho : ObjRel σ μ w A' id (.mp (.g es b))) (h : rep σ μ w A (.mp id) y) : y = .map (some b) := by
 obtain ⟨_, _, h1, _⟩ := obj_g ho
 simp only [rep] at h
 exact h.2.1.trans h1
theorem obj_gI {σ : Store} {μ : Nat → Value} {w : World} {A : Nat → Prop} {id b : Nat} {es : List (Value × Value)} (h : ∃ ents ck, μ id = .map (some b) ∧ w.heap[b]? = some (.map ents ck) ∧ ents.toList.map (fun e => (e.key, e.val)) = es ∧ Borns ents ck) : ObjRel σ μ w A id (.mp (.g es b)) := by
 obtain ⟨ents, ck, h1, h2, h3, h4⟩ := h
 exact ⟨b, _, _, h1, rfl, h2, ents, ck, rfl, rfl, h3, h4⟩
theorem upd_run {kt : TypeId} (K : WideMaps.KeyLaw P kt) {t et g ck : Nat} {ents : Array MapEntry} {es es' : List (Value × Value)} {key val : Value} {kl : Lit} {w : World} (hu : P.underlying t = some (.map kt et))
  (hkey : keyOf P kt key = some kl) (hall : ∀ p ∈ es, ∃ l, keyOf P kt p.1 = some l) (h1 : (∀ p ∈ es, p.1 ≠ key) → es' = es ++ [(key, val)]) (h2 : ∀ j p, es[j]? = some p → p.1 = key → es' = es.set j (key, val))
  (h4 : w.heap[g]? = some (.map ents ck)) (h5 : ents.toList.map (fun e => (e.key, e.val)) = es) (hbo : Borns ents ck) :
  ∃ ents' ck', (Instr.mapUpdate t (.map (some g)) key val).run P w = .ok () { w with heap := w.heap.setIfInBounds g (.map ents' ck') } ∧ ents'.toList.map (fun e => (e.key, e.val)) = es' ∧ Borns ents' ck' := by
 have hall' : ∀ e ∈ ents.toList, ∃ l, keyOf P kt e.key = some l := fun e he => by
  have := hall (e.key, e.val) (by rw [← h5]; exact List.mem_map.2 ⟨e, he, rfl⟩)
  exact this
 rcases K.find w hkey ents.toList hall' with ⟨h6, h7⟩ | ⟨j, e, h6, h7, h8⟩
 ·refine ⟨ents.push { key, val := val, born := ck }, ck + 1, ?_, ?_, borns_push hbo _ _⟩
  ·simp [Instr.mapUpdate, run_underlying hu, MapKept.run_getObj_map h4, K.check w false hkey, h6, MapKept.run_setObj_map _ h4]
  ·rw [Array.toList_push, List.map_append, h5]
   refine (h1 fun p hp => ?_).symm
   rw [← h5] at hp
   obtain ⟨e, he, rfl⟩ := List.mem_map.1 hp
   exact h7 e he
 ·have hj : j < ents.size := by simpa using (List.getElem?_eq_some_iff.1 h7).1
  have hge : ents[j]? = some e := by simpa using h7
  refine ⟨ents.modify j fun e => { e with key, val := val }, ck, ?_, ?_, borns_modify hbo j _ (fun _ => rfl)⟩
  ·simp [Instr.mapUpdate, run_underlying hu, MapKept.run_getObj_map h4, K.check w false hkey, h6, hge, h8, K.stays w hkey, MapKept.run_setObj_map _ h4]
  ·rw [h2 j (e.key, e.val) (by rw [← h5, List.getElem?_map, h7]; rfl) h8, ← h5, Array.toList_modify]
   apply List.ext_getElem?
   intro i
   rw [List.getElem?_map, List.getElem?_modify, List.getElem?_set, List.getElem?_map]
   by_cases hij : j = i
   ·subst hij
    rw [h7]
    simp [hj]
   ·simp [hij]
theorem ls_mapUpdateG {kt : TypeId} (K : WideMaps.KeyLaw P kt) {m x y : Operand} {t et id g : Nat} {es es' : List (Value × Value)} {kv vv : AV} {key val : Value} {kl : Lit}
  (hm : ev s m = some (.mp id)) (hx : ev s x = some kv) (hy : ev s y = some vv) (hσ : find s.σ id = some (.mp (.g es g))) (hu : P.underlying t = some (.map kt et)) (hk : conv kv = some key) (hv : conv vv = some val)
  (hkey : keyOf P kt key = some kl) (hall : ∀ p ∈ es, ∃ l, keyOf P kt p.1 = some l) (h1 : (∀ p ∈ es, p.1 ≠ key) → es' = es ++ [(key, val)]) (h2 : ∀ j p, es[j]? = some p → p.1 = key → es' = es.set j (key, val)) (hdst : dst = none) :
  LS P Γ ⟨dst, .mapUpdate t m x y, ty, pos, after, none⟩ s (rd m (rd x (rd y [.obj id]))) [] [(id, .mp (.g es' g))] := by
 refine ⟨fun t' ht Q μ a w hr K' hK => ?_⟩
 subst hdst
 obtain ⟨e1, ht⟩ := ht.ev hm
 obtain ⟨e2, ht⟩ := ht.ev hx
 obtain ⟨e3, ht⟩ := ht.ev hy
 have e0 : find t'.σ id = some (.mp (.g es g)) := ht.1.trans hσ
 have e1 := hr.ev e1
 have e2 := conv_rep hk (hr.ev e2)
 have e3 := conv_rep hv (hr.ev e3)
 have e1 := rep_g (hr.store.obj id _ e0) e1
 obtain ⟨ents, ck, h3, h4, h5, hbo⟩ := obj_g (hr.store.obj id _ e0)
 obtain ⟨ents', ck', hrun, hents⟩ := upd_run K hu hkey hall h1 h2 h4 h5 hbo
 unfold Oper.wp
 have hrun2 : (execOp a.eval ⟨none, .mapUpdate t m x y, ty, pos, after, none⟩).run P w = .ok .skip { w with heap := w.heap.setIfInBounds g (.map ents' ck') } := by
  simp only [execOp, e1, e2, e3, Sem.run_bind, hrun, Result.andThen_ok, Sem.run_pure]
 rw [hrun2]
 refine hK μ _ _ ?_
 refine store_rel hr e0 (g := g) (by rw [h3]; rfl) (by simp) rfl rfl rfl (fun b hb => ?_) trivial (fun A hst hA => ?_)
 ·simp only [Array.getElem?_setIfInBounds_ne (Ne.symm hb)]
 ·have hlt := (Array.getElem?_eq_some_iff.1 h4).1
  exact obj_gI ⟨ents', ck', h3, by simp [hlt], hents⟩
theorem ls_mapUpdateM {kt : TypeId} (K : WideMaps.KeyLaw P kt) {m x y : Operand} {t et id id2 b : Nat} {es es' es2 : List (Value × Value)} {kv : AV} {key : Value} {kl : Lit}
  (hm : ev s m = some (.mp id)) (hx : ev s x = some kv) (hy : ev s y = some (.mp id2)) (hσ : find s.σ id = some (.mp (.m es))) (hσ2 : find s.σ id2 = some (.mp (.g es2 b))) (hu : P.underlying t = some (.map kt et)) (hk : conv kv = some key)
  (hkey : keyOf P kt key = some kl) (hall : ∀ p ∈ es, ∃ l, keyOf P kt p.1 = some l) (h1 : (∀ p ∈ es, p.1 ≠ key) → es' = es ++ [(key, .map (some b))]) (h2 : ∀ j p, es[j]? = some p → p.1 = key → es' = es.set j (key, .map (some b))) (hdst : dst = none) :
  LS P Γ ⟨dst, .mapUpdate t m x y, ty, pos, after, none⟩ s (rd m (rd x (rd y [.obj id, .obj id2]))) [] [(id, .mp (.m es'))] := by
 refine ⟨fun t' ht Q μ a w hr K' hK => ?_⟩
 subst hdst
 obtain ⟨e1, ht⟩ := ht.ev hm
 obtain ⟨e2, ht⟩ := ht.ev hx
 obtain ⟨e3, ht⟩ := ht.ev hy
 have e0 : find t'.σ id = some (.mp (.m es)) := ht.1.trans hσ
 have e02 : find t'.σ id2 = some (.mp (.g es2 b)) := ht.2.1.trans hσ2
 have e1 := hr.ev e1
 have e2 := conv_rep hk (hr.ev e2)
 have e3 := rep_g (hr.store.obj id2 _ e02) (hr.ev e3)
 simp only [rep] at e1
 obtain ⟨g, ents, ck, h3, h4, h5, hbo⟩ := obj_map (hr.store.obj id _ e0)
 obtain ⟨ents', ck', hrun, hents⟩ := upd_run K hu hkey hall h1 h2 h4 h5 hbo
 unfold Oper.wp
 have hrun2 : (execOp a.eval ⟨none, .mapUpdate t m x y, ty, pos, after, none⟩).run P w = .ok .skip { w with heap := w.heap.setIfInBounds g (.map ents' ck') } := by
  simp only [execOp, e1.2.1, h3, e2, e3, Sem.run_bind, hrun, Result.andThen_ok, Sem.run_pure]
 rw [hrun2]
 refine hK μ _ _ ?_
 refine store_rel hr e0 (g := g) (by rw [h3]; rfl) (by simp) rfl rfl rfl (fun b hb => ?_) trivial (fun A hst hA => ?_)
 ·simp only [Array.getElem?_setIfInBounds_ne (Ne.symm hb)]
 ·have hlt := (Array.getElem?_eq_some_iff.1 h4).1
  exact obj_mapI ⟨g, ents', ck', h3, by simp [hlt], hents⟩
theorem ls_lookupM {kt : TypeId} (K : WideMaps.KeyLaw P kt) {m x : Operand} {t et id id2 b : Nat} {es es2 : List (Value × Value)} {kv : AV} {key : Value} {kl : Lit}
  (hm : ev s m = some (.mp id)) (hx : ev s x = some kv) (hσ : find s.σ id = some (.mp (.m es))) (hσ2 : find s.σ id2 = some (.mp (.g es2 b))) (hu : P.underlying t = some (.map kt et)) (hk : conv kv = some key)
  (hkey : keyOf P kt key = some kl) (hall : ∀ p ∈ es, ∃ l, keyOf P kt p.1 = some l) (h1 : ∃ p ∈ es, p.1 = key) (h2 : ∀ (j : Nat) (p : Value × Value), es[j]? = some p → p.1 = key → p.2 = .map (some b)) (hd : okDst Γ.n dst = true) :
  LS P Γ ⟨dst, .lookup t m x false, ty, pos, after, none⟩ s (rd m (rd x [.obj id, .obj id2])) (dst1 dst (.mp id2)) [] :=
 ls_pure hd fun t' ht μ a w hR => by
  obtain ⟨e1, ht⟩ := ht.ev hm
  obtain ⟨e2, ht⟩ := ht.ev hx
  have e0 : find t'.σ id = some (.mp (.m es)) := ht.1.trans hσ
  have e02 : find t'.σ id2 = some (.mp (.g es2 b)) := ht.2.1.trans hσ2
  have e1 := hR.ev e1
  have e2 := conv_rep hk (hR.ev e2)
  simp only [rep] at e1
  obtain ⟨g, ents, ck, h3, h4, h5, hbo⟩ := obj_map (hR.store.obj id _ e0)
  obtain ⟨_, _, h9, _⟩ := obj_g (hR.store.obj id2 _ e02)
  have hall' : ∀ e ∈ ents.toList, ∃ l, keyOf P kt e.key = some l := fun e he => hall (e.key, e.val) (by rw [← h5]; exact List.mem_map.2 ⟨e, he, rfl⟩)
  have hrun : (Instr.lookup t (.map (some g)) key false).run P w = .ok (.map (some b)) w := by
   rcases K.find w hkey ents.toList hall' with ⟨h6, h7⟩ | ⟨j, e, h6, h7, h8⟩
   ·exfalso
    obtain ⟨p, hp, hpk⟩ := h1
    rw [← h5] at hp
    obtain ⟨e, he, rfl⟩ := List.mem_map.1 hp
    exact h7 e he hpk
   ·have hv := h2 j (e.key, e.val) (by rw [← h5, List.getElem?_map, h7]; rfl) h8
    dsimp only at hv
    simp [Instr.lookup, run_underlying hu, MapKept.run_getObj_map h4, K.check w _ hkey, h6, hv]
  refine ⟨.map (some b), by simp only [execOp, e1.2.1, h3, e2, Sem.run_bind, hrun, Result.andThen_ok, Sem.run_pure], ?_⟩
  simp only [rep]
  exact ⟨rfl, h9.symm, _, e02⟩
theorem ls_lookupG {kt : TypeId} (K : WideMaps.KeyLaw P kt) {m x : Operand} {t et id g : Nat} {es : List (Value × Value)} {kv : AV} {key r z : Value} {b : Bool} {kl : Lit} (c : Bool)
  (hm : ev s m = some (.mp id)) (hx : ev s x = some kv) (hσ : find s.σ id = some (.mp (.g es g))) (hu : P.underlying t = some (.map kt et)) (hk : conv kv = some key) (hz : ∀ w, (zeroValue et).run P w = .ok z w) (hr : scal r = true)
  (hkey : keyOf P kt key = some kl) (hall : ∀ p ∈ es, ∃ l, keyOf P kt p.1 = some l) (h1 : (∀ p ∈ es, p.1 ≠ key) → r = z ∧ b = false) (h2 : ∀ (j : Nat) (p : Value × Value), es[j]? = some p → p.1 = key → r = p.2 ∧ b = true) (hd : okDst Γ.n dst = true) :
  LS P Γ ⟨dst, .lookup t m x c, ty, pos, after, none⟩ s (rd m (rd x [.obj id])) (dst1 dst (match c with | true => .tup [.v r, .v (.bool b)] | false => .v r)) [] :=
 ls_pure hd fun t' ht μ a w hR => by
  obtain ⟨e1, ht⟩ := ht.ev hm
  obtain ⟨e2, ht⟩ := ht.ev hx
  have e0 : find t'.σ id = some (.mp (.g es g)) := ht.1.trans hσ
  have e1 := rep_g (hR.store.obj id _ e0) (hR.ev e1)
  have e2 := conv_rep hk (hR.ev e2)
  obtain ⟨ents, ck, h3, h4, h5, hbo⟩ := obj_g (hR.store.obj id _ e0)
  have hall' : ∀ e ∈ ents.toList, ∃ l, keyOf P kt e.key = some l := fun e he => hall (e.key, e.val) (by rw [← h5]; exact List.mem_map.2 ⟨e, he, rfl⟩)
  have hrun : (Instr.lookup t (.map (some g)) key c).run P w = .ok (if c then .tuple #[r, .bool b] else r) w := by
   rcases K.find w hkey ents.toList hall' with ⟨h6, h7⟩ | ⟨j, e, h6, h7, h8⟩
   ·obtain ⟨rfl, rfl⟩ := h1 fun p hp => by
     rw [← h5] at hp
     obtain ⟨e, he, rfl⟩ := List.mem_map.1 hp
     exact h7 e he
    simp [Instr.lookup, run_underlying hu, MapKept.run_getObj_map h4, K.check w _ hkey, h6, hz]
   ·obtain ⟨rfl, rfl⟩ := h2 j (e.key, e.val) (by rw [← h5, List.getElem?_map, h7]; rfl) h8
    simp [Instr.lookup, run_underlying hu, MapKept.run_getObj_map h4, K.check w _ hkey, h6]
  refine ⟨if c then .tuple #[r, .bool b] else r, by simp only [execOp, e1, e2, Sem.run_bind, hrun, Result.andThen_ok, Sem.run_pure], ?_⟩
  cases c
  ·simp only [rep]; exact ⟨rfl, hr⟩
  ·simp only [rep, repL]; exact ⟨[_, _], rfl, _, _, rfl, ⟨rfl, hr⟩, _, _, rfl, ⟨rfl, rfl⟩, rfl⟩
theorem run_eqMnil {t kt et : TypeId} (hp : P.underlying t = some (.map kt et)) (w : World) : (binOp .eql t (.map none) (.map none)).run P w = .ok (.bool true) w := by
 have h : ∀ d : Nat, (Op.equalIn (d + 1) t (.map none) (.map none)).run P w = .ok true w := fun d => by
  simp [Op.equalIn, run_underlying hp]
 simp only [binOp]
 simp [Op.equal, Op.maxDepth, h 9999]
theorem run_eqMsome {t kt et : TypeId} (hp : P.underlying t = some (.map kt et)) (b : Nat) (w : World) : (binOp .eql t (.map (some b)) (.map none)).run P w = .ok (.bool false) w := by
 have h : ∀ d : Nat, (Op.equalIn (d + 1) t (.map (some b)) (.map none)).run P w = .ok false w := fun d => by
  simp [Op.equalIn, run_underlying hp]
 simp only [binOp]
 simp [Op.equal, Op.maxDepth, h 9999]
theorem ls_eqMN {x : Operand} {t kt et yt : TypeId} {id g : Nat} {es : List (Value × Value)} (hp : P.underlying t = some (.map kt et)) (hx : ev s x = some (.mp id)) (hσ : find s.σ id = some (.mp (.g es g))) (hd : okDst Γ.n dst = true) :
  LS P Γ ⟨dst, .binOp .eql t x (.const (.map none)) yt, ty, pos, after, none⟩ s (rd x [.obj id]) (dst1 dst (.v (.bool false))) [] :=
 ls_pure hd fun t' ht μ a w hR => by
  obtain ⟨e1, ht⟩ := ht.ev hx
  have e0 : find t'.σ id = some (.mp (.g es g)) := ht.1.trans hσ
  have e1 := rep_g (hR.store.obj id _ e0) (hR.ev e1)
  refine ⟨.bool false, ?_, by simp [rep, scal]⟩
  have he : a.eval (.const (.map none)) = .map none := rfl
  simp [execOp, e1, he, eqGuard, run_eqMsome hp g w]
theorem ls_eqNN {x : Operand} {t kt et yt : TypeId} (hp : P.underlying t = some (.map kt et)) (hx : ev s x = some (.v (.map none))) (hd : okDst Γ.n dst = true) :
  LS P Γ ⟨dst, .binOp .eql t x (.const (.map none)) yt, ty, pos, after, none⟩ s (rd x []) (dst1 dst (.v (.bool true))) [] :=
 ls_pure hd fun t' ht μ a w hR => by
  obtain ⟨e1, ht⟩ := ht.ev hx
  have e1 := hR.ev e1
  simp only [rep] at e1
  refine ⟨.bool true, ?_, by simp [rep, scal]⟩
  have he : a.eval (.const (.map none)) = .map none := rfl
  simp [execOp, e1.1, he, eqGuard, run_eqMnil hp w]
end
structure In1 where
 win : Value
 b : Nat
 es : List (Value × Value)
def innF (k : Nat) : List In1 → Store
 | [] => []
 | x :: l => (k, .mp (.g x.es x.b)) :: innF (k + 1) l
theorem inn_lt {k id : Nat} : ∀ {l : List In1}, id < k → find (innF k l) id = none
 | [], _ => rfl
 | x :: l, h => by
  simp only [innF, find_cons]
  rw [if_neg (by omega)]
  exact inn_lt (l := l) (by omega)
theorem inn_at : ∀ {l : List In1} {k i : Nat}, find (innF k l) (i + k) = l[i]?.map fun x => .mp (.g x.es x.b)
 | [], k, i => by simp [innF, find]
 | x :: l, k, 0 => by simp [innF, find_cons]
 | x :: l, k, i + 1 => by
  simp only [innF, find_cons]
  rw [if_neg (by omega), show i + 1 + k = i + (k + 1) by omega, inn_at]
  simp
theorem kept_inn {σ σ' : Store} : ∀ {l : List In1} {k : Nat}, (∀ i x, l[i]? = some x → find σ (i + k) = some (.mp (.g x.es x.b))) → Kept σ σ' (innF k l)
 | [], k, _ => trivial
 | x :: l, k, h => ⟨⟨_, by have := h 0 x rfl; rwa [Nat.zero_add] at this, rfl⟩, rfl, kept_inn fun i y hy => by
  have := h (i + 1) y (by simpa using hy)
  rwa [show i + 1 + k = i + (k + 1) by omega] at this⟩
end Go.Proofs.Ytlgbadlgfdlheaa
