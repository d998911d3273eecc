/-
  An event put into its windows by the model, walked over abstract values.
    What must come out of a job and inputs by the model, walked over abstract values.
    The laws of the model: is it alive; few inputs.
  The helpers of the law TopMarks, walked over abstract values.
  Rows of panes cut by a property of their places. Plain.
  Marks, walked over abstract values: an input that tells a time, or is idle; what can be told.
-/
import Derived.Test.YtilgagmfcdfjaaaGreatL4
import Derived.Test.YtilgagmfcdfjaaaGreatL9
import Derived.Test.YtilgagmfcdfjaaaGreatL10
import Derived.Test.YtilgagmfcdfjaaaGreatL11
import Derived.Test.YtilgagmfcdfjaaaGreatL12
import Derived.Test.YtilgagmfcdfjaaaGreatL13
namespace Go.Proofs.YtilgagmfcdfjaaaGreat
open Go.RowKit
set_option linter.unusedSimpArgs false
set_option linter.unusedVariables false
/-- a function that gives a fresh row, which is then only read -/
theorem pc_of_own {P : Program} {f : FuncId} {args : List AV} {e size : Nat} {xs : List (List AV)} (h : AC P f args [] (.own 0 xs.length) [(0, .row e size xs)]) : PC P f args (.sl size xs) := by
  refine ⟨h.ok, fun w M μ vs hs hr => (h.out w M μ vs hs hr).mono ?_⟩
  rintro r w' ⟨y, μ', rfl, h1, h2, h3⟩
  have hk : Kept [((0 : Nat), SObj.row e size xs)] [] [] := trivial
  refine ⟨y, μ', rfl, hk.srel h1, finA_rep h1 hk (FinA.one (FinB.cell ?_)) h2, hk.gro h3 (fun id o hf => by simp [find] at hf)⟩
  exact FinC.own rfl rfl rfl rfl
theorem p_OfS (size slide t : Int) : PC Tryz.prog 51 [.v (.int .i64 size), .v (.int .i64 slide), .v (.int .i64 t)] (.sl 2 ((winL size slide t).map Wn.av)) := pc_of_own (p_Of size slide t)
/-- a value put into windows, one behind the other; what is there when one fails stays -/
def gW (k : Int) (key : ByteArray) (v : Int) : List Pn → List Wn → List Pn × Int
  | ps, [] => (ps, 0)
  | ps, w :: ws => if (addR k ps (oneP k w.lo w.hi key v)).2 = 0 then gW k key v (addR k ps (oneP k w.lo w.hi key v)).1 ws else (ps, (addR k ps (oneP k w.lo w.hi key v)).2)
theorem gW_take {k : Int} {key : ByteArray} {v : Int} : ∀ {ws : List Wn} {ps : List Pn}, (gW k key v ps ws).2 = (takeW k key v ps ws).2 ∧ ((takeW k key v ps ws).2 = 0 → (gW k key v ps ws).1 = (takeW k key v ps ws).1)
  | [], ps => ⟨rfl, fun _ => rfl⟩
  | w :: ws, ps => by
    unfold gW takeW
    split
    · exact gW_take
    · exact ⟨rfl, fun h => by simp_all⟩
section
variable (g s d k fu li de id : Int) (ps : List Pn) (key : ByteArray) (at' v : Int)
theorem gW_bad {k : Int} {key : ByteArray} {v : Int} {ps : List Pn} {ws : List Wn} {q : Nat} (hq : q < ws.length) {e : Int} (h : addR k ps (oneP k ws[q].lo ws[q].hi key v) = ([], e)) (he : e ≠ 0) : gW k key v ps (ws.drop q) = (ps, e) := by
  rw [List.drop_eq_getElem_cons hq, gW, h]
  simp [he]
theorem gW_ok {k : Int} {key : ByteArray} {v : Int} {ps ps' : List Pn} {ws : List Wn} {q : Nat} (hq : q < ws.length) (h : addR k ps (oneP k ws[q].lo ws[q].hi key v) = (ps', 0)) : gW k key v ps (ws.drop q) = gW k key v ps' (ws.drop (q + 1)) := by
  rw [List.drop_eq_getElem_cons hq, gW, h]
  simp
/-- the box of what is gathered -/
def gthAv (g s d k fu li de id : Int) (ps : List Pn) (bad : Int) : List AV := [.v (.int .i64 g), .v (.int .i64 s), .v (.int .i64 d), .v (.int .i64 k), .v (.int .i64 fu), .v (.int .i64 li), .v (.int .i64 de), .v (.int .i64 id), .sl 6 (ps.map Pn.av), .v (.int .i64 bad)]
set_option maxHeartbeats 8000000 in
set_option maxRecDepth 20000 in
theorem m_take (hx : ps.length ≤ 9223372036854775807) :
    AC Tryz.prog 32 [.ref 0 0, .agg [.v (.string key), .v (.int .i64 at'), .v (.int .i64 v)]] [(0, .box 84 (gthAv g s d k fu li de id ps 0))] (.v (.bool (decide ((gW k key v ps (winL s d at')).2 = 0)))) [(0, .box 84 (gthAv g s d k fu li de id (gW k key v ps (winL s d at')).1 (gW k key v ps (winL s d at')).2))] := by
  have ho := p_OfS s d at'
  have hol := winL_len s d at'
  generalize winL s d at' = ws at *
  refine (ac_body tab_ok Tryz.func32 rfl (by kernel_rfl) rfl ?_); intro w0 M μ0; simp only [Tryz.ntmps32, List.length_cons, List.length_nil, Nat.reduceAdd, Nat.reduceSub, numb]
  repeat' (first | ((first | apply o_do | apply d_do | apply d_yes rfl rfl rfl); first | exact lsc (ho) | exact ls_nilCheck rfl rfl | exact lsq) | refine a_seq ?_ | refine a_region ?_ | refine o_nil ?_ | refine a_block ?_ | refine a_ret ?_ | refine a_exit ?_ | refine a_skip ?_ | refine a_draw mixed ?_ | refine d_nil (by kernel_rfl) ?_ | refine o_yes rfl rfl rfl ?_ | refine o_no rfl rfl rfl (by decide) ?_ | refine o_no' rfl rfl rfl ?_ | refine a_condT rfl ?_ | refine a_condF rfl ?_ | refine d_no rfl rfl rfl (by decide) ?_ | refine d_no' rfl rfl rfl ?_ | (refine wq2 (fun hb => ?_) (fun hb => ?_) <;> (simp only [hb]; try simp only [hbs, ne_eq] at hb; try (exfalso; first | omega | exact hb trivial))) | fail)
  refine a_loop (X := {x : Nat × List Pn // x.1 ≤ ws.length ∧ gW k key v ps ws = gW k key v x.2 (ws.drop x.1) ∧ x.2.length ≤ 9223372036854775807}) (fun x => ⟨[(0, .ref 0 0), (3, .ref 1 0), (21, .sl 2 (ws.map Wn.av)), (22, .v (.int .i64 ws.length)), (23, .v (.int .i64 x.1.1))], [(0, .box 84 (gthAv g s d k fu li de id x.1.2 0)), (1, .box 57 [.v (.string key), .v (.int .i64 at'), .v (.int .i64 v)])]⟩) (fun x => ws.length - x.1.1) ⟨(0, ps), Nat.zero_le _, rfl, hx⟩ ?_ ?_
  · exact wkS
  rintro ⟨⟨q, cur⟩, hq, htk, hc⟩
  dsimp only at hq htk hc ⊢
  rw [htk]
  by_cases hlt : q < ws.length
  · have hel : (ws.map Wn.av)[q]? = some (Wn.av ws[q]) := by simp [hlt]
    have hA := p_Add cur k key ws[q].lo ws[q].hi v hc
    rcases addR_form k cur (oneP k ws[q].lo ws[q].hi key v) with ⟨l, hl, hll⟩ | ⟨e, hl, hne⟩
    · have ht := gW_ok hlt hl
      rw [hl] at hA
      dsimp only [PR.av] at hA
      rw [ht]
      generalize ws[q] = w at *
      repeat' (first | ((first | apply o_do | apply d_do | apply d_yes rfl rfl rfl); first | exact lsc (hA) | exact ls_nilCheck rfl rfl | exact ls_indexAddr_sl tab_ok rfl rfl rfl rfl hel rfl | exact lsq) | refine a_seq ?_ | refine a_region ?_ | refine o_nil ?_ | refine a_block ?_ | refine a_ret ?_ | refine a_exit ?_ | refine a_skip ?_ | refine a_draw mixed ?_ | refine d_nil (by kernel_rfl) ?_ | refine o_yes rfl rfl rfl ?_ | refine o_no rfl rfl rfl (by decide) ?_ | refine o_no' rfl rfl rfl ?_ | refine a_condT rfl ?_ | refine a_condF rfl ?_ | refine d_no rfl rfl rfl (by decide) ?_ | refine d_no' rfl rfl rfl ?_ | (refine wq2 (fun hb => ?_) (fun hb => ?_) <;> (simp only [hb]; try simp only [hbs, ne_eq] at hb; try (exfalso; first | omega | exact hb trivial))) | fail)
      refine ⟨⟨(q + 1, l), by dsimp only; omega, rfl, by dsimp only; omega⟩, by dsimp only; omega, ?_⟩
      exact wkS
    · have ht := gW_bad hlt hl hne
      rw [hl] at hA
      dsimp only [PR.av] at hA
      rw [ht]
      simp only [if_neg hne]
      generalize ws[q] = w at *
      repeat' (first | ((first | apply o_do | apply d_do | apply d_yes rfl rfl rfl); first | exact lsc (hA) | exact ls_nilCheck rfl rfl | exact ls_indexAddr_sl tab_ok rfl rfl rfl rfl hel rfl | exact lsq) | refine a_seq ?_ | refine a_region ?_ | refine o_nil ?_ | refine a_block ?_ | refine a_ret ?_ | refine a_exit ?_ | refine a_skip ?_ | refine a_draw mixed ?_ | refine d_nil (by kernel_rfl) ?_ | refine o_yes rfl rfl rfl ?_ | refine o_no rfl rfl rfl (by decide) ?_ | refine o_no' rfl rfl rfl ?_ | refine a_condT rfl ?_ | refine a_condF rfl ?_ | refine d_no rfl rfl rfl (by decide) ?_ | refine d_no' rfl rfl rfl ?_ | (refine wq2 (fun hb => ?_) (fun hb => ?_) <;> (simp only [hb]; try simp only [hbs, ne_eq] at hb; try (exfalso; first | omega | exact hb trivial))) | fail)
      all_goals refine rq rfl ?_
      all_goals (first | refine FinA.tup ?_ | refine FinA.one ?_); repeat' (first | exact FinBs.nil | exact FinCs.nil | refine FinBs.cons ?_ ?_ | refine FinCs.cons ?_ ?_ | refine FinB.cell (FinC.v ?_) | refine FinB.cell (FinC.own rfl rfl rfl ?_) | exact FinB.cell FinC.nil | refine FinB.cell (FinC.sl ?_) | exact FinB.agg' rfl rfl | exact FinB.cell (FinC.same rfl) | refine FinB.agg ?_ | refine FinC.v ?_ | refine FinC.own rfl rfl rfl ?_ | exact FinC.nil | refine FinC.sl ?_ | exact FinC.same rfl); all_goals try rfl
      all_goals simp [hne]
  · obtain rfl : q = ws.length := by omega
    rw [List.drop_length]
    simp only [gW, if_true]
    repeat' (first | ((first | apply o_do | apply d_do | apply d_yes rfl rfl rfl); exact lsq) | refine a_seq ?_ | refine a_region ?_ | refine o_nil ?_ | refine a_block ?_ | refine a_ret ?_ | refine a_exit ?_ | refine a_skip ?_ | refine a_draw mixed ?_ | refine d_nil (by kernel_rfl) ?_ | refine o_yes rfl rfl rfl ?_ | refine o_no rfl rfl rfl (by decide) ?_ | refine o_no' rfl rfl rfl ?_ | refine a_condT rfl ?_ | refine a_condF rfl ?_ | refine d_no rfl rfl rfl (by decide) ?_ | refine d_no' rfl rfl rfl ?_ | (refine wq2 (fun hb => ?_) (fun hb => ?_) <;> (simp only [hb]; try simp only [hbs, ne_eq] at hb; try (exfalso; first | omega | exact hb trivial))) | fail)
    all_goals refine rq rfl ?_
    all_goals (first | refine FinA.tup ?_ | refine FinA.one ?_); repeat' (first | exact FinBs.nil | exact FinCs.nil | refine FinBs.cons ?_ ?_ | refine FinCs.cons ?_ ?_ | refine FinB.cell (FinC.v ?_) | refine FinB.cell (FinC.own rfl rfl rfl ?_) | exact FinB.cell FinC.nil | refine FinB.cell (FinC.sl ?_) | exact FinB.agg' rfl rfl | exact FinB.cell (FinC.same rfl) | refine FinB.agg ?_ | refine FinC.v ?_ | refine FinC.own rfl rfl rfl ?_ | exact FinC.nil | refine FinC.sl ?_ | exact FinC.same rfl); all_goals try rfl
    all_goals simp
end
end Go.Proofs.YtilgagmfcdfjaaaGreat
namespace Go.Proofs.YtilgagmfcdfjaaaGreat
open Go.RowKit
set_option linter.unusedSimpArgs false
set_option linter.unusedVariables false
/-- a box whose cells are told otherwise -/
theorem a_swap {P : Program} {Γ : Ctx} {Q : Exit → ASt → Prop} {s : ASt} {c : Code} (b : Nat) {bt : TypeId} {cs : List AV} (cs' : List AV) (hb : find s.σ b = some (.box bt cs)) (hl : cs'.length = cs.length) (hc : ∀ σ μ w A us, repC σ μ w A cs us → repC σ μ w A cs' us)
    (h : AWP P Γ c Q ⟨s.regs, upd s.σ b (.box bt cs')⟩) : AWP P Γ c Q s := ⟨fun μ a w hr => h.out μ a w (Rel.swap (regs := s.regs) hr hb hl (fun us => hc _ _ _ _ us))⟩
theorem allK_len {li fu de : Int} : ∀ {ls : List (List Et)}, (∀ es ∈ ls, es.length ≤ 200) → (allK li fu de ls).length ≤ 200 * ls.length
  | [], _ => by simp [allK]
  | es :: ls, h => by
    have h1 := allK_len (li := li) (fu := fu) (de := de) (ls := ls) fun x hx => h x (by simp [hx])
    have h2 := h es (by simp)
    have h3 := keptE_len (li := li) (fu := fu) (de := de) (es := es) (m := 0)
    unfold allK at *
    rw [List.flatMap_cons, List.length_append, List.length_cons]
    omega
theorem allK_ok {li fu de : Int} {ls : List (List Et)} (h : ∀ es ∈ ls, ∀ e ∈ es, evR e.key e.at' = true) : ∀ e ∈ allK li fu de ls, evR e.key e.at' = true := by
  intro e he
  obtain ⟨es, h1, h2⟩ := List.mem_flatMap.1 he
  exact keptE_ok (h es h1) e h2
/-- what must come out, or why nothing does -/
def runN (g s d k fu li de id : Int) (ls : List (List Et)) : List Rs × Int := if checkN g s d k fu li de id ls = 0 then outR k (allVals s d (allK li fu de ls)) else ([], checkN g s d k fu li de id ls)
def RR.av (r : List Rs × Int) : AV := .tup [.sl 5 (r.1.map Rs.av), .v (.int .i64 r.2)]
section
variable (g s d k fu li de id : Int) (ls : List (List Et))
set_option maxHeartbeats 8000000 in
set_option maxRecDepth 20000 in
theorem m_Run (hx : Small ls) (hls : ∀ es ∈ ls, ∀ e ∈ es, -9223372036854775808 ≤ e.v ∧ e.v ≤ 9223372036854775807) (hli : li ≤ 9223372036854775807) :
    PC Tryz.prog 8 [.agg [.v (.int .i64 g), .v (.int .i64 s), .v (.int .i64 d), .v (.int .i64 k), .v (.int .i64 fu), .v (.int .i64 li), .v (.int .i64 de), .v (.int .i64 id)], .sl 1 (ls.map inAv)] (RR.av (runN g s d k fu li de id ls)) := by
  have hc := m_check g s d k fu li de id ls hx
  unfold runN
  by_cases h0 : checkN g s d k fu li de id ls = 0
  · obtain ⟨hfr, hw, hl4, hes⟩ := check_parts h0
    rw [h0] at hc
    simp only [h0, if_true]
    have hseq := seq_all g s d k fu li de id ls (fun es he => ⟨hls es he, by have := (hes es he).1; omega⟩) hli (by omega)
    have hKl := allK_len (li := li) (fu := fu) (de := de) (ls := ls) fun es he => (hes es he).1
    have hKo := allK_ok (li := li) (fu := fu) (de := de) (ls := ls) fun es he => (hes es he).2
    generalize allK li fu de ls = K at *
    refine PC.mk (ac_body tab_ok Tryz.func8 rfl (by kernel_rfl) rfl ?_); intro w0 M μ0; simp only [Tryz.ntmps8, List.length_cons, List.length_nil, Nat.reduceAdd, Nat.reduceSub, numb]
    repeat' (first | ((first | apply o_do | apply d_do | apply d_yes rfl rfl rfl); first | exact lsc (hc) | exact lsq) | refine a_seq ?_ | refine a_region ?_ | refine o_nil ?_ | refine a_block ?_ | refine a_ret ?_ | refine a_exit ?_ | refine a_skip ?_ | refine a_draw mixed ?_ | refine d_nil (by kernel_rfl) ?_ | refine o_yes rfl rfl rfl ?_ | refine o_no rfl rfl rfl (by decide) ?_ | refine o_no' rfl rfl rfl ?_ | refine a_condT rfl ?_ | refine a_condF rfl ?_ | refine d_no rfl rfl rfl (by decide) ?_ | refine d_no' rfl rfl rfl ?_ | (refine wq2 (fun hb => ?_) (fun hb => ?_) <;> (simp only [hb]; try simp only [hbs, ne_eq] at hb; try (exfalso; first | omega | exact hb trivial))) | fail)
    refine a_weak (t := ⟨[(2, .el [.v (.int .i64 g), .v (.int .i64 s), .v (.int .i64 d), .v (.int .i64 k), .v (.int .i64 fu), .v (.int .i64 li), .v (.int .i64 de), .v (.int .i64 id)]), (4, .ref 2 0), (5, .ref 3 0), (7, .ref 5 0), (9, .ref 6 0), (23, .clo (.func 30) [] [.el [.sl 1 (ls.map inAv)], .el [.v (.int .i64 g), .v (.int .i64 s), .v (.int .i64 d), .v (.int .i64 k), .v (.int .i64 fu), .v (.int .i64 li), .v (.int .i64 de), .v (.int .i64 id)]])], [(2, .box 27 [.v (.slice none 0 0)]), (3, .box 28 [.v (.int .i64 0)]), (4, .box 84 [.v (.int .i64 g), .v (.int .i64 s), .v (.int .i64 d), .v (.int .i64 k), .v (.int .i64 fu), .v (.int .i64 li), .v (.int .i64 de), .v (.int .i64 id), .v (.slice none 0 0), .v (.int .i64 0)]), (5, .box 81 [.ref 4 0]), (6, .box 85 [.clo (.func 32) [.ref 4 0] []])]⟩) ?_ ?_
    · refine ⟨by repeat' (first | exact trivial | exact FinA.one (FinB.cell (FinC.same rfl)) | exact FinA.one (FinB.cell FinC.nil) | exact FinA.bound rfl | exact FinA.one (FinB.cell (FinC.own rfl rfl rfl rfl)) | exact FinA.one (FinB.cell (FinC.v (by first | rfl | (simp)))) | exact FinA.one (FinB.cell (FinC.ow rfl (by first | rfl | (simp)))) | exact FinA.one (FinB.agg' rfl rfl) | exact FinA.one (FinB.cell (FinC.el rfl rfl rfl rfl)) | refine FinA.clo ?_ ?_ | exact FinBs.nil | exact FinB.cell (FinC.same rfl) | exact FinB.cell (FinC.el rfl rfl rfl rfl) | refine FinBs.cons ?_ ?_ | refine ⟨⟨_, rfl, ?_⟩, ?_⟩), by repeat' (first | exact trivial | refine ⟨⟨_, rfl, by first | rfl | (simp; done) | (simp [renO, *]; done)⟩, by first | rfl | assumption, ?_⟩), rfl⟩
    refine a_swap 4 (gthAv g s d k fu li de id [] 0) rfl rfl (fun σ μ w A us h => ?_) ?_
    · simp only [gthAv, repC, rep] at h ⊢
      obtain ⟨a1, m1, rfl, o1, h1, a2, m2, rfl, o2, h2, a3, m3, rfl, o3, h3, a4, m4, rfl, o4, h4, a5, m5, rfl, o5, h5, a6, m6, rfl, o6, h6, a7, m7, rfl, o7, h7, a8, m8, rfl, o8, h8, a9, m9, rfl, o9, h9, a10, m10, rfl, o10, h10, rfl⟩ := h
      exact ⟨_, _, rfl, o1, h1, _, _, rfl, o2, h2, _, _, rfl, o3, h3, _, _, rfl, o4, h4, _, _, rfl, o5, h5, _, _, rfl, o6, h6, _, _, rfl, o7, h7, _, _, rfl, o8, h8, _, _, rfl, o9, ⟨none, 0, [], h9.1, Nat.le_refl _, by simp [maxLen], .inl rfl, by simp [repLL]⟩, _, _, rfl, o10, h10, rfl⟩
    refine a_range (fun x => .agg (Et.av x)) K rfl hseq rfl et_cav rfl (fun i => [(2, .box 27 [.v (.slice none 0 0)]), (3, .box 28 [.v (.int .i64 0)]), (4, .box 84 (gthAv g s d k fu li de id (rowV k (allVals s d (K.take i))) 0)), (5, .box 81 [.ref 4 0]), (6, .box 85 [.clo (.func 32) [.ref 4 0] []])]) (fun i => (rowV k (allVals s d (K.take i))).length ≤ 2000) rfl (fun _ _ => rfl) (by simp [allVals, rowV, insAll]) ?_ ?_
    · intro i x hxi hok W M' μi L
      have hil : i < K.length := (List.getElem?_eq_some_iff.1 hxi).1
      have hsn : allVals s d (K.take (i + 1)) = allVals s d (K.take i) ++ valsV s d x := by
        rw [take_snoc K i hil, allVals_snoc]
        have := (List.getElem?_eq_some_iff.1 hxi).2
        rw [this]
      have hxm : x ∈ K := List.mem_of_getElem? hxi
      have hvl := allVals_len (s := s) (d := d) (es := K.take i)
      rw [List.length_take, Nat.min_eq_left (by omega)] at hvl
      have htk := take_row (vs := allVals s d (K.take i)) (e := x) hfr hw (hKo x hxm) (allVals_ok hfr hw fun e he => hKo e (List.mem_of_mem_take he)) (by omega) hok
      have hT := m_take g s d k fu li de id (rowV k (allVals s d (K.take i))) x.key x.at' x.v (by omega)
      obtain ⟨hg1, hg2⟩ := gW_take (k := k) (key := x.key) (v := x.v) (ws := winL s d x.at') (ps := rowV k (allVals s d (K.take i)))
      dsimp only
      rw [hsn]
      rw [← hsn] at htk ⊢
      rw [htk] at hg1 hg2
      have hfin : ¬ (rowV k (allVals s d (K.take (i + 1)))).length ≤ 2000 → ¬ (rowV k (allVals s d K)).length ≤ 2000 := fun h1 h2 => h1 (by
        have e : allVals s d K = allVals s d (K.take (i + 1)) ++ allVals s d (K.drop (i + 1)) := by
          unfold allVals
          rw [← List.flatMap_append, List.take_append_drop]
        rw [e] at h2
        exact Nat.le_trans rowM_mono h2)
      generalize rowV k (allVals s d (K.take i)) = R at *
      generalize rowV k (allVals s d (K.take (i + 1))) = R' at *
      generalize gW k x.key x.v R (winL s d x.at') = G at *
      obtain ⟨G1, G2⟩ := G
      dsimp only at hg1 hg2 hT
      by_cases h2 : R'.length ≤ 2000
      · rw [if_pos h2] at hg1 hg2
        have hg2 := hg2 rfl
        dsimp only at hg1 hg2
        subst hg1 hg2
        repeat' (first | ((first | apply o_do | apply d_do | apply d_yes rfl rfl rfl); exact lsq) | refine a_seq ?_ | refine a_region ?_ | refine o_nil ?_ | refine a_block ?_ | refine a_ret ?_ | refine a_exit ?_ | refine a_skip ?_ | refine a_draw mixed ?_ | refine d_nil (by kernel_rfl) ?_ | refine o_yes rfl rfl rfl ?_ | refine o_no rfl rfl rfl (by decide) ?_ | refine o_no' rfl rfl rfl ?_ | refine a_condT rfl ?_ | refine a_condF rfl ?_ | refine d_no rfl rfl rfl (by decide) ?_ | refine d_no' rfl rfl rfl ?_ | (refine wq2 (fun hb => ?_) (fun hb => ?_) <;> (simp only [hb]; try simp only [hbs, ne_eq] at hb; try (exfalso; first | omega | exact hb trivial))) | fail)
        dsimp only [AThen1]
        intro W M' μi L d0
        repeat' (first | ((first | apply o_do | apply d_do | apply d_yes rfl rfl rfl); first | exact ls_callAB [4] 20 hT rfl rfl (by (repeat' (first | exact NilL.nil | refine NilL.cons Nil.same ?_ | refine NilL.cons Nil.nil ?_ | refine NilL.cons (Nil.agg ?_) ?_ | exact Nil1s.nil | refine Nil1s.cons Nil1.same ?_ | refine Nil1s.cons Nil1.nil ?_)); first | done | fail) rfl (by repeat' (first | exact trivial | refine ⟨⟨_, rfl, by first | rfl | (simp [renO, *]; done)⟩, ?_⟩)) (by first | rfl | simp [closO, *]) rfl rfl rfl rfl (by first | rfl | simp [closO, *]) rfl | exact lsq) | refine a_seq ?_ | refine a_region ?_ | refine o_nil ?_ | refine a_block ?_ | refine a_ret ?_ | refine a_exit ?_ | refine a_skip ?_ | refine a_draw mixed ?_ | refine d_nil (by kernel_rfl) ?_ | refine o_yes rfl rfl rfl ?_ | refine o_no rfl rfl rfl (by decide) ?_ | refine o_no' rfl rfl rfl ?_ | refine a_condT rfl ?_ | refine a_condF rfl ?_ | refine d_no rfl rfl rfl (by decide) ?_ | refine d_no' rfl rfl rfl ?_ | (refine wq2 (fun hb => ?_) (fun hb => ?_) <;> (simp only [hb]; try simp only [hbs, ne_eq] at hb; try (exfalso; first | omega | exact hb trivial))) | fail)
        refine ⟨h2, ?_⟩
        repeat' (first | exact trivial | refine ⟨⟨_, rfl, by first | rfl | (simp [renO, *]; done)⟩, by first | rfl | assumption, ?_⟩)
      · rw [if_neg h2] at hg1 hg2
        dsimp only at hg1 hg2
        subst hg1
        have hout : outR k (allVals s d K) = ([], 3) := by
          unfold outR
          rw [if_neg]
          intro h
          refine hfin h2 ?_
          exact h
        rw [hout]
        repeat' (first | ((first | apply o_do | apply d_do | apply d_yes rfl rfl rfl); exact lsq) | refine a_seq ?_ | refine a_region ?_ | refine o_nil ?_ | refine a_block ?_ | refine a_ret ?_ | refine a_exit ?_ | refine a_skip ?_ | refine a_draw mixed ?_ | refine d_nil (by kernel_rfl) ?_ | refine o_yes rfl rfl rfl ?_ | refine o_no rfl rfl rfl (by decide) ?_ | refine o_no' rfl rfl rfl ?_ | refine a_condT rfl ?_ | refine a_condF rfl ?_ | refine d_no rfl rfl rfl (by decide) ?_ | refine d_no' rfl rfl rfl ?_ | (refine wq2 (fun hb => ?_) (fun hb => ?_) <;> (simp only [hb]; try simp only [hbs, ne_eq] at hb; try (exfalso; first | omega | exact hb trivial))) | fail)
        dsimp only [AThen1]
        intro W M' μi L d0
        repeat' (first | ((first | apply o_do | apply d_do | apply d_yes rfl rfl rfl); first | exact ls_callAB [4] 20 hT rfl rfl (by (repeat' (first | exact NilL.nil | refine NilL.cons Nil.same ?_ | refine NilL.cons Nil.nil ?_ | refine NilL.cons (Nil.agg ?_) ?_ | exact Nil1s.nil | refine Nil1s.cons Nil1.same ?_ | refine Nil1s.cons Nil1.nil ?_)); first | done | fail) rfl (by repeat' (first | exact trivial | refine ⟨⟨_, rfl, by first | rfl | (simp [renO, *]; done)⟩, ?_⟩)) (by first | rfl | simp [closO, *]) rfl rfl rfl rfl (by first | rfl | simp [closO, *]) rfl | exact ls_nilCheck rfl rfl | exact lsq) | refine a_seq ?_ | refine a_region ?_ | refine o_nil ?_ | refine a_block ?_ | refine a_ret ?_ | refine a_exit ?_ | refine a_skip ?_ | refine a_draw mixed ?_ | refine d_nil (by kernel_rfl) ?_ | refine o_yes rfl rfl rfl ?_ | refine o_no rfl rfl rfl (by decide) ?_ | refine o_no' rfl rfl rfl ?_ | refine a_condT rfl ?_ | refine a_condF rfl ?_ | refine d_no rfl rfl rfl (by decide) ?_ | refine d_no' rfl rfl rfl ?_ | (refine wq2 (fun hb => ?_) (fun hb => ?_) <;> (simp only [hb]; try simp only [hbs, ne_eq] at hb; try (exfalso; first | omega | exact hb trivial))) | fail)
        refine ⟨[(2, .box 27 [.v (.slice none 0 0)]), (3, .box 28 [.v (.int .i64 3)]), (4, .box 84 (gthAv g s d k fu li de id G1 3)), (5, .box 81 [.ref 4 0]), (6, .box 85 [.clo (.func 32) [.ref 4 0] []])], ?_, rfl, ?_⟩
        · repeat' (first | exact trivial | refine ⟨⟨_, rfl, by first | rfl | (simp [renO, *]; done)⟩, by first | rfl | assumption, ?_⟩)
        · refine rq rfl ?_
          all_goals exact fnq
    · intro hok
      dsimp only
      rw [List.take_length] at hok ⊢
      have hR := p_Results k (rowV k (allVals s d K)) (by omega)
      have hout : outR k (allVals s d K) = (resultsL k (rowV k (allVals s d K)), 0) := by
        unfold outR
        rw [if_pos hok]
      rw [hout]
      generalize resultsL k (rowV k (allVals s d K)) = U at *
      generalize rowV k (allVals s d K) = R at *
      repeat' (first | ((first | apply o_do | apply d_do | apply d_yes rfl rfl rfl); first | exact lsc (hR) | exact ls_nilCheck rfl rfl | exact lsq) | refine a_seq ?_ | refine a_region ?_ | refine o_nil ?_ | refine a_block ?_ | refine a_ret ?_ | refine a_exit ?_ | refine a_skip ?_ | refine a_draw mixed ?_ | refine d_nil (by kernel_rfl) ?_ | refine o_yes rfl rfl rfl ?_ | refine o_no rfl rfl rfl (by decide) ?_ | refine o_no' rfl rfl rfl ?_ | refine a_condT rfl ?_ | refine a_condF rfl ?_ | refine d_no rfl rfl rfl (by decide) ?_ | refine d_no' rfl rfl rfl ?_ | (refine wq2 (fun hb => ?_) (fun hb => ?_) <;> (simp only [hb]; try simp only [hbs, ne_eq] at hb; try (exfalso; first | omega | exact hb trivial))) | fail)
      all_goals refine rq rfl ?_
      all_goals exact fnq
  · rw [if_neg h0]
    generalize checkN g s d k fu li de id ls = r at *
    refine PC.mk (ac_body tab_ok Tryz.func8 rfl (by kernel_rfl) rfl ?_); intro w0 M μ0; simp only [Tryz.ntmps8, List.length_cons, List.length_nil, Nat.reduceAdd, Nat.reduceSub, numb]
    repeat' (first | ((first | apply o_do | apply d_do | apply d_yes rfl rfl rfl); first | exact lsc (hc) | exact lsq) | refine a_seq ?_ | refine a_region ?_ | refine o_nil ?_ | refine a_block ?_ | refine a_ret ?_ | refine a_exit ?_ | refine a_skip ?_ | refine a_draw mixed ?_ | refine d_nil (by kernel_rfl) ?_ | refine o_yes rfl rfl rfl ?_ | refine o_no rfl rfl rfl (by decide) ?_ | refine o_no' rfl rfl rfl ?_ | refine a_condT rfl ?_ | refine a_condF rfl ?_ | refine d_no rfl rfl rfl (by decide) ?_ | refine d_no' rfl rfl rfl ?_ | (refine wq2 (fun hb => ?_) (fun hb => ?_) <;> (simp only [hb]; try simp only [hbs, ne_eq] at hb; try (exfalso; first | omega | exact hb trivial))) | fail)
    all_goals refine rq rfl ?_
    all_goals exact fnq
end
end Go.Proofs.YtilgagmfcdfjaaaGreat
namespace Go.Proofs.YtilgagmfcdfjaaaGreat
open Go.RowKit
set_option linter.unusedSimpArgs false
set_option linter.unusedVariables false
theorem PC.res {P : Program} {f : FuncId} {args : List AV} {r r' : AV} (h : PC P f args r) (hr : ∀ μ w A y, rep [] μ w A r y → rep [] μ w A r' y) : PC P f args r' :=
  ⟨⟨h.ac.ok, fun w M μ vs h1 h2 => (h.ac.out w M μ vs h1 h2).mono fun e w' ⟨y, μ', e1, e2, e3, e4⟩ => ⟨y, μ', e1, e2, hr _ _ _ _ e3, e4⟩⟩⟩
def zGp (no : Int) : Gp := ⟨no, 0, []⟩
def zAv (no : Int) : List AV := [.v (.int .i64 no), .v (.int .i64 0), .v (.slice none 0 0)]
def zeroI (n : Nat) : List Int := (List.range n).map fun (q : Nat) => (q : Int)
theorem zeroI_snoc (n : Nat) : zeroI (n + 1) = zeroI n ++ [(n : Int)] := by
  unfold zeroI
  rw [List.range_succ, List.map_append]; rfl
theorem zAv_gp {μ : Nat → Value} {w : World} {A : Nat → Prop} {no : Int} {us : List Value} (h : repC [] μ w A (zAv no) us) : repC [] μ w A (zGp no).av us := by
  unfold zAv at h
  unfold zGp Gp.av
  simp only [repC, rep, List.map_nil] at h ⊢
  obtain ⟨a, l, e, o, h1, b, l1, e1, o1, h2, c, l2, e2, o2, ⟨rfl, _⟩, e3⟩ := h
  exact ⟨a, l, e, o, h1, b, l1, e1, o1, h2, _, l2, e2, rfl, ⟨none, 0, [], rfl, Nat.le_refl _, Nat.zero_le _, .inl rfl, rfl⟩, e3⟩
theorem zAv_gps {μ : Nat → Value} {w : World} {A : Nat → Prop} : ∀ (l : List Int) (us : List Value), repLL [] μ w A 3 (l.map zAv) us → repLL [] μ w A 3 ((l.map zGp).map Gp.av) us
  | [], us, h => h
  | no :: l, us, h => by
    simp only [List.map_cons, repLL] at h ⊢
    obtain ⟨u1, u2, e, h1, h2, h3⟩ := h
    exact ⟨u1, u2, e, h1, zAv_gp h2, zAv_gps l u2 h3⟩
theorem zAv_sl {μ : Nat → Value} {w : World} {A : Nat → Prop} (l : List Int) (y : Value) (h : rep [] μ w A (.sl 3 (l.map zAv)) y) : rep [] μ w A (.sl 3 ((l.map zGp).map Gp.av)) y := by
  simp only [rep] at h ⊢
  obtain ⟨ad, c, us, e, h1, h2, h3, h4⟩ := h
  refine ⟨ad, c, us, ?_, ?_, h2, h3, zAv_gps l us h4⟩
  · rw [e]; simp
  · simpa using h1
/-- a property of a pane's place -/
def PlI' (P : Pn → Bool) : Prop := ∀ p q, sameP p q → P p = P q
section
variable {k : Int} {P : Pn → Bool} {l : List Pn} {x : Pn}
theorem ins_front : ∀ {m : List Pn}, (∀ q ∈ m, ahead x q = true) → insP k m x = x :: m
  | [], _ => rfl
  | q :: m, h => ins_b (h q (by simp))
theorem ins_filter (hP : PlI' P) : ∀ {l : List Pn}, l.Pairwise (fun p q => ahead p q = true) → (insP k l x).filter P = if P x = true then insP k (l.filter P) x else l.filter P
  | [], _ => by
    show ([x] : List Pn).filter P = if P x = true then [x] else []
    cases h : P x <;> simp [h]
  | p :: l, h => by
    obtain ⟨h1, h2⟩ := List.pairwise_cons.1 h
    have ih := ins_filter hP h2
    rcases rel3 p x with h3 | h3 | h3
    · rw [ins_a h3, List.filter_cons, List.filter_cons, ih]
      cases hp : P p <;> cases hx : P x <;> simp [ins_a h3]
    · have e1 : P (joinP k p x) = P p := hP _ _ (joinP_same p x)
      have e2 : P p = P x := hP _ _ h3
      rw [ins_s h3, List.filter_cons, List.filter_cons, e1, ← e2]
      cases hp : P p <;> simp [ins_s h3]
    · rw [ins_b h3, List.filter_cons]
      cases hx : P x
      · rw [if_neg (by simp), if_neg (by simp)]
      · rw [if_pos rfl, if_pos rfl, ins_front]
        intro q hq
        have hq := (List.mem_filter.1 hq).1
        rcases List.mem_cons.1 hq with rfl | hq
        · exact h3
        · exact ahead_trans h3 (h1 q hq)
theorem row_filter (hP : PlI' P) (vs : List Vl) : (rowV k vs).filter P = rowV k (vs.filter fun v => P (vP k v)) := by
  refine snoc_ind (p := fun vs => (rowV k vs).filter P = rowV k (vs.filter fun v => P (vP k v))) rfl ?_ vs
  intro vs v ih
  have hs : (rowV k vs).Pairwise (fun p q => ahead p q = true) := insAll_sorted List.Pairwise.nil
  rw [rowV_snoc, ins_filter hP hs, ih, List.filter_append]
  cases hv : P (vP k v)
  · rw [if_neg (by simp)]; simp [hv]
  · rw [if_pos rfl]; simp [hv, rowV_snoc]
theorem row_sub {vs : List Vl} (p : Vl → Bool) (hl : vs.length ≤ 1000000) (h : ∀ x ∈ vs, okV k x = true) : (rowV k (vs.filter p)).length ≤ (rowV k vs).length := by
  have hp := filter_parts p vs
  rw [rowM_perm hp hl h]
  exact rowM_mono
theorem hi_place (m : Int) : PlI' (fun p => decide (p.hi ≤ m)) := fun p q h => by show decide (p.hi ≤ m) = decide (q.hi ≤ m); rw [h.1]
theorem dueA_row (vs : List Vl) (m : Int) : dueA (rowV k vs) m = rowV k (vs.filter fun v => decide (v.hi ≤ m)) := row_filter (hi_place m) vs
theorem dueB_row (vs : List Vl) (m : Int) : dueB (rowV k vs) m = rowV k (vs.filter fun v => !decide (v.hi ≤ m)) :=
  row_filter (P := fun p => !decide (p.hi ≤ m)) (fun p q h => by show (!decide (p.hi ≤ m)) = !decide (q.hi ≤ m); rw [h.1]) vs
end
theorem m_own (a b : List (List AV)) (out : Int) (ha : a.length ≤ 1000000) (hb : b.length ≤ 1000000) : AC Tryz.prog 140 [.agg [.sl 2 a, .sl 2 b, .v (.int .i64 out)]] [] (.agg [.own 0 a.length, .own 1 b.length, .v (.int .i64 out)]) [(0, .row 195 2 a), (1, .row 192 2 b)] := by
  have h1 := cl_Inp a ha
  have h2 := cl_Hld b hb
  refine (ac_body tab_ok Tryz.func140 rfl (by kernel_rfl) rfl ?_); intro w0 M μ0; simp only [Tryz.ntmps140, List.length_cons, List.length_nil, Nat.reduceAdd, Nat.reduceSub, numb]
  repeat' (first | ((first | apply o_do | apply d_do | apply d_yes rfl rfl rfl); first | exact ls_box (k := 2) rfl rfl rfl rfl | exact ls_alloc (k := 3) tab_zero rfl rfl rfl rfl | exact ls_callA [] 0 h1 rfl rfl (by (repeat' (first | exact NilL.nil | refine NilL.cons Nil.same ?_ | refine NilL.cons Nil.nil ?_ | refine NilL.cons (Nil.agg ?_) ?_ | exact Nil1s.nil | refine Nil1s.cons Nil1.same ?_ | refine Nil1s.cons Nil1.nil ?_)); first | done | fail) rfl (by repeat' (first | exact trivial | refine ⟨⟨_, rfl, by first | rfl | (simp [renO, *]; done)⟩, ?_⟩)) (by first | rfl | simp [closO, *]) rfl rfl rfl rfl (by first | rfl | simp [closO, *]) rfl | exact ls_callA [] 1 h2 rfl rfl (by (repeat' (first | exact NilL.nil | refine NilL.cons Nil.same ?_ | refine NilL.cons Nil.nil ?_ | refine NilL.cons (Nil.agg ?_) ?_ | exact Nil1s.nil | refine Nil1s.cons Nil1.same ?_ | refine Nil1s.cons Nil1.nil ?_)); first | done | fail) rfl (by repeat' (first | exact trivial | refine ⟨⟨_, rfl, by first | rfl | (simp [renO, *]; done)⟩, ?_⟩)) (by first | rfl | simp [closO, *]) rfl rfl rfl rfl (by first | rfl | simp [closO, *]) rfl | exact lsq) | refine a_seq ?_ | refine a_region ?_ | refine o_nil ?_ | refine a_block ?_ | refine a_ret ?_ | refine a_exit ?_ | refine a_skip ?_ | refine a_draw mixed ?_ | refine d_nil (by kernel_rfl) ?_ | refine o_yes rfl rfl rfl ?_ | refine o_no rfl rfl rfl (by decide) ?_ | refine o_no' rfl rfl rfl ?_ | refine a_condT rfl ?_ | refine a_condF rfl ?_ | refine d_no rfl rfl rfl (by decide) ?_ | refine d_no' rfl rfl rfl ?_ | (refine wq2 (fun hb => ?_) (fun hb => ?_) <;> (simp only [hb]; try simp only [hbs, ne_eq] at hb; try (exfalso; first | omega | exact hb trivial))) | fail)
  refine rq rfl ?_
  exact fnq
theorem m_input (m : Mk) (i : Int) (hi : m.ins.length ≤ 9223372036854775807) (hh : m.hs.length ≤ 9223372036854775807) : PC Tryz.prog 154 [.agg m.av, .v (.int .i64 i)] (.v (.bool (mkIn m i))) := by
  have h := m_Right m hi hh
  obtain ⟨ins, hs, out⟩ := m
  have n1 : (ins.map inAvM).length = ins.length := List.length_map _
  unfold mkIn
  simp only [Mk.av] at h ⊢
  cases hr : mkR ⟨ins, hs, out⟩
  all_goals
    rw [hr] at h
    refine PC.mk (ac_body tab_ok Tryz.func154 rfl (by kernel_rfl) rfl ?_); intro w0 M μ0; simp only [Tryz.ntmps154, List.length_cons, List.length_nil, Nat.reduceAdd, Nat.reduceSub, numb]
    repeat' (first | ((first | apply o_do | apply d_do | apply d_yes rfl rfl rfl); first | exact lsc (h) | exact lsq) | refine a_seq ?_ | refine a_region ?_ | refine o_nil ?_ | refine a_block ?_ | refine a_ret ?_ | refine a_exit ?_ | refine a_skip ?_ | refine a_draw mixed ?_ | refine d_nil (by kernel_rfl) ?_ | refine o_yes rfl rfl rfl ?_ | refine o_no rfl rfl rfl (by decide) ?_ | refine o_no' rfl rfl rfl ?_ | refine a_condT rfl ?_ | refine a_condF rfl ?_ | refine d_no rfl rfl rfl (by decide) ?_ | refine d_no' rfl rfl rfl ?_ | (refine wq2 (fun hb => ?_) (fun hb => ?_) <;> (simp only [hb]; try simp only [hbs, ne_eq] at hb; try (exfalso; first | omega | exact hb trivial))) | fail)
    all_goals refine rq rfl ?_
    all_goals (first | refine FinA.tup ?_ | refine FinA.one ?_); repeat' (first | exact FinBs.nil | exact FinCs.nil | refine FinBs.cons ?_ ?_ | refine FinCs.cons ?_ ?_ | refine FinB.cell (FinC.v ?_) | refine FinB.cell (FinC.own rfl rfl rfl ?_) | exact FinB.cell FinC.nil | refine FinB.cell (FinC.sl ?_) | exact FinB.agg' rfl rfl | exact FinB.cell (FinC.same rfl) | refine FinB.agg ?_ | refine FinC.v ?_ | refine FinC.own rfl rfl rfl ?_ | exact FinC.nil | refine FinC.sl ?_ | exact FinC.same rfl); all_goals try rfl
    all_goals simp [*]
theorem pure2 (x y : Value) (hx : scal x = true) (hy : scal y = true) : ∀ (σ : Store) (μ : Nat → Value) (w : World) (A : Nat → Prop) (z : Value), rep σ μ w A (.agg [.v x, .v y]) z → rep [] μ w A (.agg [.v x, .v y]) z := by
  intro σ μ w A z h
  simpa only [rep, repC] using h
theorem pure1 (x : Value) : ∀ (σ : Store) (μ : Nat → Value) (w : World) (A : Nat → Prop) (z : Value), rep σ μ w A (.v x) z → rep [] μ w A (.v x) z := by
  intro σ μ w A z h
  simpa only [rep] using h
set_option maxHeartbeats 2000000 in
theorem m_Set (m : Mk) (i t : Int) (hi : m.ins.length ≤ 9223372036854775807) (hh : m.hs.length ≤ 9223372036854775807) : PC Tryz.prog 135 [.agg m.av, .v (.int .i64 i), .v (.int .i64 t)] (mkSet m i t).av := by
  have h := m_input m i hi hh
  have hcl := p_clamp t
  obtain ⟨ins, hs, out⟩ := m
  have n1 : (ins.map inAvM).length = ins.length := List.length_map _
  unfold mkSet
  cases hr : mkIn ⟨ins, hs, out⟩ i
  · rw [hr] at h
    simp only [if_true, MkE.av, mkZ, Mk.av, List.map_nil] at h ⊢
    refine PC.mk (ac_body tab_ok Tryz.func135 rfl (by kernel_rfl) rfl ?_); intro w0 M μ0; simp only [Tryz.ntmps135, List.length_cons, List.length_nil, Nat.reduceAdd, Nat.reduceSub, numb]
    repeat' (first | ((first | apply o_do | apply d_do | apply d_yes rfl rfl rfl); first | exact lsc (h) | exact lsq) | refine a_seq ?_ | refine a_region ?_ | refine o_nil ?_ | refine a_block ?_ | refine a_ret ?_ | refine a_exit ?_ | refine a_skip ?_ | refine a_draw mixed ?_ | refine d_nil (by kernel_rfl) ?_ | refine o_yes rfl rfl rfl ?_ | refine o_no rfl rfl rfl (by decide) ?_ | refine o_no' rfl rfl rfl ?_ | refine a_condT rfl ?_ | refine a_condF rfl ?_ | refine d_no rfl rfl rfl (by decide) ?_ | refine d_no' rfl rfl rfl ?_ | (refine wq2 (fun hb => ?_) (fun hb => ?_) <;> (simp only [hb]; try simp only [hbs, ne_eq] at hb; try (exfalso; first | omega | exact hb trivial))) | fail)
    refine rq rfl ?_
    exact fnq
  · rw [hr] at h
    have hr2 := hr
    simp only [mkIn, mkR, Bool.and_eq_true, decide_eq_true_eq] at hr2
    obtain ⟨⟨h1, h2, h3, h4⟩, h5, h6⟩ := hr2
    obtain ⟨q, rfl⟩ : ∃ q : Nat, i = (q : Int) := ⟨i.toNat, by omega⟩
    have hq : q < ins.length := by omega
    have ho := m_own (ins.map inAvM) (hs.map hoAv) out (by rw [List.length_map]; omega) (by rw [List.length_map]; omega)
    have hel : (ins.map inAvM)[q]? = some (inAvM ins[q]) := by simp [hq]
    have hqx : q < (ins.map inAvM).length := by rw [n1]; exact hq
    have hset : ∀ y : Int × Bool, (ins.set q y).map inAvM = (ins.map inAvM).set q (inAvM y) := fun y => List.map_set
    simp only [Bool.true_eq_false, if_false, MkE.av, mkPut, Mk.av, Int.toNat_natCast, getD_at hq, hset] at h ⊢
    generalize ins[q] = x at *
    obtain ⟨a, b⟩ := x
    refine PC.mk (ac_body tab_ok Tryz.func135 rfl (by kernel_rfl) rfl ?_); intro w0 M μ0; simp only [Tryz.ntmps135, List.length_cons, List.length_nil, Nat.reduceAdd, Nat.reduceSub, numb]
    repeat' (first | ((first | apply o_do | apply d_do | apply d_yes rfl rfl rfl); first | exact lsc (h) | exact lsc (hcl) | exact ls_callA [] 2 ho rfl rfl (by (repeat' (first | exact NilL.nil | refine NilL.cons Nil.same ?_ | refine NilL.cons Nil.nil ?_ | refine NilL.cons (Nil.agg ?_) ?_ | exact Nil1s.nil | refine Nil1s.cons Nil1.same ?_ | refine Nil1s.cons Nil1.nil ?_)); first | done | fail) rfl (by repeat' (first | exact trivial | refine ⟨⟨_, rfl, by first | rfl | (simp [renO, *]; done)⟩, ?_⟩)) (by first | rfl | simp [closO, *]) rfl rfl rfl rfl (by first | rfl | simp [closO, *]) rfl | exact ls_indexAddr_own tab_ok rfl rfl rfl rfl rfl rfl hqx rfl | exact ls_fieldAddr_eref tab_ok rfl rfl rfl rfl rfl rfl rfl | exact ls_load_eref tab_ok rfl rfl rfl hel rfl rfl rfl rfl | exact ls_store_eref (cs' := inAvM (max a (clampT t), false)) tab_ok rfl rfl rfl rfl hel rfl rfl (pure2 _ _ rfl rfl) rfl rfl rfl rfl | exact lsq) | refine a_seq ?_ | refine a_region ?_ | refine o_nil ?_ | refine a_block ?_ | refine a_ret ?_ | refine a_exit ?_ | refine a_skip ?_ | refine a_draw mixed ?_ | refine d_nil (by kernel_rfl) ?_ | refine o_yes rfl rfl rfl ?_ | refine o_no rfl rfl rfl (by decide) ?_ | refine o_no' rfl rfl rfl ?_ | refine a_condT rfl ?_ | refine a_condF rfl ?_ | refine d_no rfl rfl rfl (by decide) ?_ | refine d_no' rfl rfl rfl ?_ | (refine wq2 (fun hb => ?_) (fun hb => ?_) <;> (simp only [hb]; try simp only [hbs, ne_eq] at hb; try (exfalso; first | omega | exact hb trivial))) | fail)
    refine rq rfl ?_
    (first | refine FinA.tup ?_ | refine FinA.one ?_); repeat' (first | exact FinBs.nil | exact FinCs.nil | refine FinBs.cons ?_ ?_ | refine FinCs.cons ?_ ?_ | refine FinB.cell (FinC.v ?_) | refine FinB.cell (FinC.own rfl rfl rfl ?_) | exact FinB.cell FinC.nil | refine FinB.cell (FinC.sl ?_) | exact FinB.agg' rfl rfl | exact FinB.cell (FinC.same rfl) | refine FinB.agg ?_ | refine FinC.v ?_ | refine FinC.own rfl rfl rfl ?_ | exact FinC.nil | refine FinC.sl ?_ | exact FinC.same rfl); all_goals try rfl
    all_goals exact FinC.own rfl (by simp) rfl rfl
set_option maxHeartbeats 2000000 in
theorem m_Idle (m : Mk) (i : Int) (hi : m.ins.length ≤ 9223372036854775807) (hh : m.hs.length ≤ 9223372036854775807) : PC Tryz.prog 136 [.agg m.av, .v (.int .i64 i)] (mkIdle m i).av := by
  have h := m_input m i hi hh
  obtain ⟨ins, hs, out⟩ := m
  have n1 : (ins.map inAvM).length = ins.length := List.length_map _
  unfold mkIdle
  cases hr : mkIn ⟨ins, hs, out⟩ i
  · rw [hr] at h
    simp only [if_true, MkE.av, mkZ, Mk.av, List.map_nil] at h ⊢
    refine PC.mk (ac_body tab_ok Tryz.func136 rfl (by kernel_rfl) rfl ?_); intro w0 M μ0; simp only [Tryz.ntmps136, List.length_cons, List.length_nil, Nat.reduceAdd, Nat.reduceSub, numb]
    repeat' (first | ((first | apply o_do | apply d_do | apply d_yes rfl rfl rfl); first | exact lsc (h) | exact lsq) | refine a_seq ?_ | refine a_region ?_ | refine o_nil ?_ | refine a_block ?_ | refine a_ret ?_ | refine a_exit ?_ | refine a_skip ?_ | refine a_draw mixed ?_ | refine d_nil (by kernel_rfl) ?_ | refine o_yes rfl rfl rfl ?_ | refine o_no rfl rfl rfl (by decide) ?_ | refine o_no' rfl rfl rfl ?_ | refine a_condT rfl ?_ | refine a_condF rfl ?_ | refine d_no rfl rfl rfl (by decide) ?_ | refine d_no' rfl rfl rfl ?_ | (refine wq2 (fun hb => ?_) (fun hb => ?_) <;> (simp only [hb]; try simp only [hbs, ne_eq] at hb; try (exfalso; first | omega | exact hb trivial))) | fail)
    refine rq rfl ?_
    exact fnq
  · rw [hr] at h
    have hr2 := hr
    simp only [mkIn, mkR, Bool.and_eq_true, decide_eq_true_eq] at hr2
    obtain ⟨⟨h1, h2, h3, h4⟩, h5, h6⟩ := hr2
    obtain ⟨q, rfl⟩ : ∃ q : Nat, i = (q : Int) := ⟨i.toNat, by omega⟩
    have hq : q < ins.length := by omega
    have ho := m_own (ins.map inAvM) (hs.map hoAv) out (by rw [List.length_map]; omega) (by rw [List.length_map]; omega)
    have hel : (ins.map inAvM)[q]? = some (inAvM ins[q]) := by simp [hq]
    have hqx : q < (ins.map inAvM).length := by rw [n1]; exact hq
    have hset : ∀ y : Int × Bool, (ins.set q y).map inAvM = (ins.map inAvM).set q (inAvM y) := fun y => List.map_set
    simp only [Bool.true_eq_false, if_false, MkE.av, mkPut, Mk.av, Int.toNat_natCast, getD_at hq, hset] at h ⊢
    generalize ins[q] = x at *
    obtain ⟨a, b⟩ := x
    refine PC.mk (ac_body tab_ok Tryz.func136 rfl (by kernel_rfl) rfl ?_); intro w0 M μ0; simp only [Tryz.ntmps136, List.length_cons, List.length_nil, Nat.reduceAdd, Nat.reduceSub, numb]
    repeat' (first | ((first | apply o_do | apply d_do | apply d_yes rfl rfl rfl); first | exact lsc (h) | exact ls_callA [] 2 ho rfl rfl (by (repeat' (first | exact NilL.nil | refine NilL.cons Nil.same ?_ | refine NilL.cons Nil.nil ?_ | refine NilL.cons (Nil.agg ?_) ?_ | exact Nil1s.nil | refine Nil1s.cons Nil1.same ?_ | refine Nil1s.cons Nil1.nil ?_)); first | done | fail) rfl (by repeat' (first | exact trivial | refine ⟨⟨_, rfl, by first | rfl | (simp [renO, *]; done)⟩, ?_⟩)) (by first | rfl | simp [closO, *]) rfl rfl rfl rfl (by first | rfl | simp [closO, *]) rfl | exact ls_indexAddr_own tab_ok rfl rfl rfl rfl rfl rfl hqx rfl | exact ls_fieldAddr_eref tab_ok rfl rfl rfl rfl rfl rfl rfl | exact ls_load_eref tab_ok rfl rfl rfl hel rfl rfl rfl rfl | exact ls_store_eref (cs' := inAvM (a, true)) tab_ok rfl rfl rfl rfl hel rfl rfl (pure1 _) rfl rfl rfl rfl | exact lsq) | refine a_seq ?_ | refine a_region ?_ | refine o_nil ?_ | refine a_block ?_ | refine a_ret ?_ | refine a_exit ?_ | refine a_skip ?_ | refine a_draw mixed ?_ | refine d_nil (by kernel_rfl) ?_ | refine o_yes rfl rfl rfl ?_ | refine o_no rfl rfl rfl (by decide) ?_ | refine o_no' rfl rfl rfl ?_ | refine a_condT rfl ?_ | refine a_condF rfl ?_ | refine d_no rfl rfl rfl (by decide) ?_ | refine d_no' rfl rfl rfl ?_ | (refine wq2 (fun hb => ?_) (fun hb => ?_) <;> (simp only [hb]; try simp only [hbs, ne_eq] at hb; try (exfalso; first | omega | exact hb trivial))) | fail)
    refine rq rfl ?_
    (first | refine FinA.tup ?_ | refine FinA.one ?_); repeat' (first | exact FinBs.nil | exact FinCs.nil | refine FinBs.cons ?_ ?_ | refine FinCs.cons ?_ ?_ | refine FinB.cell (FinC.v ?_) | refine FinB.cell (FinC.own rfl rfl rfl ?_) | exact FinB.cell FinC.nil | refine FinB.cell (FinC.sl ?_) | exact FinB.agg' rfl rfl | exact FinB.cell (FinC.same rfl) | refine FinB.agg ?_ | refine FinC.v ?_ | refine FinC.own rfl rfl rfl ?_ | exact FinC.nil | refine FinC.sl ?_ | exact FinC.same rfl); all_goals try rfl
    all_goals exact FinC.own rfl (by simp) rfl rfl
/-! what is held back -/
set_option maxHeartbeats 1000000 in
theorem m_backI (ins : List (Int × Bool)) (hx : ins.length ≤ 1000000) : AC Tryz.prog 138 [.sl 2 (ins.map inAvM)] [] (.own 0 ((backI ins).map tiA).length) [(0, .row 2 1 ((backI ins).map tiA))] := by
  refine (ac_body tab_ok Tryz.func138 rfl (by kernel_rfl) rfl ?_); intro w0 M μ0; simp only [Tryz.ntmps138, List.length_cons, List.length_nil, Nat.reduceAdd, Nat.reduceSub, numb]
  repeat' (first | ((first | apply o_do | apply d_do | apply d_yes rfl rfl rfl); exact lsq) | refine a_seq ?_ | refine a_region ?_ | refine o_nil ?_ | refine a_block ?_ | refine a_ret ?_ | refine a_exit ?_ | refine a_skip ?_ | refine a_draw mixed ?_ | refine d_nil (by kernel_rfl) ?_ | refine o_yes rfl rfl rfl ?_ | refine o_no rfl rfl rfl (by decide) ?_ | refine o_no' rfl rfl rfl ?_ | refine a_condT rfl ?_ | refine a_condF rfl ?_ | refine d_no rfl rfl rfl (by decide) ?_ | refine d_no' rfl rfl rfl ?_ | (refine wq2 (fun hb => ?_) (fun hb => ?_) <;> (simp only [hb]; try simp only [hbs, ne_eq] at hb; try (exfalso; first | omega | exact hb trivial))) | fail)
  refine a_adopt 3 0 2 1 rfl rfl ?_
  refine a_loop (X := {q : Nat // q ≤ ins.length}) (fun x => ⟨[(3, .own 0 ((backI (ins.take x.1)).map tiA).length), (6, .sl 2 (ins.map inAvM)), (7, .v (.int .i64 ins.length)), (8, .v (.int .i64 x.1))], [(0, .row 2 1 ((backI (ins.take x.1)).map tiA))]⟩) (fun x => ins.length - x.1) ⟨0, Nat.zero_le _⟩ ?_ ?_
  · exact wkS
  rintro ⟨q, hq⟩
  dsimp only
  by_cases hlt : q < ins.length
  · have hel : (ins.map inAvM)[q]? = some (inAvM ins[q]) := by simp [hlt]
    have hsn := take_snoc ins q hlt
    have hbk := backI_snoc (ins.take q) ins[q]
    rw [← hsn] at hbk
    have hl := backI_le (ins.take q)
    rw [List.length_take] at hl
    have hl2 : ((backI (ins.take q)).map tiA).length ≤ 1000000 := by rw [List.length_map]; omega
    generalize ins[q] = x at *
    obtain ⟨a, b⟩ := x
    cases b
    · have e : (backI (ins.take (q + 1))).map tiA = (backI (ins.take q)).map tiA ++ [tiA a] := by rw [hbk]; simp
      repeat' (first | ((first | apply o_do | apply d_do | apply d_yes rfl rfl rfl); first | exact ls_indexAddr_sl tab_ok rfl rfl rfl rfl (by assumption) rfl | focus (apply ls_append tab_ok rfl rfl ?hn rfl ?hsrc rfl ?hlen rfl rfl; (case hn => rfl); (case hsrc => first | exact SrcIs.sl | exact SrcIs.nil | exact SrcIs.own rfl rfl | fail); (case hlen => (try simp only [List.length_cons, List.length_nil]); omega); first | done | fail) | exact lsq) | refine a_seq ?_ | refine a_region ?_ | refine o_nil ?_ | refine a_block ?_ | refine a_ret ?_ | refine a_exit ?_ | refine a_skip ?_ | refine a_draw mixed ?_ | refine d_nil (by kernel_rfl) ?_ | refine o_yes rfl rfl rfl ?_ | refine o_no rfl rfl rfl (by decide) ?_ | refine o_no' rfl rfl rfl ?_ | refine a_condT rfl ?_ | refine a_condF rfl ?_ | refine d_no rfl rfl rfl (by decide) ?_ | refine d_no' rfl rfl rfl ?_ | (refine wq2 (fun hb => ?_) (fun hb => ?_) <;> (simp only [hb]; try simp only [hbs, ne_eq] at hb; try (exfalso; first | omega | exact hb trivial))) | fail)
      refine ⟨⟨q + 1, by omega⟩, by dsimp only; omega, ?_⟩
      refine ⟨by repeat' (first | exact trivial | exact FinA.one (FinB.cell (FinC.same rfl)) | exact FinA.one (FinB.cell FinC.nil) | exact FinA.bound rfl | exact FinA.one (FinB.cell (FinC.own rfl rfl rfl rfl)) | exact FinA.one (FinB.cell (FinC.v (by first | rfl | ((first | (simp only [e]; rfl) | simp))))) | exact FinA.one (FinB.cell (FinC.ow rfl (by first | rfl | ((first | (simp only [e]; rfl) | simp))))) | exact FinA.one (FinB.agg' rfl rfl) | refine ⟨⟨_, rfl, ?_⟩, ?_⟩), by repeat' (first | exact trivial | refine ⟨⟨_, rfl, by first | rfl | ((first | (simp only [e]; rfl) | simp); done) | (simp [renO, *]; done)⟩, by first | rfl | assumption, ?_⟩), rfl⟩
    · have e : (backI (ins.take (q + 1))).map tiA = (backI (ins.take q)).map tiA := by rw [hbk]; simp
      repeat' (first | ((first | apply o_do | apply d_do | apply d_yes rfl rfl rfl); first | exact ls_indexAddr_sl tab_ok rfl rfl rfl rfl (by assumption) rfl | focus (apply ls_append tab_ok rfl rfl ?hn rfl ?hsrc rfl ?hlen rfl rfl; (case hn => rfl); (case hsrc => first | exact SrcIs.sl | exact SrcIs.nil | exact SrcIs.own rfl rfl | fail); (case hlen => (try simp only [List.length_cons, List.length_nil]); omega); first | done | fail) | exact lsq) | refine a_seq ?_ | refine a_region ?_ | refine o_nil ?_ | refine a_block ?_ | refine a_ret ?_ | refine a_exit ?_ | refine a_skip ?_ | refine a_draw mixed ?_ | refine d_nil (by kernel_rfl) ?_ | refine o_yes rfl rfl rfl ?_ | refine o_no rfl rfl rfl (by decide) ?_ | refine o_no' rfl rfl rfl ?_ | refine a_condT rfl ?_ | refine a_condF rfl ?_ | refine d_no rfl rfl rfl (by decide) ?_ | refine d_no' rfl rfl rfl ?_ | (refine wq2 (fun hb => ?_) (fun hb => ?_) <;> (simp only [hb]; try simp only [hbs, ne_eq] at hb; try (exfalso; first | omega | exact hb trivial))) | fail)
      refine ⟨⟨q + 1, by omega⟩, by dsimp only; omega, ?_⟩
      refine ⟨by repeat' (first | exact trivial | exact FinA.one (FinB.cell (FinC.same rfl)) | exact FinA.one (FinB.cell FinC.nil) | exact FinA.bound rfl | exact FinA.one (FinB.cell (FinC.own rfl rfl rfl rfl)) | exact FinA.one (FinB.cell (FinC.v (by first | rfl | ((first | (simp only [e]; done) | (simp only [e]; rfl) | simp))))) | exact FinA.one (FinB.cell (FinC.ow rfl (by first | rfl | ((first | (simp only [e]; done) | (simp only [e]; rfl) | simp))))) | exact FinA.one (FinB.agg' rfl rfl) | refine ⟨⟨_, rfl, ?_⟩, ?_⟩), by repeat' (first | exact trivial | refine ⟨⟨_, rfl, by first | rfl | ((first | (simp only [e]; done) | (simp only [e]; rfl) | simp); done) | (simp [renO, *]; done)⟩, by first | rfl | assumption, ?_⟩), rfl⟩
  · obtain rfl : q = ins.length := by omega
    rw [List.take_length]
    repeat' (first | ((first | apply o_do | apply d_do | apply d_yes rfl rfl rfl); exact lsq) | refine a_seq ?_ | refine a_region ?_ | refine o_nil ?_ | refine a_block ?_ | refine a_ret ?_ | refine a_exit ?_ | refine a_skip ?_ | refine a_draw mixed ?_ | refine d_nil (by kernel_rfl) ?_ | refine o_yes rfl rfl rfl ?_ | refine o_no rfl rfl rfl (by decide) ?_ | refine o_no' rfl rfl rfl ?_ | refine a_condT rfl ?_ | refine a_condF rfl ?_ | refine d_no rfl rfl rfl (by decide) ?_ | refine d_no' rfl rfl rfl ?_ | (refine wq2 (fun hb => ?_) (fun hb => ?_) <;> (simp only [hb]; try simp only [hbs, ne_eq] at hb; try (exfalso; first | omega | exact hb trivial))) | fail)
    refine rq rfl ?_
    exact fnq
set_option maxHeartbeats 1000000 in
theorem m_backH (hs : List (Int × Int)) (hx : hs.length ≤ 1000000) : AC Tryz.prog 139 [.sl 2 (hs.map hoAv)] [] (.own 0 ((backH hs).map tiA).length) [(0, .row 2 1 ((backH hs).map tiA))] := by
  refine (ac_body tab_ok Tryz.func139 rfl (by kernel_rfl) rfl ?_); intro w0 M μ0; simp only [Tryz.ntmps139, List.length_cons, List.length_nil, Nat.reduceAdd, Nat.reduceSub, numb]
  repeat' (first | ((first | apply o_do | apply d_do | apply d_yes rfl rfl rfl); exact lsq) | refine a_seq ?_ | refine a_region ?_ | refine o_nil ?_ | refine a_block ?_ | refine a_ret ?_ | refine a_exit ?_ | refine a_skip ?_ | refine a_draw mixed ?_ | refine d_nil (by kernel_rfl) ?_ | refine o_yes rfl rfl rfl ?_ | refine o_no rfl rfl rfl (by decide) ?_ | refine o_no' rfl rfl rfl ?_ | refine a_condT rfl ?_ | refine a_condF rfl ?_ | refine d_no rfl rfl rfl (by decide) ?_ | refine d_no' rfl rfl rfl ?_ | (refine wq2 (fun hb => ?_) (fun hb => ?_) <;> (simp only [hb]; try simp only [hbs, ne_eq] at hb; try (exfalso; first | omega | exact hb trivial))) | fail)
  refine a_adopt 3 0 2 1 rfl rfl ?_
  refine a_loop (X := {q : Nat // q ≤ hs.length}) (fun x => ⟨[(3, .own 0 ((backH (hs.take x.1)).map tiA).length), (6, .sl 2 (hs.map hoAv)), (7, .v (.int .i64 hs.length)), (8, .v (.int .i64 x.1))], [(0, .row 2 1 ((backH (hs.take x.1)).map tiA))]⟩) (fun x => hs.length - x.1) ⟨0, Nat.zero_le _⟩ ?_ ?_
  · exact wkS
  rintro ⟨q, hq⟩
  dsimp only
  by_cases hlt : q < hs.length
  · have hel : (hs.map hoAv)[q]? = some (hoAv hs[q]) := by simp [hlt]
    have hsn := take_snoc hs q hlt
    have hbk := backH_snoc (hs.take q) hs[q]
    rw [← hsn] at hbk
    have hl2 : ((backH (hs.take q)).map tiA).length ≤ 1000000 := by simp [backH]; omega
    generalize hs[q] = x at *
    obtain ⟨a, b⟩ := x
    have e : (backH (hs.take (q + 1))).map tiA = (backH (hs.take q)).map tiA ++ [tiA b] := by rw [hbk]; simp
    repeat' (first | ((first | apply o_do | apply d_do | apply d_yes rfl rfl rfl); first | exact ls_indexAddr_sl tab_ok rfl rfl rfl rfl (by assumption) rfl | focus (apply ls_append tab_ok rfl rfl ?hn rfl ?hsrc rfl ?hlen rfl rfl; (case hn => rfl); (case hsrc => first | exact SrcIs.sl | exact SrcIs.nil | exact SrcIs.own rfl rfl | fail); (case hlen => (try simp only [List.length_cons, List.length_nil]); omega); first | done | fail) | exact lsq) | refine a_seq ?_ | refine a_region ?_ | refine o_nil ?_ | refine a_block ?_ | refine a_ret ?_ | refine a_exit ?_ | refine a_skip ?_ | refine a_draw mixed ?_ | refine d_nil (by kernel_rfl) ?_ | refine o_yes rfl rfl rfl ?_ | refine o_no rfl rfl rfl (by decide) ?_ | refine o_no' rfl rfl rfl ?_ | refine a_condT rfl ?_ | refine a_condF rfl ?_ | refine d_no rfl rfl rfl (by decide) ?_ | refine d_no' rfl rfl rfl ?_ | (refine wq2 (fun hb => ?_) (fun hb => ?_) <;> (simp only [hb]; try simp only [hbs, ne_eq] at hb; try (exfalso; first | omega | exact hb trivial))) | fail)
    refine ⟨⟨q + 1, by omega⟩, by dsimp only; omega, ?_⟩
    refine ⟨by repeat' (first | exact trivial | exact FinA.one (FinB.cell (FinC.same rfl)) | exact FinA.one (FinB.cell FinC.nil) | exact FinA.bound rfl | exact FinA.one (FinB.cell (FinC.own rfl rfl rfl rfl)) | exact FinA.one (FinB.cell (FinC.v (by first | rfl | ((first | (simp only [e]; rfl) | simp))))) | exact FinA.one (FinB.cell (FinC.ow rfl (by first | rfl | ((first | (simp only [e]; rfl) | simp))))) | exact FinA.one (FinB.agg' rfl rfl) | refine ⟨⟨_, rfl, ?_⟩, ?_⟩), by repeat' (first | exact trivial | refine ⟨⟨_, rfl, by first | rfl | ((first | (simp only [e]; rfl) | simp); done) | (simp [renO, *]; done)⟩, by first | rfl | assumption, ?_⟩), rfl⟩
  · obtain rfl : q = hs.length := by omega
    rw [List.take_length]
    repeat' (first | ((first | apply o_do | apply d_do | apply d_yes rfl rfl rfl); exact lsq) | refine a_seq ?_ | refine a_region ?_ | refine o_nil ?_ | refine a_block ?_ | refine a_ret ?_ | refine a_exit ?_ | refine a_skip ?_ | refine a_draw mixed ?_ | refine d_nil (by kernel_rfl) ?_ | refine o_yes rfl rfl rfl ?_ | refine o_no rfl rfl rfl (by decide) ?_ | refine o_no' rfl rfl rfl ?_ | refine a_condT rfl ?_ | refine a_condF rfl ?_ | refine d_no rfl rfl rfl (by decide) ?_ | refine d_no' rfl rfl rfl ?_ | (refine wq2 (fun hb => ?_) (fun hb => ?_) <;> (simp only [hb]; try simp only [hbs, ne_eq] at hb; try (exfalso; first | omega | exact hb trivial))) | fail)
    refine rq rfl ?_
    exact fnq
theorem t_First (l : List Int) (hx : l.length ≤ 9223372036854775807) : PC Tryz.prog 155 [.sl 1 (l.map tiA)] (.v (.int .i64 (firstT l))) := by
  refine PC.mk (ac_body tab_ok Tryz.func155 rfl (by kernel_rfl) rfl ?_); intro w0 M μ0; simp only [Tryz.ntmps155, List.length_cons, List.length_nil, Nat.reduceAdd, Nat.reduceSub, numb]
  repeat' (first | ((first | apply o_do | apply d_do | apply d_yes rfl rfl rfl); exact lsq) | refine a_seq ?_ | refine a_region ?_ | refine o_nil ?_ | refine a_block ?_ | refine a_ret ?_ | refine a_exit ?_ | refine a_skip ?_ | refine a_draw mixed ?_ | refine d_nil (by kernel_rfl) ?_ | refine o_yes rfl rfl rfl ?_ | refine o_no rfl rfl rfl (by decide) ?_ | refine o_no' rfl rfl rfl ?_ | refine a_condT rfl ?_ | refine a_condF rfl ?_ | refine d_no rfl rfl rfl (by decide) ?_ | refine d_no' rfl rfl rfl ?_ | (refine wq2 (fun hb => ?_) (fun hb => ?_) <;> (simp only [hb]; try simp only [hbs, ne_eq] at hb; try (exfalso; first | omega | exact hb trivial))) | fail)
  refine a_loop (X := {q : Nat // q ≤ l.length}) (fun x => ⟨[(3, .v (.int .i64 (firstT (l.take x.1)))), (6, .sl 1 (l.map tiA)), (7, .v (.int .i64 l.length)), (8, .v (.int .i64 x.1))], []⟩) (fun x => l.length - x.1) ⟨0, Nat.zero_le _⟩ ?_ ?_
  · refine ⟨by repeat' (first | exact trivial | exact FinA.one (FinB.cell (FinC.same rfl)) | exact FinA.one (FinB.cell FinC.nil) | exact FinA.bound rfl | exact FinA.one (FinB.cell (FinC.own rfl rfl rfl rfl)) | exact FinA.one (FinB.cell (FinC.v (by first | rfl | (simp [firstT])))) | exact FinA.one (FinB.cell (FinC.ow rfl (by first | rfl | (simp [firstT])))) | exact FinA.one (FinB.agg' rfl rfl) | refine ⟨⟨_, rfl, ?_⟩, ?_⟩), by repeat' (first | exact trivial | refine ⟨⟨_, rfl, by first | rfl | (simp [firstT]; done) | (simp [renO, *]; done)⟩, by first | rfl | assumption, ?_⟩), rfl⟩
  rintro ⟨q, hq⟩
  dsimp only
  by_cases hlt : q < l.length
  · have hel : (l.map tiA)[q]? = some (tiA l[q]) := by simp [hlt]
    have hsn := take_snoc l q hlt
    have hf := firstT_snoc (l.take q) l[q]
    rw [← hsn] at hf
    have hcl := p_clamp l[q]
    generalize l[q] = x at *
    repeat' (first | ((first | apply o_do | apply d_do | apply d_yes rfl rfl rfl); first | exact ls_indexAddr_sl tab_ok rfl rfl rfl rfl (by assumption) rfl | exact lsc (hcl) | exact lsq) | refine a_seq ?_ | refine a_region ?_ | refine o_nil ?_ | refine a_block ?_ | refine a_ret ?_ | refine a_exit ?_ | refine a_skip ?_ | refine a_draw mixed ?_ | refine d_nil (by kernel_rfl) ?_ | refine o_yes rfl rfl rfl ?_ | refine o_no rfl rfl rfl (by decide) ?_ | refine o_no' rfl rfl rfl ?_ | refine a_condT rfl ?_ | refine a_condF rfl ?_ | refine d_no rfl rfl rfl (by decide) ?_ | refine d_no' rfl rfl rfl ?_ | (refine wq2 (fun hb => ?_) (fun hb => ?_) <;> (simp only [hb]; try simp only [hbs, ne_eq] at hb; try (exfalso; first | omega | exact hb trivial))) | fail)
    refine ⟨⟨q + 1, by omega⟩, by dsimp only; omega, ?_⟩
    refine ⟨by repeat' (first | exact trivial | exact FinA.one (FinB.cell (FinC.same rfl)) | exact FinA.one (FinB.cell FinC.nil) | exact FinA.bound rfl | exact FinA.one (FinB.cell (FinC.own rfl rfl rfl rfl)) | exact FinA.one (FinB.cell (FinC.v (by first | rfl | ((first | (rw [hf]; done) | simp [hf]))))) | exact FinA.one (FinB.cell (FinC.ow rfl (by first | rfl | ((first | (rw [hf]; done) | simp [hf]))))) | exact FinA.one (FinB.agg' rfl rfl) | refine ⟨⟨_, rfl, ?_⟩, ?_⟩), by repeat' (first | exact trivial | refine ⟨⟨_, rfl, by first | rfl | ((first | (rw [hf]; done) | simp [hf]); done) | (simp [renO, *]; done)⟩, by first | rfl | assumption, ?_⟩), rfl⟩
  · obtain rfl : q = l.length := by omega
    rw [List.take_length]
    repeat' (first | ((first | apply o_do | apply d_do | apply d_yes rfl rfl rfl); exact lsq) | refine a_seq ?_ | refine a_region ?_ | refine o_nil ?_ | refine a_block ?_ | refine a_ret ?_ | refine a_exit ?_ | refine a_skip ?_ | refine a_draw mixed ?_ | refine d_nil (by kernel_rfl) ?_ | refine o_yes rfl rfl rfl ?_ | refine o_no rfl rfl rfl (by decide) ?_ | refine o_no' rfl rfl rfl ?_ | refine a_condT rfl ?_ | refine a_condF rfl ?_ | refine d_no rfl rfl rfl (by decide) ?_ | refine d_no' rfl rfl rfl ?_ | (refine wq2 (fun hb => ?_) (fun hb => ?_) <;> (simp only [hb]; try simp only [hbs, ne_eq] at hb; try (exfalso; first | omega | exact hb trivial))) | fail)
    refine rq rfl ?_
    exact fnq
theorem m_first (ins : List (Int × Bool)) (hs : List (Int × Int)) (h1 : ins.length ≤ 1000000) (h2 : hs.length ≤ 1000000) : PC Tryz.prog 137 [.sl 2 (ins.map inAvM), .sl 2 (hs.map hoAv), .clo (.func 138) [] [], .clo (.func 139) [] []] (.tup [.v (.int .i64 (firstT (backI ins ++ backH hs))), .v (.bool (decide (backI ins ++ backH hs ≠ [])))]) := by
  have hb1 := m_backI ins h1
  have hb2 := m_backH hs h2
  have hl := backI_le ins
  have hl2 : (backH hs).length = hs.length := by simp [backH]
  have hf := t_First (backI ins ++ backH hs) (by rw [List.length_append]; omega)
  rw [List.map_append] at hf
  have e : decide (backI ins ++ backH hs ≠ []) = decide (((0 : Int) < (((backI ins).map tiA ++ (backH hs).map tiA).length : Int))) := by
    rw [← List.map_append, List.length_map]
    cases backI ins ++ backH hs <;> simp
  rw [e]
  have hq : ((backI ins).map tiA).length + ((backH hs).map tiA).length ≤ 1000000000 := by rw [List.length_map, List.length_map]; omega
  refine PC.mk (ac_body tab_ok Tryz.func137 rfl (by kernel_rfl) rfl ?_); intro w0 M μ0; simp only [Tryz.ntmps137, List.length_cons, List.length_nil, Nat.reduceAdd, Nat.reduceSub, numb]
  repeat' (first | ((first | apply o_do | apply d_do | apply d_yes rfl rfl rfl); first | exact ls_callA [] 0 hb1 rfl rfl (by (repeat' (first | exact NilL.nil | refine NilL.cons Nil.same ?_ | refine NilL.cons Nil.nil ?_ | refine NilL.cons (Nil.agg ?_) ?_ | exact Nil1s.nil | refine Nil1s.cons Nil1.same ?_ | refine Nil1s.cons Nil1.nil ?_)); first | done | fail) rfl (by repeat' (first | exact trivial | refine ⟨⟨_, rfl, by first | rfl | (simp [renO, *]; done)⟩, ?_⟩)) (by first | rfl | simp [closO, *]) rfl rfl rfl rfl (by first | rfl | simp [closO, *]) rfl | exact ls_callA [] 1 hb2 rfl rfl (by (repeat' (first | exact NilL.nil | refine NilL.cons Nil.same ?_ | refine NilL.cons Nil.nil ?_ | refine NilL.cons (Nil.agg ?_) ?_ | exact Nil1s.nil | refine Nil1s.cons Nil1.same ?_ | refine Nil1s.cons Nil1.nil ?_)); first | done | fail) rfl (by repeat' (first | exact trivial | refine ⟨⟨_, rfl, by first | rfl | (simp [renO, *]; done)⟩, ?_⟩)) (by first | rfl | simp [closO, *]) rfl rfl rfl rfl (by first | rfl | simp [closO, *]) rfl | focus (apply ls_append tab_ok rfl rfl ?hn rfl ?hsrc rfl ?hlen rfl rfl; (case hn => rfl); (case hsrc => first | exact SrcIs.sl | exact SrcIs.nil | exact SrcIs.own rfl rfl | fail); (case hlen => (try simp only [List.length_cons, List.length_nil]); omega); first | done | fail) | exact lcs (hf) | exact lsq) | refine a_seq ?_ | refine a_region ?_ | refine o_nil ?_ | refine a_block ?_ | refine a_ret ?_ | refine a_exit ?_ | refine a_skip ?_ | refine a_draw mixed ?_ | refine d_nil (by kernel_rfl) ?_ | refine o_yes rfl rfl rfl ?_ | refine o_no rfl rfl rfl (by decide) ?_ | refine o_no' rfl rfl rfl ?_ | refine a_condT rfl ?_ | refine a_condF rfl ?_ | refine d_no rfl rfl rfl (by decide) ?_ | refine d_no' rfl rfl rfl ?_ | (refine wq2 (fun hb => ?_) (fun hb => ?_) <;> (simp only [hb]; try simp only [hbs, ne_eq] at hb; try (exfalso; first | omega | exact hb trivial))) | fail)
  refine rq rfl ?_
  exact fnq
set_option maxHeartbeats 2000000 in
theorem m_Tell (m : Mk) (hi : m.ins.length ≤ 9223372036854775807) (hh : m.hs.length ≤ 9223372036854775807) : PC Tryz.prog 106 [.agg m.av] (mkTell m).av := by
  have h := m_Right m hi hh
  obtain ⟨ins, hs, out⟩ := m
  unfold mkTell
  cases hr : mkR ⟨ins, hs, out⟩
  · rw [hr] at h
    simp only [if_true, MkT.av, mkZ, Mk.av, List.map_nil] at h ⊢
    refine PC.mk (ac_body tab_ok Tryz.func106 rfl (by kernel_rfl) rfl ?_); intro w0 M μ0; simp only [Tryz.ntmps106, List.length_cons, List.length_nil, Nat.reduceAdd, Nat.reduceSub, numb]
    repeat' (first | ((first | apply o_do | apply d_do | apply d_yes rfl rfl rfl); first | exact lsc (h) | exact lsq) | refine a_seq ?_ | refine a_region ?_ | refine o_nil ?_ | refine a_block ?_ | refine a_ret ?_ | refine a_exit ?_ | refine a_skip ?_ | refine a_draw mixed ?_ | refine d_nil (by kernel_rfl) ?_ | refine o_yes rfl rfl rfl ?_ | refine o_no rfl rfl rfl (by decide) ?_ | refine o_no' rfl rfl rfl ?_ | refine a_condT rfl ?_ | refine a_condF rfl ?_ | refine d_no rfl rfl rfl (by decide) ?_ | refine d_no' rfl rfl rfl ?_ | (refine wq2 (fun hb => ?_) (fun hb => ?_) <;> (simp only [hb]; try simp only [hbs, ne_eq] at hb; try (exfalso; first | omega | exact hb trivial))) | fail)
    refine rq rfl ?_
    exact fnq
  · rw [hr] at h
    have hr2 := hr
    simp only [mkR, Bool.and_eq_true, decide_eq_true_eq] at hr2
    obtain ⟨h1, h2, h3, h4⟩ := hr2
    have hf := m_first ins hs (by omega) (by omega)
    have ho := m_own (ins.map inAvM) (hs.map hoAv) out (by rw [List.length_map]; omega) (by rw [List.length_map]; omega)
    simp only [Mk.av] at h
    by_cases hnil : backI ins ++ backH hs = []
    · rw [decide_eq_false (by simp [hnil])] at hf
      simp only [Bool.true_eq_false, if_false, hnil, true_or, if_true, MkT.av, Mk.av]
      refine PC.mk (ac_body tab_ok Tryz.func106 rfl (by kernel_rfl) rfl ?_); intro w0 M μ0; simp only [Tryz.ntmps106, List.length_cons, List.length_nil, Nat.reduceAdd, Nat.reduceSub, numb]
      repeat' (first | ((first | apply o_do | apply d_do | apply d_yes rfl rfl rfl); first | exact lsc (h) | exact lsc (hf) | exact ls_callA [] 2 ho rfl rfl (by (repeat' (first | exact NilL.nil | refine NilL.cons Nil.same ?_ | refine NilL.cons Nil.nil ?_ | refine NilL.cons (Nil.agg ?_) ?_ | exact Nil1s.nil | refine Nil1s.cons Nil1.same ?_ | refine Nil1s.cons Nil1.nil ?_)); first | done | fail) rfl (by repeat' (first | exact trivial | refine ⟨⟨_, rfl, by first | rfl | (simp [renO, *]; done)⟩, ?_⟩)) (by first | rfl | simp [closO, *]) rfl rfl rfl rfl (by first | rfl | simp [closO, *]) rfl | exact lsq) | refine a_seq ?_ | refine a_region ?_ | refine o_nil ?_ | refine a_block ?_ | refine a_ret ?_ | refine a_exit ?_ | refine a_skip ?_ | refine a_draw mixed ?_ | refine d_nil (by kernel_rfl) ?_ | refine o_yes rfl rfl rfl ?_ | refine o_no rfl rfl rfl (by decide) ?_ | refine o_no' rfl rfl rfl ?_ | refine a_condT rfl ?_ | refine a_condF rfl ?_ | refine d_no rfl rfl rfl (by decide) ?_ | refine d_no' rfl rfl rfl ?_ | (refine wq2 (fun hb => ?_) (fun hb => ?_) <;> (simp only [hb]; try simp only [hbs, ne_eq] at hb; try (exfalso; first | omega | exact hb trivial))) | fail)
      refine rq rfl ?_
      exact fnq
    · rw [decide_eq_true hnil] at hf
      by_cases hle : firstT (backI ins ++ backH hs) ≤ out
      · simp only [Bool.true_eq_false, if_false, hle, or_true, if_true, MkT.av, Mk.av]
        refine PC.mk (ac_body tab_ok Tryz.func106 rfl (by kernel_rfl) rfl ?_); intro w0 M μ0; simp only [Tryz.ntmps106, List.length_cons, List.length_nil, Nat.reduceAdd, Nat.reduceSub, numb]
        repeat' (first | ((first | apply o_do | apply d_do | apply d_yes rfl rfl rfl); first | exact lsc (h) | exact lsc (hf) | exact ls_callA [] 2 ho rfl rfl (by (repeat' (first | exact NilL.nil | refine NilL.cons Nil.same ?_ | refine NilL.cons Nil.nil ?_ | refine NilL.cons (Nil.agg ?_) ?_ | exact Nil1s.nil | refine Nil1s.cons Nil1.same ?_ | refine Nil1s.cons Nil1.nil ?_)); first | done | fail) rfl (by repeat' (first | exact trivial | refine ⟨⟨_, rfl, by first | rfl | (simp [renO, *]; done)⟩, ?_⟩)) (by first | rfl | simp [closO, *]) rfl rfl rfl rfl (by first | rfl | simp [closO, *]) rfl | exact lsq) | refine a_seq ?_ | refine a_region ?_ | refine o_nil ?_ | refine a_block ?_ | refine a_ret ?_ | refine a_exit ?_ | refine a_skip ?_ | refine a_draw mixed ?_ | refine d_nil (by kernel_rfl) ?_ | refine o_yes rfl rfl rfl ?_ | refine o_no rfl rfl rfl (by decide) ?_ | refine o_no' rfl rfl rfl ?_ | refine a_condT rfl ?_ | refine a_condF rfl ?_ | refine d_no rfl rfl rfl (by decide) ?_ | refine d_no' rfl rfl rfl ?_ | (refine wq2 (fun hb => ?_) (fun hb => ?_) <;> (simp only [hb]; try simp only [hbs, ne_eq] at hb; try (exfalso; first | omega | exact hb trivial))) | fail)
        refine rq rfl ?_
        exact fnq
      · simp only [Bool.true_eq_false, if_false, hle, hnil, or_self, MkT.av, Mk.av]
        refine PC.mk (ac_body tab_ok Tryz.func106 rfl (by kernel_rfl) rfl ?_); intro w0 M μ0; simp only [Tryz.ntmps106, List.length_cons, List.length_nil, Nat.reduceAdd, Nat.reduceSub, numb]
        repeat' (first | ((first | apply o_do | apply d_do | apply d_yes rfl rfl rfl); first | exact lsc (h) | exact lsc (hf) | exact ls_callA [] 2 ho rfl rfl (by (repeat' (first | exact NilL.nil | refine NilL.cons Nil.same ?_ | refine NilL.cons Nil.nil ?_ | refine NilL.cons (Nil.agg ?_) ?_ | exact Nil1s.nil | refine Nil1s.cons Nil1.same ?_ | refine Nil1s.cons Nil1.nil ?_)); first | done | fail) rfl (by repeat' (first | exact trivial | refine ⟨⟨_, rfl, by first | rfl | (simp [renO, *]; done)⟩, ?_⟩)) (by first | rfl | simp [closO, *]) rfl rfl rfl rfl (by first | rfl | simp [closO, *]) rfl | exact lsq) | refine a_seq ?_ | refine a_region ?_ | refine o_nil ?_ | refine a_block ?_ | refine a_ret ?_ | refine a_exit ?_ | refine a_skip ?_ | refine a_draw mixed ?_ | refine d_nil (by kernel_rfl) ?_ | refine o_yes rfl rfl rfl ?_ | refine o_no rfl rfl rfl (by decide) ?_ | refine o_no' rfl rfl rfl ?_ | refine a_condT rfl ?_ | refine a_condF rfl ?_ | refine d_no rfl rfl rfl (by decide) ?_ | refine d_no' rfl rfl rfl ?_ | (refine wq2 (fun hb => ?_) (fun hb => ?_) <;> (simp only [hb]; try simp only [hbs, ne_eq] at hb; try (exfalso; first | omega | exact hb trivial))) | fail)
        refine rq rfl ?_
        exact fnq
end Go.Proofs.YtilgagmfcdfjaaaGreat
