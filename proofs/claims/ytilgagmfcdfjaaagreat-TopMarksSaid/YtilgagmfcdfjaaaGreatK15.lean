/-
  An event put into its windows by the model, walked over abstract values.
    What must come out of a job and inputs by the model, walked over abstract values.
    The laws of the model: is it alive; few inputs.
  The helpers of the law TopMarks, walked over abstract values.
  Rows of panes cut by a property of their places. Plain.
-/
import Derived.Test.YtilgagmfcdfjaaaGreatK4
import Derived.Test.YtilgagmfcdfjaaaGreatK10
import Derived.Test.YtilgagmfcdfjaaaGreatK11
import Derived.Test.YtilgagmfcdfjaaaGreatK14
namespace Go.Proofs.YtilgagmfcdfjaaaGreat
open Go.RowKit
set_option linter.unusedSimpArgs false
set_option linter.unusedVariables false
/-- a function that gives a fresh row, which is then only read -/
theorem pc_of_own {P : Program} {f : FuncId} {args : List AV} {e size : Nat} {xs : List (List AV)} (h : AC P f args [] (.own 0 xs.length) [(0, .row e size xs)]) : PC P f args (.sl size xs) := by
  refine ⟨h.ok, fun w M μ vs hs hr => (h.out w M μ vs hs hr).mono ?_⟩
  rintro r w' ⟨y, μ', rfl, h1, h2, h3⟩
  have hk : Kept [((0 : Nat), SObj.row e size xs)] [] [] := trivial
  refine ⟨y, μ', rfl, hk.srel h1, finA_rep h1 hk (FinA.one (FinB.cell ?_)) h2, hk.gro h3 (fun id o hf => by simp [find] at hf)⟩
  exact FinC.own rfl rfl rfl rfl
theorem p_OfS (size slide t : Int) : PC Tryz.prog 51 [.v (.int .i64 size), .v (.int .i64 slide), .v (.int .i64 t)] (.sl 2 ((winL size slide t).map Wn.av)) := pc_of_own (p_Of size slide t)
/-- a value put into windows, one behind the other; what is there when one fails stays -/
def gW (k : Int) (key : ByteArray) (v : Int) : List Pn → List Wn → List Pn × Int
  | ps, [] => (ps, 0)
  | ps, w :: ws => if (addR k ps (oneP k w.lo w.hi key v)).2 = 0 then gW k key v (addR k ps (oneP k w.lo w.hi key v)).1 ws else (ps, (addR k ps (oneP k w.lo w.hi key v)).2)
theorem gW_take {k : Int} {key : ByteArray} {v : Int} : ∀ {ws : List Wn} {ps : List Pn}, (gW k key v ps ws).2 = (takeW k key v ps ws).2 ∧ ((takeW k key v ps ws).2 = 0 → (gW k key v ps ws).1 = (takeW k key v ps ws).1)
  | [], ps => ⟨rfl, fun _ => rfl⟩
  | w :: ws, ps => by
    unfold gW takeW
    split
    · exact gW_take
    · exact ⟨rfl, fun h => by simp_all⟩
section
variable (g s d k fu li de id : Int) (ps : List Pn) (key : ByteArray) (at' v : Int)
theorem gW_bad {k : Int} {key : ByteArray} {v : Int} {ps : List Pn} {ws : List Wn} {q : Nat} (hq : q < ws.length) {e : Int} (h : addR k ps (oneP k ws[q].lo ws[q].hi key v) = ([], e)) (he : e ≠ 0) : gW k key v ps (ws.drop q) = (ps, e) := by
  rw [List.drop_eq_getElem_cons hq, gW, h]
  simp [he]
theorem gW_ok {k : Int} {key : ByteArray} {v : Int} {ps ps' : List Pn} {ws : List Wn} {q : Nat} (hq : q < ws.length) (h : addR k ps (oneP k ws[q].lo ws[q].hi key v) = (ps', 0)) : gW k key v ps (ws.drop q) = gW k key v ps' (ws.drop (q + 1)) := by
  rw [List.drop_eq_getElem_cons hq, gW, h]
  simp
/-- the box of what is gathered -/
def gthAv (g s d k fu li de id : Int) (ps : List Pn) (bad : Int) : List AV := [.v (.int .i64 g), .v (.int .i64 s), .v (.int .i64 d), .v (.int .i64 k), .v (.int .i64 fu), .v (.int .i64 li), .v (.int .i64 de), .v (.int .i64 id), .sl 6 (ps.map Pn.av), .v (.int .i64 bad)]
set_option maxHeartbeats 8000000 in
set_option maxRecDepth 20000 in
theorem m_take (hx : ps.length ≤ 9223372036854775807) :
    AC Tryz.prog 32 [.ref 0 0, .agg [.v (.string key), .v (.int .i64 at'), .v (.int .i64 v)]] [(0, .box 84 (gthAv g s d k fu li de id ps 0))] (.v (.bool (decide ((gW k key v ps (winL s d at')).2 = 0)))) [(0, .box 84 (gthAv g s d k fu li de id (gW k key v ps (winL s d at')).1 (gW k key v ps (winL s d at')).2))] := by
  have ho := p_OfS s d at'
  have hol := winL_len s d at'
  generalize winL s d at' = ws at *
  refine (ac_body tab_ok Tryz.func32 rfl (by kernel_rfl) rfl ?_); intro w0 M μ0; simp only [Tryz.ntmps32, List.length_cons, List.length_nil, Nat.reduceAdd, Nat.reduceSub, numb]
  repeat' (first | ((first | apply o_do | apply d_do | apply d_yes rfl rfl rfl); first | exact lsc (ho) | exact ls_nilCheck rfl rfl | exact lsq) | refine a_seq ?_ | refine a_region ?_ | refine o_nil ?_ | refine a_block ?_ | refine a_ret ?_ | refine a_exit ?_ | refine a_skip ?_ | refine a_draw mixed ?_ | refine d_nil (by kernel_rfl) ?_ | refine o_yes rfl rfl rfl ?_ | refine o_no rfl rfl rfl (by decide) ?_ | refine o_no' rfl rfl rfl ?_ | refine a_condT rfl ?_ | refine a_condF rfl ?_ | refine d_no rfl rfl rfl (by decide) ?_ | refine d_no' rfl rfl rfl ?_ | (refine wq2 (fun hb => ?_) (fun hb => ?_) <;> (simp only [hb]; try simp only [hbs, ne_eq] at hb; try (exfalso; first | omega | exact hb trivial))) | fail)
  refine a_loop (X := {x : Nat × List Pn // x.1 ≤ ws.length ∧ gW k key v ps ws = gW k key v x.2 (ws.drop x.1) ∧ x.2.length ≤ 9223372036854775807}) (fun x => ⟨[(0, .ref 0 0), (3, .ref 1 0), (21, .sl 2 (ws.map Wn.av)), (22, .v (.int .i64 ws.length)), (23, .v (.int .i64 x.1.1))], [(0, .box 84 (gthAv g s d k fu li de id x.1.2 0)), (1, .box 57 [.v (.string key), .v (.int .i64 at'), .v (.int .i64 v)])]⟩) (fun x => ws.length - x.1.1) ⟨(0, ps), Nat.zero_le _, rfl, hx⟩ ?_ ?_
  · exact wkS
  rintro ⟨⟨q, cur⟩, hq, htk, hc⟩
  dsimp only at hq htk hc ⊢
  rw [htk]
  by_cases hlt : q < ws.length
  · have hel : (ws.map Wn.av)[q]? = some (Wn.av ws[q]) := by simp [hlt]
    have hA := p_Add cur k key ws[q].lo ws[q].hi v hc
    rcases addR_form k cur (oneP k ws[q].lo ws[q].hi key v) with ⟨l, hl, hll⟩ | ⟨e, hl, hne⟩
    · have ht := gW_ok hlt hl
      rw [hl] at hA
      dsimp only [PR.av] at hA
      rw [ht]
      generalize ws[q] = w at *
      repeat' (first | ((first | apply o_do | apply d_do | apply d_yes rfl rfl rfl); first | exact lsc (hA) | exact ls_nilCheck rfl rfl | exact ls_indexAddr_sl tab_ok rfl rfl rfl rfl hel rfl | exact lsq) | refine a_seq ?_ | refine a_region ?_ | refine o_nil ?_ | refine a_block ?_ | refine a_ret ?_ | refine a_exit ?_ | refine a_skip ?_ | refine a_draw mixed ?_ | refine d_nil (by kernel_rfl) ?_ | refine o_yes rfl rfl rfl ?_ | refine o_no rfl rfl rfl (by decide) ?_ | refine o_no' rfl rfl rfl ?_ | refine a_condT rfl ?_ | refine a_condF rfl ?_ | refine d_no rfl rfl rfl (by decide) ?_ | refine d_no' rfl rfl rfl ?_ | (refine wq2 (fun hb => ?_) (fun hb => ?_) <;> (simp only [hb]; try simp only [hbs, ne_eq] at hb; try (exfalso; first | omega | exact hb trivial))) | fail)
      refine ⟨⟨(q + 1, l), by dsimp only; omega, rfl, by dsimp only; omega⟩, by dsimp only; omega, ?_⟩
      exact wkS
    · have ht := gW_bad hlt hl hne
      rw [hl] at hA
      dsimp only [PR.av] at hA
      rw [ht]
      simp only [if_neg hne]
      generalize ws[q] = w at *
      repeat' (first | ((first | apply o_do | apply d_do | apply d_yes rfl rfl rfl); first | exact lsc (hA) | exact ls_nilCheck rfl rfl | exact ls_indexAddr_sl tab_ok rfl rfl rfl rfl hel rfl | exact lsq) | refine a_seq ?_ | refine a_region ?_ | refine o_nil ?_ | refine a_block ?_ | refine a_ret ?_ | refine a_exit ?_ | refine a_skip ?_ | refine a_draw mixed ?_ | refine d_nil (by kernel_rfl) ?_ | refine o_yes rfl rfl rfl ?_ | refine o_no rfl rfl rfl (by decide) ?_ | refine o_no' rfl rfl rfl ?_ | refine a_condT rfl ?_ | refine a_condF rfl ?_ | refine d_no rfl rfl rfl (by decide) ?_ | refine d_no' rfl rfl rfl ?_ | (refine wq2 (fun hb => ?_) (fun hb => ?_) <;> (simp only [hb]; try simp only [hbs, ne_eq] at hb; try (exfalso; first | omega | exact hb trivial))) | fail)
      all_goals refine rq rfl ?_
      all_goals (first | refine FinA.tup ?_ | refine FinA.one ?_); repeat' (first | exact FinBs.nil | exact FinCs.nil | refine FinBs.cons ?_ ?_ | refine FinCs.cons ?_ ?_ | refine FinB.cell (FinC.v ?_) | refine FinB.cell (FinC.own rfl rfl rfl ?_) | exact FinB.cell FinC.nil | refine FinB.cell (FinC.sl ?_) | exact FinB.agg' rfl rfl | exact FinB.cell (FinC.same rfl) | refine FinB.agg ?_ | refine FinC.v ?_ | refine FinC.own rfl rfl rfl ?_ | exact FinC.nil | refine FinC.sl ?_ | exact FinC.same rfl); all_goals try rfl
      all_goals simp [hne]
  · obtain rfl : q = ws.length := by omega
    rw [List.drop_length]
    simp only [gW, if_true]
    repeat' (first | ((first | apply o_do | apply d_do | apply d_yes rfl rfl rfl); exact lsq) | refine a_seq ?_ | refine a_region ?_ | refine o_nil ?_ | refine a_block ?_ | refine a_ret ?_ | refine a_exit ?_ | refine a_skip ?_ | refine a_draw mixed ?_ | refine d_nil (by kernel_rfl) ?_ | refine o_yes rfl rfl rfl ?_ | refine o_no rfl rfl rfl (by decide) ?_ | refine o_no' rfl rfl rfl ?_ | refine a_condT rfl ?_ | refine a_condF rfl ?_ | refine d_no rfl rfl rfl (by decide) ?_ | refine d_no' rfl rfl rfl ?_ | (refine wq2 (fun hb => ?_) (fun hb => ?_) <;> (simp only [hb]; try simp only [hbs, ne_eq] at hb; try (exfalso; first | omega | exact hb trivial))) | fail)
    all_goals refine rq rfl ?_
    all_goals (first | refine FinA.tup ?_ | refine FinA.one ?_); repeat' (first | exact FinBs.nil | exact FinCs.nil | refine FinBs.cons ?_ ?_ | refine FinCs.cons ?_ ?_ | refine FinB.cell (FinC.v ?_) | refine FinB.cell (FinC.own rfl rfl rfl ?_) | exact FinB.cell FinC.nil | refine FinB.cell (FinC.sl ?_) | exact FinB.agg' rfl rfl | exact FinB.cell (FinC.same rfl) | refine FinB.agg ?_ | refine FinC.v ?_ | refine FinC.own rfl rfl rfl ?_ | exact FinC.nil | refine FinC.sl ?_ | exact FinC.same rfl); all_goals try rfl
    all_goals simp
end
end Go.Proofs.YtilgagmfcdfjaaaGreat
namespace Go.Proofs.YtilgagmfcdfjaaaGreat
open Go.RowKit
set_option linter.unusedSimpArgs false
set_option linter.unusedVariables false
/-- a box whose cells are told otherwise -/
theorem a_swap {P : Program} {Γ : Ctx} {Q : Exit → ASt → Prop} {s : ASt} {c : Code} (b : Nat) {bt : TypeId} {cs : List AV} (cs' : List AV) (hb : find s.σ b = some (.box bt cs)) (hl : cs'.length = cs.length) (hc : ∀ σ μ w A us, repC σ μ w A cs us → repC σ μ w A cs' us)
    (h : AWP P Γ c Q ⟨s.regs, upd s.σ b (.box bt cs')⟩) : AWP P Γ c Q s := ⟨fun μ a w hr => h.out μ a w (Rel.swap (regs := s.regs) hr hb hl (fun us => hc _ _ _ _ us))⟩
theorem allK_len {li fu de : Int} : ∀ {ls : List (List Et)}, (∀ es ∈ ls, es.length ≤ 200) → (allK li fu de ls).length ≤ 200 * ls.length
  | [], _ => by simp [allK]
  | es :: ls, h => by
    have h1 := allK_len (li := li) (fu := fu) (de := de) (ls := ls) fun x hx => h x (by simp [hx])
    have h2 := h es (by simp)
    have h3 := keptE_len (li := li) (fu := fu) (de := de) (es := es) (m := 0)
    unfold allK at *
    rw [List.flatMap_cons, List.length_append, List.length_cons]
    omega
theorem allK_ok {li fu de : Int} {ls : List (List Et)} (h : ∀ es ∈ ls, ∀ e ∈ es, evR e.key e.at' = true) : ∀ e ∈ allK li fu de ls, evR e.key e.at' = true := by
  intro e he
  obtain ⟨es, h1, h2⟩ := List.mem_flatMap.1 he
  exact keptE_ok (h es h1) e h2
/-- what must come out, or why nothing does -/
def runN (g s d k fu li de id : Int) (ls : List (List Et)) : List Rs × Int := if checkN g s d k fu li de id ls = 0 then outR k (allVals s d (allK li fu de ls)) else ([], checkN g s d k fu li de id ls)
def RR.av (r : List Rs × Int) : AV := .tup [.sl 5 (r.1.map Rs.av), .v (.int .i64 r.2)]
section
variable (g s d k fu li de id : Int) (ls : List (List Et))
set_option maxHeartbeats 8000000 in
set_option maxRecDepth 20000 in
theorem m_Run (hx : Small ls) (hls : ∀ es ∈ ls, ∀ e ∈ es, -9223372036854775808 ≤ e.v ∧ e.v ≤ 9223372036854775807) (hli : li ≤ 9223372036854775807) :
    PC Tryz.prog 8 [.agg [.v (.int .i64 g), .v (.int .i64 s), .v (.int .i64 d), .v (.int .i64 k), .v (.int .i64 fu), .v (.int .i64 li), .v (.int .i64 de), .v (.int .i64 id)], .sl 1 (ls.map inAv)] (RR.av (runN g s d k fu li de id ls)) := by
  have hc := m_check g s d k fu li de id ls hx
  unfold runN
  by_cases h0 : checkN g s d k fu li de id ls = 0
  · obtain ⟨hfr, hw, hl4, hes⟩ := check_parts h0
    rw [h0] at hc
    simp only [h0, if_true]
    have hseq := seq_all g s d k fu li de id ls (fun es he => ⟨hls es he, by have := (hes es he).1; omega⟩) hli (by omega)
    have hKl := allK_len (li := li) (fu := fu) (de := de) (ls := ls) fun es he => (hes es he).1
    have hKo := allK_ok (li := li) (fu := fu) (de := de) (ls := ls) fun es he => (hes es he).2
    generalize allK li fu de ls = K at *
    refine PC.mk (ac_body tab_ok Tryz.func8 rfl (by kernel_rfl) rfl ?_); intro w0 M μ0; simp only [Tryz.ntmps8, List.length_cons, List.length_nil, Nat.reduceAdd, Nat.reduceSub, numb]
    repeat' (first | ((first | apply o_do | apply d_do | apply d_yes rfl rfl rfl); first | exact lsc (hc) | exact lsq) | refine a_seq ?_ | refine a_region ?_ | refine o_nil ?_ | refine a_block ?_ | refine a_ret ?_ | refine a_exit ?_ | refine a_skip ?_ | refine a_draw mixed ?_ | refine d_nil (by kernel_rfl) ?_ | refine o_yes rfl rfl rfl ?_ | refine o_no rfl rfl rfl (by decide) ?_ | refine o_no' rfl rfl rfl ?_ | refine a_condT rfl ?_ | refine a_condF rfl ?_ | refine d_no rfl rfl rfl (by decide) ?_ | refine d_no' rfl rfl rfl ?_ | (refine wq2 (fun hb => ?_) (fun hb => ?_) <;> (simp only [hb]; try simp only [hbs, ne_eq] at hb; try (exfalso; first | omega | exact hb trivial))) | fail)
    refine a_weak (t := ⟨[(2, .el [.v (.int .i64 g), .v (.int .i64 s), .v (.int .i64 d), .v (.int .i64 k), .v (.int .i64 fu), .v (.int .i64 li), .v (.int .i64 de), .v (.int .i64 id)]), (4, .ref 2 0), (5, .ref 3 0), (7, .ref 5 0), (9, .ref 6 0), (23, .clo (.func 30) [] [.el [.sl 1 (ls.map inAv)], .el [.v (.int .i64 g), .v (.int .i64 s), .v (.int .i64 d), .v (.int .i64 k), .v (.int .i64 fu), .v (.int .i64 li), .v (.int .i64 de), .v (.int .i64 id)]])], [(2, .box 27 [.v (.slice none 0 0)]), (3, .box 28 [.v (.int .i64 0)]), (4, .box 84 [.v (.int .i64 g), .v (.int .i64 s), .v (.int .i64 d), .v (.int .i64 k), .v (.int .i64 fu), .v (.int .i64 li), .v (.int .i64 de), .v (.int .i64 id), .v (.slice none 0 0), .v (.int .i64 0)]), (5, .box 81 [.ref 4 0]), (6, .box 85 [.clo (.func 32) [.ref 4 0] []])]⟩) ?_ ?_
    · refine ⟨by repeat' (first | exact trivial | exact FinA.one (FinB.cell (FinC.same rfl)) | exact FinA.one (FinB.cell FinC.nil) | exact FinA.bound rfl | exact FinA.one (FinB.cell (FinC.own rfl rfl rfl rfl)) | exact FinA.one (FinB.cell (FinC.v (by first | rfl | (simp)))) | exact FinA.one (FinB.cell (FinC.ow rfl (by first | rfl | (simp)))) | exact FinA.one (FinB.agg' rfl rfl) | exact FinA.one (FinB.cell (FinC.el rfl rfl rfl rfl)) | refine FinA.clo ?_ ?_ | exact FinBs.nil | exact FinB.cell (FinC.same rfl) | exact FinB.cell (FinC.el rfl rfl rfl rfl) | refine FinBs.cons ?_ ?_ | refine ⟨⟨_, rfl, ?_⟩, ?_⟩), by repeat' (first | exact trivial | refine ⟨⟨_, rfl, by first | rfl | (simp; done) | (simp [renO, *]; done)⟩, by first | rfl | assumption, ?_⟩), rfl⟩
    refine a_swap 4 (gthAv g s d k fu li de id [] 0) rfl rfl (fun σ μ w A us h => ?_) ?_
    · simp only [gthAv, repC, rep] at h ⊢
      obtain ⟨a1, m1, rfl, o1, h1, a2, m2, rfl, o2, h2, a3, m3, rfl, o3, h3, a4, m4, rfl, o4, h4, a5, m5, rfl, o5, h5, a6, m6, rfl, o6, h6, a7, m7, rfl, o7, h7, a8, m8, rfl, o8, h8, a9, m9, rfl, o9, h9, a10, m10, rfl, o10, h10, rfl⟩ := h
      exact ⟨_, _, rfl, o1, h1, _, _, rfl, o2, h2, _, _, rfl, o3, h3, _, _, rfl, o4, h4, _, _, rfl, o5, h5, _, _, rfl, o6, h6, _, _, rfl, o7, h7, _, _, rfl, o8, h8, _, _, rfl, o9, ⟨none, 0, [], h9.1, Nat.le_refl _, by simp [maxLen], .inl rfl, by simp [repLL]⟩, _, _, rfl, o10, h10, rfl⟩
    refine a_range (fun x => .agg (Et.av x)) K rfl hseq rfl et_cav rfl (fun i => [(2, .box 27 [.v (.slice none 0 0)]), (3, .box 28 [.v (.int .i64 0)]), (4, .box 84 (gthAv g s d k fu li de id (rowV k (allVals s d (K.take i))) 0)), (5, .box 81 [.ref 4 0]), (6, .box 85 [.clo (.func 32) [.ref 4 0] []])]) (fun i => (rowV k (allVals s d (K.take i))).length ≤ 2000) rfl (fun _ _ => rfl) (by simp [allVals, rowV, insAll]) ?_ ?_
    · intro i x hxi hok W M' μi L
      have hil : i < K.length := (List.getElem?_eq_some_iff.1 hxi).1
      have hsn : allVals s d (K.take (i + 1)) = allVals s d (K.take i) ++ valsV s d x := by
        rw [take_snoc K i hil, allVals_snoc]
        have := (List.getElem?_eq_some_iff.1 hxi).2
        rw [this]
      have hxm : x ∈ K := List.mem_of_getElem? hxi
      have hvl := allVals_len (s := s) (d := d) (es := K.take i)
      rw [List.length_take, Nat.min_eq_left (by omega)] at hvl
      have htk := take_row (vs := allVals s d (K.take i)) (e := x) hfr hw (hKo x hxm) (allVals_ok hfr hw fun e he => hKo e (List.mem_of_mem_take he)) (by omega) hok
      have hT := m_take g s d k fu li de id (rowV k (allVals s d (K.take i))) x.key x.at' x.v (by omega)
      obtain ⟨hg1, hg2⟩ := gW_take (k := k) (key := x.key) (v := x.v) (ws := winL s d x.at') (ps := rowV k (allVals s d (K.take i)))
      dsimp only
      rw [hsn]
      rw [← hsn] at htk ⊢
      rw [htk] at hg1 hg2
      have hfin : ¬ (rowV k (allVals s d (K.take (i + 1)))).length ≤ 2000 → ¬ (rowV k (allVals s d K)).length ≤ 2000 := fun h1 h2 => h1 (by
        have e : allVals s d K = allVals s d (K.take (i + 1)) ++ allVals s d (K.drop (i + 1)) := by
          unfold allVals
          rw [← List.flatMap_append, List.take_append_drop]
        rw [e] at h2
        exact Nat.le_trans rowM_mono h2)
      generalize rowV k (allVals s d (K.take i)) = R at *
      generalize rowV k (allVals s d (K.take (i + 1))) = R' at *
      generalize gW k x.key x.v R (winL s d x.at') = G at *
      obtain ⟨G1, G2⟩ := G
      dsimp only at hg1 hg2 hT
      by_cases h2 : R'.length ≤ 2000
      · rw [if_pos h2] at hg1 hg2
        have hg2 := hg2 rfl
        dsimp only at hg1 hg2
        subst hg1 hg2
        repeat' (first | ((first | apply o_do | apply d_do | apply d_yes rfl rfl rfl); exact lsq) | refine a_seq ?_ | refine a_region ?_ | refine o_nil ?_ | refine a_block ?_ | refine a_ret ?_ | refine a_exit ?_ | refine a_skip ?_ | refine a_draw mixed ?_ | refine d_nil (by kernel_rfl) ?_ | refine o_yes rfl rfl rfl ?_ | refine o_no rfl rfl rfl (by decide) ?_ | refine o_no' rfl rfl rfl ?_ | refine a_condT rfl ?_ | refine a_condF rfl ?_ | refine d_no rfl rfl rfl (by decide) ?_ | refine d_no' rfl rfl rfl ?_ | (refine wq2 (fun hb => ?_) (fun hb => ?_) <;> (simp only [hb]; try simp only [hbs, ne_eq] at hb; try (exfalso; first | omega | exact hb trivial))) | fail)
        dsimp only [AThen1]
        intro W M' μi L d0
        repeat' (first | ((first | apply o_do | apply d_do | apply d_yes rfl rfl rfl); first | exact ls_callAB [4] 20 hT rfl rfl (by (repeat' (first | exact NilL.nil | refine NilL.cons Nil.same ?_ | refine NilL.cons Nil.nil ?_ | refine NilL.cons (Nil.agg ?_) ?_ | exact Nil1s.nil | refine Nil1s.cons Nil1.same ?_ | refine Nil1s.cons Nil1.nil ?_)); first | done | fail) rfl (by repeat' (first | exact trivial | refine ⟨⟨_, rfl, by first | rfl | (simp [renO, *]; done)⟩, ?_⟩)) (by first | rfl | simp [closO, *]) rfl rfl rfl rfl (by first | rfl | simp [closO, *]) rfl | exact lsq) | refine a_seq ?_ | refine a_region ?_ | refine o_nil ?_ | refine a_block ?_ | refine a_ret ?_ | refine a_exit ?_ | refine a_skip ?_ | refine a_draw mixed ?_ | refine d_nil (by kernel_rfl) ?_ | refine o_yes rfl rfl rfl ?_ | refine o_no rfl rfl rfl (by decide) ?_ | refine o_no' rfl rfl rfl ?_ | refine a_condT rfl ?_ | refine a_condF rfl ?_ | refine d_no rfl rfl rfl (by decide) ?_ | refine d_no' rfl rfl rfl ?_ | (refine wq2 (fun hb => ?_) (fun hb => ?_) <;> (simp only [hb]; try simp only [hbs, ne_eq] at hb; try (exfalso; first | omega | exact hb trivial))) | fail)
        refine ⟨h2, ?_⟩
        repeat' (first | exact trivial | refine ⟨⟨_, rfl, by first | rfl | (simp [renO, *]; done)⟩, by first | rfl | assumption, ?_⟩)
      · rw [if_neg h2] at hg1 hg2
        dsimp only at hg1 hg2
        subst hg1
        have hout : outR k (allVals s d K) = ([], 3) := by
          unfold outR
          rw [if_neg]
          intro h
          refine hfin h2 ?_
          exact h
        rw [hout]
        repeat' (first | ((first | apply o_do | apply d_do | apply d_yes rfl rfl rfl); exact lsq) | refine a_seq ?_ | refine a_region ?_ | refine o_nil ?_ | refine a_block ?_ | refine a_ret ?_ | refine a_exit ?_ | refine a_skip ?_ | refine a_draw mixed ?_ | refine d_nil (by kernel_rfl) ?_ | refine o_yes rfl rfl rfl ?_ | refine o_no rfl rfl rfl (by decide) ?_ | refine o_no' rfl rfl rfl ?_ | refine a_condT rfl ?_ | refine a_condF rfl ?_ | refine d_no rfl rfl rfl (by decide) ?_ | refine d_no' rfl rfl rfl ?_ | (refine wq2 (fun hb => ?_) (fun hb => ?_) <;> (simp only [hb]; try simp only [hbs, ne_eq] at hb; try (exfalso; first | omega | exact hb trivial))) | fail)
        dsimp only [AThen1]
        intro W M' μi L d0
        repeat' (first | ((first | apply o_do | apply d_do | apply d_yes rfl rfl rfl); first | exact ls_callAB [4] 20 hT rfl rfl (by (repeat' (first | exact NilL.nil | refine NilL.cons Nil.same ?_ | refine NilL.cons Nil.nil ?_ | refine NilL.cons (Nil.agg ?_) ?_ | exact Nil1s.nil | refine Nil1s.cons Nil1.same ?_ | refine Nil1s.cons Nil1.nil ?_)); first | done | fail) rfl (by repeat' (first | exact trivial | refine ⟨⟨_, rfl, by first | rfl | (simp [renO, *]; done)⟩, ?_⟩)) (by first | rfl | simp [closO, *]) rfl rfl rfl rfl (by first | rfl | simp [closO, *]) rfl | exact ls_nilCheck rfl rfl | exact lsq) | refine a_seq ?_ | refine a_region ?_ | refine o_nil ?_ | refine a_block ?_ | refine a_ret ?_ | refine a_exit ?_ | refine a_skip ?_ | refine a_draw mixed ?_ | refine d_nil (by kernel_rfl) ?_ | refine o_yes rfl rfl rfl ?_ | refine o_no rfl rfl rfl (by decide) ?_ | refine o_no' rfl rfl rfl ?_ | refine a_condT rfl ?_ | refine a_condF rfl ?_ | refine d_no rfl rfl rfl (by decide) ?_ | refine d_no' rfl rfl rfl ?_ | (refine wq2 (fun hb => ?_) (fun hb => ?_) <;> (simp only [hb]; try simp only [hbs, ne_eq] at hb; try (exfalso; first | omega | exact hb trivial))) | fail)
        refine ⟨[(2, .box 27 [.v (.slice none 0 0)]), (3, .box 28 [.v (.int .i64 3)]), (4, .box 84 (gthAv g s d k fu li de id G1 3)), (5, .box 81 [.ref 4 0]), (6, .box 85 [.clo (.func 32) [.ref 4 0] []])], ?_, rfl, ?_⟩
        · repeat' (first | exact trivial | refine ⟨⟨_, rfl, by first | rfl | (simp [renO, *]; done)⟩, by first | rfl | assumption, ?_⟩)
        · refine rq rfl ?_
          all_goals exact fnq
    · intro hok
      dsimp only
      rw [List.take_length] at hok ⊢
      have hR := p_Results k (rowV k (allVals s d K)) (by omega)
      have hout : outR k (allVals s d K) = (resultsL k (rowV k (allVals s d K)), 0) := by
        unfold outR
        rw [if_pos hok]
      rw [hout]
      generalize resultsL k (rowV k (allVals s d K)) = U at *
      generalize rowV k (allVals s d K) = R at *
      repeat' (first | ((first | apply o_do | apply d_do | apply d_yes rfl rfl rfl); first | exact lsc (hR) | exact ls_nilCheck rfl rfl | exact lsq) | refine a_seq ?_ | refine a_region ?_ | refine o_nil ?_ | refine a_block ?_ | refine a_ret ?_ | refine a_exit ?_ | refine a_skip ?_ | refine a_draw mixed ?_ | refine d_nil (by kernel_rfl) ?_ | refine o_yes rfl rfl rfl ?_ | refine o_no rfl rfl rfl (by decide) ?_ | refine o_no' rfl rfl rfl ?_ | refine a_condT rfl ?_ | refine a_condF rfl ?_ | refine d_no rfl rfl rfl (by decide) ?_ | refine d_no' rfl rfl rfl ?_ | (refine wq2 (fun hb => ?_) (fun hb => ?_) <;> (simp only [hb]; try simp only [hbs, ne_eq] at hb; try (exfalso; first | omega | exact hb trivial))) | fail)
      all_goals refine rq rfl ?_
      all_goals exact fnq
  · rw [if_neg h0]
    generalize checkN g s d k fu li de id ls = r at *
    refine PC.mk (ac_body tab_ok Tryz.func8 rfl (by kernel_rfl) rfl ?_); intro w0 M μ0; simp only [Tryz.ntmps8, List.length_cons, List.length_nil, Nat.reduceAdd, Nat.reduceSub, numb]
    repeat' (first | ((first | apply o_do | apply d_do | apply d_yes rfl rfl rfl); first | exact lsc (hc) | exact lsq) | refine a_seq ?_ | refine a_region ?_ | refine o_nil ?_ | refine a_block ?_ | refine a_ret ?_ | refine a_exit ?_ | refine a_skip ?_ | refine a_draw mixed ?_ | refine d_nil (by kernel_rfl) ?_ | refine o_yes rfl rfl rfl ?_ | refine o_no rfl rfl rfl (by decide) ?_ | refine o_no' rfl rfl rfl ?_ | refine a_condT rfl ?_ | refine a_condF rfl ?_ | refine d_no rfl rfl rfl (by decide) ?_ | refine d_no' rfl rfl rfl ?_ | (refine wq2 (fun hb => ?_) (fun hb => ?_) <;> (simp only [hb]; try simp only [hbs, ne_eq] at hb; try (exfalso; first | omega | exact hb trivial))) | fail)
    all_goals refine rq rfl ?_
    all_goals exact fnq
end
end Go.Proofs.YtilgagmfcdfjaaaGreat
namespace Go.Proofs.YtilgagmfcdfjaaaGreat
open Go.RowKit
set_option linter.unusedSimpArgs false
set_option linter.unusedVariables false
def aliveE : Et := ⟨⟨#[97]⟩, 0, 0⟩
theorem alive_check : checkN 1 1 1 2 0 0 0 0 [[aliveE]] = 0 := by rfl
theorem alive_vals : allVals 1 1 (allK 0 0 0 [[aliveE]]) = [⟨⟨#[97]⟩, 0, 1, 0⟩] := by rfl
theorem alive_out : ∃ r, runN 1 1 1 2 0 0 0 0 [[aliveE]] = ([r], 0) := by
  unfold runN
  rw [if_pos alive_check, alive_vals]
  exact ⟨_, rfl⟩
end Go.Proofs.YtilgagmfcdfjaaaGreat
namespace Go.Proofs.YtilgagmfcdfjaaaGreat
open Go.RowKit
set_option linter.unusedSimpArgs false
set_option linter.unusedVariables false
set_option maxHeartbeats 4000000 in
theorem t_alive : PC Tryz.prog 9 [] (.v (.bool true)) := by
  obtain ⟨r, hr⟩ := alive_out
  have h := m_Run 1 1 1 2 0 0 0 0 [[aliveE]] ⟨by simp, by simp⟩ (by simp [aliveE]) (by omega)
  rw [hr] at h
  have h : PC Tryz.prog 8 [.agg [.v (.int .i64 1), .v (.int .i64 1), .v (.int .i64 1), .v (.int .i64 2), .v (.int .i64 0), .v (.int .i64 0), .v (.int .i64 0), .v (.int .i64 0)], .sl 1 [[.sl 3 [[.v (.string ⟨#[97]⟩), .v (.int .i64 0), .v (.int .i64 0)]]]]] (.tup [.sl 5 [Rs.av r], .v (.int .i64 0)]) := h
  refine PC.mk (ac_body tab_ok Tryz.func9 rfl (by kernel_rfl) rfl ?_); intro w0 M μ0; simp only [Tryz.ntmps9, List.length_cons, List.length_nil, Nat.reduceAdd, Nat.reduceSub, numb]
  repeat' (first | ((first | apply o_do | apply d_do | apply d_yes rfl rfl rfl); first | exact lsc (h) | exact lsq) | refine a_seq ?_ | refine a_region ?_ | refine o_nil ?_ | refine a_block ?_ | refine a_ret ?_ | refine a_exit ?_ | refine a_skip ?_ | refine a_draw mixed ?_ | refine d_nil (by kernel_rfl) ?_ | refine o_yes rfl rfl rfl ?_ | refine o_no rfl rfl rfl (by decide) ?_ | refine o_no' rfl rfl rfl ?_ | refine a_condT rfl ?_ | refine a_condF rfl ?_ | refine d_no rfl rfl rfl (by decide) ?_ | refine d_no' rfl rfl rfl ?_ | (refine wq2 (fun hb => ?_) (fun hb => ?_) <;> (simp only [hb]; try simp only [hbs, ne_eq] at hb; try (exfalso; first | omega | exact hb trivial))) | fail)
  all_goals refine rq rfl ?_
  all_goals exact fnq
def few3 (ls : List (List Et)) : List (List Et) := (ls.take 3).map fun es => es.take 10
set_option maxHeartbeats 8000000 in
theorem t_few (ls : List (List Et)) (hx : Small ls) : PC Tryz.prog 7 [.sl 1 (ls.map inAv)] (.sl 1 ((few3 ls).map inAv)) := by
  have hlx := hx.1
  refine PC.mk (ac_body tab_ok Tryz.func7 rfl (by kernel_rfl) rfl ?_); intro w0 M μ0; simp only [Tryz.ntmps7, List.length_cons, List.length_nil, Nat.reduceAdd, Nat.reduceSub, numb]
  repeat' (first | ((first | apply o_do | apply d_do | apply d_yes rfl rfl rfl); exact lsq) | refine a_seq ?_ | refine a_region ?_ | refine o_nil ?_ | refine a_block ?_ | refine a_ret ?_ | refine a_exit ?_ | refine a_skip ?_ | refine a_draw mixed ?_ | refine d_nil (by kernel_rfl) ?_ | refine o_yes rfl rfl rfl ?_ | refine o_no rfl rfl rfl (by decide) ?_ | refine o_no' rfl rfl rfl ?_ | refine a_condT rfl ?_ | refine a_condF rfl ?_ | refine d_no rfl rfl rfl (by decide) ?_ | refine d_no' rfl rfl rfl ?_ | (refine wq2 (fun hb => ?_) (fun hb => ?_) <;> (simp only [hb]; try simp only [hbs, ne_eq] at hb; try (exfalso; first | omega | exact hb trivial))) | fail)
  refine a_adopt 3 0 48 1 rfl rfl ?_
  refine a_loop (X := {q : Nat // q ≤ ls.length}) (fun x => ⟨[(0, .sl 1 (ls.map inAv)), (3, .own 0 ((few3 (ls.take x.1)).map inAv).length), (6, .sl 1 (ls.map inAv)), (7, .v (.int .i64 ls.length)), (8, .v (.int .i64 x.1))], [(0, .row 48 1 ((few3 (ls.take x.1)).map inAv))]⟩) (fun x => ls.length - x.1) ⟨0, Nat.zero_le _⟩ ?_ ?_
  · exact wkS
  rintro ⟨q, hq⟩
  dsimp only
  by_cases hlt : q < ls.length
  · have hel : (ls.map inAv)[q]? = some (inAv ls[q]) := by simp [hlt]
    have hen := hx.2 _ (List.getElem_mem hlt)
    by_cases h3 : q < 3
    · have hsn : (few3 (ls.take (q + 1))).map inAv = (few3 (ls.take q)).map inAv ++ [inAv (ls[q].take 10)] := by
        unfold few3
        rw [List.take_take, List.take_take, show min 3 (q + 1) = q + 1 by omega, show min 3 q = q by omega, take_snoc ls q hlt, List.map_append, List.map_append]; rfl
      have hTl : ((few3 (ls.take q)).map inAv).length = q := by simp [few3]; omega
      generalize (few3 (ls.take q)).map inAv = T at *
      generalize ls[q] = es at *
      have hml : (es.map Et.av).length = es.length := List.length_map _
      have hf : inAv (es.take 10) = [.sl 3 ((es.map Et.av).take 10)] := by simp [inAv, List.map_take]
      rw [hf] at hsn
      by_cases h10 : es.length ≤ 10
      · have ht : (es.map Et.av).take 10 = (es.map Et.av).take es.length := by
          rw [List.take_of_length_le (by omega), List.take_of_length_le (by omega)]
        rw [ht] at hsn
        have hmin : min (es.length : Int) 10 = es.length := by omega
        repeat' (first | ((first | apply o_do | apply d_do | apply d_yes rfl rfl rfl); first | exact ls_indexAddr_sl tab_ok rfl rfl rfl rfl hel rfl | exact ls_slice_to (n := es.length) tab_ok rfl rfl rfl (by simp; omega) (by rw [hml]; omega) rfl | focus (apply ls_append tab_ok rfl rfl ?hn rfl ?hsrc rfl ?hlen rfl rfl; (case hn => rfl); (case hsrc => first | exact SrcIs.sl | exact SrcIs.nil | exact SrcIs.own rfl rfl | fail); (case hlen => (try simp only [List.length_cons, List.length_nil]); (omega)); first | done | fail) | exact lsq) | refine a_seq ?_ | refine a_region ?_ | refine o_nil ?_ | refine a_block ?_ | refine a_ret ?_ | refine a_exit ?_ | refine a_skip ?_ | refine a_draw mixed ?_ | refine d_nil (by kernel_rfl) ?_ | refine o_yes rfl rfl rfl ?_ | refine o_no rfl rfl rfl (by decide) ?_ | refine o_no' rfl rfl rfl ?_ | refine a_condT rfl ?_ | refine a_condF rfl ?_ | refine d_no rfl rfl rfl (by decide) ?_ | refine d_no' rfl rfl rfl ?_ | (refine wq2 (fun hb => ?_) (fun hb => ?_) <;> (simp only [hb]; try simp only [hbs, ne_eq] at hb; try (exfalso; first | omega | exact hb trivial))) | fail)
        refine ⟨⟨q + 1, by omega⟩, by dsimp only; omega, ?_⟩
        refine ⟨by repeat' (first | exact trivial | exact FinA.one (FinB.cell (FinC.same rfl)) | exact FinA.one (FinB.cell FinC.nil) | exact FinA.bound rfl | exact FinA.one (FinB.cell (FinC.own rfl rfl rfl rfl)) | exact FinA.one (FinB.cell (FinC.v (by first | rfl | ((first | (simp; done) | (simp only [hsn]; rfl)))))) | exact FinA.one (FinB.cell (FinC.ow rfl (by first | rfl | ((first | (simp; done) | (simp only [hsn]; rfl)))))) | exact FinA.one (FinB.agg' rfl rfl) | refine ⟨⟨_, rfl, ?_⟩, ?_⟩), by repeat' (first | exact trivial | refine ⟨⟨_, rfl, by first | rfl | ((first | (simp; done) | (simp only [hsn]; rfl)); done) | (simp [renO, *]; done)⟩, by first | rfl | assumption, ?_⟩), rfl⟩
      · repeat' (first | ((first | apply o_do | apply d_do | apply d_yes rfl rfl rfl); first | exact ls_indexAddr_sl tab_ok rfl rfl rfl rfl hel rfl | exact ls_slice_to (n := 10) tab_ok rfl rfl rfl (by simp; omega) (by rw [hml]; omega) rfl | focus (apply ls_append tab_ok rfl rfl ?hn rfl ?hsrc rfl ?hlen rfl rfl; (case hn => rfl); (case hsrc => first | exact SrcIs.sl | exact SrcIs.nil | exact SrcIs.own rfl rfl | fail); (case hlen => (try simp only [List.length_cons, List.length_nil]); (omega)); first | done | fail) | exact lsq) | refine a_seq ?_ | refine a_region ?_ | refine o_nil ?_ | refine a_block ?_ | refine a_ret ?_ | refine a_exit ?_ | refine a_skip ?_ | refine a_draw mixed ?_ | refine d_nil (by kernel_rfl) ?_ | refine o_yes rfl rfl rfl ?_ | refine o_no rfl rfl rfl (by decide) ?_ | refine o_no' rfl rfl rfl ?_ | refine a_condT rfl ?_ | refine a_condF rfl ?_ | refine d_no rfl rfl rfl (by decide) ?_ | refine d_no' rfl rfl rfl ?_ | (refine wq2 (fun hb => ?_) (fun hb => ?_) <;> (simp only [hb]; try simp only [hbs, ne_eq] at hb; try (exfalso; first | omega | exact hb trivial))) | fail)
        refine ⟨⟨q + 1, by omega⟩, by dsimp only; omega, ?_⟩
        refine ⟨by repeat' (first | exact trivial | exact FinA.one (FinB.cell (FinC.same rfl)) | exact FinA.one (FinB.cell FinC.nil) | exact FinA.bound rfl | exact FinA.one (FinB.cell (FinC.own rfl rfl rfl rfl)) | exact FinA.one (FinB.cell (FinC.v (by first | rfl | ((first | (simp; done) | (simp only [hsn]; rfl)))))) | exact FinA.one (FinB.cell (FinC.ow rfl (by first | rfl | ((first | (simp; done) | (simp only [hsn]; rfl)))))) | exact FinA.one (FinB.agg' rfl rfl) | refine ⟨⟨_, rfl, ?_⟩, ?_⟩), by repeat' (first | exact trivial | refine ⟨⟨_, rfl, by first | rfl | ((first | (simp; done) | (simp only [hsn]; rfl)); done) | (simp [renO, *]; done)⟩, by first | rfl | assumption, ?_⟩), rfl⟩
    · have hsn : (few3 (ls.take (q + 1))).map inAv = (few3 (ls.take q)).map inAv := by
        unfold few3
        rw [List.take_take, List.take_take, show min 3 (q + 1) = 3 by omega, show min 3 q = 3 by omega]
      generalize (few3 (ls.take q)).map inAv = T at *
      generalize ls[q] = es at *
      repeat' (first | ((first | apply o_do | apply d_do | apply d_yes rfl rfl rfl); first | exact ls_indexAddr_sl tab_ok rfl rfl rfl rfl hel rfl | exact lsq) | refine a_seq ?_ | refine a_region ?_ | refine o_nil ?_ | refine a_block ?_ | refine a_ret ?_ | refine a_exit ?_ | refine a_skip ?_ | refine a_draw mixed ?_ | refine d_nil (by kernel_rfl) ?_ | refine o_yes rfl rfl rfl ?_ | refine o_no rfl rfl rfl (by decide) ?_ | refine o_no' rfl rfl rfl ?_ | refine a_condT rfl ?_ | refine a_condF rfl ?_ | refine d_no rfl rfl rfl (by decide) ?_ | refine d_no' rfl rfl rfl ?_ | (refine wq2 (fun hb => ?_) (fun hb => ?_) <;> (simp only [hb]; try simp only [hbs, ne_eq] at hb; try (exfalso; first | omega | exact hb trivial))) | fail)
      refine ⟨⟨q + 1, by omega⟩, by dsimp only; omega, ?_⟩
      dsimp only
      rw [hsn]
      exact wkS
  · obtain rfl : q = ls.length := by omega
    rw [List.take_length]
    generalize (few3 ls).map inAv = T at *
    repeat' (first | ((first | apply o_do | apply d_do | apply d_yes rfl rfl rfl); exact lsq) | refine a_seq ?_ | refine a_region ?_ | refine o_nil ?_ | refine a_block ?_ | refine a_ret ?_ | refine a_exit ?_ | refine a_skip ?_ | refine a_draw mixed ?_ | refine d_nil (by kernel_rfl) ?_ | refine o_yes rfl rfl rfl ?_ | refine o_no rfl rfl rfl (by decide) ?_ | refine o_no' rfl rfl rfl ?_ | refine a_condT rfl ?_ | refine a_condF rfl ?_ | refine d_no rfl rfl rfl (by decide) ?_ | refine d_no' rfl rfl rfl ?_ | (refine wq2 (fun hb => ?_) (fun hb => ?_) <;> (simp only [hb]; try simp only [hbs, ne_eq] at hb; try (exfalso; first | omega | exact hb trivial))) | fail)
    all_goals refine rq rfl ?_
    all_goals exact fnq
theorem PC.res {P : Program} {f : FuncId} {args : List AV} {r r' : AV} (h : PC P f args r) (hr : ∀ μ w A y, rep [] μ w A r y → rep [] μ w A r' y) : PC P f args r' :=
  ⟨⟨h.ac.ok, fun w M μ vs h1 h2 => (h.ac.out w M μ vs h1 h2).mono fun e w' ⟨y, μ', e1, e2, e3, e4⟩ => ⟨y, μ', e1, e2, hr _ _ _ _ e3, e4⟩⟩⟩
def zGp (no : Int) : Gp := ⟨no, 0, []⟩
def zAv (no : Int) : List AV := [.v (.int .i64 no), .v (.int .i64 0), .v (.slice none 0 0)]
def zeroI (n : Nat) : List Int := (List.range n).map fun (q : Nat) => (q : Int)
theorem zeroI_snoc (n : Nat) : zeroI (n + 1) = zeroI n ++ [(n : Int)] := by
  unfold zeroI
  rw [List.range_succ, List.map_append]; rfl
theorem zAv_gp {μ : Nat → Value} {w : World} {A : Nat → Prop} {no : Int} {us : List Value} (h : repC [] μ w A (zAv no) us) : repC [] μ w A (zGp no).av us := by
  unfold zAv at h
  unfold zGp Gp.av
  simp only [repC, rep, List.map_nil] at h ⊢
  obtain ⟨a, l, e, o, h1, b, l1, e1, o1, h2, c, l2, e2, o2, ⟨rfl, _⟩, e3⟩ := h
  exact ⟨a, l, e, o, h1, b, l1, e1, o1, h2, _, l2, e2, rfl, ⟨none, 0, [], rfl, Nat.le_refl _, Nat.zero_le _, .inl rfl, rfl⟩, e3⟩
theorem zAv_gps {μ : Nat → Value} {w : World} {A : Nat → Prop} : ∀ (l : List Int) (us : List Value), repLL [] μ w A 3 (l.map zAv) us → repLL [] μ w A 3 ((l.map zGp).map Gp.av) us
  | [], us, h => h
  | no :: l, us, h => by
    simp only [List.map_cons, repLL] at h ⊢
    obtain ⟨u1, u2, e, h1, h2, h3⟩ := h
    exact ⟨u1, u2, e, h1, zAv_gp h2, zAv_gps l u2 h3⟩
theorem zAv_sl {μ : Nat → Value} {w : World} {A : Nat → Prop} (l : List Int) (y : Value) (h : rep [] μ w A (.sl 3 (l.map zAv)) y) : rep [] μ w A (.sl 3 ((l.map zGp).map Gp.av)) y := by
  simp only [rep] at h ⊢
  obtain ⟨ad, c, us, e, h1, h2, h3, h4⟩ := h
  refine ⟨ad, c, us, ?_, ?_, h2, h3, zAv_gps l us h4⟩
  · rw [e]; simp
  · simpa using h1
theorem t_zero (j : Jb) (n : Nat) (hg : j.g = (n : Int)) (hn : n ≤ 1000000) : PC Tryz.prog 11 [.agg j.av] (.sl 3 (((zeroI n).map zGp).map Gp.av)) := by
  suffices h : PC Tryz.prog 11 [.agg j.av] (.sl 3 ((zeroI n).map zAv)) from h.res fun μ w A y hy => zAv_sl _ y hy
  obtain ⟨g, s, d, k, fu, li, de, id⟩ := j
  dsimp only at hg
  subst hg
  unfold Jb.av
  dsimp only
  refine PC.mk (ac_body tab_ok Tryz.func11 rfl (by kernel_rfl) rfl ?_); intro w0 M μ0; simp only [Tryz.ntmps11, List.length_cons, List.length_nil, Nat.reduceAdd, Nat.reduceSub, numb]
  repeat' (first | ((first | apply o_do | apply d_do | apply d_yes rfl rfl rfl); exact lsq) | refine a_seq ?_ | refine a_region ?_ | refine o_nil ?_ | refine a_block ?_ | refine a_ret ?_ | refine a_exit ?_ | refine a_skip ?_ | refine a_draw mixed ?_ | refine d_nil (by kernel_rfl) ?_ | refine o_yes rfl rfl rfl ?_ | refine o_no rfl rfl rfl (by decide) ?_ | refine o_no' rfl rfl rfl ?_ | refine a_condT rfl ?_ | refine a_condF rfl ?_ | refine d_no rfl rfl rfl (by decide) ?_ | refine d_no' rfl rfl rfl ?_ | (refine wq2 (fun hb => ?_) (fun hb => ?_) <;> (simp only [hb]; try simp only [hbs, ne_eq] at hb; try (exfalso; first | omega | exact hb trivial))) | fail)
  refine a_adopt 3 1 98 3 rfl rfl ?_
  refine a_loop (X := {q : Nat // q ≤ n}) (fun x => ⟨[(3, .own 1 ((zeroI x.1).map zAv).length), (6, .v (.int .i64 n)), (7, .v (.int .i64 x.1))], [(1, .row 98 3 ((zeroI x.1).map zAv))]⟩) (fun x => n - x.1) ⟨0, Nat.zero_le _⟩ ?_ ?_
  · have e0 : (zeroI 0).map zAv = [] := rfl
    dsimp only
    rw [e0]
    exact wkS
  rintro ⟨q, hq⟩
  dsimp only
  by_cases hlt : q < n
  · have hsn : (zeroI (q + 1)).map zAv = (zeroI q).map zAv ++ [zAv q] := by
      rw [zeroI_snoc, List.map_append]; rfl
    have hTl : ((zeroI q).map zAv).length = q := by simp [zeroI]
    have hz : zAv q = [.v (.int .i64 q), .v (.int .i64 0), .v (.slice none 0 0)] := rfl
    rw [hz] at hsn
    generalize (zeroI q).map zAv = T at *
    repeat' (first | ((first | apply o_do | apply d_do | apply d_yes rfl rfl rfl); first | focus (apply ls_append tab_ok rfl rfl ?hn rfl ?hsrc rfl ?hlen rfl rfl; (case hn => rfl); (case hsrc => first | exact SrcIs.sl | exact SrcIs.nil | exact SrcIs.own rfl rfl | fail); (case hlen => (try simp only [List.length_cons, List.length_nil]); (omega)); first | done | fail) | exact lsq) | refine a_seq ?_ | refine a_region ?_ | refine o_nil ?_ | refine a_block ?_ | refine a_ret ?_ | refine a_exit ?_ | refine a_skip ?_ | refine a_draw mixed ?_ | refine d_nil (by kernel_rfl) ?_ | refine o_yes rfl rfl rfl ?_ | refine o_no rfl rfl rfl (by decide) ?_ | refine o_no' rfl rfl rfl ?_ | refine a_condT rfl ?_ | refine a_condF rfl ?_ | refine d_no rfl rfl rfl (by decide) ?_ | refine d_no' rfl rfl rfl ?_ | (refine wq2 (fun hb => ?_) (fun hb => ?_) <;> (simp only [hb]; try simp only [hbs, ne_eq] at hb; try (exfalso; first | omega | exact hb trivial))) | fail)
    refine ⟨⟨q + 1, by omega⟩, by dsimp only; omega, ?_⟩
    dsimp only
    rw [hsn]
    exact wkS
  · obtain rfl : q = n := by omega
    generalize (zeroI q).map zAv = T at *
    repeat' (first | ((first | apply o_do | apply d_do | apply d_yes rfl rfl rfl); exact lsq) | refine a_seq ?_ | refine a_region ?_ | refine o_nil ?_ | refine a_block ?_ | refine a_ret ?_ | refine a_exit ?_ | refine a_skip ?_ | refine a_draw mixed ?_ | refine d_nil (by kernel_rfl) ?_ | refine o_yes rfl rfl rfl ?_ | refine o_no rfl rfl rfl (by decide) ?_ | refine o_no' rfl rfl rfl ?_ | refine a_condT rfl ?_ | refine a_condF rfl ?_ | refine d_no rfl rfl rfl (by decide) ?_ | refine d_no' rfl rfl rfl ?_ | (refine wq2 (fun hb => ?_) (fun hb => ?_) <;> (simp only [hb]; try simp only [hbs, ne_eq] at hb; try (exfalso; first | omega | exact hb trivial))) | fail)
    all_goals refine rq rfl ?_
    all_goals exact fnq
end Go.Proofs.YtilgagmfcdfjaaaGreat
namespace Go.Proofs.YtilgagmfcdfjaaaGreat
open Go.RowKit
set_option linter.unusedSimpArgs false
set_option linter.unusedVariables false
/-- a property of a pane's place -/
def PlI' (P : Pn → Bool) : Prop := ∀ p q, sameP p q → P p = P q
section
variable {k : Int} {P : Pn → Bool} {l : List Pn} {x : Pn}
theorem ins_front : ∀ {m : List Pn}, (∀ q ∈ m, ahead x q = true) → insP k m x = x :: m
  | [], _ => rfl
  | q :: m, h => ins_b (h q (by simp))
theorem ins_filter (hP : PlI' P) : ∀ {l : List Pn}, l.Pairwise (fun p q => ahead p q = true) → (insP k l x).filter P = if P x = true then insP k (l.filter P) x else l.filter P
  | [], _ => by
    show ([x] : List Pn).filter P = if P x = true then [x] else []
    cases h : P x <;> simp [h]
  | p :: l, h => by
    obtain ⟨h1, h2⟩ := List.pairwise_cons.1 h
    have ih := ins_filter hP h2
    rcases rel3 p x with h3 | h3 | h3
    · rw [ins_a h3, List.filter_cons, List.filter_cons, ih]
      cases hp : P p <;> cases hx : P x <;> simp [ins_a h3]
    · have e1 : P (joinP k p x) = P p := hP _ _ (joinP_same p x)
      have e2 : P p = P x := hP _ _ h3
      rw [ins_s h3, List.filter_cons, List.filter_cons, e1, ← e2]
      cases hp : P p <;> simp [ins_s h3]
    · rw [ins_b h3, List.filter_cons]
      cases hx : P x
      · rw [if_neg (by simp), if_neg (by simp)]
      · rw [if_pos rfl, if_pos rfl, ins_front]
        intro q hq
        have hq := (List.mem_filter.1 hq).1
        rcases List.mem_cons.1 hq with rfl | hq
        · exact h3
        · exact ahead_trans h3 (h1 q hq)
theorem row_filter (hP : PlI' P) (vs : List Vl) : (rowV k vs).filter P = rowV k (vs.filter fun v => P (vP k v)) := by
  refine snoc_ind (p := fun vs => (rowV k vs).filter P = rowV k (vs.filter fun v => P (vP k v))) rfl ?_ vs
  intro vs v ih
  have hs : (rowV k vs).Pairwise (fun p q => ahead p q = true) := insAll_sorted List.Pairwise.nil
  rw [rowV_snoc, ins_filter hP hs, ih, List.filter_append]
  cases hv : P (vP k v)
  · rw [if_neg (by simp)]; simp [hv]
  · rw [if_pos rfl]; simp [hv, rowV_snoc]
theorem row_sub {vs : List Vl} (p : Vl → Bool) (hl : vs.length ≤ 1000000) (h : ∀ x ∈ vs, okV k x = true) : (rowV k (vs.filter p)).length ≤ (rowV k vs).length := by
  have hp := filter_parts p vs
  rw [rowM_perm hp hl h]
  exact rowM_mono
theorem dueB_row (vs : List Vl) (m : Int) : dueB (rowV k vs) m = rowV k (vs.filter fun v => !decide (v.hi ≤ m)) :=
  row_filter (P := fun p => !decide (p.hi ≤ m)) (fun p q h => by show (!decide (p.hi ≤ m)) = !decide (q.hi ≤ m); rw [h.1]) vs
end
end Go.Proofs.YtilgagmfcdfjaaaGreat
