/-
  An event put into its windows by the model, walked over abstract values.
  What must come out of a job and inputs by the model, walked over abstract values.
  The laws of the model: is it alive; few inputs.
-/
import Derived.Test.YtimlkhbedhjehaaMdI
import Derived.Test.YtimlkhbedhjehaaMdP
import Derived.Test.YtimlkhbedhjehaaMdC
import Derived.Test.YtimlkhbedhjehaaMdJ
namespace Go.Proofs.Ytimlkhbedhjehaa
open Go.RowKit
set_option linter.unusedSimpArgs false
set_option linter.unusedVariables false
/-- a function that gives a fresh row, which is then only read -/
theorem pc_of_own {P : Program} {f : FuncId} {args : List AV} {e size : Nat} {xs : List (List AV)} (h : AC P f args [] (.own 0 xs.length) [(0, .row e size xs)]) : PC P f args (.sl size xs) := by
  refine ⟨h.ok, fun w M μ vs hs hr => (h.out w M μ vs hs hr).mono ?_⟩
  rintro r w' ⟨y, μ', rfl, h1, h2, h3⟩
  have hk : Kept [((0 : Nat), SObj.row e size xs)] [] [] := trivial
  refine ⟨y, μ', rfl, hk.srel h1, finA_rep h1 hk (FinA.one (FinB.cell ?_)) h2, hk.gro h3 (fun id o hf => by simp [find] at hf)⟩
  exact FinC.own rfl rfl rfl rfl
theorem p_OfS (size slide t : Int) : PC Try.prog 55 [.v (.int .i64 size), .v (.int .i64 slide), .v (.int .i64 t)] (.sl 2 ((winL size slide t).map Wn.av)) := pc_of_own (p_Of size slide t)
/-- a value put into windows, one behind the other; what is there when one fails stays -/
def gW (k : Int) (key : ByteArray) (v : Int) : List Pn → List Wn → List Pn × Int
  | ps, [] => (ps, 0)
  | ps, w :: ws => if (addR k ps (oneP k w.lo w.hi key v)).2 = 0 then gW k key v (addR k ps (oneP k w.lo w.hi key v)).1 ws else (ps, (addR k ps (oneP k w.lo w.hi key v)).2)
theorem gW_take {k : Int} {key : ByteArray} {v : Int} : ∀ {ws : List Wn} {ps : List Pn}, (gW k key v ps ws).2 = (takeW k key v ps ws).2 ∧ ((takeW k key v ps ws).2 = 0 → (gW k key v ps ws).1 = (takeW k key v ps ws).1)
  | [], ps => ⟨rfl, fun _ => rfl⟩
  | w :: ws, ps => by
    unfold gW takeW
    split
    · exact gW_take
    · exact ⟨rfl, fun h => by simp_all⟩
section
variable (g s d k fu li de id : Int) (ps : List Pn) (key : ByteArray) (at' v : Int)
theorem gW_bad {k : Int} {key : ByteArray} {v : Int} {ps : List Pn} {ws : List Wn} {q : Nat} (hq : q < ws.length) {e : Int} (h : addR k ps (oneP k ws[q].lo ws[q].hi key v) = ([], e)) (he : e ≠ 0) : gW k key v ps (ws.drop q) = (ps, e) := by
  rw [List.drop_eq_getElem_cons hq, gW, h]
  simp [he]
theorem gW_ok {k : Int} {key : ByteArray} {v : Int} {ps ps' : List Pn} {ws : List Wn} {q : Nat} (hq : q < ws.length) (h : addR k ps (oneP k ws[q].lo ws[q].hi key v) = (ps', 0)) : gW k key v ps (ws.drop q) = gW k key v ps' (ws.drop (q + 1)) := by
  rw [List.drop_eq_getElem_cons hq, gW, h]
  simp
/-- the box of what is gathered -/
def gthAv (g s d k fu li de id : Int) (ps : List Pn) (bad : Int) : List AV := [.v (.int .i64 g), .v (.int .i64 s), .v (.int .i64 d), .v (.int .i64 k), .v (.int .i64 fu), .v (.int .i64 li), .v (.int .i64 de), .v (.int .i64 id), .sl 6 (ps.map Pn.av), .v (.int .i64 bad)]
set_option maxHeartbeats 8000000 in
set_option maxRecDepth 20000 in
theorem m_take (hx : ps.length ≤ 9223372036854775807) :
    AC Try.prog 109 [.ref 0 0, .agg [.v (.string key), .v (.int .i64 at'), .v (.int .i64 v)]] [(0, .box 144 (gthAv g s d k fu li de id ps 0))] (.v (.bool (decide ((gW k key v ps (winL s d at')).2 = 0)))) [(0, .box 144 (gthAv g s d k fu li de id (gW k key v ps (winL s d at')).1 (gW k key v ps (winL s d at')).2))] := by
  have ho := p_OfS s d at'
  have hol := winL_len s d at'
  generalize winL s d at' = ws at *
  refine (ac_body tab_ok Try.func109 rfl (by kernel_rfl) rfl ?_); intro w0 M μ0; simp only [Try.ntmps109, List.length_cons, List.length_nil, Nat.reduceAdd, Nat.reduceSub, numb]
  repeat' (first | ((first | apply o_do | apply d_do | apply d_yes rfl rfl rfl); first | exact lsc (ho) | exact ls_nilCheck rfl rfl | exact lsq) | first | refine a_seq ?_ | refine a_region ?_ | refine o_nil ?_ | refine a_block ?_ | refine a_ret ?_ | refine a_exit ?_ | refine a_skip ?_ | refine a_draw mixed ?_ | refine d_nil (by kernel_rfl) ?_ | first | refine o_yes rfl rfl rfl ?_ | refine o_no rfl rfl rfl (by decide) ?_ | refine o_no' rfl rfl rfl ?_ | refine a_condT rfl ?_ | refine a_condF rfl ?_ | refine d_no rfl rfl rfl (by decide) ?_ | refine d_no' rfl rfl rfl ?_ | ((first | refine o_split_t rfl rfl rfl (fun hb => ?_) (fun hb => ?_) | refine o_split_f rfl rfl rfl (fun hb => ?_) (fun hb => ?_) | refine a_cond rfl (fun hb => ?_) (fun hb => ?_) | refine d_split rfl rfl (fun hb => ?_) (fun hb => ?_)) <;> (simp only [hb]; try simp only [decide_eq_true_eq, decide_eq_false_iff_not, Bool.not_eq_true', Bool.not_eq_false', Bool.not_eq_true, Bool.not_eq_false, ne_eq, Decidable.not_not] at hb; try (exfalso; first | omega | exact hb trivial))))
  refine a_loop (X := {x : Nat × List Pn // x.1 ≤ ws.length ∧ gW k key v ps ws = gW k key v x.2 (ws.drop x.1) ∧ x.2.length ≤ 9223372036854775807}) (fun x => ⟨[(0, .ref 0 0), (3, .ref 1 0), (21, .sl 2 (ws.map Wn.av)), (22, .v (.int .i64 ws.length)), (23, .v (.int .i64 x.1.1))], [(0, .box 144 (gthAv g s d k fu li de id x.1.2 0)), (1, .box 79 [.v (.string key), .v (.int .i64 at'), .v (.int .i64 v)])]⟩) (fun x => ws.length - x.1.1) ⟨(0, ps), Nat.zero_le _, rfl, hx⟩ ?_ ?_
  · refine ⟨by repeat' (first | exact trivial | exact FinA.one (FinB.cell (FinC.same rfl)) | exact FinA.one (FinB.cell FinC.nil) | exact FinA.bound rfl | exact FinA.one (FinB.cell (FinC.own rfl rfl rfl rfl)) | exact FinA.one (FinB.cell (FinC.v (by first | rfl | (simp)))) | exact FinA.one (FinB.cell (FinC.ow rfl (by first | rfl | (simp)))) | exact FinA.one (FinB.agg' rfl rfl) | refine ⟨⟨_, rfl, ?_⟩, ?_⟩), by repeat' (first | exact trivial | refine ⟨⟨_, rfl, by first | rfl | (simp; done) | (simp [renO, *]; done)⟩, by first | rfl | assumption, ?_⟩), rfl⟩
  rintro ⟨⟨q, cur⟩, hq, htk, hc⟩
  dsimp only at hq htk hc ⊢
  rw [htk]
  by_cases hlt : q < ws.length
  · have hel : (ws.map Wn.av)[q]? = some (Wn.av ws[q]) := by simp [hlt]
    have hA := p_Add cur k key ws[q].lo ws[q].hi v hc
    rcases addR_form k cur (oneP k ws[q].lo ws[q].hi key v) with ⟨l, hl, hll⟩ | ⟨e, hl, hne⟩
    · have ht := gW_ok hlt hl
      rw [hl] at hA
      dsimp only [PR.av] at hA
      rw [ht]
      generalize ws[q] = w at *
      repeat' (first | ((first | apply o_do | apply d_do | apply d_yes rfl rfl rfl); first | exact lsc (hA) | exact ls_nilCheck rfl rfl | exact ls_indexAddr_sl tab_ok rfl rfl rfl rfl hel rfl | exact lsq) | first | refine a_seq ?_ | refine a_region ?_ | refine o_nil ?_ | refine a_block ?_ | refine a_ret ?_ | refine a_exit ?_ | refine a_skip ?_ | refine a_draw mixed ?_ | refine d_nil (by kernel_rfl) ?_ | first | refine o_yes rfl rfl rfl ?_ | refine o_no rfl rfl rfl (by decide) ?_ | refine o_no' rfl rfl rfl ?_ | refine a_condT rfl ?_ | refine a_condF rfl ?_ | refine d_no rfl rfl rfl (by decide) ?_ | refine d_no' rfl rfl rfl ?_ | ((first | refine o_split_t rfl rfl rfl (fun hb => ?_) (fun hb => ?_) | refine o_split_f rfl rfl rfl (fun hb => ?_) (fun hb => ?_) | refine a_cond rfl (fun hb => ?_) (fun hb => ?_) | refine d_split rfl rfl (fun hb => ?_) (fun hb => ?_)) <;> (simp only [hb]; try simp only [decide_eq_true_eq, decide_eq_false_iff_not, Bool.not_eq_true', Bool.not_eq_false', Bool.not_eq_true, Bool.not_eq_false, ne_eq, Decidable.not_not] at hb; try (exfalso; first | omega | exact hb trivial))))
      refine ⟨⟨(q + 1, l), by dsimp only; omega, rfl, by dsimp only; omega⟩, by dsimp only; omega, ?_⟩
      refine ⟨by repeat' (first | exact trivial | exact FinA.one (FinB.cell (FinC.same rfl)) | exact FinA.one (FinB.cell FinC.nil) | exact FinA.bound rfl | exact FinA.one (FinB.cell (FinC.own rfl rfl rfl rfl)) | exact FinA.one (FinB.cell (FinC.v (by first | rfl | (simp)))) | exact FinA.one (FinB.cell (FinC.ow rfl (by first | rfl | (simp)))) | exact FinA.one (FinB.agg' rfl rfl) | refine ⟨⟨_, rfl, ?_⟩, ?_⟩), by repeat' (first | exact trivial | refine ⟨⟨_, rfl, by first | rfl | (simp; done) | (simp [renO, *]; done)⟩, by first | rfl | assumption, ?_⟩), rfl⟩
    · have ht := gW_bad hlt hl hne
      rw [hl] at hA
      dsimp only [PR.av] at hA
      rw [ht]
      simp only [if_neg hne]
      generalize ws[q] = w at *
      repeat' (first | ((first | apply o_do | apply d_do | apply d_yes rfl rfl rfl); first | exact lsc (hA) | exact ls_nilCheck rfl rfl | exact ls_indexAddr_sl tab_ok rfl rfl rfl rfl hel rfl | exact lsq) | first | refine a_seq ?_ | refine a_region ?_ | refine o_nil ?_ | refine a_block ?_ | refine a_ret ?_ | refine a_exit ?_ | refine a_skip ?_ | refine a_draw mixed ?_ | refine d_nil (by kernel_rfl) ?_ | first | refine o_yes rfl rfl rfl ?_ | refine o_no rfl rfl rfl (by decide) ?_ | refine o_no' rfl rfl rfl ?_ | refine a_condT rfl ?_ | refine a_condF rfl ?_ | refine d_no rfl rfl rfl (by decide) ?_ | refine d_no' rfl rfl rfl ?_ | ((first | refine o_split_t rfl rfl rfl (fun hb => ?_) (fun hb => ?_) | refine o_split_f rfl rfl rfl (fun hb => ?_) (fun hb => ?_) | refine a_cond rfl (fun hb => ?_) (fun hb => ?_) | refine d_split rfl rfl (fun hb => ?_) (fun hb => ?_)) <;> (simp only [hb]; try simp only [decide_eq_true_eq, decide_eq_false_iff_not, Bool.not_eq_true', Bool.not_eq_false', Bool.not_eq_true, Bool.not_eq_false, ne_eq, Decidable.not_not] at hb; try (exfalso; first | omega | exact hb trivial))))
      all_goals refine ⟨by first | exact .inr rfl | exact .inl rfl, _, rfl, ?_, by repeat' (first | exact trivial | refine ⟨⟨_, rfl, by first | rfl | (simp [renO, *]; done)⟩, by first | rfl | assumption, ?_⟩)⟩
      all_goals (first | refine FinA.tup ?_ | refine FinA.one ?_); repeat' (first | exact FinBs.nil | exact FinCs.nil | refine FinBs.cons ?_ ?_ | refine FinCs.cons ?_ ?_ | refine FinB.cell (FinC.v ?_) | refine FinB.cell (FinC.own rfl rfl rfl ?_) | exact FinB.cell FinC.nil | refine FinB.cell (FinC.sl ?_) | exact FinB.agg' rfl rfl | exact FinB.cell (FinC.same rfl) | refine FinB.agg ?_ | refine FinC.v ?_ | refine FinC.own rfl rfl rfl ?_ | exact FinC.nil | refine FinC.sl ?_ | exact FinC.same rfl); all_goals try rfl
      all_goals simp [hne]
  · obtain rfl : q = ws.length := by omega
    rw [List.drop_length]
    simp only [gW, if_true]
    repeat' (first | ((first | apply o_do | apply d_do | apply d_yes rfl rfl rfl); exact lsq) | first | refine a_seq ?_ | refine a_region ?_ | refine o_nil ?_ | refine a_block ?_ | refine a_ret ?_ | refine a_exit ?_ | refine a_skip ?_ | refine a_draw mixed ?_ | refine d_nil (by kernel_rfl) ?_ | first | refine o_yes rfl rfl rfl ?_ | refine o_no rfl rfl rfl (by decide) ?_ | refine o_no' rfl rfl rfl ?_ | refine a_condT rfl ?_ | refine a_condF rfl ?_ | refine d_no rfl rfl rfl (by decide) ?_ | refine d_no' rfl rfl rfl ?_ | ((first | refine o_split_t rfl rfl rfl (fun hb => ?_) (fun hb => ?_) | refine o_split_f rfl rfl rfl (fun hb => ?_) (fun hb => ?_) | refine a_cond rfl (fun hb => ?_) (fun hb => ?_) | refine d_split rfl rfl (fun hb => ?_) (fun hb => ?_)) <;> (simp only [hb]; try simp only [decide_eq_true_eq, decide_eq_false_iff_not, Bool.not_eq_true', Bool.not_eq_false', Bool.not_eq_true, Bool.not_eq_false, ne_eq, Decidable.not_not] at hb; try (exfalso; first | omega | exact hb trivial))))
    all_goals refine ⟨by first | exact .inr rfl | exact .inl rfl, _, rfl, ?_, by repeat' (first | exact trivial | refine ⟨⟨_, rfl, by first | rfl | (simp [renO, *]; done)⟩, by first | rfl | assumption, ?_⟩)⟩
    all_goals (first | refine FinA.tup ?_ | refine FinA.one ?_); repeat' (first | exact FinBs.nil | exact FinCs.nil | refine FinBs.cons ?_ ?_ | refine FinCs.cons ?_ ?_ | refine FinB.cell (FinC.v ?_) | refine FinB.cell (FinC.own rfl rfl rfl ?_) | exact FinB.cell FinC.nil | refine FinB.cell (FinC.sl ?_) | exact FinB.agg' rfl rfl | exact FinB.cell (FinC.same rfl) | refine FinB.agg ?_ | refine FinC.v ?_ | refine FinC.own rfl rfl rfl ?_ | exact FinC.nil | refine FinC.sl ?_ | exact FinC.same rfl); all_goals try rfl
    all_goals simp
end
end Go.Proofs.Ytimlkhbedhjehaa
namespace Go.Proofs.Ytimlkhbedhjehaa
open Go.RowKit
set_option linter.unusedSimpArgs false
set_option linter.unusedVariables false
/-- a box whose cells are told otherwise -/
theorem a_swap {P : Program} {Γ : Ctx} {Q : Exit → ASt → Prop} {s : ASt} {c : Code} (b : Nat) {bt : TypeId} {cs : List AV} (cs' : List AV) (hb : find s.σ b = some (.box bt cs)) (hl : cs'.length = cs.length) (hc : ∀ σ μ w A us, repC σ μ w A cs us → repC σ μ w A cs' us)
    (h : AWP P Γ c Q ⟨s.regs, upd s.σ b (.box bt cs')⟩) : AWP P Γ c Q s := ⟨fun μ a w hr => h.out μ a w (Rel.swap (regs := s.regs) hr hb hl (fun us => hc _ _ _ _ us))⟩
theorem allK_len {li fu de : Int} : ∀ {ls : List (List Et)}, (∀ es ∈ ls, es.length ≤ 200) → (allK li fu de ls).length ≤ 200 * ls.length
  | [], _ => by simp [allK]
  | es :: ls, h => by
    have h1 := allK_len (li := li) (fu := fu) (de := de) (ls := ls) fun x hx => h x (by simp [hx])
    have h2 := h es (by simp)
    have h3 := keptE_len (li := li) (fu := fu) (de := de) (es := es) (m := 0)
    unfold allK at *
    rw [List.flatMap_cons, List.length_append, List.length_cons]
    omega
theorem allK_ok {li fu de : Int} {ls : List (List Et)} (h : ∀ es ∈ ls, ∀ e ∈ es, evR e.key e.at' = true) : ∀ e ∈ allK li fu de ls, evR e.key e.at' = true := by
  intro e he
  obtain ⟨es, h1, h2⟩ := List.mem_flatMap.1 he
  exact keptE_ok (h es h1) e h2
/-- what must come out, or why nothing does -/
def runN (g s d k fu li de id : Int) (ls : List (List Et)) : List Rs × Int := if checkN g s d k fu li de id ls = 0 then outR k (allVals s d (allK li fu de ls)) else ([], checkN g s d k fu li de id ls)
def RR.av (r : List Rs × Int) : AV := .tup [.sl 5 (r.1.map Rs.av), .v (.int .i64 r.2)]
section
variable (g s d k fu li de id : Int) (ls : List (List Et))
set_option maxHeartbeats 8000000 in
set_option maxRecDepth 20000 in
theorem m_Run (hx : Small ls) (hls : ∀ es ∈ ls, ∀ e ∈ es, -9223372036854775808 ≤ e.v ∧ e.v ≤ 9223372036854775807) (hli : li ≤ 9223372036854775807) :
    PC Try.prog 58 [.agg [.v (.int .i64 g), .v (.int .i64 s), .v (.int .i64 d), .v (.int .i64 k), .v (.int .i64 fu), .v (.int .i64 li), .v (.int .i64 de), .v (.int .i64 id)], .sl 1 (ls.map inAv)] (RR.av (runN g s d k fu li de id ls)) := by
  have hc := m_check g s d k fu li de id ls hx
  unfold runN
  by_cases h0 : checkN g s d k fu li de id ls = 0
  · obtain ⟨hfr, hw, hl4, hes⟩ := check_parts h0
    rw [h0] at hc
    simp only [h0, if_true]
    have hseq := seq_all g s d k fu li de id ls (fun es he => ⟨hls es he, by have := (hes es he).1; omega⟩) hli (by omega)
    have hKl := allK_len (li := li) (fu := fu) (de := de) (ls := ls) fun es he => (hes es he).1
    have hKo := allK_ok (li := li) (fu := fu) (de := de) (ls := ls) fun es he => (hes es he).2
    generalize allK li fu de ls = K at *
    refine PC.mk (ac_body tab_ok Try.func58 rfl (by kernel_rfl) rfl ?_); intro w0 M μ0; simp only [Try.ntmps58, List.length_cons, List.length_nil, Nat.reduceAdd, Nat.reduceSub, numb]
    repeat' (first | ((first | apply o_do | apply d_do | apply d_yes rfl rfl rfl); first | exact lsc (hc) | exact lsq) | first | refine a_seq ?_ | refine a_region ?_ | refine o_nil ?_ | refine a_block ?_ | refine a_ret ?_ | refine a_exit ?_ | refine a_skip ?_ | refine a_draw mixed ?_ | refine d_nil (by kernel_rfl) ?_ | first | refine o_yes rfl rfl rfl ?_ | refine o_no rfl rfl rfl (by decide) ?_ | refine o_no' rfl rfl rfl ?_ | refine a_condT rfl ?_ | refine a_condF rfl ?_ | refine d_no rfl rfl rfl (by decide) ?_ | refine d_no' rfl rfl rfl ?_ | ((first | refine o_split_t rfl rfl rfl (fun hb => ?_) (fun hb => ?_) | refine o_split_f rfl rfl rfl (fun hb => ?_) (fun hb => ?_) | refine a_cond rfl (fun hb => ?_) (fun hb => ?_) | refine d_split rfl rfl (fun hb => ?_) (fun hb => ?_)) <;> (simp only [hb]; try simp only [decide_eq_true_eq, decide_eq_false_iff_not, Bool.not_eq_true', Bool.not_eq_false', Bool.not_eq_true, Bool.not_eq_false, ne_eq, Decidable.not_not] at hb; try (exfalso; first | omega | exact hb trivial))))
    refine a_weak (t := ⟨[(2, .el [.v (.int .i64 g), .v (.int .i64 s), .v (.int .i64 d), .v (.int .i64 k), .v (.int .i64 fu), .v (.int .i64 li), .v (.int .i64 de), .v (.int .i64 id)]), (4, .ref 2 0), (5, .ref 3 0), (7, .ref 5 0), (9, .ref 6 0), (23, .clo (.func 107) [] [.el [.sl 1 (ls.map inAv)], .el [.v (.int .i64 g), .v (.int .i64 s), .v (.int .i64 d), .v (.int .i64 k), .v (.int .i64 fu), .v (.int .i64 li), .v (.int .i64 de), .v (.int .i64 id)]])], [(2, .box 28 [.v (.slice none 0 0)]), (3, .box 29 [.v (.int .i64 0)]), (4, .box 144 [.v (.int .i64 g), .v (.int .i64 s), .v (.int .i64 d), .v (.int .i64 k), .v (.int .i64 fu), .v (.int .i64 li), .v (.int .i64 de), .v (.int .i64 id), .v (.slice none 0 0), .v (.int .i64 0)]), (5, .box 142 [.ref 4 0]), (6, .box 135 [.clo (.func 109) [.ref 4 0] []])]⟩) ?_ ?_
    · refine ⟨by repeat' (first | exact trivial | exact FinA.one (FinB.cell (FinC.same rfl)) | exact FinA.one (FinB.cell FinC.nil) | exact FinA.bound rfl | exact FinA.one (FinB.cell (FinC.own rfl rfl rfl rfl)) | exact FinA.one (FinB.cell (FinC.v (by first | rfl | (simp)))) | exact FinA.one (FinB.cell (FinC.ow rfl (by first | rfl | (simp)))) | exact FinA.one (FinB.agg' rfl rfl) | exact FinA.one (FinB.cell (FinC.el rfl rfl rfl rfl)) | refine FinA.clo ?_ ?_ | exact FinBs.nil | exact FinB.cell (FinC.same rfl) | exact FinB.cell (FinC.el rfl rfl rfl rfl) | refine FinBs.cons ?_ ?_ | refine ⟨⟨_, rfl, ?_⟩, ?_⟩), by repeat' (first | exact trivial | refine ⟨⟨_, rfl, by first | rfl | (simp; done) | (simp [renO, *]; done)⟩, by first | rfl | assumption, ?_⟩), rfl⟩
    refine a_swap 4 (gthAv g s d k fu li de id [] 0) rfl rfl (fun σ μ w A us h => ?_) ?_
    · simp only [gthAv, repC, rep] at h ⊢
      obtain ⟨a1, m1, rfl, o1, h1, a2, m2, rfl, o2, h2, a3, m3, rfl, o3, h3, a4, m4, rfl, o4, h4, a5, m5, rfl, o5, h5, a6, m6, rfl, o6, h6, a7, m7, rfl, o7, h7, a8, m8, rfl, o8, h8, a9, m9, rfl, o9, h9, a10, m10, rfl, o10, h10, rfl⟩ := h
      exact ⟨_, _, rfl, o1, h1, _, _, rfl, o2, h2, _, _, rfl, o3, h3, _, _, rfl, o4, h4, _, _, rfl, o5, h5, _, _, rfl, o6, h6, _, _, rfl, o7, h7, _, _, rfl, o8, h8, _, _, rfl, o9, ⟨none, 0, [], h9.1, Nat.le_refl _, by simp [maxLen], .inl rfl, by simp [repLL]⟩, _, _, rfl, o10, h10, rfl⟩
    refine a_range (fun x => .agg (Et.av x)) K rfl hseq rfl et_cav rfl (fun i => [(2, .box 28 [.v (.slice none 0 0)]), (3, .box 29 [.v (.int .i64 0)]), (4, .box 144 (gthAv g s d k fu li de id (rowV k (allVals s d (K.take i))) 0)), (5, .box 142 [.ref 4 0]), (6, .box 135 [.clo (.func 109) [.ref 4 0] []])]) (fun i => (rowV k (allVals s d (K.take i))).length ≤ 2000) rfl (fun _ _ => rfl) (by simp [allVals, rowV, insAll]) ?_ ?_
    · intro i x hxi hok W M' μi L
      have hil : i < K.length := (List.getElem?_eq_some_iff.1 hxi).1
      have hsn : allVals s d (K.take (i + 1)) = allVals s d (K.take i) ++ valsV s d x := by
        rw [take_snoc K i hil, allVals_snoc]
        have := (List.getElem?_eq_some_iff.1 hxi).2
        rw [this]
      have hxm : x ∈ K := List.mem_of_getElem? hxi
      have hvl := allVals_len (s := s) (d := d) (es := K.take i)
      rw [List.length_take, Nat.min_eq_left (by omega)] at hvl
      have htk := take_row (vs := allVals s d (K.take i)) (e := x) hfr hw (hKo x hxm) (allVals_ok hfr hw fun e he => hKo e (List.mem_of_mem_take he)) (by omega) hok
      have hT := m_take g s d k fu li de id (rowV k (allVals s d (K.take i))) x.key x.at' x.v (by omega)
      obtain ⟨hg1, hg2⟩ := gW_take (k := k) (key := x.key) (v := x.v) (ws := winL s d x.at') (ps := rowV k (allVals s d (K.take i)))
      dsimp only
      rw [hsn]
      rw [← hsn] at htk ⊢
      rw [htk] at hg1 hg2
      have hfin : ¬ (rowV k (allVals s d (K.take (i + 1)))).length ≤ 2000 → ¬ (rowV k (allVals s d K)).length ≤ 2000 := fun h1 h2 => h1 (by
        have e : allVals s d K = allVals s d (K.take (i + 1)) ++ allVals s d (K.drop (i + 1)) := by
          unfold allVals
          rw [← List.flatMap_append, List.take_append_drop]
        rw [e] at h2
        exact Nat.le_trans rowM_mono h2)
      generalize rowV k (allVals s d (K.take i)) = R at *
      generalize rowV k (allVals s d (K.take (i + 1))) = R' at *
      generalize gW k x.key x.v R (winL s d x.at') = G at *
      obtain ⟨G1, G2⟩ := G
      dsimp only at hg1 hg2 hT
      by_cases h2 : R'.length ≤ 2000
      · rw [if_pos h2] at hg1 hg2
        have hg2 := hg2 rfl
        dsimp only at hg1 hg2
        subst hg1 hg2
        repeat' (first | ((first | apply o_do | apply d_do | apply d_yes rfl rfl rfl); exact lsq) | first | refine a_seq ?_ | refine a_region ?_ | refine o_nil ?_ | refine a_block ?_ | refine a_ret ?_ | refine a_exit ?_ | refine a_skip ?_ | refine a_draw mixed ?_ | refine d_nil (by kernel_rfl) ?_ | first | refine o_yes rfl rfl rfl ?_ | refine o_no rfl rfl rfl (by decide) ?_ | refine o_no' rfl rfl rfl ?_ | refine a_condT rfl ?_ | refine a_condF rfl ?_ | refine d_no rfl rfl rfl (by decide) ?_ | refine d_no' rfl rfl rfl ?_ | ((first | refine o_split_t rfl rfl rfl (fun hb => ?_) (fun hb => ?_) | refine o_split_f rfl rfl rfl (fun hb => ?_) (fun hb => ?_) | refine a_cond rfl (fun hb => ?_) (fun hb => ?_) | refine d_split rfl rfl (fun hb => ?_) (fun hb => ?_)) <;> (simp only [hb]; try simp only [decide_eq_true_eq, decide_eq_false_iff_not, Bool.not_eq_true', Bool.not_eq_false', Bool.not_eq_true, Bool.not_eq_false, ne_eq, Decidable.not_not] at hb; try (exfalso; first | omega | exact hb trivial))))
        dsimp only [AThen1]
        intro W M' μi L d0
        repeat' (first | ((first | apply o_do | apply d_do | apply d_yes rfl rfl rfl); first | exact ls_callAB [4] 20 hT rfl rfl (by (repeat' (first | exact NilL.nil | refine NilL.cons Nil.same ?_ | refine NilL.cons Nil.nil ?_ | refine NilL.cons (Nil.agg ?_) ?_ | exact Nil1s.nil | refine Nil1s.cons Nil1.same ?_ | refine Nil1s.cons Nil1.nil ?_)); first | done | fail) rfl (by repeat' (first | exact trivial | refine ⟨⟨_, rfl, by first | rfl | (simp [renO, *]; done)⟩, ?_⟩)) (by first | rfl | simp [closO, *]) rfl rfl rfl rfl (by first | rfl | simp [closO, *]) rfl | exact lsq) | first | refine a_seq ?_ | refine a_region ?_ | refine o_nil ?_ | refine a_block ?_ | refine a_ret ?_ | refine a_exit ?_ | refine a_skip ?_ | refine a_draw mixed ?_ | refine d_nil (by kernel_rfl) ?_ | first | refine o_yes rfl rfl rfl ?_ | refine o_no rfl rfl rfl (by decide) ?_ | refine o_no' rfl rfl rfl ?_ | refine a_condT rfl ?_ | refine a_condF rfl ?_ | refine d_no rfl rfl rfl (by decide) ?_ | refine d_no' rfl rfl rfl ?_ | ((first | refine o_split_t rfl rfl rfl (fun hb => ?_) (fun hb => ?_) | refine o_split_f rfl rfl rfl (fun hb => ?_) (fun hb => ?_) | refine a_cond rfl (fun hb => ?_) (fun hb => ?_) | refine d_split rfl rfl (fun hb => ?_) (fun hb => ?_)) <;> (simp only [hb]; try simp only [decide_eq_true_eq, decide_eq_false_iff_not, Bool.not_eq_true', Bool.not_eq_false', Bool.not_eq_true, Bool.not_eq_false, ne_eq, Decidable.not_not] at hb; try (exfalso; first | omega | exact hb trivial))))
        refine ⟨h2, ?_⟩
        repeat' (first | exact trivial | refine ⟨⟨_, rfl, by first | rfl | (simp [renO, *]; done)⟩, by first | rfl | assumption, ?_⟩)
      · rw [if_neg h2] at hg1 hg2
        dsimp only at hg1 hg2
        subst hg1
        have hout : outR k (allVals s d K) = ([], 3) := by
          unfold outR
          rw [if_neg]
          intro h
          refine hfin h2 ?_
          exact h
        rw [hout]
        repeat' (first | ((first | apply o_do | apply d_do | apply d_yes rfl rfl rfl); exact lsq) | first | refine a_seq ?_ | refine a_region ?_ | refine o_nil ?_ | refine a_block ?_ | refine a_ret ?_ | refine a_exit ?_ | refine a_skip ?_ | refine a_draw mixed ?_ | refine d_nil (by kernel_rfl) ?_ | first | refine o_yes rfl rfl rfl ?_ | refine o_no rfl rfl rfl (by decide) ?_ | refine o_no' rfl rfl rfl ?_ | refine a_condT rfl ?_ | refine a_condF rfl ?_ | refine d_no rfl rfl rfl (by decide) ?_ | refine d_no' rfl rfl rfl ?_ | ((first | refine o_split_t rfl rfl rfl (fun hb => ?_) (fun hb => ?_) | refine o_split_f rfl rfl rfl (fun hb => ?_) (fun hb => ?_) | refine a_cond rfl (fun hb => ?_) (fun hb => ?_) | refine d_split rfl rfl (fun hb => ?_) (fun hb => ?_)) <;> (simp only [hb]; try simp only [decide_eq_true_eq, decide_eq_false_iff_not, Bool.not_eq_true', Bool.not_eq_false', Bool.not_eq_true, Bool.not_eq_false, ne_eq, Decidable.not_not] at hb; try (exfalso; first | omega | exact hb trivial))))
        dsimp only [AThen1]
        intro W M' μi L d0
        repeat' (first | ((first | apply o_do | apply d_do | apply d_yes rfl rfl rfl); first | exact ls_callAB [4] 20 hT rfl rfl (by (repeat' (first | exact NilL.nil | refine NilL.cons Nil.same ?_ | refine NilL.cons Nil.nil ?_ | refine NilL.cons (Nil.agg ?_) ?_ | exact Nil1s.nil | refine Nil1s.cons Nil1.same ?_ | refine Nil1s.cons Nil1.nil ?_)); first | done | fail) rfl (by repeat' (first | exact trivial | refine ⟨⟨_, rfl, by first | rfl | (simp [renO, *]; done)⟩, ?_⟩)) (by first | rfl | simp [closO, *]) rfl rfl rfl rfl (by first | rfl | simp [closO, *]) rfl | exact ls_nilCheck rfl rfl | exact lsq) | first | refine a_seq ?_ | refine a_region ?_ | refine o_nil ?_ | refine a_block ?_ | refine a_ret ?_ | refine a_exit ?_ | refine a_skip ?_ | refine a_draw mixed ?_ | refine d_nil (by kernel_rfl) ?_ | first | refine o_yes rfl rfl rfl ?_ | refine o_no rfl rfl rfl (by decide) ?_ | refine o_no' rfl rfl rfl ?_ | refine a_condT rfl ?_ | refine a_condF rfl ?_ | refine d_no rfl rfl rfl (by decide) ?_ | refine d_no' rfl rfl rfl ?_ | ((first | refine o_split_t rfl rfl rfl (fun hb => ?_) (fun hb => ?_) | refine o_split_f rfl rfl rfl (fun hb => ?_) (fun hb => ?_) | refine a_cond rfl (fun hb => ?_) (fun hb => ?_) | refine d_split rfl rfl (fun hb => ?_) (fun hb => ?_)) <;> (simp only [hb]; try simp only [decide_eq_true_eq, decide_eq_false_iff_not, Bool.not_eq_true', Bool.not_eq_false', Bool.not_eq_true, Bool.not_eq_false, ne_eq, Decidable.not_not] at hb; try (exfalso; first | omega | exact hb trivial))))
        refine ⟨[(2, .box 28 [.v (.slice none 0 0)]), (3, .box 29 [.v (.int .i64 3)]), (4, .box 144 (gthAv g s d k fu li de id G1 3)), (5, .box 142 [.ref 4 0]), (6, .box 135 [.clo (.func 109) [.ref 4 0] []])], ?_, rfl, ?_⟩
        · repeat' (first | exact trivial | refine ⟨⟨_, rfl, by first | rfl | (simp [renO, *]; done)⟩, by first | rfl | assumption, ?_⟩)
        · refine ⟨by first | exact .inr rfl | exact .inl rfl, _, rfl, ?_, by repeat' (first | exact trivial | refine ⟨⟨_, rfl, by first | rfl | (simp [renO, *]; done)⟩, by first | rfl | assumption, ?_⟩)⟩
          all_goals (first | refine FinA.tup ?_ | refine FinA.one ?_); repeat' (first | exact FinBs.nil | exact FinCs.nil | refine FinBs.cons ?_ ?_ | refine FinCs.cons ?_ ?_ | refine FinB.cell (FinC.v ?_) | refine FinB.cell (FinC.own rfl rfl rfl ?_) | exact FinB.cell FinC.nil | refine FinB.cell (FinC.sl ?_) | exact FinB.agg' rfl rfl | exact FinB.cell (FinC.same rfl) | refine FinB.agg ?_ | refine FinC.v ?_ | refine FinC.own rfl rfl rfl ?_ | exact FinC.nil | refine FinC.sl ?_ | exact FinC.same rfl); all_goals try rfl
    · intro hok
      dsimp only
      rw [List.take_length] at hok ⊢
      have hR := p_Results k (rowV k (allVals s d K)) (by omega)
      have hout : outR k (allVals s d K) = (resultsL k (rowV k (allVals s d K)), 0) := by
        unfold outR
        rw [if_pos hok]
      rw [hout]
      generalize resultsL k (rowV k (allVals s d K)) = U at *
      generalize rowV k (allVals s d K) = R at *
      repeat' (first | ((first | apply o_do | apply d_do | apply d_yes rfl rfl rfl); first | exact lsc (hR) | exact ls_nilCheck rfl rfl | exact lsq) | first | refine a_seq ?_ | refine a_region ?_ | refine o_nil ?_ | refine a_block ?_ | refine a_ret ?_ | refine a_exit ?_ | refine a_skip ?_ | refine a_draw mixed ?_ | refine d_nil (by kernel_rfl) ?_ | first | refine o_yes rfl rfl rfl ?_ | refine o_no rfl rfl rfl (by decide) ?_ | refine o_no' rfl rfl rfl ?_ | refine a_condT rfl ?_ | refine a_condF rfl ?_ | refine d_no rfl rfl rfl (by decide) ?_ | refine d_no' rfl rfl rfl ?_ | ((first | refine o_split_t rfl rfl rfl (fun hb => ?_) (fun hb => ?_) | refine o_split_f rfl rfl rfl (fun hb => ?_) (fun hb => ?_) | refine a_cond rfl (fun hb => ?_) (fun hb => ?_) | refine d_split rfl rfl (fun hb => ?_) (fun hb => ?_)) <;> (simp only [hb]; try simp only [decide_eq_true_eq, decide_eq_false_iff_not, Bool.not_eq_true', Bool.not_eq_false', Bool.not_eq_true, Bool.not_eq_false, ne_eq, Decidable.not_not] at hb; try (exfalso; first | omega | exact hb trivial))))
      all_goals refine ⟨by first | exact .inr rfl | exact .inl rfl, _, rfl, ?_, by repeat' (first | exact trivial | refine ⟨⟨_, rfl, by first | rfl | (simp [renO, *]; done)⟩, by first | rfl | assumption, ?_⟩)⟩
      all_goals (first | refine FinA.tup ?_ | refine FinA.one ?_); repeat' (first | exact FinBs.nil | exact FinCs.nil | refine FinBs.cons ?_ ?_ | refine FinCs.cons ?_ ?_ | refine FinB.cell (FinC.v ?_) | refine FinB.cell (FinC.own rfl rfl rfl ?_) | exact FinB.cell FinC.nil | refine FinB.cell (FinC.sl ?_) | exact FinB.agg' rfl rfl | exact FinB.cell (FinC.same rfl) | refine FinB.agg ?_ | refine FinC.v ?_ | refine FinC.own rfl rfl rfl ?_ | exact FinC.nil | refine FinC.sl ?_ | exact FinC.same rfl); all_goals try rfl
  · rw [if_neg h0]
    generalize checkN g s d k fu li de id ls = r at *
    refine PC.mk (ac_body tab_ok Try.func58 rfl (by kernel_rfl) rfl ?_); intro w0 M μ0; simp only [Try.ntmps58, List.length_cons, List.length_nil, Nat.reduceAdd, Nat.reduceSub, numb]
    repeat' (first | ((first | apply o_do | apply d_do | apply d_yes rfl rfl rfl); first | exact lsc (hc) | exact lsq) | first | refine a_seq ?_ | refine a_region ?_ | refine o_nil ?_ | refine a_block ?_ | refine a_ret ?_ | refine a_exit ?_ | refine a_skip ?_ | refine a_draw mixed ?_ | refine d_nil (by kernel_rfl) ?_ | first | refine o_yes rfl rfl rfl ?_ | refine o_no rfl rfl rfl (by decide) ?_ | refine o_no' rfl rfl rfl ?_ | refine a_condT rfl ?_ | refine a_condF rfl ?_ | refine d_no rfl rfl rfl (by decide) ?_ | refine d_no' rfl rfl rfl ?_ | ((first | refine o_split_t rfl rfl rfl (fun hb => ?_) (fun hb => ?_) | refine o_split_f rfl rfl rfl (fun hb => ?_) (fun hb => ?_) | refine a_cond rfl (fun hb => ?_) (fun hb => ?_) | refine d_split rfl rfl (fun hb => ?_) (fun hb => ?_)) <;> (simp only [hb]; try simp only [decide_eq_true_eq, decide_eq_false_iff_not, Bool.not_eq_true', Bool.not_eq_false', Bool.not_eq_true, Bool.not_eq_false, ne_eq, Decidable.not_not] at hb; try (exfalso; first | omega | exact hb trivial))))
    all_goals refine ⟨by first | exact .inr rfl | exact .inl rfl, _, rfl, ?_, by repeat' (first | exact trivial | refine ⟨⟨_, rfl, by first | rfl | (simp [renO, *]; done)⟩, by first | rfl | assumption, ?_⟩)⟩
    all_goals (first | refine FinA.tup ?_ | refine FinA.one ?_); repeat' (first | exact FinBs.nil | exact FinCs.nil | refine FinBs.cons ?_ ?_ | refine FinCs.cons ?_ ?_ | refine FinB.cell (FinC.v ?_) | refine FinB.cell (FinC.own rfl rfl rfl ?_) | exact FinB.cell FinC.nil | refine FinB.cell (FinC.sl ?_) | exact FinB.agg' rfl rfl | exact FinB.cell (FinC.same rfl) | refine FinB.agg ?_ | refine FinC.v ?_ | refine FinC.own rfl rfl rfl ?_ | exact FinC.nil | refine FinC.sl ?_ | exact FinC.same rfl); all_goals try rfl
end
end Go.Proofs.Ytimlkhbedhjehaa
namespace Go.Proofs.Ytimlkhbedhjehaa
open Go.RowKit
set_option linter.unusedSimpArgs false
set_option linter.unusedVariables false
def aliveE : Et := ⟨⟨#[97]⟩, 0, 0⟩
theorem alive_check : checkN 1 1 1 2 0 0 0 0 [[aliveE]] = 0 := by rfl
theorem alive_vals : allVals 1 1 (allK 0 0 0 [[aliveE]]) = [⟨⟨#[97]⟩, 0, 1, 0⟩] := by rfl
theorem alive_out : ∃ r, runN 1 1 1 2 0 0 0 0 [[aliveE]] = ([r], 0) := by
  unfold runN
  rw [if_pos alive_check, alive_vals]
  exact ⟨_, rfl⟩
set_option maxHeartbeats 4000000 in
theorem m_alive : PC Try.prog 60 [] (.v (.bool true)) := by
  obtain ⟨r, hr⟩ := alive_out
  have h := m_Run 1 1 1 2 0 0 0 0 [[aliveE]] ⟨by simp, by simp⟩ (by simp [aliveE]) (by omega)
  rw [hr] at h
  have h : PC Try.prog 58 [.agg [.v (.int .i64 1), .v (.int .i64 1), .v (.int .i64 1), .v (.int .i64 2), .v (.int .i64 0), .v (.int .i64 0), .v (.int .i64 0), .v (.int .i64 0)], .sl 1 [[.sl 3 [[.v (.string ⟨#[97]⟩), .v (.int .i64 0), .v (.int .i64 0)]]]]] (.tup [.sl 5 [Rs.av r], .v (.int .i64 0)]) := h
  refine PC.mk (ac_body tab_ok Try.func60 rfl (by kernel_rfl) rfl ?_); intro w0 M μ0; simp only [Try.ntmps60, List.length_cons, List.length_nil, Nat.reduceAdd, Nat.reduceSub, numb]
  repeat' (first | ((first | apply o_do | apply d_do | apply d_yes rfl rfl rfl); first | exact lsc (h) | exact lsq) | first | refine a_seq ?_ | refine a_region ?_ | refine o_nil ?_ | refine a_block ?_ | refine a_ret ?_ | refine a_exit ?_ | refine a_skip ?_ | refine a_draw mixed ?_ | refine d_nil (by kernel_rfl) ?_ | first | refine o_yes rfl rfl rfl ?_ | refine o_no rfl rfl rfl (by decide) ?_ | refine o_no' rfl rfl rfl ?_ | refine a_condT rfl ?_ | refine a_condF rfl ?_ | refine d_no rfl rfl rfl (by decide) ?_ | refine d_no' rfl rfl rfl ?_ | ((first | refine o_split_t rfl rfl rfl (fun hb => ?_) (fun hb => ?_) | refine o_split_f rfl rfl rfl (fun hb => ?_) (fun hb => ?_) | refine a_cond rfl (fun hb => ?_) (fun hb => ?_) | refine d_split rfl rfl (fun hb => ?_) (fun hb => ?_)) <;> (simp only [hb]; try simp only [decide_eq_true_eq, decide_eq_false_iff_not, Bool.not_eq_true', Bool.not_eq_false', Bool.not_eq_true, Bool.not_eq_false, ne_eq, Decidable.not_not] at hb; try (exfalso; first | omega | exact hb trivial))))
  all_goals refine ⟨by first | exact .inr rfl | exact .inl rfl, _, rfl, ?_, by repeat' (first | exact trivial | refine ⟨⟨_, rfl, by first | rfl | (simp [renO, *]; done)⟩, by first | rfl | assumption, ?_⟩)⟩
  all_goals (first | refine FinA.tup ?_ | refine FinA.one ?_); repeat' (first | exact FinBs.nil | exact FinCs.nil | refine FinBs.cons ?_ ?_ | refine FinCs.cons ?_ ?_ | refine FinB.cell (FinC.v ?_) | refine FinB.cell (FinC.own rfl rfl rfl ?_) | exact FinB.cell FinC.nil | refine FinB.cell (FinC.sl ?_) | exact FinB.agg' rfl rfl | exact FinB.cell (FinC.same rfl) | refine FinB.agg ?_ | refine FinC.v ?_ | refine FinC.own rfl rfl rfl ?_ | exact FinC.nil | refine FinC.sl ?_ | exact FinC.same rfl); all_goals try rfl
/-- a few of a source's events -/
def few30 (es : List Et) : List Et := if 30 < es.length ∧ es.length ≤ 200 then es.take 30 else es
def fewI (ls : List (List Et)) : List (List Et) := (ls.take 6).map few30
set_option maxHeartbeats 8000000 in
theorem m_few (ls : List (List Et)) (hx : Small ls) : PC Try.prog 57 [.sl 1 (ls.map inAv)] (.sl 1 ((fewI ls).map inAv)) := by
  have hlx := hx.1
  refine PC.mk (ac_body tab_ok Try.func57 rfl (by kernel_rfl) rfl ?_); intro w0 M μ0; simp only [Try.ntmps57, List.length_cons, List.length_nil, Nat.reduceAdd, Nat.reduceSub, numb]
  repeat' (first | ((first | apply o_do | apply d_do | apply d_yes rfl rfl rfl); exact lsq) | first | refine a_seq ?_ | refine a_region ?_ | refine o_nil ?_ | refine a_block ?_ | refine a_ret ?_ | refine a_exit ?_ | refine a_skip ?_ | refine a_draw mixed ?_ | refine d_nil (by kernel_rfl) ?_ | first | refine o_yes rfl rfl rfl ?_ | refine o_no rfl rfl rfl (by decide) ?_ | refine o_no' rfl rfl rfl ?_ | refine a_condT rfl ?_ | refine a_condF rfl ?_ | refine d_no rfl rfl rfl (by decide) ?_ | refine d_no' rfl rfl rfl ?_ | ((first | refine o_split_t rfl rfl rfl (fun hb => ?_) (fun hb => ?_) | refine o_split_f rfl rfl rfl (fun hb => ?_) (fun hb => ?_) | refine a_cond rfl (fun hb => ?_) (fun hb => ?_) | refine d_split rfl rfl (fun hb => ?_) (fun hb => ?_)) <;> (simp only [hb]; try simp only [decide_eq_true_eq, decide_eq_false_iff_not, Bool.not_eq_true', Bool.not_eq_false', Bool.not_eq_true, Bool.not_eq_false, ne_eq, Decidable.not_not] at hb; try (exfalso; first | omega | exact hb trivial))))
  refine a_adopt 3 0 86 1 rfl rfl ?_
  refine a_loop (X := {q : Nat // q ≤ ls.length ∧ q ≤ 6}) (fun x => ⟨[(0, .sl 1 (ls.map inAv)), (3, .own 0 (((ls.take x.1).map few30).map inAv).length), (6, .sl 1 (ls.map inAv)), (7, .v (.int .i64 ls.length)), (8, .v (.int .i64 x.1))], [(0, .row 86 1 (((ls.take x.1).map few30).map inAv))]⟩) (fun x => ls.length - x.1) ⟨0, Nat.zero_le _, by omega⟩ ?_ ?_
  · refine ⟨by repeat' (first | exact trivial | exact FinA.one (FinB.cell (FinC.same rfl)) | exact FinA.one (FinB.cell FinC.nil) | exact FinA.bound rfl | exact FinA.one (FinB.cell (FinC.own rfl rfl rfl rfl)) | exact FinA.one (FinB.cell (FinC.v (by first | rfl | (simp)))) | exact FinA.one (FinB.cell (FinC.ow rfl (by first | rfl | (simp)))) | exact FinA.one (FinB.agg' rfl rfl) | refine ⟨⟨_, rfl, ?_⟩, ?_⟩), by repeat' (first | exact trivial | refine ⟨⟨_, rfl, by first | rfl | (simp; done) | (simp [renO, *]; done)⟩, by first | rfl | assumption, ?_⟩), rfl⟩
  rintro ⟨q, hq, hq6⟩
  dsimp only
  by_cases hlt : q < ls.length
  · have hel : (ls.map inAv)[q]? = some (inAv ls[q]) := by simp [hlt]
    have hen := hx.2 _ (List.getElem_mem hlt)
    have hsn : ((ls.take (q + 1)).map few30).map inAv = ((ls.take q).map few30).map inAv ++ [inAv (few30 ls[q])] := by rw [take_snoc ls q hlt, List.map_append, List.map_append]; rfl
    have hTl : (((ls.take q).map few30).map inAv).length = q := by simp; omega
    by_cases h6 : q = 6
    · subst h6
      unfold fewI
      generalize (ls.take 6).map few30 = T at *
      generalize ls[6] = es at *
      repeat' (first | ((first | apply o_do | apply d_do | apply d_yes rfl rfl rfl); first | exact ls_indexAddr_sl tab_ok rfl rfl rfl rfl hel rfl | exact lsq) | first | refine a_seq ?_ | refine a_region ?_ | refine o_nil ?_ | refine a_block ?_ | refine a_ret ?_ | refine a_exit ?_ | refine a_skip ?_ | refine a_draw mixed ?_ | refine d_nil (by kernel_rfl) ?_ | first | refine o_yes rfl rfl rfl ?_ | refine o_no rfl rfl rfl (by decide) ?_ | refine o_no' rfl rfl rfl ?_ | refine a_condT rfl ?_ | refine a_condF rfl ?_ | refine d_no rfl rfl rfl (by decide) ?_ | refine d_no' rfl rfl rfl ?_ | ((first | refine o_split_t rfl rfl rfl (fun hb => ?_) (fun hb => ?_) | refine o_split_f rfl rfl rfl (fun hb => ?_) (fun hb => ?_) | refine a_cond rfl (fun hb => ?_) (fun hb => ?_) | refine d_split rfl rfl (fun hb => ?_) (fun hb => ?_)) <;> (simp only [hb]; try simp only [decide_eq_true_eq, decide_eq_false_iff_not, Bool.not_eq_true', Bool.not_eq_false', Bool.not_eq_true, Bool.not_eq_false, ne_eq, Decidable.not_not] at hb; try (exfalso; first | omega | exact hb trivial))))
      all_goals refine ⟨by first | exact .inr rfl | exact .inl rfl, _, rfl, ?_, by repeat' (first | exact trivial | refine ⟨⟨_, rfl, by first | rfl | (simp [renO, *]; done)⟩, by first | rfl | assumption, ?_⟩)⟩
      all_goals (first | refine FinA.tup ?_ | refine FinA.one ?_); repeat' (first | exact FinBs.nil | exact FinCs.nil | refine FinBs.cons ?_ ?_ | refine FinCs.cons ?_ ?_ | refine FinB.cell (FinC.v ?_) | refine FinB.cell (FinC.own rfl rfl rfl ?_) | exact FinB.cell FinC.nil | refine FinB.cell (FinC.sl ?_) | exact FinB.agg' rfl rfl | exact FinB.cell (FinC.same rfl) | refine FinB.agg ?_ | refine FinC.v ?_ | refine FinC.own rfl rfl rfl ?_ | exact FinC.nil | refine FinC.sl ?_ | exact FinC.same rfl); all_goals try rfl
    · generalize ((ls.take q).map few30).map inAv = T at *
      generalize ls[q] = es at *
      have hml : (es.map Et.av).length = es.length := List.length_map _
      by_cases h30 : 30 < es.length
      · by_cases h200 : es.length ≤ 200
        · have hf : inAv (few30 es) = [.sl 3 ((es.map Et.av).take 30)] := by
            simp [few30, h30, h200, inAv, List.map_take]
          rw [hf] at hsn
          repeat' (first | ((first | apply o_do | apply d_do | apply d_yes rfl rfl rfl); first | exact ls_indexAddr_sl tab_ok rfl rfl rfl rfl hel rfl | exact ls_slice_to (n := 30) tab_ok rfl rfl rfl rfl (by rw [hml]; omega) rfl | exact ls_append tab_ok rfl rfl rfl rfl (by first | exact SrcIs.sl | exact SrcIs.nil | exact SrcIs.own rfl rfl) rfl (by (try simp only [List.length_cons, List.length_nil]); (omega)) rfl rfl | exact lsq) | first | refine a_seq ?_ | refine a_region ?_ | refine o_nil ?_ | refine a_block ?_ | refine a_ret ?_ | refine a_exit ?_ | refine a_skip ?_ | refine a_draw mixed ?_ | refine d_nil (by kernel_rfl) ?_ | first | refine o_yes rfl rfl rfl ?_ | refine o_no rfl rfl rfl (by decide) ?_ | refine o_no' rfl rfl rfl ?_ | refine a_condT rfl ?_ | refine a_condF rfl ?_ | refine d_no rfl rfl rfl (by decide) ?_ | refine d_no' rfl rfl rfl ?_ | ((first | refine o_split_t rfl rfl rfl (fun hb => ?_) (fun hb => ?_) | refine o_split_f rfl rfl rfl (fun hb => ?_) (fun hb => ?_) | refine a_cond rfl (fun hb => ?_) (fun hb => ?_) | refine d_split rfl rfl (fun hb => ?_) (fun hb => ?_)) <;> (simp only [hb]; try simp only [decide_eq_true_eq, decide_eq_false_iff_not, Bool.not_eq_true', Bool.not_eq_false', Bool.not_eq_true, Bool.not_eq_false, ne_eq, Decidable.not_not] at hb; try (exfalso; first | omega | exact hb trivial))))
          refine ⟨⟨q + 1, by omega, by omega⟩, by dsimp only; omega, ?_⟩
          refine ⟨by repeat' (first | exact trivial | exact FinA.one (FinB.cell (FinC.same rfl)) | exact FinA.one (FinB.cell FinC.nil) | exact FinA.bound rfl | exact FinA.one (FinB.cell (FinC.own rfl rfl rfl rfl)) | exact FinA.one (FinB.cell (FinC.v (by first | rfl | ((first | (simp; done) | (simp only [hsn]; rfl)))))) | exact FinA.one (FinB.cell (FinC.ow rfl (by first | rfl | ((first | (simp; done) | (simp only [hsn]; rfl)))))) | exact FinA.one (FinB.agg' rfl rfl) | refine ⟨⟨_, rfl, ?_⟩, ?_⟩), by repeat' (first | exact trivial | refine ⟨⟨_, rfl, by first | rfl | ((first | (simp; done) | (simp only [hsn]; rfl)); done) | (simp [renO, *]; done)⟩, by first | rfl | assumption, ?_⟩), rfl⟩
        · have hf : few30 es = es := by simp [few30, h200]
          rw [hf] at hsn
          repeat' (first | ((first | apply o_do | apply d_do | apply d_yes rfl rfl rfl); first | exact ls_indexAddr_sl tab_ok rfl rfl rfl rfl hel rfl | exact ls_append tab_ok rfl rfl rfl rfl (by first | exact SrcIs.sl | exact SrcIs.nil | exact SrcIs.own rfl rfl) rfl (by (try simp only [List.length_cons, List.length_nil]); (omega)) rfl rfl | exact lsq) | first | refine a_seq ?_ | refine a_region ?_ | refine o_nil ?_ | refine a_block ?_ | refine a_ret ?_ | refine a_exit ?_ | refine a_skip ?_ | refine a_draw mixed ?_ | refine d_nil (by kernel_rfl) ?_ | first | refine o_yes rfl rfl rfl ?_ | refine o_no rfl rfl rfl (by decide) ?_ | refine o_no' rfl rfl rfl ?_ | refine a_condT rfl ?_ | refine a_condF rfl ?_ | refine d_no rfl rfl rfl (by decide) ?_ | refine d_no' rfl rfl rfl ?_ | ((first | refine o_split_t rfl rfl rfl (fun hb => ?_) (fun hb => ?_) | refine o_split_f rfl rfl rfl (fun hb => ?_) (fun hb => ?_) | refine a_cond rfl (fun hb => ?_) (fun hb => ?_) | refine d_split rfl rfl (fun hb => ?_) (fun hb => ?_)) <;> (simp only [hb]; try simp only [decide_eq_true_eq, decide_eq_false_iff_not, Bool.not_eq_true', Bool.not_eq_false', Bool.not_eq_true, Bool.not_eq_false, ne_eq, Decidable.not_not] at hb; try (exfalso; first | omega | exact hb trivial))))
          refine ⟨⟨q + 1, by omega, by omega⟩, by dsimp only; omega, ?_⟩
          refine ⟨by repeat' (first | exact trivial | exact FinA.one (FinB.cell (FinC.same rfl)) | exact FinA.one (FinB.cell FinC.nil) | exact FinA.bound rfl | exact FinA.one (FinB.cell (FinC.own rfl rfl rfl rfl)) | exact FinA.one (FinB.cell (FinC.v (by first | rfl | ((first | (simp; done) | (simp only [hsn]; rfl)))))) | exact FinA.one (FinB.cell (FinC.ow rfl (by first | rfl | ((first | (simp; done) | (simp only [hsn]; rfl)))))) | exact FinA.one (FinB.agg' rfl rfl) | refine ⟨⟨_, rfl, ?_⟩, ?_⟩), by repeat' (first | exact trivial | refine ⟨⟨_, rfl, by first | rfl | ((first | (simp; done) | (simp only [hsn]; rfl)); done) | (simp [renO, *]; done)⟩, by first | rfl | assumption, ?_⟩), rfl⟩
      · have hf : few30 es = es := by simp [few30, h30]
        rw [hf] at hsn
        repeat' (first | ((first | apply o_do | apply d_do | apply d_yes rfl rfl rfl); first | exact ls_indexAddr_sl tab_ok rfl rfl rfl rfl hel rfl | exact ls_append tab_ok rfl rfl rfl rfl (by first | exact SrcIs.sl | exact SrcIs.nil | exact SrcIs.own rfl rfl) rfl (by (try simp only [List.length_cons, List.length_nil]); (omega)) rfl rfl | exact lsq) | first | refine a_seq ?_ | refine a_region ?_ | refine o_nil ?_ | refine a_block ?_ | refine a_ret ?_ | refine a_exit ?_ | refine a_skip ?_ | refine a_draw mixed ?_ | refine d_nil (by kernel_rfl) ?_ | first | refine o_yes rfl rfl rfl ?_ | refine o_no rfl rfl rfl (by decide) ?_ | refine o_no' rfl rfl rfl ?_ | refine a_condT rfl ?_ | refine a_condF rfl ?_ | refine d_no rfl rfl rfl (by decide) ?_ | refine d_no' rfl rfl rfl ?_ | ((first | refine o_split_t rfl rfl rfl (fun hb => ?_) (fun hb => ?_) | refine o_split_f rfl rfl rfl (fun hb => ?_) (fun hb => ?_) | refine a_cond rfl (fun hb => ?_) (fun hb => ?_) | refine d_split rfl rfl (fun hb => ?_) (fun hb => ?_)) <;> (simp only [hb]; try simp only [decide_eq_true_eq, decide_eq_false_iff_not, Bool.not_eq_true', Bool.not_eq_false', Bool.not_eq_true, Bool.not_eq_false, ne_eq, Decidable.not_not] at hb; try (exfalso; first | omega | exact hb trivial))))
        refine ⟨⟨q + 1, by omega, by omega⟩, by dsimp only; omega, ?_⟩
        refine ⟨by repeat' (first | exact trivial | exact FinA.one (FinB.cell (FinC.same rfl)) | exact FinA.one (FinB.cell FinC.nil) | exact FinA.bound rfl | exact FinA.one (FinB.cell (FinC.own rfl rfl rfl rfl)) | exact FinA.one (FinB.cell (FinC.v (by first | rfl | ((first | (simp; done) | (simp only [hsn]; rfl)))))) | exact FinA.one (FinB.cell (FinC.ow rfl (by first | rfl | ((first | (simp; done) | (simp only [hsn]; rfl)))))) | exact FinA.one (FinB.agg' rfl rfl) | refine ⟨⟨_, rfl, ?_⟩, ?_⟩), by repeat' (first | exact trivial | refine ⟨⟨_, rfl, by first | rfl | ((first | (simp; done) | (simp only [hsn]; rfl)); done) | (simp [renO, *]; done)⟩, by first | rfl | assumption, ?_⟩), rfl⟩
  · obtain rfl : q = ls.length := by omega
    unfold fewI
    rw [List.take_length, List.take_of_length_le (by omega)]
    generalize ls.map few30 = T at *
    repeat' (first | ((first | apply o_do | apply d_do | apply d_yes rfl rfl rfl); exact lsq) | first | refine a_seq ?_ | refine a_region ?_ | refine o_nil ?_ | refine a_block ?_ | refine a_ret ?_ | refine a_exit ?_ | refine a_skip ?_ | refine a_draw mixed ?_ | refine d_nil (by kernel_rfl) ?_ | first | refine o_yes rfl rfl rfl ?_ | refine o_no rfl rfl rfl (by decide) ?_ | refine o_no' rfl rfl rfl ?_ | refine a_condT rfl ?_ | refine a_condF rfl ?_ | refine d_no rfl rfl rfl (by decide) ?_ | refine d_no' rfl rfl rfl ?_ | ((first | refine o_split_t rfl rfl rfl (fun hb => ?_) (fun hb => ?_) | refine o_split_f rfl rfl rfl (fun hb => ?_) (fun hb => ?_) | refine a_cond rfl (fun hb => ?_) (fun hb => ?_) | refine d_split rfl rfl (fun hb => ?_) (fun hb => ?_)) <;> (simp only [hb]; try simp only [decide_eq_true_eq, decide_eq_false_iff_not, Bool.not_eq_true', Bool.not_eq_false', Bool.not_eq_true, Bool.not_eq_false, ne_eq, Decidable.not_not] at hb; try (exfalso; first | omega | exact hb trivial))))
    all_goals refine ⟨by first | exact .inr rfl | exact .inl rfl, _, rfl, ?_, by repeat' (first | exact trivial | refine ⟨⟨_, rfl, by first | rfl | (simp [renO, *]; done)⟩, by first | rfl | assumption, ?_⟩)⟩
    all_goals (first | refine FinA.tup ?_ | refine FinA.one ?_); repeat' (first | exact FinBs.nil | exact FinCs.nil | refine FinBs.cons ?_ ?_ | refine FinCs.cons ?_ ?_ | refine FinB.cell (FinC.v ?_) | refine FinB.cell (FinC.own rfl rfl rfl ?_) | exact FinB.cell FinC.nil | refine FinB.cell (FinC.sl ?_) | exact FinB.agg' rfl rfl | exact FinB.cell (FinC.same rfl) | refine FinB.agg ?_ | refine FinC.v ?_ | refine FinC.own rfl rfl rfl ?_ | exact FinC.nil | refine FinC.sl ?_ | exact FinC.same rfl); all_goals try rfl
theorem few30_len (es : List Et) : (few30 es).length ≤ es.length := by
  unfold few30
  split
  · rw [List.length_take]; omega
  · exact Nat.le_refl _
theorem few30_mem {es : List Et} {e : Et} (h : e ∈ few30 es) : e ∈ es := by
  unfold few30 at h
  split at h
  · exact List.mem_of_mem_take h
  · exact h
theorem fewI_small {ls : List (List Et)} (hx : Small ls) : Small (fewI ls) := by
  refine ⟨?_, fun es h => ?_⟩
  · unfold fewI; rw [List.length_map, List.length_take]; omega
  · obtain ⟨x, h1, rfl⟩ := List.mem_map.1 h
    have := hx.2 x (List.mem_of_mem_take h1)
    have := few30_len x
    omega
theorem fewI_range {ls : List (List Et)} (h : ∀ es ∈ ls, ∀ e ∈ es, -9223372036854775808 ≤ e.v ∧ e.v ≤ 9223372036854775807) : ∀ es ∈ fewI ls, ∀ e ∈ es, -9223372036854775808 ≤ e.v ∧ e.v ≤ 9223372036854775807 := by
  intro es h1 e h2
  obtain ⟨x, h3, rfl⟩ := List.mem_map.1 h1
  exact h x (List.mem_of_mem_take h3) e (few30_mem h2)
theorem outR_form (k : Int) (vs : List Vl) : (∃ U, outR k vs = (U, 0) ∧ U.length ≤ 2000) ∨ outR k vs = ([], 3) := by
  unfold outR
  split
  · rename_i h
    refine .inl ⟨_, rfl, ?_⟩
    have := resultsL_le k (rowV k vs)
    omega
  · exact .inr rfl
end Go.Proofs.Ytimlkhbedhjehaa
