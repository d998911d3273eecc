/-
  Groups, walked over abstract values: an event that is taken.
  Groups, walked over abstract values: the law of an event that is taken.
-/
import Derived.Test.YtimlkhbedhjehaaWnI
import Derived.Test.YtimlkhbedhjehaaPnT
import Derived.Test.YtimlkhbedhjehaaGrB
namespace Go.Proofs.Ytimlkhbedhjehaa
open Go.RowKit
set_option linter.unusedSimpArgs false
set_option linter.unusedVariables false
def evR (key : ByteArray) (at' : Int) : Bool := keyB key && (decide (0 ≤ at') && decide (at' < 1099511627776))
theorem p_ikey (k : ByteArray) : PC Try.prog 132 [.v (.string k)] (.v (.bool (keyB k))) := by
  refine PC.mk (ac_body tab_ok Try.func132 rfl (by kernel_rfl) rfl ?_); intro w0 M μ0; simp only [Try.ntmps132, List.length_cons, List.length_nil, Nat.reduceAdd, Nat.reduceSub, numb]
  repeat' (first | ((first | apply o_do | apply d_do | apply d_yes rfl rfl rfl); exact lsq) | first | refine a_seq ?_ | refine a_region ?_ | refine o_nil ?_ | refine a_block ?_ | refine a_ret ?_ | refine a_exit ?_ | refine a_skip ?_ | refine a_draw mixed ?_ | refine d_nil (by kernel_rfl) ?_ | first | refine o_yes rfl rfl rfl ?_ | refine o_no rfl rfl rfl (by decide) ?_ | refine o_no' rfl rfl rfl ?_ | refine a_condT rfl ?_ | refine a_condF rfl ?_ | refine d_no rfl rfl rfl (by decide) ?_ | refine d_no' rfl rfl rfl ?_ | ((first | refine o_split_t rfl rfl rfl (fun hb => ?_) (fun hb => ?_) | refine o_split_f rfl rfl rfl (fun hb => ?_) (fun hb => ?_) | refine a_cond rfl (fun hb => ?_) (fun hb => ?_) | refine d_split rfl rfl (fun hb => ?_) (fun hb => ?_)) <;> (simp only [hb]; try simp only [decide_eq_true_eq, decide_eq_false_iff_not, Bool.not_eq_true', Bool.not_eq_false', Bool.not_eq_true, Bool.not_eq_false, ne_eq, Decidable.not_not] at hb; try (exfalso; first | omega | exact hb trivial))))
  all_goals refine ⟨by first | exact .inr rfl | exact .inl rfl, _, rfl, ?_, by repeat' (first | exact trivial | refine ⟨⟨_, rfl, by first | rfl | (simp [renO, *]; done)⟩, by first | rfl | assumption, ?_⟩)⟩
  all_goals (first | refine FinA.tup ?_ | refine FinA.one ?_); repeat' (first | exact FinBs.nil | exact FinCs.nil | refine FinBs.cons ?_ ?_ | refine FinCs.cons ?_ ?_ | refine FinB.cell (FinC.v ?_) | refine FinB.cell (FinC.own rfl rfl rfl ?_) | exact FinB.cell FinC.nil | refine FinB.cell (FinC.sl ?_) | exact FinB.agg' rfl rfl | exact FinB.cell (FinC.same rfl) | refine FinB.agg ?_ | refine FinC.v ?_ | refine FinC.own rfl rfl rfl ?_ | exact FinC.nil | refine FinC.sl ?_ | exact FinC.same rfl); all_goals try rfl
  all_goals simp only [bytes_nil', decide_eq_true_eq, decide_eq_false_iff_not] at *
  all_goals simp [keyB_int, *]
  all_goals try omega
theorem p_Event (key : ByteArray) (at' v : Int) : PC Try.prog 98 [.agg [.v (.string key), .v (.int .i64 at'), .v (.int .i64 v)]] (.v (.bool (evR key at'))) := by
  have h := p_ikey key
  unfold evR
  cases hk : keyB key
  · rw [hk] at h
    refine PC.mk (ac_body tab_ok Try.func98 rfl (by kernel_rfl) rfl ?_); intro w0 M μ0; simp only [Try.ntmps98, List.length_cons, List.length_nil, Nat.reduceAdd, Nat.reduceSub, numb]
    repeat' (first | ((first | apply o_do | apply d_do | apply d_yes rfl rfl rfl); first | exact lsc (h) | exact lsq) | first | refine a_seq ?_ | refine a_region ?_ | refine o_nil ?_ | refine a_block ?_ | refine a_ret ?_ | refine a_exit ?_ | refine a_skip ?_ | refine a_draw mixed ?_ | refine d_nil (by kernel_rfl) ?_ | first | refine o_yes rfl rfl rfl ?_ | refine o_no rfl rfl rfl (by decide) ?_ | refine o_no' rfl rfl rfl ?_ | refine a_condT rfl ?_ | refine a_condF rfl ?_ | refine d_no rfl rfl rfl (by decide) ?_ | refine d_no' rfl rfl rfl ?_ | ((first | refine o_split_t rfl rfl rfl (fun hb => ?_) (fun hb => ?_) | refine o_split_f rfl rfl rfl (fun hb => ?_) (fun hb => ?_) | refine a_cond rfl (fun hb => ?_) (fun hb => ?_) | refine d_split rfl rfl (fun hb => ?_) (fun hb => ?_)) <;> (simp only [hb]; try simp only [decide_eq_true_eq, decide_eq_false_iff_not, Bool.not_eq_true', Bool.not_eq_false', Bool.not_eq_true, Bool.not_eq_false, ne_eq, Decidable.not_not] at hb; try (exfalso; first | omega | exact hb trivial))))
    all_goals refine ⟨by first | exact .inr rfl | exact .inl rfl, _, rfl, ?_, by repeat' (first | exact trivial | refine ⟨⟨_, rfl, by first | rfl | (simp [renO, *]; done)⟩, by first | rfl | assumption, ?_⟩)⟩
    all_goals (first | refine FinA.tup ?_ | refine FinA.one ?_); repeat' (first | exact FinBs.nil | exact FinCs.nil | refine FinBs.cons ?_ ?_ | refine FinCs.cons ?_ ?_ | refine FinB.cell (FinC.v ?_) | refine FinB.cell (FinC.own rfl rfl rfl ?_) | exact FinB.cell FinC.nil | refine FinB.cell (FinC.sl ?_) | exact FinB.agg' rfl rfl | exact FinB.cell (FinC.same rfl) | refine FinB.agg ?_ | refine FinC.v ?_ | refine FinC.own rfl rfl rfl ?_ | exact FinC.nil | refine FinC.sl ?_ | exact FinC.same rfl); all_goals try rfl
  · rw [hk] at h
    refine PC.mk (ac_body tab_ok Try.func98 rfl (by kernel_rfl) rfl ?_); intro w0 M μ0; simp only [Try.ntmps98, List.length_cons, List.length_nil, Nat.reduceAdd, Nat.reduceSub, numb]
    repeat' (first | ((first | apply o_do | apply d_do | apply d_yes rfl rfl rfl); first | exact lsc (h) | exact lsq) | first | refine a_seq ?_ | refine a_region ?_ | refine o_nil ?_ | refine a_block ?_ | refine a_ret ?_ | refine a_exit ?_ | refine a_skip ?_ | refine a_draw mixed ?_ | refine d_nil (by kernel_rfl) ?_ | first | refine o_yes rfl rfl rfl ?_ | refine o_no rfl rfl rfl (by decide) ?_ | refine o_no' rfl rfl rfl ?_ | refine a_condT rfl ?_ | refine a_condF rfl ?_ | refine d_no rfl rfl rfl (by decide) ?_ | refine d_no' rfl rfl rfl ?_ | ((first | refine o_split_t rfl rfl rfl (fun hb => ?_) (fun hb => ?_) | refine o_split_f rfl rfl rfl (fun hb => ?_) (fun hb => ?_) | refine a_cond rfl (fun hb => ?_) (fun hb => ?_) | refine d_split rfl rfl (fun hb => ?_) (fun hb => ?_)) <;> (simp only [hb]; try simp only [decide_eq_true_eq, decide_eq_false_iff_not, Bool.not_eq_true', Bool.not_eq_false', Bool.not_eq_true, Bool.not_eq_false, ne_eq, Decidable.not_not] at hb; try (exfalso; first | omega | exact hb trivial))))
    all_goals refine ⟨by first | exact .inr rfl | exact .inl rfl, _, rfl, ?_, by repeat' (first | exact trivial | refine ⟨⟨_, rfl, by first | rfl | (simp [renO, *]; done)⟩, by first | rfl | assumption, ?_⟩)⟩
    all_goals (first | refine FinA.tup ?_ | refine FinA.one ?_); repeat' (first | exact FinBs.nil | exact FinCs.nil | refine FinBs.cons ?_ ?_ | refine FinCs.cons ?_ ?_ | refine FinB.cell (FinC.v ?_) | refine FinB.cell (FinC.own rfl rfl rfl ?_) | exact FinB.cell FinC.nil | refine FinB.cell (FinC.sl ?_) | exact FinB.agg' rfl rfl | exact FinB.cell (FinC.same rfl) | refine FinB.agg ?_ | refine FinC.v ?_ | refine FinC.own rfl rfl rfl ?_ | exact FinC.nil | refine FinC.sl ?_ | exact FinC.same rfl); all_goals try rfl
    all_goals simp [*]
theorem p_rEvent (key : ByteArray) (at' v : Int) : PC Try.prog 100 [.agg [.v (.string key), .v (.int .i64 at'), .v (.int .i64 v)]] (.v (.bool (evR key at'))) := by
  have h := p_Key key
  unfold evR
  cases hk : keyB key
  · rw [hk] at h
    refine PC.mk (ac_body tab_ok Try.func100 rfl (by kernel_rfl) rfl ?_); intro w0 M μ0; simp only [Try.ntmps100, List.length_cons, List.length_nil, Nat.reduceAdd, Nat.reduceSub, numb]
    repeat' (first | ((first | apply o_do | apply d_do | apply d_yes rfl rfl rfl); first | exact lsc (h) | exact lsq) | first | refine a_seq ?_ | refine a_region ?_ | refine o_nil ?_ | refine a_block ?_ | refine a_ret ?_ | refine a_exit ?_ | refine a_skip ?_ | refine a_draw mixed ?_ | refine d_nil (by kernel_rfl) ?_ | first | refine o_yes rfl rfl rfl ?_ | refine o_no rfl rfl rfl (by decide) ?_ | refine o_no' rfl rfl rfl ?_ | refine a_condT rfl ?_ | refine a_condF rfl ?_ | refine d_no rfl rfl rfl (by decide) ?_ | refine d_no' rfl rfl rfl ?_ | ((first | refine o_split_t rfl rfl rfl (fun hb => ?_) (fun hb => ?_) | refine o_split_f rfl rfl rfl (fun hb => ?_) (fun hb => ?_) | refine a_cond rfl (fun hb => ?_) (fun hb => ?_) | refine d_split rfl rfl (fun hb => ?_) (fun hb => ?_)) <;> (simp only [hb]; try simp only [decide_eq_true_eq, decide_eq_false_iff_not, Bool.not_eq_true', Bool.not_eq_false', Bool.not_eq_true, Bool.not_eq_false, ne_eq, Decidable.not_not] at hb; try (exfalso; first | omega | exact hb trivial))))
    all_goals refine ⟨by first | exact .inr rfl | exact .inl rfl, _, rfl, ?_, by repeat' (first | exact trivial | refine ⟨⟨_, rfl, by first | rfl | (simp [renO, *]; done)⟩, by first | rfl | assumption, ?_⟩)⟩
    all_goals (first | refine FinA.tup ?_ | refine FinA.one ?_); repeat' (first | exact FinBs.nil | exact FinCs.nil | refine FinBs.cons ?_ ?_ | refine FinCs.cons ?_ ?_ | refine FinB.cell (FinC.v ?_) | refine FinB.cell (FinC.own rfl rfl rfl ?_) | exact FinB.cell FinC.nil | refine FinB.cell (FinC.sl ?_) | exact FinB.agg' rfl rfl | exact FinB.cell (FinC.same rfl) | refine FinB.agg ?_ | refine FinC.v ?_ | refine FinC.own rfl rfl rfl ?_ | exact FinC.nil | refine FinC.sl ?_ | exact FinC.same rfl); all_goals try rfl
  · rw [hk] at h
    refine PC.mk (ac_body tab_ok Try.func100 rfl (by kernel_rfl) rfl ?_); intro w0 M μ0; simp only [Try.ntmps100, List.length_cons, List.length_nil, Nat.reduceAdd, Nat.reduceSub, numb]
    repeat' (first | ((first | apply o_do | apply d_do | apply d_yes rfl rfl rfl); first | exact lsc (h) | exact lsq) | first | refine a_seq ?_ | refine a_region ?_ | refine o_nil ?_ | refine a_block ?_ | refine a_ret ?_ | refine a_exit ?_ | refine a_skip ?_ | refine a_draw mixed ?_ | refine d_nil (by kernel_rfl) ?_ | first | refine o_yes rfl rfl rfl ?_ | refine o_no rfl rfl rfl (by decide) ?_ | refine o_no' rfl rfl rfl ?_ | refine a_condT rfl ?_ | refine a_condF rfl ?_ | refine d_no rfl rfl rfl (by decide) ?_ | refine d_no' rfl rfl rfl ?_ | ((first | refine o_split_t rfl rfl rfl (fun hb => ?_) (fun hb => ?_) | refine o_split_f rfl rfl rfl (fun hb => ?_) (fun hb => ?_) | refine a_cond rfl (fun hb => ?_) (fun hb => ?_) | refine d_split rfl rfl (fun hb => ?_) (fun hb => ?_)) <;> (simp only [hb]; try simp only [decide_eq_true_eq, decide_eq_false_iff_not, Bool.not_eq_true', Bool.not_eq_false', Bool.not_eq_true, Bool.not_eq_false, ne_eq, Decidable.not_not] at hb; try (exfalso; first | omega | exact hb trivial))))
    all_goals refine ⟨by first | exact .inr rfl | exact .inl rfl, _, rfl, ?_, by repeat' (first | exact trivial | refine ⟨⟨_, rfl, by first | rfl | (simp [renO, *]; done)⟩, by first | rfl | assumption, ?_⟩)⟩
    all_goals (first | refine FinA.tup ?_ | refine FinA.one ?_); repeat' (first | exact FinBs.nil | exact FinCs.nil | refine FinBs.cons ?_ ?_ | refine FinCs.cons ?_ ?_ | refine FinB.cell (FinC.v ?_) | refine FinB.cell (FinC.own rfl rfl rfl ?_) | exact FinB.cell FinC.nil | refine FinB.cell (FinC.sl ?_) | exact FinB.agg' rfl rfl | exact FinB.cell (FinC.same rfl) | refine FinB.agg ?_ | refine FinC.v ?_ | refine FinC.own rfl rfl rfl ?_ | exact FinC.nil | refine FinC.sl ?_ | exact FinC.same rfl); all_goals try rfl
    all_goals simp [*]
/-- a value put into windows, one behind the other -/
def takeW (k : Int) (key : ByteArray) (v : Int) : List Pn → List Wn → List Pn × Int
  | ps, [] => (ps, 0)
  | ps, w :: ws => if (addR k ps (oneP k w.lo w.hi key v)).2 = 0 then takeW k key v (addR k ps (oneP k w.lo w.hi key v)).1 ws else ([], (addR k ps (oneP k w.lo w.hi key v)).2)
theorem takeW_le {k : Int} {key : ByteArray} {v : Int} : ∀ {ws : List Wn} {ps : List Pn}, ps.length ≤ 9223372036854775807 → (takeW k key v ps ws).1.length ≤ 9223372036854775807
  | [], ps, h => h
  | w :: ws, ps, h => by
    unfold takeW
    split
    · exact takeW_le (by have := addR_le k ps (oneP k w.lo w.hi key v); omega)
    · simp
structure TkR where
  no : Int
  mark : Int
  ps : List Pn
  n : Int
  e : Int
def TkR.av (r : TkR) : AV := .tup [.agg [.v (.int .i64 r.no), .v (.int .i64 r.mark), .sl 6 (r.ps.map Pn.av)], .v (.int .i64 r.n), .v (.int .i64 r.e)]
def takeR (s d k no mark : Int) (ps : List Pn) (key : ByteArray) (at' v : Int) : TkR :=
  if jobR s d k = false then ⟨0, 0, [], 0, 130⟩
  else if (grR no mark ps && evR key at') = false then ⟨0, 0, [], 0, 1⟩
  else if (takeW k key v ps (openL s d at' mark)).2 = 0 then ⟨no, mark, (takeW k key v ps (openL s d at' mark)).1, (openL s d at' mark).length, 0⟩
  else ⟨0, 0, [], 0, (takeW k key v ps (openL s d at' mark)).2⟩
theorem takeW_bad {k : Int} {key : ByteArray} {v : Int} {ps : List Pn} {ws : List Wn} {q : Nat} (hq : q < ws.length) {e : Int} (h : addR k ps (oneP k ws[q].lo ws[q].hi key v) = ([], e)) (he : e ≠ 0) : takeW k key v ps (ws.drop q) = ([], e) := by
  rw [List.drop_eq_getElem_cons hq, takeW, h]
  simp [he]
theorem takeW_ok {k : Int} {key : ByteArray} {v : Int} {ps ps' : List Pn} {ws : List Wn} {q : Nat} (hq : q < ws.length) (h : addR k ps (oneP k ws[q].lo ws[q].hi key v) = (ps', 0)) : takeW k key v ps (ws.drop q) = takeW k key v ps' (ws.drop (q + 1)) := by
  rw [List.drop_eq_getElem_cons hq, takeW, h]
  simp
theorem addR_form (k : Int) (xs : List Pn) (x : Pn) : (∃ l, addR k xs x = (l, 0) ∧ l.length ≤ 2000) ∨ (∃ e, addR k xs x = ([], e) ∧ e ≠ 0) := by
  have h := addR_le k xs x
  unfold addR at *
  split
  · rename_i hc
    rw [if_pos hc] at h
    unfold putR at *
    cases hp : putL k xs x with
    | none => right; exact ⟨3, rfl, by omega⟩
    | some l => rw [hp] at h; exact .inl ⟨l, rfl, h⟩
  · exact .inr ⟨1, rfl, by omega⟩
theorem openL_len (s d t mark : Int) : (openL s d t mark).length ≤ 16 := by
  unfold openL openW
  exact Nat.le_trans (List.length_filter_le _ _) (winL_len s d t)
section
variable (g s d k fu li de id no mark : Int) (ps : List Pn) (key : ByteArray) (at' v : Int)
set_option maxHeartbeats 8000000 in
set_option maxRecDepth 20000 in
theorem g_Take (hx : ps.length ≤ 9223372036854775807) :
    PC Try.prog 51 [.agg [.v (.int .i64 g), .v (.int .i64 s), .v (.int .i64 d), .v (.int .i64 k), .v (.int .i64 fu), .v (.int .i64 li), .v (.int .i64 de), .v (.int .i64 id)], .agg [.v (.int .i64 no), .v (.int .i64 mark), .sl 6 (ps.map Pn.av)], .agg [.v (.string key), .v (.int .i64 at'), .v (.int .i64 v)]] (takeR s d k no mark ps key at' v).av := by
  have hj := g_Job g s d k fu li de id
  have hr := g_Right no mark ps hx
  have he := p_Event key at' v
  have ho := p_Open s d at' mark
  have hol := openL_len s d at' mark
  unfold takeR
  cases hJ : jobR s d k
  · rw [hJ] at hj
    refine PC.mk (ac_body tab_ok Try.func51 rfl (by kernel_rfl) rfl ?_); intro w0 M μ0; simp only [Try.ntmps51, List.length_cons, List.length_nil, Nat.reduceAdd, Nat.reduceSub, numb]
    repeat' (first | ((first | apply o_do | apply d_do | apply d_yes rfl rfl rfl); first | exact lsc (hj) | exact lsq) | first | refine a_seq ?_ | refine a_region ?_ | refine o_nil ?_ | refine a_block ?_ | refine a_ret ?_ | refine a_exit ?_ | refine a_skip ?_ | refine a_draw mixed ?_ | refine d_nil (by kernel_rfl) ?_ | first | refine o_yes rfl rfl rfl ?_ | refine o_no rfl rfl rfl (by decide) ?_ | refine o_no' rfl rfl rfl ?_ | refine a_condT rfl ?_ | refine a_condF rfl ?_ | refine d_no rfl rfl rfl (by decide) ?_ | refine d_no' rfl rfl rfl ?_ | ((first | refine o_split_t rfl rfl rfl (fun hb => ?_) (fun hb => ?_) | refine o_split_f rfl rfl rfl (fun hb => ?_) (fun hb => ?_) | refine a_cond rfl (fun hb => ?_) (fun hb => ?_) | refine d_split rfl rfl (fun hb => ?_) (fun hb => ?_)) <;> (simp only [hb]; try simp only [decide_eq_true_eq, decide_eq_false_iff_not, Bool.not_eq_true', Bool.not_eq_false', Bool.not_eq_true, Bool.not_eq_false, ne_eq, Decidable.not_not] at hb; try (exfalso; first | omega | exact hb trivial))))
    all_goals refine ⟨by first | exact .inr rfl | exact .inl rfl, _, rfl, ?_, by repeat' (first | exact trivial | refine ⟨⟨_, rfl, by first | rfl | (simp [renO, *]; done)⟩, by first | rfl | assumption, ?_⟩)⟩
    all_goals (first | refine FinA.tup ?_ | refine FinA.one ?_); repeat' (first | exact FinBs.nil | exact FinCs.nil | refine FinBs.cons ?_ ?_ | refine FinCs.cons ?_ ?_ | refine FinB.cell (FinC.v ?_) | refine FinB.cell (FinC.own rfl rfl rfl ?_) | exact FinB.cell FinC.nil | refine FinB.cell (FinC.sl ?_) | exact FinB.agg' rfl rfl | exact FinB.cell (FinC.same rfl) | refine FinB.agg ?_ | refine FinC.v ?_ | refine FinC.own rfl rfl rfl ?_ | exact FinC.nil | refine FinC.sl ?_ | exact FinC.same rfl); all_goals try rfl
  rw [hJ] at hj
  cases hR : grR no mark ps
  · rw [hR] at hr
    refine PC.mk (ac_body tab_ok Try.func51 rfl (by kernel_rfl) rfl ?_); intro w0 M μ0; simp only [Try.ntmps51, List.length_cons, List.length_nil, Nat.reduceAdd, Nat.reduceSub, numb]
    repeat' (first | ((first | apply o_do | apply d_do | apply d_yes rfl rfl rfl); first | exact lsc (hj) | exact lsc (hr) | exact lsq) | first | refine a_seq ?_ | refine a_region ?_ | refine o_nil ?_ | refine a_block ?_ | refine a_ret ?_ | refine a_exit ?_ | refine a_skip ?_ | refine a_draw mixed ?_ | refine d_nil (by kernel_rfl) ?_ | first | refine o_yes rfl rfl rfl ?_ | refine o_no rfl rfl rfl (by decide) ?_ | refine o_no' rfl rfl rfl ?_ | refine a_condT rfl ?_ | refine a_condF rfl ?_ | refine d_no rfl rfl rfl (by decide) ?_ | refine d_no' rfl rfl rfl ?_ | ((first | refine o_split_t rfl rfl rfl (fun hb => ?_) (fun hb => ?_) | refine o_split_f rfl rfl rfl (fun hb => ?_) (fun hb => ?_) | refine a_cond rfl (fun hb => ?_) (fun hb => ?_) | refine d_split rfl rfl (fun hb => ?_) (fun hb => ?_)) <;> (simp only [hb]; try simp only [decide_eq_true_eq, decide_eq_false_iff_not, Bool.not_eq_true', Bool.not_eq_false', Bool.not_eq_true, Bool.not_eq_false, ne_eq, Decidable.not_not] at hb; try (exfalso; first | omega | exact hb trivial))))
    all_goals refine ⟨by first | exact .inr rfl | exact .inl rfl, _, rfl, ?_, by repeat' (first | exact trivial | refine ⟨⟨_, rfl, by first | rfl | (simp [renO, *]; done)⟩, by first | rfl | assumption, ?_⟩)⟩
    all_goals (first | refine FinA.tup ?_ | refine FinA.one ?_); repeat' (first | exact FinBs.nil | exact FinCs.nil | refine FinBs.cons ?_ ?_ | refine FinCs.cons ?_ ?_ | refine FinB.cell (FinC.v ?_) | refine FinB.cell (FinC.own rfl rfl rfl ?_) | exact FinB.cell FinC.nil | refine FinB.cell (FinC.sl ?_) | exact FinB.agg' rfl rfl | exact FinB.cell (FinC.same rfl) | refine FinB.agg ?_ | refine FinC.v ?_ | refine FinC.own rfl rfl rfl ?_ | exact FinC.nil | refine FinC.sl ?_ | exact FinC.same rfl); all_goals try rfl
  rw [hR] at hr
  cases hE : evR key at'
  · rw [hE] at he
    refine PC.mk (ac_body tab_ok Try.func51 rfl (by kernel_rfl) rfl ?_); intro w0 M μ0; simp only [Try.ntmps51, List.length_cons, List.length_nil, Nat.reduceAdd, Nat.reduceSub, numb]
    repeat' (first | ((first | apply o_do | apply d_do | apply d_yes rfl rfl rfl); first | exact lsc (hj) | exact lsc (hr) | exact lsc (he) | exact lsq) | first | refine a_seq ?_ | refine a_region ?_ | refine o_nil ?_ | refine a_block ?_ | refine a_ret ?_ | refine a_exit ?_ | refine a_skip ?_ | refine a_draw mixed ?_ | refine d_nil (by kernel_rfl) ?_ | first | refine o_yes rfl rfl rfl ?_ | refine o_no rfl rfl rfl (by decide) ?_ | refine o_no' rfl rfl rfl ?_ | refine a_condT rfl ?_ | refine a_condF rfl ?_ | refine d_no rfl rfl rfl (by decide) ?_ | refine d_no' rfl rfl rfl ?_ | ((first | refine o_split_t rfl rfl rfl (fun hb => ?_) (fun hb => ?_) | refine o_split_f rfl rfl rfl (fun hb => ?_) (fun hb => ?_) | refine a_cond rfl (fun hb => ?_) (fun hb => ?_) | refine d_split rfl rfl (fun hb => ?_) (fun hb => ?_)) <;> (simp only [hb]; try simp only [decide_eq_true_eq, decide_eq_false_iff_not, Bool.not_eq_true', Bool.not_eq_false', Bool.not_eq_true, Bool.not_eq_false, ne_eq, Decidable.not_not] at hb; try (exfalso; first | omega | exact hb trivial))))
    all_goals refine ⟨by first | exact .inr rfl | exact .inl rfl, _, rfl, ?_, by repeat' (first | exact trivial | refine ⟨⟨_, rfl, by first | rfl | (simp [renO, *]; done)⟩, by first | rfl | assumption, ?_⟩)⟩
    all_goals (first | refine FinA.tup ?_ | refine FinA.one ?_); repeat' (first | exact FinBs.nil | exact FinCs.nil | refine FinBs.cons ?_ ?_ | refine FinCs.cons ?_ ?_ | refine FinB.cell (FinC.v ?_) | refine FinB.cell (FinC.own rfl rfl rfl ?_) | exact FinB.cell FinC.nil | refine FinB.cell (FinC.sl ?_) | exact FinB.agg' rfl rfl | exact FinB.cell (FinC.same rfl) | refine FinB.agg ?_ | refine FinC.v ?_ | refine FinC.own rfl rfl rfl ?_ | exact FinC.nil | refine FinC.sl ?_ | exact FinC.same rfl); all_goals try rfl
  rw [hE] at he
  simp only [Bool.and_self, if_false, Bool.true_eq_false]
  generalize openL s d at' mark = ws at *
  refine PC.mk (ac_body tab_ok Try.func51 rfl (by kernel_rfl) rfl ?_); intro w0 M μ0; simp only [Try.ntmps51, List.length_cons, List.length_nil, Nat.reduceAdd, Nat.reduceSub, numb]
  repeat' (first | ((first | apply o_do | apply d_do | apply d_yes rfl rfl rfl); first | exact lsc (hj) | exact lsc (hr) | exact lsc (he) | exact lsc (ho) | exact lsq) | first | refine a_seq ?_ | refine a_region ?_ | refine o_nil ?_ | refine a_block ?_ | refine a_ret ?_ | refine a_exit ?_ | refine a_skip ?_ | refine a_draw mixed ?_ | refine d_nil (by kernel_rfl) ?_ | first | refine o_yes rfl rfl rfl ?_ | refine o_no rfl rfl rfl (by decide) ?_ | refine o_no' rfl rfl rfl ?_ | refine a_condT rfl ?_ | refine a_condF rfl ?_ | refine d_no rfl rfl rfl (by decide) ?_ | refine d_no' rfl rfl rfl ?_ | ((first | refine o_split_t rfl rfl rfl (fun hb => ?_) (fun hb => ?_) | refine o_split_f rfl rfl rfl (fun hb => ?_) (fun hb => ?_) | refine a_cond rfl (fun hb => ?_) (fun hb => ?_) | refine d_split rfl rfl (fun hb => ?_) (fun hb => ?_)) <;> (simp only [hb]; try simp only [decide_eq_true_eq, decide_eq_false_iff_not, Bool.not_eq_true', Bool.not_eq_false', Bool.not_eq_true, Bool.not_eq_false, ne_eq, Decidable.not_not] at hb; try (exfalso; first | omega | exact hb trivial))))
  refine a_loop (X := {x : Nat × List Pn // x.1 ≤ ws.length ∧ takeW k key v ps ws = takeW k key v x.2 (ws.drop x.1) ∧ x.2.length ≤ 9223372036854775807}) (fun x => ⟨[(3, .ref 0 0), (4, .ref 1 0), (5, .ref 2 0), (6, .ref 3 0), (9, .sl 2 (ws.map Wn.av)), (38, .sl 2 (ws.map Wn.av)), (39, .v (.int .i64 ws.length)), (40, .v (.int .i64 x.1.1))], [(0, .box 23 [.v (.int .i64 g), .v (.int .i64 s), .v (.int .i64 d), .v (.int .i64 k), .v (.int .i64 fu), .v (.int .i64 li), .v (.int .i64 de), .v (.int .i64 id)]), (1, .box 26 [.v (.int .i64 no), .v (.int .i64 mark), .sl 6 (x.1.2.map Pn.av)]), (2, .box 79 [.v (.string key), .v (.int .i64 at'), .v (.int .i64 v)]), (3, .box 26 [.v (.int .i64 0), .v (.int .i64 0), .v (.slice none 0 0)])]⟩) (fun x => ws.length - x.1.1) ⟨(0, ps), Nat.zero_le _, rfl, hx⟩ ?_ ?_
  · refine ⟨by repeat' (first | exact trivial | exact FinA.one (FinB.cell (FinC.same rfl)) | exact FinA.one (FinB.cell FinC.nil) | exact FinA.bound rfl | exact FinA.one (FinB.cell (FinC.own rfl rfl rfl rfl)) | exact FinA.one (FinB.cell (FinC.v (by first | rfl | (simp)))) | exact FinA.one (FinB.cell (FinC.ow rfl (by first | rfl | (simp)))) | exact FinA.one (FinB.agg' rfl rfl) | refine ⟨⟨_, rfl, ?_⟩, ?_⟩), by repeat' (first | exact trivial | refine ⟨⟨_, rfl, by first | rfl | (simp; done) | (simp [renO, *]; done)⟩, by first | rfl | assumption, ?_⟩), rfl⟩
  rintro ⟨⟨q, cur⟩, hq, htk, hc⟩
  dsimp only at hq htk hc ⊢
  rw [htk]
  by_cases hlt : q < ws.length
  · have hel : (ws.map Wn.av)[q]? = some (Wn.av ws[q]) := by simp [hlt]
    have hA := p_Add cur k key ws[q].lo ws[q].hi v hc
    rcases addR_form k cur (oneP k ws[q].lo ws[q].hi key v) with ⟨l, hl, hll⟩ | ⟨e, hl, hne⟩
    · have ht := takeW_ok hlt hl
      rw [hl] at hA
      dsimp only [PR.av] at hA
      rw [ht]
      generalize ws[q] = w at *
      repeat' (first | ((first | apply o_do | apply d_do | apply d_yes rfl rfl rfl); first | exact lsc (hA) | exact lsq) | first | refine a_seq ?_ | refine a_region ?_ | refine o_nil ?_ | refine a_block ?_ | refine a_ret ?_ | refine a_exit ?_ | refine a_skip ?_ | refine a_draw mixed ?_ | refine d_nil (by kernel_rfl) ?_ | first | refine o_yes rfl rfl rfl ?_ | refine o_no rfl rfl rfl (by decide) ?_ | refine o_no' rfl rfl rfl ?_ | refine a_condT rfl ?_ | refine a_condF rfl ?_ | refine d_no rfl rfl rfl (by decide) ?_ | refine d_no' rfl rfl rfl ?_ | ((first | refine o_split_t rfl rfl rfl (fun hb => ?_) (fun hb => ?_) | refine o_split_f rfl rfl rfl (fun hb => ?_) (fun hb => ?_) | refine a_cond rfl (fun hb => ?_) (fun hb => ?_) | refine d_split rfl rfl (fun hb => ?_) (fun hb => ?_)) <;> (simp only [hb]; try simp only [decide_eq_true_eq, decide_eq_false_iff_not, Bool.not_eq_true', Bool.not_eq_false', Bool.not_eq_true, Bool.not_eq_false, ne_eq, Decidable.not_not] at hb; try (exfalso; first | omega | exact hb trivial))))
      refine ⟨⟨(q + 1, l), by dsimp only; omega, rfl, by dsimp only; omega⟩, by dsimp only; omega, ?_⟩
      refine ⟨by repeat' (first | exact trivial | exact FinA.one (FinB.cell (FinC.same rfl)) | exact FinA.one (FinB.cell FinC.nil) | exact FinA.bound rfl | exact FinA.one (FinB.cell (FinC.own rfl rfl rfl rfl)) | exact FinA.one (FinB.cell (FinC.v (by first | rfl | (simp)))) | exact FinA.one (FinB.cell (FinC.ow rfl (by first | rfl | (simp)))) | exact FinA.one (FinB.agg' rfl rfl) | refine ⟨⟨_, rfl, ?_⟩, ?_⟩), by repeat' (first | exact trivial | refine ⟨⟨_, rfl, by first | rfl | (simp; done) | (simp [renO, *]; done)⟩, by first | rfl | assumption, ?_⟩), rfl⟩
    · have ht := takeW_bad hlt hl hne
      rw [hl] at hA
      dsimp only [PR.av] at hA
      rw [ht]
      simp only [if_neg hne]
      generalize ws[q] = w at *
      repeat' (first | ((first | apply o_do | apply d_do | apply d_yes rfl rfl rfl); first | exact lsc (hA) | exact lsq) | first | refine a_seq ?_ | refine a_region ?_ | refine o_nil ?_ | refine a_block ?_ | refine a_ret ?_ | refine a_exit ?_ | refine a_skip ?_ | refine a_draw mixed ?_ | refine d_nil (by kernel_rfl) ?_ | first | refine o_yes rfl rfl rfl ?_ | refine o_no rfl rfl rfl (by decide) ?_ | refine o_no' rfl rfl rfl ?_ | refine a_condT rfl ?_ | refine a_condF rfl ?_ | refine d_no rfl rfl rfl (by decide) ?_ | refine d_no' rfl rfl rfl ?_ | ((first | refine o_split_t rfl rfl rfl (fun hb => ?_) (fun hb => ?_) | refine o_split_f rfl rfl rfl (fun hb => ?_) (fun hb => ?_) | refine a_cond rfl (fun hb => ?_) (fun hb => ?_) | refine d_split rfl rfl (fun hb => ?_) (fun hb => ?_)) <;> (simp only [hb]; try simp only [decide_eq_true_eq, decide_eq_false_iff_not, Bool.not_eq_true', Bool.not_eq_false', Bool.not_eq_true, Bool.not_eq_false, ne_eq, Decidable.not_not] at hb; try (exfalso; first | omega | exact hb trivial))))
      all_goals refine ⟨by first | exact .inr rfl | exact .inl rfl, _, rfl, ?_, by repeat' (first | exact trivial | refine ⟨⟨_, rfl, by first | rfl | (simp [renO, *]; done)⟩, by first | rfl | assumption, ?_⟩)⟩
      all_goals (first | refine FinA.tup ?_ | refine FinA.one ?_); repeat' (first | exact FinBs.nil | exact FinCs.nil | refine FinBs.cons ?_ ?_ | refine FinCs.cons ?_ ?_ | refine FinB.cell (FinC.v ?_) | refine FinB.cell (FinC.own rfl rfl rfl ?_) | exact FinB.cell FinC.nil | refine FinB.cell (FinC.sl ?_) | exact FinB.agg' rfl rfl | exact FinB.cell (FinC.same rfl) | refine FinB.agg ?_ | refine FinC.v ?_ | refine FinC.own rfl rfl rfl ?_ | exact FinC.nil | refine FinC.sl ?_ | exact FinC.same rfl); all_goals try rfl
  · obtain rfl : q = ws.length := by omega
    rw [List.drop_length]
    simp only [takeW, if_true]
    repeat' (first | ((first | apply o_do | apply d_do | apply d_yes rfl rfl rfl); exact lsq) | first | refine a_seq ?_ | refine a_region ?_ | refine o_nil ?_ | refine a_block ?_ | refine a_ret ?_ | refine a_exit ?_ | refine a_skip ?_ | refine a_draw mixed ?_ | refine d_nil (by kernel_rfl) ?_ | first | refine o_yes rfl rfl rfl ?_ | refine o_no rfl rfl rfl (by decide) ?_ | refine o_no' rfl rfl rfl ?_ | refine a_condT rfl ?_ | refine a_condF rfl ?_ | refine d_no rfl rfl rfl (by decide) ?_ | refine d_no' rfl rfl rfl ?_ | ((first | refine o_split_t rfl rfl rfl (fun hb => ?_) (fun hb => ?_) | refine o_split_f rfl rfl rfl (fun hb => ?_) (fun hb => ?_) | refine a_cond rfl (fun hb => ?_) (fun hb => ?_) | refine d_split rfl rfl (fun hb => ?_) (fun hb => ?_)) <;> (simp only [hb]; try simp only [decide_eq_true_eq, decide_eq_false_iff_not, Bool.not_eq_true', Bool.not_eq_false', Bool.not_eq_true, Bool.not_eq_false, ne_eq, Decidable.not_not] at hb; try (exfalso; first | omega | exact hb trivial))))
    all_goals refine ⟨by first | exact .inr rfl | exact .inl rfl, _, rfl, ?_, by repeat' (first | exact trivial | refine ⟨⟨_, rfl, by first | rfl | (simp [renO, *]; done)⟩, by first | rfl | assumption, ?_⟩)⟩
    all_goals (first | refine FinA.tup ?_ | refine FinA.one ?_); repeat' (first | exact FinBs.nil | exact FinCs.nil | refine FinBs.cons ?_ ?_ | refine FinCs.cons ?_ ?_ | refine FinB.cell (FinC.v ?_) | refine FinB.cell (FinC.own rfl rfl rfl ?_) | exact FinB.cell FinC.nil | refine FinB.cell (FinC.sl ?_) | exact FinB.agg' rfl rfl | exact FinB.cell (FinC.same rfl) | refine FinB.agg ?_ | refine FinC.v ?_ | refine FinC.own rfl rfl rfl ?_ | exact FinC.nil | refine FinC.sl ?_ | exact FinC.same rfl); all_goals try rfl
    all_goals simp
set_option maxHeartbeats 8000000 in
set_option maxRecDepth 20000 in
theorem g_rTake (hx : ps.length ≤ 9223372036854775807) (hv : -9223372036854775808 ≤ v ∧ v ≤ 9223372036854775807) :
    PC Try.prog 52 [.agg [.v (.int .i64 g), .v (.int .i64 s), .v (.int .i64 d), .v (.int .i64 k), .v (.int .i64 fu), .v (.int .i64 li), .v (.int .i64 de), .v (.int .i64 id)], .agg [.v (.int .i64 no), .v (.int .i64 mark), .sl 6 (ps.map Pn.av)], .agg [.v (.string key), .v (.int .i64 at'), .v (.int .i64 v)]] (takeR s d k no mark ps key at' v).av := by
  have hj := g_rJob g s d k fu li de id
  have hr := g_rRight no mark ps hx
  have he := p_rEvent key at' v
  have ho := p_rOf s d at'
  have hol := winL_len s d at'
  unfold takeR
  cases hJ : jobR s d k
  · rw [hJ] at hj
    refine PC.mk (ac_body tab_ok Try.func52 rfl (by kernel_rfl) rfl ?_); intro w0 M μ0; simp only [Try.ntmps52, List.length_cons, List.length_nil, Nat.reduceAdd, Nat.reduceSub, numb]
    repeat' (first | ((first | apply o_do | apply d_do | apply d_yes rfl rfl rfl); first | exact lsc (hj) | exact lsq) | first | refine a_seq ?_ | refine a_region ?_ | refine o_nil ?_ | refine a_block ?_ | refine a_ret ?_ | refine a_exit ?_ | refine a_skip ?_ | refine a_draw mixed ?_ | refine d_nil (by kernel_rfl) ?_ | first | refine o_yes rfl rfl rfl ?_ | refine o_no rfl rfl rfl (by decide) ?_ | refine o_no' rfl rfl rfl ?_ | refine a_condT rfl ?_ | refine a_condF rfl ?_ | refine d_no rfl rfl rfl (by decide) ?_ | refine d_no' rfl rfl rfl ?_ | ((first | refine o_split_t rfl rfl rfl (fun hb => ?_) (fun hb => ?_) | refine o_split_f rfl rfl rfl (fun hb => ?_) (fun hb => ?_) | refine a_cond rfl (fun hb => ?_) (fun hb => ?_) | refine d_split rfl rfl (fun hb => ?_) (fun hb => ?_)) <;> (simp only [hb]; try simp only [decide_eq_true_eq, decide_eq_false_iff_not, Bool.not_eq_true', Bool.not_eq_false', Bool.not_eq_true, Bool.not_eq_false, ne_eq, Decidable.not_not] at hb; try (exfalso; first | omega | exact hb trivial))))
    all_goals refine ⟨by first | exact .inr rfl | exact .inl rfl, _, rfl, ?_, by repeat' (first | exact trivial | refine ⟨⟨_, rfl, by first | rfl | (simp [renO, *]; done)⟩, by first | rfl | assumption, ?_⟩)⟩
    all_goals (first | refine FinA.tup ?_ | refine FinA.one ?_); repeat' (first | exact FinBs.nil | exact FinCs.nil | refine FinBs.cons ?_ ?_ | refine FinCs.cons ?_ ?_ | refine FinB.cell (FinC.v ?_) | refine FinB.cell (FinC.own rfl rfl rfl ?_) | exact FinB.cell FinC.nil | refine FinB.cell (FinC.sl ?_) | exact FinB.agg' rfl rfl | exact FinB.cell (FinC.same rfl) | refine FinB.agg ?_ | refine FinC.v ?_ | refine FinC.own rfl rfl rfl ?_ | exact FinC.nil | refine FinC.sl ?_ | exact FinC.same rfl); all_goals try rfl
  rw [hJ] at hj
  cases hR : grR no mark ps
  · rw [hR] at hr
    refine PC.mk (ac_body tab_ok Try.func52 rfl (by kernel_rfl) rfl ?_); intro w0 M μ0; simp only [Try.ntmps52, List.length_cons, List.length_nil, Nat.reduceAdd, Nat.reduceSub, numb]
    repeat' (first | ((first | apply o_do | apply d_do | apply d_yes rfl rfl rfl); first | exact lsc (hj) | exact lsc (hr) | exact lsq) | first | refine a_seq ?_ | refine a_region ?_ | refine o_nil ?_ | refine a_block ?_ | refine a_ret ?_ | refine a_exit ?_ | refine a_skip ?_ | refine a_draw mixed ?_ | refine d_nil (by kernel_rfl) ?_ | first | refine o_yes rfl rfl rfl ?_ | refine o_no rfl rfl rfl (by decide) ?_ | refine o_no' rfl rfl rfl ?_ | refine a_condT rfl ?_ | refine a_condF rfl ?_ | refine d_no rfl rfl rfl (by decide) ?_ | refine d_no' rfl rfl rfl ?_ | ((first | refine o_split_t rfl rfl rfl (fun hb => ?_) (fun hb => ?_) | refine o_split_f rfl rfl rfl (fun hb => ?_) (fun hb => ?_) | refine a_cond rfl (fun hb => ?_) (fun hb => ?_) | refine d_split rfl rfl (fun hb => ?_) (fun hb => ?_)) <;> (simp only [hb]; try simp only [decide_eq_true_eq, decide_eq_false_iff_not, Bool.not_eq_true', Bool.not_eq_false', Bool.not_eq_true, Bool.not_eq_false, ne_eq, Decidable.not_not] at hb; try (exfalso; first | omega | exact hb trivial))))
    all_goals refine ⟨by first | exact .inr rfl | exact .inl rfl, _, rfl, ?_, by repeat' (first | exact trivial | refine ⟨⟨_, rfl, by first | rfl | (simp [renO, *]; done)⟩, by first | rfl | assumption, ?_⟩)⟩
    all_goals (first | refine FinA.tup ?_ | refine FinA.one ?_); repeat' (first | exact FinBs.nil | exact FinCs.nil | refine FinBs.cons ?_ ?_ | refine FinCs.cons ?_ ?_ | refine FinB.cell (FinC.v ?_) | refine FinB.cell (FinC.own rfl rfl rfl ?_) | exact FinB.cell FinC.nil | refine FinB.cell (FinC.sl ?_) | exact FinB.agg' rfl rfl | exact FinB.cell (FinC.same rfl) | refine FinB.agg ?_ | refine FinC.v ?_ | refine FinC.own rfl rfl rfl ?_ | exact FinC.nil | refine FinC.sl ?_ | exact FinC.same rfl); all_goals try rfl
  rw [hR] at hr
  cases hE : evR key at'
  · rw [hE] at he
    refine PC.mk (ac_body tab_ok Try.func52 rfl (by kernel_rfl) rfl ?_); intro w0 M μ0; simp only [Try.ntmps52, List.length_cons, List.length_nil, Nat.reduceAdd, Nat.reduceSub, numb]
    repeat' (first | ((first | apply o_do | apply d_do | apply d_yes rfl rfl rfl); first | exact lsc (hj) | exact lsc (hr) | exact lsc (he) | exact lsq) | first | refine a_seq ?_ | refine a_region ?_ | refine o_nil ?_ | refine a_block ?_ | refine a_ret ?_ | refine a_exit ?_ | refine a_skip ?_ | refine a_draw mixed ?_ | refine d_nil (by kernel_rfl) ?_ | first | refine o_yes rfl rfl rfl ?_ | refine o_no rfl rfl rfl (by decide) ?_ | refine o_no' rfl rfl rfl ?_ | refine a_condT rfl ?_ | refine a_condF rfl ?_ | refine d_no rfl rfl rfl (by decide) ?_ | refine d_no' rfl rfl rfl ?_ | ((first | refine o_split_t rfl rfl rfl (fun hb => ?_) (fun hb => ?_) | refine o_split_f rfl rfl rfl (fun hb => ?_) (fun hb => ?_) | refine a_cond rfl (fun hb => ?_) (fun hb => ?_) | refine d_split rfl rfl (fun hb => ?_) (fun hb => ?_)) <;> (simp only [hb]; try simp only [decide_eq_true_eq, decide_eq_false_iff_not, Bool.not_eq_true', Bool.not_eq_false', Bool.not_eq_true, Bool.not_eq_false, ne_eq, Decidable.not_not] at hb; try (exfalso; first | omega | exact hb trivial))))
    all_goals refine ⟨by first | exact .inr rfl | exact .inl rfl, _, rfl, ?_, by repeat' (first | exact trivial | refine ⟨⟨_, rfl, by first | rfl | (simp [renO, *]; done)⟩, by first | rfl | assumption, ?_⟩)⟩
    all_goals (first | refine FinA.tup ?_ | refine FinA.one ?_); repeat' (first | exact FinBs.nil | exact FinCs.nil | refine FinBs.cons ?_ ?_ | refine FinCs.cons ?_ ?_ | refine FinB.cell (FinC.v ?_) | refine FinB.cell (FinC.own rfl rfl rfl ?_) | exact FinB.cell FinC.nil | refine FinB.cell (FinC.sl ?_) | exact FinB.agg' rfl rfl | exact FinB.cell (FinC.same rfl) | refine FinB.agg ?_ | refine FinC.v ?_ | refine FinC.own rfl rfl rfl ?_ | exact FinC.nil | refine FinC.sl ?_ | exact FinC.same rfl); all_goals try rfl
  rw [hE] at he
  simp only [Bool.and_self, if_false, Bool.true_eq_false]
  unfold openL
  generalize winL s d at' = ws at *
  refine PC.mk (ac_body tab_ok Try.func52 rfl (by kernel_rfl) rfl ?_); intro w0 M μ0; simp only [Try.ntmps52, List.length_cons, List.length_nil, Nat.reduceAdd, Nat.reduceSub, numb]
  repeat' (first | ((first | apply o_do | apply d_do | apply d_yes rfl rfl rfl); first | exact lsc (hj) | exact lsc (hr) | exact lsc (he) | exact lsc (ho) | exact lsq) | first | refine a_seq ?_ | refine a_region ?_ | refine o_nil ?_ | refine a_block ?_ | refine a_ret ?_ | refine a_exit ?_ | refine a_skip ?_ | refine a_draw mixed ?_ | refine d_nil (by kernel_rfl) ?_ | first | refine o_yes rfl rfl rfl ?_ | refine o_no rfl rfl rfl (by decide) ?_ | refine o_no' rfl rfl rfl ?_ | refine a_condT rfl ?_ | refine a_condF rfl ?_ | refine d_no rfl rfl rfl (by decide) ?_ | refine d_no' rfl rfl rfl ?_ | ((first | refine o_split_t rfl rfl rfl (fun hb => ?_) (fun hb => ?_) | refine o_split_f rfl rfl rfl (fun hb => ?_) (fun hb => ?_) | refine a_cond rfl (fun hb => ?_) (fun hb => ?_) | refine d_split rfl rfl (fun hb => ?_) (fun hb => ?_)) <;> (simp only [hb]; try simp only [decide_eq_true_eq, decide_eq_false_iff_not, Bool.not_eq_true', Bool.not_eq_false', Bool.not_eq_true, Bool.not_eq_false, ne_eq, Decidable.not_not] at hb; try (exfalso; first | omega | exact hb trivial))))
  refine a_loop (X := {x : Nat × List Pn // x.1 ≤ ws.length ∧ takeW k key v ps (openW mark ws) = takeW k key v x.2 (openW mark (ws.drop x.1)) ∧ x.2.length ≤ 9223372036854775807}) (fun x => ⟨[(3, .ref 0 0), (4, .ref 1 0), (5, .ref 2 0), (6, .ref 3 0), (9, .v (.int .i64 (openW mark (ws.take x.1.1)).length)), (33, .sl 2 (ws.map Wn.av)), (34, .v (.int .i64 ws.length)), (35, .v (.int .i64 x.1.1))], [(0, .box 23 [.v (.int .i64 g), .v (.int .i64 s), .v (.int .i64 d), .v (.int .i64 k), .v (.int .i64 fu), .v (.int .i64 li), .v (.int .i64 de), .v (.int .i64 id)]), (1, .box 26 [.v (.int .i64 no), .v (.int .i64 mark), .sl 6 (x.1.2.map Pn.av)]), (2, .box 79 [.v (.string key), .v (.int .i64 at'), .v (.int .i64 v)]), (3, .box 26 [.v (.int .i64 0), .v (.int .i64 0), .v (.slice none 0 0)])]⟩) (fun x => ws.length - x.1.1) ⟨(0, ps), Nat.zero_le _, rfl, hx⟩ ?_ ?_
  · refine ⟨by repeat' (first | exact trivial | exact FinA.one (FinB.cell (FinC.same rfl)) | exact FinA.one (FinB.cell FinC.nil) | exact FinA.bound rfl | exact FinA.one (FinB.cell (FinC.own rfl rfl rfl rfl)) | exact FinA.one (FinB.cell (FinC.v (by first | rfl | (simp [openW])))) | exact FinA.one (FinB.cell (FinC.ow rfl (by first | rfl | (simp [openW])))) | exact FinA.one (FinB.agg' rfl rfl) | refine ⟨⟨_, rfl, ?_⟩, ?_⟩), by repeat' (first | exact trivial | refine ⟨⟨_, rfl, by first | rfl | (simp [openW]; done) | (simp [renO, *]; done)⟩, by first | rfl | assumption, ?_⟩), rfl⟩
  rintro ⟨⟨q, cur⟩, hq, htk, hc⟩
  dsimp only at hq htk hc ⊢
  rw [htk]
  have hln : (openW mark (ws.take q)).length ≤ 16 := by
    have h1 : (openW mark (ws.take q)).length ≤ (ws.take q).length := List.length_filter_le _ _
    rw [List.length_take] at h1
    omega
  by_cases hlt : q < ws.length
  · have hel : (ws.map Wn.av)[q]? = some (Wn.av ws[q]) := by simp [hlt]
    have hA := p_rAdd cur k key ws[q].lo ws[q].hi v hc hv
    have hdr := List.drop_eq_getElem_cons hlt
    have hsn := take_snoc ws q hlt
    by_cases hcl : ws[q].hi ≤ mark
    · have hw : closedW mark ws[q] = true := by simpa [closedW] using hcl
      have e1 : openW mark (ws.drop q) = openW mark (ws.drop (q + 1)) := by unfold openW; rw [hdr, List.filter_cons_of_neg (by simp [hw])]
      have e2 : openW mark (ws.take (q + 1)) = openW mark (ws.take q) := by rw [hsn, openW_snoc, if_pos hw, List.append_nil]
      rw [e1]
      generalize ws[q] = w at *
      repeat' (first | ((first | apply o_do | apply d_do | apply d_yes rfl rfl rfl); first | exact lsc (hA) | exact lsq) | first | refine a_seq ?_ | refine a_region ?_ | refine o_nil ?_ | refine a_block ?_ | refine a_ret ?_ | refine a_exit ?_ | refine a_skip ?_ | refine a_draw mixed ?_ | refine d_nil (by kernel_rfl) ?_ | first | refine o_yes rfl rfl rfl ?_ | refine o_no rfl rfl rfl (by decide) ?_ | refine o_no' rfl rfl rfl ?_ | refine a_condT rfl ?_ | refine a_condF rfl ?_ | refine d_no rfl rfl rfl (by decide) ?_ | refine d_no' rfl rfl rfl ?_ | ((first | refine o_split_t rfl rfl rfl (fun hb => ?_) (fun hb => ?_) | refine o_split_f rfl rfl rfl (fun hb => ?_) (fun hb => ?_) | refine a_cond rfl (fun hb => ?_) (fun hb => ?_) | refine d_split rfl rfl (fun hb => ?_) (fun hb => ?_)) <;> (simp only [hb]; try simp only [decide_eq_true_eq, decide_eq_false_iff_not, Bool.not_eq_true', Bool.not_eq_false', Bool.not_eq_true, Bool.not_eq_false, ne_eq, Decidable.not_not] at hb; try (exfalso; first | omega | exact hb trivial))))
      refine ⟨⟨(q + 1, cur), by dsimp only; omega, rfl, hc⟩, by dsimp only; omega, ?_⟩
      refine ⟨by repeat' (first | exact trivial | exact FinA.one (FinB.cell (FinC.same rfl)) | exact FinA.one (FinB.cell FinC.nil) | exact FinA.bound rfl | exact FinA.one (FinB.cell (FinC.own rfl rfl rfl rfl)) | exact FinA.one (FinB.cell (FinC.v (by first | rfl | ((first | (simp [e2]; done) | simp))))) | exact FinA.one (FinB.cell (FinC.ow rfl (by first | rfl | ((first | (simp [e2]; done) | simp))))) | exact FinA.one (FinB.agg' rfl rfl) | refine ⟨⟨_, rfl, ?_⟩, ?_⟩), by repeat' (first | exact trivial | refine ⟨⟨_, rfl, by first | rfl | ((first | (simp [e2]; done) | simp); done) | (simp [renO, *]; done)⟩, by first | rfl | assumption, ?_⟩), rfl⟩
    · have hw : closedW mark ws[q] = false := by simp [closedW]; omega
      have e1 : openW mark (ws.drop q) = ws[q] :: openW mark (ws.drop (q + 1)) := by unfold openW; rw [hdr, List.filter_cons_of_pos (by simp [hw])]
      have e2 : openW mark (ws.take (q + 1)) = openW mark (ws.take q) ++ [ws[q]] := by rw [hsn, openW_snoc, hw]; simp
      rcases addR_form k cur (oneP k ws[q].lo ws[q].hi key v) with ⟨l, hl, hll⟩ | ⟨e, hl, hne⟩
      · have ht : takeW k key v cur (openW mark (ws.drop q)) = takeW k key v l (openW mark (ws.drop (q + 1))) := by rw [e1, takeW, hl]; simp
        rw [hl] at hA
        dsimp only [PR.av] at hA
        rw [ht]
        generalize ws[q] = w at *
        repeat' (first | ((first | apply o_do | apply d_do | apply d_yes rfl rfl rfl); first | exact lsc (hA) | exact lsq) | first | refine a_seq ?_ | refine a_region ?_ | refine o_nil ?_ | refine a_block ?_ | refine a_ret ?_ | refine a_exit ?_ | refine a_skip ?_ | refine a_draw mixed ?_ | refine d_nil (by kernel_rfl) ?_ | first | refine o_yes rfl rfl rfl ?_ | refine o_no rfl rfl rfl (by decide) ?_ | refine o_no' rfl rfl rfl ?_ | refine a_condT rfl ?_ | refine a_condF rfl ?_ | refine d_no rfl rfl rfl (by decide) ?_ | refine d_no' rfl rfl rfl ?_ | ((first | refine o_split_t rfl rfl rfl (fun hb => ?_) (fun hb => ?_) | refine o_split_f rfl rfl rfl (fun hb => ?_) (fun hb => ?_) | refine a_cond rfl (fun hb => ?_) (fun hb => ?_) | refine d_split rfl rfl (fun hb => ?_) (fun hb => ?_)) <;> (simp only [hb]; try simp only [decide_eq_true_eq, decide_eq_false_iff_not, Bool.not_eq_true', Bool.not_eq_false', Bool.not_eq_true, Bool.not_eq_false, ne_eq, Decidable.not_not] at hb; try (exfalso; first | omega | exact hb trivial))))
        refine ⟨⟨(q + 1, l), by dsimp only; omega, rfl, by dsimp only; omega⟩, by dsimp only; omega, ?_⟩
        refine ⟨by repeat' (first | exact trivial | exact FinA.one (FinB.cell (FinC.same rfl)) | exact FinA.one (FinB.cell FinC.nil) | exact FinA.bound rfl | exact FinA.one (FinB.cell (FinC.own rfl rfl rfl rfl)) | exact FinA.one (FinB.cell (FinC.v (by first | rfl | ((first | (simp [e2]; done) | simp))))) | exact FinA.one (FinB.cell (FinC.ow rfl (by first | rfl | ((first | (simp [e2]; done) | simp))))) | exact FinA.one (FinB.agg' rfl rfl) | refine ⟨⟨_, rfl, ?_⟩, ?_⟩), by repeat' (first | exact trivial | refine ⟨⟨_, rfl, by first | rfl | ((first | (simp [e2]; done) | simp); done) | (simp [renO, *]; done)⟩, by first | rfl | assumption, ?_⟩), rfl⟩
      · have ht : takeW k key v cur (openW mark (ws.drop q)) = ([], e) := by rw [e1, takeW, hl]; simp [hne]
        rw [hl] at hA
        dsimp only [PR.av] at hA
        rw [ht]
        simp only [if_neg hne]
        generalize ws[q] = w at *
        repeat' (first | ((first | apply o_do | apply d_do | apply d_yes rfl rfl rfl); first | exact lsc (hA) | exact lsq) | first | refine a_seq ?_ | refine a_region ?_ | refine o_nil ?_ | refine a_block ?_ | refine a_ret ?_ | refine a_exit ?_ | refine a_skip ?_ | refine a_draw mixed ?_ | refine d_nil (by kernel_rfl) ?_ | first | refine o_yes rfl rfl rfl ?_ | refine o_no rfl rfl rfl (by decide) ?_ | refine o_no' rfl rfl rfl ?_ | refine a_condT rfl ?_ | refine a_condF rfl ?_ | refine d_no rfl rfl rfl (by decide) ?_ | refine d_no' rfl rfl rfl ?_ | ((first | refine o_split_t rfl rfl rfl (fun hb => ?_) (fun hb => ?_) | refine o_split_f rfl rfl rfl (fun hb => ?_) (fun hb => ?_) | refine a_cond rfl (fun hb => ?_) (fun hb => ?_) | refine d_split rfl rfl (fun hb => ?_) (fun hb => ?_)) <;> (simp only [hb]; try simp only [decide_eq_true_eq, decide_eq_false_iff_not, Bool.not_eq_true', Bool.not_eq_false', Bool.not_eq_true, Bool.not_eq_false, ne_eq, Decidable.not_not] at hb; try (exfalso; first | omega | exact hb trivial))))
        all_goals refine ⟨by first | exact .inr rfl | exact .inl rfl, _, rfl, ?_, by repeat' (first | exact trivial | refine ⟨⟨_, rfl, by first | rfl | (simp [renO, *]; done)⟩, by first | rfl | assumption, ?_⟩)⟩
        all_goals (first | refine FinA.tup ?_ | refine FinA.one ?_); repeat' (first | exact FinBs.nil | exact FinCs.nil | refine FinBs.cons ?_ ?_ | refine FinCs.cons ?_ ?_ | refine FinB.cell (FinC.v ?_) | refine FinB.cell (FinC.own rfl rfl rfl ?_) | exact FinB.cell FinC.nil | refine FinB.cell (FinC.sl ?_) | exact FinB.agg' rfl rfl | exact FinB.cell (FinC.same rfl) | refine FinB.agg ?_ | refine FinC.v ?_ | refine FinC.own rfl rfl rfl ?_ | exact FinC.nil | refine FinC.sl ?_ | exact FinC.same rfl); all_goals try rfl
  · obtain rfl : q = ws.length := by omega
    rw [List.drop_length, List.take_length]
    rw [show openW mark [] = [] from rfl]
    simp only [takeW, if_true]
    repeat' (first | ((first | apply o_do | apply d_do | apply d_yes rfl rfl rfl); exact lsq) | first | refine a_seq ?_ | refine a_region ?_ | refine o_nil ?_ | refine a_block ?_ | refine a_ret ?_ | refine a_exit ?_ | refine a_skip ?_ | refine a_draw mixed ?_ | refine d_nil (by kernel_rfl) ?_ | first | refine o_yes rfl rfl rfl ?_ | refine o_no rfl rfl rfl (by decide) ?_ | refine o_no' rfl rfl rfl ?_ | refine a_condT rfl ?_ | refine a_condF rfl ?_ | refine d_no rfl rfl rfl (by decide) ?_ | refine d_no' rfl rfl rfl ?_ | ((first | refine o_split_t rfl rfl rfl (fun hb => ?_) (fun hb => ?_) | refine o_split_f rfl rfl rfl (fun hb => ?_) (fun hb => ?_) | refine a_cond rfl (fun hb => ?_) (fun hb => ?_) | refine d_split rfl rfl (fun hb => ?_) (fun hb => ?_)) <;> (simp only [hb]; try simp only [decide_eq_true_eq, decide_eq_false_iff_not, Bool.not_eq_true', Bool.not_eq_false', Bool.not_eq_true, Bool.not_eq_false, ne_eq, Decidable.not_not] at hb; try (exfalso; first | omega | exact hb trivial))))
    all_goals refine ⟨by first | exact .inr rfl | exact .inl rfl, _, rfl, ?_, by repeat' (first | exact trivial | refine ⟨⟨_, rfl, by first | rfl | (simp [renO, *]; done)⟩, by first | rfl | assumption, ?_⟩)⟩
    all_goals (first | refine FinA.tup ?_ | refine FinA.one ?_); repeat' (first | exact FinBs.nil | exact FinCs.nil | refine FinBs.cons ?_ ?_ | refine FinCs.cons ?_ ?_ | refine FinB.cell (FinC.v ?_) | refine FinB.cell (FinC.own rfl rfl rfl ?_) | exact FinB.cell FinC.nil | refine FinB.cell (FinC.sl ?_) | exact FinB.agg' rfl rfl | exact FinB.cell (FinC.same rfl) | refine FinB.agg ?_ | refine FinC.v ?_ | refine FinC.own rfl rfl rfl ?_ | exact FinC.nil | refine FinC.sl ?_ | exact FinC.same rfl); all_goals try rfl
end
end Go.Proofs.Ytimlkhbedhjehaa
namespace Go.Proofs.Ytimlkhbedhjehaa
open Go.RowKit
set_option linter.unusedSimpArgs false
set_option linter.unusedVariables false
theorem takeR_le (s d k no mark : Int) (ps : List Pn) (key : ByteArray) (at' v : Int) (hx : ps.length ≤ 9223372036854775807) : (takeR s d k no mark ps key at' v).ps.length ≤ 9223372036854775807 := by
  have h := takeW_le (k := k) (key := key) (v := v) (ws := openL s d at' mark) hx
  unfold takeR
  repeat' split
  all_goals simp only [List.length_nil]
  all_goals omega
section
variable (g s d k fu li de id no mark : Int) (ps : List Pn) (key : ByteArray) (at' v : Int)
set_option maxHeartbeats 8000000 in
set_option maxRecDepth 20000 in
theorem g_takes (hx : ps.length ≤ 9223372036854775807) (hv : -9223372036854775808 ≤ v ∧ v ≤ 9223372036854775807) :
    PC Try.prog 14 [.agg [.v (.int .i64 g), .v (.int .i64 s), .v (.int .i64 d), .v (.int .i64 k), .v (.int .i64 fu), .v (.int .i64 li), .v (.int .i64 de), .v (.int .i64 id)], .agg [.v (.int .i64 no), .v (.int .i64 mark), .sl 6 (ps.map Pn.av)], .agg [.v (.string key), .v (.int .i64 at'), .v (.int .i64 v)]] (.v (.bool true)) := by
  have hf := g_few no mark ps hx
  have hx1 := Nat.le_trans (fewL_le ps) hx
  generalize fewL ps = qs at *
  have h1 := g_Take g s d k fu li de id no mark qs key at' v hx1
  have h2 := g_rTake g s d k fu li de id no mark qs key at' v hx1 hv
  have h3 := g_Job g s d k fu li de id
  have h4 := g_rJob g s d k fu li de id
  have h5 := g_Right no mark qs hx1
  have h6 := g_rRight no mark qs hx1
  have hle := takeR_le s d k no mark qs key at' v hx1
  have h8 := g_alive
  generalize takeR s d k no mark qs key at' v = r at *
  obtain ⟨no', mark', A, n, e⟩ := r
  have h7 := g_Like no' mark' A hle
  dsimp only [TkR.av] at h1 h2
  cases hj : jobR s d k <;> cases hr : grR no mark qs
  all_goals
    rw [hj] at h3 h4
    rw [hr] at h5 h6
    refine PC.mk (ac_body tab_ok Try.func14 rfl (by kernel_rfl) rfl ?_); intro w0 M μ0; simp only [Try.ntmps14, List.length_cons, List.length_nil, Nat.reduceAdd, Nat.reduceSub, numb]
    repeat' (first | ((first | apply o_do | apply d_do | apply d_yes rfl rfl rfl); first | exact lsc (hf) | exact lsc (h1) | exact lsc (h2) | exact lsc (h3) | exact lsc (h4) | exact lsc (h5) | exact lsc (h6) | exact lsc (h7) | exact lsc (h8) | exact lsq) | first | refine a_seq ?_ | refine a_region ?_ | refine o_nil ?_ | refine a_block ?_ | refine a_ret ?_ | refine a_exit ?_ | refine a_skip ?_ | refine a_draw mixed ?_ | refine d_nil (by kernel_rfl) ?_ | first | refine o_yes rfl rfl rfl ?_ | refine o_no rfl rfl rfl (by decide) ?_ | refine o_no' rfl rfl rfl ?_ | refine a_condT rfl ?_ | refine a_condF rfl ?_ | refine d_no rfl rfl rfl (by decide) ?_ | refine d_no' rfl rfl rfl ?_ | ((first | refine o_split_t rfl rfl rfl (fun hb => ?_) (fun hb => ?_) | refine o_split_f rfl rfl rfl (fun hb => ?_) (fun hb => ?_) | refine a_cond rfl (fun hb => ?_) (fun hb => ?_) | refine d_split rfl rfl (fun hb => ?_) (fun hb => ?_)) <;> (simp only [hb]; try simp only [decide_eq_true_eq, decide_eq_false_iff_not, Bool.not_eq_true', Bool.not_eq_false', Bool.not_eq_true, Bool.not_eq_false, ne_eq, Decidable.not_not] at hb; try (exfalso; first | omega | exact hb trivial))))
    all_goals refine ⟨by first | exact .inr rfl | exact .inl rfl, _, rfl, ?_, by repeat' (first | exact trivial | refine ⟨⟨_, rfl, by first | rfl | (simp [renO, *]; done)⟩, by first | rfl | assumption, ?_⟩)⟩
    all_goals (first | refine FinA.tup ?_ | refine FinA.one ?_); repeat' (first | exact FinBs.nil | exact FinCs.nil | refine FinBs.cons ?_ ?_ | refine FinCs.cons ?_ ?_ | refine FinB.cell (FinC.v ?_) | refine FinB.cell (FinC.own rfl rfl rfl ?_) | exact FinB.cell FinC.nil | refine FinB.cell (FinC.sl ?_) | exact FinB.agg' rfl rfl | exact FinB.cell (FinC.same rfl) | refine FinB.agg ?_ | refine FinC.v ?_ | refine FinC.own rfl rfl rfl ?_ | exact FinC.nil | refine FinC.sl ?_ | exact FinC.same rfl); all_goals try rfl
    all_goals simp
end
end Go.Proofs.Ytimlkhbedhjehaa
