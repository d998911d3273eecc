/-
  Plans: events, acts, inputs; whether any is bad, walked over abstract values. Printed by gen_sca.py.
-/
import Derived.Test.YtbhblhcgfenobaaGreatDoorK4
import Derived.Test.YtbhblhcgfenobaaGreatDoorK5
namespace Go.Proofs.YtbhblhcgfenobaaGreatDoor
open Go.RowKit
set_option linter.unusedSimpArgs false
set_option linter.unusedVariables false
structure Et where
  key : ByteArray
  at' : Int
  v : Int
def Et.av (e : Et) : List AV := [.v (.string e.key), .v (.int .i64 e.at'), .v (.int .i64 e.v)]
structure Ac where
  what : Int
  who : Int
  which : Int
def Ac.av (a : Ac) : List AV := [.v (.int .i64 a.what), .v (.int .i64 a.who), .v (.int .i64 a.which)]
def inAv (es : List Et) : List AV := [.sl 3 (es.map Et.av)]
def evR (key : ByteArray) (at' : Int) : Bool := keyB key && (decide (0 ≤ at') && decide (at' < 1099511627776))
def okEs (es : List Et) : Bool := decide (es.length ≤ 200) && es.all fun e => evR e.key e.at'
def okIn (ls : List (List Et)) : Bool := decide (1 ≤ ls.length) && (decide (ls.length ≤ 4) && ls.all okEs)
def Small (ls : List (List Et)) : Prop := ls.length ≤ 9223372036854775807 ∧ ∀ es ∈ ls, es.length ≤ 9223372036854775807
theorem any_first {α : Type} (p : α → Bool) (l : List α) : (l.any p = false) ∨ ∃ q, ∃ h : q < l.length, (∀ j (hj : j < l.length), j < q → p l[j] = false) ∧ p l[q] = true := by
  induction l with
  | nil => exact .inl rfl
  | cons x l ih =>
    cases hx : p x
    · rcases ih with h | ⟨q, hq, h1, h2⟩
      · exact .inl (by simp [hx]; simpa using h)
      · refine .inr ⟨q + 1, by simp; omega, fun j hj hjq => ?_, by simpa using h2⟩
        cases j with
        | zero => simpa using hx
        | succ j => simpa using h1 j (by simpa using hj) (by omega)
    · exact .inr ⟨0, by simp, fun j hj h => absurd h (Nat.not_lt_zero _), by simpa using hx⟩
theorem p_ikey (k : ByteArray) : PC Tryz.prog 93 [.v (.string k)] (.v (.bool (keyB k))) := by
  refine PC.mk (ac_body tab_ok Tryz.func93 rfl (by kernel_rfl) rfl ?_); intro w0 M μ0; simp only [Tryz.ntmps93, List.length_cons, List.length_nil, Nat.reduceAdd, Nat.reduceSub, numb]
  repeat' (first | ((first | apply o_do | apply d_do | apply d_yes rfl rfl rfl); exact lsq) | refine a_seq ?_ | refine a_region ?_ | refine o_nil ?_ | refine a_block ?_ | refine a_ret ?_ | refine a_exit ?_ | refine a_skip ?_ | refine a_draw mixed ?_ | refine d_nil (by kernel_rfl) ?_ | refine o_yes rfl rfl rfl ?_ | refine o_no rfl rfl rfl (by decide) ?_ | refine o_no' rfl rfl rfl ?_ | refine a_condT rfl ?_ | refine a_condF rfl ?_ | refine d_no rfl rfl rfl (by decide) ?_ | refine d_no' rfl rfl rfl ?_ | (refine wq2 (fun hb => ?_) (fun hb => ?_) <;> (simp only [hb]; try simp only [hbs, ne_eq] at hb; try (exfalso; first | omega | exact hb trivial))) | fail)
  all_goals refine rq rfl ?_
  all_goals (first | refine FinA.tup ?_ | refine FinA.one ?_); repeat' (first | exact FinBs.nil | exact FinCs.nil | refine FinBs.cons ?_ ?_ | refine FinCs.cons ?_ ?_ | refine FinB.cell (FinC.v ?_) | refine FinB.cell (FinC.own rfl rfl rfl ?_) | exact FinB.cell FinC.nil | refine FinB.cell (FinC.sl ?_) | exact FinB.agg' rfl rfl | exact FinB.cell (FinC.same rfl) | refine FinB.agg ?_ | refine FinC.v ?_ | refine FinC.own rfl rfl rfl ?_ | exact FinC.nil | refine FinC.sl ?_ | exact FinC.same rfl); all_goals try rfl
  all_goals simp only [bytes_nil', decide_eq_true_eq, decide_eq_false_iff_not] at *
  all_goals simp [keyB_int, *]
  all_goals try omega
theorem p_Event (key : ByteArray) (at' v : Int) : PC Tryz.prog 65 [.agg [.v (.string key), .v (.int .i64 at'), .v (.int .i64 v)]] (.v (.bool (evR key at'))) := by
  have h := p_ikey key
  unfold evR
  cases hk : keyB key
  all_goals
    rw [hk] at h
    refine PC.mk (ac_body tab_ok Tryz.func65 rfl (by kernel_rfl) rfl ?_); intro w0 M μ0; simp only [Tryz.ntmps65, List.length_cons, List.length_nil, Nat.reduceAdd, Nat.reduceSub, numb]
    repeat' (first | ((first | apply o_do | apply d_do | apply d_yes rfl rfl rfl); first | exact lsc (h) | exact lsq) | refine a_seq ?_ | refine a_region ?_ | refine o_nil ?_ | refine a_block ?_ | refine a_ret ?_ | refine a_exit ?_ | refine a_skip ?_ | refine a_draw mixed ?_ | refine d_nil (by kernel_rfl) ?_ | refine o_yes rfl rfl rfl ?_ | refine o_no rfl rfl rfl (by decide) ?_ | refine o_no' rfl rfl rfl ?_ | refine a_condT rfl ?_ | refine a_condF rfl ?_ | refine d_no rfl rfl rfl (by decide) ?_ | refine d_no' rfl rfl rfl ?_ | (refine wq2 (fun hb => ?_) (fun hb => ?_) <;> (simp only [hb]; try simp only [hbs, ne_eq] at hb; try (exfalso; first | omega | exact hb trivial))) | fail)
    all_goals refine rq rfl ?_
    all_goals (first | refine FinA.tup ?_ | refine FinA.one ?_); repeat' (first | exact FinBs.nil | exact FinCs.nil | refine FinBs.cons ?_ ?_ | refine FinCs.cons ?_ ?_ | refine FinB.cell (FinC.v ?_) | refine FinB.cell (FinC.own rfl rfl rfl ?_) | exact FinB.cell FinC.nil | refine FinB.cell (FinC.sl ?_) | exact FinB.agg' rfl rfl | exact FinB.cell (FinC.same rfl) | refine FinB.agg ?_ | refine FinC.v ?_ | refine FinC.own rfl rfl rfl ?_ | exact FinC.nil | refine FinC.sl ?_ | exact FinC.same rfl); all_goals try rfl
    all_goals simp [*]
theorem p_rEvent (key : ByteArray) (at' v : Int) : PC Tryz.prog 88 [.agg [.v (.string key), .v (.int .i64 at'), .v (.int .i64 v)]] (.v (.bool (evR key at'))) := by
  have h := p_Key key
  unfold evR
  cases hk : keyB key
  all_goals
    rw [hk] at h
    refine PC.mk (ac_body tab_ok Tryz.func88 rfl (by kernel_rfl) rfl ?_); intro w0 M μ0; simp only [Tryz.ntmps88, List.length_cons, List.length_nil, Nat.reduceAdd, Nat.reduceSub, numb]
    repeat' (first | ((first | apply o_do | apply d_do | apply d_yes rfl rfl rfl); first | exact lsc (h) | exact lsq) | refine a_seq ?_ | refine a_region ?_ | refine o_nil ?_ | refine a_block ?_ | refine a_ret ?_ | refine a_exit ?_ | refine a_skip ?_ | refine a_draw mixed ?_ | refine d_nil (by kernel_rfl) ?_ | refine o_yes rfl rfl rfl ?_ | refine o_no rfl rfl rfl (by decide) ?_ | refine o_no' rfl rfl rfl ?_ | refine a_condT rfl ?_ | refine a_condF rfl ?_ | refine d_no rfl rfl rfl (by decide) ?_ | refine d_no' rfl rfl rfl ?_ | (refine wq2 (fun hb => ?_) (fun hb => ?_) <;> (simp only [hb]; try simp only [hbs, ne_eq] at hb; try (exfalso; first | omega | exact hb trivial))) | fail)
    all_goals refine rq rfl ?_
    all_goals (first | refine FinA.tup ?_ | refine FinA.one ?_); repeat' (first | exact FinBs.nil | exact FinCs.nil | refine FinBs.cons ?_ ?_ | refine FinCs.cons ?_ ?_ | refine FinB.cell (FinC.v ?_) | refine FinB.cell (FinC.own rfl rfl rfl ?_) | exact FinB.cell FinC.nil | refine FinB.cell (FinC.sl ?_) | exact FinB.agg' rfl rfl | exact FinB.cell (FinC.same rfl) | refine FinB.agg ?_ | refine FinC.v ?_ | refine FinC.own rfl rfl rfl ?_ | exact FinC.nil | refine FinC.sl ?_ | exact FinC.same rfl); all_goals try rfl
    all_goals simp [*]
set_option maxHeartbeats 1000000 in
theorem p_IdxE (f : Nat) (p : Et → Bool) (es : List (Et)) (hx : es.length ≤ 9223372036854775807) (hf : ∀ e ∈ es, PC Tryz.prog f [.agg (Et.av e)] (.v (.bool (p e)))) : ∃ i : Int, (decide (0 ≤ i) = es.any p) ∧ PC Tryz.prog 66 [.sl 3 (es.map Et.av), .clo (.func f) [] []] (.v (.int .i64 i)) := by
  have hml : (es.map Et.av).length = es.length := List.length_map _
  rcases any_first p es with hall | ⟨q0, hq0, h1, h2⟩
  · refine ⟨-1, by rw [hall]; rfl, ?_⟩
    refine PC.mk (ac_body tab_ok Tryz.func66 rfl (by kernel_rfl) rfl ?_); intro w0 M μ0; simp only [Tryz.ntmps66, List.length_cons, List.length_nil, Nat.reduceAdd, Nat.reduceSub, numb]
    repeat' (first | ((first | apply o_do | apply d_do | apply d_yes rfl rfl rfl); exact lsq) | refine a_seq ?_ | refine a_region ?_ | refine o_nil ?_ | refine a_block ?_ | refine a_ret ?_ | refine a_exit ?_ | refine a_skip ?_ | refine a_draw mixed ?_ | refine d_nil (by kernel_rfl) ?_ | refine o_yes rfl rfl rfl ?_ | refine o_no rfl rfl rfl (by decide) ?_ | refine o_no' rfl rfl rfl ?_ | refine a_condT rfl ?_ | refine a_condF rfl ?_ | refine d_no rfl rfl rfl (by decide) ?_ | refine d_no' rfl rfl rfl ?_ | (refine wq2 (fun hb => ?_) (fun hb => ?_) <;> (simp only [hb]; try simp only [hbs, ne_eq] at hb; try (exfalso; first | omega | exact hb trivial))) | fail)
    refine a_loop (X := {q : Nat // q ≤ es.length}) (fun x => ⟨[(0, .sl 3 (es.map Et.av)), (1, .clo (.func f) [] []), (7, .v (.int .i64 es.length)), (8, .v (.int .i64 x.1))], []⟩) (fun x => es.length - x.1) ⟨0, Nat.zero_le _⟩ ?_ ?_
    · exact wkS
    rintro ⟨q, hq⟩
    dsimp only
    by_cases hlt : q < es.length
    · have hel : (es.map Et.av)[q]? = some (Et.av es[q]) := by simp [hlt]
      have hbd := hf es[q] (List.getElem_mem hlt)
      rw [show p es[q] = false from by simpa using List.any_eq_false.1 hall _ (List.getElem_mem hlt)] at hbd
      generalize es[q] = x at *
      repeat' (first | ((first | apply o_do | apply d_do | apply d_yes rfl rfl rfl); first | exact lsc (hbd) | exact ls_indexAddr_sl tab_ok rfl rfl rfl rfl hel rfl | exact lsq) | refine a_seq ?_ | refine a_region ?_ | refine o_nil ?_ | refine a_block ?_ | refine a_ret ?_ | refine a_exit ?_ | refine a_skip ?_ | refine a_draw mixed ?_ | refine d_nil (by kernel_rfl) ?_ | refine o_yes rfl rfl rfl ?_ | refine o_no rfl rfl rfl (by decide) ?_ | refine o_no' rfl rfl rfl ?_ | refine a_condT rfl ?_ | refine a_condF rfl ?_ | refine d_no rfl rfl rfl (by decide) ?_ | refine d_no' rfl rfl rfl ?_ | (refine wq2 (fun hb => ?_) (fun hb => ?_) <;> (simp only [hb]; try simp only [hbs, ne_eq] at hb; try (exfalso; first | omega | exact hb trivial))) | fail)
      refine ⟨⟨q + 1, by omega⟩, by dsimp only; omega, ?_⟩
      exact wkS
    · repeat' (first | ((first | apply o_do | apply d_do | apply d_yes rfl rfl rfl); exact lsq) | refine a_seq ?_ | refine a_region ?_ | refine o_nil ?_ | refine a_block ?_ | refine a_ret ?_ | refine a_exit ?_ | refine a_skip ?_ | refine a_draw mixed ?_ | refine d_nil (by kernel_rfl) ?_ | refine o_yes rfl rfl rfl ?_ | refine o_no rfl rfl rfl (by decide) ?_ | refine o_no' rfl rfl rfl ?_ | refine a_condT rfl ?_ | refine a_condF rfl ?_ | refine d_no rfl rfl rfl (by decide) ?_ | refine d_no' rfl rfl rfl ?_ | (refine wq2 (fun hb => ?_) (fun hb => ?_) <;> (simp only [hb]; try simp only [hbs, ne_eq] at hb; try (exfalso; first | omega | exact hb trivial))) | fail)
      refine rq rfl ?_
      exact fnq
  · refine ⟨(q0 : Int), ?_, ?_⟩
    · have : es.any p = true := List.any_eq_true.2 ⟨es[q0], List.getElem_mem hq0, h2⟩
      rw [this]; simp
    refine PC.mk (ac_body tab_ok Tryz.func66 rfl (by kernel_rfl) rfl ?_); intro w0 M μ0; simp only [Tryz.ntmps66, List.length_cons, List.length_nil, Nat.reduceAdd, Nat.reduceSub, numb]
    repeat' (first | ((first | apply o_do | apply d_do | apply d_yes rfl rfl rfl); exact lsq) | refine a_seq ?_ | refine a_region ?_ | refine o_nil ?_ | refine a_block ?_ | refine a_ret ?_ | refine a_exit ?_ | refine a_skip ?_ | refine a_draw mixed ?_ | refine d_nil (by kernel_rfl) ?_ | refine o_yes rfl rfl rfl ?_ | refine o_no rfl rfl rfl (by decide) ?_ | refine o_no' rfl rfl rfl ?_ | refine a_condT rfl ?_ | refine a_condF rfl ?_ | refine d_no rfl rfl rfl (by decide) ?_ | refine d_no' rfl rfl rfl ?_ | (refine wq2 (fun hb => ?_) (fun hb => ?_) <;> (simp only [hb]; try simp only [hbs, ne_eq] at hb; try (exfalso; first | omega | exact hb trivial))) | fail)
    refine a_loop (X := {q : Nat // q ≤ q0}) (fun x => ⟨[(0, .sl 3 (es.map Et.av)), (1, .clo (.func f) [] []), (7, .v (.int .i64 es.length)), (8, .v (.int .i64 x.1))], []⟩) (fun x => es.length - x.1) ⟨0, Nat.zero_le _⟩ ?_ ?_
    · exact wkS
    rintro ⟨q, hq⟩
    dsimp only
    have hlt : q < es.length := by omega
    have hel : (es.map Et.av)[q]? = some (Et.av es[q]) := by simp [hlt]
    have hbd := hf es[q] (List.getElem_mem hlt)
    rcases Nat.lt_or_eq_of_le hq with h | h
    · rw [h1 q hlt h] at hbd
      generalize es[q] = x at *
      repeat' (first | ((first | apply o_do | apply d_do | apply d_yes rfl rfl rfl); first | exact lsc (hbd) | exact ls_indexAddr_sl tab_ok rfl rfl rfl rfl hel rfl | exact lsq) | refine a_seq ?_ | refine a_region ?_ | refine o_nil ?_ | refine a_block ?_ | refine a_ret ?_ | refine a_exit ?_ | refine a_skip ?_ | refine a_draw mixed ?_ | refine d_nil (by kernel_rfl) ?_ | refine o_yes rfl rfl rfl ?_ | refine o_no rfl rfl rfl (by decide) ?_ | refine o_no' rfl rfl rfl ?_ | refine a_condT rfl ?_ | refine a_condF rfl ?_ | refine d_no rfl rfl rfl (by decide) ?_ | refine d_no' rfl rfl rfl ?_ | (refine wq2 (fun hb => ?_) (fun hb => ?_) <;> (simp only [hb]; try simp only [hbs, ne_eq] at hb; try (exfalso; first | omega | exact hb trivial))) | fail)
      refine ⟨⟨q + 1, by omega⟩, by dsimp only; omega, ?_⟩
      exact wkS
    · subst h
      rw [h2] at hbd
      generalize es[q] = x at *
      repeat' (first | ((first | apply o_do | apply d_do | apply d_yes rfl rfl rfl); first | exact lsc (hbd) | exact ls_indexAddr_sl tab_ok rfl rfl rfl rfl hel rfl | exact lsq) | refine a_seq ?_ | refine a_region ?_ | refine o_nil ?_ | refine a_block ?_ | refine a_ret ?_ | refine a_exit ?_ | refine a_skip ?_ | refine a_draw mixed ?_ | refine d_nil (by kernel_rfl) ?_ | refine o_yes rfl rfl rfl ?_ | refine o_no rfl rfl rfl (by decide) ?_ | refine o_no' rfl rfl rfl ?_ | refine a_condT rfl ?_ | refine a_condF rfl ?_ | refine d_no rfl rfl rfl (by decide) ?_ | refine d_no' rfl rfl rfl ?_ | (refine wq2 (fun hb => ?_) (fun hb => ?_) <;> (simp only [hb]; try simp only [hbs, ne_eq] at hb; try (exfalso; first | omega | exact hb trivial))) | fail)
      refine rq rfl ?_
      exact fnq
theorem p_ConE (f : Nat) (p : Et → Bool) (es : List (Et)) (hx : es.length ≤ 9223372036854775807) (hf : ∀ e ∈ es, PC Tryz.prog f [.agg (Et.av e)] (.v (.bool (p e)))) : PC Tryz.prog 36 [.sl 3 (es.map Et.av), .clo (.func f) [] []] (.v (.bool (es.any p))) := by
  obtain ⟨i, h1, h2⟩ := p_IdxE f p es hx hf
  rw [← h1]
  refine PC.mk (ac_body tab_ok Tryz.func36 rfl (by kernel_rfl) rfl ?_); intro w0 M μ0; simp only [Tryz.ntmps36, List.length_cons, List.length_nil, Nat.reduceAdd, Nat.reduceSub, numb]
  repeat' (first | ((first | apply o_do | apply d_do | apply d_yes rfl rfl rfl); first | exact lsc (h2) | exact lsq) | refine a_seq ?_ | refine a_region ?_ | refine o_nil ?_ | refine a_block ?_ | refine a_ret ?_ | refine a_exit ?_ | refine a_skip ?_ | refine a_draw mixed ?_ | refine d_nil (by kernel_rfl) ?_ | refine o_yes rfl rfl rfl ?_ | refine o_no rfl rfl rfl (by decide) ?_ | refine o_no' rfl rfl rfl ?_ | refine a_condT rfl ?_ | refine a_condF rfl ?_ | refine d_no rfl rfl rfl (by decide) ?_ | refine d_no' rfl rfl rfl ?_ | (refine wq2 (fun hb => ?_) (fun hb => ?_) <;> (simp only [hb]; try simp only [hbs, ne_eq] at hb; try (exfalso; first | omega | exact hb trivial))) | fail)
  all_goals refine rq rfl ?_
  all_goals exact fnq
set_option maxHeartbeats 1000000 in
theorem p_IdxR (f : Nat) (p : List Et → Bool) (es : List (List Et)) (hx : es.length ≤ 9223372036854775807) (hf : ∀ e ∈ es, PC Tryz.prog f [.sl 3 (e.map Et.av)] (.v (.bool (p e)))) : ∃ i : Int, (decide (0 ≤ i) = es.any p) ∧ PC Tryz.prog 92 [.sl 1 (es.map inAv), .clo (.func f) [] []] (.v (.int .i64 i)) := by
  have hml : (es.map inAv).length = es.length := List.length_map _
  rcases any_first p es with hall | ⟨q0, hq0, h1, h2⟩
  · refine ⟨-1, by rw [hall]; rfl, ?_⟩
    refine PC.mk (ac_body tab_ok Tryz.func92 rfl (by kernel_rfl) rfl ?_); intro w0 M μ0; simp only [Tryz.ntmps92, List.length_cons, List.length_nil, Nat.reduceAdd, Nat.reduceSub, numb]
    repeat' (first | ((first | apply o_do | apply d_do | apply d_yes rfl rfl rfl); exact lsq) | refine a_seq ?_ | refine a_region ?_ | refine o_nil ?_ | refine a_block ?_ | refine a_ret ?_ | refine a_exit ?_ | refine a_skip ?_ | refine a_draw mixed ?_ | refine d_nil (by kernel_rfl) ?_ | refine o_yes rfl rfl rfl ?_ | refine o_no rfl rfl rfl (by decide) ?_ | refine o_no' rfl rfl rfl ?_ | refine a_condT rfl ?_ | refine a_condF rfl ?_ | refine d_no rfl rfl rfl (by decide) ?_ | refine d_no' rfl rfl rfl ?_ | (refine wq2 (fun hb => ?_) (fun hb => ?_) <;> (simp only [hb]; try simp only [hbs, ne_eq] at hb; try (exfalso; first | omega | exact hb trivial))) | fail)
    refine a_loop (X := {q : Nat // q ≤ es.length}) (fun x => ⟨[(0, .sl 1 (es.map inAv)), (1, .clo (.func f) [] []), (7, .v (.int .i64 es.length)), (8, .v (.int .i64 x.1))], []⟩) (fun x => es.length - x.1) ⟨0, Nat.zero_le _⟩ ?_ ?_
    · exact wkS
    rintro ⟨q, hq⟩
    dsimp only
    by_cases hlt : q < es.length
    · have hel : (es.map inAv)[q]? = some (inAv es[q]) := by simp [hlt]
      have hbd := hf es[q] (List.getElem_mem hlt)
      rw [show p es[q] = false from by simpa using List.any_eq_false.1 hall _ (List.getElem_mem hlt)] at hbd
      generalize es[q] = x at *
      repeat' (first | ((first | apply o_do | apply d_do | apply d_yes rfl rfl rfl); first | exact lsc (hbd) | exact ls_indexAddr_sl tab_ok rfl rfl rfl rfl hel rfl | exact lsq) | refine a_seq ?_ | refine a_region ?_ | refine o_nil ?_ | refine a_block ?_ | refine a_ret ?_ | refine a_exit ?_ | refine a_skip ?_ | refine a_draw mixed ?_ | refine d_nil (by kernel_rfl) ?_ | refine o_yes rfl rfl rfl ?_ | refine o_no rfl rfl rfl (by decide) ?_ | refine o_no' rfl rfl rfl ?_ | refine a_condT rfl ?_ | refine a_condF rfl ?_ | refine d_no rfl rfl rfl (by decide) ?_ | refine d_no' rfl rfl rfl ?_ | (refine wq2 (fun hb => ?_) (fun hb => ?_) <;> (simp only [hb]; try simp only [hbs, ne_eq] at hb; try (exfalso; first | omega | exact hb trivial))) | fail)
      refine ⟨⟨q + 1, by omega⟩, by dsimp only; omega, ?_⟩
      exact wkS
    · repeat' (first | ((first | apply o_do | apply d_do | apply d_yes rfl rfl rfl); exact lsq) | refine a_seq ?_ | refine a_region ?_ | refine o_nil ?_ | refine a_block ?_ | refine a_ret ?_ | refine a_exit ?_ | refine a_skip ?_ | refine a_draw mixed ?_ | refine d_nil (by kernel_rfl) ?_ | refine o_yes rfl rfl rfl ?_ | refine o_no rfl rfl rfl (by decide) ?_ | refine o_no' rfl rfl rfl ?_ | refine a_condT rfl ?_ | refine a_condF rfl ?_ | refine d_no rfl rfl rfl (by decide) ?_ | refine d_no' rfl rfl rfl ?_ | (refine wq2 (fun hb => ?_) (fun hb => ?_) <;> (simp only [hb]; try simp only [hbs, ne_eq] at hb; try (exfalso; first | omega | exact hb trivial))) | fail)
      refine rq rfl ?_
      exact fnq
  · refine ⟨(q0 : Int), ?_, ?_⟩
    · have : es.any p = true := List.any_eq_true.2 ⟨es[q0], List.getElem_mem hq0, h2⟩
      rw [this]; simp
    refine PC.mk (ac_body tab_ok Tryz.func92 rfl (by kernel_rfl) rfl ?_); intro w0 M μ0; simp only [Tryz.ntmps92, List.length_cons, List.length_nil, Nat.reduceAdd, Nat.reduceSub, numb]
    repeat' (first | ((first | apply o_do | apply d_do | apply d_yes rfl rfl rfl); exact lsq) | refine a_seq ?_ | refine a_region ?_ | refine o_nil ?_ | refine a_block ?_ | refine a_ret ?_ | refine a_exit ?_ | refine a_skip ?_ | refine a_draw mixed ?_ | refine d_nil (by kernel_rfl) ?_ | refine o_yes rfl rfl rfl ?_ | refine o_no rfl rfl rfl (by decide) ?_ | refine o_no' rfl rfl rfl ?_ | refine a_condT rfl ?_ | refine a_condF rfl ?_ | refine d_no rfl rfl rfl (by decide) ?_ | refine d_no' rfl rfl rfl ?_ | (refine wq2 (fun hb => ?_) (fun hb => ?_) <;> (simp only [hb]; try simp only [hbs, ne_eq] at hb; try (exfalso; first | omega | exact hb trivial))) | fail)
    refine a_loop (X := {q : Nat // q ≤ q0}) (fun x => ⟨[(0, .sl 1 (es.map inAv)), (1, .clo (.func f) [] []), (7, .v (.int .i64 es.length)), (8, .v (.int .i64 x.1))], []⟩) (fun x => es.length - x.1) ⟨0, Nat.zero_le _⟩ ?_ ?_
    · exact wkS
    rintro ⟨q, hq⟩
    dsimp only
    have hlt : q < es.length := by omega
    have hel : (es.map inAv)[q]? = some (inAv es[q]) := by simp [hlt]
    have hbd := hf es[q] (List.getElem_mem hlt)
    rcases Nat.lt_or_eq_of_le hq with h | h
    · rw [h1 q hlt h] at hbd
      generalize es[q] = x at *
      repeat' (first | ((first | apply o_do | apply d_do | apply d_yes rfl rfl rfl); first | exact lsc (hbd) | exact ls_indexAddr_sl tab_ok rfl rfl rfl rfl hel rfl | exact lsq) | refine a_seq ?_ | refine a_region ?_ | refine o_nil ?_ | refine a_block ?_ | refine a_ret ?_ | refine a_exit ?_ | refine a_skip ?_ | refine a_draw mixed ?_ | refine d_nil (by kernel_rfl) ?_ | refine o_yes rfl rfl rfl ?_ | refine o_no rfl rfl rfl (by decide) ?_ | refine o_no' rfl rfl rfl ?_ | refine a_condT rfl ?_ | refine a_condF rfl ?_ | refine d_no rfl rfl rfl (by decide) ?_ | refine d_no' rfl rfl rfl ?_ | (refine wq2 (fun hb => ?_) (fun hb => ?_) <;> (simp only [hb]; try simp only [hbs, ne_eq] at hb; try (exfalso; first | omega | exact hb trivial))) | fail)
      refine ⟨⟨q + 1, by omega⟩, by dsimp only; omega, ?_⟩
      exact wkS
    · subst h
      rw [h2] at hbd
      generalize es[q] = x at *
      repeat' (first | ((first | apply o_do | apply d_do | apply d_yes rfl rfl rfl); first | exact lsc (hbd) | exact ls_indexAddr_sl tab_ok rfl rfl rfl rfl hel rfl | exact lsq) | refine a_seq ?_ | refine a_region ?_ | refine o_nil ?_ | refine a_block ?_ | refine a_ret ?_ | refine a_exit ?_ | refine a_skip ?_ | refine a_draw mixed ?_ | refine d_nil (by kernel_rfl) ?_ | refine o_yes rfl rfl rfl ?_ | refine o_no rfl rfl rfl (by decide) ?_ | refine o_no' rfl rfl rfl ?_ | refine a_condT rfl ?_ | refine a_condF rfl ?_ | refine d_no rfl rfl rfl (by decide) ?_ | refine d_no' rfl rfl rfl ?_ | (refine wq2 (fun hb => ?_) (fun hb => ?_) <;> (simp only [hb]; try simp only [hbs, ne_eq] at hb; try (exfalso; first | omega | exact hb trivial))) | fail)
      refine rq rfl ?_
      exact fnq
theorem p_ConR (f : Nat) (p : List Et → Bool) (es : List (List Et)) (hx : es.length ≤ 9223372036854775807) (hf : ∀ e ∈ es, PC Tryz.prog f [.sl 3 (e.map Et.av)] (.v (.bool (p e)))) : PC Tryz.prog 62 [.sl 1 (es.map inAv), .clo (.func f) [] []] (.v (.bool (es.any p))) := by
  obtain ⟨i, h1, h2⟩ := p_IdxR f p es hx hf
  rw [← h1]
  refine PC.mk (ac_body tab_ok Tryz.func62 rfl (by kernel_rfl) rfl ?_); intro w0 M μ0; simp only [Tryz.ntmps62, List.length_cons, List.length_nil, Nat.reduceAdd, Nat.reduceSub, numb]
  repeat' (first | ((first | apply o_do | apply d_do | apply d_yes rfl rfl rfl); first | exact lsc (h2) | exact lsq) | refine a_seq ?_ | refine a_region ?_ | refine o_nil ?_ | refine a_block ?_ | refine a_ret ?_ | refine a_exit ?_ | refine a_skip ?_ | refine a_draw mixed ?_ | refine d_nil (by kernel_rfl) ?_ | refine o_yes rfl rfl rfl ?_ | refine o_no rfl rfl rfl (by decide) ?_ | refine o_no' rfl rfl rfl ?_ | refine a_condT rfl ?_ | refine a_condF rfl ?_ | refine d_no rfl rfl rfl (by decide) ?_ | refine d_no' rfl rfl rfl ?_ | (refine wq2 (fun hb => ?_) (fun hb => ?_) <;> (simp only [hb]; try simp only [hbs, ne_eq] at hb; try (exfalso; first | omega | exact hb trivial))) | fail)
  all_goals refine rq rfl ?_
  all_goals exact fnq
set_option maxHeartbeats 1000000 in
theorem p_IdxA (f : Nat) (p : Ac → Bool) (es : List (Ac)) (hx : es.length ≤ 9223372036854775807) (hf : ∀ e ∈ es, PC Tryz.prog f [.agg (Ac.av e)] (.v (.bool (p e)))) : ∃ i : Int, (decide (0 ≤ i) = es.any p) ∧ PC Tryz.prog 67 [.sl 3 (es.map Ac.av), .clo (.func f) [] []] (.v (.int .i64 i)) := by
  have hml : (es.map Ac.av).length = es.length := List.length_map _
  rcases any_first p es with hall | ⟨q0, hq0, h1, h2⟩
  · refine ⟨-1, by rw [hall]; rfl, ?_⟩
    refine PC.mk (ac_body tab_ok Tryz.func67 rfl (by kernel_rfl) rfl ?_); intro w0 M μ0; simp only [Tryz.ntmps67, List.length_cons, List.length_nil, Nat.reduceAdd, Nat.reduceSub, numb]
    repeat' (first | ((first | apply o_do | apply d_do | apply d_yes rfl rfl rfl); exact lsq) | refine a_seq ?_ | refine a_region ?_ | refine o_nil ?_ | refine a_block ?_ | refine a_ret ?_ | refine a_exit ?_ | refine a_skip ?_ | refine a_draw mixed ?_ | refine d_nil (by kernel_rfl) ?_ | refine o_yes rfl rfl rfl ?_ | refine o_no rfl rfl rfl (by decide) ?_ | refine o_no' rfl rfl rfl ?_ | refine a_condT rfl ?_ | refine a_condF rfl ?_ | refine d_no rfl rfl rfl (by decide) ?_ | refine d_no' rfl rfl rfl ?_ | (refine wq2 (fun hb => ?_) (fun hb => ?_) <;> (simp only [hb]; try simp only [hbs, ne_eq] at hb; try (exfalso; first | omega | exact hb trivial))) | fail)
    refine a_loop (X := {q : Nat // q ≤ es.length}) (fun x => ⟨[(0, .sl 3 (es.map Ac.av)), (1, .clo (.func f) [] []), (7, .v (.int .i64 es.length)), (8, .v (.int .i64 x.1))], []⟩) (fun x => es.length - x.1) ⟨0, Nat.zero_le _⟩ ?_ ?_
    · exact wkS
    rintro ⟨q, hq⟩
    dsimp only
    by_cases hlt : q < es.length
    · have hel : (es.map Ac.av)[q]? = some (Ac.av es[q]) := by simp [hlt]
      have hbd := hf es[q] (List.getElem_mem hlt)
      rw [show p es[q] = false from by simpa using List.any_eq_false.1 hall _ (List.getElem_mem hlt)] at hbd
      generalize es[q] = x at *
      repeat' (first | ((first | apply o_do | apply d_do | apply d_yes rfl rfl rfl); first | exact lsc (hbd) | exact ls_indexAddr_sl tab_ok rfl rfl rfl rfl hel rfl | exact lsq) | refine a_seq ?_ | refine a_region ?_ | refine o_nil ?_ | refine a_block ?_ | refine a_ret ?_ | refine a_exit ?_ | refine a_skip ?_ | refine a_draw mixed ?_ | refine d_nil (by kernel_rfl) ?_ | refine o_yes rfl rfl rfl ?_ | refine o_no rfl rfl rfl (by decide) ?_ | refine o_no' rfl rfl rfl ?_ | refine a_condT rfl ?_ | refine a_condF rfl ?_ | refine d_no rfl rfl rfl (by decide) ?_ | refine d_no' rfl rfl rfl ?_ | (refine wq2 (fun hb => ?_) (fun hb => ?_) <;> (simp only [hb]; try simp only [hbs, ne_eq] at hb; try (exfalso; first | omega | exact hb trivial))) | fail)
      refine ⟨⟨q + 1, by omega⟩, by dsimp only; omega, ?_⟩
      exact wkS
    · repeat' (first | ((first | apply o_do | apply d_do | apply d_yes rfl rfl rfl); exact lsq) | refine a_seq ?_ | refine a_region ?_ | refine o_nil ?_ | refine a_block ?_ | refine a_ret ?_ | refine a_exit ?_ | refine a_skip ?_ | refine a_draw mixed ?_ | refine d_nil (by kernel_rfl) ?_ | refine o_yes rfl rfl rfl ?_ | refine o_no rfl rfl rfl (by decide) ?_ | refine o_no' rfl rfl rfl ?_ | refine a_condT rfl ?_ | refine a_condF rfl ?_ | refine d_no rfl rfl rfl (by decide) ?_ | refine d_no' rfl rfl rfl ?_ | (refine wq2 (fun hb => ?_) (fun hb => ?_) <;> (simp only [hb]; try simp only [hbs, ne_eq] at hb; try (exfalso; first | omega | exact hb trivial))) | fail)
      refine rq rfl ?_
      exact fnq
  · refine ⟨(q0 : Int), ?_, ?_⟩
    · have : es.any p = true := List.any_eq_true.2 ⟨es[q0], List.getElem_mem hq0, h2⟩
      rw [this]; simp
    refine PC.mk (ac_body tab_ok Tryz.func67 rfl (by kernel_rfl) rfl ?_); intro w0 M μ0; simp only [Tryz.ntmps67, List.length_cons, List.length_nil, Nat.reduceAdd, Nat.reduceSub, numb]
    repeat' (first | ((first | apply o_do | apply d_do | apply d_yes rfl rfl rfl); exact lsq) | refine a_seq ?_ | refine a_region ?_ | refine o_nil ?_ | refine a_block ?_ | refine a_ret ?_ | refine a_exit ?_ | refine a_skip ?_ | refine a_draw mixed ?_ | refine d_nil (by kernel_rfl) ?_ | refine o_yes rfl rfl rfl ?_ | refine o_no rfl rfl rfl (by decide) ?_ | refine o_no' rfl rfl rfl ?_ | refine a_condT rfl ?_ | refine a_condF rfl ?_ | refine d_no rfl rfl rfl (by decide) ?_ | refine d_no' rfl rfl rfl ?_ | (refine wq2 (fun hb => ?_) (fun hb => ?_) <;> (simp only [hb]; try simp only [hbs, ne_eq] at hb; try (exfalso; first | omega | exact hb trivial))) | fail)
    refine a_loop (X := {q : Nat // q ≤ q0}) (fun x => ⟨[(0, .sl 3 (es.map Ac.av)), (1, .clo (.func f) [] []), (7, .v (.int .i64 es.length)), (8, .v (.int .i64 x.1))], []⟩) (fun x => es.length - x.1) ⟨0, Nat.zero_le _⟩ ?_ ?_
    · exact wkS
    rintro ⟨q, hq⟩
    dsimp only
    have hlt : q < es.length := by omega
    have hel : (es.map Ac.av)[q]? = some (Ac.av es[q]) := by simp [hlt]
    have hbd := hf es[q] (List.getElem_mem hlt)
    rcases Nat.lt_or_eq_of_le hq with h | h
    · rw [h1 q hlt h] at hbd
      generalize es[q] = x at *
      repeat' (first | ((first | apply o_do | apply d_do | apply d_yes rfl rfl rfl); first | exact lsc (hbd) | exact ls_indexAddr_sl tab_ok rfl rfl rfl rfl hel rfl | exact lsq) | refine a_seq ?_ | refine a_region ?_ | refine o_nil ?_ | refine a_block ?_ | refine a_ret ?_ | refine a_exit ?_ | refine a_skip ?_ | refine a_draw mixed ?_ | refine d_nil (by kernel_rfl) ?_ | refine o_yes rfl rfl rfl ?_ | refine o_no rfl rfl rfl (by decide) ?_ | refine o_no' rfl rfl rfl ?_ | refine a_condT rfl ?_ | refine a_condF rfl ?_ | refine d_no rfl rfl rfl (by decide) ?_ | refine d_no' rfl rfl rfl ?_ | (refine wq2 (fun hb => ?_) (fun hb => ?_) <;> (simp only [hb]; try simp only [hbs, ne_eq] at hb; try (exfalso; first | omega | exact hb trivial))) | fail)
      refine ⟨⟨q + 1, by omega⟩, by dsimp only; omega, ?_⟩
      exact wkS
    · subst h
      rw [h2] at hbd
      generalize es[q] = x at *
      repeat' (first | ((first | apply o_do | apply d_do | apply d_yes rfl rfl rfl); first | exact lsc (hbd) | exact ls_indexAddr_sl tab_ok rfl rfl rfl rfl hel rfl | exact lsq) | refine a_seq ?_ | refine a_region ?_ | refine o_nil ?_ | refine a_block ?_ | refine a_ret ?_ | refine a_exit ?_ | refine a_skip ?_ | refine a_draw mixed ?_ | refine d_nil (by kernel_rfl) ?_ | refine o_yes rfl rfl rfl ?_ | refine o_no rfl rfl rfl (by decide) ?_ | refine o_no' rfl rfl rfl ?_ | refine a_condT rfl ?_ | refine a_condF rfl ?_ | refine d_no rfl rfl rfl (by decide) ?_ | refine d_no' rfl rfl rfl ?_ | (refine wq2 (fun hb => ?_) (fun hb => ?_) <;> (simp only [hb]; try simp only [hbs, ne_eq] at hb; try (exfalso; first | omega | exact hb trivial))) | fail)
      refine rq rfl ?_
      exact fnq
theorem p_ConA (f : Nat) (p : Ac → Bool) (es : List (Ac)) (hx : es.length ≤ 9223372036854775807) (hf : ∀ e ∈ es, PC Tryz.prog f [.agg (Ac.av e)] (.v (.bool (p e)))) : PC Tryz.prog 39 [.sl 3 (es.map Ac.av), .clo (.func f) [] []] (.v (.bool (es.any p))) := by
  obtain ⟨i, h1, h2⟩ := p_IdxA f p es hx hf
  rw [← h1]
  refine PC.mk (ac_body tab_ok Tryz.func39 rfl (by kernel_rfl) rfl ?_); intro w0 M μ0; simp only [Tryz.ntmps39, List.length_cons, List.length_nil, Nat.reduceAdd, Nat.reduceSub, numb]
  repeat' (first | ((first | apply o_do | apply d_do | apply d_yes rfl rfl rfl); first | exact lsc (h2) | exact lsq) | refine a_seq ?_ | refine a_region ?_ | refine o_nil ?_ | refine a_block ?_ | refine a_ret ?_ | refine a_exit ?_ | refine a_skip ?_ | refine a_draw mixed ?_ | refine d_nil (by kernel_rfl) ?_ | refine o_yes rfl rfl rfl ?_ | refine o_no rfl rfl rfl (by decide) ?_ | refine o_no' rfl rfl rfl ?_ | refine a_condT rfl ?_ | refine a_condF rfl ?_ | refine d_no rfl rfl rfl (by decide) ?_ | refine d_no' rfl rfl rfl ?_ | (refine wq2 (fun hb => ?_) (fun hb => ?_) <;> (simp only [hb]; try simp only [hbs, ne_eq] at hb; try (exfalso; first | omega | exact hb trivial))) | fail)
  all_goals refine rq rfl ?_
  all_goals exact fnq
theorem p_bad (e : Et) : PC Tryz.prog 64 [.agg (Et.av e)] (.v (.bool (!evR e.key e.at'))) := by
  have h := p_Event e.key e.at' e.v
  unfold Et.av
  refine PC.mk (ac_body tab_ok Tryz.func64 rfl (by kernel_rfl) rfl ?_); intro w0 M μ0; simp only [Tryz.ntmps64, List.length_cons, List.length_nil, Nat.reduceAdd, Nat.reduceSub, numb]
  repeat' (first | ((first | apply o_do | apply d_do | apply d_yes rfl rfl rfl); first | exact lsc (h) | exact lsq) | refine a_seq ?_ | refine a_region ?_ | refine o_nil ?_ | refine a_block ?_ | refine a_ret ?_ | refine a_exit ?_ | refine a_skip ?_ | refine a_draw mixed ?_ | refine d_nil (by kernel_rfl) ?_ | refine o_yes rfl rfl rfl ?_ | refine o_no rfl rfl rfl (by decide) ?_ | refine o_no' rfl rfl rfl ?_ | refine a_condT rfl ?_ | refine a_condF rfl ?_ | refine d_no rfl rfl rfl (by decide) ?_ | refine d_no' rfl rfl rfl ?_ | (refine wq2 (fun hb => ?_) (fun hb => ?_) <;> (simp only [hb]; try simp only [hbs, ne_eq] at hb; try (exfalso; first | omega | exact hb trivial))) | fail)
  all_goals refine rq rfl ?_
  all_goals exact fnq
theorem not_all {α : Type} (p : α → Bool) (l : List α) : (!l.all p) = l.any fun x => !p x := by
  induction l with
  | nil => rfl
  | cons x l ih => cases h : p x <;> simp [h, ← ih]
theorem p_badEs (es : List Et) (hx : es.length ≤ 9223372036854775807) : PC Tryz.prog 63 [.sl 3 (es.map Et.av)] (.v (.bool (!okEs es))) := by
  have h := p_ConE 64 (fun e => !evR e.key e.at') es hx (fun e _ => p_bad e)
  rw [← not_all] at h
  have hn : (es.map Et.av).length = es.length := List.length_map _
  unfold okEs
  by_cases hl : es.length ≤ 200
  · rw [decide_eq_true hl, Bool.true_and]
    refine PC.mk (ac_body tab_ok Tryz.func63 rfl (by kernel_rfl) rfl ?_); intro w0 M μ0; simp only [Tryz.ntmps63, List.length_cons, List.length_nil, Nat.reduceAdd, Nat.reduceSub, numb]
    repeat' (first | ((first | apply o_do | apply d_do | apply d_yes rfl rfl rfl); first | exact lsc (h) | exact lsq) | refine a_seq ?_ | refine a_region ?_ | refine o_nil ?_ | refine a_block ?_ | refine a_ret ?_ | refine a_exit ?_ | refine a_skip ?_ | refine a_draw mixed ?_ | refine d_nil (by kernel_rfl) ?_ | refine o_yes rfl rfl rfl ?_ | refine o_no rfl rfl rfl (by decide) ?_ | refine o_no' rfl rfl rfl ?_ | refine a_condT rfl ?_ | refine a_condF rfl ?_ | refine d_no rfl rfl rfl (by decide) ?_ | refine d_no' rfl rfl rfl ?_ | (refine wq2 (fun hb => ?_) (fun hb => ?_) <;> (simp only [hb]; try simp only [hbs, ne_eq] at hb; try (exfalso; first | omega | exact hb trivial))) | fail)
    all_goals refine rq rfl ?_
    all_goals exact fnq
  · rw [decide_eq_false hl, Bool.false_and]
    refine PC.mk (ac_body tab_ok Tryz.func63 rfl (by kernel_rfl) rfl ?_); intro w0 M μ0; simp only [Tryz.ntmps63, List.length_cons, List.length_nil, Nat.reduceAdd, Nat.reduceSub, numb]
    repeat' (first | ((first | apply o_do | apply d_do | apply d_yes rfl rfl rfl); first | exact lsc (h) | exact lsq) | refine a_seq ?_ | refine a_region ?_ | refine o_nil ?_ | refine a_block ?_ | refine a_ret ?_ | refine a_exit ?_ | refine a_skip ?_ | refine a_draw mixed ?_ | refine d_nil (by kernel_rfl) ?_ | refine o_yes rfl rfl rfl ?_ | refine o_no rfl rfl rfl (by decide) ?_ | refine o_no' rfl rfl rfl ?_ | refine a_condT rfl ?_ | refine a_condF rfl ?_ | refine d_no rfl rfl rfl (by decide) ?_ | refine d_no' rfl rfl rfl ?_ | (refine wq2 (fun hb => ?_) (fun hb => ?_) <;> (simp only [hb]; try simp only [hbs, ne_eq] at hb; try (exfalso; first | omega | exact hb trivial))) | fail)
    all_goals refine rq rfl ?_
    all_goals exact fnq
set_option maxHeartbeats 1000000 in
theorem j_Inputs (ls : List (List Et)) (hx : Small ls) : PC Tryz.prog 35 [.sl 1 (ls.map inAv)] (.v (.bool (okIn ls))) := by
  have h := p_ConR 63 (fun es => !okEs es) ls hx.1 (fun es he => p_badEs es (hx.2 es he))
  rw [← not_all] at h
  have hn : (ls.map inAv).length = ls.length := List.length_map _
  unfold okIn
  by_cases h1 : 1 ≤ ls.length ∧ ls.length ≤ 4
  · rw [decide_eq_true h1.1, decide_eq_true h1.2, Bool.true_and, Bool.true_and]
    obtain ⟨h1, h2⟩ := h1
    refine PC.mk (ac_body tab_ok Tryz.func35 rfl (by kernel_rfl) rfl ?_); intro w0 M μ0; simp only [Tryz.ntmps35, List.length_cons, List.length_nil, Nat.reduceAdd, Nat.reduceSub, numb]
    repeat' (first | ((first | apply o_do | apply d_do | apply d_yes rfl rfl rfl); first | exact lsc (h) | exact lsq) | refine a_seq ?_ | refine a_region ?_ | refine o_nil ?_ | refine a_block ?_ | refine a_ret ?_ | refine a_exit ?_ | refine a_skip ?_ | refine a_draw mixed ?_ | refine d_nil (by kernel_rfl) ?_ | refine o_yes rfl rfl rfl ?_ | refine o_no rfl rfl rfl (by decide) ?_ | refine o_no' rfl rfl rfl ?_ | refine a_condT rfl ?_ | refine a_condF rfl ?_ | refine d_no rfl rfl rfl (by decide) ?_ | refine d_no' rfl rfl rfl ?_ | (refine wq2 (fun hb => ?_) (fun hb => ?_) <;> (simp only [hb]; try simp only [hbs, ne_eq] at hb; try (exfalso; first | omega | exact hb trivial))) | fail)
    all_goals refine rq rfl ?_
    all_goals (first | refine FinA.tup ?_ | refine FinA.one ?_); repeat' (first | exact FinBs.nil | exact FinCs.nil | refine FinBs.cons ?_ ?_ | refine FinCs.cons ?_ ?_ | refine FinB.cell (FinC.v ?_) | refine FinB.cell (FinC.own rfl rfl rfl ?_) | exact FinB.cell FinC.nil | refine FinB.cell (FinC.sl ?_) | exact FinB.agg' rfl rfl | exact FinB.cell (FinC.same rfl) | refine FinB.agg ?_ | refine FinC.v ?_ | refine FinC.own rfl rfl rfl ?_ | exact FinC.nil | refine FinC.sl ?_ | exact FinC.same rfl); all_goals try rfl
    all_goals simp
  · rw [show (decide (1 ≤ ls.length) && (decide (ls.length ≤ 4) && ls.all okEs)) = false by
      by_cases h2 : 1 ≤ ls.length
      · rw [decide_eq_false (fun h => h1 ⟨h2, h⟩)]; simp
      · rw [decide_eq_false h2]; simp]
    by_cases h2 : ls.length < 1
    · refine PC.mk (ac_body tab_ok Tryz.func35 rfl (by kernel_rfl) rfl ?_); intro w0 M μ0; simp only [Tryz.ntmps35, List.length_cons, List.length_nil, Nat.reduceAdd, Nat.reduceSub, numb]
      repeat' (first | ((first | apply o_do | apply d_do | apply d_yes rfl rfl rfl); first | exact lsc (h) | exact lsq) | refine a_seq ?_ | refine a_region ?_ | refine o_nil ?_ | refine a_block ?_ | refine a_ret ?_ | refine a_exit ?_ | refine a_skip ?_ | refine a_draw mixed ?_ | refine d_nil (by kernel_rfl) ?_ | refine o_yes rfl rfl rfl ?_ | refine o_no rfl rfl rfl (by decide) ?_ | refine o_no' rfl rfl rfl ?_ | refine a_condT rfl ?_ | refine a_condF rfl ?_ | refine d_no rfl rfl rfl (by decide) ?_ | refine d_no' rfl rfl rfl ?_ | (refine wq2 (fun hb => ?_) (fun hb => ?_) <;> (simp only [hb]; try simp only [hbs, ne_eq] at hb; try (exfalso; first | omega | exact hb trivial))) | fail)
      all_goals refine rq rfl ?_
      all_goals exact fnq
    · have h3 : 4 < ls.length := by omega
      refine PC.mk (ac_body tab_ok Tryz.func35 rfl (by kernel_rfl) rfl ?_); intro w0 M μ0; simp only [Tryz.ntmps35, List.length_cons, List.length_nil, Nat.reduceAdd, Nat.reduceSub, numb]
      repeat' (first | ((first | apply o_do | apply d_do | apply d_yes rfl rfl rfl); first | exact lsc (h) | exact lsq) | refine a_seq ?_ | refine a_region ?_ | refine o_nil ?_ | refine a_block ?_ | refine a_ret ?_ | refine a_exit ?_ | refine a_skip ?_ | refine a_draw mixed ?_ | refine d_nil (by kernel_rfl) ?_ | refine o_yes rfl rfl rfl ?_ | refine o_no rfl rfl rfl (by decide) ?_ | refine o_no' rfl rfl rfl ?_ | refine a_condT rfl ?_ | refine a_condF rfl ?_ | refine d_no rfl rfl rfl (by decide) ?_ | refine d_no' rfl rfl rfl ?_ | (refine wq2 (fun hb => ?_) (fun hb => ?_) <;> (simp only [hb]; try simp only [hbs, ne_eq] at hb; try (exfalso; first | omega | exact hb trivial))) | fail)
      all_goals refine rq rfl ?_
      all_goals exact fnq
end Go.Proofs.YtbhblhcgfenobaaGreatDoor
