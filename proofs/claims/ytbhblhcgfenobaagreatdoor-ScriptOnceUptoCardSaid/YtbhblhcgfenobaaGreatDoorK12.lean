/-
  Plans: words, acts, letters; which plans may be, walked over abstract values. Printed by gen_scb.py.
  Scripts' texts in plain words: numbers with a sign, lines, words, what is read of them. Plain.
-/
import Derived.Test.YtbhblhcgfenobaaGreatDoorK4
import Derived.Test.YtbhblhcgfenobaaGreatDoorK8
import Derived.Test.YtbhblhcgfenobaaGreatDoorK10
import Derived.Test.YtbhblhcgfenobaaGreatDoorK11
namespace Go.Proofs.YtbhblhcgfenobaaGreatDoor
open Go.RowKit
set_option linter.unusedSimpArgs false
set_option linter.unusedVariables false
/-- an act's word; and what it needs: none, Which, Who -/
def wdB : Nat → ByteArray
  | 0 => ⟨#[114, 111, 117, 110, 100]⟩
  | 1 => ⟨#[116, 101, 108, 108]⟩
  | 2 => ⟨#[97, 103, 97, 105, 110]⟩
  | 3 => ⟨#[108, 111, 115, 101]⟩
  | 4 => ⟨#[116, 105, 99, 107]⟩
  | 5 => ⟨#[99, 114, 97, 115, 104]⟩
  | 6 => ⟨#[115, 116, 97, 114, 116]⟩
  | 7 => ⟨#[114, 101, 115, 99, 97, 108, 101]⟩
  | 8 => ⟨#[99, 104, 101, 99, 107]⟩
  | 9 => ⟨#[102, 101, 101, 100]⟩
  | _ => ⟨#[]⟩
def wdN : Nat → Int
  | 0 => 0
  | 1 => 1
  | 2 => 1
  | 3 => 1
  | 4 => 0
  | 5 => 2
  | 6 => 2
  | 7 => 1
  | 8 => 0
  | 9 => 2
  | _ => 0
theorem what_in {what : Int} : (∃ k : Nat, k < 10 ∧ what = (k : Int)) ∨ (what < 0 ∨ 9 < what) := by
  by_cases h : what < 0 ∨ 9 < what
  · exact .inr h
  · exact .inl ⟨what.toNat, by omega, by omega⟩
theorem p_wordY (k : Nat) (hk : k < 10) : PC Tryz.prog 47 [.v (.int .i64 (k : Int))] (.tup [.v (.string (wdB k)), .v (.int .i64 (wdN k))]) := by
  rcases k with _ | _ | _ | _ | _ | _ | _ | _ | _ | _ | k
  all_goals first
    | omega
    | (refine PC.mk (ac_body tab_ok Tryz.func47 rfl (by kernel_rfl) rfl ?_); intro w0 M μ0; simp only [Tryz.ntmps47, List.length_cons, List.length_nil, Nat.reduceAdd, Nat.reduceSub, numb]
       repeat' (first | ((first | apply o_do | apply d_do | apply d_yes rfl rfl rfl); exact lsq) | refine a_seq ?_ | refine a_region ?_ | refine o_nil ?_ | refine a_block ?_ | refine a_ret ?_ | refine a_exit ?_ | refine a_skip ?_ | refine a_draw mixed ?_ | refine d_nil (by kernel_rfl) ?_ | refine o_yes rfl rfl rfl ?_ | refine o_no rfl rfl rfl (by decide) ?_ | refine o_no' rfl rfl rfl ?_ | refine a_condT rfl ?_ | refine a_condF rfl ?_ | refine d_no rfl rfl rfl (by decide) ?_ | refine d_no' rfl rfl rfl ?_ | (refine wq2 (fun hb => ?_) (fun hb => ?_) <;> (simp only [hb]; try simp only [hbs, ne_eq] at hb; try (exfalso; first | omega | exact hb trivial))) | fail)
       all_goals refine rq rfl ?_
       all_goals (first | refine FinA.tup ?_ | refine FinA.one ?_); repeat' (first | exact FinBs.nil | exact FinCs.nil | refine FinBs.cons ?_ ?_ | refine FinCs.cons ?_ ?_ | refine FinB.cell (FinC.v ?_) | refine FinB.cell (FinC.own rfl rfl rfl ?_) | exact FinB.cell FinC.nil | refine FinB.cell (FinC.sl ?_) | exact FinB.agg' rfl rfl | exact FinB.cell (FinC.same rfl) | refine FinB.agg ?_ | refine FinC.v ?_ | refine FinC.own rfl rfl rfl ?_ | exact FinC.nil | refine FinC.sl ?_ | exact FinC.same rfl); all_goals try rfl)
theorem p_wordN (what : Int) (h : what < 0 ∨ 9 < what) : PC Tryz.prog 47 [.v (.int .i64 what)] (.tup [.v (.string ⟨#[]⟩), .v (.int .i64 0)]) := by
  refine PC.mk (ac_body tab_ok Tryz.func47 rfl (by kernel_rfl) rfl ?_); intro w0 M μ0; simp only [Tryz.ntmps47, List.length_cons, List.length_nil, Nat.reduceAdd, Nat.reduceSub, numb]
  repeat' (first | ((first | apply o_do | apply d_do | apply d_yes rfl rfl rfl); exact lsq) | refine a_seq ?_ | refine a_region ?_ | refine o_nil ?_ | refine a_block ?_ | refine a_ret ?_ | refine a_exit ?_ | refine a_skip ?_ | refine a_draw mixed ?_ | refine d_nil (by kernel_rfl) ?_ | refine o_yes rfl rfl rfl ?_ | refine o_no rfl rfl rfl (by decide) ?_ | refine o_no' rfl rfl rfl ?_ | refine a_condT rfl ?_ | refine a_condF rfl ?_ | refine d_no rfl rfl rfl (by decide) ?_ | refine d_no' rfl rfl rfl ?_ | (refine wq2 (fun hb => ?_) (fun hb => ?_) <;> (simp only [hb]; try simp only [hbs, ne_eq] at hb; try (exfalso; first | omega | exact hb trivial))) | fail)
  all_goals refine rq rfl ?_
  all_goals exact fnq
theorem p_rWordY (k : Nat) (hk : k < 10) : PC Tryz.prog 50 [.v (.int .i64 (k : Int))] (.v (.string (wdB k))) := by
  rcases k with _ | _ | _ | _ | _ | _ | _ | _ | _ | _ | k
  all_goals first
    | omega
    | (refine PC.mk (ac_body tab_ok Tryz.func50 rfl (by kernel_rfl) rfl ?_); intro w0 M μ0; simp only [Tryz.ntmps50, List.length_cons, List.length_nil, Nat.reduceAdd, Nat.reduceSub, numb]
       repeat' (first | ((first | apply o_do | apply d_do | apply d_yes rfl rfl rfl); exact lsq) | refine a_seq ?_ | refine a_region ?_ | refine o_nil ?_ | refine a_block ?_ | refine a_ret ?_ | refine a_exit ?_ | refine a_skip ?_ | refine a_draw mixed ?_ | refine d_nil (by kernel_rfl) ?_ | refine o_yes rfl rfl rfl ?_ | refine o_no rfl rfl rfl (by decide) ?_ | refine o_no' rfl rfl rfl ?_ | refine a_condT rfl ?_ | refine a_condF rfl ?_ | refine d_no rfl rfl rfl (by decide) ?_ | refine d_no' rfl rfl rfl ?_ | (refine wq2 (fun hb => ?_) (fun hb => ?_) <;> (simp only [hb]; try simp only [hbs, ne_eq] at hb; try (exfalso; first | omega | exact hb trivial))) | fail)
       all_goals refine rq rfl ?_
       all_goals (first | refine FinA.tup ?_ | refine FinA.one ?_); repeat' (first | exact FinBs.nil | exact FinCs.nil | refine FinBs.cons ?_ ?_ | refine FinCs.cons ?_ ?_ | refine FinB.cell (FinC.v ?_) | refine FinB.cell (FinC.own rfl rfl rfl ?_) | exact FinB.cell FinC.nil | refine FinB.cell (FinC.sl ?_) | exact FinB.agg' rfl rfl | exact FinB.cell (FinC.same rfl) | refine FinB.agg ?_ | refine FinC.v ?_ | refine FinC.own rfl rfl rfl ?_ | exact FinC.nil | refine FinC.sl ?_ | exact FinC.same rfl); all_goals try rfl)
theorem p_rWhich (k : Nat) (hk : k < 10) : PC Tryz.prog 51 [.v (.int .i64 (k : Int))] (.v (.bool (decide (wdN k = 1)))) := by
  rcases k with _ | _ | _ | _ | _ | _ | _ | _ | _ | _ | k
  all_goals first
    | omega
    | (refine PC.mk (ac_body tab_ok Tryz.func51 rfl (by kernel_rfl) rfl ?_); intro w0 M μ0; simp only [Tryz.ntmps51, List.length_cons, List.length_nil, Nat.reduceAdd, Nat.reduceSub, numb]
       repeat' (first | ((first | apply o_do | apply d_do | apply d_yes rfl rfl rfl); exact lsq) | refine a_seq ?_ | refine a_region ?_ | refine o_nil ?_ | refine a_block ?_ | refine a_ret ?_ | refine a_exit ?_ | refine a_skip ?_ | refine a_draw mixed ?_ | refine d_nil (by kernel_rfl) ?_ | refine o_yes rfl rfl rfl ?_ | refine o_no rfl rfl rfl (by decide) ?_ | refine o_no' rfl rfl rfl ?_ | refine a_condT rfl ?_ | refine a_condF rfl ?_ | refine d_no rfl rfl rfl (by decide) ?_ | refine d_no' rfl rfl rfl ?_ | (refine wq2 (fun hb => ?_) (fun hb => ?_) <;> (simp only [hb]; try simp only [hbs, ne_eq] at hb; try (exfalso; first | omega | exact hb trivial))) | fail)
       all_goals refine rq rfl ?_
       all_goals (first | refine FinA.tup ?_ | refine FinA.one ?_); repeat' (first | exact FinBs.nil | exact FinCs.nil | refine FinBs.cons ?_ ?_ | refine FinCs.cons ?_ ?_ | refine FinB.cell (FinC.v ?_) | refine FinB.cell (FinC.own rfl rfl rfl ?_) | exact FinB.cell FinC.nil | refine FinB.cell (FinC.sl ?_) | exact FinB.agg' rfl rfl | exact FinB.cell (FinC.same rfl) | refine FinB.agg ?_ | refine FinC.v ?_ | refine FinC.own rfl rfl rfl ?_ | exact FinC.nil | refine FinC.sl ?_ | exact FinC.same rfl); all_goals try rfl)
theorem p_rWho (k : Nat) (hk : k < 10) : PC Tryz.prog 52 [.v (.int .i64 (k : Int))] (.v (.bool (decide (wdN k = 2)))) := by
  rcases k with _ | _ | _ | _ | _ | _ | _ | _ | _ | _ | k
  all_goals first
    | omega
    | (refine PC.mk (ac_body tab_ok Tryz.func52 rfl (by kernel_rfl) rfl ?_); intro w0 M μ0; simp only [Tryz.ntmps52, List.length_cons, List.length_nil, Nat.reduceAdd, Nat.reduceSub, numb]
       repeat' (first | ((first | apply o_do | apply d_do | apply d_yes rfl rfl rfl); exact lsq) | refine a_seq ?_ | refine a_region ?_ | refine o_nil ?_ | refine a_block ?_ | refine a_ret ?_ | refine a_exit ?_ | refine a_skip ?_ | refine a_draw mixed ?_ | refine d_nil (by kernel_rfl) ?_ | refine o_yes rfl rfl rfl ?_ | refine o_no rfl rfl rfl (by decide) ?_ | refine o_no' rfl rfl rfl ?_ | refine a_condT rfl ?_ | refine a_condF rfl ?_ | refine d_no rfl rfl rfl (by decide) ?_ | refine d_no' rfl rfl rfl ?_ | (refine wq2 (fun hb => ?_) (fun hb => ?_) <;> (simp only [hb]; try simp only [hbs, ne_eq] at hb; try (exfalso; first | omega | exact hb trivial))) | fail)
       all_goals refine rq rfl ?_
       all_goals (first | refine FinA.tup ?_ | refine FinA.one ?_); repeat' (first | exact FinBs.nil | exact FinCs.nil | refine FinBs.cons ?_ ?_ | refine FinCs.cons ?_ ?_ | refine FinB.cell (FinC.v ?_) | refine FinB.cell (FinC.own rfl rfl rfl ?_) | exact FinB.cell FinC.nil | refine FinB.cell (FinC.sl ?_) | exact FinB.agg' rfl rfl | exact FinB.cell (FinC.same rfl) | refine FinB.agg ?_ | refine FinC.v ?_ | refine FinC.own rfl rfl rfl ?_ | exact FinC.nil | refine FinC.sl ?_ | exact FinC.same rfl); all_goals try rfl)
theorem p_ssmall (n : Int) : PC Tryz.prog 68 [.v (.int .i64 n)] (.v (.bool (decide (0 ≤ n) && decide (n ≤ 1000000)))) := by
  refine PC.mk (ac_body tab_ok Tryz.func68 rfl (by kernel_rfl) rfl ?_); intro w0 M μ0; simp only [Tryz.ntmps68, List.length_cons, List.length_nil, Nat.reduceAdd, Nat.reduceSub, numb]
  repeat' (first | ((first | apply o_do | apply d_do | apply d_yes rfl rfl rfl); exact lsq) | refine a_seq ?_ | refine a_region ?_ | refine o_nil ?_ | refine a_block ?_ | refine a_ret ?_ | refine a_exit ?_ | refine a_skip ?_ | refine a_draw mixed ?_ | refine d_nil (by kernel_rfl) ?_ | refine o_yes rfl rfl rfl ?_ | refine o_no rfl rfl rfl (by decide) ?_ | refine o_no' rfl rfl rfl ?_ | refine a_condT rfl ?_ | refine a_condF rfl ?_ | refine d_no rfl rfl rfl (by decide) ?_ | refine d_no' rfl rfl rfl ?_ | (refine wq2 (fun hb => ?_) (fun hb => ?_) <;> (simp only [hb]; try simp only [hbs, ne_eq] at hb; try (exfalso; first | omega | exact hb trivial))) | fail)
  all_goals refine rq rfl ?_
  all_goals (first | refine FinA.tup ?_ | refine FinA.one ?_); repeat' (first | exact FinBs.nil | exact FinCs.nil | refine FinBs.cons ?_ ?_ | refine FinCs.cons ?_ ?_ | refine FinB.cell (FinC.v ?_) | refine FinB.cell (FinC.own rfl rfl rfl ?_) | exact FinB.cell FinC.nil | refine FinB.cell (FinC.sl ?_) | exact FinB.agg' rfl rfl | exact FinB.cell (FinC.same rfl) | refine FinB.agg ?_ | refine FinC.v ?_ | refine FinC.own rfl rfl rfl ?_ | exact FinC.nil | refine FinC.sl ?_ | exact FinC.same rfl); all_goals try rfl
  all_goals simp [*]
def smB (n : Int) : Bool := decide (0 ≤ n) && decide (n ≤ 1000000)
def acOK (a : Ac) : Bool := if 0 ≤ a.what ∧ a.what ≤ 9 then (if wdN a.what.toNat = 1 then smB a.which && decide (a.who = 0) else if wdN a.what.toNat = 2 then smB a.who && decide (a.which = 0) else decide (a.who = 0) && decide (a.which = 0)) else false
theorem wdB_ne (k : Nat) (hk : k < 10) : ((wdB k).toList == (⟨#[]⟩ : ByteArray).toList) = false := by
  rw [bytes_nil']
  rcases k with _ | _ | _ | _ | _ | _ | _ | _ | _ | _ | k <;> first | omega | rfl
theorem wdN_in (k : Nat) : wdN k = 0 ∨ wdN k = 1 ∨ wdN k = 2 := by
  rcases k with _ | _ | _ | _ | _ | _ | _ | _ | _ | _ | k <;> simp [wdN]
set_option maxHeartbeats 4000000 in
theorem p_act (a : Ac) : PC Tryz.prog 41 [.agg (Ac.av a)] (.v (.bool (acOK a))) := by
  obtain ⟨what, who, which⟩ := a
  rcases what_in (what := what) with ⟨k, hk, rfl⟩ | h
  · have hw := p_wordY k hk
    have hn := wdB_ne k hk
    have hs := p_ssmall
    have e : acOK ⟨(k : Int), who, which⟩ = (if wdN k = 1 then smB which && decide (who = 0) else if wdN k = 2 then smB who && decide (which = 0) else decide (who = 0) && decide (which = 0)) := by
      unfold acOK
      dsimp only
      rw [if_pos ⟨by omega, by omega⟩, Int.toNat_natCast]
    rw [e]
    generalize wdB k = w at *
    unfold Ac.av
    rcases wdN_in k with h0 | h0 | h0
    all_goals
      rw [h0] at hw
      rw [h0]
      simp only [if_true, if_false, smB, Int.reduceEq, show ¬ ((0 : Int) = 1) by decide, show ¬ ((0 : Int) = 2) by decide, show ¬ ((2 : Int) = 1) by decide]
      refine PC.mk (ac_body tab_ok Tryz.func41 rfl (by kernel_rfl) rfl ?_); intro w0 M μ0; simp only [Tryz.ntmps41, List.length_cons, List.length_nil, Nat.reduceAdd, Nat.reduceSub, numb]
      repeat' (first | ((first | apply o_do | apply d_do | apply d_yes rfl rfl rfl); first | exact lsc (hw) | exact lsc ((hs _)) | exact lsq) | refine a_seq ?_ | refine a_region ?_ | refine o_nil ?_ | refine a_block ?_ | refine a_ret ?_ | refine a_exit ?_ | refine a_skip ?_ | refine a_draw mixed ?_ | refine d_nil (by kernel_rfl) ?_ | refine o_yes rfl rfl rfl ?_ | refine o_no rfl rfl rfl (by decide) ?_ | refine o_no' rfl rfl rfl ?_ | refine a_condT rfl ?_ | refine a_condF rfl ?_ | refine d_no rfl rfl rfl (by decide) ?_ | refine d_no' rfl rfl rfl ?_ | (refine wq2 (fun hb => ?_) (fun hb => ?_) <;> (simp only [hb]; try simp only [hbs, ne_eq] at hb; try (exfalso; first | omega | exact hb trivial))) | fail)
      all_goals try (exfalso; simp_all; done)
      all_goals refine rq rfl ?_
      all_goals (first | refine FinA.tup ?_ | refine FinA.one ?_); repeat' (first | exact FinBs.nil | exact FinCs.nil | refine FinBs.cons ?_ ?_ | refine FinCs.cons ?_ ?_ | refine FinB.cell (FinC.v ?_) | refine FinB.cell (FinC.own rfl rfl rfl ?_) | exact FinB.cell FinC.nil | refine FinB.cell (FinC.sl ?_) | exact FinB.agg' rfl rfl | exact FinB.cell (FinC.same rfl) | refine FinB.agg ?_ | refine FinC.v ?_ | refine FinC.own rfl rfl rfl ?_ | exact FinC.nil | refine FinC.sl ?_ | exact FinC.same rfl); all_goals try rfl
      all_goals simp [*]
  · have hw := p_wordN what h
    have e : acOK ⟨what, who, which⟩ = false := by
      unfold acOK
      rw [if_neg (by dsimp only; omega)]
    rw [e]
    unfold Ac.av
    refine PC.mk (ac_body tab_ok Tryz.func41 rfl (by kernel_rfl) rfl ?_); intro w0 M μ0; simp only [Tryz.ntmps41, List.length_cons, List.length_nil, Nat.reduceAdd, Nat.reduceSub, numb]
    repeat' (first | ((first | apply o_do | apply d_do | apply d_yes rfl rfl rfl); first | exact lsc (hw) | exact lsq) | refine a_seq ?_ | refine a_region ?_ | refine o_nil ?_ | refine a_block ?_ | refine a_ret ?_ | refine a_exit ?_ | refine a_skip ?_ | refine a_draw mixed ?_ | refine d_nil (by kernel_rfl) ?_ | refine o_yes rfl rfl rfl ?_ | refine o_no rfl rfl rfl (by decide) ?_ | refine o_no' rfl rfl rfl ?_ | refine a_condT rfl ?_ | refine a_condF rfl ?_ | refine d_no rfl rfl rfl (by decide) ?_ | refine d_no' rfl rfl rfl ?_ | (refine wq2 (fun hb => ?_) (fun hb => ?_) <;> (simp only [hb]; try simp only [hbs, ne_eq] at hb; try (exfalso; first | omega | exact hb trivial))) | fail)
    all_goals try (exfalso; simp_all; done)
    all_goals refine rq rfl ?_
    all_goals exact fnq
/-- small letters alone -/
def letB (s : ByteArray) : Bool := s.data.toList.all fun c => decide (97 ≤ c.toNat) && decide (c.toNat ≤ 122)
theorem let_at {s : ByteArray} {q : Nat} (hq : q < s.size) (h : ¬ (97 ≤ s[q].toNat ∧ s[q].toNat ≤ 122)) : letB s = false := by
  unfold letB
  rw [List.all_eq_false]
  refine ⟨s[q], ?_, by simpa using h⟩
  have h2 : q < s.data.toList.length := by rw [Array.length_toList]; exact hq
  have : s.data.toList[q] = s[q] := rfl
  rw [← this]
  exact List.getElem_mem h2
theorem let_all {s : ByteArray} (h : ∀ q (hq : q < s.size), 97 ≤ s[q].toNat ∧ s[q].toNat ≤ 122) : letB s = true := by
  unfold letB
  rw [List.all_eq_true]
  intro c hc
  obtain ⟨q, hq, rfl⟩ := List.getElem_of_mem hc
  have hq2 : q < s.size := by rw [Array.length_toList] at hq; exact hq
  have := h q hq2
  have e : s.data.toList[q] = s[q] := rfl
  rw [e]
  simpa using this
set_option maxHeartbeats 2000000 in
theorem p_letters (s : ByteArray) (hs : s.size ≤ 9223372036854775807) : PC Tryz.prog 38 [.v (.string s)] (.v (.bool (letB s))) := by
  refine PC.mk (ac_body tab_ok Tryz.func38 rfl (by kernel_rfl) rfl ?_); intro w0 M μ0; simp only [Tryz.ntmps38, List.length_cons, List.length_nil, Nat.reduceAdd, Nat.reduceSub, numb]
  repeat' (first | ((first | apply o_do | apply d_do | apply d_yes rfl rfl rfl); exact lsq) | refine a_seq ?_ | refine a_region ?_ | refine o_nil ?_ | refine a_block ?_ | refine a_ret ?_ | refine a_exit ?_ | refine a_skip ?_ | refine a_draw mixed ?_ | refine d_nil (by kernel_rfl) ?_ | refine o_yes rfl rfl rfl ?_ | refine o_no rfl rfl rfl (by decide) ?_ | refine o_no' rfl rfl rfl ?_ | refine a_condT rfl ?_ | refine a_condF rfl ?_ | refine d_no rfl rfl rfl (by decide) ?_ | refine d_no' rfl rfl rfl ?_ | (refine wq2 (fun hb => ?_) (fun hb => ?_) <;> (simp only [hb]; try simp only [hbs, ne_eq] at hb; try (exfalso; first | omega | exact hb trivial))) | fail)
  refine a_loop (X := {q : Nat // q ≤ s.size ∧ ∀ j (hj : j < s.size), j < q → 97 ≤ s[j].toNat ∧ s[j].toNat ≤ 122}) (fun p => ⟨[(0, .v (.string s)), (5, .v (.int .i64 s.size)), (6, .v (.int .i64 p.1))], []⟩) (fun p => s.size - p.1) ⟨0, Nat.zero_le _, fun j _ h => absurd h (Nat.not_lt_zero _)⟩ ?_ ?_
  · exact wkS
  rintro ⟨q, hq, hall⟩
  dsimp only
  by_cases hlt : q < s.size
  · by_cases hc : 97 ≤ s[q].toNat ∧ s[q].toNat ≤ 122
    · have hnx : ∀ j (hj : j < s.size), j < q + 1 → 97 ≤ s[j].toNat ∧ s[j].toNat ≤ 122 := fun j hj h => by
        rcases Nat.lt_or_ge j q with h2 | h2
        · exact hall j hj h2
        · obtain rfl : j = q := by omega
          exact hc
      repeat' (first | ((first | apply o_do | apply d_do | apply d_yes rfl rfl rfl); first | exact ls_index_str (q := q) tab_ok rfl rfl rfl rfl hlt rfl | exact lsq) | refine a_seq ?_ | refine a_region ?_ | refine o_nil ?_ | refine a_block ?_ | refine a_ret ?_ | refine a_exit ?_ | refine a_skip ?_ | refine a_draw mixed ?_ | refine d_nil (by kernel_rfl) ?_ | refine o_yes rfl rfl rfl ?_ | refine o_no rfl rfl rfl (by decide) ?_ | refine o_no' rfl rfl rfl ?_ | refine a_condT rfl ?_ | refine a_condF rfl ?_ | refine d_no rfl rfl rfl (by decide) ?_ | refine d_no' rfl rfl rfl ?_ | (refine wq2 (fun hb => ?_) (fun hb => ?_) <;> (simp only [hb]; try simp only [hbs, ne_eq] at hb; try (exfalso; first | omega | exact hb trivial))) | fail)
      refine ⟨⟨q + 1, by omega, hnx⟩, by dsimp only; omega, ?_⟩
      exact wkS
    · rw [let_at hlt hc]
      repeat' (first | ((first | apply o_do | apply d_do | apply d_yes rfl rfl rfl); first | exact ls_index_str (q := q) tab_ok rfl rfl rfl rfl hlt rfl | exact lsq) | refine a_seq ?_ | refine a_region ?_ | refine o_nil ?_ | refine a_block ?_ | refine a_ret ?_ | refine a_exit ?_ | refine a_skip ?_ | refine a_draw mixed ?_ | refine d_nil (by kernel_rfl) ?_ | refine o_yes rfl rfl rfl ?_ | refine o_no rfl rfl rfl (by decide) ?_ | refine o_no' rfl rfl rfl ?_ | refine a_condT rfl ?_ | refine a_condF rfl ?_ | refine d_no rfl rfl rfl (by decide) ?_ | refine d_no' rfl rfl rfl ?_ | (refine wq2 (fun hb => ?_) (fun hb => ?_) <;> (simp only [hb]; try simp only [hbs, ne_eq] at hb; try (exfalso; first | omega | exact hb trivial))) | fail)
      all_goals try (exfalso; omega)
      all_goals refine rq rfl ?_
      all_goals exact fnq
  · obtain rfl : q = s.size := by omega
    rw [let_all fun j hj => hall j hj hj]
    repeat' (first | ((first | apply o_do | apply d_do | apply d_yes rfl rfl rfl); exact lsq) | refine a_seq ?_ | refine a_region ?_ | refine o_nil ?_ | refine a_block ?_ | refine a_ret ?_ | refine a_exit ?_ | refine a_skip ?_ | refine a_draw mixed ?_ | refine d_nil (by kernel_rfl) ?_ | refine o_yes rfl rfl rfl ?_ | refine o_no rfl rfl rfl (by decide) ?_ | refine o_no' rfl rfl rfl ?_ | refine a_condT rfl ?_ | refine a_condF rfl ?_ | refine d_no rfl rfl rfl (by decide) ?_ | refine d_no' rfl rfl rfl ?_ | (refine wq2 (fun hb => ?_) (fun hb => ?_) <;> (simp only [hb]; try simp only [hbs, ne_eq] at hb; try (exfalso; first | omega | exact hb trivial))) | fail)
    all_goals refine rq rfl ?_
    all_goals exact fnq
set_option maxHeartbeats 2000000 in
theorem p_rLetters (s : ByteArray) (hs : s.size ≤ 9223372036854775807) : PC Tryz.prog 87 [.v (.string s)] (.v (.bool (letB s))) := by
  refine PC.mk (ac_body tab_ok Tryz.func87 rfl (by kernel_rfl) rfl ?_); intro w0 M μ0; simp only [Tryz.ntmps87, List.length_cons, List.length_nil, Nat.reduceAdd, Nat.reduceSub, numb]
  repeat' (first | ((first | apply o_do | apply d_do | apply d_yes rfl rfl rfl); exact lsq) | refine a_seq ?_ | refine a_region ?_ | refine o_nil ?_ | refine a_block ?_ | refine a_ret ?_ | refine a_exit ?_ | refine a_skip ?_ | refine a_draw mixed ?_ | refine d_nil (by kernel_rfl) ?_ | refine o_yes rfl rfl rfl ?_ | refine o_no rfl rfl rfl (by decide) ?_ | refine o_no' rfl rfl rfl ?_ | refine a_condT rfl ?_ | refine a_condF rfl ?_ | refine d_no rfl rfl rfl (by decide) ?_ | refine d_no' rfl rfl rfl ?_ | (refine wq2 (fun hb => ?_) (fun hb => ?_) <;> (simp only [hb]; try simp only [hbs, ne_eq] at hb; try (exfalso; first | omega | exact hb trivial))) | fail)
  refine a_loop (X := {q : Nat // q ≤ s.size ∧ ∀ j (hj : j < s.size), j < q → 97 ≤ s[j].toNat ∧ s[j].toNat ≤ 122}) (fun p => ⟨[(0, .v (.string s)), (3, .v (.int .i64 p.1))], []⟩) (fun p => s.size - p.1) ⟨0, Nat.zero_le _, fun j _ h => absurd h (Nat.not_lt_zero _)⟩ ?_ ?_
  · exact wkS
  rintro ⟨q, hq, hall⟩
  dsimp only
  by_cases hlt : q < s.size
  · by_cases hc : 97 ≤ s[q].toNat ∧ s[q].toNat ≤ 122
    · have hnx : ∀ j (hj : j < s.size), j < q + 1 → 97 ≤ s[j].toNat ∧ s[j].toNat ≤ 122 := fun j hj h => by
        rcases Nat.lt_or_ge j q with h2 | h2
        · exact hall j hj h2
        · obtain rfl : j = q := by omega
          exact hc
      repeat' (first | ((first | apply o_do | apply d_do | apply d_yes rfl rfl rfl); first | exact ls_index_str (q := q) tab_ok rfl rfl rfl rfl hlt rfl | exact lsq) | refine a_seq ?_ | refine a_region ?_ | refine o_nil ?_ | refine a_block ?_ | refine a_ret ?_ | refine a_exit ?_ | refine a_skip ?_ | refine a_draw mixed ?_ | refine d_nil (by kernel_rfl) ?_ | refine o_yes rfl rfl rfl ?_ | refine o_no rfl rfl rfl (by decide) ?_ | refine o_no' rfl rfl rfl ?_ | refine a_condT rfl ?_ | refine a_condF rfl ?_ | refine d_no rfl rfl rfl (by decide) ?_ | refine d_no' rfl rfl rfl ?_ | (refine wq2 (fun hb => ?_) (fun hb => ?_) <;> (simp only [hb]; try simp only [hbs, ne_eq] at hb; try (exfalso; first | omega | exact hb trivial))) | fail)
      refine ⟨⟨q + 1, by omega, hnx⟩, by dsimp only; omega, ?_⟩
      exact wkS
    · rw [let_at hlt hc]
      repeat' (first | ((first | apply o_do | apply d_do | apply d_yes rfl rfl rfl); first | exact ls_index_str (q := q) tab_ok rfl rfl rfl rfl hlt rfl | exact lsq) | refine a_seq ?_ | refine a_region ?_ | refine o_nil ?_ | refine a_block ?_ | refine a_ret ?_ | refine a_exit ?_ | refine a_skip ?_ | refine a_draw mixed ?_ | refine d_nil (by kernel_rfl) ?_ | refine o_yes rfl rfl rfl ?_ | refine o_no rfl rfl rfl (by decide) ?_ | refine o_no' rfl rfl rfl ?_ | refine a_condT rfl ?_ | refine a_condF rfl ?_ | refine d_no rfl rfl rfl (by decide) ?_ | refine d_no' rfl rfl rfl ?_ | (refine wq2 (fun hb => ?_) (fun hb => ?_) <;> (simp only [hb]; try simp only [hbs, ne_eq] at hb; try (exfalso; first | omega | exact hb trivial))) | fail)
      all_goals try (exfalso; omega)
      all_goals refine rq rfl ?_
      all_goals exact fnq
  · obtain rfl : q = s.size := by omega
    rw [let_all fun j hj => hall j hj hj]
    repeat' (first | ((first | apply o_do | apply d_do | apply d_yes rfl rfl rfl); exact lsq) | refine a_seq ?_ | refine a_region ?_ | refine o_nil ?_ | refine a_block ?_ | refine a_ret ?_ | refine a_exit ?_ | refine a_skip ?_ | refine a_draw mixed ?_ | refine d_nil (by kernel_rfl) ?_ | refine o_yes rfl rfl rfl ?_ | refine o_no rfl rfl rfl (by decide) ?_ | refine o_no' rfl rfl rfl ?_ | refine a_condT rfl ?_ | refine a_condF rfl ?_ | refine d_no rfl rfl rfl (by decide) ?_ | refine d_no' rfl rfl rfl ?_ | (refine wq2 (fun hb => ?_) (fun hb => ?_) <;> (simp only [hb]; try simp only [hbs, ne_eq] at hb; try (exfalso; first | omega | exact hb trivial))) | fail)
    all_goals refine rq rfl ?_
    all_goals exact fnq
end Go.Proofs.YtbhblhcgfenobaaGreatDoor
namespace Go.Proofs.YtbhblhcgfenobaaGreatDoor
open Go.RowKit
set_option linter.unusedSimpArgs false
set_option linter.unusedVariables false
/-! cut at a byte -/
def oneB (c : UInt8) : ByteArray := ⟨#[c]⟩
theorem cutc_at {c : UInt8} {s : ByteArray} {l r : List UInt8} (hs : s.data.toList = l ++ c :: r) (h : c ∉ l) : cutC s (oneB c) = true ∧ cutA s (oneB c) = mkB l ∧ cutB s (oneB c) = mkB r := by
  have e : (oneB c).data.toList = [c] := rfl
  have hi : Lib.index s.data.toList (oneB c).data.toList = (l.length : Int) := by rw [hs, e, Lib.index_one, ib_at c l r h]
  unfold cutC cutA cutB Lib.cut
  rw [hi, if_pos (by omega), e, hs]
  refine ⟨rfl, ?_, ?_⟩
  · simp [mkB]
  · simp [mkB]
theorem cutc_no {c : UInt8} {s : ByteArray} (h : c ∉ s.data.toList) : cutC s (oneB c) = false ∧ cutA s (oneB c) = s ∧ cutB s (oneB c) = ⟨#[]⟩ := by
  have e : (oneB c).data.toList = [c] := rfl
  have hi : Lib.index s.data.toList (oneB c).data.toList = -1 := by rw [e, Lib.index_one, ib_no c _ h]
  unfold cutC cutA cutB Lib.cut
  rw [hi, if_neg (by omega)]
  exact ⟨rfl, rfl, rfl⟩
theorem cutc_sm {s : ByteArray} (c : UInt8) (h : Sm s) : Sm (cutA s (oneB c)) ∧ Sm (cutB s (oneB c)) := by
  by_cases hm : c ∈ s.data.toList
  · obtain ⟨l, r, e, hl⟩ := mem_split c _ hm
    obtain ⟨_, h1, h2⟩ := cutc_at e hl
    rw [h1, h2]
    have e2 := congrArg List.length e
    rw [size_list, List.length_append, List.length_cons] at e2
    unfold Sm at *
    rw [← size_list, ← size_list, mkB_list, mkB_list]
    omega
  · obtain ⟨_, h1, h2⟩ := cutc_no hm
    rw [h1, h2]
    exact ⟨h, Nat.zero_le _⟩
/-! numbers with a sign -/
theorem parse_dig2 (M : Nat) (hM : 9223372036854775808 ≤ M) : ∀ (u : Nat), u ≤ 9223372036854775808 → ∀ r, Lib.parseUintM M 0 (Lib.decDigits u ++ r) = Lib.parseUintM M u r := by
  intro u
  induction u using Nat.strongRecOn with
  | _ u ih =>
    intro hu r
    rw [Lib.decDigits]
    split
    · rename_i h
      have h1 := dig_one u h
      simp only [List.cons_append, List.nil_append, Lib.parseUintM, h1]
      rw [if_pos (by omega), if_neg (by omega), if_neg (by omega)]
      congr 1
      omega
    · rename_i h
      have h1 := dig_one (u % 10) (by omega)
      rw [List.append_assoc, ih (u / 10) (by omega) (by omega)]
      simp only [List.cons_append, List.nil_append, Lib.parseUintM, h1]
      rw [if_pos (by omega), if_neg (by omega), if_neg (by omega)]
      congr 1
      omega
theorem itoB_neg {u : Nat} (h : 1 ≤ u) : (itoB (-(u : Int))).data.toList = 45 :: Lib.decDigits u := by unfold itoB; rw [Lib.itoa_neg u h]
theorem parse_neg {u : Nat} (h0 : 1 ≤ u) (h1 : u ≤ 9223372036854775808) : Lib.parseIntB 64 (itoB (-(u : Int))).data.toList = .ok (-(u : Int)) := by
  rw [itoB_neg h0]
  have hne := dig_ne u
  have hp := parse_dig2 (2 ^ 64 - 1) (by decide) u h1 []
  rw [List.append_nil] at hp
  have h2 : Lib.parseUintB 64 (Lib.decDigits u) = .ok u := by
    unfold Lib.parseUintB
    rw [if_neg (by cases h : Lib.decDigits u with
      | nil => exact absurd h hne
      | cons c r => simp), hp]
    rfl
  unfold Lib.parseIntB
  dsimp only
  have e45 : (45 : UInt8).toNat = 45 := rfl
  rw [e45, if_pos (.inr rfl), h2]
  dsimp only
  have e2 : (2 : Nat) ^ (64 - 1) = 9223372036854775808 := by decide
  rw [e2, if_neg (by omega), if_neg (by omega), if_pos rfl]
def wholeB (s : ByteArray) : Bool := match Lib.parseIntB 64 s.data.toList with
  | .ok v => (itoB v).toList == s.toList
  | _ => false
theorem whole_back {v : Int} (h : i64 v) : wholeB (itoB v) = true ∧ numV (itoB v) = v := by
  have hp : Lib.parseIntB 64 (itoB v).data.toList = .ok v := by
    rcases Int.lt_or_le v 0 with h0 | h0
    · obtain ⟨u, rfl⟩ : ∃ u : Nat, v = -(u : Int) := ⟨v.natAbs, by omega⟩
      exact parse_neg (by omega) (by have := h.1; omega)
    · exact parse_itoa v h0 h.2
  unfold wholeB numV
  rw [hp]
  exact ⟨by simp, rfl⟩
theorem whole_once {s : ByteArray} (h : wholeB s = true) : i64 (numV s) ∧ s = itoB (numV s) := by
  unfold wholeB at h
  unfold numV
  cases hp : Lib.parseIntB 64 s.data.toList with
  | ok v =>
    rw [hp] at h
    simp only [beq_iff_eq] at h
    have hb := Lib.parseIntB_bounds hp
    have e2 : ((2 ^ (64 - 1) : Nat) : Int) = 9223372036854775808 := by decide
    rw [e2] at hb
    exact ⟨⟨by dsimp only; omega, by dsimp only; omega⟩, (bytes_ext h).symm⟩
  | _ => rw [hp] at h; cases h
theorem num_whole (s : ByteArray) : numB s = (wholeB s && decide (numV s ≥ 0)) := by
  unfold numB wholeB numV
  cases Lib.parseIntB 64 s.data.toList with
  | ok v => exact Bool.and_comm _ _
  | _ => rfl
/-- the reference's number: digits and nothing behind -/
theorem numS_iff (s : ByteArray) : ((numS s).2.2 && ((numS s).2.1.toList == em.toList)) = numB s ∧ (numB s = true → (numS s).1 = numV s) := by
  have hD := dg_of s
  by_cases hb : badN (dgD s)
  · have e : numS s = (0, s, false) := by unfold numS; rw [if_pos hb]
    have hn : numB s = false := by
      cases hn : numB s
      · rfl
      · exfalso
        obtain ⟨n, hn1, rfl, _⟩ := num_in hn
        obtain ⟨u, rfl⟩ : ∃ u : Nat, n = (u : Int) := ⟨n.toNat, by have := hn1.1; omega⟩
        have e2 := itoB_nat u
        have e3 := hD.eq
        rw [e2] at e3
        obtain ⟨e4, _⟩ := dg_uniq (Lib.decDigits u) (dgD (itoB (u : Int))) [] (dgR (itoB (u : Int))) (by rw [List.append_nil]; exact e3) isD_dig hD.dig (fun c t h => by cases h) hD.stop
        rw [← e4] at hb
        exact good_dig (by have := hn1.2; omega) hb
    rw [e, hn]
    exact ⟨rfl, fun h => by cases h⟩
  · have e : numS s = (((valF 0 (dgD s) : Nat) : Int), mkB (dgR s), true) := by unfold numS; rw [if_neg hb]
    have hc := bad_canon hD.dig hb
    have hle := good_le hD.dig hb
    rw [e]
    dsimp only
    rw [Bool.true_and]
    cases hr : dgR s with
    | nil =>
      have es : s = itoB ((valF 0 (dgD s) : Nat) : Int) := by
        apply bytes_ext2
        rw [itoB_nat, hc, hD.eq, hr, List.append_nil]
      have hk := num_back (n := ((valF 0 (dgD s) : Nat) : Int)) (by omega) (by omega)
      rw [← es] at hk
      rw [hk.2]
      exact ⟨by rw [show mkB [] = em from rfl]; simp, fun _ => hk.1.symm⟩
    | cons c r =>
      have hn : numB s = false := by
        cases hn : numB s
        · rfl
        · exfalso
          obtain ⟨n, hn1, es, _⟩ := num_in hn
          obtain ⟨u, rfl⟩ : ∃ u : Nat, n = (u : Int) := ⟨n.toNat, by have := hn1.1; omega⟩
          have e2 := itoB_nat u
          have e3 := hD.eq
          rw [es, e2] at e3
          rw [← es] at e3
          obtain ⟨_, e5⟩ := dg_uniq (Lib.decDigits u) (dgD s) [] (dgR s) (by rw [List.append_nil]; exact e3) isD_dig hD.dig (fun c t h => by cases h) hD.stop
          rw [hr] at e5; cases e5
      rw [hn]
      refine ⟨?_, fun h => by cases h⟩
      rw [beq_eq_false_iff_ne]
      intro h
      have := congrArg List.length h
      simp [ByteArray.toList_eq, mkB, em] at this
end Go.Proofs.YtbhblhcgfenobaaGreatDoor
