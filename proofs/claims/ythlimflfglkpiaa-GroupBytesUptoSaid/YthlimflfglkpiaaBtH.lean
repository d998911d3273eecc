/-
  A group written as bytes, walked over abstract values.
-/
import Derived.Test.YthlimflfglkpiaaBtG
import Derived.Test.YthlimflfglkpiaaGrAR
namespace Go.Proofs.Ythlimflfglkpiaa
open Go.RowKit
set_option linter.unusedSimpArgs false
set_option linter.unusedVariables false
def niv (n : Int) : List AV := [.v (.int .i64 n)]
def i64P (n : Int) : Prop := -9223372036854775808 ≤ n ∧ n ≤ 9223372036854775807
structure PI (p : Pn) : Prop where
  lo : i64P p.lo
  hi : i64P p.hi
  n : i64P p.n
  a : i64P p.a
  b : i64P p.b
/-- a number's bytes; none, if it is below 0 -/
def nb (n : Int) : List UInt8 := if 0 ≤ n then dg n.toNat else []
theorem nb_len {n : Int} (h : i64P n) : (nb n).length ≤ 10 := by
  unfold nb
  unfold i64P at h
  split
  · exact dg_len (by omega)
  · simp
def nbs (ns : List Int) : List UInt8 := ns.flatMap nb
theorem nbs_len : ∀ {ns : List Int}, (∀ n ∈ ns, i64P n) → (nbs ns).length ≤ 10 * ns.length
  | [], _ => by simp [nbs]
  | n :: ns, h => by
    have h1 := nb_len (h n (by simp))
    have h2 := nbs_len (ns := ns) fun m hm => h m (by simp [hm])
    unfold nbs at *
    simp only [List.flatMap_cons, List.length_append, List.length_cons]
    omega
theorem nbs_take {ns : List Int} {q : Nat} (hq : q < ns.length) : nbs (ns.take (q + 1)) = nbs (ns.take q) ++ nb ns[q] := by
  unfold nbs
  rw [List.take_succ_eq_append_getElem hq, List.flatMap_append]
  simp
/-- the bytes that are written so far -/
def GB (l : List UInt8) : Store := [(0, .box 36 [.own 1 (l.map byAv).length]), (1, .row 5 1 (l.map byAv))]
theorem list_of_mk (l : List UInt8) : (⟨l.toArray⟩ : ByteArray).data.toList = l := rfl
set_option maxHeartbeats 4000000 in
set_option maxRecDepth 20000 in
theorem g_numbers (ns : List Int) (l : List UInt8) (hn : ∀ n ∈ ns, i64P n) (hm : ns.length ≤ 10) (hl : l.length ≤ 1000000000000) : AC Try.prog 14 [.sl 1 (ns.map niv), .ref 0 0] (GB l) (.tup []) (GB (l ++ nbs ns)) := by
  have hnl : (ns.map niv).length = ns.length := List.length_map _
  unfold GB
  refine (ac_body tab_ok Try.func14 rfl (by kernel_rfl) rfl ?_); intro w0 M μ0; simp only [Try.ntmps14, List.length_cons, List.length_nil, Nat.reduceAdd, Nat.reduceSub, numb]
  repeat' (first | ((first | apply o_do | apply d_do | apply d_yes rfl rfl rfl); exact lsq) | refine a_seq ?_ | refine a_region ?_ | refine o_nil ?_ | refine a_block ?_ | refine a_ret ?_ | refine a_exit ?_ | refine a_skip ?_ | refine a_draw mixed ?_ | refine d_nil (by kernel_rfl) ?_ | refine o_yes rfl rfl rfl ?_ | refine o_no rfl rfl rfl (by decide) ?_ | refine o_no' rfl rfl rfl ?_ | refine a_condT rfl ?_ | refine a_condF rfl ?_ | refine d_no rfl rfl rfl (by decide) ?_ | refine d_no' rfl rfl rfl ?_ | (refine wq2 (fun hb => ?_) (fun hb => ?_) <;> (simp only [hb]; try simp only [hbs, ne_eq] at hb; try (exfalso; first | omega | exact hb trivial))) | fail)
  refine a_loop (X := {q : Nat // q ≤ ns.length}) (fun p => ⟨[(1, .ref 0 0), (7, .sl 1 (ns.map niv)), (8, .v (.int .i64 ns.length)), (9, .v (.int .i64 p.1))], GB (l ++ nbs (ns.take p.1))⟩) (fun p => ns.length - p.1) ⟨0, Nat.zero_le _⟩ ?_ ?_
  · unfold GB
    refine ⟨by repeat' (first | exact trivial | exact FinA.one (FinB.cell (FinC.same rfl)) | exact FinA.one (FinB.cell FinC.nil) | exact FinA.bound rfl | exact FinA.one (FinB.cell (FinC.own rfl rfl rfl rfl)) | exact FinA.one (FinB.cell (FinC.v (by first | rfl | (simp [nbs])))) | exact FinA.one (FinB.cell (FinC.ow rfl (by first | rfl | (simp [nbs])))) | exact FinA.one (FinB.agg' rfl rfl) | refine ⟨⟨_, rfl, ?_⟩, ?_⟩), by repeat' (first | exact trivial | refine ⟨⟨_, rfl, by first | rfl | (simp [nbs]; done) | (simp [renO, *]; done)⟩, by first | rfl | assumption, ?_⟩), rfl⟩
  rintro ⟨q, hq⟩
  dsimp only
  by_cases hlt : q < ns.length
  · have hel : (ns.map niv)[q]? = some (niv ns[q]) := by simp [hlt]
    have hr := hn ns[q] (List.getElem_mem hlt)
    have hP := v_Put ns[q] hr.1 hr.2
    have hbl := nb_len hr
    have hdg : (if 0 ≤ ns[q] then dgB ns[q].toNat else ⟨#[]⟩) = (⟨(nb ns[q]).toArray⟩ : ByteArray) := by
      unfold nb dgB
      split <;> rfl
    rw [hdg] at hP
    have htl := nbs_len (ns := ns.take q) fun n hn' => hn n (List.mem_of_mem_take hn')
    rw [List.length_take] at htl
    have hst : l ++ nbs (ns.take (q + 1)) = (l ++ nbs (ns.take q)) ++ nb ns[q] := by rw [nbs_take hlt, List.append_assoc]
    have hL : (l ++ nbs (ns.take q)).length ≤ 1000000000100 := by rw [List.length_append]; omega
    generalize l ++ nbs (ns.take q) = L at *
    generalize nb ns[q] = z at *
    generalize (if 0 ≤ ns[q] then (0 : Int) else 1) = ec at *
    have hLn : (L.map byAv).length = L.length := List.length_map _
    have hzs : (⟨z.toArray⟩ : ByteArray).size = z.length := by unfold ByteArray.size; simp
    unfold GB
    unfold niv at hel
    repeat' (first | ((first | apply o_do | apply d_do | apply d_yes rfl rfl rfl); first | exact lsc (hP) | exact ls_indexAddr_sl tab_ok rfl rfl rfl rfl hel rfl | exact ls_appendS tab_ok u8_ok rfl rfl rfl rfl rfl rfl (by omega) rfl | exact lsq) | refine a_seq ?_ | refine a_region ?_ | refine o_nil ?_ | refine a_block ?_ | refine a_ret ?_ | refine a_exit ?_ | refine a_skip ?_ | refine a_draw mixed ?_ | refine d_nil (by kernel_rfl) ?_ | refine o_yes rfl rfl rfl ?_ | refine o_no rfl rfl rfl (by decide) ?_ | refine o_no' rfl rfl rfl ?_ | refine a_condT rfl ?_ | refine a_condF rfl ?_ | refine d_no rfl rfl rfl (by decide) ?_ | refine d_no' rfl rfl rfl ?_ | (refine wq2 (fun hb => ?_) (fun hb => ?_) <;> (simp only [hb]; try simp only [hbs, ne_eq] at hb; try (exfalso; first | omega | exact hb trivial))) | fail)
    refine ⟨⟨q + 1, by omega⟩, by dsimp only; omega, ?_⟩
    dsimp only
    rw [hst, List.map_append]
    refine ⟨by repeat' (first | exact trivial | exact FinA.one (FinB.cell (FinC.same rfl)) | exact FinA.one (FinB.cell FinC.nil) | exact FinA.bound rfl | exact FinA.one (FinB.cell (FinC.own rfl rfl rfl rfl)) | exact FinA.one (FinB.cell (FinC.v (by first | rfl | (simp)))) | exact FinA.one (FinB.cell (FinC.ow rfl (by first | rfl | (simp)))) | exact FinA.one (FinB.agg' rfl rfl) | refine ⟨⟨_, rfl, ?_⟩, ?_⟩), by repeat' (first | exact trivial | refine ⟨⟨_, rfl, by first | rfl | (simp; done) | (simp [renO, *]; done)⟩, by first | rfl | assumption, ?_⟩), rfl⟩
  · obtain rfl : q = ns.length := by omega
    rw [List.take_length]
    unfold GB
    repeat' (first | ((first | apply o_do | apply d_do | apply d_yes rfl rfl rfl); exact lsq) | refine a_seq ?_ | refine a_region ?_ | refine o_nil ?_ | refine a_block ?_ | refine a_ret ?_ | refine a_exit ?_ | refine a_skip ?_ | refine a_draw mixed ?_ | refine d_nil (by kernel_rfl) ?_ | refine o_yes rfl rfl rfl ?_ | refine o_no rfl rfl rfl (by decide) ?_ | refine o_no' rfl rfl rfl ?_ | refine a_condT rfl ?_ | refine a_condF rfl ?_ | refine d_no rfl rfl rfl (by decide) ?_ | refine d_no' rfl rfl rfl ?_ | (refine wq2 (fun hb => ?_) (fun hb => ?_) <;> (simp only [hb]; try simp only [hbs, ne_eq] at hb; try (exfalso; first | omega | exact hb trivial))) | fail)
    all_goals refine ⟨by first | exact .inr rfl | exact .inl rfl, _, rfl, ?_, by repeat' (first | exact trivial | refine ⟨⟨_, rfl, by first | rfl | (simp [renO, *]; done)⟩, by first | rfl | assumption, ?_⟩)⟩
    all_goals (first | refine FinA.tup ?_ | refine FinA.one ?_); repeat' (first | exact FinBs.nil | exact FinCs.nil | refine FinBs.cons ?_ ?_ | refine FinCs.cons ?_ ?_ | refine FinB.cell (FinC.v ?_) | refine FinB.cell (FinC.own rfl rfl rfl ?_) | exact FinB.cell FinC.nil | refine FinB.cell (FinC.sl ?_) | exact FinB.agg' rfl rfl | exact FinB.cell (FinC.same rfl) | refine FinB.agg ?_ | refine FinC.v ?_ | refine FinC.own rfl rfl rfl ?_ | exact FinC.nil | refine FinC.sl ?_ | exact FinC.same rfl); all_goals try rfl
end Go.Proofs.Ythlimflfglkpiaa
