/-
  Jobs, walked over abstract values: which may be; how one is written, by the program and by the reference.
  The last step of a law's row, over whatever program: the call returned true and nothing that was there has turned. No condition.
-/
import Derived.ProofKit
import Derived.OpenShut
import Derived.JoinedCond
import Derived.Carry
import Derived.Deep.Slices
import GoSem.Claim
import GoSem.ClaimJoined
import Derived.Test.YtbhblhcgfenobaaGreatDoorK1
import Derived.Test.YtbhblhcgfenobaaGreatDoorK4
namespace Go.Proofs.YtbhblhcgfenobaaGreatDoor
open Go.RowKit
set_option linter.unusedSimpArgs false
set_option linter.unusedVariables false
def jobOK (g s d k fu li de id : Int) : Bool := decide (1 ≤ g) && (decide (g ≤ 32) && (winB s d && (fRight k && (decide (0 ≤ fu) && (decide (fu ≤ 40) && (decide (0 ≤ li) && (decide (0 ≤ de) && (decide (de ≤ 1099511627776) && (decide (0 ≤ id) && decide (id ≤ 1048576))))))))))
def jAv (g s d k fu li de id : Int) : List AV := [.v (.int .i64 g), .v (.int .i64 s), .v (.int .i64 d), .v (.int .i64 k), .v (.int .i64 fu), .v (.int .i64 li), .v (.int .i64 de), .v (.int .i64 id)]
set_option maxHeartbeats 2000000 in
theorem j_Right (g s d k fu li de id : Int) : PC Tryz.prog 34 [.agg (jAv g s d k fu li de id)] (.v (.bool (jobOK g s d k fu li de id))) := by
  have h1 := p_wRight s d
  have h2 := p_fRight k
  unfold jobOK jAv
  cases hw : winB s d <;> cases hf : fRight k
  all_goals
    rw [hw] at h1
    rw [hf] at h2
    refine PC.mk (ac_body tab_ok Tryz.func34 rfl (by kernel_rfl) rfl ?_); intro w0 M μ0; simp only [Tryz.ntmps34, List.length_cons, List.length_nil, Nat.reduceAdd, Nat.reduceSub, numb]
    repeat' (first | ((first | apply o_do | apply d_do | apply d_yes rfl rfl rfl); first | exact lsc (h1) | exact lsc (h2) | exact lsq) | refine a_seq ?_ | refine a_region ?_ | refine o_nil ?_ | refine a_block ?_ | refine a_ret ?_ | refine a_exit ?_ | refine a_skip ?_ | refine a_draw mixed ?_ | refine d_nil (by kernel_rfl) ?_ | refine o_yes rfl rfl rfl ?_ | refine o_no rfl rfl rfl (by decide) ?_ | refine o_no' rfl rfl rfl ?_ | refine a_condT rfl ?_ | refine a_condF rfl ?_ | refine d_no rfl rfl rfl (by decide) ?_ | refine d_no' rfl rfl rfl ?_ | (refine wq2 (fun hb => ?_) (fun hb => ?_) <;> (simp only [hb]; try simp only [hbs, ne_eq] at hb; try (exfalso; first | omega | exact hb trivial))) | fail)
    all_goals refine rq rfl ?_
    all_goals (first | refine FinA.tup ?_ | refine FinA.one ?_); repeat' (first | exact FinBs.nil | exact FinCs.nil | refine FinBs.cons ?_ ?_ | refine FinCs.cons ?_ ?_ | refine FinB.cell (FinC.v ?_) | refine FinB.cell (FinC.own rfl rfl rfl ?_) | exact FinB.cell FinC.nil | refine FinB.cell (FinC.sl ?_) | exact FinB.agg' rfl rfl | exact FinB.cell (FinC.same rfl) | refine FinB.agg ?_ | refine FinC.v ?_ | refine FinC.own rfl rfl rfl ?_ | exact FinC.nil | refine FinC.sl ?_ | exact FinC.same rfl); all_goals try rfl
    all_goals first | (simp [*]; done) | (simp [*]; omega)
set_option maxHeartbeats 2000000 in
theorem j_rRight (g s d k fu li de id : Int) : PC Tryz.prog 84 [.agg (jAv g s d k fu li de id)] (.v (.bool (jobOK g s d k fu li de id))) := by
  have h1 := g_rJob g s d k fu li de id
  unfold jobR at h1
  unfold jobOK jAv
  cases hw : winB s d <;> cases hf : fRight k
  all_goals
    rw [hw, hf] at h1
    refine PC.mk (ac_body tab_ok Tryz.func84 rfl (by kernel_rfl) rfl ?_); intro w0 M μ0; simp only [Tryz.ntmps84, List.length_cons, List.length_nil, Nat.reduceAdd, Nat.reduceSub, numb]
    repeat' (first | ((first | apply o_do | apply d_do | apply d_yes rfl rfl rfl); first | exact lsc (h1) | exact lsq) | refine a_seq ?_ | refine a_region ?_ | refine o_nil ?_ | refine a_block ?_ | refine a_ret ?_ | refine a_exit ?_ | refine a_skip ?_ | refine a_draw mixed ?_ | refine d_nil (by kernel_rfl) ?_ | refine o_yes rfl rfl rfl ?_ | refine o_no rfl rfl rfl (by decide) ?_ | refine o_no' rfl rfl rfl ?_ | refine a_condT rfl ?_ | refine a_condF rfl ?_ | refine d_no rfl rfl rfl (by decide) ?_ | refine d_no' rfl rfl rfl ?_ | (refine wq2 (fun hb => ?_) (fun hb => ?_) <;> (simp only [hb]; try simp only [hbs, ne_eq] at hb; try (exfalso; first | omega | exact hb trivial))) | fail)
    all_goals refine rq rfl ?_
    all_goals (first | refine FinA.tup ?_ | refine FinA.one ?_); repeat' (first | exact FinBs.nil | exact FinCs.nil | refine FinBs.cons ?_ ?_ | refine FinCs.cons ?_ ?_ | refine FinB.cell (FinC.v ?_) | refine FinB.cell (FinC.own rfl rfl rfl ?_) | exact FinB.cell FinC.nil | refine FinB.cell (FinC.sl ?_) | exact FinB.agg' rfl rfl | exact FinB.cell (FinC.same rfl) | refine FinB.agg ?_ | refine FinC.v ?_ | refine FinC.own rfl rfl rfl ?_ | exact FinC.nil | refine FinC.sl ?_ | exact FinC.same rfl); all_goals try rfl
    all_goals first | (simp [*]; done) | (simp [*]; omega) | (have a1 : 1 ≤ g := (by omega); have a2 : g ≤ 32 := (by omega); have a3 : 0 ≤ fu := (by omega); have a4 : fu ≤ 40 := (by omega); have a5 : 0 ≤ li := (by omega); simp [*])
def nmL : List ByteArray := [⟨#[99, 111, 117, 110, 116]⟩, ⟨#[115, 117, 109]⟩, ⟨#[108, 101, 97, 115, 116]⟩, ⟨#[103, 114, 101, 97, 116, 101, 115, 116]⟩, ⟨#[115, 112, 114, 101, 97, 100]⟩]
def nmQ (q : Nat) : ByteArray := nmL.getD q ⟨#[]⟩
def stAv (b : ByteArray) : List AV := [.v (.string b)]
theorem p_names : PC Tryz.prog 56 [] (.sl 1 (nmL.map stAv)) := by
  refine PC.mk (ac_body tab_ok Tryz.func56 rfl (by kernel_rfl) rfl ?_); intro w0 M μ0; simp only [Tryz.ntmps56, List.length_cons, List.length_nil, Nat.reduceAdd, Nat.reduceSub, numb]
  repeat' (first | ((first | apply o_do | apply d_do | apply d_yes rfl rfl rfl); exact lsq) | refine a_seq ?_ | refine a_region ?_ | refine o_nil ?_ | refine a_block ?_ | refine a_ret ?_ | refine a_exit ?_ | refine a_skip ?_ | refine a_draw mixed ?_ | refine d_nil (by kernel_rfl) ?_ | refine o_yes rfl rfl rfl ?_ | refine o_no rfl rfl rfl (by decide) ?_ | refine o_no' rfl rfl rfl ?_ | refine a_condT rfl ?_ | refine a_condF rfl ?_ | refine d_no rfl rfl rfl (by decide) ?_ | refine d_no' rfl rfl rfl ?_ | (refine wq2 (fun hb => ?_) (fun hb => ?_) <;> (simp only [hb]; try simp only [hbs, ne_eq] at hb; try (exfalso; first | omega | exact hb trivial))) | fail)
  refine rq rfl ?_
  exact fnq
theorem nm_size (q : Nat) : (nmQ q).data.size ≤ 8 := by
  rcases q with _ | _ | _ | _ | _ | q
  · decide
  · decide
  · decide
  · decide
  · decide
  · exact Nat.zero_le _
theorem nm_at {q : Nat} (h : q < 5) : (nmL.map stAv)[q]? = some (stAv (nmQ q)) := by
  rcases q with _ | _ | _ | _ | _ | q
  · rfl
  · rfl
  · rfl
  · rfl
  · rfl
  · omega
theorem p_rName (q : Nat) (h : q < 5) : PC Tryz.prog 107 [.v (.int .i64 ((q : Int) + 1))] (.v (.string (nmQ q))) := by
  rcases q with _ | _ | _ | _ | _ | q
  · refine PC.mk (ac_body tab_ok Tryz.func107 rfl (by kernel_rfl) rfl ?_); intro w0 M μ0; simp only [Tryz.ntmps107, List.length_cons, List.length_nil, Nat.reduceAdd, Nat.reduceSub, numb]
    repeat' (first | ((first | apply o_do | apply d_do | apply d_yes rfl rfl rfl); exact lsq) | refine a_seq ?_ | refine a_region ?_ | refine o_nil ?_ | refine a_block ?_ | refine a_ret ?_ | refine a_exit ?_ | refine a_skip ?_ | refine a_draw mixed ?_ | refine d_nil (by kernel_rfl) ?_ | refine o_yes rfl rfl rfl ?_ | refine o_no rfl rfl rfl (by decide) ?_ | refine o_no' rfl rfl rfl ?_ | refine a_condT rfl ?_ | refine a_condF rfl ?_ | refine d_no rfl rfl rfl (by decide) ?_ | refine d_no' rfl rfl rfl ?_ | (refine wq2 (fun hb => ?_) (fun hb => ?_) <;> (simp only [hb]; try simp only [hbs, ne_eq] at hb; try (exfalso; first | omega | exact hb trivial))) | fail)
    refine rq rfl ?_
    exact fnq
  · refine PC.mk (ac_body tab_ok Tryz.func107 rfl (by kernel_rfl) rfl ?_); intro w0 M μ0; simp only [Tryz.ntmps107, List.length_cons, List.length_nil, Nat.reduceAdd, Nat.reduceSub, numb]
    repeat' (first | ((first | apply o_do | apply d_do | apply d_yes rfl rfl rfl); exact lsq) | refine a_seq ?_ | refine a_region ?_ | refine o_nil ?_ | refine a_block ?_ | refine a_ret ?_ | refine a_exit ?_ | refine a_skip ?_ | refine a_draw mixed ?_ | refine d_nil (by kernel_rfl) ?_ | refine o_yes rfl rfl rfl ?_ | refine o_no rfl rfl rfl (by decide) ?_ | refine o_no' rfl rfl rfl ?_ | refine a_condT rfl ?_ | refine a_condF rfl ?_ | refine d_no rfl rfl rfl (by decide) ?_ | refine d_no' rfl rfl rfl ?_ | (refine wq2 (fun hb => ?_) (fun hb => ?_) <;> (simp only [hb]; try simp only [hbs, ne_eq] at hb; try (exfalso; first | omega | exact hb trivial))) | fail)
    refine rq rfl ?_
    exact fnq
  · refine PC.mk (ac_body tab_ok Tryz.func107 rfl (by kernel_rfl) rfl ?_); intro w0 M μ0; simp only [Tryz.ntmps107, List.length_cons, List.length_nil, Nat.reduceAdd, Nat.reduceSub, numb]
    repeat' (first | ((first | apply o_do | apply d_do | apply d_yes rfl rfl rfl); exact lsq) | refine a_seq ?_ | refine a_region ?_ | refine o_nil ?_ | refine a_block ?_ | refine a_ret ?_ | refine a_exit ?_ | refine a_skip ?_ | refine a_draw mixed ?_ | refine d_nil (by kernel_rfl) ?_ | refine o_yes rfl rfl rfl ?_ | refine o_no rfl rfl rfl (by decide) ?_ | refine o_no' rfl rfl rfl ?_ | refine a_condT rfl ?_ | refine a_condF rfl ?_ | refine d_no rfl rfl rfl (by decide) ?_ | refine d_no' rfl rfl rfl ?_ | (refine wq2 (fun hb => ?_) (fun hb => ?_) <;> (simp only [hb]; try simp only [hbs, ne_eq] at hb; try (exfalso; first | omega | exact hb trivial))) | fail)
    refine rq rfl ?_
    exact fnq
  · refine PC.mk (ac_body tab_ok Tryz.func107 rfl (by kernel_rfl) rfl ?_); intro w0 M μ0; simp only [Tryz.ntmps107, List.length_cons, List.length_nil, Nat.reduceAdd, Nat.reduceSub, numb]
    repeat' (first | ((first | apply o_do | apply d_do | apply d_yes rfl rfl rfl); exact lsq) | refine a_seq ?_ | refine a_region ?_ | refine o_nil ?_ | refine a_block ?_ | refine a_ret ?_ | refine a_exit ?_ | refine a_skip ?_ | refine a_draw mixed ?_ | refine d_nil (by kernel_rfl) ?_ | refine o_yes rfl rfl rfl ?_ | refine o_no rfl rfl rfl (by decide) ?_ | refine o_no' rfl rfl rfl ?_ | refine a_condT rfl ?_ | refine a_condF rfl ?_ | refine d_no rfl rfl rfl (by decide) ?_ | refine d_no' rfl rfl rfl ?_ | (refine wq2 (fun hb => ?_) (fun hb => ?_) <;> (simp only [hb]; try simp only [hbs, ne_eq] at hb; try (exfalso; first | omega | exact hb trivial))) | fail)
    refine rq rfl ?_
    exact fnq
  · refine PC.mk (ac_body tab_ok Tryz.func107 rfl (by kernel_rfl) rfl ?_); intro w0 M μ0; simp only [Tryz.ntmps107, List.length_cons, List.length_nil, Nat.reduceAdd, Nat.reduceSub, numb]
    repeat' (first | ((first | apply o_do | apply d_do | apply d_yes rfl rfl rfl); exact lsq) | refine a_seq ?_ | refine a_region ?_ | refine o_nil ?_ | refine a_block ?_ | refine a_ret ?_ | refine a_exit ?_ | refine a_skip ?_ | refine a_draw mixed ?_ | refine d_nil (by kernel_rfl) ?_ | refine o_yes rfl rfl rfl ?_ | refine o_no rfl rfl rfl (by decide) ?_ | refine o_no' rfl rfl rfl ?_ | refine a_condT rfl ?_ | refine a_condF rfl ?_ | refine d_no rfl rfl rfl (by decide) ?_ | refine d_no' rfl rfl rfl ?_ | (refine wq2 (fun hb => ?_) (fun hb => ?_) <;> (simp only [hb]; try simp only [hbs, ne_eq] at hb; try (exfalso; first | omega | exact hb trivial))) | fail)
    refine rq rfl ?_
    exact fnq
  · omega
def spB (n : Int) : ByteArray := ⟨#[32]⟩ ++ itoB n
def i64 (n : Int) : Prop := -9223372036854775808 ≤ n ∧ n ≤ 9223372036854775807
theorem spB_size {n : Int} (h : i64 n) : (spB n).data.size ≤ 22 := by
  have := itoB_size n h.1 h.2
  unfold spB
  simp only [ByteArray.data_append, Array.size_append, List.size_toArray, List.length_cons, List.length_nil]
  omega
theorem p_sp {n : Int} (h : i64 n) : PCT Tryz.prog TabT 54 [.v (.int .i64 n)] (.v (.string (spB n))) := by
  have hF := p_Format n h.1 h.2
  have hs := itoB_size n h.1 h.2
  unfold spB
  generalize itoB n = x at *
  refine PCT.mk (act_body tab_ok Tryz.func54 rfl (by kernel_rfl) rfl ?_); intro w0 M μ0 hG; simp only [Tryz.ntmps54, List.length_cons, List.length_nil, Nat.reduceAdd, Nat.reduceSub, numb] at hG ⊢
  repeat' (first | ((first | apply o_do | apply d_do | apply d_yes rfl rfl rfl); first | focus (apply ls_callT hG hF rfl rfl _ rfl rfl; (repeat' (first | exact NilL.nil | refine NilL.cons Nil.same ?_ | refine NilL.cons Nil.nil ?_ | refine NilL.cons (Nil.agg ?_) ?_ | exact Nil1s.nil | refine Nil1s.cons Nil1.same ?_ | refine Nil1s.cons Nil1.nil ?_)); done) | exact ls_cat rfl rfl (by simp only [ByteArray.size, ByteArray.data_append, Array.size_append, List.size_toArray, List.length_cons, List.length_nil]; omega) rfl | exact lsq) | refine a_seq ?_ | refine a_region ?_ | refine o_nil ?_ | refine a_block ?_ | refine a_ret ?_ | refine a_exit ?_ | refine a_skip ?_ | refine a_draw mixed ?_ | refine d_nil (by kernel_rfl) ?_ | refine o_yes rfl rfl rfl ?_ | refine o_no rfl rfl rfl (by decide) ?_ | refine o_no' rfl rfl rfl ?_ | refine a_condT rfl ?_ | refine a_condF rfl ?_ | refine d_no rfl rfl rfl (by decide) ?_ | refine d_no' rfl rfl rfl ?_ | (refine wq2 (fun hb => ?_) (fun hb => ?_) <;> (simp only [hb]; try simp only [hbs, ne_eq] at hb; try (exfalso; first | omega | exact hb trivial))) | fail)
  refine rq rfl ?_
  exact fnq
def jobP (g s d : ByteArray) (nm li fu de id : ByteArray) : ByteArray := (⟨#[103, 114, 111, 117, 112, 115]⟩ ++ g ++ ⟨#[10, 119, 105, 110, 100, 111, 119]⟩ ++ s ++ d ++ ⟨#[10, 102, 111, 108, 100, 32]⟩ ++ nm ++ ⟨#[10, 108, 111, 111, 112]⟩ ++ li ++ fu ++ ⟨#[10, 100, 101, 108, 97, 121]⟩ ++ de ++ ⟨#[10, 105, 100, 108, 101]⟩ ++ id ++ ⟨#[10]⟩)
def jobT (g s d : ByteArray) (nm li fu de id : ByteArray) : ByteArray := (⟨#[103, 114, 111, 117, 112, 115, 32]⟩ ++ g ++ ⟨#[10, 119, 105, 110, 100, 111, 119, 32]⟩ ++ s ++ ⟨#[32]⟩ ++ d ++ ⟨#[10, 102, 111, 108, 100, 32]⟩ ++ nm ++ ⟨#[10, 108, 111, 111, 112, 32]⟩ ++ li ++ ⟨#[32]⟩ ++ fu ++ ⟨#[10, 100, 101, 108, 97, 121, 32]⟩ ++ de ++ ⟨#[10, 105, 100, 108, 101, 32]⟩ ++ id ++ ⟨#[10]⟩)
theorem bytes_ext2 {a b : ByteArray} (h : a.data.toList = b.data.toList) : a = b := ByteArray.ext (Array.ext' h)
theorem jobP_T (g s d : ByteArray) (nm li fu de id : ByteArray) : jobP (⟨#[32]⟩ ++ g) (⟨#[32]⟩ ++ s) (⟨#[32]⟩ ++ d) nm (⟨#[32]⟩ ++ li) (⟨#[32]⟩ ++ fu) (⟨#[32]⟩ ++ de) (⟨#[32]⟩ ++ id) = jobT g s d nm li fu de id := by
  apply bytes_ext2
  simp [jobP, jobT, ByteArray.data_append, List.append_assoc]
structure JI (g s d k fu li de id : Int) : Prop where
  g : i64 g
  s : i64 s
  d : i64 d
  fu : i64 fu
  li : i64 li
  de : i64 de
  id : i64 id
set_option maxHeartbeats 4000000 in
set_option maxRecDepth 20000 in
theorem j_Print (g s d fu li de id : Int) (q : Nat) (hq : q < 5) (h : JI g s d ((q : Int) + 1) fu li de id) (hok : jobOK g s d ((q : Int) + 1) fu li de id = true) :
    PCT Tryz.prog TabT 27 [.agg (jAv g s d ((q : Int) + 1) fu li de id)] (.tup [.v (.string (jobP (spB g) (spB s) (spB d) (nmQ q) (spB li) (spB fu) (spB de) (spB id))), .v (.int .i64 0)]) := by
  have hR := j_Right g s d ((q : Int) + 1) fu li de id
  rw [hok] at hR
  have h1 := p_sp h.g
  have h2 := p_sp h.s
  have h3 := p_sp h.d
  have h4 := p_sp h.fu
  have h5 := p_sp h.li
  have h6 := p_sp h.de
  have h7 := p_sp h.id
  have s1 := spB_size h.g
  have s2 := spB_size h.s
  have s3 := spB_size h.d
  have s4 := spB_size h.fu
  have s5 := spB_size h.li
  have s6 := spB_size h.de
  have s7 := spB_size h.id
  have hN := p_names
  have hel := nm_at hq
  have s8 := nm_size q
  unfold jAv jobP at *
  generalize spB g = n1 at *
  generalize spB s = n2 at *
  generalize spB d = n3 at *
  generalize spB fu = n4 at *
  generalize spB li = n5 at *
  generalize spB de = n6 at *
  generalize spB id = n7 at *
  generalize nmQ q = nm at *
  refine PCT.mk (act_body tab_ok Tryz.func27 rfl (by kernel_rfl) rfl ?_); intro w0 M μ0 hG; simp only [Tryz.ntmps27, List.length_cons, List.length_nil, Nat.reduceAdd, Nat.reduceSub, numb] at hG ⊢
  repeat' (first | ((first | apply o_do | apply d_do | apply d_yes rfl rfl rfl); first | exact lsc (hR) | focus (apply ls_callT hG h1 rfl rfl _ rfl rfl; (repeat' (first | exact NilL.nil | refine NilL.cons Nil.same ?_ | refine NilL.cons Nil.nil ?_ | refine NilL.cons (Nil.agg ?_) ?_ | exact Nil1s.nil | refine Nil1s.cons Nil1.same ?_ | refine Nil1s.cons Nil1.nil ?_)); done) | focus (apply ls_callT hG h2 rfl rfl _ rfl rfl; (repeat' (first | exact NilL.nil | refine NilL.cons Nil.same ?_ | refine NilL.cons Nil.nil ?_ | refine NilL.cons (Nil.agg ?_) ?_ | exact Nil1s.nil | refine Nil1s.cons Nil1.same ?_ | refine Nil1s.cons Nil1.nil ?_)); done) | focus (apply ls_callT hG h3 rfl rfl _ rfl rfl; (repeat' (first | exact NilL.nil | refine NilL.cons Nil.same ?_ | refine NilL.cons Nil.nil ?_ | refine NilL.cons (Nil.agg ?_) ?_ | exact Nil1s.nil | refine Nil1s.cons Nil1.same ?_ | refine Nil1s.cons Nil1.nil ?_)); done) | focus (apply ls_callT hG h4 rfl rfl _ rfl rfl; (repeat' (first | exact NilL.nil | refine NilL.cons Nil.same ?_ | refine NilL.cons Nil.nil ?_ | refine NilL.cons (Nil.agg ?_) ?_ | exact Nil1s.nil | refine Nil1s.cons Nil1.same ?_ | refine Nil1s.cons Nil1.nil ?_)); done) | focus (apply ls_callT hG h5 rfl rfl _ rfl rfl; (repeat' (first | exact NilL.nil | refine NilL.cons Nil.same ?_ | refine NilL.cons Nil.nil ?_ | refine NilL.cons (Nil.agg ?_) ?_ | exact Nil1s.nil | refine Nil1s.cons Nil1.same ?_ | refine Nil1s.cons Nil1.nil ?_)); done) | focus (apply ls_callT hG h6 rfl rfl _ rfl rfl; (repeat' (first | exact NilL.nil | refine NilL.cons Nil.same ?_ | refine NilL.cons Nil.nil ?_ | refine NilL.cons (Nil.agg ?_) ?_ | exact Nil1s.nil | refine Nil1s.cons Nil1.same ?_ | refine Nil1s.cons Nil1.nil ?_)); done) | focus (apply ls_callT hG h7 rfl rfl _ rfl rfl; (repeat' (first | exact NilL.nil | refine NilL.cons Nil.same ?_ | refine NilL.cons Nil.nil ?_ | refine NilL.cons (Nil.agg ?_) ?_ | exact Nil1s.nil | refine Nil1s.cons Nil1.same ?_ | refine Nil1s.cons Nil1.nil ?_)); done) | exact lsc (hN) | exact ls_cat rfl rfl (by simp only [ByteArray.size, ByteArray.data_append, Array.size_append, List.size_toArray, List.length_cons, List.length_nil]; omega) rfl | exact ls_indexAddr_sl (q := q) tab_ok rfl rfl rfl (by omega) hel rfl | exact lsq) | refine a_seq ?_ | refine a_region ?_ | refine o_nil ?_ | refine a_block ?_ | refine a_ret ?_ | refine a_exit ?_ | refine a_skip ?_ | refine a_draw mixed ?_ | refine d_nil (by kernel_rfl) ?_ | refine o_yes rfl rfl rfl ?_ | refine o_no rfl rfl rfl (by decide) ?_ | refine o_no' rfl rfl rfl ?_ | refine a_condT rfl ?_ | refine a_condF rfl ?_ | refine d_no rfl rfl rfl (by decide) ?_ | refine d_no' rfl rfl rfl ?_ | (refine wq2 (fun hb => ?_) (fun hb => ?_) <;> (simp only [hb]; try simp only [hbs, ne_eq] at hb; try (exfalso; first | omega | exact hb trivial))) | fail)
  refine rq rfl ?_
  exact fnq
end Go.Proofs.YtbhblhcgfenobaaGreatDoor
namespace Go.Proofs.YtbhblhcgfenobaaGreatDoor
open Go.RowKit Go.WideShapes Go.ChangeShapes Go.ChangeAt
set_option linter.unusedVariables false

section
variable {H : Type} {enc : TypeId × Value → H} {P : Program}
theorem cell_lt {w : World} {b o : Nat} {u : Value} (h : w.cell? ⟨b, o, none⟩ = some u) : b < w.heap.size := by
  rcases Nat.lt_or_ge b w.heap.size with h1 | h1
  · exact h1
  · simp [World.cell?, Array.getElem?_eq_none h1] at h

/-- A field of a struct that is read. -/
theorem rd_field {w : World} {base : Nat} {spare : Nat → Bool} {held : Bool} {t : TypeId} {fs : Array Field} {fuel : Nat} {cs : List Value} {x : DataW H × List MemPlace} (ht : P.underlying t = some (.struct fs))
    (h : DataW.trod enc P w base spare held fuel t cs = some x) (i : Nat) (f : Field) (hi : fs[i]? = some f) :
    ∃ n y, DataW.trod enc P w base spare held n f.type ((cs.drop f.offset).take (P.cellsOf f.type)) = some y := by
  obtain ⟨xs, n, _, _, _, hl, hf⟩ := DataW.trod_struct ht h
  have hlt : i < xs.length := by rw [hl]; exact (Array.getElem?_eq_some_iff.1 hi).1
  exact ⟨n, xs[i], (hf i f hi).trans (List.getElem?_eq_getElem hlt)⟩
theorem rd_len {w : World} {base : Nat} {spare : Nat → Bool} {held : Bool} {t : TypeId} {fs : Array Field} {fuel : Nat} {cs : List Value} {x : DataW H × List MemPlace} (ht : P.underlying t = some (.struct fs))
    (h : DataW.trod enc P w base spare held fuel t cs = some x) : cs.length = P.cellsOf t := by
  obtain ⟨xs, n, _, _, hl, _, _⟩ := DataW.trod_struct ht h
  exact hl
/-- A struct by value. -/
theorem open_struct_arg {w : World} {b0 : Nat} {base : Nat} {spare : Nat → Bool} {held : Bool} {t : TypeId} {fs : Array Field} {v : Value} {d : DataW H} {ps : List MemPlace} (ht : P.underlying t = some (.struct fs))
    (hv : Value.okWide P w .any b0 t v) (h : DataW.Trod enc P w base spare held t v d ps) : ∃ cs : List Value, v = .agg cs.toArray ∧ ∃ fuel x, DataW.trod enc P w base spare held fuel t cs = some x := by
  obtain ⟨cs, rfl, _⟩ := okWide_struct ht hv
  obtain ⟨fuel, hf⟩ := h
  exact ⟨cs.toList, by simp, fuel, _, hf⟩
/-- A slice that is read, element by element: 'cells x' are the cells of an element that stands for x. -/
theorem open_rows {α : Type} {w : World} {t e : TypeId} {size fuel : Nat} {cs : List Value} {x : DataW H × List MemPlace} (cells : α → List Value) (Ok : α → Prop) (ht : P.underlying t = some (.slice e)) (hC : P.cellsOf e = size) (hsz : 0 < size)
    (hel : ∀ (n : Nat) (cs : List Value) (y : DataW H × List MemPlace), cs.length = size → DataW.trod enc P w 0 (fun _ => true) true n e cs = some y → ∃ x, cs = cells x ∧ Ok x)
    (h : DataW.trod enc P w 0 (fun _ => true) true fuel t cs = some x) :
    ∃ (A : Option Addr) (n c : Nat) (xs : List α), cs = [.slice A n c] ∧ n ≤ c ∧ c ≤ 9223372036854775807 ∧ n = xs.length ∧ Reads w w.heap.size size A n (xs.flatMap cells) ∧ ∀ x ∈ xs, Ok x := by
  rcases Go.Deep.open_slice ht h with ⟨rfl, _⟩ | ⟨a, n, c, m, fu, D, Pl, rfl, _, hnc, hcm, hm, _, hx⟩
  · exact ⟨none, 0, 0, [], rfl, Nat.le_refl _, by omega, rfl, Reads.none_, by simp⟩
  · subst hC
    have hm' : m = c := by simpa using hm
    subst hm'
    have key : ∀ k, k ≤ n → ∃ xs : List α, xs.length = k ∧ (xs.flatMap cells).length = k * P.cellsOf e ∧ (∀ j u, (xs.flatMap cells)[j]? = some u → w.cell? (a.add j) = some u) ∧ ∀ x ∈ xs, Ok x := by
      intro k
      induction k with
      | zero => intro _; exact ⟨[], rfl, by simp, by simp, by simp⟩
      | succ k ih =>
        intro hk
        obtain ⟨xs, h1, h2, h3, h4⟩ := ih (by omega)
        obtain ⟨cs', hc', ht'⟩ := hx k (by omega)
        obtain ⟨_, hl, hat⟩ := World.cells?_some hc'
        obtain ⟨x, rfl, hok⟩ := hel _ _ _ hl ht'
        refine ⟨xs ++ [x], by simp [h1], by simp [h2, hl, Nat.add_mul], ?_, ?_⟩
        · intro j u hu
          simp only [List.flatMap_append, List.flatMap_cons, List.flatMap_nil, List.append_nil] at hu
          rcases Nat.lt_or_ge j (k * P.cellsOf e) with hj | hj
          · rw [List.getElem?_append_left (by omega)] at hu
            exact h3 j u hu
          · rw [List.getElem?_append_right (by omega), h2] at hu
            have hj2 : j - k * P.cellsOf e < P.cellsOf e := by
              have h6 := (List.getElem?_eq_some_iff.1 hu).1
              rw [hl] at h6
              exact h6
            have h5 := hat _ hj2
            rw [hu, Go.Deep.add_add] at h5
            rw [← h5]
            congr 2
            omega
        · intro y hy
          simp only [List.mem_append, List.mem_singleton] at hy
          rcases hy with hy | rfl
          · exact h4 y hy
          · exact hok
    obtain ⟨xs, h1, h2, h3, h4⟩ := key n (Nat.le_refl _)
    refine ⟨some a, n, m, xs, rfl, hnc, by simpa [maxLen] using hcm, h1.symm, ⟨h2, fun hn => ?_⟩, h4⟩
    have hpos : 0 < (xs.flatMap cells).length := by rw [h2]; exact Nat.mul_pos hn hsz
    have h0 := h3 0 _ (List.getElem?_eq_getElem hpos)
    obtain ⟨b, off, spot⟩ := a
    have hspot : spot = none := by simpa [Addr.add] using World.cell?_spot h0
    subst hspot
    refine ⟨b, off, rfl, ?_, fun j u hu => ?_⟩
    · exact cell_lt (o := off) (by simpa [Addr.add] using h0)
    · rw [← Go.WideShapes.add_plain]; exact h3 j u hu

theorem wf_i64 {x : Int} (h : (Lit.int .i64 x).wf = true) : -9223372036854775808 ≤ x ∧ x ≤ 9223372036854775807 := by
  simpa [Lit.wf, IntKind.min, IntKind.max, IntKind.signed, IntKind.bits] using h
theorem trodAll_below (hl : laidOutB P = true) {W W' : World} (hb : Below W.heap.size W W') :
    ∀ {ts : List TypeId} {vs : List Value} {ds : List (DataW H)} {ps : List MemPlace}, (∀ t ∈ ts, P.readableRec t = true ∧ t < P.types.size) →
      DataW.TrodAll enc P W 0 (fun _ => true) true ts vs ds ps → (∀ x ∈ ps, x.block < W.heap.size) →
      DataW.TrodAll enc P W' 0 (fun b => decide (b < W.heap.size)) true ts vs ds ps := by
  intro ts
  induction ts with
  | nil =>
    intro vs ds ps _ h _
    obtain ⟨rfl, rfl, rfl⟩ := trodAll_nil h
    exact trodAll_mk0
  | cons t ts ih =>
    intro vs ds ps hts h hlt
    obtain ⟨v, vs', d, ds', p, q, rfl, rfl, rfl, h0, h1⟩ := trodAll_cons h
    have ht := hts t (by simp)
    exact trodAll_cons_mk (hb.trod hl ht.1 ht.2 h0 (fun x hx => hlt x (by simp [hx]))) (ih (fun t h => hts t (by simp [h])) h1 (fun x hx => hlt x (by simp [hx])))

theorem rd_of {ts : List TypeId} (h : (ts.all fun t => P.readableRec t && decide (t < P.types.size)) = true) : ∀ t ∈ ts, P.readableRec t = true ∧ t < P.types.size := by
  intro t ht
  have := List.all_eq_true.1 h t ht
  simpa using this

theorem post_law {f : Func} {s : ChangeSpec} {W W' : World} {args : Array Value} {ds gs : List (DataW H)} {before : List MemPlace} {tb : TypeId}
    (hl : laidOutB P = true) (hrd : ∀ t ∈ f.params.toList, P.readableRec t = true ∧ t < P.types.size) (hv : s.vars = []) (hres : f.resultTypes = #[tb]) (htb : P.underlying tb = some .bool)
    (hW : DataW.Whole enc P f.params.toList s.vars false W args.toList ds gs before)
    (hs : s.fn H (ds ++ gs) = { results := [.lit (.bool true)], args := ds })
    (hb : Below W.heap.size W W') : s.post enc P f false true false false W args (.bool true) W' := by
  have hlt : ∀ p ∈ before, p.block < W.heap.size := fun p hp => hW.lt p hp
  have hW0 := hW
  obtain ⟨p, q, hA, hV, rfl, hz, hn⟩ := hW0
  refine ⟨ds, gs, p ++ q, [], p, [], hW, ?_, ?_, ?_, hb.frame _, fun h => by cases h⟩
  · rw [hs, hres]
    exact trodAll_cons_mk (shut_bool htb true) trodAll_mk0
  · rw [hs]
    exact trodAll_below hl hb hrd hA (fun x hx => hlt x (by simp [hx]))
  · rw [hs, hv]
    rfl
end
end Go.Proofs.YtbhblhcgfenobaaGreatDoor
