/-
  Panes, walked over abstract values: one pane put into a row of one's own.
  Rows of panes in plain Lean: one put into a sorted row; rows joined. No program in sight.
  Panes, walked over abstract values: the document's way to add a value; the law.
  Groups, walked over abstract values: time that goes on.
  Groups, walked over abstract values: an event that is taken.
    Groups, walked over abstract values: the law of an event that is taken.
  Rows of panes in plain Lean: single values put in any order, whatever the row; events taken in any order. No program in sight.
  Events; a value put into the windows that hold its time, as a chain of puts.
-/
import Derived.Test.YtlgbadlgfdlheaaR4
import Derived.Test.YtlgbadlgfdlheaaR5
import Derived.Test.YtlgbadlgfdlheaaR6
import Derived.Test.YtlgbadlgfdlheaaR7
set_option linter.unusedSimpArgs false
set_option linter.unusedVariables false
set_option maxHeartbeats 20000000
namespace Go.Proofs.Ytlgbadlgfdlheaa
open Go.RowKit
def joinP (k : Int) (p x : Pn) : Pn := ⟨p.lo, p.hi, p.key, (fJoin k ⟨p.n, p.a, p.b⟩ ⟨x.n, x.a, x.b⟩).n, (fJoin k ⟨p.n, p.a, p.b⟩ ⟨x.n, x.a, x.b⟩).a, (fJoin k ⟨p.n, p.a, p.b⟩ ⟨x.n, x.a, x.b⟩).b⟩
def putL (k : Int) (xs : List Pn) (x : Pn) : Option (List Pn) :=
 match isL xs x with
 | true => match xs[atL xs x]? with
  | some p => if (joinP k p x).n < 1 then none else some (xs.set (atL xs x) (joinP k p x))
  | none => none
 | false => if 2000 ≤ xs.length then none else some (xs.take (atL xs x) ++ [x] ++ xs.drop (atL xs x))
section
variable (k lo hi : Int) (key : ByteArray) (n a b : Int) (xs : List Pn)
theorem put_full (hs : xs.Pairwise (fun p q => ahead p q = true)) (hx : xs.length ≤ 1000000) (h1 : isL xs (Pn.mk lo hi key n a b) = false) (h2 : 2000 ≤ xs.length) :
  AC Try.prog 33 [.own 0 (xs.map Pn.av).length, .v (.int .i64 k), (.agg [.v (.int .i64 lo), .v (.int .i64 hi), .v (.string key), .v (.int .i64 n), .v (.int .i64 a), .v (.int .i64 b)])] [(0, .row 67 6 (xs.map Pn.av))] (.tup [.v (.slice none 0 0), .v (.int .i64 3)]) [(0, .row 67 6 (xs.map Pn.av))] := by
 have hp := p_place xs lo hi key n a b hs hx
 rw [h1] at hp
 have hml : (xs.map Pn.av).length = xs.length := List.length_map _
 refine (ac_body tab_ok Try.func33 rfl (by kernel_rfl) rfl ?_); intro w0 M μ0; simp only [Try.ntmps33, List.length_cons, List.length_nil, Nat.reduceAdd, Nat.reduceSub, numb]
 repeat' (first | ((first | apply o_do | apply d_do | apply d_yes rfl rfl rfl); first | exact lcs (hp) | exact lsq) | refine a_seq ?_ | refine a_region ?_ | refine o_nil ?_ | refine a_block ?_ | refine a_ret ?_ | refine a_exit ?_ | refine a_skip ?_ | refine a_draw mixed ?_ | refine d_nil (by kernel_rfl) ?_ | refine o_yes rfl rfl rfl ?_ | refine o_no rfl rfl rfl (by decide) ?_ | refine o_no' rfl rfl rfl ?_ | refine a_condT rfl ?_ | refine a_condF rfl ?_ | refine d_no rfl rfl rfl (by decide) ?_ | refine d_no' rfl rfl rfl ?_ | (refine wq2 (fun hb => ?_) (fun hb => ?_) <;> (simp only [hb]; try simp only [hbs, ne_eq] at hb; try (exfalso; first | omega | exact hb trivial))) | fail)
 all_goals refine rq rfl ?_
 all_goals exact fnq
theorem put_new (hs : xs.Pairwise (fun p q => ahead p q = true)) (hx : xs.length ≤ 1000000) (h1 : isL xs (Pn.mk lo hi key n a b) = false) (h2 : xs.length < 2000) :
  AC Try.prog 33 [.own 0 (xs.map Pn.av).length, .v (.int .i64 k), (.agg [.v (.int .i64 lo), .v (.int .i64 hi), .v (.string key), .v (.int .i64 n), .v (.int .i64 a), .v (.int .i64 b)])] [(0, .row 67 6 (xs.map Pn.av))] (.tup [.own 0 ((xs.map Pn.av).take (atL xs (Pn.mk lo hi key n a b)) ++ [Pn.av (Pn.mk lo hi key n a b)] ++ (xs.map Pn.av).drop (atL xs (Pn.mk lo hi key n a b))).length, .v (.int .i64 0)]) [(0, .row 67 6 ((xs.map Pn.av).take (atL xs (Pn.mk lo hi key n a b)) ++ [Pn.av (Pn.mk lo hi key n a b)] ++ (xs.map Pn.av).drop (atL xs (Pn.mk lo hi key n a b))))] := by
 have hp := p_place xs lo hi key n a b hs hx
 rw [h1] at hp
 have hml : (xs.map Pn.av).length = xs.length := List.length_map _
 have hle := atL_le xs (Pn.mk lo hi key n a b)
 have hI := p_Insert (xs.map Pn.av) (Pn.av (Pn.mk lo hi key n a b)) (atL xs (Pn.mk lo hi key n a b)) (by omega) (by omega)
 refine (ac_body tab_ok Try.func33 rfl (by kernel_rfl) rfl ?_); intro w0 M μ0; simp only [Try.ntmps33, List.length_cons, List.length_nil, Nat.reduceAdd, Nat.reduceSub, numb]
 repeat' (first | ((first | apply o_do | apply d_do | apply d_yes rfl rfl rfl); first | exact lcs (hp) | exact ls_buildO (k := 2) tab_ok rfl rfl rfl rfl rfl rfl rfl | exact lca [0, 2] 3 hI | exact lsq) | refine a_seq ?_ | refine a_region ?_ | refine o_nil ?_ | refine a_block ?_ | refine a_ret ?_ | refine a_exit ?_ | refine a_skip ?_ | refine a_draw mixed ?_ | refine d_nil (by kernel_rfl) ?_ | refine o_yes rfl rfl rfl ?_ | refine o_no rfl rfl rfl (by decide) ?_ | refine o_no' rfl rfl rfl ?_ | refine a_condT rfl ?_ | refine a_condF rfl ?_ | refine d_no rfl rfl rfl (by decide) ?_ | refine d_no' rfl rfl rfl ?_ | (refine wq2 (fun hb => ?_) (fun hb => ?_) <;> (simp only [hb]; try simp only [hbs, ne_eq] at hb; try (exfalso; first | omega | exact hb trivial))) | fail)
 all_goals refine rq rfl ?_
 all_goals exact fnq
theorem put_join (hs : xs.Pairwise (fun p q => ahead p q = true)) (hx : xs.length ≤ 1000000) (p : Pn) (h1 : isL xs (Pn.mk lo hi key n a b) = true) (hp0 : xs[atL xs (Pn.mk lo hi key n a b)]? = some p) (h2 : ¬ (joinP k p (Pn.mk lo hi key n a b)).n < 1) :
  AC Try.prog 33 [.own 0 (xs.map Pn.av).length, .v (.int .i64 k), (.agg [.v (.int .i64 lo), .v (.int .i64 hi), .v (.string key), .v (.int .i64 n), .v (.int .i64 a), .v (.int .i64 b)])] [(0, .row 67 6 (xs.map Pn.av))] (.tup [.own 0 (xs.map Pn.av).length, .v (.int .i64 0)]) [(0, .row 67 6 ((xs.map Pn.av).set (atL xs (Pn.mk lo hi key n a b)) (Pn.av (joinP k p (Pn.mk lo hi key n a b)))))] := by
 have hp := p_place xs lo hi key n a b hs hx
 rw [h1] at hp
 have hml : (xs.map Pn.av).length = xs.length := List.length_map _
 have hq : atL xs (Pn.mk lo hi key n a b) < (xs.map Pn.av).length := by
  rw [hml]
  rcases Nat.lt_or_ge (atL xs (Pn.mk lo hi key n a b)) xs.length with h | h
  ·exact h
  ·rw [List.getElem?_eq_none h] at hp0; cases hp0
 generalize atL xs (Pn.mk lo hi key n a b) = q at *
 have hel : (xs.map Pn.av)[q]? = some (Pn.av p) := by simp [hp0]
 have hq2 : q < ((xs.map Pn.av).set q (Pn.av (joinP k p (Pn.mk lo hi key n a b)))).length := by rw [List.length_set]; exact hq
 have hel2 : ((xs.map Pn.av).set q (Pn.av (joinP k p (Pn.mk lo hi key n a b))))[q]? = some (Pn.av (joinP k p (Pn.mk lo hi key n a b))) := by
  rw [List.getElem?_set]; simp; omega
 have hsl : (xs.map Pn.av).length = ((xs.map Pn.av).set q (Pn.av (joinP k p (Pn.mk lo hi key n a b)))).length := by rw [List.length_set]
 have hJ := p_Join k p.n p.a p.b n a b
 have hst : ∀ (σ : Store) (μ : Nat → Value) (w : World) (A : Nat → Prop) (y : Value), rep σ μ w A (.agg (fJoinO k p.n p.a p.b n a b)) y → rep [] μ w A (.agg (fJoinO k p.n p.a p.b n a b)) y := fun _ _ _ _ _ h => rep_pureB h rfl
 refine (ac_body tab_ok Try.func33 rfl (by kernel_rfl) rfl ?_); intro w0 M μ0; simp only [Try.ntmps33, List.length_cons, List.length_nil, Nat.reduceAdd, Nat.reduceSub, numb]
 repeat' (first | ((first | apply o_do | apply d_do | apply d_yes rfl rfl rfl); first | exact lcs (hp) | exact lsc (hJ) | exact ls_indexAddr_own tab_ok rfl rfl rfl rfl rfl rfl hq rfl | exact ls_indexAddr_own tab_ok rfl rfl hsl rfl rfl rfl hq2 rfl | exact ls_fieldAddr_eref tab_ok rfl rfl rfl rfl rfl rfl rfl | exact ls_fieldAddr_eref tab_ok rfl rfl rfl rfl rfl rfl hsl | exact ls_load_eref tab_ok rfl rfl rfl hel rfl rfl rfl rfl | exact ls_load_eref tab_ok rfl rfl hsl hel2 rfl rfl rfl rfl | exact ls_store_eref tab_ok rfl rfl rfl rfl hel rfl rfl hst rfl rfl rfl rfl | exact lsq) | refine a_seq ?_ | refine a_region ?_ | refine o_nil ?_ | refine a_block ?_ | refine a_ret ?_ | refine a_exit ?_ | refine a_skip ?_ | refine a_draw mixed ?_ | refine d_nil (by kernel_rfl) ?_ | refine o_yes rfl rfl rfl ?_ | refine o_no rfl rfl rfl (by decide) ?_ | refine o_no' rfl rfl rfl ?_ | refine a_condT rfl ?_ | refine a_condF rfl ?_ | refine d_no rfl rfl rfl (by decide) ?_ | refine d_no' rfl rfl rfl ?_ | (refine wq2 (fun hb => ?_) (fun hb => ?_) <;> (simp only [hb]; try simp only [hbs, ne_eq] at hb; try (exfalso; first | omega | exact hb trivial))) | fail)
 all_goals refine rq rfl ?_
 all_goals exact fnq
theorem put_over (hs : xs.Pairwise (fun p q => ahead p q = true)) (hx : xs.length ≤ 1000000) (p : Pn) (h1 : isL xs (Pn.mk lo hi key n a b) = true) (hp0 : xs[atL xs (Pn.mk lo hi key n a b)]? = some p) (h2 : (joinP k p (Pn.mk lo hi key n a b)).n < 1) :
  AC Try.prog 33 [.own 0 (xs.map Pn.av).length, .v (.int .i64 k), (.agg [.v (.int .i64 lo), .v (.int .i64 hi), .v (.string key), .v (.int .i64 n), .v (.int .i64 a), .v (.int .i64 b)])] [(0, .row 67 6 (xs.map Pn.av))] (.tup [.v (.slice none 0 0), .v (.int .i64 3)]) [(0, .row 67 6 ((xs.map Pn.av).set (atL xs (Pn.mk lo hi key n a b)) (Pn.av (joinP k p (Pn.mk lo hi key n a b)))))] := by
 have hp := p_place xs lo hi key n a b hs hx
 rw [h1] at hp
 have hml : (xs.map Pn.av).length = xs.length := List.length_map _
 have hq : atL xs (Pn.mk lo hi key n a b) < (xs.map Pn.av).length := by
  rw [hml]
  rcases Nat.lt_or_ge (atL xs (Pn.mk lo hi key n a b)) xs.length with h | h
  ·exact h
  ·rw [List.getElem?_eq_none h] at hp0; cases hp0
 generalize atL xs (Pn.mk lo hi key n a b) = q at *
 have hel : (xs.map Pn.av)[q]? = some (Pn.av p) := by simp [hp0]
 have hq2 : q < ((xs.map Pn.av).set q (Pn.av (joinP k p (Pn.mk lo hi key n a b)))).length := by rw [List.length_set]; exact hq
 have hel2 : ((xs.map Pn.av).set q (Pn.av (joinP k p (Pn.mk lo hi key n a b))))[q]? = some (Pn.av (joinP k p (Pn.mk lo hi key n a b))) := by
  rw [List.getElem?_set]; simp; omega
 have hsl : (xs.map Pn.av).length = ((xs.map Pn.av).set q (Pn.av (joinP k p (Pn.mk lo hi key n a b)))).length := by rw [List.length_set]
 have hJ := p_Join k p.n p.a p.b n a b
 have hst : ∀ (σ : Store) (μ : Nat → Value) (w : World) (A : Nat → Prop) (y : Value), rep σ μ w A (.agg (fJoinO k p.n p.a p.b n a b)) y → rep [] μ w A (.agg (fJoinO k p.n p.a p.b n a b)) y := fun _ _ _ _ _ h => rep_pureB h rfl
 refine (ac_body tab_ok Try.func33 rfl (by kernel_rfl) rfl ?_); intro w0 M μ0; simp only [Try.ntmps33, List.length_cons, List.length_nil, Nat.reduceAdd, Nat.reduceSub, numb]
 repeat' (first | ((first | apply o_do | apply d_do | apply d_yes rfl rfl rfl); first | exact lcs (hp) | exact lsc (hJ) | exact ls_indexAddr_own tab_ok rfl rfl rfl rfl rfl rfl hq rfl | exact ls_indexAddr_own tab_ok rfl rfl hsl rfl rfl rfl hq2 rfl | exact ls_fieldAddr_eref tab_ok rfl rfl rfl rfl rfl rfl rfl | exact ls_fieldAddr_eref tab_ok rfl rfl rfl rfl rfl rfl hsl | exact ls_load_eref tab_ok rfl rfl rfl hel rfl rfl rfl rfl | exact ls_load_eref tab_ok rfl rfl hsl hel2 rfl rfl rfl rfl | exact ls_store_eref tab_ok rfl rfl rfl rfl hel rfl rfl hst rfl rfl rfl rfl | exact lsq) | refine a_seq ?_ | refine a_region ?_ | refine o_nil ?_ | refine a_block ?_ | refine a_ret ?_ | refine a_exit ?_ | refine a_skip ?_ | refine a_draw mixed ?_ | refine d_nil (by kernel_rfl) ?_ | refine o_yes rfl rfl rfl ?_ | refine o_no rfl rfl rfl (by decide) ?_ | refine o_no' rfl rfl rfl ?_ | refine a_condT rfl ?_ | refine a_condF rfl ?_ | refine d_no rfl rfl rfl (by decide) ?_ | refine d_no' rfl rfl rfl ?_ | (refine wq2 (fun hb => ?_) (fun hb => ?_) <;> (simp only [hb]; try simp only [hbs, ne_eq] at hb; try (exfalso; first | omega | exact hb trivial))) | fail)
 all_goals refine rq rfl ?_
 all_goals exact fnq
end
def oneP (k lo hi : Int) (key : ByteArray) (v : Int) : Pn := ⟨lo, hi, key, (fOne k v).n, (fOne k v).a, (fOne k v).b⟩
def putR (k : Int) (xs : List Pn) (x : Pn) : List Pn × Int := match putL k xs x with
 | some l => (l, 0)
 | none => ([], 3)
def addR (k : Int) (xs : List Pn) (x : Pn) : List Pn × Int := if rightL xs && fRight k && mayB x then putR k xs x else ([], 1)
def PR.av (r : List Pn × Int) : AV := .tup [.sl 6 (r.1.map Pn.av), .v (.int .i64 r.2)]
theorem isL_some {xs : List Pn} {x : Pn} (h : isL xs x = true) : ∃ p, xs[atL xs x]? = some p ∧ sameP p x := by
 unfold isL at h
 split at h
 ·rename_i p hp
  exact ⟨p, hp, cmpP_zero.1 (by simpa using h)⟩
 ·cases h
theorem p_Add (xs : List Pn) (k : Int) (key : ByteArray) (lo hi v : Int) (hx : xs.length ≤ 9223372036854775807) :
  PC Try.prog 17 [.sl 6 (xs.map Pn.av), .v (.int .i64 k), .v (.string key), .agg [.v (.int .i64 lo), .v (.int .i64 hi)], .v (.int .i64 v)] (PR.av (addR k xs (oneP k lo hi key v))) := by
 have hO := p_One k v
 have hR := p_Right xs hx
 have hF := p_fRight k
 have hM := p_may lo hi key (fOne k v).n (fOne k v).a (fOne k v).b
 by_cases hbad : (rightL xs && fRight k && mayB (oneP k lo hi key v)) = true
 ·rw [addR, if_pos hbad]
  simp only [Bool.and_eq_true] at hbad
  obtain ⟨⟨b1, b2⟩, b3⟩ := hbad
  obtain ⟨r1, r2, r3⟩ := rightL_ok b1
  rw [b1] at hR
  rw [b2] at hF
  rw [show mayB ⟨lo, hi, key, (fOne k v).n, (fOne k v).a, (fOne k v).b⟩ = true from b3] at hM
  have hC := p_Clone (xs.map Pn.av) (by rw [List.length_map]; omega)
  cases hI : isL xs (oneP k lo hi key v)
  ·by_cases hfull : 2000 ≤ xs.length
   ·rw [show putR k xs (oneP k lo hi key v) = ([], 3) by simp [putR, putL, hI, hfull]]
    have hP := put_full k lo hi key (fOne k v).n (fOne k v).a (fOne k v).b xs r3 (by omega) hI hfull
    refine PC.mk (ac_body tab_ok Try.func17 rfl (by kernel_rfl) rfl ?_); intro w0 M μ0; simp only [Try.ntmps17, List.length_cons, List.length_nil, Nat.reduceAdd, Nat.reduceSub, numb]
    repeat' (first | ((first | apply o_do | apply d_do | apply d_yes rfl rfl rfl); first | exact lsc (hO) | exact lsc (hR) | exact lsc (hF) | exact lsc (hM) | exact lca [] 2 hC | exact lca [2] 3 hP | exact lsq) | refine a_seq ?_ | refine a_region ?_ | refine o_nil ?_ | refine a_block ?_ | refine a_ret ?_ | refine a_exit ?_ | refine a_skip ?_ | refine a_draw mixed ?_ | refine d_nil (by kernel_rfl) ?_ | refine o_yes rfl rfl rfl ?_ | refine o_no rfl rfl rfl (by decide) ?_ | refine o_no' rfl rfl rfl ?_ | refine a_condT rfl ?_ | refine a_condF rfl ?_ | refine d_no rfl rfl rfl (by decide) ?_ | refine d_no' rfl rfl rfl ?_ | (refine wq2 (fun hb => ?_) (fun hb => ?_) <;> (simp only [hb]; try simp only [hbs, ne_eq] at hb; try (exfalso; first | omega | exact hb trivial))) | fail)
    all_goals refine rq rfl ?_
    all_goals exact fnq
   ·rw [show putR k xs (oneP k lo hi key v) = (xs.take (atL xs (oneP k lo hi key v)) ++ [oneP k lo hi key v] ++ xs.drop (atL xs (oneP k lo hi key v)), 0) by simp [putR, putL, hI, hfull]]
    have hP := put_new k lo hi key (fOne k v).n (fOne k v).a (fOne k v).b xs r3 (by omega) hI (by omega)
    simp only [PR.av, List.map_append, List.map_take, List.map_drop, List.map_cons, List.map_nil]
    refine PC.mk (ac_body tab_ok Try.func17 rfl (by kernel_rfl) rfl ?_); intro w0 M μ0; simp only [Try.ntmps17, List.length_cons, List.length_nil, Nat.reduceAdd, Nat.reduceSub, numb]
    repeat' (first | ((first | apply o_do | apply d_do | apply d_yes rfl rfl rfl); first | exact lsc (hO) | exact lsc (hR) | exact lsc (hF) | exact lsc (hM) | exact lca [] 2 hC | exact lca [2] 3 hP | exact lsq) | refine a_seq ?_ | refine a_region ?_ | refine o_nil ?_ | refine a_block ?_ | refine a_ret ?_ | refine a_exit ?_ | refine a_skip ?_ | refine a_draw mixed ?_ | refine d_nil (by kernel_rfl) ?_ | refine o_yes rfl rfl rfl ?_ | refine o_no rfl rfl rfl (by decide) ?_ | refine o_no' rfl rfl rfl ?_ | refine a_condT rfl ?_ | refine a_condF rfl ?_ | refine d_no rfl rfl rfl (by decide) ?_ | refine d_no' rfl rfl rfl ?_ | (refine wq2 (fun hb => ?_) (fun hb => ?_) <;> (simp only [hb]; try simp only [hbs, ne_eq] at hb; try (exfalso; first | omega | exact hb trivial))) | fail)
    all_goals refine rq rfl ?_
    all_goals exact fnq
  ·obtain ⟨p, hp, _⟩ := isL_some hI
   by_cases hover : (joinP k p (oneP k lo hi key v)).n < 1
   ·rw [show putR k xs (oneP k lo hi key v) = ([], 3) by simp [putR, putL, hI, hp, hover]]
    have hP := put_over k lo hi key (fOne k v).n (fOne k v).a (fOne k v).b xs r3 (by omega) p hI hp hover
    refine PC.mk (ac_body tab_ok Try.func17 rfl (by kernel_rfl) rfl ?_); intro w0 M μ0; simp only [Try.ntmps17, List.length_cons, List.length_nil, Nat.reduceAdd, Nat.reduceSub, numb]
    repeat' (first | ((first | apply o_do | apply d_do | apply d_yes rfl rfl rfl); first | exact lsc (hO) | exact lsc (hR) | exact lsc (hF) | exact lsc (hM) | exact lca [] 2 hC | exact lca [2] 3 hP | exact lsq) | refine a_seq ?_ | refine a_region ?_ | refine o_nil ?_ | refine a_block ?_ | refine a_ret ?_ | refine a_exit ?_ | refine a_skip ?_ | refine a_draw mixed ?_ | refine d_nil (by kernel_rfl) ?_ | refine o_yes rfl rfl rfl ?_ | refine o_no rfl rfl rfl (by decide) ?_ | refine o_no' rfl rfl rfl ?_ | refine a_condT rfl ?_ | refine a_condF rfl ?_ | refine d_no rfl rfl rfl (by decide) ?_ | refine d_no' rfl rfl rfl ?_ | (refine wq2 (fun hb => ?_) (fun hb => ?_) <;> (simp only [hb]; try simp only [hbs, ne_eq] at hb; try (exfalso; first | omega | exact hb trivial))) | fail)
    all_goals refine rq rfl ?_
    all_goals exact fnq
   ·rw [show putR k xs (oneP k lo hi key v) = (xs.set (atL xs (oneP k lo hi key v)) (joinP k p (oneP k lo hi key v)), 0) by simp [putR, putL, hI, hp, hover]]
    have hP := put_join k lo hi key (fOne k v).n (fOne k v).a (fOne k v).b xs r3 (by omega) p hI hp hover
    have hP : AC Try.prog 33 [.own 0 (xs.map Pn.av).length, .v (.int .i64 k), .agg [.v (.int .i64 lo), .v (.int .i64 hi), .v (.string key), .v (.int .i64 (fOne k v).n), .v (.int .i64 (fOne k v).a), .v (.int .i64 (fOne k v).b)]] [(0, .row 67 6 (xs.map Pn.av))] (.tup [.own 0 ((xs.map Pn.av).set (atL xs (oneP k lo hi key v)) (Pn.av (joinP k p (oneP k lo hi key v)))).length, .v (.int .i64 0)]) [(0, .row 67 6 ((xs.map Pn.av).set (atL xs (oneP k lo hi key v)) (Pn.av (joinP k p (oneP k lo hi key v)))))] := by
     rw [List.length_set]; exact hP
    simp only [PR.av, List.map_set]
    refine PC.mk (ac_body tab_ok Try.func17 rfl (by kernel_rfl) rfl ?_); intro w0 M μ0; simp only [Try.ntmps17, List.length_cons, List.length_nil, Nat.reduceAdd, Nat.reduceSub, numb]
    repeat' (first | ((first | apply o_do | apply d_do | apply d_yes rfl rfl rfl); first | exact lsc (hO) | exact lsc (hR) | exact lsc (hF) | exact lsc (hM) | exact lca [] 2 hC | exact lca [2] 3 hP | exact lsq) | refine a_seq ?_ | refine a_region ?_ | refine o_nil ?_ | refine a_block ?_ | refine a_ret ?_ | refine a_exit ?_ | refine a_skip ?_ | refine a_draw mixed ?_ | refine d_nil (by kernel_rfl) ?_ | refine o_yes rfl rfl rfl ?_ | refine o_no rfl rfl rfl (by decide) ?_ | refine o_no' rfl rfl rfl ?_ | refine a_condT rfl ?_ | refine a_condF rfl ?_ | refine d_no rfl rfl rfl (by decide) ?_ | refine d_no' rfl rfl rfl ?_ | (refine wq2 (fun hb => ?_) (fun hb => ?_) <;> (simp only [hb]; try simp only [hbs, ne_eq] at hb; try (exfalso; first | omega | exact hb trivial))) | fail)
    all_goals refine rq rfl ?_
    all_goals exact fnq
 ·rw [addR, if_neg hbad]
  cases hr : rightL xs
  ·rw [hr] at hR
   refine PC.mk (ac_body tab_ok Try.func17 rfl (by kernel_rfl) rfl ?_); intro w0 M μ0; simp only [Try.ntmps17, List.length_cons, List.length_nil, Nat.reduceAdd, Nat.reduceSub, numb]
   repeat' (first | ((first | apply o_do | apply d_do | apply d_yes rfl rfl rfl); first | exact lsc (hO) | exact lsc (hR) | exact lsc (hF) | exact lsc (hM) | exact lsq) | refine a_seq ?_ | refine a_region ?_ | refine o_nil ?_ | refine a_block ?_ | refine a_ret ?_ | refine a_exit ?_ | refine a_skip ?_ | refine a_draw mixed ?_ | refine d_nil (by kernel_rfl) ?_ | refine o_yes rfl rfl rfl ?_ | refine o_no rfl rfl rfl (by decide) ?_ | refine o_no' rfl rfl rfl ?_ | refine a_condT rfl ?_ | refine a_condF rfl ?_ | refine d_no rfl rfl rfl (by decide) ?_ | refine d_no' rfl rfl rfl ?_ | (refine wq2 (fun hb => ?_) (fun hb => ?_) <;> (simp only [hb]; try simp only [hbs, ne_eq] at hb; try (exfalso; first | omega | exact hb trivial))) | fail)
   all_goals refine rq rfl ?_
   all_goals exact fnq
  cases hf : fRight k
  ·rw [hr] at hR
   rw [hf] at hF
   refine PC.mk (ac_body tab_ok Try.func17 rfl (by kernel_rfl) rfl ?_); intro w0 M μ0; simp only [Try.ntmps17, List.length_cons, List.length_nil, Nat.reduceAdd, Nat.reduceSub, numb]
   repeat' (first | ((first | apply o_do | apply d_do | apply d_yes rfl rfl rfl); first | exact lsc (hO) | exact lsc (hR) | exact lsc (hF) | exact lsc (hM) | exact lsq) | refine a_seq ?_ | refine a_region ?_ | refine o_nil ?_ | refine a_block ?_ | refine a_ret ?_ | refine a_exit ?_ | refine a_skip ?_ | refine a_draw mixed ?_ | refine d_nil (by kernel_rfl) ?_ | refine o_yes rfl rfl rfl ?_ | refine o_no rfl rfl rfl (by decide) ?_ | refine o_no' rfl rfl rfl ?_ | refine a_condT rfl ?_ | refine a_condF rfl ?_ | refine d_no rfl rfl rfl (by decide) ?_ | refine d_no' rfl rfl rfl ?_ | (refine wq2 (fun hb => ?_) (fun hb => ?_) <;> (simp only [hb]; try simp only [hbs, ne_eq] at hb; try (exfalso; first | omega | exact hb trivial))) | fail)
   all_goals refine rq rfl ?_
   all_goals exact fnq
  cases hm : mayB (oneP k lo hi key v)
  ·rw [hr] at hR
   rw [hf] at hF
   rw [show mayB ⟨lo, hi, key, (fOne k v).n, (fOne k v).a, (fOne k v).b⟩ = false from hm] at hM
   refine PC.mk (ac_body tab_ok Try.func17 rfl (by kernel_rfl) rfl ?_); intro w0 M μ0; simp only [Try.ntmps17, List.length_cons, List.length_nil, Nat.reduceAdd, Nat.reduceSub, numb]
   repeat' (first | ((first | apply o_do | apply d_do | apply d_yes rfl rfl rfl); first | exact lsc (hO) | exact lsc (hR) | exact lsc (hF) | exact lsc (hM) | exact lsq) | refine a_seq ?_ | refine a_region ?_ | refine o_nil ?_ | refine a_block ?_ | refine a_ret ?_ | refine a_exit ?_ | refine a_skip ?_ | refine a_draw mixed ?_ | refine d_nil (by kernel_rfl) ?_ | refine o_yes rfl rfl rfl ?_ | refine o_no rfl rfl rfl (by decide) ?_ | refine o_no' rfl rfl rfl ?_ | refine a_condT rfl ?_ | refine a_condF rfl ?_ | refine d_no rfl rfl rfl (by decide) ?_ | refine d_no' rfl rfl rfl ?_ | (refine wq2 (fun hb => ?_) (fun hb => ?_) <;> (simp only [hb]; try simp only [hbs, ne_eq] at hb; try (exfalso; first | omega | exact hb trivial))) | fail)
   all_goals refine rq rfl ?_
   all_goals exact fnq
  ·exact absurd (by simp [hr, hf, hm]) hbad
def insP (k : Int) : List Pn → Pn → List Pn
 | [], x => [x]
 | p :: l, x => if ahead p x = true then p :: insP k l x else if ahead x p = true then x :: p :: l else joinP k p x :: l
section
variable {k : Int} {l xs : List Pn} {p q x y : Pn}
theorem rel3 (p x : Pn) : ahead p x = true ∨ sameP p x ∨ ahead x p = true := by
 cases h : ahead p x
 ·cases h2 : ahead x p
  ·exact .inr (.inl (ahead_total h h2))
  ·exact .inr (.inr rfl)
 ·exact .inl rfl
theorem ins_a (h : ahead p x = true) : insP k (p :: l) x = p :: insP k l x := by simp [insP, h]
theorem ins_s (h : sameP p x) : insP k (p :: l) x = joinP k p x :: l := by simp [insP, same_ahead h, same_ahead h.symm]
theorem ins_b (h : ahead x p = true) : insP k (p :: l) x = x :: p :: l := by simp [insP, h, ahead_asymm h]
theorem joinP_same (p x : Pn) : sameP (joinP k p x) p := ⟨rfl, rfl, rfl⟩
theorem ins_new : isL xs x = false → insP k xs x = xs.take (atL xs x) ++ [x] ++ xs.drop (atL xs x) := by
 induction xs with
 | nil => intro _; rfl
 | cons p l ih =>
  intro h
  rcases rel3 p x with h1 | h1 | h1
  ·rw [ins_a h1]
   have e : atL (p :: l) x = atL l x + 1 := by rw [atL_cons, if_pos h1]
   rw [e]
   have h2 : isL l x = false := by unfold isL at h ⊢; rw [e] at h; simpa using h
   rw [ih h2]
   simp
  ·exfalso
   have e : atL (p :: l) x = 0 := by rw [atL_cons, if_neg (by rw [same_ahead h1]; simp)]
   unfold isL at h
   rw [e] at h
   simp [cmpP_zero.2 h1] at h
  ·rw [ins_b h1]
   have e : atL (p :: l) x = 0 := by rw [atL_cons, if_neg (by rw [ahead_asymm h1]; simp)]
   rw [e]; simp
theorem ins_join : isL xs x = true → xs[atL xs x]? = some p → insP k xs x = xs.set (atL xs x) (joinP k p x) := by
 induction xs with
 | nil => intro h; simp [isL] at h
 | cons r l ih =>
  intro h hp
  rcases rel3 r x with h1 | h1 | h1
  ·rw [ins_a h1]
   have e : atL (r :: l) x = atL l x + 1 := by rw [atL_cons, if_pos h1]
   rw [e] at hp ⊢
   have h2 : isL l x = true := by unfold isL at h ⊢; rw [e] at h; simpa using h
   rw [ih h2 (by simpa using hp)]
   simp
  ·rw [ins_s h1]
   have e : atL (r :: l) x = 0 := by rw [atL_cons, if_neg (by rw [same_ahead h1]; simp)]
   rw [e] at hp ⊢
   simp at hp
   subst hp
   simp
  ·exfalso
   have e : atL (r :: l) x = 0 := by rw [atL_cons, if_neg (by rw [ahead_asymm h1]; simp)]
   unfold isL at h
   rw [e] at h
   simp only [List.getElem?_cons_zero, decide_eq_true_eq] at h
   rw [same_ahead (cmpP_zero.1 h).symm] at h1
   cases h1
theorem putL_ins {r : List Pn} (h : putL k xs x = some r) : r = insP k xs x := by
 unfold putL at h
 cases hI : isL xs x
 ·rw [hI] at h
  dsimp only at h
  split at h
  ·cases h
  ·injection h with h
   rw [ins_new hI, ← h]
 ·obtain ⟨p, hp, _⟩ := isL_some hI
  rw [hI, hp] at h
  dsimp only at h
  split at h
  ·cases h
  ·injection h with h
   rw [ins_join hI hp, ← h]
theorem ins_ahead {r : Pn} (h1 : ∀ p ∈ l, ahead r p = true) (h2 : ahead r x = true) : ∀ p ∈ insP k l x, ahead r p = true := by
 induction l with
 | nil => intro p hp; simp [insP] at hp; subst hp; exact h2
 | cons q l ih =>
  have ih := ih (fun p hp => h1 p (List.mem_cons_of_mem _ hp))
  intro p hp
  rcases rel3 q x with h | h | h
  ·rw [ins_a h] at hp
   rcases List.mem_cons.1 hp with rfl | hp
   ·exact h1 _ List.mem_cons_self
   ·exact ih p hp
  ·rw [ins_s h] at hp
   rcases List.mem_cons.1 hp with rfl | hp
   ·rw [sameP.right (joinP_same q x)]; exact h1 _ List.mem_cons_self
   ·exact h1 _ (List.mem_cons_of_mem _ hp)
  ·rw [ins_b h] at hp
   rcases List.mem_cons.1 hp with rfl | hp
   ·exact h2
   ·exact h1 _ hp
theorem ins_sorted (h : l.Pairwise (fun p q => ahead p q = true)) : (insP k l x).Pairwise (fun p q => ahead p q = true) := by
 induction l with
 | nil => simp [insP]
 | cons q l ih =>
  rw [List.pairwise_cons] at h
  rcases rel3 q x with h1 | h1 | h1
  ·rw [ins_a h1, List.pairwise_cons]
   exact ⟨ins_ahead h.1 h1, ih h.2⟩
  ·rw [ins_s h1, List.pairwise_cons]
   exact ⟨fun p hp => by rw [sameP.left (joinP_same q x)]; exact h.1 p hp, h.2⟩
  ·rw [ins_b h1, List.pairwise_cons, List.pairwise_cons]
   refine ⟨fun p hp => ?_, h⟩
   rcases List.mem_cons.1 hp with rfl | hp
   ·exact h1
   ·exact ahead_trans h1 (h.1 p hp)
theorem ins_mem : ∀ q ∈ insP k l x, q ∈ l ∨ q = x ∨ ∃ p ∈ l, q = joinP k p x ∧ isL l x = true ∧ l[atL l x]? = some p := by
 induction l with
 | nil => intro q hq; simp [insP] at hq; exact .inr (.inl hq)
 | cons p l ih =>
  intro q hq
  rcases rel3 p x with h | h | h
  ·rw [ins_a h] at hq
   have e : atL (p :: l) x = atL l x + 1 := by rw [atL_cons, if_pos h]
   rcases List.mem_cons.1 hq with rfl | hq
   ·exact .inl List.mem_cons_self
   ·rcases ih q hq with h1 | h1 | ⟨r, h1, h2, h3, h4⟩
    ·exact .inl (List.mem_cons_of_mem _ h1)
    ·exact .inr (.inl h1)
    ·refine .inr (.inr ⟨r, List.mem_cons_of_mem _ h1, h2, ?_, ?_⟩)
     ·unfold isL at h3 ⊢; rw [e]; simpa using h3
     ·rw [e]; simpa using h4
  ·rw [ins_s h] at hq
   have e : atL (p :: l) x = 0 := by rw [atL_cons, if_neg (by rw [same_ahead h]; simp)]
   rcases List.mem_cons.1 hq with rfl | hq
   ·refine .inr (.inr ⟨p, List.mem_cons_self, rfl, ?_, ?_⟩)
    ·unfold isL; rw [e]; simp [cmpP_zero.2 h]
    ·rw [e]; simp
   ·exact .inl (List.mem_cons_of_mem _ hq)
  ·rw [ins_b h] at hq
   rcases List.mem_cons.1 hq with rfl | hq
   ·exact .inr (.inl rfl)
   ·exact .inl hq
theorem putL_len {r : List Pn} (h : putL k xs x = some r) (hx : xs.length ≤ 2000) : r.length ≤ 2000 := by
 unfold putL at h
 cases hI : isL xs x
 ·rw [hI] at h
  dsimp only at h
  split at h
  ·cases h
  ·injection h with h
   rw [← h]
   have := atL_le xs x
   simp only [List.length_append, List.length_take, List.length_drop, List.length_cons, List.length_nil]
   omega
 ·obtain ⟨p, hp, _⟩ := isL_some hI
  rw [hI, hp] at h
  dsimp only at h
  split at h
  ·cases h
  ·injection h with h
   rw [← h, List.length_set]; exact hx
theorem putL_join {r : List Pn} (h : putL k xs x = some r) (hI : isL xs x = true) (hp : xs[atL xs x]? = some p) : 1 ≤ (joinP k p x).n := by
 unfold putL at h
 rw [hI, hp] at h
 dsimp only at h
 split at h
 ·cases h
 ·omega
theorem may_join (h1 : mayB p = true) (h2 : 1 ≤ (joinP k p x).n) : mayB (joinP k p x) = true := by
 simp only [mayB, Bool.and_eq_true, decide_eq_true_eq] at h1 ⊢
 exact ⟨h1.1, h2⟩
theorem putL_right {r : List Pn} (h : putL k xs x = some r) (hx : rightL xs = true) (hm : mayB x = true) : rightL r = true := by
 obtain ⟨r1, r2, r3⟩ := rightL_ok hx
 have e := putL_ins h
 have hl := putL_len h r1
 refine rightL_mk hl ?_ ?_
 ·intro q hq
  rw [e] at hq
  rcases ins_mem q hq with h1 | h1 | ⟨p, h1, h2, h3, h4⟩
  ·exact r2 q h1
  ·rw [h1]; exact hm
  ·rw [h2]; exact may_join (r2 p h1) (putL_join h h3 h4)
 ·rw [e]; exact ins_sorted r3
end
def accP (p : Pn) : Acc := ⟨p.n, p.a, p.b⟩
def GoodP (p : Pn) : Prop := Good (accP p) ∧ 1 ≤ p.n
def sumN (l : List Pn) : Int := (l.map Pn.n).sum
section
variable {k : Int} {l xs : List Pn} {p q x y : Pn}
theorem sumN_nonneg (h : ∀ p ∈ l, GoodP p) : (l.length : Int) ≤ sumN l := by
 induction l with
 | nil => simp [sumN]
 | cons p l ih =>
  have h1 := (h p List.mem_cons_self).2
  have h2 := ih (fun q hq => h q (List.mem_cons_of_mem _ hq))
  simp only [sumN, List.map_cons, List.sum_cons, List.length_cons] at h2 ⊢
  omega
theorem sumN_mem (h : ∀ p ∈ l, GoodP p) (hp : p ∈ l) : p.n ≤ sumN l := by
 induction l with
 | nil => cases hp
 | cons q l ih =>
  have h1 := (h q List.mem_cons_self).2
  have h0 := fun r hr => h r (List.mem_cons_of_mem q hr)
  have h2 := sumN_nonneg h0
  have e : sumN (q :: l) = q.n + sumN l := by simp [sumN]
  rw [e]
  rcases List.mem_cons.1 hp with rfl | hp
  ·omega
  ·have := ih h0 hp; omega
theorem joinP_good (hk : fRight k = true) (hp : GoodP p) (hx : GoodP x) (hs : p.n + x.n ≤ 1000000000) : GoodP (joinP k p x) ∧ (joinP k p x).n = p.n + x.n := by
 have hn : (joinP k p x).n = p.n + x.n := join_n hk hp.1 hx.1
 exact ⟨⟨join_good hk hp.1 hx.1 hs, by have := hp.2; have := hx.2; omega⟩, hn⟩
theorem ins_good (hk : fRight k = true) (h : ∀ p ∈ l, GoodP p) (hx : GoodP x) (hs : sumN l + x.n ≤ 1000000000) : (∀ p ∈ insP k l x, GoodP p) ∧ sumN (insP k l x) = sumN l + x.n := by
 induction l with
 | nil => simp [insP, hx, sumN]
 | cons q l ih =>
  have h0 := fun r hr => h r (List.mem_cons_of_mem q hr)
  have hq := h q List.mem_cons_self
  have e : sumN (q :: l) = q.n + sumN l := by simp [sumN]
  have h2 := sumN_nonneg h0
  rw [e] at hs ⊢
  have hq2 := hq.2
  rcases rel3 q x with h1 | h1 | h1
  ·obtain ⟨i1, i2⟩ := ih h0 (by omega)
   rw [ins_a h1]
   refine ⟨fun p hp => ?_, ?_⟩
   ·rcases List.mem_cons.1 hp with rfl | hp
    ·exact hq
    ·exact i1 p hp
   ·have : sumN (q :: insP k l x) = q.n + sumN (insP k l x) := by simp [sumN]
    rw [this, i2]; omega
  ·obtain ⟨j1, j2⟩ := joinP_good hk hq hx (by omega)
   rw [ins_s h1]
   refine ⟨fun p hp => ?_, ?_⟩
   ·rcases List.mem_cons.1 hp with rfl | hp
    ·exact j1
    ·exact h0 p hp
   ·have : sumN (joinP k q x :: l) = (joinP k q x).n + sumN l := by simp [sumN]
    rw [this, j2]; omega
  ·rw [ins_b h1]
   refine ⟨fun p hp => ?_, ?_⟩
   ·rcases List.mem_cons.1 hp with rfl | hp
    ·exact hx
    ·exact h p hp
   ·have : sumN (x :: q :: l) = x.n + (q.n + sumN l) := by simp [sumN]
    rw [this]; omega
def insAll (k : Int) (l : List Pn) (vs : List Pn) : List Pn := vs.foldl (insP k) l
theorem insAll_snoc {vs : List Pn} : insAll k l (vs ++ [x]) = insP k (insAll k l vs) x := by simp [insAll]
theorem insAll_app {vs ws : List Pn} : insAll k l (vs ++ ws) = insAll k (insAll k l vs) ws := by simp [insAll]
theorem insAll_good {vs : List Pn} (hk : fRight k = true) : ∀ {l : List Pn}, (∀ p ∈ l, GoodP p) → (∀ p ∈ vs, GoodP p) → sumN l + sumN vs ≤ 1000000000 → (∀ p ∈ insAll k l vs, GoodP p) ∧ sumN (insAll k l vs) = sumN l + sumN vs := by
 induction vs with
 | nil => intro l h1 h2 h3; exact ⟨h1, by simp [insAll, sumN]⟩
 | cons x vs ih =>
  intro l h1 h2 h3
  have hx := h2 x List.mem_cons_self
  have h4 := fun r hr => h2 r (List.mem_cons_of_mem x hr)
  have h5 := sumN_nonneg h4
  have e : sumN (x :: vs) = x.n + sumN vs := by simp [sumN]
  rw [e] at h3 ⊢
  obtain ⟨i1, i2⟩ := ins_good hk h1 hx (by omega)
  obtain ⟨j1, j2⟩ := ih i1 h4 (by rw [i2]; omega)
  exact ⟨j1, by show sumN (insAll k (insP k l x) vs) = _; rw [j2, i2]; omega⟩
end
theorem putR_le {k : Int} {xs : List Pn} {x : Pn} (h : rightL xs = true) : (putR k xs x).1.length ≤ 2000 := by
 unfold putR
 split
 ·rename_i l h1
  exact putL_len h1 (rightL_ok h).1
 ·simp
theorem addR_le (k : Int) (xs : List Pn) (x : Pn) : (addR k xs x).1.length ≤ 2000 := by
 unfold addR
 split
 ·rename_i h
  simp only [Bool.and_eq_true] at h
  exact putR_le h.1.1
 ·simp
structure AdvR where
 no : Int
 mark : Int
 ps : List Pn
 rs : List Rs
 e : Int
def AdvR.av (r : AdvR) : AV := .tup [.agg [.v (.int .i64 r.no), .v (.int .i64 r.mark), .sl 6 (r.ps.map Pn.av)], .sl 5 (r.rs.map Rs.av), .v (.int .i64 r.e)]
def evR (key : ByteArray) (at' : Int) : Bool := keyB key && (decide (0 ≤ at') && decide (at' < 1099511627776))
theorem p_ikey (k : ByteArray) : PC Try.prog 38 [.v (.string k)] (.v (.bool (keyB k))) := by
 refine PC.mk (ac_body tab_ok Try.func38 rfl (by kernel_rfl) rfl ?_); intro w0 M μ0; simp only [Try.ntmps38, List.length_cons, List.length_nil, Nat.reduceAdd, Nat.reduceSub, numb]
 repeat' (first | ((first | apply o_do | apply d_do | apply d_yes rfl rfl rfl); exact lsq) | refine a_seq ?_ | refine a_region ?_ | refine o_nil ?_ | refine a_block ?_ | refine a_ret ?_ | refine a_exit ?_ | refine a_skip ?_ | refine a_draw mixed ?_ | refine d_nil (by kernel_rfl) ?_ | refine o_yes rfl rfl rfl ?_ | refine o_no rfl rfl rfl (by decide) ?_ | refine o_no' rfl rfl rfl ?_ | refine a_condT rfl ?_ | refine a_condF rfl ?_ | refine d_no rfl rfl rfl (by decide) ?_ | refine d_no' rfl rfl rfl ?_ | (refine wq2 (fun hb => ?_) (fun hb => ?_) <;> (simp only [hb]; try simp only [hbs, ne_eq] at hb; try (exfalso; first | omega | exact hb trivial))) | fail)
 all_goals refine rq rfl ?_
 all_goals (first | refine FinA.tup ?_ | refine FinA.one ?_); repeat' (first | exact FinBs.nil | exact FinCs.nil | refine FinBs.cons ?_ ?_ | refine FinCs.cons ?_ ?_ | refine FinB.cell (FinC.v ?_) | refine FinB.cell (FinC.own rfl rfl rfl ?_) | exact FinB.cell FinC.nil | refine FinB.cell (FinC.sl ?_) | exact FinB.agg' rfl rfl | exact FinB.cell (FinC.same rfl) | refine FinB.agg ?_ | refine FinC.v ?_ | refine FinC.own rfl rfl rfl ?_ | exact FinC.nil | refine FinC.sl ?_ | exact FinC.same rfl); all_goals try rfl
 all_goals simp only [bytes_nil', decide_eq_true_eq, decide_eq_false_iff_not] at *
 all_goals simp [keyB_int, *]
 all_goals try omega
theorem p_Event (key : ByteArray) (at' v : Int) : PC Try.prog 26 [.agg [.v (.string key), .v (.int .i64 at'), .v (.int .i64 v)]] (.v (.bool (evR key at'))) := by
 have h := p_ikey key
 unfold evR
 cases hk : keyB key
 ·rw [hk] at h
  refine PC.mk (ac_body tab_ok Try.func26 rfl (by kernel_rfl) rfl ?_); intro w0 M μ0; simp only [Try.ntmps26, List.length_cons, List.length_nil, Nat.reduceAdd, Nat.reduceSub, numb]
  repeat' (first | ((first | apply o_do | apply d_do | apply d_yes rfl rfl rfl); first | exact lsc (h) | exact lsq) | refine a_seq ?_ | refine a_region ?_ | refine o_nil ?_ | refine a_block ?_ | refine a_ret ?_ | refine a_exit ?_ | refine a_skip ?_ | refine a_draw mixed ?_ | refine d_nil (by kernel_rfl) ?_ | refine o_yes rfl rfl rfl ?_ | refine o_no rfl rfl rfl (by decide) ?_ | refine o_no' rfl rfl rfl ?_ | refine a_condT rfl ?_ | refine a_condF rfl ?_ | refine d_no rfl rfl rfl (by decide) ?_ | refine d_no' rfl rfl rfl ?_ | (refine wq2 (fun hb => ?_) (fun hb => ?_) <;> (simp only [hb]; try simp only [hbs, ne_eq] at hb; try (exfalso; first | omega | exact hb trivial))) | fail)
  all_goals refine rq rfl ?_
  all_goals exact fnq
 ·rw [hk] at h
  refine PC.mk (ac_body tab_ok Try.func26 rfl (by kernel_rfl) rfl ?_); intro w0 M μ0; simp only [Try.ntmps26, List.length_cons, List.length_nil, Nat.reduceAdd, Nat.reduceSub, numb]
  repeat' (first | ((first | apply o_do | apply d_do | apply d_yes rfl rfl rfl); first | exact lsc (h) | exact lsq) | refine a_seq ?_ | refine a_region ?_ | refine o_nil ?_ | refine a_block ?_ | refine a_ret ?_ | refine a_exit ?_ | refine a_skip ?_ | refine a_draw mixed ?_ | refine d_nil (by kernel_rfl) ?_ | refine o_yes rfl rfl rfl ?_ | refine o_no rfl rfl rfl (by decide) ?_ | refine o_no' rfl rfl rfl ?_ | refine a_condT rfl ?_ | refine a_condF rfl ?_ | refine d_no rfl rfl rfl (by decide) ?_ | refine d_no' rfl rfl rfl ?_ | (refine wq2 (fun hb => ?_) (fun hb => ?_) <;> (simp only [hb]; try simp only [hbs, ne_eq] at hb; try (exfalso; first | omega | exact hb trivial))) | fail)
  all_goals refine rq rfl ?_
  all_goals (first | refine FinA.tup ?_ | refine FinA.one ?_); repeat' (first | exact FinBs.nil | exact FinCs.nil | refine FinBs.cons ?_ ?_ | refine FinCs.cons ?_ ?_ | refine FinB.cell (FinC.v ?_) | refine FinB.cell (FinC.own rfl rfl rfl ?_) | exact FinB.cell FinC.nil | refine FinB.cell (FinC.sl ?_) | exact FinB.agg' rfl rfl | exact FinB.cell (FinC.same rfl) | refine FinB.agg ?_ | refine FinC.v ?_ | refine FinC.own rfl rfl rfl ?_ | exact FinC.nil | refine FinC.sl ?_ | exact FinC.same rfl); all_goals try rfl
  all_goals simp [*]
def takeW (k : Int) (key : ByteArray) (v : Int) : List Pn → List Wn → List Pn × Int
 | ps, [] => (ps, 0)
 | ps, w :: ws => if (addR k ps (oneP k w.lo w.hi key v)).2 = 0 then takeW k key v (addR k ps (oneP k w.lo w.hi key v)).1 ws else ([], (addR k ps (oneP k w.lo w.hi key v)).2)
structure TkR where
 no : Int
 mark : Int
 ps : List Pn
 n : Int
 e : Int
def TkR.av (r : TkR) : AV := .tup [.agg [.v (.int .i64 r.no), .v (.int .i64 r.mark), .sl 6 (r.ps.map Pn.av)], .v (.int .i64 r.n), .v (.int .i64 r.e)]
theorem addR_form (k : Int) (xs : List Pn) (x : Pn) : (∃ l, addR k xs x = (l, 0) ∧ l.length ≤ 2000) ∨ (∃ e, addR k xs x = ([], e) ∧ e ≠ 0) := by
 have h := addR_le k xs x
 unfold addR at *
 split
 ·rename_i hc
  rw [if_pos hc] at h
  unfold putR at *
  cases hp : putL k xs x with
  | none => right; exact ⟨3, rfl, by omega⟩
  | some l => rw [hp] at h; exact .inl ⟨l, rfl, h⟩
 ·exact .inr ⟨1, rfl, by omega⟩
section
variable (g s d k fu li de id no mark : Int) (ps : List Pn) (key : ByteArray) (at' v : Int)
end
end Go.Proofs.Ytlgbadlgfdlheaa
namespace Go.Proofs.Ytlgbadlgfdlheaa
open Go.RowKit
section
variable (g s d k fu li de id no mark : Int) (ps : List Pn) (key : ByteArray) (at' v : Int)
end
def okN (k : Int) : List Pn → Pn → Prop
 | [], _ => True
 | p :: l, x => if ahead p x = true then okN k l x else if ahead x p = true then True else 1 ≤ (joinP k p x).n
section
variable {k : Int} {l xs : List Pn} {p q x y : Pn}
theorem okN_a (h : ahead p x = true) : okN k (p :: l) x ↔ okN k l x := by simp [okN, h]
theorem okN_s (h : sameP p x) : okN k (p :: l) x ↔ 1 ≤ (joinP k p x).n := by simp [okN, same_ahead h, same_ahead h.symm]
theorem okN_b (h : ahead x p = true) : okN k (p :: l) x ↔ True := by simp [okN, h, ahead_asymm h]
theorem okN_iff : okN k xs x ↔ (isL xs x = true → ∀ p, xs[atL xs x]? = some p → 1 ≤ (joinP k p x).n) := by
 induction xs with
 | nil => simp [okN, isL]
 | cons r l ih =>
  rcases rel3 r x with h | h | h
  ·rw [okN_a h, ih]
   have e : atL (r :: l) x = atL l x + 1 := by rw [atL_cons, if_pos h]
   have e2 : isL (r :: l) x = isL l x := by unfold isL; rw [e]; simp
   rw [e, e2]; simp
  ·rw [okN_s h]
   have e : atL (r :: l) x = 0 := by rw [atL_cons, if_neg (by rw [same_ahead h]; simp)]
   have e2 : isL (r :: l) x = true := by unfold isL; rw [e]; simp [cmpP_zero.2 h]
   rw [e, e2]; simp
  ·rw [okN_b h]
   have e : atL (r :: l) x = 0 := by rw [atL_cons, if_neg (by rw [ahead_asymm h]; simp)]
   have e2 : isL (r :: l) x = false := by
    unfold isL; rw [e]
    simp only [List.getElem?_cons_zero, decide_eq_false_iff_not]
    intro h2
    rw [same_ahead (cmpP_zero.1 h2).symm] at h; cases h
   rw [e2]; simp
theorem ins_lenN : isL xs x = false → (insP k xs x).length = xs.length + 1 := by
 intro h
 rw [ins_new h]
 have := atL_le xs x
 simp only [List.length_append, List.length_take, List.length_drop, List.length_cons, List.length_nil]; omega
theorem ins_lenJ : isL xs x = true → (insP k xs x).length = xs.length := by
 intro h
 obtain ⟨p, hp, _⟩ := isL_some h
 rw [ins_join h hp, List.length_set]
theorem ins_mono : xs.length ≤ (insP k xs x).length := by
 cases h : isL xs x
 ·rw [ins_lenN h]; omega
 ·rw [ins_lenJ h]; omega
theorem putL_iff (hx : xs.length ≤ 2000) {r : List Pn} : putL k xs x = some r ↔ r = insP k xs x ∧ okN k xs x ∧ r.length ≤ 2000 := by
 constructor
 ·intro h
  refine ⟨putL_ins h, okN_iff.2 (fun hI p hp => putL_join h hI hp), putL_len h hx⟩
 ·rintro ⟨rfl, h1, h2⟩
  unfold putL
  cases hI : isL xs x
  ·rw [ins_lenN hI] at h2
   dsimp only
   rw [if_neg (by omega), ins_new hI]
  ·obtain ⟨p, hp, _⟩ := isL_some hI
   have := okN_iff.1 h1 hI p hp
   rw [hp]
   dsimp only
   rw [if_neg (by omega), ins_join hI hp]
end
structure Et where
 key : ByteArray
 at' : Int
 v : Int
def Et.av (e : Et) : List AV := [.v (.string e.key), .v (.int .i64 e.at'), .v (.int .i64 e.v)]
def Et.cells (e : Et) : List Value := [.string e.key, .int .i64 e.at', .int .i64 e.v]
section
variable {s d t mark : Int}
theorem winK_hi (h : okT s d t = true) {k : Int} (h0 : 0 ≤ k) (h1 : k ≤ lastK d t) : (winK s d k).hi = min (k * d + s) 1099511627776 := by
 obtain ⟨⟨h2, h3, h4, h5⟩, h6, h7⟩ := okT_iff.1 h
 have e := (last_iff h2 k).1 h1
 have e2 := Int.mul_nonneg h0 (show 0 ≤ d by omega)
 exact addT_eq e2 (by omega) (by omega) (by omega)
theorem winL_get (h : okT s d t = true) {i : Nat} (hi : i < cntK s d t) : (winL s d t)[i]? = some (winK s d (firstK s d t + (i : Int))) := by
 unfold winL
 rw [if_pos h, List.getElem?_map, List.getElem?_range hi]
 rfl
theorem winL_length (h : okT s d t = true) : (winL s d t).length = cntK s d t := by
 unfold winL
 rw [if_pos h]; simp
end
section
variable {s d k no mark : Int}
theorem win_may {t : Int} (h : okT s d t = true) {w : Wn} (hw : w ∈ winL s d t) : 0 ≤ w.lo ∧ w.lo < w.hi ∧ w.hi ≤ 1099511627776 := by
 obtain ⟨i, hi, rfl⟩ := List.getElem_of_mem hw
 rw [winL_length h] at hi
 have h2 := winL_get h hi
 rw [List.getElem?_eq_getElem (by rw [winL_length h]; exact hi)] at h2
 injection h2 with h2
 rw [h2]
 obtain ⟨⟨q1, q2, q3, q4⟩, q5, q6⟩ := okT_iff.1 h
 have hc := cntK_eq h
 have f0 := first_nonneg s d t
 rw [winK_hi h (by omega) (by omega)]
 have e1 := (first_iff (size := s) (t := t) q1 (firstK s d t + (i : Int))).1 (by omega)
 have e2 := (last_iff (t := t) q1 (firstK s d t + (i : Int))).1 (by omega)
 have e3 : (winK s d (firstK s d t + (i : Int))).lo = (firstK s d t + (i : Int)) * d := rfl
 have e4 := Int.mul_nonneg (show 0 ≤ firstK s d t + (i : Int) by omega) (show 0 ≤ d by omega)
 rw [e3]
 omega
theorem takeW_fold (hk : fRight k = true) {key : ByteArray} {v : Int} : ∀ {ws : List Wn} {ps : List Pn}, rightL ps = true → (∀ w ∈ ws, mayB (oneP k w.lo w.hi key v) = true) →
  takeW k key v ps ws = match (ws.map fun w => oneP k w.lo w.hi key v).foldlM (putL k) ps with | some r => (r, 0) | none => ([], 3)
 | [], ps, _, _ => rfl
 | w :: ws, ps, hr, hm => by
  have hx := hm w List.mem_cons_self
  have hadd : addR k ps (oneP k w.lo w.hi key v) = putR k ps (oneP k w.lo w.hi key v) := by simp [addR, hr, hk, hx]
  unfold takeW
  rw [hadd, List.map_cons, List.foldlM_cons]
  unfold putR
  cases hp : putL k ps (oneP k w.lo w.hi key v) with
  | none => simp
  | some l =>
   simp only [if_true]
   rw [takeW_fold hk (putL_right hp hr hx) (fun w' h => hm w' (List.mem_cons_of_mem _ h))]
   rfl
end
end Go.Proofs.Ytlgbadlgfdlheaa
