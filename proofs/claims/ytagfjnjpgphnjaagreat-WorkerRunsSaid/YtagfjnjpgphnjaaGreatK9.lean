/-
  Panes, walked over abstract values: one pane put into a row of one's own.
-/
import Derived.Test.YtagfjnjpgphnjaaGreatK4
import Derived.Test.YtagfjnjpgphnjaaGreatK5
import Derived.Test.YtagfjnjpgphnjaaGreatK7
import Derived.Test.YtagfjnjpgphnjaaGreatK8
namespace Go.Proofs.YtagfjnjpgphnjaaGreat
open Go.RowKit
set_option linter.unusedSimpArgs false
set_option linter.unusedVariables false
/-- a pane with another one's values joined to its own -/
def joinP (k : Int) (p x : Pn) : Pn := ⟨p.lo, p.hi, p.key, (fJoin k ⟨p.n, p.a, p.b⟩ ⟨x.n, x.a, x.b⟩).n, (fJoin k ⟨p.n, p.a, p.b⟩ ⟨x.n, x.a, x.b⟩).a, (fJoin k ⟨p.n, p.a, p.b⟩ ⟨x.n, x.a, x.b⟩).b⟩
/-- a row with one more; none: it can't be -/
def putL (k : Int) (xs : List Pn) (x : Pn) : Option (List Pn) :=
  match isL xs x with
  | true => match xs[atL xs x]? with
    | some p => if (joinP k p x).n < 1 then none else some (xs.set (atL xs x) (joinP k p x))
    | none => none
  | false => if 2000 ≤ xs.length then none else some (xs.take (atL xs x) ++ [x] ++ xs.drop (atL xs x))
section
variable (k lo hi : Int) (key : ByteArray) (n a b : Int) (xs : List Pn)
theorem put_full (hs : xs.Pairwise (fun p q => ahead p q = true)) (hx : xs.length ≤ 1000000) (h1 : isL xs (Pn.mk lo hi key n a b) = false) (h2 : 2000 ≤ xs.length) :
    AC Tryz.prog 125 [.own 0 (xs.map Pn.av).length, .v (.int .i64 k), (.agg [.v (.int .i64 lo), .v (.int .i64 hi), .v (.string key), .v (.int .i64 n), .v (.int .i64 a), .v (.int .i64 b)])] [(0, .row 155 6 (xs.map Pn.av))] (.tup [.v (.slice none 0 0), .v (.int .i64 3)]) [(0, .row 155 6 (xs.map Pn.av))] := by
  have hp := p_place xs lo hi key n a b hs hx
  rw [h1] at hp
  have hml : (xs.map Pn.av).length = xs.length := List.length_map _
  refine (ac_body tab_ok Tryz.func125 rfl (by kernel_rfl) rfl ?_); intro w0 M μ0; simp only [Tryz.ntmps125, List.length_cons, List.length_nil, Nat.reduceAdd, Nat.reduceSub, numb]
  repeat' (first | ((first | apply o_do | apply d_do | apply d_yes rfl rfl rfl); first | exact lcs (hp) | exact lsq) | refine a_seq ?_ | refine a_region ?_ | refine o_nil ?_ | refine a_block ?_ | refine a_ret ?_ | refine a_exit ?_ | refine a_skip ?_ | refine a_draw mixed ?_ | refine d_nil (by kernel_rfl) ?_ | refine o_yes rfl rfl rfl ?_ | refine o_no rfl rfl rfl (by decide) ?_ | refine o_no' rfl rfl rfl ?_ | refine a_condT rfl ?_ | refine a_condF rfl ?_ | refine d_no rfl rfl rfl (by decide) ?_ | refine d_no' rfl rfl rfl ?_ | (refine wq2 (fun hb => ?_) (fun hb => ?_) <;> (simp only [hb]; try simp only [hbs, ne_eq] at hb; try (exfalso; first | omega | exact hb trivial))) | fail)
  all_goals refine rq rfl ?_
  all_goals exact fnq
set_option maxHeartbeats 1000000 in
theorem put_new (hs : xs.Pairwise (fun p q => ahead p q = true)) (hx : xs.length ≤ 1000000) (h1 : isL xs (Pn.mk lo hi key n a b) = false) (h2 : xs.length < 2000) :
    AC Tryz.prog 125 [.own 0 (xs.map Pn.av).length, .v (.int .i64 k), (.agg [.v (.int .i64 lo), .v (.int .i64 hi), .v (.string key), .v (.int .i64 n), .v (.int .i64 a), .v (.int .i64 b)])] [(0, .row 155 6 (xs.map Pn.av))] (.tup [.own 0 ((xs.map Pn.av).take (atL xs (Pn.mk lo hi key n a b)) ++ [Pn.av (Pn.mk lo hi key n a b)] ++ (xs.map Pn.av).drop (atL xs (Pn.mk lo hi key n a b))).length, .v (.int .i64 0)]) [(0, .row 155 6 ((xs.map Pn.av).take (atL xs (Pn.mk lo hi key n a b)) ++ [Pn.av (Pn.mk lo hi key n a b)] ++ (xs.map Pn.av).drop (atL xs (Pn.mk lo hi key n a b))))] := by
  have hp := p_place xs lo hi key n a b hs hx
  rw [h1] at hp
  have hml : (xs.map Pn.av).length = xs.length := List.length_map _
  have hle := atL_le xs (Pn.mk lo hi key n a b)
  have hI := p_Insert (xs.map Pn.av) (Pn.av (Pn.mk lo hi key n a b)) (atL xs (Pn.mk lo hi key n a b)) (by omega) (by omega)
  refine (ac_body tab_ok Tryz.func125 rfl (by kernel_rfl) rfl ?_); intro w0 M μ0; simp only [Tryz.ntmps125, List.length_cons, List.length_nil, Nat.reduceAdd, Nat.reduceSub, numb]
  repeat' (first | ((first | apply o_do | apply d_do | apply d_yes rfl rfl rfl); first | exact lcs (hp) | exact ls_buildO (k := 2) tab_ok rfl rfl rfl rfl rfl rfl rfl | exact ls_callA [0, 2] 3 hI rfl rfl (by (repeat' (first | exact NilL.nil | refine NilL.cons Nil.same ?_ | refine NilL.cons Nil.nil ?_ | refine NilL.cons (Nil.agg ?_) ?_ | exact Nil1s.nil | refine Nil1s.cons Nil1.same ?_ | refine Nil1s.cons Nil1.nil ?_)); first | done | fail) rfl (by repeat' (first | exact trivial | refine ⟨⟨_, rfl, by first | rfl | (simp [renO, *]; done)⟩, ?_⟩)) (by first | rfl | simp [closO, *]) rfl rfl rfl rfl (by first | rfl | simp [closO, *]) rfl | exact lsq) | refine a_seq ?_ | refine a_region ?_ | refine o_nil ?_ | refine a_block ?_ | refine a_ret ?_ | refine a_exit ?_ | refine a_skip ?_ | refine a_draw mixed ?_ | refine d_nil (by kernel_rfl) ?_ | refine o_yes rfl rfl rfl ?_ | refine o_no rfl rfl rfl (by decide) ?_ | refine o_no' rfl rfl rfl ?_ | refine a_condT rfl ?_ | refine a_condF rfl ?_ | refine d_no rfl rfl rfl (by decide) ?_ | refine d_no' rfl rfl rfl ?_ | (refine wq2 (fun hb => ?_) (fun hb => ?_) <;> (simp only [hb]; try simp only [hbs, ne_eq] at hb; try (exfalso; first | omega | exact hb trivial))) | fail)
  all_goals refine rq rfl ?_
  all_goals exact fnq
set_option maxHeartbeats 2000000 in
theorem put_join (hs : xs.Pairwise (fun p q => ahead p q = true)) (hx : xs.length ≤ 1000000) (p : Pn) (h1 : isL xs (Pn.mk lo hi key n a b) = true) (hp0 : xs[atL xs (Pn.mk lo hi key n a b)]? = some p) (h2 : ¬ (joinP k p (Pn.mk lo hi key n a b)).n < 1) :
    AC Tryz.prog 125 [.own 0 (xs.map Pn.av).length, .v (.int .i64 k), (.agg [.v (.int .i64 lo), .v (.int .i64 hi), .v (.string key), .v (.int .i64 n), .v (.int .i64 a), .v (.int .i64 b)])] [(0, .row 155 6 (xs.map Pn.av))] (.tup [.own 0 (xs.map Pn.av).length, .v (.int .i64 0)]) [(0, .row 155 6 ((xs.map Pn.av).set (atL xs (Pn.mk lo hi key n a b)) (Pn.av (joinP k p (Pn.mk lo hi key n a b)))))] := by
  have hp := p_place xs lo hi key n a b hs hx
  rw [h1] at hp
  have hml : (xs.map Pn.av).length = xs.length := List.length_map _
  have hq : atL xs (Pn.mk lo hi key n a b) < (xs.map Pn.av).length := by
    rw [hml]
    rcases Nat.lt_or_ge (atL xs (Pn.mk lo hi key n a b)) xs.length with h | h
    · exact h
    · rw [List.getElem?_eq_none h] at hp0; cases hp0
  generalize atL xs (Pn.mk lo hi key n a b) = q at *
  have hel : (xs.map Pn.av)[q]? = some (Pn.av p) := by simp [hp0]
  have hq2 : q < ((xs.map Pn.av).set q (Pn.av (joinP k p (Pn.mk lo hi key n a b)))).length := by rw [List.length_set]; exact hq
  have hel2 : ((xs.map Pn.av).set q (Pn.av (joinP k p (Pn.mk lo hi key n a b))))[q]? = some (Pn.av (joinP k p (Pn.mk lo hi key n a b))) := by
    rw [List.getElem?_set]; simp; omega
  have hsl : (xs.map Pn.av).length = ((xs.map Pn.av).set q (Pn.av (joinP k p (Pn.mk lo hi key n a b)))).length := by rw [List.length_set]
  have hJ := p_Join k p.n p.a p.b n a b
  have hst : ∀ (σ : Store) (μ : Nat → Value) (w : World) (A : Nat → Prop) (y : Value), rep σ μ w A (.agg (fJoinO k p.n p.a p.b n a b)) y → rep [] μ w A (.agg (fJoinO k p.n p.a p.b n a b)) y := fun _ _ _ _ _ h => rep_pureB h rfl
  refine (ac_body tab_ok Tryz.func125 rfl (by kernel_rfl) rfl ?_); intro w0 M μ0; simp only [Tryz.ntmps125, List.length_cons, List.length_nil, Nat.reduceAdd, Nat.reduceSub, numb]
  repeat' (first | ((first | apply o_do | apply d_do | apply d_yes rfl rfl rfl); first | exact lcs (hp) | exact lsc (hJ) | exact ls_indexAddr_own tab_ok rfl rfl rfl rfl rfl rfl hq rfl | exact ls_indexAddr_own tab_ok rfl rfl hsl rfl rfl rfl hq2 rfl | exact ls_fieldAddr_eref tab_ok rfl rfl rfl rfl rfl rfl rfl | exact ls_fieldAddr_eref tab_ok rfl rfl rfl rfl rfl rfl hsl | exact ls_load_eref tab_ok rfl rfl rfl hel rfl rfl rfl rfl | exact ls_load_eref tab_ok rfl rfl hsl hel2 rfl rfl rfl rfl | exact ls_store_eref tab_ok rfl rfl rfl rfl hel rfl rfl hst rfl rfl rfl rfl | exact lsq) | refine a_seq ?_ | refine a_region ?_ | refine o_nil ?_ | refine a_block ?_ | refine a_ret ?_ | refine a_exit ?_ | refine a_skip ?_ | refine a_draw mixed ?_ | refine d_nil (by kernel_rfl) ?_ | refine o_yes rfl rfl rfl ?_ | refine o_no rfl rfl rfl (by decide) ?_ | refine o_no' rfl rfl rfl ?_ | refine a_condT rfl ?_ | refine a_condF rfl ?_ | refine d_no rfl rfl rfl (by decide) ?_ | refine d_no' rfl rfl rfl ?_ | (refine wq2 (fun hb => ?_) (fun hb => ?_) <;> (simp only [hb]; try simp only [hbs, ne_eq] at hb; try (exfalso; first | omega | exact hb trivial))) | fail)
  all_goals refine rq rfl ?_
  all_goals exact fnq
set_option maxHeartbeats 2000000 in
theorem put_over (hs : xs.Pairwise (fun p q => ahead p q = true)) (hx : xs.length ≤ 1000000) (p : Pn) (h1 : isL xs (Pn.mk lo hi key n a b) = true) (hp0 : xs[atL xs (Pn.mk lo hi key n a b)]? = some p) (h2 : (joinP k p (Pn.mk lo hi key n a b)).n < 1) :
    AC Tryz.prog 125 [.own 0 (xs.map Pn.av).length, .v (.int .i64 k), (.agg [.v (.int .i64 lo), .v (.int .i64 hi), .v (.string key), .v (.int .i64 n), .v (.int .i64 a), .v (.int .i64 b)])] [(0, .row 155 6 (xs.map Pn.av))] (.tup [.v (.slice none 0 0), .v (.int .i64 3)]) [(0, .row 155 6 ((xs.map Pn.av).set (atL xs (Pn.mk lo hi key n a b)) (Pn.av (joinP k p (Pn.mk lo hi key n a b)))))] := by
  have hp := p_place xs lo hi key n a b hs hx
  rw [h1] at hp
  have hml : (xs.map Pn.av).length = xs.length := List.length_map _
  have hq : atL xs (Pn.mk lo hi key n a b) < (xs.map Pn.av).length := by
    rw [hml]
    rcases Nat.lt_or_ge (atL xs (Pn.mk lo hi key n a b)) xs.length with h | h
    · exact h
    · rw [List.getElem?_eq_none h] at hp0; cases hp0
  generalize atL xs (Pn.mk lo hi key n a b) = q at *
  have hel : (xs.map Pn.av)[q]? = some (Pn.av p) := by simp [hp0]
  have hq2 : q < ((xs.map Pn.av).set q (Pn.av (joinP k p (Pn.mk lo hi key n a b)))).length := by rw [List.length_set]; exact hq
  have hel2 : ((xs.map Pn.av).set q (Pn.av (joinP k p (Pn.mk lo hi key n a b))))[q]? = some (Pn.av (joinP k p (Pn.mk lo hi key n a b))) := by
    rw [List.getElem?_set]; simp; omega
  have hsl : (xs.map Pn.av).length = ((xs.map Pn.av).set q (Pn.av (joinP k p (Pn.mk lo hi key n a b)))).length := by rw [List.length_set]
  have hJ := p_Join k p.n p.a p.b n a b
  have hst : ∀ (σ : Store) (μ : Nat → Value) (w : World) (A : Nat → Prop) (y : Value), rep σ μ w A (.agg (fJoinO k p.n p.a p.b n a b)) y → rep [] μ w A (.agg (fJoinO k p.n p.a p.b n a b)) y := fun _ _ _ _ _ h => rep_pureB h rfl
  refine (ac_body tab_ok Tryz.func125 rfl (by kernel_rfl) rfl ?_); intro w0 M μ0; simp only [Tryz.ntmps125, List.length_cons, List.length_nil, Nat.reduceAdd, Nat.reduceSub, numb]
  repeat' (first | ((first | apply o_do | apply d_do | apply d_yes rfl rfl rfl); first | exact lcs (hp) | exact lsc (hJ) | exact ls_indexAddr_own tab_ok rfl rfl rfl rfl rfl rfl hq rfl | exact ls_indexAddr_own tab_ok rfl rfl hsl rfl rfl rfl hq2 rfl | exact ls_fieldAddr_eref tab_ok rfl rfl rfl rfl rfl rfl rfl | exact ls_fieldAddr_eref tab_ok rfl rfl rfl rfl rfl rfl hsl | exact ls_load_eref tab_ok rfl rfl rfl hel rfl rfl rfl rfl | exact ls_load_eref tab_ok rfl rfl hsl hel2 rfl rfl rfl rfl | exact ls_store_eref tab_ok rfl rfl rfl rfl hel rfl rfl hst rfl rfl rfl rfl | exact lsq) | refine a_seq ?_ | refine a_region ?_ | refine o_nil ?_ | refine a_block ?_ | refine a_ret ?_ | refine a_exit ?_ | refine a_skip ?_ | refine a_draw mixed ?_ | refine d_nil (by kernel_rfl) ?_ | refine o_yes rfl rfl rfl ?_ | refine o_no rfl rfl rfl (by decide) ?_ | refine o_no' rfl rfl rfl ?_ | refine a_condT rfl ?_ | refine a_condF rfl ?_ | refine d_no rfl rfl rfl (by decide) ?_ | refine d_no' rfl rfl rfl ?_ | (refine wq2 (fun hb => ?_) (fun hb => ?_) <;> (simp only [hb]; try simp only [hbs, ne_eq] at hb; try (exfalso; first | omega | exact hb trivial))) | fail)
  all_goals refine rq rfl ?_
  all_goals exact fnq
end
def oneP (k lo hi : Int) (key : ByteArray) (v : Int) : Pn := ⟨lo, hi, key, (fOne k v).n, (fOne k v).a, (fOne k v).b⟩
/-- a row that a pane was put into, and the error -/
def putR (k : Int) (xs : List Pn) (x : Pn) : List Pn × Int := match putL k xs x with
  | some l => (l, 0)
  | none => ([], 3)
def addR (k : Int) (xs : List Pn) (x : Pn) : List Pn × Int := if rightL xs && fRight k && mayB x then putR k xs x else ([], 1)
def PR.av (r : List Pn × Int) : AV := .tup [.sl 6 (r.1.map Pn.av), .v (.int .i64 r.2)]
theorem isL_some {xs : List Pn} {x : Pn} (h : isL xs x = true) : ∃ p, xs[atL xs x]? = some p ∧ sameP p x := by
  unfold isL at h
  split at h
  · rename_i p hp
    exact ⟨p, hp, cmpP_zero.1 (by simpa using h)⟩
  · cases h
set_option maxHeartbeats 4000000 in
theorem p_Add (xs : List Pn) (k : Int) (key : ByteArray) (lo hi v : Int) (hx : xs.length ≤ 9223372036854775807) :
    PC Tryz.prog 77 [.sl 6 (xs.map Pn.av), .v (.int .i64 k), .v (.string key), .agg [.v (.int .i64 lo), .v (.int .i64 hi)], .v (.int .i64 v)] (PR.av (addR k xs (oneP k lo hi key v))) := by
  have hO := p_One k v
  have hR := p_Right xs hx
  have hF := p_fRight k
  have hM := p_may lo hi key (fOne k v).n (fOne k v).a (fOne k v).b
  by_cases hbad : (rightL xs && fRight k && mayB (oneP k lo hi key v)) = true
  · rw [addR, if_pos hbad]
    simp only [Bool.and_eq_true] at hbad
    obtain ⟨⟨b1, b2⟩, b3⟩ := hbad
    obtain ⟨r1, r2, r3⟩ := rightL_ok b1
    rw [b1] at hR
    rw [b2] at hF
    rw [show mayB ⟨lo, hi, key, (fOne k v).n, (fOne k v).a, (fOne k v).b⟩ = true from b3] at hM
    have hC := p_Clone (xs.map Pn.av) (by rw [List.length_map]; omega)
    cases hI : isL xs (oneP k lo hi key v)
    · by_cases hfull : 2000 ≤ xs.length
      · rw [show putR k xs (oneP k lo hi key v) = ([], 3) by simp [putR, putL, hI, hfull]]
        have hP := put_full k lo hi key (fOne k v).n (fOne k v).a (fOne k v).b xs r3 (by omega) hI hfull
        refine PC.mk (ac_body tab_ok Tryz.func77 rfl (by kernel_rfl) rfl ?_); intro w0 M μ0; simp only [Tryz.ntmps77, List.length_cons, List.length_nil, Nat.reduceAdd, Nat.reduceSub, numb]
        repeat' (first | ((first | apply o_do | apply d_do | apply d_yes rfl rfl rfl); first | exact lsc (hO) | exact lsc (hR) | exact lsc (hF) | exact lsc (hM) | exact ls_callA [] 2 hC rfl rfl (by (repeat' (first | exact NilL.nil | refine NilL.cons Nil.same ?_ | refine NilL.cons Nil.nil ?_ | refine NilL.cons (Nil.agg ?_) ?_ | exact Nil1s.nil | refine Nil1s.cons Nil1.same ?_ | refine Nil1s.cons Nil1.nil ?_)); first | done | fail) rfl (by repeat' (first | exact trivial | refine ⟨⟨_, rfl, by first | rfl | (simp [renO, *]; done)⟩, ?_⟩)) (by first | rfl | simp [closO, *]) rfl rfl rfl rfl (by first | rfl | simp [closO, *]) rfl | exact ls_callA [2] 3 hP rfl rfl (by (repeat' (first | exact NilL.nil | refine NilL.cons Nil.same ?_ | refine NilL.cons Nil.nil ?_ | refine NilL.cons (Nil.agg ?_) ?_ | exact Nil1s.nil | refine Nil1s.cons Nil1.same ?_ | refine Nil1s.cons Nil1.nil ?_)); first | done | fail) rfl (by repeat' (first | exact trivial | refine ⟨⟨_, rfl, by first | rfl | (simp [renO, *]; done)⟩, ?_⟩)) (by first | rfl | simp [closO, *]) rfl rfl rfl rfl (by first | rfl | simp [closO, *]) rfl | exact lsq) | refine a_seq ?_ | refine a_region ?_ | refine o_nil ?_ | refine a_block ?_ | refine a_ret ?_ | refine a_exit ?_ | refine a_skip ?_ | refine a_draw mixed ?_ | refine d_nil (by kernel_rfl) ?_ | refine o_yes rfl rfl rfl ?_ | refine o_no rfl rfl rfl (by decide) ?_ | refine o_no' rfl rfl rfl ?_ | refine a_condT rfl ?_ | refine a_condF rfl ?_ | refine d_no rfl rfl rfl (by decide) ?_ | refine d_no' rfl rfl rfl ?_ | (refine wq2 (fun hb => ?_) (fun hb => ?_) <;> (simp only [hb]; try simp only [hbs, ne_eq] at hb; try (exfalso; first | omega | exact hb trivial))) | fail)
        all_goals refine rq rfl ?_
        all_goals exact fnq
      · rw [show putR k xs (oneP k lo hi key v) = (xs.take (atL xs (oneP k lo hi key v)) ++ [oneP k lo hi key v] ++ xs.drop (atL xs (oneP k lo hi key v)), 0) by simp [putR, putL, hI, hfull]]
        have hP := put_new k lo hi key (fOne k v).n (fOne k v).a (fOne k v).b xs r3 (by omega) hI (by omega)
        simp only [PR.av, List.map_append, List.map_take, List.map_drop, List.map_cons, List.map_nil]
        refine PC.mk (ac_body tab_ok Tryz.func77 rfl (by kernel_rfl) rfl ?_); intro w0 M μ0; simp only [Tryz.ntmps77, List.length_cons, List.length_nil, Nat.reduceAdd, Nat.reduceSub, numb]
        repeat' (first | ((first | apply o_do | apply d_do | apply d_yes rfl rfl rfl); first | exact lsc (hO) | exact lsc (hR) | exact lsc (hF) | exact lsc (hM) | exact ls_callA [] 2 hC rfl rfl (by (repeat' (first | exact NilL.nil | refine NilL.cons Nil.same ?_ | refine NilL.cons Nil.nil ?_ | refine NilL.cons (Nil.agg ?_) ?_ | exact Nil1s.nil | refine Nil1s.cons Nil1.same ?_ | refine Nil1s.cons Nil1.nil ?_)); first | done | fail) rfl (by repeat' (first | exact trivial | refine ⟨⟨_, rfl, by first | rfl | (simp [renO, *]; done)⟩, ?_⟩)) (by first | rfl | simp [closO, *]) rfl rfl rfl rfl (by first | rfl | simp [closO, *]) rfl | exact ls_callA [2] 3 hP rfl rfl (by (repeat' (first | exact NilL.nil | refine NilL.cons Nil.same ?_ | refine NilL.cons Nil.nil ?_ | refine NilL.cons (Nil.agg ?_) ?_ | exact Nil1s.nil | refine Nil1s.cons Nil1.same ?_ | refine Nil1s.cons Nil1.nil ?_)); first | done | fail) rfl (by repeat' (first | exact trivial | refine ⟨⟨_, rfl, by first | rfl | (simp [renO, *]; done)⟩, ?_⟩)) (by first | rfl | simp [closO, *]) rfl rfl rfl rfl (by first | rfl | simp [closO, *]) rfl | exact lsq) | refine a_seq ?_ | refine a_region ?_ | refine o_nil ?_ | refine a_block ?_ | refine a_ret ?_ | refine a_exit ?_ | refine a_skip ?_ | refine a_draw mixed ?_ | refine d_nil (by kernel_rfl) ?_ | refine o_yes rfl rfl rfl ?_ | refine o_no rfl rfl rfl (by decide) ?_ | refine o_no' rfl rfl rfl ?_ | refine a_condT rfl ?_ | refine a_condF rfl ?_ | refine d_no rfl rfl rfl (by decide) ?_ | refine d_no' rfl rfl rfl ?_ | (refine wq2 (fun hb => ?_) (fun hb => ?_) <;> (simp only [hb]; try simp only [hbs, ne_eq] at hb; try (exfalso; first | omega | exact hb trivial))) | fail)
        all_goals refine rq rfl ?_
        all_goals exact fnq
    · obtain ⟨p, hp, _⟩ := isL_some hI
      by_cases hover : (joinP k p (oneP k lo hi key v)).n < 1
      · rw [show putR k xs (oneP k lo hi key v) = ([], 3) by simp [putR, putL, hI, hp, hover]]
        have hP := put_over k lo hi key (fOne k v).n (fOne k v).a (fOne k v).b xs r3 (by omega) p hI hp hover
        refine PC.mk (ac_body tab_ok Tryz.func77 rfl (by kernel_rfl) rfl ?_); intro w0 M μ0; simp only [Tryz.ntmps77, List.length_cons, List.length_nil, Nat.reduceAdd, Nat.reduceSub, numb]
        repeat' (first | ((first | apply o_do | apply d_do | apply d_yes rfl rfl rfl); first | exact lsc (hO) | exact lsc (hR) | exact lsc (hF) | exact lsc (hM) | exact ls_callA [] 2 hC rfl rfl (by (repeat' (first | exact NilL.nil | refine NilL.cons Nil.same ?_ | refine NilL.cons Nil.nil ?_ | refine NilL.cons (Nil.agg ?_) ?_ | exact Nil1s.nil | refine Nil1s.cons Nil1.same ?_ | refine Nil1s.cons Nil1.nil ?_)); first | done | fail) rfl (by repeat' (first | exact trivial | refine ⟨⟨_, rfl, by first | rfl | (simp [renO, *]; done)⟩, ?_⟩)) (by first | rfl | simp [closO, *]) rfl rfl rfl rfl (by first | rfl | simp [closO, *]) rfl | exact ls_callA [2] 3 hP rfl rfl (by (repeat' (first | exact NilL.nil | refine NilL.cons Nil.same ?_ | refine NilL.cons Nil.nil ?_ | refine NilL.cons (Nil.agg ?_) ?_ | exact Nil1s.nil | refine Nil1s.cons Nil1.same ?_ | refine Nil1s.cons Nil1.nil ?_)); first | done | fail) rfl (by repeat' (first | exact trivial | refine ⟨⟨_, rfl, by first | rfl | (simp [renO, *]; done)⟩, ?_⟩)) (by first | rfl | simp [closO, *]) rfl rfl rfl rfl (by first | rfl | simp [closO, *]) rfl | exact lsq) | refine a_seq ?_ | refine a_region ?_ | refine o_nil ?_ | refine a_block ?_ | refine a_ret ?_ | refine a_exit ?_ | refine a_skip ?_ | refine a_draw mixed ?_ | refine d_nil (by kernel_rfl) ?_ | refine o_yes rfl rfl rfl ?_ | refine o_no rfl rfl rfl (by decide) ?_ | refine o_no' rfl rfl rfl ?_ | refine a_condT rfl ?_ | refine a_condF rfl ?_ | refine d_no rfl rfl rfl (by decide) ?_ | refine d_no' rfl rfl rfl ?_ | (refine wq2 (fun hb => ?_) (fun hb => ?_) <;> (simp only [hb]; try simp only [hbs, ne_eq] at hb; try (exfalso; first | omega | exact hb trivial))) | fail)
        all_goals refine rq rfl ?_
        all_goals exact fnq
      · rw [show putR k xs (oneP k lo hi key v) = (xs.set (atL xs (oneP k lo hi key v)) (joinP k p (oneP k lo hi key v)), 0) by simp [putR, putL, hI, hp, hover]]
        have hP := put_join k lo hi key (fOne k v).n (fOne k v).a (fOne k v).b xs r3 (by omega) p hI hp hover
        have hP : AC Tryz.prog 125 [.own 0 (xs.map Pn.av).length, .v (.int .i64 k), .agg [.v (.int .i64 lo), .v (.int .i64 hi), .v (.string key), .v (.int .i64 (fOne k v).n), .v (.int .i64 (fOne k v).a), .v (.int .i64 (fOne k v).b)]] [(0, .row 155 6 (xs.map Pn.av))] (.tup [.own 0 ((xs.map Pn.av).set (atL xs (oneP k lo hi key v)) (Pn.av (joinP k p (oneP k lo hi key v)))).length, .v (.int .i64 0)]) [(0, .row 155 6 ((xs.map Pn.av).set (atL xs (oneP k lo hi key v)) (Pn.av (joinP k p (oneP k lo hi key v)))))] := by
          rw [List.length_set]; exact hP
        simp only [PR.av, List.map_set]
        refine PC.mk (ac_body tab_ok Tryz.func77 rfl (by kernel_rfl) rfl ?_); intro w0 M μ0; simp only [Tryz.ntmps77, List.length_cons, List.length_nil, Nat.reduceAdd, Nat.reduceSub, numb]
        repeat' (first | ((first | apply o_do | apply d_do | apply d_yes rfl rfl rfl); first | exact lsc (hO) | exact lsc (hR) | exact lsc (hF) | exact lsc (hM) | exact ls_callA [] 2 hC rfl rfl (by (repeat' (first | exact NilL.nil | refine NilL.cons Nil.same ?_ | refine NilL.cons Nil.nil ?_ | refine NilL.cons (Nil.agg ?_) ?_ | exact Nil1s.nil | refine Nil1s.cons Nil1.same ?_ | refine Nil1s.cons Nil1.nil ?_)); first | done | fail) rfl (by repeat' (first | exact trivial | refine ⟨⟨_, rfl, by first | rfl | (simp [renO, *]; done)⟩, ?_⟩)) (by first | rfl | simp [closO, *]) rfl rfl rfl rfl (by first | rfl | simp [closO, *]) rfl | exact ls_callA [2] 3 hP rfl rfl (by (repeat' (first | exact NilL.nil | refine NilL.cons Nil.same ?_ | refine NilL.cons Nil.nil ?_ | refine NilL.cons (Nil.agg ?_) ?_ | exact Nil1s.nil | refine Nil1s.cons Nil1.same ?_ | refine Nil1s.cons Nil1.nil ?_)); first | done | fail) rfl (by repeat' (first | exact trivial | refine ⟨⟨_, rfl, by first | rfl | (simp [renO, *]; done)⟩, ?_⟩)) (by first | rfl | simp [closO, *]) rfl rfl rfl rfl (by first | rfl | simp [closO, *]) rfl | exact lsq) | refine a_seq ?_ | refine a_region ?_ | refine o_nil ?_ | refine a_block ?_ | refine a_ret ?_ | refine a_exit ?_ | refine a_skip ?_ | refine a_draw mixed ?_ | refine d_nil (by kernel_rfl) ?_ | refine o_yes rfl rfl rfl ?_ | refine o_no rfl rfl rfl (by decide) ?_ | refine o_no' rfl rfl rfl ?_ | refine a_condT rfl ?_ | refine a_condF rfl ?_ | refine d_no rfl rfl rfl (by decide) ?_ | refine d_no' rfl rfl rfl ?_ | (refine wq2 (fun hb => ?_) (fun hb => ?_) <;> (simp only [hb]; try simp only [hbs, ne_eq] at hb; try (exfalso; first | omega | exact hb trivial))) | fail)
        all_goals refine rq rfl ?_
        all_goals exact fnq
  · rw [addR, if_neg hbad]
    cases hr : rightL xs
    · rw [hr] at hR
      refine PC.mk (ac_body tab_ok Tryz.func77 rfl (by kernel_rfl) rfl ?_); intro w0 M μ0; simp only [Tryz.ntmps77, List.length_cons, List.length_nil, Nat.reduceAdd, Nat.reduceSub, numb]
      repeat' (first | ((first | apply o_do | apply d_do | apply d_yes rfl rfl rfl); first | exact lsc (hO) | exact lsc (hR) | exact lsc (hF) | exact lsc (hM) | exact lsq) | refine a_seq ?_ | refine a_region ?_ | refine o_nil ?_ | refine a_block ?_ | refine a_ret ?_ | refine a_exit ?_ | refine a_skip ?_ | refine a_draw mixed ?_ | refine d_nil (by kernel_rfl) ?_ | refine o_yes rfl rfl rfl ?_ | refine o_no rfl rfl rfl (by decide) ?_ | refine o_no' rfl rfl rfl ?_ | refine a_condT rfl ?_ | refine a_condF rfl ?_ | refine d_no rfl rfl rfl (by decide) ?_ | refine d_no' rfl rfl rfl ?_ | (refine wq2 (fun hb => ?_) (fun hb => ?_) <;> (simp only [hb]; try simp only [hbs, ne_eq] at hb; try (exfalso; first | omega | exact hb trivial))) | fail)
      all_goals refine rq rfl ?_
      all_goals exact fnq
    cases hf : fRight k
    · rw [hr] at hR
      rw [hf] at hF
      refine PC.mk (ac_body tab_ok Tryz.func77 rfl (by kernel_rfl) rfl ?_); intro w0 M μ0; simp only [Tryz.ntmps77, List.length_cons, List.length_nil, Nat.reduceAdd, Nat.reduceSub, numb]
      repeat' (first | ((first | apply o_do | apply d_do | apply d_yes rfl rfl rfl); first | exact lsc (hO) | exact lsc (hR) | exact lsc (hF) | exact lsc (hM) | exact lsq) | refine a_seq ?_ | refine a_region ?_ | refine o_nil ?_ | refine a_block ?_ | refine a_ret ?_ | refine a_exit ?_ | refine a_skip ?_ | refine a_draw mixed ?_ | refine d_nil (by kernel_rfl) ?_ | refine o_yes rfl rfl rfl ?_ | refine o_no rfl rfl rfl (by decide) ?_ | refine o_no' rfl rfl rfl ?_ | refine a_condT rfl ?_ | refine a_condF rfl ?_ | refine d_no rfl rfl rfl (by decide) ?_ | refine d_no' rfl rfl rfl ?_ | (refine wq2 (fun hb => ?_) (fun hb => ?_) <;> (simp only [hb]; try simp only [hbs, ne_eq] at hb; try (exfalso; first | omega | exact hb trivial))) | fail)
      all_goals refine rq rfl ?_
      all_goals exact fnq
    cases hm : mayB (oneP k lo hi key v)
    · rw [hr] at hR
      rw [hf] at hF
      rw [show mayB ⟨lo, hi, key, (fOne k v).n, (fOne k v).a, (fOne k v).b⟩ = false from hm] at hM
      refine PC.mk (ac_body tab_ok Tryz.func77 rfl (by kernel_rfl) rfl ?_); intro w0 M μ0; simp only [Tryz.ntmps77, List.length_cons, List.length_nil, Nat.reduceAdd, Nat.reduceSub, numb]
      repeat' (first | ((first | apply o_do | apply d_do | apply d_yes rfl rfl rfl); first | exact lsc (hO) | exact lsc (hR) | exact lsc (hF) | exact lsc (hM) | exact lsq) | refine a_seq ?_ | refine a_region ?_ | refine o_nil ?_ | refine a_block ?_ | refine a_ret ?_ | refine a_exit ?_ | refine a_skip ?_ | refine a_draw mixed ?_ | refine d_nil (by kernel_rfl) ?_ | refine o_yes rfl rfl rfl ?_ | refine o_no rfl rfl rfl (by decide) ?_ | refine o_no' rfl rfl rfl ?_ | refine a_condT rfl ?_ | refine a_condF rfl ?_ | refine d_no rfl rfl rfl (by decide) ?_ | refine d_no' rfl rfl rfl ?_ | (refine wq2 (fun hb => ?_) (fun hb => ?_) <;> (simp only [hb]; try simp only [hbs, ne_eq] at hb; try (exfalso; first | omega | exact hb trivial))) | fail)
      all_goals refine rq rfl ?_
      all_goals exact fnq
    · exact absurd (by simp [hr, hf, hm]) hbad
end Go.Proofs.YtagfjnjpgphnjaaGreat
