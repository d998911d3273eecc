/-
  Groups: events that are taken one behind the other, walked, and in plain Lean: in any order.
-/
import Derived.Test.YtimlkhbedhjehaaGrH
import Derived.Test.YtimlkhbedhjehaaGrG
import Derived.Test.YtimlkhbedhjehaaGrC
namespace Go.Proofs.Ytimlkhbedhjehaa
open Go.RowKit
set_option linter.unusedSimpArgs false
set_option linter.unusedVariables false
structure Et where
  key : ByteArray
  at' : Int
  v : Int
def Et.av (e : Et) : List AV := [.v (.string e.key), .v (.int .i64 e.at'), .v (.int .i64 e.v)]
def Et.cells (e : Et) : List Value := [.string e.key, .int .i64 e.at', .int .i64 e.v]
def oneE (k : Int) (e : Et) (w : Wn) : Pn := oneP k w.lo w.hi e.key e.v
def evVals (s d k mark : Int) (e : Et) : List Pn := (openL s d e.at' mark).map (oneE k e)
/-- events taken, one behind the other; false: one can't be -/
def allE (s d k no mark : Int) : List Pn → List Et → List Pn × Bool
  | ps, [] => (ps, true)
  | ps, e :: es => if (takeR s d k no mark ps e.key e.at' e.v).e = 0 then allE s d k no mark (takeR s d k no mark ps e.key e.at' e.v).ps es else (ps, false)
section
variable {s d k no mark : Int}
theorem takeR_form (s d k no mark : Int) (ps : List Pn) (key : ByteArray) (at' v : Int) : (∃ l n, takeR s d k no mark ps key at' v = ⟨no, mark, l, n, 0⟩) ∨ (∃ e, takeR s d k no mark ps key at' v = ⟨0, 0, [], 0, e⟩ ∧ e ≠ 0) := by
  unfold takeR
  split
  · exact .inr ⟨130, rfl, by omega⟩
  · split
    · exact .inr ⟨1, rfl, by omega⟩
    · split
      · exact .inl ⟨_, _, rfl⟩
      · rename_i h; exact .inr ⟨_, rfl, h⟩
theorem win_may {t : Int} (h : okT s d t = true) {w : Wn} (hw : w ∈ winL s d t) : 0 ≤ w.lo ∧ w.lo < w.hi ∧ w.hi ≤ 1099511627776 := by
  obtain ⟨i, hi, rfl⟩ := List.getElem_of_mem hw
  rw [winL_length h] at hi
  have h2 := winL_get h hi
  rw [List.getElem?_eq_getElem (by rw [winL_length h]; exact hi)] at h2
  injection h2 with h2
  rw [h2]
  obtain ⟨⟨q1, q2, q3, q4⟩, q5, q6⟩ := okT_iff.1 h
  have hc := cntK_eq h
  have f0 := first_nonneg s d t
  rw [winK_hi h (by omega) (by omega)]
  have e1 := (first_iff (size := s) (t := t) q1 (firstK s d t + (i : Int))).1 (by omega)
  have e2 := (last_iff (t := t) q1 (firstK s d t + (i : Int))).1 (by omega)
  have e3 : (winK s d (firstK s d t + (i : Int))).lo = (firstK s d t + (i : Int)) * d := rfl
  have e4 := Int.mul_nonneg (show 0 ≤ firstK s d t + (i : Int) by omega) (show 0 ≤ d by omega)
  rw [e3]
  omega
theorem vals_may (hj : jobR s d k = true) {e : Et} (he : evR e.key e.at' = true) : ∀ p ∈ evVals s d k mark e, mayB p = true ∧ p.n = 1 ∧ mark < p.hi := by
  have hok := evR_okT hj he
  have hk : fRight k = true := by unfold jobR at hj; simp only [Bool.and_eq_true] at hj; exact hj.2
  intro p hp
  obtain ⟨w, hw, rfl⟩ := List.mem_map.1 hp
  have hw' := List.mem_filter.1 hw
  obtain ⟨a1, a2, a3⟩ := win_may hok hw'.1
  have h2 : mark < w.hi := by
    have := hw'.2
    simp [closedW] at this
    omega
  have hn : (fOne k e.v).n = 1 := fOne_n hk
  have hkey : keyB e.key = true := by unfold evR at he; simp only [Bool.and_eq_true] at he; exact he.1
  refine ⟨?_, hn, h2⟩
  simp [mayB, oneE, oneP, hkey, hn, a1, a2, a3]
theorem takeW_fold (hk : fRight k = true) {key : ByteArray} {v : Int} : ∀ {ws : List Wn} {ps : List Pn}, rightL ps = true → (∀ w ∈ ws, mayB (oneP k w.lo w.hi key v) = true) →
    takeW k key v ps ws = match (ws.map fun w => oneP k w.lo w.hi key v).foldlM (putL k) ps with | some r => (r, 0) | none => ([], 3)
  | [], ps, _, _ => rfl
  | w :: ws, ps, hr, hm => by
    have hx := hm w List.mem_cons_self
    have hadd : addR k ps (oneP k w.lo w.hi key v) = putR k ps (oneP k w.lo w.hi key v) := by simp [addR, hr, hk, hx]
    unfold takeW
    rw [hadd, List.map_cons, List.foldlM_cons]
    unfold putR
    cases hp : putL k ps (oneP k w.lo w.hi key v) with
    | none => simp
    | some l =>
      simp only [if_true]
      rw [takeW_fold hk (putL_right hp hr hx) (fun w' h => hm w' (List.mem_cons_of_mem _ h))]
      rfl
theorem fold_keeps (hk : fRight k = true) {vs : List Pn} : ∀ {ps r : List Pn}, grR no mark ps = true → (∀ p ∈ vs, mayB p = true ∧ p.n = 1 ∧ mark < p.hi) → vs.foldlM (putL k) ps = some r → grR no mark r = true := by
  induction vs with
  | nil => intro ps r hg _ h; simp at h; subst h; exact hg
  | cons x vs ih =>
    intro ps r hg hm h
    rw [List.foldlM_cons] at h
    cases hp : putL k ps x with
    | none => rw [hp] at h; cases h
    | some l =>
      rw [hp] at h
      refine ih ?_ (fun p hq => hm p (List.mem_cons_of_mem _ hq)) h
      obtain ⟨h1, h2, h3, h4, h5, h6⟩ := grR_iff.1 hg
      obtain ⟨m1, m2, m3⟩ := hm x List.mem_cons_self
      refine grR_iff.2 ⟨h1, h2, h3, h4, putL_right hp h5 m1, fun q hq => ?_⟩
      rw [putL_ins hp] at hq
      rcases ins_mem q hq with a | a | ⟨p, a, b, _⟩
      · exact h6 q a
      · rw [a]; exact m3
      · rw [b]; exact h6 p a
theorem allE_char (hj : jobR s d k = true) {es : List Et} : ∀ {ps r : List Pn}, grR no mark ps = true → (allE s d k no mark ps es = (r, true) ↔ (∀ e ∈ es, evR e.key e.at' = true) ∧ (es.flatMap (evVals s d k mark)).foldlM (putL k) ps = some r) := by
  have hk : fRight k = true := by unfold jobR at hj; simp only [Bool.and_eq_true] at hj; exact hj.2
  induction es with
  | nil => intro ps r _; simp [allE]
  | cons e es ih =>
    intro ps r hg
    rw [List.flatMap_cons, List.foldlM_append]
    cases he : evR e.key e.at'
    · have : takeR s d k no mark ps e.key e.at' e.v = ⟨0, 0, [], 0, 1⟩ := by simp [takeR, hj, he]
      rw [allE, this]
      simp [he]
    · have hv := vals_may (mark := mark) hj he
      have hr := (grR_iff.1 hg).2.2.2.2.1
      have hw := takeW_fold hk (key := e.key) (v := e.v) (ws := openL s d e.at' mark) hr (fun w hw => (hv (oneE k e w) (List.mem_map_of_mem hw)).1)
      have hvv : ((openL s d e.at' mark).map fun w => oneP k w.lo w.hi e.key e.v) = evVals s d k mark e := rfl
      rw [hvv] at hw
      cases hf : (evVals s d k mark e).foldlM (putL k) ps with
      | none =>
        rw [hf] at hw
        have : takeR s d k no mark ps e.key e.at' e.v = ⟨0, 0, [], 0, 3⟩ := by simp [takeR, hj, he, hg, hw]
        rw [allE, this]
        simp
      | some l =>
        rw [hf] at hw
        have ht : takeR s d k no mark ps e.key e.at' e.v = ⟨no, mark, l, (openL s d e.at' mark).length, 0⟩ := by simp [takeR, hj, he, hg, hw]
        rw [allE, ht]
        simp only [if_true, Option.bind_eq_bind, Option.bind_some]
        rw [ih (fold_keeps hk hg hv hf)]
        simp [he]
theorem allE_bad {ps : List Pn} (h : jobR s d k = false ∨ grR no mark ps = false) : ∀ es : List Et, allE s d k no mark ps es = (ps, es.isEmpty)
  | [] => rfl
  | e :: es => by
    have : (takeR s d k no mark ps e.key e.at' e.v).e ≠ 0 := by
      unfold takeR
      rcases h with h | h
      · simp [h]
      · cases hj : jobR s d k <;> simp [h]
    rw [allE, if_neg this]; rfl
/-- in any order -/
theorem allE_perm {ps : List Pn} {es es' : List Et} (hp : es.Perm es') : (allE s d k no mark ps es).2 = (allE s d k no mark ps es').2 ∧ ((allE s d k no mark ps es).2 = true → (allE s d k no mark ps es').1 = (allE s d k no mark ps es).1) := by
  by_cases hbad : jobR s d k = false ∨ grR no mark ps = false
  · rw [allE_bad hbad, allE_bad hbad]
    refine ⟨?_, fun _ => rfl⟩
    cases es with
    | nil => rw [List.nil_perm.1 hp]
    | cons x l =>
      cases es' with
      | nil => exact absurd hp.length_eq (by simp)
      | cons y m => rfl
  have hj : jobR s d k = true := by cases h : jobR s d k <;> simp_all
  have hg : grR no mark ps = true := by cases h : grR no mark ps <;> simp_all
  have hk : fRight k = true := by unfold jobR at hj; simp only [Bool.and_eq_true] at hj; exact hj.2
  have key : ∀ {a b : List Et}, a.Perm b → ∀ {r}, allE s d k no mark ps a = (r, true) → allE s d k no mark ps b = (r, true) := by
    intro a b hab r h
    obtain ⟨h1, h2⟩ := (allE_char hj hg).1 h
    refine (allE_char hj hg).2 ⟨fun e he => h1 e (hab.mem_iff.2 he), ?_⟩
    refine foldP_perm hk (hab.flatMap_right _) (grR_iff.1 hg).2.2.2.2.1 (fun p hq => ?_) h2
    obtain ⟨e, he, hq⟩ := List.mem_flatMap.1 hq
    have := vals_may (mark := mark) hj (h1 e he) p hq
    exact ⟨this.1, this.2.1⟩
  cases h1 : (allE s d k no mark ps es).2
  · refine ⟨?_, fun h => by cases h⟩
    cases h2 : (allE s d k no mark ps es').2
    · rfl
    · have := key hp.symm (r := (allE s d k no mark ps es').1) (by rw [← h2])
      rw [this] at h1; cases h1
  · have := key hp (r := (allE s d k no mark ps es).1) (by rw [← h1])
    rw [this]
    exact ⟨rfl, fun _ => rfl⟩
end
theorem allE_le (s d k no mark : Int) : ∀ {es : List Et} {ps : List Pn}, ps.length ≤ 9223372036854775807 → (allE s d k no mark ps es).1.length ≤ 9223372036854775807
  | [], ps, h => h
  | e :: es, ps, h => by
    unfold allE
    split
    · exact allE_le s d k no mark (takeR_le s d k no mark ps e.key e.at' e.v h)
    · exact h
section
variable (g s d k fu li de id no mark : Int)
set_option maxHeartbeats 8000000 in
set_option maxRecDepth 20000 in
theorem g_all (ps : List Pn) (es : List Et) (hx : ps.length ≤ 9223372036854775807) (he : es.length ≤ 1000000) :
    PC Try.prog 56 [.agg [.v (.int .i64 g), .v (.int .i64 s), .v (.int .i64 d), .v (.int .i64 k), .v (.int .i64 fu), .v (.int .i64 li), .v (.int .i64 de), .v (.int .i64 id)], .agg [.v (.int .i64 no), .v (.int .i64 mark), .sl 6 (ps.map Pn.av)], .sl 3 (es.map Et.av)] (.tup [.agg [.v (.int .i64 no), .v (.int .i64 mark), .sl 6 ((allE s d k no mark ps es).1.map Pn.av)], .v (.bool (allE s d k no mark ps es).2)]) := by
  refine PC.mk (ac_body tab_ok Try.func56 rfl (by kernel_rfl) rfl ?_); intro w0 M μ0; simp only [Try.ntmps56, List.length_cons, List.length_nil, Nat.reduceAdd, Nat.reduceSub, numb]
  repeat' (first | ((first | apply o_do | apply d_do | apply d_yes rfl rfl rfl); exact lsq) | first | refine a_seq ?_ | refine a_region ?_ | refine o_nil ?_ | refine a_block ?_ | refine a_ret ?_ | refine a_exit ?_ | refine a_skip ?_ | refine a_draw mixed ?_ | refine d_nil (by kernel_rfl) ?_ | first | refine o_yes rfl rfl rfl ?_ | refine o_no rfl rfl rfl (by decide) ?_ | refine o_no' rfl rfl rfl ?_ | refine a_condT rfl ?_ | refine a_condF rfl ?_ | refine d_no rfl rfl rfl (by decide) ?_ | refine d_no' rfl rfl rfl ?_ | ((first | refine o_split_t rfl rfl rfl (fun hb => ?_) (fun hb => ?_) | refine o_split_f rfl rfl rfl (fun hb => ?_) (fun hb => ?_) | refine a_cond rfl (fun hb => ?_) (fun hb => ?_) | refine d_split rfl rfl (fun hb => ?_) (fun hb => ?_)) <;> (simp only [hb]; try simp only [decide_eq_true_eq, decide_eq_false_iff_not, Bool.not_eq_true', Bool.not_eq_false', Bool.not_eq_true, Bool.not_eq_false, ne_eq, Decidable.not_not] at hb; try (exfalso; first | omega | exact hb trivial))))
  refine a_loop (X := {x : Nat × List Pn // x.1 ≤ es.length ∧ allE s d k no mark ps es = allE s d k no mark x.2 (es.drop x.1) ∧ x.2.length ≤ 9223372036854775807}) (fun x => ⟨[(3, .ref 0 0), (4, .ref 1 0), (6, .ref 2 0), (13, .sl 3 (es.map Et.av)), (14, .v (.int .i64 es.length)), (15, .v (.int .i64 x.1.1))], [(0, .box 23 [.v (.int .i64 g), .v (.int .i64 s), .v (.int .i64 d), .v (.int .i64 k), .v (.int .i64 fu), .v (.int .i64 li), .v (.int .i64 de), .v (.int .i64 id)]), (1, .box 26 [.v (.int .i64 no), .v (.int .i64 mark), .sl 6 (x.1.2.map Pn.av)]), (2, .box 26 [.v (.int .i64 0), .v (.int .i64 0), .v (.slice none 0 0)])]⟩) (fun x => es.length - x.1.1) ⟨(0, ps), Nat.zero_le _, rfl, hx⟩ ?_ ?_
  · refine ⟨by repeat' (first | exact trivial | exact FinA.one (FinB.cell (FinC.same rfl)) | exact FinA.one (FinB.cell FinC.nil) | exact FinA.one (FinB.cell (FinC.own rfl rfl rfl rfl)) | exact FinA.one (FinB.cell (FinC.v (by first | rfl | (simp)))) | exact FinA.one (FinB.cell (FinC.ow rfl (by first | rfl | (simp)))) | exact FinA.one (FinB.agg' rfl rfl) | refine ⟨⟨_, rfl, ?_⟩, ?_⟩), by repeat' (first | exact trivial | refine ⟨⟨_, rfl, by first | rfl | (simp; done) | (simp [renO, *]; done)⟩, by first | rfl | assumption, ?_⟩), rfl⟩
  rintro ⟨⟨q, cur⟩, hq, hall, hc⟩
  dsimp only at hq hall hc ⊢
  rw [hall]
  by_cases hlt : q < es.length
  · have hel : (es.map Et.av)[q]? = some (Et.av es[q]) := by simp [hlt]
    have hT := g_Take g s d k fu li de id no mark cur es[q].key es[q].at' es[q].v hc
    have hle := takeR_le s d k no mark cur es[q].key es[q].at' es[q].v hc
    have hdr := List.drop_eq_getElem_cons hlt
    rcases takeR_form s d k no mark cur es[q].key es[q].at' es[q].v with ⟨l, n, hr⟩ | ⟨e, hr, hne⟩
    · have ht : allE s d k no mark cur (es.drop q) = allE s d k no mark l (es.drop (q + 1)) := by rw [hdr, allE, hr]; simp
      rw [hr] at hT hle
      dsimp only [TkR.av] at hT hle
      rw [ht]
      generalize es[q] = x at *
      repeat' (first | ((first | apply o_do | apply d_do | apply d_yes rfl rfl rfl); first | exact lsc (hT) | exact lsq) | first | refine a_seq ?_ | refine a_region ?_ | refine o_nil ?_ | refine a_block ?_ | refine a_ret ?_ | refine a_exit ?_ | refine a_skip ?_ | refine a_draw mixed ?_ | refine d_nil (by kernel_rfl) ?_ | first | refine o_yes rfl rfl rfl ?_ | refine o_no rfl rfl rfl (by decide) ?_ | refine o_no' rfl rfl rfl ?_ | refine a_condT rfl ?_ | refine a_condF rfl ?_ | refine d_no rfl rfl rfl (by decide) ?_ | refine d_no' rfl rfl rfl ?_ | ((first | refine o_split_t rfl rfl rfl (fun hb => ?_) (fun hb => ?_) | refine o_split_f rfl rfl rfl (fun hb => ?_) (fun hb => ?_) | refine a_cond rfl (fun hb => ?_) (fun hb => ?_) | refine d_split rfl rfl (fun hb => ?_) (fun hb => ?_)) <;> (simp only [hb]; try simp only [decide_eq_true_eq, decide_eq_false_iff_not, Bool.not_eq_true', Bool.not_eq_false', Bool.not_eq_true, Bool.not_eq_false, ne_eq, Decidable.not_not] at hb; try (exfalso; first | omega | exact hb trivial))))
      refine ⟨⟨(q + 1, l), by dsimp only; omega, rfl, hle⟩, by dsimp only; omega, ?_⟩
      refine ⟨by repeat' (first | exact trivial | exact FinA.one (FinB.cell (FinC.same rfl)) | exact FinA.one (FinB.cell FinC.nil) | exact FinA.one (FinB.cell (FinC.own rfl rfl rfl rfl)) | exact FinA.one (FinB.cell (FinC.v (by first | rfl | (simp)))) | exact FinA.one (FinB.cell (FinC.ow rfl (by first | rfl | (simp)))) | exact FinA.one (FinB.agg' rfl rfl) | refine ⟨⟨_, rfl, ?_⟩, ?_⟩), by repeat' (first | exact trivial | refine ⟨⟨_, rfl, by first | rfl | (simp; done) | (simp [renO, *]; done)⟩, by first | rfl | assumption, ?_⟩), rfl⟩
    · have ht : allE s d k no mark cur (es.drop q) = (cur, false) := by rw [hdr, allE, hr]; simp [hne]
      rw [hr] at hT
      dsimp only [TkR.av] at hT
      rw [ht]
      generalize es[q] = x at *
      repeat' (first | ((first | apply o_do | apply d_do | apply d_yes rfl rfl rfl); first | exact lsc (hT) | exact lsq) | first | refine a_seq ?_ | refine a_region ?_ | refine o_nil ?_ | refine a_block ?_ | refine a_ret ?_ | refine a_exit ?_ | refine a_skip ?_ | refine a_draw mixed ?_ | refine d_nil (by kernel_rfl) ?_ | first | refine o_yes rfl rfl rfl ?_ | refine o_no rfl rfl rfl (by decide) ?_ | refine o_no' rfl rfl rfl ?_ | refine a_condT rfl ?_ | refine a_condF rfl ?_ | refine d_no rfl rfl rfl (by decide) ?_ | refine d_no' rfl rfl rfl ?_ | ((first | refine o_split_t rfl rfl rfl (fun hb => ?_) (fun hb => ?_) | refine o_split_f rfl rfl rfl (fun hb => ?_) (fun hb => ?_) | refine a_cond rfl (fun hb => ?_) (fun hb => ?_) | refine d_split rfl rfl (fun hb => ?_) (fun hb => ?_)) <;> (simp only [hb]; try simp only [decide_eq_true_eq, decide_eq_false_iff_not, Bool.not_eq_true', Bool.not_eq_false', Bool.not_eq_true, Bool.not_eq_false, ne_eq, Decidable.not_not] at hb; try (exfalso; first | omega | exact hb trivial))))
      all_goals refine ⟨by first | exact .inr rfl | exact .inl rfl, _, rfl, ?_, by repeat' (first | exact trivial | refine ⟨⟨_, rfl, by first | rfl | (simp [renO, *]; done)⟩, by first | rfl | assumption, ?_⟩)⟩
      all_goals (first | refine FinA.tup ?_ | refine FinA.one ?_); repeat' (first | exact FinBs.nil | exact FinCs.nil | refine FinBs.cons ?_ ?_ | refine FinCs.cons ?_ ?_ | refine FinB.cell (FinC.v ?_) | refine FinB.cell (FinC.own rfl rfl rfl ?_) | exact FinB.cell FinC.nil | refine FinB.cell (FinC.sl ?_) | exact FinB.agg' rfl rfl | exact FinB.cell (FinC.same rfl) | refine FinB.agg ?_ | refine FinC.v ?_ | refine FinC.own rfl rfl rfl ?_ | exact FinC.nil | refine FinC.sl ?_ | exact FinC.same rfl); all_goals try rfl
  · obtain rfl : q = es.length := by omega
    rw [List.drop_length]
    simp only [allE]
    repeat' (first | ((first | apply o_do | apply d_do | apply d_yes rfl rfl rfl); exact lsq) | first | refine a_seq ?_ | refine a_region ?_ | refine o_nil ?_ | refine a_block ?_ | refine a_ret ?_ | refine a_exit ?_ | refine a_skip ?_ | refine a_draw mixed ?_ | refine d_nil (by kernel_rfl) ?_ | first | refine o_yes rfl rfl rfl ?_ | refine o_no rfl rfl rfl (by decide) ?_ | refine o_no' rfl rfl rfl ?_ | refine a_condT rfl ?_ | refine a_condF rfl ?_ | refine d_no rfl rfl rfl (by decide) ?_ | refine d_no' rfl rfl rfl ?_ | ((first | refine o_split_t rfl rfl rfl (fun hb => ?_) (fun hb => ?_) | refine o_split_f rfl rfl rfl (fun hb => ?_) (fun hb => ?_) | refine a_cond rfl (fun hb => ?_) (fun hb => ?_) | refine d_split rfl rfl (fun hb => ?_) (fun hb => ?_)) <;> (simp only [hb]; try simp only [decide_eq_true_eq, decide_eq_false_iff_not, Bool.not_eq_true', Bool.not_eq_false', Bool.not_eq_true, Bool.not_eq_false, ne_eq, Decidable.not_not] at hb; try (exfalso; first | omega | exact hb trivial))))
    all_goals refine ⟨by first | exact .inr rfl | exact .inl rfl, _, rfl, ?_, by repeat' (first | exact trivial | refine ⟨⟨_, rfl, by first | rfl | (simp [renO, *]; done)⟩, by first | rfl | assumption, ?_⟩)⟩
    all_goals (first | refine FinA.tup ?_ | refine FinA.one ?_); repeat' (first | exact FinBs.nil | exact FinCs.nil | refine FinBs.cons ?_ ?_ | refine FinCs.cons ?_ ?_ | refine FinB.cell (FinC.v ?_) | refine FinB.cell (FinC.own rfl rfl rfl ?_) | exact FinB.cell FinC.nil | refine FinB.cell (FinC.sl ?_) | exact FinB.agg' rfl rfl | exact FinB.cell (FinC.same rfl) | refine FinB.agg ?_ | refine FinC.v ?_ | refine FinC.own rfl rfl rfl ?_ | exact FinC.nil | refine FinC.sl ?_ | exact FinC.same rfl); all_goals try rfl
end
end Go.Proofs.Ytimlkhbedhjehaa
