/-
  'clepsydralaw22.WorkerOrder' returns true for every input.
-/
import Derived.Maps.Range
import Derived.Test.YtilgagmfcdfjaaaGreatL4
import Derived.Test.YtilgagmfcdfjaaaGreatL5
import Derived.Test.YtilgagmfcdfjaaaGreatL9
import Derived.Test.YtilgagmfcdfjaaaGreatL14
import Derived.Test.YtilgagmfcdfjaaaGreatL17
import Derived.Test.YtilgagmfcdfjaaaGreatL18
import Derived.Test.YtilgagmfcdfjaaaGreatL20
namespace Go.Proofs.YtilgagmfcdfjaaaGreat
open Go.RowKit
set_option linter.unusedSimpArgs false
set_option linter.unusedVariables false
deriving instance DecidableEq for Rs
abbrev Cnt := List (Rs × Int)
/-- how many -/
def cAt (ms : Cnt) (t : Rs) : Int := match ms.find? (fun p => decide (p.1 = t)) with
  | some p => p.2
  | none => 0
def cIdx (ms : Cnt) (t : Rs) : Nat := ms.findIdx fun p => decide (p.1 = t)
/-- the entry is there, or is made -/
def cMake (ms : Cnt) (t : Rs) : Cnt := if cIdx ms t < ms.length then ms else ms ++ [(t, 0)]
def cSet (ms : Cnt) (t : Rs) (n : Int) : Cnt := (cMake ms t).set (cIdx ms t) (t, n)
theorem idx_none {ms : Cnt} {t : Rs} : (∀ p ∈ ms, p.1 ≠ t) ↔ cIdx ms t = ms.length := by
  unfold cIdx
  rw [List.findIdx_eq_length]
  simp
theorem idx_le (ms : Cnt) (t : Rs) : cIdx ms t ≤ ms.length := List.findIdx_le_length
theorem idx_at {ms : Cnt} {t : Rs} (h : cIdx ms t < ms.length) : ms[cIdx ms t].1 = t := by
  have h' : ms.findIdx (fun p : Rs × Int => decide (p.1 = t)) < ms.length := h
  have := List.findIdx_getElem (xs := ms) (p := fun p : Rs × Int => decide (p.1 = t)) (w := h')
  exact of_decide_eq_true this
theorem at_idx {ms : Cnt} {t : Rs} (h : cIdx ms t < ms.length) : cAt ms t = ms[cIdx ms t].2 := by
  unfold cAt
  rw [List.find?_eq_getElem?_findIdx]
  have : ms[ms.findIdx fun p => decide (p.1 = t)]? = some ms[cIdx ms t] := List.getElem?_eq_getElem h
  rw [this]
theorem at_none {ms : Cnt} {t : Rs} (h : ∀ p ∈ ms, p.1 ≠ t) : cAt ms t = 0 := by
  unfold cAt
  rw [List.find?_eq_none.2 (by simpa using h)]
/-- keys stand once each -/
def cUniq (ms : Cnt) : Prop := ∀ (i j : Nat) (p q : Rs × Int), ms[i]? = some p → ms[j]? = some q → p.1 = q.1 → i = j
theorem uniq_idx {ms : Cnt} (hu : cUniq ms) {i : Nat} {p : Rs × Int} (h : ms[i]? = some p) : cIdx ms p.1 = i := by
  have hlt : cIdx ms p.1 < ms.length := by
    rcases Nat.lt_or_ge (cIdx ms p.1) ms.length with h1 | h1
    · exact h1
    · have h2 : cIdx ms p.1 = ms.length := Nat.le_antisymm (idx_le _ _) h1
      exact absurd rfl (idx_none.2 h2 p (List.mem_of_getElem? h))
  exact hu _ _ _ _ (List.getElem?_eq_getElem hlt) h (idx_at hlt)
theorem make_len (ms : Cnt) (t : Rs) : cIdx ms t < (cMake ms t).length := by
  unfold cMake
  have := idx_le ms t
  split
  · assumption
  · rw [List.length_append]; simp only [List.length_cons, List.length_nil]; omega
theorem make_at (ms : Cnt) (t : Rs) : (cMake ms t)[cIdx ms t]? = some (t, cAt ms t) := by
  unfold cMake
  split
  · rename_i h
    rw [List.getElem?_eq_getElem h, at_idx h]
    exact congrArg some (Prod.ext (idx_at h) rfl)
  · rename_i h
    have e : cIdx ms t = ms.length := Nat.le_antisymm (idx_le _ _) (Nat.le_of_not_lt h)
    rw [e, at_none (idx_none.2 e)]
    simp
theorem set_get (ms : Cnt) (t : Rs) (n : Int) (i : Nat) : (cSet ms t n)[i]? = if i = cIdx ms t then some (t, n) else ms[i]? := by
  unfold cSet
  rw [List.getElem?_set]
  have h1 := make_len ms t
  by_cases h : cIdx ms t = i
  · subst h; rw [if_pos rfl, if_pos h1, if_pos rfl]
  · rw [if_neg h, if_neg (Ne.symm h)]
    unfold cMake
    split
    · rfl
    · rename_i h2
      have e : cIdx ms t = ms.length := Nat.le_antisymm (idx_le _ _) (Nat.le_of_not_lt h2)
      rcases Nat.lt_or_ge i ms.length with h3 | h3
      · rw [List.getElem?_append_left h3]
      · rw [List.getElem?_eq_none (by rw [List.length_append]; simp; omega), List.getElem?_eq_none h3]
theorem set_uniq {ms : Cnt} (hu : cUniq ms) (t : Rs) (n : Int) : cUniq (cSet ms t n) := by
  intro i j p q hi hj he
  rw [set_get] at hi hj
  split at hi
  · rename_i h1
    injection hi with hi; subst hi
    split at hj
    · rename_i h2; rw [h1, h2]
    · have := uniq_idx hu hj
      rw [← he] at this
      dsimp only at this
      omega
  · rename_i h1
    split at hj
    · rename_i h2
      injection hj with hj; subst hj
      have := uniq_idx hu hi
      rw [he] at this
      dsimp only at this
      omega
    · exact hu _ _ _ _ hi hj he
theorem uniq_at {ms : Cnt} (hu : cUniq ms) {i : Nat} {p : Rs × Int} (h : ms[i]? = some p) : cAt ms p.1 = p.2 := by
  have h1 := uniq_idx hu h
  have h2 : cIdx ms p.1 < ms.length := by rw [h1]; exact (List.getElem?_eq_some_iff.1 h).1
  rw [at_idx h2]
  have h3 : ms[cIdx ms p.1]? = some p := by rw [h1]; exact h
  rw [List.getElem?_eq_getElem h2] at h3
  injection h3 with h3; rw [h3]
theorem set_at {ms : Cnt} (hu : cUniq ms) (t : Rs) (n : Int) (x : Rs) : cAt (cSet ms t n) x = if x = t then n else cAt ms x := by
  have hs := set_uniq hu t n
  by_cases h : x = t
  · subst h
    rw [if_pos rfl]
    exact uniq_at hs (i := cIdx ms x) (p := (x, n)) (by rw [set_get, if_pos rfl])
  · rw [if_neg h]
    by_cases h2 : cIdx ms x < ms.length
    · have h3 : (cSet ms t n)[cIdx ms x]? = some ms[cIdx ms x] := by
        rw [set_get, if_neg, List.getElem?_eq_getElem h2]
        intro e
        have e1 := idx_at h2
        have h4 : cIdx ms t < ms.length := by omega
        have e2 := idx_at h4
        simp only [e] at e1
        exact h (e1.symm.trans e2)
      have := uniq_at hs h3
      rw [idx_at h2] at this
      rw [this, at_idx h2]
    · have e : cIdx ms x = ms.length := Nat.le_antisymm (idx_le _ _) (Nat.le_of_not_lt h2)
      rw [at_none (idx_none.2 e)]
      refine at_none fun p hp => ?_
      obtain ⟨i, hi, rfl⟩ := List.getElem_of_mem hp
      have h3 : (cSet ms t n)[i]? = some (cSet ms t n)[i] := List.getElem?_eq_getElem hi
      rw [set_get] at h3
      split at h3
      · injection h3 with h3; rw [← h3]; exact fun e => h e.symm
      · exact idx_none.2 e _ (List.mem_of_getElem? h3)
theorem uniq_nil : cUniq [] := fun i j p q h _ _ => by simp at h
def Rs.right (r : Rs) : Prop := (-9223372036854775808 ≤ r.lo ∧ r.lo ≤ 9223372036854775807) ∧ (-9223372036854775808 ≤ r.hi ∧ r.hi ≤ 9223372036854775807) ∧ r.key.size ≤ 9223372036854775807 ∧ (-9223372036854775808 ≤ r.n ∧ r.n ≤ 9223372036854775807) ∧ (-9223372036854775808 ≤ r.val ∧ r.val ≤ 9223372036854775807)
def keyR (r : Rs) : Value := .agg #[.int .i64 r.lo, .int .i64 r.hi, .string r.key, .int .i64 r.n, .int .i64 r.val]
def cEnt (p : Rs × Int) : Value × Value := (keyR p.1, .int .i64 p.2)
theorem keyR_inj {x y : Rs} (h : keyR y = keyR x) : y = x := by
  unfold keyR at h
  injection h with h
  simp at h
  obtain ⟨a, b, c, d, e⟩ := x
  obtain ⟨a', b', c', d', e'⟩ := y
  simp only at h
  obtain ⟨rfl, rfl, rfl, rfl, rfl⟩ := h
  rfl
theorem res_law : WideMaps.KeyLaw Tryz.prog 61 := Go.deep_law (m := 4) (by omega) (by kernel_rfl) (by kernel_rfl) (by kernel_rfl)
theorem res_key {x : Rs} (hs : x.right) : ∃ l, keyOf Tryz.prog 61 (keyR x) = some l := by
  obtain ⟨⟨h1, h2⟩, ⟨h3, h4⟩, h5, ⟨h6, h7⟩, h8, h9⟩ := hs
  have hk : Tryz.prog.keyType 61 = true := by kernel_rfl
  have hb : Nat.ble 6 Tryz.prog.types.size = true := by kernel_rfl
  obtain ⟨n, hn⟩ : ∃ n, Tryz.prog.types.size + 1 = n + 7 := ⟨Tryz.prog.types.size - 6, by have := Nat.le_of_ble_eq_true hb; omega⟩
  have c1 : Tryz.prog.cellsOf 61 = 5 := by kernel_rfl
  have c2 : Tryz.prog.cellsOf 59 = 2 := by kernel_rfl
  have c3 : Tryz.prog.cellsOf 2 = 1 := by kernel_rfl
  have c4 : Tryz.prog.cellsOf 9 = 1 := by kernel_rfl
  have hmin : IntKind.i64.min = -9223372036854775808 := rfl
  unfold keyOf keyR
  rw [Tryz.underlying61]
  simp only [hk, Bool.true_and, Value.formed, Tryz.underlying61, c1]
  rw [hn]
  simp [Program.keyLits, Tryz.underlying61, Tryz.underlying59, Tryz.underlying2, Tryz.underlying9, c1, c2, c3, c4, Value.cells, Lit.wf, maxLen, h5, hmin, h1, h2, h3, h4, h6, h7, h8, h9]
  rw [if_pos (by decide)]
  exact ⟨_, rfl⟩
theorem cl1 {ms : Cnt} {x : Rs} (h : ∀ p ∈ ms.map cEnt, p.1 ≠ keyR x) : ∀ p ∈ ms, p.1 ≠ x := by
  intro p hp e
  exact h (cEnt p) (List.mem_map.2 ⟨p, hp, rfl⟩) (by rw [← e]; rfl)
theorem cl2 {ms : Cnt} (hu : cUniq ms) {x : Rs} {j : Nat} {p : Value × Value} (h : (ms.map cEnt)[j]? = some p) (h2 : p.1 = keyR x) : ms[j]? = some (x, cAt ms x) ∧ p.2 = .int .i64 (cAt ms x) ∧ cIdx ms x = j := by
  rw [List.getElem?_map] at h
  obtain ⟨q, hq, rfl⟩ := Option.map_eq_some_iff.1 h
  have e := keyR_inj h2
  have e2 := uniq_at hu hq
  have e3 := uniq_idx hu hq
  rw [e] at e2 e3
  obtain ⟨a, b⟩ := q
  dsimp only at e e2
  subst e
  rw [e2]
  exact ⟨hq, rfl, e3⟩
theorem c_look (ms : Cnt) (hu : cUniq ms) (x : Rs) : ((∀ p ∈ ms.map cEnt, p.1 ≠ keyR x) → Value.int .i64 (cAt ms x) = .int .i64 0 ∧ decide (cIdx ms x < ms.length) = false) ∧ ∀ (j : Nat) (p : Value × Value), (ms.map cEnt)[j]? = some p → p.1 = keyR x → Value.int .i64 (cAt ms x) = p.2 ∧ decide (cIdx ms x < ms.length) = true := by
  refine ⟨fun h => ?_, fun j p h h2 => ?_⟩
  · have h3 := cl1 h
    rw [at_none h3, idx_none.1 h3]
    exact ⟨rfl, by simp⟩
  · obtain ⟨h3, h4, h5⟩ := cl2 hu h h2
    refine ⟨h4.symm, ?_⟩
    rw [h5]
    simpa using (List.getElem?_eq_some_iff.1 h3).1
theorem c_make (ms : Cnt) (hu : cUniq ms) (x : Rs) : ((∀ p ∈ ms.map cEnt, p.1 ≠ keyR x) → Value.int .i64 (cAt ms x) = .int .i64 0 ∧ cIdx ms x = (ms.map cEnt).length ∧ (cMake ms x).map cEnt = ms.map cEnt ++ [(keyR x, .int .i64 0)]) ∧ ∀ (j : Nat) (p : Value × Value), (ms.map cEnt)[j]? = some p → p.1 = keyR x → Value.int .i64 (cAt ms x) = p.2 ∧ cIdx ms x = j ∧ (cMake ms x).map cEnt = ms.map cEnt := by
  refine ⟨fun h => ?_, fun j p h h2 => ?_⟩
  · have h3 := cl1 h
    have h4 := idx_none.1 h3
    refine ⟨by rw [at_none h3], by rw [h4, List.length_map], ?_⟩
    unfold cMake
    rw [if_neg (by omega), List.map_append]
    rfl
  · obtain ⟨h3, h4, h5⟩ := cl2 hu h h2
    refine ⟨h4.symm, h5, ?_⟩
    unfold cMake
    rw [if_pos (by rw [h5]; exact (List.getElem?_eq_some_iff.1 h3).1)]
theorem c_there (ms : Cnt) (x : Rs) : ((cMake ms x).map cEnt)[cIdx ms x]? = some (keyR x, .int .i64 (cAt ms x)) := by
  rw [List.getElem?_map, make_at]; rfl
theorem c_set (ms : Cnt) (x : Rs) (n : Int) : ((cMake ms x).map cEnt).set (cIdx ms x) (keyR x, .int .i64 n) = (cSet ms x n).map cEnt := by
  unfold cSet; rw [List.map_set]; rfl
theorem c_right {ms : Cnt} {x : Rs} {n : Int} (h : ∀ p ∈ ms, p.1.right) (hx : x.right) : ∀ p ∈ cSet ms x n, p.1.right := by
  intro p hp
  unfold cSet at hp
  rcases List.mem_or_eq_of_mem_set hp with h1 | h1
  · unfold cMake at h1
    split at h1
    · exact h p h1
    · rcases List.mem_append.1 h1 with h2 | h2
      · exact h p h2
      · rw [List.mem_singleton] at h2; subst h2; exact hx
  · subst h1; exact hx
theorem make_set (ms : Cnt) (x : Rs) : cMake ms x = cSet ms x (cAt ms x) := by
  unfold cSet
  have h := make_at ms x
  apply List.ext_getElem?
  intro i
  rw [List.getElem?_set]
  split
  · rename_i e
    subst e
    rw [h, if_pos (List.getElem?_eq_some_iff.1 h).1]
  · rfl
/-- the map says f -/
structure CntF (ms : Cnt) (f : Rs → Int) : Prop where
  uniq : cUniq ms
  at' : ∀ t, cAt ms t = f t
  hr : ∀ p ∈ ms, p.1.right
theorem cntF_nil : CntF [] fun _ => 0 := ⟨uniq_nil, fun t => by simp [cAt], by simp⟩
theorem CntF.set {ms : Cnt} {f : Rs → Int} (h : CntF ms f) {x : Rs} (hx : x.right) (n : Int) : CntF (cSet ms x n) fun t => if t = x then n else f t := by
  refine ⟨set_uniq h.uniq _ _, fun t => ?_, c_right h.hr hx⟩
  rw [set_at h.uniq]
  split
  · rfl
  · exact h.at' t
theorem kr_conv (x : Rs) : conv (.agg x.av) = some (keyR x) := rfl
theorem z_int (w : World) : (zeroValue 3).run Tryz.prog w = .ok (.int .i64 0) w := by go_simp
structure CF (ms : Cnt) (x : Rs) : Prop where
  kl : ∃ kl, keyOf Tryz.prog 61 (keyR x) = some kl
  hks : ∀ p ∈ ms.map cEnt, ∃ lt, keyOf Tryz.prog 61 p.1 = some lt
  hks' : ∀ p ∈ (cMake ms x).map cEnt, ∃ lt, keyOf Tryz.prog 61 p.1 = some lt
  hu : cUniq ms
  hu' : cUniq (cMake ms x)
  ha : cAt (cMake ms x) x = cAt ms x
theorem keys_of {ms : Cnt} (h : ∀ p ∈ ms, p.1.right) : ∀ p ∈ ms.map cEnt, ∃ lt, keyOf Tryz.prog 61 p.1 = some lt := by
  intro p hp
  obtain ⟨q, hq, rfl⟩ := List.mem_map.1 hp
  exact res_key (h q hq)
theorem CF.of {ms : Cnt} {f : Rs → Int} {x : Rs} (hc : CntF ms f) (hx : x.right) : CF ms x := by
  have hm := make_set ms x
  have hu' : cUniq (cMake ms x) := by rw [hm]; exact set_uniq hc.uniq _ _
  refine ⟨res_key hx, keys_of hc.hr, ?_, hc.uniq, hu', ?_⟩
  · rw [hm]; exact keys_of (c_right hc.hr hx)
  · rw [hm, set_at hc.uniq, if_pos rfl]
section
variable {Γ : Ctx} {s : ASt} {dst : Option Tmp} {ty yt : TypeId} {pos : String} {after : Array Edge} {m x y st : Operand} {id : Nat}
theorem ls_cl {ms : Cnt} {t : Rs} (h : CF ms t) (hm : ev s m = some (.mp id)) (hx : ev s x = some (.agg t.av)) (hσ : find s.σ id = some (.mp (.m (ms.map cEnt)))) (hd : okDst Γ.n dst = true) :
    LS Tryz.prog Γ ⟨dst, .lookup 111 m x false, ty, pos, after, none⟩ s (rd m (rd x [.obj id])) (dst1 dst (.v (.int .i64 (cAt ms t)))) [] := by
  obtain ⟨kl, hkl⟩ := h.kl
  obtain ⟨k1, k2⟩ := c_look ms h.hu t
  exact ls_lookup (key := keyR t) (r := .int .i64 (cAt ms t)) (z := .int .i64 0) (b := decide (cIdx ms t < ms.length)) res_law false hm hx hσ Tryz.underlying111 (kr_conv t) z_int rfl hkl h.hks k1 k2 hd
theorem ls_cl' {ms : Cnt} {t : Rs} (h : CF ms t) (hm : ev s m = some (.mp id)) (hx : ev s x = some (.agg t.av)) (hσ : find s.σ id = some (.mp (.m ((cMake ms t).map cEnt)))) (hd : okDst Γ.n dst = true) :
    LS Tryz.prog Γ ⟨dst, .lookup 111 m x false, ty, pos, after, none⟩ s (rd m (rd x [.obj id])) (dst1 dst (.v (.int .i64 (cAt ms t)))) [] := by
  obtain ⟨kl, hkl⟩ := h.kl
  obtain ⟨k1, k2⟩ := c_look (cMake ms t) h.hu' t
  rw [h.ha] at k1 k2
  exact ls_lookup (key := keyR t) (r := .int .i64 (cAt ms t)) (z := .int .i64 0) (b := decide (cIdx (cMake ms t) t < (cMake ms t).length)) res_law false hm hx hσ Tryz.underlying111 (kr_conv t) z_int rfl hkl h.hks' k1 k2 hd
theorem ls_cm {ms : Cnt} {t : Rs} (h : CF ms t) (hm : ev s m = some (.mp id)) (hx : ev s x = some (.agg t.av)) (hσ : find s.σ id = some (.mp (.m (ms.map cEnt)))) (hd : okDst Γ.n dst = true) :
    LS Tryz.prog Γ ⟨dst, .mapEntry 111 m x, ty, pos, after, none⟩ s (rd m (rd x [.obj id])) (dst1 dst (.tup [.v (.int .i64 (cAt ms t)), .v (.int .i64 (cIdx ms t))])) [(id, .mp (.m ((cMake ms t).map cEnt)))] := by
  obtain ⟨kl, hkl⟩ := h.kl
  obtain ⟨k3, k4⟩ := c_make ms h.hu t
  exact ls_mapEntry (key := keyR t) (r := .int .i64 (cAt ms t)) (z := .int .i64 0) (i := cIdx ms t) (es' := (cMake ms t).map cEnt) res_law hm hx hσ Tryz.underlying111 (kr_conv t) z_int rfl hkl h.hks k3 k4 hd
theorem ls_ce {ms : Cnt} {t : Rs} {n : Int} (hm : ev s m = some (.mp id)) (hst : ev s st = some (.v (.int .i64 (cIdx ms t)))) (hy : ev s y = some (.v (.int .i64 n))) (hσ : find s.σ id = some (.mp (.m ((cMake ms t).map cEnt)))) (hdst : dst = none) :
    LS Tryz.prog Γ ⟨dst, .entryStore 111 m st y, ty, pos, after, none⟩ s (rd m (rd st (rd y [.obj id]))) [] [(id, .mp (.m ((cSet ms t n).map cEnt)))] := by
  have h := ls_entryStore (P := Tryz.prog) (Γ := Γ) (s := s) (dst := dst) (ty := ty) (pos := pos) (after := after) (t := 111) (k0 := keyR t) hm hst hy hσ rfl (c_there ms t) hdst
  rw [c_set] at h
  exact h
end

structure AI (p : Pn) : Prop where
  n : I64 p.n
  a : I64 p.a
  b : I64 p.b
section
variable {j : Jb} {nos : List Int} {k : Int} {p x : Pn} {l : List Pn} {V : List Vl}
theorem join_AI (hp : AI p) (hx : AI x) : AI (joinP k p x) := by
  have key : I64 (fJoin k ⟨p.n, p.a, p.b⟩ ⟨x.n, x.a, x.b⟩).n ∧ I64 (fJoin k ⟨p.n, p.a, p.b⟩ ⟨x.n, x.a, x.b⟩).a ∧ I64 (fJoin k ⟨p.n, p.a, p.b⟩ ⟨x.n, x.a, x.b⟩).b := by
    have z : I64 0 := by unfold I64; omega
    have h1 := hp.a
    have h2 := hp.b
    have h3 := hx.a
    have h4 := hx.b
    unfold fJoin
    split
    · exact ⟨z, z, z⟩
    split
    · exact ⟨hx.n, hx.a, hx.b⟩
    split
    · exact ⟨hp.n, hp.a, hp.b⟩
    refine ⟨wrap64_i64 _, ?_, ?_⟩
    · dsimp only
      unfold joinA
      unfold I64 at h1 h2 h3 h4
      repeat' split
      all_goals first | exact wrap64_i64 _ | (unfold I64; omega)
    · dsimp only
      unfold joinB
      unfold I64 at h1 h2 h3 h4
      repeat' split
      all_goals (unfold I64; omega)
  exact ⟨key.1, key.2.1, key.2.2⟩
theorem ins_AI (hx : AI x) : ∀ {l : List Pn}, (∀ p ∈ l, AI p) → ∀ p ∈ insP k l x, AI p
  | [], _ => by
    intro p hp
    rw [show insP k [] x = [x] from rfl, List.mem_singleton] at hp
    rw [hp]; exact hx
  | q :: l, h => by
    have ih := ins_AI hx (l := l) fun p hp => h p (by simp [hp])
    have hq := h q (by simp)
    intro p hp
    rcases rel3 q x with h3 | h3 | h3
    · rw [ins_a h3] at hp
      rcases List.mem_cons.1 hp with rfl | hp
      · exact hq
      · exact ih p hp
    · rw [ins_s h3] at hp
      rcases List.mem_cons.1 hp with rfl | hp
      · exact join_AI hq hx
      · exact h p (by simp [hp])
    · rw [ins_b h3] at hp
      rcases List.mem_cons.1 hp with rfl | hp
      · exact hx
      · exact h p hp
theorem row_AI (h : ∀ v ∈ V, I64 v.v) : ∀ p ∈ rowV k V, AI p := by
  refine snoc_ind (p := fun V => (∀ v ∈ V, I64 v.v) → ∀ p ∈ rowV k V, AI p) (fun _ p hp => by simp [rowV, insAll] at hp) (fun V v ih hV => ?_) V h
  rw [rowV_snoc]
  refine ins_AI ?_ (ih fun x hx => hV x (by simp [hx]))
  have hv := hV v (by simp)
  have z : I64 0 := by unfold I64; omega
  have o : I64 1 := by unfold I64; omega
  have e : vP k v = ⟨v.lo, v.hi, v.key, (fOne k v.v).n, (fOne k v.v).a, (fOne k v.v).b⟩ := rfl
  rw [e]
  refine ⟨?_, ?_, ?_⟩ <;> dsimp only <;> unfold fOne <;> (repeat' split) <;> first | exact z | exact o | exact hv
theorem res_right {l : List Pn} (hr : rightL l = true) (hA : ∀ p ∈ l, AI p) : ∀ r ∈ resultsL k l, r.right := by
  intro r hm
  unfold resultsL at hm
  split at hm
  · obtain ⟨p, hp, rfl⟩ := List.mem_map.1 hm
    have h1 := (rightL_ok hr).2.1 p hp
    have h2 := hA p hp
    unfold mayB keyB at h1
    simp only [Bool.and_eq_true, decide_eq_true_eq] at h1
    have hn := h2.n
    have ha := h2.a
    unfold I64 at hn ha
    have hv : I64 (fVal k ⟨p.n, p.a, p.b⟩) := by
      unfold fVal
      dsimp only
      repeat' split
      all_goals first | exact wrap64_i64 _ | (unfold I64; omega)
    unfold I64 at hv
    exact ⟨⟨by show _ ≤ p.lo; omega, by show p.lo ≤ _; omega⟩, ⟨by show _ ≤ p.hi; omega, by show p.hi ≤ _; omega⟩, by show p.key.size ≤ _; omega, hn, hv⟩
  · cases hm
theorem kept_64 {li fu de : Int} : ∀ {es : List Et} {m : Int}, (∀ e ∈ es, ev64 e) → ∀ e ∈ keptE li fu de m es, ev64 e
  | [], _, _, e, he => by simp [keptE] at he
  | x :: es, m, h, e, he => by
    rw [keptE] at he
    rcases List.mem_append.1 he with h1 | h1
    · split at h1
      · simp at h1
      · rw [List.mem_singleton.1 h1]
        exact goV_rng _ _ _ _ (h x (by simp))
    · exact kept_64 (fun y hy => h y (by simp [hy])) e h1
theorem vals_64 {s d li fu de : Int} {F : List (List Et)} (h : ∀ es ∈ F, ∀ e ∈ es, ev64 e) : ∀ v ∈ allVals s d (allK li fu de F), I64 v.v := by
  intro v hv
  obtain ⟨e, he, hv⟩ := List.mem_flatMap.1 hv
  obtain ⟨es, hes, he⟩ := List.mem_flatMap.1 he
  obtain ⟨w, _, rfl⟩ := List.mem_map.1 hv
  exact kept_64 (h es hes) e he
/-- all that was told is what must come out -/
theorem out_all {li fu de : Int} {F : List (List Et)} {T : List Et} (hT : TG j nos T) (hTe : T = allK li fu de F) (hk : fRight j.k = true) {out : List Rs} (h : out.Perm (outD j nos (allVals j.s j.d T) 1099511627776)) (h64 : ∀ es ∈ F, ∀ e ∈ es, ev64 e) :
    out.Perm (resultsL j.k (rowV j.k (allVals j.s j.d T))) ∧ (∀ r ∈ resultsL j.k (rowV j.k (allVals j.s j.d T)), r.right) ∧ (resultsL j.k (rowV j.k (allVals j.s j.d T))).length ≤ 2000 := by
  have hV : VG j.k (allVals j.s j.d T) := hT.vg (R := []) (by rw [List.append_nil])
  refine ⟨h.trans (outD_all hV hk hT.jg.lt fun v hv => ?_), res_right hV.right (row_AI (by rw [hTe]; exact vals_64 h64)), resL_len _ _⟩
  obtain ⟨e, he, hv⟩ := List.mem_flatMap.1 hv
  rw [vals_key v hv]
  exact hT.all e he
end
theorem zeroI_get {n q : Nat} (h : q < (zeroI n).length) : (zeroI n)[q] = (q : Int) := by
  have h2 : q < ((List.range n).map fun (q : Nat) => (q : Int)).length := h
  show ((List.range n).map fun (q : Nat) => (q : Int))[q]'h2 = _
  rw [List.getElem_map, List.getElem_range]
theorem zeroI_len (n : Nat) : (zeroI n).length = n := by simp [zeroI]
theorem zeroI_mem {n : Nat} {no : Int} : no ∈ zeroI n ↔ 0 ≤ no ∧ no < n := by
  unfold zeroI
  simp only [List.mem_map, List.mem_range]
  constructor
  · rintro ⟨q, hq, rfl⟩; omega
  · rintro ⟨h1, h2⟩; exact ⟨no.toNat, by omega, by omega⟩
theorem zeroI_jg {j : Jb} {G : Nat} (hj : jobOK j.g j.s j.d j.k j.fu j.li j.de j.id = true) (hg : j.g = (G : Int)) (h32 : G ≤ 32) : JG j (zeroI G) := by
  refine ⟨hj, ?_, fun no hn => by have := zeroI_mem.1 hn; omega⟩
  rw [List.pairwise_iff_getElem]
  intro a b ha hb hab
  rw [zeroI_get ha, zeroI_get hb]; omega
theorem grp_in {G : Nat} {g : Int} (hg : g = (G : Int)) (h1 : 1 ≤ g) (l : List UInt8) : grpV l g ∈ zeroI G := by
  rw [zeroI_mem, grpV_high (by omega)]
  have h2 := Int.emod_nonneg (hashN l : Int) (show g ≠ 0 by omega)
  have h3 := Int.emod_lt_of_pos (hashN l : Int) (show 0 < g by omega)
  omega
theorem zGp_gp (j : Jb) (l : List Int) : l.map zGp = l.map (gpOf j [] 0) := List.map_congr_left fun no _ => rfl
theorem tg0 {j : Jb} {G : Nat} {F : List (List Et)} (hj : JG j (zeroI G)) (hg : j.g = (G : Int)) (hg1 : 1 ≤ j.g) (h4 : F.length ≤ 4) (hes : ∀ es ∈ F, es.length ≤ 200 ∧ ∀ e ∈ es, evR e.key e.at' = true) (hrow : (rowV j.k (allVals j.s j.d (allK j.li j.fu j.de F))).length ≤ 2000) : TG j (zeroI G) (allK j.li j.fu j.de F) := by
  have h := allK_len (li := j.li) (fu := j.fu) (de := j.de) (ls := F) fun es he => (hes es he).1
  exact ⟨hj, fun e _ => grp_in hg hg1 _, allK_ok fun es he => (hes es he).2, by omega, hrow⟩
end Go.Proofs.YtilgagmfcdfjaaaGreat
namespace Go.Proofs.YtilgagmfcdfjaaaGreat
open Go.RowKit Go.ChangeMaps Go.MapKept
set_option linter.unusedSimpArgs false
set_option linter.unusedVariables false
section
variable {P : Program} {Γ : Ctx} {s : ASt} {Q : Exit → ASt → Prop} {ops : Array Oper} {rest : List Oper}
variable {dst : Option Tmp} {ty : TypeId} {pos : String} {after : Array Edge}
theorem obj_g {σ : Store} {μ : Nat → Value} {w : World} {A : Nat → Prop} {id b : Nat} {es : List (Value × Value)} (h : ObjRel σ μ w A id (.mp (.g es b))) : ∃ ents ck, μ id = .map (some b) ∧ w.heap[b]? = some (.map ents ck) ∧ ents.toList.map (fun e => (e.key, e.val)) = es ∧ Borns ents ck := by
  obtain ⟨g, v, ob, h1, h2, h3, ents, ck, rfl, rfl, h4, h5⟩ := h
  simp only [blk, Option.some.injEq] at h2
  subst h2
  exact ⟨ents, ck, h1, h3, h4, h5⟩
theorem obj_it {σ : Store} {μ : Nat → Value} {w : World} {A : Nat → Prop} {id b n : Nat} {seen : List Nat} (h : ObjRel σ μ w A id (.mp (.it b n seen))) : ∃ r, μ id = .pointer (some ⟨r, 0, none⟩) ∧ w.heap[r]? = some (.mapIter (some b) n seen.toArray n) := by
  obtain ⟨g, v, ob, h1, h2, h3, r, rfl, rfl⟩ := h
  simp only [blk, Option.some.injEq] at h2
  subst h2
  exact ⟨_, h1, h3⟩
theorem o_range {m : Operand} {t kt et id : Nat} {es : List (Value × Value)} (k : Nat) (hm : ev s m = some (.mp id)) (hσ : find s.σ id = some (.mp (.m es))) (hu : P.underlying t = some (.map kt et)) (hk : find s.σ k = none) (hd : okDst Γ.n dst = true)
    (h : ∀ b, AOps P Γ ops rest Q (s.eff (dst1 dst (.mp k)) [(k, .mp (.it b es.length [])), (id, .mp (.g es b))])) : AOps P Γ ops (⟨dst, .range t m, ty, pos, after, none⟩ :: rest) Q s :=
  ⟨fun hnd μ a w hr => plain_in hnd rfl fun K hK => by
    obtain ⟨e1, _⟩ := (Agree.refl s (rd m [])).ev hm
    have e1 := hr.ev e1
    simp only [rep] at e1
    obtain ⟨g, ents, ck, h1, h2, h3, hbo⟩ := obj_map (hr.store.obj id _ hσ)
    have hne : id ≠ k := fun e => by rw [e, hk] at hσ; cases hσ
    have hr1 : Rel Γ (s.eff [] [(id, .mp (.g es g))]) μ a w := store_rel hr hσ (g := g) (by rw [h1]; rfl) rfl rfl rfl rfl (fun _ _ => rfl) trivial (fun A hst hA => ⟨g, _, _, h1, rfl, h2, ents, ck, rfl, rfl, h3, hbo⟩)
    have hk1 : find (s.eff [] [(id, .mp (.g es g))]).σ k = none := by
      simp only [ASt.eff, List.cons_append, List.nil_append, find_cons, if_neg hne]
      exact hk
    have hlen : ck = es.length := by rw [hbo.1, ← h3]; simp
    have hn := hr1.new (w' := w.alloc (.mapIter (some g) ck #[] ck)) (v := .pointer (some ⟨w.heap.size, 0, none⟩)) (o := .mp (.it g es.length [])) hk1 (below_alloc _ _) (by simp [blk]) (fun μ' A hμ hμk hA hst => by
      exact ⟨w.heap.size, _, _, hμk, rfl, (MapKept.heap_alloc w _).1, w.heap.size, rfl, by rw [hlen]⟩)
    have hfin := hn.put (d := dst) (x := .mp k) (y := .pointer (some ⟨w.heap.size, 0, none⟩)) hd (by
      simp only [rep, ASt.eff, List.cons_append, List.nil_append, find_cons, if_true]
      exact ⟨rfl, (setμ_same _ _ _).symm, _, rfl⟩)
    have hrun : (execOp a.eval ⟨dst, .range t m, ty, pos, after, none⟩).run P w = .ok (.value (.pointer (some ⟨w.heap.size, 0, none⟩))) (w.alloc (.mapIter (some g) ck #[] ck)) := by
      simp only [execOp, e1.2.1, h1, Sem.run_bind, run_range_map w t kt et g ents ck hu h2, Result.andThen_ok, Sem.run_pure]
    unfold Oper.wp
    rw [hrun]
    refine hK _ _ ((h g).out (nodef_cons hnd).2 (setμ μ k (.pointer (some ⟨w.heap.size, 0, none⟩))) _ _ ?_)
    cases dst <;> exact hfin⟩
theorem o_next {x : Operand} {id b : Nat} {es : List (Value × Value)} {seen : List Nat} (mid' : Nat) (KA VA : Nat → AV) (hx : ev s x = some (.mp id)) (h1 : find s.σ id = some (.mp (.it b es.length seen))) (h2 : find s.σ mid' = some (.mp (.g es b)))
    (hrep : ∀ (i : Nat) (p : Value × Value), es[i]? = some p → ∀ σ μ w A, rep σ μ w A (KA i) p.1 ∧ rep σ μ w A (VA i) p.2) (hd : okDst Γ.n dst = true)
    (hDone : (∀ i, i < es.length → i ∈ seen) → AOps P Γ ops rest Q (s.eff (dst1 dst (.tup [.v (.bool false)])) []))
    (hMore : ∀ i, i < es.length → i ∉ seen → AOps P Γ ops rest Q (s.eff (dst1 dst (.tup [.v (.bool true), KA i, VA i])) [(id, .mp (.it b es.length (seen ++ [i])))])) :
    AOps P Γ ops (⟨dst, .next x false, ty, pos, after, none⟩ :: rest) Q s :=
  ⟨fun hnd μ a w hr => plain_in hnd rfl fun K hK => by
    obtain ⟨e1, _⟩ := (Agree.refl s (rd x [])).ev hx
    have e1 := hr.ev e1
    simp only [rep] at e1
    obtain ⟨r, g1, g2⟩ := obj_it (hr.store.obj id _ h1)
    obtain ⟨ents, ck, g4, g5, g6, hbo⟩ := obj_g (hr.store.obj mid' _ h2)
    have hlen : ents.size = es.length := by rw [← g6]; simp
    have hbi : ∀ e ∈ ents.toList, ∃ i : Nat, i < es.length ∧ ents.toList[i]? = some e ∧ e.born = i := fun e he => by
      obtain ⟨i, hi, rfl⟩ := List.getElem_of_mem he
      have hi' : i < ents.size := by simpa using hi
      exact ⟨i, by omega, by simp [hi'], hbo.2 i _ (by simp [hi'])⟩
    have hold : ∀ e ∈ ents.toList, e.born < es.length := fun e he => by
      obtain ⟨i, hi, _, h3⟩ := hbi e he
      omega
    rcases run_next_at (P := P) w ty r b es.length es.length seen.toArray ents ck g2 g5 hold (Nat.le_refl _) with ⟨h0, hrun⟩ | ⟨e, he, w1, hal, hrun⟩
    · have hrun2 : (execOp a.eval ⟨dst, .next x false, ty, pos, after, none⟩).run P w = .ok (.value (.tuple #[.bool false])) w := by
        simp only [execOp, e1.2.1, g1, Sem.run_bind, hrun, Result.andThen_ok, Sem.run_pure]
      unfold Oper.wp
      rw [hrun2]
      refine hK _ _ ((hDone fun i hi => ?_).out (nodef_cons hnd).2 μ _ _ (hr.put hd (by simp only [rep, repL]; exact ⟨[_], rfl, _, _, rfl, ⟨rfl, rfl⟩, rfl⟩)))
      have hi' : i < ents.size := by omega
      have h4 := all_seen ents seen.toArray h0 ents[i] (by simp)
      rw [hbo.2 i _ (by simp [hi'])] at h4
      simpa using h4
    · obtain ⟨hem, hes⟩ := mem_left he
      obtain ⟨i, hi, hie, hbn⟩ := hbi e hem
      have hp : es[i]? = some (e.key, e.val) := by rw [← g6, List.getElem?_map, hie]; rfl
      have hns : i ∉ seen := by
        rw [hbn] at hes
        simpa using hes
      have hr1 : w1.heap[r]? = some (.mapIter (some b) es.length seen.toArray es.length) := by rcases hal with rfl | rfl <;> exact g2
      have hset := heap_set (o' := .mapIter (some b) es.length (seen.toArray.push e.born) ck) hr1
      have hsz : (setBlock w1 r (.mapIter (some b) es.length (seen.toArray.push e.born) ck)).heap.size = w.heap.size := by rcases hal with rfl | rfl <;> simp [setBlock]
      have hoth : ∀ c, c ≠ r → (setBlock w1 r (.mapIter (some b) es.length (seen.toArray.push e.born) ck)).heap[c]? = w.heap[c]? := fun c hc => (hset.2 c hc).trans (by rcases hal with rfl | rfl <;> rfl)
      have hst := store_rel hr h1 (g := r) (o' := .mp (.it b es.length (seen ++ [i]))) (w' := setBlock w1 r (.mapIter (some b) es.length (seen.toArray.push e.born) ck)) (by rw [g1]; rfl) hsz
        (by rcases hal with rfl | rfl <;> rfl) (by rcases hal with rfl | rfl <;> rfl) (by rcases hal with rfl | rfl <;> rfl) hoth trivial (fun A hst hA => ⟨r, _, _, g1, rfl, hset.1, r, rfl, by rw [hbn, show ck = es.length by rw [hbo.1]; exact hlen]; simp⟩)
      have hfin := hst.put (d := dst) (x := .tup [.v (.bool true), KA i, VA i]) (y := .tuple #[.bool true, e.key, e.val]) hd (by
        simp only [rep, repL]
        exact ⟨[_, _, _], rfl, _, _, rfl, ⟨rfl, rfl⟩, _, _, rfl, (hrep i _ hp _ _ _ _).1, _, _, rfl, (hrep i _ hp _ _ _ _).2, rfl⟩)
      have hrun2 : (execOp a.eval ⟨dst, .next x false, ty, pos, after, none⟩).run P w = .ok (.value (.tuple #[.bool true, e.key, e.val])) (setBlock w1 r (.mapIter (some b) es.length (seen.toArray.push e.born) ck)) := by
        simp only [execOp, e1.2.1, g1, Sem.run_bind, hrun, Result.andThen_ok, Sem.run_pure]
      unfold Oper.wp
      rw [hrun2]
      refine hK _ _ ((hMore i hi hns).out (nodef_cons hnd).2 μ _ _ ?_)
      cases dst <;> exact hfin⟩
theorem ls_entry {x : Operand} {id b n i : Nat} {es : List (Value × Value)} {seen : List Nat} {ka va : AV} {p : Value × Value} (mid : Nat) (hx : ev s x = some (.mp id)) (h1 : find s.σ id = some (.mp (.it b n (seen ++ [i])))) (h2 : find s.σ mid = some (.mp (.g es b))) (hn0 : n = es.length)
    (hp : es[i]? = some p) (hrep : ∀ σ μ w A, rep σ μ w A ka p.1 ∧ rep σ μ w A va p.2) (hd : okDst Γ.n dst = true) :
    LS P Γ ⟨dst, .entry x, ty, pos, after, none⟩ s (rd x [.obj id, .obj mid]) (dst1 dst (.tup [ka, va])) [] :=
  ls_pure hd fun t' ht μ a w hr => by
    obtain ⟨e1, ht⟩ := ht.ev hx
    have f1 : find t'.σ id = some (.mp (.it b n (seen ++ [i]))) := ht.1.trans h1
    have f2 : find t'.σ mid = some (.mp (.g es b)) := ht.2.1.trans h2
    have e1 := hr.ev e1
    simp only [rep] at e1
    obtain ⟨r, g1, g2⟩ := obj_it (hr.store.obj id _ f1)
    obtain ⟨ents, ck, g4, g5, g6, hbo⟩ := obj_g (hr.store.obj mid _ f2)
    have hn : n = ents.size := by rw [hn0, ← g6]; simp
    rw [← g6, List.getElem?_map] at hp
    cases he : ents.toList[i]? with
    | none => rw [he] at hp; cases hp
    | some e =>
      rw [he] at hp
      simp only [Option.map_some, Option.some.injEq] at hp
      subst hp
      have hei : ents[i]? = some e := by simpa using he
      have hbn := hbo.2 i e hei
      have hnd : (ents.toList.map (·.born)).Nodup := by
        rw [List.nodup_iff_pairwise_ne, List.pairwise_map, List.pairwise_iff_getElem]
        intro c d hc hd hcd
        have hc' : c < ents.size := by simpa using hc
        have hd' : d < ents.size := by simpa using hd
        have h3 := hbo.2 c _ (show ents[c]? = some ents[c] by simp [hc'])
        have h4 := hbo.2 d _ (show ents[d]? = some ents[d] by simp [hd'])
        simp only [Array.getElem_toList]
        omega
      have hrun := run_entry_at (P := P) w r b n seen.toArray ents ck e (by rw [g2, hbn]; simp [hn, hbo.1]) g5 (by
        have := List.mem_of_getElem? he
        exact this) hnd
      have hrp := hrep t'.σ μ w (av t'.σ μ Γ.M)
      refine ⟨.tuple #[e.key, e.val], by simp only [execOp, e1.2.1, g1, Sem.run_bind, hrun, Result.andThen_ok, Sem.run_pure], ?_⟩
      simp only [rep, repL]
      exact ⟨[_, _], rfl, _, _, rfl, hrp.1, _, _, rfl, hrp.2, rfl⟩
end
end Go.Proofs.YtilgagmfcdfjaaaGreat
namespace Go.Proofs.YtilgagmfcdfjaaaGreat
open Go.RowKit
set_option linter.unusedSimpArgs false
set_option linter.unusedVariables false
theorem CntF.congr {ms : Cnt} {f g : Rs → Int} (h : CntF ms f) (e : ∀ t, f t = g t) : CntF ms g := ⟨h.uniq, fun t => (h.at' t).trans (e t), h.hr⟩
theorem CntF.up {ms : Cnt} {f : Rs → Int} {L : List Rs} {x : Rs} (h : CntF ms fun t => f t + L.count t) (hx : x.right) : CntF (cSet ms x (cAt ms x + 1)) fun t => f t + (L ++ [x]).count t := by
  refine (h.set hx _).congr fun t => ?_
  rw [h.at', List.count_append]
  by_cases e : t = x
  · subst e; rw [if_pos rfl]; simp; omega
  · rw [if_neg e, List.count_eq_zero.2 (show t ∉ [x] by simp [e])]; simp
theorem CntF.down {ms : Cnt} {f : Rs → Int} {L : List Rs} {x : Rs} (h : CntF ms fun t => f t - L.count t) (hx : x.right) : CntF (cSet ms x (cAt ms x - 1)) fun t => f t - (L ++ [x]).count t := by
  refine (h.set hx _).congr fun t => ?_
  rw [h.at', List.count_append]
  by_cases e : t = x
  · subst e; rw [if_pos rfl]; simp; omega
  · rw [if_neg e, List.count_eq_zero.2 (show t ∉ [x] by simp [e])]; simp
theorem nodup_len {l : List Nat} {n : Nat} (h : l.Nodup) (hl : ∀ i ∈ l, i < n) : l.length ≤ n := by
  have := h.length_le_of_subset (l₂ := List.range n) fun i hi => List.mem_range.2 (hl i hi)
  rwa [List.length_range] at this
set_option maxRecDepth 20000 in
set_option maxHeartbeats 8000000 in
theorem l_like (A B : List Rs) (hp : A.Perm B) (hA : A.length ≤ 1000000) (hr : ∀ x ∈ A, x.right) : PC Tryz.prog 22 [.sl 5 (A.map Rs.av), .sl 5 (B.map Rs.av)] (.v (.bool true)) := by
  have hAl : (A.map Rs.av).length = A.length := List.length_map _
  have hBl : (B.map Rs.av).length = B.length := List.length_map _
  have hBA := hp.length_eq
  have hrB : ∀ x ∈ B, x.right := fun x hx => hr x (hp.mem_iff.2 hx)
  refine PC.mk (ac_body tab_ok Tryz.func22 rfl (by kernel_rfl) rfl ?_); intro w0 M μ0; simp only [Tryz.ntmps22, List.length_cons, List.length_nil, Nat.reduceAdd, Nat.reduceSub, numb]
  repeat' (first | ((first | apply o_do | apply d_do | apply d_yes rfl rfl rfl); first | exact ls_makeMap (k := 0) rfl rfl | exact lsq) | refine a_seq ?_ | refine a_region ?_ | refine o_nil ?_ | refine a_block ?_ | refine a_ret ?_ | refine a_exit ?_ | refine a_skip ?_ | refine a_drawA mixed ?_ | refine d_nil (by kernel_rfl) ?_ | refine o_yes rfl rfl rfl ?_ | refine o_no rfl rfl rfl (by decide) ?_ | refine o_no' rfl rfl rfl ?_ | refine a_condT rfl ?_ | refine a_condF rfl ?_ | refine d_no rfl rfl rfl (by decide) ?_ | refine d_no' rfl rfl rfl ?_ | (refine wq2 (fun hb => ?_) (fun hb => ?_) <;> (simp only [hb]; try simp only [hbs, ne_eq] at hb; try (exfalso; first | omega | exact hb trivial))) | fail)
  refine a_loop (X := {x : Nat × Cnt // x.1 ≤ A.length ∧ CntF x.2 fun t => 0 + (A.take x.1).count t}) (fun x => ⟨[(0, .sl 5 (A.map Rs.av)), (1, .sl 5 (B.map Rs.av)), (5, .mp 0), (13, .sl 5 (A.map Rs.av)), (14, .v (.int .i64 A.length)), (15, .v (.int .i64 x.1.1))], [(0, .mp (.m (x.1.2.map cEnt)))]⟩) (fun x => A.length - x.1.1) ⟨(0, []), Nat.zero_le _, cntF_nil.congr fun t => by simp⟩ ?_ ?_
  · exact wkS
  rintro ⟨⟨q, ms⟩, hq, hC⟩
  dsimp only at hq hC ⊢
  by_cases hlt : q < A.length
  · have hel : (A.map Rs.av)[q]? = some (Rs.av A[q]) := by simp [hlt]
    have hxr := hr _ (List.getElem_mem hlt)
    have hB := hC.up hxr
    rw [← take_snoc A q hlt] at hB
    generalize A[q] = x at *
    have hF := CF.of hC hxr
    have k7 : -1000000 ≤ cAt ms x ∧ cAt ms x ≤ 1000000 := by
      rw [hC.at']
      have := List.count_le_length (a := x) (l := A.take q)
      have := List.length_take (i := q) (l := A)
      omega
    repeat' (first | ((first | apply o_do | apply d_do | apply d_yes rfl rfl rfl); first | exact ls_indexAddr_sl tab_ok rfl rfl rfl rfl hel rfl | exact lsq) | refine a_seq ?_ | refine a_region ?_ | refine o_nil ?_ | refine a_block ?_ | refine a_ret ?_ | refine a_exit ?_ | refine a_skip ?_ | refine a_drawA mixed ?_ | refine d_nil (by kernel_rfl) ?_ | refine o_yes rfl rfl rfl ?_ | refine o_no rfl rfl rfl (by decide) ?_ | refine o_no' rfl rfl rfl ?_ | refine a_condT rfl ?_ | refine a_condF rfl ?_ | refine d_no rfl rfl rfl (by decide) ?_ | refine d_no' rfl rfl rfl ?_ | (refine wq2 (fun hb => ?_) (fun hb => ?_) <;> (simp only [hb]; try simp only [hbs, ne_eq] at hb; try (exfalso; first | omega | exact hb trivial))) | fail)
    repeat' first
      | exact arl_nil
      | refine ar_done (by decide +kernel) ?_
      | refine ar_step [0, 1] (by decide +kernel) rfl ?_
      | refine ar_step [1] (by decide +kernel) rfl ?_
      | refine ar_step [2, 4] (by decide +kernel) rfl ?_
      | refine ar_step [3, 4] (by decide +kernel) rfl ?_
      | refine ar_step [4] (by decide +kernel) rfl ?_
      | refine ar_step [5] (by decide +kernel) rfl ?_
      | refine ar_step [6] (by decide +kernel) rfl ?_
      | refine ar_step [3, 5] (by decide +kernel) rfl ?_
      | refine ar_step [3] (by decide +kernel) rfl ?_
      | refine ar_step [2, 5] (by decide +kernel) rfl ?_
      | refine ar_step [2] (by decide +kernel) rfl ?_
      | refine ar_step [0] (by decide +kernel) rfl ?_
      | (apply arl_cons (i := 0) rfl rfl; focus (exact lsq))
      | (apply arl_cons (i := 1) rfl rfl; focus (exact lsq))
      | (apply arl_cons (i := 2) rfl rfl; focus (exact ls_cl hF rfl rfl rfl rfl))
      | (apply arl_cons (i := 2) rfl rfl; focus (exact ls_cl' hF rfl rfl rfl rfl))
      | (apply arl_cons (i := 3) rfl rfl; focus (exact lsq))
      | (apply arl_cons (i := 4) rfl rfl; focus (exact ls_cm hF rfl rfl rfl rfl))
      | (apply arl_cons (i := 5) rfl rfl; focus (exact lsq))
      | (apply arl_cons (i := 6) rfl rfl; focus (exact ls_ce (ms := ms) (t := x) rfl rfl rfl rfl rfl))
    all_goals
      repeat' (first | ((first | apply o_do | apply d_do | apply d_yes rfl rfl rfl); exact lsq) | refine a_seq ?_ | refine a_region ?_ | refine o_nil ?_ | refine a_block ?_ | refine a_ret ?_ | refine a_exit ?_ | refine a_skip ?_ | refine a_draw mixed ?_ | refine d_nil (by kernel_rfl) ?_ | refine o_yes rfl rfl rfl ?_ | refine o_no rfl rfl rfl (by decide) ?_ | refine o_no' rfl rfl rfl ?_ | refine a_condT rfl ?_ | refine a_condF rfl ?_ | refine d_no rfl rfl rfl (by decide) ?_ | refine d_no' rfl rfl rfl ?_ | (refine wq2 (fun hb => ?_) (fun hb => ?_) <;> (simp only [hb]; try simp only [hbs, ne_eq] at hb; try (exfalso; first | omega | exact hb trivial))) | fail)
      refine ⟨⟨(q + 1, _), by dsimp only; omega, hB⟩, by dsimp only; omega, ?_⟩
      exact wkS
  obtain rfl : q = A.length := by omega
  rw [List.take_length] at hC
  repeat' (first | ((first | apply o_do | apply d_do | apply d_yes rfl rfl rfl); first | fail | exact lsq) | refine a_seq ?_ | refine a_region ?_ | refine o_nil ?_ | refine a_block ?_ | refine a_ret ?_ | refine a_exit ?_ | refine a_skip ?_ | refine a_drawA mixed ?_ | refine d_nil (by kernel_rfl) ?_ | refine o_yes rfl rfl rfl ?_ | refine o_no rfl rfl rfl (by decide) ?_ | refine o_no' rfl rfl rfl ?_ | refine a_condT rfl ?_ | refine a_condF rfl ?_ | refine d_no rfl rfl rfl (by decide) ?_ | refine d_no' rfl rfl rfl ?_ | (refine wq2 (fun hb => ?_) (fun hb => ?_) <;> (simp only [hb]; try simp only [hbs, ne_eq] at hb; try (exfalso; first | omega | exact hb trivial))) | fail)
  refine a_loop (X := {x : Nat × Cnt // x.1 ≤ B.length ∧ CntF x.2 fun t => (0 + (A.count t : Int)) - (B.take x.1).count t}) (fun x => ⟨[(1, .sl 5 (B.map Rs.av)), (5, .mp 0), (26, .sl 5 (B.map Rs.av)), (27, .v (.int .i64 B.length)), (28, .v (.int .i64 x.1.1))], [(0, .mp (.m (x.1.2.map cEnt)))]⟩) (fun x => B.length - x.1.1) ⟨(0, ms), Nat.zero_le _, hC.congr fun t => by simp⟩ ?_ ?_
  · exact wkS
  clear hC ms
  rintro ⟨⟨q, ms⟩, hq, hC⟩
  dsimp only at hq hC ⊢
  by_cases hlt : q < B.length
  · have hel : (B.map Rs.av)[q]? = some (Rs.av B[q]) := by simp [hlt]
    have hxr := hrB _ (List.getElem_mem hlt)
    have hB := hC.down hxr
    rw [← take_snoc B q hlt] at hB
    generalize B[q] = x at *
    have hF := CF.of hC hxr
    have k7 : -1000000 ≤ cAt ms x ∧ cAt ms x ≤ 1000000 := by
      rw [hC.at']
      have := List.count_le_length (a := x) (l := B.take q)
      have := List.length_take (i := q) (l := B)
      have := List.count_le_length (a := x) (l := A)
      omega
    repeat' (first | ((first | apply o_do | apply d_do | apply d_yes rfl rfl rfl); first | exact ls_indexAddr_sl tab_ok rfl rfl rfl rfl hel rfl | exact lsq) | refine a_seq ?_ | refine a_region ?_ | refine o_nil ?_ | refine a_block ?_ | refine a_ret ?_ | refine a_exit ?_ | refine a_skip ?_ | refine a_drawA mixed ?_ | refine d_nil (by kernel_rfl) ?_ | refine o_yes rfl rfl rfl ?_ | refine o_no rfl rfl rfl (by decide) ?_ | refine o_no' rfl rfl rfl ?_ | refine a_condT rfl ?_ | refine a_condF rfl ?_ | refine d_no rfl rfl rfl (by decide) ?_ | refine d_no' rfl rfl rfl ?_ | (refine wq2 (fun hb => ?_) (fun hb => ?_) <;> (simp only [hb]; try simp only [hbs, ne_eq] at hb; try (exfalso; first | omega | exact hb trivial))) | fail)
    repeat' first
      | exact arl_nil
      | refine ar_done (by decide +kernel) ?_
      | refine ar_step [0, 1] (by decide +kernel) rfl ?_
      | refine ar_step [1] (by decide +kernel) rfl ?_
      | refine ar_step [2, 4] (by decide +kernel) rfl ?_
      | refine ar_step [3, 4] (by decide +kernel) rfl ?_
      | refine ar_step [4] (by decide +kernel) rfl ?_
      | refine ar_step [5] (by decide +kernel) rfl ?_
      | refine ar_step [6] (by decide +kernel) rfl ?_
      | refine ar_step [3, 5] (by decide +kernel) rfl ?_
      | refine ar_step [3] (by decide +kernel) rfl ?_
      | refine ar_step [2, 5] (by decide +kernel) rfl ?_
      | refine ar_step [2] (by decide +kernel) rfl ?_
      | refine ar_step [0] (by decide +kernel) rfl ?_
      | (apply arl_cons (i := 0) rfl rfl; focus (exact lsq))
      | (apply arl_cons (i := 1) rfl rfl; focus (exact lsq))
      | (apply arl_cons (i := 2) rfl rfl; focus (exact ls_cl hF rfl rfl rfl rfl))
      | (apply arl_cons (i := 2) rfl rfl; focus (exact ls_cl' hF rfl rfl rfl rfl))
      | (apply arl_cons (i := 3) rfl rfl; focus (exact lsq))
      | (apply arl_cons (i := 4) rfl rfl; focus (exact ls_cm hF rfl rfl rfl rfl))
      | (apply arl_cons (i := 5) rfl rfl; focus (exact lsq))
      | (apply arl_cons (i := 6) rfl rfl; focus (exact ls_ce (ms := ms) (t := x) rfl rfl rfl rfl rfl))
    all_goals
      repeat' (first | ((first | apply o_do | apply d_do | apply d_yes rfl rfl rfl); exact lsq) | refine a_seq ?_ | refine a_region ?_ | refine o_nil ?_ | refine a_block ?_ | refine a_ret ?_ | refine a_exit ?_ | refine a_skip ?_ | refine a_draw mixed ?_ | refine d_nil (by kernel_rfl) ?_ | refine o_yes rfl rfl rfl ?_ | refine o_no rfl rfl rfl (by decide) ?_ | refine o_no' rfl rfl rfl ?_ | refine a_condT rfl ?_ | refine a_condF rfl ?_ | refine d_no rfl rfl rfl (by decide) ?_ | refine d_no' rfl rfl rfl ?_ | (refine wq2 (fun hb => ?_) (fun hb => ?_) <;> (simp only [hb]; try simp only [hbs, ne_eq] at hb; try (exfalso; first | omega | exact hb trivial))) | fail)
      refine ⟨⟨(q + 1, _), by dsimp only; omega, hB⟩, by dsimp only; omega, ?_⟩
      exact wkS
  obtain rfl : q = B.length := by omega
  rw [List.take_length] at hC
  have hz : ∀ (i : Nat) (p : Rs × Int), ms[i]? = some p → p.2 = 0 := fun i p h => by
    rw [← uniq_at hC.uniq h, hC.at', hp.count_eq]; omega
  have hml : (ms.map cEnt).length = ms.length := List.length_map _
  have hrep : ∀ (i : Nat) (p : Value × Value), (ms.map cEnt)[i]? = some p → ∀ σ μ w A, rep σ μ w A ((fun i => .agg (Rs.av ((ms[i]?).getD (⟨0, 0, .empty, 0, 0⟩, 0)).1)) i) p.1 ∧ rep σ μ w A ((fun _ => AV.v (.int .i64 0)) i) p.2 := by
    intro i p h σ μ w A
    rw [List.getElem?_map] at h
    obtain ⟨y, hy, rfl⟩ := Option.map_eq_some_iff.1 h
    dsimp only
    rw [hy, Option.getD_some]
    refine ⟨?_, ?_⟩
    · simp only [rep, cEnt, keyR]
      exact ⟨[_, _, _, _, _], rfl, repC_con (cs := [.int .i64 y.1.lo, .int .i64 y.1.hi, .string y.1.key, .int .i64 y.1.n, .int .i64 y.1.val]) rfl⟩
    · simp only [rep]
      exact ⟨by show Value.int .i64 y.2 = _; rw [hz i y hy], rfl⟩
  repeat' (first | ((first | apply o_do | apply d_do | apply d_yes rfl rfl rfl); first | fail | exact lsq) | refine a_seq ?_ | refine a_region ?_ | refine o_nil ?_ | refine a_block ?_ | refine a_ret ?_ | refine a_exit ?_ | refine a_skip ?_ | refine a_drawA mixed ?_ | refine d_nil (by kernel_rfl) ?_ | refine o_yes rfl rfl rfl ?_ | refine o_no rfl rfl rfl (by decide) ?_ | refine o_no' rfl rfl rfl ?_ | refine a_condT rfl ?_ | refine a_condF rfl ?_ | refine d_no rfl rfl rfl (by decide) ?_ | refine d_no' rfl rfl rfl ?_ | (refine wq2 (fun hb => ?_) (fun hb => ?_) <;> (simp only [hb]; try simp only [hbs, ne_eq] at hb; try (exfalso; first | omega | exact hb trivial))) | fail)
  refine o_range 1 rfl rfl Tryz.underlying111 rfl rfl (fun b => ?_)
  repeat' (first | ((first | apply o_do | apply d_do | apply d_yes rfl rfl rfl); first | fail | exact lsq) | refine a_seq ?_ | refine a_region ?_ | refine o_nil ?_ | refine a_block ?_ | refine a_ret ?_ | refine a_exit ?_ | refine a_skip ?_ | refine a_drawA mixed ?_ | refine d_nil (by kernel_rfl) ?_ | refine o_yes rfl rfl rfl ?_ | refine o_no rfl rfl rfl (by decide) ?_ | refine o_no' rfl rfl rfl ?_ | refine a_condT rfl ?_ | refine a_condF rfl ?_ | refine d_no rfl rfl rfl (by decide) ?_ | refine d_no' rfl rfl rfl ?_ | (refine wq2 (fun hb => ?_) (fun hb => ?_) <;> (simp only [hb]; try simp only [hbs, ne_eq] at hb; try (exfalso; first | omega | exact hb trivial))) | fail)
  refine a_loop (X := {l : List Nat // l.Nodup ∧ ∀ i ∈ l, i < ms.length}) (fun x => ⟨[(40, .mp 1)], [(0, .mp (.g (ms.map cEnt) b)), (1, .mp (.it b (ms.map cEnt).length x.1))]⟩) (fun x => ms.length - x.1.length) ⟨[], List.nodup_nil, by simp⟩ ?_ ?_
  · exact wkS
  rintro ⟨seen, hs1, hs2⟩
  dsimp only
  repeat' (first | ((first | apply o_do | apply d_do | apply d_yes rfl rfl rfl); first | fail | exact lsq) | refine a_seq ?_ | refine a_region ?_ | refine o_nil ?_ | refine a_block ?_ | refine a_ret ?_ | refine a_exit ?_ | refine a_skip ?_ | refine a_drawA mixed ?_ | refine d_nil (by kernel_rfl) ?_ | refine o_yes rfl rfl rfl ?_ | refine o_no rfl rfl rfl (by decide) ?_ | refine o_no' rfl rfl rfl ?_ | refine a_condT rfl ?_ | refine a_condF rfl ?_ | refine d_no rfl rfl rfl (by decide) ?_ | refine d_no' rfl rfl rfl ?_ | (refine wq2 (fun hb => ?_) (fun hb => ?_) <;> (simp only [hb]; try simp only [hbs, ne_eq] at hb; try (exfalso; first | omega | exact hb trivial))) | fail)
  refine o_next 0 _ _ rfl rfl rfl hrep rfl (fun hall => ?_) (fun i hi hns => ?_)
  · repeat' (first | ((first | apply o_do | apply d_do | apply d_yes rfl rfl rfl); first | fail | exact lsq) | refine a_seq ?_ | refine a_region ?_ | refine o_nil ?_ | refine a_block ?_ | refine a_ret ?_ | refine a_exit ?_ | refine a_skip ?_ | refine a_drawA mixed ?_ | refine d_nil (by kernel_rfl) ?_ | refine o_yes rfl rfl rfl ?_ | refine o_no rfl rfl rfl (by decide) ?_ | refine o_no' rfl rfl rfl ?_ | refine a_condT rfl ?_ | refine a_condF rfl ?_ | refine d_no rfl rfl rfl (by decide) ?_ | refine d_no' rfl rfl rfl ?_ | (refine wq2 (fun hb => ?_) (fun hb => ?_) <;> (simp only [hb]; try simp only [hbs, ne_eq] at hb; try (exfalso; first | omega | exact hb trivial))) | fail)
    all_goals refine rq rfl ?_
    all_goals exact fnq
  · rw [hml] at hi
    have hn2 : (seen ++ [i]).Nodup ∧ ∀ k ∈ seen ++ [i], k < ms.length := by
      refine ⟨?_, fun k hk => ?_⟩
      · rw [List.nodup_append]
        exact ⟨hs1, by simp, fun a ha c hc => by rw [List.mem_singleton.1 hc]; rintro rfl; exact hns ha⟩
      · rcases List.mem_append.1 hk with h | h
        · exact hs2 k h
        · rw [List.mem_singleton.1 h]; exact hi
    have hlen := nodup_len hn2.1 hn2.2
    rw [List.length_append, List.length_singleton] at hlen
    obtain ⟨p, hp2⟩ : ∃ p, (ms.map cEnt)[i]? = some p := ⟨_, List.getElem?_eq_getElem (by rw [hml]; exact hi)⟩
    repeat' (first | ((first | apply o_do | apply d_do | apply d_yes rfl rfl rfl); first | exact ls_entry 0 rfl rfl rfl rfl hp2 (hrep i p hp2) rfl | exact lsq) | refine a_seq ?_ | refine a_region ?_ | refine o_nil ?_ | refine a_block ?_ | refine a_ret ?_ | refine a_exit ?_ | refine a_skip ?_ | refine a_drawA mixed ?_ | refine d_nil (by kernel_rfl) ?_ | refine o_yes rfl rfl rfl ?_ | refine o_no rfl rfl rfl (by decide) ?_ | refine o_no' rfl rfl rfl ?_ | refine a_condT rfl ?_ | refine a_condF rfl ?_ | refine d_no rfl rfl rfl (by decide) ?_ | refine d_no' rfl rfl rfl ?_ | (refine wq2 (fun hb => ?_) (fun hb => ?_) <;> (simp only [hb]; try simp only [hbs, ne_eq] at hb; try (exfalso; first | omega | exact hb trivial))) | fail)
    all_goals
      refine ⟨⟨seen ++ [i], hn2⟩, by simp only [List.length_append, List.length_singleton]; omega, ?_⟩
      exact wkS
theorem few4_small {ls : List (List Et)} (hx : Small ls) : Small (few4 ls) := by
  refine ⟨by unfold few4; simp; omega, fun es he => ?_⟩
  unfold few4 at he
  obtain ⟨x, hx2, rfl⟩ := List.mem_map.1 he
  rw [List.length_take]; omega
theorem few4_len {ls : List (List Et)} : (few4 ls).length ≤ 4 := by unfold few4; simp; omega
theorem few4_es {ls : List (List Et)} : ∀ es ∈ few4 ls, es.length ≤ 12 := by
  intro es he
  unfold few4 at he
  obtain ⟨x, hx2, rfl⟩ := List.mem_map.1 he
  rw [List.length_take]; omega
theorem few4_ev {ls : List (List Et)} (h : ∀ es ∈ ls, ∀ e ∈ es, -9223372036854775808 ≤ e.v ∧ e.v ≤ 9223372036854775807) : ∀ es ∈ few4 ls, ∀ e ∈ es, -9223372036854775808 ≤ e.v ∧ e.v ≤ 9223372036854775807 := by
  intro es he e hee
  unfold few4 at he
  obtain ⟨x, hx2, rfl⟩ := List.mem_map.1 he
  exact h x (List.mem_of_mem_take hx2) e (List.mem_of_mem_take hee)
theorem okIn_one {es : List Et} : okIn [es] = okEs es := by
  unfold okIn
  simp
/-- what is refused by the one is refused by the other -/
theorem good_in {g s d k fu li de id : Int} {F : List (List Et)} (h4 : F.length ≤ 4) : (checkN g s d k fu li de id F = 0 ↔ F ≠ [] ∧ F.all (good ⟨g, s, d, k, fu, li, de, id⟩) = true) := by
  have e : ∀ es : List Et, good ⟨g, s, d, k, fu, li, de, id⟩ es = (jobOK g s d k fu li de id && okEs es) := fun es => by unfold good; rw [okIn_one]
  have ho : okIn F = true ↔ F ≠ [] ∧ F.all okEs = true := by
    unfold okIn
    simp only [Bool.and_eq_true, decide_eq_true_eq]
    cases F with
    | nil => simp
    | cons a F => simp only [List.length_cons] at h4 ⊢; simp; omega
  constructor
  · intro h
    have hj : jobOK g s d k fu li de id = true := by
      cases hj : jobOK g s d k fu li de id
      · unfold checkN at h; rw [if_pos hj] at h; exact absurd h (by decide)
      · rfl
    have hin : okIn F = true := by
      cases hi : okIn F
      · unfold checkN at h; rw [if_neg (by rw [hj]; simp), if_pos hi] at h; exact absurd h (by decide)
      · rfl
    obtain ⟨h1, h2⟩ := ho.1 hin
    refine ⟨h1, ?_⟩
    rw [List.all_eq_true] at h2 ⊢
    intro es he
    rw [e, hj, h2 es he]; rfl
  · rintro ⟨h1, h2⟩
    rw [List.all_eq_true] at h2
    have hj : jobOK g s d k fu li de id = true := by
      cases F with
      | nil => exact absurd rfl h1
      | cons a F =>
        have := h2 a (by simp)
        rw [e] at this
        simp only [Bool.and_eq_true] at this
        exact this.1
    have hin : okIn F = true := ho.2 ⟨h1, by
      rw [List.all_eq_true]
      intro es he
      have := h2 es he
      rw [e] at this
      simp only [Bool.and_eq_true] at this
      exact this.2⟩
    unfold checkN
    rw [if_neg (by rw [hj]; simp), if_neg (by rw [hin]; simp)]
theorem c_ord1 (no : Int) : PC Tryz.prog 20 [.v (.int .i64 no)] (.v (.bool true)) := by
  refine PC.mk (ac_body tab_ok Tryz.func20 rfl (by kernel_rfl) rfl ?_); intro w0 M μ0; simp only [Tryz.ntmps20, List.length_cons, List.length_nil, Nat.reduceAdd, Nat.reduceSub, numb]
  repeat' (first | ((first | apply o_do | apply d_do | apply d_yes rfl rfl rfl); exact lsq) | refine a_seq ?_ | refine a_region ?_ | refine o_nil ?_ | refine a_block ?_ | refine a_ret ?_ | refine a_exit ?_ | refine a_skip ?_ | refine a_draw mixed ?_ | refine d_nil (by kernel_rfl) ?_ | refine o_yes rfl rfl rfl ?_ | refine o_no rfl rfl rfl (by decide) ?_ | refine o_no' rfl rfl rfl ?_ | refine a_condT rfl ?_ | refine a_condF rfl ?_ | refine d_no rfl rfl rfl (by decide) ?_ | refine d_no' rfl rfl rfl ?_ | (refine wq2 (fun hb => ?_) (fun hb => ?_) <;> (simp only [hb]; try simp only [hbs, ne_eq] at hb; try (exfalso; first | omega | exact hb trivial))) | fail)
  all_goals refine rq rfl ?_
  all_goals exact fnq
theorem c_ord2 (x : It) : PC Tryz.prog 21 [.agg x.av] (.v (.bool true)) := by
  unfold It.av
  refine PC.mk (ac_body tab_ok Tryz.func21 rfl (by kernel_rfl) rfl ?_); intro w0 M μ0; simp only [Tryz.ntmps21, List.length_cons, List.length_nil, Nat.reduceAdd, Nat.reduceSub, numb]
  repeat' (first | ((first | apply o_do | apply d_do | apply d_yes rfl rfl rfl); exact lsq) | refine a_seq ?_ | refine a_region ?_ | refine o_nil ?_ | refine a_block ?_ | refine a_ret ?_ | refine a_exit ?_ | refine a_skip ?_ | refine a_draw mixed ?_ | refine d_nil (by kernel_rfl) ?_ | refine o_yes rfl rfl rfl ?_ | refine o_no rfl rfl rfl (by decide) ?_ | refine o_no' rfl rfl rfl ?_ | refine a_condT rfl ?_ | refine a_condF rfl ?_ | refine d_no rfl rfl rfl (by decide) ?_ | refine d_no' rfl rfl rfl ?_ | (refine wq2 (fun hb => ?_) (fun hb => ?_) <;> (simp only [hb]; try simp only [hbs, ne_eq] at hb; try (exfalso; first | omega | exact hb trivial))) | fail)
  all_goals refine rq rfl ?_
  all_goals exact fnq
/-- what a worker of all groups tells in the end -/
theorem play_all (fz fc : FuncId) (cz : ∀ no : Int, PC Tryz.prog fz [.v (.int .i64 no)] (.v (.bool true))) (cc : ∀ x : It, PC Tryz.prog fc [.agg x.av] (.v (.bool true))) (g s d k fu li de id : Int) (F : List (List Et)) (ts : List Int) (hts : ts.length ≤ 200) (h4 : F.length ≤ 4) (hl : ∀ es ∈ F, es.length ≤ 12) (hfe : ∀ es ∈ F, ∀ e ∈ es, -9223372036854775808 ≤ e.v ∧ e.v ≤ 9223372036854775807) (hr : (runN g s d k fu li de id F).2 = 0) :
    ∃ (Z : List (List AV)) (out : List Rs), PC Tryz.prog 19 [.agg (Jb.av ⟨g, s, d, k, fu, li, de, id⟩), .clo (.func fz) [] []] (.sl 3 Z) ∧ F.all (good ⟨g, s, d, k, fu, li, de, id⟩) = true ∧
      PC Tryz.prog 18 [.agg (Jb.av ⟨g, s, d, k, fu, li, de, id⟩), .sl 3 Z, .sl 1 (F.map (rowA ⟨g, s, d, k, fu, li, de, id⟩)), .sl 1 (ts.map toAv), .clo (.func fc) [] []] (.tup [.sl 5 (out.map Rs.av), .v (.bool true)]) ∧
      out.Perm (runN g s d k fu li de id F).1 ∧ (∀ r ∈ out, r.right) ∧ out.length ≤ 2000 := by
  have hc0 : checkN g s d k fu li de id F = 0 := Classical.byContradiction fun h => by
    unfold runN at hr
    rw [if_neg h] at hr
    exact h hr
  have hrow : (rowV k (allVals s d (allK li fu de F))).length ≤ 2000 := Classical.byContradiction fun h => by
    unfold runN outR at hr
    rw [if_pos hc0, if_neg h] at hr
    exact absurd hr (show ¬ (3 : Int) = 0 by decide)
  have hwant : (runN g s d k fu li de id F).1 = resultsL k (rowV k (allVals s d (allK li fu de F))) := by
    unfold runN outR
    rw [if_pos hc0, if_pos hrow]
  obtain ⟨hF0, hgood⟩ := (good_in h4).1 hc0
  obtain ⟨_, _, _, hes⟩ := check_parts hc0
  have hj : jobOK g s d k fu li de id = true := by
    cases hj : jobOK g s d k fu li de id
    · unfold checkN at hc0; rw [if_pos hj] at hc0; exact absurd hc0 (by decide)
    · rfl
  have hjp := hj
  unfold jobOK at hjp
  simp only [Bool.and_eq_true, decide_eq_true_eq] at hjp
  have hn1 : 1 ≤ F.length := by
    cases F with
    | nil => exact absurd rfl hF0
    | cons a F => simp
  obtain ⟨G, hG⟩ : ∃ G : Nat, g = (G : Int) := ⟨g.toNat, by omega⟩
  have hz := o_zero ⟨g, s, d, k, fu, li, de, id⟩ G fz cz hG (by omega)
  have hJG := zeroI_jg (j := ⟨g, s, d, k, fu, li, de, id⟩) hj hG (by omega)
  have hTG := tg0 hJG hG (by dsimp only; omega) h4 hes hrow
  obtain ⟨hW0, hNew⟩ := start hJG hn1 (show F.length ≤ 8 by omega)
  have hN := w_New g s d k fu li de id F.length ((zeroI G).map zGp) (by rw [List.length_map, zeroI_len]; omega) (by
    intro x hx
    obtain ⟨no, _, rfl⟩ := List.mem_map.1 hx
    simp [zGp])
  rw [hj, zGp_gp ⟨g, s, d, k, fu, li, de, id⟩, hNew] at hN
  rw [zGp_gp ⟨g, s, d, k, fu, li, de, id⟩] at hz
  have hall : ∀ es ∈ F, ∀ e ∈ es, evR e.key e.at' = true ∧ ev64 e := fun es he e hee => ⟨(hes es he).2 e hee, hfe es he e hee⟩
  have hde : 0 ≤ de := by omega
  have hil : (F.map (rowI ⟨g, s, d, k, fu, li, de, id⟩)).length = F.length := List.length_map _
  have hfil : (F.map (rowI ⟨g, s, d, k, fu, li, de, id⟩)).map (List.filter fun _ => true) = F.map (rowI ⟨g, s, d, k, fu, li, de, id⟩) := by
    rw [show (List.filter fun (_ : It) => true) = fun l => l from funext fun l => List.filter_eq_self.2 fun _ _ => rfl]
    exact List.map_id' _
  have hev := rows_evs (j := ⟨g, s, d, k, fu, li, de, id⟩) hde hall
  have hRW : RW ⟨g, s, d, k, fu, li, de, id⟩ (zeroI G) ((F.map (rowI ⟨g, s, d, k, fu, li, de, id⟩)).map (List.filter fun _ => true)) := by
    rw [hfil]
    refine ⟨fun r hr => ?_, by omega, by omega, by rw [hev]; exact hTG⟩
    obtain ⟨es, he, rfl⟩ := List.mem_map.1 hr
    exact (rowI_ok hde (hall es he)).1
  have hend : ∀ r ∈ (F.map (rowI ⟨g, s, d, k, fu, li, de, id⟩)).map (List.filter fun _ => true), mkI r = 1099511627776 := by
    rw [hfil]
    intro r hr
    obtain ⟨es, he, rfl⟩ := List.mem_map.1 hr
    exact (rowI_ok hde (hall es he)).2.1
  have hrl : ∀ r ∈ F.map (rowI ⟨g, s, d, k, fu, li, de, id⟩), r.length ≤ 25 := by
    intro r hr
    obtain ⟨es, he, rfl⟩ := List.mem_map.1 hr
    have := rowI_len (j := ⟨g, s, d, k, fu, li, de, id⟩) (es := es)
    have := hl es he
    omega
  have hL0 : leftN (F.map (rowI ⟨g, s, d, k, fu, li, de, id⟩)) (List.replicate (F.map (rowI ⟨g, s, d, k, fu, li, de, id⟩)).length 0) ≤ 8000 := by
    have := left_le (F.map (rowI ⟨g, s, d, k, fu, li, de, id⟩)) (F.map (rowI ⟨g, s, d, k, fu, li, de, id⟩)).length fun r hr => by have := hrl r hr; omega
    omega
  rw [← hil] at hW0 hN
  have hE := ord_end (ts := ts) hRW hend hW0 _ rfl (Nat.le_refl _)
  rw [hfil, hev] at hE
  obtain ⟨e1, e2, e3⟩ := hE
  have hO := out_all hTG rfl hjp.2.2.2.1 e3 (fun es he e hee => hfe es he e hee)
  have hplay := fun Z hNew' => o_play fc (fun _ => true) cc ⟨g, s, d, k, fu, li, de, id⟩ (by dsimp only; omega) 1 Z (F.map (rowI ⟨g, s, d, k, fu, li, de, id⟩)) ts _ _ _ (ord_play hRW) (by omega) (by omega) hts (fun r hr => by have := hrl r hr; omega) hL0 hNew' rfl e1 _ rfl
  unfold WkN.av at hN
  have hp := hplay _ hN
  rw [e2, decide_eq_true rfl, show (F.map (rowI ⟨g, s, d, k, fu, li, de, id⟩)).map riAv = F.map (rowA ⟨g, s, d, k, fu, li, de, id⟩) by rw [List.map_map]; rfl] at hp
  refine ⟨_, _, hz, hgood, hp, ?_, ?_, ?_⟩
  · rw [hwant]; exact hO.1
  · intro r hr; exact hO.2.1 r (hO.1.mem_iff.1 hr)
  · rw [hO.1.length_eq]; exact hO.2.2
set_option maxRecDepth 20000 in
set_option maxHeartbeats 16000000 in
theorem o_order (j : Jb) (ls : List (List Et)) (ts : List Int) (hx : Small ls) (hls : ∀ es ∈ ls, ∀ e ∈ es, -9223372036854775808 ≤ e.v ∧ e.v ≤ 9223372036854775807) (hli : j.li ≤ 9223372036854775807) (hts : ts.length ≤ 9223372036854775807) :
    PC Tryz.prog 4 [.agg j.av, .sl 1 (ls.map inAv), .sl 1 (ts.map toAv)] (.v (.bool true)) := by
  have hfew := o_few ls hx
  have hsm := few4_small hx
  have h4 := few4_len (ls := ls)
  have hes := few4_es (ls := ls)
  have hfe := few4_ev hls
  have hal := w_alive
  have hrows := o_rows j (few4 ls) hsm h4 hfe hli
  have hrun := m_Run j.g j.s j.d j.k j.fu j.li j.de j.id (few4 ls) hsm hfe hli
  have hTl : (ts.map toAv).length = ts.length := List.length_map _
  generalize few4 ls = F at *
  have hFl : (F.map inAv).length = F.length := List.length_map _
  obtain ⟨g, s, d, k, fu, li, de, id⟩ := j
  dsimp only at hrun hli
  by_cases hr0 : (runN g s d k fu li de id F).2 = 0
  · obtain ⟨us, hus, hcase⟩ : ∃ us : List Int, us.length ≤ 200 ∧ ((200 < ts.length ∧ (ts.map toAv).take 200 = us.map toAv) ∨ (¬ 200 < ts.length ∧ us = ts)) := by
      by_cases h : 200 < ts.length
      · exact ⟨ts.take 200, by rw [List.length_take]; omega, .inl ⟨h, by rw [List.map_take]⟩⟩
      · exact ⟨ts, by omega, .inr ⟨h, rfl⟩⟩
    obtain ⟨Z, out, hz, hgood, hp, hperm, hright, holen⟩ := play_all _ _ c_ord1 c_ord2 g s d k fu li de id F us hus h4 hes hfe hr0
    have hlike := l_like out _ hperm (by omega) hright
    unfold rowsR at hrows
    rw [if_pos hgood] at hrows
    generalize F.map (rowA ⟨g, s, d, k, fu, li, de, id⟩) = RW' at *
    generalize runN g s d k fu li de id F = r at *
    obtain ⟨rs, e⟩ := r
    dsimp only at hr0 hlike
    subst hr0
    unfold RR.av at hrun
    dsimp only at hrun
    generalize rs.map Rs.av = Rs' at *
    generalize out.map Rs.av = Os at *
    unfold Jb.av at *
    dsimp only at *
    rcases hcase with ⟨h1, h2⟩ | ⟨h1, rfl⟩
    all_goals
      refine PC.mk (ac_body tab_ok Tryz.func4 rfl (by kernel_rfl) rfl ?_); intro w0 M μ0; simp only [Tryz.ntmps4, List.length_cons, List.length_nil, Nat.reduceAdd, Nat.reduceSub, numb]
      repeat' (first | ((first | apply o_do | apply d_do | apply d_yes rfl rfl rfl); first | exact lsc (hfew) | exact lsc (hrun) | exact lsc (hrows) | exact ls_slice_to (n := 200) tab_ok rfl rfl rfl rfl (by rw [hTl]; omega) rfl | exact lsq) | refine a_seq ?_ | refine a_region ?_ | refine o_nil ?_ | refine a_block ?_ | refine a_ret ?_ | refine a_exit ?_ | refine a_skip ?_ | refine a_draw mixed ?_ | refine d_nil (by kernel_rfl) ?_ | refine o_yes rfl rfl rfl ?_ | refine o_no rfl rfl rfl (by decide) ?_ | refine o_no' rfl rfl rfl ?_ | refine a_condT rfl ?_ | refine a_condF rfl ?_ | refine d_no rfl rfl rfl (by decide) ?_ | refine d_no' rfl rfl rfl ?_ | (refine wq2 (fun hb => ?_) (fun hb => ?_) <;> (simp only [hb]; try simp only [hbs, ne_eq] at hb; try (exfalso; first | omega | exact hb trivial))) | fail)
      try simp only [h2]
      repeat' (first | ((first | apply o_do | apply d_do | apply d_yes rfl rfl rfl); first | exact lsc (hz) | exact lsc (hp) | exact lsc (hal) | exact lsc (hlike) | exact lsq) | refine a_seq ?_ | refine a_region ?_ | refine o_nil ?_ | refine a_block ?_ | refine a_ret ?_ | refine a_exit ?_ | refine a_skip ?_ | refine a_draw mixed ?_ | refine d_nil (by kernel_rfl) ?_ | refine o_yes rfl rfl rfl ?_ | refine o_no rfl rfl rfl (by decide) ?_ | refine o_no' rfl rfl rfl ?_ | refine a_condT rfl ?_ | refine a_condF rfl ?_ | refine d_no rfl rfl rfl (by decide) ?_ | refine d_no' rfl rfl rfl ?_ | (refine wq2 (fun hb => ?_) (fun hb => ?_) <;> (simp only [hb]; try simp only [hbs, ne_eq] at hb; try (exfalso; first | omega | exact hb trivial))) | fail)
      all_goals refine rq rfl ?_
      all_goals exact fnq
  · have hcase : (rowsR ⟨g, s, d, k, fu, li, de, id⟩ F = .tup [.sl 1 [], .v (.bool false)]) ∨ ∃ X, rowsR ⟨g, s, d, k, fu, li, de, id⟩ F = .tup [.sl 1 X, .v (.bool true)] ∧ ((runN g s d k fu li de id F).2 = 3 ∨ F.length = 0) := by
      unfold rowsR
      by_cases hg : F.all (good ⟨g, s, d, k, fu, li, de, id⟩) = true
      · rw [if_pos hg]
        refine .inr ⟨_, rfl, ?_⟩
        by_cases hF : F = []
        · subst hF; exact .inr rfl
        · have hc0 := (good_in (g := g) (s := s) (d := d) (k := k) (fu := fu) (li := li) (de := de) (id := id) h4).2 ⟨hF, hg⟩
          left
          unfold runN at hr0 ⊢
          rw [if_pos hc0] at hr0 ⊢
          unfold outR at hr0 ⊢
          split
          · rename_i hh; rw [if_pos hh] at hr0; exact absurd rfl hr0
          · rfl
      · rw [if_neg hg]
        exact .inl rfl
    generalize runN g s d k fu li de id F = r at *
    obtain ⟨rs, e⟩ := r
    dsimp only at hr0 hcase
    unfold RR.av at hrun
    dsimp only at hrun
    generalize rs.map Rs.av = Rs' at *
    unfold Jb.av at *
    dsimp only at *
    rcases hcase with hc | ⟨X, hc, h3 | h3⟩
    all_goals
      rw [hc] at hrows
      refine PC.mk (ac_body tab_ok Tryz.func4 rfl (by kernel_rfl) rfl ?_); intro w0 M μ0; simp only [Tryz.ntmps4, List.length_cons, List.length_nil, Nat.reduceAdd, Nat.reduceSub, numb]
      repeat' (first | ((first | apply o_do | apply d_do | apply d_yes rfl rfl rfl); first | exact lsc (hfew) | exact lsc (hrun) | exact lsc (hrows) | exact lsc (hal) | exact lsq) | refine a_seq ?_ | refine a_region ?_ | refine o_nil ?_ | refine a_block ?_ | refine a_ret ?_ | refine a_exit ?_ | refine a_skip ?_ | refine a_draw mixed ?_ | refine d_nil (by kernel_rfl) ?_ | refine o_yes rfl rfl rfl ?_ | refine o_no rfl rfl rfl (by decide) ?_ | refine o_no' rfl rfl rfl ?_ | refine a_condT rfl ?_ | refine a_condF rfl ?_ | refine d_no rfl rfl rfl (by decide) ?_ | refine d_no' rfl rfl rfl ?_ | (refine wq2 (fun hb => ?_) (fun hb => ?_) <;> (simp only [hb]; try simp only [hbs, ne_eq] at hb; try (exfalso; first | omega | exact hb trivial))) | fail)
      all_goals refine rq rfl ?_
      all_goals (first | refine FinA.tup ?_ | refine FinA.one ?_); repeat' (first | exact FinBs.nil | exact FinCs.nil | refine FinBs.cons ?_ ?_ | refine FinCs.cons ?_ ?_ | refine FinB.cell (FinC.v ?_) | refine FinB.cell (FinC.own rfl rfl rfl ?_) | exact FinB.cell FinC.nil | refine FinB.cell (FinC.sl ?_) | exact FinB.agg' rfl rfl | exact FinB.cell (FinC.same rfl) | refine FinB.agg ?_ | refine FinC.v ?_ | refine FinC.own rfl rfl rfl ?_ | exact FinC.nil | refine FinC.sl ?_ | exact FinC.same rfl); all_goals try rfl
      all_goals first | (rw [hFl, h3]; rfl) | (exfalso; simp [hr0] at *; done) | (exfalso; simp_all; done) | simp_all
end Go.Proofs.YtilgagmfcdfjaaaGreat
namespace Go.Proofs.YtilgagmfcdfjaaaGreat
open Go.RowKit Go.WideShapes Go.ChangeShapes Go.ChangeAt
set_option linter.unusedSimpArgs false
set_option linter.unusedVariables false
set_option maxRecDepth 100000
theorem workerOrder_contract (H : Type) (enc : TypeId × Value → H) (W : World) (base : Nat) (args : Array Value) (ds gs : List (DataW H)) (before : List MemPlace)
    (hval0 : ∀ (j : Nat) t v, Tryz.f4.params[j]? = some t → args[j]? = some v → Value.okWide Tryz.prog W .any base t v)
    (hW : DataW.Whole enc Tryz.prog Tryz.f4.params.toList Rows.workerOrderSpec.vars false W args.toList ds gs before) :
    Calls Tryz.prog 4 args W fun e W' => ∃ v, e = .returned v ∧ Rows.workerOrderSpec.post enc Tryz.prog Tryz.f4 false true false false W args v W' := by
  have hval := hval0
  have hW' := hW
  obtain ⟨p, q, hA0, hV, rfl, hfz, hnd⟩ := hW
  have hA : DataW.TrodAll enc Tryz.prog W 0 (fun _ => true) true Tryz.f4.params.toList args.toList ds p := hA0
  rw [Tryz.params4] at hA hval
  obtain ⟨v0, vs0, d0, ds0, p0, q0, hargs, rfl, rfl, h0, r0⟩ := trodAll_cons hA
  obtain ⟨v1, vs1, d1, ds1, p1, q1, rfl, rfl, rfl, h1, r1⟩ := trodAll_cons r0
  obtain ⟨v2, vs2, d2, ds2, p2, q2, rfl, rfl, rfl, h2, r2⟩ := trodAll_cons r1
  obtain ⟨rfl, rfl, rfl⟩ := trodAll_nil r2
  obtain rfl : args = #[v0, v1, v2] := by cases args; simp_all
  obtain ⟨rfl, rfl⟩ := trodVars_none hV
  clear hA0 hval0
  obtain ⟨cs0, rfl, _, _, g0⟩ := open_struct_arg Tryz.underlying23 (hval 0 23 v0 rfl rfl) h0
  obtain ⟨g, s, d, k, fu, li, de, id, rfl, hj⟩ := rd_Job g0
  obtain ⟨ls, hsm, hrg, hins⟩ := open_ins_arg (hval 1 24 v1 rfl rfl) h1
  obtain ⟨ts, hts, htr⟩ := open_ints1_arg (hval 2 25 v2 rfl rfl) h2
  refine ((o_order ⟨g, s, d, k, fu, li, de, id⟩ ls ts hsm hrg (by dsimp only; omega) hts).law (vs := [_, _, _]) ⟨_, _, rfl, rep_Job, _, _, rfl, hins, _, _, rfl, htr, rfl⟩).mono fun e W' ⟨he, hb⟩ => ?_
  subst he
  exact ⟨_, rfl, post_law @A_laidOut (rd_of (by kernel_rfl : (Tryz.f4.params.toList.all fun t => Tryz.prog.readableRec t && decide (t < Tryz.prog.types.size)) = true)) rfl rfl Tryz.underlying4 hW' rfl hb⟩

theorem workerOrder_own : ownKnob Tryz.prog.godebug = none := by kernel_rfl
set_option maxRecDepth 100000 in
theorem workerOrder_lifted (os : Os) (started : os.Started) (H : Type) (enc : TypeId × Value → H) :
    ReturnsInHanded {} Tryz.checked os 4 .any (Rows.workerOrderSpec.pre6 enc Tryz.prog Tryz.f4 Rows.workerOrderRow.domain false) (Rows.workerOrderSpec.post enc Tryz.prog Tryz.f4 false true false false) := by
  refine returnsInHanded_of_change (C := Tryz.checked) workerOrder_own started (by kernel_rfl) Tryz.func4
    (ChangeSpec.witness6 (enc := enc) (C := Tryz.checked) false ⟨#[], #[.agg #[.int .i64 0, .int .i64 0, .int .i64 0, .int .i64 0, .int .i64 0, .int .i64 0, .int .i64 0, .int .i64 0], .slice none 0 0, .slice none 0 0], []⟩ 8 (by kernel_rfl) (by kernel_rfl) (by kernel_rfl) (by kernel_rfl)) ?_
  intro W base args ds gs before hval hW _ _
  exact workerOrder_contract H enc W base args ds gs before hval hW
theorem workerOrder_proved : Rows.WorkerOrderSaid :=
  OpenClaim.holds_of_wide 4 Tryz.f4 rfl rfl rfl rfl rfl rfl rfl ⟨rfl, rfl, rfl, rfl, rfl⟩ rfl rfl rfl rfl rfl (by kernel_rfl) Tryz.func4 (by kernel_rfl)
    (of_decide_eq_true (by kernel_rfl)) (by unfold Func.isWrapper; first | (rw [if_pos (by decide +kernel)]; kernel_rfl) | (rw [if_neg (by decide +kernel)]; exact ⟨rfl, rfl⟩))
    (fun os started H enc _ => workerOrder_lifted os started H enc)
end Go.Proofs.YtilgagmfcdfjaaaGreat
