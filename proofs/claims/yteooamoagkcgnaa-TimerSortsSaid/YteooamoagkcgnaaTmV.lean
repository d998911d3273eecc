/-
  Timers: the counting map's steps, and the law TimerSorts walked.
-/
import Derived.Test.YteooamoagkcgnaaTmE
namespace Go.Proofs.Yteooamoagkcgnaa
open Go.RowKit
set_option linter.unusedSimpArgs false
set_option linter.unusedVariables false
theorem a_New2 : AC Try.prog 9 [] [] (.ref 0 0) (HS []) := by
  unfold HS
  refine (ac_body tab_ok Try.func9 rfl (by kernel_rfl) rfl ?_); intro w0 M μ0; simp only [Try.ntmps9, List.length_cons, List.length_nil, Nat.reduceAdd, Nat.reduceSub, numb]
  repeat' (first | refine a_adoptB 0 0 1 27 2 rfl rfl rfl ?_ | ((first | apply o_do | apply d_do | apply d_yes rfl rfl rfl); first | fail | exact lsq) | refine a_seq ?_ | refine a_region ?_ | refine o_nil ?_ | refine a_block ?_ | refine a_ret ?_ | refine a_exit ?_ | refine a_skip ?_ | refine a_draw mixed ?_ | refine d_nil (by kernel_rfl) ?_ | refine o_yes rfl rfl rfl ?_ | refine o_no rfl rfl rfl (by decide) ?_ | refine o_no' rfl rfl rfl ?_ | refine a_condT rfl ?_ | refine a_condF rfl ?_ | refine d_no rfl rfl rfl (by decide) ?_ | refine d_no' rfl rfl rfl ?_ | (refine wq2 (fun hb => ?_) (fun hb => ?_) <;> (simp only [hb]; try simp only [hbs, ne_eq] at hb; try (exfalso; first | omega | exact hb trivial))) | fail)
  refine ⟨by first | exact .inr rfl | exact .inl rfl, _, rfl, ?_, by repeat' (first | exact trivial | refine ⟨⟨_, rfl, by first | rfl | (simp [renO, *]; done)⟩, by first | rfl | assumption, ?_⟩)⟩
  (first | refine FinA.tup ?_ | refine FinA.one ?_); repeat' (first | exact FinBs.nil | exact FinCs.nil | refine FinBs.cons ?_ ?_ | refine FinCs.cons ?_ ?_ | refine FinB.cell (FinC.v ?_) | refine FinB.cell (FinC.own rfl rfl rfl ?_) | exact FinB.cell FinC.nil | refine FinB.cell (FinC.sl ?_) | exact FinB.agg' rfl rfl | exact FinB.cell (FinC.same rfl) | refine FinB.agg ?_ | refine FinC.v ?_ | refine FinC.own rfl rfl rfl ?_ | exact FinC.nil | refine FinC.sl ?_ | exact FinC.same rfl); all_goals try rfl
def Tm.right (t : Tm) : Prop := (-9223372036854775808 ≤ t.at' ∧ t.at' ≤ 9223372036854775807) ∧ t.name.size ≤ 9223372036854775807
def keyT (t : Tm) : Value := .agg #[.int .i64 t.at', .string t.name]
def cEnt (p : Tm × Int) : Value × Value := (keyT p.1, .int .i64 p.2)
theorem keyT_inj {x y : Tm} (h : keyT y = keyT x) : y = x := by
  unfold keyT at h
  injection h with h
  simp at h
  obtain ⟨a, b⟩ := x
  obtain ⟨c, d⟩ := y
  simp only at h
  rw [h.1, h.2]
theorem tim_law : WideMaps.KeyLaw Try.prog 27 := Go.deep_law (m := 4) (by omega) (by kernel_rfl) (by kernel_rfl) (by kernel_rfl)
theorem tim_key {x : Tm} (hs : x.right) : ∃ l, keyOf Try.prog 27 (keyT x) = some l := by
  obtain ⟨⟨h1, h2⟩, h3⟩ := hs
  have hk : Try.prog.keyType 27 = true := by kernel_rfl
  have hb : Nat.ble 4 Try.prog.types.size = true := by kernel_rfl
  obtain ⟨n, hn⟩ : ∃ n, Try.prog.types.size + 1 = n + 5 := ⟨Try.prog.types.size - 4, by have := Nat.le_of_ble_eq_true hb; omega⟩
  have c1 : Try.prog.cellsOf 27 = 2 := by kernel_rfl
  have c3 : Try.prog.cellsOf 2 = 1 := by kernel_rfl
  have c4 : Try.prog.cellsOf 9 = 1 := by kernel_rfl
  have hmin : IntKind.i64.min = -9223372036854775808 := rfl
  unfold keyOf keyT
  rw [Try.underlying27]
  simp only [hk, Bool.true_and, Value.formed, Try.underlying27, c1]
  rw [hn]
  simp [Program.keyLits, Try.underlying27, Try.underlying2, Try.underlying9, c1, c3, c4, Value.cells, Lit.wf, maxLen, h3, hmin, h1, h2]
theorem cl1 {ms : Cnt} {x : Tm} (h : ∀ p ∈ ms.map cEnt, p.1 ≠ keyT x) : ∀ p ∈ ms, p.1 ≠ x := by
  intro p hp e
  exact h (cEnt p) (List.mem_map.2 ⟨p, hp, rfl⟩) (by rw [← e]; rfl)
theorem cl2 {ms : Cnt} (hu : cUniq ms) {x : Tm} {j : Nat} {p : Value × Value} (h : (ms.map cEnt)[j]? = some p) (h2 : p.1 = keyT x) : ms[j]? = some (x, cAt ms x) ∧ p.2 = .int .i64 (cAt ms x) ∧ cIdx ms x = j := by
  rw [List.getElem?_map] at h
  obtain ⟨q, hq, rfl⟩ := Option.map_eq_some_iff.1 h
  have e := keyT_inj h2
  have e2 := uniq_at hu hq
  have e3 := uniq_idx hu hq
  rw [e] at e2 e3
  obtain ⟨a, b⟩ := q
  dsimp only at e e2
  subst e
  rw [e2]
  exact ⟨hq, rfl, e3⟩
theorem c_look (ms : Cnt) (hu : cUniq ms) (x : Tm) : ((∀ p ∈ ms.map cEnt, p.1 ≠ keyT x) → Value.int .i64 (cAt ms x) = .int .i64 0 ∧ decide (cIdx ms x < ms.length) = false) ∧ ∀ (j : Nat) (p : Value × Value), (ms.map cEnt)[j]? = some p → p.1 = keyT x → Value.int .i64 (cAt ms x) = p.2 ∧ decide (cIdx ms x < ms.length) = true := by
  refine ⟨fun h => ?_, fun j p h h2 => ?_⟩
  · have h3 := cl1 h
    rw [at_none h3, idx_none.1 h3]
    exact ⟨rfl, by simp⟩
  · obtain ⟨h3, h4, h5⟩ := cl2 hu h h2
    refine ⟨h4.symm, ?_⟩
    rw [h5]
    simpa using (List.getElem?_eq_some_iff.1 h3).1
theorem c_make (ms : Cnt) (hu : cUniq ms) (x : Tm) : ((∀ p ∈ ms.map cEnt, p.1 ≠ keyT x) → Value.int .i64 (cAt ms x) = .int .i64 0 ∧ cIdx ms x = (ms.map cEnt).length ∧ (cMake ms x).map cEnt = ms.map cEnt ++ [(keyT x, .int .i64 0)]) ∧ ∀ (j : Nat) (p : Value × Value), (ms.map cEnt)[j]? = some p → p.1 = keyT x → Value.int .i64 (cAt ms x) = p.2 ∧ cIdx ms x = j ∧ (cMake ms x).map cEnt = ms.map cEnt := by
  refine ⟨fun h => ?_, fun j p h h2 => ?_⟩
  · have h3 := cl1 h
    have h4 := idx_none.1 h3
    refine ⟨by rw [at_none h3], by rw [h4, List.length_map], ?_⟩
    unfold cMake
    rw [if_neg (by omega), List.map_append]
    rfl
  · obtain ⟨h3, h4, h5⟩ := cl2 hu h h2
    refine ⟨h4.symm, h5, ?_⟩
    unfold cMake
    rw [if_pos (by rw [h5]; exact (List.getElem?_eq_some_iff.1 h3).1)]
theorem c_there (ms : Cnt) (x : Tm) : ((cMake ms x).map cEnt)[cIdx ms x]? = some (keyT x, .int .i64 (cAt ms x)) := by
  rw [List.getElem?_map, make_at]; rfl
theorem c_set (ms : Cnt) (x : Tm) (n : Int) : ((cMake ms x).map cEnt).set (cIdx ms x) (keyT x, .int .i64 n) = (cSet ms x n).map cEnt := by
  unfold cSet; rw [List.map_set]; rfl
theorem c_keys {ms : Cnt} {l : List Tm} (hc : Counts ms l) (h : ∀ p ∈ ms, p.1.right) : ∀ p ∈ ms.map cEnt, ∃ lt, keyOf Try.prog 27 p.1 = some lt := by
  intro p hp
  obtain ⟨q, hq, rfl⟩ := List.mem_map.1 hp
  exact tim_key (h q hq)
end Go.Proofs.Yteooamoagkcgnaa
