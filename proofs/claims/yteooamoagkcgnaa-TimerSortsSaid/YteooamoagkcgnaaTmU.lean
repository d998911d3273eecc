/-
  Timers: slices.SortFunc over a row of them, as a row of abstract values turned.
-/
import Derived.Test.YteooamoagkcgnaaTmS
import Derived.Test.YteooamoagkcgnaaRowT
namespace Go.Proofs.Yteooamoagkcgnaa
open Go.RowKit
set_option linter.unusedSimpArgs false
set_option linter.unusedVariables false
instance : Inhabited Tm := ⟨tmZ⟩
theorem tm_vals {σ : Store} {μ : Nat → Value} {w : World} {A : Nat → Prop} : ∀ {r : List Tm} {us : List Value}, repLL σ μ w A 2 (r.map Tm.av) us → us = r.flatMap Tm.vals
  | [], us, h => by simp only [List.map_nil, repLL] at h; exact h
  | t :: r, us, h => by
    simp only [List.map_cons, repLL] at h
    obtain ⟨u1, u2, rfl, h1, h2, h3⟩ := h
    rw [tm_vals h3]
    simp only [Tm.av, repC, repL, rep] at h2
    obtain ⟨a, b, rfl, _, ⟨rfl, _⟩, c, d, rfl, _, ⟨rfl, _⟩, rfl⟩ := h2
    rfl
theorem tm_repLL {σ : Store} {μ : Nat → Value} {w : World} {A : Nat → Prop} : ∀ r : List Tm, repLL σ μ w A 2 (r.map Tm.av) (r.flatMap Tm.vals)
  | [] => by simp [repLL]
  | t :: r => by
    refine ⟨Tm.vals t, _, by simp, rfl, ?_, tm_repLL r⟩
    simp only [Tm.av, Tm.vals, repC, rep]
    exact ⟨_, _, rfl, rfl, ⟨rfl, rfl⟩, _, _, rfl, rfl, ⟨rfl, rfl⟩, rfl⟩
theorem flat_at : ∀ (r : List Tm) (t : Nat), t < r.length * 2 → (r.flatMap Tm.vals)[t]? = some (Tm.vals (r.getD (t / 2) tmZ))[t % 2]!
  | [], t, h => by simp at h
  | x :: r, t, h => by
    rcases t with _ | _ | t
    · rfl
    · rfl
    · have h1 : (t + 1 + 1) / 2 = t / 2 + 1 := by omega
      have h2 : (t + 1 + 1) % 2 = t % 2 := by omega
      rw [h1, h2]
      have h3 := flat_at r t (by simp only [List.length_cons] at h; omega)
      simpa [List.flatMap_cons, Tm.vals] using h3
theorem flat_flatK (r : List Tm) : (Go.Sort.flatK Tm.vals 2 r.toArray).toList = r.flatMap Tm.vals := by
  have hl : (r.flatMap Tm.vals).length = r.length * 2 := by
    induction r with
    | nil => rfl
    | cons x r ih => rw [List.flatMap_cons, List.length_append, ih]; simp [Tm.vals]; omega
  apply List.ext_getElem
  · rw [hl]; simp
  · intro t h1 h2
    rw [hl] at h2
    have h3 := flat_at r t h2
    rw [List.getElem?_eq_getElem (by rw [hl]; exact h2)] at h3
    injection h3 with h3
    rw [h3]
    have h4 := Go.Sort.get_flatK Tm.vals 2 r.toArray t (by simpa using h2)
    rw [getElem!_pos _ t (by simpa using h2)] at h4
    rw [Array.getElem_toList, h4]
    have h5 : r.toArray[t / 2]! = r.getD (t / 2) tmZ := by
      have : t / 2 < r.length := by omega
      simp [List.getD_eq_getElem?_getD, this]
    rw [h5]
theorem sort_own {w : World} {g : Nat} {e : TypeId} {cur F : Array Value} (hg : w.heap[g]? = some (.cells cur e (0, 0))) (hc : F.size ≤ cur.size) (m : Nat) (os : Array Obj) :
    (Sort.grow (Sort.putRow id (Sort.ahead w m) g 0 F) os).heap[g]? = some (.cells (Sort.putCells id 0 F cur) e (0, 0)) ∧ (Sort.putCells id 0 F cur).size = cur.size ∧ (Sort.putCells id 0 F cur).toList.take F.size = F.toList ∧ w.grownBy (Sort.grow (Sort.putRow id (Sort.ahead w m) g 0 F) os) (some g) := by
  have hlt : g < w.heap.size := by
    rcases Nat.lt_or_ge g w.heap.size with h | h
    · exact h
    · rw [Array.getElem?_eq_none h] at hg; cases hg
  have hlook : ∀ k, k < w.heap.size → (Sort.grow (Sort.putRow id (Sort.ahead w m) g 0 F) os).heap[k]? = (Sort.putRow id (Sort.ahead w m) g 0 F).heap[k]? := by
    intro k hk
    have : k < (Sort.putRow id (Sort.ahead w m) g 0 F).heap.size := by simpa [Sort.ahead] using hk
    simp only [Sort.grow]
    rw [Array.getElem?_append_left this]
  refine ⟨?_, by simp [Sort.putCells], ?_, rfl, rfl, rfl, by simp [Sort.grow, Sort.ahead], fun k hk hn => ?_⟩
  · rw [hlook g hlt]
    simp only [Sort.putRow, Sort.mapBlock, Sort.ahead, Array.getElem?_modify, if_true, hg, Option.map_some, Sort.onCells]
  · apply List.ext_getElem
    · simp [Sort.putCells]; omega
    · intro t h1 h2
      have h2 : t < F.size := by simpa using h2
      simp [Sort.putCells, h2]
  · rw [hlook k hk]
    have : ¬ g = k := fun h => hn (by rw [h])
    simp only [Sort.putRow, Sort.mapBlock, Sort.ahead, Array.getElem?_modify, if_neg this]
theorem sort_holds {w : World} {g n size : Nat} {e : TypeId} {cur : Array Value} {us : List Value} {F : Array Value} (hg : w.heap[g]? = some (.cells cur e (0, 0))) (hu : cur.toList.take (n * size) = us) (hF : F.toList = us) : Sort.Holds id w g 0 F := by
  intro j hj
  have h1 : (cur.toList.take (n * size))[j]? = some F[j]! := by
    rw [hu, ← hF, Array.getElem?_toList, Array.getElem?_eq_getElem hj, getElem!_pos _ j hj]
  have h2 : cur[j]? = some F[j]! := by
    rw [List.getElem?_take] at h1
    split at h1
    · simpa using h1
    · cases h1
  constructor
  · simp [World.cell?, hg, h2]
  · simp [World.frozen?, hg]
theorem tm_swo : Go.Sort.SWO (ltOf tCmp) := by
  have e : ∀ x y, ltOf tCmp x y = tLt x y := fun x y => tCmp_lt x y
  refine ⟨fun x => ?_, fun x y z h k => ?_, fun x y z h k => ?_⟩
  · rw [e, tLt_not]; exact ⟨by omega, fun _ => bless_irrefl _⟩
  · rw [e] at h k ⊢
    rw [tLt_iff] at h k ⊢
    rcases h with h | ⟨h, h2⟩ <;> rcases k with k | ⟨k, k2⟩
    · left; omega
    · left; omega
    · left; omega
    · right; exact ⟨by omega, bless_trans _ _ _ h2 k2⟩
  · rw [e] at h k ⊢
    exact tLt_trans _ _ _ k h
theorem ok_Sort : CallOK Try.prog 24 := ⟨_, Try.func24, by kernel_rfl, rfl⟩
theorem ent_cmp : ∀ args w, (callFunc 25 args).run Try.prog w = .ok (.enter 25 args) w := enters_of Try.func25 (by kernel_rfl) rfl
theorem tm_lays (w : World) (g n : Nat) : CmpLays Try.prog 25 #[] Tm.vals 2 tCmp g 0 n w := fun m os dk _ x y => tm_compare x y _
theorem a_Sort (r : List Tm) (hm : r.length ≤ 1000000) : AC Try.prog 24 [.own 0 (r.map Tm.av).length, .clo (.func 25) [] []] (RS r) (.tup []) (RS (tSort r)) := by
  refine ⟨ok_Sort, fun w M μ vs hs hrep => ?_⟩
  simp only [repL, rep] at hrep
  obtain ⟨y0, _, rfl, hy0, y1, _, rfl, ⟨_, _, rfl, rfl, rfl⟩, rfl⟩ := hrep
  have hf0 : find (RS r) 0 = some (.row 27 2 (r.map Tm.av)) := rfl
  obtain ⟨_, e, size, zs, f0, f1, f2⟩ := live hf0 hy0
  rw [hf0] at f0
  injection f0 with f0; injection f0 with a1 a2 a3; subst a1 a2 a3
  have f2 := f2 rfl
  subst f2
  obtain ⟨us, h1, h2⟩ := hs.obj 0 _ hf0
  have hus := tm_vals h2
  subst hus
  rcases h1.2 with ⟨h5, h6⟩ | ⟨g, cap, cur, h5, _, hg, hn, hc, hsz, hu⟩
  · have hr : r = [] := by
      cases r with
      | nil => rfl
      | cons _ _ => simp at h6
    subst hr
    have key := AnyF.slices_SortFunc_none (P := Try.prog) (ρ := laySort_ren) { laySort with } none 0 (.func (.func 25) #[] #[]) w
    rw [h5]
    refine Calls.mono key ?_
    rintro e w' ⟨rfl, rfl⟩
    exact ⟨_, μ, rfl, hs, ⟨[], rfl, rfl⟩, Gro.refl⟩
  · have hlt : g < w.heap.size := by
      rcases Nat.lt_or_ge g w.heap.size with h | h
      · exact h
      · rw [Array.getElem?_eq_none h] at hg; cases hg
    rw [List.length_map] at h5 hn hu
    have key := AnyQ.slices_SortFunc (P := Try.prog) (ρ := laySort_ren) laySort 2 (fun w => Try.isAgg27 w) (fun w => Try.sizeOf27 w) Tm.vals (fun _ => rfl) (by
      intro x v hv
      simp only [Tm.vals, List.mem_cons, List.not_mem_nil, or_false] at hv
      rcases hv with rfl | rfl <;> rfl) tCmp tm_swo 25 #[] g 0 cap r.toArray w ent_cmp (tm_lays _ _ _) (sort_holds hg hu (flat_flatK r)) hlt (by simp; omega)
    rw [h5]
    refine Calls.mono key ?_
    rintro e w' ⟨rfl, d', n, os, hp, hso, rfl⟩
    have hds : d'.size = r.length := by simpa using hp.1
    have hd : d' = (tSort r).toArray := by
      apply Array.toList_inj.1
      refine sorted_eq ?_ (tSort_sorted r).1 ?_
      · show List.Pairwise _ _
        rw [List.pairwise_iff_getElem]
        intro i j hi hj hij
        have hi' : i < d'.size := by simpa using hi
        have hj' : j < d'.size := by simpa using hj
        have := hso i j (Nat.zero_le _) hij (by simp; omega)
        rw [getElem!_pos d' j hj', getElem!_pos d' i hi'] at this
        rw [← tCmp_lt]
        exact this
      · have h7 := hp.2.2
        have e1 : d'.extract 0 r.toArray.size = d' := by
          apply Array.ext_getElem?
          intro i
          simp [Array.getElem?_extract]
          intro h8
          omega
        have e2 : r.toArray.extract 0 r.toArray.size = r.toArray := by simp
        rw [e1, e2] at h7
        exact h7.trans (tSort_sorted r).2.symm
    subst hd
    have hF := flat_flatK (tSort r)
    have hFs : (Go.Sort.flatK Tm.vals 2 (tSort r).toArray).size = r.length * 2 := by simp [tSort_len]
    obtain ⟨q1, q2, q3, q4⟩ := sort_own (F := Go.Sort.flatK Tm.vals 2 (tSort r).toArray) hg (by rw [hFs, hsz]; exact Nat.mul_le_mul_right 2 hn) n os
    have hlen : ((tSort r).flatMap Tm.vals).length = (tSort r).length * 2 := by rw [← hF, Array.length_toList, hFs, tSort_len]
    obtain ⟨k1, k2⟩ := row_turn (σ' := RS (tSort r)) (us' := (tSort r).flatMap Tm.vals) (v' := μ 0) hs hf0 (fun j => by
      simp only [find_cons]
      by_cases h0 : 0 = j
      · simp [h0]
      · simp [h0]) h1 ⟨by rw [List.length_map]; exact hlen, .inr ⟨g, cap, _, by rw [List.length_map, tSort_len]; exact h5, Nat.zero_le _, q1, by rw [List.length_map, tSort_len]; exact hn, hc, by rw [q2]; exact hsz, by rw [List.length_map, tSort_len, ← hFs, q3, hF]⟩⟩ (fun μ' A _ => tm_repLL _) (by rw [h5]; exact q4) (.inl rfl) (by rw [List.length_map, List.length_map, tSort_len]; exact Nat.le_refl _) (fun _ => rfl)
    exact ⟨_, _, rfl, k2, ⟨[], rfl, rfl⟩, k1⟩
end Go.Proofs.Yteooamoagkcgnaa
