/-
  How workers read whose items waited.
-/
import Derived.Test.YtagfjnjpgphnjaaGreatK23
import Derived.Test.YtagfjnjpgphnjaaGreatWrP
namespace Go.Proofs.YtagfjnjpgphnjaaGreat
open Go.RowKit Go.WideShapes Go.ChangeShapes Go.ChangeAt
set_option linter.unusedSimpArgs false
set_option linter.unusedVariables false
set_option maxRecDepth 100000
section
variable {H : Type} {enc : TypeId × Value → H} {w : World}
theorem el_It2 (m : Nat) (cs : List Value) (y : DataW H × List MemPlace) (hl : cs.length = 11) (ht : DataW.trod enc Tryz.prog w 0 (fun _ => true) true m 63 cs = some y) : ∃ x : It, cs = x.vals ∧ ItV x := by
  obtain ⟨kind, key, a, v, mark, n, lo, hi, rk, rn, rv, rfl, hf⟩ := rd_It ht
  exact ⟨⟨kind, key, a, v, mark, n, lo, hi, rk, rn, rv⟩, rfl, hf.2.2.2.1⟩
theorem el_Held2 (m : Nat) (cs : List Value) (y : DataW H × List MemPlace) (hl : cs.length = 1) (ht : DataW.trod enc Tryz.prog w 0 (fun _ => true) true m 53 cs = some y) : ∃ x : Value × List It, cs = [x.1] ∧ (x.1.oneCell' = true ∧ x.2.length ≤ 9223372036854775807 ∧ rep0 w (.sl 11 (x.2.map It.av)) x.1 ∧ ∀ y ∈ x.2, ItV y) := by
  obtain ⟨v, xs, h1, h2, h3, h5, h4⟩ := rd_sl It.vals It.av ItV Tryz.underlying53 (by kernel_rfl : Tryz.prog.cellsOf 63 = 11) (by omega) el_It2 (fun _ => rfl) (fun x _ => repC_con (cs := It.vals x) rfl) ht
  exact ⟨(v, xs), h1, h2, h3, h4, h5⟩
theorem rd_Align2 {fuel : Nat} {cs : List Value} {x : DataW H × List MemPlace} (h : DataW.trod enc Tryz.prog w 0 (fun _ => true) true fuel 40 cs = some x) :
    ∃ (v0 v1 : Value) (m : Al), cs = [.int .i64 m.n, v0, v1] ∧ v0.oneCell' = true ∧ v1.oneCell' = true ∧ m.got.length ≤ 9223372036854775807 ∧ m.held.length ≤ 9223372036854775807 ∧ (∀ l ∈ m.held, l.length ≤ 9223372036854775807) ∧ rep0 w (.sl 1 (m.got.map boAv)) v0 ∧ rep0 w (.sl 1 (m.held.map heAv)) v1 ∧ (∀ l ∈ m.held, ∀ y ∈ l, ItV y) := by
  have hl := rd_len Tryz.underlying40 h
  have hl2 : cs.length = 3 := hl.trans (by kernel_rfl)
  obtain ⟨c0, c1, c2, rfl⟩ := len3 hl2
  clear hl hl2
  have hc0 : Tryz.prog.cellsOf 3 = 1 := by kernel_rfl
  have hc1 : Tryz.prog.cellsOf 37 = 1 := by kernel_rfl
  have hc2 : Tryz.prog.cellsOf 38 = 1 := by kernel_rfl
  obtain ⟨n0, y0, g0⟩ := rd_field Tryz.underlying40 h 0 _ rfl
  obtain ⟨x0, e0, _, _⟩ := DataW.trod_int Tryz.underlying3 g0
  simp [hc0] at e0
  subst e0
  obtain ⟨n1, y1, g1⟩ := rd_field Tryz.underlying40 h 1 _ rfl
  obtain ⟨v0, xs, e1, h2, h3, _, h4⟩ := rd_sl (fun x : Bool => [.bool x]) boAv (fun _ => True) Tryz.underlying37 (by kernel_rfl : Tryz.prog.cellsOf 4 = 1) (by omega) el_Bo (fun _ => rfl) (fun x _ => repC_con (cs := [.bool x]) rfl) g1
  simp [hc1] at e1
  subst e1
  obtain ⟨n2, y2, g2⟩ := rd_field Tryz.underlying40 h 2 _ rfl
  obtain ⟨v1, ys, e2, h5, h6, h8, h7⟩ := rd_sl (fun x : Value × List It => [x.1]) (heAv ∘ Prod.snd) _ Tryz.underlying38 (by kernel_rfl : Tryz.prog.cellsOf 53 = 1) (by omega) el_Held2 (fun _ => rfl) (fun x hx => held_rep x ⟨hx.1, hx.2.1, hx.2.2.1⟩) g2
  simp [hc2] at e2
  subst e2
  refine ⟨_, _, ⟨x0, xs, ys.map Prod.snd⟩, rfl, h2, h5, h3, by simpa using h6, fun l hl => ?_, h4, by rw [List.map_map]; exact h7, fun l hl => ?_⟩
  · obtain ⟨z, hz, rfl⟩ := List.mem_map.1 hl
    exact (h8 z hz).2.1
  · obtain ⟨z, hz, rfl⟩ := List.mem_map.1 hl
    exact (h8 z hz).2.2.2
theorem open_wk_arg2 {b0 : Nat} {v : Value} {d : DataW H} {ps : List MemPlace} (hv : Value.okWide Tryz.prog w .any b0 42 v) (h : DataW.Trod enc Tryz.prog w 0 (fun _ => true) true 42 v d ps) :
    ∃ k : Wk, WkOk k ∧ HV k ∧ rep0 w (.agg k.av) v := by
  obtain ⟨cs, rfl, fuel, x, h⟩ := open_struct_arg Tryz.underlying42 hv h
  have hl := rd_len Tryz.underlying42 h
  have hl2 : cs.length = 8 := hl.trans (by kernel_rfl)
  obtain ⟨c0, c1, c2, c3, c4, c5, c6, c7, rfl⟩ := len8 hl2
  clear hl hl2
  have hc0 : Tryz.prog.cellsOf 32 = 1 := by kernel_rfl
  have hc1 : Tryz.prog.cellsOf 36 = 3 := by kernel_rfl
  have hc2 : Tryz.prog.cellsOf 40 = 3 := by kernel_rfl
  have hc3 : Tryz.prog.cellsOf 2 = 1 := by kernel_rfl
  obtain ⟨n0, y0, g0⟩ := rd_field Tryz.underlying42 h 0 _ rfl
  obtain ⟨v0, gs, e0, a1, a2, a3, a4⟩ := rd_sl (fun x : Value × Gp => [.int .i64 x.2.no, .int .i64 x.2.mark, x.1]) (Gp.av ∘ Prod.snd) _ Tryz.underlying32 (by kernel_rfl : Tryz.prog.cellsOf 109 = 3) (by omega) el_Gp (fun _ => rfl) (fun x hx => gp_rep x hx) g0
  simp [hc0] at e0
  subst e0
  obtain ⟨n1, y1, g1⟩ := rd_field Tryz.underlying42 h 1 _ rfl
  obtain ⟨v1, v2, m, e1, b1, b2, b3, b4, b5, b6⟩ := rd_Marks g1
  simp [hc1] at e1
  obtain ⟨rfl, rfl, rfl⟩ := e1
  obtain ⟨n2, y2, g2⟩ := rd_field Tryz.underlying42 h 2 _ rfl
  obtain ⟨v3, v4, al, e2, d1, d2, d3, d4, d5, d6, d7, d8⟩ := rd_Align2 g2
  simp [hc2] at e2
  obtain ⟨rfl, rfl, rfl⟩ := e2
  obtain ⟨n3, y3, g3⟩ := rd_field Tryz.underlying42 h 3 _ rfl
  obtain ⟨x3, e3, _, _⟩ := DataW.trod_int Tryz.underlying2 g3
  simp [hc3] at e3
  subst e3
  refine ⟨⟨gs.map Prod.snd, m, al, x3⟩, ⟨by simpa using a2, fun g hg => ?_, b3, b4, d3, d4, d5⟩, d8, ?_⟩
  · obtain ⟨z, hz, rfl⟩ := List.mem_map.1 hg
    exact (a3 z hz).2.1
  · simp only [rep0, rep, Wk.av, repC]
    refine ⟨_, rfl, _, _, rfl, a1, by rw [List.map_map]; exact (by simpa only [rep] using a4), _, _, rfl, b1, (by simpa only [rep] using b5), _, _, rfl, b2, (by simpa only [rep] using b6), _, _, rfl, rfl, ⟨rfl, rfl⟩, _, _, rfl, rfl, ⟨rfl, rfl⟩, _, _, rfl, d1, (by simpa only [rep] using d6), _, _, rfl, d2, (by simpa only [rep] using d7), _, _, rfl, rfl, ⟨rfl, rfl⟩, rfl⟩
end
end Go.Proofs.YtagfjnjpgphnjaaGreat
