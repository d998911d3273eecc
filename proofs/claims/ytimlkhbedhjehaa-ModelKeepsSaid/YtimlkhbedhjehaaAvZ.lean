/-
  Walks over abstract values: division, and a written row that is one's own. Over whatever program. No condition.
-/
import Derived.Test.YtimlkhbedhjehaaAvY
namespace Go.Proofs.Ytimlkhbedhjehaa
open Go.RowKit
set_option linter.unusedSimpArgs false
set_option linter.unusedVariables false
section
variable {P : Program} {Γ : Ctx} {s : ASt} {σ : Store} {μ : Nat → Value} {w : World} {T : List TyI}
variable {dst : Option Tmp} {ty : TypeId} {pos : String} {after : Array Edge}
theorem ls_quo64 {xt yt : TypeId} {x y : Operand} {a b m : Int} (hm : a.tdiv b = m) (hx : ev s x = some (.v (.int .i64 a))) (hy : ev s y = some (.v (.int .i64 b))) (hb : b ≠ 0) (h : -9223372036854775808 ≤ m ∧ m ≤ 9223372036854775807) (hd : okDst Γ.n dst = true) : LS P Γ ⟨dst, .binOp .quo xt x y yt, ty, pos, after, none⟩ s (rd x (rd y [])) (dst1 dst (.v (.int .i64 m))) [] :=
  ls_bin hx hy (fun w => by
    subst hm
    have := IntWalk.i64_in (a.tdiv b) (by omega)
    simp [eqGuard, binOp, Op.intDiv, hb, this]) rfl hd
theorem ls_rem64 {xt yt : TypeId} {x y : Operand} {a b m : Int} (hm : a.tmod b = m) (hx : ev s x = some (.v (.int .i64 a))) (hy : ev s y = some (.v (.int .i64 b))) (hb : b ≠ 0) (h : -9223372036854775808 ≤ m ∧ m ≤ 9223372036854775807) (hd : okDst Γ.n dst = true) : LS P Γ ⟨dst, .binOp .rem xt x y yt, ty, pos, after, none⟩ s (rd x (rd y [])) (dst1 dst (.v (.int .i64 m))) [] :=
  ls_bin hx hy (fun w => by
    subst hm
    have := IntWalk.i64_in (a.tmod b) (by omega)
    simp [eqGuard, binOp, Op.intDiv, hb, this]) rfl hd
/-- A row that is written out, and one's own. -/
theorem ls_buildO (hT : okTab P T = true) {t len e size bytes k : Nat} {parts : Array (Nat × Operand)} {vs : List (Nat × AV)} {xs : List (List AV)} (hty : nth T t = some (.slice e size bytes)) (hp : evParts s parts.toList = some vs) (hb : bldS size 0 vs = some xs) (hl : Nat.beq xs.length len = true) (hle : Nat.ble (len * size) 16777216 = true) (hk : find s.σ k = none) (hd : okDst Γ.n dst = true) :
    LS P Γ ⟨dst, .buildSlice t len parts, ty, pos, after, none⟩ s (rdParts parts.toList [.obj k]) (dst1 dst (.own k len)) [(k, .row e size xs)] := by
  refine ⟨fun t' ht Q μ a w hr K hK => ?_⟩
  obtain ⟨h1, ht⟩ := ht.parts hr hp
  have hk' : find t'.σ k = none := ht.1.trans hk
  obtain ⟨hu, hpos, j, z, hj, hj2, hj3, hj4, hj5⟩ := slice_ty hT hty
  have hl := Nat.eq_of_beq_eq_true hl
  subst hl
  have hle := Nat.le_of_ble_eq_true hle
  obtain ⟨cells, zs, h2, h3, h4⟩ := fill_ord size hpos h1 hb (cells := (Array.range (xs.length * size)).map fun i => (if xs.length * size = 0 then #[] else z.cells)[i % (if xs.length * size = 0 then #[] else z.cells).size]!) (by simp)
  have h3' : cells.toList = zs := by
    rw [h3]
    simp [List.drop_of_length_le]
  have h9 : parts.map (fun p => (p.1, a.eval p.2)) = (parts.toList.map fun p => (p.1, a.eval p.2)).toArray := by simp [← Array.toList_map]
  have hzl : zs.length = xs.length * size := repLL_len h4
  have hrun : (execOp a.eval ⟨dst, .buildSlice t xs.length parts, ty, pos, after, none⟩).run P w = .ok (.value (.slice (some ⟨w.heap.size, 0, none⟩) xs.length xs.length)) (w.alloc (.cells cells e)) := by
    have hn : ¬ xs.length * size > 2 ^ 24 := by omega
    by_cases h0 : xs.length * size = 0
    · simp only [h0, if_true] at h2
      simp [execOp, Instr.buildSlice, run_underlying hu, sizeOf, typeInfo, hj, hj2, h0, newRow, h9]
      have hz0 : ∀ f : Nat → Value, (Array.range 0).map f = #[] := by intro f; simp [Array.range]
      rw [hz0] at h2 ⊢
      rw [h2]
      simp
    · simp only [h0, if_false] at h2
      simp [execOp, Instr.buildSlice, run_underlying hu, sizeOf, typeInfo, hj, hj2, h0, hn, newRow, zeroValue, hj4, h9]
      rw [h2]
      simp
  have hn := hr.new (w' := w.alloc (.cells cells e)) (v := .slice (some ⟨w.heap.size, 0, none⟩) xs.length xs.length) (o := .row e size xs) hk' (below_alloc _ _) (by simp [blk]) (fun μ' A hμ hμk hA hst => by
    refine ⟨zs, ?_, repLL_mono hst.pure (repLL_mono (Step.same_world fun _ h => h) h4)⟩
    rw [hμk]
    have hxl : xs.length ≤ xs.length * size := Nat.le_mul_of_pos_right _ hpos
    refine ⟨hzl, .inr ⟨w.heap.size, xs.length, cells, rfl, Nat.zero_le _, Blk.new w e cells, Nat.le_refl _, by simp only [maxLen]; omega, ?_, ?_⟩⟩
    · rw [← Array.length_toList, h3', hzl]
    · rw [h3', List.take_of_length_le (by omega)])
  have hfin := hn.put (d := dst) (x := .own k xs.length) (y := .slice (some ⟨w.heap.size, 0, none⟩) xs.length xs.length) hd (by
    simp only [rep, ASt.eff, List.cons_append, List.nil_append, find_cons, if_true]
    exact ⟨rfl, e, size, xs, rfl, Nat.le_refl _, fun _ => (setμ_same _ _ _).symm⟩)
  unfold Oper.wp
  rw [hrun]
  refine hK (setμ μ k (.slice (some ⟨w.heap.size, 0, none⟩) xs.length xs.length)) _ _ ?_
  cases dst <;> exact hfin
end
end Go.Proofs.Ytimlkhbedhjehaa
