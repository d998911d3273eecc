/-
  Texts joined, and split behind their ends: by the shelf's contracts. Laid at this seat's numbers.
-/
import Derived.Test.YthlimflfglkpiaaDoorJpT
import Derived.Shelf.Strings.OnBuilder
namespace Go.Proofs.YthlimflfglkpiaaDoor
open Go.RowKit
set_option linter.unusedSimpArgs false
set_option linter.unusedVariables false
section
open Go.Shelf Go.Proofs
def layJoin_ren : Go.Shelf.Ren := ⟨fun | 156 => 28 | 165 => 47 | 166 => 48 | 169 => 49 | 240 => 71 | 241 => 72 | 276 => 91 | 277 => 92 | n => n, fun | 31 => 47 | 9 => 9 | 3 => 3 | 4 => 4 | 0 => 0 | 20 => 20 | 72 => 83 | 76 => 87 | 70 => 80 | 37 => 81 | 75 => 86 | 127 => 105 | 164 => 123 | 5 => 5 | 80 => 89 | n => n, fun | n => n⟩
theorem layJoin : Go.Proofs.Lays.n156 Tryd.prog layJoin_ren := {
  mixed := by kernel_rfl
  f156 := Tryd.func28.trans (congrArg some (by kernel_rfl))
  f165 := Tryd.func47.trans (congrArg some (by kernel_rfl))
  f166 := Tryd.func48.trans (congrArg some (by kernel_rfl))
  f169 := Tryd.func49.trans (congrArg some (by kernel_rfl))
  f240 := Tryd.func71.trans (congrArg some (by kernel_rfl))
  f241 := Tryd.func72.trans (congrArg some (by kernel_rfl))
  f276 := Tryd.func91.trans (congrArg some (by kernel_rfl))
  f277 := Tryd.func92.trans (congrArg some (by kernel_rfl))
  t0 := Tryd.underlying0
  a0 := Tryd.isAgg0
  z0 := Tryd.sizeOf0
  v0 := Tryd.zeroValue0
  t3 := Tryd.underlying3
  a3 := Tryd.isAgg3
  z3 := Tryd.sizeOf3
  v3 := Tryd.zeroValue3
  t4 := Tryd.underlying4
  a4 := Tryd.isAgg4
  z4 := Tryd.sizeOf4
  v4 := Tryd.zeroValue4
  t9 := Tryd.underlying9
  a9 := Tryd.isAgg9
  z9 := Tryd.sizeOf9
  v9 := Tryd.zeroValue9
  t20 := Tryd.underlying20
  a20 := Tryd.isAgg20
  z20 := Tryd.sizeOf20
  v20 := Tryd.zeroValue20
  t31 := Tryd.underlying47
  a31 := Tryd.isAgg47
  z31 := Tryd.sizeOf47
  v31 := Tryd.zeroValue47
  t37 := Tryd.underlying81
  a37 := Tryd.isAgg81
  z37 := Tryd.sizeOf81
  v37 := Tryd.zeroValue81
  t70 := Tryd.underlying80
  a70 := Tryd.isAgg80
  z70 := Tryd.sizeOf80
  v70 := Tryd.zeroValue80
  t72 := Tryd.underlying83
  a72 := Tryd.isAgg83
  z72 := Tryd.sizeOf83
  v72 := Tryd.zeroValue83
  t75 := Tryd.underlying86
  a75 := Tryd.isAgg86
  z75 := Tryd.sizeOf86
  v75 := Tryd.zeroValue86
  t76 := Tryd.underlying87
  a76 := Tryd.isAgg87
  z76 := Tryd.sizeOf87
  v76 := Tryd.zeroValue87
  t127 := Tryd.underlying105
  a127 := Tryd.isAgg105
  z127 := Tryd.sizeOf105
  v127 := Tryd.zeroValue105
  t164 := Tryd.underlying123
  a164 := Tryd.isAgg123
  z164 := Tryd.sizeOf123
  v164 := Tryd.zeroValue123 }
theorem layBE : Builder.Extra Tryd.prog layJoin_ren := {
  sizeBuilder := by kernel_rfl
  liesBuilder := by kernel_rfl
  t5 := Tryd.underlying5
  a5 := Tryd.isAgg5
  z5 := Tryd.sizeOf5
  v5 := Tryd.zeroValue5
  infoByte := by kernel_rfl
  cellsByte := by kernel_rfl
  sizeByte := by kernel_rfl
  neB5 := by decide }
end
/-! strings.Join -/
theorem st_in {μ : Nat → Value} {w : World} {A : Nat → Prop} : ∀ {l : List ByteArray} {us : List Value}, repLL [] μ w A 1 (l.map stAv) us → us = l.map Value.string
  | [], us, h => by simpa [repLL] using h
  | b :: l, us, h => by
    simp only [List.map_cons, repLL, stAv, repC, rep] at h
    obtain ⟨u1, u2, rfl, _, ⟨u, r, rfl, _, ⟨rfl, _⟩, rfl⟩, h2⟩ := h
    rw [st_in h2]
    rfl
theorem ok_Join : CallOK Tryd.prog 28 := ⟨_, Tryd.func28, by kernel_rfl, rfl⟩
def jnB (xs : List ByteArray) : ByteArray := mkB (xs.map (·.data.toList)).flatten
theorem join_em (xs : List (List UInt8)) : Lib.join xs [] = xs.flatten := by
  cases xs with
  | nil => rfl
  | cons x r => rw [Lib.join_cons]; simp [Lib.joinTail]
theorem p_Join (xs : List ByteArray) (h1 : xs ≠ []) (hN : xs.length ≤ 1000) (hL : (xs.map (·.data.toList)).flatten.length ≤ 1000000) : PC Tryd.prog 28 [.sl 1 (xs.map stAv), .v (.string em)] (.v (.string (jnB xs))) := by
  refine ⟨ok_Join, fun w M μ vs hsr hrep => ?_⟩
  simp only [repL, rep] at hrep
  obtain ⟨u, us', rfl, ⟨ad, c, cs, rfl, hc, hcm, hra, hll⟩, u2, us2, rfl, ⟨rfl, _⟩, rfl⟩ := hrep
  have e := st_in hll
  subst e
  have hlen : (xs.map stAv).length = xs.length := List.length_map _
  have hsep : em.data.toList = [] := rfl
  have hcall : Calls Tryd.prog 28 #[.slice ad xs.length c, .string em] w fun e w' => e = .returned (.string (jnB xs)) ∧ Below w.heap.size w w' := by
    rcases hra with h | ⟨b, off, rfl, _, hb, hcell⟩
    · exact absurd (List.map_eq_nil_iff.1 h) h1
    · have := Any.strings_Join layJoin layBE b off c xs em w (fun j x hx => hcell j _ (by rw [List.getElem?_map, hx]; rfl)) hb (by omega) (by omega) (by rw [hsep, join_em]; omega)
      rw [hsep, join_em] at this
      exact this
  rw [hlen]
  refine hcall.mono ?_
  rintro e w' ⟨rfl, hb⟩
  exact ⟨_, μ, rfl, ⟨fun _ _ h => by simp [find] at h, fun _ _ _ _ _ h => by simp [find] at h, fun b hb' => Nat.lt_of_lt_of_le (hsr.lt b hb') hb.size, fun _ _ _ h => by simp [find] at h⟩, by simp only [rep]; exact ⟨trivial, rfl⟩, ⟨hb.os, hb.tape, hb.output, hb.size, fun b hl _ => hb.block b hl, fun _ _ _ h => by simp [find] at h, fun _ _ _ h => by simp [find] at h, fun _ _ _ _ h => by simp [find] at h, fun _ _ h => by simp [find] at h, fun _ h => by simp [find] at h⟩⟩
/-! strings.SplitAfter -/
def spla (s : ByteArray) : List ByteArray := Lib.splitB nl1 1 (Lib.countB s nl1) s
theorem spla_len (s : ByteArray) : (spla s).length = Lib.countB s nl1 + 1 := Lib.splitB_all nl1 (by decide) 1 _ s rfl
theorem ok_gs : CallOK Tryd.prog 46 := ⟨_, Tryd.func46, by kernel_rfl, rfl⟩
theorem p_gs (s : ByteArray) (hs : Sm s) : PCT Tryd.prog TabP 46 [.v (.string s), .v (.string nl1), .v (.int .i64 1), .v (.int .i64 (-1))] (.sl 1 ((spla s).map stAv)) := by
  have hle := Lib.countB_le nl1 (by decide) s.size s (Nat.le_refl _)
  have hs' : s.size ≤ 4294967280 := hs
  refine pct_gen (xs := [.string s, .string nl1, .int .i64 1, .int .i64 (-1)]) ok_gs fun w hT => ?_
  obtain ⟨m, hm⟩ := hT.max
  have hl := spla_len s
  have c := Any.strings_genSplit { laySplit with } laySplit.i9 s nl1 1 (-1) (Lib.countB s nl1 + 1) m w (by omega) hm (by decide) (by decide) (by decide) (by decide) (by rw [if_pos (by decide)]; omega)
  rw [Nat.add_sub_cancel, Lib.splitB_all nl1 (by decide) 1 _ s rfl] at c
  refine c.mono ?_
  rintro e w' ⟨rfl, rfl⟩
  have hcf : Lib.cellsOf (spla s) (Lib.countB s nl1 + 1) = ((spla s).map Value.string).toArray := by rw [← hl]; exact Lib.cellsOf_full _
  have hcf' : Lib.cellsOf (Lib.splitB nl1 1 (Lib.countB s nl1) s) (Lib.countB s nl1 + 1) = ((spla s).map Value.string).toArray := hcf
  rw [hcf']
  refine ⟨_, rfl, below_alloc _ _, fun μ A hA => ⟨some ⟨w.heap.size, 0, none⟩, Lib.countB s nl1 + 1, (spla s).map Value.string, by rw [List.length_map, hl], by rw [List.length_map, hl]; exact Nat.le_refl _, by unfold maxLen; omega, .inr ⟨_, 0, rfl, fun h => Nat.lt_irrefl _ (hA _ h), by simp, fun j u hu => ?_⟩, st_repLL _⟩⟩
  have := (Blk.new w (laySplit_ren.t 9) ((spla s).map Value.string).toArray).cell (0 + j)
  rw [Nat.zero_add] at this ⊢
  refine this.trans ?_
  rw [← Array.getElem?_toList]; exact hu
theorem p_SplitAfter (s : ByteArray) (hs : Sm s) : PCT Tryd.prog TabP 27 [.v (.string s), .v (.string nl1)] (.sl 1 ((spla s).map stAv)) := by
  have h := p_gs s hs
  generalize (spla s).map stAv = L at *
  unfold nl1 at *
  refine PCT.mk (act_body tab_ok Tryd.func27 rfl (by kernel_rfl) rfl ?_); intro w0 M μ0 hG; simp only [Tryd.ntmps27, List.length_cons, List.length_nil, Nat.reduceAdd, Nat.reduceSub, numb] at hG ⊢
  repeat' (first | ((first | apply o_do | apply d_do | apply d_yes rfl rfl rfl); first | focus (apply ls_callT hG h rfl rfl _ rfl rfl; (repeat' (first | exact NilL.nil | refine NilL.cons Nil.same ?_ | refine NilL.cons Nil.nil ?_ | refine NilL.cons (Nil.agg ?_) ?_ | exact Nil1s.nil | refine Nil1s.cons Nil1.same ?_ | refine Nil1s.cons Nil1.nil ?_)); done) | exact lsq) | refine a_seq ?_ | refine a_region ?_ | refine o_nil ?_ | refine a_block ?_ | refine a_ret ?_ | refine a_exit ?_ | refine a_skip ?_ | refine a_draw mixed ?_ | refine d_nil (by kernel_rfl) ?_ | refine o_yes rfl rfl rfl ?_ | refine o_no rfl rfl rfl (by decide) ?_ | refine o_no' rfl rfl rfl ?_ | refine a_condT rfl ?_ | refine a_condF rfl ?_ | refine d_no rfl rfl rfl (by decide) ?_ | refine d_no' rfl rfl rfl ?_ | (refine wq2 (fun hb => ?_) (fun hb => ?_) <;> (simp only [hb]; try simp only [hbs, ne_eq] at hb; try (exfalso; first | omega | exact hb trivial))) | fail)
  refine ⟨by first | exact .inr rfl | exact .inl rfl, _, rfl, ?_, by repeat' (first | exact trivial | refine ⟨⟨_, rfl, by first | rfl | (simp [renO, *]; done)⟩, by first | rfl | assumption, ?_⟩)⟩
  (first | refine FinA.tup ?_ | refine FinA.one ?_); repeat' (first | exact FinBs.nil | exact FinCs.nil | refine FinBs.cons ?_ ?_ | refine FinCs.cons ?_ ?_ | refine FinB.cell (FinC.v ?_) | refine FinB.cell (FinC.own rfl rfl rfl ?_) | exact FinB.cell FinC.nil | refine FinB.cell (FinC.sl ?_) | exact FinB.agg' rfl rfl | exact FinB.cell (FinC.same rfl) | refine FinB.agg ?_ | refine FinC.v ?_ | refine FinC.own rfl rfl rfl ?_ | exact FinC.nil | refine FinC.sl ?_ | exact FinC.same rfl); all_goals try rfl
end Go.Proofs.YthlimflfglkpiaaDoor
