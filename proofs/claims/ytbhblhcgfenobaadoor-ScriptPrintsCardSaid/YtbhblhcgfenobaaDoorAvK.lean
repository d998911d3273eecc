/-
  Walks over abstract values: rows that are made with their zero elements. Over whatever program. No condition.
-/
import Derived.Test.YtbhblhcgfenobaaDoorAvX
import Derived.Laws.OwnMore
namespace Go.Proofs.YtbhblhcgfenobaaDoor
open Go.RowKit
set_option linter.unusedSimpArgs false
set_option linter.unusedVariables false
theorem made_list (zs : List Value) (hp : 0 < zs.length) (n : Nat) : (madeCells zs.toArray (n * zs.length)).toList = (List.replicate n zs).flatten := by
  have h : ∀ n, (List.range (n * zs.length)).map (fun i => zs.toArray[i % zs.toArray.size]!) = (List.replicate n zs).flatten := by
    intro n
    induction n with
    | zero => simp
    | succ n ih =>
      rw [Nat.succ_mul, List.range_add, List.map_append, ih, List.replicate_succ', List.flatten_append, List.flatten_singleton]
      congr 1
      apply List.ext_getElem
      · simp
      · intro i h1 h2
        have h3 : i < zs.length := h2
        have h4 : (n * zs.length + i) % zs.length = i := by rw [Nat.mul_comm, Nat.mul_add_mod]; exact Nat.mod_eq_of_lt h3
        simp only [List.getElem_map, List.getElem_range, List.size_toArray, h4]
        simp [h3]
  rw [← h n]
  simp [madeCells, Array.toList_map, Array.toList_range]
section
variable {P : Program} {Γ : Ctx} {s : ASt} {σ : Store} {μ : Nat → Value} {w : World} {A : Nat → Prop} {T : List TyI}
variable {dst : Option Tmp} {ty : TypeId} {pos : String} {after : Array Edge}
theorem repLL_rep (zs : List Value) (hs : (zs.all fun c => scal c && c.oneCell') = true) {size : Nat} (hl : zs.length = size) : ∀ n, repLL σ μ w A size (List.replicate n (zs.map .v)) (List.replicate n zs).flatten
  | 0 => by simp [repLL]
  | n + 1 => by
    simp only [List.replicate_succ, List.flatten_cons, repLL]
    exact ⟨zs, _, rfl, hl, repC_con hs, repLL_rep zs hs hl n⟩
/-- make([]T, n) -/
theorem ls_make (hT : okTab P T = true) (hZ : okZero P T = true) {x y : Operand} {t e size bytes n k : Nat} {kl kc : IntKind} {L C : Int} {zs : List Value} (hx : ev s x = some (.v (.int kl L))) (hy : ev s y = some (.v (.int kc C))) (hL : L = (n : Int)) (hC : C = (n : Int))
    (hty : nth T t = some (.slice e size bytes)) (hz : zcells T 10 e = some zs) (hs : (zs.all fun c => scal c && c.oneCell') = true) (hn : n ≤ 1000000) (hby : Nat.ble bytes 1000 = true) (hk : find s.σ k = none) (hd : okDst Γ.n dst = true) (htag : Nat.blt e 1048576 = true := by rfl) :
    LS P Γ ⟨dst, .makeSlice t x y, ty, pos, after, none⟩ s (rd x (rd y [.obj k])) (dst1 dst (.own k (List.replicate n (zs.map AV.v)).length)) [(k, .row e size (List.replicate n (zs.map .v)))] := by
  refine ⟨fun t' ht Q μ a w hr K hK => ?_⟩
  obtain ⟨h1, ht⟩ := ht.ev hx
  obtain ⟨h2, ht⟩ := ht.ev hy
  have hk' : find t'.σ k = none := ht.1.trans hk
  have h1 := hr.ev h1
  have h2 := hr.ev h2
  simp only [rep] at h1 h2
  obtain ⟨hu, hpos, j, z, hj, hj2, hj3, hj4, hj5⟩ := slice_ty hT hty
  obtain ⟨i, z', hi, hiz, hzc⟩ := okZero_at hZ hz
  rw [hj] at hi; injection hi with hi; subst hi
  rw [hj4] at hiz; injection hiz with hiz; subst hiz
  have hlen : zs.length = size := by rw [hzc] at hj5; simpa using hj5
  have hby := Nat.le_of_ble_eq_true hby
  have hrun := run_make (P := P) w t e j z hu hj hj4 kl kc n n (by omega) (Int.le_refl _) (by
    have : ((j.bytes * n : Nat) : Int) ≤ 281474976710656 := by
      have h5 : j.bytes * n ≤ 1000 * 1000000 := Nat.mul_le_mul (by omega) hn
      omega
    rwa [Int.natCast_mul] at this) (by omega)
  simp only [Int.toNat_natCast, hj2] at hrun
  rw [hzc, ← hlen] at hrun
  have hrow := World.ownsRow_lit (base := 0) (e := e) (size := size) w (madeCells zs.toArray (n * zs.length)) n (Nat.zero_le _) (by simp only [maxLen]; omega) (by rw [size_madeCells, hlen])
  rw [made_list zs (by omega)] at hrow
  have hn2 := hr.new (w' := w.alloc (.cells (madeCells zs.toArray (n * zs.length)) e)) (v := .slice (some ⟨w.heap.size, 0, none⟩) n n) (o := .row e size (List.replicate n (zs.map .v))) hk' (below_alloc _ _) (by simp [blk]) (fun μ' A hμ hμk hA hst => by
    refine ⟨_, ?_, repLL_rep zs hs hlen n⟩
    rw [hμk, List.length_replicate]
    exact OwnS.of hrow htag)
  have hfin := hn2.put (d := dst) (x := .own k (List.replicate n (zs.map AV.v)).length) (y := .slice (some ⟨w.heap.size, 0, none⟩) n n) hd (by
    simp only [rep, ASt.eff, List.cons_append, List.nil_append, find_cons, if_true]
    exact ⟨rfl, .inr ⟨e, size, _, rfl, Nat.le_refl _, fun _ => (setμ_same _ _ _).symm⟩⟩)
  unfold Oper.wp
  have hrun2 : (execOp a.eval ⟨dst, .makeSlice t x y, ty, pos, after, none⟩).run P w = .ok (.value (.slice (some ⟨w.heap.size, 0, none⟩) n n)) (w.alloc (.cells (madeCells zs.toArray (n * zs.length)) e)) := by
    simp only [execOp, h1.1, h2.1, hL, hC]
    simp [hrun]
  rw [hrun2]
  refine hK (setμ μ k (.slice (some ⟨w.heap.size, 0, none⟩) n n)) _ _ ?_
  cases dst <;> exact hfin
theorem repC_set {x : AV} {u : Value} : ∀ {cs : List AV} {us : List Value} {i : Nat}, repC σ μ w A cs us → cs[i]? = some (.v u) → (u.oneCell' = true → rep σ μ w A x u) → repC σ μ w A (cs.set i x) us
  | [], us, i, h, hc, hx => by simp at hc
  | c :: cs, us, 0, h, hc, hx => by
    simp only [repC] at h
    obtain ⟨v, us', rfl, h1, h2, h3⟩ := h
    simp only [List.getElem?_cons_zero, Option.some.injEq] at hc
    subst hc
    simp only [rep] at h2
    obtain ⟨rfl, _⟩ := h2
    simp only [List.set_cons_zero, repC]
    exact ⟨v, us', rfl, h1, hx h1, h3⟩
  | c :: cs, us, i + 1, h, hc, hx => by
    simp only [repC] at h
    obtain ⟨v, us', rfl, h1, h2, h3⟩ := h
    simp only [List.getElem?_cons_succ] at hc
    simp only [List.set_cons_succ, repC]
    exact ⟨v, us', rfl, h1, h2, repC_set h3 hc hx⟩
/-- A nil slice in a variable that will be appended to. -/
theorem a_adoptB {Q : Exit → ASt → Prop} {c : Code} (b i k e size : Nat) {t : TypeId} {cs : List AV} (hb : find s.σ b = some (.box t cs)) (hv : cs[i]? = some (.v (.slice none 0 0))) (hk : find s.σ k = none) (h : AWP P Γ c Q ⟨s.regs, (b, .box t (cs.set i (.own k 0))) :: (k, .row e size []) :: s.σ⟩) : AWP P Γ c Q s := by
  refine ⟨fun μ a w hr => h.out (setμ μ k (.slice none 0 0)) a w ?_⟩
  have hn := hr.new (w' := w) (v := .slice none 0 0) (o := .row e size []) hk (Below.refl _ w) (by simp [blk]) (fun μ' A hμ hμk hA hst => ⟨[], by rw [hμk]; exact OwnS.nil, by simp [repLL]⟩)
  have hbk : k ≠ b := fun e1 => by subst e1; rw [hk] at hb; cases hb
  have hb' : find ((k, SObj.row e size []) :: s.σ) b = some (.box t cs) := by rw [find_cons, if_neg hbk]; exact hb
  obtain ⟨g, us, hg1, hg2, hg3⟩ := hn.store.obj b _ hb'
  have hs := store_rel (s := s.eff [] [(k, .row e size [])]) (o' := .box t (cs.set i (.own k 0))) (g := g) hn hb' (by rw [hg1]; rfl) rfl rfl rfl rfl (fun _ _ => rfl) ⟨rfl, List.length_set⟩ (fun A hst hA => by
    refine ⟨g, us, hg1, hg2, repC_set (repC_mono hst hg3) hv (fun _ => ?_)⟩
    simp only [rep]
    refine ⟨rfl, .inr ⟨e, size, [], ?_, Nat.le_refl _, fun _ => (setμ_same _ _ _).symm⟩⟩
    rw [find_cons, if_neg (Ne.symm hbk)]
    simp [ASt.eff, find_cons])
  exact hs
end
end Go.Proofs.YtbhblhcgfenobaaDoor
