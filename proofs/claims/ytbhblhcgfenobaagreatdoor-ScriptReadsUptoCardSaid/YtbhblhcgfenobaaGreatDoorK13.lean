/-
  Script: which plans may be.
  A row of the store turned by a library's call.
  Walks over abstract values: rows of bytes and texts; what strings.Builder does to its memory. Over whatever program. No condition.
  Walks over abstract values: rows that are made with their zero elements. Over whatever program. No condition.
-/
import Derived.Lib.UnsafeStr
import Derived.Lib.Builder
import Derived.Laws.BytesString
import Derived.Laws.Externs
import Derived.Laws.OwnMore
import Derived.Test.YtbhblhcgfenobaaGreatDoorK3
import Derived.Test.YtbhblhcgfenobaaGreatDoorK4
import Derived.Test.YtbhblhcgfenobaaGreatDoorK8
import Derived.Test.YtbhblhcgfenobaaGreatDoorK12
namespace Go.Proofs.YtbhblhcgfenobaaGreatDoor
open Go.RowKit
set_option linter.unusedSimpArgs false
set_option linter.unusedVariables false
structure Pl where
  g : Int
  s : Int
  d : Int
  k : Int
  fu : Int
  li : Int
  de : Int
  id : Int
  ls : List (List Et)
  wn : Int
  xs : List Ac
def Pl.jok (p : Pl) : Bool := jobOK p.g p.s p.d p.k p.fu p.li p.de p.id
def Pl.av (p : Pl) : List AV := [.v (.int .i64 p.g), .v (.int .i64 p.s), .v (.int .i64 p.d), .v (.int .i64 p.k), .v (.int .i64 p.fu), .v (.int .i64 p.li), .v (.int .i64 p.de), .v (.int .i64 p.id), .sl 1 (p.ls.map inAv), .v (.int .i64 p.wn), .sl 3 (p.xs.map Ac.av)]
def letE (es : List Et) : Bool := es.all fun e => letB e.key
def Pl.ok (p : Pl) : Bool := p.jok && (okIn p.ls && (decide (1 ≤ p.wn) && (decide (p.wn ≤ 8) && (decide (p.xs.length ≤ 400) && (p.ls.all letE && p.xs.all acOK)))))
theorem key_size {key : ByteArray} (h : keyB key = true) : key.size ≤ 9223372036854775807 := by
  simp only [keyB, Bool.and_eq_true, decide_eq_true_eq] at h
  omega
theorem in_size {ls : List (List Et)} (h : okIn ls = true) {es : List Et} (he : es ∈ ls) {e : Et} (h2 : e ∈ es) : e.key.size ≤ 9223372036854775807 := by
  simp only [okIn, okEs, evR, Bool.and_eq_true, List.all_eq_true] at h
  exact key_size ((h.2.2 es he).2 e h2).1
theorem p_let1 (e : Et) (h : e.key.size ≤ 9223372036854775807) : PC Tryz.prog 37 [.agg (Et.av e)] (.v (.bool (!letB e.key))) := by
  have h := p_letters e.key h
  unfold Et.av
  refine PC.mk (ac_body tab_ok Tryz.func37 rfl (by kernel_rfl) rfl ?_); intro w0 M μ0; simp only [Tryz.ntmps37, List.length_cons, List.length_nil, Nat.reduceAdd, Nat.reduceSub, numb]
  repeat' (first | ((first | apply o_do | apply d_do | apply d_yes rfl rfl rfl); first | exact lsc (h) | exact lsq) | refine a_seq ?_ | refine a_region ?_ | refine o_nil ?_ | refine a_block ?_ | refine a_ret ?_ | refine a_exit ?_ | refine a_skip ?_ | refine a_draw mixed ?_ | refine d_nil (by kernel_rfl) ?_ | refine o_yes rfl rfl rfl ?_ | refine o_no rfl rfl rfl (by decide) ?_ | refine o_no' rfl rfl rfl ?_ | refine a_condT rfl ?_ | refine a_condF rfl ?_ | refine d_no rfl rfl rfl (by decide) ?_ | refine d_no' rfl rfl rfl ?_ | (refine wq2 (fun hb => ?_) (fun hb => ?_) <;> (simp only [hb]; try simp only [hbs, ne_eq] at hb; try (exfalso; first | omega | exact hb trivial))) | fail)
  all_goals refine rq rfl ?_
  all_goals exact fnq
theorem p_act2 (a : Ac) : PC Tryz.prog 40 [.agg (Ac.av a)] (.v (.bool (!acOK a))) := by
  have h := p_act a
  unfold Ac.av at *
  refine PC.mk (ac_body tab_ok Tryz.func40 rfl (by kernel_rfl) rfl ?_); intro w0 M μ0; simp only [Tryz.ntmps40, List.length_cons, List.length_nil, Nat.reduceAdd, Nat.reduceSub, numb]
  repeat' (first | ((first | apply o_do | apply d_do | apply d_yes rfl rfl rfl); first | exact lsc (h) | exact lsq) | refine a_seq ?_ | refine a_region ?_ | refine o_nil ?_ | refine a_block ?_ | refine a_ret ?_ | refine a_exit ?_ | refine a_skip ?_ | refine a_draw mixed ?_ | refine d_nil (by kernel_rfl) ?_ | refine o_yes rfl rfl rfl ?_ | refine o_no rfl rfl rfl (by decide) ?_ | refine o_no' rfl rfl rfl ?_ | refine a_condT rfl ?_ | refine a_condF rfl ?_ | refine d_no rfl rfl rfl (by decide) ?_ | refine d_no' rfl rfl rfl ?_ | (refine wq2 (fun hb => ?_) (fun hb => ?_) <;> (simp only [hb]; try simp only [hbs, ne_eq] at hb; try (exfalso; first | omega | exact hb trivial))) | fail)
  all_goals refine rq rfl ?_
  all_goals exact fnq
set_option maxHeartbeats 2000000 in
theorem s_Right (p : Pl) (hx : Small p.ls) (hxa : p.xs.length ≤ 9223372036854775807) : PC Tryz.prog 11 [.agg p.av] (.v (.bool p.ok)) := by
  have h1 := j_Right p.g p.s p.d p.k p.fu p.li p.de p.id
  have h2 := j_Inputs p.ls hx
  have hE := fun es (he : es ∈ p.ls) (hi : okIn p.ls = true) => p_ConE 37 (fun e => !letB e.key) es (hx.2 es he) (fun e h => p_let1 e (in_size hi he h))
  have hA := p_ConA 40 (fun a => !acOK a) p.xs hxa (fun a _ => p_act2 a)
  rw [← not_all] at hA
  have hok : p.ok = (jobOK p.g p.s p.d p.k p.fu p.li p.de p.id && (okIn p.ls && (decide (1 ≤ p.wn) && (decide (p.wn ≤ 8) && (decide (p.xs.length ≤ 400) && (p.ls.all letE && p.xs.all acOK)))))) := rfl
  rw [hok]
  clear hok
  unfold Pl.av
  obtain ⟨g, s, d, k, fu, li, de, id, ls, wn, xs⟩ := p
  dsimp only at *
  have hn : (xs.map Ac.av).length = xs.length := List.length_map _
  have hm : (ls.map inAv).length = ls.length := List.length_map _
  have hlx : ls.length ≤ 9223372036854775807 := hx.1
  unfold jAv at h1
  cases hj : jobOK g s d k fu li de id
  · rw [hj] at h1
    refine PC.mk (ac_body tab_ok Tryz.func11 rfl (by kernel_rfl) rfl ?_); intro w0 M μ0; simp only [Tryz.ntmps11, List.length_cons, List.length_nil, Nat.reduceAdd, Nat.reduceSub, numb]
    repeat' (first | ((first | apply o_do | apply d_do | apply d_yes rfl rfl rfl); first | exact lsc (h1) | exact lsq) | refine a_seq ?_ | refine a_region ?_ | refine o_nil ?_ | refine a_block ?_ | refine a_ret ?_ | refine a_exit ?_ | refine a_skip ?_ | refine a_draw mixed ?_ | refine d_nil (by kernel_rfl) ?_ | refine o_yes rfl rfl rfl ?_ | refine o_no rfl rfl rfl (by decide) ?_ | refine o_no' rfl rfl rfl ?_ | refine a_condT rfl ?_ | refine a_condF rfl ?_ | refine d_no rfl rfl rfl (by decide) ?_ | refine d_no' rfl rfl rfl ?_ | (refine wq2 (fun hb => ?_) (fun hb => ?_) <;> (simp only [hb]; try simp only [hbs, ne_eq] at hb; try (exfalso; first | omega | exact hb trivial))) | fail)
    all_goals refine rq rfl ?_
    all_goals exact fnq
  rw [hj] at h1
  cases hi : okIn ls
  · rw [hi] at h2
    refine PC.mk (ac_body tab_ok Tryz.func11 rfl (by kernel_rfl) rfl ?_); intro w0 M μ0; simp only [Tryz.ntmps11, List.length_cons, List.length_nil, Nat.reduceAdd, Nat.reduceSub, numb]
    repeat' (first | ((first | apply o_do | apply d_do | apply d_yes rfl rfl rfl); first | exact lsc (h1) | exact lsc (h2) | exact lsq) | refine a_seq ?_ | refine a_region ?_ | refine o_nil ?_ | refine a_block ?_ | refine a_ret ?_ | refine a_exit ?_ | refine a_skip ?_ | refine a_draw mixed ?_ | refine d_nil (by kernel_rfl) ?_ | refine o_yes rfl rfl rfl ?_ | refine o_no rfl rfl rfl (by decide) ?_ | refine o_no' rfl rfl rfl ?_ | refine a_condT rfl ?_ | refine a_condF rfl ?_ | refine d_no rfl rfl rfl (by decide) ?_ | refine d_no' rfl rfl rfl ?_ | (refine wq2 (fun hb => ?_) (fun hb => ?_) <;> (simp only [hb]; try simp only [hbs, ne_eq] at hb; try (exfalso; first | omega | exact hb trivial))) | fail)
    all_goals refine rq rfl ?_
    all_goals exact fnq
  rw [hi] at h2
  have hE := fun es he => hE es he hi
  by_cases hc : 1 ≤ wn ∧ wn ≤ 8 ∧ xs.length ≤ 400
  · obtain ⟨c1, c2, c3⟩ := hc
    rw [decide_eq_true c1, decide_eq_true c2, decide_eq_true c3]
    simp only [Bool.true_and]
    refine PC.mk (ac_body tab_ok Tryz.func11 rfl (by kernel_rfl) rfl ?_); intro w0 M μ0; simp only [Tryz.ntmps11, List.length_cons, List.length_nil, Nat.reduceAdd, Nat.reduceSub, numb]
    repeat' (first | ((first | apply o_do | apply d_do | apply d_yes rfl rfl rfl); first | exact lsc (h1) | exact lsc (h2) | exact lsq) | refine a_seq ?_ | refine a_region ?_ | refine o_nil ?_ | refine a_block ?_ | refine a_ret ?_ | refine a_exit ?_ | refine a_skip ?_ | refine a_draw mixed ?_ | refine d_nil (by kernel_rfl) ?_ | refine o_yes rfl rfl rfl ?_ | refine o_no rfl rfl rfl (by decide) ?_ | refine o_no' rfl rfl rfl ?_ | refine a_condT rfl ?_ | refine a_condF rfl ?_ | refine d_no rfl rfl rfl (by decide) ?_ | refine d_no' rfl rfl rfl ?_ | (refine wq2 (fun hb => ?_) (fun hb => ?_) <;> (simp only [hb]; try simp only [hbs, ne_eq] at hb; try (exfalso; first | omega | exact hb trivial))) | fail)
    refine a_loop (X := {q : Nat // q ≤ ls.length ∧ (ls.take q).all letE = true}) (fun x => ⟨[(1, .ref 0 0), (32, .sl 1 (ls.map inAv)), (33, .v (.int .i64 ls.length)), (34, .v (.int .i64 x.1))], [(0, .box 27 [.v (.int .i64 g), .v (.int .i64 s), .v (.int .i64 d), .v (.int .i64 k), .v (.int .i64 fu), .v (.int .i64 li), .v (.int .i64 de), .v (.int .i64 id), .sl 1 (ls.map inAv), .v (.int .i64 wn), .sl 3 (xs.map Ac.av)])]⟩) (fun x => ls.length - x.1) ⟨0, Nat.zero_le _, rfl⟩ ?_ ?_
    · exact wkS
    rintro ⟨q, hq, hall⟩
    dsimp only
    by_cases hlt : q < ls.length
    · have hel : (ls.map inAv)[q]? = some (inAv ls[q]) := by simp [hlt]
      have hsn := take_snoc ls q hlt
      have hbd := hE _ (List.getElem_mem hlt)
      rw [← not_all] at hbd
      have hok : letE ls[q] = true → (ls.take (q + 1)).all letE = true := fun h => by rw [hsn, List.all_append, hall]; simp [h]
      have hno : letE ls[q] = false → ls.all letE = false := fun h => by
        rw [List.all_eq_false]
        exact ⟨ls[q], List.getElem_mem hlt, by simp [h]⟩
      generalize ls[q] = es at *
      rw [show (es.all fun x => letB x.key) = letE es from rfl] at hbd
      have hen : (es.map Et.av).length = es.length := List.length_map _
      cases hl : letE es
      · rw [hl] at hbd
        rw [hno hl, Bool.false_and]
        repeat' (first | ((first | apply o_do | apply d_do | apply d_yes rfl rfl rfl); first | exact lsc (hbd) | exact lsq) | refine a_seq ?_ | refine a_region ?_ | refine o_nil ?_ | refine a_block ?_ | refine a_ret ?_ | refine a_exit ?_ | refine a_skip ?_ | refine a_draw mixed ?_ | refine d_nil (by kernel_rfl) ?_ | refine o_yes rfl rfl rfl ?_ | refine o_no rfl rfl rfl (by decide) ?_ | refine o_no' rfl rfl rfl ?_ | refine a_condT rfl ?_ | refine a_condF rfl ?_ | refine d_no rfl rfl rfl (by decide) ?_ | refine d_no' rfl rfl rfl ?_ | (refine wq2 (fun hb => ?_) (fun hb => ?_) <;> (simp only [hb]; try simp only [hbs, ne_eq] at hb; try (exfalso; first | omega | exact hb trivial))) | fail)
        all_goals refine rq rfl ?_
        all_goals exact fnq
      · rw [hl] at hbd
        repeat' (first | ((first | apply o_do | apply d_do | apply d_yes rfl rfl rfl); first | exact lsc (hbd) | exact lsq) | refine a_seq ?_ | refine a_region ?_ | refine o_nil ?_ | refine a_block ?_ | refine a_ret ?_ | refine a_exit ?_ | refine a_skip ?_ | refine a_draw mixed ?_ | refine d_nil (by kernel_rfl) ?_ | refine o_yes rfl rfl rfl ?_ | refine o_no rfl rfl rfl (by decide) ?_ | refine o_no' rfl rfl rfl ?_ | refine a_condT rfl ?_ | refine a_condF rfl ?_ | refine d_no rfl rfl rfl (by decide) ?_ | refine d_no' rfl rfl rfl ?_ | (refine wq2 (fun hb => ?_) (fun hb => ?_) <;> (simp only [hb]; try simp only [hbs, ne_eq] at hb; try (exfalso; first | omega | exact hb trivial))) | fail)
        refine ⟨⟨q + 1, by omega, hok hl⟩, by dsimp only; omega, ?_⟩
        exact wkS
    · obtain rfl : q = ls.length := by omega
      rw [List.take_length] at hall
      rw [hall, Bool.true_and]
      repeat' (first | ((first | apply o_do | apply d_do | apply d_yes rfl rfl rfl); first | exact lsc (hA) | exact lsq) | refine a_seq ?_ | refine a_region ?_ | refine o_nil ?_ | refine a_block ?_ | refine a_ret ?_ | refine a_exit ?_ | refine a_skip ?_ | refine a_draw mixed ?_ | refine d_nil (by kernel_rfl) ?_ | refine o_yes rfl rfl rfl ?_ | refine o_no rfl rfl rfl (by decide) ?_ | refine o_no' rfl rfl rfl ?_ | refine a_condT rfl ?_ | refine a_condF rfl ?_ | refine d_no rfl rfl rfl (by decide) ?_ | refine d_no' rfl rfl rfl ?_ | (refine wq2 (fun hb => ?_) (fun hb => ?_) <;> (simp only [hb]; try simp only [hbs, ne_eq] at hb; try (exfalso; first | omega | exact hb trivial))) | fail)
      all_goals refine rq rfl ?_
      all_goals (first | refine FinA.tup ?_ | refine FinA.one ?_); repeat' (first | exact FinBs.nil | exact FinCs.nil | refine FinBs.cons ?_ ?_ | refine FinCs.cons ?_ ?_ | refine FinB.cell (FinC.v ?_) | refine FinB.cell (FinC.own rfl rfl rfl ?_) | exact FinB.cell FinC.nil | refine FinB.cell (FinC.sl ?_) | exact FinB.agg' rfl rfl | exact FinB.cell (FinC.same rfl) | refine FinB.agg ?_ | refine FinC.v ?_ | refine FinC.own rfl rfl rfl ?_ | exact FinC.nil | refine FinC.sl ?_ | exact FinC.same rfl); all_goals try rfl
      all_goals simp
  · rw [show (decide (1 ≤ wn) && (decide (wn ≤ 8) && (decide (xs.length ≤ 400) && (ls.all letE && xs.all acOK)))) = false by
      by_cases a1 : 1 ≤ wn
      · by_cases a2 : wn ≤ 8
        · rw [decide_eq_false (p := xs.length ≤ 400) (by omega)]; simp
        · rw [decide_eq_false a2]; simp
      · rw [decide_eq_false a1]; simp]
    by_cases a1 : wn < 1
    · refine PC.mk (ac_body tab_ok Tryz.func11 rfl (by kernel_rfl) rfl ?_); intro w0 M μ0; simp only [Tryz.ntmps11, List.length_cons, List.length_nil, Nat.reduceAdd, Nat.reduceSub, numb]
      repeat' (first | ((first | apply o_do | apply d_do | apply d_yes rfl rfl rfl); first | exact lsc (h1) | exact lsc (h2) | exact lsq) | refine a_seq ?_ | refine a_region ?_ | refine o_nil ?_ | refine a_block ?_ | refine a_ret ?_ | refine a_exit ?_ | refine a_skip ?_ | refine a_draw mixed ?_ | refine d_nil (by kernel_rfl) ?_ | refine o_yes rfl rfl rfl ?_ | refine o_no rfl rfl rfl (by decide) ?_ | refine o_no' rfl rfl rfl ?_ | refine a_condT rfl ?_ | refine a_condF rfl ?_ | refine d_no rfl rfl rfl (by decide) ?_ | refine d_no' rfl rfl rfl ?_ | (refine wq2 (fun hb => ?_) (fun hb => ?_) <;> (simp only [hb]; try simp only [hbs, ne_eq] at hb; try (exfalso; first | omega | exact hb trivial))) | fail)
      all_goals refine rq rfl ?_
      all_goals exact fnq
    by_cases a2 : 8 < wn
    · refine PC.mk (ac_body tab_ok Tryz.func11 rfl (by kernel_rfl) rfl ?_); intro w0 M μ0; simp only [Tryz.ntmps11, List.length_cons, List.length_nil, Nat.reduceAdd, Nat.reduceSub, numb]
      repeat' (first | ((first | apply o_do | apply d_do | apply d_yes rfl rfl rfl); first | exact lsc (h1) | exact lsc (h2) | exact lsq) | refine a_seq ?_ | refine a_region ?_ | refine o_nil ?_ | refine a_block ?_ | refine a_ret ?_ | refine a_exit ?_ | refine a_skip ?_ | refine a_draw mixed ?_ | refine d_nil (by kernel_rfl) ?_ | refine o_yes rfl rfl rfl ?_ | refine o_no rfl rfl rfl (by decide) ?_ | refine o_no' rfl rfl rfl ?_ | refine a_condT rfl ?_ | refine a_condF rfl ?_ | refine d_no rfl rfl rfl (by decide) ?_ | refine d_no' rfl rfl rfl ?_ | (refine wq2 (fun hb => ?_) (fun hb => ?_) <;> (simp only [hb]; try simp only [hbs, ne_eq] at hb; try (exfalso; first | omega | exact hb trivial))) | fail)
      all_goals refine rq rfl ?_
      all_goals exact fnq
    have a3 : 400 < xs.length := by omega
    refine PC.mk (ac_body tab_ok Tryz.func11 rfl (by kernel_rfl) rfl ?_); intro w0 M μ0; simp only [Tryz.ntmps11, List.length_cons, List.length_nil, Nat.reduceAdd, Nat.reduceSub, numb]
    repeat' (first | ((first | apply o_do | apply d_do | apply d_yes rfl rfl rfl); first | exact lsc (h1) | exact lsc (h2) | exact lsq) | refine a_seq ?_ | refine a_region ?_ | refine o_nil ?_ | refine a_block ?_ | refine a_ret ?_ | refine a_exit ?_ | refine a_skip ?_ | refine a_draw mixed ?_ | refine d_nil (by kernel_rfl) ?_ | refine o_yes rfl rfl rfl ?_ | refine o_no rfl rfl rfl (by decide) ?_ | refine o_no' rfl rfl rfl ?_ | refine a_condT rfl ?_ | refine a_condF rfl ?_ | refine d_no rfl rfl rfl (by decide) ?_ | refine d_no' rfl rfl rfl ?_ | (refine wq2 (fun hb => ?_) (fun hb => ?_) <;> (simp only [hb]; try simp only [hbs, ne_eq] at hb; try (exfalso; first | omega | exact hb trivial))) | fail)
    all_goals refine rq rfl ?_
    all_goals exact fnq
end Go.Proofs.YtbhblhcgfenobaaGreatDoor
namespace Go.Proofs.YtbhblhcgfenobaaGreatDoor
open Go.RowKit
set_option linter.unusedSimpArgs false
set_option linter.unusedVariables false
/-- A row of the store has turned, and nothing else. -/
theorem row_turn {σ σ' : Store} {μ : Nat → Value} {w w' : World} {M : Nat → Prop} {id e size : Nat} {xs xs' : List (List AV)} {v' : Value} {us us' : List Value} (hs : SRel σ μ w M) (e0 : find σ id = some (.row e size xs)) (hσ : ∀ i, find σ' i = if id = i then some (.row e size xs') else find σ i)
    (e11 : OwnS w e size (μ id) xs.length us) (hown : OwnS w' e size v' xs'.length us') (hrep : ∀ μ' A, Step σ μ w (av σ μ M) σ' μ' w' A → repLL [] μ' w' A size xs' us') (hgr : w.grownBy w' (μ id).ownBlock) (hbk : v'.ownBlock = (μ id).ownBlock ∨ ∃ b, v'.ownBlock = some b ∧ w.heap.size ≤ b) (hle : xs.length ≤ xs'.length) (hsame : xs'.length = xs.length → v' = μ id) :
    Gro σ μ w σ' (setμ μ id v') w' ∧ SRel σ' (setμ μ id v') w' M := by
  have hblk : ∀ y : Value, y.ownBlock = blk y ∨ (∃ p, y = .pointer p) ∨ ∃ p, y = .map p := by
    intro y
    cases y with
    | slice a n c => cases a <;> exact .inl rfl
    | pointer p => exact .inr (.inl ⟨p, rfl⟩)
    | map p => exact .inr (.inr ⟨p, rfl⟩)
    | _ => exact .inl rfl
  have hb0 : (μ id).ownBlock = blk (μ id) := by
    rcases hblk (μ id) with h | ⟨p, h⟩ | ⟨p, h⟩
    · exact h
    all_goals
      obtain ⟨A', c', h2, _⟩ := e11.slice
      rw [h] at h2; cases h2
  have hb1 : v'.ownBlock = blk v' := by
    rcases hblk v' with h | ⟨p, h⟩ | ⟨p, h⟩
    · exact h
    all_goals
      obtain ⟨A', c', h2, _⟩ := hown.slice
      rw [h] at h2; cases h2
  have hother : ∀ i o b, i ≠ id → find σ i = some o → blk (μ i) = some b → some b ≠ (μ id).ownBlock := by
    intro i o b h1 h2 h3 h4
    rw [hb0] at h4
    exact h1 (hs.inj i id o _ b h2 e0 h3 h4.symm)
  have hgro : Gro σ μ w σ' (setμ μ id v') w' := by
    refine ⟨hgr.os, hgr.tape, hgr.output, hgr.size, fun b hl hn => hgr.block b hl (fun h => ?_), fun i o b hf hb hl => ?_, fun i t cs hf => ?_, fun i e' size' ys hf => ?_, fun i es hf => ?_, fun i hf => ?_⟩
    · rw [hb0] at h
      exact hn id _ e0 h.symm
    · rw [hσ] at hf
      split at hf
      · rename_i h; subst h
        rw [setμ_same, ← hb1] at hb
        rcases hbk with h | ⟨c, h, hc⟩
        · rw [h, hb0] at hb; exact ⟨_, _, e0, hb⟩
        · rw [h] at hb; injection hb with hb; omega
      · rename_i h
        rw [setμ_ne μ v' (Ne.symm h)] at hb
        exact ⟨i, o, hf, hb⟩
    · have h : id ≠ i := fun h => by subst h; rw [e0] at hf; cases hf
      exact ⟨cs, by rw [hσ, if_neg h]; exact hf, rfl, setμ_ne μ v' (Ne.symm h)⟩
    · by_cases h : id = i
      · subst h
        rw [e0] at hf; injection hf with hf; injection hf with h1 h2 h3; subst h1 h2 h3
        refine .inr ⟨xs', by rw [hσ, if_pos rfl], hle, fun hl => ?_⟩
        rw [setμ_same]
        exact hsame hl
      · exact .inr ⟨ys, by rw [hσ, if_neg h]; exact hf, Nat.le_refl _, fun _ => setμ_ne μ v' (Ne.symm h)⟩
    · have h : id ≠ i := fun h => by subst h; rw [e0] at hf; cases hf
      exact ⟨es, by rw [hσ, if_neg h]; exact hf, setμ_ne μ v' (Ne.symm h)⟩
    · have h : id ≠ i := fun h => by subst h; rw [e0] at hf; cases hf
      rw [hσ, if_neg h]; exact hf
  refine ⟨hgro, hs.at_ hgro id (fun i h => by rw [hσ, if_neg (Ne.symm h)]) (fun i h => setμ_ne μ v' h) (fun i o b h1 h2 h3 => hgr.block b (ObjRel.lt hs h2 h3) (hother i o b h1 h2 h3)) (fun o ho => ?_) (fun i o b h1 h2 h3 h4 => ?_) (fun b h1 h2 => ?_)⟩
  · rw [hσ, if_pos rfl] at ho
    injection ho with ho; subst ho
    refine ⟨us', ?_, hrep _ _ hgro.step⟩
    rw [setμ_same]
    exact hown
  · rw [setμ_same, ← hb1] at h4
    rcases hbk with h | ⟨c, h, hc⟩
    · rw [h] at h4
      exact hother i o b h1 h2 h3 h4.symm
    · rw [h] at h4; injection h4 with h4
      have := ObjRel.lt hs h2 h3
      omega
  · rw [setμ_same, ← hb1] at h1
    rcases hbk with h | ⟨c, h, hc⟩
    · rw [h, hb0] at h1
      exact hs.dis id _ b e0 h1 h2
    · rw [h] at h1; injection h1 with h1
      have := hs.lt b h2
      omega
end Go.Proofs.YtbhblhcgfenobaaGreatDoor
namespace Go.Proofs.YtbhblhcgfenobaaGreatDoor
open Go.RowKit
set_option linter.unusedSimpArgs false
set_option linter.unusedVariables false
def byAv (b : UInt8) : List AV := [.v (.int .u8 (b.toNat : Int))]
/-- the type of bytes -/
def U8 (P : Program) (e : TypeId) : Prop := (∃ i, P.info? e = some i ∧ i.zero = some (.int .u8 0) ∧ i.size = 1 ∧ i.bytes = 1) ∧ P.underlying e = some (.int .u8) ∧ P.cellsOf e = 1
section
variable {P : Program} {T : List TyI} {Γ : Ctx} {s : ASt} {dst : Option Tmp} {ty : TypeId} {pos : String} {after : Array Edge}
variable {σ : Store} {μ : Nat → Value} {w : World} {A : Nat → Prop} {M : Nat → Prop}
theorem repLL_by : ∀ (l : List UInt8), repLL σ μ w A 1 (l.map byAv) (Lib.byteCells l)
  | [] => by simp [repLL, Lib.byteCells]
  | b :: l => by
    simp only [List.map_cons, repLL]
    exact ⟨[.int .u8 b.toNat], Lib.byteCells l, rfl, rfl, by simp only [byAv, repC, rep]; exact ⟨_, _, rfl, rfl, ⟨rfl, rfl⟩, rfl⟩, repLL_by l⟩
theorem by_repLL : ∀ (l : List UInt8) {us : List Value}, repLL σ μ w A 1 (l.map byAv) us → us = Lib.byteCells l
  | [], us, h => by simpa [repLL, Lib.byteCells] using h
  | b :: l, us, h => by
    simp only [List.map_cons, repLL] at h
    obtain ⟨u, r, rfl, h1, h2, h3⟩ := h
    simp only [byAv, repC, rep] at h2
    obtain ⟨v, us', rfl, _, ⟨rfl, _⟩, h4⟩ := h2
    have h5 : us' = [] := by simpa using h4
    rw [h5, by_repLL l h3]
    rfl
theorem app_str {t u ty' e : TypeId} {i : TypeInfo} (ht : P.underlying t = some (.slice e)) (hu : P.underlying u = some .string) (hi : P.info? e = some i) (hz : i.zero = some (.int .u8 0)) (hsize : i.size = 1) (hby : i.bytes = 1)
    {v : Value} {n : Nat} {xs : List Value} (hown : w.ownsRow 0 e 1 v n xs) (b : ByteArray) (hb : n + b.size ≤ 100000000000000) :
    ∃ v' w', (Builtin.append_ #[t, u] ty' #[v, .string b]).run P w = .ok v' w' ∧ w'.ownsRow 0 e 1 v' (n + b.size) (xs ++ Lib.strCells b) ∧ w.grownBy w' v.ownBlock ∧
      (v'.ownBlock = v.ownBlock ∨ ∃ c, v'.ownBlock = some c ∧ w.heap.size ≤ c) ∧ (b.size = 0 → v' = v) := by
  obtain ⟨v', w', hr, h2, h3, h4⟩ := Lib.run_append_own_string (P := P) w 0 t u ty' e i ht hu hi hz hsize hby v n xs hown b (by simp only [maxLen]; omega) (by omega) (Nat.zero_le _)
  refine ⟨v', w', hr, h2, h3, ?_⟩
  rcases hown.2 with ⟨rfl, rfl⟩ | ⟨g, cap, cur, rfl, _, hg, hnc, hcm, hcs, htake⟩
  · by_cases hm : b.size = 0
    · have h5 : v' = .slice none 0 0 := h4.2 ⟨rfl, hm⟩
      exact ⟨.inl (by rw [h5]), fun _ => h5⟩
    · have hr2 := run_append_nil_string (P := P) w t u ty' e i (.int .u8 0) ht hu hi hz b (by omega) (by omega) (by rw [hby]; omega)
      rw [hr] at hr2
      injection hr2 with h5 _
      exact ⟨.inr ⟨_, by rw [h5]; rfl, Nat.le_refl _⟩, fun h => absurd h hm⟩
  · by_cases hroom : n + b.size ≤ cap
    · have hr2 := Lib.run_append_room_string (P := P) w t u ty' e i ht hu hi hsize g n cap cur hg b hroom (by omega)
      rw [hr] at hr2
      injection hr2 with h5 _
      exact ⟨.inl (by rw [h5]; rfl), fun h => by rw [h5, h]; rfl⟩
    · have hxl : xs.length = n := by simpa using hown.1
      have holds : ∀ j u, xs[j]? = some u → w.cell? ((⟨g, 0, none⟩ : Addr).add j) = some u := hown.cells (g := g) rfl
      have hr2 := Lib.run_append_grow_string (P := P) w t u ty' e i (.int .u8 0) ht hu hi hz ⟨g, 0, none⟩ n cap xs (by rw [hsize]; simpa using hxl) holds b (by omega) (by omega) (by rw [hby]; exact growslice_fits (by omega) (by omega))
      rw [hr] at hr2
      injection hr2 with h5 _
      exact ⟨.inr ⟨_, by rw [h5]; rfl, Nat.le_refl _⟩, fun h => absurd h (by omega)⟩
/-- append(b, s...): a text's bytes behind those of a row of one's own -/
theorem ls_appendS (hT : okTab P T = true) {x z : Operand} {t u e bytes id n : Nat} {xs : List (List AV)} {b : ByteArray} (h8 : U8 P e) (hx : ev s x = some (.own id n)) (hσ : find s.σ id = some (.row e 1 xs)) (hn : n = xs.length) (hz : ev s z = some (.v (.string b)))
    (hty : nth T t = some (.slice e 1 bytes)) (hu : nth T u = some .string) (hlen : xs.length + b.size ≤ 100000000000000) (hd : okDst Γ.n dst = true) (htag : Nat.blt e 1048576 = true := by rfl) :
    LS P Γ ⟨dst, .call { callee := .builtin .append, args := #[x, z], argTypes := #[t, u] }, ty, pos, after, none⟩ s (rd x (rd z [.obj id])) (dst1 dst (.own id (xs ++ b.data.toList.map byAv).length)) [(id, .row e 1 (xs ++ b.data.toList.map byAv))] := by
  refine ⟨fun t' ht Q μ a w hr K hK => ?_⟩
  obtain ⟨e1, ht⟩ := ht.ev hx
  obtain ⟨e2, ht⟩ := ht.ev hz
  have e0 : find t'.σ id = some (.row e 1 xs) := ht.1.trans hσ
  have e1 := hr.ev e1
  have e2 := hr.ev e2
  obtain ⟨hut, _⟩ := slice_ty hT hty
  have hus := str_ty hT hu
  obtain ⟨⟨i, hi, hz, hs, hb⟩, _, _⟩ := h8
  simp only [rep] at e1 e2
  obtain ⟨_, e', size', xs', e6, e7, e8⟩ := live e0 e1
  rw [e0] at e6
  injection e6 with e6; injection e6 with e6 e9 e10; subst e6 e9 e10
  have e8 := e8 hn
  subst hn
  obtain ⟨us, e11, e12⟩ := hr.store.obj id _ e0
  obtain ⟨v', w', hrun, hown, hgr, hbk, hzero⟩ := app_str (P := P) (ty' := ty) hut hus hi hz hs hb (e11.own htag) b hlen
  have hl : (xs ++ b.data.toList.map byAv).length = xs.length + b.size := by rw [List.length_append, List.length_map, Array.length_toList]; rfl
  obtain ⟨hg, hs2⟩ := row_turn (σ' := (id, .row e 1 (xs ++ b.data.toList.map byAv)) :: t'.σ) (xs' := xs ++ b.data.toList.map byAv) hr.store e0 (fun i => by rw [find_cons]) e11 (by rw [hl]; exact OwnS.of hown htag) (fun μ' A' hst => by
    rw [Lib.strCells_eq]
    exact repLL_append (repLL_mono hst.pure e12) (repLL_by _)) hgr hbk (by simp) (fun h => hzero (by rw [hl] at h; omega))
  have hfin := (hr.goes hg hs2).put (d := dst) (x := .own id (xs ++ b.data.toList.map byAv).length) (y := v') hd (by
    simp only [rep, find_cons, if_true]
    obtain ⟨A', c', h2, _⟩ := own_slice hown
    exact ⟨by rw [h2]; rfl, .inr ⟨e, 1, xs ++ b.data.toList.map byAv, rfl, Nat.le_refl _, fun _ => (setμ_same _ _ _).symm⟩⟩)
  unfold Oper.wp
  have hrun2 : (execOp a.eval ⟨dst, .call { callee := .builtin .append, args := #[x, z], argTypes := #[t, u] }, ty, pos, after, none⟩).run P w = .ok (.value v') w' := by
    simp only [execOp, resolve, Sem.run_bind, Sem.run_pure, Result.andThen_ok, invoke, builtin, List.map_toArray, List.map_cons, List.map_nil, e8, e2.1, hrun]
  rw [hrun2]
  refine hK (setμ μ id v') _ _ ?_
  cases dst <;> exact hfin
theorem push_fold : ∀ (l : List UInt8) (z : ByteArray), ((l.map fun b => (b.toNat : Int)).foldl (fun r n => r.push (UInt8.ofNat n.toNat)) z) = ⟨z.data ++ l.toArray⟩
  | [], z => by simp
  | b :: l, z => by
    simp only [List.map_cons, List.foldl_cons, push_fold l]
    apply ByteArray.ext
    simp [ByteArray.push]
/-- string(b) of a row of one's own -/
theorem ls_toStr (hT : okTab P T = true) {x : Operand} {t u e bytes id n : Nat} {l : List UInt8} {xs : List (List AV)} (h8 : U8 P e) (hx : ev s x = some (.own id n)) (hσ : find s.σ id = some (.row e 1 xs)) (hxs : xs = l.map byAv) (hn : n = xs.length)
    (hty : nth T t = some (.slice e 1 bytes)) (hu : nth T u = some .string) (hd : okDst Γ.n dst = true) :
    LS P Γ ⟨dst, .convert t u x, ty, pos, after, none⟩ s (rd x [.obj id]) (dst1 dst (.v (.string ⟨l.toArray⟩))) [] :=
  ls_pure hd fun t' ht μ a w hr => by
    subst hxs
    obtain ⟨e1, ht⟩ := ht.ev hx
    have e0 : find t'.σ id = some (.row e 1 (l.map byAv)) := ht.1.trans hσ
    have e1 := hr.ev e1
    simp only [rep] at e1 ⊢
    obtain ⟨_, e', size', xs', e3, e4, e5⟩ := live e0 e1
    rw [e0] at e3
    injection e3 with e3; injection e3 with e3 e7 e8; subst e3 e7 e8
    have e5 := e5 hn
    subst hn
    obtain ⟨us, e11, e12⟩ := hr.store.obj id _ e0
    have hus := by_repLL l e12
    subst hus
    obtain ⟨hut, _⟩ := slice_ty hT hty
    have hst := str_ty hT hu
    refine ⟨.string ⟨l.toArray⟩, ?_, rfl, rfl⟩
    have hload : ∀ g cap, μ id = .slice (some ⟨g, 0, none⟩) (l.map byAv).length cap → (loadCells ⟨g, 0, none⟩ (l.map byAv).length).run P w = .ok ((l.map fun b => (b.toNat : Int)).map (Value.int .u8)).toArray w := by
      intro g cap hv
      have h1 := run_loadCells_list (P := P) w ⟨g, 0, none⟩ (Lib.byteCells l) (fun j v hj => by
        rw [hv] at e11
        have h2 := e11.addr j v hj
        rw [Go.WideShapes.add_plain]
        exact h2)
      rw [Lib.byteCells_length] at h1
      rw [List.length_map, h1]
      congr 1
      simp [Lib.byteCells]
    have hconv : (convert t u (μ id)).run P w = .ok (.string ⟨l.toArray⟩) w := by
      rcases e11.2 with ⟨h0, hn0⟩ | ⟨g, cap, cur, h1, _⟩
      · have hl0 : l = [] := List.eq_nil_of_length_eq_zero (by simpa using hn0)
        subst hl0
        rw [h0, run_convert_bytes_string w t u e none 0 0 hut h8.2.1 hst]
        rfl
      · rw [h1, run_convert_bytes_string w t u e _ _ _ hut h8.2.1 hst, run_bytesToString w _ _ cap _ (hload g cap h1), push_fold]
        show Result.ok (Value.string ⟨#[] ++ l.toArray⟩) w = _
        simp
    simp [execOp, e5, hconv]
/-! a builder's memory -/
/-- A row dies. -/
theorem die_rel (hs : SRel σ μ w M) {id g e size : Nat} {xs : List (List AV)} {w' : World} (e0 : find σ id = some (.row e size xs)) (hv : blk (μ id) = some g) (h1 : w'.os = w.os) (h2 : w'.tape = w.tape) (h3 : w'.output = w.output) (h4 : w'.heap.size = w.heap.size) (h5 : ∀ b, b ≠ g → w'.heap[b]? = w.heap[b]?) :
    Gro σ μ w ((id, .dead) :: σ) (setμ μ id .nilFunc) w' ∧ SRel ((id, .dead) :: σ) (setμ μ id .nilFunc) w' M := by
  have mid : blk (setμ μ id .nilFunc id) = none := by rw [setμ_same]; rfl
  have hg : Gro σ μ w ((id, .dead) :: σ) (setμ μ id .nilFunc) w' := by
    refine ⟨h1, h2, h3, Nat.le_of_eq h4.symm, fun b _ hn => h5 b fun e => hn id _ e0 (by rw [hv, e]), fun i o b hf hb hl => ?_, fun i t cs hf => ?_, fun i e' size' ys hf => ?_, fun i es hf => ?_, fun i hf => ?_⟩
    · by_cases h : id = i
      · subst h; rw [mid] at hb; cases hb
      · rw [find_cons, if_neg h] at hf
        rw [setμ_ne μ _ (Ne.symm h)] at hb
        exact ⟨i, o, hf, hb⟩
    · have h : id ≠ i := fun h => by subst h; rw [e0] at hf; cases hf
      exact ⟨cs, by rw [find_cons, if_neg h]; exact hf, rfl, setμ_ne μ _ (Ne.symm h)⟩
    · by_cases h : id = i
      · subst h; exact .inl (by rw [find_cons, if_pos rfl])
      · exact .inr ⟨ys, by rw [find_cons, if_neg h]; exact hf, Nat.le_refl _, fun _ => setμ_ne μ _ (Ne.symm h)⟩
    · have h : id ≠ i := fun h => by subst h; rw [e0] at hf; cases hf
      exact ⟨es, by rw [find_cons, if_neg h]; exact hf, setμ_ne μ _ (Ne.symm h)⟩
    · have h : id ≠ i := fun h => by subst h; rw [e0] at hf; cases hf
      rw [find_cons, if_neg h]; exact hf
  refine ⟨hg, hs.at_ hg id (fun i h => by rw [find_cons, if_neg (Ne.symm h)]) (fun i h => setμ_ne μ _ h) (fun i o b h1 h2 h3 => h5 b fun e => h1 (hs.inj i id o _ b h2 e0 h3 (by rw [hv, e]))) (fun o ho => ?_) (fun i o b h1 h2 h3 h4 => ?_) (fun b h1 h2 => ?_)⟩
  · rw [find_cons, if_pos rfl] at ho
    injection ho with ho; subst ho
    exact mid
  · rw [mid] at h4; cases h4
  · rw [mid] at h1; cases h1
/-- unsafe.SliceData of a row of one's own -/
theorem ls_sliceData {x : Operand} {t id n e size : Nat} {xs : List (List AV)} (hx : ev s x = some (.own id n)) (hσ : find s.σ id = some (.row e size xs)) (hn : n = xs.length) (h0 : 0 < n) (hd : okDst Γ.n dst = true) :
    LS P Γ ⟨dst, .call { callee := .builtin .unsafeSliceData, args := #[x], argTypes := #[t] }, ty, pos, after, none⟩ s (rd x [.obj id]) (dst1 dst (.eref id n 0 0)) [] :=
  ls_pure hd fun t' ht μ a w hr => by
    obtain ⟨e1, ht⟩ := ht.ev hx
    have e0 : find t'.σ id = some (.row e size xs) := ht.1.trans hσ
    have e1 := hr.ev e1
    simp only [rep] at e1 ⊢
    obtain ⟨_, e', size', xs', e3, e4, e5⟩ := live e0 e1
    rw [e0] at e3
    injection e3 with e3; injection e3 with e3 e7 e8; subst e3 e7 e8
    have e5 := e5 hn
    obtain ⟨us, e11, e12⟩ := hr.store.obj id _ e0
    rcases e11.2 with ⟨_, h1⟩ | ⟨g, cap, cur, h1, _, h2, h3, h4, h5⟩
    · omega
    refine ⟨.pointer (some ⟨g, 0, none⟩), ?_, rfl, .inr ⟨e, size, xs, e0, by omega, fun h => ⟨g, cap, h0, Nat.zero_le _, by rw [h1, h], by simp⟩⟩⟩
    have hr2 := Lib.run_unsafeSliceData_row (P := P) w #[t] ty ⟨g, 0, none⟩ xs.length cap (by omega)
    simp [execOp, resolve, invoke, builtin, e5, h1, hr2]
/-- unsafe.String over the whole row: the row is told no more -/
theorem ls_unsafeStr {x y : Operand} {pt it id n e : Nat} {l : List UInt8} {xs : List (List AV)} {k : Int} (h8 : U8 P e) (hp : P.underlying pt = some (.pointer e)) (hx : ev s x = some (.eref id n 0 0)) (hσ : find s.σ id = some (.row e 1 xs)) (hxs : xs = l.map byAv) (hn : n = xs.length) (hy : ev s y = some (.v (.int .i64 k))) (hk : k = (n : Int)) (hd : okDst Γ.n dst = true) (htag : Nat.blt e 1048576 = true := by rfl) :
    LS P Γ ⟨dst, .call { callee := .builtin .unsafeString, args := #[x, y], argTypes := #[pt, it] }, ty, pos, after, none⟩ s (rd x (rd y [.obj id])) (dst1 dst (.v (.string ⟨l.toArray⟩))) [(id, .dead)] := by
  refine ⟨fun t' ht Q μ a w hr K hK => ?_⟩
  subst hxs hk
  obtain ⟨e1, ht⟩ := ht.ev hx
  obtain ⟨e2, ht⟩ := ht.ev hy
  have e0 : find t'.σ id = some (.row e 1 (l.map byAv)) := ht.1.trans hσ
  have e1 := hr.ev e1
  have e2 := hr.ev e2
  simp only [rep] at e1 e2
  obtain ⟨_, e', size', xs', e3, e4, e5⟩ := live e0 e1
  rw [e0] at e3
  injection e3 with e3; injection e3 with e3 e7 e8; subst e3 e7 e8
  obtain ⟨g, c, h0, _, h1, h2⟩ := e5 hn
  obtain ⟨us, e11, e12⟩ := hr.store.obj id _ e0
  have hus := by_repLL l e12
  subst hus
  rw [Nat.zero_mul] at h2
  have hl : n = l.length := by rw [hn, List.length_map]
  have e11 := e11.own htag
  rw [h1, ← hn] at e11
  rcases e11.2 with ⟨h3, _⟩ | ⟨g', cap, cur, h3, _, h4, h5, h6, h7, h9⟩
  · cases h3
  injection h3 with h3 _ h10
  injection h3 with h3; injection h3 with h3; subst h3 h10
  have hsh : w.shape? g = some (e, cur.size) := by simp [World.shape?, h4]
  have hcells : ∀ j x, l[j]? = some x → w.cell? ((⟨g, 0, none⟩ : Addr).add j) = some (.int .u8 x.toNat) := fun j x hj => e11.cells (g := g) rfl j _ (by simp [Lib.byteCells, hj])
  have hrun := Lib.run_unsafeString_row (P := P) w pt it ty e hp h8.2.2 g cur.size hsh l (fun h => by rw [hl, h] at h0; exact absurd h0 (by simp)) (by omega) (by simp only [maxLen] at h6; omega) hcells
  have hfz : ∀ b, b ≠ g → (w.freeze ⟨g, 0, none⟩ l.length).heap[b]? = w.heap[b]? := by
    intro b hb
    unfold World.freeze
    split
    · rfl
    · simp only [Array.getElem?_modify]
      rw [if_neg (Ne.symm hb)]
  obtain ⟨hg, hs⟩ := die_rel (w' := w.freeze ⟨g, 0, none⟩ l.length) hr.store e0 (by rw [h1]; rfl) (by unfold World.freeze; split <;> rfl) (by unfold World.freeze; split <;> rfl) (by unfold World.freeze; split <;> rfl) (by unfold World.freeze; split <;> simp) hfz
  have hfin := (hr.goes hg hs).put (d := dst) (x := .v (.string ⟨l.toArray⟩)) (y := .string ⟨l.toArray⟩) hd (by simp only [rep]; exact ⟨trivial, rfl⟩)
  unfold Oper.wp
  have hrun2 : (execOp a.eval ⟨dst, .call { callee := .builtin .unsafeString, args := #[x, y], argTypes := #[pt, it] }, ty, pos, after, none⟩).run P w = .ok (.value (.string ⟨l.toArray⟩)) (w.freeze ⟨g, 0, none⟩ l.length) := by
    simp only [execOp, resolve, Sem.run_bind, Sem.run_pure, Result.andThen_ok, invoke, builtin, List.map_toArray, List.map_cons, List.map_nil, h2, e2.1, hl, hrun]
  rw [hrun2]
  refine hK (setμ μ id .nilFunc) _ _ ?_
  cases dst <;> exact hfin
/-! pointers to one's own box -/
theorem run_eqPnil {t te : TypeId} (hp : P.underlying t = some (.pointer te)) (w : World) : (binOp .eql t (.pointer none) (.pointer none)).run P w = .ok (.bool true) w := by
  have h : ∀ d : Nat, (Op.equalIn (d + 1) t (.pointer none) (.pointer none)).run P w = .ok true w := fun d => by
    simp [Op.equalIn, run_underlying hp]
  simp only [binOp]
  simp [Op.equal, Op.maxDepth, h 9999]
theorem run_eqPsome {t te : TypeId} (hp : P.underlying t = some (.pointer te)) (a : Addr) (w : World) : (binOp .eql t (.pointer (some a)) (.pointer none)).run P w = .ok (.bool false) w := by
  have h : ∀ d : Nat, (Op.equalIn (d + 1) t (.pointer (some a)) (.pointer none)).run P w = .ok false w := fun d => by
    simp [Op.equalIn, run_underlying hp]
  simp only [binOp]
  simp [Op.equal, Op.maxDepth, h 9999]
theorem ls_eqPN {t te yt : TypeId} (hp : P.underlying t = some (.pointer te)) {x : Operand} (hx : ev s x = some (.v (.pointer none))) (hd : okDst Γ.n dst = true) :
    LS P Γ ⟨dst, .binOp .eql t x (.const (.pointer none)) yt, ty, pos, after, none⟩ s (rd x (rd (.const (.pointer none)) [])) (dst1 dst (.v (.bool true))) [] :=
  ls_pure hd fun t' ht μ a w hr => by
    obtain ⟨e1, ht⟩ := ht.ev hx
    have e1 := hr.ev e1
    simp only [rep] at e1 ⊢
    refine ⟨.bool true, ?_, rfl, rfl⟩
    have he : a.eval (.const (.pointer none)) = .pointer none := rfl
    simp [execOp, e1.1, he, eqGuard, run_eqPnil hp w]
theorem ls_eqRN {t te yt : TypeId} (hp : P.underlying t = some (.pointer te)) {x : Operand} {id off : Nat} (hx : ev s x = some (.ref id off)) (hd : okDst Γ.n dst = true) :
    LS P Γ ⟨dst, .binOp .eql t x (.const (.pointer none)) yt, ty, pos, after, none⟩ s (rd x (rd (.const (.pointer none)) [])) (dst1 dst (.v (.bool false))) [] :=
  ls_pure hd fun t' ht μ a w hr => by
    obtain ⟨e1, ht⟩ := ht.ev hx
    have e1 := hr.ev e1
    simp only [rep] at e1 ⊢
    obtain ⟨_, _, g, _, _, _, h4⟩ := e1
    refine ⟨.bool false, ?_, rfl, rfl⟩
    have he : a.eval (.const (.pointer none)) = .pointer none := rfl
    simp [execOp, h4, he, eqGuard, run_eqPsome hp _ w]
theorem ls_neRR {t te yt : TypeId} {j : TypeInfo} (hp : P.underlying t = some (.pointer te)) (hj : P.info? te = some j) {x y : Operand} {id off : Nat} (hx : ev s x = some (.ref id off)) (hy : ev s y = some (.ref id off)) (hd : okDst Γ.n dst = true) :
    LS P Γ ⟨dst, .binOp .neq t x y yt, ty, pos, after, none⟩ s (rd x (rd y [])) (dst1 dst (.v (.bool false))) [] :=
  ls_pure hd fun t' ht μ a w hr => by
    obtain ⟨e1, ht⟩ := ht.ev hx
    obtain ⟨e2, ht⟩ := ht.ev hy
    have e1 := hr.ev e1
    have e2 := hr.ev e2
    simp only [rep] at e1 e2 ⊢
    obtain ⟨_, _, g, _, _, h3, h4⟩ := e1
    obtain ⟨_, _, g', _, _, h3', h4'⟩ := e2
    rw [h3] at h3'
    injection h3' with h3'; injection h3' with h3'; injection h3' with h3'; subst h3'
    refine ⟨.bool false, ?_, rfl, rfl⟩
    simp [execOp, h4, h4', eqGuard, Lib.run_neq_ptr_same w _ hp hj]
/-- a pointer to one's own box as an unsafe.Pointer, and back -/
theorem ls_toUn {a b t : TypeId} {j : TypeInfo} (ha : P.underlying a = some (.pointer t)) (hb : P.underlying b = some .unsafePointer) (hj : P.info? t = some j) (hj0 : j.size ≠ 0) {x : Operand} {id : Nat} {bt : TypeId} {cs : List AV} (hx : ev s x = some (.ref id 0)) (hσ : find s.σ id = some (.box bt cs)) (hc : 0 < cs.length) (hd : okDst Γ.n dst = true) :
    LS P Γ ⟨dst, .convert a b x, ty, pos, after, none⟩ s (rd x [.obj id]) (dst1 dst (.ref id 0)) [] :=
  ls_pure hd fun t' ht μ ac w hr => by
    obtain ⟨e1, ht⟩ := ht.ev hx
    have e0 : find t'.σ id = some (.box bt cs) := ht.1.trans hσ
    have e1 := hr.ev e1
    simp only [rep] at e1 ⊢
    obtain ⟨bt', cs', g, h1, h2, h3, h4⟩ := e1
    obtain ⟨g', us, h5, h6, h7⟩ := hr.store.obj id _ e0
    rw [h3] at h5
    injection h5 with h5; injection h5 with h5; injection h5 with h5; subst h5
    refine ⟨.pointer (some ⟨g, 0, none⟩), ?_, bt', cs', g, h1, h2, h3, rfl⟩
    have hsh : w.shape? g = some (bt, us.length) := by
      have : w.heap[g]? = some (.cells us.toArray bt (0, 0)) := h6
      simp [World.shape?, this]
    have hl : us.length = cs.length := repC_len h7
    have hr2 := Lib.run_to_unsafe (P := P) w (src := a) (dst := b) ⟨g, 0, none⟩ ha hb hj hj0 hsh (by rw [hl]; exact hc)
    simp [execOp, h4, hr2]
theorem ls_fromUn {a b t : TypeId} {j : TypeInfo} {n : Nat} (ha : P.underlying a = some .unsafePointer) (hb : P.underlying b = some (.pointer t)) (hj : P.info? t = some j) {x : Operand} {id : Nat} {bt : TypeId} {cs : List AV} (hx : ev s x = some (.ref id 0)) (hσ : find s.σ id = some (.box bt cs)) (hc : cs.length = n) (hlies : liesAt P P.depth bt (n / P.cellsOf bt) 0 t 1 = true) (hd : okDst Γ.n dst = true) :
    LS P Γ ⟨dst, .convert a b x, ty, pos, after, none⟩ s (rd x [.obj id]) (dst1 dst (.ref id 0)) [] :=
  ls_pure hd fun t' ht μ ac w hr => by
    obtain ⟨e1, ht⟩ := ht.ev hx
    have e0 : find t'.σ id = some (.box bt cs) := ht.1.trans hσ
    have e1 := hr.ev e1
    simp only [rep] at e1 ⊢
    obtain ⟨bt', cs', g, h1, h2, h3, h4⟩ := e1
    obtain ⟨g', us, h5, h6, h7⟩ := hr.store.obj id _ e0
    rw [h3] at h5
    injection h5 with h5; injection h5 with h5; injection h5 with h5; subst h5
    refine ⟨.pointer (some ⟨g, 0, none⟩), ?_, bt', cs', g, h1, h2, h3, rfl⟩
    have hsh : w.shape? g = some (bt, us.length) := by
      have : w.heap[g]? = some (.cells us.toArray bt (0, 0)) := h6
      simp [World.shape?, this]
    have hl : us.length = n := (repC_len h7).trans hc
    have hr2 := Lib.run_from_unsafe (P := P) w (src := a) (dst := b) ⟨g, 0, none⟩ ha hb hj hsh (by rw [hl]; exact hlies)
    simp [execOp, h4, hr2]
/-- a call that hands its one argument back -/
theorem ls_same {f : FuncId} {argTypes : Array TypeId} {x : Operand} {id : Nat} (hf : ∀ (y : Value) (w : World), (callFunc f #[y]).run P w = .ok (.value y) w) (hx : ev s x = some (.ref id 0)) (hd : okDst Γ.n dst = true) :
    LS P Γ ⟨dst, .call { callee := .value (.func f), args := #[x], argTypes := argTypes }, ty, pos, after, none⟩ s (rd x []) (dst1 dst (.ref id 0)) [] :=
  ls_pure hd fun t' ht μ ac w hr => by
    obtain ⟨e1, ht⟩ := ht.ev hx
    have e1 := hr.ev e1
    refine ⟨ac.eval x, ?_, e1⟩
    have he : ac.eval (.func f) = .func (.func f) #[] #[] := rfl
    simp [execOp, resolve, he, Deferred.ofValue, invoke, hf]
end
end Go.Proofs.YtbhblhcgfenobaaGreatDoor
namespace Go.Proofs.YtbhblhcgfenobaaGreatDoor
open Go.RowKit
set_option linter.unusedSimpArgs false
set_option linter.unusedVariables false
section
variable {P : Program} {Γ : Ctx} {s : ASt} {σ : Store} {μ : Nat → Value} {w : World} {A : Nat → Prop} {T : List TyI}
variable {dst : Option Tmp} {ty : TypeId} {pos : String} {after : Array Edge}
theorem repC_set {x : AV} {u : Value} : ∀ {cs : List AV} {us : List Value} {i : Nat}, repC σ μ w A cs us → cs[i]? = some (.v u) → (u.oneCell' = true → rep σ μ w A x u) → repC σ μ w A (cs.set i x) us
  | [], us, i, h, hc, hx => by simp at hc
  | c :: cs, us, 0, h, hc, hx => by
    simp only [repC] at h
    obtain ⟨v, us', rfl, h1, h2, h3⟩ := h
    simp only [List.getElem?_cons_zero, Option.some.injEq] at hc
    subst hc
    simp only [rep] at h2
    obtain ⟨rfl, _⟩ := h2
    simp only [List.set_cons_zero, repC]
    exact ⟨v, us', rfl, h1, hx h1, h3⟩
  | c :: cs, us, i + 1, h, hc, hx => by
    simp only [repC] at h
    obtain ⟨v, us', rfl, h1, h2, h3⟩ := h
    simp only [List.getElem?_cons_succ] at hc
    simp only [List.set_cons_succ, repC]
    exact ⟨v, us', rfl, h1, h2, repC_set h3 hc hx⟩
/-- A nil slice in a variable that will be appended to. -/
theorem a_adoptB {Q : Exit → ASt → Prop} {c : Code} (b i k e size : Nat) {t : TypeId} {cs : List AV} (hb : find s.σ b = some (.box t cs)) (hv : cs[i]? = some (.v (.slice none 0 0))) (hk : find s.σ k = none) (h : AWP P Γ c Q ⟨s.regs, (b, .box t (cs.set i (.own k 0))) :: (k, .row e size []) :: s.σ⟩) : AWP P Γ c Q s := by
  refine ⟨fun μ a w hr => h.out (setμ μ k (.slice none 0 0)) a w ?_⟩
  have hn := hr.new (w' := w) (v := .slice none 0 0) (o := .row e size []) hk (Below.refl _ w) (by simp [blk]) (fun μ' A hμ hμk hA hst => ⟨[], by rw [hμk]; exact OwnS.nil, by simp [repLL]⟩)
  have hbk : k ≠ b := fun e1 => by subst e1; rw [hk] at hb; cases hb
  have hb' : find ((k, SObj.row e size []) :: s.σ) b = some (.box t cs) := by rw [find_cons, if_neg hbk]; exact hb
  obtain ⟨g, us, hg1, hg2, hg3⟩ := hn.store.obj b _ hb'
  have hs := store_rel (s := s.eff [] [(k, .row e size [])]) (o' := .box t (cs.set i (.own k 0))) (g := g) hn hb' (by rw [hg1]; rfl) rfl rfl rfl rfl (fun _ _ => rfl) ⟨rfl, List.length_set⟩ (fun A hst hA => by
    refine ⟨g, us, hg1, hg2, repC_set (repC_mono hst hg3) hv (fun _ => ?_)⟩
    simp only [rep]
    refine ⟨rfl, .inr ⟨e, size, [], ?_, Nat.le_refl _, fun _ => (setμ_same _ _ _).symm⟩⟩
    rw [find_cons, if_neg (Ne.symm hbk)]
    simp [ASt.eff, find_cons])
  exact hs
end
end Go.Proofs.YtbhblhcgfenobaaGreatDoor
