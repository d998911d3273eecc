/-
  Walks over abstract values: a range over a map of one's own, in whatever order. Over whatever program. No condition.
  Two rows of the same results are alike, counted in a map.
-/
import Derived.Maps.Range
import Derived.Test.YtilgagmfcdfjaaaGreatM4
import Derived.Test.YtilgagmfcdfjaaaGreatM20
set_option linter.unusedSimpArgs false
set_option linter.unusedVariables false
set_option maxHeartbeats 20000000
namespace Go.Proofs.YtilgagmfcdfjaaaGreat
open Go.RowKit Go.ChangeMaps Go.MapKept
section
variable {P : Program} {Γ : Ctx} {s : ASt} {Q : Exit → ASt → Prop} {ops : Array Oper} {rest : List Oper}
variable {dst : Option Tmp} {ty : TypeId} {pos : String} {after : Array Edge}
theorem obj_g {σ : Store} {μ : Nat → Value} {w : World} {A : Nat → Prop} {id b : Nat} {es : List (Value × Value)} (h : ObjRel σ μ w A id (.mp (.g es b))) : ∃ ents ck, μ id = .map (some b) ∧ w.heap[b]? = some (.map ents ck) ∧ ents.toList.map (fun e => (e.key, e.val)) = es ∧ Borns ents ck := by
 obtain ⟨g, v, ob, h1, h2, h3, ents, ck, rfl, rfl, h4, h5⟩ := h
 simp only [blk, Option.some.injEq] at h2
 subst h2
 exact ⟨ents, ck, h1, h3, h4, h5⟩
theorem obj_it {σ : Store} {μ : Nat → Value} {w : World} {A : Nat → Prop} {id b n : Nat} {seen : List Nat} (h : ObjRel σ μ w A id (.mp (.it b n seen))) : ∃ r, μ id = .pointer (some ⟨r, 0, none⟩) ∧ w.heap[r]? = some (.mapIter (some b) n seen.toArray n) := by
 obtain ⟨g, v, ob, h1, h2, h3, r, rfl, rfl⟩ := h
 simp only [blk, Option.some.injEq] at h2
 subst h2
 exact ⟨_, h1, h3⟩
theorem o_range {m : Operand} {t kt et id : Nat} {es : List (Value × Value)} (k : Nat) (hm : ev s m = some (.mp id)) (hσ : find s.σ id = some (.mp (.m es))) (hu : P.underlying t = some (.map kt et)) (hk : find s.σ k = none) (hd : okDst Γ.n dst = true)
  (h : ∀ b, AOps P Γ ops rest Q (s.eff (dst1 dst (.mp k)) [(k, .mp (.it b es.length [])), (id, .mp (.g es b))])) : AOps P Γ ops (⟨dst, .range t m, ty, pos, after, none⟩ :: rest) Q s :=
 ⟨fun hnd μ a w hr => plain_in hnd rfl fun K hK => by
  obtain ⟨e1, _⟩ := (Agree.refl s (rd m [])).ev hm
  have e1 := hr.ev e1
  simp only [rep] at e1
  obtain ⟨g, ents, ck, h1, h2, h3, hbo⟩ := obj_map (hr.store.obj id _ hσ)
  have hne : id ≠ k := fun e => by rw [e, hk] at hσ; cases hσ
  have hr1 : Rel Γ (s.eff [] [(id, .mp (.g es g))]) μ a w := store_rel hr hσ (g := g) (by rw [h1]; rfl) rfl rfl rfl rfl (fun _ _ => rfl) trivial (fun A hst hA => ⟨g, _, _, h1, rfl, h2, ents, ck, rfl, rfl, h3, hbo⟩)
  have hk1 : find (s.eff [] [(id, .mp (.g es g))]).σ k = none := by
   simp only [ASt.eff, List.cons_append, List.nil_append, find_cons, if_neg hne]
   exact hk
  have hlen : ck = es.length := by rw [hbo.1, ← h3]; simp
  have hn := hr1.new (w' := w.alloc (.mapIter (some g) ck #[] ck)) (v := .pointer (some ⟨w.heap.size, 0, none⟩)) (o := .mp (.it g es.length [])) hk1 (below_alloc _ _) (by simp [blk]) (fun μ' A hμ hμk hA hst => by
   exact ⟨w.heap.size, _, _, hμk, rfl, (MapKept.heap_alloc w _).1, w.heap.size, rfl, by rw [hlen]⟩)
  have hfin := hn.put (d := dst) (x := .mp k) (y := .pointer (some ⟨w.heap.size, 0, none⟩)) hd (by
   simp only [rep, ASt.eff, List.cons_append, List.nil_append, find_cons, if_true]
   exact ⟨rfl, (setμ_same _ _ _).symm, _, rfl⟩)
  have hrun : (execOp a.eval ⟨dst, .range t m, ty, pos, after, none⟩).run P w = .ok (.value (.pointer (some ⟨w.heap.size, 0, none⟩))) (w.alloc (.mapIter (some g) ck #[] ck)) := by
   simp only [execOp, e1.2.1, h1, Sem.run_bind, run_range_map w t kt et g ents ck hu h2, Result.andThen_ok, Sem.run_pure]
  unfold Oper.wp
  rw [hrun]
  refine hK _ _ ((h g).out (nodef_cons hnd).2 (setμ μ k (.pointer (some ⟨w.heap.size, 0, none⟩))) _ _ ?_)
  cases dst <;> exact hfin⟩
theorem o_next {x : Operand} {id b : Nat} {es : List (Value × Value)} {seen : List Nat} (mid' : Nat) (KA VA : Nat → AV) (hx : ev s x = some (.mp id)) (h1 : find s.σ id = some (.mp (.it b es.length seen))) (h2 : find s.σ mid' = some (.mp (.g es b)))
  (hrep : ∀ (i : Nat) (p : Value × Value), es[i]? = some p → ∀ σ μ w A, rep σ μ w A (KA i) p.1 ∧ rep σ μ w A (VA i) p.2) (hd : okDst Γ.n dst = true)
  (hDone : (∀ i, i < es.length → i ∈ seen) → AOps P Γ ops rest Q (s.eff (dst1 dst (.tup [.v (.bool false)])) []))
  (hMore : ∀ i, i < es.length → i ∉ seen → AOps P Γ ops rest Q (s.eff (dst1 dst (.tup [.v (.bool true), KA i, VA i])) [(id, .mp (.it b es.length (seen ++ [i])))])) :
  AOps P Γ ops (⟨dst, .next x false, ty, pos, after, none⟩ :: rest) Q s :=
 ⟨fun hnd μ a w hr => plain_in hnd rfl fun K hK => by
  obtain ⟨e1, _⟩ := (Agree.refl s (rd x [])).ev hx
  have e1 := hr.ev e1
  simp only [rep] at e1
  obtain ⟨r, g1, g2⟩ := obj_it (hr.store.obj id _ h1)
  obtain ⟨ents, ck, g4, g5, g6, hbo⟩ := obj_g (hr.store.obj mid' _ h2)
  have hlen : ents.size = es.length := by rw [← g6]; simp
  have hbi : ∀ e ∈ ents.toList, ∃ i : Nat, i < es.length ∧ ents.toList[i]? = some e ∧ e.born = i := fun e he => by
   obtain ⟨i, hi, rfl⟩ := List.getElem_of_mem he
   have hi' : i < ents.size := by simpa using hi
   exact ⟨i, by omega, by simp [hi'], hbo.2 i _ (by simp [hi'])⟩
  have hold : ∀ e ∈ ents.toList, e.born < es.length := fun e he => by
   obtain ⟨i, hi, _, h3⟩ := hbi e he
   omega
  rcases run_next_at (P := P) w ty r b es.length es.length seen.toArray ents ck g2 g5 hold (Nat.le_refl _) with ⟨h0, hrun⟩ | ⟨e, he, w1, hal, hrun⟩
  ·have hrun2 : (execOp a.eval ⟨dst, .next x false, ty, pos, after, none⟩).run P w = .ok (.value (.tuple #[.bool false])) w := by
    simp only [execOp, e1.2.1, g1, Sem.run_bind, hrun, Result.andThen_ok, Sem.run_pure]
   unfold Oper.wp
   rw [hrun2]
   refine hK _ _ ((hDone fun i hi => ?_).out (nodef_cons hnd).2 μ _ _ (hr.put hd (by simp only [rep, repL]; exact ⟨[_], rfl, _, _, rfl, ⟨rfl, rfl⟩, rfl⟩)))
   have hi' : i < ents.size := by omega
   have h4 := all_seen ents seen.toArray h0 ents[i] (by simp)
   rw [hbo.2 i _ (by simp [hi'])] at h4
   simpa using h4
  ·obtain ⟨hem, hes⟩ := mem_left he
   obtain ⟨i, hi, hie, hbn⟩ := hbi e hem
   have hp : es[i]? = some (e.key, e.val) := by rw [← g6, List.getElem?_map, hie]; rfl
   have hns : i ∉ seen := by
    rw [hbn] at hes
    simpa using hes
   have hr1 : w1.heap[r]? = some (.mapIter (some b) es.length seen.toArray es.length) := by rcases hal with rfl | rfl <;> exact g2
   have hset := heap_set (o' := .mapIter (some b) es.length (seen.toArray.push e.born) ck) hr1
   have hsz : (setBlock w1 r (.mapIter (some b) es.length (seen.toArray.push e.born) ck)).heap.size = w.heap.size := by rcases hal with rfl | rfl <;> simp [setBlock]
   have hoth : ∀ c, c ≠ r → (setBlock w1 r (.mapIter (some b) es.length (seen.toArray.push e.born) ck)).heap[c]? = w.heap[c]? := fun c hc => (hset.2 c hc).trans (by rcases hal with rfl | rfl <;> rfl)
   have hst := store_rel hr h1 (g := r) (o' := .mp (.it b es.length (seen ++ [i]))) (w' := setBlock w1 r (.mapIter (some b) es.length (seen.toArray.push e.born) ck)) (by rw [g1]; rfl) hsz
    (by rcases hal with rfl | rfl <;> rfl) (by rcases hal with rfl | rfl <;> rfl) (by rcases hal with rfl | rfl <;> rfl) hoth trivial (fun A hst hA => ⟨r, _, _, g1, rfl, hset.1, r, rfl, by rw [hbn, show ck = es.length by rw [hbo.1]; exact hlen]; simp⟩)
   have hfin := hst.put (d := dst) (x := .tup [.v (.bool true), KA i, VA i]) (y := .tuple #[.bool true, e.key, e.val]) hd (by
    simp only [rep, repL]
    exact ⟨[_, _, _], rfl, _, _, rfl, ⟨rfl, rfl⟩, _, _, rfl, (hrep i _ hp _ _ _ _).1, _, _, rfl, (hrep i _ hp _ _ _ _).2, rfl⟩)
   have hrun2 : (execOp a.eval ⟨dst, .next x false, ty, pos, after, none⟩).run P w = .ok (.value (.tuple #[.bool true, e.key, e.val])) (setBlock w1 r (.mapIter (some b) es.length (seen.toArray.push e.born) ck)) := by
    simp only [execOp, e1.2.1, g1, Sem.run_bind, hrun, Result.andThen_ok, Sem.run_pure]
   unfold Oper.wp
   rw [hrun2]
   refine hK _ _ ((hMore i hi hns).out (nodef_cons hnd).2 μ _ _ ?_)
   cases dst <;> exact hfin⟩
theorem ls_entry {x : Operand} {id b n i : Nat} {es : List (Value × Value)} {seen : List Nat} {ka va : AV} {p : Value × Value} (mid : Nat) (hx : ev s x = some (.mp id)) (h1 : find s.σ id = some (.mp (.it b n (seen ++ [i])))) (h2 : find s.σ mid = some (.mp (.g es b))) (hn0 : n = es.length)
  (hp : es[i]? = some p) (hrep : ∀ σ μ w A, rep σ μ w A ka p.1 ∧ rep σ μ w A va p.2) (hd : okDst Γ.n dst = true) :
  LS P Γ ⟨dst, .entry x, ty, pos, after, none⟩ s (rd x [.obj id, .obj mid]) (dst1 dst (.tup [ka, va])) [] :=
 ls_pure hd fun t' ht μ a w hr => by
  obtain ⟨e1, ht⟩ := ht.ev hx
  have f1 : find t'.σ id = some (.mp (.it b n (seen ++ [i]))) := ht.1.trans h1
  have f2 : find t'.σ mid = some (.mp (.g es b)) := ht.2.1.trans h2
  have e1 := hr.ev e1
  simp only [rep] at e1
  obtain ⟨r, g1, g2⟩ := obj_it (hr.store.obj id _ f1)
  obtain ⟨ents, ck, g4, g5, g6, hbo⟩ := obj_g (hr.store.obj mid _ f2)
  have hn : n = ents.size := by rw [hn0, ← g6]; simp
  rw [← g6, List.getElem?_map] at hp
  cases he : ents.toList[i]? with
  | none => rw [he] at hp; cases hp
  | some e =>
   rw [he] at hp
   simp only [Option.map_some, Option.some.injEq] at hp
   subst hp
   have hei : ents[i]? = some e := by simpa using he
   have hbn := hbo.2 i e hei
   have hnd : (ents.toList.map (·.born)).Nodup := by
    rw [List.nodup_iff_pairwise_ne, List.pairwise_map, List.pairwise_iff_getElem]
    intro c d hc hd hcd
    have hc' : c < ents.size := by simpa using hc
    have hd' : d < ents.size := by simpa using hd
    have h3 := hbo.2 c _ (show ents[c]? = some ents[c] by simp [hc'])
    have h4 := hbo.2 d _ (show ents[d]? = some ents[d] by simp [hd'])
    simp only [Array.getElem_toList]
    omega
   have hrun := run_entry_at (P := P) w r b n seen.toArray ents ck e (by rw [g2, hbn]; simp [hn, hbo.1]) g5 (by
    have := List.mem_of_getElem? he
    exact this) hnd
   have hrp := hrep t'.σ μ w (av t'.σ μ Γ.M)
   refine ⟨.tuple #[e.key, e.val], by simp only [execOp, e1.2.1, g1, Sem.run_bind, hrun, Result.andThen_ok, Sem.run_pure], ?_⟩
   simp only [rep, repL]
   exact ⟨[_, _], rfl, _, _, rfl, hrp.1, _, _, rfl, hrp.2, rfl⟩
end
end Go.Proofs.YtilgagmfcdfjaaaGreat
namespace Go.Proofs.YtilgagmfcdfjaaaGreat
open Go.RowKit
theorem CntF.congr {ms : Cnt} {f g : Rs → Int} (h : CntF ms f) (e : ∀ t, f t = g t) : CntF ms g := ⟨h.uniq, fun t => (h.at' t).trans (e t), h.hr⟩
theorem CntF.up {ms : Cnt} {f : Rs → Int} {L : List Rs} {x : Rs} (h : CntF ms fun t => f t + L.count t) (hx : x.right) : CntF (cSet ms x (cAt ms x + 1)) fun t => f t + (L ++ [x]).count t := by
 refine (h.set hx _).congr fun t => ?_
 rw [h.at', List.count_append]
 by_cases e : t = x
 ·subst e; rw [if_pos rfl]; simp; omega
 ·rw [if_neg e, List.count_eq_zero.2 (show t ∉ [x] by simp [e])]; simp
theorem CntF.down {ms : Cnt} {f : Rs → Int} {L : List Rs} {x : Rs} (h : CntF ms fun t => f t - L.count t) (hx : x.right) : CntF (cSet ms x (cAt ms x - 1)) fun t => f t - (L ++ [x]).count t := by
 refine (h.set hx _).congr fun t => ?_
 rw [h.at', List.count_append]
 by_cases e : t = x
 ·subst e; rw [if_pos rfl]; simp; omega
 ·rw [if_neg e, List.count_eq_zero.2 (show t ∉ [x] by simp [e])]; simp
theorem nodup_len {l : List Nat} {n : Nat} (h : l.Nodup) (hl : ∀ i ∈ l, i < n) : l.length ≤ n := by
 have := h.length_le_of_subset (l₂ := List.range n) fun i hi => List.mem_range.2 (hl i hi)
 rwa [List.length_range] at this
set_option maxRecDepth 20000 in
theorem l_like (A B : List Rs) (hp : A.Perm B) (hA : A.length ≤ 1000000) (hr : ∀ x ∈ A, x.right) : PC Tryz.prog 22 [.sl 5 (A.map Rs.av), .sl 5 (B.map Rs.av)] (.v (.bool true)) := by
 have hAl : (A.map Rs.av).length = A.length := List.length_map _
 have hBl : (B.map Rs.av).length = B.length := List.length_map _
 have hBA := hp.length_eq
 have hrB : ∀ x ∈ B, x.right := fun x hx => hr x (hp.mem_iff.2 hx)
 refine PC.mk (ac_body tab_ok Tryz.func22 rfl (by kernel_rfl) rfl ?_); intro w0 M μ0; simp only [Tryz.ntmps22, List.length_cons, List.length_nil, Nat.reduceAdd, Nat.reduceSub, numb]
 repeat' (first | ((first | apply o_do | apply d_do | apply d_yes rfl rfl rfl); first | exact ls_makeMap (k := 0) rfl rfl | exact lsq) | refine a_seq ?_ | refine a_region ?_ | refine o_nil ?_ | refine a_block ?_ | refine a_ret ?_ | refine a_exit ?_ | refine a_skip ?_ | refine a_drawA mixed ?_ | refine d_nil (by kernel_rfl) ?_ | refine o_yes rfl rfl rfl ?_ | refine o_no rfl rfl rfl (by decide) ?_ | refine o_no' rfl rfl rfl ?_ | refine a_condT rfl ?_ | refine a_condF rfl ?_ | refine d_no rfl rfl rfl (by decide) ?_ | refine d_no' rfl rfl rfl ?_ | (refine wq2 (fun hb => ?_) (fun hb => ?_) <;> (simp only [hb]; try simp only [hbs, ne_eq] at hb; try (exfalso; first | omega | exact hb trivial))) | fail)
 refine a_loop (X := {x : Nat × Cnt // x.1 ≤ A.length ∧ CntF x.2 fun t => 0 + (A.take x.1).count t}) (fun x => ⟨[(0, .sl 5 (A.map Rs.av)), (1, .sl 5 (B.map Rs.av)), (5, .mp 0), (13, .sl 5 (A.map Rs.av)), (14, .v (.int .i64 A.length)), (15, .v (.int .i64 x.1.1))], [(0, .mp (.m (x.1.2.map cEnt)))]⟩) (fun x => A.length - x.1.1) ⟨(0, []), Nat.zero_le _, cntF_nil.congr fun t => by simp⟩ ?_ ?_
 ·exact wkS
 rintro ⟨⟨q, ms⟩, hq, hC⟩
 dsimp only at hq hC ⊢
 by_cases hlt : q < A.length
 ·have hel : (A.map Rs.av)[q]? = some (Rs.av A[q]) := by simp [hlt]
  have hxr := hr _ (List.getElem_mem hlt)
  have hB := hC.up hxr
  rw [← take_snoc A q hlt] at hB
  generalize A[q] = x at *
  have hF := CF.of hC hxr
  have k7 : -1000000 ≤ cAt ms x ∧ cAt ms x ≤ 1000000 := by
   rw [hC.at']
   have := List.count_le_length (a := x) (l := A.take q)
   have := List.length_take (i := q) (l := A)
   omega
  repeat' (first | ((first | apply o_do | apply d_do | apply d_yes rfl rfl rfl); first | exact ls_indexAddr_sl tab_ok rfl rfl rfl rfl hel rfl | exact lsq) | refine a_seq ?_ | refine a_region ?_ | refine o_nil ?_ | refine a_block ?_ | refine a_ret ?_ | refine a_exit ?_ | refine a_skip ?_ | refine a_drawA mixed ?_ | refine d_nil (by kernel_rfl) ?_ | refine o_yes rfl rfl rfl ?_ | refine o_no rfl rfl rfl (by decide) ?_ | refine o_no' rfl rfl rfl ?_ | refine a_condT rfl ?_ | refine a_condF rfl ?_ | refine d_no rfl rfl rfl (by decide) ?_ | refine d_no' rfl rfl rfl ?_ | (refine wq2 (fun hb => ?_) (fun hb => ?_) <;> (simp only [hb]; try simp only [hbs, ne_eq] at hb; try (exfalso; first | omega | exact hb trivial))) | fail)
  repeat' first
   | exact arl_nil
   | refine ar_done (by decide +kernel) ?_
   | refine ar_step [0, 1] (by decide +kernel) rfl ?_
   | refine ar_step [1] (by decide +kernel) rfl ?_
   | refine ar_step [2, 4] (by decide +kernel) rfl ?_
   | refine ar_step [3, 4] (by decide +kernel) rfl ?_
   | refine ar_step [4] (by decide +kernel) rfl ?_
   | refine ar_step [5] (by decide +kernel) rfl ?_
   | refine ar_step [6] (by decide +kernel) rfl ?_
   | refine ar_step [3, 5] (by decide +kernel) rfl ?_
   | refine ar_step [3] (by decide +kernel) rfl ?_
   | refine ar_step [2, 5] (by decide +kernel) rfl ?_
   | refine ar_step [2] (by decide +kernel) rfl ?_
   | refine ar_step [0] (by decide +kernel) rfl ?_
   | (apply arl_cons (i := 0) rfl rfl; focus (exact lsq))
   | (apply arl_cons (i := 1) rfl rfl; focus (exact lsq))
   | (apply arl_cons (i := 2) rfl rfl; focus (exact ls_cl hF rfl rfl rfl rfl))
   | (apply arl_cons (i := 2) rfl rfl; focus (exact ls_cl' hF rfl rfl rfl rfl))
   | (apply arl_cons (i := 3) rfl rfl; focus (exact lsq))
   | (apply arl_cons (i := 4) rfl rfl; focus (exact ls_cm hF rfl rfl rfl rfl))
   | (apply arl_cons (i := 5) rfl rfl; focus (exact lsq))
   | (apply arl_cons (i := 6) rfl rfl; focus (exact ls_ce (ms := ms) (t := x) rfl rfl rfl rfl rfl))
  all_goals
   repeat' (first | ((first | apply o_do | apply d_do | apply d_yes rfl rfl rfl); exact lsq) | refine a_seq ?_ | refine a_region ?_ | refine o_nil ?_ | refine a_block ?_ | refine a_ret ?_ | refine a_exit ?_ | refine a_skip ?_ | refine a_draw mixed ?_ | refine d_nil (by kernel_rfl) ?_ | refine o_yes rfl rfl rfl ?_ | refine o_no rfl rfl rfl (by decide) ?_ | refine o_no' rfl rfl rfl ?_ | refine a_condT rfl ?_ | refine a_condF rfl ?_ | refine d_no rfl rfl rfl (by decide) ?_ | refine d_no' rfl rfl rfl ?_ | (refine wq2 (fun hb => ?_) (fun hb => ?_) <;> (simp only [hb]; try simp only [hbs, ne_eq] at hb; try (exfalso; first | omega | exact hb trivial))) | fail)
   refine ⟨⟨(q + 1, _), by dsimp only; omega, hB⟩, by dsimp only; omega, ?_⟩
   exact wkS
 obtain rfl : q = A.length := by omega
 rw [List.take_length] at hC
 repeat' (first | ((first | apply o_do | apply d_do | apply d_yes rfl rfl rfl); first | fail | exact lsq) | refine a_seq ?_ | refine a_region ?_ | refine o_nil ?_ | refine a_block ?_ | refine a_ret ?_ | refine a_exit ?_ | refine a_skip ?_ | refine a_drawA mixed ?_ | refine d_nil (by kernel_rfl) ?_ | refine o_yes rfl rfl rfl ?_ | refine o_no rfl rfl rfl (by decide) ?_ | refine o_no' rfl rfl rfl ?_ | refine a_condT rfl ?_ | refine a_condF rfl ?_ | refine d_no rfl rfl rfl (by decide) ?_ | refine d_no' rfl rfl rfl ?_ | (refine wq2 (fun hb => ?_) (fun hb => ?_) <;> (simp only [hb]; try simp only [hbs, ne_eq] at hb; try (exfalso; first | omega | exact hb trivial))) | fail)
 refine a_loop (X := {x : Nat × Cnt // x.1 ≤ B.length ∧ CntF x.2 fun t => (0 + (A.count t : Int)) - (B.take x.1).count t}) (fun x => ⟨[(1, .sl 5 (B.map Rs.av)), (5, .mp 0), (26, .sl 5 (B.map Rs.av)), (27, .v (.int .i64 B.length)), (28, .v (.int .i64 x.1.1))], [(0, .mp (.m (x.1.2.map cEnt)))]⟩) (fun x => B.length - x.1.1) ⟨(0, ms), Nat.zero_le _, hC.congr fun t => by simp⟩ ?_ ?_
 ·exact wkS
 clear hC ms
 rintro ⟨⟨q, ms⟩, hq, hC⟩
 dsimp only at hq hC ⊢
 by_cases hlt : q < B.length
 ·have hel : (B.map Rs.av)[q]? = some (Rs.av B[q]) := by simp [hlt]
  have hxr := hrB _ (List.getElem_mem hlt)
  have hB := hC.down hxr
  rw [← take_snoc B q hlt] at hB
  generalize B[q] = x at *
  have hF := CF.of hC hxr
  have k7 : -1000000 ≤ cAt ms x ∧ cAt ms x ≤ 1000000 := by
   rw [hC.at']
   have := List.count_le_length (a := x) (l := B.take q)
   have := List.length_take (i := q) (l := B)
   have := List.count_le_length (a := x) (l := A)
   omega
  repeat' (first | ((first | apply o_do | apply d_do | apply d_yes rfl rfl rfl); first | exact ls_indexAddr_sl tab_ok rfl rfl rfl rfl hel rfl | exact lsq) | refine a_seq ?_ | refine a_region ?_ | refine o_nil ?_ | refine a_block ?_ | refine a_ret ?_ | refine a_exit ?_ | refine a_skip ?_ | refine a_drawA mixed ?_ | refine d_nil (by kernel_rfl) ?_ | refine o_yes rfl rfl rfl ?_ | refine o_no rfl rfl rfl (by decide) ?_ | refine o_no' rfl rfl rfl ?_ | refine a_condT rfl ?_ | refine a_condF rfl ?_ | refine d_no rfl rfl rfl (by decide) ?_ | refine d_no' rfl rfl rfl ?_ | (refine wq2 (fun hb => ?_) (fun hb => ?_) <;> (simp only [hb]; try simp only [hbs, ne_eq] at hb; try (exfalso; first | omega | exact hb trivial))) | fail)
  repeat' first
   | exact arl_nil
   | refine ar_done (by decide +kernel) ?_
   | refine ar_step [0, 1] (by decide +kernel) rfl ?_
   | refine ar_step [1] (by decide +kernel) rfl ?_
   | refine ar_step [2, 4] (by decide +kernel) rfl ?_
   | refine ar_step [3, 4] (by decide +kernel) rfl ?_
   | refine ar_step [4] (by decide +kernel) rfl ?_
   | refine ar_step [5] (by decide +kernel) rfl ?_
   | refine ar_step [6] (by decide +kernel) rfl ?_
   | refine ar_step [3, 5] (by decide +kernel) rfl ?_
   | refine ar_step [3] (by decide +kernel) rfl ?_
   | refine ar_step [2, 5] (by decide +kernel) rfl ?_
   | refine ar_step [2] (by decide +kernel) rfl ?_
   | refine ar_step [0] (by decide +kernel) rfl ?_
   | (apply arl_cons (i := 0) rfl rfl; focus (exact lsq))
   | (apply arl_cons (i := 1) rfl rfl; focus (exact lsq))
   | (apply arl_cons (i := 2) rfl rfl; focus (exact ls_cl hF rfl rfl rfl rfl))
   | (apply arl_cons (i := 2) rfl rfl; focus (exact ls_cl' hF rfl rfl rfl rfl))
   | (apply arl_cons (i := 3) rfl rfl; focus (exact lsq))
   | (apply arl_cons (i := 4) rfl rfl; focus (exact ls_cm hF rfl rfl rfl rfl))
   | (apply arl_cons (i := 5) rfl rfl; focus (exact lsq))
   | (apply arl_cons (i := 6) rfl rfl; focus (exact ls_ce (ms := ms) (t := x) rfl rfl rfl rfl rfl))
  all_goals
   repeat' (first | ((first | apply o_do | apply d_do | apply d_yes rfl rfl rfl); exact lsq) | refine a_seq ?_ | refine a_region ?_ | refine o_nil ?_ | refine a_block ?_ | refine a_ret ?_ | refine a_exit ?_ | refine a_skip ?_ | refine a_draw mixed ?_ | refine d_nil (by kernel_rfl) ?_ | refine o_yes rfl rfl rfl ?_ | refine o_no rfl rfl rfl (by decide) ?_ | refine o_no' rfl rfl rfl ?_ | refine a_condT rfl ?_ | refine a_condF rfl ?_ | refine d_no rfl rfl rfl (by decide) ?_ | refine d_no' rfl rfl rfl ?_ | (refine wq2 (fun hb => ?_) (fun hb => ?_) <;> (simp only [hb]; try simp only [hbs, ne_eq] at hb; try (exfalso; first | omega | exact hb trivial))) | fail)
   refine ⟨⟨(q + 1, _), by dsimp only; omega, hB⟩, by dsimp only; omega, ?_⟩
   exact wkS
 obtain rfl : q = B.length := by omega
 rw [List.take_length] at hC
 have hz : ∀ (i : Nat) (p : Rs × Int), ms[i]? = some p → p.2 = 0 := fun i p h => by
  rw [← uniq_at hC.uniq h, hC.at', hp.count_eq]; omega
 have hml : (ms.map cEnt).length = ms.length := List.length_map _
 have hrep : ∀ (i : Nat) (p : Value × Value), (ms.map cEnt)[i]? = some p → ∀ σ μ w A, rep σ μ w A ((fun i => .agg (Rs.av ((ms[i]?).getD (⟨0, 0, .empty, 0, 0⟩, 0)).1)) i) p.1 ∧ rep σ μ w A ((fun _ => AV.v (.int .i64 0)) i) p.2 := by
  intro i p h σ μ w A
  rw [List.getElem?_map] at h
  obtain ⟨y, hy, rfl⟩ := Option.map_eq_some_iff.1 h
  dsimp only
  rw [hy, Option.getD_some]
  refine ⟨?_, ?_⟩
  ·simp only [rep, cEnt, keyR]
   exact ⟨[_, _, _, _, _], rfl, repC_con (cs := [.int .i64 y.1.lo, .int .i64 y.1.hi, .string y.1.key, .int .i64 y.1.n, .int .i64 y.1.val]) rfl⟩
  ·simp only [rep]
   exact ⟨by show Value.int .i64 y.2 = _; rw [hz i y hy], rfl⟩
 repeat' (first | ((first | apply o_do | apply d_do | apply d_yes rfl rfl rfl); first | fail | exact lsq) | refine a_seq ?_ | refine a_region ?_ | refine o_nil ?_ | refine a_block ?_ | refine a_ret ?_ | refine a_exit ?_ | refine a_skip ?_ | refine a_drawA mixed ?_ | refine d_nil (by kernel_rfl) ?_ | refine o_yes rfl rfl rfl ?_ | refine o_no rfl rfl rfl (by decide) ?_ | refine o_no' rfl rfl rfl ?_ | refine a_condT rfl ?_ | refine a_condF rfl ?_ | refine d_no rfl rfl rfl (by decide) ?_ | refine d_no' rfl rfl rfl ?_ | (refine wq2 (fun hb => ?_) (fun hb => ?_) <;> (simp only [hb]; try simp only [hbs, ne_eq] at hb; try (exfalso; first | omega | exact hb trivial))) | fail)
 refine o_range 1 rfl rfl Tryz.underlying111 rfl rfl (fun b => ?_)
 repeat' (first | ((first | apply o_do | apply d_do | apply d_yes rfl rfl rfl); first | fail | exact lsq) | refine a_seq ?_ | refine a_region ?_ | refine o_nil ?_ | refine a_block ?_ | refine a_ret ?_ | refine a_exit ?_ | refine a_skip ?_ | refine a_drawA mixed ?_ | refine d_nil (by kernel_rfl) ?_ | refine o_yes rfl rfl rfl ?_ | refine o_no rfl rfl rfl (by decide) ?_ | refine o_no' rfl rfl rfl ?_ | refine a_condT rfl ?_ | refine a_condF rfl ?_ | refine d_no rfl rfl rfl (by decide) ?_ | refine d_no' rfl rfl rfl ?_ | (refine wq2 (fun hb => ?_) (fun hb => ?_) <;> (simp only [hb]; try simp only [hbs, ne_eq] at hb; try (exfalso; first | omega | exact hb trivial))) | fail)
 refine a_loop (X := {l : List Nat // l.Nodup ∧ ∀ i ∈ l, i < ms.length}) (fun x => ⟨[(40, .mp 1)], [(0, .mp (.g (ms.map cEnt) b)), (1, .mp (.it b (ms.map cEnt).length x.1))]⟩) (fun x => ms.length - x.1.length) ⟨[], List.nodup_nil, by simp⟩ ?_ ?_
 ·exact wkS
 rintro ⟨seen, hs1, hs2⟩
 dsimp only
 repeat' (first | ((first | apply o_do | apply d_do | apply d_yes rfl rfl rfl); first | fail | exact lsq) | refine a_seq ?_ | refine a_region ?_ | refine o_nil ?_ | refine a_block ?_ | refine a_ret ?_ | refine a_exit ?_ | refine a_skip ?_ | refine a_drawA mixed ?_ | refine d_nil (by kernel_rfl) ?_ | refine o_yes rfl rfl rfl ?_ | refine o_no rfl rfl rfl (by decide) ?_ | refine o_no' rfl rfl rfl ?_ | refine a_condT rfl ?_ | refine a_condF rfl ?_ | refine d_no rfl rfl rfl (by decide) ?_ | refine d_no' rfl rfl rfl ?_ | (refine wq2 (fun hb => ?_) (fun hb => ?_) <;> (simp only [hb]; try simp only [hbs, ne_eq] at hb; try (exfalso; first | omega | exact hb trivial))) | fail)
 refine o_next 0 _ _ rfl rfl rfl hrep rfl (fun hall => ?_) (fun i hi hns => ?_)
 ·repeat' (first | ((first | apply o_do | apply d_do | apply d_yes rfl rfl rfl); first | fail | exact lsq) | refine a_seq ?_ | refine a_region ?_ | refine o_nil ?_ | refine a_block ?_ | refine a_ret ?_ | refine a_exit ?_ | refine a_skip ?_ | refine a_drawA mixed ?_ | refine d_nil (by kernel_rfl) ?_ | refine o_yes rfl rfl rfl ?_ | refine o_no rfl rfl rfl (by decide) ?_ | refine o_no' rfl rfl rfl ?_ | refine a_condT rfl ?_ | refine a_condF rfl ?_ | refine d_no rfl rfl rfl (by decide) ?_ | refine d_no' rfl rfl rfl ?_ | (refine wq2 (fun hb => ?_) (fun hb => ?_) <;> (simp only [hb]; try simp only [hbs, ne_eq] at hb; try (exfalso; first | omega | exact hb trivial))) | fail)
  all_goals refine rq rfl ?_
  all_goals exact fnq
 ·rw [hml] at hi
  have hn2 : (seen ++ [i]).Nodup ∧ ∀ k ∈ seen ++ [i], k < ms.length := by
   refine ⟨?_, fun k hk => ?_⟩
   ·rw [List.nodup_append]
    exact ⟨hs1, by simp, fun a ha c hc => by rw [List.mem_singleton.1 hc]; rintro rfl; exact hns ha⟩
   ·rcases List.mem_append.1 hk with h | h
    ·exact hs2 k h
    ·rw [List.mem_singleton.1 h]; exact hi
  have hlen := nodup_len hn2.1 hn2.2
  rw [List.length_append, List.length_singleton] at hlen
  obtain ⟨p, hp2⟩ : ∃ p, (ms.map cEnt)[i]? = some p := ⟨_, List.getElem?_eq_getElem (by rw [hml]; exact hi)⟩
  repeat' (first | ((first | apply o_do | apply d_do | apply d_yes rfl rfl rfl); first | exact ls_entry 0 rfl rfl rfl rfl hp2 (hrep i p hp2) rfl | exact lsq) | refine a_seq ?_ | refine a_region ?_ | refine o_nil ?_ | refine a_block ?_ | refine a_ret ?_ | refine a_exit ?_ | refine a_skip ?_ | refine a_drawA mixed ?_ | refine d_nil (by kernel_rfl) ?_ | refine o_yes rfl rfl rfl ?_ | refine o_no rfl rfl rfl (by decide) ?_ | refine o_no' rfl rfl rfl ?_ | refine a_condT rfl ?_ | refine a_condF rfl ?_ | refine d_no rfl rfl rfl (by decide) ?_ | refine d_no' rfl rfl rfl ?_ | (refine wq2 (fun hb => ?_) (fun hb => ?_) <;> (simp only [hb]; try simp only [hbs, ne_eq] at hb; try (exfalso; first | omega | exact hb trivial))) | fail)
  all_goals
   refine ⟨⟨seen ++ [i], hn2⟩, by simp only [List.length_append, List.length_singleton]; omega, ?_⟩
   exact wkS
end Go.Proofs.YtilgagmfcdfjaaaGreat
