/-
  'clepsydralaw14.ModelMore' returns true for every input.
-/
import Derived.Test.YtlgbadlgfdlheaaR4
import Derived.Test.YtlgbadlgfdlheaaR5
import Derived.Test.YtlgbadlgfdlheaaR9
import Derived.Test.YtlgbadlgfdlheaaR11
set_option linter.unusedSimpArgs false
set_option linter.unusedVariables false
set_option maxHeartbeats 20000000
namespace Go.Proofs.Ytlgbadlgfdlheaa
open Go.RowKit
section
theorem ins_more {k : Int} {x : Pn} (hk : fRight k = true) : ∀ {l : List Pn}, (∀ p ∈ l, GoodP p) → GoodP x → sumN l + x.n ≤ 1000000000 → ∀ p ∈ l, ∃ q ∈ insP k l x, q.lo = p.lo ∧ q.hi = p.hi ∧ q.key = p.key ∧ p.n ≤ q.n
 | [], _, _, _ => by simp
 | y :: l, h, hx, hs => by
  intro p hp
  have hy := h y (by simp)
  have e : sumN (y :: l) = y.n + sumN l := by simp [sumN]
  have h0 := sumN_nonneg (l := l) fun p hp => h p (by simp [hp])
  have hy1 := hy.2
  rcases rel3 y x with h1 | h1 | h1
  ·rw [ins_a h1]
   rcases List.mem_cons.1 hp with rfl | hp
   ·exact ⟨p, by simp, rfl, rfl, rfl, Int.le_refl _⟩
   ·obtain ⟨q, hq, h2⟩ := ins_more hk (x := x) (l := l) (fun p hp => h p (by simp [hp])) hx (by omega) p hp
    exact ⟨q, by simp [hq], h2⟩
  ·rw [ins_s h1]
   rcases List.mem_cons.1 hp with rfl | hp
   ·have h2 := joinP_good hk hy hx (by omega)
    have hx1 := hx.2
    exact ⟨joinP k p x, by simp, rfl, rfl, rfl, by rw [h2.2]; omega⟩
   ·exact ⟨p, by simp [hp], rfl, rfl, rfl, Int.le_refl _⟩
  ·rw [ins_b h1]
   exact ⟨p, by simp [List.mem_cons.1 hp], rfl, rfl, rfl, Int.le_refl _⟩
theorem insAll_more {k : Int} (hk : fRight k = true) : ∀ {vs l : List Pn}, (∀ p ∈ l, GoodP p) → (∀ p ∈ vs, GoodP p) → sumN l + sumN vs ≤ 1000000000 → ∀ p ∈ l, ∃ q ∈ insAll k l vs, q.lo = p.lo ∧ q.hi = p.hi ∧ q.key = p.key ∧ p.n ≤ q.n
 | [], l, _, _, _ => fun p hp => ⟨p, hp, rfl, rfl, rfl, Int.le_refl _⟩
 | v :: vs, l, h, hv, hs => fun p hp => by
  have e : sumN (v :: vs) = v.n + sumN vs := by simp [sumN]
  have h0 := sumN_nonneg (l := vs) fun p hp => hv p (by simp [hp])
  obtain ⟨h1, h2⟩ := ins_good hk h (hv v (by simp)) (by omega)
  obtain ⟨q, hq, a1, a2, a3, a4⟩ := ins_more hk h (hv v (by simp)) (by omega) p hp
  obtain ⟨r, hr, b1, b2, b3, b4⟩ := insAll_more hk (vs := vs) (l := insP k l v) h1 (fun p hp => hv p (by simp [hp])) (by omega) q hq
  exact ⟨r, hr, b1.trans a1, b2.trans a2, b3.trans a3, by omega⟩
end
theorem rowV_more {k : Int} (hk : fRight k = true) {vs ws : List Vl} (hl : vs.length + ws.length ≤ 1000000) : ∀ p ∈ rowV k vs, ∃ q ∈ rowV k (vs ++ ws), q.lo = p.lo ∧ q.hi = p.hi ∧ q.key = p.key ∧ p.n ≤ q.n := by
 have h1 := rowM_good hk (l := vs) (by omega)
 have e : rowV k (vs ++ ws) = insAll k (rowV k vs) (ws.map (vP k)) := by
  unfold rowV
  rw [List.map_append, insAll_app]
 rw [e]
 refine insAll_more hk h1.1 (vPs_good hk) ?_
 rw [h1.2, vPs_sum hk]
 omega
def winV (r : Rs) : Value := .agg #[.int .i64 r.lo, .int .i64 r.hi]
def SameK (x y : Rs) : Prop := x.lo = y.lo ∧ x.hi = y.hi ∧ x.key = y.key
def UniqR (l : List Rs) : Prop := ∀ (i j : Nat) x y, l[i]? = some x → l[j]? = some y → SameK x y → i = j
theorem uniq_row {k : Int} {l : List Pn} (h : l.Pairwise (fun p q => ahead p q = true)) : UniqR (l.map (resOf k)) := by
 have key : ∀ (i j : Nat) p q, i < j → l[i]? = some p → l[j]? = some q → ¬ SameK (resOf k p) (resOf k q) := by
  intro i j p q hij hp hq hs
  obtain ⟨hi, rfl⟩ := List.getElem?_eq_some_iff.1 hp
  obtain ⟨hj, rfl⟩ := List.getElem?_eq_some_iff.1 hq
  have h1 := List.pairwise_iff_getElem.1 h i j hi hj hij
  obtain ⟨a, b, c⟩ := hs
  rw [same_ahead ⟨b, a, c⟩] at h1
  cases h1
 intro i j x y hx hy hs
 rw [List.getElem?_map] at hx hy
 obtain ⟨p, hp, rfl⟩ := Option.map_eq_some_iff.1 hx
 obtain ⟨q, hq, rfl⟩ := Option.map_eq_some_iff.1 hy
 rcases Nat.lt_trichotomy i j with h1 | h1 | h1
 ·exact absurd hs (key i j p q h1 hp hq)
 ·exact h1
 ·exact absurd ⟨hs.1.symm, hs.2.1.symm, hs.2.2.symm⟩ (key j i q p h1 hq hp)
structure InvM (l : List In1) (bs : List Rs) : Prop where
 win : ∀ x ∈ l, ∃ y ∈ bs, x.win = winV y
 dis : ∀ (i j : Nat) x y, l[i]? = some x → l[j]? = some y → x.win = y.win → i = j
 ent : ∀ x ∈ l, ∀ p ∈ x.es, ∃ y ∈ bs, x.win = winV y ∧ p = (.string y.key, .int .i64 y.n)
 all : ∀ y ∈ bs, ∃ (i : Nat) (x : In1), l[i]? = some x ∧ x.win = winV y ∧ ((.string y.key, .int .i64 y.n) : Value × Value) ∈ x.es
theorem winV_inj {x y : Rs} (h : winV x = winV y) : x.lo = y.lo ∧ x.hi = y.hi := by
 unfold winV at h
 injection h with h
 simpa using h
theorem InvM.nil : InvM [] [] := ⟨by simp, by simp, by simp, by simp⟩
theorem InvM.new {l : List In1} {bs : List Rs} (h : InvM l bs) {z : Rs} {b : Nat} (hz : ∀ x ∈ l, x.win ≠ winV z) : InvM (l ++ [⟨winV z, b, [(.string z.key, .int .i64 z.n)]⟩]) (bs ++ [z]) := by
 refine ⟨fun x hx => ?_, fun i j x y hx hy e => ?_, fun x hx p hp => ?_, fun y hy => ?_⟩
 ·rcases List.mem_append.1 hx with hx | hx
  ·obtain ⟨y, hy, e⟩ := h.win x hx
   exact ⟨y, by simp [hy], e⟩
  ·rw [List.mem_singleton] at hx; subst hx
   exact ⟨z, by simp, rfl⟩
 ·have key : ∀ (i : Nat) x, (l ++ [(⟨winV z, b, [(.string z.key, .int .i64 z.n)]⟩ : In1)])[i]? = some x → (l[i]? = some x ∧ x.win ≠ winV z) ∨ (i = l.length ∧ x.win = winV z) := by
   intro i x hx
   rw [List.getElem?_append] at hx
   split at hx
   ·exact .inl ⟨hx, hz x (List.mem_of_getElem? hx)⟩
   ·rename_i hge
    right
    have hi : i - l.length = 0 := by
     rcases Nat.eq_zero_or_pos (i - l.length) with e | e
     ·exact e
     ·rw [List.getElem?_eq_none (by simp; omega)] at hx; cases hx
    rw [hi] at hx
    simp at hx
    subst hx
    exact ⟨by omega, rfl⟩
  rcases key i x hx with ⟨h1, h2⟩ | ⟨h1, h2⟩ <;> rcases key j y hy with ⟨h3, h4⟩ | ⟨h3, h4⟩
  ·exact h.dis i j x y h1 h3 e
  ·exact absurd (e.trans h4) h2
  ·exact absurd (e.symm.trans h2) h4
  ·omega
 ·rcases List.mem_append.1 hx with hx | hx
  ·obtain ⟨y, hy, e⟩ := h.ent x hx p hp
   exact ⟨y, by simp [hy], e⟩
  ·rw [List.mem_singleton] at hx; subst hx
   rw [List.mem_singleton] at hp
   exact ⟨z, by simp, rfl, hp⟩
 ·rcases List.mem_append.1 hy with hy | hy
  ·obtain ⟨i, x, h1, h2⟩ := h.all y hy
   exact ⟨i, x, by rw [List.getElem?_append_left (List.getElem?_eq_some_iff.1 h1).1]; exact h1, h2⟩
  ·rw [List.mem_singleton] at hy; subst hy
   exact ⟨l.length, ⟨winV y, b, [(.string y.key, .int .i64 y.n)]⟩, by simp, rfl, by simp⟩
theorem InvM.add {l : List In1} {bs : List Rs} (h : InvM l bs) {z : Rs} {i : Nat} {x : In1} (hx : l[i]? = some x) (hz : x.win = winV z) : InvM (l.set i ⟨x.win, x.b, x.es ++ [(.string z.key, .int .i64 z.n)]⟩) (bs ++ [z]) := by
 have hlt := (List.getElem?_eq_some_iff.1 hx).1
 have key : ∀ (j : Nat) y, (l.set i (⟨x.win, x.b, x.es ++ [(.string z.key, .int .i64 z.n)]⟩ : In1))[j]? = some y → (i ≠ j ∧ l[j]? = some y) ∨ (i = j ∧ y = ⟨x.win, x.b, x.es ++ [(.string z.key, .int .i64 z.n)]⟩) := by
  intro j y hy
  rw [List.getElem?_set] at hy
  split at hy
  ·rename_i e
   subst e
   first | (rw [if_pos hlt] at hy) | skip
   injection hy with hy
   exact .inr ⟨rfl, hy.symm⟩
  ·rename_i e
   exact .inl ⟨e, hy⟩
 refine ⟨fun y hy => ?_, fun a c y w hy hw e => ?_, fun y hy p hp => ?_, fun y hy => ?_⟩
 ·obtain ⟨j, hj, rfl⟩ := List.getElem_of_mem hy
  rcases key j _ (List.getElem?_eq_getElem hj) with ⟨_, h1⟩ | ⟨_, h1⟩
  ·obtain ⟨y, hy, e⟩ := h.win _ (List.mem_of_getElem? h1)
   exact ⟨y, by simp [hy], e⟩
  ·rw [h1]
   exact ⟨z, by simp, hz⟩
 ·rcases key a y hy with ⟨h1, h2⟩ | ⟨h1, h2⟩ <;> rcases key c w hw with ⟨h3, h4⟩ | ⟨h3, h4⟩
  ·exact h.dis a c y w h2 h4 e
  ·subst h3
   rw [h4] at e
   exact h.dis a i y x h2 hx e
  ·subst h1
   rw [h2] at e
   exact h.dis i c x w hx h4 e
  ·omega
 ·obtain ⟨j, hj, rfl⟩ := List.getElem_of_mem hy
  rcases key j _ (List.getElem?_eq_getElem hj) with ⟨_, h1⟩ | ⟨_, h1⟩
  ·obtain ⟨y, hy, e⟩ := h.ent _ (List.mem_of_getElem? h1) p hp
   exact ⟨y, by simp [hy], e⟩
  ·rw [h1] at hp ⊢
   dsimp only at hp ⊢
   rcases List.mem_append.1 hp with hp | hp
   ·obtain ⟨y, hy, e⟩ := h.ent x (List.mem_of_getElem? hx) p hp
    exact ⟨y, by simp [hy], e⟩
   ·rw [List.mem_singleton] at hp
    exact ⟨z, by simp, hz, hp⟩
 ·rcases List.mem_append.1 hy with hy | hy
  ·obtain ⟨j, w, h1, h2, h3⟩ := h.all y hy
   by_cases e : i = j
   ·subst e
    rw [hx] at h1; injection h1 with h1; subst h1
    exact ⟨i, ⟨x.win, x.b, x.es ++ [(.string z.key, .int .i64 z.n)]⟩, by rw [List.getElem?_set, if_pos rfl, if_pos hlt], h2, by simp [h3]⟩
   ·exact ⟨j, w, by rw [List.getElem?_set, if_neg e]; exact h1, h2, h3⟩
  ·rw [List.mem_singleton] at hy; subst hy
   exact ⟨i, ⟨x.win, x.b, x.es ++ [(.string y.key, .int .i64 y.n)]⟩, by rw [List.getElem?_set, if_pos rfl, if_pos hlt], hz, by simp⟩
theorem InvM.one {l : List In1} {bs : List Rs} (h : InvM l bs) {x : In1} (hx : x ∈ l) {z : Rs} (hz : x.win = winV z) (hn : ∀ y ∈ bs, ¬ SameK y z) : ∀ p ∈ x.es, p.1 ≠ .string z.key := by
 intro p hp e
 obtain ⟨y, hy, h1, rfl⟩ := h.ent x hx p hp
 injection e with e
 obtain ⟨h2, h3⟩ := winV_inj (h1.symm.trans hz)
 exact hn y hy ⟨h2, h3, e⟩
theorem InvM.val {l : List In1} {bs : List Rs} (h : InvM l bs) (hu : UniqR bs) {x : In1} (hx : x ∈ l) {z : Rs} (hz : x.win = winV z) (hzb : z ∈ bs) : ∀ p ∈ x.es, p.1 = .string z.key → p.2 = .int .i64 z.n := by
 intro p hp e
 obtain ⟨y, hy, h1, rfl⟩ := h.ent x hx p hp
 injection e with e
 obtain ⟨h2, h3⟩ := winV_inj (h1.symm.trans hz)
 obtain ⟨i, hi, rfl⟩ := List.getElem_of_mem hy
 obtain ⟨j, hj, rfl⟩ := List.getElem_of_mem hzb
 obtain rfl := hu i j _ _ (List.getElem?_eq_getElem hi) (List.getElem?_eq_getElem hj) ⟨h2, h3, e⟩
 rfl
def oE (l : List In1) : List (Value × Value) := l.map fun x => (x.win, .map (some x.b))
end Go.Proofs.Ytlgbadlgfdlheaa
namespace Go.Proofs.Ytlgbadlgfdlheaa
open Go.RowKit
structure MoreF (A B : List Rs) : Prop where
 uniq : UniqR B
 ran : ∀ y ∈ B, (0 ≤ y.lo ∧ y.lo ≤ 1099511627776) ∧ (0 ≤ y.hi ∧ y.hi ≤ 1099511627776) ∧ keyB y.key = true
 cov : ∀ x ∈ A, ∃ y ∈ B, SameK y x ∧ x.n ≤ y.n
 len : A.length ≤ B.length
 la : A.length ≤ 2000
 lb : B.length ≤ 2000
theorem out_row {k : Int} {vs : List Vl} {U : List Rs} (h : outR k vs = (U, 0)) (hk : fRight k = true) (hok : ∀ x ∈ vs, okV k x = true) (hl : vs.length ≤ 1000000) : U = (rowV k vs).map (resOf k) ∧ (rowV k vs).length ≤ 2000 ∧ rightL (rowV k vs) = true := by
 unfold outR at h
 split at h
 ·rename_i h2
  have h3 := rowM_right hok hl h2
  injection h with h _
  unfold resultsL at h
  rw [h3, hk] at h
  exact ⟨h.symm, h2, h3⟩
 ·injection h with _ h; cases h
theorem more_facts {g s d k fu li de id : Int} {ls : List (List Et)} {mo : List Et} {A B : List Rs} (h1 : runN g s d k fu li de id ls = (A, 0)) (h2 : runN g s d k fu li de id (ls ++ [mo]) = (B, 0)) : MoreF A B := by
 unfold runN at h1 h2
 split at h1
 ·split at h2
  ·rename_i c1 c2
   obtain ⟨hk, hw, hl4, hes⟩ := check_parts c1
   obtain ⟨_, _, hl4', hes'⟩ := check_parts c2
   have e : allK li fu de (ls ++ [mo]) = allK li fu de ls ++ keptE li fu de 0 mo := by simp [allK]
   have ev : allVals s d (allK li fu de (ls ++ [mo])) = allVals s d (allK li fu de ls) ++ allVals s d (keptE li fu de 0 mo) := by
    rw [e]; simp [allVals]
   have hK := allK_len (li := li) (fu := fu) (de := de) (ls := ls ++ [mo]) fun es he => (hes' es he).1
   have hV := allVals_len (s := s) (d := d) (es := allK li fu de (ls ++ [mo]))
   have hok2 := allVals_ok hk hw (allK_ok (li := li) (fu := fu) (de := de) (ls := ls ++ [mo]) fun es he => (hes' es he).2)
   have hlen : (allVals s d (allK li fu de ls) ++ allVals s d (keptE li fu de 0 mo)).length ≤ 1000000 := by rw [← ev]; omega
   rw [ev] at h2 hok2
   have hsum := hlen
   rw [List.length_append] at hsum
   obtain ⟨rfl, la, ra⟩ := out_row h1 hk (fun x hx => hok2 x (by simp [hx])) (by omega)
   obtain ⟨rfl, lb, rb⟩ := out_row h2 hk hok2 hlen
   have hB := (okPn_iff _).1 (by unfold rightL at rb; simp only [Bool.and_eq_true] at rb; exact rb.2)
   refine ⟨uniq_row hB.2, fun y hy => ?_, fun x hx => ?_, ?_, by simpa using la, by simpa using lb⟩
   ·obtain ⟨p, hp, rfl⟩ := List.mem_map.1 hy
    have := hB.1 p hp
    unfold mayB at this
    simp only [Bool.and_eq_true, decide_eq_true_eq] at this
    obtain ⟨⟨⟨⟨a1, a2⟩, a3⟩, a4⟩, a5⟩ := this
    exact ⟨⟨a2, by show p.lo ≤ _; omega⟩, ⟨by show 0 ≤ p.hi; omega, a4⟩, a1⟩
   ·obtain ⟨p, hp, rfl⟩ := List.mem_map.1 hx
    obtain ⟨q, hq, b1, b2, b3, b4⟩ := rowV_more hk hsum p hp
    exact ⟨resOf k q, List.mem_map.2 ⟨q, hq, rfl⟩, ⟨b1, b2, b3⟩, b4⟩
   ·rw [List.length_map, List.length_map]
    exact rowM_mono
  ·rename_i c1 c2
   exact absurd (congrArg Prod.snd h2) c2
 ·rename_i c1
  exact absurd (congrArg Prod.snd h1) c1
theorem ls_slice_toT {P : Program} {T : List TyI} {Γ : Ctx} {s : ASt} {dst : Option Tmp} {ty : TypeId} {pos : String} {after : Array Edge} (hT : okTab P T = true) {x y : Operand} {t n : Nat} {i : Int} {k : IntKind} {size : Nat} {xs ys : List (List AV)} {e bytes : Nat} (hq : xs.take n = ys) (hx : ev s x = some (.sl size xs)) (hy : ev s y = some (.v (.int k i))) (hty : nth T t = some (.slice e size bytes)) (hi : i = (n : Int)) (hn : n ≤ xs.length) (hd : okDst Γ.n dst = true) :
  LS P Γ ⟨dst, .slice t x none (some y) none, ty, pos, after, none⟩ s (rd x (rd y [])) (dst1 dst (.sl size ys)) [] := hq ▸ ls_slice_to hT hx hy hty hi hn hd
theorem win_law : WideMaps.KeyLaw Try.prog 34 := Go.deep_law (m := 4) (by omega) (by kernel_rfl) (by kernel_rfl) (by kernel_rfl)
theorem win_key {y : Rs} (h1 : 0 ≤ y.lo ∧ y.lo ≤ 1099511627776) (h2 : 0 ≤ y.hi ∧ y.hi ≤ 1099511627776) : ∃ l, keyOf Try.prog 34 (winV y) = some l := by
 have hk : Try.prog.keyType 34 = true := by kernel_rfl
 have hb : Nat.ble 6 Try.prog.types.size = true := by kernel_rfl
 obtain ⟨n, hn⟩ : ∃ n, Try.prog.types.size + 1 = n + 7 := ⟨Try.prog.types.size - 6, by have := Nat.le_of_ble_eq_true hb; omega⟩
 have c2 : Try.prog.cellsOf 34 = 2 := by kernel_rfl
 have c3 : Try.prog.cellsOf 2 = 1 := by kernel_rfl
 have hmin : IntKind.i64.min = -9223372036854775808 := rfl
 have a1 : -9223372036854775808 ≤ y.lo := by omega
 have a2 : y.lo ≤ 9223372036854775807 := by omega
 have a3 : -9223372036854775808 ≤ y.hi := by omega
 have a4 : y.hi ≤ 9223372036854775807 := by omega
 unfold keyOf winV
 rw [Try.underlying34]
 simp only [hk, Bool.true_and, Value.formed, Try.underlying34, c2]
 rw [hn]
 simp [Program.keyLits, Try.underlying34, Try.underlying2, c2, c3, Value.cells, Lit.wf, hmin, a1, a2, a3, a4]
theorem str_law : WideMaps.KeyLaw Try.prog 9 := WideMaps.string_law Try.underlying9
theorem str_key {y : ByteArray} (h : keyB y = true) : ∃ l, keyOf Try.prog 9 (.string y) = some l := by
 unfold keyB at h
 simp only [Bool.and_eq_true, decide_eq_true_eq] at h
 exact ⟨_, WideMaps.keyOf_string_mk Try.underlying9 (by simp [maxLen]; omega)⟩
theorem z_map (w : World) : (zeroValue 37).run Try.prog w = .ok (.map none) w := by go_simp
theorem z_i64 (w : World) : (zeroValue 2).run Try.prog w = .ok (.int .i64 0) w := by go_simp
theorem oE_hit {l : List In1} {bs : List Rs} (hI : InvM l bs) {i : Nat} {x : In1} (hx : l[i]? = some x) : (∃ p ∈ oE l, p.1 = x.win) ∧ ∀ (j : Nat) (p : Value × Value), (oE l)[j]? = some p → p.1 = x.win → p.2 = .map (some x.b) := by
 refine ⟨⟨_, List.mem_map.2 ⟨x, List.mem_of_getElem? hx, rfl⟩, rfl⟩, fun j p hp he => ?_⟩
 unfold oE at hp
 rw [List.getElem?_map] at hp
 obtain ⟨y, hy, rfl⟩ := Option.map_eq_some_iff.1 hp
 obtain rfl := hI.dis _ _ _ _ hy hx he
 rw [hx] at hy; injection hy with hy; subst hy; rfl
theorem oE_miss {l : List In1} {z : Rs} (h : ∀ x ∈ l, x.win ≠ winV z) : ∀ p ∈ oE l, p.1 ≠ winV z := by
 intro p hp e
 obtain ⟨x, hx, rfl⟩ := List.mem_map.1 hp
 exact h x hx e
theorem oE_set {l : List In1} {i : Nat} {x : In1} (hx : l[i]? = some x) (es : List (Value × Value)) : oE (l.set i ⟨x.win, x.b, es⟩) = oE l := by
 apply List.ext_getElem?
 intro j
 unfold oE
 rw [List.getElem?_map, List.getElem?_map, List.getElem?_set]
 split
 ·rename_i e; subst e
  rw [hx, if_pos (List.getElem?_eq_some_iff.1 hx).1]; rfl
 ·rfl
set_option maxRecDepth 20000 in
theorem m_more (g s d k fu li de id : Int) (ls : List (List Et)) (mo0 : List Et) (hx : Small ls) (hls : ∀ es ∈ ls, ∀ e ∈ es, -9223372036854775808 ≤ e.v ∧ e.v ≤ 9223372036854775807) (hm0 : mo0.length ≤ 9223372036854775807) (hmr0 : ∀ e ∈ mo0, -9223372036854775808 ≤ e.v ∧ e.v ≤ 9223372036854775807) (hli : li ≤ 9223372036854775807) :
  PC Try.prog 3 [.agg [.v (.int .i64 g), .v (.int .i64 s), .v (.int .i64 d), .v (.int .i64 k), .v (.int .i64 fu), .v (.int .i64 li), .v (.int .i64 de), .v (.int .i64 id)], .sl 1 (ls.map inAv), .sl 3 (mo0.map Et.av)] (.v (.bool true)) := by
 have hF := m_few ls hx
 have hA := m_alive
 have hsm := fewI_small hx
 have hrg := fewI_range hls
 have hfl6 : (fewI ls).length ≤ 6 := by unfold fewI; rw [List.length_map, List.length_take]; omega
 generalize fewI ls = fs at *
 have hR := m_Run g s d k fu li de id fs hsm hrg hli
 have hn : (fs.map inAv).length = fs.length := List.length_map _
 obtain ⟨mo, hmo⟩ : ∃ mo, mo = (if 30 < mo0.length then mo0.take 30 else mo0) := ⟨_, rfl⟩
 have hml : mo.length ≤ 9223372036854775807 := by rw [hmo]; split <;> (try rw [List.length_take]) <;> omega
 have hmr : ∀ e ∈ mo, -9223372036854775808 ≤ e.v ∧ e.v ≤ 9223372036854775807 := by
  rw [hmo]; split
  ·exact fun e he => hmr0 e (List.mem_of_mem_take he)
  ·exact hmr0
 have hR2 := m_Run g s d k fu li de id (fs ++ [mo]) ⟨by rw [List.length_append]; simp; omega, fun es he => by
  rcases List.mem_append.1 he with he | he
  ·exact hsm.2 es he
  ·rw [List.mem_singleton] at he; subst he; exact hml⟩ (fun es he => by
  rcases List.mem_append.1 he with he | he
  ·exact hrg es he
  ·rw [List.mem_singleton] at he; subst he; exact hmr) hli
 have hfacts := fun A B => more_facts (g := g) (s := s) (d := d) (k := k) (fu := fu) (li := li) (de := de) (id := id) (ls := fs) (mo := mo) (A := A) (B := B)
 generalize runN g s d k fu li de id fs = r1 at *
 generalize runN g s d k fu li de id (fs ++ [mo]) = r2 at *
 rw [List.map_append] at hR2
 have hmc : (¬ 30 < (mo0.map Et.av).length ∧ mo0.map Et.av = mo.map Et.av) ∨ (30 ≤ (mo0.map Et.av).length ∧ 30 < (mo0.map Et.av).length ∧ (mo0.map Et.av).take 30 = mo.map Et.av) := by
  rw [hmo, List.length_map]
  split
  ·exact .inr ⟨by omega, by omega, by rw [List.map_take]⟩
  ·exact .inl ⟨by omega, rfl⟩
 have hm0l : (mo0.map Et.av).length = mo0.length := List.length_map _
 have hin : [mo].map inAv = [[.sl 3 (mo.map Et.av)]] := rfl
 rw [hin] at hR2
 clear hmo
 generalize mo.map Et.av = MO at *
 generalize mo0.map Et.av = MO0 at *
 generalize fs.map inAv = F at *
 obtain ⟨A, e⟩ := r1
 obtain ⟨B, f⟩ := r2
 dsimp only [RR.av] at hR hR2
 by_cases h0 : e = 0 ∧ f = 0
 ·obtain ⟨rfl, rfl⟩ := h0
  have hM := hfacts A B rfl rfl
  clear hfacts hsm hrg hls hmr0 hmr hx
  obtain ⟨hu, hran, hcov, hlen, hla, hlb⟩ := hM
  have hBl : (B.map Rs.av).length = B.length := List.length_map _
  have hAl : (A.map Rs.av).length = A.length := List.length_map _
  rcases hmc with ⟨hc, hT⟩ | ⟨hc0, hc, hT⟩
  focus
   have hT := hT.symm
   subst hT
   refine PC.mk (ac_body tab_ok Try.func3 rfl (by kernel_rfl) rfl ?_); intro w0 M μ0; simp only [Try.ntmps3, List.length_cons, List.length_nil, Nat.reduceAdd, Nat.reduceSub, numb]
   repeat' (first | refine a_draw2 7 mixed (by kernel_rfl) ?_ | ((first | apply o_do | apply d_do | apply d_yes rfl rfl rfl); first | exact lsc (hF) | exact lsc (hR) | exact lsc (hA) | focus (apply ls_append tab_ok rfl rfl ?hn rfl ?hsrc rfl ?hlen rfl rfl; (case hn => rfl); (case hsrc => first | exact SrcIs.sl | exact SrcIs.nil | exact SrcIs.own rfl rfl | fail); (case hlen => (try simp only [List.length_cons, List.length_nil]); ((try simp only [List.length_append, List.length_cons, List.length_nil, List.nil_append]); omega)); first | done | fail) | exact lsq) | refine a_seq ?_ | refine a_region ?_ | refine o_nil ?_ | refine a_block ?_ | refine a_ret ?_ | refine a_exit ?_ | refine a_skip ?_ | refine a_draw mixed ?_ | refine d_nil (by kernel_rfl) ?_ | refine o_yes rfl rfl rfl ?_ | refine o_no rfl rfl rfl (by decide) ?_ | refine o_no' rfl rfl rfl ?_ | refine a_condT rfl ?_ | refine a_condF rfl ?_ | refine d_no rfl rfl rfl (by decide) ?_ | refine d_no' rfl rfl rfl ?_ | (refine wq2 (fun hb => ?_) (fun hb => ?_) <;> (simp only [hb]; try simp only [hbs, ne_eq] at hb; try (exfalso; first | omega | exact hb trivial))) | fail)
  rotate_left
  focus
   refine PC.mk (ac_body tab_ok Try.func3 rfl (by kernel_rfl) rfl ?_); intro w0 M μ0; simp only [Try.ntmps3, List.length_cons, List.length_nil, Nat.reduceAdd, Nat.reduceSub, numb]
   repeat' (first | refine a_draw2 7 mixed (by kernel_rfl) ?_ | ((first | apply o_do | apply d_do | apply d_yes rfl rfl rfl); first | exact ls_slice_toT (n := 30) tab_ok hT rfl rfl rfl rfl hc0 rfl | exact lsc (hF) | exact lsc (hR) | exact lsc (hA) | focus (apply ls_append tab_ok rfl rfl ?hn rfl ?hsrc rfl ?hlen rfl rfl; (case hn => rfl); (case hsrc => first | exact SrcIs.sl | exact SrcIs.nil | exact SrcIs.own rfl rfl | fail); (case hlen => (try simp only [List.length_cons, List.length_nil]); ((try simp only [List.length_append, List.length_cons, List.length_nil, List.nil_append]); omega)); first | done | fail) | exact lsq) | refine a_seq ?_ | refine a_region ?_ | refine o_nil ?_ | refine a_block ?_ | refine a_ret ?_ | refine a_exit ?_ | refine a_skip ?_ | refine a_draw mixed ?_ | refine d_nil (by kernel_rfl) ?_ | refine o_yes rfl rfl rfl ?_ | refine o_no rfl rfl rfl (by decide) ?_ | refine o_no' rfl rfl rfl ?_ | refine a_condT rfl ?_ | refine a_condF rfl ?_ | refine d_no rfl rfl rfl (by decide) ?_ | refine d_no' rfl rfl rfl ?_ | (refine wq2 (fun hb => ?_) (fun hb => ?_) <;> (simp only [hb]; try simp only [hbs, ne_eq] at hb; try (exfalso; first | omega | exact hb trivial))) | fail)
  all_goals
   refine ⟨⟨[(7, .sl 5 (A.map Rs.av)), (8, .v (.int .i64 0)), (30, .agg [.v (.int .i64 g), .v (.int .i64 s), .v (.int .i64 d), .v (.int .i64 k), .v (.int .i64 fu), .v (.int .i64 li), .v (.int .i64 de), .v (.int .i64 id)]), (36, .sl 1 (F ++ [[.sl 3 MO]]))], []⟩, ?_, ?_⟩
   ·refine ⟨by repeat' (first | exact trivial | exact FinA.one (FinB.cell (FinC.same rfl)) | exact FinA.one (FinB.cell FinC.nil) | exact FinA.bound rfl | exact FinA.one (FinB.cell (FinC.own rfl rfl rfl rfl)) | exact FinA.one (FinB.cell (FinC.v (by first | rfl | (rfl)))) | exact FinA.one (FinB.cell (FinC.ow rfl (by first | rfl | (rfl)))) | exact FinA.one (FinB.agg' rfl rfl) | refine ⟨⟨_, rfl, ?_⟩, ?_⟩), by repeat' (first | exact trivial | refine ⟨⟨_, rfl, by first | rfl | (rfl; done) | (simp [renO, *]; done)⟩, by first | rfl | assumption, ?_⟩), rfl⟩
   repeat' (first | ((first | apply o_do | apply d_do | apply d_yes rfl rfl rfl); first | exact lsc (hR2) | exact lsc (hA) | exact ls_makeMap (k := 1) rfl rfl | exact lsq) | refine a_seq ?_ | refine a_region ?_ | refine o_nil ?_ | refine a_block ?_ | refine a_ret ?_ | refine a_exit ?_ | refine a_skip ?_ | refine a_draw mixed ?_ | refine d_nil (by kernel_rfl) ?_ | refine o_yes rfl rfl rfl ?_ | refine o_no rfl rfl rfl (by decide) ?_ | refine o_no' rfl rfl rfl ?_ | refine a_condT rfl ?_ | refine a_condF rfl ?_ | refine d_no rfl rfl rfl (by decide) ?_ | refine d_no' rfl rfl rfl ?_ | (refine wq2 (fun hb => ?_) (fun hb => ?_) <;> (simp only [hb]; try simp only [hbs, ne_eq] at hb; try (exfalso; first | omega | exact hb trivial))) | fail)
   refine a_loop (X := {x : Nat × List In1 // x.1 ≤ B.length ∧ InvM x.2 (B.take x.1)})
    (fun x => ⟨[(7, .sl 5 (A.map Rs.av)), (9, .sl 5 (B.map Rs.av)), (11, .mp 1), (48, .sl 5 (B.map Rs.av)), (49, .v (.int .i64 B.length)), (50, .v (.int .i64 x.1.1))], (1, .mp (.m (oE x.1.2))) :: innF 100 x.1.2⟩) (fun x => B.length - x.1.1) ⟨(0, []), Nat.zero_le _, InvM.nil⟩ ?_ ?_
   ·refine ⟨by repeat' (first | exact trivial | exact FinA.one (FinB.cell (FinC.same rfl)) | exact FinA.one (FinB.cell FinC.nil) | exact FinA.bound rfl | exact FinA.one (FinB.cell (FinC.own rfl rfl rfl rfl)) | exact FinA.one (FinB.cell (FinC.v (by first | rfl | (((try dsimp only); first | rfl | (rw [hBl]; done) | (congr 1 <;> omega)))))) | exact FinA.one (FinB.cell (FinC.ow rfl (by first | rfl | (((try dsimp only); first | rfl | (rw [hBl]; done) | (congr 1 <;> omega)))))) | exact FinA.one (FinB.agg' rfl rfl) | refine ⟨⟨_, rfl, ?_⟩, ?_⟩), by repeat' (first | exact trivial | refine ⟨⟨_, rfl, by first | rfl | (((try dsimp only); first | rfl | (rw [hBl]; done) | (congr 1 <;> omega)); done) | (simp [renO, *]; done)⟩, by first | rfl | assumption, ?_⟩), rfl⟩
   rintro ⟨⟨q, l⟩, hq, hI⟩
   dsimp only at hq hI ⊢
   by_cases hlt : q < B.length
   ·have hel : (B.map Rs.av)[q]? = some (Rs.av B[q]) := by rw [List.getElem?_map, List.getElem?_eq_getElem hlt]; rfl
    have hlt' : (q : Int) < (B.length : Int) := by omega
    have hzr := hran B[q] (List.getElem_mem hlt)
    have hsn := take_snoc B q hlt
    have hns : ∀ y ∈ B.take q, ¬ SameK y B[q] := by
     intro y hy hs
     obtain ⟨j, hj, rfl⟩ := List.getElem_of_mem hy
     rw [List.length_take] at hj
     rw [List.getElem_take] at hs
     have := hu j q _ _ (List.getElem?_eq_getElem (by omega)) (List.getElem?_eq_getElem hlt) hs
     omega
    have hallO : ∀ p ∈ oE l, ∃ lt, keyOf Try.prog 34 p.1 = some lt := by
     intro p hp
     obtain ⟨x, hx, rfl⟩ := List.mem_map.1 hp
     obtain ⟨y, hy, e⟩ := hI.win x hx
     have := hran y (List.mem_of_mem_take hy)
     dsimp only
     rw [e]
     exact win_key this.1 this.2.1
    have hallE : ∀ x ∈ l, ∀ p ∈ x.es, ∃ lt, keyOf Try.prog 9 p.1 = some lt := by
     intro x hx p hp
     obtain ⟨y, hy, _, rfl⟩ := hI.ent x hx p hp
     exact str_key (hran y (List.mem_of_mem_take hy)).2.2
    generalize B[q] = z at *
    obtain ⟨kw, hkw⟩ := win_key hzr.1 hzr.2.1
    obtain ⟨ks, hks⟩ := str_key hzr.2.2
    by_cases hw : ∃ (i : Nat) (x : In1), l[i]? = some x ∧ x.win = winV z
    ·obtain ⟨i, x, hx, hxw⟩ := hw
     have hI2 := hI.add hx hxw
     rw [← hsn] at hI2
     have hno := hI.one (List.mem_of_getElem? hx) hxw hns
     have hallx := hallE x (List.mem_of_getElem? hx)
     obtain ⟨hO1, hO2⟩ := oE_hit hI hx
     rw [hxw] at hO1 hO2
     have hset := oE_set hx (x.es ++ [(.string z.key, .int .i64 z.n)])
     dsimp only [Rs.av] at hel
     have h0i : ¬ 0 = i + 100 := by omega
     have h1i : ¬ 1 = i + 100 := by omega
     have h2i : ¬ i + 100 = 1 := by omega
     have hil := (List.getElem?_eq_some_iff.1 hx).1
     clear hns hallE hzr hI
     repeat' (first | ((first | apply o_do | apply d_do | apply d_yes rfl rfl rfl); first | exact ls_indexAddr_sl tab_ok rfl rfl rfl rfl hel rfl | exact ls_lookupM (id := 1) (id2 := i + 100) (es := oE l) (es2 := x.es) (b := x.b) (key := winV z) win_law rfl rfl rfl (by simp [ASt.eff, find_cons, inn_at, hx, h0i, h1i]) Try.underlying32 rfl hkw hallO hO1 hO2 rfl | exact ls_eqMN (es := x.es) (g := x.b) Try.underlying37 rfl (by simp [ASt.eff, find_cons, inn_at, hx, h0i, h1i]) rfl | exact ls_alloc (k := 0) tab_zero rfl rfl (by simp [ASt.eff, find_cons, inn_lt]) rfl | exact ls_mapUpdateG (id := i + 100) (es := x.es) (g := x.b) (es' := x.es ++ [(.string z.key, .int .i64 z.n)]) str_law rfl rfl rfl (by simp [ASt.eff, find_cons, inn_at, hx, h0i, h1i]) Try.underlying37 rfl rfl hks hallx (fun _ => rfl) (fun j p hj he => absurd he (hno p (List.mem_of_getElem? hj))) rfl | exact lsq) | refine a_seq ?_ | refine a_region ?_ | refine o_nil ?_ | refine a_block ?_ | refine a_ret ?_ | refine a_exit ?_ | refine a_skip ?_ | refine a_draw mixed ?_ | refine d_nil (by kernel_rfl) ?_ | refine o_yes rfl rfl rfl ?_ | refine o_no rfl rfl rfl (by decide) ?_ | refine o_no' rfl rfl rfl ?_ | refine a_condT rfl ?_ | refine a_condF rfl ?_ | refine d_no rfl rfl rfl (by decide) ?_ | refine d_no' rfl rfl rfl ?_ | (refine wq2 (fun hb => ?_) (fun hb => ?_) <;> (simp only [hb]; try simp only [hbs, ne_eq] at hb; try (exfalso; first | omega | exact hb trivial))) | fail)
     refine ⟨⟨(q + 1, l.set i ⟨x.win, x.b, x.es ++ [(.string z.key, .int .i64 z.n)]⟩), by dsimp only; omega, hI2⟩, by dsimp only; omega, ?_⟩
     refine ⟨by repeat' (first | exact trivial | exact FinA.one (FinB.cell (FinC.same rfl)) | exact FinA.one (FinB.cell (FinC.v (by first | rfl | (congr 1; omega)))) | refine ⟨⟨_, rfl, ?_⟩, ?_⟩), ⟨⟨.mp (.m (oE l)), by simp [ASt.eff, find_cons, h2i], ?_⟩, rfl, kept_inn fun j y hy => ?_⟩, rfl⟩
     ·rw [hset]
     ·rw [List.getElem?_set] at hy
      split at hy
      ·rename_i e
       subst e
       first | rw [if_pos hil] at hy | skip
       injection hy with hy
       subst hy
       simp [ASt.eff, find_cons]
      ·rename_i e
       have e1 : ¬ 0 = j + 100 := by omega
       have e2 : ¬ 1 = j + 100 := by omega
       simp [ASt.eff, find_cons, inn_at, hy, e, e1, e2]
    ·have hw' : ∀ x ∈ l, x.win ≠ winV z := fun x hx e => by
      obtain ⟨i, hi, rfl⟩ := List.getElem_of_mem hx
      exact hw ⟨i, _, List.getElem?_eq_getElem hi, e⟩
     have hI2 := fun b => hI.new (b := b) hw'
     rw [← hsn] at hI2
     have hms := oE_miss hw'
     have h0i : ¬ 0 = l.length + 100 := by omega
     have h1i : ¬ 1 = l.length + 100 := by omega
     have h2i : ¬ l.length + 100 = 1 := by omega
     dsimp only [Rs.av] at hel
     clear hns hallE hzr hI hw
     repeat' (first | ((first | apply o_do | apply d_do | apply d_yes rfl rfl rfl); first | exact ls_indexAddr_sl tab_ok rfl rfl rfl rfl hel rfl | exact ls_lookup (id := 1) (es := oE l) (key := winV z) (r := .map none) (z := .map none) (b := false) win_law false rfl rfl rfl Try.underlying32 rfl z_map rfl hkw hallO (fun _ => ⟨rfl, rfl⟩) (fun j p hj he => absurd he (hms p (List.mem_of_getElem? hj))) rfl | exact ls_eqNN Try.underlying37 rfl rfl | exact ls_alloc (k := 0) tab_zero rfl rfl (by simp [ASt.eff, find_cons, inn_lt]) rfl | exact ls_makeMap (k := l.length + 100) (by simp [ASt.eff, find_cons, inn_at, h0i, h1i]) rfl | exact lsq) | refine a_seq ?_ | refine a_region ?_ | refine o_nil ?_ | refine a_block ?_ | refine a_ret ?_ | refine a_exit ?_ | refine a_skip ?_ | refine a_draw mixed ?_ | refine d_nil (by kernel_rfl) ?_ | refine o_yes rfl rfl rfl ?_ | refine o_no rfl rfl rfl (by decide) ?_ | refine o_no' rfl rfl rfl ?_ | refine a_condT rfl ?_ | refine a_condF rfl ?_ | refine d_no rfl rfl rfl (by decide) ?_ | refine d_no' rfl rfl rfl ?_ | (refine wq2 (fun hb => ?_) (fun hb => ?_) <;> (simp only [hb]; try simp only [hbs, ne_eq] at hb; try (exfalso; first | omega | exact hb trivial))) | fail)
     refine o_known (id := l.length + 100) (es := []) (by simp [ASt.eff, find_cons]) fun b => ?_
     have hallO2 : ∀ p ∈ oE l ++ [(winV z, .map (some b))], ∃ lt, keyOf Try.prog 34 p.1 = some lt := by
      intro p hp
      rcases List.mem_append.1 hp with hp | hp
      ·exact hallO p hp
      ·rw [List.mem_singleton] at hp; subst hp; exact ⟨_, hkw⟩
     have hO2 : ∀ (j : Nat) (p : Value × Value), (oE l ++ [(winV z, .map (some b))])[j]? = some p → p.1 = winV z → p.2 = .map (some b) := by
      intro j p hj he
      rcases List.mem_append.1 (List.mem_of_getElem? hj) with hp | hp
      ·exact absurd he (hms p hp)
      ·rw [List.mem_singleton] at hp; subst hp; rfl
     repeat' (first | ((first | apply o_do | apply d_do | apply d_yes rfl rfl rfl); first | exact ls_mapUpdateM (id := 1) (id2 := l.length + 100) (es := oE l) (es2 := []) (b := b) (es' := oE l ++ [(winV z, .map (some b))]) win_law rfl rfl rfl (by simp [ASt.eff, find_cons, h2i]) (by simp [ASt.eff, find_cons]) Try.underlying32 rfl hkw hallO (fun _ => rfl) (fun j p hj he => absurd he (hms p (List.mem_of_getElem? hj))) rfl | exact ls_lookupM (id := 1) (id2 := l.length + 100) (es := oE l ++ [(winV z, .map (some b))]) (es2 := []) (b := b) (key := winV z) win_law rfl rfl (by simp [ASt.eff, find_cons]) (by simp [ASt.eff, find_cons, h0i, h1i]) Try.underlying32 rfl hkw hallO2 ⟨_, List.mem_append_right _ (List.mem_singleton.2 rfl), rfl⟩ hO2 rfl | exact ls_mapUpdateG (id := l.length + 100) (es := []) (g := b) (es' := [(.string z.key, .int .i64 z.n)]) str_law rfl rfl rfl (by simp [ASt.eff, find_cons, h0i, h1i]) Try.underlying37 rfl rfl hks (fun _ h => nomatch h) (fun _ => rfl) (fun j p hj he => by simp at hj) rfl | exact lsq) | refine a_seq ?_ | refine a_region ?_ | refine o_nil ?_ | refine a_block ?_ | refine a_ret ?_ | refine a_exit ?_ | refine a_skip ?_ | refine a_draw mixed ?_ | refine d_nil (by kernel_rfl) ?_ | refine o_yes rfl rfl rfl ?_ | refine o_no rfl rfl rfl (by decide) ?_ | refine o_no' rfl rfl rfl ?_ | refine a_condT rfl ?_ | refine a_condF rfl ?_ | refine d_no rfl rfl rfl (by decide) ?_ | refine d_no' rfl rfl rfl ?_ | (refine wq2 (fun hb => ?_) (fun hb => ?_) <;> (simp only [hb]; try simp only [hbs, ne_eq] at hb; try (exfalso; first | omega | exact hb trivial))) | fail)
     refine ⟨⟨(q + 1, l ++ [⟨winV z, b, [(.string z.key, .int .i64 z.n)]⟩]), by dsimp only; omega, hI2 b⟩, by dsimp only; omega, ?_⟩
     refine ⟨by repeat' (first | exact trivial | exact FinA.one (FinB.cell (FinC.same rfl)) | exact FinA.one (FinB.cell (FinC.v (by first | rfl | (congr 1; omega)))) | refine ⟨⟨_, rfl, ?_⟩, ?_⟩), ⟨⟨.mp (.m (oE l ++ [(winV z, .map (some b))])), by simp [ASt.eff, find_cons, h2i], ?_⟩, rfl, kept_inn fun j y hy => ?_⟩, rfl⟩
     ·simp [oE]
     ·rw [List.getElem?_append] at hy
      split at hy
      ·rename_i e
       have e1 : ¬ 0 = j + 100 := by omega
       have e2 : ¬ 1 = j + 100 := by omega
       have e3 : ¬ l.length = j := by omega
       simp [ASt.eff, find_cons, inn_at, hy, e1, e2, e3]
      ·rename_i e
       have hj : j = l.length := by
        rcases Nat.eq_zero_or_pos (j - l.length) with e2 | e2
        ·omega
        ·rw [List.getElem?_eq_none (by simp; omega)] at hy; cases hy
       subst hj
       simp at hy
       subst hy
       simp [ASt.eff, find_cons]
   ·obtain rfl : q = B.length := by omega
    rw [List.take_length] at hI
    clear hlt hq
    repeat' (first | ((first | apply o_do | apply d_do | apply d_yes rfl rfl rfl); exact lsq) | refine a_seq ?_ | refine a_region ?_ | refine o_nil ?_ | refine a_block ?_ | refine a_ret ?_ | refine a_exit ?_ | refine a_skip ?_ | refine a_draw mixed ?_ | refine d_nil (by kernel_rfl) ?_ | refine o_yes rfl rfl rfl ?_ | refine o_no rfl rfl rfl (by decide) ?_ | refine o_no' rfl rfl rfl ?_ | refine a_condT rfl ?_ | refine a_condF rfl ?_ | refine d_no rfl rfl rfl (by decide) ?_ | refine d_no' rfl rfl rfl ?_ | (refine wq2 (fun hb => ?_) (fun hb => ?_) <;> (simp only [hb]; try simp only [hbs, ne_eq] at hb; try (exfalso; first | omega | exact hb trivial))) | fail)
    refine a_loop (X := {q : Nat // q ≤ A.length})
     (fun q => ⟨[(7, .sl 5 (A.map Rs.av)), (9, .sl 5 (B.map Rs.av)), (11, .mp 1), (72, .sl 5 (A.map Rs.av)), (73, .v (.int .i64 A.length)), (74, .v (.int .i64 q.1))], (1, .mp (.m (oE l))) :: innF 100 l⟩) (fun q => A.length - q.1) ⟨0, Nat.zero_le _⟩ ?_ ?_
    ·refine ⟨by repeat' (first | exact trivial | exact FinA.one (FinB.cell (FinC.same rfl)) | exact FinA.one (FinB.cell (FinC.v (by first | rfl | (rw [hAl]; done)))) | refine ⟨⟨_, rfl, ?_⟩, ?_⟩), ⟨⟨_, rfl, rfl⟩, rfl, kept_inn fun j y hy => ?_⟩, rfl⟩
     have e2 : ¬ 1 = j + 100 := by omega
     simp [ASt.eff, find_cons, inn_at, hy, e2]
    rintro ⟨q, hq⟩
    dsimp only
    by_cases hlt : q < A.length
    ·have hel : (A.map Rs.av)[q]? = some (Rs.av A[q]) := by rw [List.getElem?_map, List.getElem?_eq_getElem hlt]; rfl
     have hlt' : (q : Int) < (A.length : Int) := by omega
     obtain ⟨y, hyB, hyk, hyn⟩ := hcov A[q] (List.getElem_mem hlt)
     have hyr := hran y hyB
     have hallO : ∀ p ∈ oE l, ∃ lt, keyOf Try.prog 34 p.1 = some lt := by
      intro p hp
      obtain ⟨x, hx, rfl⟩ := List.mem_map.1 hp
      obtain ⟨y, hy, e⟩ := hI.win x hx
      have := hran y hy
      dsimp only
      rw [e]
      exact win_key this.1 this.2.1
     obtain ⟨i, x, hx, hxw, hxe⟩ := hI.all y hyB
     have hallx : ∀ p ∈ x.es, ∃ lt, keyOf Try.prog 9 p.1 = some lt := by
      intro p hp
      obtain ⟨y, hy, _, rfl⟩ := hI.ent x (List.mem_of_getElem? hx) p hp
      exact str_key (hran y hy).2.2
     have hval := hI.val hu (List.mem_of_getElem? hx) hxw hyB
     obtain ⟨hO1, hO2⟩ := oE_hit hI hx
     obtain ⟨kw, hkw⟩ := win_key hyr.1 hyr.2.1
     obtain ⟨ks, hks⟩ := str_key hyr.2.2
     generalize A[q] = z at *
     obtain ⟨k1, k2, k3⟩ := hyk
     have hyz : winV y = winV z := by unfold winV; rw [k1, k2]
     rw [hyz] at hxw hkw
     rw [hxw] at hO1 hO2
     rw [k3] at hks hval hxe
     have h0i : ¬ 0 = i + 100 := by omega
     have h1i : ¬ 1 = i + 100 := by omega
     dsimp only [Rs.av] at hel
     have hm1 : (∀ p ∈ x.es, p.1 ≠ .string z.key) → Value.int .i64 y.n = .int .i64 0 ∧ true = false := fun h => absurd rfl (h _ hxe)
     have hm2 : ∀ (j : Nat) (p : Value × Value), x.es[j]? = some p → p.1 = .string z.key → Value.int .i64 y.n = p.2 ∧ true = true := fun j p hj he => ⟨(hval p (List.mem_of_getElem? hj) he).symm, rfl⟩
     generalize y.n = N at *
     clear hval hxe hran hcov hyr hI
     repeat' (first | ((first | apply o_do | apply d_do | apply d_yes rfl rfl rfl); first | exact ls_indexAddr_sl tab_ok rfl rfl rfl rfl hel rfl | exact ls_alloc (k := 0) tab_zero rfl rfl (by simp [ASt.eff, find_cons, inn_lt]) rfl | exact ls_lookupM (id := 1) (id2 := i + 100) (es := oE l) (es2 := x.es) (b := x.b) (key := winV z) win_law rfl rfl rfl (by simp [ASt.eff, find_cons, inn_at, hx, h0i, h1i]) Try.underlying32 rfl hkw hallO hO1 hO2 rfl | exact ls_lookupG (id := i + 100) (es := x.es) (g := x.b) (key := .string z.key) (r := .int .i64 N) (z := .int .i64 0) (b := true) str_law false rfl rfl (by simp [ASt.eff, find_cons, inn_at, hx, h0i, h1i]) Try.underlying37 rfl z_i64 rfl hks hallx hm1 hm2 rfl | exact lsq) | refine a_seq ?_ | refine a_region ?_ | refine o_nil ?_ | refine a_block ?_ | refine a_ret ?_ | refine a_exit ?_ | refine a_skip ?_ | refine a_draw mixed ?_ | refine d_nil (by kernel_rfl) ?_ | refine o_yes rfl rfl rfl ?_ | refine o_no rfl rfl rfl (by decide) ?_ | refine o_no' rfl rfl rfl ?_ | refine a_condT rfl ?_ | refine a_condF rfl ?_ | refine d_no rfl rfl rfl (by decide) ?_ | refine d_no' rfl rfl rfl ?_ | (refine wq2 (fun hb => ?_) (fun hb => ?_) <;> (simp only [hb]; try simp only [hbs, ne_eq] at hb; try (exfalso; first | omega | exact hb trivial))) | fail)
     refine ⟨⟨q + 1, by omega⟩, by dsimp only; omega, ?_⟩
     refine ⟨by repeat' (first | exact trivial | exact FinA.one (FinB.cell (FinC.same rfl)) | exact FinA.one (FinB.cell (FinC.v (by first | rfl | (congr 1; omega)))) | refine ⟨⟨_, rfl, ?_⟩, ?_⟩), ⟨⟨_, rfl, rfl⟩, rfl, kept_inn fun j w hw => ?_⟩, rfl⟩
     have e1 : ¬ 0 = j + 100 := by omega
     have e2 : ¬ 1 = j + 100 := by omega
     simp [ASt.eff, find_cons, inn_at, hw, e1, e2]
    ·obtain rfl : q = A.length := by omega
     have hge : decide ((A.length : Int) ≤ (B.length : Int)) = true := decide_eq_true (by omega)
     clear hI hran hcov
     repeat' (first | ((first | apply o_do | apply d_do | apply d_yes rfl rfl rfl); first | exact lsc (hA) | exact lsq) | refine a_seq ?_ | refine a_region ?_ | refine o_nil ?_ | refine a_block ?_ | refine a_ret ?_ | refine a_exit ?_ | refine a_skip ?_ | refine a_draw mixed ?_ | refine d_nil (by kernel_rfl) ?_ | refine o_yes rfl rfl rfl ?_ | refine o_no rfl rfl rfl (by decide) ?_ | refine o_no' rfl rfl rfl ?_ | refine a_condT rfl ?_ | refine a_condF rfl ?_ | refine d_no rfl rfl rfl (by decide) ?_ | refine d_no' rfl rfl rfl ?_ | (refine wq2 (fun hb => ?_) (fun hb => ?_) <;> (simp only [hb]; try simp only [hbs, ne_eq] at hb; try (exfalso; first | omega | exact hb trivial))) | fail)
     all_goals refine rq rfl ?_
     all_goals (first | refine FinA.tup ?_ | refine FinA.one ?_); repeat' (first | exact FinBs.nil | exact FinCs.nil | refine FinBs.cons ?_ ?_ | refine FinCs.cons ?_ ?_ | refine FinB.cell (FinC.v ?_) | refine FinB.cell (FinC.own rfl rfl rfl ?_) | exact FinB.cell FinC.nil | refine FinB.cell (FinC.sl ?_) | exact FinB.agg' rfl rfl | exact FinB.cell (FinC.same rfl) | refine FinB.agg ?_ | refine FinC.v ?_ | refine FinC.own rfl rfl rfl ?_ | exact FinC.nil | refine FinC.sl ?_ | exact FinC.same rfl); all_goals try rfl
     all_goals (rw [hBl, hAl, hge])
 ·clear hfacts hsm hrg hls hmr0 hmr hx
  rcases hmc with ⟨hc, hT⟩ | ⟨hc0, hc, hT⟩
  focus
   have hT := hT.symm
   subst hT
   refine PC.mk (ac_body tab_ok Try.func3 rfl (by kernel_rfl) rfl ?_); intro w0 M μ0; simp only [Try.ntmps3, List.length_cons, List.length_nil, Nat.reduceAdd, Nat.reduceSub, numb]
   repeat' (first | refine a_draw2 7 mixed (by kernel_rfl) ?_ | ((first | apply o_do | apply d_do | apply d_yes rfl rfl rfl); first | exact lsc (hF) | exact lsc (hR) | exact lsc (hA) | focus (apply ls_append tab_ok rfl rfl ?hn rfl ?hsrc rfl ?hlen rfl rfl; (case hn => rfl); (case hsrc => first | exact SrcIs.sl | exact SrcIs.nil | exact SrcIs.own rfl rfl | fail); (case hlen => (try simp only [List.length_cons, List.length_nil]); ((try simp only [List.length_append, List.length_cons, List.length_nil, List.nil_append]); omega)); first | done | fail) | exact lsq) | refine a_seq ?_ | refine a_region ?_ | refine o_nil ?_ | refine a_block ?_ | refine a_ret ?_ | refine a_exit ?_ | refine a_skip ?_ | refine a_draw mixed ?_ | refine d_nil (by kernel_rfl) ?_ | refine o_yes rfl rfl rfl ?_ | refine o_no rfl rfl rfl (by decide) ?_ | refine o_no' rfl rfl rfl ?_ | refine a_condT rfl ?_ | refine a_condF rfl ?_ | refine d_no rfl rfl rfl (by decide) ?_ | refine d_no' rfl rfl rfl ?_ | (refine wq2 (fun hb => ?_) (fun hb => ?_) <;> (simp only [hb]; try simp only [hbs, ne_eq] at hb; try (exfalso; first | omega | exact hb trivial))) | fail)
  rotate_left
  focus
   refine PC.mk (ac_body tab_ok Try.func3 rfl (by kernel_rfl) rfl ?_); intro w0 M μ0; simp only [Try.ntmps3, List.length_cons, List.length_nil, Nat.reduceAdd, Nat.reduceSub, numb]
   repeat' (first | refine a_draw2 7 mixed (by kernel_rfl) ?_ | ((first | apply o_do | apply d_do | apply d_yes rfl rfl rfl); first | exact ls_slice_toT (n := 30) tab_ok hT rfl rfl rfl rfl hc0 rfl | exact lsc (hF) | exact lsc (hR) | exact lsc (hA) | focus (apply ls_append tab_ok rfl rfl ?hn rfl ?hsrc rfl ?hlen rfl rfl; (case hn => rfl); (case hsrc => first | exact SrcIs.sl | exact SrcIs.nil | exact SrcIs.own rfl rfl | fail); (case hlen => (try simp only [List.length_cons, List.length_nil]); ((try simp only [List.length_append, List.length_cons, List.length_nil, List.nil_append]); omega)); first | done | fail) | exact lsq) | refine a_seq ?_ | refine a_region ?_ | refine o_nil ?_ | refine a_block ?_ | refine a_ret ?_ | refine a_exit ?_ | refine a_skip ?_ | refine a_draw mixed ?_ | refine d_nil (by kernel_rfl) ?_ | refine o_yes rfl rfl rfl ?_ | refine o_no rfl rfl rfl (by decide) ?_ | refine o_no' rfl rfl rfl ?_ | refine a_condT rfl ?_ | refine a_condF rfl ?_ | refine d_no rfl rfl rfl (by decide) ?_ | refine d_no' rfl rfl rfl ?_ | (refine wq2 (fun hb => ?_) (fun hb => ?_) <;> (simp only [hb]; try simp only [hbs, ne_eq] at hb; try (exfalso; first | omega | exact hb trivial))) | fail)
  rotate_left
  all_goals
   refine ⟨⟨[(7, .sl 5 (A.map Rs.av)), (8, .v (.int .i64 e)), (30, .agg [.v (.int .i64 g), .v (.int .i64 s), .v (.int .i64 d), .v (.int .i64 k), .v (.int .i64 fu), .v (.int .i64 li), .v (.int .i64 de), .v (.int .i64 id)]), (36, .sl 1 (F ++ [[.sl 3 MO]]))], []⟩, ?_, ?_⟩
   ·refine ⟨by repeat' (first | exact trivial | exact FinA.one (FinB.cell (FinC.same rfl)) | exact FinA.one (FinB.cell FinC.nil) | exact FinA.bound rfl | exact FinA.one (FinB.cell (FinC.own rfl rfl rfl rfl)) | exact FinA.one (FinB.cell (FinC.v (by first | rfl | (rfl)))) | exact FinA.one (FinB.cell (FinC.ow rfl (by first | rfl | (rfl)))) | exact FinA.one (FinB.agg' rfl rfl) | refine ⟨⟨_, rfl, ?_⟩, ?_⟩), by repeat' (first | exact trivial | refine ⟨⟨_, rfl, by first | rfl | (rfl; done) | (simp [renO, *]; done)⟩, by first | rfl | assumption, ?_⟩), rfl⟩
   repeat' (first | ((first | apply o_do | apply d_do | apply d_yes rfl rfl rfl); first | exact lsc (hR2) | exact lsc (hA) | exact lsq) | refine a_seq ?_ | refine a_region ?_ | refine o_nil ?_ | refine a_block ?_ | refine a_ret ?_ | refine a_exit ?_ | refine a_skip ?_ | refine a_draw mixed ?_ | refine d_nil (by kernel_rfl) ?_ | refine o_yes rfl rfl rfl ?_ | refine o_no rfl rfl rfl (by decide) ?_ | refine o_no' rfl rfl rfl ?_ | refine a_condT rfl ?_ | refine a_condF rfl ?_ | refine d_no rfl rfl rfl (by decide) ?_ | refine d_no' rfl rfl rfl ?_ | (refine wq2 (fun hb => ?_) (fun hb => ?_) <;> (simp only [hb]; try simp only [hbs, ne_eq] at hb; try (exfalso; first | omega | exact hb trivial))) | fail)
   all_goals refine rq rfl ?_
   all_goals exact fnq
end Go.Proofs.Ytlgbadlgfdlheaa
namespace Go.Proofs.Ytlgbadlgfdlheaa
open Go.RowKit Go.WideShapes Go.ChangeShapes Go.ChangeAt
set_option maxRecDepth 100000
theorem modelMore_contract (H : Type) (enc : TypeId × Value → H) (W : World) (base : Nat) (args : Array Value) (ds gs : List (DataW H)) (before : List MemPlace)
  (hval0 : ∀ (j : Nat) t v, Try.f3.params[j]? = some t → args[j]? = some v → Value.okWide Try.prog W .any base t v)
  (hW : DataW.Whole enc Try.prog Try.f3.params.toList Rows.modelMoreSpec.vars false W args.toList ds gs before) :
  Calls Try.prog 3 args W fun e W' => ∃ v, e = .returned v ∧ Rows.modelMoreSpec.post enc Try.prog Try.f3 false true false false W args v W' := by
 have hval := hval0
 have hW' := hW
 obtain ⟨p, q, hA0, hV, rfl, hfz, hnd⟩ := hW
 have hA : DataW.TrodAll enc Try.prog W 0 (fun _ => true) true Try.f3.params.toList args.toList ds p := hA0
 rw [Try.params3] at hA hval
 obtain ⟨v0, vs0, d0, ds0, p0, q0, hargs, rfl, rfl, h0, r0⟩ := trodAll_cons hA
 obtain ⟨v1, vs1, d1, ds1, p1, q1, rfl, rfl, rfl, h1, r1⟩ := trodAll_cons r0
 obtain ⟨v2, vs2, d2, ds2, p2, q2, rfl, rfl, rfl, h2, r2⟩ := trodAll_cons r1
 obtain ⟨rfl, rfl, rfl⟩ := trodAll_nil r2
 obtain rfl : args = #[v0, v1, v2] := by cases args; simp_all
 obtain ⟨rfl, rfl⟩ := trodVars_none hV
 clear hA0 hval0
 obtain ⟨cs0, rfl, _, _, g0⟩ := open_struct_arg Try.underlying23 (hval 0 23 v0 rfl rfl) h0
 obtain ⟨g, s, d, k, fu, li, de, id, rfl, hj⟩ := rd_Job g0
 obtain ⟨ls, hsm, hrg, hins⟩ := open_ins_arg (hval 1 24 v1 rfl rfl) h1
 obtain ⟨es, hel, hev, hes⟩ := open_etsR_arg (hval 2 25 v2 rfl rfl) h2
 refine ((m_more g s d k fu li de id ls es hsm hrg hel hev (by omega)).law (vs := [_, _, _]) ⟨_, _, rfl, rep_Job, _, _, rfl, hins, _, _, rfl, hes, rfl⟩).mono fun e W' ⟨he, hb⟩ => ?_
 subst he
 exact ⟨_, rfl, post_law @A_laidOut (rd_of (by kernel_rfl : (Try.f3.params.toList.all fun t => Try.prog.readableRec t && decide (t < Try.prog.types.size)) = true)) rfl rfl Try.underlying4 hW' rfl hb⟩

theorem modelMore_own : ownKnob Try.prog.godebug = none := by kernel_rfl
set_option maxRecDepth 100000 in
theorem modelMore_lifted (os : Os) (started : os.Started) (H : Type) (enc : TypeId × Value → H) :
  ReturnsInHanded {} Try.checked os 3 .any (Rows.modelMoreSpec.pre6 enc Try.prog Try.f3 Rows.modelMoreRow.domain false) (Rows.modelMoreSpec.post enc Try.prog Try.f3 false true false false) := by
 refine returnsInHanded_of_change (C := Try.checked) modelMore_own started (by kernel_rfl) Try.func3
  (ChangeSpec.witness6 (enc := enc) (C := Try.checked) false ⟨#[], #[.agg #[.int .i64 0, .int .i64 0, .int .i64 0, .int .i64 0, .int .i64 0, .int .i64 0, .int .i64 0, .int .i64 0], .slice none 0 0, .slice none 0 0], []⟩ 8 (by kernel_rfl) (by kernel_rfl) (by kernel_rfl) (by kernel_rfl)) ?_
 intro W base args ds gs before hval hW _ _
 exact modelMore_contract H enc W base args ds gs before hval hW
theorem modelMore_proved : Rows.ModelMoreSaid :=
 OpenClaim.holds_of_wide 3 Try.f3 rfl rfl rfl rfl rfl rfl rfl ⟨rfl, rfl, rfl, rfl, rfl⟩ rfl rfl rfl rfl rfl (by kernel_rfl) Try.func3 (by kernel_rfl)
  (of_decide_eq_true (by kernel_rfl)) (by unfold Func.isWrapper; first | (rw [if_pos (by decide +kernel)]; kernel_rfl) | (rw [if_neg (by decide +kernel)]; exact ⟨rfl, rfl⟩))
  (fun os started H enc _ => modelMore_lifted os started H enc)
end Go.Proofs.Ytlgbadlgfdlheaa
