/-
  maps.Keys at uint32: its iterator's contract: every key once, in whatever order.
  Layer ring in plain Lean: a text's hash, moves between owners; no program in sight. No condition.
  Walks of layer ring (its part without the library) and of its reference.
  Maps whose keys are numbers: rules for m[k] = v and m[k]; maps.Keys; a hash. Walked over abstract values.
  A range over maps.Keys of one's own map: what a walk wants of the iterator.
  ring.around, walked over abstract values: who stands at which point, and the points in order.
  ring's owner of a group, and the document's, walked over abstract values.
-/
import Derived.RangeFuncNested
import Derived.RangeFuncBound
import Derived.RangeFuncCalls
import Derived.RangeFuncLeaves
import Derived.Shelf.Abstract
import Derived.Shelf.RegionOpen
import Derived.WalkKit
import Derived.OwnWalkIn
import Derived.TacticsInMore
import Derived.LoopNIn
import Derived.LoopIn
import Derived.Sort.MapsRangeIn
import Derived.RowKit
import Derived.Laws.BitsAllLaws
import Derived.Maps.Keyed
import Derived.Maps.RangeWalk
import Derived.Test.YtcfidmdkioccdaaDoorRows
import Derived.Test.YtcfidmdkioccdaaDoorS1
import Derived.Test.YtcfidmdkioccdaaDoorS4
import Derived.Test.YtcfidmdkioccdaaDoorS9
set_option linter.unusedSimpArgs false
set_option linter.unusedVariables false
set_option maxHeartbeats 20000000
namespace Go.Proofs.YtcfidmdkioccdaaDoor
open Go.RowKit Go.Shelf Go.ChangeMaps Go.MapKept
attribute [local go_sem] Oper.semAt_some
def MapB (W : World) (b : Nat) (es : List (Value × Value)) : Prop := ∃ ents ck, W.heap[b]? = some (.map ents ck) ∧ ents.toList.map (fun e => (e.key, e.val)) = es ∧ Borns ents ck
section
variable {P : Program} {F : Fence} {n : Nat} {ops : Array Oper} {Q : Exit → Act → World → Prop} {o : Oper} {rest : List Oper} {a : Act} {w : World}
theorem wl_range (hg : o.guard = none) (m : Operand) (t : TypeId) (hop : o.op = Op.range t m) (kt et : TypeId) (ht : P.underlying t = some (.map kt et)) {b : Nat} {es : List (Value × Value)} (hm : a.eval m = .map (some b)) (hb : MapB w b es)
  (hK : ∀ w', w'.heap.size = w.heap.size + 1 → w'.heap[w.heap.size]? = some (.mapIter (some b) es.length #[] es.length) → TurnOg (fun _ => False) w w' → wpListIn F n P ops Q rest (a.put o.dst (.pointer (some ⟨w.heap.size, 0, none⟩))) w') :
  wpListIn F n P ops Q (o :: rest) a w := by
 refine wpListIn_plain hg fun K' hK' => ?_
 obtain ⟨ents, ck, h1, h2, h3⟩ := hb
 have hck : ck = es.length := by rw [h3.1, ← h2]; simp
 have hrun := run_range_map w t kt et b ents ck ht h1
 unfold Oper.wpIn
 refine ⟨?_, ?_⟩
 ·simp [Oper.about, hop]
 ·rw [Oper.semAt_plain F _ _ (by rw [hop]; intro c hc'; cases hc')]
  simp [execOp, hop, hm, hrun, Result.andThen]
  refine hK' _ _ (hK _ (by simp) ?_ (TurnOg.alloc _ _ _))
  rw [hck]
  exact (MapKept.heap_alloc w _).1
theorem wl_next (hg : o.guard = none) (it : Operand) (hop : o.op = Op.next it false) {b r : Nat} {es : List (Value × Value)} {seen : List Nat} (hit : a.eval it = .pointer (some ⟨r, 0, none⟩)) (hr : w.heap[r]? = some (.mapIter (some b) es.length seen.toArray es.length)) (hb : MapB w b es)
  (hDone : (∀ i, i < es.length → i ∈ seen) → wpListIn F n P ops Q rest (a.put o.dst (.tuple #[.bool false])) w)
  (hMore : ∀ (i : Nat) (p : Value × Value) (w' : World), es[i]? = some p → i ∉ seen → w'.heap[r]? = some (.mapIter (some b) es.length (seen ++ [i]).toArray es.length) → TurnOg (fun k => k = r) w w' → w'.heap.size = w.heap.size →
   (Instr.entry (.pointer (some ⟨r, 0, none⟩))).run P w' = .ok (.tuple #[p.1, p.2]) w' → wpListIn F n P ops Q rest (a.put o.dst (.tuple #[.bool true, p.1, p.2])) w') :
  wpListIn F n P ops Q (o :: rest) a w := by
 refine wpListIn_plain hg fun K' hK' => ?_
 obtain ⟨ents, ck, h1, h2, hbo⟩ := hb
 have hlen : ents.size = es.length := by rw [← h2]; simp
 have hck : ck = es.length := by rw [hbo.1, hlen]
 have hbi : ∀ e ∈ ents.toList, ∃ i : Nat, i < es.length ∧ ents.toList[i]? = some e ∧ e.born = i := fun e he => by
  obtain ⟨i, hi, rfl⟩ := List.getElem_of_mem he
  have hi' : i < ents.size := by simpa using hi
  exact ⟨i, by omega, by simp [hi'], hbo.2 i _ (by simp [hi'])⟩
 have hold : ∀ e ∈ ents.toList, e.born < es.length := fun e he => by
  obtain ⟨i, hi, _, h3⟩ := hbi e he
  omega
 unfold Oper.wpIn
 refine ⟨by simp [Oper.about, hop], ?_⟩
 rw [Oper.semAt_plain F _ _ (by rw [hop]; intro c hc'; cases hc')]
 rcases run_next_at (P := P) w o.type r b es.length es.length seen.toArray ents ck hr h1 hold (Nat.le_refl _) with ⟨h0, hrun⟩ | ⟨e, he, w1, hal, hrun⟩
 ·simp [execOp, hop, hit, hrun, Result.andThen]
  refine hK' _ _ (hDone fun i hi => ?_)
  have hi' : i < ents.size := by omega
  have h4 := all_seen ents seen.toArray h0 ents[i] (by simp)
  rw [hbo.2 i _ (by simp [hi'])] at h4
  simpa using h4
 ·obtain ⟨hem, hes⟩ := mem_left he
  obtain ⟨i, hi, hie, hbn⟩ := hbi e hem
  have hp : es[i]? = some (e.key, e.val) := by rw [← h2, List.getElem?_map, hie]; rfl
  have hns : i ∉ seen := by
   rw [hbn] at hes
   simpa using hes
  have hr1 : w1.heap[r]? = some (.mapIter (some b) es.length seen.toArray es.length) := by rcases hal with rfl | rfl <;> exact hr
  have hset := heap_set (o' := .mapIter (some b) es.length (seen.toArray.push e.born) ck) hr1
  have hsz : (setBlock w1 r (.mapIter (some b) es.length (seen.toArray.push e.born) ck)).heap.size = w.heap.size := by rcases hal with rfl | rfl <;> simp [setBlock]
  have hoth : ∀ c, c ≠ r → (setBlock w1 r (.mapIter (some b) es.length (seen.toArray.push e.born) ck)).heap[c]? = w.heap[c]? := fun c hc => (hset.2 c hc).trans (by rcases hal with rfl | rfl <;> rfl)
  have hos : (setBlock w1 r (.mapIter (some b) es.length (seen.toArray.push e.born) ck)).os = w.os ∧ (setBlock w1 r (.mapIter (some b) es.length (seen.toArray.push e.born) ck)).tape = w.tape ∧ (setBlock w1 r (.mapIter (some b) es.length (seen.toArray.push e.born) ck)).output = w.output := by
   rcases hal with rfl | rfl <;> exact ⟨rfl, rfl, rfl⟩
  have hat : (setBlock w1 r (.mapIter (some b) es.length (seen.toArray.push e.born) ck)).heap[r]? = some (.mapIter (some b) es.length (seen.toArray.push e.born) ck) := hset.1
  clear hset hal hr1
  generalize setBlock w1 r (.mapIter (some b) es.length (seen.toArray.push e.born) ck) = W' at *
  have hnd : (ents.toList.map (·.born)).Nodup := by
   rw [List.nodup_iff_pairwise_ne, List.pairwise_map, List.pairwise_iff_getElem]
   intro c d hc hd hcd
   have hc' : c < ents.size := by simpa using hc
   have hd' : d < ents.size := by simpa using hd
   have h3 := hbo.2 c _ (show ents[c]? = some ents[c] by simp [hc'])
   have h4 := hbo.2 d _ (show ents[d]? = some ents[d] by simp [hd'])
   simp only [Array.getElem_toList]
   omega
  have hne : b ≠ r := by rintro rfl; rw [hr] at h1; cases h1
  have hent := run_entry_at (P := P) W' r b es.length seen.toArray ents ck e (by rw [hat]) ((hoth b hne).trans h1) hem hnd
  have hturn : TurnOg (fun k => k = r) w W' := ⟨hos.1, hos.2.1, hos.2.2, by omega, fun k _ hk => hoth k hk⟩
  simp [execOp, hop, hit, hrun, Result.andThen]
  exact hK' _ _ (hMore i (e.key, e.val) _ hp hns (by rw [hat, hbn, hck]; simp) hturn hsz hent)
end
def stK (es : List (Value × Value)) (seen : List Nat) (x : Nat) (j : List Nat) : Prop := ∃ (k : Nat) (v : Value), es[k]? = some (.int .u32 x, v) ∧ k ∉ seen ∧ j = seen ++ [k]
def enU (x : Nat) : Value := .int .u32 (x : Int)
def leftK (n r : Nat) (W : World) : Nat := match W.heap[r]? with
 | some (.mapIter _ _ s _) => n - s.size
 | _ => 0
theorem seen_len {n : Nat} {l : List Nat} (h : l.Nodup) (hl : ∀ k ∈ l, k < n) : l.length ≤ n := by
 have := List.Nodup.length_le_of_subset h (l₂ := List.range n) (fun k hk => List.mem_range.2 (hl k hk))
 simpa using this
set_option maxRecDepth 100000 in
theorem it_keys (es : List (Value × Value)) (hes : ∀ p ∈ es, ∃ x : Nat, p.1 = .int .u32 x) (A : Nat → Prop) (w : World) (l kb b : Nat)
  (J Jx : (Nat → Prop) → List Nat → World → Prop) (hJ : Goesg w.heap.size J) (hJx : Goesg w.heap.size Jx)
  (hK : ∀ (O : Nat → Prop) i W, (∀ k, O k → w.heap.size ≤ k) → J O i W → W.cell? ⟨kb, 0, none⟩ = some (.map (some b)) ∧ MapB W b es)
  (hY : ∀ (O : Nat → Prop) i x j W1, (∀ k, O k → w.heap.size ≤ k) → J O i W1 → (∃ e, x = #[enU e] ∧ stK es i e j) → YieldAt Fence.wide 0 Tryd.prog l x W1 fun e W' =>
   (e = .returned (.bool true) ∧ J O j W' ∧ KOg A O w.heap.size W1 W') ∨ (e = .returned (.bool false) ∧ Jx O j W' ∧ KXg O W1.heap.size W1 W'))
  (h0 : J (fun _ => False) [] w) :
  CallsIn Fence.wide 1 Tryd.prog 25 #[.func (.yield l) #[] #[], .pointer (some ⟨kb, 0, none⟩)] w fun e W' => (∃ v, e = .returned v) ∧
   ∃ O : Nat → Prop, (∀ k, O k → w.heap.size ≤ k) ∧ ((∃ i, (∀ k, k < es.length → k ∈ i) ∧ J O i W') ∨ ∃ i, Jx O i W') := by
 obtain ⟨hc0, hb0⟩ := hK _ _ _ (fun _ h => h.elim) h0
 refine callsIn_of_wp Tryd.func25 rfl trivial ?_ rfl
 simp only [Tryd.ntmps25, List.size_toArray, List.length_cons, List.length_nil, Nat.reduceAdd, Nat.reduceSub, Array.replicate_succ, Array.replicate_zero, List.push_toArray, List.append_toArray, List.nil_append, List.cons_append]
 have hOb : ∀ k, k = w.heap.size → w.heap.size ≤ k := by rintro k rfl; omega
 gi_wp2_with (first
  | (gi_at_range; refine wl_range rfl _ 38 rfl _ _ Tryd.underlying38 rfl hb0 ?_; intro w0 hs0 hr0 ht0)
  | gi_in)
 go_frame
 have hJ0 : J (fun k => k = w.heap.size) [] w0 := hJ _ _ _ _ _ (fun _ h => h.elim) h0 ht0 (fun _ h => h.elim) (fun k hk => .inr (by subst hk; omega))
 gi_loopw [3] (fun _ wr => ∃ seen : List Nat, seen.Nodup ∧ (∀ k ∈ seen, k < es.length) ∧ wr.heap[w.heap.size]? = some (.mapIter (some b) es.length seen.toArray es.length) ∧ J (fun k => k = w.heap.size) seen wr)
  (fun _ wr => leftK es.length w.heap.size wr)
 case atStart =>
  exact ⟨[], List.nodup_nil, (by intro k hk; simp at hk), hr0, hJ0⟩
 case round =>
  obtain ⟨seen, hnd, hlt, hri, hJs⟩ := hrel
  obtain ⟨_, hbs⟩ := hK _ _ _ hOb hJs
  gi_wp2_with (first
   | (gi_at_next; refine wl_next rfl _ rfl rfl hri hbs ?_ ?_)
   | gi_in)
  ·intro hall
   gi_wp2
   go_end0
   exact ⟨⟨_, rfl⟩, _, hOb, .inl ⟨seen, hall, hJs⟩⟩
  ·intro i key val w2 hp hns hr2 ht2 hs2 hen
   obtain ⟨x, hx⟩ := hes (key, val) (List.mem_of_getElem? hp)
   dsimp only at hx
   subst hx
   have hJ2 : J (fun k => k = w.heap.size) seen w2 := hJ _ _ _ _ _ hOb hJs ht2 (fun _ h => h) (fun _ h => .inl h)
   obtain ⟨fn, tmps, assign, body, hy, hR⟩ := hY _ seen #[enU x] (seen ++ [i]) w2 hOb hJ2 ⟨x, rfl, i, val, hp, hns, rfl⟩
   unfold enU at hy
   gi_wp2
   refine hR.mono ?_
   rintro e W3 (⟨rfl, hJ3, hk3⟩ | ⟨rfl, hJx3, _⟩)
   ·gi_wp2
    have hr3 := (hk3.2 w.heap.size (.inr rfl)).trans hr2
    go_roundw
    case rel =>
     refine ⟨seen ++ [i], ?_, ?_, hr3, hJ3⟩
     ·rw [List.nodup_append]
      exact ⟨hnd, by simp, fun a ha c hc => by rw [List.mem_singleton] at hc; subst hc; rintro rfl; exact hns ha⟩
     ·intro k hk
      rcases List.mem_append.1 hk with h | h
      ·exact hlt k h
      ·rw [List.mem_singleton] at h; subst h; exact (List.getElem?_eq_some_iff.1 hp).1
    case measure =>
     have h1 := seen_len (l := seen ++ [i]) (n := es.length) (by
      rw [List.nodup_append]
      exact ⟨hnd, by simp, fun a ha c hc => by rw [List.mem_singleton] at hc; subst hc; rintro rfl; exact hns ha⟩) (fun k hk => by
      rcases List.mem_append.1 hk with h | h
      ·exact hlt k h
      ·rw [List.mem_singleton] at h; subst h; exact (List.getElem?_eq_some_iff.1 hp).1)
     simp only [List.length_append, List.length_cons, List.length_nil] at h1
     unfold leftK
     rw [hr3, hri]
     simp
     omega
   ·gi_wp2
    refine bodyPost_ret (results_none rfl _ _ _) rfl ?_
    exact ⟨⟨_, rfl⟩, _, hOb, .inr ⟨_, hJx3⟩⟩
end Go.Proofs.YtcfidmdkioccdaaDoor
namespace Go.Proofs.YtcfidmdkioccdaaDoor
open Go.RowKit

def hStep (h : Nat) (b : UInt8) : Nat := ((h ^^^ b.toNat) * 16777619) % 4294967296
def hBase : Nat := 2166136261
def hashN (l : List UInt8) : Nat := l.foldl hStep hBase
theorem hashN_nil : hashN [] = hBase := rfl
theorem hashN_snoc (l : List UInt8) (b : UInt8) : hashN (l ++ [b]) = hStep (hashN l) b := by unfold hashN; rw [List.foldl_append, List.foldl_cons, List.foldl_nil]
theorem hStep_lt (h : Nat) (b : UInt8) : hStep h b < 4294967296 := Nat.mod_lt _ (by omega)
theorem hashN_lt (l : List UInt8) : hashN l < 4294967296 := by
 rcases List.eq_nil_or_concat l with rfl | ⟨m, x, rfl⟩
 ·rw [hashN_nil]; unfold hBase; omega
 ·rw [List.concat_eq_append, hashN_snoc]; exact hStep_lt _ _

def grpV (l : List UInt8) (g : Int) : Int := if g < 1 then 0 else (hashN l : Int) % g
theorem grpV_low {l : List UInt8} {g : Int} (h : g < 1) : grpV l g = 0 := if_pos h
theorem grpV_high {l : List UInt8} {g : Int} (h : ¬ g < 1) : grpV l g = (hashN l : Int) % g := if_neg h

def okTo (l : List Int) : Nat → Bool
 | 0 => true
 | k + 1 => okTo l k && (decide (1 ≤ l.getD k 0) && decide (l.getD k 0 ≤ 99) && (decide (k = 0) || decide (l.getD (k - 1) 0 < l.getD k 0)))
def rightW (l : List Int) : Bool := decide (1 ≤ l.length) && decide (l.length ≤ 8) && okTo l l.length
theorem okTo_false (l : List Int) {k n : Nat} (h : k ≤ n) (hf : okTo l k = false) : okTo l n = false := by
 induction n with
 | zero => obtain rfl : k = 0 := by omega
           exact hf
 | succ n ih =>
  by_cases e : k = n + 1
  ·rw [← e]; exact hf
  ·simp only [okTo, ih (by omega), Bool.false_and]
attribute [local go_sem ↓] Go.wp_at_zero Go.wp_at_succ

theorem bytes_snoc (s : ByteArray) (k : Nat) (h : k < s.size) : s.data.toList.take (k + 1) = s.data.toList.take k ++ [s[k]] := by
 rw [List.take_succ_eq_append_getElem (by simpa using h)]; rfl
theorem h32 (q : Nat) (b : UInt8) (hq : q < 4294967296) : bits .xor .u32 (q : Int) ((b.toNat : Int) % 4294967296) * 16777619 % 4294967296 = ((hStep q b : Nat) : Int) := by
 have hb : b.toNat < 256 := b.toNat_lt
 rw [show ((b.toNat : Int) % 4294967296) = (b.toNat : Int) from by omega, u32_xor_nat q b.toNat hq (by omega)]
 unfold hStep
 omega

theorem h64 (q : Nat) (b : UInt8) (hq : q < 4294967296) : (IntKind.u64.wrap (bits .xor .u64 (q : Int) (IntKind.u64.wrap (b.toNat : Int)) * 16777619)).tmod 4294967296 = ((hStep q b : Nat) : Int) := by
 have hb : b.toNat < 256 := b.toNat_lt
 have hx : q ^^^ b.toNat < 2 ^ 32 := Nat.xor_lt_two_pow (by omega) (by omega)
 rw [show IntKind.u64.wrap (b.toNat : Int) = (b.toNat : Int) from by rw [IntKind.wrap_u64]; omega, u64_xor_nat q b.toNat (by omega) (by omega)]
 rw [show IntKind.u64.wrap (((q ^^^ b.toNat : Nat) : Int) * 16777619) = ((q ^^^ b.toNat : Nat) : Int) * 16777619 from by rw [IntKind.wrap_u64]; omega]
 rw [Int.tmod_eq_emod_of_nonneg (by omega)]
 unfold hStep
 omega

theorem ring_Hash (s : ByteArray) (w : World) (hs : s.size ≤ 9223372036854775807) :
  Calls Tryd.prog 18 #[.string s] w fun e w' => ∃ q : Nat, Hid (q = hashN s.data.toList) ∧ e = .returned (.int .u32 q) ∧ w = w' := by
 have hs' : (s.size : Int) ≤ 9223372036854775807 := by omega
 go_enter Tryd.func18, Tryd.ntmps18
 go_wp2
 go_loop [3, 7] (fun h i => ∃ (k q : Nat), k ≤ s.size ∧ i = .int .i64 k ∧ h = .int .u32 q ∧ Hid (q = hashN (s.data.toList.take k)) ∧ q < 4294967296) (fun _ i => s.size - (intOf i).toNat)
 case atStart => exact ⟨0, 2166136261, Nat.zero_le _, rfl, rfl, hide rfl, by omega⟩
 case round =>
  obtain ⟨k, q, hk, rfl, rfl, HQ, hq⟩ := hrel
  by_cases hlt : k < s.size
  ·have hlt' : (k : Int) < s.size := by omega
   go_wp2
   go_round
   case rel =>
    refine ⟨k + 1, hStep q s[k], by omega, by go_num, ?_, hide ?_, hStep_lt _ _⟩
    ·rw [h32 q s[k] hq]
    ·rw [bytes_snoc s k hlt, hashN_snoc, ← HQ.out]
   case measure => simp [intOf]; omega
  ·have hk' : k = s.size := by omega
   go_wp2
   go_ret
   refine ⟨q, ?_, rfl, rfl⟩
   subst hk'
   rw [List.take_of_length_le (by simp)] at HQ
   exact HQ

theorem ring_Group (s : ByteArray) (g : Int) (w : World) (hs : s.size ≤ 9223372036854775807) (hg : -9223372036854775808 ≤ g ∧ g ≤ 9223372036854775807) :
  Calls Tryd.prog 12 #[.string s, .int .i64 g] w fun e w' => e = .returned (.int .i64 (grpV s.data.toList g)) ∧ w = w' := by
 by_cases h1 : g < 1
 ·rw [grpV_low h1]
  go_enter Tryd.func12, Tryd.ntmps12
  go_wp2
  go_ret
  exact ⟨rfl, rfl⟩
 ·rw [grpV_high h1]
  have h2 : 1 ≤ g := by omega
  have h3 := hg.2
  go_enter Tryd.func12, Tryd.ntmps12
  go_wp2_with fail
  refine (ring_Hash s _ hs).mono ?_
  rintro e w' ⟨q, HQ, rfl, rfl⟩
  have hq : (q : Int) < 4294967296 := by have := hashN_lt s.data.toList; have := HQ.out; omega
  have hq0 : 0 ≤ (q : Int) := by omega
  have z : (g == 0) = false := by simp; omega
  have hm0 : 0 ≤ (q : Int) % g := Int.emod_nonneg _ (by omega)
  have hm1 : (q : Int) % g < g := Int.emod_lt_of_pos _ (by omega)
  go_wp2
  go_ret
  refine ⟨?_, rfl⟩
  rw [HQ.out]; rfl

end Go.Proofs.YtcfidmdkioccdaaDoor
namespace Go.Proofs.YtcfidmdkioccdaaDoor
open Go.RowKit Go.ChangeMaps Go.MapKept
section
variable {P : Program} {Γ : Ctx} {s : ASt} {dst : Option Tmp} {ty : TypeId} {pos : String} {after : Array Edge}
theorem ls_mapUpdateK {kt : TypeId} (K : Maps.Keyed P kt) {m x y : Operand} {t et id : Nat} {es es' : List (Value × Value)} {kv vv : AV} {key val : Value} {kl : Lit}
  (hm : ev s m = some (.mp id)) (hx : ev s x = some kv) (hy : ev s y = some vv) (hσ : find s.σ id = some (.mp (.m es))) (hu : P.underlying t = some (.map kt et)) (hk : conv kv = some key) (hv : conv vv = some val)
  (hkey : keyOf P kt key = some kl) (hall : ∀ p ∈ es, ∃ l, keyOf P kt p.1 = some l) (h1 : (∀ p ∈ es, p.1 ≠ key) → es' = es ++ [(key, val)]) (h2 : ∀ j p, es[j]? = some p → p.1 = key → es' = es.set j (key, val)) (hdst : dst = none) :
  LS P Γ ⟨dst, .mapUpdate t m x y, ty, pos, after, none⟩ s (rd m (rd x (rd y [.obj id]))) [] [(id, .mp (.m es'))] := by
 refine ⟨fun t' ht Q μ a w hr K' hK => ?_⟩
 subst hdst
 obtain ⟨e1, ht⟩ := ht.ev hm
 obtain ⟨e2, ht⟩ := ht.ev hx
 obtain ⟨e3, ht⟩ := ht.ev hy
 have e0 : find t'.σ id = some (.mp (.m es)) := ht.1.trans hσ
 have e1 := hr.ev e1
 have e2 := conv_rep hk (hr.ev e2)
 have e3 := conv_rep hv (hr.ev e3)
 simp only [rep] at e1
 obtain ⟨g, ents, ck, h3, h4, h5, hbo⟩ := obj_map (hr.store.obj id _ e0)
 have hall' : ∀ e ∈ ents.toList, ∃ l, keyOf P kt e.key = some l := fun e he => by
  have := hall (e.key, e.val) (by rw [← h5]; exact List.mem_map.2 ⟨e, he, rfl⟩)
  exact this
 obtain ⟨ents', ck', hrun, hents⟩ : ∃ ents' ck', (Instr.mapUpdate t (.map (some g)) key val).run P w = .ok () { w with heap := w.heap.setIfInBounds g (.map ents' ck') } ∧ ents'.toList.map (fun e => (e.key, e.val)) = es' ∧ Borns ents' ck' := by
  rcases K.find w hkey ents.toList hall' with ⟨h6, h7⟩ | ⟨j, e, h6, h7, h8⟩
  ·refine ⟨ents.push { key, val := val, born := ck }, ck + 1, ?_, ?_, borns_push hbo _ _⟩
   ·simp [Instr.mapUpdate, run_underlying hu, MapKept.run_getObj_map h4, K.check w false hkey, h6, MapKept.run_setObj_map _ h4]
   ·rw [Array.toList_push, List.map_append, h5]
    refine (h1 fun p hp => ?_).symm
    rw [← h5] at hp
    obtain ⟨e, he, rfl⟩ := List.mem_map.1 hp
    exact h7 e he
  ·have hj : j < ents.size := by simpa using (List.getElem?_eq_some_iff.1 h7).1
   have hge : ents[j]? = some e := by simpa using h7
   refine ⟨ents.modify j fun e => { e with key, val := val }, ck, ?_, ?_, borns_modify hbo j _ (fun _ => rfl)⟩
   ·simp [Instr.mapUpdate, run_underlying hu, MapKept.run_getObj_map h4, K.check w false hkey, h6, hge, h8, K.stays w hkey, MapKept.run_setObj_map _ h4]
   ·rw [h2 j (e.key, e.val) (by rw [← h5, List.getElem?_map, h7]; rfl) h8, ← h5, Array.toList_modify]
    apply List.ext_getElem?
    intro i
    rw [List.getElem?_map, List.getElem?_modify, List.getElem?_set, List.getElem?_map]
    by_cases hij : j = i
    ·subst hij
     rw [h7]
     simp [hj]
    ·simp [hij]
 unfold Oper.wp
 have hrun2 : (execOp a.eval ⟨none, .mapUpdate t m x y, ty, pos, after, none⟩).run P w = .ok .skip { w with heap := w.heap.setIfInBounds g (.map ents' ck') } := by
  simp only [execOp, e1.2.1, h3, e2, e3, Sem.run_bind, hrun, Result.andThen_ok, Sem.run_pure]
 rw [hrun2]
 refine hK μ _ _ ?_
 refine store_rel hr e0 (g := g) (by rw [h3]; rfl) (by simp) rfl rfl rfl (fun b hb => ?_) trivial (fun A hst hA => ?_)
 ·simp only [Array.getElem?_setIfInBounds_ne (Ne.symm hb)]
 ·have hlt := (Array.getElem?_eq_some_iff.1 h4).1
  exact obj_mapI ⟨g, ents', ck', h3, by simp [hlt], hents⟩
theorem ls_lookupK {kt : TypeId} (K : Maps.Keyed P kt) {m x : Operand} {t et id : Nat} {es : List (Value × Value)} {kv : AV} {key r z : Value} {b : Bool} {kl : Lit} (c : Bool)
  (hm : ev s m = some (.mp id)) (hx : ev s x = some kv) (hσ : find s.σ id = some (.mp (.m es))) (hu : P.underlying t = some (.map kt et)) (hk : conv kv = some key) (hz : ∀ w, (zeroValue et).run P w = .ok z w) (hr : scal r = true)
  (hkey : keyOf P kt key = some kl) (hall : ∀ p ∈ es, ∃ l, keyOf P kt p.1 = some l) (h1 : (∀ p ∈ es, p.1 ≠ key) → r = z ∧ b = false) (h2 : ∀ (j : Nat) (p : Value × Value), es[j]? = some p → p.1 = key → r = p.2 ∧ b = true) (hd : okDst Γ.n dst = true) :
  LS P Γ ⟨dst, .lookup t m x c, ty, pos, after, none⟩ s (rd m (rd x [.obj id])) (dst1 dst (match c with | true => .tup [.v r, .v (.bool b)] | false => .v r)) [] :=
 ls_pure hd fun t' ht μ a w hR => by
  obtain ⟨e1, ht⟩ := ht.ev hm
  obtain ⟨e2, ht⟩ := ht.ev hx
  have e0 : find t'.σ id = some (.mp (.m es)) := ht.1.trans hσ
  have e1 := hR.ev e1
  have e2 := conv_rep hk (hR.ev e2)
  simp only [rep] at e1
  obtain ⟨g, ents, ck, h3, h4, h5, hbo⟩ := obj_map (hR.store.obj id _ e0)
  have hall' : ∀ e ∈ ents.toList, ∃ l, keyOf P kt e.key = some l := fun e he => hall (e.key, e.val) (by rw [← h5]; exact List.mem_map.2 ⟨e, he, rfl⟩)
  have hrun : (Instr.lookup t (.map (some g)) key c).run P w = .ok (if c then .tuple #[r, .bool b] else r) w := by
   rcases K.find w hkey ents.toList hall' with ⟨h6, h7⟩ | ⟨j, e, h6, h7, h8⟩
   ·obtain ⟨rfl, rfl⟩ := h1 fun p hp => by
     rw [← h5] at hp
     obtain ⟨e, he, rfl⟩ := List.mem_map.1 hp
     exact h7 e he
    simp [Instr.lookup, run_underlying hu, MapKept.run_getObj_map h4, K.check w _ hkey, h6, hz]
   ·obtain ⟨rfl, rfl⟩ := h2 j (e.key, e.val) (by rw [← h5, List.getElem?_map, h7]; rfl) h8
    simp [Instr.lookup, run_underlying hu, MapKept.run_getObj_map h4, K.check w _ hkey, h6]
  refine ⟨if c then .tuple #[r, .bool b] else r, by simp only [execOp, e1.2.1, h3, e2, Sem.run_bind, hrun, Result.andThen_ok, Sem.run_pure], ?_⟩
  cases c
  ·simp only [rep]; exact ⟨rfl, hr⟩
  ·simp only [rep, repL]; exact ⟨[_, _], rfl, _, _, rfl, ⟨rfl, hr⟩, _, _, rfl, ⟨rfl, rfl⟩, rfl⟩
end
def mEnt (p : Nat × Int) : Value × Value := (.int .u32 p.1, .int .i64 p.2)
theorem u32_keyed : Maps.Keyed Tryd.prog 46 := Maps.int_keyed Tryd.underlying46
theorem u32_key {x : Nat} (h : x < 4294967296) : keyOf Tryd.prog 46 (.int .u32 x) = some (.int .u32 x) := Maps.keyOf_int_mk Tryd.underlying46 (by
 have h1 : IntKind.u32.min = 0 := rfl
 have h2 : IntKind.u32.max = 4294967295 := rfl
 simp [Lit.wf, h1, h2]; omega)
theorem z_intK (w : World) : (zeroValue 3).run Tryd.prog w = .ok (.int .i64 0) w := by go_simp
theorem ent_keys {es : List (Nat × Int)} (h : ∀ p ∈ es, p.1 < 4294967296) : ∀ p ∈ es.map mEnt, ∃ l, keyOf Tryd.prog 46 p.1 = some l := by
 intro p hp
 obtain ⟨q, hq, rfl⟩ := List.mem_map.1 hp
 exact ⟨_, u32_key (h q hq)⟩
theorem ent_key {es : List (Nat × Int)} {j : Nat} {p : Value × Value} {x : Nat} (h : (es.map mEnt)[j]? = some p) (hk : p.1 = .int .u32 x) : ∃ v : Int, es[j]? = some (x, v) ∧ p.2 = .int .i64 v := by
 rw [List.getElem?_map] at h
 cases he : es[j]? with
 | none => rw [he] at h; cases h
 | some q =>
  rw [he] at h
  simp only [Option.map_some, Option.some.injEq] at h
  subst h
  obtain ⟨a, v⟩ := q
  simp only [mEnt, Value.int.injEq, true_and] at hk
  have : a = x := by omega
  exact ⟨v, by rw [this], rfl⟩
section
variable {Γ : Ctx} {s : ASt} {dst : Option Tmp} {ty yt : TypeId} {pos : String} {after : Array Edge} {m x y : Operand} {id : Nat}
theorem ls_isK {es : List (Nat × Int)} {k : Nat} (hr : ∀ p ∈ es, p.1 < 4294967296) (hk : k < 4294967296) (hm : ev s m = some (.mp id)) (hx : ev s x = some (uV k)) (hσ : find s.σ id = some (.mp (.m (es.map mEnt)))) {r : Int} {b : Bool} (h1 : (∀ p ∈ es, p.1 ≠ k) → r = 0 ∧ b = false) (h2 : ∀ v, (k, v) ∈ es → r = v ∧ b = true) (hd : okDst Γ.n dst = true) :
  LS Tryd.prog Γ ⟨dst, .lookup 38 m x true, ty, pos, after, none⟩ s (rd m (rd x [.obj id])) (dst1 dst (.tup [.v (.int .i64 r), .v (.bool b)])) [] :=
 ls_lookupK (key := .int .u32 k) (r := .int .i64 r) (z := .int .i64 0) (b := b) u32_keyed true hm hx hσ Tryd.underlying38 rfl z_intK rfl (u32_key hk) (ent_keys hr)
  (fun h => by
   obtain ⟨e1, e2⟩ := h1 fun p hp e => h (mEnt p) (List.mem_map.2 ⟨p, hp, rfl⟩) (by simp [mEnt, e])
   exact ⟨by rw [e1], e2⟩)
  (fun j p hj hp => by
   obtain ⟨v, hv, hpv⟩ := ent_key hj hp
   obtain ⟨e1, e2⟩ := h2 v (List.mem_of_getElem? hv)
   exact ⟨by rw [e1, hpv], e2⟩) hd
theorem ls_atK {es : List (Nat × Int)} {k : Nat} {r : Int} (hr : ∀ p ∈ es, p.1 < 4294967296) (hk : k < 4294967296) (hm : ev s m = some (.mp id)) (hx : ev s x = some (uV k)) (hσ : find s.σ id = some (.mp (.m (es.map mEnt)))) (h1 : (k, r) ∈ es) (h2 : ∀ v, (k, v) ∈ es → r = v) (hd : okDst Γ.n dst = true) :
  LS Tryd.prog Γ ⟨dst, .lookup 38 m x false, ty, pos, after, none⟩ s (rd m (rd x [.obj id])) (dst1 dst (.v (.int .i64 r))) [] :=
 ls_lookupK (key := .int .u32 k) (r := .int .i64 r) (z := .int .i64 0) (b := true) u32_keyed false hm hx hσ Tryd.underlying38 rfl z_intK rfl (u32_key hk) (ent_keys hr)
  (fun h => absurd (by simp [mEnt]) (h (mEnt (k, r)) (List.mem_map.2 ⟨_, h1, rfl⟩)))
  (fun j p hj hp => by
   obtain ⟨v, hv, hpv⟩ := ent_key hj hp
   exact ⟨by rw [h2 v (List.mem_of_getElem? hv), hpv], rfl⟩) hd
theorem ls_newK {es : List (Nat × Int)} {k : Nat} {v : Int} (hr : ∀ p ∈ es, p.1 < 4294967296) (hk : k < 4294967296) (hm : ev s m = some (.mp id)) (hx : ev s x = some (uV k)) (hy : ev s y = some (.v (.int .i64 v))) (hσ : find s.σ id = some (.mp (.m (es.map mEnt)))) (h1 : ∀ p ∈ es, p.1 ≠ k) (hdst : dst = none) :
  LS Tryd.prog Γ ⟨dst, .mapUpdate 38 m x y, ty, pos, after, none⟩ s (rd m (rd x (rd y [.obj id]))) [] [(id, .mp (.m ((es ++ [(k, v)]).map mEnt)))] :=
 ls_mapUpdateK (key := .int .u32 k) (val := .int .i64 v) u32_keyed hm hx hy hσ Tryd.underlying38 rfl rfl (u32_key hk) (ent_keys hr) (fun _ => by simp [mEnt])
  (fun j p hj hp => by
   obtain ⟨u, hu, _⟩ := ent_key hj hp
   exact absurd rfl (h1 _ (List.mem_of_getElem? hu))) hdst
end
theorem ok_Hash : CallOK Tryd.prog 18 := ⟨_, Tryd.func18, by kernel_rfl, rfl⟩
theorem p_Hash (b : ByteArray) (h : b.size ≤ 1000000) : PC Tryd.prog 18 [.v (.string b)] (uV (hashN b.data.toList)) :=
 pc_of_calls (xs := [.string b]) ok_Hash (fun w => (ring_Hash b w (by omega)).mono fun e w' ⟨q, hq, he, hw⟩ => by
  have h1 : q = hashN b.data.toList := hq.out
  subst h1; subst hw
  exact ⟨he, Below.refl _ _⟩) rfl
theorem a_Keys (es : List (Value × Value)) : AC Tryd.prog 20 [.mp 0] [(0, .mp (.m es))] (.clo (.func 25) [] [.ref 1 0]) [(0, .mp (.m es)), (1, .box 38 [.mp 0])] := by
 refine (ac_body tab_ok Tryd.func20 rfl (by kernel_rfl) rfl ?_); intro w0 M μ0; simp only [Tryd.ntmps20, List.length_cons, List.length_nil, Nat.reduceAdd, Nat.reduceSub, numb]
 repeat' (first | ((first | apply o_do | apply d_do | apply d_yes rfl rfl rfl); exact lsq) | refine a_seq ?_ | refine a_region ?_ | refine o_nil ?_ | refine a_block ?_ | refine a_ret ?_ | refine a_exit ?_ | refine a_skip ?_ | refine a_draw mixed ?_ | refine d_nil (by kernel_rfl) ?_ | refine o_yes rfl rfl rfl ?_ | refine o_no rfl rfl rfl (by decide) ?_ | refine o_no' rfl rfl rfl ?_ | refine a_condT rfl ?_ | refine a_condF rfl ?_ | refine d_no rfl rfl rfl (by decide) ?_ | refine d_no' rfl rfl rfl ?_ | (refine wq2 (fun hb => ?_) (fun hb => ?_) <;> (simp only [hb]; try simp only [hbs, ne_eq] at hb; try (exfalso; first | omega | exact hb trivial))) | fail)
 refine rq rfl ?_
 exact fnq
end Go.Proofs.YtcfidmdkioccdaaDoor
namespace Go.Proofs.YtcfidmdkioccdaaDoor
open Go.RowKit Go.ChangeMaps Go.MapKept
theorem box_mp {σ : Store} {μ : Nat → Value} {w : World} {A : Nat → Prop} {kid mid : Nat} {T : TypeId} (h : ObjRel σ μ w A kid (.box T [.mp mid])) : ∃ g, μ kid = .pointer (some ⟨g, 0, none⟩) ∧ w.cell? ⟨g, 0, none⟩ = some (μ mid) := by
 obtain ⟨g, us, h1, h2, h3⟩ := h
 simp only [repC, rep] at h3
 obtain ⟨a, l, rfl, _, ⟨_, rfl, _⟩, rfl⟩ := h3
 refine ⟨g, h1, ?_⟩
 have := h2.cell 0
 simpa using this
theorem keys_hit {σ : Store} {M : Nat → Prop} (mid kid : Nat) (es : List (Nat × Int)) (S : List Nat → Store) (ok : List Nat → Prop) (hm : find σ mid = some (.mp (.m (es.map mEnt)))) (hk : find σ kid = some (.box 38 [.mp mid]))
  (hSm : ∀ i, ok i → find (S i) mid = some (.mp (.m (es.map mEnt)))) (hSk : ∀ i, ok i → find (S i) kid = some (.box 38 [.mp mid])) :
  ∀ (μ : Nat → Value) (w : World) (ks : List Value), SRel σ μ w M → repL σ μ w (av σ μ M) [.ref kid 0] ks → ∃ K : World → Prop, (∀ r, SeqOg Tryd.prog 25 ks.toArray (av σ μ M) ([] : List Nat) (fun i x j => ∃ e, x = #[enU e] ∧ stK (es.map mEnt) i e j) (fun i => ∀ k, k < (es.map mEnt).length → k ∈ i) K ((w.alloc (.deferred (some []))).alloc (.loop r))) ∧
   ∀ (O : Nat → Prop) i W μ', ok i → SRel (S i) μ' W (fun b => M b ∨ O b) → Gro σ μ w (S i) μ' W → K W := by
 intro μ w ks hs hks
 obtain ⟨g, e1, e2⟩ := box_mp (hs.obj kid _ hk)
 obtain ⟨b, ents, ck, e3, e4, e5, e6⟩ := obj_map (hs.obj mid _ hm)
 simp only [repL, rep] at hks
 obtain ⟨k1, ks1, rfl, ⟨t, cs, g', _, _, h3, rfl⟩, rfl⟩ := hks
 rw [e1] at h3
 injection h3 with h3; injection h3 with h3; injection h3 with h3; subst h3
 refine ⟨fun W => W.cell? ⟨g, 0, none⟩ = some (.map (some b)) ∧ MapB W b (es.map mEnt), fun r l J Jx hJ hJx hK hY h0 => ?_, fun O i W μ' hi h1 h2 => ?_⟩
 ·exact callsIn_wide.1 (it_keys (es.map mEnt) (fun p hp => by obtain ⟨q, _, rfl⟩ := List.mem_map.1 hp; exact ⟨q.1, rfl⟩) (av σ μ M) _ l g b J Jx hJ hJx hK hY h0)
 ·obtain ⟨cs', hc1, _, hc2⟩ := h2.box kid _ _ hk
  obtain ⟨es', hc3, hc4⟩ := h2.mp mid _ hm
  obtain ⟨g2, f1, f2⟩ := box_mp (h1.obj kid _ (hSk i hi))
  obtain ⟨b2, ents2, ck2, f3, f4, f5, f6⟩ := obj_map (h1.obj mid _ (hSm i hi))
  rw [hc2, e1] at f1
  injection f1 with f1; injection f1 with f1; injection f1 with f1; subst f1
  rw [hc4, e3] at f3
  injection f3 with f3; injection f3 with f3; subst f3
  rw [hc4, e3] at f2
  exact ⟨f2, ents2, ck2, f4, f5, f6⟩
def keysOf (es : List (Nat × Int)) (seen : List Nat) : List Nat := seen.map fun k => (es.getD k (0, 0)).1
theorem keys_step {es : List (Nat × Int)} {seen j : List Nat} {x : Nat} (h : stK (es.map mEnt) seen x j) : keysOf es j = keysOf es seen ++ [x] := by
 obtain ⟨k, v, h1, h2, rfl⟩ := h
 obtain ⟨r, h3, h4⟩ := ent_key h1 rfl
 unfold keysOf
 rw [List.map_append, List.map_cons, List.map_nil, List.getD_eq_getElem?_getD, h3]
 rfl
def okK (es : List (Nat × Int)) (seen : List Nat) : Prop := seen.Nodup ∧ ∀ k ∈ seen, k < es.length
theorem okK.start (es : List (Nat × Int)) : okK es [] := ⟨List.nodup_nil, fun _ h => nomatch h⟩
theorem okK.step {es : List (Nat × Int)} {seen j : List Nat} {x : Nat} (h : okK es seen) (hs : stK (es.map mEnt) seen x j) : okK es j := by
 obtain ⟨k, v, h1, h2, rfl⟩ := hs
 have hlt := (List.getElem?_eq_some_iff.1 h1).1
 rw [List.length_map] at hlt
 refine ⟨?_, fun a ha => ?_⟩
 ·rw [List.nodup_append]
  exact ⟨h.1, by simp, fun a ha c hc => by rw [List.mem_singleton] at hc; subst hc; rintro rfl; exact h2 ha⟩
 ·rcases List.mem_append.1 ha with h3 | h3
  ·exact h.2 a h3
  ·rw [List.mem_singleton] at h3; subst h3; exact hlt
theorem okK.len {es : List (Nat × Int)} {seen : List Nat} (h : okK es seen) : seen.length ≤ es.length := seen_len h.1 h.2
theorem okK.done {es : List (Nat × Int)} {seen : List Nat} (h : okK es seen) (hf : ∀ k, k < (es.map mEnt).length → k ∈ seen) : (keysOf es seen).Perm (es.map Prod.fst) := by
 have hp : seen.Perm (List.range es.length) := by
  refine (List.perm_ext_iff_of_nodup h.1 List.nodup_range).2 fun k => ⟨fun hk => List.mem_range.2 (h.2 k hk), fun hk => hf k (by simpa using hk)⟩
 have h1 : (keysOf es seen).Perm (keysOf es (List.range es.length)) := hp.map _
 have h2 : keysOf es (List.range es.length) = es.map Prod.fst := by
  unfold keysOf
  apply List.ext_getElem?
  intro i
  rw [List.getElem?_map, List.getElem?_map]
  by_cases hi : i < es.length
  ·rw [List.getElem?_range hi, List.getElem?_eq_getElem hi]
   simp [List.getD, hi]
  ·rw [List.getElem?_eq_none (by simpa using hi), List.getElem?_eq_none (by omega)]
   rfl
 rw [h2] at h1
 exact h1
end Go.Proofs.YtcfidmdkioccdaaDoor
namespace Go.Proofs.YtcfidmdkioccdaaDoor
open Go.RowKit
def iV (x : Nat) : List AV := [.v (.int .i64 x)]
def bW : ByteArray := ⟨#[119]⟩
def bH : ByteArray := ⟨#[35]⟩
def ptS (w i : Nat) : ByteArray := bW ++ itoB w ++ bH ++ itoB i
def ptN (w i : Nat) : Nat := hashN (ptS w i).data.toList
def ptL (w n : Nat) : List (Nat × Int) := (List.range n).map fun i => (ptN w i, (w : Int))
def PL (ws : List Nat) : List (Nat × Int) := ws.flatMap fun w => ptL w 8
theorem ptN_lt (w i : Nat) : ptN w i < 4294967296 := hashN_lt _
theorem ptL_succ (w n : Nat) : ptL w (n + 1) = ptL w n ++ [(ptN w n, (w : Int))] := by
 unfold ptL
 rw [List.range_succ, List.map_append]; rfl
theorem PL_len : ∀ ws : List Nat, (PL ws).length = ws.length * 8
 | [] => rfl
 | x :: ws => by
  have ih := PL_len ws
  unfold PL ptL at *
  simp only [List.flatMap_cons, List.length_append, List.length_map, List.length_range, List.length_cons]
  rw [ih]; omega
theorem PL_take {ws : List Nat} {q : Nat} (h : q < ws.length) : PL (ws.take (q + 1)) = PL (ws.take q) ++ ptL (ws.getD q 0) 8 := by
 unfold PL
 rw [List.take_succ_eq_append_getElem h, List.flatMap_append, List.getD_eq_getElem?_getD, List.getElem?_eq_getElem h]
 simp
theorem by_lt {l : List (Nat × Int)} (h : ∀ x ∈ l, x.1 < 4294967296) : ∀ p ∈ byOf l, p.1 < 4294967296 := by
 intro p hp
 obtain ⟨l1, l2, e, _⟩ := (by_ok l).first p.1 p.2 hp
 exact h p (by rw [e]; simp)
theorem PL_lt (ws : List Nat) : ∀ x ∈ PL ws, x.1 < 4294967296 := by
 intro x hx
 obtain ⟨w, _, h⟩ := List.mem_flatMap.1 hx
 obtain ⟨i, _, rfl⟩ := List.mem_map.1 h
 exact ptN_lt _ _
theorem ptL_lt (w n : Nat) : ∀ x ∈ ptL w n, x.1 < 4294967296 := by
 intro x hx
 obtain ⟨i, _, rfl⟩ := List.mem_map.1 hx
 exact ptN_lt _ _
theorem uniq_eq {m : List (Nat × Int)} (h : kUniq m) {k : Nat} {v u : Int} (h1 : (k, v) ∈ m) (h2 : (k, u) ∈ m) : v = u := by
 induction m with
 | nil => cases h1
 | cons x m ih =>
  unfold kUniq at h
  rw [List.map_cons, List.nodup_cons] at h
  rcases List.mem_cons.1 h1 with e1 | h1
  ·rcases List.mem_cons.1 h2 with e2 | h2
   ·rw [← e1] at e2; injection e2 with _ e2; exact e2.symm
   ·exact absurd (List.mem_map.2 ⟨_, h2, by rw [← e1]⟩) h.1
  ·rcases List.mem_cons.1 h2 with e2 | h2
   ·exact absurd (List.mem_map.2 ⟨_, h1, by rw [← e2]⟩) h.1
   ·exact ih h.2 h1 h2
theorem ptS_size {w i : Nat} (hw : w < 100) (hi : i < 100) : (ptS w i).size ≤ 6 := by
 have h1 := itoB_size hw
 have h2 := itoB_size hi
 unfold ptS
 have e : ∀ b : ByteArray, b.size = b.data.size := fun _ => rfl
 rw [ByteArray.size_append, ByteArray.size_append, ByteArray.size_append, e (itoB w), e (itoB i)]
 have h3 : bW.size = 1 := rfl
 have h4 : bH.size = 1 := rfl
 omega
section
variable {P : Program} {Γ : Ctx} {Q : Exit → ASt → Prop} {s : ASt}
theorem Rel.swapK {σ : Store} {μ : Nat → Value} {w : World} {regs : List (Nat × AV)} {a : Act} (hr : Rel Γ ⟨regs, σ⟩ μ a w) {b : Nat} {bt : TypeId} {cs cs' : List AV} (hb : find σ b = some (.box bt cs)) (hl : cs'.length = cs.length) (hc : ∀ us, repC σ μ w (av σ μ Γ.M) cs us → repC σ μ w (av σ μ Γ.M) cs' us) :
  Rel Γ ⟨regs, upd σ b (.box bt cs')⟩ μ a w := by
 have hfi : ∀ id o, find (upd σ b (.box bt cs')) id = some o → ∃ o', find σ id = some o' := by
  intro id o h
  rw [find_upd] at h
  split at h
  ·rename_i e; subst e; exact ⟨_, hb⟩
  ·exact ⟨o, h⟩
 have hA : ∀ x, av (upd σ b (.box bt cs')) μ Γ.M x → av σ μ Γ.M x := by
  rintro x (h | ⟨id, o, h1, h2⟩)
  ·exact .inl h
  ·obtain ⟨o', h3⟩ := hfi id o h1
   exact .inr ⟨id, o', h3, h2⟩
 have hbox : ∀ id t ds, find σ id = some (.box t ds) → ∃ ds', find (upd σ b (.box bt cs')) id = some (.box t ds') ∧ ds'.length = ds.length ∧ μ id = μ id := by
  intro id t ds h
  rw [find_upd]
  by_cases e : b = id
  ·subst e; rw [hb] at h; injection h with h; injection h with h1 h2; subst h1 h2
   exact ⟨cs', by rw [if_pos rfl], hl, rfl⟩
  ·exact ⟨ds, by rw [if_neg e]; exact h, rfl, rfl⟩
 have hrow : ∀ id e size xs, find σ id = some (.row e size xs) → find (upd σ b (.box bt cs')) id = some .dead ∨ ∃ xs', find (upd σ b (.box bt cs')) id = some (.row e size xs') ∧ xs.length ≤ xs'.length ∧ (xs'.length = xs.length → μ id = μ id) := by
  intro id e size xs h
  rw [find_upd]
  have e1 : b ≠ id := by rintro rfl; rw [hb] at h; injection h with h; cases h
  exact .inr ⟨xs, by rw [if_neg e1]; exact h, Nat.le_refl _, fun _ => rfl⟩
 have hdd : ∀ id, find σ id = some .dead → find (upd σ b (.box bt cs')) id = some .dead := by
  intro id h
  rw [find_upd]
  have e1 : b ≠ id := by rintro rfl; rw [hb] at h; injection h with h; cases h
  rw [if_neg e1]; exact h
 have hmp : ∀ id es, find σ id = some (.mp es) → ∃ es', find (upd σ b (.box bt cs')) id = some (.mp es') ∧ μ id = μ id := by
  intro id es h
  rw [find_upd]
  have e1 : b ≠ id := by rintro rfl; rw [hb] at h; injection h with h; cases h
  exact ⟨es, by rw [if_neg e1]; exact h, rfl⟩
 have hst : Step σ μ w (av σ μ Γ.M) (upd σ b (.box bt cs')) μ w (av (upd σ b (.box bt cs')) μ Γ.M) := ⟨fun x hx _ => ⟨rfl, fun h => hx (hA x h)⟩, Nat.le_refl _, hbox, hrow, hmp, hdd⟩
 have hs := hr.store
 have hs' : SRel (upd σ b (.box bt cs')) μ w Γ.M := by
  refine ⟨fun id o hf => ?_, fun id id' o o' g h1 h2 h3 h4 => ?_, hs.lt, fun id o x h1 h2 => ?_⟩
  ·rw [find_upd] at hf
   split at hf
   ·rename_i e; subst e; injection hf with hf; subst hf
    obtain ⟨g, us, h1, h2, h3⟩ := hs.obj _ _ hb
    exact ⟨g, us, h1, h2, repC_mono hst (hc us h3)⟩
   ·have h := hs.obj _ _ hf
    cases o with
    | box t ds => obtain ⟨g, us, h1, h2, h3⟩ := h; exact ⟨g, us, h1, h2, repC_mono hst h3⟩
    | row e size xs => obtain ⟨us, h2, h3⟩ := h; exact ⟨us, h2, repLL_mono hst.pure h3⟩
    | mp es => exact h
    | dead => exact h
  ·obtain ⟨_, e1⟩ := hfi id o h1
   obtain ⟨_, e2⟩ := hfi id' o' h2
   exact hs.inj id id' _ _ g e1 e2 h3 h4
  ·obtain ⟨_, e1⟩ := hfi id o h1
   exact hs.dis id _ x e1 h2
 exact hr.goes ⟨rfl, rfl, rfl, Nat.le_refl _, fun _ _ _ => rfl, fun id o x h1 h2 _ => by obtain ⟨o', h3⟩ := hfi id o h1; exact ⟨id, o', h3, h2⟩, hbox, hrow, hmp, hdd⟩ hs'
theorem a_adoptK {c : Code} (b k e size : Nat) {bt : TypeId} (hb : find s.σ b = some (.box bt [.v (.slice none 0 0)])) (hk : find s.σ k = none) (h : AWP P Γ c Q ⟨s.regs, upd ((k, .row e size []) :: s.σ) b (.box bt [.own k 0])⟩) : AWP P Γ c Q s := by
 have hbk : k ≠ b := by rintro rfl; rw [hk] at hb; cases hb
 refine ⟨fun μ a w hr => h.out (setμ μ k (.slice none 0 0)) a w ?_⟩
 have hn := hr.new (w' := w) (v := .slice none 0 0) (o := .row e size []) hk (Below.refl _ w) (by simp [blk]) (fun μ' A hμ hμk hA hst => ⟨[], by rw [hμk]; exact OwnS.nil, by simp [repLL]⟩)
 refine Rel.swapK (cs := [.v (.slice none 0 0)]) (bt := bt) (b := b) hn (by simp only [ASt.eff, List.nil_append, List.cons_append]; rw [find_cons, if_neg hbk]; exact hb) rfl fun us hu => ?_
 simp only [repC, rep] at hu ⊢
 obtain ⟨u, us', rfl, h1, ⟨h2, _⟩, h3⟩ := hu
 subst h2
 refine ⟨_, us', rfl, h1, ⟨rfl, .inr ⟨e, size, [], ?_, Nat.le_refl _, fun _ => by rw [setμ_same]⟩⟩, h3⟩
 simp only [ASt.eff, List.nil_append, List.cons_append]
 rw [find_cons, if_pos rfl]
end
theorem byOf_new {l : List (Nat × Int)} {k : Nat} {v : Int} (h : ∀ p ∈ byOf l, p.1 ≠ k) : byOf (l ++ [(k, v)]) = byOf l ++ [(k, v)] := by
 rw [byOf_snoc]
 unfold bstep
 rw [if_neg]
 intro hc
 obtain ⟨y, hy, e⟩ := List.any_eq_true.1 hc
 exact h y hy (by simpa using e)
theorem byOf_old {l : List (Nat × Int)} {k : Nat} {v u : Int} (h : (k, u) ∈ byOf l) : byOf (l ++ [(k, v)]) = byOf l := by
 rw [byOf_snoc]
 unfold bstep
 rw [if_pos]
 exact List.any_eq_true.2 ⟨_, h, by simp⟩
theorem sorted_eq {a b : List Nat} (h : a.Perm b) (ha : a.Pairwise (· ≤ ·)) (hb : b.Pairwise (· ≤ ·)) : a = b := List.Perm.eq_of_pairwise (fun x y _ _ h1 h2 => Nat.le_antisymm h1 h2) ha hb h
set_option maxRecDepth 10000 in
theorem a_around (ws MS : List Nat) (hws : ∀ w ∈ ws, w < 100) (hl : ws.length ≤ 8) (hp : MS.Perm ((byOf (PL ws)).map Prod.fst)) (hs : MS.Pairwise (· ≤ ·)) :
  AC Tryd.prog 15 [.sl 1 (ws.map iV)] [] (.agg [.mp 1, .own 4 MS.length]) [(1, .mp (.m ((byOf (PL ws)).map mEnt))), (4, .row 46 1 (MS.map uv))] := by
 have hll : ((ws.map iV).length : Int) = (ws.length : Int) := by simp
 refine (ac_body tab_ok Tryd.func15 rfl (by kernel_rfl) rfl ?_); intro w0 M μ0; simp only [Tryd.ntmps15, List.length_cons, List.length_nil, Nat.reduceAdd, Nat.reduceSub, numb]
 repeat' (first | ((first | apply o_do | apply d_do | apply d_yes rfl rfl rfl); first | exact ls_makeMap (k := 1) rfl rfl | exact lsq) | refine a_seq ?_ | refine a_region ?_ | refine o_nil ?_ | refine a_block ?_ | refine a_ret ?_ | refine a_exit ?_ | refine a_skip ?_ | refine a_draw mixed ?_ | refine d_nil (by kernel_rfl) ?_ | refine o_yes rfl rfl rfl ?_ | refine o_no rfl rfl rfl (by decide) ?_ | refine o_no' rfl rfl rfl ?_ | refine a_condT rfl ?_ | refine a_condF rfl ?_ | refine d_no rfl rfl rfl (by decide) ?_ | refine d_no' rfl rfl rfl ?_ | (refine wq2 (fun hb => ?_) (fun hb => ?_) <;> (simp only [hb]; try simp only [hbs, ne_eq] at hb; try (exfalso; first | omega | exact hb trivial))) | fail)
 refine a_loop (X := {q : Nat // q ≤ ws.length})
  (fun q => ⟨[(0, .sl 1 (ws.map iV)), (2, .ref 0 0), (3, .mp 1), (13, .sl 1 (ws.map iV)), (14, .v (.int .i64 ws.length)), (15, .v (.int .i64 q.1))], [(0, .box 41 [.v (.map none), .v (.slice none 0 0)]), (1, .mp (.m ((byOf (PL (ws.take q.1))).map mEnt)))]⟩) (fun q => ws.length - q.1) ⟨0, Nat.zero_le _⟩ ?_ ?_
 ·refine ⟨by repeat' (first | exact trivial | exact FinA.one (FinB.cell (FinC.same rfl)) | exact FinA.one (FinB.cell FinC.nil) | exact FinA.bound rfl | exact FinA.one (FinB.cell (FinC.own rfl rfl rfl rfl)) | exact FinA.one (FinB.cell (FinC.v (by first | rfl | (((try dsimp only); first | rfl | (congr 1 <;> omega) | (simp [PL, byOf]; done)))))) | exact FinA.one (FinB.cell (FinC.ow rfl (by first | rfl | (((try dsimp only); first | rfl | (congr 1 <;> omega) | (simp [PL, byOf]; done)))))) | exact FinA.one (FinB.agg' rfl rfl) | refine ⟨⟨_, rfl, ?_⟩, ?_⟩), by repeat' (first | exact trivial | refine ⟨⟨_, rfl, by first | rfl | (((try dsimp only); first | rfl | (congr 1 <;> omega) | (simp [PL, byOf]; done)); done) | (simp [renO, *]; done)⟩, by first | rfl | assumption, ?_⟩), rfl⟩
 rintro ⟨q, hq⟩
 dsimp only
 by_cases hlt : q < ws.length
 ·have hel : (ws.map iV)[q]? = some (iV (ws.getD q 0)) := by rw [List.getElem?_map, List.getElem?_eq_getElem hlt, List.getD_eq_getElem?_getD, List.getElem?_eq_getElem hlt]; rfl
  have hw99 : ws.getD q 0 < 100 := by
   rw [List.getD_eq_getElem?_getD, List.getElem?_eq_getElem hlt]
   exact hws _ (List.getElem_mem hlt)
  have hpt := PL_take hlt
  have hpl := PL_lt (ws.take q)
  generalize ws.getD q 0 = w at *
  generalize PL (ws.take q) = L1 at *
  have hlt' : (q : Int) < (ws.length : Int) := by omega
  unfold iV at hel
  repeat' (first | ((first | apply o_do | apply d_do | apply d_yes rfl rfl rfl); first | exact ls_indexAddr_sl tab_ok rfl rfl rfl rfl hel rfl | exact lsq) | refine a_seq ?_ | refine a_region ?_ | refine o_nil ?_ | refine a_block ?_ | refine a_ret ?_ | refine a_exit ?_ | refine a_skip ?_ | refine a_draw mixed ?_ | refine d_nil (by kernel_rfl) ?_ | refine o_yes rfl rfl rfl ?_ | refine o_no rfl rfl rfl (by decide) ?_ | refine o_no' rfl rfl rfl ?_ | refine a_condT rfl ?_ | refine a_condF rfl ?_ | refine d_no rfl rfl rfl (by decide) ?_ | refine d_no' rfl rfl rfl ?_ | (refine wq2 (fun hb => ?_) (fun hb => ?_) <;> (simp only [hb]; try simp only [hbs, ne_eq] at hb; try (exfalso; first | omega | exact hb trivial))) | fail)
  refine a_loop (X := {i : Nat // i ≤ 8})
   (fun i => ⟨[(0, .sl 1 (ws.map iV)), (2, .ref 0 0), (3, .mp 1), (13, .sl 1 (ws.map iV)), (14, .v (.int .i64 ws.length)), (15, .v (.int .i64 q)), (5, .v (.int .i64 w)), (19, .v (.int .i64 i.1))], [(0, .box 41 [.v (.map none), .v (.slice none 0 0)]), (1, .mp (.m ((byOf (L1 ++ ptL w i.1)).map mEnt)))]⟩) (fun i => 8 - i.1) ⟨0, Nat.zero_le _⟩ ?_ ?_
  ·refine ⟨by repeat' (first | exact trivial | exact FinA.one (FinB.cell (FinC.same rfl)) | exact FinA.one (FinB.cell FinC.nil) | exact FinA.bound rfl | exact FinA.one (FinB.cell (FinC.own rfl rfl rfl rfl)) | exact FinA.one (FinB.cell (FinC.v (by first | rfl | (((try dsimp only); first | rfl | (congr 1 <;> omega) | (simp [ptL]; done)))))) | exact FinA.one (FinB.cell (FinC.ow rfl (by first | rfl | (((try dsimp only); first | rfl | (congr 1 <;> omega) | (simp [ptL]; done)))))) | exact FinA.one (FinB.agg' rfl rfl) | refine ⟨⟨_, rfl, ?_⟩, ?_⟩), by repeat' (first | exact trivial | refine ⟨⟨_, rfl, by first | rfl | (((try dsimp only); first | rfl | (congr 1 <;> omega) | (simp [ptL]; done)); done) | (simp [renO, *]; done)⟩, by first | rfl | assumption, ?_⟩), rfl⟩
  rintro ⟨i, hi⟩
  dsimp only
  by_cases hi8 : i < 8
  ·have hi8' : (i : Int) < 8 := by omega
   have hI1 := p_Itoa hw99
   have hI2 := p_Itoa (n := i) (by omega)
   have hsz := ptS_size hw99 (i := i) (by omega)
   have s1 := itoB_size hw99
   have s2 := itoB_size (n := i) (by omega)
   have hH := p_Hash (ptS w i) (by omega)
   change PC _ _ _ (uV (ptN w i)) at hH
   have hk := ptN_lt w i
   have hsucc := ptL_succ w i
   have hlr : ∀ x ∈ L1 ++ ptL w i, x.1 < 4294967296 := fun x hx => (List.mem_append.1 hx).elim (hpl x) (ptL_lt w i x)
   have hbr := by_lt hlr
   have hun := (by_ok (L1 ++ ptL w i)).uniq
   have hass : L1 ++ (ptL w i ++ [(ptN w i, (w : Int))]) = (L1 ++ ptL w i) ++ [(ptN w i, (w : Int))] := by rw [List.append_assoc]
   unfold ptS at hH
   generalize hL3 : L1 ++ ptL w i = L3 at *
   generalize ptN w i = k at *
   by_cases hin : ∃ u, (k, u) ∈ byOf L3
   ·obtain ⟨u, hu⟩ := hin
    have hb2 := byOf_old (v := (w : Int)) hu
    rw [← hass] at hb2
    have g1 : (∀ p ∈ byOf L3, p.1 ≠ k) → u = 0 ∧ true = false := fun h => absurd rfl (h _ hu)
    have g2 : ∀ v, (k, v) ∈ byOf L3 → u = v ∧ true = true := fun v hv => ⟨uniq_eq hun hu hv, rfl⟩
    repeat' (first | ((first | apply o_do | apply d_do | apply d_yes rfl rfl rfl); first | exact lsc (hI1) | exact lsc (hI2) | exact lsc (hH) | exact ls_cat rfl rfl (by simp only [ByteArray.size, ByteArray.data_append, Array.size_append, List.size_toArray, List.length_cons, List.length_nil]; omega) rfl | exact ls_isK hbr hk rfl rfl rfl g1 g2 rfl | exact lsq) | refine a_seq ?_ | refine a_region ?_ | refine o_nil ?_ | refine a_block ?_ | refine a_ret ?_ | refine a_exit ?_ | refine a_skip ?_ | refine a_draw mixed ?_ | refine d_nil (by kernel_rfl) ?_ | refine o_yes rfl rfl rfl ?_ | refine o_no rfl rfl rfl (by decide) ?_ | refine o_no' rfl rfl rfl ?_ | refine a_condT rfl ?_ | refine a_condF rfl ?_ | refine d_no rfl rfl rfl (by decide) ?_ | refine d_no' rfl rfl rfl ?_ | (refine wq2 (fun hb => ?_) (fun hb => ?_) <;> (simp only [hb]; try simp only [hbs, ne_eq] at hb; try (exfalso; first | omega | exact hb trivial))) | fail)
    refine ⟨⟨i + 1, by omega⟩, by dsimp only; omega, ?_⟩
    refine ⟨by repeat' (first | exact trivial | exact FinA.one (FinB.cell (FinC.same rfl)) | exact FinA.one (FinB.cell FinC.nil) | exact FinA.bound rfl | exact FinA.one (FinB.cell (FinC.own rfl rfl rfl rfl)) | exact FinA.one (FinB.cell (FinC.v (by first | rfl | (((try dsimp only); first | rfl | (rw [hsucc, hb2]; done) | (congr 1 <;> omega)))))) | exact FinA.one (FinB.cell (FinC.ow rfl (by first | rfl | (((try dsimp only); first | rfl | (rw [hsucc, hb2]; done) | (congr 1 <;> omega)))))) | exact FinA.one (FinB.agg' rfl rfl) | refine ⟨⟨_, rfl, ?_⟩, ?_⟩), by repeat' (first | exact trivial | refine ⟨⟨_, rfl, by first | rfl | (((try dsimp only); first | rfl | (rw [hsucc, hb2]; done) | (congr 1 <;> omega)); done) | (simp [renO, *]; done)⟩, by first | rfl | assumption, ?_⟩), rfl⟩
   ·have hno : ∀ p ∈ byOf L3, p.1 ≠ k := fun p hp e => hin ⟨p.2, by rw [← e]; exact hp⟩
    have hb2 := byOf_new (v := (w : Int)) hno
    rw [← hass] at hb2
    have g1 : (∀ p ∈ byOf L3, p.1 ≠ k) → (0 : Int) = 0 ∧ false = false := fun _ => ⟨rfl, rfl⟩
    have g2 : ∀ v, (k, v) ∈ byOf L3 → (0 : Int) = v ∧ false = true := fun v hv => absurd rfl (hno _ hv)
    repeat' (first | ((first | apply o_do | apply d_do | apply d_yes rfl rfl rfl); first | exact lsc (hI1) | exact lsc (hI2) | exact lsc (hH) | exact ls_cat rfl rfl (by simp only [ByteArray.size, ByteArray.data_append, Array.size_append, List.size_toArray, List.length_cons, List.length_nil]; omega) rfl | exact ls_isK hbr hk rfl rfl rfl g1 g2 rfl | exact ls_newK hbr hk rfl rfl rfl rfl hno rfl | exact lsq) | refine a_seq ?_ | refine a_region ?_ | refine o_nil ?_ | refine a_block ?_ | refine a_ret ?_ | refine a_exit ?_ | refine a_skip ?_ | refine a_draw mixed ?_ | refine d_nil (by kernel_rfl) ?_ | refine o_yes rfl rfl rfl ?_ | refine o_no rfl rfl rfl (by decide) ?_ | refine o_no' rfl rfl rfl ?_ | refine a_condT rfl ?_ | refine a_condF rfl ?_ | refine d_no rfl rfl rfl (by decide) ?_ | refine d_no' rfl rfl rfl ?_ | (refine wq2 (fun hb => ?_) (fun hb => ?_) <;> (simp only [hb]; try simp only [hbs, ne_eq] at hb; try (exfalso; first | omega | exact hb trivial))) | fail)
    refine ⟨⟨i + 1, by omega⟩, by dsimp only; omega, ?_⟩
    refine ⟨by repeat' (first | exact trivial | exact FinA.one (FinB.cell (FinC.same rfl)) | exact FinA.one (FinB.cell FinC.nil) | exact FinA.bound rfl | exact FinA.one (FinB.cell (FinC.own rfl rfl rfl rfl)) | exact FinA.one (FinB.cell (FinC.v (by first | rfl | (((try dsimp only); first | rfl | (rw [hsucc, hb2]; done) | (congr 1 <;> omega)))))) | exact FinA.one (FinB.cell (FinC.ow rfl (by first | rfl | (((try dsimp only); first | rfl | (rw [hsucc, hb2]; done) | (congr 1 <;> omega)))))) | exact FinA.one (FinB.agg' rfl rfl) | refine ⟨⟨_, rfl, ?_⟩, ?_⟩), by repeat' (first | exact trivial | refine ⟨⟨_, rfl, by first | rfl | (((try dsimp only); first | rfl | (rw [hsucc, hb2]; done) | (congr 1 <;> omega)); done) | (simp [renO, *]; done)⟩, by first | rfl | assumption, ?_⟩), rfl⟩
  ·obtain rfl : i = 8 := by omega
   repeat' (first | ((first | apply o_do | apply d_do | apply d_yes rfl rfl rfl); exact lsq) | refine a_seq ?_ | refine a_region ?_ | refine o_nil ?_ | refine a_block ?_ | refine a_ret ?_ | refine a_exit ?_ | refine a_skip ?_ | refine a_draw mixed ?_ | refine d_nil (by kernel_rfl) ?_ | refine o_yes rfl rfl rfl ?_ | refine o_no rfl rfl rfl (by decide) ?_ | refine o_no' rfl rfl rfl ?_ | refine a_condT rfl ?_ | refine a_condF rfl ?_ | refine d_no rfl rfl rfl (by decide) ?_ | refine d_no' rfl rfl rfl ?_ | (refine wq2 (fun hb => ?_) (fun hb => ?_) <;> (simp only [hb]; try simp only [hbs, ne_eq] at hb; try (exfalso; first | omega | exact hb trivial))) | fail)
   refine ⟨⟨q + 1, hlt⟩, by dsimp only; omega, ?_⟩
   refine ⟨by repeat' (first | exact trivial | exact FinA.one (FinB.cell (FinC.same rfl)) | exact FinA.one (FinB.cell FinC.nil) | exact FinA.bound rfl | exact FinA.one (FinB.cell (FinC.own rfl rfl rfl rfl)) | exact FinA.one (FinB.cell (FinC.v (by first | rfl | (((try dsimp only); first | rfl | (rw [hpt]; done) | (congr 1 <;> omega)))))) | exact FinA.one (FinB.cell (FinC.ow rfl (by first | rfl | (((try dsimp only); first | rfl | (rw [hpt]; done) | (congr 1 <;> omega)))))) | exact FinA.one (FinB.agg' rfl rfl) | refine ⟨⟨_, rfl, ?_⟩, ?_⟩), by repeat' (first | exact trivial | refine ⟨⟨_, rfl, by first | rfl | (((try dsimp only); first | rfl | (rw [hpt]; done) | (congr 1 <;> omega)); done) | (simp [renO, *]; done)⟩, by first | rfl | assumption, ?_⟩), rfl⟩
 ·obtain rfl : q = ws.length := by omega
  rw [List.take_length]
  have hbr := by_lt (PL_lt ws)
  have hun := (by_ok (PL ws)).uniq
  have hlen64 : (byOf (PL ws)).length ≤ 64 := by
   have h1 : ∀ l : List (Nat × Int), (byOf l).length ≤ l.length := fun l => by
    have key : ∀ (l2 m : List (Nat × Int)), (l2.foldl bstep m).length ≤ m.length + l2.length := by
     intro l2
     induction l2 with
     | nil => intro m; simp
     | cons x l2 ih =>
      intro m
      have h2 := ih (bstep m x)
      have h3 := bstep_len m x
      simp only [List.foldl_cons, List.length_cons]
      omega
    simpa [byOf] using key l []
   have h2 := PL_len ws
   have := h1 (PL ws)
   omega
  generalize byOf (PL ws) = es at *
  have hK := a_Keys (es.map mEnt)
  repeat' (first | refine a_adoptK 2 4 46 1 rfl rfl ?_ | ((first | apply o_do | apply d_do | apply d_yes rfl rfl rfl); first | exact lca [1] 2 hK | exact lsq) | refine a_seq ?_ | refine a_region ?_ | refine o_nil ?_ | refine a_block ?_ | refine a_ret ?_ | refine a_exit ?_ | refine a_skip ?_ | refine a_draw mixed ?_ | refine d_nil (by kernel_rfl) ?_ | refine o_yes rfl rfl rfl ?_ | refine o_no rfl rfl rfl (by decide) ?_ | refine o_no' rfl rfl rfl ?_ | refine a_condT rfl ?_ | refine a_condF rfl ?_ | refine d_no rfl rfl rfl (by decide) ?_ | refine d_no' rfl rfl rfl ?_ | (refine wq2 (fun hb => ?_) (fun hb => ?_) <;> (simp only [hb]; try simp only [hbs, ne_eq] at hb; try (exfalso; first | omega | exact hb trivial))) | fail)
  refine a_weak (t := ⟨[(2, .ref 0 0), (3, .mp 1), (10, .ref 2 0), (44, .clo (.func 25) [] [.ref 3 0])], [(0, .box 41 [.v (.map none), .v (.slice none 0 0)]), (1, .mp (.m (es.map mEnt))), (2, .box 39 [.own 4 ((keysOf es []).map uv).length]), (3, .box 38 [.mp 1]), (4, .row 46 1 ((keysOf es []).map uv))]⟩) ?_ ?_
  ·refine ⟨by repeat' (first | exact trivial | exact FinA.one (FinB.cell (FinC.same rfl)) | exact FinA.one (FinB.cell FinC.nil) | exact FinA.bound rfl | exact FinA.one (FinB.cell (FinC.own rfl rfl rfl rfl)) | exact FinA.one (FinB.cell (FinC.v (by first | rfl | (((try dsimp only); first | rfl | (congr 1 <;> omega)))))) | exact FinA.one (FinB.cell (FinC.ow rfl (by first | rfl | (((try dsimp only); first | rfl | (congr 1 <;> omega)))))) | exact FinA.one (FinB.agg' rfl rfl) | refine ⟨⟨_, rfl, ?_⟩, ?_⟩), by repeat' (first | exact trivial | refine ⟨⟨_, rfl, by first | rfl | (((try dsimp only); first | rfl | (congr 1 <;> omega)); done) | (simp [renO, *]; done)⟩, by first | rfl | assumption, ?_⟩), rfl⟩
  refine a_rangeG (enc := enU) uV ([] : List Nat) (stK (es.map mEnt)) (fun i => ∀ k, k < (es.map mEnt).length → k ∈ i) rfl ⟨_, Tryd.func25, by kernel_rfl, rfl⟩
   (fun i => [(0, .box 41 [.v (.map none), .v (.slice none 0 0)]), (1, .mp (.m (es.map mEnt))), (2, .box 39 [.own 4 ((keysOf es i).map uv).length]), (3, .box 38 [.mp 1]), (4, .row 46 1 ((keysOf es i).map uv))]) (okK es)
   (keys_hit 1 3 es _ (okK es) rfl rfl (fun _ _ => rfl) (fun _ _ => rfl)) rfl (fun x σ μ w A => by simp [rep, enU, scal]) rfl rfl (fun _ _ => rfl) (okK.start es) ?_ ?_
  ·intro i x j hst hok W M' μi L
   have hj := hok.step hst
   have hks := keys_step hst
   have hil := hok.len
   have hkl : (keysOf es i).length = i.length := by unfold keysOf; simp
   dsimp only
   rw [hks, List.map_append]
   generalize keysOf es i = T at *
   have hTl : (T.map uv).length = i.length := by simp; omega
   generalize T.map uv = U at *
   repeat' (first | ((first | apply o_do | apply d_do | apply d_yes rfl rfl rfl); exact lsq) | refine a_seq ?_ | refine a_region ?_ | refine o_nil ?_ | refine a_block ?_ | refine a_ret ?_ | refine a_exit ?_ | refine a_skip ?_ | refine a_draw mixed ?_ | refine d_nil (by kernel_rfl) ?_ | refine o_yes rfl rfl rfl ?_ | refine o_no rfl rfl rfl (by decide) ?_ | refine o_no' rfl rfl rfl ?_ | refine a_condT rfl ?_ | refine a_condF rfl ?_ | refine d_no rfl rfl rfl (by decide) ?_ | refine d_no' rfl rfl rfl ?_ | (refine wq2 (fun hb => ?_) (fun hb => ?_) <;> (simp only [hb]; try simp only [hbs, ne_eq] at hb; try (exfalso; first | omega | exact hb trivial))) | fail)
   dsimp only [AThen1g]
   intro W M' μi L d0
   repeat' (first | ((first | apply o_do | apply d_do | apply d_yes rfl rfl rfl); first | focus (apply ls_append tab_ok rfl rfl ?hn rfl ?hsrc rfl ?hlen rfl rfl; (case hn => rfl); (case hsrc => first | exact SrcIs.sl | exact SrcIs.nil | exact SrcIs.own rfl rfl | fail); (case hlen => (try simp only [List.length_cons, List.length_nil]); (omega)); first | done | fail) | exact lsq) | refine a_seq ?_ | refine a_region ?_ | refine o_nil ?_ | refine a_block ?_ | refine a_ret ?_ | refine a_exit ?_ | refine a_skip ?_ | refine a_draw mixed ?_ | refine d_nil (by kernel_rfl) ?_ | refine o_yes rfl rfl rfl ?_ | refine o_no rfl rfl rfl (by decide) ?_ | refine o_no' rfl rfl rfl ?_ | refine a_condT rfl ?_ | refine a_condF rfl ?_ | refine d_no rfl rfl rfl (by decide) ?_ | refine d_no' rfl rfl rfl ?_ | (refine wq2 (fun hb => ?_) (fun hb => ?_) <;> (simp only [hb]; try simp only [hbs, ne_eq] at hb; try (exfalso; first | omega | exact hb trivial))) | fail)
   refine ⟨hj, ?_⟩
   repeat' (first | exact trivial | refine ⟨⟨_, rfl, by first | rfl | (simp [renO, *]; done)⟩, by first | rfl | assumption, ?_⟩)
  ·intro i hfin hok
   have hperm := hok.done hfin
   dsimp only
   have hnd : (keysOf es i).Nodup := hperm.nodup_iff.2 hun
   have hTl : (keysOf es i).length ≤ 1000 := by rw [hperm.length_eq, List.length_map]; omega
   obtain ⟨m, m1, m2, hSo⟩ := a_Sort (keysOf es i) hTl hnd
   have hmM : m = MS := sorted_eq ((m1.trans hperm).trans hp.symm) m2 hs
   subst hmM
   have hml : (keysOf es i).length = m.length := m1.length_eq.symm
   generalize keysOf es i = T at *
   unfold NS at hSo
   have hSo : AC Tryd.prog 21 [.own 0 (T.map uv).length] [(0, .row 46 1 (T.map uv))] (.tup []) [(0, .row 46 1 (m.map uv))] := by rw [List.length_map]; exact hSo
   have hTm : (T.map uv).length = m.length := by rw [List.length_map]; exact hml
   rw [← hTm]
   repeat' (first | ((first | apply o_do | apply d_do | apply d_yes rfl rfl rfl); first | exact lca [4] 9 hSo | exact lsq) | refine a_seq ?_ | refine a_region ?_ | refine o_nil ?_ | refine a_block ?_ | refine a_ret ?_ | refine a_exit ?_ | refine a_skip ?_ | refine a_draw mixed ?_ | refine d_nil (by kernel_rfl) ?_ | refine o_yes rfl rfl rfl ?_ | refine o_no rfl rfl rfl (by decide) ?_ | refine o_no' rfl rfl rfl ?_ | refine a_condT rfl ?_ | refine a_condF rfl ?_ | refine d_no rfl rfl rfl (by decide) ?_ | refine d_no' rfl rfl rfl ?_ | (refine wq2 (fun hb => ?_) (fun hb => ?_) <;> (simp only [hb]; try simp only [hbs, ne_eq] at hb; try (exfalso; first | omega | exact hb trivial))) | fail)
   refine rq rfl ?_
   exact fnq
section
variable {P : Program} {Γ : Ctx} {s : ASt} {dst : Option Tmp} {ty : TypeId} {pos : String} {after : Array Edge}
end
def bG : ByteArray := ⟨#[103]⟩
def grS (g : Nat) : ByteArray := bG ++ itoB g
def grN (g : Nat) : Nat := hashN (grS g).data.toList
theorem grN_lt (g : Nat) : grN g < 4294967296 := hashN_lt _
theorem grS_size {g : Nat} (h : g < 100) : (grS g).size ≤ 3 := by
 have h1 := itoB_size h
 unfold grS
 have e : ∀ b : ByteArray, b.size = b.data.size := fun _ => rfl
 rw [ByteArray.size_append, e (itoB g)]
 have h3 : bG.size = 1 := rfl
 omega
set_option maxRecDepth 10000 in
theorem a_owner (es : List (Nat × Int)) (MS : List Nat) (hp : MS.Perm (es.map Prod.fst)) (hs : MS.Pairwise (· ≤ ·)) (hl : es.length ≤ 64) (h0 : es ≠ []) (hbr : ∀ p ∈ es, p.1 < 4294967296) (hun : kUniq es) (g : Nat) (hg : g < 100) :
  ∃ (i s : Nat) (w : Int), Cut (grN g) MS i ∧ MS[i % MS.length]? = some s ∧ (s, w) ∈ es ∧
   AC Tryd.prog 16 [.agg [.mp 0, .own 1 (MS.map uv).length], .v (.int .i64 g)] [(0, .mp (.m (es.map mEnt))), (1, .row 46 1 (MS.map uv))] (.v (.int .i64 w)) [(0, .mp (.m (es.map mEnt))), (1, .row 46 1 (MS.map uv))] := by
 have hml : MS.length = es.length := by rw [hp.length_eq, List.length_map]
 have hpos : 0 < MS.length := by
  rw [hml]
  cases es with
  | nil => exact absurd rfl h0
  | cons x es => simp
 obtain ⟨i, f, hcut, hBS⟩ := p_BS MS (grN g) (by omega) hs
 have hmod : i % MS.length < MS.length := Nat.mod_lt _ hpos
 have hsel : MS[i % MS.length]? = some (MS.getD (i % MS.length) 0) := by rw [List.getD_eq_getElem?_getD, List.getElem?_eq_getElem hmod]; rfl
 have hmem : MS.getD (i % MS.length) 0 ∈ es.map Prod.fst := hp.subset (List.mem_of_getElem? hsel)
 obtain ⟨⟨s, w⟩, hx, hsx⟩ := List.mem_map.1 hmem
 dsimp only at hsx
 refine ⟨i, s, w, hcut, by rw [hsel, hsx], hx, ?_⟩
 have hil := hcut.le
 have hI := p_Itoa hg
 have hsz := grS_size hg
 have hH := p_Hash (grS g) (by omega)
 change PC _ _ _ (uV (grN g)) at hH
 unfold grS at hH
 have hrem : (i : Int).tmod (MS.length : Int) = ((i % MS.length : Nat) : Int) := rfl
 have hrem2 : (i : Int).tmod ((MS.map uv).length : Int) = ((i % MS.length : Nat) : Int) := by rw [List.length_map]; rfl
 have hel := uv_at hmod
 rw [← hsx] at hel
 have q1 : i % MS.length < (MS.map uv).length := by simpa using hmod
 have hdm : MS.length = (MS.map uv).length := by simp
 have hks := hbr _ hx
 have g2 : ∀ v, (s, v) ∈ es → w = v := fun v hv => uniq_eq hun hx hv
 have hne : ((MS.map uv).length : Int) ≠ 0 := by rw [List.length_map]; omega
 have hb0 : i % MS.length ≤ 64 := Nat.le_trans (Nat.le_of_lt hmod) (by omega)
 have s1 := itoB_size hg
 generalize grN g = at' at *
 generalize i % MS.length = q at *
 have hb1 : (0 : Int) ≤ (q : Int) ∧ (q : Int) ≤ 64 := by omega
 clear hsel hmem hcut hp hs hun
 refine (ac_body tab_ok Tryd.func16 rfl (by kernel_rfl) rfl ?_); intro w0 M μ0; simp only [Tryd.ntmps16, List.length_cons, List.length_nil, Nat.reduceAdd, Nat.reduceSub, numb]
 repeat' (first | ((first | apply o_do | apply d_do | apply d_yes rfl rfl rfl); first | exact lsc (hI) | exact lsc (hH) | exact ls_cat rfl rfl (by simp only [ByteArray.size, ByteArray.data_append, Array.size_append, List.size_toArray, List.length_cons, List.length_nil]; omega) rfl | exact lcs (hBS) | exact ls_rem64 hrem2 rfl rfl hne (by omega) rfl | exact ls_indexAddr_own tab_ok rfl rfl rfl rfl rfl rfl q1 rfl | exact ls_load_eref tab_ok rfl rfl rfl hel rfl rfl rfl rfl | exact ls_atK hbr hks rfl rfl rfl hx g2 rfl | exact lsq) | refine a_seq ?_ | refine a_region ?_ | refine o_nil ?_ | refine a_block ?_ | refine a_ret ?_ | refine a_exit ?_ | refine a_skip ?_ | refine a_draw mixed ?_ | refine d_nil (by kernel_rfl) ?_ | refine o_yes rfl rfl rfl ?_ | refine o_no rfl rfl rfl (by decide) ?_ | refine o_no' rfl rfl rfl ?_ | refine a_condT rfl ?_ | refine a_condF rfl ?_ | refine d_no rfl rfl rfl (by decide) ?_ | refine d_no' rfl rfl rfl ?_ | (refine wq2 (fun hb => ?_) (fun hb => ?_) <;> (simp only [hb]; try simp only [hbs, ne_eq] at hb; try (exfalso; first | omega | exact hb trivial))) | fail)
 refine rq rfl ?_
 exact fnq
end Go.Proofs.YtcfidmdkioccdaaDoor
