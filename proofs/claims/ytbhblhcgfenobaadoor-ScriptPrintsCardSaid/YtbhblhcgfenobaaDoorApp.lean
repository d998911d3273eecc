/-
  append onto a row of the call's own, the source nil, empty or not; over whatever program. No condition but the row's room.
-/
import Derived.Test.YtbhblhcgfenobaaDoorLib
import Derived.RegionTactic
import Derived.OwnWalk
import Derived.WideShapes
namespace Go.Proofs.YtbhblhcgfenobaaDoor
open Go.RowKit
set_option linter.unusedSimpArgs false
set_option linter.unusedVariables false
theorem calls_gen {P : Program} {f : FuncId} {args : Array Value} {W : World} {Rp : Ending → World → Prop} (R : World → Prop) (hR : R W) (h : ∀ W', R W' → Calls P f args W' Rp) : Calls P f args W Rp := h W hR

theorem Reads.of_own {w : World} {size n c base : Nat} {A : Option Addr} {e : TypeId} {xs : List Value} (h : w.ownsRow base e size (.slice A n c) n xs) : Reads w w.heap.size size A n xs := by
  refine ⟨h.1, fun hn => ?_⟩
  obtain ⟨g, cap, hv, _, hlt⟩ := h.form hn
  have hA : A = some ⟨g, 0, none⟩ := by injection hv
  subst hA
  refine ⟨g, 0, rfl, hlt, fun j u hu => ?_⟩
  have := h.cells (g := g) rfl j u hu
  rw [Go.WideShapes.add_plain] at this
  exact this
/-- What an owned row's value looks like. -/
theorem own_slice {w : World} {size n base : Nat} {v : Value} {e : TypeId} {xs : List Value} (h : w.ownsRow base e size v n xs) : ∃ A c, v = .slice A n c ∧ n ≤ c ∧ c ≤ 9223372036854775807 := by
  rcases h.2 with ⟨rfl, rfl⟩ | ⟨g, cap, cur, rfl, _, _, hn, hc, _⟩
  · exact ⟨none, 0, rfl, Nat.le_refl _, by omega⟩
  · exact ⟨_, cap, rfl, hn, by simpa [maxLen] using hc⟩
theorem own_new {w : World} {g base : Nat} {e : TypeId} {size : Nat} (h : Blk w g e #[]) (hb : base ≤ g) : w.ownsRow base e size (.slice (some ⟨g, 0, none⟩) 0 0) 0 [] :=
  ⟨by simp, .inr ⟨g, 0, #[], rfl, hb, h, Nat.le_refl _, by simp [maxLen], by simp, by simp⟩⟩
theorem own_nil {w : World} {base : Nat} {e : TypeId} {size : Nat} : w.ownsRow base e size (.slice none 0 0) 0 [] := ⟨by simp, .inl ⟨rfl, rfl⟩⟩
theorem grow_own {a w w' : World} {base : Nat} {e : TypeId} {size n : Nat} {v : Value} {xs : List Value} (h : Below a.heap.size a w) (hg : w.grownBy w' v.ownBlock) (ho : w.ownsRow base e size v n xs) (hb : a.heap.size ≤ base) : Below a.heap.size a w' := by
  refine Gr.grown h hg (fun k hk => ?_)
  rcases ho.2 with ⟨rfl, _⟩ | ⟨g, cap, cur, rfl, hg', _⟩
  · simp [Value.ownBlock] at hk
  · simp only [Value.ownBlock, Option.some.injEq] at hk
    omega

theorem flatMap_at {α : Type} (cells : α → List Value) (size : Nat) (hc : ∀ x, (cells x).length = size) (xs : List α) (q j : Nat) (hq : q < xs.length) (hj : j < size) : (xs.flatMap cells)[q * size + j]? = (cells xs[q])[j]? := by
  induction xs generalizing q with
  | nil => simp at hq
  | cons x xs ih =>
    rw [List.flatMap_cons]
    cases q with
    | zero =>
      rw [List.getElem?_append_left (by rw [hc]; omega)]
      simp
    | succ q =>
      rw [List.getElem?_append_right (by rw [hc, Nat.add_mul]; omega), hc]
      have : (q + 1) * size + j - size = q * size + j := by rw [Nat.add_mul]; omega
      rw [this, ih q (by simpa using hq)]
      simp
/-- What a row of structs holds at place q. -/
theorem Reads.el {α : Type} {w : World} {B size n : Nat} {A : Option Addr} {cells : α → List Value} {xs : List α} (h : Reads w B size A n (xs.flatMap cells)) (hc : ∀ x, (cells x).length = size) {q : Nat} (hq : q < xs.length) (hn : n = xs.length) :
    ∃ b off, A = some ⟨b, off, none⟩ ∧ b < B ∧ ∀ j u, j < size → (cells xs[q])[j]? = some u → w.cell? ⟨b, off + (q * size + j), none⟩ = some u := by
  obtain ⟨b, off, e, hb, hcell⟩ := h.2 (by omega)
  exact ⟨b, off, e, hb, fun j u hj hu => hcell _ u (by rw [flatMap_at cells size hc xs q j hq hj]; exact hu)⟩

theorem own_chain {w w' : World} {base : Nat} {e : TypeId} {size n : Nat} {v : Value} {xs : List Value} (h : w.ownsRow base e size v n xs) (hb : Below w.heap.size w w') : w'.ownsRow base e size v n xs := by
  refine ⟨h.1, ?_⟩
  rcases h.2 with h2 | ⟨g, cap, cur, hv, hle, hh, r⟩
  · exact .inl h2
  · refine .inr ⟨g, cap, cur, hv, hle, ?_, r⟩
    rw [hb.block g ?_]
    · exact hh
    · exact Blk.lt (t := e) (cs := cur) hh

section
variable {P : Program} (w : World)

theorem run_append_of_nil (base : Nat) (t ty e : TypeId) (i : TypeInfo) (size : Nat) (ht : P.underlying t = some (.slice e)) (hi : P.info? e = some i)
    (v : Value) (n : Nat) (xs : List Value) (hown : w.ownsRow base e size v n xs) (c : Nat) : (Builtin.append_ #[t, t] ty #[v, .slice none 0 c]).run P w = .ok v w := by
  rcases hown.2 with ⟨rfl, rfl⟩ | ⟨g, cap, cur, rfl, _, _, hnc, _⟩
  · simp [Builtin.append_, run_underlying ht, sizeOf, typeInfo, hi, Builtin.lenOf, Builtin.firstCells]
  · simp [Builtin.append_, run_underlying ht, sizeOf, typeInfo, hi, Builtin.lenOf, Builtin.firstCells, hnc, storeCells]

theorem run_append_any (base : Nat) (t ty e : TypeId) (i : TypeInfo) (z : Value) (size bytes : Nat) (ht : P.underlying t = some (.slice e)) (hi : P.info? e = some i) (hz : i.zero = some z)
    (hsize : i.size = size) (hby : i.bytes = bytes) (hzs : z.cells.size = size) (hsz : 0 < size)
    (v : Value) (n : Nat) (xs : List Value) (hown : w.ownsRow base e size v n xs)
    (B : Nat) (A : Option Addr) (m c : Nat) (news : List Value) (hr : Reads w B size A m news) (h1 : ∀ u ∈ news, u.oneCell' = true)
    (h63 : n + m ≤ maxLen) (hbytes : (n + m) * bytes ≤ 140737488355328) (hbase : base ≤ w.heap.size) :
    ∃ v' w', (Builtin.append_ #[t, t] ty #[v, .slice A m c]).run P w = .ok v' w' ∧ w'.ownsRow base e size v' (n + m) (xs ++ news) ∧ w.grownBy w' v.ownBlock ∧
      (v'.ownBlock = v.ownBlock ∨ v'.ownBlock = some w.heap.size) := by
  rcases A with _ | ad
  · have hm : m = 0 := by
      rcases Nat.eq_zero_or_pos m with h0 | h0
      · exact h0
      · obtain ⟨b, off, h, _⟩ := hr.2 h0
        cases h
    subst hm
    have hn : news = [] := List.eq_nil_of_length_eq_zero (by simpa using hr.1)
    subst hn
    exact ⟨v, w, run_append_of_nil w base t ty e i size ht hi v n xs hown c, by simpa using hown, World.grownBy.refl w _, .inl rfl⟩
  · have hcells : ∀ j u, news[j]? = some u → w.cell? (ad.add j) = some u := by
      intro j u hu
      rcases Nat.eq_zero_or_pos m with h0 | h0
      · subst h0
        have hn : news = [] := List.eq_nil_of_length_eq_zero (by simpa using hr.1)
        subst hn
        simp at hu
      · obtain ⟨b, off, h, _, hc⟩ := hr.2 h0
        injection h with h
        subst h
        rw [Go.WideShapes.add_plain]
        exact hc j u hu
    obtain ⟨v', w', hrun, h2, h3, _, h5⟩ := run_append_own_at (P := P) w base t ty e i z size bytes ht hi hz hsize hby hzs hsz v n xs hown ad m c news hr.1 hcells h1 h63 hbytes hbase
    exact ⟨v', w', hrun, h2, h3, h5⟩

theorem wp_append_any {o : Oper} {a : Act} {K : Act → World → Prop} {Q : Exit → Act → World → Prop} (s x : Operand) (t : TypeId)
    (ho : o.op = .call { callee := .builtin .append, args := #[s, x], argTypes := #[t, t] })
    (base : Nat) (e : TypeId) (i : TypeInfo) (z : Value) (size bytes : Nat) (ht : P.underlying t = some (.slice e)) (hi : P.info? e = some i) (hz : i.zero = some z)
    (hsize : i.size = size) (hby : i.bytes = bytes) (hzs : z.cells.size = size) (hsz : 0 < size)
    (v : Value) (n : Nat) (xs : List Value) (hs : a.eval s = v) (hown : w.ownsRow base e size v n xs)
    (B : Nat) (A : Option Addr) (m c : Nat) (news : List Value) (hx : a.eval x = .slice A m c) (hr : Reads w B size A m news) (h1 : ∀ u ∈ news, u.oneCell' = true)
    (h63 : n + m ≤ maxLen) (hbytes : (n + m) * bytes ≤ 140737488355328) (hbase : base ≤ w.heap.size)
    (h : ∀ v' w', w'.ownsRow base e size v' (n + m) (xs ++ news) → w.grownBy w' v.ownBlock → (v'.ownBlock = v.ownBlock ∨ v'.ownBlock = some w.heap.size) → K (a.put o.dst v') w') : o.wp P a w K Q := by
  obtain ⟨v', w', hrun, h2, h3, h4⟩ := run_append_any (P := P) w base t o.type e i z size bytes ht hi hz hsize hby hzs hsz v n xs hown B A m c news hr h1 h63 hbytes hbase
  unfold Oper.wp execOp
  simp only [ho, resolve, invoke, builtin, Sem.run_bind, Sem.run_pure, Result.andThen_ok, List.map_toArray, List.map_cons, List.map_nil, hs, hx, hrun]
  exact h v' w' h2 h3 h4

theorem wpList_append_any {ops : Array Oper} {rest : List Oper} {o : Oper} {a : Act} {Q : Exit → Act → World → Prop} (hgd : o.guard = none) (s x : Operand) (t : TypeId)
    (ho : o.op = .call { callee := .builtin .append, args := #[s, x], argTypes := #[t, t] })
    (base : Nat) (e : TypeId) (i : TypeInfo) (z : Value) (size bytes : Nat) (ht : P.underlying t = some (.slice e)) (hi : P.info? e = some i) (hz : i.zero = some z)
    (hsize : i.size = size) (hby : i.bytes = bytes) (hzs : z.cells.size = size) (hsz : 0 < size)
    (v : Value) (n : Nat) (xs : List Value) (hs : a.eval s = v) (hown : w.ownsRow base e size v n xs)
    (B : Nat) (A : Option Addr) (m c : Nat) (news : List Value) (hx : a.eval x = .slice A m c) (hr : Reads w B size A m news) (h1 : ∀ u ∈ news, u.oneCell' = true)
    (h63 : n + m ≤ maxLen) (hbytes : (n + m) * bytes ≤ 140737488355328) (hbase : base ≤ w.heap.size)
    (h : ∀ v' w', w'.ownsRow base e size v' (n + m) (xs ++ news) → w.grownBy w' v.ownBlock → (v'.ownBlock = v.ownBlock ∨ v'.ownBlock = some w.heap.size) → wpList P ops Q rest (a.put o.dst v') w') : wpList P ops Q (o :: rest) a w :=
  wpList_plain hgd fun _ hK => wp_append_any w s x t ho base e i z size bytes ht hi hz hsize hby hzs hsz v n xs hs hown B A m c news hx hr h1 h63 hbytes hbase fun v' w' h2 h3 h4 => hK _ _ (h v' w' h2 h3 h4)

theorem step_append_any {ops : Array Oper} {o : Oper} {a : Act} {K : Act → World → Prop} {Q : Exit → Act → World → Prop} {E : Prop} (hgd : o.guard = none) (s x : Operand) (t : TypeId)
    (ho : o.op = .call { callee := .builtin .append, args := #[s, x], argTypes := #[t, t] })
    (base : Nat) (e : TypeId) (i : TypeInfo) (z : Value) (size bytes : Nat) (ht : P.underlying t = some (.slice e)) (hi : P.info? e = some i) (hz : i.zero = some z)
    (hsize : i.size = size) (hby : i.bytes = bytes) (hzs : z.cells.size = size) (hsz : 0 < size)
    (v : Value) (n : Nat) (xs : List Value) (hs : a.eval s = v) (hown : w.ownsRow base e size v n xs)
    (B : Nat) (A : Option Addr) (m c : Nat) (news : List Value) (hx : a.eval x = .slice A m c) (hr : Reads w B size A m news) (h1 : ∀ u ∈ news, u.oneCell' = true)
    (h63 : n + m ≤ maxLen) (hbytes : (n + m) * bytes ≤ 140737488355328) (hbase : base ≤ w.heap.size)
    (h : ∀ v' w', w'.ownsRow base e size v' (n + m) (xs ++ news) → w.grownBy w' v.ownBlock → (v'.ownBlock = v.ownBlock ∨ v'.ownBlock = some w.heap.size) → K (a.put o.dst v') w') :
    if Region.wanted o (yielded ops a.tmps) = true then Oper.wp P o a w K Q else E := by
  have hw : Region.wanted o (yielded ops a.tmps) = true := by simp [Region.wanted, hgd]
  rw [if_pos hw]
  exact wp_append_any w s x t ho base e i z size bytes ht hi hz hsize hby hzs hsz v n xs hs hown B A m c news hx hr h1 h63 hbytes hbase h
end

/-- append, the new value written out as a slice: 'k' is its length, 'ys' what it holds. -/
theorem app_any {P : Program} {ops : Array Oper} {rest : List Oper} {o : Oper} {a : Act} {Q : Exit → Act → World → Prop} {w : World} (s x : Operand) {t : TypeId} (hgd : o.guard = none)
    (ho : o.op = .call { callee := .builtin .append, args := #[s, x], argTypes := #[t, t] })
    {base : Nat} {e : TypeId} {z : Value} {size bytes : Nat} (ht : P.underlying t = some (.slice e)) (hi : (P.info? e).map (fun i => (i.zero, i.size, i.bytes)) = some (some z, size, bytes))
    (hzs : z.cells.size = size) (hsz : 0 < size)
    {v : Value} {n : Nat} {xs : List Value} (hs : a.eval s = v) (hown : w.ownsRow base e size v n xs)
    {B : Nat} {A : Option Addr} {m c : Nat} {news : List Value} (hx : a.eval x = .slice A m c) (hr : Reads w B size A m news) (h1 : ∀ u ∈ news, u.oneCell' = true)
    (k : Nat) (ys : List Value) (hk : n + m = k) (hys : xs ++ news = ys) (hlen : k ≤ 1000000000) (hby : bytes ≤ 1000) (hbase : base ≤ w.heap.size)
    (h : ∀ A' c' w', w'.ownsRow base e size (.slice A' k c') k ys → w.grownBy w' v.ownBlock → k ≤ c' → c' ≤ 9223372036854775807 → wpList P ops Q rest (a.put o.dst (.slice A' k c')) w') : wpList P ops Q (o :: rest) a w := by
  obtain ⟨i, hi1, hi2⟩ := Option.map_eq_some_iff.1 hi
  simp only [Prod.mk.injEq] at hi2
  refine wpList_append_any w hgd s x t ho base e i z size bytes ht hi1 hi2.1 hi2.2.1 hi2.2.2 hzs hsz v n xs hs hown B A m c news hx hr h1 (by simp only [maxLen]; omega) ?_ hbase ?_
  · have h2 : (n + m) * bytes ≤ 1000000000 * 1000 := Nat.mul_le_mul (by omega) hby
    omega
  · intro v' w' ho' hg' _
    rw [hk, hys] at ho'
    obtain ⟨A', c', rfl, h3, h4⟩ := own_slice ho'
    exact h A' c' w' ho' hg' h3 h4
/-- .. at the operation itself (a region that draws). -/
theorem app_op {P : Program} {o : Oper} {a : Act} {K : Act → World → Prop} {Q : Exit → Act → World → Prop} {w : World} (s x : Operand) {t : TypeId}
    (ho : o.op = .call { callee := .builtin .append, args := #[s, x], argTypes := #[t, t] })
    {base : Nat} {e : TypeId} {z : Value} {size bytes : Nat} (ht : P.underlying t = some (.slice e)) (hi : (P.info? e).map (fun i => (i.zero, i.size, i.bytes)) = some (some z, size, bytes))
    (hzs : z.cells.size = size) (hsz : 0 < size)
    {v : Value} {n : Nat} {xs : List Value} (hs : a.eval s = v) (hown : w.ownsRow base e size v n xs)
    {B : Nat} {A : Option Addr} {m c : Nat} {news : List Value} (hx : a.eval x = .slice A m c) (hr : Reads w B size A m news) (h1 : ∀ u ∈ news, u.oneCell' = true)
    (k : Nat) (ys : List Value) (hk : n + m = k) (hys : xs ++ news = ys) (hlen : k ≤ 1000000000) (hby : bytes ≤ 1000) (hbase : base ≤ w.heap.size)
    (h : ∀ A' c' w', w'.ownsRow base e size (.slice A' k c') k ys → w.grownBy w' v.ownBlock → k ≤ c' → c' ≤ 9223372036854775807 → K (a.put o.dst (.slice A' k c')) w') : o.wp P a w K Q := by
  obtain ⟨i, hi1, hi2⟩ := Option.map_eq_some_iff.1 hi
  simp only [Prod.mk.injEq] at hi2
  refine wp_append_any w s x t ho base e i z size bytes ht hi1 hi2.1 hi2.2.1 hi2.2.2 hzs hsz v n xs hs hown B A m c news hx hr h1 (by simp only [maxLen]; omega) ?_ hbase ?_
  · have h2 : (n + m) * bytes ≤ 1000000000 * 1000 := Nat.mul_le_mul (by omega) hby
    omega
  · intro v' w' ho' hg' _
    rw [hk, hys] at ho'
    obtain ⟨A', c', rfl, h3, h4⟩ := own_slice ho'
    exact h A' c' w' ho' hg' h3 h4
/-- A row that the call itself has just made, of one element. -/
theorem Reads.made {w : World} {g size : Nat} {t : TypeId} {cs : Array Value} (h : Blk w g t cs) (hs : cs.size = size) : Reads w (g + 1) size (some ⟨g, 0, none⟩) 1 cs.toList := by
  refine ⟨by simp [hs], fun _ => ⟨g, 0, rfl, by omega, fun j x hx => ?_⟩⟩
  rw [h.cell, Nat.zero_add]
  simpa using hx
/-- A row of the call's own, as a block: its first cells are the numbers zs. -/
def RowI (w : World) (g : Nat) (t : TypeId) (zs : List Int) : Prop := ∃ cur : Array Value, Blk w g t cur ∧ ∀ (j : Nat) (h : j < zs.length), cur[j]? = some (.int .i64 zs[j])
theorem RowI.cell {w : World} {g : Nat} {t : TypeId} {zs : List Int} (h : RowI w g t zs) (j : Nat) (hj : j < zs.length) : w.cell? ⟨g, j, none⟩ = some (.int .i64 zs[j]) := by
  obtain ⟨cur, hb, hc⟩ := h
  rw [hb.cell]; exact hc j hj
theorem RowI.frozen {w : World} {g : Nat} {t : TypeId} {zs : List Int} (h : RowI w g t zs) (j : Nat) : w.frozen? ⟨g, j, none⟩ = false := by
  obtain ⟨cur, hb, hc⟩ := h
  exact hb.frozen j
theorem RowI.lt {w : World} {g : Nat} {t : TypeId} {zs : List Int} (h : RowI w g t zs) : g < w.heap.size := by
  obtain ⟨cur, hb, hc⟩ := h
  exact hb.lt
theorem RowI.drew {w : World} {g : Nat} {t : TypeId} {zs : List Int} (h : RowI w g t zs) : RowI w.drew g t zs := h
theorem RowI.set_ {w : World} {g : Nat} {t : TypeId} {zs : List Int} (h : RowI w g t zs) (i : Nat) (hi : i < zs.length) (v : Int) : RowI (w.setCell ⟨g, i, none⟩ (.int .i64 v)) g t (zs.set i v) := by
  obtain ⟨cur, hb, hc⟩ := h
  refine ⟨_, hb.set_ i _, fun j hj => ?_⟩
  have hj' : j < zs.length := by simpa using hj
  have hcj := hc j hj'
  have hlt : j < cur.size := (Array.getElem?_eq_some_iff.1 hcj).1
  rw [List.getElem_set]
  by_cases e : i = j
  · subst e; simp [hlt]
  · rw [Array.getElem?_setIfInBounds_ne e, if_neg e]; exact hcj
theorem RowI.reads {w : World} {g : Nat} {t : TypeId} {zs : List Int} (h : RowI w g t zs) : Reads w w.heap.size 1 (some ⟨g, 0, none⟩) zs.length (zs.map (Value.int .i64)) := by
  refine ⟨by simp, fun _ => ⟨g, 0, rfl, h.lt, fun j u hu => ?_⟩⟩
  obtain ⟨hj, e⟩ := List.getElem?_eq_some_iff.1 hu
  simp only [List.length_map] at hj
  simp only [List.getElem_map] at e
  rw [Nat.zero_add, h.cell j hj, e]
theorem RowI.of_own {w : World} {base g n c : Nat} {t : TypeId} {zs : List Int} (h : w.ownsRow base t 1 (.slice (some ⟨g, 0, none⟩) n c) n (zs.map (Value.int .i64))) : RowI w g t zs ∧ base ≤ g := by
  rcases h.2 with ⟨h1, _⟩ | ⟨g', cap, cur, hv, hb, hg, _, _, _, ht⟩
  · cases h1
  · injection hv with h1 _ h2
    injection h1 with h1
    injection h1 with h1
    subst h1
    refine ⟨⟨cur, hg, fun j hj => ?_⟩, hb⟩
    have hl := h.1
    simp only [List.length_map, Nat.mul_one] at hl
    have := congrArg (fun l => l[j]?) ht
    simp only [Nat.mul_one, List.getElem?_take, List.getElem?_map, List.getElem?_eq_getElem hj, Option.map_some] at this
    rw [if_pos (by omega)] at this
    simpa using this

/-- Only block g, and what is new, has turned. -/
theorem only_drew {a w : World} {row : Option Nat} (h : a.grownBy w row) : a.grownBy w.drew row := ⟨h.os, h.tape, h.output, h.size, h.block⟩
theorem only_drewN {a w : World} {row : Option Nat} (h : a.grownBy w row) (n : Nat) : a.grownBy (w.drewN n) row := ⟨h.os, h.tape, h.output, h.size, h.block⟩
theorem only_alloc {a w : World} {row : Option Nat} (h : a.grownBy w row) (o : Obj) : a.grownBy (w.alloc o) row :=
  ⟨h.os, h.tape, h.output, Nat.le_trans h.size (by simp), fun i hi hne => (Below.heap_alloc w o i (Nat.lt_of_lt_of_le hi h.size)).trans (h.block i hi hne)⟩
theorem only_setCell {a w : World} {g : Nat} (h : a.grownBy w (some g)) {p : Addr} (hp : p.block = g ∨ a.heap.size ≤ p.block) (u : Value) : a.grownBy (w.setCell p u) (some g) :=
  ⟨h.os, h.tape, h.output, by simpa [World.setCell] using h.size, fun i hi hne => (Below.heap_setCell w p u i (by
    rintro rfl
    rcases hp with hp | hp
    · exact hne (by rw [hp])
    · omega)).trans (h.block i hi hne)⟩
theorem RowI.far {w : World} {g : Nat} {t : TypeId} {zs : List Int} (h : RowI w g t zs) {p : Addr} (hp : g ≠ p.block) (u : Value) : RowI (w.setCell p u) g t zs := by
  obtain ⟨cur, hb, hc⟩ := h
  exact ⟨cur, hb.far hp u, hc⟩
theorem RowI.alloc {w : World} {g : Nat} {t : TypeId} {zs : List Int} (h : RowI w g t zs) (o : Obj) : RowI (w.alloc o) g t zs := by
  obtain ⟨cur, hb, hc⟩ := h
  exact ⟨cur, hb.alloc o, hc⟩
theorem RowI.chain {w w' : World} {g : Nat} {t : TypeId} {zs : List Int} (h : RowI w g t zs) (hb : Below w.heap.size w w') : RowI w' g t zs := by
  obtain ⟨cur, hk, hc⟩ := h
  exact ⟨cur, hk.call hb, hc⟩

theorem one_ints {k : IntKind} (l : List Int) : ∀ u ∈ l.map (Value.int k), u.oneCell' = true := by
  intro u hu
  obtain ⟨x, _, rfl⟩ := List.mem_map.1 hu
  rfl

end Go.Proofs.YtbhblhcgfenobaaDoor
