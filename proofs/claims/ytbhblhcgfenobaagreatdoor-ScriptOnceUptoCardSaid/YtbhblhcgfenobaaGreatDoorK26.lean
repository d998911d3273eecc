/-
  Scripts: all that the laws ScriptReads, ScriptBack and ScriptOnce lean on.
-/
import Derived.Stop.LaidErr
import Derived.Deep.DeepHandedRow
import Derived.Stop.Joined
import Derived.JoinedCond
import GoSem.PinnedTables
import Derived.Test.YtbhblhcgfenobaaGreatDoorK4
import Derived.Test.YtbhblhcgfenobaaGreatDoorK6
import Derived.Test.YtbhblhcgfenobaaGreatDoorK24
import Derived.Test.YtbhblhcgfenobaaGreatDoorK25
namespace Go.Proofs.YtbhblhcgfenobaaGreatDoor
open Go.RowKit Go.WideShapes Go.ChangeShapes Go.ChangeAt
set_option linter.unusedSimpArgs false
set_option linter.unusedVariables false
set_option maxRecDepth 100000
theorem rd_Act {H : Type} {enc : TypeId × Value → H} {w : World} {base : Nat} {spare : Nat → Bool} {held : Bool} {fuel : Nat} {cs : List Value} {x : DataW H × List MemPlace} (h : DataW.trod enc Tryz.prog w base spare held fuel 52 cs = some x) :
    ∃ (what : Int) (who : Int) (which : Int), cs = [.int .i64 what, .int .i64 who, .int .i64 which] ∧ (-9223372036854775808 ≤ what ∧ what ≤ 9223372036854775807) ∧ (-9223372036854775808 ≤ who ∧ who ≤ 9223372036854775807) ∧ (-9223372036854775808 ≤ which ∧ which ≤ 9223372036854775807) := by
  have hl := rd_len Tryz.underlying52 h
  have hl2 : cs.length = 3 := hl.trans (by kernel_rfl)
  obtain ⟨c0, c1, c2, rfl⟩ : ∃ c0 c1 c2, cs = [c0, c1, c2] := by
    match cs, hl2 with
    | [c0, c1, c2], _ => exact ⟨c0, c1, c2, rfl⟩
  clear hl hl2
  have hc0 : Tryz.prog.cellsOf 3 = 1 := by kernel_rfl
  obtain ⟨n0, y0, g0⟩ := rd_field Tryz.underlying52 h 0 _ rfl
  obtain ⟨x0, e0, _, w0⟩ := DataW.trod_int Tryz.underlying3 g0
  simp [hc0] at e0
  subst e0
  obtain ⟨n1, y1, g1⟩ := rd_field Tryz.underlying52 h 1 _ rfl
  obtain ⟨x1, e1, _, w1⟩ := DataW.trod_int Tryz.underlying3 g1
  simp [hc0] at e1
  subst e1
  obtain ⟨n2, y2, g2⟩ := rd_field Tryz.underlying52 h 2 _ rfl
  obtain ⟨x2, e2, _, w2⟩ := DataW.trod_int Tryz.underlying3 g2
  simp [hc0] at e2
  subst e2
  exact ⟨x0, x1, x2, rfl, wf_i64 w0, wf_i64 w1, wf_i64 w2⟩
section
variable {H : Type} {enc : TypeId × Value → H} {w : World}
abbrev rep0 (w : World) (x : AV) (y : Value) : Prop := rep [] (fun _ => undef) w (fun _ => False) x y
def Et.cells (e : Et) : List Value := [.string e.key, .int .i64 e.at', .int .i64 e.v]
def Ac.cells (e : Ac) : List Value := [.int .i64 e.what, .int .i64 e.who, .int .i64 e.which]
/-- a slice in memory, read whole -/
theorem rd_sl {α : Type} {t e : TypeId} {size fuel : Nat} {cs : List Value} {y : DataW H × List MemPlace} (cells : α → List Value) (avs : α → List AV) (Ok : α → Prop) (ht : Tryz.prog.underlying t = some (.slice e)) (hC : Tryz.prog.cellsOf e = size) (hsz : 0 < size)
    (hel : ∀ (n : Nat) (cs : List Value) (y : DataW H × List MemPlace), cs.length = size → DataW.trod enc Tryz.prog w 0 (fun _ => true) true n e cs = some y → ∃ x, cs = cells x ∧ Ok x)
    (hl : ∀ x, (cells x).length = size) (hr : ∀ x, Ok x → repC [] (fun _ => undef) w (fun _ => False) (avs x) (cells x))
    (h : DataW.trod enc Tryz.prog w 0 (fun _ => true) true fuel t cs = some y) : ∃ (v : Value) (xs : List α), cs = [v] ∧ v.oneCell' = true ∧ xs.length ≤ 9223372036854775807 ∧ (∀ x ∈ xs, Ok x) ∧ rep0 w (.sl size (xs.map avs)) v := by
  obtain ⟨A, n, c, xs, h1, h2, h3, h4, h5, h6⟩ := open_rows cells Ok ht hC hsz hel h
  exact ⟨_, xs, h1, rfl, by omega, h6, rep_sl cells avs h5 h4 h2 h3 hl fun x hx => hr x (h6 x hx)⟩
theorem el_EtP (m : Nat) (cs : List Value) (y : DataW H × List MemPlace) (hl : cs.length = 3) (ht : DataW.trod enc Tryz.prog w 0 (fun _ => true) true m 82 cs = some y) : ∃ x : Et, cs = x.cells ∧ i64 x.v := by
  obtain ⟨key, a, v, rfl, h⟩ := rd_Ev ht
  exact ⟨⟨key, a, v⟩, rfl, h.2.2⟩
theorem el_AcP (m : Nat) (cs : List Value) (y : DataW H × List MemPlace) (hl : cs.length = 3) (ht : DataW.trod enc Tryz.prog w 0 (fun _ => true) true m 52 cs = some y) : ∃ x : Ac, cs = x.cells ∧ True := by
  obtain ⟨a, b, c, rfl, h⟩ := rd_Act ht
  exact ⟨⟨a, b, c⟩, rfl, trivial⟩
/-- a row of events as it reads -/
def InOkP (w : World) (x : Value × List Et) : Prop := x.2.length ≤ 9223372036854775807 ∧ I64s x.2 ∧ x.1.oneCell' = true ∧ rep0 w (.sl 3 (x.2.map Et.av)) x.1
theorem el_InP (m : Nat) (cs : List Value) (y : DataW H × List MemPlace) (hl : cs.length = 1) (ht : DataW.trod enc Tryz.prog w 0 (fun _ => true) true m 48 cs = some y) : ∃ x : Value × List Et, cs = [x.1] ∧ InOkP w x := by
  obtain ⟨v, xs, h1, h2, h3, h4, h5⟩ := rd_sl Et.cells Et.av (fun x => i64 x.v) Tryz.underlying48 (by kernel_rfl : Tryz.prog.cellsOf 82 = 3) (by omega) el_EtP (fun _ => rfl) (fun x _ => repC_con (cs := Et.cells x) rfl) ht
  exact ⟨(v, xs), h1, h3, h4, h2, h5⟩
theorem in_rep (x : Value × List Et) (h : InOkP w x) : repC [] (fun _ => undef) w (fun _ => False) (inAv x.2) [x.1] := by
  simp only [inAv, repC]
  exact ⟨_, _, rfl, h.2.2.1, h.2.2.2, rfl⟩
theorem len11 {α : Type} {cs : List α} (h : cs.length = 11) : ∃ c0 c1 c2 c3 c4 c5 c6 c7 c8 c9 c10, cs = [c0, c1, c2, c3, c4, c5, c6, c7, c8, c9, c10] := by
  match cs, h with
  | [c0, c1, c2, c3, c4, c5, c6, c7, c8, c9, c10], _ => exact ⟨c0, c1, c2, c3, c4, c5, c6, c7, c8, c9, c10, rfl⟩
/-! behind blocks that are kept: what reads as texts, slices or pairs of whole numbers lies in none of them -/
structure ApB (w : World) (A : Nat → Prop) : Prop where
  s : ∀ b off k, A b → w.cell? ⟨b, off, none⟩ ≠ some (.string k)
  l : ∀ b off a n c, A b → w.cell? ⟨b, off, none⟩ ≠ some (.slice a n c)
  i : ∀ b off x y, A b → ¬ (w.cell? ⟨b, off, none⟩ = some (.int .i64 x) ∧ w.cell? ⟨b, off + 1, none⟩ = some (.int .i64 y))
theorem repLL_swap {A : Nat → Prop} {μ : Nat → Value} {size : Nat} : ∀ (xs : List (List AV)) (us : List Value), (∀ x ∈ xs, ∀ us, repC [] μ w (fun _ => False) x us → repC [] μ w A x us) → repLL [] μ w (fun _ => False) size xs us → repLL [] μ w A size xs us
  | [], us, _, h => h
  | x :: xs, us, hx, h => by
    simp only [repLL] at h ⊢
    obtain ⟨u1, u2, e, h1, h2, h3⟩ := h
    exact ⟨u1, u2, e, h1, hx x (by simp) u1 h2, repLL_swap xs u2 (fun y hy => hx y (by simp [hy])) h3⟩
theorem rep_sl_swap {A : Nat → Prop} {size : Nat} {xs : List (List AV)} {v : Value} (h1 : ∀ x ∈ xs, ∀ us, repC [] (fun _ => undef) w (fun _ => False) x us → repC [] (fun _ => undef) w A x us)
    (h2 : ∀ x ∈ xs, ∀ us, repC [] (fun _ => undef) w (fun _ => False) x us → ∀ b off, A b → (∀ j u, us[j]? = some u → w.cell? ⟨b, off + j, none⟩ = some u) → False) (h : rep0 w (.sl size xs) v) : rep [] (fun _ => undef) w A (.sl size xs) v := by
  simp only [rep0, rep] at h ⊢
  obtain ⟨ad, c, us, e, g1, g2, g3, g4⟩ := h
  refine ⟨ad, c, us, e, g1, g2, ?_, repLL_swap xs us h1 g4⟩
  rcases g3 with g3 | ⟨b, off, e2, _, hb, hc⟩
  · exact .inl g3
  · cases xs with
    | nil => simp only [repLL] at g4; exact .inl g4
    | cons x xs =>
      refine .inr ⟨b, off, e2, fun hA => ?_, hb, hc⟩
      simp only [repLL] at g4
      obtain ⟨u1, u2, e3, k1, k2, _⟩ := g4
      exact h2 x (by simp) u1 k2 b off hA fun j u hu => hc j u (by
        rw [e3]
        have := (List.getElem?_eq_some_iff.1 hu).1
        rw [List.getElem?_append_left this]; exact hu)
theorem ev_swap {A : Nat → Prop} (hA : ApB w A) (es : List Et) {v : Value} (h : rep0 w (.sl 3 (es.map Et.av)) v) : rep [] (fun _ => undef) w A (.sl 3 (es.map Et.av)) v := by
  refine rep_sl_swap (fun x hx us h => ?_) (fun x hx us h b off hb hc => ?_) h
  · obtain ⟨e, _, rfl⟩ := List.mem_map.1 hx
    simpa only [Et.av, repC, rep] using h
  · obtain ⟨e, _, rfl⟩ := List.mem_map.1 hx
    simp only [Et.av, repC, rep] at h
    obtain ⟨u, us', rfl, _, ⟨rfl, _⟩, _⟩ := h
    exact hA.s b off _ hb (hc 0 _ rfl)
theorem ac_swap {A : Nat → Prop} (hA : ApB w A) (es : List Ac) {v : Value} (h : rep0 w (.sl 3 (es.map Ac.av)) v) : rep [] (fun _ => undef) w A (.sl 3 (es.map Ac.av)) v := by
  refine rep_sl_swap (fun x hx us h => ?_) (fun x hx us h b off hb hc => ?_) h
  · obtain ⟨e, _, rfl⟩ := List.mem_map.1 hx
    simpa only [Ac.av, repC, rep] using h
  · obtain ⟨e, _, rfl⟩ := List.mem_map.1 hx
    simp only [Ac.av, repC, rep] at h
    obtain ⟨u, us', rfl, _, ⟨rfl, _⟩, u2, us2, rfl, _, ⟨rfl, _⟩, _⟩ := h
    exact hA.i b off _ _ hb ⟨hc 0 _ rfl, hc 1 _ rfl⟩
theorem in_swap {A : Nat → Prop} (hA : ApB w A) (ls : List (List Et)) {v : Value} (h : rep0 w (.sl 1 (ls.map inAv)) v) : rep [] (fun _ => undef) w A (.sl 1 (ls.map inAv)) v := by
  refine rep_sl_swap (fun x hx us h => ?_) (fun x hx us h b off hb hc => ?_) h
  · obtain ⟨e, _, rfl⟩ := List.mem_map.1 hx
    simp only [inAv, repC] at h ⊢
    obtain ⟨u, us', h1, h2, h3, h4⟩ := h
    exact ⟨u, us', h1, h2, ev_swap hA e h3, h4⟩
  · obtain ⟨e, _, rfl⟩ := List.mem_map.1 hx
    simp only [inAv, repC, rep] at h
    obtain ⟨u, us', rfl, _, ⟨ad, c, vs, rfl, _⟩, _⟩ := h
    exact hA.l b off _ _ _ hb (hc 0 _ rfl)
theorem tab_apart {W : World} (h : TabT W) : ApB W (fun b => b = 1) := by
  have key : ∀ off u, W.cell? ⟨1, off, none⟩ = some u → ∃ z, u = .int .u64 z := by
    intro off u hu
    unfold TabT Lib.TabIs World.var? at h
    rw [g_pow] at h
    simp only [Option.bind_some] at h
    unfold World.cell? at hu
    cases hx : W.heap[1]? with
    | none => rw [hx] at h; cases h
    | some o =>
      rw [hx] at h hu
      cases o with
      | cells cs t fr =>
        simp only [Option.some.injEq] at h
        subst h
        simp at hu
        obtain ⟨z, _, rfl⟩ := hu
        exact ⟨z, rfl⟩
      | _ => cases h
  refine ⟨fun b off k hb hc => ?_, fun b off a n c hb hc => ?_, fun b off x y hb hc => ?_⟩
  · subst hb; obtain ⟨z, e⟩ := key _ _ hc; cases e
  · subst hb; obtain ⟨z, e⟩ := key _ _ hc; cases e
  · subst hb; obtain ⟨z, e⟩ := key _ _ hc.1; cases e
theorem open_plan_arg {b0 : Nat} {v : Value} {d : DataW H} {ps : List MemPlace} (hv : Value.okWide Tryz.prog w .any b0 27 v) (h : DataW.Trod enc Tryz.prog w 0 (fun _ => true) true 27 v d ps) :
    ∃ p : Pl, PlI p ∧ ∀ A, ApB w A → rep [] (fun _ => undef) w A (.agg p.av) v := by
  obtain ⟨cs, rfl, fuel, x, h⟩ := open_struct_arg Tryz.underlying27 hv h
  have hl := rd_len Tryz.underlying27 h
  have hl2 : cs.length = 11 := hl.trans (by kernel_rfl)
  obtain ⟨c0, c1, c2, c3, c4, c5, c6, c7, c8, c9, c10, rfl⟩ := len11 hl2
  clear hl hl2
  have hc0 : Tryz.prog.cellsOf 23 = 8 := by kernel_rfl
  have hc1 : Tryz.prog.cellsOf 24 = 1 := by kernel_rfl
  have hc2 : Tryz.prog.cellsOf 3 = 1 := by kernel_rfl
  have hc3 : Tryz.prog.cellsOf 25 = 1 := by kernel_rfl
  obtain ⟨n0, y0, g0⟩ := rd_field Tryz.underlying27 h 0 _ rfl
  obtain ⟨g, s, d, k, fu, li, de, id, e0, jg, js, jd, jk, jfu, jli, jde, jid⟩ := rd_Job g0
  simp [hc0] at e0
  obtain ⟨rfl, rfl, rfl, rfl, rfl, rfl, rfl, rfl⟩ := e0
  obtain ⟨n1, y1, g1⟩ := rd_field Tryz.underlying27 h 1 _ rfl
  obtain ⟨v1, ins, e1, a1, a2, a3, a4⟩ := rd_sl (fun x : Value × List Et => [x.1]) (inAv ∘ Prod.snd) _ Tryz.underlying24 (by kernel_rfl : Tryz.prog.cellsOf 48 = 1) (by omega) el_InP (fun _ => rfl) (fun x hx => in_rep x hx) g1
  simp [hc0, hc1] at e1
  subst e1
  obtain ⟨n2, y2, g2⟩ := rd_field Tryz.underlying27 h 2 _ rfl
  obtain ⟨x2, e2, _, _⟩ := DataW.trod_int Tryz.underlying3 g2
  simp [hc0, hc1, hc2] at e2
  subst e2
  obtain ⟨n3, y3, g3⟩ := rd_field Tryz.underlying27 h 3 _ rfl
  obtain ⟨v3, acs, e3, b1, b2, _, b4⟩ := rd_sl Ac.cells Ac.av (fun _ => True) Tryz.underlying25 (by kernel_rfl : Tryz.prog.cellsOf 52 = 3) (by omega) el_AcP (fun _ => rfl) (fun x _ => repC_con (cs := Ac.cells x) rfl) g3
  simp [hc0, hc1, hc2, hc3] at e3
  subst e3
  refine ⟨⟨g, s, d, k, fu, li, de, id, ins.map Prod.snd, x2, acs⟩, ⟨⟨jg, js, jd, jfu, jli, jde, jid⟩, ⟨by simpa using a2, fun es he => ?_⟩, fun es he => ?_, b2⟩, ?_⟩
  · obtain ⟨z, hz, rfl⟩ := List.mem_map.1 he
    exact (a3 z hz).1
  · obtain ⟨z, hz, rfl⟩ := List.mem_map.1 he
    exact (a3 z hz).2.1
  · intro A hA
    have a5 := (show rep0 w (.sl 1 ((ins.map Prod.snd).map inAv)) _ by rw [List.map_map]; exact a4)
    simp only [rep, Pl.av, repC]
    exact ⟨_, rfl, _, _, rfl, rfl, ⟨rfl, rfl⟩, _, _, rfl, rfl, ⟨rfl, rfl⟩, _, _, rfl, rfl, ⟨rfl, rfl⟩, _, _, rfl, rfl, ⟨rfl, rfl⟩, _, _, rfl, rfl, ⟨rfl, rfl⟩, _, _, rfl, rfl, ⟨rfl, rfl⟩, _, _, rfl, rfl, ⟨rfl, rfl⟩, _, _, rfl, rfl, ⟨rfl, rfl⟩, _, _, rfl, a1, (by simpa only [rep] using in_swap hA _ a5), _, _, rfl, rfl, ⟨rfl, rfl⟩, _, _, rfl, b1, (by simpa only [rep] using ac_swap hA _ b4), rfl⟩
end
end Go.Proofs.YtbhblhcgfenobaaGreatDoor
namespace Go.Proofs.YtbhblhcgfenobaaGreatDoor
open Go.RowKit
set_option linter.unusedVariables false
def synS : ByteArray := ⟨#[105, 110, 118, 97, 108, 105, 100, 32, 115, 121, 110, 116, 97, 120]⟩
def rngS : ByteArray := ⟨#[118, 97, 108, 117, 101, 32, 111, 117, 116, 32, 111, 102, 32, 114, 97, 110, 103, 101]⟩
noncomputable def lowW : Nat := (World.holding Tryz.prog default ⟨#[], #[], []⟩).heap.size
noncomputable def laidV (os : Os) : World :=
  let w0 := World.holding Tryz.prog os ⟨#[.cells #[.string synS] 168, .cells #[.string rngS] 168], #[], []⟩
  { w0 with heap := ((((((w0.heap.modify 6 (putT (([0, 1, 28, 2, 29, 14, 24, 3, 30, 22, 20, 15, 25, 17, 4, 8, 31, 27, 13, 23, 21, 19, 16, 7, 26, 12, 18, 6, 11, 5, 10, 9] : List Int).map fun z => Value.int .u8 z))).modify 7 (putT (([0, 1, 56, 2, 57, 49, 28, 3, 61, 58, 42, 50, 38, 29, 17, 4, 62, 47, 59, 36, 45, 43, 51, 22, 53, 39, 33, 30, 24, 18, 12, 5, 63, 55, 48, 27, 60, 41, 37, 16, 46, 35, 44, 21, 52, 32, 23, 11, 54, 26, 40, 15, 34, 20, 31, 10, 25, 14, 19, 9, 13, 8, 7, 6] : List Int).map fun z => Value.int .u8 z))).modify 1 (putT (([1, 10, 100, 1000, 10000, 100000, 1000000, 10000000, 100000000, 1000000000, 10000000000, 100000000000, 1000000000000, 10000000000000, 100000000000000, 1000000000000000, 10000000000000000, 100000000000000000, 1000000000000000000, 10000000000000000000] : List Int).map fun z => Value.int .u64 z))).modify 3 (putT (([128, 191, 160, 191, 128, 159, 144, 191, 128, 143, 0, 0, 0, 0, 0, 0, 0, 0, 0, 0, 0, 0, 0, 0, 0, 0, 0, 0, 0, 0, 0, 0] : List Int).map fun z => Value.int .u8 z))).modify 2 (putT (Pinned.utf8FirstZ.map fun (z : Nat) => Value.int .u8 (z : Int)))).modify 4 (putT [.iface 166 (.pointer (some ⟨lowW, 0, none⟩))])).modify 5 (putT [.iface 166 (.pointer (some ⟨lowW + 1, 0, none⟩))]) }
set_option maxRecDepth 100000 in
theorem laidV_met (os : Os) (args : Array Value) : laidMetH Tryz.prog Rows.scriptReadsRow.laid ((laidV os).forCall (fun _ _ => 0) ⟨#[], args, []⟩).memory :=
  laidMet_of_run' 8 (by kernel_rfl) (by kernel_rfl)
theorem syn_type : (Tryz.prog.globals[4]?).map (·.type) = some 70 := by kernel_rfl
theorem ran_type : (Tryz.prog.globals[5]?).map (·.type) = some 70 := by kernel_rfl
theorem es_cells : Tryz.prog.cellsOf 168 = 1 := by kernel_rfl
theorem st_cells : Tryz.prog.cellsOf 9 = 1 := by kernel_rfl
theorem star : "*" ++ "errors.errorString" = "*errors.errorString" := by decide
theorem row_es (u : TypeId) (h : Tryz.prog.typeName? 3 u = some "*errors.errorString") : u = 166 :=
  typeName_ptr_named (nm := "errors.errorString") (by rw [star]; kernel_rfl) (by kernel_rfl) (by decide) u (by rw [star]; exact h)
/-- the variables off the row's condition -/
theorem tabP_of {W : World} {l : List (String × DataW Unit)} (h : laidMetH Tryz.prog l W) (hsh : W.ShapedOpen Tryz.prog) (hl : (l.filter fun x => x.1 == "internal/strconv.uint64pow10") = [("internal/strconv.uint64pow10", Rows.laid_internal_strconv_uint64pow10)]) (h2 : (l.filter fun x => x.1 == "strconv.ErrSyntax") = [("strconv.ErrSyntax", Rows.laid_strconv_ErrSyntax)]) (h3 : (l.filter fun x => x.1 == "strconv.ErrRange") = [("strconv.ErrRange", Rows.laid_strconv_ErrRange)]) : TabP W := by
  refine ⟨tab_of h hl, layCut.s1_3 W hsh, ?_, ?_⟩
  · have h1 := h.filter fun x => x.1 == "strconv.ErrSyntax"
    rw [h2] at h1
    have h4 : laidMet Tryz.prog [("strconv.ErrSyntax", Rows.laid_strconv_ErrSyntax)] W := h1
    obtain ⟨a0, s0, hv0, _⟩ := laid_sentinel h4 g_syn syn_type Tryz.underlying70 row_es Tryz.underlying166 Tryz.underlying168 rfl rfl Tryz.underlying9 es_cells st_cells
    exact ⟨_, _, hv0⟩
  · have h1 := h.filter fun x => x.1 == "strconv.ErrRange"
    rw [h3] at h1
    have h4 : laidMet Tryz.prog [("strconv.ErrRange", Rows.laid_strconv_ErrRange)] W := h1
    obtain ⟨a0, s0, hv0, _⟩ := laid_sentinel h4 g_ran ran_type Tryz.underlying70 row_es Tryz.underlying166 Tryz.underlying168 rfl rfl Tryz.underlying9 es_cells st_cells
    exact ⟨_, _, hv0⟩
theorem one_cell {W : World} {b off : Nat} {cs : Array Value} {t : TypeId} {fr : Nat × Nat} {v u : Value} (h : W.heap[b]? = some (.cells cs t fr)) (hc : cs = #[v]) (hu : W.cell? ⟨b, off, none⟩ = some u) : off = 0 ∧ u = v := by
  subst hc
  unfold World.cell? at hu
  rw [h] at hu
  simp only [Option.isSome_none, Bool.false_eq_true, if_false] at hu
  obtain ⟨h1, h2⟩ := Array.getElem?_eq_some_iff.1 hu
  have h0 : off = 0 := by simpa using h1
  subst h0
  exact ⟨rfl, h2.symm⟩
theorem var_cells {W : World} {n : String} {g : Nat} {v : Value} (hg : Tryz.prog.globalNamed n = some g) (h : W.var? Tryz.prog n = some #[v]) : ∃ t fr, W.heap[g]? = some (.cells #[v] t fr) := by
  unfold World.var? at h
  rw [hg] at h
  simp only [Option.bind_some] at h
  cases hx : W.heap[g]? with
  | none => rw [hx] at h; cases h
  | some o =>
    rw [hx] at h
    cases o with
    | cells cs t fr =>
      simp only [Option.some.injEq] at h
      subst h
      exact ⟨t, fr, rfl⟩
    | _ => cases h
theorem tabP_apart {W : World} (h : TabP W) (hsh : W.ShapedOpen Tryz.prog) : ApB W TabM := by
  have hp := tab_apart h.tab
  obtain ⟨m, hm⟩ := h.max
  have hmax : ∃ t fr, W.heap[0]? = some (.cells #[.int .i64 m] t fr) := by
    obtain ⟨cs, h1, h2, _⟩ := hsh.1 0 #[.int .i64 0] 3 (of_decide_eq_true (by kernel_rfl)) (by kernel_rfl)
    have h3 : cs.size = 1 := h2
    unfold World.cell? at hm
    rw [h1] at hm
    simp only [Option.isSome_none, Bool.false_eq_true, if_false] at hm
    obtain ⟨h4, h5⟩ := Array.getElem?_eq_some_iff.1 hm
    have : cs = #[.int .i64 m] := by
      apply Array.ext
      · simpa using h3
      · intro i hi1 hi2
        have h0 : i = 0 := by simp at hi2; omega
        subst h0
        simpa using h5
    subst this
    exact ⟨_, _, h1⟩
  obtain ⟨t1, f1, k1⟩ := hmax
  obtain ⟨a1, a2, hs⟩ := h.syn
  obtain ⟨t2, f2, k2⟩ := var_cells g_syn hs
  obtain ⟨b1, b2, hr⟩ := h.ran
  obtain ⟨t3, f3, k3⟩ := var_cells g_ran hr
  refine ⟨fun b off k hb hc => ?_, fun b off a n c hb hc => ?_, fun b off x y hb hc => ?_⟩
  · rcases hb with rfl | rfl | rfl | rfl
    · exact hp.s _ off k rfl hc
    · cases (one_cell k1 rfl hc).2
    · cases (one_cell k2 rfl hc).2
    · cases (one_cell k3 rfl hc).2
  · rcases hb with rfl | rfl | rfl | rfl
    · exact hp.l _ off a n c rfl hc
    · cases (one_cell k1 rfl hc).2
    · cases (one_cell k2 rfl hc).2
    · cases (one_cell k3 rfl hc).2
  · rcases hb with rfl | rfl | rfl | rfl
    · exact hp.i _ off x y rfl hc
    · have := (one_cell k1 rfl hc.2).1; omega
    · cases (one_cell k2 rfl hc.1).2
    · cases (one_cell k3 rfl hc.1).2
end Go.Proofs.YtbhblhcgfenobaaGreatDoor
namespace Go.Proofs.YtbhblhcgfenobaaGreatDoor
/-- what the texts of the laws name:
  A_laidOut F ScriptBackCardSaid ScriptBackSaid ScriptOnceUptoCardSaid ScriptOnceUptoSaid
  ScriptReadsUptoCardSaid ScriptReadsUptoSaid Sm TabP checked i64 laidV laidV_met law mono nil none
  open_plan_arg pinned post_law rd_of s_back s_once s_reads scriptBackRow scriptBackSpec scriptBack_row_tie
  scriptOnceSpec scriptOnceUptoRow scriptOnceUpto_row_tie scriptReadsSpec scriptReadsUptoRow
  scriptReadsUpto_row_tie size slice symm tabP_apart tabP_lt tabP_of tabP_tb trans upto uptoBulk uptoBulkAll
  uptoSmall vars
-/
theorem leansOn : True := trivial
end Go.Proofs.YtbhblhcgfenobaaGreatDoor
