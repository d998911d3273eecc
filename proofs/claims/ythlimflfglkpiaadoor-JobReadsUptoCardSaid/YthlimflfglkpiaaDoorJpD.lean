/-
  Texts cut and split, numbers read: by the shelf's contracts, which lean on variables of the packages. Laid at this seat's numbers.
-/
import Derived.Test.YthlimflfglkpiaaDoorJpB
import Derived.Test.YthlimflfglkpiaaDoorLaw
import Derived.Lib.AtoiErrMem
import Derived.Shelf.Strings.Shaped
import Derived.Shelf.Strings.SplitShaped
import Derived.Shelf.Strconv.ErrVarParseInt
import Derived.Lib.ParseIntBTie
namespace Go.Proofs.YthlimflfglkpiaaDoor
open Go.RowKit
set_option linter.unusedSimpArgs false
set_option linter.unusedVariables false
section
open Go.Shelf Go.Proofs
def layCut_ren : Go.Shelf.Ren := ⟨fun | 145 => 39 | 220 => 58 | 219 => 83 | 217 => 108 | 225 => 109 | 224 => 110 | 267 => 111 | 266 => 121 | 314 => 122 | n => n, fun | 9 => 9 | 4 => 4 | 59 => 68 | 3 => 3 | 5 => 5 | 46 => 114 | 146 => 145 | 51 => 63 | n => n, fun | 1 => 1 | n => n⟩
theorem layCut : Go.Proofs.LaysM.n145 Tryd.prog layCut_ren := {
  mixed := by kernel_rfl
  f145 := Tryd.func39.trans (congrArg some (by kernel_rfl))
  f217 := Tryd.func108.trans (congrArg some (by kernel_rfl))
  f219 := Tryd.func83.trans (congrArg some (by kernel_rfl))
  f220 := Tryd.func58.trans (congrArg some (by kernel_rfl))
  f224 := Tryd.func110.trans (congrArg some (by kernel_rfl))
  f225 := Tryd.func109.trans (congrArg some (by kernel_rfl))
  f266 := Tryd.func121.trans (congrArg some (by kernel_rfl))
  f267 := Tryd.func111.trans (congrArg some (by kernel_rfl))
  f314 := Tryd.func122.trans (congrArg some (by kernel_rfl))
  t3 := Tryd.underlying3
  a3 := Tryd.isAgg3
  z3 := Tryd.sizeOf3
  v3 := Tryd.zeroValue3
  t4 := Tryd.underlying4
  a4 := Tryd.isAgg4
  z4 := Tryd.sizeOf4
  v4 := Tryd.zeroValue4
  t5 := Tryd.underlying5
  a5 := Tryd.isAgg5
  z5 := Tryd.sizeOf5
  v5 := Tryd.zeroValue5
  t9 := Tryd.underlying9
  a9 := Tryd.isAgg9
  z9 := Tryd.sizeOf9
  v9 := Tryd.zeroValue9
  t46 := Tryd.underlying114
  a46 := Tryd.isAgg114
  z46 := Tryd.sizeOf114
  v46 := Tryd.zeroValue114
  t51 := Tryd.underlying63
  a51 := Tryd.isAgg63
  z51 := Tryd.sizeOf63
  v51 := Tryd.zeroValue63
  t59 := Tryd.underlying68
  a59 := Tryd.isAgg68
  z59 := Tryd.sizeOf68
  v59 := Tryd.zeroValue68
  t146 := Tryd.underlying145
  a146 := Tryd.isAgg145
  z146 := Tryd.sizeOf145
  v146 := Tryd.zeroValue145
  g1 := by kernel_rfl
  i3 := by kernel_rfl
  i4 := by kernel_rfl
  i5 := by kernel_rfl
  i9 := by kernel_rfl
  i46 := by kernel_rfl
  i51 := by kernel_rfl
  i59 := by kernel_rfl
  i146 := by kernel_rfl
  m1 := by kernel_rfl
  s1_3 := fun w h => Go.Proofs.cell_of_shapedOpen_int (zero := #[.int .i64 0]) (t := 3) h (of_decide_eq_true (by kernel_rfl)) (by kernel_rfl) rfl (by kernel_rfl) (by kernel_rfl) Tryd.underlying3 }
def laySplit_ren : Go.Shelf.Ren := ⟨fun | 146 => 84 | 221 => 46 | 268 => 68 | 138 => 69 | 143 => 70 | 195 => 88 | 197 => 89 | 218 => 90 | 219 => 83 | 260 => 113 | 217 => 108 | 225 => 109 | 224 => 110 | 267 => 111 | 266 => 121 | 314 => 122 | n => n, fun | 9 => 9 | 31 => 47 | 3 => 3 | 4 => 4 | 0 => 0 | 105 => 120 | 21 => 21 | 5 => 5 | 46 => 114 | 119 => 148 | 139 => 151 | 138 => 150 | 146 => 145 | 51 => 63 | n => n, fun | 1 => 1 | 3 => 2 | 4 => 3 | n => n⟩
theorem laySplit : Go.Proofs.LaysM.n146 Tryd.prog laySplit_ren := {
  mixed := by kernel_rfl
  f138 := Tryd.func69.trans (congrArg some (by kernel_rfl))
  f143 := Tryd.func70.trans (congrArg some (by kernel_rfl))
  f146 := Tryd.func84.trans (congrArg some (by kernel_rfl))
  f195 := Tryd.func88.trans (congrArg some (by kernel_rfl))
  f197 := Tryd.func89.trans (congrArg some (by kernel_rfl))
  f217 := Tryd.func108.trans (congrArg some (by kernel_rfl))
  f218 := Tryd.func90.trans (congrArg some (by kernel_rfl))
  f219 := Tryd.func83.trans (congrArg some (by kernel_rfl))
  f221 := Tryd.func46.trans (congrArg some (by kernel_rfl))
  f224 := Tryd.func110.trans (congrArg some (by kernel_rfl))
  f225 := Tryd.func109.trans (congrArg some (by kernel_rfl))
  f260 := Tryd.func113.trans (congrArg some (by kernel_rfl))
  f266 := Tryd.func121.trans (congrArg some (by kernel_rfl))
  f267 := Tryd.func111.trans (congrArg some (by kernel_rfl))
  f268 := Tryd.func68.trans (congrArg some (by kernel_rfl))
  f314 := Tryd.func122.trans (congrArg some (by kernel_rfl))
  t0 := Tryd.underlying0
  a0 := Tryd.isAgg0
  z0 := Tryd.sizeOf0
  v0 := Tryd.zeroValue0
  t3 := Tryd.underlying3
  a3 := Tryd.isAgg3
  z3 := Tryd.sizeOf3
  v3 := Tryd.zeroValue3
  t4 := Tryd.underlying4
  a4 := Tryd.isAgg4
  z4 := Tryd.sizeOf4
  v4 := Tryd.zeroValue4
  t5 := Tryd.underlying5
  a5 := Tryd.isAgg5
  z5 := Tryd.sizeOf5
  v5 := Tryd.zeroValue5
  t9 := Tryd.underlying9
  a9 := Tryd.isAgg9
  z9 := Tryd.sizeOf9
  v9 := Tryd.zeroValue9
  t21 := Tryd.underlying21
  a21 := Tryd.isAgg21
  z21 := Tryd.sizeOf21
  v21 := Tryd.zeroValue21
  t31 := Tryd.underlying47
  a31 := Tryd.isAgg47
  z31 := Tryd.sizeOf47
  v31 := Tryd.zeroValue47
  t46 := Tryd.underlying114
  a46 := Tryd.isAgg114
  z46 := Tryd.sizeOf114
  v46 := Tryd.zeroValue114
  t51 := Tryd.underlying63
  a51 := Tryd.isAgg63
  z51 := Tryd.sizeOf63
  v51 := Tryd.zeroValue63
  t105 := Tryd.underlying120
  a105 := Tryd.isAgg120
  z105 := Tryd.sizeOf120
  v105 := Tryd.zeroValue120
  t119 := Tryd.underlying148
  a119 := Tryd.isAgg148
  z119 := Tryd.sizeOf148
  t138 := Tryd.underlying150
  a138 := Tryd.isAgg150
  z138 := Tryd.sizeOf150
  v138 := Tryd.zeroValue150
  t139 := Tryd.underlying151
  a139 := Tryd.isAgg151
  z139 := Tryd.sizeOf151
  v139 := Tryd.zeroValue151
  t146 := Tryd.underlying145
  a146 := Tryd.isAgg145
  z146 := Tryd.sizeOf145
  v146 := Tryd.zeroValue145
  g1 := by kernel_rfl
  g3 := by kernel_rfl
  g4 := by kernel_rfl
  i0 := by kernel_rfl
  i3 := by kernel_rfl
  i4 := by kernel_rfl
  i5 := by kernel_rfl
  i9 := by kernel_rfl
  i21 := by kernel_rfl
  i31 := by kernel_rfl
  i46 := by kernel_rfl
  i51 := by kernel_rfl
  i105 := by kernel_rfl
  i138 := by kernel_rfl
  i139 := by kernel_rfl
  i146 := by kernel_rfl
  m1 := by kernel_rfl
  s1_3 := fun w h => Go.Proofs.cell_of_shapedOpen_int (zero := #[.int .i64 0]) (t := 3) h (of_decide_eq_true (by kernel_rfl)) (by kernel_rfl) rfl (by kernel_rfl) (by kernel_rfl) Tryd.underlying3
  m3 := by kernel_rfl
  m4 := by kernel_rfl }
def layPI_ren : Go.Shelf.Ren := ⟨fun | 174 => 112 | 247 => 123 | 245 => 124 | 287 => 126 | 279 => 127 | 280 => 128 | 281 => 129 | 282 => 130 | 321 => 131 | 322 => 132 | 316 => 133 | 171 => 53 | 205 => 134 | 243 => 77 | 246 => 50 | 283 => 73 | 284 => 74 | 285 => 75 | 286 => 76 | 129 => 94 | 317 => 93 | 318 => 95 | 319 => 96 | 320 => 97 | 337 => 114 | 338 => 115 | n => n, fun | 9 => 9 | 3 => 3 | 2 => 2 | 75 => 86 | 85 => 137 | 4 => 4 | 167 => 157 | 5 => 5 | 53 => 62 | 175 => 158 | 46 => 114 | 168 => 160 | 37 => 81 | 0 => 0 | 210 => 166 | 21 => 21 | 127 => 105 | 145 => 170 | 143 => 168 | 171 => 106 | 173 => 109 | 212 => 127 | 51 => 63 | 20 => 20 | 213 => 128 | 232 => 152 | 233 => 153 | 80 => 89 | n => n, fun | 15 => 6 | 16 => 7 | 17 => 0 | 18 => 4 | 19 => 5 | n => n⟩
theorem layPI : Go.Proofs.LaysC.n174 Tryd.prog layPI_ren := {
  mixed := by kernel_rfl
  f129 := Tryd.func94.trans (congrArg some (by kernel_rfl))
  f171 := Tryd.func53.trans (congrArg some (by kernel_rfl))
  f174 := Tryd.func112.trans (congrArg some (by kernel_rfl))
  f205 := Tryd.func134.trans (congrArg some (by kernel_rfl))
  f243 := Tryd.func77.trans (congrArg some (by kernel_rfl))
  f245 := Tryd.func124.trans (congrArg some (by kernel_rfl))
  f246 := Tryd.func50.trans (congrArg some (by kernel_rfl))
  f247 := Tryd.func123.trans (congrArg some (by kernel_rfl))
  f279 := Tryd.func127.trans (congrArg some (by kernel_rfl))
  f280 := Tryd.func128.trans (congrArg some (by kernel_rfl))
  f281 := Tryd.func129.trans (congrArg some (by kernel_rfl))
  f282 := Tryd.func130.trans (congrArg some (by kernel_rfl))
  f283 := Tryd.func73.trans (congrArg some (by kernel_rfl))
  f284 := Tryd.func74.trans (congrArg some (by kernel_rfl))
  f285 := Tryd.func75.trans (congrArg some (by kernel_rfl))
  f286 := Tryd.func76.trans (congrArg some (by kernel_rfl))
  f287 := Tryd.func126.trans (congrArg some (by kernel_rfl))
  f316 := Tryd.func133.trans (congrArg some (by kernel_rfl))
  f317 := Tryd.func93.trans (congrArg some (by kernel_rfl))
  f318 := Tryd.func95.trans (congrArg some (by kernel_rfl))
  f319 := Tryd.func96.trans (congrArg some (by kernel_rfl))
  f320 := Tryd.func97.trans (congrArg some (by kernel_rfl))
  f321 := Tryd.func131.trans (congrArg some (by kernel_rfl))
  f322 := Tryd.func132.trans (congrArg some (by kernel_rfl))
  f337 := Tryd.func114.trans (congrArg some (by kernel_rfl))
  f338 := Tryd.func115.trans (congrArg some (by kernel_rfl))
  t0 := Tryd.underlying0
  a0 := Tryd.isAgg0
  z0 := Tryd.sizeOf0
  v0 := Tryd.zeroValue0
  t2 := Tryd.underlying2
  a2 := Tryd.isAgg2
  z2 := Tryd.sizeOf2
  v2 := Tryd.zeroValue2
  t3 := Tryd.underlying3
  a3 := Tryd.isAgg3
  z3 := Tryd.sizeOf3
  v3 := Tryd.zeroValue3
  t4 := Tryd.underlying4
  a4 := Tryd.isAgg4
  z4 := Tryd.sizeOf4
  v4 := Tryd.zeroValue4
  t5 := Tryd.underlying5
  a5 := Tryd.isAgg5
  z5 := Tryd.sizeOf5
  v5 := Tryd.zeroValue5
  t9 := Tryd.underlying9
  a9 := Tryd.isAgg9
  z9 := Tryd.sizeOf9
  v9 := Tryd.zeroValue9
  t20 := Tryd.underlying20
  a20 := Tryd.isAgg20
  z20 := Tryd.sizeOf20
  v20 := Tryd.zeroValue20
  t21 := Tryd.underlying21
  a21 := Tryd.isAgg21
  z21 := Tryd.sizeOf21
  v21 := Tryd.zeroValue21
  t37 := Tryd.underlying81
  a37 := Tryd.isAgg81
  z37 := Tryd.sizeOf81
  v37 := Tryd.zeroValue81
  t46 := Tryd.underlying114
  a46 := Tryd.isAgg114
  z46 := Tryd.sizeOf114
  v46 := Tryd.zeroValue114
  t51 := Tryd.underlying63
  a51 := Tryd.isAgg63
  z51 := Tryd.sizeOf63
  v51 := Tryd.zeroValue63
  t53 := Tryd.underlying62
  a53 := Tryd.isAgg62
  z53 := Tryd.sizeOf62
  v53 := Tryd.zeroValue62
  t75 := Tryd.underlying86
  a75 := Tryd.isAgg86
  z75 := Tryd.sizeOf86
  v75 := Tryd.zeroValue86
  t85 := Tryd.underlying137
  a85 := Tryd.isAgg137
  z85 := Tryd.sizeOf137
  v85 := Tryd.zeroValue137
  t127 := Tryd.underlying105
  a127 := Tryd.isAgg105
  z127 := Tryd.sizeOf105
  v127 := Tryd.zeroValue105
  t143 := Tryd.underlying168
  a143 := Tryd.isAgg168
  z143 := Tryd.sizeOf168
  v143 := Tryd.zeroValue168
  t145 := Tryd.underlying170
  a145 := Tryd.isAgg170
  z145 := Tryd.sizeOf170
  v145 := Tryd.zeroValue170
  t167 := Tryd.underlying157
  a167 := Tryd.isAgg157
  z167 := Tryd.sizeOf157
  v167 := Tryd.zeroValue157
  t168 := Tryd.underlying160
  a168 := Tryd.isAgg160
  z168 := Tryd.sizeOf160
  v168 := Tryd.zeroValue160
  t171 := Tryd.underlying106
  a171 := Tryd.isAgg106
  z171 := Tryd.sizeOf106
  v171 := Tryd.zeroValue106
  t173 := Tryd.underlying109
  a173 := Tryd.isAgg109
  z173 := Tryd.sizeOf109
  v173 := Tryd.zeroValue109
  t175 := Tryd.underlying158
  a175 := Tryd.isAgg158
  z175 := Tryd.sizeOf158
  v175 := Tryd.zeroValue158
  t210 := Tryd.underlying166
  a210 := Tryd.isAgg166
  z210 := Tryd.sizeOf166
  v210 := Tryd.zeroValue166
  t212 := Tryd.underlying127
  a212 := Tryd.isAgg127
  z212 := Tryd.sizeOf127
  v212 := Tryd.zeroValue127
  t213 := Tryd.underlying128
  a213 := Tryd.isAgg128
  z213 := Tryd.sizeOf128
  t232 := Tryd.underlying152
  a232 := Tryd.isAgg152
  z232 := Tryd.sizeOf152
  v232 := Tryd.zeroValue152
  t233 := Tryd.underlying153
  a233 := Tryd.isAgg153
  z233 := Tryd.sizeOf153
  v233 := Tryd.zeroValue153
  g15 := by kernel_rfl
  g16 := by kernel_rfl
  g17 := by kernel_rfl
  g18 := by kernel_rfl
  g19 := by kernel_rfl
  t80 := Tryd.underlying89
  a80 := Tryd.isAgg89
  z80 := Tryd.sizeOf89
  v80 := Tryd.zeroValue89
  i0 := by kernel_rfl
  i2 := by kernel_rfl
  i3 := by kernel_rfl
  i4 := by kernel_rfl
  i5 := by kernel_rfl
  i9 := by kernel_rfl
  i20 := by kernel_rfl
  i21 := by kernel_rfl
  i37 := by kernel_rfl
  i46 := by kernel_rfl
  i51 := by kernel_rfl
  i53 := by kernel_rfl
  i75 := by kernel_rfl
  i80 := by kernel_rfl
  i85 := by kernel_rfl
  i127 := by kernel_rfl
  i143 := by kernel_rfl
  i145 := by kernel_rfl
  i167 := by kernel_rfl
  i168 := by kernel_rfl
  i171 := by kernel_rfl
  i173 := by kernel_rfl
  i175 := by kernel_rfl
  i210 := by kernel_rfl
  i212 := by kernel_rfl
  i232 := by kernel_rfl
  i233 := by kernel_rfl
  m15 := by kernel_rfl
  m16 := by kernel_rfl
  m17 := by kernel_rfl
  m18 := by kernel_rfl
  m19 := by kernel_rfl
  c0 := by kernel_rfl
  c2 := by kernel_rfl
  c3 := by kernel_rfl
  c4 := by kernel_rfl
  c5 := by kernel_rfl
  c9 := by kernel_rfl
  c20 := by kernel_rfl
  c21 := by kernel_rfl
  c37 := by kernel_rfl
  c46 := by kernel_rfl
  c51 := by kernel_rfl
  c53 := by kernel_rfl
  c75 := by kernel_rfl
  c80 := by kernel_rfl
  c85 := by kernel_rfl
  c127 := by kernel_rfl
  c143 := by kernel_rfl
  c145 := by kernel_rfl
  c167 := by kernel_rfl
  c168 := by kernel_rfl
  c171 := by kernel_rfl
  c173 := by kernel_rfl
  c175 := by kernel_rfl
  c210 := by kernel_rfl
  c212 := by kernel_rfl
  c213 := by kernel_rfl
  c232 := by kernel_rfl
  c233 := by kernel_rfl }
end
/-- what the packages' variables hold -/
structure TabP (w : World) : Prop where
  tab : TabT w
  max : ∃ m, w.cell? ⟨1, 0, none⟩ = some (.int .i64 m)
  syn : ∃ t p, w.var? Tryd.prog "strconv.ErrSyntax" = some #[.iface t p]
  ran : ∃ t p, w.var? Tryd.prog "strconv.ErrRange" = some #[.iface t p]
def TabM (b : Nat) : Prop := b = 0 ∨ b = 1 ∨ b = 6 ∨ b = 7
theorem g_syn : Tryd.prog.globalNamed "strconv.ErrSyntax" = some 6 := by kernel_rfl
theorem g_ran : Tryd.prog.globalNamed "strconv.ErrRange" = some 7 := by kernel_rfl
theorem var_at {P : Program} {w w' : World} {n : String} {g : Nat} {x : Option (Array Value)} (hg : P.globalNamed n = some g) (h : w'.heap[g]? = w.heap[g]?) (hv : w.var? P n = x) : w'.var? P n = x := by
  unfold World.var? at hv ⊢
  rw [hg] at hv ⊢
  simp only [Option.bind_some] at hv ⊢
  rw [h]; exact hv
theorem var_lt {P : Program} {w : World} {n : String} {g : Nat} {x : Array Value} (hg : P.globalNamed n = some g) (hv : w.var? P n = some x) : g < w.heap.size := by
  unfold World.var? at hv
  rw [hg] at hv
  simp only [Option.bind_some] at hv
  rcases Nat.lt_or_ge g w.heap.size with h1 | h1
  · exact h1
  · rw [Array.getElem?_eq_none h1] at hv; cases hv
theorem tabP_tb {w : World} (h : TabP w) : TB TabP TabM w := by
  intro w' hw
  refine ⟨var_at g_pow (hw _ (.inl rfl)) h.tab, ?_, ?_, ?_⟩
  · obtain ⟨m, hm⟩ := h.max
    exact ⟨m, (World.cell?_of_block (a := ⟨1, 0, none⟩) (hw _ (.inr (.inl rfl)))).trans hm⟩
  · obtain ⟨t, p, hv⟩ := h.syn
    exact ⟨t, p, var_at g_syn (hw _ (.inr (.inr (.inl rfl)))) hv⟩
  · obtain ⟨t, p, hv⟩ := h.ran
    exact ⟨t, p, var_at g_ran (hw _ (.inr (.inr (.inr rfl)))) hv⟩
theorem tabP_lt {w : World} (h : TabP w) : ∀ b, TabM b → b < w.heap.size := by
  rintro b (rfl | rfl | rfl | rfl)
  · exact var_lt g_pow h.tab
  · obtain ⟨m, hm⟩ := h.max; exact cell_lt hm
  · obtain ⟨t, p, hv⟩ := h.syn; exact var_lt g_syn hv
  · obtain ⟨t, p, hv⟩ := h.ran; exact var_lt g_ran hv
section
variable {P : Program} {T T' : World → Prop} {f : FuncId} {args : List AV} {r : AV}
theorem ACT.weak {σ σ' : Store} (h : ACT P T f args σ r σ') (hT : ∀ w, T' w → T w) : ACT P T' f args σ r σ' := ⟨h.ok, fun w M μ vs hb => h.out w M μ vs fun w' hw => hT _ (hb w' hw)⟩
theorem PCT.weak (h : PCT P T f args r) (hT : ∀ w, T' w → T w) : PCT P T' f args r := ⟨h.ac.weak hT⟩
theorem pct_gen {xs : List Value} (ok : CallOK P f) (h : ∀ w, T w → Calls P f xs.toArray w fun e w' => ∃ y, e = .returned y ∧ Below w.heap.size w w' ∧ ∀ (μ : Nat → Value) (A : Nat → Prop), (∀ b, A b → b < w.heap.size) → rep [] μ w' A r y) : PCT P T f (xs.map .v) r := by
  refine ⟨ok, fun w M μ vs hTB hsr hrep => ?_⟩
  have key : ∀ (xs vs : List Value), repL [] μ w (av [] μ M) (xs.map .v) vs → vs = xs := by
    intro xs
    induction xs with
    | nil => intro vs h; simpa only [List.map_nil, repL] using h
    | cons x xs ih =>
      intro vs h
      simp only [List.map_cons, repL, rep] at h
      obtain ⟨u, us', rfl, ⟨rfl, _⟩, h2⟩ := h
      rw [ih us' h2]
  rw [key xs vs hrep]
  refine (h w hTB.here).mono ?_
  rintro e w' ⟨y, rfl, hb, hr⟩
  refine ⟨y, μ, rfl, ⟨fun _ _ h => by simp [find] at h, fun _ _ _ _ _ h => by simp [find] at h, fun b hb' => Nat.lt_of_lt_of_le (hsr.lt b hb') hb.size, fun _ _ _ h => by simp [find] at h⟩, hr μ _ (fun b hb' => ?_), ⟨hb.os, hb.tape, hb.output, hb.size, fun b hl _ => hb.block b hl, fun _ _ _ h => by simp [find] at h, fun _ _ _ h => by simp [find] at h, fun _ _ _ _ h => by simp [find] at h, fun _ _ h => by simp [find] at h, fun _ h => by simp [find] at h⟩⟩
  rcases hb' with hb' | ⟨_, _, h, _⟩
  · exact hsr.lt b hb'
  · simp [find] at h
end
theorem f_tab : ∀ w, TabP w → TabT w := fun _ h => h.tab
/-! strings.Cut -/
def cutA (s sep : ByteArray) : ByteArray := ⟨(Lib.cut s.data.toList sep.data.toList).1.toArray⟩
def cutB (s sep : ByteArray) : ByteArray := ⟨(Lib.cut s.data.toList sep.data.toList).2.1.toArray⟩
def cutC (s sep : ByteArray) : Bool := (Lib.cut s.data.toList sep.data.toList).2.2
theorem ok_Cut : CallOK Tryd.prog 39 := ⟨_, Tryd.func39, by kernel_rfl, rfl⟩
theorem p_Cut (s sep : ByteArray) (hs : s.size < 4294967281) : PCT Tryd.prog TabP 39 [.v (.string s), .v (.string sep)] (.tup [.v (.string (cutA s sep)), .v (.string (cutB s sep)), .v (.bool (cutC s sep))]) :=
  pct_gen (xs := [.string s, .string sep]) ok_Cut fun w hT => by
    obtain ⟨m, hm⟩ := hT.max
    refine (Any.strings_Cut { layCut with } s sep m w hs hm).mono ?_
    rintro e w' ⟨rfl, n, rfl⟩
    exact ⟨_, rfl, ⟨rfl, rfl, rfl, Nat.le_refl _, fun _ _ => rfl⟩, fun μ A _ => ⟨[_, _, _], rfl, _, _, rfl, ⟨rfl, rfl⟩, _, _, rfl, ⟨rfl, rfl⟩, _, _, rfl, ⟨rfl, rfl⟩, rfl⟩⟩
/-! strings.Split -/
def spl (s sep : ByteArray) : List ByteArray := Lib.splitB sep 0 (Lib.countB s sep) s
theorem ok_Split : CallOK Tryd.prog 84 := ⟨_, Tryd.func84, by kernel_rfl, rfl⟩
theorem spl_len (s sep : ByteArray) (h1 : 1 ≤ sep.size) : (spl s sep).length = Lib.countB s sep + 1 := Lib.splitB_all sep h1 0 _ s rfl
theorem st_repLL {μ : Nat → Value} {w : World} {A : Nat → Prop} : ∀ l : List ByteArray, repLL [] μ w A 1 (l.map stAv) (l.map Value.string)
  | [] => rfl
  | b :: l => ⟨[_], _, rfl, rfl, ⟨_, _, rfl, rfl, ⟨rfl, rfl⟩, rfl⟩, st_repLL l⟩
theorem p_Split (s sep : ByteArray) (hs : s.size < 4294967281) (h1 : 1 ≤ sep.size) (hc : Lib.countB s sep + 1 ≤ 9223372036854775807) : PCT Tryd.prog TabP 84 [.v (.string s), .v (.string sep)] (.sl 1 ((spl s sep).map stAv)) :=
  pct_gen (xs := [.string s, .string sep]) ok_Split fun w hT => by
    obtain ⟨m, hm⟩ := hT.max
    refine (Any.strings_Split { laySplit with } laySplit.i9 s sep m w hs hm h1).mono ?_
    rintro e w' ⟨rfl, rfl⟩
    have hl := spl_len s sep h1
    refine ⟨_, rfl, below_alloc _ _, fun μ A hA => ⟨some ⟨w.heap.size, 0, none⟩, Lib.countB s sep + 1, (spl s sep).map Value.string, by rw [List.length_map, hl], by rw [List.length_map, hl]; exact Nat.le_refl _, by simpa [maxLen] using hc, .inr ⟨_, 0, rfl, fun h => Nat.lt_irrefl _ (hA _ h), by simp, fun j u hu => ?_⟩, st_repLL _⟩⟩
    have := (Blk.new w (laySplit_ren.t 9) ((spl s sep).map Value.string).toArray).cell (0 + j)
    rw [Nat.zero_add] at this ⊢
    refine this.trans ?_
    rw [← Array.getElem?_toList]; exact hu
/-! strconv.ParseInt -/
def numV (s : ByteArray) : Int := match Lib.parseIntB 64 s.data.toList with
  | .ok v => v
  | .range => Lib.intSat 64 s.data.toList
  | _ => 0
def numE (s : ByteArray) : AV := match Lib.parseIntB 64 s.data.toList with
  | .ok _ => .v .nilIface
  | _ => .ife
theorem ok_PI : CallOK Tryd.prog 112 := ⟨_, Tryd.func112, by kernel_rfl, rfl⟩
theorem p_PI (s : ByteArray) (hs : s.size ≤ 281474976710656) : PCT Tryd.prog TabP 112 [.v (.string s), .v (.int .i64 10), .v (.int .i64 64)] (.tup [.v (.int .i64 (numV s)), numE s]) :=
  pct_gen (xs := [.string s, .int .i64 10, .int .i64 64]) ok_PI fun w hT => by
    cases h : Lib.parseIntB 64 s.data.toList with
    | ok v =>
      refine (Any.strconv_ParseInt_10_at64_ok layPI s (by omega) v h w).mono ?_
      rintro e w' ⟨rfl, hw⟩
      refine ⟨_, rfl, ?_, fun μ A _ => ?_⟩
      · rcases hw with rfl | ⟨t, rfl⟩
        · exact Below.refl _ _
        · exact Lib.bytesWorld_below _ _ _
      · unfold numV numE
        rw [h]
        exact ⟨[_, _], rfl, _, _, rfl, ⟨rfl, rfl⟩, _, _, rfl, ⟨rfl, rfl⟩, rfl⟩
    | range =>
      obtain ⟨t, p, hv⟩ := hT.ran
      refine (Any.strconv_ParseInt_10_at64_range_var layPI s hs h t p w hv).mono ?_
      rintro e w' ⟨N, rfl, _, _, hb⟩
      refine ⟨_, rfl, hb, fun μ A _ => ?_⟩
      unfold numV numE
      rw [h]
      exact ⟨[_, _], rfl, _, _, rfl, ⟨rfl, rfl⟩, _, _, rfl, ⟨_, _, rfl⟩, rfl⟩
    | _ =>
      obtain ⟨t, p, hv⟩ := hT.syn
      refine (Any.strconv_ParseInt_10_at64_syntax_var layPI s hs h t p w hv).mono ?_
      rintro e w' ⟨N, rfl, _, _, hb⟩
      refine ⟨_, rfl, hb, fun μ A _ => ?_⟩
      unfold numV numE
      rw [h]
      exact ⟨[_, _], rfl, _, _, rfl, ⟨rfl, rfl⟩, _, _, rfl, ⟨_, _, rfl⟩, rfl⟩
end Go.Proofs.YthlimflfglkpiaaDoor
