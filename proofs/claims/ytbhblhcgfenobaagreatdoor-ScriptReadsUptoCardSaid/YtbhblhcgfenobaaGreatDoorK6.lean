/-
  Texts cut and split, numbers read: by the shelf's contracts, which lean on variables of the packages. Laid at this seat's numbers.
  Jobs, walked over abstract values: a number, the fields of a line.
-/
import Derived.Lib.AtoiErrMem
import Derived.Shelf.Strings.Shaped
import Derived.Shelf.Strings.SplitShaped
import Derived.Shelf.Strconv.ErrVarParseInt
import Derived.Lib.ParseIntBTie
import Derived.Test.YtbhblhcgfenobaaGreatDoorK4
import Derived.Test.YtbhblhcgfenobaaGreatDoorK5
namespace Go.Proofs.YtbhblhcgfenobaaGreatDoor
open Go.RowKit
set_option linter.unusedSimpArgs false
set_option linter.unusedVariables false
section
open Go.Shelf Go.Proofs
def layCut_ren : Go.Shelf.Ren := ⟨fun | 145 => 13 | 220 => 42 | 219 => 69 | 217 => 94 | 225 => 95 | 224 => 96 | 267 => 97 | 266 => 114 | 314 => 115 | n => n, fun | 9 => 9 | 4 => 4 | 59 => 38 | 3 => 3 | 5 => 5 | 46 => 129 | 146 => 144 | 51 => 143 | n => n, fun | 1 => 0 | n => n⟩
theorem layCut : Go.Proofs.LaysM.n145 Tryz.prog layCut_ren := {
  mixed := by kernel_rfl
  f145 := Tryz.func13.trans (congrArg some (by kernel_rfl))
  f217 := Tryz.func94.trans (congrArg some (by kernel_rfl))
  f219 := Tryz.func69.trans (congrArg some (by kernel_rfl))
  f220 := Tryz.func42.trans (congrArg some (by kernel_rfl))
  f224 := Tryz.func96.trans (congrArg some (by kernel_rfl))
  f225 := Tryz.func95.trans (congrArg some (by kernel_rfl))
  f266 := Tryz.func114.trans (congrArg some (by kernel_rfl))
  f267 := Tryz.func97.trans (congrArg some (by kernel_rfl))
  f314 := Tryz.func115.trans (congrArg some (by kernel_rfl))
  t3 := Tryz.underlying3
  a3 := Tryz.isAgg3
  z3 := Tryz.sizeOf3
  v3 := Tryz.zeroValue3
  t4 := Tryz.underlying4
  a4 := Tryz.isAgg4
  z4 := Tryz.sizeOf4
  v4 := Tryz.zeroValue4
  t5 := Tryz.underlying5
  a5 := Tryz.isAgg5
  z5 := Tryz.sizeOf5
  v5 := Tryz.zeroValue5
  t9 := Tryz.underlying9
  a9 := Tryz.isAgg9
  z9 := Tryz.sizeOf9
  v9 := Tryz.zeroValue9
  t46 := Tryz.underlying129
  a46 := Tryz.isAgg129
  z46 := Tryz.sizeOf129
  v46 := Tryz.zeroValue129
  t51 := Tryz.underlying143
  a51 := Tryz.isAgg143
  z51 := Tryz.sizeOf143
  v51 := Tryz.zeroValue143
  t59 := Tryz.underlying38
  a59 := Tryz.isAgg38
  z59 := Tryz.sizeOf38
  v59 := Tryz.zeroValue38
  t146 := Tryz.underlying144
  a146 := Tryz.isAgg144
  z146 := Tryz.sizeOf144
  v146 := Tryz.zeroValue144
  g1 := by kernel_rfl
  i3 := by kernel_rfl
  i4 := by kernel_rfl
  i5 := by kernel_rfl
  i9 := by kernel_rfl
  i46 := by kernel_rfl
  i51 := by kernel_rfl
  i59 := by kernel_rfl
  i146 := by kernel_rfl
  m1 := by kernel_rfl
  s1_3 := fun w h => Go.Proofs.cell_of_shapedOpen_int (zero := #[.int .i64 0]) (t := 3) h (of_decide_eq_true (by kernel_rfl)) (by kernel_rfl) rfl (by kernel_rfl) (by kernel_rfl) Tryz.underlying3 }


def laySplit_ren : Go.Shelf.Ren := ⟨fun | 146 => 14 | 221 => 43 | 268 => 70 | 138 => 71 | 143 => 72 | 195 => 98 | 197 => 99 | 218 => 100 | 219 => 69 | 260 => 116 | 217 => 94 | 225 => 95 | 224 => 96 | 267 => 97 | 266 => 114 | 314 => 115 | n => n, fun | 9 => 9 | 31 => 37 | 3 => 3 | 4 => 4 | 0 => 0 | 105 => 131 | 21 => 21 | 5 => 5 | 46 => 129 | 119 => 156 | 139 => 159 | 138 => 158 | 146 => 144 | 51 => 143 | n => n, fun | 1 => 0 | 3 => 2 | 4 => 3 | n => n⟩
theorem laySplit : Go.Proofs.LaysM.n146 Tryz.prog laySplit_ren := {
  mixed := by kernel_rfl
  f138 := Tryz.func71.trans (congrArg some (by kernel_rfl))
  f143 := Tryz.func72.trans (congrArg some (by kernel_rfl))
  f146 := Tryz.func14.trans (congrArg some (by kernel_rfl))
  f195 := Tryz.func98.trans (congrArg some (by kernel_rfl))
  f197 := Tryz.func99.trans (congrArg some (by kernel_rfl))
  f217 := Tryz.func94.trans (congrArg some (by kernel_rfl))
  f218 := Tryz.func100.trans (congrArg some (by kernel_rfl))
  f219 := Tryz.func69.trans (congrArg some (by kernel_rfl))
  f221 := Tryz.func43.trans (congrArg some (by kernel_rfl))
  f224 := Tryz.func96.trans (congrArg some (by kernel_rfl))
  f225 := Tryz.func95.trans (congrArg some (by kernel_rfl))
  f260 := Tryz.func116.trans (congrArg some (by kernel_rfl))
  f266 := Tryz.func114.trans (congrArg some (by kernel_rfl))
  f267 := Tryz.func97.trans (congrArg some (by kernel_rfl))
  f268 := Tryz.func70.trans (congrArg some (by kernel_rfl))
  f314 := Tryz.func115.trans (congrArg some (by kernel_rfl))
  t0 := Tryz.underlying0
  a0 := Tryz.isAgg0
  z0 := Tryz.sizeOf0
  v0 := Tryz.zeroValue0
  t3 := Tryz.underlying3
  a3 := Tryz.isAgg3
  z3 := Tryz.sizeOf3
  v3 := Tryz.zeroValue3
  t4 := Tryz.underlying4
  a4 := Tryz.isAgg4
  z4 := Tryz.sizeOf4
  v4 := Tryz.zeroValue4
  t5 := Tryz.underlying5
  a5 := Tryz.isAgg5
  z5 := Tryz.sizeOf5
  v5 := Tryz.zeroValue5
  t9 := Tryz.underlying9
  a9 := Tryz.isAgg9
  z9 := Tryz.sizeOf9
  v9 := Tryz.zeroValue9
  t21 := Tryz.underlying21
  a21 := Tryz.isAgg21
  z21 := Tryz.sizeOf21
  v21 := Tryz.zeroValue21
  t31 := Tryz.underlying37
  a31 := Tryz.isAgg37
  z31 := Tryz.sizeOf37
  v31 := Tryz.zeroValue37
  t46 := Tryz.underlying129
  a46 := Tryz.isAgg129
  z46 := Tryz.sizeOf129
  v46 := Tryz.zeroValue129
  t51 := Tryz.underlying143
  a51 := Tryz.isAgg143
  z51 := Tryz.sizeOf143
  v51 := Tryz.zeroValue143
  t105 := Tryz.underlying131
  a105 := Tryz.isAgg131
  z105 := Tryz.sizeOf131
  v105 := Tryz.zeroValue131
  t119 := Tryz.underlying156
  a119 := Tryz.isAgg156
  z119 := Tryz.sizeOf156
  t138 := Tryz.underlying158
  a138 := Tryz.isAgg158
  z138 := Tryz.sizeOf158
  v138 := Tryz.zeroValue158
  t139 := Tryz.underlying159
  a139 := Tryz.isAgg159
  z139 := Tryz.sizeOf159
  v139 := Tryz.zeroValue159
  t146 := Tryz.underlying144
  a146 := Tryz.isAgg144
  z146 := Tryz.sizeOf144
  v146 := Tryz.zeroValue144
  g1 := by kernel_rfl
  g3 := by kernel_rfl
  g4 := by kernel_rfl
  i0 := by kernel_rfl
  i3 := by kernel_rfl
  i4 := by kernel_rfl
  i5 := by kernel_rfl
  i9 := by kernel_rfl
  i21 := by kernel_rfl
  i31 := by kernel_rfl
  i46 := by kernel_rfl
  i51 := by kernel_rfl
  i105 := by kernel_rfl
  i138 := by kernel_rfl
  i139 := by kernel_rfl
  i146 := by kernel_rfl
  m1 := by kernel_rfl
  s1_3 := fun w h => Go.Proofs.cell_of_shapedOpen_int (zero := #[.int .i64 0]) (t := 3) h (of_decide_eq_true (by kernel_rfl)) (by kernel_rfl) rfl (by kernel_rfl) (by kernel_rfl) Tryz.underlying3
  m3 := by kernel_rfl
  m4 := by kernel_rfl }


def layPI_ren : Go.Shelf.Ren := ⟨fun | 174 => 80 | 247 => 104 | 245 => 105 | 287 => 117 | 279 => 118 | 280 => 119 | 281 => 120 | 282 => 121 | 321 => 129 | 322 => 130 | 316 => 131 | 171 => 30 | 205 => 132 | 243 => 59 | 246 => 90 | 283 => 110 | 284 => 111 | 285 => 112 | 286 => 113 | 129 => 125 | 317 => 124 | 318 => 126 | 319 => 127 | 320 => 128 | 337 => 133 | 338 => 134 | n => n, fun | 9 => 9 | 3 => 3 | 2 => 2 | 75 => 70 | 85 => 113 | 4 => 4 | 167 => 146 | 5 => 5 | 53 => 138 | 175 => 147 | 46 => 129 | 168 => 149 | 37 => 64 | 0 => 0 | 210 => 163 | 21 => 21 | 127 => 102 | 145 => 168 | 143 => 166 | 171 => 137 | 173 => 141 | 212 => 153 | 51 => 143 | 20 => 20 | 213 => 154 | 232 => 169 | 233 => 170 | 80 => 77 | n => n, fun | 15 => 4 | 16 => 5 | 17 => 1 | 18 => 6 | 19 => 7 | n => n⟩
theorem layPI : Go.Proofs.LaysC.n174 Tryz.prog layPI_ren := {
  mixed := by kernel_rfl
  f129 := Tryz.func125.trans (congrArg some (by kernel_rfl))
  f171 := Tryz.func30.trans (congrArg some (by kernel_rfl))
  f174 := Tryz.func80.trans (congrArg some (by kernel_rfl))
  f205 := Tryz.func132.trans (congrArg some (by kernel_rfl))
  f243 := Tryz.func59.trans (congrArg some (by kernel_rfl))
  f245 := Tryz.func105.trans (congrArg some (by kernel_rfl))
  f246 := Tryz.func90.trans (congrArg some (by kernel_rfl))
  f247 := Tryz.func104.trans (congrArg some (by kernel_rfl))
  f279 := Tryz.func118.trans (congrArg some (by kernel_rfl))
  f280 := Tryz.func119.trans (congrArg some (by kernel_rfl))
  f281 := Tryz.func120.trans (congrArg some (by kernel_rfl))
  f282 := Tryz.func121.trans (congrArg some (by kernel_rfl))
  f283 := Tryz.func110.trans (congrArg some (by kernel_rfl))
  f284 := Tryz.func111.trans (congrArg some (by kernel_rfl))
  f285 := Tryz.func112.trans (congrArg some (by kernel_rfl))
  f286 := Tryz.func113.trans (congrArg some (by kernel_rfl))
  f287 := Tryz.func117.trans (congrArg some (by kernel_rfl))
  f316 := Tryz.func131.trans (congrArg some (by kernel_rfl))
  f317 := Tryz.func124.trans (congrArg some (by kernel_rfl))
  f318 := Tryz.func126.trans (congrArg some (by kernel_rfl))
  f319 := Tryz.func127.trans (congrArg some (by kernel_rfl))
  f320 := Tryz.func128.trans (congrArg some (by kernel_rfl))
  f321 := Tryz.func129.trans (congrArg some (by kernel_rfl))
  f322 := Tryz.func130.trans (congrArg some (by kernel_rfl))
  f337 := Tryz.func133.trans (congrArg some (by kernel_rfl))
  f338 := Tryz.func134.trans (congrArg some (by kernel_rfl))
  t0 := Tryz.underlying0
  a0 := Tryz.isAgg0
  z0 := Tryz.sizeOf0
  v0 := Tryz.zeroValue0
  t2 := Tryz.underlying2
  a2 := Tryz.isAgg2
  z2 := Tryz.sizeOf2
  v2 := Tryz.zeroValue2
  t3 := Tryz.underlying3
  a3 := Tryz.isAgg3
  z3 := Tryz.sizeOf3
  v3 := Tryz.zeroValue3
  t4 := Tryz.underlying4
  a4 := Tryz.isAgg4
  z4 := Tryz.sizeOf4
  v4 := Tryz.zeroValue4
  t5 := Tryz.underlying5
  a5 := Tryz.isAgg5
  z5 := Tryz.sizeOf5
  v5 := Tryz.zeroValue5
  t9 := Tryz.underlying9
  a9 := Tryz.isAgg9
  z9 := Tryz.sizeOf9
  v9 := Tryz.zeroValue9
  t20 := Tryz.underlying20
  a20 := Tryz.isAgg20
  z20 := Tryz.sizeOf20
  v20 := Tryz.zeroValue20
  t21 := Tryz.underlying21
  a21 := Tryz.isAgg21
  z21 := Tryz.sizeOf21
  v21 := Tryz.zeroValue21
  t37 := Tryz.underlying64
  a37 := Tryz.isAgg64
  z37 := Tryz.sizeOf64
  v37 := Tryz.zeroValue64
  t46 := Tryz.underlying129
  a46 := Tryz.isAgg129
  z46 := Tryz.sizeOf129
  v46 := Tryz.zeroValue129
  t51 := Tryz.underlying143
  a51 := Tryz.isAgg143
  z51 := Tryz.sizeOf143
  v51 := Tryz.zeroValue143
  t53 := Tryz.underlying138
  a53 := Tryz.isAgg138
  z53 := Tryz.sizeOf138
  v53 := Tryz.zeroValue138
  t75 := Tryz.underlying70
  a75 := Tryz.isAgg70
  z75 := Tryz.sizeOf70
  v75 := Tryz.zeroValue70
  t85 := Tryz.underlying113
  a85 := Tryz.isAgg113
  z85 := Tryz.sizeOf113
  v85 := Tryz.zeroValue113
  t127 := Tryz.underlying102
  a127 := Tryz.isAgg102
  z127 := Tryz.sizeOf102
  v127 := Tryz.zeroValue102
  t143 := Tryz.underlying166
  a143 := Tryz.isAgg166
  z143 := Tryz.sizeOf166
  v143 := Tryz.zeroValue166
  t145 := Tryz.underlying168
  a145 := Tryz.isAgg168
  z145 := Tryz.sizeOf168
  v145 := Tryz.zeroValue168
  t167 := Tryz.underlying146
  a167 := Tryz.isAgg146
  z167 := Tryz.sizeOf146
  v167 := Tryz.zeroValue146
  t168 := Tryz.underlying149
  a168 := Tryz.isAgg149
  z168 := Tryz.sizeOf149
  v168 := Tryz.zeroValue149
  t171 := Tryz.underlying137
  a171 := Tryz.isAgg137
  z171 := Tryz.sizeOf137
  v171 := Tryz.zeroValue137
  t173 := Tryz.underlying141
  a173 := Tryz.isAgg141
  z173 := Tryz.sizeOf141
  v173 := Tryz.zeroValue141
  t175 := Tryz.underlying147
  a175 := Tryz.isAgg147
  z175 := Tryz.sizeOf147
  v175 := Tryz.zeroValue147
  t210 := Tryz.underlying163
  a210 := Tryz.isAgg163
  z210 := Tryz.sizeOf163
  v210 := Tryz.zeroValue163
  t212 := Tryz.underlying153
  a212 := Tryz.isAgg153
  z212 := Tryz.sizeOf153
  v212 := Tryz.zeroValue153
  t213 := Tryz.underlying154
  a213 := Tryz.isAgg154
  z213 := Tryz.sizeOf154
  t232 := Tryz.underlying169
  a232 := Tryz.isAgg169
  z232 := Tryz.sizeOf169
  v232 := Tryz.zeroValue169
  t233 := Tryz.underlying170
  a233 := Tryz.isAgg170
  z233 := Tryz.sizeOf170
  v233 := Tryz.zeroValue170
  g15 := by kernel_rfl
  g16 := by kernel_rfl
  g17 := by kernel_rfl
  g18 := by kernel_rfl
  g19 := by kernel_rfl
  t80 := Tryz.underlying77
  a80 := Tryz.isAgg77
  z80 := Tryz.sizeOf77
  v80 := Tryz.zeroValue77
  i0 := by kernel_rfl
  i2 := by kernel_rfl
  i3 := by kernel_rfl
  i4 := by kernel_rfl
  i5 := by kernel_rfl
  i9 := by kernel_rfl
  i20 := by kernel_rfl
  i21 := by kernel_rfl
  i37 := by kernel_rfl
  i46 := by kernel_rfl
  i51 := by kernel_rfl
  i53 := by kernel_rfl
  i75 := by kernel_rfl
  i80 := by kernel_rfl
  i85 := by kernel_rfl
  i127 := by kernel_rfl
  i143 := by kernel_rfl
  i145 := by kernel_rfl
  i167 := by kernel_rfl
  i168 := by kernel_rfl
  i171 := by kernel_rfl
  i173 := by kernel_rfl
  i175 := by kernel_rfl
  i210 := by kernel_rfl
  i212 := by kernel_rfl
  i232 := by kernel_rfl
  i233 := by kernel_rfl
  m15 := by kernel_rfl
  m16 := by kernel_rfl
  m17 := by kernel_rfl
  m18 := by kernel_rfl
  m19 := by kernel_rfl
  c0 := by kernel_rfl
  c2 := by kernel_rfl
  c3 := by kernel_rfl
  c4 := by kernel_rfl
  c5 := by kernel_rfl
  c9 := by kernel_rfl
  c20 := by kernel_rfl
  c21 := by kernel_rfl
  c37 := by kernel_rfl
  c46 := by kernel_rfl
  c51 := by kernel_rfl
  c53 := by kernel_rfl
  c75 := by kernel_rfl
  c80 := by kernel_rfl
  c85 := by kernel_rfl
  c127 := by kernel_rfl
  c143 := by kernel_rfl
  c145 := by kernel_rfl
  c167 := by kernel_rfl
  c168 := by kernel_rfl
  c171 := by kernel_rfl
  c173 := by kernel_rfl
  c175 := by kernel_rfl
  c210 := by kernel_rfl
  c212 := by kernel_rfl
  c213 := by kernel_rfl
  c232 := by kernel_rfl
  c233 := by kernel_rfl }


end
/-- what the packages' variables hold -/
structure TabP (w : World) : Prop where
  tab : TabT w
  max : ∃ m, w.cell? ⟨0, 0, none⟩ = some (.int .i64 m)
  syn : ∃ t p, w.var? Tryz.prog "strconv.ErrSyntax" = some #[.iface t p]
  ran : ∃ t p, w.var? Tryz.prog "strconv.ErrRange" = some #[.iface t p]
def TabM (b : Nat) : Prop := b = 1 ∨ b = 0 ∨ b = 4 ∨ b = 5
theorem g_syn : Tryz.prog.globalNamed "strconv.ErrSyntax" = some 4 := by kernel_rfl
theorem g_ran : Tryz.prog.globalNamed "strconv.ErrRange" = some 5 := by kernel_rfl
theorem var_at {P : Program} {w w' : World} {n : String} {g : Nat} {x : Option (Array Value)} (hg : P.globalNamed n = some g) (h : w'.heap[g]? = w.heap[g]?) (hv : w.var? P n = x) : w'.var? P n = x := by
  unfold World.var? at hv ⊢
  rw [hg] at hv ⊢
  simp only [Option.bind_some] at hv ⊢
  rw [h]; exact hv
theorem var_lt {P : Program} {w : World} {n : String} {g : Nat} {x : Array Value} (hg : P.globalNamed n = some g) (hv : w.var? P n = some x) : g < w.heap.size := by
  unfold World.var? at hv
  rw [hg] at hv
  simp only [Option.bind_some] at hv
  rcases Nat.lt_or_ge g w.heap.size with h1 | h1
  · exact h1
  · rw [Array.getElem?_eq_none h1] at hv; cases hv
theorem tabP_tb {w : World} (h : TabP w) : TB TabP TabM w := by
  intro w' hw
  refine ⟨var_at g_pow (hw _ (.inl rfl)) h.tab, ?_, ?_, ?_⟩
  · obtain ⟨m, hm⟩ := h.max
    exact ⟨m, (World.cell?_of_block (a := ⟨0, 0, none⟩) (hw _ (.inr (.inl rfl)))).trans hm⟩
  · obtain ⟨t, p, hv⟩ := h.syn
    exact ⟨t, p, var_at g_syn (hw _ (.inr (.inr (.inl rfl)))) hv⟩
  · obtain ⟨t, p, hv⟩ := h.ran
    exact ⟨t, p, var_at g_ran (hw _ (.inr (.inr (.inr rfl)))) hv⟩
theorem tabP_lt {w : World} (h : TabP w) : ∀ b, TabM b → b < w.heap.size := by
  rintro b (rfl | rfl | rfl | rfl)
  · exact var_lt g_pow h.tab
  · obtain ⟨m, hm⟩ := h.max; exact cell_lt hm
  · obtain ⟨t, p, hv⟩ := h.syn; exact var_lt g_syn hv
  · obtain ⟨t, p, hv⟩ := h.ran; exact var_lt g_ran hv
section
variable {P : Program} {T T' : World → Prop} {f : FuncId} {args : List AV} {r : AV}
theorem ACT.weak {σ σ' : Store} (h : ACT P T f args σ r σ') (hT : ∀ w, T' w → T w) : ACT P T' f args σ r σ' := ⟨h.ok, fun w M μ vs hb => h.out w M μ vs fun w' hw => hT _ (hb w' hw)⟩
theorem PCT.weak (h : PCT P T f args r) (hT : ∀ w, T' w → T w) : PCT P T' f args r := ⟨h.ac.weak hT⟩
theorem pct_gen {xs : List Value} (ok : CallOK P f) (h : ∀ w, T w → Calls P f xs.toArray w fun e w' => ∃ y, e = .returned y ∧ Below w.heap.size w w' ∧ ∀ (μ : Nat → Value) (A : Nat → Prop), (∀ b, A b → b < w.heap.size) → rep [] μ w' A r y) : PCT P T f (xs.map .v) r := by
  refine ⟨ok, fun w M μ vs hTB hsr hrep => ?_⟩
  have key : ∀ (xs vs : List Value), repL [] μ w (av [] μ M) (xs.map .v) vs → vs = xs := by
    intro xs
    induction xs with
    | nil => intro vs h; simpa only [List.map_nil, repL] using h
    | cons x xs ih =>
      intro vs h
      simp only [List.map_cons, repL, rep] at h
      obtain ⟨u, us', rfl, ⟨rfl, _⟩, h2⟩ := h
      rw [ih us' h2]
  rw [key xs vs hrep]
  refine (h w hTB.here).mono ?_
  rintro e w' ⟨y, rfl, hb, hr⟩
  refine ⟨y, μ, rfl, ⟨fun _ _ h => by simp [find] at h, fun _ _ _ _ _ h => by simp [find] at h, fun b hb' => Nat.lt_of_lt_of_le (hsr.lt b hb') hb.size, fun _ _ _ h => by simp [find] at h⟩, hr μ _ (fun b hb' => ?_), ⟨hb.os, hb.tape, hb.output, hb.size, fun b hl _ => hb.block b hl, fun _ _ _ h => by simp [find] at h, fun _ _ _ h => by simp [find] at h, fun _ _ _ _ h => by simp [find] at h, fun _ _ h => by simp [find] at h, fun _ h => by simp [find] at h⟩⟩
  rcases hb' with hb' | ⟨_, _, h, _⟩
  · exact hsr.lt b hb'
  · simp [find] at h
end
theorem f_tab : ∀ w, TabP w → TabT w := fun _ h => h.tab
/-! strings.Cut -/
def cutA (s sep : ByteArray) : ByteArray := ⟨(Lib.cut s.data.toList sep.data.toList).1.toArray⟩
def cutB (s sep : ByteArray) : ByteArray := ⟨(Lib.cut s.data.toList sep.data.toList).2.1.toArray⟩
def cutC (s sep : ByteArray) : Bool := (Lib.cut s.data.toList sep.data.toList).2.2
theorem ok_Cut : CallOK Tryz.prog 13 := ⟨_, Tryz.func13, by kernel_rfl, rfl⟩
theorem p_Cut (s sep : ByteArray) (hs : s.size < 4294967281) : PCT Tryz.prog TabP 13 [.v (.string s), .v (.string sep)] (.tup [.v (.string (cutA s sep)), .v (.string (cutB s sep)), .v (.bool (cutC s sep))]) :=
  pct_gen (xs := [.string s, .string sep]) ok_Cut fun w hT => by
    obtain ⟨m, hm⟩ := hT.max
    refine (Any.strings_Cut { layCut with } s sep m w hs hm).mono ?_
    rintro e w' ⟨rfl, n, rfl⟩
    exact ⟨_, rfl, ⟨rfl, rfl, rfl, Nat.le_refl _, fun _ _ => rfl⟩, fun μ A _ => ⟨[_, _, _], rfl, _, _, rfl, ⟨rfl, rfl⟩, _, _, rfl, ⟨rfl, rfl⟩, _, _, rfl, ⟨rfl, rfl⟩, rfl⟩⟩
/-! strings.Split -/
def spl (s sep : ByteArray) : List ByteArray := Lib.splitB sep 0 (Lib.countB s sep) s
theorem ok_Split : CallOK Tryz.prog 14 := ⟨_, Tryz.func14, by kernel_rfl, rfl⟩
theorem spl_len (s sep : ByteArray) (h1 : 1 ≤ sep.size) : (spl s sep).length = Lib.countB s sep + 1 := Lib.splitB_all sep h1 0 _ s rfl
theorem st_repLL {μ : Nat → Value} {w : World} {A : Nat → Prop} : ∀ l : List ByteArray, repLL [] μ w A 1 (l.map stAv) (l.map Value.string)
  | [] => rfl
  | b :: l => ⟨[_], _, rfl, rfl, ⟨_, _, rfl, rfl, ⟨rfl, rfl⟩, rfl⟩, st_repLL l⟩
theorem p_Split (s sep : ByteArray) (hs : s.size < 4294967281) (h1 : 1 ≤ sep.size) (hc : Lib.countB s sep + 1 ≤ 9223372036854775807) : PCT Tryz.prog TabP 14 [.v (.string s), .v (.string sep)] (.sl 1 ((spl s sep).map stAv)) :=
  pct_gen (xs := [.string s, .string sep]) ok_Split fun w hT => by
    obtain ⟨m, hm⟩ := hT.max
    refine (Any.strings_Split { laySplit with } laySplit.i9 s sep m w hs hm h1).mono ?_
    rintro e w' ⟨rfl, rfl⟩
    have hl := spl_len s sep h1
    refine ⟨_, rfl, below_alloc _ _, fun μ A hA => ⟨some ⟨w.heap.size, 0, none⟩, Lib.countB s sep + 1, (spl s sep).map Value.string, by rw [List.length_map, hl], by rw [List.length_map, hl]; exact Nat.le_refl _, by simpa [maxLen] using hc, .inr ⟨_, 0, rfl, fun h => Nat.lt_irrefl _ (hA _ h), by simp, fun j u hu => ?_⟩, st_repLL _⟩⟩
    have := (Blk.new w (laySplit_ren.t 9) ((spl s sep).map Value.string).toArray).cell (0 + j)
    rw [Nat.zero_add] at this ⊢
    refine this.trans ?_
    rw [← Array.getElem?_toList]; exact hu
/-! strconv.ParseInt -/
def numV (s : ByteArray) : Int := match Lib.parseIntB 64 s.data.toList with
  | .ok v => v
  | .range => Lib.intSat 64 s.data.toList
  | _ => 0
def numE (s : ByteArray) : AV := match Lib.parseIntB 64 s.data.toList with
  | .ok _ => .v .nilIface
  | _ => .ife
theorem ok_PI : CallOK Tryz.prog 80 := ⟨_, Tryz.func80, by kernel_rfl, rfl⟩
theorem p_PI (s : ByteArray) (hs : s.size ≤ 281474976710656) : PCT Tryz.prog TabP 80 [.v (.string s), .v (.int .i64 10), .v (.int .i64 64)] (.tup [.v (.int .i64 (numV s)), numE s]) :=
  pct_gen (xs := [.string s, .int .i64 10, .int .i64 64]) ok_PI fun w hT => by
    cases h : Lib.parseIntB 64 s.data.toList with
    | ok v =>
      refine (Any.strconv_ParseInt_10_at64_ok layPI s (by omega) v h w).mono ?_
      rintro e w' ⟨rfl, hw⟩
      refine ⟨_, rfl, ?_, fun μ A _ => ?_⟩
      · rcases hw with rfl | ⟨t, rfl⟩
        · exact Below.refl _ _
        · exact Lib.bytesWorld_below _ _ _
      · unfold numV numE
        rw [h]
        exact ⟨[_, _], rfl, _, _, rfl, ⟨rfl, rfl⟩, _, _, rfl, ⟨rfl, rfl⟩, rfl⟩
    | range =>
      obtain ⟨t, p, hv⟩ := hT.ran
      refine (Any.strconv_ParseInt_10_at64_range_var layPI s hs h t p w hv).mono ?_
      rintro e w' ⟨N, rfl, _, _, hb⟩
      refine ⟨_, rfl, hb, fun μ A _ => ?_⟩
      unfold numV numE
      rw [h]
      exact ⟨[_, _], rfl, _, _, rfl, ⟨rfl, rfl⟩, _, _, rfl, ⟨_, _, rfl⟩, rfl⟩
    | _ =>
      obtain ⟨t, p, hv⟩ := hT.syn
      refine (Any.strconv_ParseInt_10_at64_syntax_var layPI s hs h t p w hv).mono ?_
      rintro e w' ⟨N, rfl, _, _, hb⟩
      refine ⟨_, rfl, hb, fun μ A _ => ?_⟩
      unfold numV numE
      rw [h]
      exact ⟨[_, _], rfl, _, _, rfl, ⟨rfl, rfl⟩, _, _, rfl, ⟨_, _, rfl⟩, rfl⟩
end Go.Proofs.YtbhblhcgfenobaaGreatDoor
namespace Go.Proofs.YtbhblhcgfenobaaGreatDoor
open Go.RowKit
set_option linter.unusedSimpArgs false
set_option linter.unusedVariables false
section
variable {P : Program} {Γ : Ctx} {s : ASt} {dst : Option Tmp} {ty yt : TypeId} {pos : String} {after : Array Edge}
theorem run_eqNN {t : TypeId} {ms : Array (String × TypeId)} (hu : P.underlying t = some (.interface ms)) (w : World) : (Op.equal t .nilIface .nilIface).run P w = .ok true w := by
  unfold Op.equal Op.maxDepth
  unfold Op.equalIn
  simp [run_underlying hu]
theorem run_eqIN {t : TypeId} {ms : Array (String × TypeId)} (hu : P.underlying t = some (.interface ms)) (a : TypeId) (z : Value) (w : World) : (Op.equal t (.iface a z) .nilIface).run P w = .ok false w := by
  unfold Op.equal Op.maxDepth
  unfold Op.equalIn
  simp [run_underlying hu]
theorem ls_eqNN {t : TypeId} {ms : Array (String × TypeId)} (hu : P.underlying t = some (.interface ms)) {x : Operand} (hx : ev s x = some (.v .nilIface)) (hd : okDst Γ.n dst = true) : LS P Γ ⟨dst, .binOp .eql t x (.const .nilIface) yt, ty, pos, after, none⟩ s (rd x (rd (.const .nilIface) [])) (dst1 dst (.v (.bool true))) [] :=
  ls_pure hd fun t' ht μ a w hr => by
    obtain ⟨e1, ht⟩ := ht.ev hx
    have e1 := hr.ev e1
    simp only [rep] at e1 ⊢
    refine ⟨.bool true, ?_, rfl, rfl⟩
    have he : a.eval (.const .nilIface) = .nilIface := rfl
    simp [execOp, e1.1, he, eqGuard, binOp, run_eqNN hu w]
theorem ls_eqIN {t : TypeId} {ms : Array (String × TypeId)} (hu : P.underlying t = some (.interface ms)) {x y : Operand} (hx : ev s x = some .ife) (hy : ev s y = some (.v .nilIface)) (hd : okDst Γ.n dst = true) : LS P Γ ⟨dst, .binOp .eql t x y yt, ty, pos, after, none⟩ s (rd x (rd y [])) (dst1 dst (.v (.bool false))) [] :=
  ls_pure hd fun t' ht μ a w hr => by
    obtain ⟨e1, ht⟩ := ht.ev hx
    obtain ⟨e2, ht⟩ := ht.ev hy
    have e1 := hr.ev e1
    have e2 := hr.ev e2
    simp only [rep] at e1 e2 ⊢
    obtain ⟨t1, z, e1⟩ := e1
    refine ⟨.bool false, ?_, rfl, rfl⟩
    simp [execOp, e1, e2.1, eqGuard, binOp, run_eqIN hu t1 z w]
end
def numB (s : ByteArray) : Bool := match Lib.parseIntB 64 s.data.toList with
  | .ok v => decide (v ≥ 0) && ((itoB v).toList == s.toList)
  | _ => false
set_option maxHeartbeats 2000000 in
theorem p_number (s : ByteArray) (hs : s.size ≤ 281474976710656) : PCT Tryz.prog TabP 101 [.v (.string s)] (.tup [.v (.int .i64 (numV s)), .v (.bool (numB s))]) := by
  have hP := p_PI s hs
  have hu := Tryz.underlying70
  cases h : Lib.parseIntB 64 s.data.toList with
  | ok v =>
    have hb := Lib.parseIntB_bounds h
    have hF := (p_Format v (by omega) (by omega)).weak f_tab
    have e1 : numV s = v := by unfold numV; rw [h]
    have e2 : numB s = (decide (v ≥ 0) && ((itoB v).toList == s.toList)) := by unfold numB; rw [h]
    have e3 : numE s = .v .nilIface := by unfold numE; rw [h]
    rw [e1, e3] at hP
    rw [e1, e2]
    generalize itoB v = x at *
    by_cases h0 : v ≥ 0
    · rw [decide_eq_true h0, Bool.true_and]
      cases hq : (x.toList == s.toList)
      all_goals
        refine PCT.mk (act_body tab_ok Tryz.func101 rfl (by kernel_rfl) rfl ?_); intro w0 M μ0 hG; simp only [Tryz.ntmps101, List.length_cons, List.length_nil, Nat.reduceAdd, Nat.reduceSub, numb] at hG ⊢
        repeat' (first | ((first | apply o_do | apply d_do | apply d_yes rfl rfl rfl); first | focus (apply ls_callT hG hP rfl rfl _ rfl rfl; (repeat' (first | exact NilL.nil | refine NilL.cons Nil.same ?_ | refine NilL.cons Nil.nil ?_ | refine NilL.cons (Nil.agg ?_) ?_ | exact Nil1s.nil | refine Nil1s.cons Nil1.same ?_ | refine Nil1s.cons Nil1.nil ?_)); done) | focus (apply ls_callT hG hF rfl rfl _ rfl rfl; (repeat' (first | exact NilL.nil | refine NilL.cons Nil.same ?_ | refine NilL.cons Nil.nil ?_ | refine NilL.cons (Nil.agg ?_) ?_ | exact Nil1s.nil | refine Nil1s.cons Nil1.same ?_ | refine Nil1s.cons Nil1.nil ?_)); done) | exact ls_eqNN hu rfl rfl | exact lsq) | refine a_seq ?_ | refine a_region ?_ | refine o_nil ?_ | refine a_block ?_ | refine a_ret ?_ | refine a_exit ?_ | refine a_skip ?_ | refine a_draw mixed ?_ | refine d_nil (by kernel_rfl) ?_ | refine o_yes rfl rfl rfl ?_ | refine o_no rfl rfl rfl (by decide) ?_ | refine o_no' rfl rfl rfl ?_ | refine a_condT rfl ?_ | refine a_condF rfl ?_ | refine d_no rfl rfl rfl (by decide) ?_ | refine d_no' rfl rfl rfl ?_ | (refine wq2 (fun hb => ?_) (fun hb => ?_) <;> (simp only [hb]; try simp only [hbs, ne_eq] at hb; try (exfalso; first | omega | exact hb trivial))) | fail)
        all_goals refine rq rfl ?_
        all_goals (first | refine FinA.tup ?_ | refine FinA.one ?_); repeat' (first | exact FinBs.nil | exact FinCs.nil | refine FinBs.cons ?_ ?_ | refine FinCs.cons ?_ ?_ | refine FinB.cell (FinC.v ?_) | refine FinB.cell (FinC.own rfl rfl rfl ?_) | exact FinB.cell FinC.nil | refine FinB.cell (FinC.sl ?_) | exact FinB.agg' rfl rfl | exact FinB.cell (FinC.same rfl) | refine FinB.agg ?_ | refine FinC.v ?_ | refine FinC.own rfl rfl rfl ?_ | exact FinC.nil | refine FinC.sl ?_ | exact FinC.same rfl); all_goals try rfl
        all_goals simp [hq]
    · rw [decide_eq_false h0, Bool.false_and]
      refine PCT.mk (act_body tab_ok Tryz.func101 rfl (by kernel_rfl) rfl ?_); intro w0 M μ0 hG; simp only [Tryz.ntmps101, List.length_cons, List.length_nil, Nat.reduceAdd, Nat.reduceSub, numb] at hG ⊢
      repeat' (first | ((first | apply o_do | apply d_do | apply d_yes rfl rfl rfl); first | focus (apply ls_callT hG hP rfl rfl _ rfl rfl; (repeat' (first | exact NilL.nil | refine NilL.cons Nil.same ?_ | refine NilL.cons Nil.nil ?_ | refine NilL.cons (Nil.agg ?_) ?_ | exact Nil1s.nil | refine Nil1s.cons Nil1.same ?_ | refine Nil1s.cons Nil1.nil ?_)); done) | focus (apply ls_callT hG hF rfl rfl _ rfl rfl; (repeat' (first | exact NilL.nil | refine NilL.cons Nil.same ?_ | refine NilL.cons Nil.nil ?_ | refine NilL.cons (Nil.agg ?_) ?_ | exact Nil1s.nil | refine Nil1s.cons Nil1.same ?_ | refine Nil1s.cons Nil1.nil ?_)); done) | exact ls_eqNN hu rfl rfl | exact lsq) | refine a_seq ?_ | refine a_region ?_ | refine o_nil ?_ | refine a_block ?_ | refine a_ret ?_ | refine a_exit ?_ | refine a_skip ?_ | refine a_draw mixed ?_ | refine d_nil (by kernel_rfl) ?_ | refine o_yes rfl rfl rfl ?_ | refine o_no rfl rfl rfl (by decide) ?_ | refine o_no' rfl rfl rfl ?_ | refine a_condT rfl ?_ | refine a_condF rfl ?_ | refine d_no rfl rfl rfl (by decide) ?_ | refine d_no' rfl rfl rfl ?_ | (refine wq2 (fun hb => ?_) (fun hb => ?_) <;> (simp only [hb]; try simp only [hbs, ne_eq] at hb; try (exfalso; first | omega | exact hb trivial))) | fail)
      all_goals refine rq rfl ?_
      all_goals exact fnq
  | range =>
    have e2 : numB s = false := by unfold numB; rw [h]
    have e3 : numE s = .ife := by unfold numE; rw [h]
    rw [e3] at hP
    rw [e2]
    generalize numV s = v at *
    refine PCT.mk (act_body tab_ok Tryz.func101 rfl (by kernel_rfl) rfl ?_); intro w0 M μ0 hG; simp only [Tryz.ntmps101, List.length_cons, List.length_nil, Nat.reduceAdd, Nat.reduceSub, numb] at hG ⊢
    repeat' (first | ((first | apply o_do | apply d_do | apply d_yes rfl rfl rfl); first | focus (apply ls_callT hG hP rfl rfl _ rfl rfl; (repeat' (first | exact NilL.nil | refine NilL.cons Nil.same ?_ | refine NilL.cons Nil.nil ?_ | refine NilL.cons (Nil.agg ?_) ?_ | exact Nil1s.nil | refine Nil1s.cons Nil1.same ?_ | refine Nil1s.cons Nil1.nil ?_)); done) | exact ls_eqIN hu rfl rfl rfl | exact lsq) | refine a_seq ?_ | refine a_region ?_ | refine o_nil ?_ | refine a_block ?_ | refine a_ret ?_ | refine a_exit ?_ | refine a_skip ?_ | refine a_draw mixed ?_ | refine d_nil (by kernel_rfl) ?_ | refine o_yes rfl rfl rfl ?_ | refine o_no rfl rfl rfl (by decide) ?_ | refine o_no' rfl rfl rfl ?_ | refine a_condT rfl ?_ | refine a_condF rfl ?_ | refine d_no rfl rfl rfl (by decide) ?_ | refine d_no' rfl rfl rfl ?_ | (refine wq2 (fun hb => ?_) (fun hb => ?_) <;> (simp only [hb]; try simp only [hbs, ne_eq] at hb; try (exfalso; first | omega | exact hb trivial))) | fail)
    refine rq rfl ?_
    exact fnq
  | _ =>
    have e1 : numV s = 0 := by unfold numV; rw [h]
    have e2 : numB s = false := by unfold numB; rw [h]
    have e3 : numE s = .ife := by unfold numE; rw [h]
    rw [e1, e3] at hP
    rw [e1, e2]
    refine PCT.mk (act_body tab_ok Tryz.func101 rfl (by kernel_rfl) rfl ?_); intro w0 M μ0 hG; simp only [Tryz.ntmps101, List.length_cons, List.length_nil, Nat.reduceAdd, Nat.reduceSub, numb] at hG ⊢
    repeat' (first | ((first | apply o_do | apply d_do | apply d_yes rfl rfl rfl); first | focus (apply ls_callT hG hP rfl rfl _ rfl rfl; (repeat' (first | exact NilL.nil | refine NilL.cons Nil.same ?_ | refine NilL.cons Nil.nil ?_ | refine NilL.cons (Nil.agg ?_) ?_ | exact Nil1s.nil | refine Nil1s.cons Nil1.same ?_ | refine Nil1s.cons Nil1.nil ?_)); done) | exact ls_eqIN hu rfl rfl rfl | exact lsq) | refine a_seq ?_ | refine a_region ?_ | refine o_nil ?_ | refine a_block ?_ | refine a_ret ?_ | refine a_exit ?_ | refine a_skip ?_ | refine a_draw mixed ?_ | refine d_nil (by kernel_rfl) ?_ | refine o_yes rfl rfl rfl ?_ | refine o_no rfl rfl rfl (by decide) ?_ | refine o_no' rfl rfl rfl ?_ | refine a_condT rfl ?_ | refine a_condF rfl ?_ | refine d_no rfl rfl rfl (by decide) ?_ | refine d_no' rfl rfl rfl ?_ | (refine wq2 (fun hb => ?_) (fun hb => ?_) <;> (simp only [hb]; try simp only [hbs, ne_eq] at hb; try (exfalso; first | omega | exact hb trivial))) | fail)
    refine rq rfl ?_
    exact fnq
def smallV (n : Int) : Int := min n 1073741824
theorem p_small (n : Int) : PC Tryz.prog 102 [.v (.int .i64 n)] (.v (.int .i64 (smallV n))) := by
  refine PC.mk (ac_body tab_ok Tryz.func102 rfl (by kernel_rfl) rfl ?_); intro w0 M μ0; simp only [Tryz.ntmps102, List.length_cons, List.length_nil, Nat.reduceAdd, Nat.reduceSub, numb]
  repeat' (first | ((first | apply o_do | apply d_do | apply d_yes rfl rfl rfl); exact lsq) | refine a_seq ?_ | refine a_region ?_ | refine o_nil ?_ | refine a_block ?_ | refine a_ret ?_ | refine a_exit ?_ | refine a_skip ?_ | refine a_draw mixed ?_ | refine d_nil (by kernel_rfl) ?_ | refine o_yes rfl rfl rfl ?_ | refine o_no rfl rfl rfl (by decide) ?_ | refine o_no' rfl rfl rfl ?_ | refine a_condT rfl ?_ | refine a_condF rfl ?_ | refine d_no rfl rfl rfl (by decide) ?_ | refine d_no' rfl rfl rfl ?_ | (refine wq2 (fun hb => ?_) (fun hb => ?_) <;> (simp only [hb]; try simp only [hbs, ne_eq] at hb; try (exfalso; first | omega | exact hb trivial))) | fail)
  refine rq rfl ?_
  exact fnq
/-- where a name stands; -1: nowhere -/
def nmIx (x : ByteArray) : Int := match (List.range 5).find? fun q => x.toList == (nmQ q).toList with
  | some q => q
  | none => -1
set_option maxHeartbeats 4000000 in
set_option maxRecDepth 20000 in
theorem p_nmIx (x : ByteArray) : PC Tryz.prog 103 [.sl 1 (nmL.map stAv), .v (.string x)] (.v (.int .i64 (nmIx x))) := by
  have key : (∃ q, q < 5 ∧ (∀ j, j < q → (x.toList == (nmQ j).toList) = false) ∧ (x.toList == (nmQ q).toList) = true ∧ nmIx x = q) ∨ ((∀ j, j < 5 → (x.toList == (nmQ j).toList) = false) ∧ nmIx x = -1) := by
    unfold nmIx
    cases h : (List.range 5).find? fun q => x.toList == (nmQ q).toList with
    | none =>
      right
      refine ⟨fun j hj => ?_, rfl⟩
      have := List.find?_eq_none.1 h j (List.mem_range.2 hj)
      simpa using this
    | some q =>
      left
      have h1 := List.find?_some h
      have h2 := List.mem_range.1 (List.mem_of_find?_eq_some h)
      refine ⟨q, h2, fun j hj => ?_, h1, rfl⟩
      have h3 := List.find?_range_eq_some.1 h
      have := h3.2.2 j hj
      simpa using this
  have hlen : (nmL.map stAv).length = 5 := rfl
  obtain ⟨N, hN, hlo⟩ : ∃ N : Nat, N ≤ 5 ∧ ∀ j, j < N → (x.toList == (nmQ j).toList) = false := by
    rcases key with ⟨q, h1, h2, _⟩ | ⟨h1, _⟩
    · exact ⟨q, by omega, h2⟩
    · exact ⟨5, Nat.le_refl _, h1⟩
  have hcase : (N = 5 ∧ nmIx x = -1) ∨ (N < 5 ∧ (x.toList == (nmQ N).toList) = true ∧ nmIx x = N) ∨ True := .inr (.inr trivial)
  clear hcase hlo hN
  refine PC.mk (ac_body tab_ok Tryz.func103 rfl (by kernel_rfl) rfl ?_); intro w0 M μ0; simp only [Tryz.ntmps103, List.length_cons, List.length_nil, Nat.reduceAdd, Nat.reduceSub, numb]
  repeat' (first | ((first | apply o_do | apply d_do | apply d_yes rfl rfl rfl); exact lsq) | refine a_seq ?_ | refine a_region ?_ | refine o_nil ?_ | refine a_block ?_ | refine a_ret ?_ | refine a_exit ?_ | refine a_skip ?_ | refine a_draw mixed ?_ | refine d_nil (by kernel_rfl) ?_ | refine o_yes rfl rfl rfl ?_ | refine o_no rfl rfl rfl (by decide) ?_ | refine o_no' rfl rfl rfl ?_ | refine a_condT rfl ?_ | refine a_condF rfl ?_ | refine d_no rfl rfl rfl (by decide) ?_ | refine d_no' rfl rfl rfl ?_ | (refine wq2 (fun hb => ?_) (fun hb => ?_) <;> (simp only [hb]; try simp only [hbs, ne_eq] at hb; try (exfalso; first | omega | exact hb trivial))) | fail)
  refine a_loop (X := {q : Nat // q ≤ 5 ∧ ∀ j, j < q → (x.toList == (nmQ j).toList) = false}) (fun p => ⟨[(0, .sl 1 (nmL.map stAv)), (1, .v (.string x)), (7, .v (.int .i64 5)), (8, .v (.int .i64 p.1))], []⟩) (fun p => 5 - p.1) ⟨0, Nat.zero_le _, fun j hj => absurd hj (Nat.not_lt_zero _)⟩ ?_ ?_
  · exact wkS
  rintro ⟨q, hq, hlo⟩
  dsimp only
  by_cases hlt : q < 5
  · have hel := nm_at hlt
    cases hc : (x.toList == (nmQ q).toList)
    · repeat' (first | ((first | apply o_do | apply d_do | apply d_yes rfl rfl rfl); first | exact ls_indexAddr_sl tab_ok rfl rfl rfl rfl (by assumption) rfl | exact lsq) | refine a_seq ?_ | refine a_region ?_ | refine o_nil ?_ | refine a_block ?_ | refine a_ret ?_ | refine a_exit ?_ | refine a_skip ?_ | refine a_draw mixed ?_ | refine d_nil (by kernel_rfl) ?_ | refine o_yes rfl rfl rfl ?_ | refine o_no rfl rfl rfl (by decide) ?_ | refine o_no' rfl rfl rfl ?_ | refine a_condT rfl ?_ | refine a_condF rfl ?_ | refine d_no rfl rfl rfl (by decide) ?_ | refine d_no' rfl rfl rfl ?_ | (refine wq2 (fun hb => ?_) (fun hb => ?_) <;> (simp only [hb]; try simp only [hbs, ne_eq] at hb; try (exfalso; first | omega | exact hb trivial))) | fail)
      all_goals try (exfalso; simp_all; done)
      all_goals refine ⟨⟨q + 1, by omega, fun j hj => ?_⟩, by dsimp only; omega, ?_⟩
      · rcases Nat.lt_or_ge j q with h | h
        · exact hlo j h
        · obtain rfl : j = q := by omega
          exact hc
      · exact wkS
    · have hv : nmIx x = q := by
        rcases key with ⟨q', h1, h2, h3, h4⟩ | ⟨h1, _⟩
        · rcases Nat.lt_trichotomy q q' with h | h | h
          · rw [h2 q h] at hc; cases hc
          · rw [h4, h]
          · rw [hlo q' h] at h3; cases h3
        · rw [h1 q hlt] at hc; cases hc
      rw [hv]
      repeat' (first | ((first | apply o_do | apply d_do | apply d_yes rfl rfl rfl); first | exact ls_indexAddr_sl tab_ok rfl rfl rfl rfl (by assumption) rfl | exact lsq) | refine a_seq ?_ | refine a_region ?_ | refine o_nil ?_ | refine a_block ?_ | refine a_ret ?_ | refine a_exit ?_ | refine a_skip ?_ | refine a_draw mixed ?_ | refine d_nil (by kernel_rfl) ?_ | refine o_yes rfl rfl rfl ?_ | refine o_no rfl rfl rfl (by decide) ?_ | refine o_no' rfl rfl rfl ?_ | refine a_condT rfl ?_ | refine a_condF rfl ?_ | refine d_no rfl rfl rfl (by decide) ?_ | refine d_no' rfl rfl rfl ?_ | (refine wq2 (fun hb => ?_) (fun hb => ?_) <;> (simp only [hb]; try simp only [hbs, ne_eq] at hb; try (exfalso; first | omega | exact hb trivial))) | fail)
      all_goals try (exfalso; simp_all; done)
      all_goals refine rq rfl ?_
      all_goals exact fnq
  · obtain rfl : q = 5 := by omega
    have hv : nmIx x = -1 := by
      rcases key with ⟨q', h1, h2, h3, h4⟩ | ⟨_, h⟩
      · rw [hlo q' h1] at h3; cases h3
      · exact h
    rw [hv]
    repeat' (first | ((first | apply o_do | apply d_do | apply d_yes rfl rfl rfl); exact lsq) | refine a_seq ?_ | refine a_region ?_ | refine o_nil ?_ | refine a_block ?_ | refine a_ret ?_ | refine a_exit ?_ | refine a_skip ?_ | refine a_draw mixed ?_ | refine d_nil (by kernel_rfl) ?_ | refine o_yes rfl rfl rfl ?_ | refine o_no rfl rfl rfl (by decide) ?_ | refine o_no' rfl rfl rfl ?_ | refine a_condT rfl ?_ | refine a_condF rfl ?_ | refine d_no rfl rfl rfl (by decide) ?_ | refine d_no' rfl rfl rfl ?_ | (refine wq2 (fun hb => ?_) (fun hb => ?_) <;> (simp only [hb]; try simp only [hbs, ne_eq] at hb; try (exfalso; first | omega | exact hb trivial))) | fail)
    all_goals refine rq rfl ?_
    all_goals exact fnq
end Go.Proofs.YtbhblhcgfenobaaGreatDoor
