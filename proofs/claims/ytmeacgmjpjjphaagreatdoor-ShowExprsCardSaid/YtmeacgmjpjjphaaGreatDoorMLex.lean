/- A text's tokens: the tree's Tokens. -/
import Derived.Test.YtmeacgmjpjjphaaGreatDoorProg
import Derived.Test.YtmeacgmjpjjphaaGreatDoorMLexP
import Derived.WalkKit
import Derived.WalkLawsBesides
import Derived.WalkSpells
import Derived.Deep.QuietTactic
import Derived.BigQuiet
import Derived.BigRegion
import Derived.RegionTactic
import Derived.Deep.RegionWith
import Derived.Deep.RegionHeld3
import Derived.Deep.AppendLies
import Derived.Deep.RegionLawGrows
import Derived.Deep.LoopGhost
import Derived.Deep.DeepCutAuto
import Derived.Deep.CutBlock
import Derived.Deep.OwnRows
import Derived.StillTailTactics
import Derived.Lib.Hide
import Derived.Shelf.Strings.Builder1
import Derived.Shelf.Strings.Builder2
import Derived.Shelf.Utf8.RuneCount
import Derived.Shelf.Strconv.Itoa0
import Derived.Shelf.Strconv.Itoa1
import Derived.Shelf.LaysM
import Derived.Shelf.Strconv.Itoa2
import Derived.Shelf.Strconv.Itoa3
import Derived.Shelf.Strconv.ParseIntEmpty
import Derived.Shelf.Strconv.Clone
import Derived.Shelf.Strconv.SyntaxError
import Derived.Shelf.LaysC
import Derived.Shelf.Strconv.ToError
import Derived.Shelf.Strconv.Lower
import Derived.Shelf.Strconv.ParseUint10
import Derived.Shelf.Strconv.ParseUint10Empty
import Derived.Shelf.Strconv.ParseUint10Any
import Derived.Shelf.Strconv.ParseInt10
import Derived.Shelf.Strconv.RangeError
import Derived.Shelf.Strconv.ToErrorRange
import Derived.Shelf.Strconv.ParseUintEmpty
import Derived.Shelf.Strconv.ParseUint10b64
import Derived.Shelf.Strconv.ParseUint10b32
import Derived.Shelf.Strconv.ParseUint10b16
import Derived.Shelf.Strconv.ParseUint10b8
import Derived.Shelf.Strconv.ParseUint10At
import Derived.Shelf.Strconv.ParseInt10At64
import Derived.Shelf.Strconv.ParseInt10At32
import Derived.Shelf.Strconv.ParseInt10At16
import Derived.Shelf.Strconv.ParseInt10At8
import Derived.Shelf.Strconv.ParseInt10All
import Derived.Shelf.Strconv.ParseIntPublic10
import Derived.Shelf.Strconv.ErrVarParseInt
import Derived.Shelf.Strings.Search1
import Derived.Shelf.Strings.Search2
import Derived.Shelf.Strings.Cut
import Derived.Shelf.Strings.Shaped
import Derived.Shelf.Strings.Prefix
import Derived.Shelf.Unicode.Decode
import Derived.Shelf.Strings.RuneCount
import Derived.Shelf.Unicode.DecodeSlow
import Derived.Shelf.Unicode.DecodeAny
import Derived.Shelf.Slices.Turned
import Derived.Shelf.Unicode.DecodeLastEight
import Derived.Lib.AtoiErrMem
set_option linter.unusedVariables false
set_option linter.unusedSimpArgs false
namespace Go.Proofs.YtmeacgmjpjjphaaGreatDoor
open Go.RowKit

theorem add_at {b off n : Nat} : (⟨b, off, none⟩ : Addr).add n = ⟨b, off + n, none⟩ := by
  unfold Addr.add; split
  · rename_i h; subst h; rfl
  · rfl
theorem cell_lt {w : World} {a : Addr} {v : Value} (h : w.cell? a = some v) : a.block < w.heap.size := by
  unfold World.cell? at h
  cases hh : w.heap[a.block]? with
  | none => rw [hh] at h; cases h
  | some o => exact (Array.getElem?_eq_some_iff.1 hh).1
theorem heap_lt {w : World} {b : Nat} {o : Obj} (h : w.heap[b]? = some o) : b < w.heap.size := (Array.getElem?_eq_some_iff.1 h).1
theorem frozenOf {w : World} {b : Nat} {cs : Array Value} {t : TypeId} (h : w.heap[b]? = some (.cells cs t)) (i : Nat) : w.frozen? ⟨b, i, none⟩ = false := by simp [World.frozen?, h]
theorem last (W : World) (o : Obj) : (W.alloc o).heap[W.heap.size]? = some o := by simp only [World.alloc, Array.getElem?_push]; simp
theorem lastk (W : World) (o : Obj) {k : Nat} (h : k = W.heap.size) : (W.alloc o).heap[k]? = some o := by
  subst h
  exact last W o
theorem chain {w wp wn : World} (h : Below w.heap.size w wp) (h2 : Below wp.heap.size wp wn) : Below w.heap.size w wn := h.trans (h2.mono h.size)
theorem cellsOf3 {w : World} {b : Nat} {x0 x1 x2 : Value} {t : TypeId} (h : w.heap[b]? = some (.cells #[x0, x1, x2] t)) : w.cell? ⟨b, 0, none⟩ = some x0 ∧ w.cell? ⟨b, 1, none⟩ = some x1 ∧ w.cell? ⟨b, 2, none⟩ = some x2 := by
  refine ⟨?_, ?_, ?_⟩ <;> simp only [World.cell?, h] <;> rfl
theorem cellsOf5 {w : World} {b : Nat} {x0 x1 x2 x3 x4 : Value} {t : TypeId} (h : w.heap[b]? = some (.cells #[x0, x1, x2, x3, x4] t)) : w.cell? ⟨b, 0, none⟩ = some x0 ∧ w.cell? ⟨b, 1, none⟩ = some x1 ∧ w.cell? ⟨b, 2, none⟩ = some x2 ∧ w.cell? ⟨b, 3, none⟩ = some x3 ∧ w.cell? ⟨b, 4, none⟩ = some x4 := by
  refine ⟨?_, ?_, ?_, ?_, ?_⟩ <;> simp only [World.cell?, h] <;> rfl
theorem setc {w : World} {b : Nat} {cs : Array Value} {t : TypeId} (h : w.heap[b]? = some (.cells cs t)) (i : Nat) (p : Value) : (w.setCell ⟨b, i, none⟩ p).heap[b]? = some (.cells (cs.setIfInBounds i p) t) := by
  simp only [World.setCell, Array.getElem?_modify]
  rw [h]
  simp
theorem wrap_in {n : Int} (h : -9223372036854775808 ≤ n ∧ n ≤ 9223372036854775807) : wrap64 n = n := IntWalk.wrap64_in _ h

/-- Nothing turned but block b. -/
structure Turn (b : Nat) (w w' : World) : Prop where
  os : w'.os = w.os
  tape : w'.tape = w.tape
  output : w'.output = w.output
  size : w.heap.size ≤ w'.heap.size
  block : ∀ k, k < w.heap.size → k ≠ b → w'.heap[k]? = w.heap[k]?
theorem Turn.refl (b : Nat) (w : World) : Turn b w w := ⟨rfl, rfl, rfl, Nat.le_refl _, fun _ _ _ => rfl⟩
theorem Turn.of {w w' : World} (b : Nat) (h : Below w.heap.size w w') : Turn b w w' := ⟨h.os, h.tape, h.output, h.size, fun k hk _ => h.block k hk⟩
theorem Turn.trans {a b c : World} {g : Nat} (h : Turn g a b) (k : Turn g b c) : Turn g a c :=
  ⟨k.os.trans h.os, k.tape.trans h.tape, k.output.trans h.output, Nat.le_trans h.size k.size, fun i hi hg => (k.block i (Nat.lt_of_lt_of_le hi h.size) hg).trans (h.block i hi hg)⟩
theorem Turn.below {a b : World} {g B : Nat} (h : Turn g a b) (hg : B ≤ g) (hB : B ≤ a.heap.size) : Below B a b :=
  ⟨h.os, h.tape, h.output, h.size, fun k hk => h.block k (by omega) (by omega)⟩
theorem Turn.setCell {w w' : World} {b : Nat} (h : Turn b w w') (i : Nat) (v : Value) : Turn b w (w'.setCell ⟨b, i, none⟩ v) :=
  ⟨h.os, h.tape, h.output, by rw [show (w'.setCell ⟨b, i, none⟩ v).heap.size = w'.heap.size by simp [World.setCell]]; exact h.size, fun k hk hg => (Below.heap_setCell _ _ _ _ hg).trans (h.block k hk hg)⟩
theorem Turn.alloc {w w' : World} {b : Nat} (h : Turn b w w') (o : Obj) : Turn b w (w'.alloc o) := h.trans (Turn.of b ((Below.refl w'.heap.size w').alloc (Nat.le_refl _) o))
theorem Turn.drew {w w' : World} {b : Nat} (h : Turn b w w') : Turn b w w'.drew := h.trans (Turn.of b (Below.refl w'.heap.size w').drew)

/-- A reader lies in block b: what is left, its line, its column. -/
def RdAt (w : World) (b : Nat) (s : ByteArray) (l c : Int) : Prop := w.heap[b]? = some (.cells #[.string s, .int .i64 l, .int .i64 c] 144)
theorem RdAt.cells {w : World} {b : Nat} {s : ByteArray} {l c : Int} (h : RdAt w b s l c) : w.cell? ⟨b, 0, none⟩ = some (.string s) ∧ w.cell? ⟨b, 1, none⟩ = some (.int .i64 l) ∧ w.cell? ⟨b, 2, none⟩ = some (.int .i64 c) := cellsOf3 h
theorem RdAt.under {w w' : World} {b : Nat} {s : ByteArray} {l c : Int} (h : RdAt w b s l c) (hb : Below w.heap.size w w') : RdAt w' b s l c := (hb.block _ (heap_lt h)).trans h
theorem RdAt.alloc {w : World} {b : Nat} {s : ByteArray} {l c : Int} (h : RdAt w b s l c) (o : Obj) : RdAt (w.alloc o) b s l c := h.under ((Below.refl _ w).alloc (Nat.le_refl _) o)
end Go.Proofs.YtmeacgmjpjjphaaGreatDoor
namespace Go.Proofs
open Go.Shelf
def Tryz.lays195_ren : Go.Shelf.Ren := ⟨fun | 195 => 118 | n => n, fun | 9 => 9 | 3 => 3 | 0 => 0 | 4 => 4 | n => n, fun | n => n⟩
theorem Tryz.lays195 : Go.Proofs.Lays.n195 Tryz.prog Tryz.lays195_ren := {
  mixed := by kernel_rfl
  f195 := Tryz.func118.trans (congrArg some (by kernel_rfl))
  t0 := Tryz.underlying0
  a0 := Tryz.isAgg0
  z0 := Tryz.sizeOf0
  v0 := Tryz.zeroValue0
  t3 := Tryz.underlying3
  a3 := Tryz.isAgg3
  z3 := Tryz.sizeOf3
  v3 := Tryz.zeroValue3
  t4 := Tryz.underlying4
  a4 := Tryz.isAgg4
  z4 := Tryz.sizeOf4
  v4 := Tryz.zeroValue4
  t9 := Tryz.underlying9
  a9 := Tryz.isAgg9
  z9 := Tryz.sizeOf9
  v9 := Tryz.zeroValue9 }
open Go.RowKit in
/-- unicode/utf8.RuneCountInString: "RuneCountInString is like RuneCount but its input is a string." ("RuneCount returns the number of runes in p. Erroneous and short encodings are treated as single runes of width 1 byte."): EVERY STRING, valid UTF-8 or not: 'Lib.runeCount s' (plain Lean over the model's own 'Utf8.decode'; 'Lib.runeCount_le': at most len(s); 'Lib.runeCount_ascii': on ASCII: len(s)). THE ONE CONDITION: len(s) below 2^63 - 1 (the counter does not wrap): the form's reach pays it. THE WORLD BEHIND THE CALL: ONE BLOCK MORE: the model's iterator over s, at its end: all else as it was. (LAID: no walk: one application.) -/
theorem Tryz.utf8_RuneCountInString (s : ByteArray) (w : World) (hs : s.size < 9223372036854775807) :
    Calls Tryz.prog 118 #[.string s] w fun e w' => e = .returned (.int .i64 (Lib.runeCount s)) ∧ ∃ pos, w' = w.iter s pos := Any.utf8_RuneCountInString Tryz.lays195 s w hs
def Tryz.laysC174_ren : Go.Shelf.Ren := ⟨fun | 174 => 101 | 247 => 120 | 245 => 121 | 287 => 138 | 279 => 139 | 280 => 140 | 281 => 141 | 282 => 142 | 321 => 160 | 322 => 161 | 316 => 162 | 171 => 164 | 205 => 163 | 243 => 175 | 246 => 128 | 283 => 146 | 284 => 147 | 285 => 148 | 286 => 149 | 129 => 168 | 317 => 167 | 318 => 169 | 319 => 170 | 320 => 171 | 337 => 176 | 338 => 177 | n => n, fun | 9 => 9 | 3 => 3 | 2 => 2 | 75 => 25 | 85 => 176 | 4 => 4 | 167 => 208 | 5 => 5 | 53 => 209 | 175 => 210 | 46 => 203 | 168 => 212 | 37 => 195 | 0 => 0 | 210 => 229 | 21 => 21 | 127 => 215 | 145 => 241 | 143 => 239 | 171 => 216 | 173 => 219 | 212 => 233 | 51 => 234 | 20 => 20 | 213 => 235 | 232 => 243 | 233 => 244 | 80 => 199 | n => n, fun | 15 => 4 | 16 => 5 | 17 => 6 | 18 => 7 | 19 => 8 | n => n⟩
theorem Tryz.laysC174 : Go.Proofs.LaysC.n174 Tryz.prog Tryz.laysC174_ren := {
  mixed := by kernel_rfl
  f129 := Tryz.func168.trans (congrArg some (by kernel_rfl))
  f171 := Tryz.func164.trans (congrArg some (by kernel_rfl))
  f174 := Tryz.func101.trans (congrArg some (by kernel_rfl))
  f205 := Tryz.func163.trans (congrArg some (by kernel_rfl))
  f243 := Tryz.func175.trans (congrArg some (by kernel_rfl))
  f245 := Tryz.func121.trans (congrArg some (by kernel_rfl))
  f246 := Tryz.func128.trans (congrArg some (by kernel_rfl))
  f247 := Tryz.func120.trans (congrArg some (by kernel_rfl))
  f279 := Tryz.func139.trans (congrArg some (by kernel_rfl))
  f280 := Tryz.func140.trans (congrArg some (by kernel_rfl))
  f281 := Tryz.func141.trans (congrArg some (by kernel_rfl))
  f282 := Tryz.func142.trans (congrArg some (by kernel_rfl))
  f283 := Tryz.func146.trans (congrArg some (by kernel_rfl))
  f284 := Tryz.func147.trans (congrArg some (by kernel_rfl))
  f285 := Tryz.func148.trans (congrArg some (by kernel_rfl))
  f286 := Tryz.func149.trans (congrArg some (by kernel_rfl))
  f287 := Tryz.func138.trans (congrArg some (by kernel_rfl))
  f316 := Tryz.func162.trans (congrArg some (by kernel_rfl))
  f317 := Tryz.func167.trans (congrArg some (by kernel_rfl))
  f318 := Tryz.func169.trans (congrArg some (by kernel_rfl))
  f319 := Tryz.func170.trans (congrArg some (by kernel_rfl))
  f320 := Tryz.func171.trans (congrArg some (by kernel_rfl))
  f321 := Tryz.func160.trans (congrArg some (by kernel_rfl))
  f322 := Tryz.func161.trans (congrArg some (by kernel_rfl))
  f337 := Tryz.func176.trans (congrArg some (by kernel_rfl))
  f338 := Tryz.func177.trans (congrArg some (by kernel_rfl))
  t0 := Tryz.underlying0
  a0 := Tryz.isAgg0
  z0 := Tryz.sizeOf0
  v0 := Tryz.zeroValue0
  t2 := Tryz.underlying2
  a2 := Tryz.isAgg2
  z2 := Tryz.sizeOf2
  v2 := Tryz.zeroValue2
  t3 := Tryz.underlying3
  a3 := Tryz.isAgg3
  z3 := Tryz.sizeOf3
  v3 := Tryz.zeroValue3
  t4 := Tryz.underlying4
  a4 := Tryz.isAgg4
  z4 := Tryz.sizeOf4
  v4 := Tryz.zeroValue4
  t5 := Tryz.underlying5
  a5 := Tryz.isAgg5
  z5 := Tryz.sizeOf5
  v5 := Tryz.zeroValue5
  t9 := Tryz.underlying9
  a9 := Tryz.isAgg9
  z9 := Tryz.sizeOf9
  v9 := Tryz.zeroValue9
  t20 := Tryz.underlying20
  a20 := Tryz.isAgg20
  z20 := Tryz.sizeOf20
  v20 := Tryz.zeroValue20
  t21 := Tryz.underlying21
  a21 := Tryz.isAgg21
  z21 := Tryz.sizeOf21
  v21 := Tryz.zeroValue21
  t37 := Tryz.underlying195
  a37 := Tryz.isAgg195
  z37 := Tryz.sizeOf195
  v37 := Tryz.zeroValue195
  t46 := Tryz.underlying203
  a46 := Tryz.isAgg203
  z46 := Tryz.sizeOf203
  v46 := Tryz.zeroValue203
  t51 := Tryz.underlying234
  a51 := Tryz.isAgg234
  z51 := Tryz.sizeOf234
  v51 := Tryz.zeroValue234
  t53 := Tryz.underlying209
  a53 := Tryz.isAgg209
  z53 := Tryz.sizeOf209
  v53 := Tryz.zeroValue209
  t75 := Tryz.underlying25
  a75 := Tryz.isAgg25
  z75 := Tryz.sizeOf25
  v75 := Tryz.zeroValue25
  t85 := Tryz.underlying176
  a85 := Tryz.isAgg176
  z85 := Tryz.sizeOf176
  v85 := Tryz.zeroValue176
  t127 := Tryz.underlying215
  a127 := Tryz.isAgg215
  z127 := Tryz.sizeOf215
  v127 := Tryz.zeroValue215
  t143 := Tryz.underlying239
  a143 := Tryz.isAgg239
  z143 := Tryz.sizeOf239
  v143 := Tryz.zeroValue239
  t145 := Tryz.underlying241
  a145 := Tryz.isAgg241
  z145 := Tryz.sizeOf241
  v145 := Tryz.zeroValue241
  t167 := Tryz.underlying208
  a167 := Tryz.isAgg208
  z167 := Tryz.sizeOf208
  v167 := Tryz.zeroValue208
  t168 := Tryz.underlying212
  a168 := Tryz.isAgg212
  z168 := Tryz.sizeOf212
  v168 := Tryz.zeroValue212
  t171 := Tryz.underlying216
  a171 := Tryz.isAgg216
  z171 := Tryz.sizeOf216
  v171 := Tryz.zeroValue216
  t173 := Tryz.underlying219
  a173 := Tryz.isAgg219
  z173 := Tryz.sizeOf219
  v173 := Tryz.zeroValue219
  t175 := Tryz.underlying210
  a175 := Tryz.isAgg210
  z175 := Tryz.sizeOf210
  v175 := Tryz.zeroValue210
  t210 := Tryz.underlying229
  a210 := Tryz.isAgg229
  z210 := Tryz.sizeOf229
  v210 := Tryz.zeroValue229
  t212 := Tryz.underlying233
  a212 := Tryz.isAgg233
  z212 := Tryz.sizeOf233
  v212 := Tryz.zeroValue233
  t213 := Tryz.underlying235
  a213 := Tryz.isAgg235
  z213 := Tryz.sizeOf235
  t232 := Tryz.underlying243
  a232 := Tryz.isAgg243
  z232 := Tryz.sizeOf243
  v232 := Tryz.zeroValue243
  t233 := Tryz.underlying244
  a233 := Tryz.isAgg244
  z233 := Tryz.sizeOf244
  v233 := Tryz.zeroValue244
  g15 := by kernel_rfl
  g16 := by kernel_rfl
  g17 := by kernel_rfl
  g18 := by kernel_rfl
  g19 := by kernel_rfl
  t80 := Tryz.underlying199
  a80 := Tryz.isAgg199
  z80 := Tryz.sizeOf199
  v80 := Tryz.zeroValue199
  i0 := by kernel_rfl
  i2 := by kernel_rfl
  i3 := by kernel_rfl
  i4 := by kernel_rfl
  i5 := by kernel_rfl
  i9 := by kernel_rfl
  i20 := by kernel_rfl
  i21 := by kernel_rfl
  i37 := by kernel_rfl
  i46 := by kernel_rfl
  i51 := by kernel_rfl
  i53 := by kernel_rfl
  i75 := by kernel_rfl
  i80 := by kernel_rfl
  i85 := by kernel_rfl
  i127 := by kernel_rfl
  i143 := by kernel_rfl
  i145 := by kernel_rfl
  i167 := by kernel_rfl
  i168 := by kernel_rfl
  i171 := by kernel_rfl
  i173 := by kernel_rfl
  i175 := by kernel_rfl
  i210 := by kernel_rfl
  i212 := by kernel_rfl
  i232 := by kernel_rfl
  i233 := by kernel_rfl
  m15 := by kernel_rfl
  m16 := by kernel_rfl
  m17 := by kernel_rfl
  m18 := by kernel_rfl
  m19 := by kernel_rfl
  c0 := by kernel_rfl
  c2 := by kernel_rfl
  c3 := by kernel_rfl
  c4 := by kernel_rfl
  c5 := by kernel_rfl
  c9 := by kernel_rfl
  c20 := by kernel_rfl
  c21 := by kernel_rfl
  c37 := by kernel_rfl
  c46 := by kernel_rfl
  c51 := by kernel_rfl
  c53 := by kernel_rfl
  c75 := by kernel_rfl
  c80 := by kernel_rfl
  c85 := by kernel_rfl
  c127 := by kernel_rfl
  c143 := by kernel_rfl
  c145 := by kernel_rfl
  c167 := by kernel_rfl
  c168 := by kernel_rfl
  c171 := by kernel_rfl
  c173 := by kernel_rfl
  c175 := by kernel_rfl
  c210 := by kernel_rfl
  c212 := by kernel_rfl
  c213 := by kernel_rfl
  c232 := by kernel_rfl
  c233 := by kernel_rfl }
open Go.RowKit in
/-- strconv.ParseInt(s, 10, 64), AT EVERY STRING THAT SPELLS AN int64 ('Lib.parseIntB 64 s.data.toList = .ok v'): v, AND NO ERROR. (LAID: no walk: one application.) -/
theorem Tryz.strconv_ParseInt_10_at64_ok (s : ByteArray) (hmax : s.size ≤ 9223372036854775806) (v : Int) (h : Lib.parseIntB 64 s.data.toList = .ok v) (w : World) :
    Calls Tryz.prog 101 #[.string s, .int .i64 10, .int .i64 64] w fun e w' => e = .returned (.tuple #[.int .i64 v, .nilIface]) ∧ (w' = w ∨ ∃ t, w' = Lib.bytesWorld w 5 t) := Any.strconv_ParseInt_10_at64_ok Tryz.laysC174 s hmax v h w
def Tryz.lays145_ren : Go.Shelf.Ren := ⟨fun | 145 => 95 | 220 => 119 | 219 => 137 | 217 => 156 | 225 => 157 | 224 => 158 | 267 => 159 | 266 => 173 | 314 => 174 | n => n, fun | 9 => 9 | 4 => 4 | 59 => 173 | 3 => 3 | 5 => 5 | 46 => 203 | 146 => 237 | 51 => 234 | n => n, fun | 1 => 3 | n => n⟩
theorem Tryz.lays145 : Go.Proofs.Lays.n145 Tryz.prog Tryz.lays145_ren := {
  mixed := by kernel_rfl
  f145 := Tryz.func95.trans (congrArg some (by kernel_rfl))
  f217 := Tryz.func156.trans (congrArg some (by kernel_rfl))
  f219 := Tryz.func137.trans (congrArg some (by kernel_rfl))
  f220 := Tryz.func119.trans (congrArg some (by kernel_rfl))
  f224 := Tryz.func158.trans (congrArg some (by kernel_rfl))
  f225 := Tryz.func157.trans (congrArg some (by kernel_rfl))
  f266 := Tryz.func173.trans (congrArg some (by kernel_rfl))
  f267 := Tryz.func159.trans (congrArg some (by kernel_rfl))
  f314 := Tryz.func174.trans (congrArg some (by kernel_rfl))
  t3 := Tryz.underlying3
  a3 := Tryz.isAgg3
  z3 := Tryz.sizeOf3
  v3 := Tryz.zeroValue3
  t4 := Tryz.underlying4
  a4 := Tryz.isAgg4
  z4 := Tryz.sizeOf4
  v4 := Tryz.zeroValue4
  t5 := Tryz.underlying5
  a5 := Tryz.isAgg5
  z5 := Tryz.sizeOf5
  v5 := Tryz.zeroValue5
  t9 := Tryz.underlying9
  a9 := Tryz.isAgg9
  z9 := Tryz.sizeOf9
  v9 := Tryz.zeroValue9
  t46 := Tryz.underlying203
  a46 := Tryz.isAgg203
  z46 := Tryz.sizeOf203
  v46 := Tryz.zeroValue203
  t51 := Tryz.underlying234
  a51 := Tryz.isAgg234
  z51 := Tryz.sizeOf234
  v51 := Tryz.zeroValue234
  t59 := Tryz.underlying173
  a59 := Tryz.isAgg173
  z59 := Tryz.sizeOf173
  v59 := Tryz.zeroValue173
  t146 := Tryz.underlying237
  a146 := Tryz.isAgg237
  z146 := Tryz.sizeOf237
  v146 := Tryz.zeroValue237
  g1 := by kernel_rfl }
open Go.RowKit Go.Lib in
/-- strings.Cut: "Cut slices s around the first instance of sep, returning the text before and after sep. The found result reports whether sep appears in s. If sep does not appear in s, cut returns s, "", false.": IT RETURNS 'Lib.cut s sep'; the world is as it was but for the count of draws. (LAID: no walk: one application.) -/
theorem Tryz.strings_Cut (s sep : ByteArray) (m : Int) (w : World) (hs : s.size < 4294967281) (hm : w.cell? ⟨3, 0, none⟩ = some (.int .i64 m)) :
    Calls Tryz.prog 95 #[.string s, .string sep] w fun e w' => e = .returned (.tuple #[.string ⟨(Lib.cut s.data.toList sep.data.toList).1.toArray⟩, .string ⟨(Lib.cut s.data.toList sep.data.toList).2.1.toArray⟩, .bool (Lib.cut s.data.toList sep.data.toList).2.2]) ∧ ∃ n, w' = w.drewN n := Any.strings_Cut Tryz.lays145 s sep m w hs hm
def Tryz.lays99_ren : Go.Shelf.Ren := ⟨fun | 99 => 122 | 206 => 143 | n => n, fun | 9 => 9 | 4 => 4 | 3 => 3 | n => n, fun | n => n⟩
theorem Tryz.lays99 : Go.Proofs.Lays.n99 Tryz.prog Tryz.lays99_ren := {
  mixed := by kernel_rfl
  f99 := Tryz.func122.trans (congrArg some (by kernel_rfl))
  f206 := Tryz.func143.trans (congrArg some (by kernel_rfl))
  t3 := Tryz.underlying3
  a3 := Tryz.isAgg3
  z3 := Tryz.sizeOf3
  v3 := Tryz.zeroValue3
  t4 := Tryz.underlying4
  a4 := Tryz.isAgg4
  z4 := Tryz.sizeOf4
  v4 := Tryz.zeroValue4
  t9 := Tryz.underlying9
  a9 := Tryz.isAgg9
  z9 := Tryz.sizeOf9
  v9 := Tryz.zeroValue9 }
open Go.RowKit Go.Lib in
/-- strings.HasPrefix: "HasPrefix reports whether the string s begins with prefix.": IT RETURNS 'Lib.hasPrefix s prefix'; the world is as it was. (LAID: no walk: one application.) -/
theorem Tryz.strings_HasPrefix (s p : ByteArray) (w : World) :
    Calls Tryz.prog 122 #[.string s, .string p] w fun e w' => e = .returned (.bool (Lib.hasPrefix s.data.toList p.data.toList)) ∧ w' = w := Any.strings_HasPrefix Tryz.lays99 s p w
def Tryz.lays197_ren : Go.Shelf.Ren := ⟨fun | 197 => 92 | 260 => 117 | n => n, fun | 9 => 9 | 21 => 21 | 3 => 3 | 4 => 4 | 5 => 5 | 105 => 170 | 119 => 202 | 0 => 0 | 46 => 203 | 139 => 206 | 138 => 205 | n => n, fun | 3 => 1 | 4 => 2 | n => n⟩
theorem Tryz.lays197 : Go.Proofs.Lays.n197 Tryz.prog Tryz.lays197_ren := {
  mixed := by kernel_rfl
  f197 := Tryz.func92.trans (congrArg some (by kernel_rfl))
  f260 := Tryz.func117.trans (congrArg some (by kernel_rfl))
  t0 := Tryz.underlying0
  a0 := Tryz.isAgg0
  z0 := Tryz.sizeOf0
  v0 := Tryz.zeroValue0
  t3 := Tryz.underlying3
  a3 := Tryz.isAgg3
  z3 := Tryz.sizeOf3
  v3 := Tryz.zeroValue3
  t4 := Tryz.underlying4
  a4 := Tryz.isAgg4
  z4 := Tryz.sizeOf4
  v4 := Tryz.zeroValue4
  t5 := Tryz.underlying5
  a5 := Tryz.isAgg5
  z5 := Tryz.sizeOf5
  v5 := Tryz.zeroValue5
  t9 := Tryz.underlying9
  a9 := Tryz.isAgg9
  z9 := Tryz.sizeOf9
  v9 := Tryz.zeroValue9
  t21 := Tryz.underlying21
  a21 := Tryz.isAgg21
  z21 := Tryz.sizeOf21
  v21 := Tryz.zeroValue21
  t46 := Tryz.underlying203
  a46 := Tryz.isAgg203
  z46 := Tryz.sizeOf203
  v46 := Tryz.zeroValue203
  t105 := Tryz.underlying170
  a105 := Tryz.isAgg170
  z105 := Tryz.sizeOf170
  v105 := Tryz.zeroValue170
  t119 := Tryz.underlying202
  a119 := Tryz.isAgg202
  z119 := Tryz.sizeOf202
  t138 := Tryz.underlying205
  a138 := Tryz.isAgg205
  z138 := Tryz.sizeOf205
  v138 := Tryz.zeroValue205
  t139 := Tryz.underlying206
  a139 := Tryz.isAgg206
  z139 := Tryz.sizeOf206
  v139 := Tryz.zeroValue206
  g3 := by kernel_rfl
  g4 := by kernel_rfl }
open Go.RowKit Go.Lib in
/-- **unicode/utf8.DecodeRuneInString AT EVERY STRING.** (LAID: no walk: one application.) -/
theorem Tryz.utf8_DecodeRuneInString (s : ByteArray) (w : World) (hT : Lib.Utf8Tabs 1 2 w) :
    Calls Tryz.prog 92 #[.string s] w fun e w' => e = .returned (.tuple #[.int .i32 (Lib.decodeGo s).1, .int .i64 (Lib.decodeGo s).2]) ∧ Below w.heap.size w w' := Any.utf8_DecodeRuneInString Tryz.lays197 s w hT
def Tryz.lays109_ren : Go.Shelf.Ren := ⟨fun | 109 => 107 | n => n, fun | 31 => 76 | 9 => 9 | 3 => 3 | 0 => 0 | 4 => 4 | n => n, fun | n => n⟩
theorem Tryz.lays109 : Go.Proofs.Lays.n109 Tryz.prog Tryz.lays109_ren := {
  mixed := by kernel_rfl
  f109 := Tryz.func107.trans (congrArg some (by kernel_rfl))
  t0 := Tryz.underlying0
  a0 := Tryz.isAgg0
  z0 := Tryz.sizeOf0
  v0 := Tryz.zeroValue0
  t3 := Tryz.underlying3
  a3 := Tryz.isAgg3
  z3 := Tryz.sizeOf3
  v3 := Tryz.zeroValue3
  t4 := Tryz.underlying4
  a4 := Tryz.isAgg4
  z4 := Tryz.sizeOf4
  v4 := Tryz.zeroValue4
  t9 := Tryz.underlying9
  a9 := Tryz.isAgg9
  z9 := Tryz.sizeOf9
  v9 := Tryz.zeroValue9
  t31 := Tryz.underlying76
  a31 := Tryz.isAgg76
  z31 := Tryz.sizeOf76
  v31 := Tryz.zeroValue76 }
open Go.Lib in
/-- slices.Index at []string: "Index returns the index of the first occurrence of v in s, or -1 if not present.": IT RETURNS 'Lib.idxOfS (the elements) v'; the world is as it was. 'zs': what the cells behind the slice's address hold (its spare capacity too, if you have it); 'zs.take n': its elements. (LAID: no walk: one application.) -/
theorem Tryz.slices_Index_string (b off n c : Nat) (zs : List ByteArray) (x : ByteArray) (w : World) (hz : n ≤ zs.length) (hbig : n ≤ 9223372036854775807) (hc : ∀ j, j < zs.length → w.cell? ⟨b, off + j, none⟩ = some (.string (zs.getD j ByteArray.empty))) :
    Calls Tryz.prog 107 #[.slice (some ⟨b, off, none⟩) n c, .string x] w fun e w' => e = .returned (.int .i64 (Lib.idxOfS (zs.take n) x)) ∧ w' = w := Any.slices_Index_string Tryz.lays109 b off n c zs x w hz hbig hc
def Tryz.lays110_ren : Go.Shelf.Ren := ⟨fun | 110 => 78 | 109 => 107 | n => n, fun | 31 => 76 | 9 => 9 | 4 => 4 | 3 => 3 | 0 => 0 | n => n, fun | n => n⟩
theorem Tryz.lays110 : Go.Proofs.Lays.n110 Tryz.prog Tryz.lays110_ren := {
  mixed := by kernel_rfl
  f109 := Tryz.func107.trans (congrArg some (by kernel_rfl))
  f110 := Tryz.func78.trans (congrArg some (by kernel_rfl))
  t0 := Tryz.underlying0
  a0 := Tryz.isAgg0
  z0 := Tryz.sizeOf0
  v0 := Tryz.zeroValue0
  t3 := Tryz.underlying3
  a3 := Tryz.isAgg3
  z3 := Tryz.sizeOf3
  v3 := Tryz.zeroValue3
  t4 := Tryz.underlying4
  a4 := Tryz.isAgg4
  z4 := Tryz.sizeOf4
  v4 := Tryz.zeroValue4
  t9 := Tryz.underlying9
  a9 := Tryz.isAgg9
  z9 := Tryz.sizeOf9
  v9 := Tryz.zeroValue9
  t31 := Tryz.underlying76
  a31 := Tryz.isAgg76
  z31 := Tryz.sizeOf76
  v31 := Tryz.zeroValue76 }
open Go.Lib in
/-- slices.Contains at []string: "Contains reports whether v is present in s.": IT RETURNS 'Lib.containsS (the elements) v', which is true just where v is among them ('Lib.containsS_iff'); the world is as it was. ITS CALLEE slices.Index IS MET BY ITS OWN CONTRACT OFF THE SHELF (lay that first): no loop is walked here. (LAID: no walk: one application.) -/
theorem Tryz.slices_Contains_string (b off n c : Nat) (zs : List ByteArray) (x : ByteArray) (w : World) (hz : n ≤ zs.length) (hbig : n ≤ 9223372036854775807) (hc : ∀ j, j < zs.length → w.cell? ⟨b, off + j, none⟩ = some (.string (zs.getD j ByteArray.empty))) :
    Calls Tryz.prog 78 #[.slice (some ⟨b, off, none⟩) n c, .string x] w fun e w' => e = .returned (.bool (Lib.containsS (zs.take n) x)) ∧ w' = w := Any.slices_Contains_string Tryz.lays110 b off n c zs x w hz hbig hc
end Go.Proofs
namespace Go.Proofs.YtmeacgmjpjjphaaGreatDoor
open Go.RowKit

set_option maxHeartbeats 4000000 in
theorem letter_in (c : UInt8) (w : World) : Calls Tryz.prog 96 #[.int .u8 (c.toNat : Int)] w fun e w' => e = .returned (.bool (letB c)) ∧ w = w' := by
  unfold letB
  generalize c.toNat = n
  by_cases h1 : 97 ≤ n
  · by_cases h2 : n ≤ 122
    · have k1 : decide ((97 : Int) ≤ (n : Int)) = true := decide_eq_true (by omega)
      have k2 : decide ((n : Int) ≤ 122) = true := decide_eq_true (by omega)
      go_enter Tryz.func96, Tryz.ntmps96
      go_wp2_with fail
      go_ret
      exact ⟨by simp [h1, h2], rfl⟩
    · have k1 : decide ((97 : Int) ≤ (n : Int)) = true := decide_eq_true (by omega)
      have k2 : decide ((n : Int) ≤ 122) = false := decide_eq_false (by omega)
      have k3 : decide ((65 : Int) ≤ (n : Int)) = true := decide_eq_true (by omega)
      have k4 : decide ((n : Int) ≤ 90) = false := decide_eq_false (by omega)
      have k5 : ((n : Int) == 95) = false := by simp; omega
      go_enter Tryz.func96, Tryz.ntmps96
      go_wp2_with fail
      go_ret
      exact ⟨by simp [h1, h2]; omega, rfl⟩
  · have k1 : decide ((97 : Int) ≤ (n : Int)) = false := decide_eq_false (by omega)
    by_cases h3 : 65 ≤ n
    · have k3 : decide ((65 : Int) ≤ (n : Int)) = true := decide_eq_true (by omega)
      by_cases h4 : n ≤ 90
      · have k4 : decide ((n : Int) ≤ 90) = true := decide_eq_true (by omega)
        go_enter Tryz.func96, Tryz.ntmps96
        go_wp2_with fail
        go_ret
        exact ⟨by simp [h1, h3, h4], rfl⟩
      · have k4 : decide ((n : Int) ≤ 90) = false := decide_eq_false (by omega)
        by_cases h5 : n = 95
        · subst h5
          go_enter Tryz.func96, Tryz.ntmps96
          go_wp2_with fail
          go_ret
          exact ⟨by simp, rfl⟩
        · have k5 : ((n : Int) == 95) = false := by simp; omega
          go_enter Tryz.func96, Tryz.ntmps96
          go_wp2_with fail
          go_ret
          exact ⟨by simp [h1, h3, h4, h5], rfl⟩
    · have k3 : decide ((65 : Int) ≤ (n : Int)) = false := decide_eq_false (by omega)
      have k5 : ((n : Int) == 95) = false := by simp; omega
      go_enter Tryz.func96, Tryz.ntmps96
      go_wp2_with fail
      go_ret
      exact ⟨by simp [h1, h3]; omega, rfl⟩
set_option maxHeartbeats 4000000 in
theorem digit_in (c : UInt8) (w : World) : Calls Tryz.prog 99 #[.int .u8 (c.toNat : Int)] w fun e w' => e = .returned (.bool (digB c)) ∧ w = w' := by
  unfold digB
  generalize c.toNat = n
  by_cases h1 : 48 ≤ n
  · have k1 : decide ((48 : Int) ≤ (n : Int)) = true := decide_eq_true (by omega)
    by_cases h2 : n ≤ 57
    · have k2 : decide ((n : Int) ≤ 57) = true := decide_eq_true (by omega)
      go_enter Tryz.func99, Tryz.ntmps99
      go_wp2_with fail
      go_ret
      exact ⟨by simp [h1, h2], rfl⟩
    · have k2 : decide ((n : Int) ≤ 57) = false := decide_eq_false (by omega)
      go_enter Tryz.func99, Tryz.ntmps99
      go_wp2_with fail
      go_ret
      exact ⟨by simp [h1, h2], rfl⟩
  · have k1 : decide ((48 : Int) ≤ (n : Int)) = false := decide_eq_false (by omega)
    go_enter Tryz.func99, Tryz.ntmps99
    go_wp2_with fail
    go_ret
    exact ⟨by simp [h1], rfl⟩
set_option maxHeartbeats 4000000 in
/-- The closure: of a name? -/
theorem nameB_in (c : UInt8) (w : World) : Calls Tryz.prog 98 #[.int .u8 (c.toNat : Int)] w fun e w' => e = .returned (.bool (nameB c)) ∧ w = w' := by
  unfold nameB
  have h1 := letter_in c w
  have h2 := digit_in c w
  generalize c.toNat = n at *
  go_enter Tryz.func98, Tryz.ntmps98
  cases hl : letB c with
  | true =>
    rw [hl] at h1
    clear h2
    go_wp2_with fail
    refine h1.mono ?_
    rintro e w' ⟨rfl, rfl⟩
    go_wp2_with fail
    go_ret
    exact ⟨by simp, rfl⟩
  | false =>
    rw [hl] at h1
    go_wp2_with fail
    refine h1.mono ?_
    rintro e w' ⟨rfl, rfl⟩
    clear h1
    go_wp2_with fail
    refine h2.mono ?_
    rintro e w' ⟨rfl, rfl⟩
    clear h2
    go_wp2_with fail
    go_ret
    exact ⟨by simp, rfl⟩

theorem takeWhile_le (p : UInt8 → Bool) (l : List UInt8) {k : Nat} (hk : k < l.length) (h : ∀ j (hj : j < k), p (l.getD j 0) = true) : (l.takeWhile p).length = k ↔ p (l.getD k 0) = false := by
  induction l generalizing k with
  | nil => simp at hk
  | cons a l ih =>
    cases k with
    | zero =>
      simp only [List.getD_cons_zero]
      rw [List.takeWhile_cons]
      cases p a <;> simp
    | succ k =>
      have h0 := h 0 (by omega)
      simp only [List.getD_cons_zero] at h0
      rw [List.takeWhile_cons, h0]
      simp only [List.getD_cons_succ, if_true, List.length_cons]
      have := ih (k := k) (by simpa using hk) (fun j hj => by simpa using h (j + 1) (by omega))
      rw [← this]
      omega
theorem takeWhile_all (p : UInt8 → Bool) (l : List UInt8) (h : ∀ j, j < l.length → p (l.getD j 0) = true) : (l.takeWhile p).length = l.length := by
  induction l with
  | nil => rfl
  | cons a l ih =>
    have h0 := h 0 (by simp)
    simp only [List.getD_cons_zero] at h0
    rw [List.takeWhile_cons, h0]
    simp only [if_true, List.length_cons]
    rw [ih fun j hj => by simpa using h (j + 1) (by simpa using hj)]
theorem byte_eq {s : ByteArray} {k : Nat} (h : k < s.size) : s[k]'h = s.data.toList.getD k 0 := by
  have h' : k < s.data.toList.length := by simpa using h
  rw [List.getD, List.getElem?_eq_getElem h']
  rfl
set_option maxHeartbeats 4000000 in
/-- count, at whatever function that answers p and leaves the world alone. -/
theorem count_in {g : Nat} (p : UInt8 → Bool) (hg : ∀ (c : UInt8) (w : World), Calls Tryz.prog g #[.int .u8 (c.toNat : Int)] w fun e w' => e = .returned (.bool (p c)) ∧ w = w')
    (eg : ∀ args w, (callFunc g args).run Tryz.prog w = .ok (.enter g args) w) (s : ByteArray) (w : World) (hs : s.size ≤ 1048576) :
    Calls Tryz.prog 97 #[.string s, .func (.func g) #[] #[]] w fun e w' => e = .returned (.int .i64 (cntB p s)) ∧ w = w' := by
  have HG := Lib.hid hg
  clear hg
  go_enter Tryz.func97, Tryz.ntmps97
  go_wp2_with fail
  go_loop [5] (fun i => ∃ k : Nat, k ≤ s.size ∧ i = .int .i64 k ∧ ∀ j, j < k → p (s.data.toList.getD j 0) = true) (fun i => s.size - (intOf i).toNat)
  case atStart => exact ⟨0, Nat.zero_le _, rfl, fun j hj => by omega⟩
  case round =>
    obtain ⟨k, hk, rfl, hall⟩ := hrel
    have HALL := Lib.hid hall
    clear hall
    by_cases hlt : k < s.size
    · have hc := HG.out s[k] w
      have hb := byte_eq hlt
      have HB := Lib.hid hb
      clear hb
      cases hp : p s[k] with
      | true =>
        rw [hp] at hc
        have HP := Lib.hid hp
        clear hp
        have hlt' : (k : Int) < (s.size : Int) := by omega
        go_wp2_with (go_at_fn g; refine hc.mono ?_; rintro e w' ⟨rfl, rfl⟩)
        go_round
        case rel => exact ⟨k + 1, by omega, by go_num, fun j hj => by
          by_cases e : j = k
          · subst e
            rw [← HB.out]
            exact HP.out
          · exact HALL.out j (by omega)⟩
        case measure => simp [intOf]; omega
      | false =>
        rw [hp] at hc
        have HP := Lib.hid hp
        clear hp
        have hlt' : (k : Int) < (s.size : Int) := by omega
        go_wp2_with (go_at_fn g; refine hc.mono ?_; rintro e w' ⟨rfl, rfl⟩)
        go_ret
        refine ⟨?_, rfl⟩
        have : cntB p s = k := (takeWhile_le p s.data.toList (by simpa using hlt) HALL.out).2 (by rw [← HB.out]; exact HP.out)
        rw [this]
        rfl
    · have hge : ¬ (k : Int) < (s.size : Int) := by omega
      have hke : k = s.size := by omega
      subst hke
      go_wp2_with fail
      go_ret
      refine ⟨?_, rfl⟩
      have : cntB p s = s.size := (takeWhile_all p s.data.toList fun j hj => HALL.out j (by simpa using hj)).trans (by simp)
      rw [this]
      rfl
end Go.Proofs.YtmeacgmjpjjphaaGreatDoor
namespace Go.Proofs.YtmeacgmjpjjphaaGreatDoor
open Go.RowKit

theorem find_at {p : ByteArray → Bool} : ∀ {l : List ByteArray} {k : Nat}, k < l.length → p (l.getD k ByteArray.empty) = true → (∀ j, j < k → p (l.getD j ByteArray.empty) = false) → l.find? p = some (l.getD k ByteArray.empty)
  | [], k, hk, _, _ => by simp at hk
  | a :: l, 0, _, hp, _ => by
    simp only [List.getD_cons_zero] at hp
    rw [List.find?_cons, hp]
    rfl
  | a :: l, k + 1, hk, hp, hn => by
    have h0 := hn 0 (by omega)
    simp only [List.getD_cons_zero] at h0
    rw [List.find?_cons, h0]
    exact find_at (l := l) (by simpa using hk) (by simpa using hp) fun j hj => by simpa using hn (j + 1) (by omega)
theorem find_no {p : ByteArray → Bool} : ∀ {l : List ByteArray}, (∀ j, j < l.length → p (l.getD j ByteArray.empty) = false) → l.find? p = none
  | [], _ => rfl
  | a :: l, hn => by
    have h0 := hn 0 (by simp)
    simp only [List.getD_cons_zero] at h0
    rw [List.find?_cons, h0]
    exact find_no (l := l) fun j hj => by simpa using hn (j + 1) (by simpa using hj)
/-- A constant row of texts. -/
theorem texts_cell {w : World} {b : Nat} {l : List ByteArray} {t : TypeId} (h : w.heap[b]? = some (.cells (l.map Value.string).toArray t)) {j : Nat} (hj : j < l.length) : w.cell? ⟨b, j, none⟩ = some (.string (l.getD j ByteArray.empty)) := by
  simp only [World.cell?, h]
  simp [List.getD, hj]
set_option maxRecDepth 100000 in
set_option maxHeartbeats 4000000 in
theorem mark_in (s : ByteArray) (w : World) : Calls Tryz.prog 102 #[.string s] w fun e w' => e = .returned (.int .i64 (markB s)) ∧ Below w.heap.size w w' := by
  have hl : (w.alloc (.cells (marks.map Value.string).toArray 9)).heap[w.heap.size]? = some (.cells (marks.map Value.string).toArray 9) := last _ _
  have hcell := fun j (hj : j < 15) => texts_cell hl (j := j) hj
  have HCELL := Lib.hid hcell
  have HB := Lib.hid ((Below.refl w.heap.size w).alloc (Nat.le_refl _) (.cells (marks.map Value.string).toArray 9))
  have HP := Lib.hid (fun m W => Tryz.strings_HasPrefix s m W)
  clear hl hcell
  go_enter Tryz.func102, Tryz.ntmps102
  go_wp2_with fail
  change Code.wp _ _ _ _ (w.alloc (.cells (marks.map Value.string).toArray 9))
  generalize w.alloc (.cells (marks.map Value.string).toArray 9) = W at *
  go_loopg [7] 15 (fun gk iv wr => ∃ k : Nat, iv = .int .i64 k ∧ k + gk = 15 ∧ wr = W ∧ ∀ j, j < k → Lib.hasPrefix s.data.toList (marks.getD j ByteArray.empty).data.toList = false)
  case atStart => exact ⟨0, rfl, rfl, rfl, fun j hj => by omega⟩
  case round =>
    obtain ⟨k, rfl, hk, rfl, hall⟩ := hrel
    have HALL := Lib.hid hall
    clear hall
    by_cases e : k = 15
    · subst e
      go_wp2_with fail
      go_ret
      refine ⟨?_, HB.out⟩
      have : markB s = 0 := by
        unfold markB
        rw [find_no (l := marks) fun j hj => HALL.out j hj]
      rw [this]
      rfl
    · have hlt : k < 15 := by omega
      have a0 := HCELL.out k hlt
      have hc := HP.out (marks.getD k ByteArray.empty) wr
      have hi0 : (0 : Int) ≤ (k : Int) := by omega
      have hi1 : (k : Int) < 15 := by omega
      cases hp : Lib.hasPrefix s.data.toList (marks.getD k ByteArray.empty).data.toList with
      | false =>
        rw [hp] at hc
        have HF := Lib.hid hp
        clear hp
        generalize hm : marks.getD k ByteArray.empty = m at *
        have HM := Lib.hid hm
        clear hm
        go_wp2_with fail
        refine hc.mono ?_
        clear hc
        rintro e w' ⟨rfl, rfl⟩
        go_wp2_with fail
        go_roundg (gk - 1)
        case measure => omega
        case rel => exact ⟨k + 1, by simp, by omega, rfl, fun j hj => by
          by_cases ej : j = k
          · subst ej
            rw [HM.out]
            exact HF.out
          · exact HALL.out j (by omega)⟩
      | true =>
        rw [hp] at hc
        have HF := Lib.hid (find_at (l := marks) (p := fun m => Lib.hasPrefix s.data.toList m.data.toList) (k := k) hlt hp HALL.out)
        clear hp
        generalize marks.getD k ByteArray.empty = m at *
        go_wp2_with fail
        refine hc.mono ?_
        clear hc
        rintro e w' ⟨rfl, rfl⟩
        go_wp2_with fail
        go_ret
        refine ⟨?_, HB.out⟩
        have : markB s = m.size := by
          unfold markB
          rw [HF.out]
        rw [this]
        rfl
set_option maxRecDepth 100000 in
set_option maxHeartbeats 4000000 in
theorem Own_in (s : ByteArray) (w : World) : Calls Tryz.prog 100 #[.string s] w fun e w' => e = .returned (.bool (ownB s)) ∧ Below w.heap.size w w' := by
  go_enter Tryz.func100, Tryz.ntmps100
  have hl : (w.alloc (.cells (owns.map Value.string).toArray 9)).heap[w.heap.size]? = some (.cells (owns.map Value.string).toArray 9) := last _ _
  have hc := Tryz.slices_Contains_string w.heap.size 0 30 30 owns s _ (by decide) (by omega) (fun j hj => by rw [Nat.zero_add]; exact texts_cell hl hj)
  rw [List.take_of_length_le (by decide)] at hc
  clear hl
  have HB := Lib.hid ((Below.refl w.heap.size w).alloc (Nat.le_refl _) (.cells (owns.map Value.string).toArray 9))
  go_wp2_with fail
  refine (show Calls Tryz.prog _ _ (w.alloc (.cells (owns.map Value.string).toArray 9)) _ from hc).mono ?_
  clear hc
  rintro e w' ⟨rfl, rfl⟩
  go_wp2_with fail
  go_ret
  exact ⟨rfl, HB.out⟩
set_option maxHeartbeats 4000000 in
theorem wrong_in {w : World} {b : Nat} {s : ByteArray} {l c : Int} (h : RdAt w b s l c) (code : Int) : Calls Tryz.prog 93 #[.pointer (some ⟨b, 0, none⟩), .int .i64 code] w fun e w' => e = .returned (.iface 41 (.agg #[.int .i64 code, .int .i64 l, .int .i64 c, .string ⟨#[]⟩])) ∧ Below w.heap.size w w' := by
  obtain ⟨a0, a1, a2⟩ := h.cells
  clear h
  go_enter Tryz.func93, Tryz.ntmps93
  go_wp2_with fail
  go_ret
  exact ⟨rfl, Below.refl _ _⟩
set_option maxHeartbeats 4000000 in
theorem skip_in {w : World} {b : Nat} {s : ByteArray} {l c : Int} (h : RdAt w b s l c) (n : Nat) (hn : n ≤ s.size) (hs : s.size ≤ 1048576) (hc : 0 ≤ c ∧ c ≤ 1048576) : Calls Tryz.prog 94 #[.pointer (some ⟨b, 0, none⟩), .int .i64 n] w fun e w' => e = .returned (.tuple #[]) ∧ RdAt w' b (aft s n) l (c + Lib.runeCount (fore s n)) ∧ Turn b w w' := by
  have hfz := frozenOf h
  obtain ⟨a0, a1, a2⟩ := h.cells
  have H := Lib.hid h
  clear h
  go_enter Tryz.func94, Tryz.ntmps94
  have hz : (fore s n).size = n := fore_size hn
  have hrc := Lib.runeCount_le (fore s n)
  have hq : ∃ q : Nat, Lib.runeCount (fore s n) = q := ⟨_, rfl⟩
  obtain ⟨q, hq⟩ := hq
  rw [hq, hz] at hrc
  have HC := Lib.hid (show ∀ W, Calls Tryz.prog 118 #[.string (s.extract 0 n)] W fun e w' => e = .returned (.int .i64 q) ∧ Below W.heap.size W w' from fun W => by
    have := Tryz.utf8_RuneCountInString (fore s n) W (by omega)
    rw [hq] at this
    refine this.mono fun e w' ⟨he, pos, hw⟩ => ⟨he, ?_⟩
    rw [hw]
    exact (Below.refl W.heap.size W).alloc (Nat.le_refl _) _)
  go_wp2_with fail
  have hq2 : (q : Int) ≤ 1048576 := by omega
  have hc0 := hc.1
  have hc1 := hc.2
  have hwr : IntKind.i64.wrap (c + (q : Int)) = c + q := IntWalk.i64_in _ (by omega)
  go_region_law ((go_simp; go_at_call 118; refine (HC.out _).mono ?_; rintro e w5 ⟨rfl, hb5⟩; have h5 : RdAt w5 b s l c := (hb5.block _ (heap_lt H.out)).trans H.out; have z5 := frozenOf h5; obtain ⟨c0, c1, c2⟩ := h5.cells))
  all_goals
    have h6 : RdAt (w5.setCell ⟨b, 2, none⟩ (.int .i64 (c + q))) b s l (c + q) := setc h5 2 _
    have ht6 : Turn b w (w5.setCell ⟨b, 2, none⟩ (.int .i64 (c + q))) := (Turn.of b (show Below w.heap.size w w5 from ((Below.refl w.heap.size w).drew).trans hb5)).setCell 2 _
    have H6 := Lib.hid (And.intro h6 ht6)
    have z6 := frozenOf h6
    obtain ⟨d0, d1, d2⟩ := h6.cells
    clear hb5 h5 z5 c0 c1 c2 h6 ht6 a0 a1 a2 hfz hwr
    generalize w5.setCell ⟨b, 2, none⟩ (.int .i64 (c + q)) = w6 at *
    have h7 : RdAt (w6.setCell ⟨b, 0, none⟩ (.string (s.extract n s.size))) b (s.extract n s.size) l (c + q) := setc H6.out.1 0 _
    have H7 := Lib.hid (And.intro h7 (H6.out.2.setCell 0 (.string (s.extract n s.size))))
    clear h7
    go_wp2_with fail
    go_end0
    refine ⟨rfl, ?_, H7.out.2⟩
    rw [hq]
    exact H7.out.1
end Go.Proofs.YtmeacgmjpjjphaaGreatDoor
namespace Go.Proofs.YtmeacgmjpjjphaaGreatDoor
open Go.RowKit

theorem empty_of {t : ByteArray} (h : t.size = 0) : t.toList.isEmpty = true := by
  rw [Lib.toList_data, List.isEmpty_iff]
  exact List.eq_nil_of_length_eq_zero (by simpa using h)
theorem full_of {t : ByteArray} (h : t.size ≠ 0) : t.toList.isEmpty = false := by
  rw [Lib.toList_data, Bool.eq_false_iff]
  intro e
  have := List.isEmpty_iff.1 e
  apply h
  have h2 : t.data.toList.length = 0 := by rw [this]; rfl
  simpa using h2
theorem cut_le (l m : List UInt8) : (Lib.cut l m).1.length ≤ l.length := by
  unfold Lib.cut
  split
  · simp only [List.length_take]
    omega
  · exact Nat.le_refl _
theorem cut_pos {t : ByteArray} (h : 0 < t.size) (h10 : (t.data.toList.getD 0 0).toNat ≠ 10) : 1 ≤ (Lib.cut t.data.toList [10]).1.length := by
  have hl : 0 < t.data.toList.length := by simpa using h
  unfold Lib.cut
  rcases Lib.index_spec t.data.toList [10] with ⟨h1, _⟩ | ⟨i, h1, h2, h3, _⟩
  · rw [if_neg (by omega)]
    exact hl
  · rw [if_pos (by omega)]
    have hi : i ≠ 0 := by
      rintro rfl
      have h4 := Lib.occAt_head rfl h3
      apply h10
      rw [List.getD, h4]
      rfl
    simp only [List.length_take, h1, Int.toNat_natCast]
    omega
/-- The library's variable MaxLen is some number. -/
def MaxAt (w : World) : Prop := ∃ m : Int, w.cell? ⟨3, 0, none⟩ = some (.int .i64 m)
theorem MaxAt.same {w w' : World} (h : MaxAt w) (hb : w'.heap[3]? = w.heap[3]?) : MaxAt w' := by
  obtain ⟨m, hm⟩ := h
  exact ⟨m, (World.cell?_of_block hb).trans hm⟩
theorem MaxAt.lt {w : World} (h : MaxAt w) : 3 < w.heap.size := by
  obtain ⟨m, hm⟩ := h
  exact cell_lt hm
/-- Where the reader stands, and how much it may still count. -/
structure Rd (w : World) (b : Nat) (s : ByteArray) (l c : Int) : Prop where
  at' : RdAt w b s l c
  max : MaxAt w
  ne : b ≠ 3
  line : 1 ≤ l ∧ l + s.size ≤ 131073
  col : 1 ≤ c ∧ c + s.size ≤ 131073
theorem Rd.small {w : World} {b : Nat} {s : ByteArray} {l c : Int} (h : Rd w b s l c) : s.size ≤ 131072 := by
  have := h.line
  omega
theorem Rd.skip {w : World} {b : Nat} {s : ByteArray} {l c : Int} (h : Rd w b s l c) {n : Nat} (hn : n ≤ s.size) :
    Calls Tryz.prog 94 #[.pointer (some ⟨b, 0, none⟩), .int .i64 n] w fun e w' => e = .returned (.tuple #[]) ∧ Rd w' b (aft s n) l (c + Lib.runeCount (fore s n)) ∧ Turn b w w' := by
  have hs := h.small
  have h1 := h.line
  have h2 := h.col
  refine (skip_in h.at' n hn (by omega) ⟨by omega, by omega⟩).mono fun e w' ⟨he, hr, ht⟩ => ⟨he, ⟨hr, ?_, h.ne, ?_, ?_⟩, ht⟩
  · exact h.max.same (ht.block _ h.max.lt (fun e => h.ne e.symm))
  · rw [aft_size]
    omega
  · have := Lib.runeCount_le (fore s n)
    rw [fore_size hn] at this
    rw [aft_size]
    omega
theorem Rd.under {w w' : World} {b : Nat} {s : ByteArray} {l c : Int} (h : Rd w b s l c) (hb : Below w.heap.size w w') : Rd w' b s l c := ⟨h.at'.under hb, h.max.same (hb.block _ h.max.lt), h.ne, h.line, h.col⟩
theorem Rd.nl {w w' : World} {b : Nat} {s : ByteArray} {l c : Int} (h : Rd w b s l c) (hs : 0 < s.size) (hr : RdAt w' b (aft s 1) (l + 1) 1) (ht : Turn b w w') : Rd w' b (aft s 1) (l + 1) 1 := by
  have h1 := h.line
  have h2 := h.col
  have h3 := h.small
  refine ⟨hr, h.max.same (ht.block _ h.max.lt (fun e => h.ne e.symm)), h.ne, ?_, ?_⟩
  · rw [aft_size]
    omega
  · rw [aft_size]
    omega
set_option maxRecDepth 100000 in
set_option maxHeartbeats 8000000 in
theorem blanks_in {w : World} {b : Nat} {s : ByteArray} {l c : Int} (h : Rd w b s l c) :
    Calls Tryz.prog 74 #[.pointer (some ⟨b, 0, none⟩)] w fun e w' => e = .returned (.tuple #[]) ∧ Rd w' b (blanksB s.size s l c).1 (blanksB s.size s l c).2.1 (blanksB s.size s l c).2.2 ∧ Turn b w w' := by
  have H := Lib.hid h
  clear h
  obtain ⟨R, hR⟩ : ∃ z, blanksB s.size s l c = z := ⟨_, rfl⟩
  rw [hR]
  have HR := Lib.hid hR
  clear hR
  go_enter Tryz.func74, Tryz.ntmps74
  go_wp2_with fail
  go_loopg [2] s.size (fun gk _ wr => ∃ (t : ByteArray) (l' c' : Int), Rd wr b t l' c' ∧ Turn b w wr ∧ blanksB gk t l' c' = R ∧ t.size ≤ gk)
  case atStart => exact ⟨s, l, c, H.out, Turn.refl _ _, HR.out, Nat.le_refl _⟩
  case round =>
    obtain ⟨t, l', c', hrd, htn, hbl, hgk⟩ := hrel
    have H1 := Lib.hid (And.intro hrd (And.intro htn hbl))
    have hfz := frozenOf hrd.at'
    obtain ⟨a0, a1, a2⟩ := hrd.at'.cells
    have hsm := hrd.small
    have hln := hrd.line
    clear hrd htn hbl
    by_cases h0 : t.size = 0
    · have he := empty_of h0
      go_wp2_with fail
      go_end0
      have hr : R = (t, l', c') := by
        rw [← H1.out.2.2]
        cases gk with
        | zero => rfl
        | succ N => simp [blanksB, h0]
      rw [hr]
      exact ⟨rfl, H1.out.1, H1.out.2.1⟩
    · have he := full_of h0
      obtain ⟨N, rfl⟩ : ∃ N, gk = N + 1 := ⟨gk - 1, by omega⟩
      have hpos : 0 < t.size := by omega
      have hb0 := hd_eq hpos
      have HB0 := Lib.hid hb0
      clear hb0
      by_cases h10 : (t[0]'hpos).toNat = 10
      · have k10 : (((t[0]'hpos).toNat : Int) == 10) = true := by simp [h10]
        have hwr : IntKind.i64.wrap (l' + 1) = l' + 1 := IntWalk.i64_in _ (by omega)
        have h1' : (1 : Int) ≤ (t.size : Int) := by omega
        go_wp2_with fail
        go_region
        all_goals
          have H3 := Lib.hid (show Rd (((wr.setCell ⟨b, 0, none⟩ (.string (t.extract 1 t.size))).setCell ⟨b, 1, none⟩ (.int .i64 (l' + 1))).setCell ⟨b, 2, none⟩ (.int .i64 1)).drew b (aft t 1) (l' + 1) 1 ∧ Turn b w (((wr.setCell ⟨b, 0, none⟩ (.string (t.extract 1 t.size))).setCell ⟨b, 1, none⟩ (.int .i64 (l' + 1))).setCell ⟨b, 2, none⟩ (.int .i64 1)).drew from
            ⟨H1.out.1.nl hpos (show RdAt _ b _ _ _ from setc (setc (setc H1.out.1.at' 0 _) 1 _) 2 _) (((((Turn.refl b wr).setCell 0 _).setCell 1 _).setCell 2 _).drew), H1.out.2.1.trans ((((Turn.refl b wr).setCell 0 _).setCell 1 _).setCell 2 _).drew⟩)
          clear a0 a1 a2 hfz hwr
          go_wp2_with fail
          go_roundg N
          case measure => omega
          case rel =>
            refine ⟨aft t 1, l' + 1, 1, H3.out.1, H3.out.2, ?_, ?_⟩
            · rw [← H1.out.2.2]
              simp only [blanksB]
              rw [if_neg h0, if_pos (by rw [← HB0.out]; exact h10)]
            · rw [aft_size]
              omega
      · have k10 : (((t[0]'hpos).toNat : Int) == 10) = false := by
          rw [beq_eq_false_iff_ne]
          omega
        by_cases h35 : (t[0]'hpos).toNat = 35
        · have k35 : (((t[0]'hpos).toNat : Int) == 35) = true := by simp [h35]
          obtain ⟨m, hm⟩ := H1.out.1.max
          obtain ⟨L, hL⟩ : ∃ z : ByteArray, (⟨(Lib.cut t.data.toList [10]).1.toArray⟩ : ByteArray) = z := ⟨_, rfl⟩
          have hLs : L.size = (Lib.cut t.data.toList [10]).1.length := by
            rw [← hL]
            simp [ByteArray.size]
          have hLle : L.size ≤ t.size := by
            rw [hLs]
            have := cut_le t.data.toList [10]
            rw [Array.length_toList] at this
            exact this
          have hc := Tryz.strings_Cut t ⟨#[10]⟩ m wr (by omega) hm
          rw [show (⟨#[10]⟩ : ByteArray).data.toList = [10] from rfl, hL] at hc
          have HL := Lib.hid (And.intro hLs hLle)
          clear hm hL hLs hLle
          go_wp2_with fail
          refine hc.mono ?_
          clear hc
          rintro e w2 ⟨rfl, nd, rfl⟩
          have hbd : Below wr.heap.size wr (wr.drewN nd) := below_drewN (Below.refl _ _) nd
          have hc := (H1.out.1.under hbd).skip HL.out.2
          have HBD := Lib.hid hbd
          clear hbd
          go_wp2_with fail
          refine hc.mono ?_
          clear hc
          rintro e w3 ⟨rfl, hr3, ht3⟩
          have H3 := Lib.hid (And.intro hr3 (H1.out.2.1.trans ((Turn.of b HBD.out).trans ht3)))
          clear hr3 ht3 a0 a1 a2 hfz
          go_wp2_with fail
          go_roundg N
          case measure => omega
          case rel =>
            refine ⟨aft t L.size, l', c' + Lib.runeCount (fore t L.size), H3.out.1, H3.out.2, ?_, ?_⟩
            · rw [← H1.out.2.2, HL.out.1]
              simp only [blanksB]
              rw [if_neg h0, if_neg (by rw [← HB0.out]; exact h10), if_pos (by rw [← HB0.out]; exact h35)]
            · have h1 : 1 ≤ L.size := by
                rw [HL.out.1]
                exact cut_pos hpos (by rw [← byte_eq hpos]; exact h10)
              rw [aft_size]
              omega
        · have k35 : (((t[0]'hpos).toNat : Int) == 35) = false := by
            rw [beq_eq_false_iff_ne]
            omega
          by_cases hsp : (t[0]'hpos).toNat = 32 ∨ (t[0]'hpos).toNat = 9 ∨ (t[0]'hpos).toNat = 13
          · have hc := H1.out.1.skip (n := 1) hpos
            have HSP := Lib.hid hsp
            have h22 : (((t[0]'hpos).toNat : Int) == 32) = decide ((t[0]'hpos).toNat = 32) := by
              rw [Bool.eq_iff_iff]
              simp
              omega
            have h23 : (((t[0]'hpos).toNat : Int) == 9) = decide ((t[0]'hpos).toNat = 9) := by
              rw [Bool.eq_iff_iff]
              simp
              omega
            have h24 : (((t[0]'hpos).toNat : Int) == 13) = decide ((t[0]'hpos).toNat = 13) := by
              rw [Bool.eq_iff_iff]
              simp
              omega
            rcases hsp with hsp | hsp | hsp
            all_goals
              simp only [hsp] at h22 h23 h24
              go_wp2_with fail
              refine hc.mono ?_
              clear hc
              rintro e w3 ⟨rfl, hr3, ht3⟩
              have H3 := Lib.hid (And.intro hr3 (H1.out.2.1.trans ht3))
              clear hr3 ht3 a0 a1 a2 hfz
              go_wp2_with fail
              go_roundg N
              case measure => omega
              case rel =>
                refine ⟨aft t 1, l', c' + Lib.runeCount (fore t 1), H3.out.1, H3.out.2, ?_, ?_⟩
                · rw [← H1.out.2.2]
                  simp only [blanksB]
                  rw [if_neg h0, if_neg (by rw [← HB0.out]; exact h10), if_neg (by rw [← HB0.out]; exact h35), if_pos (by rw [← HB0.out]; exact HSP.out)]
                · rw [aft_size]
                  omega
          · have h22 : (((t[0]'hpos).toNat : Int) == 32) = false := by
              rw [beq_eq_false_iff_ne]
              omega
            have h23 : (((t[0]'hpos).toNat : Int) == 9) = false := by
              rw [beq_eq_false_iff_ne]
              omega
            have h24 : (((t[0]'hpos).toNat : Int) == 13) = false := by
              rw [beq_eq_false_iff_ne]
              omega
            have HSP := Lib.hid hsp
            clear hsp
            go_wp2_with fail
            refine bodyPost_ret (v := .tuple #[]) (by simp [results, Tryz.results74, go_sem]) rfl ?_
            have hr : R = (t, l', c') := by
              rw [← H1.out.2.2]
              simp only [blanksB]
              rw [if_neg h0, if_neg (by rw [← HB0.out]; exact h10), if_neg (by rw [← HB0.out]; exact h35), if_neg (by rw [← HB0.out]; exact HSP.out)]
            rw [hr]
            exact ⟨rfl, H1.out.1, H1.out.2.1⟩
end Go.Proofs.YtmeacgmjpjjphaaGreatDoor
namespace Go.Proofs.YtmeacgmjpjjphaaGreatDoor
open Go.RowKit

/-- The library's tables and MaxLen lie as they were laid. -/
structure Env (w : World) : Prop where
  max : MaxAt w
  tabs : Lib.Utf8Tabs 1 2 w
theorem Env.below {w w' : World} (h : Env w) (hb : Below w.heap.size w w') : Env w' := by
  refine ⟨h.max.same (hb.block _ h.max.lt), fun c hc => ?_, fun i hi => ?_⟩
  · have := h.tabs.1 c hc
    exact (World.cell?_of_block (hb.block _ (cell_lt this))).trans this
  · obtain ⟨h1, h2⟩ := h.tabs.2 i hi
    exact ⟨(World.cell?_of_block (hb.block _ (cell_lt h1))).trans h1, (World.cell?_of_block (hb.block _ (cell_lt h2))).trans h2⟩
/-- A diagnosis, as an error. -/
def diagV (code l c : Int) : Value := .iface 41 (.agg #[.int .i64 code, .int .i64 l, .int .i64 c, .string ⟨#[]⟩])
def errV : Option (Int × Int) → Value
  | none => .nilIface
  | some (l, c) => diagV 3 l c
set_option maxRecDepth 100000 in
set_option maxHeartbeats 8000000 in
theorem valid_in {w : World} (s : ByteArray) (henv : Env w) (hs : s.size ≤ 131000) :
    Calls Tryz.prog 73 #[.string s] w fun e w' => e = .returned (errV (validB s.size s 1 1)) ∧ Below w.heap.size w w' := by
  have HE := Lib.hid henv
  obtain ⟨R, hR⟩ : ∃ z, validB s.size s 1 1 = z := ⟨_, rfl⟩
  rw [hR]
  have HR := Lib.hid hR
  clear hR
  have HB0 := Lib.hid ((Below.refl w.heap.size w).alloc (Nat.le_refl _) (.cells #[.string s, .int .i64 1, .int .i64 1] 144))
  have HL0 := Lib.hid (last w (.cells #[.string s, .int .i64 1, .int .i64 1] 144))
  have hgl := henv.max.lt
  have HNE := Lib.hid (show w.heap.size ≠ 3 by omega)
  clear henv hgl
  go_enter Tryz.func73, Tryz.ntmps73
  go_wp2_with fail
  generalize hW0 : w.alloc (.cells #[.string s, .int .i64 1, .int .i64 1] 144) = W0 at *
  clear hW0
  go_loopg [4] s.size (fun gk _ wr => ∃ (t : ByteArray) (l' c' : Int), Rd wr w.heap.size t l' c' ∧ Below w.heap.size w wr ∧ validB gk t l' c' = R ∧ t.size ≤ gk)
  case atStart => exact ⟨s, 1, 1, ⟨HL0.out, (HE.out.below HB0.out).max, HNE.out, by omega, by omega⟩, HB0.out, HR.out, Nat.le_refl _⟩
  case round =>
    obtain ⟨t, l', c', hrd, hbe, hva, hgk⟩ := hrel
    have H1 := Lib.hid (And.intro hrd (And.intro hbe hva))
    have hfz := frozenOf hrd.at'
    obtain ⟨a0, a1, a2⟩ := hrd.at'.cells
    have hsm := hrd.small
    have hln := hrd.line
    clear hrd hbe hva
    by_cases h0 : t.size = 0
    · have he := empty_of h0
      go_wp2_with fail
      go_ret
      have hr : R = none := by
        rw [← H1.out.2.2]
        cases gk with
        | zero => rfl
        | succ N => simp [validB, h0]
      rw [hr]
      exact ⟨rfl, H1.out.2.1⟩
    · have he := full_of h0
      obtain ⟨N, rfl⟩ : ∃ N, gk = N + 1 := ⟨gk - 1, by omega⟩
      have hpos : 0 < t.size := by omega
      have hc := Tryz.utf8_DecodeRuneInString t wr (HE.out.below H1.out.2.1).tabs
      have hd1 : 1 ≤ (Lib.decodeGo t).2 := by
        unfold Lib.decodeGo
        rw [if_neg h0]
        exact Lib.decode_width_pos t 0 hpos
      have hd2 := Lib.decodeGo_le_size t
      have hd3 : (Lib.decodeGo t).1 ≤ 2147483647 := by
        unfold Lib.decodeGo
        rw [if_neg h0]
        exact decode_le t 0
      have HV := Lib.hid (show validB (N + 1) t l' c' = if (Lib.decodeGo t).1 = 65533 ∧ (Lib.decodeGo t).2 = 1 then some (l', c') else if (Lib.decodeGo t).1 = 10 then validB N (aft t 1) (l' + 1) 1 else validB N (aft t (Lib.decodeGo t).2) l' (c' + Lib.runeCount (fore t (Lib.decodeGo t).2)) by
        simp only [validB]
        rw [if_neg h0])
      generalize (Lib.decodeGo t).1 = r at *
      generalize (Lib.decodeGo t).2 = n at *
      go_wp2_with fail
      refine hc.mono ?_
      clear hc
      rintro e w2 ⟨rfl, hb2⟩
      have hr2 := H1.out.1.under hb2
      have HB2 := Lib.hid (And.intro hr2 (chain H1.out.2.1 hb2))
      have hfz2 := frozenOf hr2.at'
      obtain ⟨c0, c1, c2⟩ := hr2.at'.cells
      clear a0 a1 a2 hfz hb2 hr2
      by_cases h65 : r = 65533 ∧ n = 1
      · obtain ⟨rfl, rfl⟩ := h65
        have hc := wrong_in HB2.out.1.at' 3
        go_wp2_with fail
        refine hc.mono ?_
        clear hc
        rintro e w3 ⟨rfl, hb3⟩
        have HF := Lib.hid (chain HB2.out.2 hb3)
        clear hb3
        go_wp2_with fail
        go_ret
        have hr : R = some (l', c') := by rw [← H1.out.2.2, HV.out]; simp
        rw [hr]
        exact ⟨rfl, HF.out⟩
      · have HN65 := Lib.hid h65
        have k65 : ((r : Int) == 65533) = true → ((n : Int) == 1) = false := fun h => by
          rw [beq_eq_false_iff_ne]
          intro h1
          apply h65
          have := eq_of_beq h
          omega
        by_cases h10 : r = 10
        · subst h10
          have hwr : IntKind.i64.wrap (l' + 1) = l' + 1 := IntWalk.i64_in _ (by omega)
          have h1' : (1 : Int) ≤ (t.size : Int) := by omega
          clear k65
          go_wp2_with fail
          go_region
          all_goals
            have H3 := Lib.hid (show Rd (((w2.setCell ⟨w.heap.size, 0, none⟩ (.string (t.extract 1 t.size))).setCell ⟨w.heap.size, 1, none⟩ (.int .i64 (l' + 1))).setCell ⟨w.heap.size, 2, none⟩ (.int .i64 1)).drew w.heap.size (aft t 1) (l' + 1) 1 ∧ Below w.heap.size w (((w2.setCell ⟨w.heap.size, 0, none⟩ (.string (t.extract 1 t.size))).setCell ⟨w.heap.size, 1, none⟩ (.int .i64 (l' + 1))).setCell ⟨w.heap.size, 2, none⟩ (.int .i64 1)).drew from
              ⟨HB2.out.1.nl hpos (show RdAt _ w.heap.size _ _ _ from setc (setc (setc HB2.out.1.at' 0 _) 1 _) 2 _) (((((Turn.refl w.heap.size w2).setCell 0 _).setCell 1 _).setCell 2 _).drew), (((HB2.out.2.setCell (Nat.le_refl _) _).setCell (Nat.le_refl _) _).setCell (Nat.le_refl _) _).drew⟩)
            clear c0 c1 c2 hfz2 hwr
            go_wp2_with fail
            go_roundg N
            case measure => omega
            case rel =>
              refine ⟨aft t 1, l' + 1, 1, H3.out.1, H3.out.2, ?_, ?_⟩
              · rw [← H1.out.2.2, HV.out]
                simp
              · rw [aft_size]
                omega
        · have k10 : ((r : Int) == 10) = false := by
            rw [beq_eq_false_iff_ne]
            omega
          have hc := HB2.out.1.skip (n := n) hd2
          by_cases hr65 : r = 65533
          · have k1 : ((r : Int) == 65533) = true := by simp [hr65]
            have k2 := k65 k1
            clear k65
            go_wp2_with fail
            refine hc.mono ?_
            clear hc
            rintro e w3 ⟨rfl, hr3, ht3⟩
            have H3 := Lib.hid (And.intro hr3 (HB2.out.2.trans (ht3.below (Nat.le_refl _) HB2.out.2.size)))
            clear hr3 ht3 c0 c1 c2 hfz2
            go_wp2_with fail
            go_roundg N
            case measure => omega
            case rel =>
              refine ⟨aft t n, l', c' + Lib.runeCount (fore t n), H3.out.1, H3.out.2, ?_, ?_⟩
              · rw [← H1.out.2.2, HV.out, if_neg HN65.out, if_neg h10]
              · rw [aft_size]
                omega
          · have k1 : ((r : Int) == 65533) = false := by
              rw [beq_eq_false_iff_ne]
              omega
            clear k65
            go_wp2_with fail
            refine hc.mono ?_
            clear hc
            rintro e w3 ⟨rfl, hr3, ht3⟩
            have H3 := Lib.hid (And.intro hr3 (HB2.out.2.trans (ht3.below (Nat.le_refl _) HB2.out.2.size)))
            clear hr3 ht3 c0 c1 c2 hfz2
            go_wp2_with fail
            go_roundg N
            case measure => omega
            case rel =>
              refine ⟨aft t n, l', c' + Lib.runeCount (fore t n), H3.out.1, H3.out.2, ?_, ?_⟩
              · rw [← H1.out.2.2, HV.out, if_neg HN65.out, if_neg h10]
              · rw [aft_size]
                omega
end Go.Proofs.YtmeacgmjpjjphaaGreatDoor
namespace Go.Proofs.YtmeacgmjpjjphaaGreatDoor
open Go.RowKit

theorem parse_ok : ∀ (l : List UInt8) (a : Nat), (∀ c ∈ l, digB c = true) → (a + 1) * 10 ^ l.length ≤ 10 ^ 18 → Lib.parseUintM (2 ^ 64 - 1) a l = .ok (l.foldl (fun a c => a * 10 + (c.toNat - 48)) a) ∧ l.foldl (fun a c => a * 10 + (c.toNat - 48)) a < 10 ^ 18
  | [], a, _, h => by
    refine ⟨rfl, ?_⟩
    simp at h ⊢
    omega
  | c :: r, a, hd, h => by
    have hc := hd c (by simp)
    unfold digB at hc
    have hc := of_decide_eq_true hc
    have hp : 1 ≤ 10 ^ r.length := Nat.one_le_pow _ _ (by decide)
    have h2 : (a * 10 + (c.toNat - 48) + 1) * 10 ^ r.length ≤ 10 ^ 18 := by
      refine Nat.le_trans ?_ h
      rw [List.length_cons, Nat.pow_succ, Nat.mul_comm (10 ^ r.length) 10, ← Nat.mul_assoc]
      exact Nat.mul_le_mul_right _ (by omega)
    have h3 : a * 10 + (c.toNat - 48) + 1 ≤ 10 ^ 18 := Nat.le_trans (Nat.le_mul_of_pos_right _ hp) h2
    have ih := parse_ok r (a * 10 + (c.toNat - 48)) (fun x hx => hd x (by simp [hx])) h2
    unfold Lib.parseUintM
    rw [if_pos hc, if_neg (by omega), if_neg (by omega)]
    exact ih
theorem parse_num {l : List UInt8} (h0 : l ≠ []) (hd : ∀ c ∈ l, digB c = true) (hl : l.length ≤ 18) : Lib.parseIntB 64 l = .ok (numV l : Int) := by
  have hp := parse_ok l 0 hd (by
    rw [Nat.zero_add, Nat.one_mul]
    exact Nat.pow_le_pow_right (by decide) hl)
  cases l with
  | nil => exact absurd rfl h0
  | cons c r =>
    have hc := hd c (by simp)
    unfold digB at hc
    have hc := of_decide_eq_true hc
    have h43 : ¬ (c.toNat = 43 ∨ c.toNat = 45) := by omega
    have h45 : ¬ c.toNat = 45 := by omega
    have hu : Lib.parseUintB 64 (c :: r) = .ok (numV (c :: r)) := by
      unfold Lib.parseUintB
      rw [if_neg (by simp)]
      exact hp.1
    have hlt : numV (c :: r) < 10 ^ 18 := hp.2
    simp only [Lib.parseIntB]
    rw [if_neg h43, hu]
    simp only
    rw [if_neg (by
      intro h
      have := h.2
      omega), if_neg (by
      intro h
      exact h45 h.1), if_neg h45]
theorem tw_mem {p : UInt8 → Bool} {c : UInt8} : ∀ {l : List UInt8}, c ∈ l.takeWhile p → p c = true
  | [], h => by simp at h
  | a :: l, h => by
    rw [List.takeWhile_cons] at h
    split at h
    · rename_i ha
      rcases List.mem_cons.1 h with e | e
      · subst e
        exact ha
      · exact tw_mem e
    · cases h
theorem takeWhile_mem {p : UInt8 → Bool} {l : List UInt8} {c : UInt8} (h : c ∈ l.take (l.takeWhile p).length) : p c = true := by
  have e : l.take (l.takeWhile p).length = l.takeWhile p := List.prefix_iff_eq_take.1 (List.takeWhile_prefix p) |>.symm
  rw [e] at h
  exact tw_mem h
theorem fore_list (s : ByteArray) (n : Nat) : (fore s n).data.toList = s.data.toList.take n := by
  unfold fore
  simp
theorem cntB_pos {p : UInt8 → Bool} {s : ByteArray} (h : 0 < s.size) (hp : p (hd s) = true) : 1 ≤ cntB p s := by
  unfold cntB hd at *
  have hl : 0 < s.data.toList.length := by simpa using h
  cases hs : s.data.toList with
  | nil =>
    rw [hs] at hl
    simp at hl
  | cons c r =>
    rw [hs] at hp
    simp only [List.getD_cons_zero] at hp
    rw [List.takeWhile_cons, hp]
    simp
theorem markB_le (s : ByteArray) : markB s ≤ s.size := by
  unfold markB
  cases h : marks.find? (fun m => Lib.hasPrefix s.data.toList m.data.toList) with
  | none => simp
  | some m =>
    have hp := List.find?_some h
    simp only [Lib.hasPrefix] at hp
    have hl := (List.isPrefixOf_iff_prefix.1 hp).length_le
    simpa using hl
def tokV (t : Tok) : Value := .agg #[.int .i64 t.kind, .string t.text, .int .i64 t.num, .int .i64 t.line, .int .i64 t.col]
def zeroTok : Tok := ⟨0, ⟨#[]⟩, 0, 0, 0⟩
theorem readB_n {s : ByteArray} (hpos : 0 < s.size) {k : Int} {n : Nat} {v : Int} (h : readB s = .tok k n v) : 1 ≤ n ∧ n ≤ s.size := by
  unfold readB at h
  split at h
  · rename_i hl
    split at h
    · cases h
    · cases h
      exact ⟨cntB_pos hpos (by unfold nameB; rw [hl]; rfl), cntB_le _ _⟩
  · split at h
    · rename_i hdg
      split at h
      · cases h
      · cases h
        exact ⟨cntB_pos hpos hdg, cntB_le _ _⟩
    · split at h
      · cases h
      · cases h
        rename_i hm
        exact ⟨by omega, markB_le _⟩
/-- Where token stands: its result's block, its token's block, the reader's. -/
structure TkAt (w : World) (b : Nat) (s : ByteArray) (l c k v : Int) (x : ByteArray) (wx : World) : Prop where
  below : Below w.heap.size w wx
  rd : Rd wx b s l c
  res : wx.heap[w.heap.size]? = some (.cells #[.int .i64 0, .string ⟨#[]⟩, .int .i64 0, .int .i64 0, .int .i64 0] 35)
  tk : wx.heap[w.heap.size + 1]? = some (.cells #[.int .i64 k, .string x, .int .i64 v, .int .i64 l, .int .i64 c] 35)
theorem TkAt.under {w : World} {b : Nat} {s : ByteArray} {l c k v : Int} {x : ByteArray} {wx wy : World} (h : TkAt w b s l c k v x wx) (hb : Below wx.heap.size wx wy) : TkAt w b s l c k v x wy :=
  ⟨chain h.below hb, h.rd.under hb, (hb.block _ (heap_lt h.res)).trans h.res, (hb.block _ (heap_lt h.tk)).trans h.tk⟩
theorem TkAt.set {w : World} {b : Nat} {s : ByteArray} {l c k v : Int} {x : ByteArray} {wx : World} (h : TkAt w b s l c k v x wx) (hbw : b < w.heap.size) (hgm : 3 < w.heap.size) (i : Nat) (p : Value) {k' v' : Int} {x' : ByteArray}
    (he : (#[.int .i64 k, .string x, .int .i64 v, .int .i64 l, .int .i64 c] : Array Value).setIfInBounds i p = #[.int .i64 k', .string x', .int .i64 v', .int .i64 l, .int .i64 c]) : TkAt w b s l c k' v' x' (wx.setCell ⟨w.heap.size + 1, i, none⟩ p) := by
  have hset : ∀ j, j ≠ w.heap.size + 1 → (wx.setCell ⟨w.heap.size + 1, i, none⟩ p).heap[j]? = wx.heap[j]? := fun j hj => Below.heap_setCell _ _ _ _ hj
  have hmx := h.rd
  refine ⟨h.below.setCell (by simp) _, ?_, (hset _ (by omega)).trans h.res, by rw [← he]; exact setc h.tk i p⟩
  exact ⟨(hset _ (by omega)).trans hmx.at', hmx.max.same (hset _ (by omega)), hmx.ne, hmx.line, hmx.col⟩
/-- How token ends. -/
def TokEnd (w : World) (b : Nat) (s : ByteArray) (l c : Int) (R : Read) (e : Ending) (w' : World) : Prop :=
  match R with
  | .bad x => e = .returned (.tuple #[tokV zeroTok, diagV x l c]) ∧ Rd w' b s l c ∧ Below w.heap.size w w'
  | .tok k n v => e = .returned (.tuple #[tokV ⟨k, fore s n, v, l, c⟩, .nilIface]) ∧ Rd w' b (aft s n) l (c + Lib.runeCount (fore s n)) ∧ Turn b w w'
set_option maxHeartbeats 4000000 in
theorem res_zero {w : World} {b : Nat} {s : ByteArray} {l c k v : Int} {x : ByteArray} {wx : World} (h : TkAt w b s l c k v x wx) (hbw : b < w.heap.size) (hgm : 3 < w.heap.size) :
    (((((wx.setCell ⟨w.heap.size, 0, none⟩ (.int .i64 0)).setCell ⟨w.heap.size, 1, none⟩ (.string ⟨#[]⟩)).setCell ⟨w.heap.size, 2, none⟩ (.int .i64 0)).setCell ⟨w.heap.size, 3, none⟩ (.int .i64 0)).setCell ⟨w.heap.size, 4, none⟩ (.int .i64 0)).heap[w.heap.size]? = some (.cells #[.int .i64 0, .string ⟨#[]⟩, .int .i64 0, .int .i64 0, .int .i64 0] 35) ∧
    Rd (((((wx.setCell ⟨w.heap.size, 0, none⟩ (.int .i64 0)).setCell ⟨w.heap.size, 1, none⟩ (.string ⟨#[]⟩)).setCell ⟨w.heap.size, 2, none⟩ (.int .i64 0)).setCell ⟨w.heap.size, 3, none⟩ (.int .i64 0)).setCell ⟨w.heap.size, 4, none⟩ (.int .i64 0)) b s l c ∧
    Below w.heap.size w (((((wx.setCell ⟨w.heap.size, 0, none⟩ (.int .i64 0)).setCell ⟨w.heap.size, 1, none⟩ (.string ⟨#[]⟩)).setCell ⟨w.heap.size, 2, none⟩ (.int .i64 0)).setCell ⟨w.heap.size, 3, none⟩ (.int .i64 0)).setCell ⟨w.heap.size, 4, none⟩ (.int .i64 0)) := by
  refine ⟨setc (setc (setc (setc (setc h.res 0 _) 1 _) 2 _) 3 _) 4 _, ?_, ((((h.below.setCell (Nat.le_refl _) _).setCell (Nat.le_refl _) _).setCell (Nat.le_refl _) _).setCell (Nat.le_refl _) _).setCell (Nat.le_refl _) _⟩
  have hset : ∀ j, j ≠ w.heap.size → (((((wx.setCell ⟨w.heap.size, 0, none⟩ (.int .i64 0)).setCell ⟨w.heap.size, 1, none⟩ (.string ⟨#[]⟩)).setCell ⟨w.heap.size, 2, none⟩ (.int .i64 0)).setCell ⟨w.heap.size, 3, none⟩ (.int .i64 0)).setCell ⟨w.heap.size, 4, none⟩ (.int .i64 0)).heap[j]? = wx.heap[j]? := fun j hj => by
    rw [Below.heap_setCell _ _ _ _ hj, Below.heap_setCell _ _ _ _ hj, Below.heap_setCell _ _ _ _ hj, Below.heap_setCell _ _ _ _ hj, Below.heap_setCell _ _ _ _ hj]
  exact ⟨(hset _ (by omega)).trans h.rd.at', h.rd.max.same (hset _ (by omega)), h.rd.ne, h.rd.line, h.rd.col⟩
set_option maxHeartbeats 4000000 in
theorem res_set {w wu : World} {b : Nat} {s : ByteArray} {l c : Int} (hr : Rd wu b s l c) (ht : Turn b w wu) (h : wu.heap[w.heap.size]? = some (.cells #[.int .i64 0, .string ⟨#[]⟩, .int .i64 0, .int .i64 0, .int .i64 0] 35)) (hbw : b < w.heap.size) (hgm : 3 < w.heap.size) (v0 v1 v2 v3 v4 : Value) :
    (((((wu.setCell ⟨w.heap.size, 0, none⟩ v0).setCell ⟨w.heap.size, 1, none⟩ v1).setCell ⟨w.heap.size, 2, none⟩ v2).setCell ⟨w.heap.size, 3, none⟩ v3).setCell ⟨w.heap.size, 4, none⟩ v4).heap[w.heap.size]? = some (.cells #[v0, v1, v2, v3, v4] 35) ∧
    Rd (((((wu.setCell ⟨w.heap.size, 0, none⟩ v0).setCell ⟨w.heap.size, 1, none⟩ v1).setCell ⟨w.heap.size, 2, none⟩ v2).setCell ⟨w.heap.size, 3, none⟩ v3).setCell ⟨w.heap.size, 4, none⟩ v4) b s l c ∧
    Turn b w (((((wu.setCell ⟨w.heap.size, 0, none⟩ v0).setCell ⟨w.heap.size, 1, none⟩ v1).setCell ⟨w.heap.size, 2, none⟩ v2).setCell ⟨w.heap.size, 3, none⟩ v3).setCell ⟨w.heap.size, 4, none⟩ v4) := by
  have hset : ∀ j, j ≠ w.heap.size → (((((wu.setCell ⟨w.heap.size, 0, none⟩ v0).setCell ⟨w.heap.size, 1, none⟩ v1).setCell ⟨w.heap.size, 2, none⟩ v2).setCell ⟨w.heap.size, 3, none⟩ v3).setCell ⟨w.heap.size, 4, none⟩ v4).heap[j]? = wu.heap[j]? := fun j hj => by
    rw [Below.heap_setCell _ _ _ _ hj, Below.heap_setCell _ _ _ _ hj, Below.heap_setCell _ _ _ _ hj, Below.heap_setCell _ _ _ _ hj, Below.heap_setCell _ _ _ _ hj]
  refine ⟨setc (setc (setc (setc (setc h 0 _) 1 _) 2 _) 3 _) 4 _, ⟨(hset _ (by omega)).trans hr.at', hr.max.same (hset _ (by omega)), hr.ne, hr.line, hr.col⟩, ⟨ht.os, ht.tape, ht.output, ?_, fun k hk hb => (hset _ (by omega)).trans (ht.block k hk hb)⟩⟩
  have := ht.size
  simpa [World.setCell] using this
set_option maxRecDepth 100000 in
set_option maxHeartbeats 16000000 in
theorem token_in {w : World} {b : Nat} {s : ByteArray} {l c : Int} (h : Rd w b s l c) (hpos : 0 < s.size) :
    Calls Tryz.prog 75 #[.pointer (some ⟨b, 0, none⟩)] w fun e w' => TokEnd w b s l c (readB s) e w' := by
  have hsm := h.small
  have HBW := Lib.hid (show b < w.heap.size ∧ 3 < w.heap.size from ⟨heap_lt h.at', h.max.lt⟩)
  have hb0 := (Below.refl w.heap.size w).alloc (Nat.le_refl _) (.cells #[.int .i64 0, .string ⟨#[]⟩, .int .i64 0, .int .i64 0, .int .i64 0] 35)
  have hb1 := hb0.alloc (by simp) (.cells #[.int .i64 0, .string ⟨#[]⟩, .int .i64 0, .int .i64 l, .int .i64 c] 35)
  have hT : TkAt w b s l c 0 0 ⟨#[]⟩ ((w.alloc (.cells #[.int .i64 0, .string ⟨#[]⟩, .int .i64 0, .int .i64 0, .int .i64 0] 35)).alloc (.cells #[.int .i64 0, .string ⟨#[]⟩, .int .i64 0, .int .i64 l, .int .i64 c] 35)) :=
    ⟨hb1, h.under hb1, (Below.heap_alloc _ _ _ (by simp)).trans (last w _), lastk _ _ (by simp)⟩
  have HT := Lib.hid hT
  obtain ⟨b0, b1, b2⟩ := h.at'.cells
  have hbw := heap_lt h.at'
  clear h hb0 hb1 hT
  have hb0' := hd_eq hpos
  have hcl := letter_in (s[0]'hpos)
  have hcd := digit_in (s[0]'hpos)
  have HDG := Lib.hid hcd
  have HB0 := Lib.hid hb0'
  clear hb0' hcd
  cases hl : letB (s[0]'hpos) with
  | true =>
    simp only [hl] at hcl
    have HL := Lib.hid (show letB (hd s) = true by rw [← HB0.out]; exact hl)
    clear hl
    have HCL := Lib.hid hcl
    clear hcl
    go_enter Tryz.func75, Tryz.ntmps75
    go_wp2_with fail
    generalize (w.alloc (.cells #[.int .i64 0, .string ⟨#[]⟩, .int .i64 0, .int .i64 0, .int .i64 0] 35)).alloc (.cells #[.int .i64 0, .string ⟨#[]⟩, .int .i64 0, .int .i64 l, .int .i64 c] 35) = w2 at *
    refine (HCL.out w2).mono ?_
    rintro e w2' ⟨rfl, rfl⟩
    have hc := count_in (g := 98) nameB nameB_in (fun _ _ => by kernel_rfl) s w2 (by omega)
    clear b0 b1 b2
    obtain ⟨b0, b1, b2⟩ := HT.out.rd.at'.cells
    have tf := frozenOf HT.out.tk
    obtain ⟨t0, t1, t2, t3, t4⟩ := cellsOf5 HT.out.tk
    go_wp2_with fail
    refine hc.mono ?_
    clear hc
    rintro e w2' ⟨rfl, rfl⟩
    have hn := cntB_le nameB s
    obtain ⟨n, hnn⟩ : ∃ z, cntB nameB s = z := ⟨_, rfl⟩
    rw [hnn] at hn
    rw [hnn]
    have HNN := Lib.hid hnn
    clear hnn
    go_upto_region 11 with fail
    have HN := Lib.hid (HT.out.set HBW.out.1 HBW.out.2 0 (.int .i64 1) (k' := 1) (v' := 0) (x' := ⟨#[]⟩) rfl)
    clear b0 b1 b2 tf t0 t1 t2 t3 t4
    clear HT
    generalize w2.setCell ⟨w.heap.size + 1, 0, none⟩ (.int .i64 1) = w3 at *
    have HT := HN
    clear HN
    have hc := Own_in (s.extract 0 n) w3
    obtain ⟨b0, b1, b2⟩ := HT.out.rd.at'.cells
    have tf := frozenOf HT.out.tk
    obtain ⟨t0, t1, t2, t3, t4⟩ := cellsOf5 HT.out.tk
    have hn0 : (n : Int) ≤ (s.size : Int) := by omega
    go_wp2_with fail
    refine hc.mono ?_
    clear hc
    rintro e w4 ⟨rfl, hb4⟩
    have HN := Lib.hid (HT.out.under hb4)
    clear hb4 HT b0 b1 b2 tf t0 t1 t2 t3 t4
    have HT := HN
    clear HN
    obtain ⟨b0, b1, b2⟩ := HT.out.rd.at'.cells
    have tf := frozenOf HT.out.tk
    obtain ⟨t0, t1, t2, t3, t4⟩ := cellsOf5 HT.out.tk
    cases ho : ownB (s.extract 0 n) with
    | true =>
      have HO := Lib.hid (show ownB (fore s n) = true from ho)
      clear ho
      go_upto_region 13 with fail
      have HN := Lib.hid (HT.out.set HBW.out.1 HBW.out.2 0 (.int .i64 2) (k' := 2) (v' := 0) (x' := ⟨#[]⟩) rfl)
      clear b0 b1 b2 tf t0 t1 t2 t3 t4
      clear HT
      generalize w4.setCell ⟨w.heap.size + 1, 0, none⟩ (.int .i64 2) = w5 at *
      have HT := HN
      clear HN
      by_cases h40 : (40 : Int) < (n : Int)
      · have b0 := True.intro
        have H40 := Lib.hid h40
        obtain ⟨b0, b1, b2⟩ := HT.out.rd.at'.cells
        have tf := True.intro
        have t0 := True.intro
        have t1 := True.intro
        have t2 := True.intro
        have t3 := True.intro
        have t4 := True.intro
        have hc := wrong_in HT.out.rd.at' 6
        clear b0 b1 b2 tf t0 t1 t2 t3 t4
        have hrf := frozenOf HT.out.res
        obtain ⟨r0, r1, r2, r3, r4⟩ := cellsOf5 HT.out.res
        obtain ⟨b0, b1, b2⟩ := HT.out.rd.at'.cells
        go_wp2_with fail
        refine hc.mono ?_
        clear hc
        rintro e we ⟨rfl, hbe⟩
        have HE := Lib.hid (HT.out.under hbe)
        clear hbe hrf r0 r1 r2 r3 r4 b0 b1 b2
        have hrf := frozenOf HE.out.res
        obtain ⟨r0, r1, r2, r3, r4⟩ := cellsOf5 HE.out.res
        go_wp2_with fail
        have HS := Lib.hid (res_zero HE.out HBW.out.1 HBW.out.2)
        obtain ⟨q0, q1, q2, q3, q4⟩ := cellsOf5 HS.out.1
        have HRD := Lib.hid (show readB s = .bad 6 by unfold readB; rw [if_pos HL.out, HNN.out, if_pos (by have := H40.out; omega)])
        rw [HRD.out]
        exact bodyPost_ret (v := .tuple #[.agg #[.int .i64 0, .string ⟨#[]⟩, .int .i64 0, .int .i64 0, .int .i64 0], diagV 6 l c]) (by simp [results, Tryz.results75, go_sem, q0, q1, q2, q3, q4]; rfl) rfl ⟨rfl, HS.out.2.1, HS.out.2.2⟩
      · have H40 := Lib.hid h40
        have HRD := Lib.hid (show readB s = .tok 2 n 0 by unfold readB; rw [if_pos HL.out, HNN.out, if_neg (by have := H40.out; omega), HO.out]; rfl)
        obtain ⟨b0, b1, b2⟩ := HT.out.rd.at'.cells
        have tf := frozenOf HT.out.tk
        obtain ⟨t0, t1, t2, t3, t4⟩ := cellsOf5 HT.out.tk
        have hn0 : (n : Int) ≤ (s.size : Int) := by omega
        go_upto_region 22 with fail
        have HN := Lib.hid (HT.out.set HBW.out.1 HBW.out.2 1 (.string (s.extract 0 n)) (k' := 2) (v' := 0) (x' := s.extract 0 n) rfl)
        clear b0 b1 b2 tf t0 t1 t2 t3 t4
        clear HT
        generalize w5.setCell ⟨w.heap.size + 1, 1, none⟩ (.string (s.extract 0 n)) = wt at *
        have HT := HN
        clear HN
        have hc := HT.out.rd.skip (n := n) hn
        go_wp2_with fail
        refine hc.mono ?_
        clear hc
        rintro e wu ⟨rfl, hru, htu⟩
        have hw1 := HT.out.below.size
        have HU := Lib.hid (show Rd wu b (aft s n) l (c + Lib.runeCount (fore s n)) ∧ Turn b w wu ∧ wu.heap[w.heap.size]? = some (.cells #[.int .i64 0, .string ⟨#[]⟩, .int .i64 0, .int .i64 0, .int .i64 0] 35) ∧ wu.heap[w.heap.size + 1]? = some (.cells #[.int .i64 2, .string (s.extract 0 n), .int .i64 0, .int .i64 l, .int .i64 c] 35) from
          ⟨hru, (Turn.of b HT.out.below).trans htu, (htu.block _ (heap_lt HT.out.res) (by have := HBW.out.1; omega)).trans HT.out.res, (htu.block _ (heap_lt HT.out.tk) (by have := HBW.out.1; omega)).trans HT.out.tk⟩)
        clear hru htu
        have hrf := frozenOf HU.out.2.2.1
        obtain ⟨r0, r1, r2, r3, r4⟩ := cellsOf5 HU.out.2.2.1
        obtain ⟨t0, t1, t2, t3, t4⟩ := cellsOf5 HU.out.2.2.2
        go_wp2_with fail
        have HS := Lib.hid (res_set HU.out.1 HU.out.2.1 HU.out.2.2.1 HBW.out.1 HBW.out.2 (.int .i64 2) (.string (s.extract 0 n)) (.int .i64 0) (.int .i64 l) (.int .i64 c))
        obtain ⟨q0, q1, q2, q3, q4⟩ := cellsOf5 HS.out.1
        rw [HRD.out]
        exact bodyPost_ret (v := .tuple #[.agg #[.int .i64 2, .string (s.extract 0 n), .int .i64 0, .int .i64 l, .int .i64 c], .nilIface]) (by simp [results, Tryz.results75, go_sem, q0, q1, q2, q3, q4]) rfl ⟨rfl, HS.out.2.1, HS.out.2.2⟩
    | false =>
      have HO := Lib.hid (show ownB (fore s n) = false from ho)
      clear ho
      by_cases h40 : (40 : Int) < (n : Int)
      · have H40 := Lib.hid h40
        have hc := wrong_in HT.out.rd.at' 6
        clear b0 b1 b2 tf t0 t1 t2 t3 t4
        have hrf := frozenOf HT.out.res
        obtain ⟨r0, r1, r2, r3, r4⟩ := cellsOf5 HT.out.res
        obtain ⟨b0, b1, b2⟩ := HT.out.rd.at'.cells
        go_wp2_with fail
        refine hc.mono ?_
        clear hc
        rintro e we ⟨rfl, hbe⟩
        have HE := Lib.hid (HT.out.under hbe)
        clear hbe hrf r0 r1 r2 r3 r4 b0 b1 b2
        have hrf := frozenOf HE.out.res
        obtain ⟨r0, r1, r2, r3, r4⟩ := cellsOf5 HE.out.res
        go_wp2_with fail
        have HS := Lib.hid (res_zero HE.out HBW.out.1 HBW.out.2)
        obtain ⟨q0, q1, q2, q3, q4⟩ := cellsOf5 HS.out.1
        have HRD := Lib.hid (show readB s = .bad 6 by unfold readB; rw [if_pos HL.out, HNN.out, if_pos (by have := H40.out; omega)])
        rw [HRD.out]
        exact bodyPost_ret (v := .tuple #[.agg #[.int .i64 0, .string ⟨#[]⟩, .int .i64 0, .int .i64 0, .int .i64 0], diagV 6 l c]) (by simp [results, Tryz.results75, go_sem, q0, q1, q2, q3, q4]; rfl) rfl ⟨rfl, HS.out.2.1, HS.out.2.2⟩
      · have H40 := Lib.hid h40
        clear b0 b1 b2 tf t0 t1 t2 t3 t4
        have HRD := Lib.hid (show readB s = .tok 1 n 0 by unfold readB; rw [if_pos HL.out, HNN.out, if_neg (by have := H40.out; omega), HO.out]; rfl)
        obtain ⟨b0, b1, b2⟩ := HT.out.rd.at'.cells
        have tf := frozenOf HT.out.tk
        obtain ⟨t0, t1, t2, t3, t4⟩ := cellsOf5 HT.out.tk
        have hn0 : (n : Int) ≤ (s.size : Int) := by omega
        go_upto_region 22 with fail
        have HN := Lib.hid (HT.out.set HBW.out.1 HBW.out.2 1 (.string (s.extract 0 n)) (k' := 1) (v' := 0) (x' := s.extract 0 n) rfl)
        clear b0 b1 b2 tf t0 t1 t2 t3 t4
        clear HT
        generalize w4.setCell ⟨w.heap.size + 1, 1, none⟩ (.string (s.extract 0 n)) = wt at *
        have HT := HN
        clear HN
        have hc := HT.out.rd.skip (n := n) hn
        go_wp2_with fail
        refine hc.mono ?_
        clear hc
        rintro e wu ⟨rfl, hru, htu⟩
        have hw1 := HT.out.below.size
        have HU := Lib.hid (show Rd wu b (aft s n) l (c + Lib.runeCount (fore s n)) ∧ Turn b w wu ∧ wu.heap[w.heap.size]? = some (.cells #[.int .i64 0, .string ⟨#[]⟩, .int .i64 0, .int .i64 0, .int .i64 0] 35) ∧ wu.heap[w.heap.size + 1]? = some (.cells #[.int .i64 1, .string (s.extract 0 n), .int .i64 0, .int .i64 l, .int .i64 c] 35) from
          ⟨hru, (Turn.of b HT.out.below).trans htu, (htu.block _ (heap_lt HT.out.res) (by have := HBW.out.1; omega)).trans HT.out.res, (htu.block _ (heap_lt HT.out.tk) (by have := HBW.out.1; omega)).trans HT.out.tk⟩)
        clear hru htu
        have hrf := frozenOf HU.out.2.2.1
        obtain ⟨r0, r1, r2, r3, r4⟩ := cellsOf5 HU.out.2.2.1
        obtain ⟨t0, t1, t2, t3, t4⟩ := cellsOf5 HU.out.2.2.2
        go_wp2_with fail
        have HS := Lib.hid (res_set HU.out.1 HU.out.2.1 HU.out.2.2.1 HBW.out.1 HBW.out.2 (.int .i64 1) (.string (s.extract 0 n)) (.int .i64 0) (.int .i64 l) (.int .i64 c))
        obtain ⟨q0, q1, q2, q3, q4⟩ := cellsOf5 HS.out.1
        rw [HRD.out]
        exact bodyPost_ret (v := .tuple #[.agg #[.int .i64 1, .string (s.extract 0 n), .int .i64 0, .int .i64 l, .int .i64 c], .nilIface]) (by simp [results, Tryz.results75, go_sem, q0, q1, q2, q3, q4]) rfl ⟨rfl, HS.out.2.1, HS.out.2.2⟩
  | false =>
    simp only [hl] at hcl
    have HL := Lib.hid (show letB (hd s) = false by rw [← HB0.out]; exact hl)
    clear hl
    have HCL := Lib.hid hcl
    clear hcl
    have hcd := HDG.out
    go_enter Tryz.func75, Tryz.ntmps75
    cases hdg : digB (s[0]'hpos) with
    | true =>
      simp only [hdg] at hcd
      have HD := Lib.hid (show digB (hd s) = true by rw [← HB0.out]; exact hdg)
      clear hdg
      have HCD := Lib.hid hcd
      clear hcd
      go_wp2_with fail
      generalize (w.alloc (.cells #[.int .i64 0, .string ⟨#[]⟩, .int .i64 0, .int .i64 0, .int .i64 0] 35)).alloc (.cells #[.int .i64 0, .string ⟨#[]⟩, .int .i64 0, .int .i64 l, .int .i64 c] 35) = w2 at *
      refine (HCL.out w2).mono ?_
      rintro e w2' ⟨rfl, rfl⟩
      clear b0 b1 b2
      obtain ⟨b0, b1, b2⟩ := HT.out.rd.at'.cells
      have tf := frozenOf HT.out.tk
      obtain ⟨t0, t1, t2, t3, t4⟩ := cellsOf5 HT.out.tk
      go_wp2_with fail
      refine (HCD.out w2).mono ?_
      rintro e w2' ⟨rfl, rfl⟩
      have hc := count_in (g := 99) digB digit_in (fun _ _ => by kernel_rfl) s w2 (by omega)
      go_wp2_with fail
      refine hc.mono ?_
      clear hc
      rintro e w2' ⟨rfl, rfl⟩
      have hn := cntB_le digB s
      obtain ⟨n, hnn⟩ : ∃ z, cntB digB s = z := ⟨_, rfl⟩
      rw [hnn] at hn
      rw [hnn]
      have HNN := Lib.hid hnn
      clear hnn
      by_cases h18 : (18 : Int) < (n : Int)
      · have H18 := Lib.hid h18
        have hc := wrong_in HT.out.rd.at' 6
        clear b0 b1 b2 tf t0 t1 t2 t3 t4
        have hrf := frozenOf HT.out.res
        obtain ⟨r0, r1, r2, r3, r4⟩ := cellsOf5 HT.out.res
        obtain ⟨b0, b1, b2⟩ := HT.out.rd.at'.cells
        go_wp2_with fail
        refine hc.mono ?_
        clear hc
        rintro e we ⟨rfl, hbe⟩
        have HE := Lib.hid (HT.out.under hbe)
        clear hbe hrf r0 r1 r2 r3 r4 b0 b1 b2
        have hrf := frozenOf HE.out.res
        obtain ⟨r0, r1, r2, r3, r4⟩ := cellsOf5 HE.out.res
        go_wp2_with fail
        have HS := Lib.hid (res_zero HE.out HBW.out.1 HBW.out.2)
        obtain ⟨q0, q1, q2, q3, q4⟩ := cellsOf5 HS.out.1
        have HRD := Lib.hid (show readB s = .bad 6 by unfold readB; rw [if_neg (by rw [HL.out]; simp), if_pos HD.out, HNN.out, if_pos (by have := H18.out; omega)])
        rw [HRD.out]
        exact bodyPost_ret (v := .tuple #[.agg #[.int .i64 0, .string ⟨#[]⟩, .int .i64 0, .int .i64 0, .int .i64 0], diagV 6 l c]) (by simp [results, Tryz.results75, go_sem, q0, q1, q2, q3, q4]; rfl) rfl ⟨rfl, HS.out.2.1, HS.out.2.2⟩
      · have H18 := Lib.hid h18
        go_upto_region 20 with fail
        have HN := Lib.hid (HT.out.set HBW.out.1 HBW.out.2 0 (.int .i64 3) (k' := 3) (v' := 0) (x' := ⟨#[]⟩) rfl)
        clear b0 b1 b2 tf t0 t1 t2 t3 t4
        clear HT
        generalize w2.setCell ⟨w.heap.size + 1, 0, none⟩ (.int .i64 3) = w3 at *
        have HT := HN
        clear HN
        obtain ⟨v, hv⟩ : ∃ z : Int, (numV (fore s n).data.toList : Int) = z := ⟨_, rfl⟩
        have hps : Lib.parseIntB 64 (s.extract 0 n).data.toList = .ok v := by
          have hfl := fore_list s n
          have hn18 := H18.out
          have hn1 : 1 ≤ n := by
            rw [← HNN.out]
            exact cntB_pos hpos HD.out
          have hlen : (fore s n).data.toList.length = n := by
            rw [hfl, List.length_take]
            have : s.data.toList.length = s.size := by simp
            omega
          have := parse_num (l := (fore s n).data.toList) (by
            intro e
            rw [e] at hlen
            simp at hlen
            omega) (fun c hc => by
            rw [hfl, ← HNN.out] at hc
            exact takeWhile_mem hc) (by omega)
          rw [hv] at this
          exact this
        have HVV := Lib.hid hv
        have hc := Tryz.strconv_ParseInt_10_at64_ok (s.extract 0 n) (by
          have := fore_size hn
          unfold fore at this
          omega) v hps w3
        clear hps hv
        obtain ⟨b0, b1, b2⟩ := HT.out.rd.at'.cells
        have tf := frozenOf HT.out.tk
        obtain ⟨t0, t1, t2, t3, t4⟩ := cellsOf5 HT.out.tk
        have hn0 : (n : Int) ≤ (s.size : Int) := by omega
        go_wp2_with fail
        refine hc.mono ?_
        clear hc
        rintro e w4 ⟨rfl, hw4⟩
        have hb4 : Below w3.heap.size w3 w4 := by
          rcases hw4 with e | ⟨t, e⟩
          · rw [e]
            exact Below.refl _ _
          · rw [e]
            exact Lib.bytesWorld_below _ _ _
        have HN := Lib.hid (HT.out.under hb4)
        clear hb4 hw4 HT b0 b1 b2 tf t0 t1 t2 t3 t4
        have HT := HN
        clear HN
        obtain ⟨b0, b1, b2⟩ := HT.out.rd.at'.cells
        have tf := frozenOf HT.out.tk
        obtain ⟨t0, t1, t2, t3, t4⟩ := cellsOf5 HT.out.tk
        go_upto_region 21 with fail
        have HN := Lib.hid (HT.out.set HBW.out.1 HBW.out.2 2 (.int .i64 v) (k' := 3) (v' := v) (x' := ⟨#[]⟩) rfl)
        clear b0 b1 b2 tf t0 t1 t2 t3 t4
        clear HT
        generalize w4.setCell ⟨w.heap.size + 1, 2, none⟩ (.int .i64 v) = w5 at *
        have HT := HN
        clear HN
        have HRD := Lib.hid (show readB s = .tok 3 n v by unfold readB; rw [if_neg (by rw [HL.out]; simp), if_pos HD.out, HNN.out, if_neg (by have := H18.out; omega), HVV.out])
        obtain ⟨b0, b1, b2⟩ := HT.out.rd.at'.cells
        have tf := frozenOf HT.out.tk
        obtain ⟨t0, t1, t2, t3, t4⟩ := cellsOf5 HT.out.tk
        have hn0 : (n : Int) ≤ (s.size : Int) := by omega
        go_upto_region 22 with fail
        have HN := Lib.hid (HT.out.set HBW.out.1 HBW.out.2 1 (.string (s.extract 0 n)) (k' := 3) (v' := v) (x' := s.extract 0 n) rfl)
        clear b0 b1 b2 tf t0 t1 t2 t3 t4
        clear HT
        generalize w5.setCell ⟨w.heap.size + 1, 1, none⟩ (.string (s.extract 0 n)) = wt at *
        have HT := HN
        clear HN
        have hc := HT.out.rd.skip (n := n) hn
        go_wp2_with fail
        refine hc.mono ?_
        clear hc
        rintro e wu ⟨rfl, hru, htu⟩
        have hw1 := HT.out.below.size
        have HU := Lib.hid (show Rd wu b (aft s n) l (c + Lib.runeCount (fore s n)) ∧ Turn b w wu ∧ wu.heap[w.heap.size]? = some (.cells #[.int .i64 0, .string ⟨#[]⟩, .int .i64 0, .int .i64 0, .int .i64 0] 35) ∧ wu.heap[w.heap.size + 1]? = some (.cells #[.int .i64 3, .string (s.extract 0 n), .int .i64 v, .int .i64 l, .int .i64 c] 35) from
          ⟨hru, (Turn.of b HT.out.below).trans htu, (htu.block _ (heap_lt HT.out.res) (by have := HBW.out.1; omega)).trans HT.out.res, (htu.block _ (heap_lt HT.out.tk) (by have := HBW.out.1; omega)).trans HT.out.tk⟩)
        clear hru htu
        have hrf := frozenOf HU.out.2.2.1
        obtain ⟨r0, r1, r2, r3, r4⟩ := cellsOf5 HU.out.2.2.1
        obtain ⟨t0, t1, t2, t3, t4⟩ := cellsOf5 HU.out.2.2.2
        go_wp2_with fail
        have HS := Lib.hid (res_set HU.out.1 HU.out.2.1 HU.out.2.2.1 HBW.out.1 HBW.out.2 (.int .i64 3) (.string (s.extract 0 n)) (.int .i64 v) (.int .i64 l) (.int .i64 c))
        obtain ⟨q0, q1, q2, q3, q4⟩ := cellsOf5 HS.out.1
        rw [HRD.out]
        exact bodyPost_ret (v := .tuple #[.agg #[.int .i64 3, .string (s.extract 0 n), .int .i64 v, .int .i64 l, .int .i64 c], .nilIface]) (by simp [results, Tryz.results75, go_sem, q0, q1, q2, q3, q4]) rfl ⟨rfl, HS.out.2.1, HS.out.2.2⟩
    | false =>
      simp only [hdg] at hcd
      have HD := Lib.hid (show digB (hd s) = false by rw [← HB0.out]; exact hdg)
      clear hdg
      have HCD := Lib.hid hcd
      clear hcd
      go_wp2_with fail
      generalize (w.alloc (.cells #[.int .i64 0, .string ⟨#[]⟩, .int .i64 0, .int .i64 0, .int .i64 0] 35)).alloc (.cells #[.int .i64 0, .string ⟨#[]⟩, .int .i64 0, .int .i64 l, .int .i64 c] 35) = w2 at *
      refine (HCL.out w2).mono ?_
      rintro e w2' ⟨rfl, rfl⟩
      clear b0 b1 b2
      obtain ⟨b0, b1, b2⟩ := HT.out.rd.at'.cells
      have tf := frozenOf HT.out.tk
      obtain ⟨t0, t1, t2, t3, t4⟩ := cellsOf5 HT.out.tk
      go_wp2_with fail
      refine (HCD.out w2).mono ?_
      rintro e w2' ⟨rfl, rfl⟩
      have hc := mark_in s w2
      go_wp2_with fail
      refine hc.mono ?_
      clear hc
      rintro e w3 ⟨rfl, hb3⟩
      have HN := Lib.hid (HT.out.under hb3)
      clear hb3 HT b0 b1 b2 tf t0 t1 t2 t3 t4
      have HT := HN
      clear HN
      have hn := markB_le s
      obtain ⟨n, hnn⟩ : ∃ z, markB s = z := ⟨_, rfl⟩
      rw [hnn] at hn
      rw [hnn]
      have HNN := Lib.hid hnn
      clear hnn
      obtain ⟨b0, b1, b2⟩ := HT.out.rd.at'.cells
      have tf := frozenOf HT.out.tk
      obtain ⟨t0, t1, t2, t3, t4⟩ := cellsOf5 HT.out.tk
      by_cases h0 : n = 0
      · subst h0
        have hc := wrong_in HT.out.rd.at' 4
        clear b0 b1 b2 tf t0 t1 t2 t3 t4
        have hrf := frozenOf HT.out.res
        obtain ⟨r0, r1, r2, r3, r4⟩ := cellsOf5 HT.out.res
        obtain ⟨b0, b1, b2⟩ := HT.out.rd.at'.cells
        go_wp2_with fail
        refine hc.mono ?_
        clear hc
        rintro e we ⟨rfl, hbe⟩
        have HE := Lib.hid (HT.out.under hbe)
        clear hbe hrf r0 r1 r2 r3 r4 b0 b1 b2
        have hrf := frozenOf HE.out.res
        obtain ⟨r0, r1, r2, r3, r4⟩ := cellsOf5 HE.out.res
        go_wp2_with fail
        have HS := Lib.hid (res_zero HE.out HBW.out.1 HBW.out.2)
        obtain ⟨q0, q1, q2, q3, q4⟩ := cellsOf5 HS.out.1
        have HRD := Lib.hid (show readB s = .bad 4 by unfold readB; rw [if_neg (by rw [HL.out]; simp), if_neg (by rw [HD.out]; simp), if_pos HNN.out])
        rw [HRD.out]
        exact bodyPost_ret (v := .tuple #[.agg #[.int .i64 0, .string ⟨#[]⟩, .int .i64 0, .int .i64 0, .int .i64 0], diagV 4 l c]) (by simp [results, Tryz.results75, go_sem, q0, q1, q2, q3, q4]; rfl) rfl ⟨rfl, HS.out.2.1, HS.out.2.2⟩
      · have H0 := Lib.hid h0
        have k0 : ((n : Int) == 0) = false := by
          rw [beq_eq_false_iff_ne]
          omega
        go_upto_region 21 with fail
        have HN := Lib.hid (HT.out.set HBW.out.1 HBW.out.2 0 (.int .i64 4) (k' := 4) (v' := 0) (x' := ⟨#[]⟩) rfl)
        clear b0 b1 b2 tf t0 t1 t2 t3 t4
        clear HT
        generalize w3.setCell ⟨w.heap.size + 1, 0, none⟩ (.int .i64 4) = w5 at *
        have HT := HN
        clear HN
        have HRD := Lib.hid (show readB s = .tok 4 n 0 by unfold readB; rw [if_neg (by rw [HL.out]; simp), if_neg (by rw [HD.out]; simp), HNN.out, if_neg H0.out])
        obtain ⟨b0, b1, b2⟩ := HT.out.rd.at'.cells
        have tf := frozenOf HT.out.tk
        obtain ⟨t0, t1, t2, t3, t4⟩ := cellsOf5 HT.out.tk
        have hn0 : (n : Int) ≤ (s.size : Int) := by omega
        go_upto_region 22 with fail
        have HN := Lib.hid (HT.out.set HBW.out.1 HBW.out.2 1 (.string (s.extract 0 n)) (k' := 4) (v' := 0) (x' := s.extract 0 n) rfl)
        clear b0 b1 b2 tf t0 t1 t2 t3 t4
        clear HT
        generalize w5.setCell ⟨w.heap.size + 1, 1, none⟩ (.string (s.extract 0 n)) = wt at *
        have HT := HN
        clear HN
        have hc := HT.out.rd.skip (n := n) hn
        go_wp2_with fail
        refine hc.mono ?_
        clear hc
        rintro e wu ⟨rfl, hru, htu⟩
        have hw1 := HT.out.below.size
        have HU := Lib.hid (show Rd wu b (aft s n) l (c + Lib.runeCount (fore s n)) ∧ Turn b w wu ∧ wu.heap[w.heap.size]? = some (.cells #[.int .i64 0, .string ⟨#[]⟩, .int .i64 0, .int .i64 0, .int .i64 0] 35) ∧ wu.heap[w.heap.size + 1]? = some (.cells #[.int .i64 4, .string (s.extract 0 n), .int .i64 0, .int .i64 l, .int .i64 c] 35) from
          ⟨hru, (Turn.of b HT.out.below).trans htu, (htu.block _ (heap_lt HT.out.res) (by have := HBW.out.1; omega)).trans HT.out.res, (htu.block _ (heap_lt HT.out.tk) (by have := HBW.out.1; omega)).trans HT.out.tk⟩)
        clear hru htu
        have hrf := frozenOf HU.out.2.2.1
        obtain ⟨r0, r1, r2, r3, r4⟩ := cellsOf5 HU.out.2.2.1
        obtain ⟨t0, t1, t2, t3, t4⟩ := cellsOf5 HU.out.2.2.2
        go_wp2_with fail
        have HS := Lib.hid (res_set HU.out.1 HU.out.2.1 HU.out.2.2.1 HBW.out.1 HBW.out.2 (.int .i64 4) (.string (s.extract 0 n)) (.int .i64 0) (.int .i64 l) (.int .i64 c))
        obtain ⟨q0, q1, q2, q3, q4⟩ := cellsOf5 HS.out.1
        rw [HRD.out]
        exact bodyPost_ret (v := .tuple #[.agg #[.int .i64 4, .string (s.extract 0 n), .int .i64 0, .int .i64 l, .int .i64 c], .nilIface]) (by simp [results, Tryz.results75, go_sem, q0, q1, q2, q3, q4]) rfl ⟨rfl, HS.out.2.1, HS.out.2.2⟩
end Go.Proofs.YtmeacgmjpjjphaaGreatDoor
namespace Go.Proofs.YtmeacgmjpjjphaaGreatDoor
open Go.RowKit

theorem blanksB_size : ∀ (N : Nat) (s : ByteArray) (l c : Int), (blanksB N s l c).1.size ≤ s.size
  | 0, s, l, c => Nat.le_refl _
  | N + 1, s, l, c => by
    unfold blanksB
    split
    · exact Nat.le_refl _
    · split
      · exact Nat.le_trans (blanksB_size N _ _ _) (by rw [aft_size]; omega)
      · split
        · exact Nat.le_trans (blanksB_size N _ _ _) (by rw [aft_size]; omega)
        · split
          · exact Nat.le_trans (blanksB_size N _ _ _) (by rw [aft_size]; omega)
          · exact Nat.le_refl _
/-- What is left, behind blanks. -/
def headB (N : Nat) (t : ByteArray) (l c : Int) : Lexed :=
  if t.size = 0 then .good [⟨0, bs [], 0, l, c⟩] else match readB t with
    | .bad e => .bad e l c
    | .tok k n v => match toksB N (aft t n) l (c + Lib.runeCount (fore t n)) with
      | .bad e a b => .bad e a b
      | .good r => .good (⟨k, fore t n, v, l, c⟩ :: r)
theorem toksB_succ (N : Nat) (s : ByteArray) (l c : Int) : toksB (N + 1) s l c = headB N (blanksB s.size s l c).1 (blanksB s.size s l c).2.1 (blanksB s.size s l c).2.2 := by
  rw [toksB]
  rfl
/-- Behind tokens that were read. -/
def addL (d : List Tok) : Lexed → Lexed
  | .bad e l c => .bad e l c
  | .good r => .good (d ++ r)
def tokCells (t : Tok) : List Value := [.int .i64 t.kind, .string t.text, .int .i64 t.num, .int .i64 t.line, .int .i64 t.col]
def rowsT (l : List Tok) : List Value := l.flatMap tokCells
theorem rowsT_length (l : List Tok) : (rowsT l).length = l.length * 5 := by
  induction l with
  | nil => rfl
  | cons a l ih =>
    simp only [rowsT, List.flatMap_cons, List.length_append, List.length_cons] at *
    rw [ih]
    simp [tokCells]
    omega
theorem rowsT_append (a b : List Tok) : rowsT (a ++ b) = rowsT a ++ rowsT b := by simp [rowsT]
theorem info_parts {P : Program} {t : TypeId} {z : Value} {s b : Nat} (h : (P.info? t).map (fun i => (i.zero, i.size, i.bytes)) = some (some z, s, b)) : ∃ i, P.info? t = some i ∧ i.zero = some z ∧ i.size = s ∧ i.bytes = b := by
  cases hi : P.info? t with
  | none => rw [hi] at h; cases h
  | some i =>
    rw [hi] at h
    simp at h
    exact ⟨i, rfl, h.1, h.2.1, h.2.2⟩
theorem info_tok : (Tryz.prog.info? 35).map (fun i => (i.zero, i.size, i.bytes)) = some (some (.agg #[.int .i64 0, .string ⟨#[]⟩, .int .i64 0, .int .i64 0, .int .i64 0]), 5, 48) := by kernel_rfl
theorem owns_block {w w' : World} {B : Nat} {e : TypeId} {s n : Nat} {v : Value} {xs : List Value} (h : w.ownsRow B e s v n xs) (hk : ∀ g, v.ownBlock = some g → w'.heap[g]? = w.heap[g]?) : w'.ownsRow B e s v n xs := by
  refine ⟨h.1, ?_⟩
  rcases h.2 with h0 | ⟨g', cap, cur, rfl, h2, h3, h4⟩
  · exact .inl h0
  · exact .inr ⟨g', cap, cur, rfl, h2, (hk g' rfl).trans h3, h4⟩
theorem row_form {w : World} {B e s m : Nat} {v : Value} {xs : List Value} (h : w.ownsRow B e s v m xs) : ∃ A cap, v = .slice A m cap := by
  rcases h.2 with ⟨rfl, h0⟩ | ⟨g', cap, cur, rfl, _⟩
  · exact ⟨none, 0, by rw [h0]⟩
  · exact ⟨_, _, rfl⟩
theorem row_lt {w : World} {B e s m : Nat} {v : Value} {xs : List Value} (h : w.ownsRow B e s v m xs) {k : Nat} (hk : v.ownBlock = some k) : B ≤ k ∧ k < w.heap.size := by
  rcases h.2 with ⟨rfl, h0⟩ | ⟨g', cap, cur, rfl, h1, h2, _⟩
  · cases hk
  · obtain rfl : g' = k := by simpa [Value.ownBlock] using hk
    exact ⟨h1, heap_lt h2⟩
theorem row_base {W : World} {B B' e s m : Nat} {v : Value} {xs : List Value} (h : W.ownsRow B e s v m xs) (hB : B' ≤ B) : W.ownsRow B' e s v m xs := by
  refine ⟨h.1, ?_⟩
  rcases h.2 with h0 | ⟨g', cap', cur, e, hb, hr⟩
  · exact .inl h0
  · exact .inr ⟨g', cap', cur, e, Nat.le_trans hB hb, hr⟩
theorem row_turn {w w' : World} {b B e s n : Nat} {v : Value} {xs : List Value} (h : w.ownsRow B e s v n xs) (hb : b < B) (ht : Turn b w w') : w'.ownsRow B e s v n xs :=
  owns_block h fun g hg => ht.block g (row_lt h hg).2 (by have := (row_lt h hg).1; omega)
/-- Where Tokens stands: the reader in b, behind blanks, and what was read. -/
structure LxAt (w : World) (b : Nat) (t : ByteArray) (l c : Int) (d : List Tok) (rv : Value) (wr : World) : Prop where
  below : Below w.heap.size w wr
  rd : Rd wr b t l c
  row : wr.ownsRow (b + 1) 35 5 rv d.length (rowsT d)
theorem LxAt.turn {w : World} {b : Nat} {t t' : ByteArray} {l c l' c' : Int} {d : List Tok} {rv : Value} {wr w' : World} (h : LxAt w b t l c d rv wr) (hbw : w.heap.size ≤ b) (ht : Turn b wr w') (hr : Rd w' b t' l' c') : LxAt w b t' l' c' d rv w' :=
  ⟨h.below.trans (ht.below hbw h.below.size), hr, row_turn h.row (by omega) ht⟩
theorem LxAt.push {w : World} {b : Nat} {t t' : ByteArray} {l c l' c' : Int} {d : List Tok} {A2 : Option Addr} {k2 : Nat} {wr w5 wa : World} {o1 o2 : Obj} {x : Tok} {v' : Value} (h : LxAt w b t l c d (.slice A2 d.length k2) wr) (hbw : w.heap.size ≤ b) (hgm : 3 < b)
    (ht5 : Turn b wr w5) (hr5 : Rd w5 b t' l' c') (hown : wa.ownsRow (b + 1) 35 5 v' (d.length + 1) (rowsT d ++ tokCells x)) (hgrow : ((w5.alloc o1).alloc o2).grownBy wa (Value.slice A2 d.length k2).ownBlock) :
    LxAt w b t' l' c' (d ++ [x]) v' wa := by
  have h5 := h.turn hbw ht5 hr5
  have hbl := heap_lt hr5.at'
  have hb7 : Below w.heap.size w ((w5.alloc o1).alloc o2) := (h5.below.alloc (by omega) o1).alloc (by simp; omega) o2
  have hk : ∀ k, k ≤ b → wa.heap[k]? = w5.heap[k]? := fun k hk => by
    rw [hgrow.block k (by simp; omega) (fun e => by
      have := (row_lt h.row e.symm).1
      omega), Below.heap_alloc _ _ _ (by simp; omega), Below.heap_alloc _ _ _ (by omega)]
  refine ⟨hb7.grown hgrow (by simp; omega) fun k hk => ?_, ⟨(hk b (Nat.le_refl _)).trans hr5.at', hr5.max.same (hk _ (by omega)), hr5.ne, hr5.line, hr5.col⟩, ?_⟩
  · have := (row_lt h.row hk).1
    omega
  · rw [rowsT_append, List.length_append]
    simpa [rowsT] using hown
theorem headB_step {N : Nat} {t : ByteArray} {l c : Int} {d : List Tok} {R : Lexed} {k : Int} {n : Nat} {v : Int} (h0 : t.size ≠ 0) (hr : readB t = .tok k n v) (h : addL d (headB (N + 1) t l c) = R) :
    addL (d ++ [⟨k, fore t n, v, l, c⟩]) (headB N (blanksB (aft t n).size (aft t n) l (c + Lib.runeCount (fore t n))).1 (blanksB (aft t n).size (aft t n) l (c + Lib.runeCount (fore t n))).2.1 (blanksB (aft t n).size (aft t n) l (c + Lib.runeCount (fore t n))).2.2) = R := by
  rw [← h]
  conv => rhs; rw [headB]
  rw [if_neg h0, hr]
  simp only
  rw [toksB_succ]
  cases headB N (blanksB (aft t n).size (aft t n) l (c + Lib.runeCount (fore t n))).1 (blanksB (aft t n).size (aft t n) l (c + Lib.runeCount (fore t n))).2.1 (blanksB (aft t n).size (aft t n) l (c + Lib.runeCount (fore t n))).2.2 with
  | bad e a b => rfl
  | good r => simp [addL]
theorem news5 (w : World) (x : Tok) (t : TypeId) {b : Nat} (hb : b = w.heap.size) : ∀ j u, (tokCells x)[j]? = some u → (w.alloc (.cells (tokCells x).toArray t)).cell? ((⟨b, 0, none⟩ : Addr).add j) = some u := by
  subst hb
  exact World.news_of_block (last w _)
/-- How Tokens ends. -/
def ToksEnd (w : World) (R : Lexed) (e : Ending) (w' : World) : Prop :=
  match R with
  | .bad x l c => e = .returned (.tuple #[.slice none 0 0, diagV x l c]) ∧ Below w.heap.size w w'
  | .good l => (∃ rv, e = .returned (.tuple #[rv, .nilIface]) ∧ w'.ownsRow w.heap.size 35 5 rv l.length (rowsT l)) ∧ Below w.heap.size w w'

set_option maxRecDepth 100000 in
set_option maxHeartbeats 16000000 in
theorem Tokens_in (s : ByteArray) (w : World) (henv : Env w) (hmax : s.size ≤ 140737488355328) :
    Calls Tryz.prog 45 #[.string s] w fun e w' => ToksEnd w (tokensB s) e w' := by
  obtain ⟨i0, hi0, hz0, hz1, hz2⟩ := info_parts info_tok
  obtain ⟨R, hR⟩ : ∃ z, tokensB s = z := ⟨_, rfl⟩
  rw [hR]
  have HR := Lib.hid hR
  clear hR
  have HE := Lib.hid henv
  clear henv
  by_cases h65 : (65536 : Int) < (s.size : Int)
  · have HRR := Lib.hid (show R = .bad 6 1 1 by
      rw [← HR.out]
      unfold tokensB
      rw [if_pos (by omega)])
    go_enter Tryz.func45, Tryz.ntmps45
    go_wp2_with fail
    rw [HRR.out]
    exact bodyPost_ret (v := .tuple #[.slice none 0 0, diagV 6 1 1]) (by simp [results, Tryz.results45, go_sem]; rfl) rfl ⟨rfl, Below.refl _ _⟩
  · have hs : s.size ≤ 65536 := by omega
    have hc := valid_in s HE.out (by omega)
    go_enter Tryz.func45, Tryz.ntmps45
    cases hv : validB s.size s 1 1 with
    | some p =>
      obtain ⟨l, c⟩ := p
      rw [hv] at hc
      have HRR := Lib.hid (show R = .bad 3 l c by
        rw [← HR.out]
        unfold tokensB
        rw [if_neg (by omega), hv])
      clear hv
      unfold errV diagV at hc
      go_wp2_with fail
      refine hc.mono ?_
      clear hc
      rintro e w2 ⟨rfl, hb2⟩
      have HB2 := Lib.hid hb2
      clear hb2
      go_wp2_with fail
      rw [HRR.out]
      exact bodyPost_ret (v := .tuple #[.slice none 0 0, diagV 3 l c]) (by simp [results, Tryz.results45, go_sem]; rfl) rfl ⟨rfl, HB2.out⟩
    | none =>
      rw [hv] at hc
      have HRR := Lib.hid (show toksB (s.size + 1) s 1 1 = R by
        rw [← HR.out]
        unfold tokensB
        rw [if_neg (by omega), hv])
      clear hv
      unfold errV at hc
      go_wp2_with fail
      refine hc.mono ?_
      clear hc
      rintro e w2 ⟨rfl, hb2⟩
      have HB2 := Lib.hid (hb2.trans ((Below.refl w2.heap.size w2 |>.alloc (Nat.le_refl _) (.cells #[.string s, .int .i64 1, .int .i64 1] 144)).mono hb2.size))
      have hrd : Rd (w2.alloc (.cells #[.string s, .int .i64 1, .int .i64 1] 144)) w2.heap.size s 1 1 := by
        have hgl := HE.out.max.lt
        have h2 := hb2.size
        refine ⟨last _ _, (HE.out.below HB2.out).max, by omega, by omega, by omega⟩
      have hbw : w.heap.size ≤ w2.heap.size := hb2.size
      have hc := blanks_in hrd
      rw [toksB_succ] at HRR
      have hbz := blanksB_size s.size s 1 1
      clear hb2 hrd
      generalize (blanksB s.size s 1 1).1 = t0 at *
      generalize (blanksB s.size s 1 1).2.1 = l0 at *
      generalize (blanksB s.size s 1 1).2.2 = c0 at *
      go_wp2_with fail
      generalize w2.alloc (.cells #[.string s, .int .i64 1, .int .i64 1] 144) = w3 at *
      refine hc.mono ?_
      clear hc
      rintro e w4 ⟨rfl, hrd4, ht4⟩
      generalize w2.heap.size = b at *
      have H4 := Lib.hid (show LxAt w b t0 l0 c0 [] (.slice none 0 0) w4 from ⟨HB2.out.trans (ht4.below hbw HB2.out.size), hrd4, World.ownsRow_nil _ _ _ _⟩)
      clear hrd4 ht4
      go_wp2_with fail
      go_loopg [6] s.size (fun gk rv wr => ∃ (t : ByteArray) (l c : Int) (d : List Tok), LxAt w b t l c d rv wr ∧ addL d (headB gk t l c) = R ∧ t.size ≤ gk ∧ d.length + t.size ≤ s.size)
      case atStart =>
        refine ⟨t0, l0, c0, [], H4.out, ?_, hbz, by simpa using hbz⟩
        rw [← HRR.out]
        cases headB s.size t0 l0 c0 <;> rfl
      case round =>
        obtain ⟨t, l, c, d, hlx, hR, hgk, hdn⟩ := hrel
        obtain ⟨A2, k2, rfl⟩ := row_form hlx.row
        have H1 := Lib.hid (And.intro hlx hR)
        obtain ⟨a0, a1, a2⟩ := hlx.rd.at'.cells
        have hbl := heap_lt hlx.rd.at'
        clear hlx hR
        by_cases h0 : t.size = 0
        · have he := empty_of h0
          go_wp2_with (at_builtin; refine wpList_append_own _ rfl _ _ 67 rfl (b + 1) 35 i0 (.agg #[.int .i64 0, .string ⟨#[]⟩, .int .i64 0, .int .i64 0, .int .i64 0]) 5 48 Tryz.underlying67 hi0 hz0 hz1 hz2 rfl (by decide) (.slice A2 d.length k2) d.length (rowsT d) rfl (H1.out.1.row.alloc _) ⟨wr.heap.size, 0, none⟩ 1 1 (tokCells ⟨0, bs [], 0, l, c⟩) rfl rfl ?c2 ?c3 ?c4 ?c5 ?c6 ?_)
          case c2 => exact news5 _ _ _ rfl
          case c3 => simp [tokCells, Value.oneCell']
          case c4 => unfold maxLen; omega
          case c5 => omega
          case c6 => simp; omega
          intro v' w1 hown hgrow hnil
          have hrr : R = .good (d ++ [⟨0, bs [], 0, l, c⟩]) := by
            rw [← H1.out.2]
            unfold headB
            rw [if_pos h0]
            rfl
          have HF := Lib.hid (show Below w.heap.size w w1 from (H1.out.1.below.alloc (by omega) _).grown hgrow (by simp; omega) fun k hk => by have := (row_lt H1.out.1.row hk).1; omega)
          have HO := Lib.hid (row_base hown (show w.heap.size ≤ b + 1 by omega))
          clear hown hgrow hnil a0 a1 a2
          go_wp2_with fail
          rw [hrr]
          refine bodyPost_ret (v := .tuple #[v', .nilIface]) (by simp [results, Tryz.results45, go_sem]) rfl ⟨⟨v', rfl, ?_⟩, HF.out⟩
          rw [rowsT_append, List.length_append]
          simpa [rowsT] using HO.out
        · have he := full_of h0
          have hpos : 0 < t.size := by omega
          obtain ⟨N, rfl⟩ : ∃ N, gk = N + 1 := ⟨gk - 1, by omega⟩
          have hc := token_in H1.out.1.rd hpos
          cases hr : readB t with
          | bad x =>
            rw [hr] at hc
            replace hc : Calls Tryz.prog _ _ wr fun e w' => e = .returned (.tuple #[.agg #[.int .i64 0, .string ⟨#[]⟩, .int .i64 0, .int .i64 0, .int .i64 0], .iface 41 (.agg #[.int .i64 x, .int .i64 l, .int .i64 c, .string ⟨#[]⟩])]) ∧ Rd w' b t l c ∧ Below wr.heap.size wr w' := hc
            have hrr : R = .bad x l c := by
              rw [← H1.out.2]
              unfold headB
              rw [if_neg h0, hr]
              rfl
            have HRX := Lib.hid hrr
            clear hr hrr
            go_wp2_with fail
            refine hc.mono ?_
            clear hc
            rintro e w5 ⟨rfl, _, hb5⟩
            have HF := Lib.hid ((chain H1.out.1.below hb5).alloc (by have := (chain H1.out.1.below hb5).size; omega) (.cells #[.int .i64 0, .string ⟨#[]⟩, .int .i64 0, .int .i64 0, .int .i64 0] 35))
            clear hb5 a0 a1 a2
            go_wp2_with fail
            rw [HRX.out]
            exact bodyPost_ret (v := .tuple #[.slice none 0 0, diagV x l c]) (by simp [results, Tryz.results45, go_sem]; rfl) rfl ⟨rfl, HF.out⟩
          | tok k n v =>
            rw [hr] at hc
            replace hc : Calls Tryz.prog _ _ wr fun e w' => e = .returned (.tuple #[.agg #[.int .i64 k, .string (fore t n), .int .i64 v, .int .i64 l, .int .i64 c], .nilIface]) ∧ Rd w' b (aft t n) l (c + Lib.runeCount (fore t n)) ∧ Turn b wr w' := hc
            have hnn := readB_n hpos hr
            have HST := Lib.hid (headB_step h0 hr H1.out.2)
            clear hr
            go_wp2_with fail
            refine hc.mono ?_
            clear hc
            rintro e w5 ⟨rfl, hrd5, ht5⟩
            have hbl5 := heap_lt hrd5.at'
            have hrow5 := row_turn H1.out.1.row (by omega) ht5
            have H5 := Lib.hid (And.intro hrd5 ht5)
            clear hrd5 ht5 a0 a1 a2
            go_wp2_with (at_builtin; refine wpList_append_own _ rfl _ _ 67 rfl (b + 1) 35 i0 (.agg #[.int .i64 0, .string ⟨#[]⟩, .int .i64 0, .int .i64 0, .int .i64 0]) 5 48 Tryz.underlying67 hi0 hz0 hz1 hz2 rfl (by decide) (.slice A2 d.length k2) d.length (rowsT d) rfl ((hrow5.alloc _).alloc _) ⟨w5.heap.size + 1, 0, none⟩ 1 1 (tokCells ⟨k, fore t n, v, l, c⟩) rfl rfl ?c2 ?c3 ?c4 ?c5 ?c6 ?_)
            case c2 => exact news5 _ _ _ (by simp)
            case c3 => simp [tokCells, Value.oneCell']
            case c4 => unfold maxLen; omega
            case c5 => omega
            case c6 => simp; omega
            intro v' w8 hown hgrow hnil
            have HGM := Lib.hid HE.out.max.lt
            have HP := Lib.hid (H1.out.1.push (x := ⟨k, fore t n, v, l, c⟩) hbw (Nat.lt_of_lt_of_le HGM.out hbw) H5.out.2 H5.out.1 hown hgrow)
            have hc := blanks_in HP.out.rd
            clear hown hgrow hnil hrow5 hbl5
            go_wp2_with fail
            refine hc.mono ?_
            clear hc
            rintro e w9 ⟨rfl, hrd9, ht9⟩
            have HX := Lib.hid (HP.out.turn hbw ht9 hrd9)
            clear hrd9 ht9
            go_wp2_with fail
            go_roundg N
            case measure => omega
            case rel =>
              have hbz := blanksB_size (aft t n).size (aft t n) l (c + Lib.runeCount (fore t n))
              have hbz := Nat.le_trans hbz (Nat.le_of_eq (aft_size t n))
              refine ⟨_, _, _, _, HX.out, HST.out, by omega, ?_⟩
              rw [List.length_append]
              simp only [List.length_cons, List.length_nil]
              omega
end Go.Proofs.YtmeacgmjpjjphaaGreatDoor
