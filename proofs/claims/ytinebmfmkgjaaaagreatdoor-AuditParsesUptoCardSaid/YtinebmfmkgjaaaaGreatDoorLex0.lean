/- How a reader lies in memory; what turns where it goes on. -/
import Derived.Test.YtinebmfmkgjaaaaGreatDoorProg
import Derived.Test.YtinebmfmkgjaaaaGreatDoorLexP
import Derived.WalkKit
import Derived.WalkLawsBesides
import Derived.WalkSpells
import Derived.Deep.QuietTactic
import Derived.BigQuiet
import Derived.BigRegion
import Derived.RegionTactic
import Derived.Deep.RegionWith
import Derived.Deep.RegionHeld3
import Derived.Deep.AppendLies
import Derived.Deep.RegionLawGrows
import Derived.Deep.LoopGhost
import Derived.Deep.DeepCutAuto
import Derived.Deep.CutBlock
import Derived.Deep.OwnRows
import Derived.StillTailTactics
import Derived.Lib.Hide
set_option linter.unusedVariables false
set_option linter.unusedSimpArgs false
namespace Go.Proofs.YtinebmfmkgjaaaaGreatDoor
open Go.RowKit

theorem add_at {b off n : Nat} : (⟨b, off, none⟩ : Addr).add n = ⟨b, off + n, none⟩ := by
  unfold Addr.add; split
  · rename_i h; subst h; rfl
  · rfl
theorem cell_lt {w : World} {a : Addr} {v : Value} (h : w.cell? a = some v) : a.block < w.heap.size := by
  unfold World.cell? at h
  cases hh : w.heap[a.block]? with
  | none => rw [hh] at h; cases h
  | some o => exact (Array.getElem?_eq_some_iff.1 hh).1
theorem heap_lt {w : World} {b : Nat} {o : Obj} (h : w.heap[b]? = some o) : b < w.heap.size := (Array.getElem?_eq_some_iff.1 h).1
theorem frozenOf {w : World} {b : Nat} {cs : Array Value} {t : TypeId} (h : w.heap[b]? = some (.cells cs t)) (i : Nat) : w.frozen? ⟨b, i, none⟩ = false := by simp [World.frozen?, h]
theorem last (W : World) (o : Obj) : (W.alloc o).heap[W.heap.size]? = some o := by simp only [World.alloc, Array.getElem?_push]; simp
theorem lastk (W : World) (o : Obj) {k : Nat} (h : k = W.heap.size) : (W.alloc o).heap[k]? = some o := by
  subst h
  exact last W o
theorem chain {w wp wn : World} (h : Below w.heap.size w wp) (h2 : Below wp.heap.size wp wn) : Below w.heap.size w wn := h.trans (h2.mono h.size)
theorem cellsOf3 {w : World} {b : Nat} {x0 x1 x2 : Value} {t : TypeId} (h : w.heap[b]? = some (.cells #[x0, x1, x2] t)) : w.cell? ⟨b, 0, none⟩ = some x0 ∧ w.cell? ⟨b, 1, none⟩ = some x1 ∧ w.cell? ⟨b, 2, none⟩ = some x2 := by
  refine ⟨?_, ?_, ?_⟩ <;> simp only [World.cell?, h] <;> rfl
theorem cellsOf5 {w : World} {b : Nat} {x0 x1 x2 x3 x4 : Value} {t : TypeId} (h : w.heap[b]? = some (.cells #[x0, x1, x2, x3, x4] t)) : w.cell? ⟨b, 0, none⟩ = some x0 ∧ w.cell? ⟨b, 1, none⟩ = some x1 ∧ w.cell? ⟨b, 2, none⟩ = some x2 ∧ w.cell? ⟨b, 3, none⟩ = some x3 ∧ w.cell? ⟨b, 4, none⟩ = some x4 := by
  refine ⟨?_, ?_, ?_, ?_, ?_⟩ <;> simp only [World.cell?, h] <;> rfl
theorem setc {w : World} {b : Nat} {cs : Array Value} {t : TypeId} (h : w.heap[b]? = some (.cells cs t)) (i : Nat) (p : Value) : (w.setCell ⟨b, i, none⟩ p).heap[b]? = some (.cells (cs.setIfInBounds i p) t) := by
  simp only [World.setCell, Array.getElem?_modify]
  rw [h]
  simp
theorem wrap_in {n : Int} (h : -9223372036854775808 ≤ n ∧ n ≤ 9223372036854775807) : wrap64 n = n := IntWalk.wrap64_in _ h

/-- Nothing turned but block b. -/
structure Turn (b : Nat) (w w' : World) : Prop where
  os : w'.os = w.os
  tape : w'.tape = w.tape
  output : w'.output = w.output
  size : w.heap.size ≤ w'.heap.size
  block : ∀ k, k < w.heap.size → k ≠ b → w'.heap[k]? = w.heap[k]?
theorem Turn.refl (b : Nat) (w : World) : Turn b w w := ⟨rfl, rfl, rfl, Nat.le_refl _, fun _ _ _ => rfl⟩
theorem Turn.of {w w' : World} (b : Nat) (h : Below w.heap.size w w') : Turn b w w' := ⟨h.os, h.tape, h.output, h.size, fun k hk _ => h.block k hk⟩
theorem Turn.trans {a b c : World} {g : Nat} (h : Turn g a b) (k : Turn g b c) : Turn g a c :=
  ⟨k.os.trans h.os, k.tape.trans h.tape, k.output.trans h.output, Nat.le_trans h.size k.size, fun i hi hg => (k.block i (Nat.lt_of_lt_of_le hi h.size) hg).trans (h.block i hi hg)⟩
theorem Turn.below {a b : World} {g B : Nat} (h : Turn g a b) (hg : B ≤ g) (hB : B ≤ a.heap.size) : Below B a b :=
  ⟨h.os, h.tape, h.output, h.size, fun k hk => h.block k (by omega) (by omega)⟩
theorem Turn.setCell {w w' : World} {b : Nat} (h : Turn b w w') (i : Nat) (v : Value) : Turn b w (w'.setCell ⟨b, i, none⟩ v) :=
  ⟨h.os, h.tape, h.output, by rw [show (w'.setCell ⟨b, i, none⟩ v).heap.size = w'.heap.size by simp [World.setCell]]; exact h.size, fun k hk hg => (Below.heap_setCell _ _ _ _ hg).trans (h.block k hk hg)⟩
theorem Turn.alloc {w w' : World} {b : Nat} (h : Turn b w w') (o : Obj) : Turn b w (w'.alloc o) := h.trans (Turn.of b ((Below.refl w'.heap.size w').alloc (Nat.le_refl _) o))
theorem Turn.drew {w w' : World} {b : Nat} (h : Turn b w w') : Turn b w w'.drew := h.trans (Turn.of b (Below.refl w'.heap.size w').drew)

/-- A reader lies in block b: what is left, its line, its column. -/
def RdAt (w : World) (b : Nat) (s : ByteArray) (l c : Int) : Prop := w.heap[b]? = some (.cells #[.string s, .int .i64 l, .int .i64 c] 67)
theorem RdAt.cells {w : World} {b : Nat} {s : ByteArray} {l c : Int} (h : RdAt w b s l c) : w.cell? ⟨b, 0, none⟩ = some (.string s) ∧ w.cell? ⟨b, 1, none⟩ = some (.int .i64 l) ∧ w.cell? ⟨b, 2, none⟩ = some (.int .i64 c) := cellsOf3 h
theorem RdAt.under {w w' : World} {b : Nat} {s : ByteArray} {l c : Int} (h : RdAt w b s l c) (hb : Below w.heap.size w w') : RdAt w' b s l c := (hb.block _ (heap_lt h)).trans h
theorem RdAt.alloc {w : World} {b : Nat} {s : ByteArray} {l c : Int} (h : RdAt w b s l c) (o : Obj) : RdAt (w.alloc o) b s l c := h.under ((Below.refl _ w).alloc (Nat.le_refl _) o)
end Go.Proofs.YtinebmfmkgjaaaaGreatDoor
