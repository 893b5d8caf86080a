/- Diagnoses' lines: the tree's Diags. -/
import Derived.Test.YtinebmfmkgjaaaaGreatDoorAud1
set_option linter.unusedVariables false
set_option linter.unusedSimpArgs false
namespace Go.Proofs.YtinebmfmkgjaaaaGreatDoor
open Go.RowKit

structure Dg where
  code : Int
  line : Int
  col : Int
  name : ByteArray
instance : Inhabited Dg := ⟨⟨0, 0, 0, ByteArray.empty⟩⟩
/-- Diagnoses lie one behind the other. -/
def DgsAt (w : World) (A : Option Addr) (ds : List Dg) : Prop := ds.length = 0 ∨ ∃ b off, A = some ⟨b, off, none⟩ ∧ ∀ i, i < ds.length →
  w.cell? ⟨b, off + i * 4, none⟩ = some (.int .i64 (ds.getD i default).code) ∧ w.cell? ⟨b, off + i * 4 + 1, none⟩ = some (.int .i64 (ds.getD i default).line) ∧
  w.cell? ⟨b, off + i * 4 + 2, none⟩ = some (.int .i64 (ds.getD i default).col) ∧ w.cell? ⟨b, off + i * 4 + 3, none⟩ = some (.string (ds.getD i default).name)
theorem DgsAt.under {w w' : World} {A : Option Addr} {ds : List Dg} (h : DgsAt w A ds) (hb : Below w.heap.size w w') : DgsAt w' A ds := by
  rcases h with h | ⟨b, off, rfl, h⟩
  · exact .inl h
  · refine .inr ⟨b, off, rfl, fun i hi => ?_⟩
    obtain ⟨h0, h1, h2, h3⟩ := h i hi
    exact ⟨(World.cell?_of_block (hb.block _ (cell_lt h0))).trans h0, (World.cell?_of_block (hb.block _ (cell_lt h1))).trans h1, (World.cell?_of_block (hb.block _ (cell_lt h2))).trans h2, (World.cell?_of_block (hb.block _ (cell_lt h3))).trans h3⟩
def headL (what : ByteArray) (d : Dg) : ByteArray := what ++ ⟨#[32]⟩ ++ atB d.line d.col ++ ⟨#[32]⟩ ++ figs d.code
def lineB (what : ByteArray) (d : Dg) : ByteArray := if d.name.size = 0 then headL what d else headL what d ++ (⟨#[32]⟩ ++ d.name)
def Dg.ok (d : Dg) : Prop := okI d.code ∧ okI d.line ∧ okI d.col ∧ d.name.size ≤ 1048576
theorem info_str : (Tryz.prog.info? 9).map (fun i => (i.zero, i.size, i.bytes)) = some (some (.string ⟨#[]⟩), 1, 16) := by kernel_rfl
def strs (l : List ByteArray) : List Value := l.map Value.string

theorem strs_snoc (l : List ByteArray) (x : ByteArray) : strs (l ++ [x]) = strs l ++ [.string x] := by simp [strs]
theorem grow_below {w w3 w8 : World} {o : Obj} {v : Value} {e s n : Nat} {xs : List Value} (h : Below w.heap.size w w3) (hs : w.heap.size ≤ w3.heap.size) (hrow : w3.ownsRow w.heap.size e s v n xs) (hg : (w3.alloc o).grownBy w8 v.ownBlock) : Below w.heap.size w w8 :=
  (h.alloc hs o).grown hg (by simp; omega) fun k hk => (row_lt hrow hk).1
end Go.Proofs.YtinebmfmkgjaaaaGreatDoor
