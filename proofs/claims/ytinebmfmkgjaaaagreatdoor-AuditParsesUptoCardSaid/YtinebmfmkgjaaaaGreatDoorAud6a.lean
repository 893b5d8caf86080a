/- A report's rows in memory, and their lines. -/
import Derived.Test.YtinebmfmkgjaaaaGreatDoorAud5z
import Derived.Test.YtinebmfmkgjaaaaGreatDoorAud4
set_option linter.unusedVariables false
set_option linter.unusedSimpArgs false
namespace Go.Proofs.YtinebmfmkgjaaaaGreatDoor
open Go.RowKit

structure Rw where
  l : Int
  c : Int
  h : ByteArray
  f : ByteArray
  t : ByteArray
  u : ByteArray
instance : Inhabited Rw := ⟨⟨0, 0, ByteArray.empty, ByteArray.empty, ByteArray.empty, ByteArray.empty⟩⟩
def Rw.right (r : Rw) : Bool := rightB r.l r.c r.h r.f r.t r.u
def Rw.ok (r : Rw) : Prop := okI r.l ∧ okI r.c ∧ r.h.size ≤ 1048576 ∧ r.f.size ≤ 1048576 ∧ r.t.size ≤ 1048576 ∧ r.u.size ≤ 1048576
def rowB (r : Rw) : ByteArray := atB r.l r.c ++ ⟨#[32, 114, 101, 108, 101, 97, 115, 101, 32]⟩ ++ r.h ++ ⟨#[32, 102, 114, 111, 109, 32]⟩ ++ r.f ++ ⟨#[32, 116, 111, 32]⟩ ++ r.t ++ ⟨#[32, 105, 110, 32]⟩ ++ r.u
def unB (s : ByteArray) : ByteArray := ⟨#[117, 110, 117, 115, 101, 100, 32]⟩ ++ s
/-- Rows lie one behind the other. -/
def RowsAt (w : World) (A : Option Addr) (rs : List Rw) : Prop := rs.length = 0 ∨ ∃ b off, A = some ⟨b, off, none⟩ ∧ ∀ i, i < rs.length →
  w.cell? ⟨b, off + i * 6, none⟩ = some (.int .i64 (rs.getD i default).l) ∧ w.cell? ⟨b, off + i * 6 + 1, none⟩ = some (.int .i64 (rs.getD i default).c) ∧
  w.cell? ⟨b, off + i * 6 + 2, none⟩ = some (.string (rs.getD i default).h) ∧ w.cell? ⟨b, off + i * 6 + 3, none⟩ = some (.string (rs.getD i default).f) ∧
  w.cell? ⟨b, off + i * 6 + 4, none⟩ = some (.string (rs.getD i default).t) ∧ w.cell? ⟨b, off + i * 6 + 5, none⟩ = some (.string (rs.getD i default).u)
theorem RowsAt.under {w w' : World} {A : Option Addr} {rs : List Rw} (h : RowsAt w A rs) (hb : Below w.heap.size w w') : RowsAt w' A rs := by
  rcases h with h | ⟨b, off, rfl, h⟩
  · exact .inl h
  · refine .inr ⟨b, off, rfl, fun i hi => ?_⟩
    obtain ⟨h0, h1, h2, h3, h4, h5⟩ := h i hi
    exact ⟨(World.cell?_of_block (hb.block _ (cell_lt h0))).trans h0, (World.cell?_of_block (hb.block _ (cell_lt h1))).trans h1, (World.cell?_of_block (hb.block _ (cell_lt h2))).trans h2, (World.cell?_of_block (hb.block _ (cell_lt h3))).trans h3, (World.cell?_of_block (hb.block _ (cell_lt h4))).trans h4, (World.cell?_of_block (hb.block _ (cell_lt h5))).trans h5⟩
/-- One row, copied and read. -/
theorem row_sizes {r : Rw} (h : r.ok) : (atB r.l r.c).size ≤ 43 ∧ r.h.size ≤ 1048576 ∧ r.f.size ≤ 1048576 ∧ r.t.size ≤ 1048576 ∧ r.u.size ≤ 1048576 := ⟨atB_size h.1 h.2.1, h.2.2⟩
/-- What Lines hands back. -/
def LinesEnd (B : Nat) (R : Option (List ByteArray)) (e : Ending) (w' : World) : Prop := match R with
  | none => e = .returned (.tuple #[.slice none 0 0, .int .i64 1])
  | some l => ∃ v, e = .returned (.tuple #[v, .int .i64 0]) ∧ w'.ownsRow B 9 1 v l.length (strs l)
theorem far_cell {w3 wa : World} {o : Obj} {row : Option Nat} {a : Addr} {v : Value} (hg : (w3.alloc o).grownBy wa row) (ha : w3.cell? a = some v) (hne : some a.block ≠ row) : wa.cell? a = some v :=
  (hg.cell_far a (by have := cell_lt ha; simp; omega) hne).trans ((World.cell?_of_block (Below.heap_alloc _ _ _ (cell_lt ha))).trans ha)
theorem news1 (w : World) (v : Value) (t : TypeId) : ∀ j u, [v][j]? = some u → (w.alloc (.cells #[v] t)).cell? ((⟨w.heap.size, 0, none⟩ : Addr).add j) = some u := World.news_of_block (last w _)
theorem one1 (s : ByteArray) : ∀ u ∈ [Value.string s], u.oneCell' = true := by simp [Value.oneCell']
def linesB (rs : List Rw) : Option (List ByteArray) := if ∀ i, i < rs.length → (rs.getD i default).right = true then some (rs.map rowB) else none
end Go.Proofs.YtinebmfmkgjaaaaGreatDoor
