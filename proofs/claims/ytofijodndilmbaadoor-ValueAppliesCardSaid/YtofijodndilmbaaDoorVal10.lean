/- Values in memory of a call's own. -/
import Derived.Test.YtofijodndilmbaaDoorVal9
set_option linter.unusedVariables false
set_option linter.unusedSimpArgs false
namespace Go.Proofs.YtofijodndilmbaaDoor
open Go.RowKit

def rowsN (c : Nat → List Value) (n : Nat) : List Value := (List.range n).flatMap c
theorem rowsN_succ (c : Nat → List Value) (n : Nat) : rowsN c (n + 1) = rowsN c n ++ c n := by simp [rowsN, List.range_succ]
theorem rowsN_length {c : Nat → List Value} {s : Nat} (hc : ∀ i, (c i).length = s) (n : Nat) : (rowsN c n).length = n * s := by
  induction n with
  | zero => simp [rowsN]
  | succ n ih => rw [rowsN_succ, List.length_append, ih, hc, Nat.succ_mul]
theorem rowsN_get {c : Nat → List Value} {s : Nat} (hc : ∀ i, (c i).length = s) {n i j : Nat} (hi : i < n) (hj : j < s) : (rowsN c n)[i * s + j]? = (c i)[j]? := by
  induction n with
  | zero => omega
  | succ n ih =>
    rw [rowsN_succ]
    have hl := rowsN_length hc n
    by_cases e : i = n
    · subst e
      rw [List.getElem?_append_right (by omega), hl, Nat.add_sub_cancel_left]
    · have : i * s + j < n * s := by
        have h1 : (i + 1) * s ≤ n * s := Nat.mul_le_mul_right s (by omega)
        rw [Nat.add_mul] at h1
        omega
      rw [List.getElem?_append_left (by omega), ih (by omega)]

theorem owns_block {w w' : World} {B : Nat} {e : TypeId} {s n : Nat} {v : Value} {xs : List Value} (h : w.ownsRow B e s v n xs) (hk : ∀ g, v.ownBlock = some g → w'.heap[g]? = w.heap[g]?) : w'.ownsRow B e s v n xs := by
  refine ⟨h.1, ?_⟩
  rcases h.2 with h0 | ⟨g', cap, cur, rfl, h2, h3, h4⟩
  · exact .inl h0
  · exact .inr ⟨g', cap, cur, rfl, h2, (hk g' rfl).trans h3, h4⟩
theorem row_form {w : World} {B e s m : Nat} {v : Value} {xs : List Value} (h : w.ownsRow B e s v m xs) : ∃ A cap, v = .slice A m cap := by
  rcases h.2 with ⟨rfl, h0⟩ | ⟨g', cap, cur, rfl, _⟩
  · exact ⟨none, 0, by rw [h0]⟩
  · exact ⟨_, _, rfl⟩
theorem row_lt {w : World} {B e s m : Nat} {v : Value} {xs : List Value} (h : w.ownsRow B e s v m xs) {k : Nat} (hk : v.ownBlock = some k) : B ≤ k ∧ k < w.heap.size := by
  rcases h.2 with ⟨rfl, h0⟩ | ⟨g', cap, cur, rfl, h1, h2, _⟩
  · cases hk
  · obtain rfl : g' = k := by simpa [Value.ownBlock] using hk
    exact ⟨h1, heap_lt h2⟩
theorem far_cell {w w' : World} {r : Option Nat} {b i : Nat} {v : Value} (hg : w.grownBy w' r) (hr : r ≠ some b) (h : w.cell? ⟨b, i, none⟩ = some v) : w'.cell? ⟨b, i, none⟩ = some v := (World.cell?_of_block (hg.block b (cell_lt h) (fun e => hr e.symm))).trans h
theorem news3 (w : World) (x y z : Value) (t : TypeId) {b : Nat} (hb : b = w.heap.size) : ∀ j u, [x, y, z][j]? = some u → (w.alloc (.cells #[x, y, z] t)).cell? ((⟨b, 0, none⟩ : Addr).add j) = some u := by
  subst hb
  exact World.news_of_block (last w _)

/-- A value's parts, all in blocks of which P is true. -/
inductive AtP (P : Nat → Prop) (w : World) : V → Value → Prop
  | leaf {o : ByteArray} {n : Int} {A : Option Addr} {cap : Nat} : AtP P w (.mk o n []) (.slice A 0 cap)
  | node {o : ByteArray} {n : Int} {ks : List V} {b off cap : Nat} (ss : Nat → Value) :
      ks.length ≤ 2932031007317 → P b → b < w.heap.size → (∀ i, i < ks.length → w.cell? ⟨b, off + i * 3, none⟩ = some (.string (ks.getD i default).op) ∧ w.cell? ⟨b, off + i * 3 + 1, none⟩ = some (.int .i64 (ks.getD i default).num) ∧ w.cell? ⟨b, off + i * 3 + 2, none⟩ = some (ss i)) →
      (∀ i, i < ks.length → AtP P w (ks.getD i default) (ss i)) → AtP P w (.mk o n ks) (.slice (some ⟨b, off, none⟩) ks.length cap)
theorem AtP.at {P : Nat → Prop} {w : World} {v : V} {s : Value} (h : AtP P w v s) : At w v s := by
  induction h with
  | leaf => exact .leaf
  | node ss h0 _ _ h1 _ ih => exact .node ss h0 h1 ih
theorem AtP.form {P : Nat → Prop} {w : World} {v : V} {s : Value} (h : AtP P w v s) : ∃ A cap, s = .slice A v.kids.length cap := by
  cases h with
  | leaf => exact ⟨_, _, rfl⟩
  | node => exact ⟨_, _, rfl⟩
/-- It lies on where its blocks do. -/
theorem AtP.step {P Q : Nat → Prop} {w w' : World} {v : V} {s : Value} (h : AtP P w v s) (hw : w.heap.size ≤ w'.heap.size) (hb : ∀ k, k < w.heap.size → P k → w'.heap[k]? = w.heap[k]? ∧ Q k) : AtP Q w' v s := by
  induction h with
  | leaf => exact .leaf
  | node ss h0 hp hl h1 _ ih =>
    refine .node ss h0 (hb _ hl hp).2 (Nat.lt_of_lt_of_le hl hw) (fun i hi => ?_) ih
    obtain ⟨a, b, c⟩ := h1 i hi
    have e := (hb _ hl hp).1
    exact ⟨(World.cell?_of_block e).trans a, (World.cell?_of_block e).trans b, (World.cell?_of_block e).trans c⟩
/-- The parts that a call has laid in a row of its own. -/
def rowV (ks : List V) (ss : Nat → Value) (i : Nat) : List Value := [.string (ks.getD i default).op, .int .i64 (ks.getD i default).num, ss i]
theorem AtP.of_row {P : Nat → Prop} {w : World} {B e : Nat} {o : ByteArray} {n : Int} {ks : List V} {rv : Value} {ss : Nat → Value} (hr : w.ownsRow B e 3 rv ks.length (rowsN (rowV ks ss) ks.length)) (hl : ks.length ≤ 2932031007317)
    (hP : ∀ g, rv.ownBlock = some g → P g) (hk : ∀ i, i < ks.length → AtP P w (ks.getD i default) (ss i)) : AtP P w (.mk o n ks) rv := by
  by_cases h0 : ks.length = 0
  · obtain rfl : ks = [] := List.length_eq_zero_iff.1 h0
    obtain ⟨A, cap, rfl⟩ := row_form hr
    exact .leaf
  · obtain ⟨g, cap, rfl, _, hg⟩ := World.ownsRow.form hr (by omega)
    refine .node ss hl (hP g rfl) hg (fun i hi => ?_) hk
    have hc : ∀ j, j < 3 → w.cell? ⟨g, i * 3 + j, none⟩ = (rowV ks ss i)[j]? := fun j hj => by
      have hlen : ∀ k, (rowV ks ss k).length = 3 := fun k => rfl
      rw [World.ownsRow.cellAt hr _ (by omega), rowsN_get hlen hi hj]
    have c0 := hc 0 (by decide)
    have c1 := hc 1 (by decide)
    have c2 := hc 2 (by decide)
    simp only [Nat.zero_add, Nat.add_zero] at c0 c1 c2 ⊢
    exact ⟨c0, c1, c2⟩
end Go.Proofs.YtofijodndilmbaaDoor
