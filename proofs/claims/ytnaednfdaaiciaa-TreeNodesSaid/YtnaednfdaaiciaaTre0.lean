/- How nodes lie in memory. -/
import Derived.Test.YtnaednfdaaiciaaProg
import Derived.Test.YtnaednfdaaiciaaTreP
import Derived.WalkKit
import Derived.WalkLawsBesides
import Derived.WalkSpells
import Derived.Deep.QuietTactic
import Derived.BigQuiet
import Derived.BigRegion
import Derived.RegionTactic
import Derived.Deep.RegionWith
import Derived.Deep.RegionHeld3
import Derived.Deep.AppendLies
import Derived.Deep.RegionLawGrows
import Derived.Deep.LoopGhost
import Derived.Deep.OwnRows
import Derived.Lib.LazyBuf
import Derived.Lib.Hide
import Derived.Shelf.Abstract
set_option linter.unusedVariables false
set_option linter.unusedSimpArgs false
namespace Go.Proofs.Ytnaednfdaaiciaa
open Go.RowKit

theorem add_at {b off n : Nat} : (⟨b, off, none⟩ : Addr).add n = ⟨b, off + n, none⟩ := by
  unfold Addr.add; split
  · rename_i h; subst h; rfl
  · rfl
theorem cell_lt {w : World} {a : Addr} {v : Value} (h : w.cell? a = some v) : a.block < w.heap.size := by
  unfold World.cell? at h
  cases hh : w.heap[a.block]? with
  | none => rw [hh] at h; cases h
  | some o => exact (Array.getElem?_eq_some_iff.1 hh).1
theorem heap_lt {w : World} {b : Nat} {o : Obj} (h : w.heap[b]? = some o) : b < w.heap.size := (Array.getElem?_eq_some_iff.1 h).1
theorem frozenOf {w : World} {b : Nat} {cs : Array Value} {t : TypeId} (h : w.heap[b]? = some (.cells cs t)) (i : Nat) : w.frozen? ⟨b, i, none⟩ = false := by simp [World.frozen?, h]
theorem last (W : World) (o : Obj) : (W.alloc o).heap[W.heap.size]? = some o := by simp only [World.alloc, Array.getElem?_push]; simp
theorem cellOf1 {w : World} {b : Nat} {x : Value} {t : TypeId} (h : w.heap[b]? = some (.cells #[x] t)) : w.cell? ⟨b, 0, none⟩ = some x := by simp only [World.cell?, h]; rfl
theorem cell_alloc {w : World} {a : Addr} {v : Value} (h : w.cell? a = some v) (o : Obj) : (w.alloc o).cell? a = some v := (World.cell?_of_block (Below.heap_alloc w o a.block (cell_lt h))).trans h
theorem cellsOf6 {w : World} {b : Nat} {x0 x1 x2 x3 x4 x5 : Value} {t : TypeId} (h : w.heap[b]? = some (.cells #[x0, x1, x2, x3, x4, x5] t)) : w.cell? ⟨b, 0, none⟩ = some x0 ∧ w.cell? ⟨b, 1, none⟩ = some x1 ∧ w.cell? ⟨b, 2, none⟩ = some x2 ∧ w.cell? ⟨b, 3, none⟩ = some x3 ∧ w.cell? ⟨b, 4, none⟩ = some x4 ∧ w.cell? ⟨b, 5, none⟩ = some x5 := by
  refine ⟨?_, ?_, ?_, ?_, ?_, ?_⟩ <;> simp only [World.cell?, h] <;> rfl

theorem set6_heap {w : World} {b : Nat} {x0 x1 x2 x3 x4 x5 : Value} {t : TypeId} (h : w.heap[b]? = some (.cells #[x0, x1, x2, x3, x4, x5] t)) (v0 v1 v2 v3 v4 v5 : Value) :
    ((((((w.setCell ⟨b, 0, none⟩ v0).setCell ⟨b, 1, none⟩ v1).setCell ⟨b, 2, none⟩ v2).setCell ⟨b, 3, none⟩ v3).setCell ⟨b, 4, none⟩ v4).setCell ⟨b, 5, none⟩ v5).heap[b]? = some (.cells #[v0, v1, v2, v3, v4, v5] t) := by
  simp [World.setCell, Array.getElem?_modify, h]
theorem set6_other {w : World} {b c : Nat} (h : c ≠ b) (v0 v1 v2 v3 v4 v5 : Value) :
    ((((((w.setCell ⟨b, 0, none⟩ v0).setCell ⟨b, 1, none⟩ v1).setCell ⟨b, 2, none⟩ v2).setCell ⟨b, 3, none⟩ v3).setCell ⟨b, 4, none⟩ v4).setCell ⟨b, 5, none⟩ v5).heap[c]? = w.heap[c]? := by
  rw [Below.heap_setCell _ _ _ _ h, Below.heap_setCell _ _ _ _ h, Below.heap_setCell _ _ _ _ h, Below.heap_setCell _ _ _ _ h, Below.heap_setCell _ _ _ _ h, Below.heap_setCell _ _ _ _ h]
theorem Below.set6 {B : Nat} {a w : World} (h : Below B a w) {b : Nat} (hb : B ≤ b) (v0 v1 v2 v3 v4 v5 : Value) : Below B a ((((((w.setCell ⟨b, 0, none⟩ v0).setCell ⟨b, 1, none⟩ v1).setCell ⟨b, 2, none⟩ v2).setCell ⟨b, 3, none⟩ v3).setCell ⟨b, 4, none⟩ v4).setCell ⟨b, 5, none⟩ v5) :=
  (((((h.setCell (p := ⟨b, 0, none⟩) hb v0).setCell (p := ⟨b, 1, none⟩) hb v1).setCell (p := ⟨b, 2, none⟩) hb v2).setCell (p := ⟨b, 3, none⟩) hb v3).setCell (p := ⟨b, 4, none⟩) hb v4).setCell (p := ⟨b, 5, none⟩) hb v5

theorem below_drewN' {B : Nat} {a w : World} (h : Below B a w) (q : Nat) : Below B a (w.drewN q) := ⟨h.os, h.tape, h.output, h.size, h.block⟩
/-- A node's cells, its parts' slice s. -/
def ndCells (x : Nd) (s : Value) : List Value := [.string x.op, .int .i64 x.line, .int .i64 x.col, .string x.name, .int .i64 x.num, s]
def ndV (x : Nd) (s : Value) : Value := .agg #[.string x.op, .int .i64 x.line, .int .i64 x.col, .string x.name, .int .i64 x.num, s]
def rowsOf (ms : List (Nd × Value)) : List Value := ms.flatMap fun p => ndCells p.1 p.2
theorem rowsOf_length (ms : List (Nd × Value)) : (rowsOf ms).length = ms.length * 6 := by
  induction ms with
  | nil => rfl
  | cons p ms ih =>
    have : (rowsOf (p :: ms)).length = (rowsOf ms).length + 6 := by simp [rowsOf, ndCells]
    rw [this, ih, List.length_cons]; omega
theorem rowsOf_append (ms k : List (Nd × Value)) : rowsOf (ms ++ k) = rowsOf ms ++ rowsOf k := by simp [rowsOf]
theorem rowsOf_get : ∀ {ms : List (Nd × Value)} {i j : Nat} (hi : i < ms.length) (hj : j < 6), (rowsOf ms)[i * 6 + j]? = (ndCells ms[i].1 ms[i].2)[j]?
  | p :: ms, 0, j, hi, hj => by
    have : rowsOf (p :: ms) = ndCells p.1 p.2 ++ rowsOf ms := by simp [rowsOf]
    rw [this, Nat.zero_mul, Nat.zero_add, List.getElem?_append_left (by simp [ndCells]; omega)]
    rfl
  | p :: ms, i + 1, j, hi, hj => by
    have : rowsOf (p :: ms) = ndCells p.1 p.2 ++ rowsOf ms := by simp [rowsOf]
    rw [this, List.getElem?_append_right (by simp [ndCells]; omega)]
    have e : (i + 1) * 6 + j - (ndCells p.1 p.2).length = i * 6 + j := by simp [ndCells]; omega
    rw [e, rowsOf_get (by simpa using hi) hj]
    rfl

/-- A slice of numbers. -/
def Ints (w : World) (s : Value) (l : List Int) : Prop :=
  ((∃ A c, s = .slice A 0 c) ∧ l = []) ∨ ∃ b off c, s = .slice (some ⟨b, off, none⟩) l.length c ∧ ∀ i, i < l.length → w.cell? ⟨b, off + i, none⟩ = some (.int .i64 (l.getD i 0))
theorem Ints.below {w w' : World} {s : Value} {l : List Int} (h : Ints w s l) (hb : Below w.heap.size w w') : Ints w' s l := by
  rcases h with h | ⟨b, off, c, h1, h2⟩
  · exact .inl h
  · exact .inr ⟨b, off, c, h1, fun i hi => (hb.cell (p := ⟨b, off + i, none⟩) (cell_lt (h2 i hi))).trans (h2 i hi)⟩
theorem Ints.drew {w : World} {s : Value} {l : List Int} (h : Ints w s l) : Ints w.drew s l := h
theorem Ints.form {w : World} {s : Value} {l : List Int} (h : Ints w s l) : ∃ A c, s = .slice A l.length c := by
  rcases h with ⟨⟨A, c, rfl⟩, rfl⟩ | ⟨b, off, c, h1, h2⟩
  · exact ⟨_, _, rfl⟩
  · exact ⟨_, _, h1⟩
/-- Numbers that a call owns. -/
def Own (w : World) (B : Nat) (s : Value) (l : List Int) : Prop := w.ownsRow B 3 1 s l.length (l.map (Value.int .i64))
theorem owns_block {w w' : World} {B : Nat} {e : TypeId} {size n : Nat} {v : Value} {xs : List Value} (h : w.ownsRow B e size v n xs) (hb : ∀ g, v.ownBlock = some g → w'.heap[g]? = w.heap[g]?) : w'.ownsRow B e size v n xs := by
  obtain ⟨h1, h2⟩ := h
  refine ⟨h1, ?_⟩
  rcases h2 with h2 | ⟨g, cap, cur, rfl, hg, hh, r⟩
  · exact .inl h2
  · exact .inr ⟨g, cap, cur, rfl, hg, (hb g rfl).trans hh, r⟩
theorem owns_elem {w : World} {B : Nat} {e : TypeId} {size n : Nat} {v : Value} {xs : List Value} (h : w.ownsRow B e size v n xs) {g : Nat} (hg : v.ownBlock = some g) : ∃ c, w.heap[g]? = some (.cells c e) := by
  rcases h.2 with ⟨rfl, _⟩ | ⟨g', cap, cur, rfl, _, hh, _⟩
  · cases hg
  · obtain rfl : g' = g := by simpa [Value.ownBlock] using hg
    exact ⟨cur, hh⟩
theorem owns_below {w w' : World} {B : Nat} {e : TypeId} {size n : Nat} {v : Value} {xs : List Value} (h : w.ownsRow B e size v n xs) (hb : Below w.heap.size w w') : w'.ownsRow B e size v n xs :=
  owns_block h fun g hg => hb.block g (h.lt g hg).2
theorem owns_base {w : World} {B B' : Nat} {e : TypeId} {size n : Nat} {v : Value} {xs : List Value} (h : w.ownsRow B e size v n xs) (hb : B' ≤ B) : w.ownsRow B' e size v n xs := by
  obtain ⟨h1, h2⟩ := h
  refine ⟨h1, ?_⟩
  rcases h2 with h2 | ⟨g, cap, cur, rfl, hg, r⟩
  · exact .inl h2
  · exact .inr ⟨g, cap, cur, rfl, by omega, r⟩
theorem Own.below {w w' : World} {B : Nat} {s : Value} {l : List Int} (h : Own w B s l) (hb : Below w.heap.size w w') : Own w' B s l := owns_below h hb
theorem Own.ints {w : World} {B : Nat} {s : Value} {l : List Int} (h : Own w B s l) : Ints w s l := by
  rcases h.2 with ⟨rfl, h0⟩ | ⟨g, cap, cur, rfl, hg, hh, r⟩
  · exact .inl ⟨⟨none, 0, rfl⟩, List.eq_nil_of_length_eq_zero h0⟩
  · refine .inr ⟨g, 0, cap, rfl, fun i hi => ?_⟩
    have := World.ownsRow.cellAt h i (by omega)
    rw [Nat.zero_add, this]
    simp [List.getD, hi]

theorem Own.form {w : World} {B : Nat} {s : Value} {l : List Int} (h : Own w B s l) : ∃ A c, s = .slice A l.length c := h.ints.form

/-- A slice of nodes; ms: each node, with its parts' slice. -/
def Nodes (w : World) (v : Value) (ms : List (Nd × Value)) : Prop :=
  (((∃ A c, v = .slice A 0 c) ∧ ms = []) ∨ ∃ b off c, v = .slice (some ⟨b, off, none⟩) ms.length c ∧ ∀ k u, (rowsOf ms)[k]? = some u → w.cell? ⟨b, off + k, none⟩ = some u) ∧ ∀ p ∈ ms, Ints w p.2 p.1.kids
theorem Nodes.below {w w' : World} {v : Value} {ms : List (Nd × Value)} (h : Nodes w v ms) (hb : Below w.heap.size w w') : Nodes w' v ms := by
  refine ⟨?_, fun p hp => (h.2 p hp).below hb⟩
  rcases h.1 with h | ⟨b, off, c, h1, h2⟩
  · exact .inl h
  · exact .inr ⟨b, off, c, h1, fun k u hu => (hb.cell (p := ⟨b, off + k, none⟩) (cell_lt (h2 k u hu))).trans (h2 k u hu)⟩
theorem Nodes.form {w : World} {v : Value} {ms : List (Nd × Value)} (h : Nodes w v ms) : ∃ A c, v = .slice A ms.length c := by
  rcases h.1 with ⟨⟨A, c, rfl⟩, rfl⟩ | ⟨b, off, c, h1, h2⟩
  · exact ⟨_, _, rfl⟩
  · exact ⟨_, _, h1⟩
/-- One node of a slice: its cells. -/
theorem Nodes.at {w : World} {v : Value} {ms : List (Nd × Value)} (h : Nodes w v ms) {i : Nat} (hi : i < ms.length) :
    ∃ b off c, v = .slice (some ⟨b, off, none⟩) ms.length c ∧ w.cell? ⟨b, off + i * 6, none⟩ = some (.string ms[i].1.op) ∧ w.cell? ⟨b, off + i * 6 + 1, none⟩ = some (.int .i64 ms[i].1.line) ∧ w.cell? ⟨b, off + i * 6 + 2, none⟩ = some (.int .i64 ms[i].1.col) ∧
      w.cell? ⟨b, off + i * 6 + 3, none⟩ = some (.string ms[i].1.name) ∧ w.cell? ⟨b, off + i * 6 + 4, none⟩ = some (.int .i64 ms[i].1.num) ∧ w.cell? ⟨b, off + i * 6 + 5, none⟩ = some ms[i].2 ∧ Ints w ms[i].2 ms[i].1.kids := by
  rcases h.1 with ⟨_, rfl⟩ | ⟨b, off, c, h1, h2⟩
  · simp at hi
  · have g : ∀ j u, j < 6 → (ndCells ms[i].1 ms[i].2)[j]? = some u → w.cell? ⟨b, off + i * 6 + j, none⟩ = some u := fun j u hj hu => by
      have := h2 (i * 6 + j) u (by rw [rowsOf_get hi hj]; exact hu)
      rwa [← Nat.add_assoc] at this
    exact ⟨b, off, c, h1, g 0 _ (by omega) rfl, g 1 _ (by omega) rfl, g 2 _ (by omega) rfl, g 3 _ (by omega) rfl, g 4 _ (by omega) rfl, g 5 _ (by omega) rfl, h.2 _ (List.getElem_mem hi)⟩

/-- A tree at place t, all of it in blocks from B on. -/
structure TreeAt (w : World) (B t : Nat) (v : Value) (ms : List (Nd × Value)) : Prop where
  base : B ≤ t
  obj : w.heap[t]? = some (.cells #[v] 47)
  rows : w.ownsRow B 33 6 v ms.length (rowsOf ms)
  kid : ∀ p ∈ ms, Own w B p.2 p.1.kids
theorem TreeAt.below {w w' : World} {B t : Nat} {v : Value} {ms : List (Nd × Value)} (h : TreeAt w B t v ms) (hb : Below w.heap.size w w') : TreeAt w' B t v ms :=
  ⟨h.base, (hb.block t (heap_lt h.obj)).trans h.obj, owns_below h.rows hb, fun p hp => (h.kid p hp).below hb⟩
theorem TreeAt.nodes {w : World} {B t : Nat} {v : Value} {ms : List (Nd × Value)} (h : TreeAt w B t v ms) : Nodes w v ms := by
  refine ⟨?_, fun p hp => (h.kid p hp).ints⟩
  rcases h.rows.2 with ⟨rfl, h0⟩ | ⟨g, cap, cur, rfl, hg, hh, r⟩
  · exact .inl ⟨⟨none, 0, rfl⟩, List.eq_nil_of_length_eq_zero h0⟩
  · refine .inr ⟨g, 0, cap, rfl, fun k u hu => ?_⟩
    have hk : k < ms.length * 6 := by
      have := (List.getElem?_eq_some_iff.1 hu).1
      rwa [rowsOf_length] at this
    rw [Nat.zero_add, World.ownsRow.cellAt h.rows k hk, hu]

theorem info_int : (Try.prog.info? 3).map (fun i => (i.zero, i.size, i.bytes)) = some (some (.int .i64 0), 1, 8) := by kernel_rfl
theorem info_node : (Try.prog.info? 33).map (fun i => (i.zero, i.size, i.bytes)) = some (some (.agg #[.string .empty, .int .i64 0, .int .i64 0, .string .empty, .int .i64 0, .slice none 0 0]), 6, 80) := by kernel_rfl

theorem Ints.news {w : World} {b off c : Nat} {l : List Int} (h : ∀ i, i < l.length → w.cell? ⟨b, off + i, none⟩ = some (.int .i64 (l.getD i 0))) : ∀ j u, (l.map (Value.int .i64))[j]? = some u → w.cell? ((⟨b, off, none⟩ : Addr).add j) = some u := by
  intro j u hu
  rw [add_at]
  have hj : j < l.length := by simpa using (List.getElem?_eq_some_iff.1 hu).1
  rw [h j hj, ← hu]
  simp [List.getD, hj]
theorem Own.news {w : World} {B g cap : Nat} {l : List Int} (h : Own w B (.slice (some ⟨g, 0, none⟩) l.length cap) l) : ∀ j u, (l.map (Value.int .i64))[j]? = some u → w.cell? ((⟨g, 0, none⟩ : Addr).add j) = some u := by
  intro j u hu
  have hj : j < l.length := by simpa using (List.getElem?_eq_some_iff.1 hu).1
  rw [add_at, Nat.zero_add, World.ownsRow.cellAt h j (by omega), hu]
theorem Own.join {w : World} {B : Nat} {s : Value} {l k : List Int} (h : w.ownsRow B 3 1 s (l.length + k.length) (l.map (Value.int .i64) ++ k.map (Value.int .i64))) : Own w B s (l ++ k) := by
  unfold Own
  rw [List.length_append, List.map_append]
  exact h
theorem ints_one (l : List Int) : ∀ u ∈ l.map (Value.int .i64), u.oneCell' = true := by
  intro u hu
  obtain ⟨x, _, rfl⟩ := List.mem_map.1 hu
  rfl

set_option maxHeartbeats 1000000 in
/-- slices.Clone at numbers. -/
theorem Clone_in {w : World} {s : Value} {l : List Int} (hs : Ints w s l) (hl : l.length ≤ 1000000) :
    Calls Try.prog 19 #[s] w fun e w' => ∃ s', e = .returned s' ∧ Own w' w.heap.size s' l ∧ Below w.heap.size w w' := by
  obtain ⟨i0, hi, hz0, hz1, hz2⟩ := info_parts info_int
  have q22 : ∀ (w : World) (a : Option Addr) (n c : Nat), (binOp .eql 31 (.slice a n c) (.slice none 0 0)).run Try.prog w = .ok (.bool a.isNone) w := fun w a n c => by first | exact Lib.run_eql_slice_nil w _ _ a n c Try.underlying31 | exact Lib.run_eql_slice_nil w _ _ a n c 0 0 Try.underlying31
  rcases hs with ⟨⟨A, c, rfl⟩, rfl⟩ | ⟨b, off, c, rfl, h2⟩
  · cases A with
    | none =>
      go_enter Try.func19, Try.ntmps19
      go_wp2_with fail
      go_ret
      exact ⟨_, rfl, World.ownsRow_nil _ _ _ _, Below.refl _ _⟩
    | some ad =>
      go_enter Try.func19, Try.ntmps19
      go_wp2_with (at_builtin; refine wpList_append_own _ rfl _ _ 31 rfl w.heap.size 3 i0 (.int .i64 0) 1 8 Try.underlying31 hi hz0 hz1 hz2 rfl (by decide) _ 0 [] rfl (World.ownsRow_made w #[] 0 (Nat.le_refl _) (Nat.zero_le _) (by simp)) ad 0 c [] rfl rfl (fun j u hu => by simp at hu) (fun u hu => by cases hu) (by decide) (by decide) (by simp) ?_)
      intro v' w1 hown hgrow hnil
      have hB : Below w.heap.size w w1 := ((Below.refl w.heap.size w).alloc (Nat.le_refl _) (.cells #[] 3)).grown hgrow (by simp) (fun k hk => Nat.le_of_eq (by simpa [Value.ownBlock] using hk))
      go_wp2_with fail
      go_ret
      exact ⟨_, rfl, hown, hB⟩
  · have hn := Lib.hid (Ints.news (c := c) h2)
    clear h2
    go_enter Try.func19, Try.ntmps19
    go_wp2_with (at_builtin; refine wpList_append_own _ rfl _ _ 31 rfl w.heap.size 3 i0 (.int .i64 0) 1 8 Try.underlying31 hi hz0 hz1 hz2 rfl (by decide) _ 0 [] rfl (World.ownsRow_made w #[] 0 (Nat.le_refl _) (Nat.zero_le _) (by simp)) ⟨b, off, none⟩ l.length c (l.map (Value.int .i64)) rfl ?qc1 ?qc2 ?qc3 ?qc4 ?qc5 ?qc6 ?_)
    case qc1 => simp
    case qc2 => exact fun j u hu => (((Below.refl w.heap.size w).alloc (Nat.le_refl _) _).cell (cell_lt (hn.out j u hu))).trans (hn.out j u hu)
    case qc3 => exact ints_one l
    case qc4 => unfold maxLen; omega
    case qc5 => omega
    case qc6 => simp
    intro v' w1 hown hgrow hnil
    try rw [Nat.zero_add, List.nil_append] at hown
    have hB : Below w.heap.size w w1 := ((Below.refl w.heap.size w).alloc (Nat.le_refl _) (.cells #[] 3)).grown hgrow (by simp) (fun k hk => Nat.le_of_eq (by simpa [Value.ownBlock] using hk))
    go_wp2_with fail
    go_ret
    exact ⟨_, rfl, hown, hB⟩

section
variable {w : World} {s : Value} {l : List Int} {g : Nat} {lb : Array Value} (I : Nat → World → Prop) (Ix : Nat → World → Prop)
set_option maxHeartbeats 2000000 in
/-- slices.IndexFunc at numbers, whatever its function does: I what holds behind k calls that said no, Ix behind one that said yes. -/
theorem IndexFunc_gen (eg : ∀ args w, (callFunc g args).run Try.prog w = .ok (.enter g args) w) (hl : l.length ≤ 1000000) (hI : ∀ k W, I k W → Ints W s l) (h0 : I 0 w)
    (hstep : ∀ k W, k < l.length → I k W → Calls Try.prog g (#[.int .i64 (l.getD k 0)] ++ lb) W fun e w' => (e = .returned (.bool false) ∧ I (k + 1) w') ∨ (e = .returned (.bool true) ∧ Ix k w')) :
    Calls Try.prog 25 #[s, .func (.func g) #[] lb] w fun e w' => (e = .returned (.int .i64 (-1)) ∧ I l.length w') ∨ ∃ k : Nat, k < l.length ∧ e = .returned (.int .i64 k) ∧ Ix k w' := by
  obtain ⟨A, c, rfl⟩ := (hI 0 w h0).form
  have HI := Lib.hid hI
  have HS := Lib.hid hstep
  clear hI hstep
  go_enter Try.func25, Try.ntmps25
  go_wp2_with fail
  go_loopw [5, 8] (fun _ i wr => ∃ k : Nat, i = .int .i64 k ∧ k ≤ l.length ∧ I k wr) (fun _ i _ => ((l.length : Int) - intOf i).toNat)
  case atStart => exact ⟨0, rfl, by omega, h0⟩
  case round =>
    obtain ⟨k, rfl, hk, hr⟩ := hrel
    by_cases hkl : k < l.length
    · have hki : (k : Int) < l.length := by omega
      have hcs := HI.out k wr hr
      have hcall := HS.out k wr hkl hr
      rcases hcs with ⟨h1, h2⟩ | ⟨b, off, c', h1, h2⟩
      · rw [h2] at hkl; simp at hkl
      · cases h1
        have h3 := h2 k hkl
        clear h2
        generalize l.getD k 0 = y at *
        go_wp2_with (go_at_fn g; refine hcall.mono ?_; rintro e w' (⟨rfl, hr'⟩ | ⟨rfl, hr'⟩))
        · exact ⟨⟨k + 1, by simp, by omega, hr'⟩, by simp [intOf]; omega⟩
        · go_ret
          exact .inr ⟨k, hkl, rfl, hr'⟩
    · have hki : ¬ (k : Int) < l.length := by omega
      have hke : k = l.length := by omega
      rw [hke] at hr
      go_wp2_with fail
      go_ret
      exact .inl ⟨rfl, hr⟩

set_option maxHeartbeats 2000000 in
/-- slices.ContainsFunc at numbers. -/
theorem ContainsFunc_gen (eg : ∀ args w, (callFunc g args).run Try.prog w = .ok (.enter g args) w) (hl : l.length ≤ 1000000) (hI : ∀ k W, I k W → Ints W s l) (h0 : I 0 w)
    (hstep : ∀ k W, k < l.length → I k W → Calls Try.prog g (#[.int .i64 (l.getD k 0)] ++ lb) W fun e w' => (e = .returned (.bool false) ∧ I (k + 1) w') ∨ (e = .returned (.bool true) ∧ Ix k w')) :
    Calls Try.prog 22 #[s, .func (.func g) #[] lb] w fun e w' => (e = .returned (.bool false) ∧ I l.length w') ∨ ∃ k : Nat, k < l.length ∧ e = .returned (.bool true) ∧ Ix k w' := by
  have hc := IndexFunc_gen I Ix eg hl hI h0 hstep
  clear hI h0 hstep eg
  go_enter Try.func22, Try.ntmps22
  go_wp2_with (go_at_call 25; refine hc.mono ?_; rintro e w' (⟨rfl, hr'⟩ | ⟨k, hk, rfl, hr'⟩))
  · go_ret
    exact .inl ⟨rfl, hr'⟩
  · go_ret
    exact .inr ⟨k, hk, by simp, hr'⟩
end

/-- len at the reference's In. -/
theorem In_in {w : World} (A : Option Addr) (n c : Nat) (i : Int) : Calls Try.prog 15 #[.slice A n c, .int .i64 i] w fun e w' => e = .returned (.bool (TreP.inT n i)) ∧ w = w' := by
  by_cases h0 : 0 ≤ i
  · by_cases h1 : i < n
    · rw [show TreP.inT n i = true by simp [TreP.inT, h0, h1]]
      go_enter Try.func15, Try.ntmps15
      go_wp2_with fail
      go_ret
      exact ⟨rfl, rfl⟩
    · rw [show TreP.inT n i = false by simp [TreP.inT, h0, h1]]
      go_enter Try.func15, Try.ntmps15
      go_wp2_with fail
      go_ret
      exact ⟨rfl, rfl⟩
  · have h2 : decide (0 ≤ i) = false := decide_eq_false h0
    rw [show TreP.inT n i = false by simp [TreP.inT, h2]]
    go_enter Try.func15, Try.ntmps15
    go_wp2_with fail
    go_ret
    exact ⟨rfl, rfl⟩

theorem Len_in {w : World} {B t : Nat} {A : Option Addr} {c : Nat} {ms : List (Nd × Value)} (h : TreeAt w B t (.slice A ms.length c) ms) : Calls Try.prog 18 #[.pointer (some ⟨t, 0, none⟩)] w fun e w' => e = .returned (.int .i64 ms.length) ∧ w = w' := by
  have hc := cellOf1 h.obj
  go_enter Try.func18, Try.ntmps18
  go_wp2_with fail
  go_ret
  exact ⟨rfl, rfl⟩
end Go.Proofs.Ytnaednfdaaiciaa
