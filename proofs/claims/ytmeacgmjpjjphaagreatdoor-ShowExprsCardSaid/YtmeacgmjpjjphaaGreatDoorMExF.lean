/- Expressions of a level. -/
import Derived.Test.YtmeacgmjpjjphaaGreatDoorMLex
import Derived.Test.YtmeacgmjpjjphaaGreatDoorMTre4
import Derived.Test.YtmeacgmjpjjphaaGreatDoorMExR
import Derived.Recover
set_option linter.unusedVariables false
set_option linter.unusedSimpArgs false
namespace Go.Proofs.YtmeacgmjpjjphaaGreatDoor
open Go.RowKit
open Tr (Nd TreeAt Own Ints)

theorem rowsT_at : ∀ (l : List Tok) (i j : Nat), i < l.length → j < 5 → (rowsT l)[i * 5 + j]? = (tokCells (l.getD i zTok))[j]?
  | [], i, j, h, _ => absurd h (by simp)
  | p :: l, 0, j, h, hj => by
    have e : rowsT (p :: l) = tokCells p ++ rowsT l := rfl
    rw [e, List.getElem?_append_left (by simp [tokCells]; omega)]
    simp
  | p :: l, i + 1, j, h, hj => by
    have ih := rowsT_at l i j (by simpa using h) hj
    have e : rowsT (p :: l) = tokCells p ++ rowsT l := rfl
    rw [e, show (i + 1) * 5 + j = 5 + (i * 5 + j) by omega, List.getElem?_append_right (by simp [tokCells])]
    simpa [tokCells] using ih
theorem cells4 {w : World} {b : Nat} {x0 x1 x2 x3 : Value} {t : TypeId} (h : w.heap[b]? = some (.cells #[x0, x1, x2, x3] t)) : w.cell? ⟨b, 0, none⟩ = some x0 ∧ w.cell? ⟨b, 1, none⟩ = some x1 ∧ w.cell? ⟨b, 2, none⟩ = some x2 ∧ w.cell? ⟨b, 3, none⟩ = some x3 := by
  refine ⟨?_, ?_, ?_, ?_⟩ <;> simp only [World.cell?, h] <;> rfl
theorem own_at {w : World} {B e s n : Nat} {v : Value} {xs : List Value} (h : w.ownsRow B e s v n xs) {g : Nat} (hg : v.ownBlock = some g) : ∃ c, w.heap[g]? = some (.cells c e) := Tr.owns_elem h hg

/-- What may turn: the reader's block, the tree's, its row of nodes. -/
structure Mv (b t : Nat) (v : Value) (w : World) (v' : Value) (w' : World) : Prop where
  os : w'.os = w.os
  tape : w'.tape = w.tape
  output : w'.output = w.output
  size : w.heap.size ≤ w'.heap.size
  block : ∀ k, k < w.heap.size → k ≠ b → k ≠ t → v.ownBlock ≠ some k → w'.heap[k]? = w.heap[k]?
  own : v'.ownBlock = v.ownBlock ∨ ∃ g, v'.ownBlock = some g ∧ w.heap.size ≤ g
section
variable {b t : Nat} {v v' v'' : Value} {w w' w'' : World}
theorem Mv.of (h : Below w.heap.size w w') : Mv b t v w v w' := ⟨h.os, h.tape, h.output, h.size, fun k hk _ _ _ => h.block k hk, .inl rfl⟩
theorem Mv.refl (b t : Nat) (v : Value) (w : World) : Mv b t v w v w := Mv.of (Below.refl _ _)
theorem Mv.trans (h : Mv b t v w v' w') (k : Mv b t v' w' v'' w'') : Mv b t v w v'' w'' := by
  refine ⟨k.os.trans h.os, k.tape.trans h.tape, k.output.trans h.output, Nat.le_trans h.size k.size, fun i hi hb ht hv => ?_, ?_⟩
  · refine (k.block i (Nat.lt_of_lt_of_le hi h.size) hb ht fun e => ?_).trans (h.block i hi hb ht hv)
    rcases h.own with h1 | ⟨g, h1, h2⟩
    · exact hv (h1 ▸ e)
    · rw [h1] at e
      have := Option.some.inj e
      omega
  · rcases k.own with h1 | ⟨g, h1, h2⟩
    · rcases h.own with h3 | ⟨g, h3, h4⟩
      · exact .inl (h1.trans h3)
      · exact .inr ⟨g, h1.trans h3, h4⟩
    · exact .inr ⟨g, h1, Nat.le_trans h.size h2⟩
theorem Mv.then (h : Mv b t v w v' w') (k : Below w'.heap.size w' w'') : Mv b t v w v' w'' := h.trans (Mv.of k)
theorem Mv.set (h : Mv b t v w v' w') (i : Nat) (x : Value) : Mv b t v w v' (w'.setCell ⟨b, i, none⟩ x) :=
  ⟨h.os, h.tape, h.output, by rw [show (w'.setCell ⟨b, i, none⟩ x).heap.size = w'.heap.size by simp [World.setCell]]; exact h.size, fun k hk hb ht hv => (Below.heap_setCell _ _ _ _ hb).trans (h.block k hk hb ht hv), h.own⟩
theorem Mv.below {B : Nat} (h : Mv b t v w v' w') (hb : B ≤ b) (ht : B ≤ t) (hv : ∀ g, v.ownBlock = some g → B ≤ g) (hB : B ≤ w.heap.size) : Below B w w' :=
  ⟨h.os, h.tape, h.output, h.size, fun k hk => h.block k (by omega) (by omega) (by omega) fun e => by have := hv k e; omega⟩
end

theorem tree_set {w : World} {B t : Nat} {v : Value} {ms : List (Nd × Value)} (h : TreeAt w B t v ms) {b : Nat} {c : Array Value} (hb : w.heap[b]? = some (.cells c 69)) (i : Nat) (x : Value) : TreeAt (w.setCell ⟨b, i, none⟩ x) B t v ms := by
  refine ⟨h.base, (Below.heap_setCell _ _ _ _ fun e => ?_).trans h.obj, Tr.owns_block h.rows fun g hg => Below.heap_setCell _ _ _ _ fun e => ?_, fun p hp => Tr.owns_block (h.kid p hp) fun g hg => Below.heap_setCell _ _ _ _ fun e => ?_⟩
  · have := h.obj
    rw [e, hb] at this
    simp at this
  · obtain ⟨c', hc⟩ := own_at h.rows hg
    rw [e, hb] at hc
    simp at hc
  · obtain ⟨c', hc⟩ := own_at (h.kid p hp) hg
    rw [e, hb] at hc
    simp at hc

/-- A reader in block b, its tree in t, all its tokens ts, of which l are left; d deep. -/
structure RdrAt (B b t : Nat) (tv : Value) (ts l : List Tok) (d : Int) (v : Value) (ms : List (Nd × Value)) (w : World) : Prop where
  base : B ≤ b
  obj : ∃ n : Nat, n + l.length = ts.length ∧ w.heap[b]? = some (.cells #[.pointer (some ⟨t, 0, none⟩), tv, .int .i64 (n : Int), .int .i64 d] 69)
  suf : l <:+ ts
  toks : w.ownsRow B 35 5 tv ts.length (rowsT ts)
  tree : TreeAt w B t v ms
  pre : Pre l (ms.map (·.1))
  few : ts.length ≤ 65540
section
variable {B b t : Nat} {tv : Value} {ts l : List Tok} {d : Int} {v : Value} {ms : List (Nd × Value)} {w w' : World}
theorem RdrAt.blk (h : RdrAt B b t tv ts l d v ms w) : ∃ c, w.heap[b]? = some (.cells c 69) := let ⟨_, _, h⟩ := h.obj; ⟨_, h⟩
theorem RdrAt.lt (h : RdrAt B b t tv ts l d v ms w) : b < w.heap.size := let ⟨_, h⟩ := h.blk; heap_lt h
theorem RdrAt.under (h : RdrAt B b t tv ts l d v ms w) (hb : Below w.heap.size w w') : RdrAt B b t tv ts l d v ms w' := by
  obtain ⟨n, h1, h2⟩ := h.obj
  exact ⟨h.base, ⟨n, h1, (hb.block _ (heap_lt h2)).trans h2⟩, h.suf, Tr.owns_below h.toks hb, h.tree.below hb, h.pre, h.few⟩
theorem RdrAt.other (h : RdrAt B b t tv ts l d v ms w) {k : Nat} {c : Array Value} {e : TypeId} (hk : w.heap[k]? = some (.cells c e)) (h1 : e ≠ 69) (h2 : e ≠ 88) (h3 : e ≠ 53) : k ≠ b ∧ k ≠ t ∧ v.ownBlock ≠ some k := by
  refine ⟨fun e' => ?_, fun e' => ?_, fun e' => ?_⟩
  · obtain ⟨c', hc⟩ := h.blk
    rw [← e', hk] at hc
    simp at hc
    exact h1 hc.2
  · have hc := h.tree.obj
    rw [← e', hk] at hc
    simp at hc
    exact h2 hc.2
  · obtain ⟨c', hc⟩ := own_at h.tree.rows e'
    rw [hk] at hc
    simp at hc
    exact h3 hc.2
theorem Mv.keep {v' : Value} (m : Mv b t v w v' w') (h : RdrAt B b t tv ts l d v ms w) {k : Nat} {c : Array Value} {e : TypeId} (hk : w.heap[k]? = some (.cells c e)) (h1 : e ≠ 69) (h2 : e ≠ 88) (h3 : e ≠ 53) : w'.heap[k]? = some (.cells c e) := by
  obtain ⟨a1, a2, a3⟩ := h.other hk h1 h2 h3
  exact (m.block k (heap_lt hk) a1 a2 a3).trans hk
theorem Mv.row {v' : Value} (m : Mv b t v w v' w') (h : RdrAt B b t tv ts l d v ms w) {B' e s n : Nat} {u : Value} {xs : List Value} (hr : w.ownsRow B' e s u n xs) (h1 : e ≠ 69) (h2 : e ≠ 88) (h3 : e ≠ 53) : w'.ownsRow B' e s u n xs :=
  Tr.owns_block hr fun g hg => by
    obtain ⟨c, hc⟩ := own_at hr hg
    rw [m.keep h hc h1 h2 h3, hc]
/-- The tokens, one by one. -/
theorem RdrAt.tok (h : RdrAt B b t tv ts l d v ms w) : ∃ (n g cap : Nat), n + l.length = ts.length ∧ tv = .slice (some ⟨g, 0, none⟩) ts.length cap ∧ (w.cell? ⟨b, 0, none⟩ = some (.pointer (some ⟨t, 0, none⟩)) ∧ w.cell? ⟨b, 1, none⟩ = some (.slice (some ⟨g, 0, none⟩) ts.length cap) ∧ w.cell? ⟨b, 2, none⟩ = some (.int .i64 (n : Int)) ∧ w.cell? ⟨b, 3, none⟩ = some (.int .i64 d)) ∧
    ∀ i, i < l.length → w.cell? ⟨g, (n + i) * 5, none⟩ = some (.int .i64 (l.getD i zTok).kind) ∧ w.cell? ⟨g, (n + i) * 5 + 1, none⟩ = some (.string (l.getD i zTok).text) ∧ w.cell? ⟨g, (n + i) * 5 + 2, none⟩ = some (.int .i64 (l.getD i zTok).num) ∧ w.cell? ⟨g, (n + i) * 5 + 3, none⟩ = some (.int .i64 (l.getD i zTok).line) ∧ w.cell? ⟨g, (n + i) * 5 + 4, none⟩ = some (.int .i64 (l.getD i zTok).col) := by
  obtain ⟨n, h1, h2⟩ := h.obj
  obtain ⟨p, hp⟩ := h.suf
  have hpn : p.length = n := by
    have := congrArg List.length hp
    rw [List.length_append] at this
    omega
  have hne : 0 < l.length := by
    obtain ⟨t, r, rfl⟩ := h.pre.ends.cons
    simp
  rcases h.toks.2 with ⟨rfl, h0⟩ | ⟨g, cap, cur, e, hg, hh, r⟩
  · omega
  · have ht := h.toks
    rw [e] at ht
    refine ⟨n, g, cap, h1, e, by rw [← e]; exact cells4 h2, fun i hi => ?_⟩
    have hgd : ts.getD (n + i) zTok = l.getD i zTok := by
      rw [← hp, List.getD, List.getD, List.getElem?_append_right (by omega)]
      congr 2
      omega
    have c : ∀ j, j < 5 → w.cell? ⟨g, (n + i) * 5 + j, none⟩ = (tokCells (l.getD i zTok))[j]? := fun j hj => by
      rw [World.ownsRow.cellAt ht ((n + i) * 5 + j) (by omega), rowsT_at ts (n + i) j (by omega) hj, hgd]
    exact ⟨c 0 (by omega), c 1 (by omega), c 2 (by omega), c 3 (by omega), c 4 (by omega)⟩
/-- Behind the token that came. -/
theorem RdrAt.step (h : RdrAt B b t tv ts l d v ms w) (hk : (hdT l).kind ≠ 0) {n : Nat} (hn : n + l.length = ts.length) : RdrAt B b t tv ts l.tail d v ms (w.setCell ⟨b, 2, none⟩ (.int .i64 ((n : Int) + 1))) := by
  obtain ⟨n', h1, h2⟩ := h.obj
  obtain rfl : n' = n := by omega
  have ha := h.pre.tail hk
  obtain ⟨x, r, rfl⟩ := h.pre.ends.cons
  refine ⟨h.base, ⟨n' + 1, by simp at h1 ⊢; omega, ?_⟩, ha.suf.trans h.suf, ?_, tree_set h.tree h2 _ _, ha.pre, h.few⟩
  · rw [setc h2 2]
    rfl
  · exact Tr.owns_block h.toks fun g hg => Below.heap_setCell _ _ _ _ fun e => by
      obtain ⟨c', hc⟩ := own_at h.toks hg
      rw [e, h2] at hc
      simp at hc
/-- Another depth. -/
theorem RdrAt.dive (h : RdrAt B b t tv ts l d v ms w) (d' : Int) : RdrAt B b t tv ts l d' v ms (w.setCell ⟨b, 3, none⟩ (.int .i64 d')) := by
  obtain ⟨n', h1, h2⟩ := h.obj
  refine ⟨h.base, ⟨n', h1, ?_⟩, h.suf, ?_, tree_set h.tree h2 _ _, h.pre, h.few⟩
  · rw [setc h2 3]
    rfl
  · exact Tr.owns_block h.toks fun g hg => Below.heap_setCell _ _ _ _ fun e => by
      obtain ⟨c', hc⟩ := own_at h.toks hg
      rw [e, h2] at hc
      simp at hc
theorem RdrAt.frozen (h : RdrAt B b t tv ts l d v ms w) (i : Nat) : w.frozen? ⟨b, i, none⟩ = false := let ⟨_, h⟩ := h.blk; frozenOf h i
end

theorem Turn.setNew {g : Nat} {a c : World} (h : Turn g a c) {k : Nat} (hk : a.heap.size ≤ k) (i : Nat) (x : Value) : Turn g a (c.setCell ⟨k, i, none⟩ x) :=
  ⟨h.os, h.tape, h.output, by rw [show (c.setCell ⟨k, i, none⟩ x).heap.size = c.heap.size by simp [World.setCell]]; exact h.size, fun j hj hg => (Below.heap_setCell _ _ _ _ (show j ≠ k by omega)).trans (h.block j hj hg)⟩
theorem Turn.mv {g t : Nat} {v : Value} {a c : World} (h : Turn g a c) : Mv g t v a v c := ⟨h.os, h.tape, h.output, h.size, fun k hk hb _ _ => h.block k hk hb, .inl rfl⟩
theorem heap_far {w : World} {b k : Nat} {o : Obj} (h : w.heap[b]? = some o) (hk : b ≠ k) (i : Nat) (x : Value) : (w.setCell ⟨k, i, none⟩ x).heap[b]? = some o := (Below.heap_setCell _ _ _ _ hk).trans h
theorem Mv.setNew {b t : Nat} {v v' : Value} {w w' : World} (h : Mv b t v w v' w') {k : Nat} (hk : w.heap.size ≤ k) (i : Nat) (x : Value) : Mv b t v w v' (w'.setCell ⟨k, i, none⟩ x) :=
  ⟨h.os, h.tape, h.output, by rw [show (w'.setCell ⟨k, i, none⟩ x).heap.size = w'.heap.size by simp [World.setCell]]; exact h.size, fun j hj hb ht hv => (Below.heap_setCell _ _ _ _ (show j ≠ k by omega)).trans (h.block j hj hb ht hv), h.own⟩
theorem Mv.drew {b t : Nat} {v v' : Value} {w w' : World} (h : Mv b t v w v' w') : Mv b t v w v' w'.drew := h.then (Below.refl _ _).drew
/-- Of a reader its own block alone turned. -/
theorem RdrAt.turned {B b t : Nat} {tv : Value} {ts l l' : List Tok} {d d' : Int} {v : Value} {ms : List (Nd × Value)} {w w' : World} (h : RdrAt B b t tv ts l d v ms w) (ht : Turn b w w') {n : Nat} (hn : n + l'.length = ts.length) (hs : l' <:+ l) (hp : Pre l' (ms.map (·.1)))
    (hb : w'.heap[b]? = some (.cells #[.pointer (some ⟨t, 0, none⟩), tv, .int .i64 (n : Int), .int .i64 d'] 69)) : RdrAt B b t tv ts l' d' v ms w' := by
  obtain ⟨n', h1, h2⟩ := h.obj
  have far : ∀ {B' e s m : Nat} {u : Value} {xs : List Value}, w.ownsRow B' e s u m xs → e ≠ 69 → w'.ownsRow B' e s u m xs := fun hr he => Tr.owns_block hr fun g hg => by
    obtain ⟨c, hc⟩ := own_at hr hg
    exact ht.block g (heap_lt hc) fun e' => by
      rw [e', h2] at hc
      simp at hc
      exact he hc.2.symm
  refine ⟨h.base, ⟨n, hn, hb⟩, hs.trans h.suf, far h.toks (by decide), ⟨h.tree.base, ?_, far h.tree.rows (by decide), fun p hp => far (h.tree.kid p hp) (by decide)⟩, hp, h.few⟩
  exact (ht.block t (heap_lt h.tree.obj) fun e' => by
    have := h.tree.obj
    rw [e', h2] at this
    simp at this).trans h.tree.obj

/-- Nodes' parts lie where they lay, or in new blocks. -/
def Kn (ms : List (Nd × Value)) (w : World) (ms' : List (Nd × Value)) : Prop := ∀ p ∈ ms', p.2 ∈ ms.map (·.2) ∨ ∀ g, p.2.ownBlock = some g → w.heap.size ≤ g
theorem Kn.refl (ms : List (Nd × Value)) (w : World) : Kn ms w ms := fun p hp => .inl (List.mem_map.2 ⟨p, hp, rfl⟩)
theorem Kn.trans {ms ms' ms'' : List (Nd × Value)} {w w' : World} (h : Kn ms w ms') (hs : w.heap.size ≤ w'.heap.size) (k : Kn ms' w' ms'') : Kn ms w ms'' := fun p hp => by
  rcases k p hp with h1 | h1
  · obtain ⟨p', hp', e⟩ := List.mem_map.1 h1
    rw [← e]
    exact h p' hp'
  · exact .inr fun g hg => Nat.le_trans hs (h1 g hg)
structure Mw (b t : Nat) (v : Value) (ms : List (Nd × Value)) (w : World) (v' : Value) (ms' : List (Nd × Value)) (w' : World) : Prop extends Mv b t v w v' w' where
  kn : Kn ms w ms'
section
variable {b t : Nat} {v v' v'' : Value} {ms ms' ms'' : List (Nd × Value)} {w w' w'' : World}
theorem Mw.same (h : Mv b t v w v w') : Mw b t v ms w v ms w' := ⟨h, Kn.refl _ _⟩
theorem Mw.of (h : Below w.heap.size w w') : Mw b t v ms w v ms w' := Mw.same (Mv.of h)
theorem Mw.trans (h : Mw b t v ms w v' ms' w') (k : Mw b t v' ms' w' v'' ms'' w'') : Mw b t v ms w v'' ms'' w'' := ⟨h.toMv.trans k.toMv, h.kn.trans h.size k.kn⟩
theorem Mw.then (h : Mw b t v ms w v' ms' w') (k : Below w'.heap.size w' w'') : Mw b t v ms w v' ms' w'' := h.trans (Mw.of k)
theorem Mw.set (h : Mw b t v ms w v' ms' w') (i : Nat) (x : Value) : Mw b t v ms w v' ms' (w'.setCell ⟨b, i, none⟩ x) := ⟨h.toMv.set i x, h.kn⟩
theorem Mw.setNew (h : Mw b t v ms w v' ms' w') {k : Nat} (hk : w.heap.size ≤ k) (i : Nat) (x : Value) : Mw b t v ms w v' ms' (w'.setCell ⟨k, i, none⟩ x) := ⟨h.toMv.setNew hk i x, h.kn⟩
end

/-- The panic of a diagnosis. -/
def panicV (c l k : Int) : List PanicEntry := [{ v := .iface 41 (.agg #[.int .i64 c, .int .i64 l, .int .i64 k, .string ⟨#[]⟩]), recovered := false }]
/-- Behind a panic: the reader is still there. -/
def Bad (b t : Nat) (tv v : Value) (w w' : World) : Prop := ∃ v' n d', w'.heap[b]? = some (.cells #[.pointer (some ⟨t, 0, none⟩), tv, .int .i64 n, .int .i64 d'] 69) ∧ Mv b t v w v' w'
theorem Bad.after {b t : Nat} {tv v v' : Value} {w w' w'' : World} (m : Mv b t v w v' w') (h : Bad b t tv v' w' w'') : Bad b t tv v w w'' :=
  let ⟨v2, n, d', h1, h2⟩ := h; ⟨v2, n, d', h1, m.trans h2⟩
theorem RdrAt.bad {B b t : Nat} {tv : Value} {ts l : List Tok} {d : Int} {v v' : Value} {ms : List (Nd × Value)} {w w' : World} (h : RdrAt B b t tv ts l d v' ms w') (m : Mv b t v w v' w') : Bad b t tv v w w' :=
  let ⟨n, _, h2⟩ := h.obj; ⟨v', _, _, h2, m⟩
/-- How a call ends, by what the plain reading says. -/
def PostG {α : Type} (enc : α → Value) (B b t : Nat) (tv : Value) (ts : List Tok) (d : Int) (v : Value) (ms : List (Nd × Value)) (w : World) (o : Out α) (e : Ending) (w' : World) : Prop := match o with
  | .bad c l k => e = .panicked (panicV c l k) ∧ Bad b t tv v w w'
  | .ok a l' m' => e = .returned (enc a) ∧ ∃ v' ms', ms'.map (·.1) = m' ∧ RdrAt B b t tv ts l' d v' ms' w' ∧ Mw b t v ms w v' ms' w'

end Go.Proofs.YtmeacgmjpjjphaaGreatDoor
namespace Go.Proofs.YtmeacgmjpjjphaaGreatDoor
open Go.RowKit
open Tr (Nd TreeAt Own Ints)

section
variable {B b t : Nat} {tv : Value} {ts l : List Tok} {d : Int} {v : Value} {ms : List (Nd × Value)} {w : World}
theorem hd_getD (l : List Tok) : l.getD 0 zTok = hdT l := by cases l <;> rfl
theorem hd_tail (l : List Tok) : l.getD 1 zTok = hdT l.tail := by
  cases l with
  | nil => rfl
  | cons a r => exact hd_getD r
set_option maxRecDepth 100000 in
set_option maxHeartbeats 4000000 in
theorem Next_in (h : RdrAt B b t tv ts l d v ms w) : Calls Tryz.prog 23 #[.pointer (some ⟨b, 0, none⟩)] w fun e w' => e = .returned (tokV (hdT l)) ∧ Below w.heap.size w w' := by
  obtain ⟨n, g, cap, hn, rfl, ⟨b0, b1, b2, b3⟩, hc⟩ := h.tok
  have hl : 0 < l.length := by
    obtain ⟨t, r, rfl⟩ := h.pre.ends.cons
    simp
  obtain ⟨c0, c1, c2, c3, c4⟩ := hc 0 hl
  have hfew := h.few
  rw [hd_getD] at c0 c1 c2 c3 c4
  simp only [Nat.add_zero] at c0 c1 c2 c3 c4
  clear hc h
  unfold tokV
  generalize hdT l = x at *
  obtain ⟨k, tx, nm, ln, cl⟩ := x
  simp only at c0 c1 c2 c3 c4 ⊢
  have hlt : (n : Int) < (ts.length : Int) := by omega
  have hbd : b < w.heap.size := cell_lt b0
  have hgd : g < w.heap.size := cell_lt c0
  go_enter Tryz.func23, Tryz.ntmps23
  go_wp2_with fail
  go_region
  go_wp2_with fail
  exact bodyPost_ret (v := .agg #[.int .i64 k, .string tx, .int .i64 nm, .int .i64 ln, .int .i64 cl]) (by simp [results, Tryz.results23, go_sem]) rfl ⟨rfl, ((Below.refl _ w).alloc (Nat.le_refl _) _).drew⟩
theorem isT_mark {s : ByteArray} {x : Tok} (h : x.kind = 4 ∨ x.kind = 2) : isT s x = decide (x.text = s) := by
  unfold isT
  rcases h with h | h <;> rw [h] <;> rfl
theorem isT_no {s : ByteArray} {x : Tok} (h4 : x.kind ≠ 4) (h2 : x.kind ≠ 2) : isT s x = false := by
  unfold isT
  rw [decide_eq_false h4, decide_eq_false h2]
  rfl
theorem text_eq (a b : ByteArray) : (a.toList == b.toList) = decide (a = b) := by
  by_cases h : a = b
  · subst h; simp
  · rw [decide_eq_false h, beq_eq_false_iff_ne]
    intro e
    refine h ?_
    have : a.data.toList = b.data.toList := by rwa [Lib.toList_data, Lib.toList_data] at e
    cases a; cases b
    simpa using this
set_option maxRecDepth 100000 in
set_option maxHeartbeats 4000000 in
theorem Is_in (h : RdrAt B b t tv ts l d v ms w) (s : ByteArray) : Calls Tryz.prog 12 #[.pointer (some ⟨b, 0, none⟩), .string s] w fun e w' => e = .returned (.bool (isT s (hdT l))) ∧ Below w.heap.size w w' := by
  have hn := Next_in h
  have hq := text_eq (hdT l).text s
  have hm := @isT_mark s (hdT l)
  have hno := @isT_no s (hdT l)
  clear h
  unfold tokV at hn
  generalize hdT l = x at *
  obtain ⟨k, tx, nm, ln, cl⟩ := x
  simp only at hn hq hm hno
  have HN := Lib.hid hn
  have HM := Lib.hid hm
  have HNO := Lib.hid hno
  clear hn hm hno
  by_cases h4 : k = 4
  · subst h4
    rw [HM.out (.inl rfl)]
    go_enter Tryz.func12, Tryz.ntmps12
    go_wp2_with fail
    refine HN.out.mono ?_
    rintro e w2 ⟨rfl, hb⟩
    have HB := Lib.hid (hb.alloc hb.size (.cells #[.int .i64 4, .string tx, .int .i64 nm, .int .i64 ln, .int .i64 cl] 35))
    clear hb
    go_wp2_with fail
    go_ret
    exact ⟨rfl, HB.out⟩
  · by_cases h2 : k = 2
    · subst h2
      rw [HM.out (.inr rfl)]
      go_enter Tryz.func12, Tryz.ntmps12
      go_wp2_with fail
      refine HN.out.mono ?_
      rintro e w2 ⟨rfl, hb⟩
      have HB := Lib.hid (hb.alloc hb.size (.cells #[.int .i64 2, .string tx, .int .i64 nm, .int .i64 ln, .int .i64 cl] 35))
      clear hb
      go_wp2_with fail
      go_ret
      exact ⟨rfl, HB.out⟩
    · have e4 : (k == 4) = false := by simp [h4]
      have e2 : (k == 2) = false := by simp [h2]
      rw [HNO.out h4 h2]
      clear h4 h2
      go_enter Tryz.func12, Tryz.ntmps12
      go_wp2_with fail
      refine HN.out.mono ?_
      rintro e w2 ⟨rfl, hb⟩
      have HB := Lib.hid (hb.alloc hb.size (.cells #[.int .i64 k, .string tx, .int .i64 nm, .int .i64 ln, .int .i64 cl] 35))
      clear hb
      go_wp2_with fail
      go_ret
      exact ⟨rfl, HB.out⟩
end
end Go.Proofs.YtmeacgmjpjjphaaGreatDoor
namespace Go.Proofs.YtmeacgmjpjjphaaGreatDoor
open Go.RowKit
open Tr (Nd TreeAt Own Ints)

theorem set5_far {w : World} {b k : Nat} {o : Obj} (h : w.heap[b]? = some o) (hk : b ≠ k) (x0 x1 x2 x3 x4 : Value) : (((((w.setCell ⟨k, 0, none⟩ x0).setCell ⟨k, 1, none⟩ x1).setCell ⟨k, 2, none⟩ x2).setCell ⟨k, 3, none⟩ x3).setCell ⟨k, 4, none⟩ x4).heap[b]? = some o :=
  heap_far (heap_far (heap_far (heap_far (heap_far h hk _ _) hk _ _) hk _ _) hk _ _) hk _ _
theorem Turn.set5 {g : Nat} {a c : World} (h : Turn g a c) {k : Nat} (hk : a.heap.size ≤ k) (x0 x1 x2 x3 x4 : Value) : Turn g a (((((c.setCell ⟨k, 0, none⟩ x0).setCell ⟨k, 1, none⟩ x1).setCell ⟨k, 2, none⟩ x2).setCell ⟨k, 3, none⟩ x3).setCell ⟨k, 4, none⟩ x4) :=
  ((((h.setNew hk 0 x0).setNew hk 1 x1).setNew hk 2 x2).setNew hk 3 x3).setNew hk 4 x4
theorem field_at (k nm ln cl : Int) (tx : ByteArray) (w : World) : (Instr.field 35 (.agg #[.int .i64 k, .string tx, .int .i64 nm, .int .i64 ln, .int .i64 cl]) 3).run Tryz.prog w = .ok (.agg #[.int .i64 ln, .int .i64 cl]) w := by kernel_rfl
theorem field_text (k nm ln cl : Int) (tx : ByteArray) (w : World) : (Instr.field 35 (.agg #[.int .i64 k, .string tx, .int .i64 nm, .int .i64 ln, .int .i64 cl]) 1).run Tryz.prog w = .ok (.string tx) w := by kernel_rfl
theorem field_kind (k nm ln cl : Int) (tx : ByteArray) (w : World) : (Instr.field 35 (.agg #[.int .i64 k, .string tx, .int .i64 nm, .int .i64 ln, .int .i64 cl]) 0).run Tryz.prog w = .ok (.int .i64 k) w := by kernel_rfl
section
variable {B b t : Nat} {tv : Value} {ts l : List Tok} {d : Int} {v : Value} {ms : List (Nd × Value)} {w : World}
set_option maxRecDepth 100000 in
set_option maxHeartbeats 4000000 in
theorem Wrong_rd (h : RdrAt B b t tv ts l d v ms w) (c : Int) : Calls Tryz.prog 24 #[.pointer (some ⟨b, 0, none⟩), .int .i64 c] w fun e w' => e = .returned (diagV c (hdT l).line (hdT l).col) ∧ Below w.heap.size w w' := by
  have hn := Next_in h
  clear h
  unfold tokV at hn
  unfold diagV
  generalize hdT l = x at *
  obtain ⟨k, tx, nm, ln, cl⟩ := x
  simp only at hn ⊢
  have HN := Lib.hid hn
  clear hn
  have hfa := field_at
  go_enter Tryz.func24, Tryz.ntmps24
  go_wp2_with fail
  refine HN.out.mono ?_
  rintro e w2 ⟨rfl, hb⟩
  go_wp2_with fail
  go_ret
  exact ⟨rfl, hb⟩
set_option maxRecDepth 100000 in
set_option maxHeartbeats 4000000 in
theorem fail_in (h : RdrAt B b t tv ts l d v ms w) (c : Int) : Calls Tryz.prog 58 #[.pointer (some ⟨b, 0, none⟩), .int .i64 c] w fun e w' => e = .panicked (panicV c (hdT l).line (hdT l).col) ∧ Below w.heap.size w w' := by
  have hn := Wrong_rd h c
  clear h
  unfold diagV at hn
  unfold panicV
  generalize hdT l = x at *
  obtain ⟨k, tx, nm, ln, cl⟩ := x
  simp only at hn ⊢
  have HN := Lib.hid hn
  clear hn
  go_enter Tryz.func58, Tryz.ntmps58
  go_wp2_with fail
  refine HN.out.mono ?_
  rintro e w2 ⟨rfl, hb⟩
  go_wp2_with fail
  exact ⟨rfl, rfl, hb⟩
set_option maxRecDepth 100000 in
set_option maxHeartbeats 4000000 in
/-- A mark, or a word, that comes, is passed over. -/
theorem take_yes (h : RdrAt B b t tv ts l d v ms w) {s : ByteArray} (hs : isT s (hdT l) = true) : Calls Tryz.prog 57 #[.pointer (some ⟨b, 0, none⟩), .string s] w fun e w' => e = .returned (.bool true) ∧ RdrAt B b t tv ts l.tail d v ms w' ∧ Mv b t v w v w' := by
  have hn := Is_in h s
  rw [hs] at hn
  have HK := Lib.hid (isT_kind hs)
  have HR := Lib.hid h
  have HN := Lib.hid hn
  clear h hn hs
  go_enter Tryz.func57, Tryz.ntmps57
  go_wp2_with fail
  refine HN.out.mono ?_
  rintro e w2 ⟨rfl, hb⟩
  have HR2 := Lib.hid (HR.out.under hb)
  have HM := Lib.hid (Mv.of (b := b) (t := t) (v := v) hb)
  obtain ⟨n, g, cap, hn, rfl, ⟨b0, b1, b2, b3⟩, hc⟩ := HR2.out.tok
  have hfz := HR2.out.frozen 2
  have hfew := HR2.out.few
  clear hc hb
  go_wp2_with fail
  go_ret
  exact ⟨rfl, HR2.out.step HK.out hn, HM.out.set 2 _⟩
set_option maxRecDepth 100000 in
set_option maxHeartbeats 4000000 in
theorem take_no (h : RdrAt B b t tv ts l d v ms w) {s : ByteArray} (hs : isT s (hdT l) = false) : Calls Tryz.prog 57 #[.pointer (some ⟨b, 0, none⟩), .string s] w fun e w' => e = .returned (.bool false) ∧ Below w.heap.size w w' := by
  have hn := Is_in h s
  rw [hs] at hn
  have HN := Lib.hid hn
  clear h hn hs
  go_enter Tryz.func57, Tryz.ntmps57
  go_wp2_with fail
  refine HN.out.mono ?_
  rintro e w2 ⟨rfl, hb⟩
  go_wp2_with fail
  go_ret
  exact ⟨rfl, hb⟩
set_option maxRecDepth 100000 in
set_option maxHeartbeats 4000000 in
/-- A token of a kind. -/
theorem kind_in (h : RdrAt B b t tv ts l d v ms w) {k : Int} (hk0 : k ≠ 0) : Calls Tryz.prog 50 #[.pointer (some ⟨b, 0, none⟩), .int .i64 k] w fun e w' => PostG tokV B b t tv ts d v ms w (kindP k l (ms.map (·.1))) e w' := by
  have hb0 := (Below.refl w.heap.size w).alloc (Nat.le_refl _) (.cells #[.int .i64 0, .string ⟨#[]⟩, .int .i64 0, .int .i64 0, .int .i64 0] 35)
  have HR0 := Lib.hid h
  have HR := Lib.hid (h.under hb0)
  have HL := Lib.hid (last w (.cells #[.int .i64 0, .string ⟨#[]⟩, .int .i64 0, .int .i64 0, .int .i64 0] 35))
  have HB1 := Lib.hid hb0
  have hn := Next_in HR.out
  unfold tokV at hn
  unfold kindP
  have hbl := h.lt
  clear h hb0
  by_cases hk : (hdT l).kind = k
  · rw [if_pos hk]
    unfold PostG tokV
    have HK := Lib.hid (show (hdT l).kind ≠ 0 by rw [hk]; exact hk0)
    clear hk0
    simp only
    generalize hx : hdT l = x at *
    obtain ⟨k', tx, nm, ln, cl⟩ := x
    simp only at hn hk HK ⊢
    have HX := Lib.hid hx
    clear hx
    subst hk
    have HN := Lib.hid hn
    clear hn
    have hr0 : b ≠ w.heap.size := by omega
    go_enter Tryz.func50, Tryz.ntmps50
    go_wp2_with fail
    generalize w.alloc (.cells #[.int .i64 0, .string ⟨#[]⟩, .int .i64 0, .int .i64 0, .int .i64 0] 35) = w1 at *
    refine HN.out.mono ?_
    rintro e w2 ⟨rfl, hb⟩
    have hb2 := hb.alloc hb.size (.cells #[.int .i64 k', .string tx, .int .i64 nm, .int .i64 ln, .int .i64 cl] 35)
    have HR2 := Lib.hid (HR.out.under hb2)
    have HB2 := Lib.hid (chain HB1.out hb2)
    have HL2 := Lib.hid ((hb2.block _ (heap_lt HL.out)).trans HL.out)
    have HT2 := Lib.hid (last w2 (.cells #[.int .i64 k', .string tx, .int .i64 nm, .int .i64 ln, .int .i64 cl] 35))
    have hbr2 : b ≠ w2.heap.size := by have := hb.size; have := HB1.out.size; omega
    clear hb hb2
    go_upto_region 2 with fail
    generalize w2.heap.size = r2 at *
    generalize w2.alloc (.cells #[.int .i64 k', .string tx, .int .i64 nm, .int .i64 ln, .int .i64 cl] 35) = w3 at *
    obtain ⟨n, g, cap, hn, rfl, ⟨b0, b1, b2, b3⟩, hc⟩ := HR2.out.tok
    obtain ⟨t0, t1, t2, t3, t4⟩ := cellsOf5 HT2.out
    have hfz := HR2.out.frozen 2
    have hfew := HR2.out.few
    clear hc
    go_upto_region 5 with fail
    have HTN := Lib.hid ((Turn.of b HB2.out).setCell 2 (.int .i64 ((n : Int) + 1)))
    have HBK := Lib.hid (setc HR2.out.obj.choose_spec.2 2 (.int .i64 ((n : Int) + 1)))
    have HL4 := Lib.hid (heap_far HL2.out (Ne.symm hr0) 2 (.int .i64 ((n : Int) + 1)))
    have HT4 := Lib.hid (heap_far HT2.out (Ne.symm hbr2) 2 (.int .i64 ((n : Int) + 1)))
    have HN4 := Lib.hid (show HR2.out.obj.choose = n by have := HR2.out.obj.choose_spec.1; omega)
    clear b0 b1 b2 b3 t0 t1 t2 t3 t4 hfz hfew
    generalize w3.setCell ⟨b, 2, none⟩ (.int .i64 ((n : Int) + 1)) = w4 at *
    obtain ⟨t0, t1, t2, t3, t4⟩ := cellsOf5 HT4.out
    obtain ⟨z0, z1, z2, z3, z4⟩ := cellsOf5 HL4.out
    have hfr := frozenOf HL4.out
    go_wp2_with fail
    have ht := HTN.out.set5 (Nat.le_refl w.heap.size) (.int .i64 k') (.string tx) (.int .i64 nm) (.int .i64 ln) (.int .i64 cl)
    have hkx : (hdT l).kind ≠ 0 := by rw [HX.out]; exact HK.out
    have ha := HR0.out.pre.tail hkx
    have htl : n + 1 + l.tail.length = ts.length := by
      obtain ⟨x, r, rfl⟩ := HR0.out.pre.ends.cons
      simp at hn ⊢
      omega
    have hbk := HBK.out
    rw [HN4.out] at hbk
    refine bodyPost_ret (v := .agg #[.int .i64 k', .string tx, .int .i64 nm, .int .i64 ln, .int .i64 cl]) (by simp [results, Tryz.results50, go_sem, t0, t1, t2, t3, t4, z0, z1, z2, z3, z4]) rfl ⟨rfl, v, ms, rfl, HR0.out.turned ht htl ha.suf ha.pre (set5_far hbk hr0 _ _ _ _ _), Mw.same ht.mv⟩
  · rw [if_neg hk]
    unfold PostG
    have hfa := fun W (hb : Below (w.alloc (.cells #[.int .i64 0, .string ⟨#[]⟩, .int .i64 0, .int .i64 0, .int .i64 0] 35)).heap.size (w.alloc (.cells #[.int .i64 0, .string ⟨#[]⟩, .int .i64 0, .int .i64 0, .int .i64 0] 35)) W) => fail_in (HR.out.under hb) 5
    generalize hx : hdT l = x at *
    obtain ⟨k', tx, nm, ln, cl⟩ := x
    simp only at hn hk hfa ⊢
    have HF := Lib.hid hfa
    have HN := Lib.hid hn
    have hne : (k' == k) = false := by simp [hk]
    clear hn hx hfa hk hk0
    go_enter Tryz.func50, Tryz.ntmps50
    go_wp2_with fail
    generalize w.alloc (.cells #[.int .i64 0, .string ⟨#[]⟩, .int .i64 0, .int .i64 0, .int .i64 0] 35) = w1 at *
    refine HN.out.mono ?_
    rintro e w2 ⟨rfl, hb⟩
    have HB2 := Lib.hid (hb.alloc hb.size (.cells #[.int .i64 k', .string tx, .int .i64 nm, .int .i64 ln, .int .i64 cl] 35))
    have HT2 := Lib.hid (last w2 (.cells #[.int .i64 k', .string tx, .int .i64 nm, .int .i64 ln, .int .i64 cl] 35))
    clear hb
    go_upto_region 2 with fail
    generalize w2.heap.size = r2 at *
    generalize w2.alloc (.cells #[.int .i64 k', .string tx, .int .i64 nm, .int .i64 ln, .int .i64 cl] 35) = w3 at *
    obtain ⟨t0, t1, t2, t3, t4⟩ := cellsOf5 HT2.out
    go_wp2_with fail
    refine (HF.out w3 HB2.out).mono ?_
    rintro e w4 ⟨rfl, hb⟩
    have HBD := Lib.hid ((HR.out.under (chain HB2.out hb)).bad (Mv.of (b := b) (t := t) (v := v) (chain HB1.out (chain HB2.out hb))))
    clear hb
    go_wp2_with fail
    exact ⟨rfl, rfl, HBD.out⟩
end
end Go.Proofs.YtmeacgmjpjjphaaGreatDoor
namespace Go.Proofs.YtmeacgmjpjjphaaGreatDoor
open Go.RowKit
open Tr (Nd TreeAt Own Ints)

def unitV (_ : Unit) : Value := .tuple #[]
section
variable {B b t : Nat} {tv : Value} {ts l : List Tok} {d : Int} {v : Value} {ms : List (Nd × Value)} {w : World}
set_option maxRecDepth 100000 in
set_option maxHeartbeats 4000000 in
/-- A mark, or a word, that must come. -/
theorem must_in (h : RdrAt B b t tv ts l d v ms w) {q : Nat} {s : ByteArray} {ty : TypeId} (hq : w.heap[q]? = some (.cells #[.string s] ty)) : Calls Tryz.prog 30 #[.pointer (some ⟨b, 0, none⟩), .slice (some ⟨q, 0, none⟩) 1 1] w fun e w' => PostG unitV B b t tv ts d v ms w (mustP s l (ms.map (·.1))) e w' := by
  have HR := Lib.hid h
  have q0 := Tr.cellOf1 hq
  unfold mustP
  cases hs : isT s (hdT l) with
  | true =>
    have HT := Lib.hid (take_yes h hs)
    rw [if_pos rfl]
    unfold PostG unitV
    clear h hs hq
    go_enter Tryz.func30, Tryz.ntmps30
    go_wp2_with fail
    refine wp_loop_rounds 2 ?_
    rw [rounds_succ]
    go_wp2_with fail
    refine HT.out.mono ?_
    rintro e w2 ⟨rfl, hr, hm⟩
    have HX := Lib.hid (And.intro hr hm)
    clear hr hm q0
    go_wp2_with fail
    rw [rounds_succ]
    go_wp2_with fail
    go_end0
    exact ⟨rfl, v, ms, rfl, HX.out.1, Mw.same HX.out.2⟩
  | false =>
    have HT := Lib.hid (take_no h hs)
    have hf := fun W hb => fail_in (h.under (w' := W) hb) 5
    have HF := Lib.hid hf
    rw [if_neg (by simp)]
    unfold PostG
    clear h hs hq hf
    go_enter Tryz.func30, Tryz.ntmps30
    go_wp2_with fail
    refine wp_loop_rounds 2 ?_
    rw [rounds_succ]
    go_wp2_with fail
    refine HT.out.mono ?_
    rintro e w2 ⟨rfl, hb⟩
    have HB := Lib.hid hb
    clear hb q0
    go_wp2_with fail
    refine (HF.out w2 HB.out).mono ?_
    rintro e w3 ⟨rfl, hb⟩
    have HX := Lib.hid (chain HB.out hb)
    clear hb
    go_wp2_with fail
    exact ⟨rfl, rfl, (HR.out.under HX.out).bad (Mv.of HX.out)⟩
theorem RdrAt.put {v' : Value} {ms' : List (Nd × Value)} {w' : World} (h : RdrAt B b t tv ts l d v ms w) (hf : ∀ k, k < w.heap.size → k ≠ t → some k ≠ v.ownBlock → w'.heap[k]? = w.heap[k]?) (ht : TreeAt w' B t v' ms') (hp : Pre l (ms'.map (·.1))) : RdrAt B b t tv ts l d v' ms' w' := by
  obtain ⟨n, h1, h2⟩ := h.obj
  have fr : ∀ {k : Nat} {c : Array Value} {e : TypeId}, w.heap[k]? = some (.cells c e) → e ≠ 88 → e ≠ 53 → w'.heap[k]? = some (.cells c e) := fun hk e2 e3 => by
    refine (hf _ (heap_lt hk) (fun e' => ?_) (fun e' => ?_)).trans hk
    · have hc := h.tree.obj
      rw [← e', hk] at hc
      simp at hc
      exact e2 hc.2
    · obtain ⟨c', hc⟩ := own_at h.tree.rows e'.symm
      rw [hk] at hc
      simp at hc
      exact e3 hc.2
  refine ⟨h.base, ⟨n, h1, fr h2 (by decide) (by decide)⟩, h.suf, Tr.owns_block h.toks fun g hg => ?_, ht, hp, h.few⟩
  obtain ⟨c, hc⟩ := own_at h.toks hg
  rw [fr hc (by decide) (by decide), hc]
theorem Mv.add {v' : Value} {w' : World} (hb : Below B w w') (hs : w.heap.size ≤ w'.heap.size) (hf : ∀ k, k < w.heap.size → k ≠ t → some k ≠ v.ownBlock → w'.heap[k]? = w.heap[k]?) (ho : v'.ownBlock = v.ownBlock ∨ ∃ g, v'.ownBlock = some g ∧ w.heap.size ≤ g) : Mv b t v w v' w' :=
  ⟨hb.os, hb.tape, hb.output, hs, fun k hk _ h2 h3 => hf k hk h2 (fun e => h3 e.symm), ho⟩
def intV (i : Int) : Value := .int .i64 i
set_option maxRecDepth 100000 in
set_option maxHeartbeats 8000000 in
/-- One node more. -/
theorem node_in (h : RdrAt B b t tv ts l d v ms w) (hB : B ≤ w.heap.size) (op : ByteArray) (x : Tok) (name : ByteArray) {s : Value} {ks : List Int} (hs : Ints w s ks) (hk : ks.length ≤ 65540) (hfit : ∀ k ∈ ks, 0 ≤ k ∧ k < ms.length) (hok : Ok' (fun _ l' m' => Pre l' m') (nodeP op x name ks l (ms.map (·.1)))) :
    Calls Tryz.prog 49 #[.pointer (some ⟨b, 0, none⟩), .string op, tokV x, .string name, s] w fun e w' => PostG intV B b t tv ts d v ms w (nodeP op x name ks l (ms.map (·.1))) e w' := by
  obtain ⟨kd, tx, nm, ln, cl⟩ := x
  obtain ⟨A0, c0, rfl⟩ := hs.form
  unfold tokV
  simp only
  have hb0 := (Below.refl w.heap.size w).alloc (Nat.le_refl _) (.cells #[.int .i64 kd, .string tx, .int .i64 nm, .int .i64 ln, .int .i64 cl] 35)
  have HB0 := Lib.hid hb0
  have HR := Lib.hid (h.under hb0)
  have HL := Lib.hid (last w (.cells #[.int .i64 kd, .string tx, .int .i64 nm, .int .i64 ln, .int .i64 cl] 35))
  have HS := Lib.hid (hs.below hb0)
  have hfits : Tr.TreP.fits ms.length ⟨op, ln, cl, name, nm, ks⟩ = true := List.all_eq_true.2 fun k hk => Tr.TreP.inT_iff.2 (hfit k hk)
  have HFT := Lib.hid hfits
  have HBS := Lib.hid (show B ≤ (w.alloc (.cells #[.int .i64 kd, .string tx, .int .i64 nm, .int .i64 ln, .int .i64 cl] 35)).heap.size by simp; omega)
  have HOK := Lib.hid hok
  clear h hb0 hs hfits hfit hok
  unfold PostG
  have hml : (ms.map (·.1)).length = ms.length := by simp
  by_cases hm : ms.length < 4000
  · have hn : nodeP op ⟨kd, tx, nm, ln, cl⟩ name ks l (ms.map (·.1)) = .ok (ms.length : Nat) l (ms.map (·.1) ++ [⟨op, ln, cl, name, nm, ks⟩]) := by
      unfold nodeP
      rw [if_neg (by omega), hml]
    have hpre : Pre l (ms.map (·.1) ++ [⟨op, ln, cl, name, nm, ks⟩]) := by
      have := HOK.out
      rw [hn] at this
      exact this
    rw [hn]
    have HP := Lib.hid hpre
    have hadd : ∀ W, Below (w.alloc (.cells #[.int .i64 kd, .string tx, .int .i64 nm, .int .i64 ln, .int .i64 cl] 35)).heap.size (w.alloc (.cells #[.int .i64 kd, .string tx, .int .i64 nm, .int .i64 ln, .int .i64 cl] 35)) W →
        Calls Tryz.prog 36 #[.pointer (some ⟨t, 0, none⟩), .agg #[.string op, .int .i64 ln, .int .i64 cl, .string name, .int .i64 nm, .slice A0 ks.length c0]] W fun e w' => e = .returned (.tuple #[.int .i64 (ms.length : Nat), .int .i64 0]) ∧ (∃ v' ms', ms'.map (·.1) = ms.map (·.1) ++ [⟨op, ln, cl, name, nm, ks⟩] ∧ RdrAt B b t tv ts l d v' ms' w' ∧ Mw b t v ms W v' ms' w') ∧ w'.cell? ⟨b, 0, none⟩ = some (.pointer (some ⟨t, 0, none⟩)) ∧ w'.cell? ⟨w.heap.size, 2, none⟩ = some (.int .i64 nm) ∧ w'.cell? ⟨w.heap.size, 3, none⟩ = some (.int .i64 ln) ∧ w'.cell? ⟨w.heap.size, 4, none⟩ = some (.int .i64 cl) := fun W hb => by
      refine (Tr.Add_in (x := ⟨op, ln, cl, name, nm, ks⟩) (HR.out.under hb).tree (HS.out.below hb) hm (by simp only; omega) (Nat.le_trans HBS.out hb.size)).mono ?_
      rintro e w' (⟨_, v', s', rfl, hT, hB, hs, hf, ho, hsf⟩ | ⟨hno, _⟩)
      · have hr' := (HR.out.under hb).put hf hT (by rw [List.map_append]; exact HP.out)
        have hm' := Mv.add (b := b) hB hs hf ho
        have hl' := hm'.keep (HR.out.under hb) ((hb.block _ (heap_lt HL.out)).trans HL.out) (by decide) (by decide) (by decide)
        obtain ⟨n', g', cap', _, _, ⟨y0, _, _, _⟩, _⟩ := hr'.tok
        obtain ⟨_, _, y2, y3, y4⟩ := cellsOf5 hl'
        have hkn : Kn ms W (ms ++ [(⟨op, ln, cl, name, nm, ks⟩, s')]) := fun p hp => by
          rcases List.mem_append.1 hp with hp | hp
          · exact .inl (List.mem_map.2 ⟨p, hp, rfl⟩)
          · obtain rfl := List.mem_singleton.1 hp
            exact .inr hsf
        exact ⟨rfl, ⟨v', _, by rw [List.map_append]; rfl, hr', hm', hkn⟩, y0, y2, y3, y4⟩
      · rw [HFT.out] at hno
        cases hno
    have HA := Lib.hid hadd
    obtain ⟨n, g, cap, hn', rfl, ⟨b0, b1, b2, b3⟩, hc⟩ := HR.out.tok
    obtain ⟨t0, t1, t2, t3, t4⟩ := cellsOf5 HL.out
    clear hc hadd hn hpre hml b1 b2 b3
    go_enter Tryz.func49, Tryz.ntmps49
    go_wp2_with fail
    generalize w.alloc (.cells #[.int .i64 kd, .string tx, .int .i64 nm, .int .i64 ln, .int .i64 cl] 35) = w1 at *
    have hbw := (Below.refl w1.heap.size w1).drew
    go_region_held3 (fun W => W.cell? ⟨b, 0, none⟩ = some (.pointer (some ⟨t, 0, none⟩)) ∧ W.cell? ⟨w.heap.size, 2, none⟩ = some (.int .i64 nm) ∧ W.cell? ⟨w.heap.size, 3, none⟩ = some (.int .i64 ln) ∧ W.cell? ⟨w.heap.size, 4, none⟩ = some (.int .i64 cl)) (go_keep)
      (first | (go_at_call 36; refine (HA.out _ (by with_reducible assumption)).mono ?_; rintro e w2 ⟨rfl, hx, y0, y2, y3, y4⟩))
    have HX := Lib.hid hx
    clear hx y0 y2 y3 y4
    have HM0 := Lib.hid (Mw.of (b := b) (t := t) (v := v) (ms := ms) (chain HB0.out hbw))
    clear hbw
    go_wp2_with fail
    go_ret
    obtain ⟨v', ms', h1, h2, h3⟩ := HX.out
    exact ⟨rfl, v', ms', h1, h2, HM0.out.trans h3⟩
  · have hn : nodeP op ⟨kd, tx, nm, ln, cl⟩ name ks l (ms.map (·.1)) = .bad 6 (hdT l).line (hdT l).col := by
      unfold nodeP
      rw [if_pos (by omega)]
    rw [hn]
    have hm4 : ms.length ≤ 1000000 := by have := HR.out.pre.len; omega
    have hadd : ∀ W, Below (w.alloc (.cells #[.int .i64 kd, .string tx, .int .i64 nm, .int .i64 ln, .int .i64 cl] 35)).heap.size (w.alloc (.cells #[.int .i64 kd, .string tx, .int .i64 nm, .int .i64 ln, .int .i64 cl] 35)) W →
        Calls Tryz.prog 36 #[.pointer (some ⟨t, 0, none⟩), .agg #[.string op, .int .i64 ln, .int .i64 cl, .string name, .int .i64 nm, .slice A0 ks.length c0]] W fun e w' => e = .returned (.tuple #[.int .i64 0, .int .i64 6]) ∧ Below (w.alloc (.cells #[.int .i64 kd, .string tx, .int .i64 nm, .int .i64 ln, .int .i64 cl] 35)).heap.size (w.alloc (.cells #[.int .i64 kd, .string tx, .int .i64 nm, .int .i64 ln, .int .i64 cl] 35)) w' ∧ w'.cell? ⟨b, 0, none⟩ = some (.pointer (some ⟨t, 0, none⟩)) ∧ w'.cell? ⟨w.heap.size, 2, none⟩ = some (.int .i64 nm) ∧ w'.cell? ⟨w.heap.size, 3, none⟩ = some (.int .i64 ln) ∧ w'.cell? ⟨w.heap.size, 4, none⟩ = some (.int .i64 cl) := fun W hb => by
      refine (Tr.Add_full (x := ⟨op, ln, cl, name, nm, ks⟩) (HR.out.under hb).tree (HS.out.below hb) (by omega) hm4 (by simp only; omega) HFT.out).mono ?_
      rintro e w' ⟨rfl, hb'⟩
      have hb2 := chain hb hb'
      obtain ⟨n', g', cap', _, _, ⟨y0, _, _, _⟩, _⟩ := (HR.out.under hb2).tok
      obtain ⟨_, _, y2, y3, y4⟩ := cellsOf5 ((hb2.block _ (heap_lt HL.out)).trans HL.out)
      exact ⟨rfl, hb2, y0, y2, y3, y4⟩
    have HA := Lib.hid hadd
    have hfl := fun W (hb : Below (w.alloc (.cells #[.int .i64 kd, .string tx, .int .i64 nm, .int .i64 ln, .int .i64 cl] 35)).heap.size (w.alloc (.cells #[.int .i64 kd, .string tx, .int .i64 nm, .int .i64 ln, .int .i64 cl] 35)) W) => fail_in (HR.out.under hb) 6
    have HF := Lib.hid hfl
    obtain ⟨n, g, cap, hn', rfl, ⟨b0, b1, b2, b3⟩, hc⟩ := HR.out.tok
    obtain ⟨t0, t1, t2, t3, t4⟩ := cellsOf5 HL.out
    clear hc hadd hn hml b1 b2 b3 hfl hm
    simp only
    go_enter Tryz.func49, Tryz.ntmps49
    go_wp2_with fail
    generalize w.alloc (.cells #[.int .i64 kd, .string tx, .int .i64 nm, .int .i64 ln, .int .i64 cl] 35) = w1 at *
    have hbw := (Below.refl w1.heap.size w1).drew
    go_region_held3 (fun W => W.cell? ⟨b, 0, none⟩ = some (.pointer (some ⟨t, 0, none⟩)) ∧ W.cell? ⟨w.heap.size, 2, none⟩ = some (.int .i64 nm) ∧ W.cell? ⟨w.heap.size, 3, none⟩ = some (.int .i64 ln) ∧ W.cell? ⟨w.heap.size, 4, none⟩ = some (.int .i64 cl)) (go_keep)
      (first | (go_at_call 36; refine (HA.out _ (by with_reducible assumption)).mono ?_; rintro e w2 ⟨rfl, hx, y0, y2, y3, y4⟩))
    have HX := Lib.hid hx
    clear hx y0 y2 y3 y4 hbw
    go_wp2_with fail
    refine (HF.out w2 HX.out).mono ?_
    rintro e w4 ⟨rfl, hb⟩
    have HBD := Lib.hid ((HR.out.under (chain HX.out hb)).bad (Mv.of (b := b) (t := t) (v := v) (chain HB0.out (chain HX.out hb))))
    clear hb
    go_wp2_with fail
    exact ⟨rfl, rfl, HBD.out⟩
end
end Go.Proofs.YtmeacgmjpjjphaaGreatDoor
namespace Go.Proofs.YtmeacgmjpjjphaaGreatDoor
open Go.RowKit
open Tr (Nd TreeAt Own Ints)

section
variable {B b t : Nat} {tv : Value} {ts l : List Tok} {d : Int} {v : Value} {ms : List (Nd × Value)} {w : World}
theorem RdrAt.dived (h : RdrAt B b t tv ts l d v ms w) (d' : Int) {w' : World} (ht : Turn b w w') {n : Nat} (hn : n + l.length = ts.length) (hb : w'.heap[b]? = some (.cells #[.pointer (some ⟨t, 0, none⟩), tv, .int .i64 (n : Int), .int .i64 d'] 69)) : RdrAt B b t tv ts l d' v ms w' :=
  h.turned ht hn (List.suffix_refl _) h.pre hb
set_option maxRecDepth 100000 in
set_option maxHeartbeats 4000000 in
theorem into_ok (h : RdrAt B b t tv ts l d v ms w) (h0 : 0 ≤ d) (h1 : d < 64) : Calls Tryz.prog 76 #[.pointer (some ⟨b, 0, none⟩)] w fun e w' => e = .returned (.func (.func 103) #[] #[.pointer (some ⟨w.heap.size, 0, none⟩)]) ∧ w'.heap[w.heap.size]? = some (.cells #[.pointer (some ⟨b, 0, none⟩)] 28) ∧ RdrAt B b t tv ts l (d + 1) v ms w' ∧ Mv b t v w v w' := by
  have hmf : ∀ (fn : Fn) (first cap : Array Value) (w : World), (Instr.makeFunc fn first cap).run Tryz.prog w = .ok (.func fn first cap) w := fun _ _ _ _ => rfl
  have hb0 := (Below.refl w.heap.size w).alloc (Nat.le_refl _) (.cells #[.pointer (some ⟨b, 0, none⟩)] 28)
  have HB0 := Lib.hid hb0
  have HR0 := Lib.hid h
  have HR := Lib.hid (h.under hb0)
  have HL := Lib.hid (last w (.cells #[.pointer (some ⟨b, 0, none⟩)] 28))
  have hbl : b ≠ w.heap.size := by have := h.lt; omega
  obtain ⟨n, hn, hobj⟩ := HR.out.obj
  have HO := Lib.hid hobj
  obtain ⟨b0, b1, b2, b3⟩ := cells4 hobj
  have hfz := HR.out.frozen 3
  have q0 := Tr.cellOf1 HL.out
  clear h hb0 hobj
  go_enter Tryz.func76, Tryz.ntmps76
  go_upto_region 2 with fail
  generalize w.alloc (.cells #[.pointer (some ⟨b, 0, none⟩)] 28) = w1 at *
  have HT := Lib.hid ((Turn.of b HB0.out).setCell 3 (.int .i64 (d + 1)))
  have HX := Lib.hid (setc HO.out 3 (.int .i64 (d + 1)))
  have HL2 := Lib.hid (heap_far HL.out (Ne.symm hbl) 3 (.int .i64 (d + 1)))
  clear b0 b1 b2 b3 hfz q0
  generalize w1.setCell ⟨b, 3, none⟩ (.int .i64 (d + 1)) = w2 at *
  have q0 := Tr.cellOf1 HL2.out
  obtain ⟨b0, b1, b2, b3⟩ := cells4 (show w2.heap[b]? = some (.cells #[.pointer (some ⟨t, 0, none⟩), tv, .int .i64 (n : Int), .int .i64 (d + 1)] 69) from HX.out)
  have hd : ¬ 64 < d + 1 := by omega
  go_wp2_with fail
  go_ret
  exact ⟨rfl, HL2.out, HR0.out.dived (d + 1) HT.out hn HX.out, HT.out.mv⟩
set_option maxRecDepth 100000 in
set_option maxHeartbeats 4000000 in
theorem into_bad (h : RdrAt B b t tv ts l 64 v ms w) : Calls Tryz.prog 76 #[.pointer (some ⟨b, 0, none⟩)] w fun e w' => e = .panicked (panicV 6 (hdT l).line (hdT l).col) ∧ Bad b t tv v w w' := by
  have hb0 := (Below.refl w.heap.size w).alloc (Nat.le_refl _) (.cells #[.pointer (some ⟨b, 0, none⟩)] 28)
  have HB0 := Lib.hid hb0
  have HR0 := Lib.hid h
  have HR := Lib.hid (h.under hb0)
  have HL := Lib.hid (last w (.cells #[.pointer (some ⟨b, 0, none⟩)] 28))
  have hbl : b ≠ w.heap.size := by have := h.lt; omega
  obtain ⟨n, hn, hobj⟩ := HR.out.obj
  have HO := Lib.hid hobj
  obtain ⟨b0, b1, b2, b3⟩ := cells4 hobj
  have hfz := HR.out.frozen 3
  have q0 := Tr.cellOf1 HL.out
  clear h hb0 hobj
  go_enter Tryz.func76, Tryz.ntmps76
  go_upto_region 2 with fail
  generalize w.alloc (.cells #[.pointer (some ⟨b, 0, none⟩)] 28) = w1 at *
  have HT := Lib.hid ((Turn.of b HB0.out).setCell 3 (.int .i64 65))
  have HX := Lib.hid (setc HO.out 3 (.int .i64 65))
  have HL2 := Lib.hid (heap_far HL.out (Ne.symm hbl) 3 (.int .i64 65))
  clear b0 b1 b2 b3 hfz q0
  generalize w1.setCell ⟨b, 3, none⟩ (.int .i64 65) = w2 at *
  have q0 := Tr.cellOf1 HL2.out
  obtain ⟨b0, b1, b2, b3⟩ := cells4 (show w2.heap[b]? = some (.cells #[.pointer (some ⟨t, 0, none⟩), tv, .int .i64 (n : Int), .int .i64 65] 69) from HX.out)
  have HR2 := Lib.hid (HR0.out.dived 65 HT.out hn HX.out)
  have HF := Lib.hid (fail_in HR2.out 6)
  go_wp2_with fail
  refine HF.out.mono ?_
  rintro e w3 ⟨rfl, hb⟩
  have HBD := Lib.hid ((HR2.out.under hb).bad (HT.out.mv.then hb))
  clear hb
  go_wp2_with fail
  exact ⟨rfl, rfl, HBD.out⟩
end
set_option maxRecDepth 100000 in
set_option maxHeartbeats 4000000 in
/-- One less deep again. -/
theorem out_in {w : World} {q b t : Nat} {tv : Value} {n d : Int} (hq : w.heap[q]? = some (.cells #[.pointer (some ⟨b, 0, none⟩)] 28)) (hb : w.heap[b]? = some (.cells #[.pointer (some ⟨t, 0, none⟩), tv, .int .i64 n, .int .i64 d] 69)) (u : FrameMode) :
    CallsD Tryz.prog 103 #[.pointer (some ⟨q, 0, none⟩)] u w fun e u' w' => u' = u ∧ (e = .returned (.tuple #[]) ∧ w' = w.setCell ⟨b, 3, none⟩ (.int .i64 (wrap64 (d - 1)))) := by
  have q0 := Tr.cellOf1 hq
  obtain ⟨b0, b1, b2, b3⟩ := cells4 hb
  have hfz := frozenOf hb 3
  clear hq hb
  go_enter_d Tryz.func103, Tryz.ntmps103
  go_wp2_with fail
  go_end0
  exact ⟨rfl, rfl⟩
end Go.Proofs.YtmeacgmjpjjphaaGreatDoor
namespace Go.Proofs.YtmeacgmjpjjphaaGreatDoor
open Go.RowKit
open Tr (Nd TreeAt Own Ints)

def strB (w : World) (q : Nat) (zs : List ByteArray) : Prop := w.heap[q]? = some (.cells (zs.map Value.string).toArray 9)
/-- The marks of the levels lie in blocks q .. q + 4. -/
def Levs (w : World) (q : Nat) : Prop := strB w q (opsB 0) ∧ strB w (q + 1) (opsB 1) ∧ strB w (q + 2) (opsB 2) ∧ strB w (q + 3) (opsB 3) ∧ strB w (q + 4) (opsB 4)
def levV (q : Nat) : Value := .agg #[.slice (some ⟨q, 0, none⟩) 1 1, .slice (some ⟨q + 1, 0, none⟩) 1 1, .slice (some ⟨q + 2, 0, none⟩) 2 2, .slice (some ⟨q + 3, 0, none⟩) 2 2, .slice (some ⟨q + 4, 0, none⟩) 1 1]
theorem up {w : World} {k : Nat} {x : Obj} (h : w.heap[k]? = some x) (o : Obj) : (w.alloc o).heap[k]? = some x := (Below.heap_alloc _ _ _ (heap_lt h)).trans h
theorem six (w : World) (o0 o1 o2 o3 o4 o5 : Obj) : (((((((w.alloc o0).alloc o1).alloc o2).alloc o3).alloc o4).alloc o5).heap[w.heap.size + 1]? = some o1 ∧ ((((((w.alloc o0).alloc o1).alloc o2).alloc o3).alloc o4).alloc o5).heap[w.heap.size + 1 + 1]? = some o2 ∧ ((((((w.alloc o0).alloc o1).alloc o2).alloc o3).alloc o4).alloc o5).heap[w.heap.size + 1 + 2]? = some o3 ∧
    ((((((w.alloc o0).alloc o1).alloc o2).alloc o3).alloc o4).alloc o5).heap[w.heap.size + 1 + 3]? = some o4 ∧ ((((((w.alloc o0).alloc o1).alloc o2).alloc o3).alloc o4).alloc o5).heap[w.heap.size + 1 + 4]? = some o5) ∧ Below w.heap.size w ((((((w.alloc o0).alloc o1).alloc o2).alloc o3).alloc o4).alloc o5) :=
  ⟨⟨up (up (up (up (lastk (w.alloc o0) o1 (by simp)) _) _) _) _, up (up (up (lastk ((w.alloc o0).alloc o1) o2 (by simp)) _) _) _, up (up (lastk (((w.alloc o0).alloc o1).alloc o2) o3 (by simp)) _) _, up (lastk ((((w.alloc o0).alloc o1).alloc o2).alloc o3) o4 (by simp)) _, lastk (((((w.alloc o0).alloc o1).alloc o2).alloc o3).alloc o4) o5 (by simp)⟩,
    chain (chain (chain (chain (chain ((Below.refl w.heap.size w).alloc (Nat.le_refl _) o0) ((Below.refl _ _).alloc (Nat.le_refl _) o1)) ((Below.refl _ _).alloc (Nat.le_refl _) o2)) ((Below.refl _ _).alloc (Nat.le_refl _) o3)) ((Below.refl _ _).alloc (Nat.le_refl _) o4)) ((Below.refl _ _).alloc (Nat.le_refl _) o5)⟩
set_option maxRecDepth 100000 in
set_option maxHeartbeats 4000000 in
theorem levels_in (w : World) : Calls Tryz.prog 104 #[] w fun e w' => e = .returned (levV (w.heap.size + 1)) ∧ Levs w' (w.heap.size + 1) ∧ Below w.heap.size w w' := by
  go_enter Tryz.func104, Tryz.ntmps104
  go_wp2_with fail
  refine bodyPost_ret (v := levV (w.heap.size + 1)) (by simp [results, Tryz.results104, go_sem, levV]) rfl ⟨rfl, (six w _ _ _ _ _ _).1, (six w _ _ _ _ _ _).2⟩
/-- The marks of level n, read. -/
theorem Levs.row {w : World} {q : Nat} (h : Levs w q) {n : Nat} (hn : n < 5) : strB w (q + n) (opsB n) := by
  obtain ⟨h0, h1, h2, h3, h4⟩ := h
  match n, hn with
  | 0, _ => exact h0
  | 1, _ => exact h1
  | 2, _ => exact h2
  | 3, _ => exact h3
  | 4, _ => exact h4
theorem lev0 (q : Nat) (w : World) : (Instr.index 178 (levV q) (.int .i64 ((0 : Nat) : Int))).run Tryz.prog w = .ok (.slice (some ⟨q + 0, 0, none⟩) (opsB 0).length (opsB 0).length) w := by kernel_rfl
theorem lev1 (q : Nat) (w : World) : (Instr.index 178 (levV q) (.int .i64 ((1 : Nat) : Int))).run Tryz.prog w = .ok (.slice (some ⟨q + 1, 0, none⟩) (opsB 1).length (opsB 1).length) w := by kernel_rfl
theorem lev2 (q : Nat) (w : World) : (Instr.index 178 (levV q) (.int .i64 ((2 : Nat) : Int))).run Tryz.prog w = .ok (.slice (some ⟨q + 2, 0, none⟩) (opsB 2).length (opsB 2).length) w := by kernel_rfl
theorem lev3 (q : Nat) (w : World) : (Instr.index 178 (levV q) (.int .i64 ((3 : Nat) : Int))).run Tryz.prog w = .ok (.slice (some ⟨q + 3, 0, none⟩) (opsB 3).length (opsB 3).length) w := by kernel_rfl
theorem lev4 (q : Nat) (w : World) : (Instr.index 178 (levV q) (.int .i64 ((4 : Nat) : Int))).run Tryz.prog w = .ok (.slice (some ⟨q + 4, 0, none⟩) (opsB 4).length (opsB 4).length) w := by kernel_rfl
theorem lev_index (q : Nat) {n : Nat} (hn : n < 5) (w : World) : (Instr.index 178 (levV q) (.int .i64 (n : Int))).run Tryz.prog w = .ok (.slice (some ⟨q + n, 0, none⟩) (opsB n).length (opsB n).length) w := by
  rcases (by omega : n = 0 ∨ n = 1 ∨ n = 2 ∨ n = 3 ∨ n = 4) with rfl | rfl | rfl | rfl | rfl
  · exact lev0 q w
  · exact lev1 q w
  · exact lev2 q w
  · exact lev3 q w
  · exact lev4 q w
theorem strB.under {w w' : World} {q : Nat} {zs : List ByteArray} (h : strB w q zs) (hb : Below w.heap.size w w') : strB w' q zs := (hb.block q (heap_lt h)).trans h
theorem strB.cell {w : World} {q : Nat} {zs : List ByteArray} (h : strB w q zs) {i : Nat} (hi : i < zs.length) : w.cell? ⟨q, i, none⟩ = some (.string (zs.getD i ByteArray.empty)) := by
  unfold strB at h
  simp only [World.cell?, h]
  simp [List.getD, hi]
section
variable {B b t : Nat} {tv : Value} {ts l : List Tok} {d : Int} {v : Value} {ms : List (Nd × Value)} {w : World}
/-- Which of some marks comes: it is passed over. -/
def IdxPost (B b t : Nat) (tv : Value) (ts l : List Tok) (d : Int) (v : Value) (ms : List (Nd × Value)) (w : World) (zs : List ByteArray) (e : Ending) (w' : World) : Prop := match zs.findIdx? fun s => isT s (hdT l) with
  | none => e = .returned (.int .i64 (-1)) ∧ Below w.heap.size w w'
  | some i => e = .returned (.int .i64 (i : Nat)) ∧ RdrAt B b t tv ts l.tail d v ms w' ∧ Mv b t v w v w'
set_option maxRecDepth 100000 in
set_option maxHeartbeats 4000000 in
theorem idx_in (h : RdrAt B b t tv ts l d v ms w) {q : Nat} {zs : List ByteArray} (hq : strB w q zs) (hz : zs.length ≤ 100) :
    Calls Tryz.prog 106 #[.slice (some ⟨q, 0, none⟩) zs.length zs.length, .func (.func 57) #[.pointer (some ⟨b, 0, none⟩)] #[]] w fun e w' => IdxPost B b t tv ts l d v ms w zs e w' := by
  have HR := Lib.hid h
  have HQ := Lib.hid hq
  clear h hq
  go_enter Tryz.func106, Tryz.ntmps106
  go_wp2_with fail
  go_loopg [5, 8] zs.length (fun gk _ iv wr => ∃ i : Nat, iv = .int .i64 (i : Int) ∧ i + gk = zs.length ∧ Below w.heap.size w wr ∧ ∀ j, j < i → isT (zs.getD j ByteArray.empty) (hdT l) = false)
  case atStart => exact ⟨0, rfl, by omega, Below.refl _ _, fun j hj => by omega⟩
  case round =>
    obtain ⟨i, rfl, hig, hb, hno⟩ := hrel
    have HB := Lib.hid hb
    have HNO := Lib.hid hno
    clear hb hno
    by_cases hlt : i < zs.length
    · obtain ⟨gq, rfl⟩ : ∃ g, gk = g + 1 := ⟨gk - 1, by omega⟩
      have hlt' : (i : Int) < (zs.length : Int) := by omega
      have c0 := (HQ.out.under HB.out).cell hlt
      cases hs : isT (zs.getD i ByteArray.empty) (hdT l) with
      | true =>
        have HT := Lib.hid (take_yes (HR.out.under HB.out) hs)
        have HI := Lib.hid (show zs.findIdx? (fun s => isT s (hdT l)) = some i by
          rw [List.findIdx?_eq_some_iff_getElem]
          refine ⟨hlt, ?_, fun j hj => ?_⟩
          · rw [List.getD, List.getElem?_eq_getElem hlt] at hs
            exact hs
          · have := HNO.out j hj
            rw [List.getD, List.getElem?_eq_getElem (by omega)] at this
            simpa using this)
        clear hs
        generalize zs.getD i ByteArray.empty = x at *
        go_wp2_with fail
        refine HT.out.mono ?_
        rintro e w2 ⟨rfl, hr, hm⟩
        have HX := Lib.hid (And.intro hr ((Mv.of HB.out).trans hm))
        clear hr hm c0
        go_wp2_with fail
        go_ret
        unfold IdxPost
        rw [HI.out]
        exact ⟨rfl, HX.out.1, HX.out.2⟩
      | false =>
        have HT := Lib.hid (take_no (HR.out.under HB.out) hs)
        have HS := Lib.hid hs
        clear hs
        generalize hx : zs.getD i ByteArray.empty = x at *
        have HX := Lib.hid hx
        clear hx
        go_wp2_with fail
        refine HT.out.mono ?_
        rintro e w2 ⟨rfl, hb⟩
        have HB2 := Lib.hid (chain HB.out hb)
        clear hb c0
        go_wp2_with fail
        go_roundg gq
        case measure => omega
        case rel => exact ⟨i + 1, by first | rfl | go_num, by omega, HB2.out, fun j hj => by
          by_cases e : j < i
          · exact HNO.out j e
          · obtain rfl : j = i := by omega
            rw [HX.out]
            exact HS.out⟩
    · have hlt' : ¬ (i : Int) < (zs.length : Int) := by omega
      have HI := Lib.hid (show zs.findIdx? (fun s => isT s (hdT l)) = none by
        rw [List.findIdx?_eq_none_iff]
        intro x hx
        obtain ⟨j, hj, rfl⟩ := List.mem_iff_getElem.1 hx
        have := HNO.out j (by omega)
        rw [List.getD, List.getElem?_eq_getElem hj] at this
        exact this)
      go_wp2_with fail
      go_ret
      unfold IdxPost
      rw [HI.out]
      exact ⟨rfl, HB.out⟩
end
end Go.Proofs.YtmeacgmjpjjphaaGreatDoor
namespace Go.Proofs.YtmeacgmjpjjphaaGreatDoor
open Go.RowKit
open Tr (Nd TreeAt Own Ints)

/-- In a region that draws its order: a way that ends in a panic is shown; what is left is nothing. -/
theorem dead {P : Program} {w : World} {G : Prop} (h : G) : wpAny P .any #[] (fun _ _ _ => True) 0 #[] { tmps := #[], defers := [] } w → G := fun _ => h
theorem cellA {w : World} {a : Addr} {v : Value} (h : w.cell? a = some v) (o : Obj) : (w.alloc o).cell? a = some v := Tr.cell_alloc h o
/-- What a function of the reader does, d deep. -/
def FnC (f : FuncId) (d : Int) (p : Ps Int) : Prop := ∀ (B b t : Nat) (tv : Value) (ts l : List Tok) (v : Value) (ms : List (Nd × Value)) (w : World), RdrAt B b t tv ts l d v ms w →
  Calls Tryz.prog f #[.pointer (some ⟨b, 0, none⟩)] w fun e w' => PostG intV B b t tv ts d v ms w (p l (ms.map (·.1))) e w'
def LevC (n : Nat) (d : Int) (p : Ps Int) : Prop := ∀ (B b t : Nat) (tv : Value) (ts l : List Tok) (v : Value) (ms : List (Nd × Value)) (w : World), RdrAt B b t tv ts l d v ms w →
  Calls Tryz.prog 77 #[.pointer (some ⟨b, 0, none⟩), .int .i64 (n : Int)] w fun e w' => PostG intV B b t tv ts d v ms w (p l (ms.map (·.1))) e w'
theorem ints_two (w : World) (a b : Int) : Ints (w.alloc (.cells #[.int .i64 a, .int .i64 b] 3)) (.slice (some ⟨w.heap.size, 0, none⟩) 2 2) [a, b] := by
  refine .inr ⟨w.heap.size, 0, 2, rfl, fun i hi => ?_⟩
  have h := last w (.cells #[.int .i64 a, .int .i64 b] 3)
  rcases (by simp at hi; omega : i = 0 ∨ i = 1) with rfl | rfl <;> simp only [World.cell?, h] <;> rfl
theorem find_idx {α : Type} {p : α → Bool} {x d : α} : ∀ {l : List α}, l.find? p = some x → ∃ i, l.findIdx? p = some i ∧ i < l.length ∧ l.getD i d = x
  | [], h => by simp at h
  | a :: l, h => by
    rw [List.find?_cons] at h
    cases ha : p a with
    | true =>
      rw [ha] at h
      obtain rfl := Option.some.inj h
      exact ⟨0, by simp [List.findIdx?_cons, ha], by simp, rfl⟩
    | false =>
      rw [ha] at h
      obtain ⟨i, h1, h2, h3⟩ := find_idx h
      exact ⟨i + 1, by simp [List.findIdx?_cons, ha, h1], by simp; omega, by simpa using h3⟩
theorem find_none {α : Type} {p : α → Bool} {l : List α} (h : l.find? p = none) : l.findIdx? p = none := by
  rw [List.findIdx?_eq_none_iff]
  intro x hx
  have := List.find?_eq_none.1 h x hx
  simpa using this
theorem PostG.mv {α : Type} {enc : α → Value} {B b t : Nat} {tv : Value} {ts : List Tok} {d : Int} {v v' : Value} {ms ms' : List (Nd × Value)} {w w' : World} {o : Out α} {e : Ending} {w'' : World} (m : Mw b t v ms w v' ms' w') (h : PostG enc B b t tv ts d v' ms' w' o e w'') : PostG enc B b t tv ts d v ms w o e w'' := by
  cases o with
  | bad c l k => exact ⟨h.1, h.2.after m.toMv⟩
  | ok a l' m' =>
    obtain ⟨h1, v2, ms2, h2, h3, h4⟩ := h
    exact ⟨h1, v2, ms2, h2, h3, m.trans h4⟩
theorem PostG.keep {α : Type} {enc : α → Value} {B b t : Nat} {tv : Value} {ts l : List Tok} {d d' : Int} {v : Value} {ms : List (Nd × Value)} {w w' : World} {o : Out α} {e : Ending} (h : PostG enc B b t tv ts d v ms w o e w') (hr : RdrAt B b t tv ts l d' v ms w) {k : Nat} {c : Array Value} {ty : TypeId} (hk : w.heap[k]? = some (.cells c ty))
    (h1 : ty ≠ 69) (h2 : ty ≠ 88) (h3 : ty ≠ 53) : w'.heap[k]? = some (.cells c ty) := by
  cases o with
  | bad c l k =>
    obtain ⟨_, v2, n, d2, _, hm⟩ := h
    exact hm.keep hr hk h1 h2 h3
  | ok a l m =>
    obtain ⟨_, v2, ms2, _, _, hm⟩ := h
    exact hm.keep hr hk h1 h2 h3
set_option maxRecDepth 100000 in
set_option maxHeartbeats 4000000 in
/-- The highest level: unaries. -/
theorem lev5_in {d : Int} {p : Ps Int} (hu : FnC 105 d p) : LevC 5 d p := by
  intro B b t tv ts l v ms w h
  have hc := fun W hb => hu B b t tv ts l v ms W (h.under (w' := W) hb)
  generalize p l (ms.map (·.1)) = R at *
  have HU := Lib.hid hc
  have HL := Lib.hid (levels_in w)
  clear hu h hc
  go_enter Tryz.func77, Tryz.ntmps77
  go_wp2_with fail
  refine HL.out.mono ?_
  rintro e w2 ⟨rfl, _, hb⟩
  have HM2 := Lib.hid (Mw.of (b := b) (t := t) (v := v) (ms := ms) hb)
  have hc := HU.out w2 hb
  clear hb
  unfold levV
  go_wp2_with fail
  refine hc.mono ?_
  clear hc
  intro e w3 hp
  have hp := PostG.mv HM2.out hp
  cases R with
  | bad c ln cl =>
    obtain ⟨rfl, hbd⟩ := hp
    have HX := Lib.hid hbd
    clear hbd
    go_wp2_with fail
    exact ⟨rfl, rfl, HX.out⟩
  | ok a l' m' =>
    obtain ⟨rfl, hx⟩ := hp
    have HX := Lib.hid hx
    clear hx
    unfold intV
    go_wp2_with fail
    go_ret
    exact ⟨rfl, HX.out⟩
end Go.Proofs.YtmeacgmjpjjphaaGreatDoor
