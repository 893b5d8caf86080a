/- One more node: by the reference, by the tree. PRINTED by gentre3.py of this folder. -/
import Derived.Test.YtmeacgmjpjjphaaGreatDoorProg
import Derived.WalkKit
import Derived.WalkLawsBesides
import Derived.WalkSpells
import Derived.Deep.QuietTactic
import Derived.BigQuiet
import Derived.BigRegion
import Derived.RegionTactic
import Derived.Deep.RegionWith
import Derived.Deep.RegionHeld3
import Derived.Deep.AppendLies
import Derived.Deep.RegionLawGrows
import Derived.Deep.LoopGhost
import Derived.Deep.OwnRows
import Derived.Lib.LazyBuf
import Derived.Lib.Hide
import Derived.Shelf.Abstract
import Derived.Laws.AppendOwnNone
set_option linter.unusedVariables false
set_option linter.unusedSimpArgs false
namespace Go.Proofs.YtmeacgmjpjjphaaGreatDoor.Tr

/-- A node: its word, its place, its name, its number, its parts. -/
structure Nd where
  op : ByteArray
  line : Int
  col : Int
  name : ByteArray
  num : Int
  kids : List Int
instance : Inhabited Nd := ⟨⟨.empty, 0, 0, .empty, 0, []⟩⟩

namespace TreP

theorem getD_take {α : Type} {l : List α} {k : Nat} {d : α} (h : k < l.length) : l.take (k + 1) = l.take k ++ [l.getD k d] := by
  rw [List.take_add_one, List.getElem?_eq_getElem h]
  simp [List.getD, h]
theorem getD_append {α : Type} (l k : List α) (d : α) (n : Nat) (h : n < l.length) : (l ++ k).getD n d = l.getD n d := by
  simp [List.getD, List.getElem?_append_left h]
theorem getD_default {α : Type} (l : List α) (d : α) (n : Nat) (h : l.length ≤ n) : l.getD n d = d := by
  simp [List.getD, List.getElem?_eq_none h]

def inT (n : Nat) (i : Int) : Bool := decide (0 ≤ i) && decide (i < n)
def fits (n : Nat) (x : Nd) : Bool := x.kids.all (inT n)
def addN (m : List Nd) (x : Nd) : List Nd := if fits m.length x then m ++ [x] else m
def nd (m : List Nd) (i : Int) : Nd := m.getD i.toNat default
def places : Nat → List Nd → Int → List Int
  | 0, _, _ => []
  | f + 1, m, i => if inT m.length i then i :: (nd m i).kids.flatMap (places f m) else []
def deep : Nat → List Nd → Int → Nat
  | 0, _, _ => 0
  | f + 1, m, i => if inT m.length i then ((nd m i).kids.map (deep f m)).foldl max 0 + 1 else 0
def WF (m : List Nd) : Prop := ∀ k, k < m.length → ∀ x ∈ (m.getD k default).kids, 0 ≤ x ∧ x < k

theorem inT_iff {n : Nat} {i : Int} : inT n i = true ↔ 0 ≤ i ∧ i < n := by simp [inT]
theorem inT_nat {n i : Nat} : inT n i = decide (i < n) := by simp [inT]

theorem places_le (f : Nat) : ∀ (m : List Nd) (i : Int), inT m.length i = false → places f m i = [] := by
  cases f with
  | zero => intros; rfl
  | succ f => intro m i h; simp [places, h]
theorem deep_le (f : Nat) : ∀ (m : List Nd) (i : Int), inT m.length i = false → deep f m i = 0 := by
  cases f with
  | zero => intros; rfl
  | succ f => intro m i h; simp [deep, h]

theorem WF.kid {m : List Nd} (h : WF m) {i x : Int} (hi : inT m.length i = true) (hx : x ∈ (nd m i).kids) : 0 ≤ x ∧ x < i := by
  rw [inT_iff] at hi
  have := h i.toNat (by omega) x hx
  omega

theorem flatMap_congr' {α β : Type} {l : List α} {f g : α → List β} (h : ∀ x ∈ l, f x = g x) : l.flatMap f = l.flatMap g := by
  induction l with
  | nil => rfl
  | cons a l ih =>
    rw [List.flatMap_cons, List.flatMap_cons, h a (by simp), ih (fun x hx => h x (by simp [hx]))]

theorem places_fuel {m : List Nd} (h : WF m) : ∀ (f f' : Nat) (i : Int), (inT m.length i = true → i < f ∧ i < f') → places f m i = places f' m i
  | 0, f', i, hi => by
    cases hc : inT m.length i with
    | false => rw [places_le _ _ _ hc, places_le _ _ _ hc]
    | true => have := hi hc; rw [inT_iff] at hc; omega
  | f + 1, 0, i, hi => by
    cases hc : inT m.length i with
    | false => rw [places_le _ _ _ hc, places_le _ _ _ hc]
    | true => have := hi hc; rw [inT_iff] at hc; omega
  | f + 1, f' + 1, i, hi => by
    cases hc : inT m.length i with
    | false => rw [places_le _ _ _ hc, places_le _ _ _ hc]
    | true =>
      have h1 := hi hc
      simp only [places, hc, if_true]
      congr 1
      refine flatMap_congr' fun x hx => places_fuel h f f' x fun _ => ?_
      have := h.kid hc hx
      omega

theorem nd_append {m : List Nd} {x : Nd} {i : Int} (h : inT m.length i = true) : nd (m ++ [x]) i = nd m i := by
  rw [inT_iff] at h
  unfold nd
  rw [getD_append _ _ _ _ (by omega)]

theorem places_append {m : List Nd} {x : Nd} (h : WF m) : ∀ (f : Nat) (i : Int), inT m.length i = true → places f (m ++ [x]) i = places f m i
  | 0, _, _ => rfl
  | f + 1, i, hi => by
    have h2 : inT (m ++ [x]).length i = true := by rw [inT_iff] at hi ⊢; simp; omega
    simp only [places, hi, h2, if_true, nd_append hi]
    congr 1
    refine flatMap_congr' fun y hy => places_append h f y ?_
    have := h.kid hi hy
    rw [inT_iff] at hi ⊢
    omega

theorem WF.add {m : List Nd} {x : Nd} (h : WF m) (hf : fits m.length x = true) : WF (m ++ [x]) := by
  intro k hk y hy
  simp at hk
  by_cases hkm : k < m.length
  · rw [getD_append _ _ _ _ hkm] at hy
    exact h k hkm y hy
  · obtain rfl : k = m.length := by omega
    have e : (m ++ [x]).getD m.length default = x := by simp [List.getD]
    rw [e] at hy
    have := List.all_eq_true.1 hf y hy
    rw [inT_iff] at this
    exact this
theorem WF.addN {m : List Nd} (h : WF m) (x : Nd) : WF (addN m x) := by
  unfold TreP.addN
  cases hf : fits m.length x with
  | false => simpa using h
  | true => simpa using h.add hf
theorem WF.nil : WF [] := fun k hk => by simp at hk

theorem foldl_max (l : List Nat) : ∀ a b : Nat, a ≤ b → (∀ x ∈ l, x ≤ b) → l.foldl max a ≤ b := by
  induction l with
  | nil => intro a b h _; exact h
  | cons x l ih => intro a b h hx; exact ih _ _ (by have := hx x (by simp); omega) (fun y hy => hx y (by simp [hy]))
theorem deep_bound : ∀ (f : Nat) (m : List Nd) (i : Int), deep f m i ≤ f
  | 0, _, _ => Nat.le_refl _
  | f + 1, m, i => by
    unfold deep
    split
    · have := foldl_max (((nd m i).kids.map (deep f m))) 0 f (by omega) (fun x hx => by
        obtain ⟨y, _, rfl⟩ := List.mem_map.1 hx
        exact deep_bound f m y)
      omega
    · omega

/-! ### Small -/
def sumK (sz : List Int) : List Int → Int → Int × Bool
  | [], a => (a, true)
  | k :: ks, a => if inT sz.length k then sumK sz ks (a + sz.getD k.toNat 0) else (a, false)
def stepS (s : Int × List Int) (x : Nd) : Option (Int × List Int) :=
  if 2000 < s.1 + (1 + (x.kids.length : Int) + x.op.size + x.name.size) then none
  else if 2000 < (sumK s.2 x.kids 1).1 then none
  else some (s.1 + (1 + (x.kids.length : Int) + x.op.size + x.name.size), if (sumK s.2 x.kids 1).2 then s.2 ++ [(sumK s.2 x.kids 1).1] else s.2)
def foldS : List Nd → Int × List Int → Option (Int × List Int)
  | [], s => some s
  | x :: l, s => (stepS s x).bind (foldS l)
def small (l : List Nd) : Bool := (foldS l (0, [])).isSome

theorem foldS_snoc (l : List Nd) (x : Nd) : ∀ s, foldS (l ++ [x]) s = (foldS l s).bind fun s' => stepS s' x := by
  induction l with
  | nil => intro s; simp [foldS]
  | cons y l ih =>
    intro s
    simp only [List.cons_append, foldS]
    cases stepS s y with
    | none => rfl
    | some s' => simpa using ih s'
theorem foldS_none (l k : List Nd) : ∀ s, foldS l s = none → foldS (l ++ k) s = none := by
  induction l with
  | nil => intro s h; simp [foldS] at h
  | cons y l ih =>
    intro s h
    simp only [List.cons_append, foldS] at h ⊢
    cases hs : stepS s y with
    | none => rfl
    | some s' => rw [hs] at h; simpa using ih s' (by simpa using h)

theorem sumK_append (sz p q : List Int) : ∀ a, sumK sz (p ++ q) a = if (sumK sz p a).2 then sumK sz q (sumK sz p a).1 else sumK sz p a := by
  induction p with
  | nil => intro a; simp [sumK]
  | cons x p ih =>
    intro a
    simp only [List.cons_append, sumK]
    by_cases hc : inT sz.length x = true
    · simp only [if_pos hc]; exact ih _
    · simp only [if_neg hc]; simp
theorem sumK_bound {sz : List Int} (h0 : ∀ k, 0 ≤ sz.getD k 0 ∧ sz.getD k 0 ≤ 2000) (p : List Int) : ∀ a, 0 ≤ a → a ≤ (sumK sz p a).1 ∧ (sumK sz p a).1 ≤ a + 2000 * p.length := by
  induction p with
  | nil => intro a _; simp [sumK]
  | cons x p ih =>
    intro a ha
    simp only [sumK]
    cases hc : inT sz.length x with
    | false => simp; omega
    | true =>
      have h1 := h0 x.toNat
      have := ih (a + sz.getD x.toNat 0) (by omega)
      simp only [if_true, List.length_cons]
      omega
theorem sumK_fits {sz : List Int} (p : List Int) : ∀ a, (sumK sz p a).2 = p.all (inT sz.length) := by
  induction p with
  | nil => intro a; rfl
  | cons x p ih =>
    intro a
    simp only [sumK, List.all_cons]
    cases hc : inT sz.length x with
    | false => simp
    | true => simpa using ih _
theorem sumK_sum {sz : List Int} (p : List Int) : ∀ a, (sumK sz p a).2 = true → (sumK sz p a).1 = a + (p.map fun k => sz.getD k.toNat 0).sum := by
  induction p with
  | nil => intro a _; simp [sumK]
  | cons x p ih =>
    intro a
    simp only [sumK]
    cases hc : inT sz.length x with
    | false => simp
    | true =>
      intro h
      simp only [if_true] at h ⊢
      rw [ih _ h]
      simp
      omega

/-- What is known behind some nodes. -/
structure Inv (m : List Nd) (s : Int × List Int) : Prop where
  wf : WF m
  len : s.2.length = m.length
  le : (m.length : Int) ≤ s.1
  top : s.1 ≤ 2000
  size : ∀ k, k < m.length → s.2.getD k 0 = ((places m.length m k).length : Int)
  bound : ∀ k, 0 ≤ s.2.getD k 0 ∧ s.2.getD k 0 ≤ 2000

theorem Inv.nil : Inv [] (0, []) := ⟨WF.nil, rfl, by simp, by simp, fun k hk => by simp at hk, fun k => by simp⟩

theorem length_flatMap' {α β : Type} (l : List α) (f : α → List β) : ((l.flatMap f).length : Int) = (l.map fun x => ((f x).length : Int)).sum := by
  induction l with
  | nil => rfl
  | cons a l ih => rw [List.flatMap_cons, List.length_append, List.map_cons, List.sum_cons, ← ih]; omega

theorem sum_congr {l : List Int} {f g : Int → Int} (h : ∀ x ∈ l, f x = g x) : (l.map f).sum = (l.map g).sum := by
  rw [List.map_congr_left h]

theorem Inv.step {m : List Nd} {s s' : Int × List Int} {x : Nd} (h : Inv m s) (hs : stepS s x = some s') : Inv (addN m x) s' := by
  unfold stepS at hs
  split at hs
  · cases hs
  · rename_i h1
    split at hs
    · cases hs
    · rename_i h2
      cases hs
      have hfit : (sumK s.2 x.kids 1).2 = fits m.length x := by rw [sumK_fits, h.len]; rfl
      have hb := sumK_bound h.bound x.kids 1 (by omega)
      unfold addN
      rw [hfit]
      cases hf : fits m.length x with
      | false =>
        simp only [Bool.false_eq_true, if_false]
        exact ⟨h.wf, h.len, by have := h.le; simp only []; omega, by simp only []; omega, h.size, h.bound⟩
      | true =>
        simp only [if_true]
        have hw := h.wf.add hf
        have hsum := sumK_sum x.kids 1 (by rw [hfit]; exact hf)
        have hold : ∀ i : Int, inT m.length i = true → (places m.length m i).length = (places (m ++ [x]).length (m ++ [x]) i).length := fun i hi => by
          rw [places_fuel hw (m ++ [x]).length m.length i (fun _ => by rw [inT_iff] at hi; simp; omega), places_append h.wf _ _ hi]
        have hnew : ((places (m ++ [x]).length (m ++ [x]) m.length).length : Int) = (sumK s.2 x.kids 1).1 := by
          rw [hsum]
          have e : (m ++ [x]).length = m.length + 1 := by simp
          rw [e]
          have hin : inT (m ++ [x]).length (m.length : Int) = true := by rw [inT_iff]; simp; omega
          have hnd : nd (m ++ [x]) (m.length : Int) = x := by simp [nd, List.getD]
          simp only [places, hin, if_true, hnd, List.length_cons]
          rw [Int.natCast_add, length_flatMap']
          have : (x.kids.map fun y => ((places m.length (m ++ [x]) y).length : Int)).sum = (x.kids.map fun k => s.2.getD k.toNat 0).sum := sum_congr fun y hy => by
            have hy' := List.all_eq_true.1 hf y hy
            rw [places_append h.wf _ _ hy']
            rw [inT_iff] at hy'
            rw [h.size y.toNat (by omega)]
            congr 3
            omega
          rw [this]
          omega
        refine ⟨hw, by simp [h.len], by have := h.le; simp only [List.length_append, List.length_singleton]; omega, by simp only []; omega, fun k hk => ?_, fun k => ?_⟩
        · simp at hk
          by_cases hkm : k < m.length
          · rw [getD_append _ _ _ _ (by rw [h.len]; exact hkm), h.size k hkm, ← hold k (by rw [inT_iff]; omega)]
          · obtain rfl : k = m.length := by omega
            rw [hnew, ← h.len]
            simp [List.getD]
        · by_cases hkm : k < m.length
          · rw [getD_append _ _ _ _ (by rw [h.len]; exact hkm)]; exact h.bound k
          · by_cases hk2 : k = m.length
            · subst hk2
              have : (s.2 ++ [(sumK s.2 x.kids 1).1]).getD m.length 0 = (sumK s.2 x.kids 1).1 := by rw [← h.len]; simp [List.getD]
              rw [this]
              omega
            · have : (s.2 ++ [(sumK s.2 x.kids 1).1]).getD k 0 = 0 := by
                rw [getD_default]
                simp [h.len]; omega
              rw [this]; omega

theorem Inv.fold (l : List Nd) : ∀ {m : List Nd} {s s' : Int × List Int}, Inv m s → foldS l s = some s' → Inv (l.foldl addN m) s' := by
  induction l with
  | nil => intro m s s' h e; cases e; exact h
  | cons x l ih =>
    intro m s s' h e
    simp only [foldS] at e
    cases hs : stepS s x with
    | none => rw [hs] at e; cases e
    | some s1 => rw [hs] at e; exact ih (h.step hs) e

/-- Small nodes: what can be added is few, and each has few. -/
theorem small_inv {l : List Nd} (h : small l = true) : ∃ s, Inv (l.foldl addN []) s := by
  unfold small at h
  obtain ⟨s, hs⟩ := Option.isSome_iff_exists.1 h
  exact ⟨s, Inv.nil.fold l hs⟩
theorem foldS_le : ∀ (l : List Nd) (s s' : Int × List Int), foldS l s = some s' → s.1 + l.length ≤ s'.1 ∧ ∀ x ∈ l, s.1 + (1 + (x.kids.length : Int) + x.op.size + x.name.size) ≤ s'.1
  | [], s, s', e => by cases e; simp
  | x :: l, s, s', e => by
    simp only [foldS] at e
    cases hs : stepS s x with
    | none => rw [hs] at e; cases e
    | some s1 =>
      rw [hs] at e
      have ih := foldS_le l s1 s' e
      have h1 : s1.1 = s.1 + (1 + (x.kids.length : Int) + x.op.size + x.name.size) := by
        unfold stepS at hs
        split at hs
        · cases hs
        · split at hs
          · cases hs
          · cases hs; rfl
      refine ⟨by simp only [List.length_cons]; omega, fun y hy => ?_⟩
      rcases List.mem_cons.1 hy with rfl | hy
      · omega
      · have := ih.2 y hy; omega
theorem foldS_top : ∀ (l : List Nd) (s s' : Int × List Int), s.1 ≤ 2000 → foldS l s = some s' → s'.1 ≤ 2000
  | [], s, s', h, e => by cases e; exact h
  | x :: l, s, s', h, e => by
    simp only [foldS] at e
    cases hs : stepS s x with
    | none => rw [hs] at e; cases e
    | some s1 =>
      rw [hs] at e
      refine foldS_top l s1 s' ?_ e
      unfold stepS at hs
      split at hs
      · cases hs
      · split at hs
        · cases hs
        · cases hs; simp only []; omega
theorem small_len {l : List Nd} (h : small l = true) : l.length ≤ 2000 ∧ ∀ x ∈ l, x.kids.length ≤ 2000 := by
  unfold small at h
  obtain ⟨s, hs⟩ := Option.isSome_iff_exists.1 h
  have h1 := foldS_le l _ _ hs
  have h2 := foldS_top l (0, []) s (by simp) hs
  simp at h1
  refine ⟨by omega, fun x hx => ?_⟩
  have := h1.2 x hx
  omega
theorem addN_length (m : List Nd) (x : Nd) : (addN m x).length ≤ m.length + 1 ∧ m.length ≤ (addN m x).length := by unfold addN; split <;> simp
theorem fold_length (l : List Nd) : ∀ m : List Nd, (l.foldl addN m).length ≤ m.length + l.length := by
  induction l with
  | nil => intro m; simp
  | cons x l ih => intro m; have := ih (addN m x); have := addN_length m x; simp only [List.foldl_cons, List.length_cons]; omega
theorem fold_mem (l : List Nd) : ∀ (m : List Nd) (x : Nd), x ∈ l.foldl addN m → x ∈ m ∨ x ∈ l := by
  induction l with
  | nil => intro m x h; exact .inl h
  | cons y l ih =>
    intro m x h
    rcases ih _ x h with h | h
    · unfold addN at h
      split at h
      · rcases List.mem_append.1 h with h | h
        · exact .inl h
        · right; simp at h; simp [h]
      · exact .inl h
    · right; simp [h]

/-- What a walk that stops where it is told has seen. -/
def seenOf (stop : Nat) (l : List Int) : List Int := if 0 < stop ∧ stop < l.length then l.take stop else l
end TreP
end Go.Proofs.YtmeacgmjpjjphaaGreatDoor.Tr
namespace Go.Proofs.YtmeacgmjpjjphaaGreatDoor.Tr
open Go.RowKit

theorem add_at {b off n : Nat} : (⟨b, off, none⟩ : Addr).add n = ⟨b, off + n, none⟩ := by
  unfold Addr.add; split
  · rename_i h; subst h; rfl
  · rfl
theorem cell_lt {w : World} {a : Addr} {v : Value} (h : w.cell? a = some v) : a.block < w.heap.size := by
  unfold World.cell? at h
  cases hh : w.heap[a.block]? with
  | none => rw [hh] at h; cases h
  | some o => exact (Array.getElem?_eq_some_iff.1 hh).1
theorem heap_lt {w : World} {b : Nat} {o : Obj} (h : w.heap[b]? = some o) : b < w.heap.size := (Array.getElem?_eq_some_iff.1 h).1
theorem frozenOf {w : World} {b : Nat} {cs : Array Value} {t : TypeId} (h : w.heap[b]? = some (.cells cs t)) (i : Nat) : w.frozen? ⟨b, i, none⟩ = false := by simp [World.frozen?, h]
theorem last (W : World) (o : Obj) : (W.alloc o).heap[W.heap.size]? = some o := by simp only [World.alloc, Array.getElem?_push]; simp
theorem cellOf1 {w : World} {b : Nat} {x : Value} {t : TypeId} (h : w.heap[b]? = some (.cells #[x] t)) : w.cell? ⟨b, 0, none⟩ = some x := by simp only [World.cell?, h]; rfl
theorem cell_alloc {w : World} {a : Addr} {v : Value} (h : w.cell? a = some v) (o : Obj) : (w.alloc o).cell? a = some v := (World.cell?_of_block (Below.heap_alloc w o a.block (cell_lt h))).trans h
theorem cellsOf6 {w : World} {b : Nat} {x0 x1 x2 x3 x4 x5 : Value} {t : TypeId} (h : w.heap[b]? = some (.cells #[x0, x1, x2, x3, x4, x5] t)) : w.cell? ⟨b, 0, none⟩ = some x0 ∧ w.cell? ⟨b, 1, none⟩ = some x1 ∧ w.cell? ⟨b, 2, none⟩ = some x2 ∧ w.cell? ⟨b, 3, none⟩ = some x3 ∧ w.cell? ⟨b, 4, none⟩ = some x4 ∧ w.cell? ⟨b, 5, none⟩ = some x5 := by
  refine ⟨?_, ?_, ?_, ?_, ?_, ?_⟩ <;> simp only [World.cell?, h] <;> rfl

theorem set6_heap {w : World} {b : Nat} {x0 x1 x2 x3 x4 x5 : Value} {t : TypeId} (h : w.heap[b]? = some (.cells #[x0, x1, x2, x3, x4, x5] t)) (v0 v1 v2 v3 v4 v5 : Value) :
    ((((((w.setCell ⟨b, 0, none⟩ v0).setCell ⟨b, 1, none⟩ v1).setCell ⟨b, 2, none⟩ v2).setCell ⟨b, 3, none⟩ v3).setCell ⟨b, 4, none⟩ v4).setCell ⟨b, 5, none⟩ v5).heap[b]? = some (.cells #[v0, v1, v2, v3, v4, v5] t) := by
  simp [World.setCell, Array.getElem?_modify, h]
theorem set6_other {w : World} {b c : Nat} (h : c ≠ b) (v0 v1 v2 v3 v4 v5 : Value) :
    ((((((w.setCell ⟨b, 0, none⟩ v0).setCell ⟨b, 1, none⟩ v1).setCell ⟨b, 2, none⟩ v2).setCell ⟨b, 3, none⟩ v3).setCell ⟨b, 4, none⟩ v4).setCell ⟨b, 5, none⟩ v5).heap[c]? = w.heap[c]? := by
  rw [Below.heap_setCell _ _ _ _ h, Below.heap_setCell _ _ _ _ h, Below.heap_setCell _ _ _ _ h, Below.heap_setCell _ _ _ _ h, Below.heap_setCell _ _ _ _ h, Below.heap_setCell _ _ _ _ h]
theorem Below.set6 {B : Nat} {a w : World} (h : Below B a w) {b : Nat} (hb : B ≤ b) (v0 v1 v2 v3 v4 v5 : Value) : Below B a ((((((w.setCell ⟨b, 0, none⟩ v0).setCell ⟨b, 1, none⟩ v1).setCell ⟨b, 2, none⟩ v2).setCell ⟨b, 3, none⟩ v3).setCell ⟨b, 4, none⟩ v4).setCell ⟨b, 5, none⟩ v5) :=
  (((((h.setCell (p := ⟨b, 0, none⟩) hb v0).setCell (p := ⟨b, 1, none⟩) hb v1).setCell (p := ⟨b, 2, none⟩) hb v2).setCell (p := ⟨b, 3, none⟩) hb v3).setCell (p := ⟨b, 4, none⟩) hb v4).setCell (p := ⟨b, 5, none⟩) hb v5

theorem below_drewN' {B : Nat} {a w : World} (h : Below B a w) (q : Nat) : Below B a (w.drewN q) := ⟨h.os, h.tape, h.output, h.size, h.block⟩
/-- A node's cells, its parts' slice s. -/
def ndCells (x : Nd) (s : Value) : List Value := [.string x.op, .int .i64 x.line, .int .i64 x.col, .string x.name, .int .i64 x.num, s]
def ndV (x : Nd) (s : Value) : Value := .agg #[.string x.op, .int .i64 x.line, .int .i64 x.col, .string x.name, .int .i64 x.num, s]
def rowsOf (ms : List (Nd × Value)) : List Value := ms.flatMap fun p => ndCells p.1 p.2
theorem rowsOf_length (ms : List (Nd × Value)) : (rowsOf ms).length = ms.length * 6 := by
  induction ms with
  | nil => rfl
  | cons p ms ih =>
    have : (rowsOf (p :: ms)).length = (rowsOf ms).length + 6 := by simp [rowsOf, ndCells]
    rw [this, ih, List.length_cons]; omega
theorem rowsOf_append (ms k : List (Nd × Value)) : rowsOf (ms ++ k) = rowsOf ms ++ rowsOf k := by simp [rowsOf]
theorem rowsOf_get : ∀ {ms : List (Nd × Value)} {i j : Nat} (hi : i < ms.length) (hj : j < 6), (rowsOf ms)[i * 6 + j]? = (ndCells ms[i].1 ms[i].2)[j]?
  | p :: ms, 0, j, hi, hj => by
    have : rowsOf (p :: ms) = ndCells p.1 p.2 ++ rowsOf ms := by simp [rowsOf]
    rw [this, Nat.zero_mul, Nat.zero_add, List.getElem?_append_left (by simp [ndCells]; omega)]
    rfl
  | p :: ms, i + 1, j, hi, hj => by
    have : rowsOf (p :: ms) = ndCells p.1 p.2 ++ rowsOf ms := by simp [rowsOf]
    rw [this, List.getElem?_append_right (by simp [ndCells]; omega)]
    have e : (i + 1) * 6 + j - (ndCells p.1 p.2).length = i * 6 + j := by simp [ndCells]; omega
    rw [e, rowsOf_get (by simpa using hi) hj]
    rfl

/-- A slice of numbers. -/
def Ints (w : World) (s : Value) (l : List Int) : Prop :=
  ((∃ A c, s = .slice A 0 c) ∧ l = []) ∨ ∃ b off c, s = .slice (some ⟨b, off, none⟩) l.length c ∧ ∀ i, i < l.length → w.cell? ⟨b, off + i, none⟩ = some (.int .i64 (l.getD i 0))
theorem Ints.below {w w' : World} {s : Value} {l : List Int} (h : Ints w s l) (hb : Below w.heap.size w w') : Ints w' s l := by
  rcases h with h | ⟨b, off, c, h1, h2⟩
  · exact .inl h
  · exact .inr ⟨b, off, c, h1, fun i hi => (hb.cell (p := ⟨b, off + i, none⟩) (cell_lt (h2 i hi))).trans (h2 i hi)⟩
theorem Ints.drew {w : World} {s : Value} {l : List Int} (h : Ints w s l) : Ints w.drew s l := h
theorem Ints.form {w : World} {s : Value} {l : List Int} (h : Ints w s l) : ∃ A c, s = .slice A l.length c := by
  rcases h with ⟨⟨A, c, rfl⟩, rfl⟩ | ⟨b, off, c, h1, h2⟩
  · exact ⟨_, _, rfl⟩
  · exact ⟨_, _, h1⟩
/-- Numbers that a call owns. -/
def Own (w : World) (B : Nat) (s : Value) (l : List Int) : Prop := w.ownsRow B 3 1 s l.length (l.map (Value.int .i64))
theorem owns_block {w w' : World} {B : Nat} {e : TypeId} {size n : Nat} {v : Value} {xs : List Value} (h : w.ownsRow B e size v n xs) (hb : ∀ g, v.ownBlock = some g → w'.heap[g]? = w.heap[g]?) : w'.ownsRow B e size v n xs := by
  obtain ⟨h1, h2⟩ := h
  refine ⟨h1, ?_⟩
  rcases h2 with h2 | ⟨g, cap, cur, rfl, hg, hh, r⟩
  · exact .inl h2
  · exact .inr ⟨g, cap, cur, rfl, hg, (hb g rfl).trans hh, r⟩
theorem owns_elem {w : World} {B : Nat} {e : TypeId} {size n : Nat} {v : Value} {xs : List Value} (h : w.ownsRow B e size v n xs) {g : Nat} (hg : v.ownBlock = some g) : ∃ c, w.heap[g]? = some (.cells c e) := by
  rcases h.2 with ⟨rfl, _⟩ | ⟨g', cap, cur, rfl, _, hh, _⟩
  · cases hg
  · obtain rfl : g' = g := by simpa [Value.ownBlock] using hg
    exact ⟨cur, hh⟩
theorem owns_below {w w' : World} {B : Nat} {e : TypeId} {size n : Nat} {v : Value} {xs : List Value} (h : w.ownsRow B e size v n xs) (hb : Below w.heap.size w w') : w'.ownsRow B e size v n xs :=
  owns_block h fun g hg => hb.block g (h.lt g hg).2
theorem owns_base {w : World} {B B' : Nat} {e : TypeId} {size n : Nat} {v : Value} {xs : List Value} (h : w.ownsRow B e size v n xs) (hb : B' ≤ B) : w.ownsRow B' e size v n xs := by
  obtain ⟨h1, h2⟩ := h
  refine ⟨h1, ?_⟩
  rcases h2 with h2 | ⟨g, cap, cur, rfl, hg, r⟩
  · exact .inl h2
  · exact .inr ⟨g, cap, cur, rfl, by omega, r⟩
theorem Own.below {w w' : World} {B : Nat} {s : Value} {l : List Int} (h : Own w B s l) (hb : Below w.heap.size w w') : Own w' B s l := owns_below h hb
theorem Own.ints {w : World} {B : Nat} {s : Value} {l : List Int} (h : Own w B s l) : Ints w s l := by
  rcases h.2 with ⟨rfl, h0⟩ | ⟨g, cap, cur, rfl, hg, hh, r⟩
  · exact .inl ⟨⟨none, 0, rfl⟩, List.eq_nil_of_length_eq_zero h0⟩
  · refine .inr ⟨g, 0, cap, rfl, fun i hi => ?_⟩
    have := World.ownsRow.cellAt h i (by omega)
    rw [Nat.zero_add, this]
    simp [List.getD, hi]

theorem Own.form {w : World} {B : Nat} {s : Value} {l : List Int} (h : Own w B s l) : ∃ A c, s = .slice A l.length c := h.ints.form

/-- A slice of nodes; ms: each node, with its parts' slice. -/
def Nodes (w : World) (v : Value) (ms : List (Nd × Value)) : Prop :=
  (((∃ A c, v = .slice A 0 c) ∧ ms = []) ∨ ∃ b off c, v = .slice (some ⟨b, off, none⟩) ms.length c ∧ ∀ k u, (rowsOf ms)[k]? = some u → w.cell? ⟨b, off + k, none⟩ = some u) ∧ ∀ p ∈ ms, Ints w p.2 p.1.kids
theorem Nodes.below {w w' : World} {v : Value} {ms : List (Nd × Value)} (h : Nodes w v ms) (hb : Below w.heap.size w w') : Nodes w' v ms := by
  refine ⟨?_, fun p hp => (h.2 p hp).below hb⟩
  rcases h.1 with h | ⟨b, off, c, h1, h2⟩
  · exact .inl h
  · exact .inr ⟨b, off, c, h1, fun k u hu => (hb.cell (p := ⟨b, off + k, none⟩) (cell_lt (h2 k u hu))).trans (h2 k u hu)⟩
theorem Nodes.form {w : World} {v : Value} {ms : List (Nd × Value)} (h : Nodes w v ms) : ∃ A c, v = .slice A ms.length c := by
  rcases h.1 with ⟨⟨A, c, rfl⟩, rfl⟩ | ⟨b, off, c, h1, h2⟩
  · exact ⟨_, _, rfl⟩
  · exact ⟨_, _, h1⟩
/-- One node of a slice: its cells. -/
theorem Nodes.at {w : World} {v : Value} {ms : List (Nd × Value)} (h : Nodes w v ms) {i : Nat} (hi : i < ms.length) :
    ∃ b off c, v = .slice (some ⟨b, off, none⟩) ms.length c ∧ w.cell? ⟨b, off + i * 6, none⟩ = some (.string ms[i].1.op) ∧ w.cell? ⟨b, off + i * 6 + 1, none⟩ = some (.int .i64 ms[i].1.line) ∧ w.cell? ⟨b, off + i * 6 + 2, none⟩ = some (.int .i64 ms[i].1.col) ∧
      w.cell? ⟨b, off + i * 6 + 3, none⟩ = some (.string ms[i].1.name) ∧ w.cell? ⟨b, off + i * 6 + 4, none⟩ = some (.int .i64 ms[i].1.num) ∧ w.cell? ⟨b, off + i * 6 + 5, none⟩ = some ms[i].2 ∧ Ints w ms[i].2 ms[i].1.kids := by
  rcases h.1 with ⟨_, rfl⟩ | ⟨b, off, c, h1, h2⟩
  · simp at hi
  · have g : ∀ j u, j < 6 → (ndCells ms[i].1 ms[i].2)[j]? = some u → w.cell? ⟨b, off + i * 6 + j, none⟩ = some u := fun j u hj hu => by
      have := h2 (i * 6 + j) u (by rw [rowsOf_get hi hj]; exact hu)
      rwa [← Nat.add_assoc] at this
    exact ⟨b, off, c, h1, g 0 _ (by omega) rfl, g 1 _ (by omega) rfl, g 2 _ (by omega) rfl, g 3 _ (by omega) rfl, g 4 _ (by omega) rfl, g 5 _ (by omega) rfl, h.2 _ (List.getElem_mem hi)⟩

/-- A tree at place t, all of it in blocks from B on. -/
structure TreeAt (w : World) (B t : Nat) (v : Value) (ms : List (Nd × Value)) : Prop where
  base : B ≤ t
  obj : w.heap[t]? = some (.cells #[v] 88)
  rows : w.ownsRow B 53 6 v ms.length (rowsOf ms)
  kid : ∀ p ∈ ms, Own w B p.2 p.1.kids
theorem TreeAt.below {w w' : World} {B t : Nat} {v : Value} {ms : List (Nd × Value)} (h : TreeAt w B t v ms) (hb : Below w.heap.size w w') : TreeAt w' B t v ms :=
  ⟨h.base, (hb.block t (heap_lt h.obj)).trans h.obj, owns_below h.rows hb, fun p hp => (h.kid p hp).below hb⟩
theorem TreeAt.nodes {w : World} {B t : Nat} {v : Value} {ms : List (Nd × Value)} (h : TreeAt w B t v ms) : Nodes w v ms := by
  refine ⟨?_, fun p hp => (h.kid p hp).ints⟩
  rcases h.rows.2 with ⟨rfl, h0⟩ | ⟨g, cap, cur, rfl, hg, hh, r⟩
  · exact .inl ⟨⟨none, 0, rfl⟩, List.eq_nil_of_length_eq_zero h0⟩
  · refine .inr ⟨g, 0, cap, rfl, fun k u hu => ?_⟩
    have hk : k < ms.length * 6 := by
      have := (List.getElem?_eq_some_iff.1 hu).1
      rwa [rowsOf_length] at this
    rw [Nat.zero_add, World.ownsRow.cellAt h.rows k hk, hu]

theorem info_int : (Tryz.prog.info? 3).map (fun i => (i.zero, i.size, i.bytes)) = some (some (.int .i64 0), 1, 8) := by kernel_rfl
theorem info_node : (Tryz.prog.info? 53).map (fun i => (i.zero, i.size, i.bytes)) = some (some (.agg #[.string .empty, .int .i64 0, .int .i64 0, .string .empty, .int .i64 0, .slice none 0 0]), 6, 80) := by kernel_rfl

theorem Ints.news {w : World} {b off c : Nat} {l : List Int} (h : ∀ i, i < l.length → w.cell? ⟨b, off + i, none⟩ = some (.int .i64 (l.getD i 0))) : ∀ j u, (l.map (Value.int .i64))[j]? = some u → w.cell? ((⟨b, off, none⟩ : Addr).add j) = some u := by
  intro j u hu
  rw [add_at]
  have hj : j < l.length := by simpa using (List.getElem?_eq_some_iff.1 hu).1
  rw [h j hj, ← hu]
  simp [List.getD, hj]
theorem Own.news {w : World} {B g cap : Nat} {l : List Int} (h : Own w B (.slice (some ⟨g, 0, none⟩) l.length cap) l) : ∀ j u, (l.map (Value.int .i64))[j]? = some u → w.cell? ((⟨g, 0, none⟩ : Addr).add j) = some u := by
  intro j u hu
  have hj : j < l.length := by simpa using (List.getElem?_eq_some_iff.1 hu).1
  rw [add_at, Nat.zero_add, World.ownsRow.cellAt h j (by omega), hu]
theorem Own.join {w : World} {B : Nat} {s : Value} {l k : List Int} (h : w.ownsRow B 3 1 s (l.length + k.length) (l.map (Value.int .i64) ++ k.map (Value.int .i64))) : Own w B s (l ++ k) := by
  unfold Own
  rw [List.length_append, List.map_append]
  exact h
theorem ints_one (l : List Int) : ∀ u ∈ l.map (Value.int .i64), u.oneCell' = true := by
  intro u hu
  obtain ⟨x, _, rfl⟩ := List.mem_map.1 hu
  rfl

set_option maxHeartbeats 1000000 in
/-- slices.Clone at numbers. -/
theorem Clone_in {w : World} {s : Value} {l : List Int} (hs : Ints w s l) (hl : l.length ≤ 1000000) :
    Calls Tryz.prog 44 #[s] w fun e w' => ∃ s', e = .returned s' ∧ Own w' w.heap.size s' l ∧ Below w.heap.size w w' := by
  obtain ⟨i0, hi, hz0, hz1, hz2⟩ := info_parts info_int
  have q22 : ∀ (w : World) (a : Option Addr) (n c : Nat), (binOp .eql 51 (.slice a n c) (.slice none 0 0)).run Tryz.prog w = .ok (.bool a.isNone) w := fun w a n c => by first | exact Lib.run_eql_slice_nil w _ _ a n c Tryz.underlying51 | exact Lib.run_eql_slice_nil w _ _ a n c 0 0 Tryz.underlying51
  rcases hs with ⟨⟨A, c, rfl⟩, rfl⟩ | ⟨b, off, c, rfl, h2⟩
  · cases A with
    | none =>
      go_enter Tryz.func44, Tryz.ntmps44
      go_wp2_with fail
      go_ret
      exact ⟨_, rfl, World.ownsRow_nil _ _ _ _, Below.refl _ _⟩
    | some ad =>
      go_enter Tryz.func44, Tryz.ntmps44
      go_wp2_with (at_builtin; refine wpList_append_own _ rfl _ _ 51 rfl w.heap.size 3 i0 (.int .i64 0) 1 8 Tryz.underlying51 hi hz0 hz1 hz2 rfl (by decide) _ 0 [] rfl (World.ownsRow_made w #[] 0 (Nat.le_refl _) (Nat.zero_le _) (by simp)) ad 0 c [] rfl rfl (fun j u hu => by simp at hu) (fun u hu => by cases hu) (by decide) (by decide) (by simp) ?_)
      intro v' w1 hown hgrow hnil
      have hB : Below w.heap.size w w1 := ((Below.refl w.heap.size w).alloc (Nat.le_refl _) (.cells #[] 3)).grown hgrow (by simp) (fun k hk => Nat.le_of_eq (by simpa [Value.ownBlock] using hk))
      go_wp2_with fail
      go_ret
      exact ⟨_, rfl, hown, hB⟩
  · have hn := Lib.hid (Ints.news (c := c) h2)
    clear h2
    go_enter Tryz.func44, Tryz.ntmps44
    go_wp2_with (at_builtin; refine wpList_append_own _ rfl _ _ 51 rfl w.heap.size 3 i0 (.int .i64 0) 1 8 Tryz.underlying51 hi hz0 hz1 hz2 rfl (by decide) _ 0 [] rfl (World.ownsRow_made w #[] 0 (Nat.le_refl _) (Nat.zero_le _) (by simp)) ⟨b, off, none⟩ l.length c (l.map (Value.int .i64)) rfl ?qc1 ?qc2 ?qc3 ?qc4 ?qc5 ?qc6 ?_)
    case qc1 => simp
    case qc2 => exact fun j u hu => (((Below.refl w.heap.size w).alloc (Nat.le_refl _) _).cell (cell_lt (hn.out j u hu))).trans (hn.out j u hu)
    case qc3 => exact ints_one l
    case qc4 => unfold maxLen; omega
    case qc5 => omega
    case qc6 => simp
    intro v' w1 hown hgrow hnil
    try rw [Nat.zero_add, List.nil_append] at hown
    have hB : Below w.heap.size w w1 := ((Below.refl w.heap.size w).alloc (Nat.le_refl _) (.cells #[] 3)).grown hgrow (by simp) (fun k hk => Nat.le_of_eq (by simpa [Value.ownBlock] using hk))
    go_wp2_with fail
    go_ret
    exact ⟨_, rfl, hown, hB⟩

section
variable {w : World} {s : Value} {l : List Int} {g : Nat} {lb : Array Value} (I : Nat → World → Prop) (Ix : Nat → World → Prop)
set_option maxHeartbeats 2000000 in
/-- slices.IndexFunc at numbers, whatever its function does: I what holds behind k calls that said no, Ix behind one that said yes. -/
theorem IndexFunc_gen (eg : ∀ args w, (callFunc g args).run Tryz.prog w = .ok (.enter g args) w) (hl : l.length ≤ 1000000) (hI : ∀ k W, I k W → Ints W s l) (h0 : I 0 w)
    (hstep : ∀ k W, k < l.length → I k W → Calls Tryz.prog g (#[.int .i64 (l.getD k 0)] ++ lb) W fun e w' => (e = .returned (.bool false) ∧ I (k + 1) w') ∨ (e = .returned (.bool true) ∧ Ix k w')) :
    Calls Tryz.prog 87 #[s, .func (.func g) #[] lb] w fun e w' => (e = .returned (.int .i64 (-1)) ∧ I l.length w') ∨ ∃ k : Nat, k < l.length ∧ e = .returned (.int .i64 k) ∧ Ix k w' := by
  obtain ⟨A, c, rfl⟩ := (hI 0 w h0).form
  have HI := Lib.hid hI
  have HS := Lib.hid hstep
  clear hI hstep
  go_enter Tryz.func87, Tryz.ntmps87
  go_wp2_with fail
  go_loopw [5, 8] (fun _ i wr => ∃ k : Nat, i = .int .i64 k ∧ k ≤ l.length ∧ I k wr) (fun _ i _ => ((l.length : Int) - intOf i).toNat)
  case atStart => exact ⟨0, rfl, by omega, h0⟩
  case round =>
    obtain ⟨k, rfl, hk, hr⟩ := hrel
    by_cases hkl : k < l.length
    · have hki : (k : Int) < l.length := by omega
      have hcs := HI.out k wr hr
      have hcall := HS.out k wr hkl hr
      rcases hcs with ⟨h1, h2⟩ | ⟨b, off, c', h1, h2⟩
      · rw [h2] at hkl; simp at hkl
      · cases h1
        have h3 := h2 k hkl
        clear h2
        generalize l.getD k 0 = y at *
        go_wp2_with (go_at_fn g; refine hcall.mono ?_; rintro e w' (⟨rfl, hr'⟩ | ⟨rfl, hr'⟩))
        · exact ⟨⟨k + 1, by simp, by omega, hr'⟩, by simp [intOf]; omega⟩
        · go_ret
          exact .inr ⟨k, hkl, rfl, hr'⟩
    · have hki : ¬ (k : Int) < l.length := by omega
      have hke : k = l.length := by omega
      rw [hke] at hr
      go_wp2_with fail
      go_ret
      exact .inl ⟨rfl, hr⟩

set_option maxHeartbeats 2000000 in
/-- slices.ContainsFunc at numbers. -/
theorem ContainsFunc_gen (eg : ∀ args w, (callFunc g args).run Tryz.prog w = .ok (.enter g args) w) (hl : l.length ≤ 1000000) (hI : ∀ k W, I k W → Ints W s l) (h0 : I 0 w)
    (hstep : ∀ k W, k < l.length → I k W → Calls Tryz.prog g (#[.int .i64 (l.getD k 0)] ++ lb) W fun e w' => (e = .returned (.bool false) ∧ I (k + 1) w') ∨ (e = .returned (.bool true) ∧ Ix k w')) :
    Calls Tryz.prog 63 #[s, .func (.func g) #[] lb] w fun e w' => (e = .returned (.bool false) ∧ I l.length w') ∨ ∃ k : Nat, k < l.length ∧ e = .returned (.bool true) ∧ Ix k w' := by
  have hc := IndexFunc_gen I Ix eg hl hI h0 hstep
  clear hI h0 hstep eg
  go_enter Tryz.func63, Tryz.ntmps63
  go_wp2_with (go_at_call 87; refine hc.mono ?_; rintro e w' (⟨rfl, hr'⟩ | ⟨k, hk, rfl, hr'⟩))
  · go_ret
    exact .inl ⟨rfl, hr'⟩
  · go_ret
    exact .inr ⟨k, hk, by simp, hr'⟩
end

/-- len at the reference's In. -/
theorem In_in {w : World} (A : Option Addr) (n c : Nat) (i : Int) : Calls Tryz.prog 38 #[.slice A n c, .int .i64 i] w fun e w' => e = .returned (.bool (TreP.inT n i)) ∧ w = w' := by
  by_cases h0 : 0 ≤ i
  · by_cases h1 : i < n
    · rw [show TreP.inT n i = true by simp [TreP.inT, h0, h1]]
      go_enter Tryz.func38, Tryz.ntmps38
      go_wp2_with fail
      go_ret
      exact ⟨rfl, rfl⟩
    · rw [show TreP.inT n i = false by simp [TreP.inT, h0, h1]]
      go_enter Tryz.func38, Tryz.ntmps38
      go_wp2_with fail
      go_ret
      exact ⟨rfl, rfl⟩
  · have h2 : decide (0 ≤ i) = false := decide_eq_false h0
    rw [show TreP.inT n i = false by simp [TreP.inT, h2]]
    go_enter Tryz.func38, Tryz.ntmps38
    go_wp2_with fail
    go_ret
    exact ⟨rfl, rfl⟩

theorem Len_in {w : World} {B t : Nat} {A : Option Addr} {c : Nat} {ms : List (Nd × Value)} (h : TreeAt w B t (.slice A ms.length c) ms) : Calls Tryz.prog 20 #[.pointer (some ⟨t, 0, none⟩)] w fun e w' => e = .returned (.int .i64 ms.length) ∧ w = w' := by
  have hc := cellOf1 h.obj
  go_enter Tryz.func20, Tryz.ntmps20
  go_wp2_with fail
  go_ret
  exact ⟨rfl, rfl⟩
end Go.Proofs.YtmeacgmjpjjphaaGreatDoor.Tr
namespace Go.Proofs.YtmeacgmjpjjphaaGreatDoor.Tr
open Go.RowKit

theorem mem_kid {ms : List (Nd × Value)} {k : Nat} (hk : k < ms.length) : ms[k] ∈ ms := List.getElem_mem hk

set_option maxRecDepth 100000 in
set_option maxHeartbeats 4000000 in
/-- A node of a tree, its parts cloned. -/
theorem Get_hit {w : World} {B t : Nat} {v : Value} {ms : List (Nd × Value)} (h : TreeAt w B t v ms) {k : Nat} (hk : k < ms.length) (hl : ms[k].1.kids.length ≤ 1000000) (hm : ms.length ≤ 1000000) :
    Calls Tryz.prog 19 #[.pointer (some ⟨t, 0, none⟩), .int .i64 k] w fun e w' => ∃ s, e = .returned (.tuple #[ndV ms[k].1 s, .bool true]) ∧ Own w' w.heap.size s ms[k].1.kids ∧ Below w.heap.size w w' := by
  obtain ⟨b, off, c, hv, e0, e1, e2, e3, e4, e5, hI⟩ := h.nodes.at hk
  have ht := cellOf1 h.obj
  rw [hv] at ht
  clear h hv
  generalize ms[k] = p at *
  obtain ⟨⟨op, line, col, name, num, kids⟩, s0⟩ := p
  simp only at e0 e1 e2 e3 e4 e5 hI hl
  unfold ndV
  simp only
  obtain ⟨A0, c0, rfl⟩ := hI.form
  have HI := Lib.hid hI
  clear hI
  have hki : (k : Int) < ms.length := by omega
  have hk0 : decide ((k : Int) < 0) = false := decide_eq_false (by omega)
  have ht' := fun o => cell_alloc ht o
  have e0' := fun o => cell_alloc e0 o
  have e1' := fun o => cell_alloc e1 o
  have e2' := fun o => cell_alloc e2 o
  have e3' := fun o => cell_alloc e3 o
  have e4' := fun o => cell_alloc e4 o
  have e5' := fun o => cell_alloc e5 o
  go_enter Tryz.func19, Tryz.ntmps19
  go_wp2_with fail
  have hb0 := ((Below.refl w.heap.size w).alloc (Nat.le_refl _) (.cells #[.string ⟨#[]⟩, .int .i64 0, .int .i64 0, .string ⟨#[]⟩, .int .i64 0, .slice none 0 0] 53)).alloc (by simp) (.cells #[.string op, .int .i64 line, .int .i64 col, .string name, .int .i64 num, .slice A0 kids.length c0] 53)
  have f0 : ((w.alloc (.cells #[.string ⟨#[]⟩, .int .i64 0, .int .i64 0, .string ⟨#[]⟩, .int .i64 0, .slice none 0 0] 53)).alloc (.cells #[.string op, .int .i64 line, .int .i64 col, .string name, .int .i64 num, .slice A0 kids.length c0] 53)).heap[w.heap.size]? = some (.cells #[.string ⟨#[]⟩, .int .i64 0, .int .i64 0, .string ⟨#[]⟩, .int .i64 0, .slice none 0 0] 53) := by rw [Below.heap_alloc _ _ _ (by simp)]; exact last _ _
  have f1 : ((w.alloc (.cells #[.string ⟨#[]⟩, .int .i64 0, .int .i64 0, .string ⟨#[]⟩, .int .i64 0, .slice none 0 0] 53)).alloc (.cells #[.string op, .int .i64 line, .int .i64 col, .string name, .int .i64 num, .slice A0 kids.length c0] 53)).heap[w.heap.size + 1]? = some (.cells #[.string op, .int .i64 line, .int .i64 col, .string name, .int .i64 num, .slice A0 kids.length c0] 53) := by
    have := last (w.alloc (.cells #[.string ⟨#[]⟩, .int .i64 0, .int .i64 0, .string ⟨#[]⟩, .int .i64 0, .slice none 0 0] 53)) (.cells #[.string op, .int .i64 line, .int .i64 col, .string name, .int .i64 num, .slice A0 kids.length c0] 53)
    simpa using this
  have hs : ((w.alloc (.cells #[.string ⟨#[]⟩, .int .i64 0, .int .i64 0, .string ⟨#[]⟩, .int .i64 0, .slice none 0 0] 53)).alloc (.cells #[.string op, .int .i64 line, .int .i64 col, .string name, .int .i64 num, .slice A0 kids.length c0] 53)).heap.size = w.heap.size + 2 := by simp
  clear ht' e0' e1' e2' e3' e4' e5' e0 e1 e2 e3 e4 e5 ht
  generalize (w.alloc (.cells #[.string ⟨#[]⟩, .int .i64 0, .int .i64 0, .string ⟨#[]⟩, .int .i64 0, .slice none 0 0] 53)).alloc (.cells #[.string op, .int .i64 line, .int .i64 col, .string name, .int .i64 num, .slice A0 kids.length c0] 53) = W2 at *
  refine (Clone_in (HI.out.below hb0) hl).mono ?_
  rintro e w3 ⟨s, rfl, hown, hb3⟩
  obtain ⟨A1, c1, rfl⟩ := hown.form
  have g0 := (hb3.block _ (by omega)).trans f0
  have g1 := (hb3.block _ (by omega)).trans f1
  obtain ⟨z0, z1, z2, z3, z4, z5⟩ := cellsOf6 g0
  obtain ⟨n0, n1, n2, n3, n4, n5⟩ := cellsOf6 g1
  have zf := frozenOf g0
  have nf := frozenOf g1
  have HO := Lib.hid (And.intro hown hb3)
  clear hown hb3 f0 f1
  go_wp2_with fail
  have k0 : (w3.setCell ⟨w.heap.size + 1, 5, none⟩ (.slice A1 kids.length c1)).heap[w.heap.size]? = some (.cells #[.string ⟨#[]⟩, .int .i64 0, .int .i64 0, .string ⟨#[]⟩, .int .i64 0, .slice none 0 0] 53) := (Below.heap_setCell _ _ _ _ (by simp)).trans g0
  have k1 := set6_heap k0 (.string op) (.int .i64 line) (.int .i64 col) (.string name) (.int .i64 num) (.slice A1 kids.length c1)
  have k2 := Below.set6 ((hb0.trans (HO.out.2.mono (by omega))).setCell (p := ⟨w.heap.size + 1, 5, none⟩) (by simp) (.slice A1 kids.length c1)) (Nat.le_refl w.heap.size) (.string op) (.int .i64 line) (.int .i64 col) (.string name) (.int .i64 num) (.slice A1 kids.length c1)
  have k3 := owns_base (owns_block HO.out.1 fun g hg => (set6_other (w := w3.setCell ⟨w.heap.size + 1, 5, none⟩ (.slice A1 kids.length c1)) (b := w.heap.size) (by have := (HO.out.1.lt g hg).1; omega) (.string op) (.int .i64 line) (.int .i64 col) (.string name) (.int .i64 num) (.slice A1 kids.length c1)).trans (Below.heap_setCell _ _ _ _ (by have := (HO.out.1.lt g hg).1; simp; omega))) (show w.heap.size ≤ W2.heap.size by omega)
  generalize ((((((w3.setCell ⟨w.heap.size + 1, 5, none⟩ (.slice A1 kids.length c1)).setCell ⟨w.heap.size, 0, none⟩ (.string op)).setCell ⟨w.heap.size, 1, none⟩ (.int .i64 line)).setCell ⟨w.heap.size, 2, none⟩ (.int .i64 col)).setCell ⟨w.heap.size, 3, none⟩ (.string name)).setCell ⟨w.heap.size, 4, none⟩ (.int .i64 num)).setCell ⟨w.heap.size, 5, none⟩ (.slice A1 kids.length c1) = W4 at *
  obtain ⟨r0, r1, r2, r3, r4, r5⟩ := cellsOf6 k1
  exact bodyPost_ret (v := .tuple #[.agg #[.string op, .int .i64 line, .int .i64 col, .string name, .int .i64 num, .slice A1 kids.length c1], .bool true]) (by simp [results, Tryz.results19, go_sem, r0, r1, r2, r3, r4, r5]) rfl ⟨_, rfl, k3, k2⟩

set_option maxHeartbeats 4000000 in
theorem Get_miss {w : World} {B t : Nat} {v : Value} {ms : List (Nd × Value)} (h : TreeAt w B t v ms) {i : Int} (hi : TreP.inT ms.length i = false) :
    Calls Tryz.prog 19 #[.pointer (some ⟨t, 0, none⟩), .int .i64 i] w fun e w' => e = .returned (.tuple #[.agg #[.string ⟨#[]⟩, .int .i64 0, .int .i64 0, .string ⟨#[]⟩, .int .i64 0, .slice none 0 0], .bool false]) ∧ Below w.heap.size w w' := by
  have ht := cellOf1 h.obj
  obtain ⟨A, c, hv⟩ := h.nodes.form
  rw [hv] at ht
  clear h hv
  have ht' := fun o => cell_alloc ht o
  have f0 := last w (.cells #[.string ⟨#[]⟩, .int .i64 0, .int .i64 0, .string ⟨#[]⟩, .int .i64 0, .slice none 0 0] 53)
  have hb0 := (Below.refl w.heap.size w).alloc (Nat.le_refl _) (.cells #[.string ⟨#[]⟩, .int .i64 0, .int .i64 0, .string ⟨#[]⟩, .int .i64 0, .slice none 0 0] 53)
  by_cases h0 : 0 ≤ i
  · have h1 : ¬ i < ms.length := fun h1 => by simp [TreP.inT, h0, h1] at hi
    have hk0 : decide (i < 0) = false := decide_eq_false (by omega)
    have hk1 : (ms.length : Int) ≤ i := by omega
    go_enter Tryz.func19, Tryz.ntmps19
    go_wp2_with fail
    obtain ⟨r0, r1, r2, r3, r4, r5⟩ := cellsOf6 f0
    exact bodyPost_ret (v := .tuple #[.agg #[.string ⟨#[]⟩, .int .i64 0, .int .i64 0, .string ⟨#[]⟩, .int .i64 0, .slice none 0 0], .bool false]) (by simp [results, Tryz.results19, go_sem, r0, r1, r2, r3, r4, r5]) rfl ⟨rfl, hb0⟩
  · have hk0 : i < 0 := by omega
    go_enter Tryz.func19, Tryz.ntmps19
    go_wp2_with fail
    obtain ⟨r0, r1, r2, r3, r4, r5⟩ := cellsOf6 f0
    exact bodyPost_ret (v := .tuple #[.agg #[.string ⟨#[]⟩, .int .i64 0, .int .i64 0, .string ⟨#[]⟩, .int .i64 0, .slice none 0 0], .bool false]) (by simp [results, Tryz.results19, go_sem, r0, r1, r2, r3, r4, r5]) rfl ⟨rfl, hb0⟩

theorem Each_in {w : World} (p : Option Addr) (i : Int) : Calls Tryz.prog 31 #[.pointer p, .int .i64 i] w fun e w' =>
    e = .returned (.func (.func 59) #[] #[.pointer (some ⟨w.heap.size, 0, none⟩), .pointer (some ⟨w.heap.size + 1, 0, none⟩)]) ∧ w' = (w.alloc (.cells #[.pointer p] 23)).alloc (.cells #[.int .i64 i] 3) := by
  go_enter Tryz.func31, Tryz.ntmps31
  go_wp2_with fail
  go_ret
  exact ⟨rfl, rfl⟩

open TreP (WF nd inT deep places)
theorem nd_map {ms : List (Nd × Value)} {k : Nat} (hk : k < ms.length) : nd (ms.map (·.1)) k = ms[k].1 := by
  simp [nd, List.getD, hk]
/-- What a walk leans on. -/
structure Fine (ms : List (Nd × Value)) : Prop where
  wf : WF (ms.map (·.1))
  len : ms.length ≤ 4000
  kid : ∀ p ∈ ms, p.1.kids.length ≤ 70000
  few : ∀ k, k < ms.length → (places ms.length (ms.map (·.1)) k).length ≤ 4000
theorem Fine.kid_lt {ms : List (Nd × Value)} (h : Fine ms) {k j : Nat} (hk : k < ms.length) (hj : j < ms[k].1.kids.length) : 0 ≤ ms[k].1.kids.getD j 0 ∧ ms[k].1.kids.getD j 0 < k := by
  have h1 := h.wf k (by simpa using hk) (ms[k].1.kids.getD j 0) (by
    have : (ms.map (·.1)).getD k default = ms[k].1 := by simp [List.getD, hk]
    rw [this]
    simp [List.getD, hj])
  exact h1

end Go.Proofs.YtmeacgmjpjjphaaGreatDoor.Tr
namespace Go.Proofs.YtmeacgmjpjjphaaGreatDoor.Tr
open Go.RowKit
open TreP (WF nd inT deep places)

def placesTo (f : Nat) (m : List Nd) (i : Int) (l : List Int) : List Int := i :: l.flatMap (places f m)
theorem placesTo_succ {f : Nat} {m : List Nd} {i : Int} {l : List Int} {j : Nat} (h : j < l.length) : placesTo f m i (l.take (j + 1)) = placesTo f m i (l.take j) ++ places f m (l.getD j 0) := by
  unfold placesTo
  rw [TreP.getD_take (d := 0) h]
  simp
theorem placesTo_take (f : Nat) (m : List Nd) (i : Int) (l : List Int) (j : Nat) : (placesTo f m i (l.take j)).length ≤ (placesTo f m i l).length := by
  unfold placesTo
  have : (l.take j).flatMap (places f m) ++ (l.drop j).flatMap (places f m) = l.flatMap (places f m) := by
    rw [← List.flatMap_append, List.take_append_drop]
  have h2 := congrArg List.length this
  rw [List.length_append] at h2
  simp only [List.length_cons]
  omega
theorem Fine.few' {ms : List (Nd × Value)} (h : Fine ms) (f : Nat) (i : Int) (hi : inT ms.length i = true → i < f) : (places f (ms.map (·.1)) i).length ≤ 4000 := by
  cases hc : inT ms.length i with
  | false => rw [TreP.places_le _ _ _ (by simpa using hc)]; simp
  | true =>
    have h1 := hi hc
    have h2 := TreP.inT_iff.1 hc
    obtain ⟨k, rfl⟩ := Int.eq_ofNat_of_zero_le h2.1
    rw [TreP.places_fuel h.wf f ms.length k (fun _ => by omega)]
    exact h.few k (by omega)
theorem places_pos {f : Nat} {m : List Nd} {i : Int} (hc : inT m.length i = true) (hi : i < f) : 0 < (places f m i).length := by
  cases f with
  | zero => rw [TreP.inT_iff] at hc; omega
  | succ f => simp [places, hc]

set_option maxRecDepth 100000 in
set_option maxHeartbeats 4000000 in
/-- An expression's places, by the reference. -/
theorem Places_in {A : Option Addr} {c : Nat} {ms : List (Nd × Value)} (hF : Fine ms) : ∀ (f : Nat), f ≤ 4000 → ∀ (i : Int) (w : World), Nodes w (.slice A ms.length c) ms → (inT ms.length i = true → i < f) →
    Calls Tryz.prog 39 #[.slice A ms.length c, .int .i64 i] w fun e w' => ∃ s, e = .returned s ∧ Own w' w.heap.size s (places f (ms.map (·.1)) i) ∧ Below w.heap.size w w' := by
  intro f
  induction f with
  | zero =>
    intro _ i w h hi
    have hc : inT ms.length i = false := by
      cases hc : inT ms.length i with
      | false => rfl
      | true => have := hi hc; rw [TreP.inT_iff] at hc; omega
    rw [TreP.places_le _ _ _ (by simpa using hc)]
    have hg := In_in (w := w) A ms.length c i
    rw [hc] at hg
    clear h hi hc
    go_enter Tryz.func39, Tryz.ntmps39
    go_wp2_with (go_at_call 38; refine hg.mono ?_; rintro e w' ⟨rfl, rfl⟩)
    go_ret
    exact ⟨_, rfl, World.ownsRow_nil _ _ _ _, Below.refl _ _⟩
  | succ f ih =>
    intro hf i w h hi
    have hg := In_in (w := w) A ms.length c i
    cases hc : inT ms.length i with
    | false =>
      rw [TreP.places_le _ _ _ (by simpa using hc)]
      rw [hc] at hg
      clear h hi hc ih
      go_enter Tryz.func39, Tryz.ntmps39
      go_wp2_with (go_at_call 38; refine hg.mono ?_; rintro e w' ⟨rfl, rfl⟩)
      go_ret
      exact ⟨_, rfl, World.ownsRow_nil _ _ _ _, Below.refl _ _⟩
    | true =>
      rw [hc] at hg
      have hfew := hF.few' (f + 1) i hi
      have hif := hi hc
      have hc' := TreP.inT_iff.1 hc
      obtain ⟨k, rfl⟩ := Int.eq_ofNat_of_zero_le hc'.1
      have hk : k < ms.length := by omega
      have hd : places (f + 1) (ms.map (·.1)) (k : Nat) = placesTo f (ms.map (·.1)) k ms[k].1.kids := by
        have hc2 : inT (ms.map (·.1)).length (k : Int) = true := by simpa using hc
        simp only [places, hc2, if_true, nd_map hk]; rfl
      rw [hd] at hfew ⊢
      have hlen := hF.kid _ (mem_kid hk)
      have hlt : ∀ j, j < ms[k].1.kids.length → inT ms.length (ms[k].1.kids.getD j 0) = true ∧ ms[k].1.kids.getD j 0 < f := fun j hj => by
        have := hF.kid_lt hk hj
        exact ⟨TreP.inT_iff.2 (by omega), by omega⟩
      have hat := fun wr (hr : Below w.heap.size w wr) => (h.below hr).at hk
      have hn := hF.len
      have hki : (k : Int) < ms.length := by omega
      generalize hp : ms[k] = p at *
      obtain ⟨⟨op, line, col, name, num, kids⟩, s0⟩ := p
      simp only at hlen hg hlt hat hfew ⊢
      have HT := Lib.hid h
      have HLT := Lib.hid hlt
      have HAT := Lib.hid hat
      have HF := Lib.hid hF
      have HFEW := Lib.hid hfew
      obtain ⟨i0, hi0, hz0, hz1, hz2⟩ := info_parts info_int
      clear h hlt hat hi hc hc' hd hp hif hfew
      have hb1 := (Below.refl w.heap.size w).alloc (Nat.le_refl _) (.cells #[.int .i64 k] 3)
      have ho1 : Own (w.alloc (.cells #[.int .i64 k] 3)) w.heap.size (.slice (some ⟨w.heap.size, 0, none⟩) 1 1) (placesTo f (ms.map (·.1)) k (kids.take 0)) := World.ownsRow_lit w #[.int .i64 k] 1 (Nat.le_refl _) (by decide) rfl
      have H1 := Lib.hid (And.intro hb1 ho1)
      clear hb1 ho1
      go_enter Tryz.func39, Tryz.ntmps39
      go_wp2_with (go_at_call 38; refine hg.mono ?_; rintro e w' ⟨rfl, rfl⟩)
      go_loopw [6, 7] (fun ov i wr => ∃ j : Nat, i = .int .i64 j ∧ j ≤ kids.length ∧ Own wr w.heap.size ov (placesTo f (ms.map (·.1)) k (kids.take j)) ∧ Below w.heap.size w wr) (fun _ i _ => ((kids.length : Int) - intOf i).toNat)
      case atStart => exact ⟨0, rfl, by omega, H1.out.2, H1.out.1⟩
      case round =>
        obtain ⟨j, rfl, hj, hov, hr⟩ := hrel
        obtain ⟨A2, c2, rfl⟩ := hov.form
        obtain ⟨b, off, c', hv, e0, e1, e2, e3, e4, e5, hI⟩ := HAT.out wr hr
        cases hv
        clear e0 e1 e2 e3 e4
        have HOV := Lib.hid hov
        clear hov
        by_cases hjl : j < kids.length
        · have hji : (j : Int) < kids.length := by omega
          rcases hI with ⟨_, h2⟩ | ⟨b', off', c'', rfl, h2⟩
          · rw [h2] at hjl; simp at hjl
          have e6 := h2 j hjl
          clear h2
          have HC := Lib.hid (ih (by omega) (kids.getD j 0) wr (HT.out.below hr) (fun _ => (HLT.out j hjl).2))
          have hpos := places_pos (f := f) (m := ms.map (·.1)) (by simpa using (HLT.out j hjl).1) (HLT.out j hjl).2
          have HM := Lib.hid (placesTo_succ (f := f) (m := ms.map (·.1)) (i := k) hjl)
          have hle := placesTo_take f (ms.map (·.1)) k kids (j + 1)
          rw [HM.out, List.length_append] at hle
          have hle2 := HFEW.out
          generalize kids.getD j 0 = y at *
          obtain ⟨L1, hL1⟩ : ∃ L, placesTo f (ms.map (·.1)) k (kids.take j) = L := ⟨_, rfl⟩
          obtain ⟨L2, hL2⟩ : ∃ L, places f (ms.map (·.1)) y = L := ⟨_, rfl⟩
          rw [hL1] at HOV HM hle ⊢
          rw [hL2] at HC HM hpos hle
          clear hL1 hL2
          go_wp2_with (first
            | (go_at_call 39; refine HC.out.mono ?_; rintro e w' ⟨s, rfl, hs, hb⟩; obtain ⟨g2, cap2, rfl, hg2, hg3⟩ := World.ownsRow.form hs hpos; have HS := Lib.hid (And.intro hs hb); clear hs hb)
            | (at_builtin; refine wpList_append_own _ rfl _ _ 51 rfl w.heap.size 3 i0 (.int .i64 0) 1 8 Tryz.underlying51 hi0 hz0 hz1 hz2 rfl (by decide) _ L1.length _ rfl (HOV.out.below HS.out.2) ⟨g2, 0, none⟩ L2.length cap2 (L2.map (Value.int .i64)) rfl ?qc1 ?qc2 ?qc3 ?qc4 ?qc5 ?qc6 ?_))
          case qc1 => simp
          case qc2 => exact HS.out.1.news
          case qc3 => exact ints_one L2
          case qc4 => unfold maxLen; omega
          case qc5 => omega
          case qc6 => exact Nat.le_trans hr.size HS.out.2.size
          intro v' w1 hown hgrow hnil
          obtain ⟨g3, cap3, rfl, _, _⟩ := World.ownsRow.form hown (by omega)
          have hbw := (hr.trans (HS.out.2.mono hr.size)).grown hgrow (Nat.le_trans hr.size HS.out.2.size) (fun k hk => (HOV.out.lt k hk).1)
          have hj2 := Lib.hid (Own.join hown)
          clear hown hgrow hnil
          go_wp2_with fail
          go_roundw
          case rel => exact ⟨j + 1, by simp, by omega, by rw [HM.out]; exact hj2.out, hbw⟩
          case measure => simp [intOf]; omega
        · have hji : ¬ (j : Int) < kids.length := by omega
          have hje : j = kids.length := by omega
          obtain ⟨A', c'', rfl⟩ := hI.form
          rw [hje, List.take_length] at HOV
          rw [hje] at hji
          go_wp2_with fail
          go_ret
          exact ⟨_, rfl, HOV.out, hr⟩
end Go.Proofs.YtmeacgmjpjjphaaGreatDoor.Tr
namespace Go.Proofs.YtmeacgmjpjjphaaGreatDoor.Tr
open Go.RowKit
open TreP (WF nd inT deep places fits)

theorem Ints.one {w : World} {s : Value} {l : List Int} (h : Ints w s l) : s.oneCell' = true := by
  obtain ⟨A, c, rfl⟩ := h.form
  rfl
theorem rows_one {w : World} {ms : List (Nd × Value)} (h : ∀ p ∈ ms, Ints w p.2 p.1.kids) : ∀ u ∈ rowsOf ms, u.oneCell' = true := by
  intro u hu
  obtain ⟨p, hp, hu⟩ := List.mem_flatMap.1 hu
  simp only [ndCells, List.mem_cons, List.not_mem_nil, or_false] at hu
  rcases hu with rfl | rfl | rfl | rfl | rfl | rfl
  · rfl
  · rfl
  · rfl
  · rfl
  · rfl
  · exact (h p hp).one
theorem Nodes.news {w : World} {b off c : Nat} {ms : List (Nd × Value)} (h : ∀ k u, (rowsOf ms)[k]? = some u → w.cell? ⟨b, off + k, none⟩ = some u) : ∀ j u, (rowsOf ms)[j]? = some u → w.cell? ((⟨b, off, none⟩ : Addr).add j) = some u := by
  intro j u hu
  rw [add_at]
  exact h j u hu
theorem rowsOf_one (x : Nd) (s : Value) : rowsOf [(x, s)] = ndCells x s := by simp [rowsOf]
theorem nd_one (x : Nd) (s : Value) (h : s.oneCell' = true) : ∀ u ∈ ndCells x s, u.oneCell' = true := by
  intro u hu
  simp only [ndCells, List.mem_cons, List.not_mem_nil, or_false] at hu
  rcases hu with rfl | rfl | rfl | rfl | rfl | rfl
  · rfl
  · rfl
  · rfl
  · rfl
  · rfl
  · exact h
theorem owns_nodes {w : World} {B : Nat} {v : Value} {ms : List (Nd × Value)} (h : w.ownsRow B 53 6 v ms.length (rowsOf ms)) (hk : ∀ p ∈ ms, Ints w p.2 p.1.kids) : Nodes w v ms := by
  refine ⟨?_, hk⟩
  rcases h.2 with ⟨rfl, h0⟩ | ⟨g, cap, cur, rfl, hg, hh, r⟩
  · exact .inl ⟨⟨none, 0, rfl⟩, List.eq_nil_of_length_eq_zero h0⟩
  · refine .inr ⟨g, 0, cap, rfl, fun k u hu => ?_⟩
    have hk : k < ms.length * 6 := by
      have := (List.getElem?_eq_some_iff.1 hu).1
      rwa [rowsOf_length] at this
    rw [Nat.zero_add, World.ownsRow.cellAt h k hk, hu]
theorem owns_case {w : World} {B : Nat} {v : Value} {ms : List (Nd × Value)} (h : w.ownsRow B 53 6 v ms.length (rowsOf ms)) :
    (v = .slice none 0 0 ∧ ms = []) ∨ ∃ b off c, v = .slice (some ⟨b, off, none⟩) ms.length c ∧ ∀ k u, (rowsOf ms)[k]? = some u → w.cell? ⟨b, off + k, none⟩ = some u := by
  rcases h.2 with ⟨rfl, h0⟩ | ⟨g, cap, cur, rfl, hg, hh, r⟩
  · exact .inl ⟨rfl, List.eq_nil_of_length_eq_zero h0⟩
  · refine .inr ⟨g, 0, cap, rfl, fun k u hu => ?_⟩
    have hk : k < ms.length * 6 := by
      have := (List.getElem?_eq_some_iff.1 hu).1
      rwa [rowsOf_length] at this
    rw [Nat.zero_add, World.ownsRow.cellAt h k hk, hu]
theorem owns_form {w : World} {B : Nat} {e : TypeId} {size n : Nat} {v : Value} {xs : List Value} (h : w.ownsRow B e size v n xs) : ∃ A c, v = .slice A n c := by
  rcases h.2 with ⟨rfl, rfl⟩ | ⟨g, cap, cur, rfl, _⟩
  · exact ⟨_, _, rfl⟩
  · exact ⟨_, _, rfl⟩
theorem news_block {w : World} {b : Nat} {cs : List Value} {t : TypeId} (h : w.heap[b]? = some (.cells cs.toArray t)) : ∀ j u, cs[j]? = some u → w.cell? ((⟨b, 0, none⟩ : Addr).add j) = some u :=
  World.news_of_block (cs := cs.toArray) h

def RefAddPost (w : World) (V : Value) (ms : List (Nd × Value)) (x : Nd) (s : Value) (e : Ending) (w' : World) : Prop :=
  Below w.heap.size w w' ∧ ((fits ms.length x = true ∧ ∃ V', e = .returned (.tuple #[V', .int .i64 0]) ∧ w'.ownsRow w.heap.size 53 6 V' (ms ++ [(x, s)]).length (rowsOf (ms ++ [(x, s)]))) ∨
    (fits ms.length x = false ∧ e = .returned (.tuple #[V, .int .i64 1])))
theorem inT_false {n : Nat} {i : Int} (h : ¬ (0 ≤ i ∧ i < n)) : inT n i = false := by
  cases hc : inT n i with
  | false => rfl
  | true => exact absurd (TreP.inT_iff.1 hc) h
theorem all_getD {l : List Int} {p : Int → Bool} (h : ∀ j, j < l.length → p (l.getD j 0) = true) : l.all p = true := by
  rw [List.all_eq_true]
  intro x hx
  obtain ⟨j, hj, rfl⟩ := List.getElem_of_mem hx
  have := h j hj
  simpa [List.getD, hj] using this
theorem all_false {l : List Int} {p : Int → Bool} {j : Nat} (hj : j < l.length) (h : p (l.getD j 0) = false) : l.all p = false := by
  rw [List.all_eq_false]
  refine ⟨l[j], List.getElem_mem hj, ?_⟩
  simp only [List.getD, List.getElem?_eq_getElem hj, Option.getD_some] at h
  simp [h]

set_option maxRecDepth 100000 in
set_option maxHeartbeats 8000000 in
theorem refAdd_in {w : World} {V s : Value} {ms : List (Nd × Value)} {x : Nd} (hV : Nodes w V ms) (hs : Ints w s x.kids) (hm : ms.length ≤ 2000) (hk : x.kids.length ≤ 2000) (hO : ∃ B', w.ownsRow B' 53 6 V ms.length (rowsOf ms)) :
    Calls Tryz.prog 37 #[V, ndV x s] w (RefAddPost w V ms x s) := by
  obtain ⟨A, c, rfl⟩ := hV.form
  obtain ⟨A0, c0, rfl⟩ := hs.form
  obtain ⟨op, line, col, name, num, kids⟩ := x
  simp only at hs hk
  unfold ndV
  simp only
  have hb0 := (Below.refl w.heap.size w).alloc (Nat.le_refl _) (.cells #[.string op, .int .i64 line, .int .i64 col, .string name, .int .i64 num, .slice A0 kids.length c0] 53)
  have f0 := last w (.cells #[.string op, .int .i64 line, .int .i64 col, .string name, .int .i64 num, .slice A0 kids.length c0] 53)
  have hsz : (w.alloc (.cells #[.string op, .int .i64 line, .int .i64 col, .string name, .int .i64 num, .slice A0 kids.length c0] 53)).heap.size = w.heap.size + 1 := by simp
  have HS := Lib.hid (hs.below hb0)
  have HV := Lib.hid (hV.below hb0)
  obtain ⟨B', hO⟩ := hO
  have HCASE := Lib.hid (owns_case (owns_below hO hb0))
  clear hO
  obtain ⟨n0, n1, n2, n3, n4, n5⟩ := cellsOf6 f0
  have hn4 : decide (4000 ≤ (ms.length : Int)) = false := decide_eq_false (by omega)
  obtain ⟨i0, hi0, hz0, hz1, hz2⟩ := info_parts info_node
  clear hs hV
  go_enter Tryz.func37, Tryz.ntmps37
  go_wp2_with fail
  generalize w.alloc (.cells #[.string op, .int .i64 line, .int .i64 col, .string name, .int .i64 num, .slice A0 kids.length c0] 53) = W1 at *
  go_loopw [6] (fun i wr => ∃ j : Nat, i = .int .i64 j ∧ j ≤ kids.length ∧ Hid (∀ j', j' < j → inT ms.length (kids.getD j' 0) = true) ∧ W1 = wr) (fun i _ => ((kids.length : Int) - intOf i).toNat)
  case atStart => exact ⟨0, rfl, by omega, Lib.hid (fun j' h => by omega), rfl⟩
  case round =>
    obtain ⟨j, rfl, hj, HA, rfl⟩ := hrel
    by_cases hjl : j < kids.length
    · have hji : (j : Int) < kids.length := by omega
      rcases HS.out with ⟨_, h2⟩ | ⟨b', off', c'', h1, h2⟩
      · rw [h2] at hjl; simp at hjl
      cases h1
      have e6 := h2 j hjl
      clear h2
      obtain ⟨y, hy⟩ : ∃ y, kids.getD j 0 = y := ⟨_, rfl⟩
      rw [hy] at e6
      have HY := Lib.hid hy; clear hy
      by_cases hy0 : y < 0
      · go_wp2_with fail
        exact bodyPost_ret (v := .tuple #[.slice A ms.length c, .int .i64 1]) (by simp [results, Tryz.results37, go_sem]) rfl ⟨hb0, .inr ⟨all_false hjl (by rw [HY.out]; exact inT_false (by omega)), rfl⟩⟩
      · have hy1 : decide (y < 0) = false := decide_eq_false hy0
        by_cases hyn : (ms.length : Int) ≤ y
        · go_wp2_with fail
          exact bodyPost_ret (v := .tuple #[.slice A ms.length c, .int .i64 1]) (by simp [results, Tryz.results37, go_sem]) rfl ⟨hb0, .inr ⟨all_false hjl (by rw [HY.out]; exact inT_false (by omega)), rfl⟩⟩
        · have hyn' : y < ms.length := by omega
          go_wp2_with fail
          go_roundw
          case rel =>
            refine ⟨j + 1, by simp, by omega, Lib.hid (fun j' h => ?_), by simp⟩
            by_cases e : j' = j
            · rw [e, HY.out]; exact TreP.inT_iff.2 (by omega)
            · exact HA.out j' (by omega)
          case measure => simp [intOf]; omega
    · have hji : ¬ (j : Int) < kids.length := by omega
      have hje : j = kids.length := by omega
      have hfit : kids.all (inT ms.length) = true := all_getD (fun j' h => HA.out j' (by omega))
      have hfit' : fits ms.length ⟨op, line, col, name, num, kids⟩ = true := hfit
      have HFIT := Lib.hid hfit'; clear hfit hfit' HA
      have hown0 := World.ownsRow_made (e := 53) (size := 6) (base := w.heap.size) W1 #[] 0 hb0.size (by decide) rfl
      rw [hsz] at hown0
      have f0' := f0
      rcases HCASE.out with ⟨hv, hms⟩ | ⟨b, off, c', hv, h2⟩
      · subst hms
        cases hv
        have hlast := last (W1.alloc (.cells #[] 53)) (.cells #[.string op, .int .i64 line, .int .i64 col, .string name, .int .i64 num, .slice A0 kids.length c0] 53)
        have hsz2 : (W1.alloc (.cells #[] 53)).heap.size = w.heap.size + 1 + 1 := by simp [hsz]
        rw [hsz2] at hlast
        have HLAST := Lib.hid (news_block (cs := ndCells ⟨op, line, col, name, num, kids⟩ (.slice A0 kids.length c0)) hlast)
        have HB2 := Lib.hid ((hb0.alloc hb0.size (.cells #[] 53)).alloc (by rw [hsz2]; omega) (.cells #[.string op, .int .i64 line, .int .i64 col, .string name, .int .i64 num, .slice A0 kids.length c0] 53))
        have m0 := fun o => cell_alloc n0 o
        have m1 := fun o => cell_alloc n1 o
        have m2 := fun o => cell_alloc n2 o
        have m3 := fun o => cell_alloc n3 o
        have m4 := fun o => cell_alloc n4 o
        have m5 := fun o => cell_alloc n5 o
        clear hlast
        go_wp2_with (first
          | (at_builtin; refine wpList_append_own_none rfl _ _ 48 rfl w.heap.size 53 i0 6 Tryz.underlying48 hi0 _ 0 [] rfl hown0 rfl ?_)
          | (at_builtin; refine wpList_append_own _ rfl _ _ 48 rfl w.heap.size 53 i0 (.agg #[.string .empty, .int .i64 0, .int .i64 0, .string .empty, .int .i64 0, .slice none 0 0]) 6 80 Tryz.underlying48 hi0 hz0 hz1 hz2 rfl (by decide) _ 0 [] rfl (hown0.alloc _) ⟨w.heap.size + 1 + 1, 0, none⟩ 1 1 (ndCells ⟨op, line, col, name, num, kids⟩ (.slice A0 kids.length c0)) rfl ?qd1 ?qd2 ?qd3 ?qd4 ?qd5 ?qd6 ?_))
        case qd1 => rfl
        case qd2 => first | exact HLAST.out | exact fun j u h => h
        case qd3 => exact nd_one _ _ rfl
        try (case qd4 => decide)
        try (case qd5 => decide)
        case qd6 => first | omega | (simp [hsz]; omega)
        intro v3 w3 hown3 hgrow3 hnil3
        have hbw := HB2.out.grown hgrow3 (by simp [hsz]; try omega) (fun k hk => by have e := (hown0.lt k hk).1; exact e)
        obtain ⟨A3, c3, rfl⟩ := owns_form hown3
        have HO3 := Lib.hid (And.intro hown3 hbw)
        clear hown3 hgrow3 hnil3 hbw m0 m1 m2 m3 m4 m5
        go_wp2_with fail
        exact bodyPost_ret (v := .tuple #[.slice A3 1 c3, .int .i64 0]) (by simp [results, Tryz.results37, go_sem]) rfl ⟨HO3.out.2, .inl ⟨HFIT.out, _, rfl, by have := HO3.out.1; simpa [rowsOf, ndCells] using this⟩⟩
      · cases hv
        have HN := Lib.hid (Nodes.news (c := c) h2)
        clear h2
        go_wp2_with (at_builtin; refine wpList_append_own _ rfl _ _ 48 rfl w.heap.size 53 i0 (.agg #[.string .empty, .int .i64 0, .int .i64 0, .string .empty, .int .i64 0, .slice none 0 0]) 6 80 Tryz.underlying48 hi0 hz0 hz1 hz2 rfl (by decide) _ 0 [] rfl hown0 ⟨b, off, none⟩ ms.length c (rowsOf ms) rfl ?qc1 ?qc2 ?qc3 ?qc4 ?qc5 ?qc6 ?_)
        case qc1 => exact rowsOf_length ms
        case qc2 => exact fun j u hu => cell_alloc (by have := HN.out j u hu; rwa [add_at] at this) _
        case qc3 => exact rows_one HV.out.2
        case qc4 => unfold maxLen; omega
        case qc5 => omega
        case qc6 => omega
        intro v2 w2 hown2 hgrow2 hnil2
        have hbw : Below W1.heap.size W1 w2 := ((Below.refl W1.heap.size W1).alloc (Nat.le_refl _) (.cells #[] 53)).grown hgrow2 (by simp) (fun k hk => by rw [hsz]; exact Nat.le_of_eq (by simpa [Value.ownBlock] using hk))
        obtain ⟨A2, c2, rfl⟩ := owns_form hown2
        obtain ⟨m0, m1, m2, m3, m4, m5⟩ := cellsOf6 ((hbw.block _ (by omega)).trans f0')
        have hs2 := hbw.size
        have hlast := last w2 (.cells #[.string op, .int .i64 line, .int .i64 col, .string name, .int .i64 num, .slice A0 kids.length c0] 53)
        have HLAST := Lib.hid (news_block (cs := ndCells ⟨op, line, col, name, num, kids⟩ (.slice A0 kids.length c0)) hlast)
        have HB2 := Lib.hid ((hb0.trans (hbw.mono hb0.size)).alloc (by omega) (.cells #[.string op, .int .i64 line, .int .i64 col, .string name, .int .i64 num, .slice A0 kids.length c0] 53))
        have HO2 := Lib.hid hown2
        clear hlast hown2 hgrow2 hnil2 hbw
        go_wp2_with (at_builtin; go_loud (refine wpList_append_own _ rfl _ _ 48 rfl w.heap.size 53 i0 (.agg #[.string .empty, .int .i64 0, .int .i64 0, .string .empty, .int .i64 0, .slice none 0 0]) 6 80 Tryz.underlying48 hi0 hz0 hz1 hz2 rfl (by decide) _ ms.length (rowsOf ms) rfl (HO2.out.alloc _) ⟨w2.heap.size, 0, none⟩ 1 1 (ndCells ⟨op, line, col, name, num, kids⟩ (.slice A0 kids.length c0)) rfl ?qe1 ?qe2 ?qe3 ?qe4 ?qe5 ?qe6 ?_))
        case qe1 => rfl
        case qe2 => first | exact HLAST.out | exact fun j u h => h
        case qe3 => exact nd_one _ _ rfl
        case qe4 => unfold maxLen; omega
        case qe5 => omega
        case qe6 => simp; omega
        intro v3 w3 hown3 hgrow3 hnil3
        have hbw := HB2.out.grown hgrow3 (by simp; omega) (fun k hk => (HO2.out.lt k hk).1)
        obtain ⟨A3, c3, rfl⟩ := owns_form hown3
        have HO3 := Lib.hid (And.intro hown3 hbw)
        clear hown3 hgrow3 hnil3 hbw
        go_wp2_with fail
        exact bodyPost_ret (v := .tuple #[.slice A3 (ms.length + 1) c3, .int .i64 0]) (by simp [results, Tryz.results37, go_sem]) rfl ⟨HO3.out.2, .inl ⟨HFIT.out, _, rfl, by rw [rowsOf_append, rowsOf_one, List.length_append]; exact HO3.out.1⟩⟩
end Go.Proofs.YtmeacgmjpjjphaaGreatDoor.Tr
