/- What the loop has seen. -/
import Derived.Test.YtnaednfdaaiciaaTre9
import Derived.Maps.OwnIn
set_option linter.unusedVariables false
set_option linter.unusedSimpArgs false
namespace Go.Proofs.Ytnaednfdaaiciaa
open Go.RowKit Go.Shelf
open TreP (WF nd inT deep places fits addN small)

/-- The list that has been seen, its slice in box S, its row from S + 3 on. -/
def SeenAt (S : Nat) (sq : List Int) (W : World) : Prop := ∃ sv, W.heap[S]? = some (.cells #[sv] 31) ∧ Own W (S + 3) sv sq ∧ S + 3 ≤ W.heap.size
/-- The loop's own: that box, that row. -/
def ownS (S : Nat) (W : World) (k : Nat) : Prop := k = S ∨ ∃ sv, W.heap[S]? = some (.cells #[sv] 31) ∧ sv.ownBlock = some k
theorem cells_inj {a b : Value} {t t' : TypeId} (h : some (Obj.cells #[a] t) = some (Obj.cells #[b] t')) : a = b := by simp at h; exact h.1
section
variable {S : Nat} {sq : List Int} {W W' : World}
theorem SeenAt.grow (h : SeenAt S sq W) (hb : Below W.heap.size W W') : SeenAt S sq W' := by
  obtain ⟨sv, h1, h2, h3⟩ := h
  exact ⟨sv, (hb.block S (heap_lt h1)).trans h1, h2.below hb, Nat.le_trans h3 hb.size⟩
theorem SeenAt.big (h : SeenAt S sq W) : S + 3 ≤ W.heap.size := by
  obtain ⟨sv, h1, h2, h3⟩ := h
  exact h3
theorem SeenAt.lt (h : SeenAt S sq W) {k : Nat} (ho : ownS S W k) : k < W.heap.size := by
  obtain ⟨sv, h1, h2, _⟩ := h
  rcases ho with rfl | ⟨sv', h3, h4⟩
  · exact heap_lt h1
  · obtain rfl : sv' = sv := cells_inj (h3.symm.trans h1)
    exact (h2.lt k h4).2
theorem SeenAt.own_grow (h : SeenAt S sq W) (hb : Below W.heap.size W W') {k : Nat} (ho : ownS S W' k) : ownS S W k := by
  obtain ⟨sv, h1, h2, _⟩ := h
  rcases ho with rfl | ⟨sv', h3, h4⟩
  · exact .inl rfl
  · rw [hb.block S (heap_lt h1)] at h3
    exact .inr ⟨sv', h3, h4⟩
theorem own_put {L : Nat} (hL : L ≠ S) (o : Obj) {k : Nat} (ho : ownS S (W.putObj L o) k) : ownS S W k := by
  rcases ho with rfl | ⟨sv', h3, h4⟩
  · exact .inl rfl
  · rw [World.putObj_heap_other (fun e => hL e.symm)] at h3
    exact .inr ⟨sv', h3, h4⟩
theorem SeenAt.put (h : SeenAt S sq W) {L : Nat} {o : Obj} (ho : W.heap[L]? = some o) (hc : o.isCells = false) (o' : Obj) : SeenAt S sq (W.putObj L o') := by
  obtain ⟨sv, h1, h2, h3⟩ := h
  have hS : S ≠ L := fun e => by rw [← e, h1] at ho; cases ho; cases hc
  refine ⟨sv, (World.putObj_heap_other hS).trans h1, owns_block h2 fun g hg => World.putObj_heap_other fun e => ?_, by rw [World.putObj_size]; exact h3⟩
  obtain ⟨c, hcc⟩ := owns_elem h2 hg
  rw [e, ho] at hcc
  cases hcc
  cases hc
theorem cells_put {L b : Nat} {o : Obj} {cs : Array Value} {t : TypeId} (h : W.heap[b]? = some (.cells cs t)) (ho : W.heap[L]? = some o) (hc : o.isCells = false) (o' : Obj) : (W.putObj L o').heap[b]? = some (.cells cs t) :=
  (World.putObj_heap_other (fun e => by rw [← e, h] at ho; cases ho; cases hc)).trans h
theorem Ints.put {s : Value} {l : List Int} (h : Ints W s l) {L : Nat} {o : Obj} (ho : W.heap[L]? = some o) (hc : o.isCells = false) (o' : Obj) : Ints (W.putObj L o') s l := by
  rcases h with h | ⟨b, off, c, h1, h2⟩
  · exact .inl h
  · refine .inr ⟨b, off, c, h1, fun i hi => ?_⟩
    have h3 := h2 i hi
    exact (World.cell?_of_block (World.putObj_heap_other (fun e => by
      have h4 := h3
      unfold World.cell? at h4
      rw [e, ho] at h4
      cases o <;> simp_all [Obj.isCells]))).trans h3
theorem KidsOut.put {s : Value} {l : List Int} (h : KidsOut (ownS S) W s l) {L : Nat} {o : Obj} (hL : L ≠ S) (ho : W.heap[L]? = some o) (hc : o.isCells = false) (o' : Obj) : KidsOut (ownS S) (W.putObj L o') s l := by
  refine ⟨owns_block h.1 fun g hg => World.putObj_heap_other fun e => ?_, fun g hg hp => h.2 g hg (own_put hL _ hp)⟩
  obtain ⟨c, hcc⟩ := owns_elem h.1 hg
  rw [e, ho] at hcc
  cases hcc
  cases hc
theorem SeenAt.old (h : SeenAt S sq W) {k : Nat} (ho : ownS S W k) : S ≤ k := by
  obtain ⟨sv, h1, h2, _⟩ := h
  rcases ho with rfl | ⟨sv', h3, h4⟩
  · exact Nat.le_refl _
  · obtain rfl : sv' = sv := cells_inj (h3.symm.trans h1)
    have := (h2.lt k h4).1
    omega
theorem SeenAt.not_node (h : SeenAt S sq W) {k : Nat} {cs : Array Value} (hk : W.heap[k]? = some (.cells cs 33)) : ¬ ownS S W k := by
  obtain ⟨sv, h1, h2, _⟩ := h
  rintro (rfl | ⟨sv', h3, h4⟩)
  · rw [h1] at hk; simp at hk
  · obtain rfl : sv' = sv := cells_inj (h3.symm.trans h1)
    exact far_block h2 hk (by decide) h4
theorem keeps_below (hb : Below W.heap.size W W') : KeepsOthers W W' := ⟨hb.size, fun k o h _ => (hb.block k (heap_lt h)).trans h⟩
theorem keeps_grown {row : Option Nat} (hg : W.grownBy W' row) {B : Nat} {e : TypeId} {size n : Nat} {v : Value} {xs : List Value} (h : W.ownsRow B e size v n xs) (hr : row = v.ownBlock) : KeepsOthers W W' :=
  KeepsOthers.of_grownBy hg fun j o hj ho => by
    obtain ⟨c, hc⟩ := owns_elem h (hr ▸ hj)
    rw [hc] at ho
    cases ho
    rfl
/-- One place more. -/
theorem SeenAt.push {w1 : World} {sv v' : Value} {i : Int} (h1 : W.heap[S]? = some (.cells #[sv] 31)) (h2 : Own W (S + 3) sv sq) (hS : S + 3 ≤ W.heap.size)
    (hown : w1.ownsRow (S + 3) 3 1 v' (sq.length + 1) (sq.map (Value.int .i64) ++ [.int .i64 i])) (hgrow : (W.alloc (.cells #[.int .i64 i] 3)).grownBy w1 sv.ownBlock)
    (hat : v'.ownBlock = sv.ownBlock ∨ v'.ownBlock = some (W.alloc (.cells #[.int .i64 i] 3)).heap.size) :
    SeenAt S (sq ++ [i]) (w1.setCell ⟨S, 0, none⟩ v') ∧ KeepsOthers W (w1.setCell ⟨S, 0, none⟩ v') ∧ W.heap.size ≤ (w1.setCell ⟨S, 0, none⟩ v').heap.size ∧
      ∀ k, k < W.heap.size → ¬ ownS S W k → (w1.setCell ⟨S, 0, none⟩ v').heap[k]? = W.heap[k]? ∧ ¬ ownS S (w1.setCell ⟨S, 0, none⟩ v') k := by
  have hsz : (W.alloc (.cells #[.int .i64 i] 3)).heap.size = W.heap.size + 1 := by simp
  have hfar : sv.ownBlock ≠ some S := far_block h2 h1 (by decide)
  have hS1 : w1.heap[S]? = some (.cells #[sv] 31) := by
    rw [hgrow.block S (by omega) (fun e => hfar e.symm), Below.heap_alloc _ _ _ (by omega)]
    exact h1
  have hS3 := heap_set0 hS1 v'
  have hne : ∀ g, v'.ownBlock = some g → g ≠ S := fun g hg e => far_block hown hS1 (by decide) (by rw [hg, e])
  have hk := keeps_grown hgrow (owns_below h2 ((Below.refl W.heap.size W).alloc (Nat.le_refl _) _)) rfl
  refine ⟨⟨v', hS3, owns_block (Own.join (k := [i]) hown) (fun g hg => Below.heap_setCell _ _ _ _ (hne g hg)), by have := hgrow.size; simp at this ⊢; omega⟩, ((KeepsOthers.alloc W _).trans hk).trans (KeepsOthers.setCell _ _ _), by have := hgrow.size; simp at this ⊢; omega, fun k hkk hno => ⟨?_, ?_⟩⟩
  · have hkS : k ≠ S := fun e => hno (.inl e)
    have hks : some k ≠ sv.ownBlock := fun e => hno (.inr ⟨sv, h1, e.symm⟩)
    rw [Below.heap_setCell _ _ _ _ hkS, hgrow.block k (by omega) hks, Below.heap_alloc _ _ _ hkk]
  · rintro (e | ⟨sv', h3, h4⟩)
    · exact hno (.inl e)
    · obtain rfl : sv' = v' := cells_inj (h3.symm.trans hS3)
      rcases hat with hat | hat
      · exact hno (.inr ⟨sv, h1, hat ▸ h4⟩)
      · rw [hat] at h4
        cases h4
        omega
end
end Go.Proofs.Ytnaednfdaaiciaa
