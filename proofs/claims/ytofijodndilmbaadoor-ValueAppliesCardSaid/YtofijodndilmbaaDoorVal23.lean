/- The law's list of values, as the document has them. -/
import Derived.Test.YtofijodndilmbaaDoorVal22
set_option linter.unusedVariables false
set_option linter.unusedSimpArgs false
namespace Go.Proofs.YtofijodndilmbaaDoor
open Go.RowKit

/-- How far the law's list has come: i values are in the row mv. -/
structure MAt (w : World) (ks : List V) (i : Nat) (mv : Value) (sm : Nat → Value) (wr : World) : Prop where
  below : Below w.heap.size w wr
  row : wr.ownsRow w.heap.size 30 3 mv i (rowsN (rowV ks sm) i)
  kids : ∀ j, j < i → AtP (fun k => w.heap.size ≤ k ∧ mv.ownBlock ≠ some k) wr (ks.getD j default) (sm j)
theorem MAt.push {w : World} {ks : List V} {i : Nat} {A2 : Option Addr} {k2 : Nat} {sm : Nat → Value} {wr wx w5 wa : World} {o2 : Obj} {s5 : Value} {g' cap' : Nat} (h : MAt w ks i (.slice A2 i k2) sm wr)
    (hbx : Below wr.heap.size wr wx) (hb5 : Below wx.heap.size wx w5) (hp5 : AtP (fun k => wx.heap.size ≤ k) w5 (ks.getD i default) s5)
    (hown : wa.ownsRow w.heap.size 30 3 (.slice (some ⟨g', 0, none⟩) (i + 1) cap') (i + 1) (rowsN (rowV ks sm) i ++ [.string (ks.getD i default).op, .int .i64 (ks.getD i default).num, s5]))
    (hgrow : (w5.alloc o2).grownBy wa (Value.slice A2 i k2).ownBlock) (hat : (Value.slice A2 i k2).ownBlock = some g' ∨ g' = (w5.alloc o2).heap.size) :
    MAt w ks (i + 1) (.slice (some ⟨g', 0, none⟩) (i + 1) cap') (fun j => if j = i then s5 else sm j) wa := by
  have hsx := hbx.size
  have hs5 := hb5.size
  have hs6 : (w5.alloc o2).heap.size = w5.heap.size + 1 := by simp
  have hsa : (w5.alloc o2).heap.size ≤ wa.heap.size := hgrow.size
  have hsw := h.below.size
  have old : ∀ k, k < wr.heap.size → (Value.slice A2 i k2).ownBlock ≠ some k → wa.heap[k]? = wr.heap[k]? := fun k hk hn => by
    rw [hgrow.block k (by omega) (fun e => hn e.symm), Below.heap_alloc _ _ _ (by omega), hb5.block k (by omega)]
    exact hbx.block k hk
  refine ⟨?_, ?_, ?_⟩
  · have h5 : Below w.heap.size w (w5.alloc o2) := ((h.below.trans (hbx.mono (by omega))).trans (hb5.mono (by omega))).alloc (by omega) o2
    exact h5.grown hgrow (by omega) fun k hk => (row_lt h.row hk).1
  · rw [rowsN_succ]
    have e1 : rowsN (rowV ks (fun j => if j = i then s5 else sm j)) i = rowsN (rowV ks sm) i := by
      have : ∀ n, n ≤ i → rowsN (rowV ks (fun j => if j = i then s5 else sm j)) n = rowsN (rowV ks sm) n := by
        intro n
        induction n with
        | zero => intro _; rfl
        | succ n ihn =>
          intro hn
          rw [rowsN_succ, rowsN_succ, ihn (by omega)]
          simp [rowV, show ¬ n = i by omega]
      exact this i (Nat.le_refl _)
    have e2 : rowV ks (fun j => if j = i then s5 else sm j) i = [.string (ks.getD i default).op, .int .i64 (ks.getD i default).num, s5] := by simp [rowV]
    rw [e1, e2]
    exact hown
  · intro j hj
    by_cases e : j = i
    · subst e
      simp only [if_true]
      refine hp5.step (by omega) fun k hk hP => ?_
      have hne : (Value.slice A2 j k2).ownBlock ≠ some k := fun e => by
        have := (row_lt h.row e).2
        omega
      refine ⟨?_, by omega, ?_⟩
      · rw [hgrow.block k (by omega) (fun e => hne e.symm), Below.heap_alloc _ _ _ hk]
      · intro e'
        have e'' : g' = k := by simpa [Value.ownBlock] using e'
        rcases hat with hh | hh
        · exact hne (by rw [hh, e''])
        · omega
    · simp only [if_neg e]
      refine (h.kids j (by omega)).step (by omega) fun k hk hP => ?_
      refine ⟨old k hk hP.2, hP.1, ?_⟩
      intro e'
      have e'' : g' = k := by simpa [Value.ownBlock] using e'
      rcases hat with hh | hh
      · exact hP.2 (by rw [hh, e''])
      · omega
theorem MAt.list {w : World} {ks : List V} {A2 : Option Addr} {k2 : Nat} {sm : Nat → Value} {wr : World} (h : MAt w ks ks.length (.slice A2 ks.length k2) sm wr) : ListAt wr ks A2 sm := by
  refine ⟨?_, fun j hj => (h.kids j hj).at⟩
  by_cases h0 : ks.length = 0
  · exact .inl h0
  · obtain ⟨g, cap, e, _, _⟩ := World.ownsRow.form h.row (by omega)
    injection e with e1 _ e3
    subst e1 e3
    refine .inr ⟨g, 0, rfl, fun i hi => ?_⟩
    rw [Nat.zero_add]
    have a0 := (World.ownsRow.cellAt h.row (i * 3 + 0) (by omega)).trans (rowsN_get (rowV_length ks sm) (j := 0) hi (by decide))
    have a1 := (World.ownsRow.cellAt h.row (i * 3 + 1) (by omega)).trans (rowsN_get (rowV_length ks sm) (j := 1) hi (by decide))
    have a2 := (World.ownsRow.cellAt h.row (i * 3 + 2) (by omega)).trans (rowsN_get (rowV_length ks sm) (j := 2) hi (by decide))
    exact ⟨a0, a1, a2⟩
end Go.Proofs.YtofijodndilmbaaDoor
