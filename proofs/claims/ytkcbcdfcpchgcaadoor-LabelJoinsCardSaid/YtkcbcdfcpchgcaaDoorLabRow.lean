/- How LabelJoins' arguments read. -/
import Derived.Test.YtkcbcdfcpchgcaaDoorOrdRow
import Derived.Lib.SmallJoins
set_option linter.unusedVariables false
set_option linter.unusedSimpArgs false
namespace Go.Proofs.YtkcbcdfcpchgcaaDoor
open Go.ChangeShapes Go.WideShapes Go.ChangeAt Go.RowKit Go.Deep

theorem cellsLabel : Tryd.prog.cellsOf 53 = 2 := by kernel_rfl

/-- A slice of two numbers each, by its one cell. -/
theorem pairs_of {H : Type} {enc : TypeId × Value → H} {W : World} {T E : TypeId} {fuel : Nat} {v : Value} {x : DataW H × List MemPlace} (hT : Tryd.prog.underlying T = some (.slice E)) (hE : Tryd.prog.cellsOf E = 2)
    (hr : ∀ (n : Nat) (c0 c1 : Value) (y : DataW H × List MemPlace), DataW.trod enc Tryd.prog W 0 (fun _ => true) true n E [c0, c1] = some y → ∃ a b : Int, c0 = .int .i64 a ∧ c1 = .int .i64 b)
    (hf : DataW.trod enc Tryd.prog W 0 (fun _ => true) true fuel T [v] = some x) : ∃ (A : Option Addr) (cap : Nat) (l : List (Int × Int)), v = .slice A l.length cap ∧ l.length ≤ 9223372036854775807 ∧ PairsAt W A l := by
  rcases open_slice hT hf with ⟨hcs, _⟩ | ⟨a', len', cap', m, n, D, Pl, hcs, _, hlc, hm, hmm, _, hx⟩
  · simp at hcs
    subst hcs
    exact ⟨none, 0, [], rfl, by simp, .inl rfl⟩
  · simp at hcs
    subst hcs
    simp at hmm
    subst hmm
    rw [hE] at hx
    have one : ∀ i, i < len' → ∃ xy : Int × Int, W.cell? (a'.add (i * 2)) = some (.int .i64 xy.1) ∧ W.cell? ((a'.add (i * 2)).add 1) = some (.int .i64 xy.2) := fun i hi => by
      obtain ⟨cs, h1, h2⟩ := hx i (by omega)
      obtain ⟨_, hl, hc⟩ := World.cells?_some h1
      match cs, hl with
      | [c0, c1], _ =>
        obtain ⟨x, y, rfl, rfl⟩ := hr _ _ _ _ h2
        exact ⟨(x, y), by simpa [Addr.add] using hc 0 (by omega), by simpa using hc 1 (by omega)⟩
    obtain ⟨f, hf⟩ := choose_lt one
    refine ⟨some a', m, (List.range len').map f, by simp, by simp; unfold maxLen at hm; omega, ?_⟩
    by_cases h0 : len' = 0
    · subst h0; exact .inl rfl
    · refine .inr ?_
      obtain ⟨b, off, spot⟩ := a'
      obtain rfl : spot = none := by
        have := World.cell?_spot (hf 0 (by omega)).1
        simpa [Addr.add] using this
      refine ⟨b, off, rfl, fun i hi => ?_⟩
      have hi' : i < len' := by simpa using hi
      have := hf i hi'
      rw [add_at, add_at] at this
      simpa [List.getD, hi'] using this

theorem pair_read {H : Type} {enc : TypeId × Value → H} {W : World} (n : Nat) (c0 c1 : Value) (y : DataW H × List MemPlace) (h2 : DataW.trod enc Tryd.prog W 0 (fun _ => true) true n 63 [c0, c1] = some y) : ∃ a b : Int, c0 = .int .i64 a ∧ c1 = .int .i64 b := by
  obtain ⟨xs, m, rfl, _, hlen, hxs, hall⟩ := DataW.trod_array Tryd.underlying63 h2
  have e0 := hall 0 (by omega)
  have e1 := hall 1 (by omega)
  rw [cellsInt] at e0 e1
  rw [List.getElem?_eq_getElem (by omega)] at e0 e1
  obtain ⟨x, k0, _⟩ := DataW.trod_int Tryd.underlying3 e0
  obtain ⟨y, k1, _⟩ := DataW.trod_int Tryd.underlying3 e1
  simp at k0 k1
  exact ⟨x, y, k0, k1⟩

theorem label_read {H : Type} {enc : TypeId × Value → H} {W : World} (n : Nat) (c0 c1 : Value) (y : DataW H × List MemPlace) (h2 : DataW.trod enc Tryd.prog W 0 (fun _ => true) true n 53 [c0, c1] = some y) : ∃ a b : Int, c0 = .int .i64 a ∧ c1 = .int .i64 b := by
  obtain ⟨y0, y1, m, rfl, _, e0, e1⟩ := trod_struct2 Tryd.underlying53 h2
  simp only [cellsInt] at e0 e1
  obtain ⟨x, k0, _⟩ := DataW.trod_int Tryd.underlying3 e0
  obtain ⟨y, k1, _⟩ := DataW.trod_int Tryd.underlying3 e1
  simp at k0 k1
  exact ⟨x, y, k0, k1⟩

/-- A slice of labels that came in. -/
theorem open_labels {H : Type} {enc : TypeId × Value → H} {W : World} {b0 : Nat} {v : Value} {d : DataW H} {p : List MemPlace} (hv : Value.okWide Tryd.prog W .any b0 45 v)
    (h : DataW.Trod enc Tryd.prog W 0 (fun _ => true) true 45 v d p) : ∃ (A : Option Addr) (cap : Nat) (l : List (Int × Int)), v = .slice A l.length cap ∧ l.length ≤ 9223372036854775807 ∧ PairsAt W A l := by
  obtain ⟨a, len, cap, rfl⟩ := okWide_slice Tryd.underlying45 hv
  obtain ⟨fuel, hf⟩ := h
  exact pairs_of Tryd.underlying45 cellsLabel label_read hf

/-- Two orders that came in. -/
theorem open_orders {H : Type} {enc : TypeId × Value → H} {W : World} {b0 : Nat} {v : Value} {d : DataW H} {p : List MemPlace} (hv : Value.okWide Tryd.prog W .any b0 44 v)
    (h : DataW.Trod enc Tryd.prog W 0 (fun _ => true) true 44 v d p) :
    ∃ (n m : Int) (A B : Option Addr) (ca cb : Nat) (l k : List (Int × Int)), v = .agg #[.int .i8 n, .int .i8 m, .slice A l.length ca, .slice B k.length cb] ∧ (Lit.int .i8 n).wf = true ∧ (Lit.int .i8 m).wf = true ∧
      l.length ≤ 9223372036854775807 ∧ k.length ≤ 9223372036854775807 ∧ PairsAt W A l ∧ PairsAt W B k := by
  obtain ⟨v0, v1, v2, v3, y0, y1, y2, y3, fuel, rfl, _, _, h0, h1, h2, h3⟩ := Joins.open_agg4 Tryd.underlying44 (by kernel_rfl) (by kernel_rfl) hv h
  obtain ⟨n, k0, _, wn⟩ := DataW.trod_int Tryd.underlying22 h0
  obtain ⟨m, k1, _, wm⟩ := DataW.trod_int Tryd.underlying22 h1
  obtain ⟨A, ca, l, rfl, hl, hA⟩ := pairs_of Tryd.underlying23 cellsPair pair_read h2
  obtain ⟨B, cb, k, rfl, hk, hB⟩ := pairs_of Tryd.underlying23 cellsPair pair_read h3
  simp at k0 k1
  subst k0 k1
  exact ⟨n, m, A, B, ca, cb, l, k, rfl, wn, wm, hl, hk, hA, hB⟩

end Go.Proofs.YtkcbcdfcpchgcaaDoor
