/- What the rows of the orders' laws share: the listed table, and how the arguments read. -/
import Derived.Test.YtkcbcdfcpchgcaaDoorFrame
import Derived.Test.YtkcbcdfcpchgcaaDoorOrd7
set_option linter.unusedVariables false
set_option linter.unusedSimpArgs false
namespace Go.Proofs.YtkcbcdfcpchgcaaDoor
open Go.ChangeShapes Go.WideShapes Go.ChangeAt Go.RowKit Go.Deep

theorem gTab : Tryd.prog.globalNamed "math/bits.deBruijn32tab" = some 0 := by kernel_rfl
theorem gTabType : (Tryd.prog.globals[0]?).map (·.type) = some 76 := by kernel_rfl
theorem cellsTab : Tryd.prog.cellsOf 76 = 32 := by kernel_rfl
theorem cellsU8 : Tryd.prog.cellsOf 5 = 1 := by kernel_rfl
theorem cellsInt : Tryd.prog.cellsOf 3 = 1 := by kernel_rfl
theorem cellsPair : Tryd.prog.cellsOf 63 = 2 := by kernel_rfl

theorem tab_of_laid {W : World} (h : laidMetH Tryd.prog [("math/bits.deBruijn32tab", Rows.laid_math_bits_deBruijn32tab)] W) : TabAt W := by
  have hT := Lib.tabIs_of_head (P := Tryd.prog) (W := W) (name := "math/bits.deBruijn32tab") (k := .u8) (zs := [0, 1, 28, 2, 29, 14, 24, 3, 30, 22, 20, 15, 25, 17, 4, 8, 31, 27, 13, 23, 21, 19, 16, 7, 26, 12, 18, 6, 11, 5, 10, 9]) (rest := []) gTab gTabType Tryd.underlying76 Tryd.underlying5 cellsU8 cellsTab h
  have hz : ∀ i, i < 32 → ([0, 1, 28, 2, 29, 14, 24, 3, 30, 22, 20, 15, 25, 17, 4, 8, 31, 27, 13, 23, 21, 19, 16, 7, 26, 12, 18, 6, 11, 5, 10, 9] : List Int).getD i 0 = (OrdB.tab i : Int) := by decide
  intro i hi
  rw [← hz i hi]
  exact hT.cell gTab i (by simpa using hi)

/-- An array of k numbers by value. -/
theorem open_array {H : Type} {enc : TypeId × Value → H} {P : Program} {W : World} {b0 base : Nat} {sp : Nat → Bool} {hd : Bool} {t e : TypeId} {n : Nat} {k : IntKind} {v : Value} {d : DataW H} {p : List MemPlace}
    (ht : P.underlying t = some (.array n e)) (he : P.underlying e = some (.int k)) (hce : P.cellsOf e = 1) (hct : P.cellsOf t = n) (hv : Value.okWide P W .any b0 t v) (h : DataW.Trod enc P W base sp hd t v d p) :
    ∃ zs : List Int, v = .agg (zs.map (Value.int k)).toArray ∧ zs.length = n ∧ ∀ z ∈ zs, (Lit.int k z).wf = true := by
  simp only [Value.okWide, ht] at hv
  obtain ⟨cs, rfl, hsz, _⟩ := hv
  obtain ⟨fuel, hf⟩ := h
  obtain ⟨xs, m, rfl, _, hlen, hxs, hall⟩ := DataW.trod_array ht hf
  have hl : cs.toList.length = n := by simpa [Value.cells, hct] using hlen
  have one : ∀ i, i < n → ∃ z, cs.toList[i]? = some (.int k z) ∧ (Lit.int k z).wf = true := fun i hi => by
    have := hall i hi
    rw [hce, Nat.mul_one] at this
    obtain ⟨c, hc⟩ : ∃ c, cs.toList[i]? = some c := ⟨_, List.getElem?_eq_getElem (by omega)⟩
    have e1 : ((Value.agg cs).cells.toList.drop i).take 1 = [c] := by
      show (cs.toList.drop i).take 1 = [c]
      rw [List.drop_eq_getElem_cons (by omega)]
      have := (List.getElem?_eq_some_iff.1 hc).2
      simp [this]
    rw [e1, List.getElem?_eq_getElem (by omega)] at this
    obtain ⟨z, e0, _, hw⟩ := DataW.trod_int he this
    simp at e0
    exact ⟨z, by rw [hc, e0], hw⟩
  obtain ⟨f, hf⟩ := choose_lt one
  refine ⟨(List.range n).map f, ?_, by simp, ?_⟩
  · congr 1
    apply Array.ext'
    simp only [List.map_map]
    apply List.ext_getElem?
    intro i
    by_cases hi : i < n
    · rw [(hf i hi).1]; simp [hi]
    · rw [List.getElem?_eq_none (by omega)]; simp [hi]
  · intro z hz
    obtain ⟨i, hi, rfl⟩ := List.mem_map.1 hz
    exact (hf i (List.mem_range.1 hi)).2

/-- A slice of pairs that came in. -/
theorem open_pairs {H : Type} {enc : TypeId × Value → H} {W : World} {b0 : Nat} {v : Value} {d : DataW H} {p : List MemPlace} (hv : Value.okWide Tryd.prog W .any b0 23 v)
    (h : DataW.Trod enc Tryd.prog W 0 (fun _ => true) true 23 v d p) : ∃ (A : Option Addr) (cap : Nat) (l : List (Int × Int)), v = .slice A l.length cap ∧ l.length ≤ 9223372036854775807 ∧ PairsAt W A l := by
  obtain ⟨a, len, cap, rfl⟩ := okWide_slice Tryd.underlying23 hv
  obtain ⟨fuel, hf⟩ := h
  rcases open_slice Tryd.underlying23 hf with ⟨hcs, _⟩ | ⟨a', len', cap', m, n, D, Pl, hcs, _, hlc, hm, hmm, _, hx⟩
  · simp [Value.cells] at hcs
    obtain ⟨rfl, rfl, rfl⟩ := hcs
    exact ⟨none, 0, [], rfl, by simp, .inl rfl⟩
  · simp [Value.cells] at hcs
    obtain ⟨rfl, rfl, rfl⟩ := hcs
    simp at hmm
    subst hmm
    rw [cellsPair] at hx
    have one : ∀ i, i < len → ∃ xy : Int × Int, W.cell? (a'.add (i * 2)) = some (.int .i64 xy.1) ∧ W.cell? ((a'.add (i * 2)).add 1) = some (.int .i64 xy.2) := fun i hi => by
      obtain ⟨cs, h1, h2⟩ := hx i (by omega)
      obtain ⟨_, hl, hc⟩ := World.cells?_some h1
      match cs, hl with
      | [c0, c1], _ =>
        obtain ⟨xs, m, rfl, _, hlen, hxs, hall⟩ := DataW.trod_array Tryd.underlying63 h2
        have e0 := hall 0 (by omega)
        have e1 := hall 1 (by omega)
        rw [cellsInt] at e0 e1
        rw [List.getElem?_eq_getElem (by omega)] at e0 e1
        obtain ⟨x, k0, _⟩ := DataW.trod_int Tryd.underlying3 e0
        obtain ⟨y, k1, _⟩ := DataW.trod_int Tryd.underlying3 e1
        simp at k0 k1
        subst k0 k1
        exact ⟨(x, y), by simpa [Addr.add] using hc 0 (by omega), by simpa using hc 1 (by omega)⟩
    obtain ⟨f, hf⟩ := choose_lt one
    refine ⟨some a', m, (List.range len).map f, by simp, by simp; unfold maxLen at hm; omega, ?_⟩
    by_cases h0 : len = 0
    · subst h0; exact .inl rfl
    · refine .inr ?_
      obtain ⟨b, off, spot⟩ := a'
      obtain rfl : spot = none := by
        have := World.cell?_spot (hf 0 (by omega)).1
        simpa [Addr.add] using this
      refine ⟨b, off, rfl, fun i hi => ?_⟩
      have hi' : i < len := by simpa using hi
      have := hf i hi'
      rw [add_at, add_at] at this
      simpa [List.getD, hi'] using this

end Go.Proofs.YtkcbcdfcpchgcaaDoor
