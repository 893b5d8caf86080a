/- How TypesOrder's arguments read. -/
import Derived.Test.YtpbiiigacfhbhaaDoorFrame
import Derived.Test.YtpbiiigacfhbhaaDoorTypY
set_option linter.unusedVariables false
set_option linter.unusedSimpArgs false
namespace Go.Proofs.YtpbiiigacfhbhaaDoor
open Go.ChangeShapes Go.WideShapes Go.ChangeAt Go.RowKit Go.Deep

theorem cells_u8 : Tryd.prog.cellsOf 5 = 1 := by kernel_rfl
theorem cells_p2 : Tryd.prog.cellsOf 51 = 2 := by kernel_rfl

/-- A slice of pairs of bytes that came in. -/
theorem open_bytes2 {H : Type} {enc : TypeId × Value → H} {W : World} {b0 : Nat} {v : Value} {d : DataW H} {p : List MemPlace} (hv : Value.okWide Tryd.prog W .any b0 50 v)
    (h : DataW.Trod enc Tryd.prog W 0 (fun _ => true) true 50 v d p) : ∃ (A : Option Addr) (cap : Nat) (l : List (Int × Int)), v = .slice A l.length cap ∧ PairsU W A l ∧ ∀ p ∈ l, (0 ≤ p.1 ∧ p.1 < 256) ∧ (0 ≤ p.2 ∧ p.2 < 256) := by
  obtain ⟨a, len, cap, rfl⟩ := okWide_slice Tryd.underlying50 hv
  obtain ⟨fuel, hf⟩ := h
  rcases open_slice Tryd.underlying50 hf with ⟨hcs, _⟩ | ⟨a', len', cap', m, n, D, Pl, hcs, _, hlc, hm, hmm, _, hx⟩
  · simp [Value.cells] at hcs
    obtain ⟨rfl, rfl, rfl⟩ := hcs
    exact ⟨none, 0, [], rfl, .inl rfl, fun p hp => by cases hp⟩
  · simp [Value.cells] at hcs
    obtain ⟨rfl, rfl, rfl⟩ := hcs
    simp at hmm
    subst hmm
    rw [cells_p2] at hx
    have one : ∀ i, i < len → ∃ xy : Int × Int, (W.cell? (a'.add (i * 2)) = some (.int .u8 xy.1) ∧ W.cell? ((a'.add (i * 2)).add 1) = some (.int .u8 xy.2)) ∧ (0 ≤ xy.1 ∧ xy.1 < 256) ∧ (0 ≤ xy.2 ∧ xy.2 < 256) := fun i hi => by
      obtain ⟨cs, h1, h2⟩ := hx i (by omega)
      obtain ⟨_, hl, hc⟩ := World.cells?_some h1
      match cs, hl with
      | [c0, c1], _ =>
        obtain ⟨xs, m, rfl, _, hlen, hxs, hall⟩ := DataW.trod_array Tryd.underlying51 h2
        have e0 := hall 0 (by omega)
        have e1 := hall 1 (by omega)
        rw [cells_u8] at e0 e1
        rw [List.getElem?_eq_getElem (by omega)] at e0 e1
        obtain ⟨x, k0, _, w0⟩ := DataW.trod_int Tryd.underlying5 e0
        obtain ⟨y, k1, _, w1⟩ := DataW.trod_int Tryd.underlying5 e1
        simp at k0 k1
        subst k0 k1
        have b0 := bounds_u8 w0
        have b1 := bounds_u8 w1
        exact ⟨(x, y), ⟨by simpa [Addr.add] using hc 0 (by omega), by simpa using hc 1 (by omega)⟩, by simp only; omega, by simp only; omega⟩
    obtain ⟨f, hf⟩ := choose_lt one
    refine ⟨some a', m, (List.range len).map f, by simp, ?_, fun p hp => ?_⟩
    · by_cases h0 : len = 0
      · subst h0; exact .inl rfl
      · refine .inr ?_
        obtain ⟨b, off, spot⟩ := a'
        obtain rfl : spot = none := by
          have := World.cell?_spot (hf 0 (by omega)).1.1
          simpa [Addr.add] using this
        refine ⟨b, off, rfl, fun i hi => ?_⟩
        have hi' : i < len := by simpa using hi
        have := (hf i hi').1
        rw [add_at, add_at] at this
        simpa [List.getD, hi'] using this
    · obtain ⟨i, hi, rfl⟩ := List.mem_map.1 hp
      exact (hf i (List.mem_range.1 hi)).2
end Go.Proofs.YtpbiiigacfhbhaaDoor
