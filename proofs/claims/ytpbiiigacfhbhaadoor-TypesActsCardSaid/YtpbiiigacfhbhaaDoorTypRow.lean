/- How TypesActs' acts read. -/
import Derived.Test.YtpbiiigacfhbhaaDoorFrame
import Derived.Test.YtpbiiigacfhbhaaDoorTyp13
set_option linter.unusedVariables false
set_option linter.unusedSimpArgs false
namespace Go.Proofs.YtpbiiigacfhbhaaDoor
open Go.ChangeShapes Go.WideShapes Go.ChangeAt Go.RowKit Go.Deep

theorem cells_act : Tryd.prog.cellsOf 31 = 3 := by kernel_rfl
theorem cells_u8 : Tryd.prog.cellsOf 5 = 1 := by kernel_rfl
theorem cells_i8 : Tryd.prog.cellsOf 29 = 1 := by kernel_rfl

/-- One act, by its three cells. -/
theorem act_read {H : Type} {enc : TypeId × Value → H} {W : World} {n : Nat} {cs : List Value} {y : DataW H × List MemPlace} (hl : cs.length = 3)
    (h : DataW.trod enc Tryd.prog W 0 (fun _ => true) true n 31 cs = some y) :
    ∃ k a b : Int, cs = [.int .u8 k, .int .i8 a, .int .i8 b] ∧ (Lit.int .u8 k).wf = true ∧ (Lit.int .i8 a).wf = true ∧ (Lit.int .i8 b).wf = true := by
  obtain ⟨xs, m, _, rfl, _, hlen, hf⟩ := DataW.trod_struct Tryd.underlying31 h
  match xs, hlen with
  | [y0, y1, y2], _ =>
    match cs, hl with
    | [c0, c1, c2], _ =>
      have e0 := hf 0 _ rfl
      have e1 := hf 1 _ rfl
      have e2 := hf 2 _ rfl
      simp [cells_u8] at e0
      simp [cells_u8, cells_i8] at e1
      simp [cells_u8, cells_i8] at e2
      obtain ⟨k, k0, _, w0⟩ := DataW.trod_int Tryd.underlying5 e0
      obtain ⟨a, k1, _, w1⟩ := DataW.trod_int Tryd.underlying29 e1
      obtain ⟨b, k2, _, w2⟩ := DataW.trod_int Tryd.underlying29 e2
      simp at k0 k1 k2
      exact ⟨k, a, b, by simp [k0, k1, k2], w0, w1, w2⟩

/-- A slice of acts that came in. -/
theorem open_acts {H : Type} {enc : TypeId × Value → H} {W : World} {b0 : Nat} {v : Value} {d : DataW H} {p : List MemPlace} (hv : Value.okWide Tryd.prog W .any b0 22 v)
    (h : DataW.Trod enc Tryd.prog W 0 (fun _ => true) true 22 v d p) : ∃ (A : Option Addr) (cap : Nat) (l : List (Int × Int × Int)), v = .slice A l.length cap ∧ ActsAt W A l ∧
      ∀ p ∈ l, (0 ≤ p.1 ∧ p.1 < 256) ∧ (-128 ≤ p.2.1 ∧ p.2.1 < 128) ∧ (-128 ≤ p.2.2 ∧ p.2.2 < 128) := by
  obtain ⟨a, len, cap, rfl⟩ := okWide_slice Tryd.underlying22 hv
  obtain ⟨fuel, hf⟩ := h
  rcases open_slice Tryd.underlying22 hf with ⟨hcs, _⟩ | ⟨a', len', cap', m, n, D, Pl, hcs, _, hlc, hm, hmm, _, hx⟩
  · simp [Value.cells] at hcs
    obtain ⟨rfl, rfl, rfl⟩ := hcs
    exact ⟨none, 0, [], rfl, .inl rfl, fun p hp => by cases hp⟩
  · simp [Value.cells] at hcs
    obtain ⟨rfl, rfl, rfl⟩ := hcs
    simp at hmm
    subst hmm
    rw [cells_act] at hx
    have one : ∀ i, i < len → ∃ q : Int × Int × Int, (W.cell? (a'.add (i * 3)) = some (.int .u8 q.1) ∧ W.cell? ((a'.add (i * 3)).add 1) = some (.int .i8 q.2.1) ∧ W.cell? ((a'.add (i * 3)).add 2) = some (.int .i8 q.2.2)) ∧ (0 ≤ q.1 ∧ q.1 < 256) ∧ (-128 ≤ q.2.1 ∧ q.2.1 < 128) ∧ (-128 ≤ q.2.2 ∧ q.2.2 < 128) := fun i hi => by
      obtain ⟨cs, h1, h2⟩ := hx i (by omega)
      obtain ⟨_, hl, hc⟩ := World.cells?_some h1
      obtain ⟨k, x, y, rfl, w0, w1, w2⟩ := act_read hl h2
      have b0 := bounds_u8 w0
      have b1 := bounds_i8 w1
      have b2 := bounds_i8 w2
      exact ⟨(k, x, y), ⟨by simpa [Addr.add] using hc 0 (by omega), by simpa using hc 1 (by omega), by simpa using hc 2 (by omega)⟩, by simp only; omega, by simp only; omega, by simp only; omega⟩
    obtain ⟨f, hf⟩ := choose_lt one
    refine ⟨some a', m, (List.range len).map f, by simp, ?_, fun p hp => ?_⟩
    · by_cases h0 : len = 0
      · subst h0
        exact .inl rfl
      · refine .inr ?_
        obtain ⟨b, off, spot⟩ := a'
        obtain rfl : spot = none := by
          have := World.cell?_spot (hf 0 (by omega)).1.1
          simpa [Addr.add] using this
        refine ⟨b, off, rfl, fun i hi => ?_⟩
        have hi' : i < len := by simpa using hi
        have := (hf i hi').1
        rw [add_at, add_at, add_at] at this
        simpa [List.getD, hi'] using this
    · obtain ⟨i, hi, rfl⟩ := List.mem_map.1 hp
      exact (hf i (List.mem_range.1 hi)).2
end Go.Proofs.YtpbiiigacfhbhaaDoor
