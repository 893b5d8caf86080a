/- How ValueApplies' values read. -/
import Derived.Test.YtofijodndilmbaaDoorValRow2
import Derived.Test.YtofijodndilmbaaDoorVal19
set_option linter.unusedVariables false
set_option linter.unusedSimpArgs false
namespace Go.Proofs.YtofijodndilmbaaDoor
open Go.ChangeShapes Go.WideShapes Go.ChangeAt Go.RowKit Go.Deep

/-- A slice of values that came in. -/
theorem open_values {H : Type} {enc : TypeId × Value → H} {W : World} {b0 : Nat} {v : Value} {d : DataW H} {p : List MemPlace} (hv : Value.okWide Tryd.prog W .any b0 22 v)
    (h : DataW.Trod enc Tryd.prog W 0 (fun _ => true) true 22 v d p) (hw : ∀ k ∈ d.weights Tryd.prog 22, k ≤ reachBytes) : ∃ (ks : List V) (A : Option Addr) (cap : Nat) (ss : Nat → Value), v = .slice A ks.length cap ∧ ks.length ≤ 2932031007317 ∧ ListAt W ks A ss := by
  obtain ⟨a, len, cap, rfl⟩ := okWide_slice Tryd.underlying22 hv
  obtain ⟨fuel, hf⟩ := h
  rcases open_slice Tryd.underlying22 hf with ⟨hcs, _⟩ | ⟨a', len', cap', m', n', D, Pl, hcs, _, hlc, hm, hmm, hy, hx⟩
  · simp [Value.cells] at hcs
    obtain ⟨rfl, rfl, rfl⟩ := hcs
    exact ⟨[], none, 0, fun _ => .slice none 0 0, rfl, by simp, .inl rfl, fun i hi => by simp at hi⟩
  · simp [Value.cells] at hcs
    obtain ⟨rfl, rfl, rfl⟩ := hcs
    simp at hmm
    subst hmm
    obtain ⟨hd, _⟩ := Prod.mk.inj hy
    rw [hd] at hw
    have hb := hw ((((List.range len).map D).length + ((List.range (m' - len)).map fun j => D (len + j)).length) * Tryd.prog.bytesOf 24) (by simp [DataW.weights, Tryd.underlying22])
    rw [bytes_value] at hb
    simp only [List.length_map, List.length_range, reachBytes] at hb
    rw [cells_value] at hx
    have one : ∀ i, i < len → ∃ q : V × Value, (W.cell? (a'.add (i * 3)) = some (.string q.1.op) ∧ W.cell? ((a'.add (i * 3)).add 1) = some (.int .i64 q.1.num) ∧ W.cell? ((a'.add (i * 3)).add 2) = some q.2) ∧ At W q.1 q.2 := fun i hi => by
      obtain ⟨cs, h1, h2⟩ := hx i (by omega)
      obtain ⟨_, hl, hc⟩ := World.cells?_some h1
      obtain ⟨v, s, hcs, hat, _, _⟩ := value_read _ _ cs (D i, Pl i) (Nat.le_refl _) hl h2 (fun k hk => hw k (by
        simp only [DataW.weights, Tryd.underlying22, List.mem_cons, List.mem_append]
        exact .inr (.inl (weights_all (List.mem_map.2 ⟨i, List.mem_range.2 hi, rfl⟩) k hk))))
      subst hcs
      exact ⟨(v, s), ⟨by simpa [Addr.add] using hc 0 (by omega), by simpa using hc 1 (by omega), by simpa using hc 2 (by omega)⟩, hat⟩
    obtain ⟨f, hf⟩ := choose_lt one
    have hkl : ((List.range len).map fun i => (f i).1).length = len := by simp
    have hkg : ∀ i, i < len → ((List.range len).map fun i => (f i).1).getD i default = (f i).1 := fun i hi => by simp [List.getD, hi]
    refine ⟨(List.range len).map fun i => (f i).1, some a', m', fun i => (f i).2, by rw [hkl], by rw [hkl]; omega, ?_, fun i hi => ?_⟩
    · by_cases h0 : len = 0
      · exact .inl (by rw [hkl]; exact h0)
      · obtain ⟨b, off, spot⟩ := a'
        obtain rfl : spot = none := by
          have := World.cell?_spot (hf 0 (by omega)).1.1
          simpa [Addr.add] using this
        refine .inr ⟨b, off, rfl, fun i hi => ?_⟩
        rw [hkl] at hi
        rw [hkg i hi]
        have := (hf i hi).1
        rw [add_at, add_at, add_at] at this
        exact this
    · rw [hkl] at hi
      rw [hkg i hi]
      exact (hf i hi).2
end Go.Proofs.YtofijodndilmbaaDoor
