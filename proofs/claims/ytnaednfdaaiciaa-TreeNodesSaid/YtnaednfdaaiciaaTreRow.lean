/- How TreeNodes' nodes read. -/
import Derived.Test.YtnaednfdaaiciaaFrame
import Derived.Test.YtnaednfdaaiciaaTre7
import Derived.SizedLaws
set_option linter.unusedVariables false
set_option linter.unusedSimpArgs false
namespace Go.Proofs.Ytnaednfdaaiciaa
open Go.ChangeShapes Go.WideShapes Go.ChangeAt Go.RowKit Go.Deep

theorem cells_string : Try.prog.cellsOf 9 = 1 := by kernel_rfl
theorem cells_pos : Try.prog.cellsOf 30 = 2 := by kernel_rfl
theorem cells_i64 : Try.prog.cellsOf 2 = 1 := by kernel_rfl
theorem cells_int : Try.prog.cellsOf 3 = 1 := by kernel_rfl
theorem cells_ints : Try.prog.cellsOf 31 = 1 := by kernel_rfl
theorem cells_node : Try.prog.cellsOf 33 = 6 := by kernel_rfl
theorem bytes_int : Try.prog.bytesOf 3 = 8 := by kernel_rfl
theorem bytes_node : Try.prog.bytesOf 33 = 80 := by kernel_rfl

theorem weights_all {H : Type} {P : Program} {e : TypeId} : ∀ {l : List (DataW H)} {d : DataW H}, d ∈ l → ∀ n ∈ d.weights P e, n ∈ DataW.weightsAll P e l
  | a :: l, d, h, n, hn => by
    simp only [DataW.weightsAll, List.mem_append]
    rcases List.mem_cons.1 h with rfl | h
    · exact .inl hn
    · exact .inr (weights_all h n hn)

/-- A slice of numbers, by its one cell. -/
theorem ints_of {H : Type} {enc : TypeId × Value → H} {W : World} {fuel : Nat} {v : Value} {x : DataW H × List MemPlace}
    (hf : DataW.trod enc Try.prog W 0 (fun _ => true) true fuel 31 [v] = some x) (hw : ∀ n ∈ x.1.weights Try.prog 31, n ≤ reachBytes) : ∃ l : List Int, Ints W v l ∧ l.length ≤ 17592186044416 := by
  rcases open_slice Try.underlying31 hf with ⟨hcs, _⟩ | ⟨a', len', cap', m, n, D, Pl, hcs, _, hlc, hm, hmm, rfl, hx⟩
  · simp at hcs
    subst hcs
    exact ⟨[], .inl ⟨⟨none, 0, rfl⟩, rfl⟩, by simp⟩
  · simp at hcs
    subst hcs
    simp at hmm
    subst hmm
    have hb := hw ((((List.range len').map D).length + ((List.range (m - len')).map fun j => D (len' + j)).length) * Try.prog.bytesOf 3) (by simp [DataW.weights, Try.underlying31])
    rw [bytes_int] at hb
    simp only [List.length_map, List.length_range, reachBytes] at hb
    rw [cells_int] at hx
    have one : ∀ i, i < len' → ∃ z : Int, W.cell? (a'.add (i * 1)) = some (.int .i64 z) := fun i hi => by
      obtain ⟨cs, h1, h2⟩ := hx i (by omega)
      obtain ⟨_, hl, hc⟩ := World.cells?_some h1
      match cs, hl with
      | [c0], _ =>
        obtain ⟨z, k0, _⟩ := DataW.trod_int Try.underlying3 h2
        simp at k0
        subst k0
        exact ⟨z, by simpa [Addr.add] using hc 0 (by omega)⟩
    obtain ⟨f, hf⟩ := choose_lt one
    by_cases h0 : len' = 0
    · subst h0
      exact ⟨[], .inl ⟨⟨some a', m, rfl⟩, rfl⟩, by simp⟩
    · obtain ⟨b, off, spot⟩ := a'
      obtain rfl : spot = none := by
        have := World.cell?_spot (hf 0 (by omega))
        simpa [Addr.add] using this
      refine ⟨(List.range len').map f, .inr ⟨b, off, m, by simp, fun i hi => ?_⟩, by simp; omega⟩
      have hi' : i < len' := by simpa using hi
      have := hf i hi'
      rw [add_at, Nat.mul_one] at this
      simpa [List.getD, hi'] using this

/-- One node, by its six cells. -/
theorem node_read {H : Type} {enc : TypeId × Value → H} {W : World} {n : Nat} {cs : List Value} {y : DataW H × List MemPlace} (hl : cs.length = 6)
    (h : DataW.trod enc Try.prog W 0 (fun _ => true) true n 33 cs = some y) (hw : ∀ k ∈ y.1.weights Try.prog 33, k ≤ reachBytes) :
    ∃ (x : Nd) (s : Value), cs = ndCells x s ∧ Ints W s x.kids ∧ x.kids.length ≤ 17592186044416 ∧ x.op.size ≤ 140737488355328 ∧ x.name.size ≤ 140737488355328 := by
  obtain ⟨xs, m, _, rfl, _, hlen, hf⟩ := DataW.trod_struct Try.underlying33 h
  match xs, hlen with
  | [y0, y1, y2, y3, y4], _ =>
    match cs, hl with
    | [c0, c1, c2, c3, c4, c5], _ =>
      have e0 := hf 0 _ rfl
      have e1 := hf 1 _ rfl
      have e2 := hf 2 _ rfl
      have e3 := hf 3 _ rfl
      have e4 := hf 4 _ rfl
      simp [cells_string] at e0
      simp [cells_pos] at e1
      simp [cells_string] at e2
      simp [cells_i64] at e3
      simp [cells_ints] at e4
      have hw' : ∀ (j : Nat) (t : TypeId) (d : DataW H), [9, 30, 9, 2, 31][j]? = some t → [y0.1, y1.1, y2.1, y3.1, y4.1][j]? = some d → ∀ k ∈ d.weights Try.prog t, k ≤ reachBytes := fun j t d ht hd k hk => hw k (by
        simp only [DataW.weights, Try.underlying33]
        exact DataW.weights_mem_each (j := j) ht hd k hk)
      obtain ⟨op, k0, hx0, _⟩ := DataW.trod_string Try.underlying9 e0
      obtain ⟨name, k2, hx2, _⟩ := DataW.trod_string Try.underlying9 e2
      obtain ⟨num, k3, _⟩ := DataW.trod_int Try.underlying2 e3
      obtain ⟨z0, z1, m', _, _, u0, u1⟩ := trod_struct2 Try.underlying30 e1
      simp only [cells_int] at u0 u1
      obtain ⟨line, k1, _⟩ := DataW.trod_int Try.underlying3 u0
      obtain ⟨col, k1', _⟩ := DataW.trod_int Try.underlying3 u1
      obtain ⟨kids, hk, hkl⟩ := ints_of e4 (hw' 4 _ _ rfl rfl)
      have hop := hw' 0 _ _ rfl rfl op.data.toList.length (by rw [hx0]; simp [DataW.weights])
      have hnm := hw' 2 _ _ rfl rfl name.data.toList.length (by rw [hx2]; simp [DataW.weights])
      simp at k0 k1 k1' k2 k3
      simp only [reachBytes, Array.length_toList] at hop hnm
      have ho2 : op.size = op.data.size := rfl
      have hn2 : name.size = name.data.size := rfl
      exact ⟨⟨op, line, col, name, num, kids⟩, c5, by simp [ndCells, k0, k1, k1', k2, k3], hk, hkl, by simp only; omega, by simp only; omega⟩

/-- A slice of nodes that came in. -/
theorem open_nodes {H : Type} {enc : TypeId × Value → H} {W : World} {b0 : Nat} {v : Value} {d : DataW H} {p : List MemPlace} (hv : Value.okWide Try.prog W .any b0 22 v)
    (h : DataW.Trod enc Try.prog W 0 (fun _ => true) true 22 v d p) (hw : ∀ k ∈ d.weights Try.prog 22, k ≤ reachBytes) : ∃ ms : List (Nd × Value), Nodes W v ms ∧ Reach ms := by
  obtain ⟨a, len, cap, rfl⟩ := okWide_slice Try.underlying22 hv
  obtain ⟨fuel, hf⟩ := h
  rcases open_slice Try.underlying22 hf with ⟨hcs, _⟩ | ⟨a', len', cap', m, n, D, Pl, hcs, _, hlc, hm, hmm, hxx, hx⟩
  · simp [Value.cells] at hcs
    obtain ⟨rfl, rfl, rfl⟩ := hcs
    exact ⟨[], ⟨.inl ⟨⟨none, 0, rfl⟩, rfl⟩, fun p hp => by cases hp⟩, ⟨by simp, fun p hp => by cases hp⟩⟩
  · simp [Value.cells] at hcs
    obtain ⟨rfl, rfl, rfl⟩ := hcs
    simp at hmm
    subst hmm
    obtain ⟨hd, _⟩ := Prod.mk.inj hxx
    rw [cells_node] at hx
    have hb := hw ((((List.range len).map D).length + ((List.range (m - len)).map fun j => D (len + j)).length) * Try.prog.bytesOf 33) (by rw [hd]; simp [DataW.weights, Try.underlying22])
    rw [bytes_node] at hb
    simp only [List.length_map, List.length_range, reachBytes] at hb
    have hwD : ∀ i, i < len → ∀ k ∈ (D i).weights Try.prog 33, k ≤ reachBytes := fun i hi k hk => hw k (by
      rw [hd]
      simp only [DataW.weights, Try.underlying22, List.mem_cons, List.mem_append]
      exact .inr (.inl (weights_all (List.mem_map.2 ⟨i, List.mem_range.2 hi, rfl⟩) k hk)))
    have one : ∀ i, i < len → ∃ q : Nd × Value, (∀ j u, (ndCells q.1 q.2)[j]? = some u → W.cell? ((a'.add (i * 6)).add j) = some u) ∧ Ints W q.2 q.1.kids ∧ q.1.kids.length ≤ 17592186044416 ∧ q.1.op.size ≤ 140737488355328 ∧ q.1.name.size ≤ 140737488355328 := fun i hi => by
      obtain ⟨cs, h1, h2⟩ := hx i (by omega)
      obtain ⟨_, hl, hc⟩ := World.cells?_some h1
      obtain ⟨x, s, hcs, r⟩ := node_read hl h2 (hwD i hi)
      refine ⟨(x, s), fun j u hu => ?_, r⟩
      subst hcs
      have hj : j < 6 := by
        have := (List.getElem?_eq_some_iff.1 hu).1
        simpa [ndCells] using this
      rw [hc j hj]
      exact hu
    obtain ⟨f, hf⟩ := choose_lt one
    refine ⟨(List.range len).map f, ⟨?_, fun p hp => ?_⟩, ⟨by simp; omega, fun p hp => ?_⟩⟩
    · by_cases h0 : len = 0
      · subst h0
        exact .inl ⟨⟨some a', m, rfl⟩, rfl⟩
      · obtain ⟨b, off, spot⟩ := a'
        obtain rfl : spot = none := by
          have := World.cell?_spot ((hf 0 (by omega)).1 0 _ rfl)
          simpa [Addr.add] using this
        refine .inr ⟨b, off, m, by simp, fun k u hu => ?_⟩
        have hk : k < len * 6 := by
          have := (List.getElem?_eq_some_iff.1 hu).1
          rw [rowsOf_length] at this
          simpa using this
        have hki : k / 6 < len := by omega
        have hkj : k % 6 < 6 := by omega
        have hke : k = k / 6 * 6 + k % 6 := by omega
        rw [hke, rowsOf_get (by simpa using hki) hkj] at hu
        have := (hf (k / 6) hki).1 (k % 6) u (by simpa using hu)
        rw [add_at, add_at] at this
        rw [hke, ← Nat.add_assoc]
        exact this
    · obtain ⟨i, hi, rfl⟩ := List.mem_map.1 hp
      exact (hf i (List.mem_range.1 hi)).2.1
    · obtain ⟨i, hi, rfl⟩ := List.mem_map.1 hp
      exact (hf i (List.mem_range.1 hi)).2.2
end Go.Proofs.Ytnaednfdaaiciaa
