/- How values read: an op, a number, parts; how great they are. -/
import Derived.Test.YtofijodndilmbaaDoorFrame
import Derived.Test.YtofijodndilmbaaDoorVal5
import Derived.SizedLaws
set_option linter.unusedVariables false
set_option linter.unusedSimpArgs false
namespace Go.Proofs.YtofijodndilmbaaDoor
open Go.ChangeShapes Go.WideShapes Go.ChangeAt Go.RowKit Go.Deep

theorem cells_string : Tryd.prog.cellsOf 9 = 1 := by kernel_rfl
theorem cells_i64 : Tryd.prog.cellsOf 2 = 1 := by kernel_rfl
theorem cells_vals : Tryd.prog.cellsOf 22 = 1 := by kernel_rfl
theorem cells_value : Tryd.prog.cellsOf 24 = 3 := by kernel_rfl
theorem bytes_value : Tryd.prog.bytesOf 24 = 48 := by kernel_rfl
theorem weights_all {H : Type} {P : Program} {e : TypeId} : ∀ {l : List (DataW H)} {d : DataW H}, d ∈ l → ∀ n ∈ d.weights P e, n ∈ DataW.weightsAll P e l
  | a :: l, d, h, n, hn => by
    simp only [DataW.weightsAll, List.mem_append]
    rcases List.mem_cons.1 h with rfl | h
    · exact .inl hn
    · exact .inr (weights_all h n hn)
theorem bulk_part {H : Type} {d : DataW H} {l : List (DataW H)} (h : d ∈ l) : Rows.uptoBulk d ≤ Rows.uptoBulkAll l := by
  induction l with
  | nil => cases h
  | cons x r ih =>
    simp only [Rows.uptoBulkAll]
    rcases List.mem_cons.1 h with e | e
    · subst e
      omega
    · have := ih e
      omega
theorem cntL_map {H : Type} {g : Nat → V} {D : Nat → DataW H} : ∀ {l : List Nat}, (∀ i ∈ l, (g i).cnt ≤ Rows.uptoBulk (D i)) → cntL (l.map g) ≤ Rows.uptoBulkAll (l.map D)
  | [], _ => by simp [cntL]
  | a :: l, h => by
    have h1 := h a (by simp)
    have h2 := cntL_map (l := l) fun i hi => h i (by simp [hi])
    simp only [List.map_cons, cntL, Rows.uptoBulkAll]
    omega
theorem rngL_map {g : Nat → V} : ∀ {l : List Nat}, (∀ i ∈ l, (g i).rng) → rngL (l.map g)
  | [], _ => trivial
  | a :: l, h => ⟨h a (by simp), rngL_map (l := l) fun i hi => h i (by simp [hi])⟩

set_option maxHeartbeats 1000000 in
/-- One value, by its three cells. -/
theorem value_read {H : Type} {enc : TypeId × Value → H} {W : World} : ∀ (N n : Nat) (cs : List Value) (y : DataW H × List MemPlace), Rows.uptoBulk y.1 ≤ N → cs.length = 3 →
    DataW.trod enc Tryd.prog W 0 (fun _ => true) true n 24 cs = some y → (∀ k ∈ y.1.weights Tryd.prog 24, k ≤ reachBytes) →
    ∃ (v : V) (s : Value), cs = [.string v.op, .int .i64 v.num, s] ∧ At W v s ∧ v.rng ∧ v.cnt ≤ Rows.uptoBulk y.1 := by
  intro N
  induction N with
  | zero =>
    intro n cs y hN hl h hw
    obtain ⟨xs, m, _, rfl, _, hlen, hf⟩ := DataW.trod_struct Tryd.underlying24 h
    simp [Rows.uptoBulk] at hN
  | succ N ih =>
    intro n cs y hN hl h hw
    obtain ⟨xs, m, _, rfl, _, hlen, hf⟩ := DataW.trod_struct Tryd.underlying24 h
    match xs, hlen with
    | [y0, y1, y2], _ =>
      match cs, hl with
      | [c0, c1, c2], _ =>
        have e0 := hf 0 _ rfl
        have e1 := hf 1 _ rfl
        have e2 := hf 2 _ rfl
        simp [cells_string] at e0
        simp [cells_i64] at e1
        simp [cells_vals] at e2
        have hw2 : ∀ k ∈ y2.1.weights Tryd.prog 22, k ≤ reachBytes := fun k hk => hw k (by
          simp only [DataW.weights, Tryd.underlying24]
          exact DataW.weights_mem_each (j := 2) rfl rfl k hk)
        obtain ⟨op, k0, hx0, _⟩ := DataW.trod_string Tryd.underlying9 e0
        obtain ⟨num, k1, hx1, wf⟩ := DataW.trod_int Tryd.underlying2 e1
        simp at k0 k1
        have hop : op.data.toList.length = op.size := by
          rw [Array.length_toList]
          rfl
        have hbd : Rows.uptoBulk (DataW.agg [y0.1, y1.1, y2.1]) = op.size + 1 + (1 + (Rows.uptoBulk y2.1 + 0)) + 1 := by
          rw [hx0, hx1]
          simp only [Rows.uptoBulk, Rows.uptoBulkAll, hop]
        simp only [List.map_cons, List.map_nil] at hN ⊢
        rw [hbd] at hN ⊢
        have hrng : -9223372036854775808 ≤ num ∧ num ≤ 9223372036854775807 := by
          have := bounds_i64 wf
          omega
        rcases open_slice Tryd.underlying22 e2 with ⟨hcs, _⟩ | ⟨a', len', cap', m', n', D, Pl, hcs, _, hlc, hm, hmm, hy, hx⟩
        · simp at hcs
          subst hcs
          refine ⟨.mk op num [], .slice none 0 0, by simp [V.op, V.num, k0, k1], .leaf, (rng_eq _).2 ⟨hrng, trivial⟩, ?_⟩
          rw [cnt_eq]
          simp only [V.op, V.kids, cntL]
          omega
        · simp at hcs
          subst hcs
          simp at hmm
          subst hmm
          rw [hy] at hw2 hN ⊢
          have hb := hw2 ((((List.range len').map D).length + ((List.range (m' - len')).map fun j => D (len' + j)).length) * Tryd.prog.bytesOf 24) (by simp [DataW.weights, Tryd.underlying22])
          rw [bytes_value] at hb
          simp only [List.length_map, List.length_range, reachBytes] at hb
          rw [cells_value] at hx
          have hsb : Rows.uptoBulk (DataW.slice ((List.range len').map D) ((List.range (m' - len')).map fun j => D (len' + j))) = Rows.uptoBulkAll ((List.range len').map D) + Rows.uptoBulkAll ((List.range (m' - len')).map fun j => D (len' + j)) + 1 := by simp [Rows.uptoBulk]
          simp only [hsb] at hN ⊢
          have one : ∀ i, i < len' → ∃ q : V × Value, (W.cell? (a'.add (i * 3)) = some (.string q.1.op) ∧ W.cell? ((a'.add (i * 3)).add 1) = some (.int .i64 q.1.num) ∧ W.cell? ((a'.add (i * 3)).add 2) = some q.2) ∧ At W q.1 q.2 ∧ q.1.rng ∧ q.1.cnt ≤ Rows.uptoBulk (D i) := fun i hi => by
            obtain ⟨cs, h1, h2⟩ := hx i (by omega)
            obtain ⟨_, hl, hc⟩ := World.cells?_some h1
            have hp := bulk_part (d := D i) (l := (List.range len').map D) (List.mem_map.2 ⟨i, List.mem_range.2 hi, rfl⟩)
            obtain ⟨v, s, hcs, hat, hr, hcn⟩ := ih _ cs (D i, Pl i) (by simp only; omega) hl h2 (fun k hk => hw2 k (by
              simp only [DataW.weights, Tryd.underlying22, List.mem_cons, List.mem_append]
              exact .inr (.inl (weights_all (List.mem_map.2 ⟨i, List.mem_range.2 hi, rfl⟩) k hk))))
            subst hcs
            exact ⟨(v, s), ⟨by simpa [Addr.add] using hc 0 (by omega), by simpa using hc 1 (by omega), by simpa using hc 2 (by omega)⟩, hat, hr, hcn⟩
          obtain ⟨f, hf⟩ := choose_lt one
          have hkl : ((List.range len').map fun i => (f i).1).length = len' := by simp
          have hkg : ∀ i, i < len' → ((List.range len').map fun i => (f i).1).getD i default = (f i).1 := fun i hi => by simp [List.getD, hi]
          refine ⟨.mk op num ((List.range len').map fun i => (f i).1), .slice (some a') len' m', by simp [V.op, V.num, k0, k1], ?_, (rng_eq _).2 ⟨hrng, rngL_map fun i hi => (hf i (List.mem_range.1 hi)).2.2.1⟩, ?_⟩
          · by_cases h0 : len' = 0
            · subst h0
              exact .leaf
            · obtain ⟨b, off, spot⟩ := a'
              obtain rfl : spot = none := by
                have := World.cell?_spot (hf 0 (by omega)).1.1
                simpa [Addr.add] using this
              have hnode := At.node (w := W) (o := op) (n := num) (ks := (List.range len').map fun i => (f i).1) (b := b) (off := off) (cap := m') (fun i => (f i).2) (by rw [hkl]; omega) (fun i hi => by
                rw [hkl] at hi
                rw [hkg i hi]
                have := (hf i hi).1
                rw [add_at, add_at, add_at] at this
                exact this) (fun i hi => by
                rw [hkl] at hi
                rw [hkg i hi]
                exact (hf i hi).2.1)
              rw [hkl] at hnode
              exact hnode
          · have hcm := cntL_map (g := fun i => (f i).1) (D := D) (l := List.range len') fun i hi => (hf i (List.mem_range.1 hi)).2.2.2
            rw [cnt_eq]
            simp only [V.op, V.kids]
            omega
end Go.Proofs.YtofijodndilmbaaDoor
