/- How diagnoses read. -/
import Derived.Test.YtinebmfmkgjaaaaDoorLexRow
import Derived.Test.YtinebmfmkgjaaaaDoorAud8
import Derived.SizedLaws
set_option linter.unusedVariables false
set_option linter.unusedSimpArgs false
namespace Go.Proofs.YtinebmfmkgjaaaaDoor
open Go.ChangeShapes Go.WideShapes Go.ChangeAt Go.RowKit Go.Deep

theorem cells_str : Tryd.prog.cellsOf 9 = 1 := by kernel_rfl
theorem cells_errno : Tryd.prog.cellsOf 37 = 1 := by kernel_rfl
theorem cells_int : Tryd.prog.cellsOf 3 = 1 := by kernel_rfl
theorem cells_pos : Tryd.prog.cellsOf 31 = 2 := by kernel_rfl
theorem cells_diag : Tryd.prog.cellsOf 39 = 4 := by kernel_rfl
theorem gTab : Tryd.prog.globalNamed "internal/strconv.uint64pow10" = some 5 := by kernel_rfl
theorem gTabType : (Tryd.prog.globals[5]?).map (·.type) = some 105 := by kernel_rfl
theorem cells_tab : Tryd.prog.cellsOf 105 = 20 := by kernel_rfl
theorem cells_u64 : Tryd.prog.cellsOf 85 = 1 := by kernel_rfl
set_option maxRecDepth 100000 in
theorem tab_of {W : World} (h : laidMet Tryd.prog Rows.auditDiagsUptoRow.laid W) : TabOk W := by
  have h2 := laidMet.filter (fun x => x.1 == "internal/strconv.uint64pow10") h
  have h3 : laidMet Tryd.prog [("internal/strconv.uint64pow10", Lib.tabData .u64 Lib.pow10Tab)] W := h2
  exact Lib.tabIs_of_head (rest := []) gTab gTabType Tryd.underlying105 Tryd.underlying85 cells_u64 cells_tab h3
theorem bulk_part {H : Type} {d : DataW H} {l : List (DataW H)} (h : d ∈ l) : Rows.uptoBulk d ≤ Rows.uptoBulkAll l := by
  induction l with
  | nil => cases h
  | cons x r ih =>
    simp only [Rows.uptoBulkAll]
    rcases List.mem_cons.1 h with e | e
    · subst e
      omega
    · have := ih e
      omega

set_option maxRecDepth 100000 in
set_option maxHeartbeats 1000000 in
/-- One diagnosis, by its four cells. -/
theorem diag_read {H : Type} {enc : TypeId × Value → H} {W : World} {n : Nat} {cs : List Value} {y : DataW H × List MemPlace} (hl : cs.length = 4)
    (h : DataW.trod enc Tryd.prog W 0 (fun _ => true) true n 39 cs = some y) {N : Nat} (hb : Rows.uptoBulk y.1 ≤ N) (hN : N ≤ 1048576) :
    ∃ d : Dg, cs = [.int .i64 d.code, .int .i64 d.line, .int .i64 d.col, .string d.name] ∧ d.ok := by
  obtain ⟨xs, m, _, rfl, _, hlen, hf⟩ := DataW.trod_struct Tryd.underlying39 h
  match xs, hlen with
  | [y0, y1, y2], _ =>
    match cs, hl with
    | [c0, c1, c2, c3], _ =>
      have e0 := hf 0 _ rfl
      have e1 := hf 1 _ rfl
      have e2 := hf 2 _ rfl
      simp [cells_errno] at e0
      simp [cells_pos] at e1
      simp [cells_str] at e2
      obtain ⟨k, k0, _, w0⟩ := DataW.trod_int Tryd.underlying37 e0
      obtain ⟨s, k2, hx2, _⟩ := DataW.trod_string Tryd.underlying9 e2
      obtain ⟨zs, m', _, hy1, _, hlen', hf'⟩ := DataW.trod_struct Tryd.underlying31 e1
      match zs, hlen' with
      | [z0, z1], _ =>
        have g0 := hf' 0 _ rfl
        have g1 := hf' 1 _ rfl
        simp [cells_int] at g0 g1
        obtain ⟨a, k3, _, w3⟩ := DataW.trod_int Tryd.underlying3 g0
        obtain ⟨b, k4, _, w4⟩ := DataW.trod_int Tryd.underlying3 g1
        simp at k0 k2 k3 k4
        have b0 := bounds_i64 w0
        have b3 := bounds_i64 w3
        have b4 := bounds_i64 w4
        refine ⟨⟨k, a, b, s⟩, by simp [k0, k2, k3, k4], ⟨by simp only; omega, by simp only; omega⟩, ⟨by simp only; omega, by simp only; omega⟩, ⟨by simp only; omega, by simp only; omega⟩, ?_⟩
        have hop : s.data.toList.length = s.size := by
          rw [Array.length_toList]
          rfl
        simp only [List.map_cons, List.map_nil, hx2, Rows.uptoBulk, Rows.uptoBulkAll, hop] at hb
        simp only
        omega
set_option maxRecDepth 100000 in
/-- A slice of diagnoses that came in. -/
theorem open_diags {H : Type} {enc : TypeId × Value → H} {W : World} {b0 : Nat} {v : Value} {d : DataW H} {p : List MemPlace} (hv : Value.okWide Tryd.prog W .any b0 34 v)
    (h : DataW.Trod enc Tryd.prog W 0 (fun _ => true) true 34 v d p) {N : Nat} (hb : Rows.uptoBulk d ≤ N) (hN : N ≤ 1048576) : ∃ (A : Option Addr) (cap : Nat) (l : List Dg), v = .slice A l.length cap ∧ DgsAt W A l ∧ l.length ≤ N ∧ ∀ i, i < l.length → (l.getD i default).ok := by
  obtain ⟨a, len, cap, rfl⟩ := okWide_slice Tryd.underlying34 hv
  obtain ⟨fuel, hf⟩ := h
  rcases open_slice Tryd.underlying34 hf with ⟨hcs, _⟩ | ⟨a', len', cap', m, n, D, Pl, hcs, _, hlc, hm, hmm, hy, hx⟩
  · simp [Value.cells] at hcs
    obtain ⟨rfl, rfl, rfl⟩ := hcs
    exact ⟨none, 0, [], rfl, .inl rfl, by simp, fun p hp => by simp at hp⟩
  · simp [Value.cells] at hcs
    obtain ⟨rfl, rfl, rfl⟩ := hcs
    simp at hmm
    subst hmm
    obtain ⟨hd, _⟩ := Prod.mk.inj hy
    rw [cells_diag] at hx
    have hbs : Rows.uptoBulkAll ((List.range len).map D) ≤ N := by
      rw [hd] at hb
      simp only [Rows.uptoBulk] at hb
      omega
    have one : ∀ i, i < len → ∃ q : Dg, (W.cell? (a'.add (i * 4)) = some (.int .i64 q.code) ∧ W.cell? ((a'.add (i * 4)).add 1) = some (.int .i64 q.line) ∧ W.cell? ((a'.add (i * 4)).add 2) = some (.int .i64 q.col) ∧ W.cell? ((a'.add (i * 4)).add 3) = some (.string q.name)) ∧ q.ok := fun i hi => by
      obtain ⟨cs, h1, h2⟩ := hx i (by omega)
      obtain ⟨_, hl, hc⟩ := World.cells?_some h1
      have hp := bulk_part (d := D i) (l := (List.range len).map D) (List.mem_map.2 ⟨i, List.mem_range.2 hi, rfl⟩)
      obtain ⟨q, rfl, hok⟩ := diag_read hl h2 (N := N) (Nat.le_trans hp hbs) hN
      exact ⟨q, ⟨by simpa [Addr.add] using hc 0 (by omega), by simpa using hc 1 (by omega), by simpa using hc 2 (by omega), by simpa using hc 3 (by omega)⟩, hok⟩
    obtain ⟨f, hf⟩ := choose_lt one
    have hlen : ∀ (l : List (DataW H)), l.length ≤ Rows.uptoBulkAll l := fun l => by
      induction l with
      | nil => simp
      | cons x r ih =>
        simp only [List.length_cons, Rows.uptoBulkAll]
        have : 1 ≤ Rows.uptoBulk x := by
          cases x with
          | lit q => cases q <;> simp [Rows.uptoBulk]
          | _ => simp [Rows.uptoBulk]
        omega
    have hll := hlen ((List.range len).map D)
    simp at hll
    refine ⟨some a', m, (List.range len).map f, by simp, ?_, by simp; omega, fun i hi => ?_⟩
    · by_cases h0 : len = 0
      · subst h0
        exact .inl rfl
      · refine .inr ?_
        obtain ⟨b, off, spot⟩ := a'
        obtain rfl : spot = none := by
          have := World.cell?_spot (hf 0 (by omega)).1.1
          simpa [Addr.add] using this
        refine ⟨b, off, rfl, fun i hi => ?_⟩
        have hi' : i < len := by simpa using hi
        have := (hf i hi').1
        rw [add_at, add_at, add_at, add_at] at this
        simpa [List.getD, hi'] using this
    · have hi' : i < len := by simpa using hi
      have := (hf i hi').2
      simpa [List.getD, hi'] using this
end Go.Proofs.YtinebmfmkgjaaaaDoor
