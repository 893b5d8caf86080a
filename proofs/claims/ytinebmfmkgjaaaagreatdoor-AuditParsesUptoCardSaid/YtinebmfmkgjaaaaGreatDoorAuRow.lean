/- How reports and lines read; what is laid. -/
import Derived.Test.YtinebmfmkgjaaaaGreatDoorLexRowZ
import Derived.Test.YtinebmfmkgjaaaaGreatDoorAuL2
import Derived.SizedLaws
import Derived.Stop.LaidErr
set_option linter.unusedVariables false
set_option linter.unusedSimpArgs false
namespace Go.Proofs.YtinebmfmkgjaaaaGreatDoor
open Go.ChangeShapes Go.WideShapes Go.ChangeAt Go.RowKit Go.Deep

theorem cells_str : Tryz.prog.cellsOf 9 = 1 := by kernel_rfl
theorem cells_int : Tryz.prog.cellsOf 3 = 1 := by kernel_rfl
theorem cells_pos : Tryz.prog.cellsOf 31 = 2 := by kernel_rfl
theorem cells_srow : Tryz.prog.cellsOf 55 = 6 := by kernel_rfl
theorem cells_srows : Tryz.prog.cellsOf 39 = 1 := by kernel_rfl
theorem cells_strs : Tryz.prog.cellsOf 40 = 1 := by kernel_rfl
theorem cells_report : Tryz.prog.cellsOf 42 = 2 := by kernel_rfl
theorem gTab : Tryz.prog.globalNamed "internal/strconv.uint64pow10" = some 6 := by kernel_rfl
theorem gTabType : (Tryz.prog.globals[6]?).map (·.type) = some 184 := by kernel_rfl
theorem cells_tab : Tryz.prog.cellsOf 184 = 20 := by kernel_rfl
theorem cells_u64 : Tryz.prog.cellsOf 156 = 1 := by kernel_rfl
set_option maxRecDepth 100000 in
theorem tab_of {W : World} (h : laidMet Tryz.prog Rows.auditLinesRow.laid W) : TabOk W := by
  have h2 := laidMet.filter (fun x => x.1 == "internal/strconv.uint64pow10") h
  have h3 : laidMet Tryz.prog [("internal/strconv.uint64pow10", Lib.tabData .u64 Lib.pow10Tab)] W := h2
  exact Lib.tabIs_of_head (rest := []) gTab gTabType Tryz.underlying184 Tryz.underlying156 cells_u64 cells_tab h3
theorem gRange : Tryz.prog.globalNamed "strconv.ErrRange" = some 5 := by kernel_rfl
theorem gRangeType : (Tryz.prog.globals[5]?).map (·.type) = some 25 := by kernel_rfl
theorem gSyn : Tryz.prog.globalNamed "strconv.ErrSyntax" = some 4 := by kernel_rfl
theorem gSynType : (Tryz.prog.globals[4]?).map (·.type) = some 25 := by kernel_rfl
theorem star_err : "*" ++ "errors.errorString" = "*errors.errorString" := by decide
theorem row_err (u : TypeId) (h : Tryz.prog.typeName? 3 u = some "*errors.errorString") : u = 180 :=
  typeName_ptr_named (nm := "errors.errorString") (by rw [star_err]; kernel_rfl) (by kernel_rfl) (by decide) u (by rw [star_err]; exact h)
theorem cells_errs : Tryz.prog.cellsOf 182 = 1 := by kernel_rfl
theorem errVs_of {W : World} (h : laidMet Tryz.prog Rows.auditLinesRow.laid W) : ErrVs W := by
  have h4 := laidMet.tail (laidMet.tail (laidMet.tail (laidMet.tail h)))
  have h5 := laidMet.tail h4
  obtain ⟨a1, s1, hv1, _⟩ := laid_sentinel h4 gRange gRangeType Tryz.underlying25 row_err Tryz.underlying180 Tryz.underlying182 rfl rfl Tryz.underlying9 cells_errs cells_str
  obtain ⟨a2, s2, hv2, _⟩ := laid_sentinel h5 gSyn gSynType Tryz.underlying25 row_err Tryz.underlying180 Tryz.underlying182 rfl rfl Tryz.underlying9 cells_errs cells_str
  exact ⟨⟨_, _, by simpa using World.var?_cell gSyn hv2 0⟩, ⟨_, _, by simpa using World.var?_cell gRange hv1 0⟩⟩
theorem bulk_part {H : Type} {d : DataW H} {l : List (DataW H)} (h : d ∈ l) : Rows.uptoBulk d ≤ Rows.uptoBulkAll l := by
  induction l with
  | nil => cases h
  | cons x r ih =>
    simp only [Rows.uptoBulkAll]
    rcases List.mem_cons.1 h with e | e
    · subst e
      omega
    · have := ih e
      omega
theorem bulk_len {H : Type} : ∀ (l : List (DataW H)), l.length ≤ Rows.uptoBulkAll l := fun l => by
  induction l with
  | nil => simp
  | cons x r ih =>
    simp only [List.length_cons, Rows.uptoBulkAll]
    have : 1 ≤ Rows.uptoBulk x := by
      cases x with
      | lit q => cases q <;> simp [Rows.uptoBulk]
      | _ => simp [Rows.uptoBulk]
    omega
set_option maxRecDepth 100000 in
set_option maxHeartbeats 1000000 in
/-- One row, by its six cells. -/
theorem row_read {H : Type} {enc : TypeId × Value → H} {W : World} {n : Nat} {cs : List Value} {y : DataW H × List MemPlace} (hl : cs.length = 6)
    (h : DataW.trod enc Tryz.prog W 0 (fun _ => true) true n 55 cs = some y) {N : Nat} (hb : Rows.uptoBulk y.1 ≤ N) (hN : N ≤ 1048576) :
    ∃ d : Rw, cs = [.int .i64 d.l, .int .i64 d.c, .string d.h, .string d.f, .string d.t, .string d.u] ∧ d.ok := by
  obtain ⟨xs, m, _, rfl, _, hlen, hf⟩ := DataW.trod_struct Tryz.underlying55 h
  match xs, hlen with
  | [y0, y1, y2, y3, y4], _ =>
    match cs, hl with
    | [c0, c1, c2, c3, c4, c5], _ =>
      have e0 := hf 0 _ rfl
      have e1 := hf 1 _ rfl
      have e2 := hf 2 _ rfl
      have e3 := hf 3 _ rfl
      have e4 := hf 4 _ rfl
      simp [cells_pos] at e0
      simp [cells_str] at e1 e2 e3 e4
      obtain ⟨s1, k1, hx1, _⟩ := DataW.trod_string Tryz.underlying9 e1
      obtain ⟨s2, k2, hx2, _⟩ := DataW.trod_string Tryz.underlying9 e2
      obtain ⟨s3, k3, hx3, _⟩ := DataW.trod_string Tryz.underlying9 e3
      obtain ⟨s4, k4, hx4, _⟩ := DataW.trod_string Tryz.underlying9 e4
      obtain ⟨zs, m', _, hy1, _, hlen', hf'⟩ := DataW.trod_struct Tryz.underlying31 e0
      match zs, hlen' with
      | [z0, z1], _ =>
        have g0 := hf' 0 _ rfl
        have g1 := hf' 1 _ rfl
        simp [cells_int] at g0 g1
        obtain ⟨a, j3, _, w3⟩ := DataW.trod_int Tryz.underlying3 g0
        obtain ⟨b, j4, _, w4⟩ := DataW.trod_int Tryz.underlying3 g1
        simp at k1 k2 k3 k4 j3 j4
        have b3 := bounds_i64 w3
        have b4 := bounds_i64 w4
        have hop : ∀ s : ByteArray, s.data.toList.length = s.size := fun s => by
          rw [Array.length_toList]
          rfl
        simp only [List.map_cons, List.map_nil, hx1, hx2, hx3, hx4, Rows.uptoBulk, Rows.uptoBulkAll, hop] at hb
        refine ⟨⟨a, b, s1, s2, s3, s4⟩, by simp [k1, k2, k3, k4, j3, j4], ⟨by simp only; omega, by simp only; omega⟩, ⟨by simp only; omega, by simp only; omega⟩, ?_, ?_, ?_, ?_⟩ <;> simp only <;> omega
set_option maxRecDepth 100000 in
theorem slice_rows {H : Type} {enc : TypeId × Value → H} {W : World} {fuel : Nat} {cs : List Value} {y : DataW H × List MemPlace}
    (h : DataW.trod enc Tryz.prog W 0 (fun _ => true) true fuel 39 cs = some y) {N : Nat} (hb : Rows.uptoBulk y.1 ≤ N) (hN : N ≤ 1048576) : ∃ (A : Option Addr) (cap : Nat) (l : List Rw), cs = [.slice A l.length cap] ∧ RowsAt W A l ∧ l.length ≤ N ∧ ∀ i, i < l.length → (l.getD i default).ok := by
  rcases open_slice Tryz.underlying39 h with ⟨hcs, _⟩ | ⟨a', len', cap', m, n, D, Pl, hcs, _, hlc, hm, hmm, hy, hx⟩
  · exact ⟨none, 0, [], hcs, .inl rfl, by simp, fun i hi => by simp at hi⟩
  · simp at hmm
    subst hmm
    subst hy
    rw [cells_srow] at hx
    have hbs : Rows.uptoBulkAll ((List.range len').map D) ≤ N := by
      simp only [Rows.uptoBulk] at hb
      omega
    have one : ∀ i, i < len' → ∃ q : Rw, (W.cell? (a'.add (i * 6)) = some (.int .i64 q.l) ∧ W.cell? ((a'.add (i * 6)).add 1) = some (.int .i64 q.c) ∧ W.cell? ((a'.add (i * 6)).add 2) = some (.string q.h) ∧ W.cell? ((a'.add (i * 6)).add 3) = some (.string q.f) ∧ W.cell? ((a'.add (i * 6)).add 4) = some (.string q.t) ∧ W.cell? ((a'.add (i * 6)).add 5) = some (.string q.u)) ∧ q.ok := fun i hi => by
      obtain ⟨cs, h1, h2⟩ := hx i (by omega)
      obtain ⟨_, hl, hc⟩ := World.cells?_some h1
      have hp := bulk_part (d := D i) (l := (List.range len').map D) (List.mem_map.2 ⟨i, List.mem_range.2 hi, rfl⟩)
      obtain ⟨q, rfl, hok⟩ := row_read hl h2 (N := N) (Nat.le_trans hp hbs) hN
      exact ⟨q, ⟨by simpa [Addr.add] using hc 0 (by omega), by simpa using hc 1 (by omega), by simpa using hc 2 (by omega), by simpa using hc 3 (by omega), by simpa using hc 4 (by omega), by simpa using hc 5 (by omega)⟩, hok⟩
    obtain ⟨f, hf⟩ := choose_lt one
    have hll := bulk_len ((List.range len').map D)
    simp at hll
    refine ⟨some a', m, (List.range len').map f, by simpa using hcs, ?_, by simp; omega, fun i hi => ?_⟩
    · by_cases h0 : len' = 0
      · subst h0
        exact .inl rfl
      · refine .inr ?_
        obtain ⟨b, off, spot⟩ := a'
        obtain rfl : spot = none := by
          have := World.cell?_spot (hf 0 (by omega)).1.1
          simpa [Addr.add] using this
        refine ⟨b, off, rfl, fun i hi => ?_⟩
        have hi' : i < len' := by simpa using hi
        have := (hf i hi').1
        rw [add_at, add_at, add_at, add_at, add_at, add_at] at this
        simpa [List.getD, hi'] using this
    · have hi' : i < len' := by simpa using hi
      have := (hf i hi').2
      simpa [List.getD, hi'] using this
set_option maxRecDepth 100000 in
theorem slice_strs {H : Type} {enc : TypeId × Value → H} {W : World} {fuel : Nat} {cs : List Value} {y : DataW H × List MemPlace}
    (h : DataW.trod enc Tryz.prog W 0 (fun _ => true) true fuel 40 cs = some y) {N : Nat} (hb : Rows.uptoBulk y.1 ≤ N) (hN : N ≤ 1048576) : ∃ (A : Option Addr) (cap : Nat) (l : List ByteArray), cs = [.slice A l.length cap] ∧ LinesAt W A l ∧ l.length ≤ N ∧ ∀ i, i < l.length → (l.getD i ByteArray.empty).size ≤ 1048576 := by
  rcases open_slice Tryz.underlying40 h with ⟨hcs, _⟩ | ⟨a', len', cap', m, n, D, Pl, hcs, _, hlc, hm, hmm, hy, hx⟩
  · exact ⟨none, 0, [], hcs, .inl rfl, by simp, fun i hi => by simp at hi⟩
  · simp at hmm
    subst hmm
    subst hy
    rw [cells_str] at hx
    have hbs : Rows.uptoBulkAll ((List.range len').map D) ≤ N := by
      simp only [Rows.uptoBulk] at hb
      omega
    have one : ∀ i, i < len' → ∃ q : ByteArray, W.cell? (a'.add i) = some (.string q) ∧ q.size ≤ 1048576 := fun i hi => by
      obtain ⟨cs, h1, h2⟩ := hx i (by omega)
      obtain ⟨_, hl, hc⟩ := World.cells?_some h1
      have hp := bulk_part (d := D i) (l := (List.range len').map D) (List.mem_map.2 ⟨i, List.mem_range.2 hi, rfl⟩)
      obtain ⟨q, k, hx2, _⟩ := DataW.trod_string Tryz.underlying9 h2
      subst k
      refine ⟨q, by simpa [Addr.add] using hc 0 (by omega), ?_⟩
      have hd : D i = DataW.lit (.string q.data.toList) := congrArg Prod.fst hx2
      have hop : q.data.toList.length = q.size := by
        rw [Array.length_toList]
        rfl
      rw [hd] at hp
      have hb1 : Rows.uptoBulk (H := H) (DataW.lit (.string q.data.toList)) = q.data.toList.length + 1 := rfl
      rw [hb1, hop] at hp
      omega
    obtain ⟨f, hf⟩ := choose_lt one
    have hll := bulk_len ((List.range len').map D)
    simp at hll
    refine ⟨some a', m, (List.range len').map f, by simpa using hcs, ?_, by simp; omega, fun i hi => ?_⟩
    · by_cases h0 : len' = 0
      · subst h0
        exact .inl rfl
      · refine .inr ?_
        obtain ⟨b, off, spot⟩ := a'
        obtain rfl : spot = none := by
          have := World.cell?_spot (hf 0 (by omega)).1
          simpa [Addr.add] using this
        refine ⟨b, off, rfl, fun i hi => ?_⟩
        have hi' : i < len' := by simpa using hi
        have := (hf i hi').1
        rw [add_at] at this
        simpa [List.getD, hi'] using this
    · have hi' : i < len' := by simpa using hi
      have := (hf i hi').2
      simpa [List.getD, hi'] using this
set_option maxRecDepth 100000 in
/-- A report that came in. -/
theorem open_report {H : Type} {enc : TypeId × Value → H} {W : World} {b0 : Nat} {v : Value} {d : DataW H} {p : List MemPlace} (hv : Value.okWide Tryz.prog W .any b0 42 v)
    (h : DataW.Trod enc Tryz.prog W 0 (fun _ => true) true 42 v d p) (hb : Rows.uptoBulk d ≤ 1048576) : ∃ (A B : Option Addr) (cap cap2 : Nat) (rs : List Rw) (us : List ByteArray), v = .agg #[.slice A rs.length cap, .slice B us.length cap2] ∧
      RowsAt W A rs ∧ LinesAt W B us ∧ rs.length ≤ 1048576 ∧ us.length ≤ 1048576 ∧ (∀ i, i < rs.length → (rs.getD i default).ok) ∧ ∀ i, i < us.length → (us.getD i ByteArray.empty).size ≤ 1048576 := by
  obtain ⟨cs, rfl, hsz⟩ := okWide_struct Tryz.underlying42 hv
  obtain ⟨fuel, hf⟩ := h
  rw [cells_report] at hsz
  obtain ⟨l⟩ := cs
  simp [Value.cells] at hf hsz
  obtain ⟨xs, m, _, hxx, _, hlen, hg⟩ := DataW.trod_struct Tryz.underlying42 hf
  match xs, hlen with
  | [y0, y1], _ =>
    match l, hsz with
    | [c0, c1], _ =>
      have e0 := hg 0 _ rfl
      have e1 := hg 1 _ rfl
      simp [cells_srows] at e0
      simp [cells_strs] at e1
      have hd : d = DataW.agg [y0.1, y1.1] := by
        have := congrArg Prod.fst hxx
        simpa using this
      rw [hd] at hb
      simp only [Rows.uptoBulk, Rows.uptoBulkAll] at hb
      obtain ⟨A, cap, rs, h1, h2, h3, h4⟩ := slice_rows e0 (N := 1048576) (by omega) (Nat.le_refl _)
      obtain ⟨B, cap2, us, g1, g2, g3, g4⟩ := slice_strs e1 (N := 1048576) (by omega) (Nat.le_refl _)
      simp at h1 g1
      subst h1 g1
      exact ⟨A, B, cap, cap2, rs, us, rfl, h2, g2, h3, g3, h4, g4⟩
end Go.Proofs.YtinebmfmkgjaaaaGreatDoor
