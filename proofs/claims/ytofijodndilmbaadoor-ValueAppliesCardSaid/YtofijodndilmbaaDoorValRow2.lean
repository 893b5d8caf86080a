/- How the arguments of the laws on values read: values, pairs of numbers, the library's table. -/
import Derived.Test.YtofijodndilmbaaDoorValRow
import Derived.LaidSub
set_option linter.unusedVariables false
set_option linter.unusedSimpArgs false
namespace Go.Proofs.YtofijodndilmbaaDoor
open Go.ChangeShapes Go.WideShapes Go.ChangeAt Go.RowKit Go.Deep

/-- A value that came in. -/
theorem open_value {H : Type} {enc : TypeId × Value → H} {W : World} {b0 : Nat} {v : Value} {d : DataW H} {p : List MemPlace} (hv : Value.okWide Tryd.prog W .any b0 24 v)
    (h : DataW.Trod enc Tryd.prog W 0 (fun _ => true) true 24 v d p) (hw : ∀ k ∈ d.weights Tryd.prog 24, k ≤ reachBytes) : ∃ (x : V) (s : Value), v = aggV x s ∧ At W x s ∧ x.rng ∧ x.cnt ≤ Rows.uptoBulk d := by
  obtain ⟨cs, rfl, hsz⟩ := okWide_struct Tryd.underlying24 hv
  obtain ⟨fuel, hf⟩ := h
  rw [cells_value] at hsz
  obtain ⟨x, s, hcs, r⟩ := value_read _ _ _ (d, p) (Nat.le_refl _) (by simpa [Value.cells] using hsz) hf hw
  refine ⟨x, s, ?_, r⟩
  unfold aggV
  congr 1
  apply Array.toList_inj.1
  simpa [Value.cells] using hcs
theorem cells_two : Tryd.prog.cellsOf 25 = 2 := by kernel_rfl
theorem okWide_arr {P : Program} {w : World} {r : Reach} {b0 n : Nat} {t e : TypeId} {v : Value} (ht : P.underlying t = some (.array n e)) (h : Value.okWide P w r b0 t v) : ∃ cs, v = .agg cs ∧ cs.size = P.cellsOf t := by
  simp only [Value.okWide, ht] at h
  obtain ⟨cs, h1, h2, _⟩ := h
  exact ⟨cs, h1, h2⟩
/-- Two numbers that came in. -/
theorem open_two {H : Type} {enc : TypeId × Value → H} {W : World} {b0 : Nat} {v : Value} {d : DataW H} {p : List MemPlace} (hv : Value.okWide Tryd.prog W .any b0 25 v)
    (h : DataW.Trod enc Tryd.prog W 0 (fun _ => true) true 25 v d p) : ∃ n m : Int, v = .agg #[.int .i64 n, .int .i64 m] ∧ (-9223372036854775808 ≤ n ∧ n ≤ 9223372036854775807) := by
  obtain ⟨cs, rfl, hsz⟩ := okWide_arr Tryd.underlying25 hv
  obtain ⟨fuel, hf⟩ := h
  rw [cells_two] at hsz
  obtain ⟨xs, m, rfl, _, hlen, hxs, hall⟩ := DataW.trod_array Tryd.underlying25 hf
  obtain ⟨c0, c1, rfl⟩ : ∃ c0 c1, cs = #[c0, c1] := by
    have : cs.toList.length = 2 := by simpa using hsz
    match hc : cs.toList, this with
    | [c0, c1], _ => exact ⟨c0, c1, Array.toList_inj.1 (by rw [hc])⟩
  have e0 := hall 0 (by omega)
  have e1 := hall 1 (by omega)
  rw [cells_i64] at e0 e1
  rw [List.getElem?_eq_getElem (by omega)] at e0 e1
  obtain ⟨x, k0, _, w0⟩ := DataW.trod_int Tryd.underlying2 e0
  obtain ⟨y, k1, _, w1⟩ := DataW.trod_int Tryd.underlying2 e1
  simp [Value.cells] at k0 k1
  subst k0 k1
  exact ⟨x, y, rfl, bounds_i64 w0⟩
theorem gTab : Tryd.prog.globalNamed "internal/strconv.uint64pow10" = some 0 := by kernel_rfl
theorem gTabType : (Tryd.prog.globals[0]?).map (·.type) = some 76 := by kernel_rfl
theorem cells_tab : Tryd.prog.cellsOf 76 = 20 := by kernel_rfl
theorem cells_u64 : Tryd.prog.cellsOf 68 = 1 := by kernel_rfl
theorem tab_of {W : World} (h : laidMet Tryd.prog [("math/bits.deBruijn32tab", Rows.laid_math_bits_deBruijn32tab), ("math/bits.deBruijn64tab", Rows.laid_math_bits_deBruijn64tab), ("internal/strconv.uint64pow10", Rows.laid_internal_strconv_uint64pow10)] W) : TabOk W := by
  have h2 := laidMet.filter (fun x => x.1 == "internal/strconv.uint64pow10") h
  have h3 : laidMet Tryd.prog [("internal/strconv.uint64pow10", Lib.tabData .u64 Lib.pow10Tab)] W := h2
  exact Lib.tabIs_of_head (rest := []) gTab gTabType Tryd.underlying76 Tryd.underlying68 cells_u64 cells_tab h3
theorem tab_of_laid {W : World} (h : laidMetH Tryd.prog Rows.valueShowsUptoRow.laid W) : TabOk W := tab_of h
end Go.Proofs.YtofijodndilmbaaDoor
