/- The table of powers, as it is laid. -/
import Derived.Test.YtmeacgmjpjjphaaGreatDoorMExRow
import Derived.Test.YtmeacgmjpjjphaaGreatDoorMShD
set_option linter.unusedVariables false
set_option linter.unusedSimpArgs false
namespace Go.Proofs.YtmeacgmjpjjphaaGreatDoor
open Go.ChangeShapes Go.WideShapes Go.ChangeAt Go.RowKit Go.Deep

theorem gTab : Tryz.prog.globalNamed "internal/strconv.uint64pow10" = some 6 := by kernel_rfl
theorem gTabType : (Tryz.prog.globals[6]?).map (·.type) = some 233 := by kernel_rfl
theorem cells_tab : Tryz.prog.cellsOf 233 = 20 := by kernel_rfl
theorem cells_u64 : Tryz.prog.cellsOf 209 = 1 := by kernel_rfl
set_option maxRecDepth 100000 in
theorem tab_of {W : World} (h : laidMet Tryz.prog (Rows.exprDeepRow.laid.filter fun x => x.2.handleName?.isNone) W) : TabOk W := by
  have h2 := laidMet.filter (fun x => x.1 == "internal/strconv.uint64pow10") h
  have h3 : laidMet Tryz.prog [("internal/strconv.uint64pow10", Lib.tabData .u64 Lib.pow10Tab)] W := h2
  exact Lib.tabIs_of_head (rest := []) gTab gTabType Tryz.underlying233 Tryz.underlying209 cells_u64 cells_tab h3
theorem tab_ofH {W : World} (h : laidMetH Tryz.prog Rows.exprDeepRow.laid W) : TabOk W := tab_of (laidMetH_iff.1 h).1
end Go.Proofs.YtmeacgmjpjjphaaGreatDoor
