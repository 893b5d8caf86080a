/- The rows' world: what is listed, laid; what the walks ask of it. -/
import Derived.Test.YtmeacgmjpjjphaaGreatDoorMFrame
import Derived.Test.YtmeacgmjpjjphaaGreatDoorMLex
import Derived.Lib.LaidU8T
import Derived.Deep.DeepWitnessRowRef
import Derived.Shelf.Vars
import Derived.LaidSub
import Derived.LaidHandle
import Derived.Test.YtmeacgmjpjjphaaGreatDoorMErr4
set_option linter.unusedVariables false
set_option linter.unusedSimpArgs false
namespace Go.Proofs.YtmeacgmjpjjphaaGreatDoor
open Go.ChangeShapes Go.WideShapes Go.ChangeAt Go.RowKit Go.Deep Go.Lib

theorem first_is : Rows.laid_unicode_utf8_first = Lib.firstData := by kernel_rfl
theorem accept_is : Rows.laid_unicode_utf8_acceptRanges = Lib.acceptData := by kernel_rfl
theorem env_of {l : List (String × DataW Unit)} {W : World} (hL : laidMet Tryz.prog l W) (h1 : ("unicode/utf8.first", Rows.laid_unicode_utf8_first) ∈ l) (h2 : ("unicode/utf8.acceptRanges", Rows.laid_unicode_utf8_acceptRanges) ∈ l) (hs : W.ShapedOpen Tryz.prog) : Env W := by
  rw [first_is] at h1
  rw [accept_is] at h2
  exact ⟨cell_of_shapedOpen_int (t := 3) (zero := #[.int .i64 0]) hs (of_decide_eq_true (by kernel_rfl)) (by kernel_rfl) rfl (by kernel_rfl) (by kernel_rfl) (by kernel_rfl),
    utf8Tabs_of_readsT (ρ := Tryz.lays197_ren) { Tryz.lays197 with } ⟨by kernel_rfl, by kernel_rfl, by kernel_rfl, by kernel_rfl, by kernel_rfl, by kernel_rfl, by kernel_rfl⟩ (Lib.laidMet.reads hL h1) (Lib.laidMet.reads hL h2)⟩

noncomputable def laidWorld (os : Os) : World :=
  let N := (World.settled Tryz.prog os).heap.size
  let w0 := World.holding Tryz.prog os ⟨#[.cells #[.string ⟨#[118, 97, 108, 117, 101, 32, 111, 117, 116, 32, 111, 102, 32, 114, 97, 110, 103, 101]⟩] 241, .cells #[.string ⟨#[105, 110, 118, 97, 108, 105, 100, 32, 115, 121, 110, 116, 97, 120]⟩] 241], #[], []⟩
  let put (h : Array Obj) (g : Nat) (cs : Array Value) : Array Obj := h.modify g fun
    | .cells _ t frozen => .cells cs t frozen
    | o => o
  let h0 := put (put w0.heap 5 #[.iface 239 (.pointer (some ⟨N, 0, none⟩))]) 4 #[.iface 239 (.pointer (some ⟨N + 1, 0, none⟩))]
  let h1 := put h0 1 (Lib.firstTab.map fun z => Value.int .u8 z).toArray
  let h2 := put h1 2 ((List.range 16).flatMap fun i => [Value.int .u8 (Lib.accLo i), Value.int .u8 (Lib.accHi i)]).toArray
  let h3 := put h2 7 #[(Value.int .u8 0), (Value.int .u8 1), (Value.int .u8 28), (Value.int .u8 2), (Value.int .u8 29), (Value.int .u8 14), (Value.int .u8 24), (Value.int .u8 3), (Value.int .u8 30), (Value.int .u8 22), (Value.int .u8 20), (Value.int .u8 15), (Value.int .u8 25), (Value.int .u8 17), (Value.int .u8 4), (Value.int .u8 8), (Value.int .u8 31), (Value.int .u8 27), (Value.int .u8 13), (Value.int .u8 23), (Value.int .u8 21), (Value.int .u8 19), (Value.int .u8 16), (Value.int .u8 7), (Value.int .u8 26), (Value.int .u8 12), (Value.int .u8 18), (Value.int .u8 6), (Value.int .u8 11), (Value.int .u8 5), (Value.int .u8 10), (Value.int .u8 9)]
  let h4 := put h3 8 #[(Value.int .u8 0), (Value.int .u8 1), (Value.int .u8 56), (Value.int .u8 2), (Value.int .u8 57), (Value.int .u8 49), (Value.int .u8 28), (Value.int .u8 3), (Value.int .u8 61), (Value.int .u8 58), (Value.int .u8 42), (Value.int .u8 50), (Value.int .u8 38), (Value.int .u8 29), (Value.int .u8 17), (Value.int .u8 4), (Value.int .u8 62), (Value.int .u8 47), (Value.int .u8 59), (Value.int .u8 36), (Value.int .u8 45), (Value.int .u8 43), (Value.int .u8 51), (Value.int .u8 22), (Value.int .u8 53), (Value.int .u8 39), (Value.int .u8 33), (Value.int .u8 30), (Value.int .u8 24), (Value.int .u8 18), (Value.int .u8 12), (Value.int .u8 5), (Value.int .u8 63), (Value.int .u8 55), (Value.int .u8 48), (Value.int .u8 27), (Value.int .u8 60), (Value.int .u8 41), (Value.int .u8 37), (Value.int .u8 16), (Value.int .u8 46), (Value.int .u8 35), (Value.int .u8 44), (Value.int .u8 21), (Value.int .u8 52), (Value.int .u8 32), (Value.int .u8 23), (Value.int .u8 11), (Value.int .u8 54), (Value.int .u8 26), (Value.int .u8 40), (Value.int .u8 15), (Value.int .u8 34), (Value.int .u8 20), (Value.int .u8 31), (Value.int .u8 10), (Value.int .u8 25), (Value.int .u8 14), (Value.int .u8 19), (Value.int .u8 9), (Value.int .u8 13), (Value.int .u8 8), (Value.int .u8 7), (Value.int .u8 6)]
  let h5 := put h4 6 #[(Value.int .u64 1), (Value.int .u64 10), (Value.int .u64 100), (Value.int .u64 1000), (Value.int .u64 10000), (Value.int .u64 100000), (Value.int .u64 1000000), (Value.int .u64 10000000), (Value.int .u64 100000000), (Value.int .u64 1000000000), (Value.int .u64 10000000000), (Value.int .u64 100000000000), (Value.int .u64 1000000000000), (Value.int .u64 10000000000000), (Value.int .u64 100000000000000), (Value.int .u64 1000000000000000), (Value.int .u64 10000000000000000), (Value.int .u64 100000000000000000), (Value.int .u64 1000000000000000000), (Value.int .u64 10000000000000000000)]
  let h6 := put h5 0 #[.iface 149 (.agg #[.pointer (some ⟨9, 25, none⟩)])]
  { w0 with heap := h6 }
theorem laid_met (os : Os) (args : Array Value) : laidMet Tryz.prog (Rows.exprDeepRow.laid.filter fun x => x.2.handleName?.isNone) ((laidWorld os).forCall (fun _ _ => 0) ⟨#[], args, []⟩).memory :=
  laidMet_of_run' 8 (by kernel_rfl) (by kernel_rfl)
theorem laid_metH (os : Os) (args : Array Value) : laidMetH Tryz.prog Rows.exprDeepRow.laid ((laidWorld os).forCall (fun _ _ => 0) ⟨#[], args, []⟩).memory :=
  laidMetH_of_parts (laid_met os args) (by kernel_rfl)
theorem et_named : Tryz.prog.globalNamed "errors.errorType" = some 0 := by kernel_rfl
theorem rt_cut : (Tryz.prog.cutTypes.find? (·.1 == "internal/reflectlite.rtype")).map (·.2) = some 149 := by kernel_rfl
theorem one_row : ((List.range 270).filter fun t => Tryz.prog.rowNamed t [101, 114, 114, 111, 114]) = [25] := by kernel_rfl
theorem types_size : Tryz.prog.types.size = 270 := by kernel_rfl
theorem errTy_of {W : World} (h : laidMetH Tryz.prog Rows.exprDeepRow.laid W) : ErrTy W := by
  have h2 := (laidMetH_iff.1 h).2 ("errors.errorType", Rows.laid_errors_errorType) (List.mem_filter.2 ⟨.tail _ (.tail _ (.tail _ (.tail _ (.head _)))), rfl⟩)
  obtain ⟨name, u, ty, e1, e2, e3, e4, e5⟩ := h2
  have en : name = [101, 114, 114, 111, 114] := (Option.some.inj e1).symm
  subst en
  obtain rfl := Option.some.inj (rt_cut.symm.trans e2)
  have hm : ty ∈ (List.range 270).filter fun t => Tryz.prog.rowNamed t [101, 114, 114, 111, 114] := List.mem_filter.2 ⟨List.mem_range.2 (by rw [← types_size]; exact e3), e4⟩
  rw [one_row] at hm
  obtain rfl := List.mem_singleton.1 hm
  have hh : typeHandle Tryz.prog 25 = .pointer (some ⟨9, 25, none⟩) := by kernel_rfl
  rw [hh] at e5
  simpa [ErrTy] using World.var?_cell et_named e5 0
theorem env_ofH {W : World} (h : laidMetH Tryz.prog Rows.exprDeepRow.laid W) (hs : W.ShapedOpen Tryz.prog) : Env W :=
  env_of (laidMetH_iff.1 h).1 (List.mem_filter.2 ⟨.tail _ (.tail _ (.tail _ (.tail _ (.tail _ (.tail _ (.tail _ (.head _))))))), rfl⟩) (List.mem_filter.2 ⟨.tail _ (.tail _ (.tail _ (.head _))), rfl⟩) hs
end Go.Proofs.YtmeacgmjpjjphaaGreatDoor
