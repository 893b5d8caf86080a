/- The law's own small and rows; equal rows, equal texts. -/
import Derived.Test.YtinebmfmkgjaaaaGreatDoorAud6z
set_option linter.unusedVariables false
set_option linter.unusedSimpArgs false
namespace Go.Proofs.YtinebmfmkgjaaaaGreatDoor
open Go.RowKit

theorem rowsR_get : ∀ (l : List Rw) (i j : Nat), i < l.length → j < 6 → (rowsR l)[i * 6 + j]? = (rwCells (l.getD i default))[j]?
  | [], i, j, h, _ => absurd h (by simp)
  | p :: l, 0, j, h, hj => by
    have e : rowsR (p :: l) = rwCells p ++ rowsR l := rfl
    rw [e, List.getElem?_append_left (by simp [rwCells]; omega)]
    simp
  | p :: l, i + 1, j, h, hj => by
    have ih := rowsR_get l i j (by simpa using h) hj
    have e : rowsR (p :: l) = rwCells p ++ rowsR l := rfl
    rw [e, show (i + 1) * 6 + j = 6 + (i * 6 + j) by omega, List.getElem?_append_right (by simp [rwCells])]
    simpa [rwCells] using ih
theorem rows_at {W : World} {B t : Nat} {v : Value} {rs : List Rw} (h : W.ownsRow B t 6 v rs.length (rowsR rs)) : ∃ A cap, v = .slice A rs.length cap ∧ RowsAt W A rs := by
  by_cases h0 : rs.length = 0
  · obtain ⟨A, cap, e⟩ := row_form h
    exact ⟨A, cap, e, .inl h0⟩
  · obtain ⟨g, cap, e, _⟩ := h.form (by omega)
    subst e
    refine ⟨_, cap, rfl, .inr ⟨g, 0, rfl, fun i hi => ?_⟩⟩
    have k : ∀ j, j < 6 → W.cell? ⟨g, 0 + i * 6 + j, none⟩ = (rwCells (rs.getD i default))[j]? := fun j hj => by
      rw [Nat.zero_add]
      exact (h.cellAt (i * 6 + j) (by omega)).trans (rowsR_get rs i j hi hj)
    exact ⟨k 0 (by decide), k 1 (by decide), k 2 (by decide), k 3 (by decide), k 4 (by decide), k 5 (by decide)⟩
theorem strs_at {W : World} {B t : Nat} {v : Value} {l : List ByteArray} (h : W.ownsRow B t 1 v l.length (strs l)) : ∃ A cap, v = .slice A l.length cap ∧ LinesAt W A l := by
  by_cases h0 : l.length = 0
  · obtain ⟨A, cap, e⟩ := row_form h
    exact ⟨A, cap, e, .inl h0⟩
  · obtain ⟨g, cap, e, _⟩ := h.form (by omega)
    subst e
    refine ⟨_, cap, rfl, .inr ⟨g, 0, rfl, fun i hi => ?_⟩⟩
    rw [Nat.zero_add]
    refine (h.cellAt i (by omega)).trans ?_
    unfold strs
    rw [List.getElem?_map, List.getElem?_eq_getElem hi, List.getD, List.getElem?_eq_getElem hi]
    rfl
theorem RowsAt.get {W : World} {A : Option Addr} {rs : List Rw} (h : RowsAt W A rs) {i : Nat} (hi : i < rs.length) : ∃ b off, A = some ⟨b, off, none⟩ ∧ W.cell? ⟨b, off + i * 6, none⟩ = some (.int .i64 (rs.getD i default).l) ∧ W.cell? ⟨b, off + i * 6 + 1, none⟩ = some (.int .i64 (rs.getD i default).c) ∧
    W.cell? ⟨b, off + i * 6 + 2, none⟩ = some (.string (rs.getD i default).h) ∧ W.cell? ⟨b, off + i * 6 + 3, none⟩ = some (.string (rs.getD i default).f) ∧ W.cell? ⟨b, off + i * 6 + 4, none⟩ = some (.string (rs.getD i default).t) ∧ W.cell? ⟨b, off + i * 6 + 5, none⟩ = some (.string (rs.getD i default).u) := by
  rcases h with h | ⟨b, off, e, h⟩
  · omega
  · exact ⟨b, off, e, h i hi⟩
theorem LinesAt.get {W : World} {A : Option Addr} {l : List ByteArray} (h : LinesAt W A l) {i : Nat} (hi : i < l.length) : ∃ b off, A = some ⟨b, off, none⟩ ∧ W.cell? ⟨b, off + i, none⟩ = some (.string (l.getD i ByteArray.empty)) := by
  rcases h with h | ⟨b, off, e, h⟩
  · omega
  · exact ⟨b, off, e, h i hi⟩
theorem eqStr_in (A1 A2 : Option Addr) (c1 c2 : Nat) (l : List ByteArray) (w : World) (hl : l.length ≤ 1048576000) (h1 : LinesAt w A1 l) (h2 : LinesAt w A2 l) :
    Calls Tryz.prog 17 #[.slice A1 l.length c1, .slice A2 l.length c2] w fun e w' => e = .returned (.bool true) ∧ Below w.heap.size w w' := by
  by_cases h0 : l.length = 0
  · rw [h0]
    refine (Tryz.slices_Equal_string_empty A1 A2 c1 0 c2 w (by omega)).mono ?_
    rintro e w' ⟨rfl, rfl⟩
    exact ⟨rfl, Below.refl _ _⟩
  · obtain ⟨b1, o1, rfl, t1⟩ := h1.resolve_left h0
    obtain ⟨b2, o2, rfl, t2⟩ := h2.resolve_left h0
    refine (Tryz.slices_Equal_string b1 o1 l.length c1 b2 o2 l.length c2 l l w (Nat.le_refl _) (Nat.le_refl _) (by omega) (by omega) t1 t2).mono ?_
    rintro e w' ⟨rfl, n, rfl⟩
    exact ⟨by simp, drewNb (Below.refl _ _) n⟩

set_option maxRecDepth 100000 in
set_option maxHeartbeats 4000000 in
theorem eqRow_in (A1 A2 : Option Addr) (c1 c2 : Nat) (rs : List Rw) (w : World) (hn : rs.length ≤ 8388608) (h1 : RowsAt w A1 rs) (h2 : RowsAt w A2 rs) :
    Calls Tryz.prog 18 #[.slice A1 rs.length c1, .slice A2 rs.length c2] w fun e w' => e = .returned (.bool true) ∧ Below w.heap.size w w' := by
  have HA := Lib.hid (fun W (hb : Below w.heap.size w W) i (hi : i < rs.length) => (h1.under hb).get hi)
  have HB := Lib.hid (fun W (hb : Below w.heap.size w W) i (hi : i < rs.length) => (h2.under hb).get hi)
  clear h1 h2
  go_enter Tryz.func18, Tryz.ntmps18
  go_wp2_with fail
  go_loopg [13] rs.length (fun gk iv wr => ∃ i : Nat, iv = .int .i64 (i : Int) ∧ i + gk = rs.length ∧ Below w.heap.size w wr)
  case atStart => exact ⟨0, rfl, by omega, Below.refl _ _⟩
  case round =>
    obtain ⟨i, rfl, hig, hb⟩ := hrel
    have HW := Lib.hid hb
    clear hb
    by_cases hlt : i < rs.length
    · obtain ⟨g, rfl⟩ : ∃ g, gk = g + 1 := ⟨gk - 1, by omega⟩
      have hlt' : (i : Int) < (rs.length : Int) := by omega
      obtain ⟨b1, o1, rfl, a0, a1, a2, a3, a4, a5⟩ := HA.out wr HW.out i hlt
      obtain ⟨b2, o2, rfl, x0, x1, x2, x3, x4, x5⟩ := HB.out wr HW.out i hlt
      generalize rs.getD i default = r at *
      go_wp2_with fail
      go_region
      go_wp2_with fail
      go_roundg g
      case measure => omega
      case rel => exact ⟨i + 1, by first | rfl | go_num, by omega, HW.out.drew⟩
    · have hlt' : ¬ (i : Int) < (rs.length : Int) := by omega
      go_wp2_with fail
      go_ret
      exact ⟨rfl, HW.out⟩

set_option maxRecDepth 100000 in
set_option maxHeartbeats 4000000 in
theorem eqRef_in (A1 A2 : Option Addr) (c1 c2 : Nat) (rs : List Rw) (w : World) (hn : rs.length ≤ 8388608) (h1 : RowsAt w A1 rs) (h2 : RowsAt w A2 rs) :
    Calls Tryz.prog 20 #[.slice A1 rs.length c1, .slice A2 rs.length c2] w fun e w' => e = .returned (.bool true) ∧ Below w.heap.size w w' := by
  have HA := Lib.hid (fun W (hb : Below w.heap.size w W) i (hi : i < rs.length) => (h1.under hb).get hi)
  have HB := Lib.hid (fun W (hb : Below w.heap.size w W) i (hi : i < rs.length) => (h2.under hb).get hi)
  clear h1 h2
  go_enter Tryz.func20, Tryz.ntmps20
  go_wp2_with fail
  go_loopg [13] rs.length (fun gk iv wr => ∃ i : Nat, iv = .int .i64 (i : Int) ∧ i + gk = rs.length ∧ Below w.heap.size w wr)
  case atStart => exact ⟨0, rfl, by omega, Below.refl _ _⟩
  case round =>
    obtain ⟨i, rfl, hig, hb⟩ := hrel
    have HW := Lib.hid hb
    clear hb
    by_cases hlt : i < rs.length
    · obtain ⟨g, rfl⟩ : ∃ g, gk = g + 1 := ⟨gk - 1, by omega⟩
      have hlt' : (i : Int) < (rs.length : Int) := by omega
      obtain ⟨b1, o1, rfl, a0, a1, a2, a3, a4, a5⟩ := HA.out wr HW.out i hlt
      obtain ⟨b2, o2, rfl, x0, x1, x2, x3, x4, x5⟩ := HB.out wr HW.out i hlt
      generalize rs.getD i default = r at *
      go_wp2_with fail
      go_region
      go_wp2_with fail
      go_roundg g
      case measure => omega
      case rel => exact ⟨i + 1, by first | rfl | go_num, by omega, HW.out.drew⟩
    · have hlt' : ¬ (i : Int) < (rs.length : Int) := by omega
      go_wp2_with fail
      go_ret
      exact ⟨rfl, HW.out⟩

theorem info_rrow : (Tryz.prog.info? 59).map (fun i => (i.zero, i.size, i.bytes)) = some (some (.agg #[.int .i64 0, .int .i64 0, .string ⟨#[]⟩, .string ⟨#[]⟩, .string ⟨#[]⟩, .string ⟨#[]⟩]), 6, 80) := by kernel_rfl
theorem take_rows (rs : List Rw) (k : Nat) (h : k < rs.length) : rowsR (rs.take (k + 1)) = rowsR (rs.take k) ++ rwCells (rs.getD k default) := by
  rw [List.take_succ_eq_append_getElem h, rowsR_append, List.getD, List.getElem?_eq_getElem h]
  simp [rowsR]
set_option maxRecDepth 100000 in
set_option maxHeartbeats 8000000 in
theorem rows_in (A : Option Addr) (cap : Nat) (rs : List Rw) (w : World) (hn : rs.length ≤ 1048576) (hat : RowsAt w A rs) :
    Calls Tryz.prog 15 #[.slice A rs.length cap] w fun e w' => (∃ v, e = .returned v ∧ w'.ownsRow w.heap.size 59 6 v rs.length (rowsR rs)) ∧ Below w.heap.size w w' := by
  obtain ⟨i0, hi0, hz0, hz1, hz2⟩ := info_parts info_rrow
  have HA := Lib.hid (fun W (hb : Below w.heap.size w W) i (hi : i < rs.length) => (hat.under hb).get hi)
  clear hat
  go_enter Tryz.func15, Tryz.ntmps15
  go_wp2_with fail
  go_loopg [3, 8] rs.length (fun gk ov iv wr => ∃ k : Nat, iv = .int .i64 (k : Int) ∧ k + gk = rs.length ∧ Below w.heap.size w wr ∧ wr.ownsRow w.heap.size 59 6 ov k (rowsR (rs.take k)))
  case atStart => exact ⟨0, rfl, by omega, Below.refl _ _, World.ownsRow_nil _ _ _ _⟩
  case round =>
    obtain ⟨k, rfl, hkg, hb, hrow⟩ := hrel
    obtain ⟨A2, k2, rfl⟩ := row_form hrow
    have HB := Lib.hid (And.intro hb hrow)
    have hsb := hb.size
    clear hb hrow
    by_cases hlt : k < rs.length
    · obtain ⟨gq, rfl⟩ : ∃ g, gk = g + 1 := ⟨gk - 1, by omega⟩
      have hlt' : (k : Int) < (rs.length : Int) := by omega
      obtain ⟨b, off, rfl, a0, a1, a2, a3, a4, a5⟩ := HA.out wr HB.out.1 k hlt
      have HTK := Lib.hid (take_rows rs k hlt)
      generalize rs.getD k default = r at *
      go_upto_region 5 with fail
      have HB2 := Lib.hid (HB.out.1.alloc hsb (.cells #[.int .i64 r.l, .int .i64 r.c, .string r.h, .string r.f, .string r.t, .string r.u] 55))
      have HR2 := Lib.hid (HB.out.2.alloc (.cells #[.int .i64 r.l, .int .i64 r.c, .string r.h, .string r.f, .string r.t, .string r.u] 55))
      have HX2 := Lib.hid (last wr (.cells #[.int .i64 r.l, .int .i64 r.c, .string r.h, .string r.f, .string r.t, .string r.u] 55))
      clear a0 a1 a2 a3 a4 a5
      generalize wr.heap.size = n2 at *
      generalize wr.alloc (.cells #[.int .i64 r.l, .int .i64 r.c, .string r.h, .string r.f, .string r.t, .string r.u] 55) = w2 at *
      obtain ⟨a0, a1, a2, a3, a4, a5⟩ := cellsOf6 HX2.out
      have hs2 := HB2.out.size
      go_wp2_with (at_builtin; refine wpList_append_own _ rfl _ _ 48 rfl w.heap.size 59 i0 (.agg #[.int .i64 0, .int .i64 0, .string ⟨#[]⟩, .string ⟨#[]⟩, .string ⟨#[]⟩, .string ⟨#[]⟩]) 6 80 Tryz.underlying48 hi0 hz0 hz1 hz2 rfl (by decide) (.slice A2 k k2) k (rowsR (rs.take k)) rfl (HR2.out.alloc _) ⟨w2.heap.size, 0, none⟩ 1 1 (rwCells r) rfl rfl ?c2 ?c3 ?c4 ?c5 ?c6 ?_)
      case c2 => first | exact fun j u h => h | exact World.news_of_block (last w2 _)
      case c3 => simp [rwCells, Value.oneCell']
      case c4 => unfold maxLen; omega
      case c5 => omega
      case c6 => first | omega | (simp; omega)
      intro v' wa hown hgrow hnil
      have HB4 := Lib.hid (grow_below HB2.out hs2 HR2.out hgrow)
      have HR4 := Lib.hid (show wa.ownsRow w.heap.size 59 6 v' (k + 1) (rowsR (rs.take (k + 1))) by
        rw [HTK.out]
        exact hown)
      clear hown hgrow hnil a0 a1 a2 a3 a4 a5
      go_wp2_with fail
      go_roundg gq
      case measure => omega
      case rel => exact ⟨k + 1, by first | rfl | go_num, by omega, HB4.out, HR4.out⟩
    · have hlt' : ¬ (k : Int) < (rs.length : Int) := by omega
      obtain rfl : k = rs.length := by omega
      have HF := Lib.hid (show wr.ownsRow w.heap.size 59 6 (.slice A2 rs.length k2) rs.length (rowsR rs) by
        have h := HB.out.2
        rw [List.take_length] at h
        exact h)
      go_wp2_with fail
      exact bodyPost_ret (v := .slice A2 rs.length k2) (by simp [results, Tryz.results15, go_sem]) rfl ⟨⟨_, rfl, HF.out⟩, HB.out.1⟩
set_option maxRecDepth 100000 in
set_option maxHeartbeats 8000000 in
theorem small_in (A B : Option Addr) (cap cap2 : Nat) (rs : List Rw) (us : List ByteArray) (w : World) (hn : rs.length ≤ 1048576) (hm : us.length ≤ 1048576) (hat : RowsAt w A rs) (hut : LinesAt w B us) :
    Calls Tryz.prog 12 #[.agg #[.slice A rs.length cap, .slice B us.length cap2]] w fun e w' => (∃ b, e = .returned (.bool b)) ∧ Below w.heap.size w w' := by
  have HA := Lib.hid (fun W (hb : Below w.heap.size w W) i (hi : i < rs.length) => (hat.under hb).get hi)
  have HU := Lib.hid (fun W (hb : Below w.heap.size w W) i (hi : i < us.length) => (hut.under hb).get hi)
  clear hat hut
  go_enter Tryz.func12, Tryz.ntmps12
  have hb0 := (Below.refl w.heap.size w).alloc (Nat.le_refl _) (.cells #[.slice A rs.length cap, .slice B us.length cap2] 42)
  have HCL := Lib.hid (show ∀ W, Below (w.alloc (.cells #[.slice A rs.length cap, .slice B us.length cap2] 42)).heap.size (w.alloc (.cells #[.slice A rs.length cap, .slice B us.length cap2] 42)) W → W.cell? ⟨w.heap.size, 0, none⟩ = some (.slice A rs.length cap) ∧ W.cell? ⟨w.heap.size, 1, none⟩ = some (.slice B us.length cap2) from fun W hb => cellsOf2p ((hb.block _ (by simp)).trans (last w _)))
  have HB0 := Lib.hid hb0
  obtain ⟨p0, p1⟩ := HCL.out _ (Below.refl _ _)
  clear hb0
  go_wp2_with fail
  generalize w.alloc (.cells #[.slice A rs.length cap, .slice B us.length cap2] 42) = w1 at *
  have HF := Lib.hid (fun W (hb : Below w1.heap.size w1 W) => chain HB0.out hb)
  clear p0 p1
  go_loopg [3, 14] rs.length (fun gk nv iv wr => ∃ (k : Nat) (z : Int), nv = .int .i64 z ∧ iv = .int .i64 (k : Int) ∧ k + gk = rs.length ∧ Below w1.heap.size w1 wr)
  case atStart => exact ⟨0, _, rfl, rfl, by omega, Below.refl _ _⟩
  case round =>
    obtain ⟨k, z, rfl, rfl, hkg, hb⟩ := hrel
    have HB := Lib.hid hb
    have hsb := hb.size
    clear hb
    by_cases hlt : k < rs.length
    · obtain ⟨gq, rfl⟩ : ∃ g, gk = g + 1 := ⟨gk - 1, by omega⟩
      have hlt' : (k : Int) < (rs.length : Int) := by omega
      obtain ⟨b, off, rfl, a0, a1, a2, a3, a4, a5⟩ := HA.out wr (HF.out wr HB.out) k hlt
      generalize rs.getD k default = r at *
      have HB2 := Lib.hid (HB.out.alloc hsb (.cells #[.int .i64 r.l, .int .i64 r.c, .string r.h, .string r.f, .string r.t, .string r.u] 55))
      go_wp2_with fail
      go_roundg gq
      case measure => omega
      case rel => exact ⟨k + 1, _, rfl, by first | rfl | go_num, by omega, HB2.out⟩
    · have hlt' : ¬ (k : Int) < (rs.length : Int) := by omega
      obtain ⟨p0, p1⟩ := HCL.out wr HB.out
      have HBZ := Lib.hid HB.out
      go_wp2_with fail
      clear p0 p1
      go_loopg [3, 40] us.length (fun gk nv iv wr => ∃ (k : Nat) (z : Int), nv = .int .i64 z ∧ iv = .int .i64 (k : Int) ∧ k + gk = us.length ∧ Below w1.heap.size w1 wr)
      case atStart => exact ⟨0, _, rfl, rfl, by omega, HBZ.out⟩
      case round =>
        obtain ⟨k, z, rfl, rfl, hkg, hb⟩ := hrel
        have HC := Lib.hid hb
        clear hb
        by_cases hlt : k < us.length
        · obtain ⟨gq, rfl⟩ : ∃ g, gk = g + 1 := ⟨gk - 1, by omega⟩
          have hlt' : (k : Int) < (us.length : Int) := by omega
          obtain ⟨b, off, rfl, a0⟩ := HU.out wr (HF.out wr HC.out) k hlt
          generalize us.getD k ByteArray.empty = x at *
          go_wp2_with fail
          go_roundg gq
          case measure => omega
          case rel => exact ⟨k + 1, _, rfl, by first | rfl | go_num, by omega, HC.out⟩
        · have hlt' : ¬ (k : Int) < (us.length : Int) := by omega
          have HX := Lib.hid (HF.out wr HC.out)
          go_wp2_with fail
          exact bodyPost_ret (v := .bool (decide (z ≤ 4000))) (by simp [results, Tryz.results12, go_sem]) rfl ⟨by first | exact ⟨_, rfl⟩ | (cases decide (z ≤ 4000) <;> simp), HX.out⟩
end Go.Proofs.YtinebmfmkgjaaaaGreatDoor
