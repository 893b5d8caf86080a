/- A report's lines: the tree's Lines. -/
import Derived.Test.YtinebmfmkgjaaaaDoorAud5
import Derived.Test.YtinebmfmkgjaaaaDoorAud4
set_option linter.unusedVariables false
set_option linter.unusedSimpArgs false
namespace Go.Proofs.YtinebmfmkgjaaaaDoor
open Go.RowKit

structure Rw where
  l : Int
  c : Int
  h : ByteArray
  f : ByteArray
  t : ByteArray
  u : ByteArray
instance : Inhabited Rw := ⟨⟨0, 0, ByteArray.empty, ByteArray.empty, ByteArray.empty, ByteArray.empty⟩⟩
def Rw.right (r : Rw) : Bool := rightB r.l r.c r.h r.f r.t r.u
def Rw.ok (r : Rw) : Prop := okI r.l ∧ okI r.c ∧ r.h.size ≤ 1048576 ∧ r.f.size ≤ 1048576 ∧ r.t.size ≤ 1048576 ∧ r.u.size ≤ 1048576
def rowB (r : Rw) : ByteArray := atB r.l r.c ++ ⟨#[32, 114, 101, 108, 101, 97, 115, 101, 32]⟩ ++ r.h ++ ⟨#[32, 102, 114, 111, 109, 32]⟩ ++ r.f ++ ⟨#[32, 116, 111, 32]⟩ ++ r.t ++ ⟨#[32, 105, 110, 32]⟩ ++ r.u
def unB (s : ByteArray) : ByteArray := ⟨#[117, 110, 117, 115, 101, 100, 32]⟩ ++ s
/-- Rows lie one behind the other. -/
def RowsAt (w : World) (A : Option Addr) (rs : List Rw) : Prop := rs.length = 0 ∨ ∃ b off, A = some ⟨b, off, none⟩ ∧ ∀ i, i < rs.length →
  w.cell? ⟨b, off + i * 6, none⟩ = some (.int .i64 (rs.getD i default).l) ∧ w.cell? ⟨b, off + i * 6 + 1, none⟩ = some (.int .i64 (rs.getD i default).c) ∧
  w.cell? ⟨b, off + i * 6 + 2, none⟩ = some (.string (rs.getD i default).h) ∧ w.cell? ⟨b, off + i * 6 + 3, none⟩ = some (.string (rs.getD i default).f) ∧
  w.cell? ⟨b, off + i * 6 + 4, none⟩ = some (.string (rs.getD i default).t) ∧ w.cell? ⟨b, off + i * 6 + 5, none⟩ = some (.string (rs.getD i default).u)
theorem RowsAt.under {w w' : World} {A : Option Addr} {rs : List Rw} (h : RowsAt w A rs) (hb : Below w.heap.size w w') : RowsAt w' A rs := by
  rcases h with h | ⟨b, off, rfl, h⟩
  · exact .inl h
  · refine .inr ⟨b, off, rfl, fun i hi => ?_⟩
    obtain ⟨h0, h1, h2, h3, h4, h5⟩ := h i hi
    exact ⟨(World.cell?_of_block (hb.block _ (cell_lt h0))).trans h0, (World.cell?_of_block (hb.block _ (cell_lt h1))).trans h1, (World.cell?_of_block (hb.block _ (cell_lt h2))).trans h2, (World.cell?_of_block (hb.block _ (cell_lt h3))).trans h3, (World.cell?_of_block (hb.block _ (cell_lt h4))).trans h4, (World.cell?_of_block (hb.block _ (cell_lt h5))).trans h5⟩
/-- One row, copied and read. -/
theorem row_sizes {r : Rw} (h : r.ok) : (atB r.l r.c).size ≤ 43 ∧ r.h.size ≤ 1048576 ∧ r.f.size ≤ 1048576 ∧ r.t.size ≤ 1048576 ∧ r.u.size ≤ 1048576 := ⟨atB_size h.1 h.2.1, h.2.2⟩
/-- What Lines hands back. -/
def LinesEnd (B : Nat) (R : Option (List ByteArray)) (e : Ending) (w' : World) : Prop := match R with
  | none => e = .returned (.tuple #[.slice none 0 0, .int .i64 1])
  | some l => ∃ v, e = .returned (.tuple #[v, .int .i64 0]) ∧ w'.ownsRow B 9 1 v l.length (strs l)
theorem far_cell {w3 wa : World} {o : Obj} {row : Option Nat} {a : Addr} {v : Value} (hg : (w3.alloc o).grownBy wa row) (ha : w3.cell? a = some v) (hne : some a.block ≠ row) : wa.cell? a = some v :=
  (hg.cell_far a (by have := cell_lt ha; simp; omega) hne).trans ((World.cell?_of_block (Below.heap_alloc _ _ _ (cell_lt ha))).trans ha)
theorem news1 (w : World) (v : Value) (t : TypeId) : ∀ j u, [v][j]? = some u → (w.alloc (.cells #[v] t)).cell? ((⟨w.heap.size, 0, none⟩ : Addr).add j) = some u := World.news_of_block (last w _)
theorem one1 (s : ByteArray) : ∀ u ∈ [Value.string s], u.oneCell' = true := by simp [Value.oneCell']
def linesB (rs : List Rw) : Option (List ByteArray) := if ∀ i, i < rs.length → (rs.getD i default).right = true then some (rs.map rowB) else none

set_option maxRecDepth 100000 in
set_option maxHeartbeats 2000000 in
/-- Where no hatch is unused. -/
theorem Lines_in (A : Option Addr) (cap : Nat) (rs : List Rw) (w : World) (hn : rs.length ≤ 1048576) (hd : ∀ i, i < rs.length → (rs.getD i default).ok) (hat : RowsAt w A rs) (henv : Env w) (ht : TabOk w) :
    Calls Tryd.prog 17 #[.agg #[.slice A rs.length cap, .slice none 0 0]] w fun e w' => LinesEnd w.heap.size (linesB rs) e w' ∧ Below w.heap.size w w' := by
  obtain ⟨i0, hi0, hz0, hz1, hz2⟩ := info_parts info_str
  go_enter Tryd.func17, Tryd.ntmps17
  have hb0 := (Below.refl w.heap.size w).alloc (Nat.le_refl _) (.cells #[.slice A rs.length cap, .slice none 0 0] 56)
  have hat0 := last w (.cells #[.slice A rs.length cap, .slice none 0 0] 56)
  have hsz0 : (w.alloc (.cells #[.slice A rs.length cap, .slice none 0 0] 56)).heap.size = w.heap.size + 1 := by simp
  obtain ⟨a0, a1⟩ := cellsOf2 hat0
  replace hat := hat.under hb0
  replace henv := henv.below hb0
  replace ht := ht.under hb0
  go_wp2_with fail
  generalize w.alloc (.cells #[.slice A rs.length cap, .slice none 0 0] 56) = wb at *
  have HB0 := Lib.hid (And.intro hb0 hsz0)
  have HRP := Lib.hid (show ∀ W, Below wb.heap.size wb W → W.cell? ⟨w.heap.size, 1, none⟩ = some (.slice none 0 0) from fun W hb => (World.cell?_of_block (hb.block _ (by simp only; omega))).trans a1)
  have HD := Lib.hid (show ∀ W i, Below wb.heap.size wb W → i < rs.length → ∃ b off, A = some ⟨b, off, none⟩ ∧ (rs.getD i default).ok ∧ W.cell? ⟨b, off + i * 6, none⟩ = some (.int .i64 (rs.getD i default).l) ∧ W.cell? ⟨b, off + i * 6 + 1, none⟩ = some (.int .i64 (rs.getD i default).c) ∧
      W.cell? ⟨b, off + i * 6 + 2, none⟩ = some (.string (rs.getD i default).h) ∧ W.cell? ⟨b, off + i * 6 + 3, none⟩ = some (.string (rs.getD i default).f) ∧ W.cell? ⟨b, off + i * 6 + 4, none⟩ = some (.string (rs.getD i default).t) ∧ W.cell? ⟨b, off + i * 6 + 5, none⟩ = some (.string (rs.getD i default).u) from fun W i hb hi => by
    rcases hat.under hb with h | ⟨b, off, h1, h2⟩
    · omega
    · exact ⟨b, off, h1, hd i hi, h2 i hi⟩)
  have HT := Lib.hid (fun W (hb : Below wb.heap.size wb W) => ht.under hb)
  have HE := Lib.hid (fun W (hb : Below wb.heap.size wb W) => henv.below hb)
  clear hd hat ht henv hb0 hat0 hsz0 a0 a1
  go_loopw [4, 12] (fun v i wr => ∃ k : Nat, i = .int .i64 k ∧ k ≤ rs.length ∧ Below wb.heap.size wb wr ∧ wr.ownsRow wb.heap.size 9 1 v k (strs ((rs.take k).map rowB)) ∧ ∀ j, j < k → (rs.getD j default).right = true) (fun _ i _ => ((rs.length : Int) - intOf i).toNat)
  case atStart => exact ⟨0, rfl, by omega, Below.refl _ _, World.ownsRow_nil _ _ _ _, fun j hj => by omega⟩
  case round =>
    obtain ⟨k, rfl, hk, hb, hrow, hall⟩ := hrel
    have HALL := Lib.hid hall
    clear hall
    by_cases hkl : k < rs.length
    · have hki : (k : Int) < rs.length := by omega
      obtain ⟨b, off, rfl, hok, c0, c1, c2, c3, c4, c5⟩ := HD.out wr k hb hkl
      have HB := Lib.hid (And.intro hb hrow)
      clear hb hrow
      obtain ⟨A2, k2, rfl⟩ := row_form HB.out.2
      have HXK := Lib.hid (show (rs.take (k + 1)).map rowB = (rs.take k).map rowB ++ [rowB (rs.getD k default)] by
        rw [List.take_add_one, List.getElem?_eq_getElem hkl, List.map_append]
        simp [List.getD, hkl])
      have HXR := Lib.hid (show (rs.getD k default).right = false → linesB rs = none from fun h => by
        unfold linesB
        rw [if_neg (fun hh => by rw [hh k hkl] at h; cases h)])
      have HXA := Lib.hid (show (rs.getD k default).right = true → ∀ j, j < k + 1 → (rs.getD j default).right = true from fun h j hj => by
        by_cases hjk : j < k
        · exact HALL.out j hjk
        · obtain rfl : j = k := by omega
          exact h)
      generalize hy : rs.getD k default = r at *
      clear hy
      have hsz := row_sizes hok
      obtain ⟨hs0, hs1, hs2, hs3, hs4⟩ := hsz
      have HOK := Lib.hid hok
      clear hok
      have hbd : Below wr.heap.size wr (wr.alloc (.cells #[.int .i64 r.l, .int .i64 r.c, .string r.h, .string r.f, .string r.t, .string r.u] 53)) := (Below.refl _ _).alloc (Nat.le_refl _) _
      have HCL := Lib.hid (show ∀ w', Below (wr.alloc (.cells #[.int .i64 r.l, .int .i64 r.c, .string r.h, .string r.f, .string r.t, .string r.u] 53)).heap.size (wr.alloc (.cells #[.int .i64 r.l, .int .i64 r.c, .string r.h, .string r.f, .string r.t, .string r.u] 53)) w' → w'.cell? ⟨wr.heap.size, 0, none⟩ = some (.int .i64 r.l) ∧ w'.cell? ⟨wr.heap.size, 1, none⟩ = some (.int .i64 r.c) ∧ w'.cell? ⟨wr.heap.size, 2, none⟩ = some (.string r.h) ∧ w'.cell? ⟨wr.heap.size, 3, none⟩ = some (.string r.f) ∧ w'.cell? ⟨wr.heap.size, 4, none⟩ = some (.string r.t) ∧ w'.cell? ⟨wr.heap.size, 5, none⟩ = some (.string r.u) from fun w' hb =>
        cellsOf6 ((hb.block _ (by simp)).trans (last wr (.cells #[.int .i64 r.l, .int .i64 r.c, .string r.h, .string r.f, .string r.t, .string r.u] 53))))
      have HF := Lib.hid (show ∀ w', Below (wr.alloc (.cells #[.int .i64 r.l, .int .i64 r.c, .string r.h, .string r.f, .string r.t, .string r.u] 53)).heap.size (wr.alloc (.cells #[.int .i64 r.l, .int .i64 r.c, .string r.h, .string r.f, .string r.t, .string r.u] 53)) w' → Below wb.heap.size wb w' ∧ w'.ownsRow wb.heap.size 9 1 (.slice A2 k k2) k (strs ((rs.take k).map rowB)) ∧ wb.heap.size ≤ w'.heap.size from fun w' hb =>
        ⟨chain (chain HB.out.1 hbd) hb, owns_block HB.out.2 fun g hg => (chain hbd hb).block _ (row_lt HB.out.2 hg).2, (chain (chain HB.out.1 hbd) hb).size⟩)
      have HR := Lib.hid (show ∀ w', Below wb.heap.size wb w' → Calls Tryd.prog 32 #[.agg #[.int .i64 r.l, .int .i64 r.c, .string r.h, .string r.f, .string r.t, .string r.u]] w' fun e w'' => e = .returned (.bool r.right) ∧ Below w'.heap.size w' w'' from fun w' hb => right_in _ _ _ _ _ _ w' (HE.out w' hb) (by omega) (by omega) (by omega) (by omega))
      have HA := Lib.hid (show ∀ w', Below wb.heap.size wb w' → Calls Tryd.prog 19 #[.agg #[.int .i64 r.l, .int .i64 r.c]] w' fun e w'' => e = .returned (.string (atB r.l r.c)) ∧ Below w'.heap.size w' w'' from fun w' hb => at_in _ _ w' HOK.out.1 HOK.out.2.1 (HT.out w' hb))
      have HRB := Lib.hid (show rowB r = atB r.l r.c ++ ⟨#[32, 114, 101, 108, 101, 97, 115, 101, 32]⟩ ++ r.h ++ ⟨#[32, 102, 114, 111, 109, 32]⟩ ++ r.f ++ ⟨#[32, 116, 111, 32]⟩ ++ r.t ++ ⟨#[32, 105, 110, 32]⟩ ++ r.u from rfl)
      generalize r.right = q at *
      clear hbd
      go_upto_block 99 with fail
      generalize wr.alloc (.cells #[.int .i64 r.l, .int .i64 r.c, .string r.h, .string r.f, .string r.t, .string r.u] 53) = wd at *
      refine (HR.out wd (HF.out wd (Below.refl _ _)).1).mono ?_
      clear c0 c1 c2 c3 c4 c5
      rintro e w2 ⟨rfl, hb2⟩
      cases q with
      | false =>
        have HX := Lib.hid (HXR.out rfl)
        have HFF := Lib.hid (HF.out _ hb2).1
        clear hb2
        go_wp2_with fail
        refine bodyPost_ret (v := .tuple #[.slice none 0 0, .int .i64 1]) (by simp [results, Tryd.results17, go_sem]) rfl ⟨by rw [HX.out]; rfl, chain HB0.out.1 HFF.out⟩
      | true =>
        have HALL2 := Lib.hid (HXA.out rfl)
        clear HXR HXA
        generalize hP : atB r.l r.c = P at *
        clear hP
        have z1 : ¬ 9223372036854775807 < P.size + 9 := by omega
        have z2 : ¬ 9223372036854775807 < P.size + 9 + r.h.size := by omega
        have z3 : ¬ 9223372036854775807 < P.size + 9 + r.h.size + 6 := by omega
        have z4 : ¬ 9223372036854775807 < P.size + 9 + r.h.size + 6 + r.f.size := by omega
        have z5 : ¬ 9223372036854775807 < P.size + 9 + r.h.size + 6 + r.f.size + 4 := by omega
        have z6 : ¬ 9223372036854775807 < P.size + 9 + r.h.size + 6 + r.f.size + 4 + r.t.size := by omega
        have z7 : ¬ 9223372036854775807 < P.size + 9 + r.h.size + 6 + r.f.size + 4 + r.t.size + 4 := by omega
        have z8 : ¬ 9223372036854775807 < P.size + 9 + r.h.size + 6 + r.f.size + 4 + r.t.size + 4 + r.u.size := by omega
        obtain ⟨c0, c1, c2, c3, c4, c5⟩ := HCL.out _ hb2.drew
        have hbw2 := hb2.drew
        clear hb2
        have HNE := Lib.hid (show some wr.heap.size ≠ (Value.slice A2 k k2).ownBlock from fun e => by
          have := (row_lt HB.out.2 e.symm).2
          omega)
        go_upto_region 7 with fail
        go_region_held3 (fun w' => w'.cell? ⟨wr.heap.size, 0, none⟩ = some (.int .i64 r.l) ∧ w'.cell? ⟨wr.heap.size, 1, none⟩ = some (.int .i64 r.c) ∧ w'.cell? ⟨wr.heap.size, 2, none⟩ = some (.string r.h) ∧ w'.cell? ⟨wr.heap.size, 3, none⟩ = some (.string r.f) ∧ w'.cell? ⟨wr.heap.size, 4, none⟩ = some (.string r.t) ∧ w'.cell? ⟨wr.heap.size, 5, none⟩ = some (.string r.u))
          (first | exact HCL.out _ (by with_reducible assumption) | exact HCL.out _ (hbw3.alloc (by with_reducible exact hbw3.size) _) | exact ⟨d0, d1, d2, d3, d4, d5⟩)
          (first
            | (go_at_call 19; refine (HA.out _ (HF.out _ (by with_reducible assumption)).1).mono ?_; rintro e w3 ⟨rfl, hbn⟩; have hbw3 := chain (by with_reducible assumption) hbn; clear hbn; obtain ⟨c0, c1, c2, c3, c4, c5⟩ := HCL.out _ hbw3)
            | (refine step_append_lies _ rfl (.tmp 19) (.tmp 39) 35 rfl wb.heap.size 9 i0 (.string ⟨#[]⟩) 1 16 Tryd.underlying35 hi0 hz0 hz1 hz2 rfl (by decide) (.slice A2 k k2) k _ rfl (World.ownsRow.alloc (HF.out w3 hbw3).2.1 _) _ 1 1 _ rfl rfl (news1 _ _ _) (one1 _) (by decide) (by unfold maxLen; omega) (by omega) (Nat.le_trans (HF.out w3 hbw3).2.2 (by simp)) _ rfl ?_; intro g' cap' wa hown hgrow hat hlt1; have d0 := far_cell hgrow c0 HNE.out; have d1 := far_cell hgrow c1 HNE.out; have d2 := far_cell hgrow c2 HNE.out; have d3 := far_cell hgrow c3 HNE.out; have d4 := far_cell hgrow c4 HNE.out; have d5 := far_cell hgrow c5 HNE.out))
        all_goals
          have HBB := Lib.hid (grow_below (HF.out w3 hbw3).1 (HF.out w3 hbw3).2.2 (HF.out w3 hbw3).2.1 hgrow)
          have HOO := Lib.hid (show wa.ownsRow wb.heap.size 9 1 (.slice (some ⟨g', 0, none⟩) (k + 1) cap') (k + 1) (strs ((rs.take (k + 1)).map rowB)) by
            rw [HXK.out, HRB.out, strs_snoc]
            exact hown)
          clear hown hgrow d0 d1 d2 d3 d4 d5 c0 c1 c2 c3 c4 c5 hat hlt1
          go_wp2_with fail
          exact ⟨⟨k + 1, by simp, by omega, HBB.out, HOO.out, HALL2.out⟩, by simp [intOf]; omega⟩
    · have hki : ¬ (k : Int) < rs.length := by omega
      have hke : k = rs.length := by omega
      have HB := Lib.hid (And.intro hb hrow)
      have hrp := HRP.out wr hb
      have KE := Lib.hid hke
      clear hb hrow
      obtain ⟨A2, k2, rfl⟩ := row_form HB.out.2
      have HFIN := Lib.hid (show LinesEnd w.heap.size (linesB rs) (.returned (.tuple #[.slice A2 k k2, .int .i64 0])) wr ∧ Below w.heap.size w wr from by
        have h2 := HB.out.2
        have hyes : linesB rs = some (rs.map rowB) := by
          unfold linesB
          rw [if_pos (fun i hi => HALL.out i (by omega))]
        rw [hyes]
        refine ⟨⟨_, rfl, ?_⟩, chain HB0.out.1 HB.out.1⟩
        rw [List.length_map, ← hke]
        have h3 := row_base h2 (show w.heap.size ≤ wb.heap.size by have := HB0.out.2; omega)
        rw [hke, List.take_length] at h3
        rw [hke]
        exact h3)
      go_wp2_with fail
      go_loopw [4, 45] (fun v i wy => v = .slice A2 k k2 ∧ i = .int .i64 0 ∧ (LinesEnd w.heap.size (linesB rs) (.returned (.tuple #[.slice A2 k k2, .int .i64 0])) wy ∧ Below w.heap.size w wy)) (fun _ _ _ => 0)
      case atStart => exact ⟨by rw [KE.out], rfl, HFIN.out⟩
      case round =>
        obtain ⟨rfl, rfl, hfin⟩ := hrel
        have HG := Lib.hid hfin
        clear hfin
        go_wp2_with fail
        exact bodyPost_ret (v := .tuple #[.slice A2 k k2, .int .i64 0]) (by simp [results, Tryd.results17, go_sem]) rfl HG.out
end Go.Proofs.YtinebmfmkgjaaaaDoor
