/- A value of its own: own. -/
import Derived.Test.YtofijodndilmbaaDoorVal17
set_option linter.unusedVariables false
set_option linter.unusedSimpArgs false
namespace Go.Proofs.YtofijodndilmbaaDoor
open Go.RowKit

set_option maxRecDepth 100000 in
set_option maxHeartbeats 8000000 in
theorem Own_in : ∀ (N : Nat) (w : World) (v : V) (s : Value), SizeOf.sizeOf v ≤ N → At w v s →
    Calls Tryd.prog 27 #[aggV v s] w fun e w' => (∃ s', e = .returned (aggV v s') ∧ AtP (fun k => w.heap.size ≤ k) w' v s' ∧ ∃ xs, w'.ownsRow w.heap.size 24 3 s' v.kids.length xs) ∧ Below w.heap.size w w' := by
  intro N
  induction N with
  | zero =>
    intro w v s h
    cases v
    simp only [V.mk.sizeOf_spec] at h
    omega
  | succ N ih =>
    intro w v s hN h
    obtain ⟨A, cap, ss, rfl, hmax, hcells, hkid⟩ := h.row
    have IH := Lib.hid ih
    have HS := Lib.hid (fun (i : Nat) (hi : i < v.kids.length) => v.kid_lt hi)
    have HN := Lib.hid hN
    have hb0 : Below w.heap.size w ((w.alloc (.cells #[.string v.op, .int .i64 v.num, .slice A v.kids.length cap] 24)).alloc (.cells #[.string ⟨#[]⟩, .int .i64 0, nilS] 24)) := ((Below.refl w.heap.size w).alloc (Nat.le_refl _) _).alloc (by simp) _
    have hc := VClone_in (cap := cap) (hcells.under hb0) hmax fun i hi => (hkid i hi).one
    obtain ⟨w0, w1, w2, w3⟩ := W2_facts w 24 v.op v.num A v.kids.length cap
    have HW := Lib.hid (And.intro w0 (And.intro w1 (And.intro w2 w3)))
    have HMX := Lib.hid hmax
    have HKI := Lib.hid hkid
    clear ih hN h hb0 hkid hcells w0 w1 w2 w3
    unfold W2 at HW
    unfold aggV
    generalize hop : v.op = op at *
    generalize hnum : v.num = num at *
    generalize hkl : v.kids.length = L at *
    have HO := Lib.hid (And.intro hop (And.intro hnum hkl))
    clear hop hnum hkl
    go_enter Tryd.func27, Tryd.ntmps27
    go_wp2_with fail
    refine hc.mono ?_
    clear hc
    rintro e w3 ⟨⟨rv, rfl, hrow⟩, hb3⟩
    obtain ⟨A2, k2, rfl⟩ := row_form hrow
    have hl3 := (hb3.block _ (by have := HW.out.2.2.2; omega)).trans HW.out.2.1
    have hr3 := (hb3.block _ HW.out.2.2.2).trans HW.out.2.2.1
    have hfz := frozenOf hl3 2
    obtain ⟨x0, x1, x2⟩ := cellsOf3 hl3
    have hsz : ((w.alloc (.cells #[.string op, .int .i64 num, .slice A L cap] 24)).alloc (.cells #[.string ⟨#[]⟩, .int .i64 0, nilS] 24)).heap.size = w.heap.size + 1 + 1 := by simp
    have hW4 : OwnAt w v 0 (.slice A2 L k2) ss (w3.setCell ⟨w.heap.size, 2, none⟩ (.slice A2 L k2)) := by
      have hset : ∀ k, k ≠ w.heap.size → (w3.setCell ⟨w.heap.size, 2, none⟩ (.slice A2 L k2)).heap[k]? = w3.heap[k]? := fun k hk => Below.heap_setCell _ _ _ _ hk
      rw [hsz] at hrow
      refine ⟨?_, ?_, ?_, ?_, fun j hj => by omega, fun j _ hj => ?_⟩
      · exact (HW.out.1.trans (hb3.mono HW.out.1.size)).setCell (Nat.le_refl _) _
      · rw [HO.out.1, HO.out.2.1]
        exact set2 hl3 _
      · rw [hset _ (by omega)]
        exact hr3
      · rw [HO.out.2.2]
        refine owns_block hrow fun k hk => hset k ?_
        have := (row_lt hrow hk).1
        omega
      · exact HKI.out j (by rw [← HO.out.2.2]; exact hj)
    have H4 := Lib.hid hW4
    clear hrow hb3 hl3 hr3 hsz hW4
    go_wp2_with fail
    generalize w3.setCell ⟨w.heap.size, 2, none⟩ (.slice A2 L k2) = W4 at *
    clear x0 x1 x2 hfz
    go_loopg [12] L (fun gk iv wr => ∃ (i : Nat) (ss : Nat → Value), iv = .int .i64 i ∧ i + gk = L ∧ OwnAt w v i (.slice A2 L k2) ss wr)
    case atStart => exact ⟨0, _, rfl, by omega, H4.out⟩
    case round =>
      obtain ⟨i, ss, rfl, hi, hat⟩ := hrel
      have H1 := Lib.hid hat
      obtain ⟨x0, x1, x2⟩ := cellsOf3 hat.box
      clear hat
      by_cases e : i = L
      · subst e
        have hy := frozenOf H1.out.res
        obtain ⟨y0, y1, y2⟩ := cellsOf3 H1.out.res
        go_wp2_with fail
        have hW3 := set3 H1.out.res (.string v.op) (.int .i64 v.num) (.slice A2 i k2)
        obtain ⟨r0, r1, r2⟩ := cellsOf3 hW3
        have hset : ∀ k, k ≠ w.heap.size + 1 → (((wr.setCell ⟨w.heap.size + 1, 0, none⟩ (.string v.op)).setCell ⟨w.heap.size + 1, 1, none⟩ (.int .i64 v.num)).setCell ⟨w.heap.size + 1, 2, none⟩ (.slice A2 i k2)).heap[k]? = wr.heap[k]? := fun k hk => by
          rw [Below.heap_setCell _ _ _ _ hk, Below.heap_setCell _ _ _ _ hk, Below.heap_setCell _ _ _ _ hk]
        have hbe : Below w.heap.size w (((wr.setCell ⟨w.heap.size + 1, 0, none⟩ (.string v.op)).setCell ⟨w.heap.size + 1, 1, none⟩ (.int .i64 v.num)).setCell ⟨w.heap.size + 1, 2, none⟩ (.slice A2 i k2)) := ((H1.out.below.setCell (by simp) _).setCell (by simp) _).setCell (by simp) _
        have H1' := H1.out
        rw [← HO.out.2.2] at H1' hset hbe r0 r1 r2 ⊢
        have hdone := H1'.done (by rw [HO.out.2.2]; exact hmax) _ (by simp [World.setCell]) (fun k _ hk => hset k (by omega))
        refine bodyPost_ret (v := .agg #[.string v.op, .int .i64 v.num, .slice A2 v.kids.length k2]) (by simp [results, Tryd.results27, go_sem, r0, r1, r2]) rfl ⟨⟨_, ?_, hdone.1, _, hdone.2⟩, hbe⟩
        rw [HO.out.1, HO.out.2.1]
      · have hil : i < L := by omega
        have hil' : i < v.kids.length := by rw [HO.out.2.2]; exact hil
        obtain ⟨g, cp, hA2, hg1, hg2⟩ := World.ownsRow.form H1.out.row (by omega)
        rw [HO.out.2.2] at hA2
        injection hA2 with hA2 _ hcp
        subst hA2 hcp
        have H1r := H1.out.row
        rw [HO.out.2.2] at H1r
        have a0 := (World.ownsRow.cellAt H1r (i * 3 + 0) (by omega)).trans (rowsN_get (rowV_length v.kids ss) (j := 0) hil (by decide))
        have a1 := (World.ownsRow.cellAt H1r (i * 3 + 1) (by omega)).trans (rowsN_get (rowV_length v.kids ss) (j := 1) hil (by decide))
        have a2 := (World.ownsRow.cellAt H1r (i * 3 + 2) (by omega)).trans (rowsN_get (rowV_length v.kids ss) (j := 2) hil (by decide))
        replace a0 : wr.cell? ⟨g, i * 3, none⟩ = some (.string (v.kids.getD i default).op) := a0
        replace a1 : wr.cell? ⟨g, i * 3 + 1, none⟩ = some (.int .i64 (v.kids.getD i default).num) := a1
        replace a2 : wr.cell? ⟨g, i * 3 + 2, none⟩ = some (ss i) := a2
        have hold := H1.out.olds i (Nat.le_refl _) hil'
        obtain ⟨A1, k1, hs1, _, _⟩ := hold.inv
        rw [hs1] at a2
        have hsz := HS.out i hil
        have hN' := HN.out
        have hbw : Below wr.heap.size wr (wr.alloc (.cells #[.string (v.kids.getD i default).op, .int .i64 (v.kids.getD i default).num, .slice A1 (v.kids.getD i default).kids.length k1] 24)).drew := ((Below.refl wr.heap.size wr).alloc (Nat.le_refl _) _).drew
        have hc := IH.out _ _ _ (show SizeOf.sizeOf (v.kids.getD i default) ≤ N by omega) ((hold.under H1.out.below).under hbw)
        rw [hs1] at hc
        have hlo := heap_lt H1.out.box
        have HST := Lib.hid (fun w5 s5 hb5 hp5 => H1.out.step (w5 := w5) (s5 := s5) hil' hbw hb5 hp5)
        have HK5 := Lib.hid (show ∀ w5, Below (wr.alloc (.cells #[.string (v.kids.getD i default).op, .int .i64 (v.kids.getD i default).num, .slice A1 (v.kids.getD i default).kids.length k1] 24)).drew.heap.size (wr.alloc (.cells #[.string (v.kids.getD i default).op, .int .i64 (v.kids.getD i default).num, .slice A1 (v.kids.getD i default).kids.length k1] 24)).drew w5 →
            w5.cell? ⟨w.heap.size, 2, none⟩ = some (.slice (some ⟨g, 0, none⟩) L k2) ∧ (w5.cell? ⟨g, i * 3, none⟩ = some (.string (v.kids.getD i default).op) ∧ w5.cell? ⟨g, i * 3 + 1, none⟩ = some (.int .i64 (v.kids.getD i default).num) ∧ w5.cell? ⟨g, i * 3 + 2, none⟩ = some (.slice A1 (v.kids.getD i default).kids.length k1)) ∧
            (w5.frozen? ⟨g, i * 3, none⟩ = false ∧ w5.frozen? ⟨g, i * 3 + 1, none⟩ = false ∧ w5.frozen? ⟨g, i * 3 + 2, none⟩ = false) from fun w5 hb => by
          have hs1 : (wr.alloc (.cells #[.string (v.kids.getD i default).op, .int .i64 (v.kids.getD i default).num, .slice A1 (v.kids.getD i default).kids.length k1] 24)).drew.heap.size = wr.heap.size + 1 := by
            show (World.alloc _ _).heap.size = _
            simp
          have old : ∀ k, k < wr.heap.size → w5.heap[k]? = wr.heap[k]? := fun k hk => (hb.block k (by omega)).trans (hbw.block k hk)
          exact ⟨(World.cell?_of_block (old _ hlo)).trans x2, ⟨(World.cell?_of_block (old _ hg2)).trans a0, (World.cell?_of_block (old _ hg2)).trans a1, (World.cell?_of_block (old _ hg2)).trans a2⟩,
            (World.frozen?_of_block (old _ hg2)).trans (World.ownsRow.frozenAt H1r _), (World.frozen?_of_block (old _ hg2)).trans (World.ownsRow.frozenAt H1r _), (World.frozen?_of_block (old _ hg2)).trans (World.ownsRow.frozenAt H1r _)⟩)
        have hi0 : (0 : Int) ≤ (i : Int) := by omega
        have hi1 : (i : Int) < (L : Int) := by omega
        clear hold hs1 hsz hN' hbw H1r hg1
        unfold aggV at hc
        generalize hx : v.kids.getD i default = x at *
        clear hx
        go_wp2_with fail
        go_region_law ((go_simp; go_at_call 27; refine hc.mono ?_; rintro e w5 ⟨⟨s5, rfl, hp5, _⟩, hb5⟩; obtain ⟨A5, k5, rfl⟩ := hp5.form; obtain ⟨x25, ⟨b0, b1, b2⟩, z0, z1, z2⟩ := HK5.out w5 hb5))
        all_goals
          have HP := Lib.hid (HST.out w5 _ hb5 hp5)
          clear hb5 hp5 x25 b0 b1 b2 z0 z1 z2 x0 x1 x2 a0 a1 a2 hlo
          generalize ((w5.setCell ⟨g, i * 3, none⟩ (.string x.op)).setCell ⟨g, i * 3 + 1, none⟩ (.int .i64 x.num)).setCell ⟨g, i * 3 + 2, none⟩ (.slice A5 x.kids.length k5) = W6 at *
          go_wp2_with fail
          go_roundg (gk - 1)
          case measure => omega
          case rel => exact ⟨i + 1, _, by simp, by omega, HP.out⟩
end Go.Proofs.YtofijodndilmbaaDoor
