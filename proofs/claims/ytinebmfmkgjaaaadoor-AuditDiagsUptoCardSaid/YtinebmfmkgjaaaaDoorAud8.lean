/- The law AuditDiags. -/
import Derived.Test.YtinebmfmkgjaaaaDoorAud7
set_option linter.unusedVariables false
set_option linter.unusedSimpArgs false
namespace Go.Proofs.YtinebmfmkgjaaaaDoor
open Go.RowKit

set_option maxRecDepth 100000 in
set_option maxHeartbeats 4000000 in
theorem AuditDiags_in (what : ByteArray) (A : Option Addr) (cap : Nat) (ds : List Dg) (w : World) (hw : what.size ≤ 1048576) (hmax : ds.length ≤ 1048576) (hd : ∀ i, i < ds.length → (ds.getD i default).ok) (hat : DgsAt w A ds) (henv : Env w) (ht : TabOk w) :
    Calls Tryd.prog 4 #[.string what, .slice A ds.length cap] w fun e w' => e = .returned (.bool true) ∧ Below w.heap.size w w' := by
  have hc := lives20_in henv ht
  have HE := Lib.hid (show ∀ W, Below w.heap.size w W → Env W ∧ TabOk W ∧ DgsAt W A ds from fun W hb => ⟨henv.below hb, ht.under hb, hat.under hb⟩)
  have HD := Lib.hid hd
  clear henv ht hat hd
  go_enter Tryd.func4, Tryd.ntmps4
  go_wp2_with fail
  refine hc.mono ?_
  clear hc
  rintro e w1 ⟨rfl, hb1⟩
  have HB1 := Lib.hid hb1
  clear hb1
  by_cases h100 : (100 : Int) < (ds.length : Int)
  · have hc := lives20_in (HE.out w1 HB1.out).1 (HE.out w1 HB1.out).2.1
    go_wp2_with fail
    refine hc.mono ?_
    clear hc
    rintro e w2 ⟨rfl, hb2⟩
    have HB2 := Lib.hid (chain HB1.out hb2)
    clear hb2
    go_wp2_with fail
    go_ret
    exact ⟨rfl, HB2.out⟩
  · have hn : ds.length ≤ 100 := by omega
    have hc := Diags_in what A cap ds w1 hw hn HD.out (HE.out w1 HB1.out).2.2 (HE.out w1 HB1.out).2.1
    go_wp2_with fail
    refine hc.mono ?_
    clear hc
    rintro e w2 ⟨⟨v, rfl, hown⟩, hb2⟩
    have HB2 := Lib.hid (chain HB1.out hb2)
    obtain ⟨A2, k2, rfl⟩ := row_form hown
    have HO := Lib.hid hown
    have HCE := Lib.hid (show ∀ W k, Below w2.heap.size w2 W → k < ds.length → ∃ b off g, A = some ⟨b, off, none⟩ ∧ A2 = some ⟨g, 0, none⟩ ∧ W.cell? ⟨g, k, none⟩ = some (.string (lineB what (ds.getD k default))) ∧ (W.cell? ⟨b, off + k * 4, none⟩ = some (.int .i64 (ds.getD k default).code) ∧ W.cell? ⟨b, off + k * 4 + 1, none⟩ = some (.int .i64 (ds.getD k default).line) ∧
      W.cell? ⟨b, off + k * 4 + 2, none⟩ = some (.int .i64 (ds.getD k default).col) ∧ W.cell? ⟨b, off + k * 4 + 3, none⟩ = some (.string (ds.getD k default).name)) from fun W k hb hk => by
      rcases (HE.out W (chain HB2.out hb)).2.2 with h | ⟨b, off, h1, h2⟩
      · omega
      · obtain ⟨g, cap2, he, _, _⟩ := HO.out.form (by omega)
        cases he
        have hcell := HO.out.cells (g := g) rfl k (.string (lineB what (ds.getD k default))) (by simp [strs, List.getD, hk])
        rw [add_at, Nat.zero_add] at hcell
        exact ⟨b, off, g, h1, rfl, (World.cell?_of_block (hb.block _ (cell_lt hcell))).trans hcell, h2 k hk⟩)
    clear hb2 hown
    go_wp2_with fail
    go_loopw [27] (fun i wr => ∃ k : Nat, i = .int .i64 k ∧ k ≤ ds.length ∧ Below w2.heap.size w2 wr) (fun i _ => ((ds.length : Int) - intOf i).toNat)
    case atStart => exact ⟨0, rfl, by omega, Below.refl _ _⟩
    case round =>
      obtain ⟨k, rfl, hk, hb⟩ := hrel
      have HB := Lib.hid hb
      clear hb
      by_cases hkl : k < ds.length
      · have hki : (k : Int) < ds.length := by omega
        obtain ⟨b, off, g, rfl, rfl, cg, c0, c1, c2, c3⟩ := HCE.out wr k HB.out hkl
        have hok := HD.out k hkl
        generalize ds.getD k default = d at *
        have HLN := Lib.hid (show lineB what d = if d.name.size = 0 then headL what d else headL what d ++ (⟨#[32]⟩ ++ d.name) from rfl)
        have HHD := Lib.hid (show headL what d = what ++ ⟨#[32]⟩ ++ atB d.line d.col ++ ⟨#[32]⟩ ++ figs d.code from rfl)
        have HOK := Lib.hid hok
        have hs1 := atB_size hok.2.1 hok.2.2.1
        have hs2 := figs_size hok.1.1 hok.1.2
        have hs3 := hok.2.2.2
        clear hok
        have hbd : Below wr.heap.size wr (wr.alloc (.cells #[.int .i64 d.code, .int .i64 d.line, .int .i64 d.col, .string d.name] 39)) := (Below.refl _ _).alloc (Nat.le_refl _) _
        have HCL := Lib.hid (show ∀ w', Below (wr.alloc (.cells #[.int .i64 d.code, .int .i64 d.line, .int .i64 d.col, .string d.name] 39)).heap.size (wr.alloc (.cells #[.int .i64 d.code, .int .i64 d.line, .int .i64 d.col, .string d.name] 39)) w' → w'.cell? ⟨wr.heap.size, 0, none⟩ = some (.int .i64 d.code) ∧ (w'.cell? ⟨wr.heap.size, 1, none⟩ = some (.int .i64 d.line) ∧ w'.cell? ⟨wr.heap.size, 2, none⟩ = some (.int .i64 d.col)) ∧ w'.cell? ⟨wr.heap.size, 3, none⟩ = some (.string d.name) ∧ w'.cell? ⟨g, k, none⟩ = some (.string (lineB what d)) from fun w' hb => by
          obtain ⟨x0, x1, x2, x3⟩ := cellsOf4 ((hb.block _ (by simp)).trans (last wr (.cells #[.int .i64 d.code, .int .i64 d.line, .int .i64 d.col, .string d.name] 39)))
          exact ⟨x0, ⟨x1, x2⟩, x3, (World.cell?_of_block ((chain hbd hb).block _ (cell_lt cg))).trans cg⟩)
        have HF := Lib.hid (show ∀ w', Below (wr.alloc (.cells #[.int .i64 d.code, .int .i64 d.line, .int .i64 d.col, .string d.name] 39)).heap.size (wr.alloc (.cells #[.int .i64 d.code, .int .i64 d.line, .int .i64 d.col, .string d.name] 39)) w' → Below w2.heap.size w2 w' from fun w' hb => chain (chain HB.out hbd) hb)
        have HA := Lib.hid (fun w' => refAt_in d.line d.col w' HOK.out.2.1 HOK.out.2.2.1)
        have HI := Lib.hid (fun w' => Digits_in d.code w' HOK.out.1.1 HOK.out.1.2)
        clear hbd
        go_wp2_with fail
        generalize wr.alloc (.cells #[.int .i64 d.code, .int .i64 d.line, .int .i64 d.col, .string d.name] 39) = wd at *
        generalize hP : atB d.line d.col = P at *
        generalize hG : figs d.code = G at *
        clear hP hG c0 c1 c2 c3 cg
        have z1 : ¬ 9223372036854775807 < what.size + 1 := by omega
        have z2 : ¬ 9223372036854775807 < what.size + 1 + P.size := by omega
        have z3 : ¬ 9223372036854775807 < what.size + 1 + P.size + 1 := by omega
        have z4 : ¬ 9223372036854775807 < what.size + 1 + P.size + 1 + G.size := by omega
        have hbw1 : Below wd.heap.size wd wd.drew := (Below.refl _ wd).drew
        obtain ⟨c0, ⟨c1, c2⟩, c3, cz⟩ := HCL.out _ hbw1
        go_region_held3 (fun w' => w'.cell? ⟨wr.heap.size, 0, none⟩ = some (.int .i64 d.code) ∧ (w'.cell? ⟨wr.heap.size, 1, none⟩ = some (.int .i64 d.line) ∧ w'.cell? ⟨wr.heap.size, 2, none⟩ = some (.int .i64 d.col)) ∧ w'.cell? ⟨wr.heap.size, 3, none⟩ = some (.string d.name) ∧ w'.cell? ⟨g, k, none⟩ = some (.string (lineB what d))) (first | exact HCL.out _ (by with_reducible assumption))
          (first
            | (go_at_call 11; refine (HA.out _).mono ?_; rintro e w3 ⟨rfl, hbn⟩; have hbw3 := chain (by with_reducible assumption) hbn; clear hbn; obtain ⟨c0, ⟨c1, c2⟩, c3, cz⟩ := HCL.out _ hbw3)
            | (go_at_call 12; refine (HI.out _).mono ?_; rintro e w4 ⟨rfl, rfl⟩))
        all_goals
          have HFF := Lib.hid (HF.out _ (by with_reducible assumption))
          have hze : d.name.toList.isEmpty = decide (d.name.size = 0) := by
            rw [Lib.toList_data]
            have hq : d.name.data.toList.length = d.name.size := by simp
            cases hl : d.name.data.toList with
            | nil => rw [hl] at hq; simp at hq; simp [← hq]
            | cons x r => rw [hl] at hq; simp at hq; simp [← hq]
          cases hz : d.name.toList.isEmpty with
          | false =>
            rw [hz] at hze
            have HZ := Lib.hid (show ¬ d.name.size = 0 by simpa using hze.symm)
            clear hze
            rw [HLN.out, if_neg HZ.out, HHD.out] at cz
            go_wp2_with fail
            exact ⟨⟨k + 1, by simp, by omega, HFF.out⟩, by simp [intOf]; omega⟩
          | true =>
            rw [hz] at hze
            have HZ := Lib.hid (show d.name.size = 0 by simpa using hze.symm)
            clear hze
            rw [HLN.out, if_pos HZ.out, HHD.out] at cz
            go_wp2_with fail
            exact ⟨⟨k + 1, by simp, by omega, HFF.out⟩, by simp [intOf]; omega⟩
      · have hki : ¬ (k : Int) < ds.length := by omega
        have HF := Lib.hid (chain HB2.out HB.out)
        go_wp2_with fail
        go_ret
        exact ⟨rfl, HF.out⟩
end Go.Proofs.YtinebmfmkgjaaaaDoor
