/- number. -/
import Derived.Test.YtinebmfmkgjaaaaGreatDoorAuP4
set_option linter.unusedVariables false
set_option linter.unusedSimpArgs false
namespace Go.Proofs.YtinebmfmkgjaaaaGreatDoor
open Go.RowKit

/-- strconv's two error variables hold errors. -/
structure ErrVs (w : World) : Prop where
  syn : ∃ t p, w.cell? ⟨4, 0, none⟩ = some (.iface t p)
  rng : ∃ t p, w.cell? ⟨5, 0, none⟩ = some (.iface t p)
theorem ErrVs.below {w w' : World} (h : ErrVs w) (hb : Below w.heap.size w w') : ErrVs w' := by
  obtain ⟨⟨t, p, h1⟩, ⟨t', p', h2⟩⟩ := h
  exact ⟨⟨t, p, (hb.cell (p := ⟨4, 0, none⟩) (cell_lt h1)).trans h1⟩, ⟨t', p', (hb.cell (p := ⟨5, 0, none⟩) (cell_lt h2)).trans h2⟩⟩
def AtEnd (s : ByteArray) (e : Ending) : Prop := match Lib.atoiAll s.data.toList with
  | .ok v => e = .returned (.tuple #[.int .i64 v, .nilIface])
  | _ => ∃ v t p, e = .returned (.tuple #[.int .i64 v, .iface t p])
theorem atoi_in (s : ByteArray) (w : World) (hs : s.size ≤ 8388608) (hv : ErrVs w) : Calls Tryz.prog 87 #[.string s] w fun e w' => AtEnd s e ∧ Below w.heap.size w w' := by
  obtain ⟨t1, p1, h1⟩ := hv.syn
  obtain ⟨t2, p2, h2⟩ := hv.rng
  unfold AtEnd
  rcases hA : Lib.atoiAll s.data.toList with v | _ | _
  · refine (Tryz.strconv_Atoi_ok s (by omega) v hA w).mono ?_
    rintro e w' ⟨rfl, hw⟩
    refine ⟨rfl, ?_⟩
    rcases hw with rfl | ⟨t, rfl⟩
    · exact Below.refl _ _
    · exact Lib.bytesWorld_below _ _ _
  · refine (Any.strconv_Atoi_syntax Tryz.laysC172 s (by omega) hA _ w h1 (.inr ⟨_, _, rfl⟩)).mono ?_
    rintro e w' ⟨N, rfl, _, _, hb⟩
    exact ⟨⟨_, _, _, rfl⟩, hb⟩
  · refine (Tryz.strconv_Atoi_range s (by omega) hA _ w h2 (.inr ⟨_, _, rfl⟩)).mono ?_
    rintro e w' ⟨N, rfl, _, _, hb⟩
    exact ⟨⟨_, _, _, rfl⟩, hb⟩
set_option maxRecDepth 100000 in
set_option maxHeartbeats 4000000 in
theorem number_in (s : ByteArray) (w : World) (hs : s.size ≤ 8388608) (ht : TabOk w) (hv : ErrVs w) : Calls Tryz.prog 70 #[.string s] w fun e w' => e = .returned (.int .i64 (numB s)) ∧ Below w.heap.size w w' := by
  have hc := atoi_in s w hs hv
  have HT := Lib.hid ht
  clear ht hv
  unfold AtEnd at hc
  rcases hA : Lib.atoiAll s.data.toList with v | _ | _
  · rw [hA] at hc
    have HN := Lib.hid (show numB s = if 1 ≤ v ∧ v ≤ 1073741824 ∧ figs v = s then v else -1 by unfold numB; rw [hA])
    clear hA
    by_cases h1 : v < 1
    · have HR := Lib.hid (show numB s = -1 by rw [HN.out, if_neg (by omega)])
      go_enter Tryz.func70, Tryz.ntmps70
      go_wp2_with fail
      refine hc.mono ?_
      clear hc
      rintro e w1 ⟨rfl, hb1⟩
      have HB1 := Lib.hid hb1
      clear hb1
      go_wp2_with fail
      go_ret
      exact ⟨by rw [HR.out]; rfl, HB1.out⟩
    · by_cases h2 : (1073741824 : Int) < v
      · have HR := Lib.hid (show numB s = -1 by rw [HN.out, if_neg (by omega)])
        go_enter Tryz.func70, Tryz.ntmps70
        go_wp2_with fail
        refine hc.mono ?_
        clear hc
        rintro e w1 ⟨rfl, hb1⟩
        have HB1 := Lib.hid hb1
        clear hb1
        go_wp2_with fail
        go_ret
        exact ⟨by rw [HR.out]; rfl, HB1.out⟩
      · obtain ⟨F, hF⟩ : ∃ z, figs v = z := ⟨_, rfl⟩
        have HR := Lib.hid (show numB s = if F = s then v else -1 by
          rw [HN.out, hF]
          by_cases e : F = s
          · rw [if_pos e, if_pos ⟨by omega, by omega, e⟩]
          · rw [if_neg e, if_neg (fun h => e h.2.2)])
        have HI := Lib.hid fun W (h : TabOk W) => Itoa_in v W (by omega) (by omega) h
        rw [hF] at HI
        clear hF
        cases hq : F.toList == s.toList with
        | true =>
          have HR2 := Lib.hid (show numB s = v by rw [HR.out, if_pos ((Lib.bytes_beq_iff _ _).1 hq)])
          go_enter Tryz.func70, Tryz.ntmps70
          go_wp2_with fail
          refine hc.mono ?_
          clear hc
          rintro e w1 ⟨rfl, hb1⟩
          have HB1 := Lib.hid hb1
          clear hb1
          go_wp2_with fail
          refine (HI.out w1 (HT.out.under HB1.out)).mono ?_
          rintro e w2 ⟨rfl, hb2⟩
          have HB2 := Lib.hid (chain HB1.out hb2)
          clear hb2
          go_wp2_with fail
          go_ret
          exact ⟨by rw [HR2.out]; rfl, HB2.out⟩
        | false =>
          have HR2 := Lib.hid (show numB s = -1 by rw [HR.out, if_neg (fun e => by rw [(Lib.bytes_beq_iff _ _).2 e] at hq; cases hq)])
          go_enter Tryz.func70, Tryz.ntmps70
          go_wp2_with fail
          refine hc.mono ?_
          clear hc
          rintro e w1 ⟨rfl, hb1⟩
          have HB1 := Lib.hid hb1
          clear hb1
          go_wp2_with fail
          refine (HI.out w1 (HT.out.under HB1.out)).mono ?_
          rintro e w2 ⟨rfl, hb2⟩
          have HB2 := Lib.hid (chain HB1.out hb2)
          clear hb2
          go_wp2_with fail
          go_ret
          exact ⟨by rw [HR2.out]; rfl, HB2.out⟩
  all_goals
    rw [hA] at hc
    have HR := Lib.hid (show numB s = -1 by unfold numB; rw [hA])
    clear hA
    go_enter Tryz.func70, Tryz.ntmps70
    go_wp2_with fail
    refine hc.mono ?_
    clear hc
    rintro e w1 ⟨⟨v, t, p, rfl⟩, hb1⟩
    have HB1 := Lib.hid hb1
    clear hb1
    go_wp2_with fail
    go_ret
    exact ⟨by rw [HR.out]; rfl, HB1.out⟩
end Go.Proofs.YtinebmfmkgjaaaaGreatDoor
