/- Are texts names, and none of them main? Has a row a line? -/
import Derived.Test.YtinebmfmkgjaaaaGreatDoorAud2
set_option linter.unusedVariables false
set_option linter.unusedSimpArgs false
namespace Go.Proofs.YtinebmfmkgjaaaaGreatDoor
open Go.RowKit

def badB (z : ByteArray) : Bool := !nameOk z || mainB z
/-- Texts lie one behind the other. -/
def TextsAt (w : World) (b off : Nat) (zs : List ByteArray) : Prop := ∀ j, j < zs.length → w.cell? ⟨b, off + j, none⟩ = some (.string (zs.getD j ByteArray.empty))
theorem TextsAt.under {w w' : World} {b off : Nat} {zs : List ByteArray} (h : TextsAt w b off zs) (hb : Below w.heap.size w w') : TextsAt w' b off zs := fun j hj =>
  (World.cell?_of_block (hb.block _ (cell_lt (h j hj)))).trans (h j hj)
theorem any_of {zs : List ByteArray} {k : Nat} (hk : k < zs.length) (h : badB (zs.getD k ByteArray.empty) = true) : zs.any badB = true := by
  rw [List.any_eq_true]
  exact ⟨_, List.getElem_mem hk, by simpa [List.getD, hk] using h⟩
theorem any_none {zs : List ByteArray} (h : ∀ j, j < zs.length → badB (zs.getD j ByteArray.empty) = false) : zs.any badB = false := by
  rw [List.any_eq_false]
  intro z hz
  obtain ⟨i, hi, rfl⟩ := List.getElem_of_mem hz
  have := h i hi
  simpa [List.getD, hi] using this
section
variable {zs : List ByteArray} {b off cap : Nat} {w : World}
set_option maxHeartbeats 4000000 in
theorem IndexFunc_gen {g : FuncId} (eg : ∀ args w, (callFunc g args).run Tryz.prog w = .ok (.enter g args) w) (hg : ∀ s W, Env W → s.size ≤ 140737488355328 → Calls Tryz.prog g #[.string s] W fun e w' => e = .returned (.bool (badB s)) ∧ Below W.heap.size W w') (henv : Env w) (ht : TextsAt w b off zs) (hl : zs.length ≤ 1000000) (hs : ∀ j, j < zs.length → (zs.getD j ByteArray.empty).size ≤ 140737488355328) :
    Calls Tryz.prog 83 #[.slice (some ⟨b, off, none⟩) zs.length cap, .func (.func g) #[] #[]] w fun e w' => (∃ r : Int, e = .returned (.int .i64 r) ∧ decide (0 ≤ r) = zs.any badB) ∧ Below w.heap.size w w' := by
  have HI := Lib.hid (show ∀ k W, k < zs.length → Below w.heap.size w W → W.cell? ⟨b, off + k, none⟩ = some (.string (zs.getD k ByteArray.empty)) ∧ Calls Tryz.prog g #[.string (zs.getD k ByteArray.empty)] W fun e w' => e = .returned (.bool (badB (zs.getD k ByteArray.empty))) ∧ Below W.heap.size W w' from fun k W hk hb =>
    ⟨(ht.under hb) k hk, hg _ W (henv.below hb) (hs k hk)⟩)
  clear henv ht hs hg
  go_enter Tryz.func83, Tryz.ntmps83
  go_wp2_with fail
  go_loopw [5, 8] (fun _ i wr => ∃ k : Nat, i = .int .i64 k ∧ k ≤ zs.length ∧ Below w.heap.size w wr ∧ ∀ j, j < k → badB (zs.getD j ByteArray.empty) = false) (fun _ i _ => ((zs.length : Int) - intOf i).toNat)
  case atStart => exact ⟨0, rfl, by omega, Below.refl _ _, fun j hj => by omega⟩
  case round =>
    obtain ⟨k, rfl, hk, hb, hbad⟩ := hrel
    by_cases hkl : k < zs.length
    · have hki : (k : Int) < zs.length := by omega
      obtain ⟨h3, hcall⟩ := HI.out k wr hkl hb
      have HB := Lib.hid (And.intro hb hbad)
      clear hb hbad
      generalize hy : zs.getD k ByteArray.empty = y at *
      cases hq : badB y with
      | false =>
        rw [hq] at hcall
        have HQ := Lib.hid (hy ▸ hq)
        clear hq hy
        go_wp2_with (go_at_fn g; refine hcall.mono ?_; rintro e w' ⟨rfl, hb'⟩)
        exact ⟨⟨k + 1, by simp, by omega, HB.out.1.trans (hb'.mono HB.out.1.size), fun j hj => by
          by_cases hjk : j < k
          · exact HB.out.2 j hjk
          · obtain rfl : j = k := by omega
            exact HQ.out⟩, by simp [intOf]; omega⟩
      | true =>
        rw [hq] at hcall
        have HQ := Lib.hid (show zs.any badB = true from any_of hkl (by rw [hy]; exact hq))
        clear hq hy
        go_wp2_with (go_at_fn g; refine hcall.mono ?_; rintro e w' ⟨rfl, hb'⟩)
        go_ret
        exact ⟨⟨_, rfl, by rw [HQ.out]; simp⟩, HB.out.1.trans (hb'.mono HB.out.1.size)⟩
    · have hki : ¬ (k : Int) < zs.length := by omega
      have hke : k = zs.length := by omega
      have HB := Lib.hid (And.intro hb hbad)
      clear hb hbad
      go_wp2_with fail
      go_ret
      refine ⟨⟨_, rfl, ?_⟩, HB.out.1⟩
      rw [any_none (fun j hj => HB.out.2 j (by omega))]
      simp

theorem IndexFunc_in (henv : Env w) (ht : TextsAt w b off zs) (hl : zs.length ≤ 1000000) (hs : ∀ j, j < zs.length → (zs.getD j ByteArray.empty).size ≤ 140737488355328) :
    Calls Tryz.prog 83 #[.slice (some ⟨b, off, none⟩) zs.length cap, .func (.func 65) #[] #[]] w fun e w' => (∃ r : Int, e = .returned (.int .i64 r) ∧ decide (0 ≤ r) = zs.any badB) ∧ Below w.heap.size w w' :=
  IndexFunc_gen (fun _ _ => by kernel_rfl) closure_in henv ht hl hs

set_option maxHeartbeats 4000000 in
theorem names_in (henv : Env w) (ht : TextsAt w b off zs) (hl : zs.length ≤ 1000000) (hs : ∀ j, j < zs.length → (zs.getD j ByteArray.empty).size ≤ 140737488355328) :
    Calls Tryz.prog 30 #[.slice (some ⟨b, off, none⟩) zs.length cap] w fun e w' => e = .returned (.bool (!zs.any badB)) ∧ Below w.heap.size w w' := by
  have hc := IndexFunc_in (cap := cap) henv ht hl hs
  have hd : Calls Tryz.prog 64 #[.slice (some ⟨b, off, none⟩) zs.length cap, .func (.func 65) #[] #[]] w fun e w' => e = .returned (.bool (zs.any badB)) ∧ Below w.heap.size w w' := by
    clear henv ht hs
    go_enter Tryz.func64, Tryz.ntmps64
    go_wp2_with fail
    refine hc.mono ?_
    rintro e w' ⟨⟨r, rfl, hr⟩, hb⟩
    clear hc
    have HB := Lib.hid hb
    have HR := Lib.hid hr
    clear hb hr
    go_wp2_with fail
    go_ret
    exact ⟨by rw [← HR.out]; rfl, HB.out⟩
  clear hc henv ht hs
  generalize zs.any badB = q at *
  go_enter Tryz.func30, Tryz.ntmps30
  go_wp2_with fail
  refine hd.mono ?_
  rintro e w' ⟨rfl, hb⟩
  clear hd
  have HB := Lib.hid hb
  clear hb
  go_wp2_with fail
  go_ret
  exact ⟨rfl, HB.out⟩
end
end Go.Proofs.YtinebmfmkgjaaaaGreatDoor
