/- Is a text a name? -/
import Derived.Test.YtinebmfmkgjaaaaGreatDoorAud1
set_option linter.unusedVariables false
set_option linter.unusedSimpArgs false
namespace Go.Proofs.YtinebmfmkgjaaaaGreatDoor
open Go.RowKit

/-- One name, alone. -/
def oneB (s : ByteArray) : Bool := match tokensB s with
  | .good [a, _] => decide (a.kind = 1) && (a.text.toList == s.toList)
  | _ => false
def mainB (s : ByteArray) : Bool := s.toList == [109, 97, 105, 110]
/-- A name, or main. -/
def nameOk (s : ByteArray) : Bool := mainB s || oneB s

set_option maxRecDepth 100000 in
set_option maxHeartbeats 4000000 in
theorem name_in (s : ByteArray) (w : World) (henv : Env w) (hmax : s.size ≤ 140737488355328) :
    Calls Tryz.prog 62 #[.string s] w fun e w' => e = .returned (.bool (nameOk s)) ∧ Below w.heap.size w w' := by
  have hc := Tokens_in s w henv hmax
  have HN := Lib.hid (show nameOk s = ((s.toList == [109, 97, 105, 110]) || oneB s) from rfl)
  have HE := Lib.hid henv
  clear henv
  go_enter Tryz.func62, Tryz.ntmps62
  cases ht : tokensB s with
  | bad x l c =>
    rw [ht] at hc
    have HO := Lib.hid (show oneB s = false by unfold oneB; rw [ht])
    clear ht
    unfold ToksEnd diagV at hc
    simp only at hc
    go_wp2_with fail
    refine hc.mono ?_
    clear hc
    rintro e w2 ⟨rfl, hb⟩
    have HB := Lib.hid hb
    clear hb
    cases hm : (s.toList == [109, 97, 105, 110]) with
    | true =>
      go_wp2_with fail
      go_ret
      exact ⟨by rw [HN.out, hm]; rfl, HB.out⟩
    | false =>
      go_wp2_with fail
      go_ret
      exact ⟨by rw [HN.out, hm, HO.out]; rfl, HB.out⟩
  | good l =>
    by_cases h2 : l.length = 2
    · obtain ⟨a, b, rfl⟩ : ∃ a b, l = [a, b] := by
        match l, h2 with
        | [a, b], _ => exact ⟨a, b, rfl⟩
      have HO := Lib.hid (show oneB s = (decide (a.kind = 1) && (a.text.toList == s.toList)) by unfold oneB; rw [ht])
      replace hc := Tokens_good ht (by simp) HE.out hmax
      clear ht h2
      simp only [List.length_cons, List.length_nil] at hc
      go_wp2_with fail
      refine hc.mono ?_
      clear hc
      rintro e w2 ⟨g, cap, rfl, hj, hb⟩
      have HB := Lib.hid hb
      clear hb
      have a0 := hj 0 (by simp)
      have a1 := hj 1 (by simp)
      clear hj
      replace a0 : w2.cell? ⟨g, 0, none⟩ = some (.int .i64 a.kind) := a0
      replace a1 : w2.cell? ⟨g, 1, none⟩ = some (.string a.text) := a1
      cases hm : (s.toList == [109, 97, 105, 110]) with
      | true =>
        go_wp2_with fail
        go_ret
        exact ⟨by rw [HN.out, hm]; rfl, HB.out⟩
      | false =>
        by_cases hk : a.kind = 1
        · cases hx : (a.text.toList == s.toList) with
          | true =>
            have HR := Lib.hid (show nameOk s = true by rw [HN.out, hm, HO.out, hx]; simp [hk])
            go_wp2_with fail
            go_ret
            exact ⟨by rw [HR.out]; rfl, HB.out⟩
          | false =>
            have HR := Lib.hid (show nameOk s = false by rw [HN.out, hm, HO.out, hx]; simp)
            go_wp2_with fail
            go_ret
            exact ⟨by rw [HR.out]; rfl, HB.out⟩
        · have HR := Lib.hid (show nameOk s = false by rw [HN.out, hm, HO.out]; simp [hk])
          go_wp2_with fail
          go_ret
          exact ⟨by rw [HR.out]; rfl, HB.out⟩
    · have HO := Lib.hid (show oneB s = false by
        unfold oneB
        rw [ht]
        match l, h2 with
        | [], _ => rfl
        | [a], _ => rfl
        | [a, b], h2 => exact absurd rfl h2
        | a :: b :: c :: r, _ => rfl)
      rw [ht] at hc
      clear ht
      have h2' : ¬ (l.length : Int) = 2 := by omega
      clear h2
      unfold ToksEnd at hc
      simp only at hc
      go_wp2_with fail
      refine hc.mono ?_
      clear hc
      rintro e w2 ⟨⟨rv, rfl, hown⟩, hb⟩
      obtain ⟨A, cap, rfl⟩ := row_form hown
      have HB := Lib.hid hb
      clear hb hown
      cases hm : (s.toList == [109, 97, 105, 110]) with
      | true =>
        go_wp2_with fail
        go_ret
        exact ⟨by rw [HN.out, hm]; rfl, HB.out⟩
      | false =>
        go_wp2_with fail
        go_ret
        exact ⟨by rw [HN.out, hm, HO.out]; rfl, HB.out⟩

theorem closure_in (s : ByteArray) (w : World) (henv : Env w) (hmax : s.size ≤ 140737488355328) :
    Calls Tryz.prog 65 #[.string s] w fun e w' => e = .returned (.bool (!nameOk s || mainB s)) ∧ Below w.heap.size w w' := by
  have hc := name_in s w henv hmax
  have HM := Lib.hid (show mainB s = (s.toList == [109, 97, 105, 110]) from rfl)
  go_enter Tryz.func65, Tryz.ntmps65
  clear henv
  cases hn : nameOk s with
  | false =>
    rw [hn] at hc
    go_wp2_with fail
    refine hc.mono ?_
    clear hc
    rintro e w2 ⟨rfl, hb⟩
    have HB := Lib.hid hb
    clear hb
    go_wp2_with fail
    go_ret
    exact ⟨rfl, HB.out⟩
  | true =>
    rw [hn] at hc
    cases hm : (s.toList == [109, 97, 105, 110]) with
    | true =>
      go_wp2_with fail
      refine hc.mono ?_
      clear hc
      rintro e w2 ⟨rfl, hb⟩
      have HB := Lib.hid hb
      clear hb
      go_wp2_with fail
      go_ret
      exact ⟨by rw [HM.out, hm]; rfl, HB.out⟩
    | false =>
      go_wp2_with fail
      refine hc.mono ?_
      clear hc
      rintro e w2 ⟨rfl, hb⟩
      have HB := Lib.hid hb
      clear hb
      go_wp2_with fail
      go_ret
      exact ⟨by rw [HM.out, hm]; rfl, HB.out⟩
end Go.Proofs.YtinebmfmkgjaaaaGreatDoor
