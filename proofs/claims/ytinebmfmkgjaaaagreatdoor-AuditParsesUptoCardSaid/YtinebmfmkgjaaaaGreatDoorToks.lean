/- What a text's tokens number; what is wrong has a code. -/
import Derived.Test.YtinebmfmkgjaaaaGreatDoorRef5
set_option linter.unusedVariables false
set_option linter.unusedSimpArgs false
namespace Go.Proofs.YtinebmfmkgjaaaaGreatDoor

theorem refB_spec : ∀ (N : Nat) (t : ByteArray) (ps : List (Int × Int)) (b : Bool), t.size < N → (∀ x l c, refB N t ps b = .bad x l c → x = 6 ∨ x = 4) ∧ (∀ r, refB N t ps b = .good r → 1 ≤ r.length ∧ r.length ≤ t.size + 1)
  | 0, t, ps, b, h => absurd h (by omega)
  | N + 1, t, ps, b, h => by
    unfold refB
    split
    · refine ⟨fun x l c e => (by cases e), fun r e => ?_⟩
      cases e
      simp
    · rename_i h0
      split
      · have ih := refB_spec N (aft t 1) (ps.drop 1) (noteB b (t.get! 0).toNat) (by rw [aft_size]; omega)
        exact ⟨ih.1, fun r e => by have := ih.2 r e; rw [aft_size] at this; omega⟩
      · cases hr : readB t with
        | bad e =>
          refine ⟨fun x l c he => ?_, fun r he => (by cases he)⟩
          cases he
          exact read_code hr
        | tok k n v =>
          have hn := readB_n (by omega) hr
          have ih := refB_spec N (aft t n) (ps.drop n) false (by rw [aft_size]; omega)
          simp only
          cases hq : refB N (aft t n) (ps.drop n) false with
          | bad x l c =>
            rw [hq] at ih
            refine ⟨fun x' l' c' he => ?_, fun r he => (by cases he)⟩
            cases he
            exact ih.1 _ _ _ rfl
          | good r =>
            rw [hq] at ih
            refine ⟨fun x' l' c' he => (by cases he), fun r' he => ?_⟩
            cases he
            have := ih.2 r rfl
            rw [aft_size] at this
            simp
            omega
theorem tokens_spec (s : ByteArray) : (∀ x l c, tokensB s = .bad x l c → x ≠ 0) ∧ (∀ r, tokensB s = .good r → 1 ≤ r.length ∧ r.length ≤ 1048576) := by
  rw [← ref_tokens]
  unfold refTokens
  split
  · exact ⟨fun x l c e => by cases e; decide, fun r e => by cases e⟩
  · rename_i h
    cases hv : va s 1 1 with
    | some p => exact ⟨fun x l c e => by cases e; decide, fun r e => by cases e⟩
    | none =>
      have k := refB_spec (s.size + 1) s (pl s 1 1) false (Nat.lt_succ_self _)
      exact ⟨fun x l c e => by rcases k.1 x l c e with h | h <;> omega, fun r e => by have := k.2 r e; omega⟩
end Go.Proofs.YtinebmfmkgjaaaaGreatDoor
