/- The fixed line's tokens; each of the language's own names alone. -/
import Derived.Test.YtinebmfmkgjaaaaGreatDoorLex7
set_option linter.unusedVariables false
set_option linter.unusedSimpArgs false
namespace Go.Proofs.YtinebmfmkgjaaaaGreatDoor
open Go.RowKit

theorem tok_line : tokensB (bs [108, 101, 116, 32, 120, 32, 58, 61, 32, 49, 32, 35, 32, 121]) = .good [⟨2, bs [108, 101, 116], 0, 1, 1⟩, ⟨1, bs [120], 0, 1, 5⟩, ⟨4, bs [58, 61], 0, 1, 7⟩, ⟨3, bs [49], 1, 1, 10⟩, ⟨0, bs [], 0, 1, 15⟩] := by
  kernel_rfl
/-- One of the language's own names, alone. -/
theorem tok_own {s : ByteArray} (h : s ∈ owns) : ∃ x, tokensB s = .good [⟨2, s, 0, 1, 1⟩, x] := by
  have h : ∀ s ∈ owns, tokensB s = .good [⟨2, s, 0, 1, 1⟩, ⟨0, bs [], 0, 1, 1 + s.size⟩] := by
    simp only [owns, List.mem_cons, List.not_mem_nil, or_false, forall_eq_or_imp, forall_eq]
    refine ⟨?_, ?_, ?_, ?_, ?_, ?_, ?_, ?_, ?_, ?_, ?_, ?_, ?_, ?_, ?_, ?_, ?_, ?_, ?_, ?_, ?_, ?_, ?_, ?_, ?_, ?_, ?_, ?_, ?_, ?_⟩ <;> kernel_rfl
  exact ⟨_, h _ ‹_›⟩
end Go.Proofs.YtinebmfmkgjaaaaGreatDoor
