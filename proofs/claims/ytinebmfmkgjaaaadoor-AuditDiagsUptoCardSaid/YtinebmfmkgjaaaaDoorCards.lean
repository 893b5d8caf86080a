/-
  DERIVED. GIVEN WITH THE SEED: THE CARDS: each row of YtinebmfmkgjaaaaDoorRows.lean that lists a variable, with what it lists TIED to the program's text (the seventh form; the later family's looks); each row that meets fmt, with fmt's text TOLD by the authors' own Lean function (tested against real Go, not proved from fmt's source: count such statements apart). THE CARD IS WHAT COUNTS. Prove the row's statement (the work); the ties are given (YtinebmfmkgjaaaaDoorTie.lean); close each card by the builder's one call (the guide's Derived/Test/ToyasCard.lean, 'card_holds'). Laid BY PROGRAM, IN A SANDBOX (cutbox-door.mjs). By AI agents, Wed Nov 11 2026. No macro, syntax, notation, axiom, sorry.
-/
import Derived.Test.YtinebmfmkgjaaaaDoorRows
import GoSem.ClaimSeven
namespace Go.Proofs.YtinebmfmkgjaaaaDoor
namespace Rows

/-- THE TIED CARD OF 'whisperlaw03.LexNames'. -/
def lexNamesCard : Claim7 := { stood := { row := lexNamesRow, standIns := [], harness := (true, "be82a56b585283628f9588ff0bf8b54ca65018a0c9cb9be0ef3e29133878d943"), looks := true }, kinds := [], alts := [], laidByText := true, laidKinds := [.data, .data, .data, .data, .sentinel, .sentinel, .pinned], laidTests := true, laidLooks := .later }
def LexNamesCardSaid : Prop := Claim7.holds Tryd.pinned (.plain (OpenSpec.ofChange lexNamesSpec)) lexNamesCard

/-- THE TIED CARD OF 'whisperlaw20.AuditDiags'. -/
def auditDiagsCard : Claim7 := { stood := { row := auditDiagsRow, standIns := [], harness := (true, "be82a56b585283628f9588ff0bf8b54ca65018a0c9cb9be0ef3e29133878d943"), looks := true }, kinds := [], alts := [], laidByText := true, laidKinds := [.data, .data, .data, .data, .sentinel, .sentinel, .pinned], laidTests := true, laidLooks := .later }
def AuditDiagsCardSaid : Prop := Claim7.holds Tryd.pinned (.plain (OpenSpec.ofChange auditDiagsSpec)) auditDiagsCard

/-- THE SECOND FORM's CARD OF 'whisperlaw03.LexNames'. -/
def lexNamesUptoCard : Claim7 := { stood := { row := lexNamesUptoRow, standIns := [], harness := (true, "be82a56b585283628f9588ff0bf8b54ca65018a0c9cb9be0ef3e29133878d943"), looks := true }, kinds := [], alts := [], laidByText := true, laidKinds := [.data, .data, .data, .data, .sentinel, .sentinel, .pinned], laidTests := true, laidLooks := .later }
def LexNamesUptoCardSaid : Prop := Claim7.holds Tryd.pinned (.plain (OpenSpec.upto lexNamesSpec)) lexNamesUptoCard

/-- THE SECOND FORM's CARD OF 'whisperlaw20.AuditDiags'. -/
def auditDiagsUptoCard : Claim7 := { stood := { row := auditDiagsUptoRow, standIns := [], harness := (true, "be82a56b585283628f9588ff0bf8b54ca65018a0c9cb9be0ef3e29133878d943"), looks := true }, kinds := [], alts := [], laidByText := true, laidKinds := [.data, .data, .data, .data, .sentinel, .sentinel, .pinned], laidTests := true, laidLooks := .later }
def AuditDiagsUptoCardSaid : Prop := Claim7.holds Tryd.pinned (.plain (OpenSpec.upto auditDiagsSpec)) auditDiagsUptoCard
end Rows
end Go.Proofs.YtinebmfmkgjaaaaDoor
