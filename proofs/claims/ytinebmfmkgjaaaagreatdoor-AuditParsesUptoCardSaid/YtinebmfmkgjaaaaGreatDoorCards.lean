/-
  DERIVED. GIVEN WITH THE SEED: THE CARDS: each row of YtinebmfmkgjaaaaGreatDoorRows.lean that lists a variable, with what it lists TIED to the program's text (the seventh form; the later family's looks); each row that meets fmt, with fmt's text TOLD by the authors' own Lean function (tested against real Go, not proved from fmt's source: count such statements apart). THE CARD IS WHAT COUNTS. Prove the row's statement (the work); the ties are given (YtinebmfmkgjaaaaGreatDoorTie.lean); close each card by the builder's one call (the guide's Derived/Test/ToyasCard.lean, 'card_holds'). Laid BY PROGRAM, IN A SANDBOX (cutbox-door.mjs). By AI agents, Wed Nov 11 2026. No macro, syntax, notation, axiom, sorry.
-/
import Derived.Test.YtinebmfmkgjaaaaGreatDoorRows
import GoSem.ClaimSeven
namespace Go.Proofs.YtinebmfmkgjaaaaGreatDoor
namespace Rows

/-- THE TIED CARD OF 'whisperlaw03.LexTokens'. -/
def lexTokensCard : Claim7 := { stood := { row := lexTokensRow, standIns := [], harness := (true, "18ddd2c84f6ac16112286c0a4aeeea01cf169fb3135a75f65650e348f4d93290"), looks := true }, kinds := [], alts := [], laidByText := true, laidKinds := [.data, .data, .data, .data, .handle, .sentinel, .sentinel, .pinned], laidTests := true, laidLooks := .later }
def LexTokensCardSaid : Prop := Claim7.holds Tryz.pinned (.plain (OpenSpec.ofChange lexTokensSpec)) lexTokensCard

/-- THE TIED CARD OF 'whisperlaw20.AuditLines'. -/
def auditLinesCard : Claim7 := { stood := { row := auditLinesRow, standIns := [], harness := (true, "18ddd2c84f6ac16112286c0a4aeeea01cf169fb3135a75f65650e348f4d93290"), looks := true }, kinds := [], alts := [], laidByText := true, laidKinds := [.data, .data, .data, .data, .sentinel, .sentinel, .pinned], laidTests := true, laidLooks := .later }
def AuditLinesCardSaid : Prop := Claim7.holds Tryz.pinned (.plain (OpenSpec.ofChange auditLinesSpec)) auditLinesCard

/-- THE TIED CARD OF 'whisperlaw20.AuditParses'. -/
def auditParsesCard : Claim7 := { stood := { row := auditParsesRow, standIns := [], harness := (true, "18ddd2c84f6ac16112286c0a4aeeea01cf169fb3135a75f65650e348f4d93290"), looks := true }, kinds := [], alts := [], laidByText := true, laidKinds := [.data, .data, .data, .data, .sentinel, .sentinel, .pinned], laidTests := true, laidLooks := .later }
def AuditParsesCardSaid : Prop := Claim7.holds Tryz.pinned (.plain (OpenSpec.ofChange auditParsesSpec)) auditParsesCard

/-- THE SECOND FORM's CARD OF 'whisperlaw03.LexTokens'. -/
def lexTokensUptoCard : Claim7 := { stood := { row := lexTokensUptoRow, standIns := [], harness := (true, "18ddd2c84f6ac16112286c0a4aeeea01cf169fb3135a75f65650e348f4d93290"), looks := true }, kinds := [], alts := [], laidByText := true, laidKinds := [.data, .data, .data, .data, .handle, .sentinel, .sentinel, .pinned], laidTests := true, laidLooks := .later }
def LexTokensUptoCardSaid : Prop := Claim7.holds Tryz.pinned (.plain (OpenSpec.upto lexTokensSpec)) lexTokensUptoCard

/-- THE SECOND FORM's CARD OF 'whisperlaw20.AuditLines'. -/
def auditLinesUptoCard : Claim7 := { stood := { row := auditLinesUptoRow, standIns := [], harness := (true, "18ddd2c84f6ac16112286c0a4aeeea01cf169fb3135a75f65650e348f4d93290"), looks := true }, kinds := [], alts := [], laidByText := true, laidKinds := [.data, .data, .data, .data, .sentinel, .sentinel, .pinned], laidTests := true, laidLooks := .later }
def AuditLinesUptoCardSaid : Prop := Claim7.holds Tryz.pinned (.plain (OpenSpec.upto auditLinesSpec)) auditLinesUptoCard

/-- THE SECOND FORM's CARD OF 'whisperlaw20.AuditParses'. -/
def auditParsesUptoCard : Claim7 := { stood := { row := auditParsesUptoRow, standIns := [], harness := (true, "18ddd2c84f6ac16112286c0a4aeeea01cf169fb3135a75f65650e348f4d93290"), looks := true }, kinds := [], alts := [], laidByText := true, laidKinds := [.data, .data, .data, .data, .sentinel, .sentinel, .pinned], laidTests := true, laidLooks := .later }
def AuditParsesUptoCardSaid : Prop := Claim7.holds Tryz.pinned (.plain (OpenSpec.upto auditParsesSpec)) auditParsesUptoCard
end Rows
end Go.Proofs.YtinebmfmkgjaaaaGreatDoor
