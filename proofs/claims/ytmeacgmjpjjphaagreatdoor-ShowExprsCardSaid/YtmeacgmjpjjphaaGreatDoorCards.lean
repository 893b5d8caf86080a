/-
  DERIVED. GIVEN WITH THE SEED: THE CARDS: each row of YtmeacgmjpjjphaaGreatDoorRows.lean that lists a variable, with what it lists TIED to the program's text (the seventh form; the later family's looks); each row that meets fmt, with fmt's text TOLD by the authors' own Lean function (tested against real Go, not proved from fmt's source: count such statements apart). THE CARD IS WHAT COUNTS. Prove the row's statement (the work); the ties are given (YtmeacgmjpjjphaaGreatDoorTie.lean); close each card by the builder's one call (the guide's Derived/Test/ToyasCard.lean, 'card_holds'). Laid BY PROGRAM, IN A SANDBOX (cutbox-door.mjs). By AI agents, Wed Nov 11 2026. No macro, syntax, notation, axiom, sorry.
-/
import Derived.Test.YtmeacgmjpjjphaaGreatDoorRows
import GoSem.ClaimSeven
namespace Go.Proofs.YtmeacgmjpjjphaaGreatDoor
namespace Rows

/-- THE TIED CARD OF 'whisperlaw05.ExprDeep'. -/
def exprDeepCard : Claim7 := { stood := { row := exprDeepRow, standIns := [], harness := (true, "e59171114ec094a77a1ecf0e3ba9d193d1c61bbaab5cea2f60836ad86d67eb3b"), looks := true }, kinds := [], alts := [], laidByText := true, laidKinds := [.data, .data, .data, .data, .handle, .sentinel, .sentinel, .pinned], laidTests := true, laidLooks := .later }
def ExprDeepCardSaid : Prop := Claim7.holds Tryz.pinned (.plain (OpenSpec.ofChange exprDeepSpec)) exprDeepCard

/-- THE TIED CARD OF 'whisperlaw08.ShowExprs'. -/
def showExprsCard : Claim7 := { stood := { row := showExprsRow, standIns := [], harness := (true, "e59171114ec094a77a1ecf0e3ba9d193d1c61bbaab5cea2f60836ad86d67eb3b"), looks := true }, kinds := [], alts := [], laidByText := true, laidKinds := [.data, .data, .data, .data, .handle, .sentinel, .sentinel, .pinned], laidTests := true, laidLooks := .later }
def ShowExprsCardSaid : Prop := Claim7.holds Tryz.pinned (.plain (OpenSpec.ofChange showExprsSpec)) showExprsCard

/-- THE TIED CARD OF 'whisperlaw08.ShowNodes'. -/
def showNodesCard : Claim7 := { stood := { row := showNodesRow, standIns := [], harness := (true, "e59171114ec094a77a1ecf0e3ba9d193d1c61bbaab5cea2f60836ad86d67eb3b"), looks := true }, kinds := [], alts := [], laidByText := true, laidKinds := [.data, .data, .data, .data, .handle, .sentinel, .sentinel, .pinned], laidTests := true, laidLooks := .later }
def ShowNodesCardSaid : Prop := Claim7.holds Tryz.pinned (.plain (OpenSpec.ofChange showNodesSpec)) showNodesCard

/-- THE SECOND FORM's CARD OF 'whisperlaw05.ExprDeep'. -/
def exprDeepUptoCard : Claim7 := { stood := { row := exprDeepUptoRow, standIns := [], harness := (true, "e59171114ec094a77a1ecf0e3ba9d193d1c61bbaab5cea2f60836ad86d67eb3b"), looks := true }, kinds := [], alts := [], laidByText := true, laidKinds := [.data, .data, .data, .data, .handle, .sentinel, .sentinel, .pinned], laidTests := true, laidLooks := .later }
def ExprDeepUptoCardSaid : Prop := Claim7.holds Tryz.pinned (.plain (OpenSpec.upto exprDeepSpec)) exprDeepUptoCard

/-- THE SECOND FORM's CARD OF 'whisperlaw08.ShowExprs'. -/
def showExprsUptoCard : Claim7 := { stood := { row := showExprsUptoRow, standIns := [], harness := (true, "e59171114ec094a77a1ecf0e3ba9d193d1c61bbaab5cea2f60836ad86d67eb3b"), looks := true }, kinds := [], alts := [], laidByText := true, laidKinds := [.data, .data, .data, .data, .handle, .sentinel, .sentinel, .pinned], laidTests := true, laidLooks := .later }
def ShowExprsUptoCardSaid : Prop := Claim7.holds Tryz.pinned (.plain (OpenSpec.upto showExprsSpec)) showExprsUptoCard

/-- THE SECOND FORM's CARD OF 'whisperlaw08.ShowNodes'. -/
def showNodesUptoCard : Claim7 := { stood := { row := showNodesUptoRow, standIns := [], harness := (true, "e59171114ec094a77a1ecf0e3ba9d193d1c61bbaab5cea2f60836ad86d67eb3b"), looks := true }, kinds := [], alts := [], laidByText := true, laidKinds := [.data, .data, .data, .data, .handle, .sentinel, .sentinel, .pinned], laidTests := true, laidLooks := .later }
def ShowNodesUptoCardSaid : Prop := Claim7.holds Tryz.pinned (.plain (OpenSpec.upto showNodesSpec)) showNodesUptoCard
end Rows
end Go.Proofs.YtmeacgmjpjjphaaGreatDoor
