/-
  DERIVED. GIVEN WITH THE SEED: THE CARDS: each row of YtpbiiigacfhbhaaDoorRows.lean that lists a variable, with what it lists TIED to the program's text (the seventh form; the later family's looks); each row that meets fmt, with fmt's text TOLD by the authors' own Lean function (tested against real Go, not proved from fmt's source: count such statements apart). THE CARD IS WHAT COUNTS. Prove the row's statement (the work); the ties are given (YtpbiiigacfhbhaaDoorTie.lean); close each card by the builder's one call (the guide's Derived/Test/ToyasCard.lean, 'card_holds'). Laid BY PROGRAM, IN A SANDBOX (cutbox-door.mjs). By AI agents, Wed Nov 11 2026. No macro, syntax, notation, axiom, sorry.
-/
import Derived.Test.YtpbiiigacfhbhaaDoorRows
import GoSem.ClaimSeven
namespace Go.Proofs.YtpbiiigacfhbhaaDoor
namespace Rows

/-- THE TIED CARD OF 'whisperlaw10.TypesActs'. -/
def typesActsCard : Claim7 := { stood := { row := typesActsRow, standIns := [], harness := (true, "0246195a55bc4ef8c1c7546f0b00c4fcd3a90f883363d09327039f1fccb6a0b1"), looks := false }, kinds := [], alts := [], laidByText := true, laidKinds := [.data, .data, .data], laidTests := true, laidLooks := .later }
def TypesActsCardSaid : Prop := Claim7.holds Tryd.pinned (.plain (OpenSpec.ofChange typesActsSpec)) typesActsCard

/-- THE TIED CARD OF 'whisperlaw10.TypesOrder'. -/
def typesOrderCard : Claim7 := { stood := { row := typesOrderRow, standIns := [], harness := (true, "0246195a55bc4ef8c1c7546f0b00c4fcd3a90f883363d09327039f1fccb6a0b1"), looks := false }, kinds := [], alts := [], laidByText := true, laidKinds := [.data, .data, .data], laidTests := true, laidLooks := .later }
def TypesOrderCardSaid : Prop := Claim7.holds Tryd.pinned (.plain (OpenSpec.ofChange typesOrderSpec)) typesOrderCard

/-- THE SECOND FORM's CARD OF 'whisperlaw10.TypesActs'. -/
def typesActsUptoCard : Claim7 := { stood := { row := typesActsUptoRow, standIns := [], harness := (true, "0246195a55bc4ef8c1c7546f0b00c4fcd3a90f883363d09327039f1fccb6a0b1"), looks := false }, kinds := [], alts := [], laidByText := true, laidKinds := [.data, .data, .data], laidTests := true, laidLooks := .later }
def TypesActsUptoCardSaid : Prop := Claim7.holds Tryd.pinned (.plain (OpenSpec.upto typesActsSpec)) typesActsUptoCard

/-- THE SECOND FORM's CARD OF 'whisperlaw10.TypesOrder'. -/
def typesOrderUptoCard : Claim7 := { stood := { row := typesOrderUptoRow, standIns := [], harness := (true, "0246195a55bc4ef8c1c7546f0b00c4fcd3a90f883363d09327039f1fccb6a0b1"), looks := false }, kinds := [], alts := [], laidByText := true, laidKinds := [.data, .data, .data], laidTests := true, laidLooks := .later }
def TypesOrderUptoCardSaid : Prop := Claim7.holds Tryd.pinned (.plain (OpenSpec.upto typesOrderSpec)) typesOrderUptoCard
end Rows
end Go.Proofs.YtpbiiigacfhbhaaDoor
