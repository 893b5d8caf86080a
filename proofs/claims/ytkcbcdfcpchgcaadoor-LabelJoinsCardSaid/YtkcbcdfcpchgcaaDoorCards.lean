/-
  DERIVED. GIVEN WITH THE SEED: THE CARDS: each row of YtkcbcdfcpchgcaaDoorRows.lean that lists a variable, with what it lists TIED to the program's text (the seventh form; the later family's looks); each row that meets fmt, with fmt's text TOLD by the authors' own Lean function (tested against real Go, not proved from fmt's source: count such statements apart). THE CARD IS WHAT COUNTS. Prove the row's statement (the work); the ties are given (YtkcbcdfcpchgcaaDoorTie.lean); close each card by the builder's one call (the guide's Derived/Test/ToyasCard.lean, 'card_holds'). Laid BY PROGRAM, IN A SANDBOX (cutbox-door.mjs). By AI agents, Wed Nov 11 2026. No macro, syntax, notation, axiom, sorry.
-/
import Derived.Test.YtkcbcdfcpchgcaaDoorRows
import GoSem.ClaimSeven
namespace Go.Proofs.YtkcbcdfcpchgcaaDoor
namespace Rows

/-- THE TIED CARD OF 'whisperlaw01.OrderNew'. -/
def orderNewCard : Claim7 := { stood := { row := orderNewRow, standIns := [], harness := (true, "29f59504e2c66cedc7a3d0469a883c7569f92c142dfc133a8b49b165c03470db"), looks := false }, kinds := [], alts := [], laidByText := true, laidKinds := [.data], laidTests := true, laidLooks := .later }
def OrderNewCardSaid : Prop := Claim7.holds Tryd.pinned (.plain (OpenSpec.ofChange orderNewSpec)) orderNewCard

/-- THE TIED CARD OF 'whisperlaw01.OrderLaws'. -/
def orderLawsCard : Claim7 := { stood := { row := orderLawsRow, standIns := [], harness := (true, "29f59504e2c66cedc7a3d0469a883c7569f92c142dfc133a8b49b165c03470db"), looks := false }, kinds := [], alts := [], laidByText := true, laidKinds := [.data], laidTests := true, laidLooks := .later }
def OrderLawsCardSaid : Prop := Claim7.holds Tryd.pinned (.plain (OpenSpec.ofChange orderLawsSpec)) orderLawsCard

/-- THE TIED CARD OF 'whisperlaw02.LabelJoins'. -/
def labelJoinsCard : Claim7 := { stood := { row := labelJoinsRow, standIns := [], harness := (true, "29f59504e2c66cedc7a3d0469a883c7569f92c142dfc133a8b49b165c03470db"), looks := false }, kinds := [], alts := [], laidByText := true, laidKinds := [.data], laidTests := true, laidLooks := .later }
def LabelJoinsCardSaid : Prop := Claim7.holds Tryd.pinned (.plain (OpenSpec.ofChange labelJoinsSpec)) labelJoinsCard

/-- THE SECOND FORM's CARD OF 'whisperlaw01.OrderNew'. -/
def orderNewUptoCard : Claim7 := { stood := { row := orderNewUptoRow, standIns := [], harness := (true, "29f59504e2c66cedc7a3d0469a883c7569f92c142dfc133a8b49b165c03470db"), looks := false }, kinds := [], alts := [], laidByText := true, laidKinds := [.data], laidTests := true, laidLooks := .later }
def OrderNewUptoCardSaid : Prop := Claim7.holds Tryd.pinned (.plain (OpenSpec.upto orderNewSpec)) orderNewUptoCard

/-- THE SECOND FORM's CARD OF 'whisperlaw01.OrderLaws'. -/
def orderLawsUptoCard : Claim7 := { stood := { row := orderLawsUptoRow, standIns := [], harness := (true, "29f59504e2c66cedc7a3d0469a883c7569f92c142dfc133a8b49b165c03470db"), looks := false }, kinds := [], alts := [], laidByText := true, laidKinds := [.data], laidTests := true, laidLooks := .later }
def OrderLawsUptoCardSaid : Prop := Claim7.holds Tryd.pinned (.plain (OpenSpec.upto orderLawsSpec)) orderLawsUptoCard

/-- THE SECOND FORM's CARD OF 'whisperlaw02.LabelJoins'. -/
def labelJoinsUptoCard : Claim7 := { stood := { row := labelJoinsUptoRow, standIns := [], harness := (true, "29f59504e2c66cedc7a3d0469a883c7569f92c142dfc133a8b49b165c03470db"), looks := false }, kinds := [], alts := [], laidByText := true, laidKinds := [.data], laidTests := true, laidLooks := .later }
def LabelJoinsUptoCardSaid : Prop := Claim7.holds Tryd.pinned (.plain (OpenSpec.upto labelJoinsSpec)) labelJoinsUptoCard
end Rows
end Go.Proofs.YtkcbcdfcpchgcaaDoor
