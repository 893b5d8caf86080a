/-
  DERIVED. GIVEN WITH THE SEED: THE CARDS: each row of YtofijodndilmbaaDoorRows.lean that lists a variable, with what it lists TIED to the program's text (the seventh form; the later family's looks); each row that meets fmt, with fmt's text TOLD by the authors' own Lean function (tested against real Go, not proved from fmt's source: count such statements apart). THE CARD IS WHAT COUNTS. Prove the row's statement (the work); the ties are given (YtofijodndilmbaaDoorTie.lean); close each card by the builder's one call (the guide's Derived/Test/ToyasCard.lean, 'card_holds'). Laid BY PROGRAM, IN A SANDBOX (cutbox-door.mjs). By AI agents, Wed Nov 11 2026. No macro, syntax, notation, axiom, sorry.
-/
import Derived.Test.YtofijodndilmbaaDoorRows
import GoSem.ClaimSeven
namespace Go.Proofs.YtofijodndilmbaaDoor
namespace Rows

/-- THE TIED CARD OF 'whisperlaw12.ValueShows'. -/
def valueShowsCard : Claim7 := { stood := { row := valueShowsRow, standIns := [], harness := (true, "b984a32aef1e5cfda6a3cc0e8be7338ab9813e69a1ad21f623b5a26d725656a0"), looks := false }, kinds := [], alts := [], laidByText := true, laidKinds := [.data, .data, .data], laidTests := true, laidLooks := .later }
def ValueShowsCardSaid : Prop := Claim7.holds Tryd.pinned (.plain (OpenSpec.ofChange valueShowsSpec)) valueShowsCard

/-- THE TIED CARD OF 'whisperlaw12.ValueApplies'. -/
def valueAppliesCard : Claim7 := { stood := { row := valueAppliesRow, standIns := [], harness := (true, "b984a32aef1e5cfda6a3cc0e8be7338ab9813e69a1ad21f623b5a26d725656a0"), looks := false }, kinds := [], alts := [], laidByText := true, laidKinds := [.data, .data, .data], laidTests := true, laidLooks := .later }
def ValueAppliesCardSaid : Prop := Claim7.holds Tryd.pinned (.plain (OpenSpec.ofChange valueAppliesSpec)) valueAppliesCard

/-- THE SECOND FORM's CARD OF 'whisperlaw12.ValueShows'. -/
def valueShowsUptoCard : Claim7 := { stood := { row := valueShowsUptoRow, standIns := [], harness := (true, "b984a32aef1e5cfda6a3cc0e8be7338ab9813e69a1ad21f623b5a26d725656a0"), looks := false }, kinds := [], alts := [], laidByText := true, laidKinds := [.data, .data, .data], laidTests := true, laidLooks := .later }
def ValueShowsUptoCardSaid : Prop := Claim7.holds Tryd.pinned (.plain (OpenSpec.upto valueShowsSpec)) valueShowsUptoCard

/-- THE SECOND FORM's CARD OF 'whisperlaw12.ValueApplies'. -/
def valueAppliesUptoCard : Claim7 := { stood := { row := valueAppliesUptoRow, standIns := [], harness := (true, "b984a32aef1e5cfda6a3cc0e8be7338ab9813e69a1ad21f623b5a26d725656a0"), looks := false }, kinds := [], alts := [], laidByText := true, laidKinds := [.data, .data, .data], laidTests := true, laidLooks := .later }
def ValueAppliesUptoCardSaid : Prop := Claim7.holds Tryd.pinned (.plain (OpenSpec.upto valueAppliesSpec)) valueAppliesUptoCard
end Rows
end Go.Proofs.YtofijodndilmbaaDoor
