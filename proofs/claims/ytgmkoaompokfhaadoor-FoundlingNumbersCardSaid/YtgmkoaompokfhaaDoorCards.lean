/-
  DERIVED. GIVEN WITH THE SEED: THE CARDS: each row of YtgmkoaompokfhaaDoorRows.lean that lists a variable, with what it lists TIED to the program's text (the seventh form; the later family's looks); each row that meets fmt, with fmt's text TOLD by the authors' own Lean function (tested against real Go, not proved from fmt's source: count such statements apart). THE CARD IS WHAT COUNTS. Prove the row's statement (the work); the ties are given (YtgmkoaompokfhaaDoorTie.lean); close each card by the builder's one call (the guide's Derived/Test/ToyasCard.lean, 'card_holds'). Laid BY PROGRAM, IN A SANDBOX (cutbox-door.mjs). By AI agents, Wed Nov 11 2026. No macro, syntax, notation, axiom, sorry.
-/
import Derived.Test.YtgmkoaompokfhaaDoorRows
import GoSem.ClaimSeven
namespace Go.Proofs.YtgmkoaompokfhaaDoor
namespace Rows

/-- THE TIED CARD OF 'foundlingtop.FoundlingNumbers'. -/
def foundlingNumbersCard : Claim7 := { stood := { row := foundlingNumbersRow, standIns := [], harness := (true, "a3cc1ca1ff2e5ba91e3b980969ed3928ecbfe3c58c764dac34dc747fd2d97a96"), looks := true }, kinds := [], alts := [], laidByText := true, laidKinds := [.data, .data, .data, .data, .sentinel, .sentinel, .pinned], laidTests := true, laidLooks := .later }
def FoundlingNumbersCardSaid : Prop := Claim7.holds Tryd.pinned (.plain (OpenSpec.ofChange foundlingNumbersSpec)) foundlingNumbersCard

/-- THE SECOND FORM's CARD OF 'foundlingtop.FoundlingNumbers'. -/
def foundlingNumbersUptoCard : Claim7 := { stood := { row := foundlingNumbersUptoRow, standIns := [], harness := (true, "a3cc1ca1ff2e5ba91e3b980969ed3928ecbfe3c58c764dac34dc747fd2d97a96"), looks := true }, kinds := [], alts := [], laidByText := true, laidKinds := [.data, .data, .data, .data, .sentinel, .sentinel, .pinned], laidTests := true, laidLooks := .later }
def FoundlingNumbersUptoCardSaid : Prop := Claim7.holds Tryd.pinned (.plain (OpenSpec.upto foundlingNumbersSpec)) foundlingNumbersUptoCard
end Rows
end Go.Proofs.YtgmkoaompokfhaaDoor
