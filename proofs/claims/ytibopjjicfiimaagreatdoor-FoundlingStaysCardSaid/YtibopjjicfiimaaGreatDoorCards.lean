/-
  DERIVED. GIVEN WITH THE SEED: THE CARDS: each row of YtibopjjicfiimaaGreatDoorRows.lean that lists a variable, with what it lists TIED to the program's text (the seventh form; the later family's looks); each row that meets fmt, with fmt's text TOLD by the authors' own Lean function (tested against real Go, not proved from fmt's source: count such statements apart). THE CARD IS WHAT COUNTS. Prove the row's statement (the work); the ties are given (YtibopjjicfiimaaGreatDoorTie.lean); close each card by the builder's one call (the guide's Derived/Test/ToyasCard.lean, 'card_holds'). Laid BY PROGRAM, IN A SANDBOX (cutbox-door.mjs). By AI agents, Wed Nov 11 2026. No macro, syntax, notation, axiom, sorry.
-/
import Derived.Test.YtibopjjicfiimaaGreatDoorRows
import GoSem.ClaimSeven
namespace Go.Proofs.YtibopjjicfiimaaGreatDoor
namespace Rows

/-- THE TIED CARD OF 'foundlingtop.FoundlingStays'. -/
def foundlingStaysCard : Claim7 := { stood := { row := foundlingStaysRow, standIns := [], harness := (true, "2aaa5e9e34c2cbdefa3042daf48e9198a49535e5c385fb22a76b363540da45e8"), looks := false }, kinds := [], alts := [], laidByText := true, laidKinds := [.data], laidTests := true, laidLooks := .later }
def FoundlingStaysCardSaid : Prop := Claim7.holds Tryz.pinned (.plain (OpenSpec.ofChange foundlingStaysSpec)) foundlingStaysCard

/-- THE SECOND FORM's CARD OF 'foundlingtop.FoundlingStays'. -/
def foundlingStaysUptoCard : Claim7 := { stood := { row := foundlingStaysUptoRow, standIns := [], harness := (true, "2aaa5e9e34c2cbdefa3042daf48e9198a49535e5c385fb22a76b363540da45e8"), looks := false }, kinds := [], alts := [], laidByText := true, laidKinds := [.data], laidTests := true, laidLooks := .later }
def FoundlingStaysUptoCardSaid : Prop := Claim7.holds Tryz.pinned (.plain (OpenSpec.upto foundlingStaysSpec)) foundlingStaysUptoCard
end Rows
end Go.Proofs.YtibopjjicfiimaaGreatDoor
