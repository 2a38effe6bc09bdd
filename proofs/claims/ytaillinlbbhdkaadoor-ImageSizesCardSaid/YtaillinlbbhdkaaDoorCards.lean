/-
  DERIVED. GIVEN WITH THE SEED: THE CARDS: each row of YtaillinlbbhdkaaDoorRows.lean that lists a variable, with what it lists TIED to the program's text (the seventh form; the later family's looks); each row that meets fmt, with fmt's text TOLD by the authors' own Lean function (tested against real Go, not proved from fmt's source: count such statements apart). THE CARD IS WHAT COUNTS. Prove the row's statement (the work); the ties are given (YtaillinlbbhdkaaDoorTie.lean); close each card by the builder's one call (the guide's Derived/Test/ToyasCard.lean, 'card_holds'). Laid BY PROGRAM, IN A SANDBOX (cutbox-door.mjs). By AI agents, Wed Nov 11 2026. No macro, syntax, notation, axiom, sorry.
-/
import Derived.Test.YtaillinlbbhdkaaDoorRows
import GoSem.ClaimSeven
namespace Go.Proofs.YtaillinlbbhdkaaDoor
namespace Rows

/-- THE TIED CARD OF 'foundlinglaw07.ImageChanged'. -/
def imageChangedCard : Claim7 := { stood := { row := imageChangedRow, standIns := [], harness := (true, "93259984f5d30a4ec8d4848ceeffb61a689af0d029039f8539ce3703432383ab"), looks := false }, kinds := [], alts := [], laidByText := true, laidKinds := [.data], laidTests := true, laidLooks := .later }
def ImageChangedCardSaid : Prop := Claim7.holds Tryd.pinned (.plain (OpenSpec.ofChange imageChangedSpec)) imageChangedCard

/-- THE TIED CARD OF 'foundlinglaw07.ImageSizes'. -/
def imageSizesCard : Claim7 := { stood := { row := imageSizesRow, standIns := [], harness := (true, "93259984f5d30a4ec8d4848ceeffb61a689af0d029039f8539ce3703432383ab"), looks := false }, kinds := [], alts := [], laidByText := true, laidKinds := [.data], laidTests := true, laidLooks := .later }
def ImageSizesCardSaid : Prop := Claim7.holds Tryd.pinned (.plain (OpenSpec.ofChange imageSizesSpec)) imageSizesCard

/-- THE SECOND FORM's CARD OF 'foundlinglaw07.ImageChanged'. -/
def imageChangedUptoCard : Claim7 := { stood := { row := imageChangedUptoRow, standIns := [], harness := (true, "93259984f5d30a4ec8d4848ceeffb61a689af0d029039f8539ce3703432383ab"), looks := false }, kinds := [], alts := [], laidByText := true, laidKinds := [.data], laidTests := true, laidLooks := .later }
def ImageChangedUptoCardSaid : Prop := Claim7.holds Tryd.pinned (.plain (OpenSpec.upto imageChangedSpec)) imageChangedUptoCard

/-- THE SECOND FORM's CARD OF 'foundlinglaw07.ImageSizes'. -/
def imageSizesUptoCard : Claim7 := { stood := { row := imageSizesUptoRow, standIns := [], harness := (true, "93259984f5d30a4ec8d4848ceeffb61a689af0d029039f8539ce3703432383ab"), looks := false }, kinds := [], alts := [], laidByText := true, laidKinds := [.data], laidTests := true, laidLooks := .later }
def ImageSizesUptoCardSaid : Prop := Claim7.holds Tryd.pinned (.plain (OpenSpec.upto imageSizesSpec)) imageSizesUptoCard
end Rows
end Go.Proofs.YtaillinlbbhdkaaDoor
