/-
  DERIVED. GIVEN WITH THE SEED: THE CARDS: each row of YtokgnedbbnnecaaDoorRows.lean that lists a variable, with what it lists TIED to the program's text (the seventh form; the later family's looks); each row that meets fmt, with fmt's text TOLD by the authors' own Lean function (tested against real Go, not proved from fmt's source: count such statements apart). THE CARD IS WHAT COUNTS. Prove the row's statement (the work); the ties are given (YtokgnedbbnnecaaDoorTie.lean); close each card by the builder's one call (the guide's Derived/Test/ToyasCard.lean, 'card_holds'). Laid BY PROGRAM, IN A SANDBOX (cutbox-door.mjs). By AI agents, Wed Nov 11 2026. No macro, syntax, notation, axiom, sorry.
-/
import Derived.Test.YtokgnedbbnnecaaDoorRows
import GoSem.ClaimSeven
namespace Go.Proofs.YtokgnedbbnnecaaDoor
namespace Rows

/-- THE TIED CARD OF 'foundlinglaw05.MarkGrows'. -/
def markGrowsCard : Claim7 := { stood := { row := markGrowsRow, standIns := [], harness := (true, "347957f637a44d8defebee765af1532993f0299ab9c0ae1a9d2ef6e6dbc18201"), looks := false }, kinds := [], alts := [], laidByText := true, laidKinds := [.data], laidTests := true, laidLooks := .later }
def MarkGrowsCardSaid : Prop := Claim7.holds Tryd.pinned (.plain (OpenSpec.ofChange markGrowsSpec)) markGrowsCard

/-- THE TIED CARD OF 'foundlinglaw05.MarkCloses'. -/
def markClosesCard : Claim7 := { stood := { row := markClosesRow, standIns := [], harness := (true, "347957f637a44d8defebee765af1532993f0299ab9c0ae1a9d2ef6e6dbc18201"), looks := false }, kinds := [], alts := [], laidByText := true, laidKinds := [.data], laidTests := true, laidLooks := .later }
def MarkClosesCardSaid : Prop := Claim7.holds Tryd.pinned (.plain (OpenSpec.ofChange markClosesSpec)) markClosesCard

/-- THE SECOND FORM's CARD OF 'foundlinglaw05.MarkGrows'. -/
def markGrowsUptoCard : Claim7 := { stood := { row := markGrowsUptoRow, standIns := [], harness := (true, "347957f637a44d8defebee765af1532993f0299ab9c0ae1a9d2ef6e6dbc18201"), looks := false }, kinds := [], alts := [], laidByText := true, laidKinds := [.data], laidTests := true, laidLooks := .later }
def MarkGrowsUptoCardSaid : Prop := Claim7.holds Tryd.pinned (.plain (OpenSpec.upto markGrowsSpec)) markGrowsUptoCard

/-- THE SECOND FORM's CARD OF 'foundlinglaw05.MarkCloses'. -/
def markClosesUptoCard : Claim7 := { stood := { row := markClosesUptoRow, standIns := [], harness := (true, "347957f637a44d8defebee765af1532993f0299ab9c0ae1a9d2ef6e6dbc18201"), looks := false }, kinds := [], alts := [], laidByText := true, laidKinds := [.data], laidTests := true, laidLooks := .later }
def MarkClosesUptoCardSaid : Prop := Claim7.holds Tryd.pinned (.plain (OpenSpec.upto markClosesSpec)) markClosesUptoCard
end Rows
end Go.Proofs.YtokgnedbbnnecaaDoor
