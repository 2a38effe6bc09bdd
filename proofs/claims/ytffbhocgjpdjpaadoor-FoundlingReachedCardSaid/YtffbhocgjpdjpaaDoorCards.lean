/-
  DERIVED. GIVEN WITH THE SEED: THE CARDS: each row of YtffbhocgjpdjpaaDoorRows.lean that lists a variable, with what it lists TIED to the program's text (the seventh form; the later family's looks); each row that meets fmt, with fmt's text TOLD by the authors' own Lean function (tested against real Go, not proved from fmt's source: count such statements apart). THE CARD IS WHAT COUNTS. Prove the row's statement (the work); the ties are given (YtffbhocgjpdjpaaDoorTie.lean); close each card by the builder's one call (the guide's Derived/Test/ToyasCard.lean, 'card_holds'). Laid BY PROGRAM, IN A SANDBOX (cutbox-door.mjs). By AI agents, Wed Nov 11 2026. No macro, syntax, notation, axiom, sorry.
-/
import Derived.Test.YtffbhocgjpdjpaaDoorRows
import GoSem.ClaimSeven
namespace Go.Proofs.YtffbhocgjpdjpaaDoor
namespace Rows

/-- THE TIED CARD OF 'foundlingtop.FoundlingReached'. -/
def foundlingReachedCard : Claim7 := { stood := { row := foundlingReachedRow, standIns := [], harness := (true, "2bfd3325b18338b1a843f393c3323a8e76af83e533ae781857a8cea369f6755a"), looks := false }, kinds := [], alts := [], laidByText := true, laidKinds := [.data], laidTests := true, laidLooks := .later }
def FoundlingReachedCardSaid : Prop := Claim7.holds Tryd.pinned (.plain (OpenSpec.ofChange foundlingReachedSpec)) foundlingReachedCard

/-- THE TIED CARD OF 'foundlingtop.FoundlingKept'. -/
def foundlingKeptCard : Claim7 := { stood := { row := foundlingKeptRow, standIns := [], harness := (true, "2bfd3325b18338b1a843f393c3323a8e76af83e533ae781857a8cea369f6755a"), looks := false }, kinds := [], alts := [], laidByText := true, laidKinds := [.data], laidTests := true, laidLooks := .later }
def FoundlingKeptCardSaid : Prop := Claim7.holds Tryd.pinned (.plain (OpenSpec.ofChange foundlingKeptSpec)) foundlingKeptCard

/-- THE TIED CARD OF 'foundlinglaw06.GcSame'. -/
def gcSameCard : Claim7 := { stood := { row := gcSameRow, standIns := [], harness := (true, "2bfd3325b18338b1a843f393c3323a8e76af83e533ae781857a8cea369f6755a"), looks := false }, kinds := [], alts := [], laidByText := true, laidKinds := [.data], laidTests := true, laidLooks := .later }
def GcSameCardSaid : Prop := Claim7.holds Tryd.pinned (.plain (OpenSpec.ofChange gcSameSpec)) gcSameCard

/-- THE TIED CARD OF 'foundlinglaw06.GcHashes'. -/
def gcHashesCard : Claim7 := { stood := { row := gcHashesRow, standIns := [], harness := (true, "2bfd3325b18338b1a843f393c3323a8e76af83e533ae781857a8cea369f6755a"), looks := false }, kinds := [], alts := [], laidByText := true, laidKinds := [.data], laidTests := true, laidLooks := .later }
def GcHashesCardSaid : Prop := Claim7.holds Tryd.pinned (.plain (OpenSpec.ofChange gcHashesSpec)) gcHashesCard

/-- THE SECOND FORM's CARD OF 'foundlingtop.FoundlingReached'. -/
def foundlingReachedUptoCard : Claim7 := { stood := { row := foundlingReachedUptoRow, standIns := [], harness := (true, "2bfd3325b18338b1a843f393c3323a8e76af83e533ae781857a8cea369f6755a"), looks := false }, kinds := [], alts := [], laidByText := true, laidKinds := [.data], laidTests := true, laidLooks := .later }
def FoundlingReachedUptoCardSaid : Prop := Claim7.holds Tryd.pinned (.plain (OpenSpec.upto foundlingReachedSpec)) foundlingReachedUptoCard

/-- THE SECOND FORM's CARD OF 'foundlingtop.FoundlingKept'. -/
def foundlingKeptUptoCard : Claim7 := { stood := { row := foundlingKeptUptoRow, standIns := [], harness := (true, "2bfd3325b18338b1a843f393c3323a8e76af83e533ae781857a8cea369f6755a"), looks := false }, kinds := [], alts := [], laidByText := true, laidKinds := [.data], laidTests := true, laidLooks := .later }
def FoundlingKeptUptoCardSaid : Prop := Claim7.holds Tryd.pinned (.plain (OpenSpec.upto foundlingKeptSpec)) foundlingKeptUptoCard

/-- THE SECOND FORM's CARD OF 'foundlinglaw06.GcSame'. -/
def gcSameUptoCard : Claim7 := { stood := { row := gcSameUptoRow, standIns := [], harness := (true, "2bfd3325b18338b1a843f393c3323a8e76af83e533ae781857a8cea369f6755a"), looks := false }, kinds := [], alts := [], laidByText := true, laidKinds := [.data], laidTests := true, laidLooks := .later }
def GcSameUptoCardSaid : Prop := Claim7.holds Tryd.pinned (.plain (OpenSpec.upto gcSameSpec)) gcSameUptoCard

/-- THE SECOND FORM's CARD OF 'foundlinglaw06.GcHashes'. -/
def gcHashesUptoCard : Claim7 := { stood := { row := gcHashesUptoRow, standIns := [], harness := (true, "2bfd3325b18338b1a843f393c3323a8e76af83e533ae781857a8cea369f6755a"), looks := false }, kinds := [], alts := [], laidByText := true, laidKinds := [.data], laidTests := true, laidLooks := .later }
def GcHashesUptoCardSaid : Prop := Claim7.holds Tryd.pinned (.plain (OpenSpec.upto gcHashesSpec)) gcHashesUptoCard
end Rows
end Go.Proofs.YtffbhocgjpdjpaaDoor
