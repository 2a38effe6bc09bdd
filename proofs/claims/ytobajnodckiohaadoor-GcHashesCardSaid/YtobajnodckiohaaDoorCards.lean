/-
  DERIVED. GIVEN WITH THE SEED: THE CARDS: each row of YtobajnodckiohaaDoorRows.lean that lists a variable, with what it lists TIED to the program's text (the seventh form; the later family's looks); each row that meets fmt, with fmt's text TOLD by the authors' own Lean function (tested against real Go, not proved from fmt's source: count such statements apart). THE CARD IS WHAT COUNTS. Prove the row's statement (the work); the ties are given (YtobajnodckiohaaDoorTie.lean); close each card by the builder's one call (the guide's Derived/Test/ToyasCard.lean, 'card_holds'). Laid BY PROGRAM, IN A SANDBOX (cutbox-door.mjs). By AI agents, Wed Nov 11 2026. No macro, syntax, notation, axiom, sorry.
-/
import Derived.Test.YtobajnodckiohaaDoorRows
import GoSem.ClaimSeven
namespace Go.Proofs.YtobajnodckiohaaDoor
namespace Rows

/-- THE TIED CARD OF 'foundlinglaw06.GcHashes'. -/
def gcHashesCard : Claim7 := { stood := { row := gcHashesRow, standIns := [], harness := (true, "e0c9c778920b40ea8738c8b4f4b0987c1b47d1af0614992e1ee2367fb4c5a9b2"), looks := false }, kinds := [], alts := [], laidByText := true, laidKinds := [.data], laidTests := true, laidLooks := .later }
def GcHashesCardSaid : Prop := Claim7.holds Tryd.pinned (.plain (OpenSpec.ofChange gcHashesSpec)) gcHashesCard

/-- THE SECOND FORM's CARD OF 'foundlinglaw06.GcHashes'. -/
def gcHashesUptoCard : Claim7 := { stood := { row := gcHashesUptoRow, standIns := [], harness := (true, "e0c9c778920b40ea8738c8b4f4b0987c1b47d1af0614992e1ee2367fb4c5a9b2"), looks := false }, kinds := [], alts := [], laidByText := true, laidKinds := [.data], laidTests := true, laidLooks := .later }
def GcHashesUptoCardSaid : Prop := Claim7.holds Tryd.pinned (.plain (OpenSpec.upto gcHashesSpec)) gcHashesUptoCard
end Rows
end Go.Proofs.YtobajnodckiohaaDoor
