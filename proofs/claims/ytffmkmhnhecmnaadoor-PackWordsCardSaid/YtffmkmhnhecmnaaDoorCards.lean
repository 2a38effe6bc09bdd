/-
  DERIVED. GIVEN WITH THE SEED: THE CARDS: each row of YtffmkmhnhecmnaaDoorRows.lean that lists a variable, with what it lists TIED to the program's text (the seventh form; the later family's looks); each row that meets fmt, with fmt's text TOLD by the authors' own Lean function (tested against real Go, not proved from fmt's source: count such statements apart). THE CARD IS WHAT COUNTS. Prove the row's statement (the work); the ties are given (YtffmkmhnhecmnaaDoorTie.lean); close each card by the builder's one call (the guide's Derived/Test/ToyasCard.lean, 'card_holds'). Laid BY PROGRAM, IN A SANDBOX (cutbox-door.mjs). By AI agents, Wed Nov 11 2026. No macro, syntax, notation, axiom, sorry.
-/
import Derived.Test.YtffmkmhnhecmnaaDoorRows
import GoSem.ClaimSeven
namespace Go.Proofs.YtffmkmhnhecmnaaDoor
namespace Rows

/-- THE TIED CARD OF 'foundlinglaw02.PackSums'. -/
def packSumsCard : Claim7 := { stood := { row := packSumsRow, standIns := [], harness := (true, "d027a49ad6245683e2388a9bf0917ed7bf2ed7afc987c7a54defa697072aefb8"), looks := false }, kinds := [], alts := [], laidByText := true, laidKinds := [.data], laidTests := true, laidLooks := .later }
def PackSumsCardSaid : Prop := Claim7.holds Tryd.pinned (.plain (OpenSpec.ofChange packSumsSpec)) packSumsCard

/-- THE TIED CARD OF 'foundlinglaw02.PackNumbers'. -/
def packNumbersCard : Claim7 := { stood := { row := packNumbersRow, standIns := [], harness := (true, "d027a49ad6245683e2388a9bf0917ed7bf2ed7afc987c7a54defa697072aefb8"), looks := false }, kinds := [], alts := [], laidByText := true, laidKinds := [.data], laidTests := true, laidLooks := .later }
def PackNumbersCardSaid : Prop := Claim7.holds Tryd.pinned (.plain (OpenSpec.ofChange packNumbersSpec)) packNumbersCard

/-- THE TIED CARD OF 'foundlinglaw02.PackWords'. -/
def packWordsCard : Claim7 := { stood := { row := packWordsRow, standIns := [], harness := (true, "d027a49ad6245683e2388a9bf0917ed7bf2ed7afc987c7a54defa697072aefb8"), looks := false }, kinds := [], alts := [], laidByText := true, laidKinds := [.data], laidTests := true, laidLooks := .later }
def PackWordsCardSaid : Prop := Claim7.holds Tryd.pinned (.plain (OpenSpec.ofChange packWordsSpec)) packWordsCard

/-- THE TIED CARD OF 'foundlinglaw02.PackSets'. -/
def packSetsCard : Claim7 := { stood := { row := packSetsRow, standIns := [], harness := (true, "d027a49ad6245683e2388a9bf0917ed7bf2ed7afc987c7a54defa697072aefb8"), looks := false }, kinds := [], alts := [], laidByText := true, laidKinds := [.data], laidTests := true, laidLooks := .later }
def PackSetsCardSaid : Prop := Claim7.holds Tryd.pinned (.plain (OpenSpec.ofChange packSetsSpec)) packSetsCard

/-- THE TIED CARD OF 'foundlinglaw02.PackBits'. -/
def packBitsCard : Claim7 := { stood := { row := packBitsRow, standIns := [], harness := (true, "d027a49ad6245683e2388a9bf0917ed7bf2ed7afc987c7a54defa697072aefb8"), looks := false }, kinds := [], alts := [], laidByText := true, laidKinds := [.data], laidTests := true, laidLooks := .later }
def PackBitsCardSaid : Prop := Claim7.holds Tryd.pinned (.plain (OpenSpec.ofChange packBitsSpec)) packBitsCard

/-- THE SECOND FORM's CARD OF 'foundlinglaw02.PackSums'. -/
def packSumsUptoCard : Claim7 := { stood := { row := packSumsUptoRow, standIns := [], harness := (true, "d027a49ad6245683e2388a9bf0917ed7bf2ed7afc987c7a54defa697072aefb8"), looks := false }, kinds := [], alts := [], laidByText := true, laidKinds := [.data], laidTests := true, laidLooks := .later }
def PackSumsUptoCardSaid : Prop := Claim7.holds Tryd.pinned (.plain (OpenSpec.upto packSumsSpec)) packSumsUptoCard

/-- THE SECOND FORM's CARD OF 'foundlinglaw02.PackNumbers'. -/
def packNumbersUptoCard : Claim7 := { stood := { row := packNumbersUptoRow, standIns := [], harness := (true, "d027a49ad6245683e2388a9bf0917ed7bf2ed7afc987c7a54defa697072aefb8"), looks := false }, kinds := [], alts := [], laidByText := true, laidKinds := [.data], laidTests := true, laidLooks := .later }
def PackNumbersUptoCardSaid : Prop := Claim7.holds Tryd.pinned (.plain (OpenSpec.upto packNumbersSpec)) packNumbersUptoCard

/-- THE SECOND FORM's CARD OF 'foundlinglaw02.PackWords'. -/
def packWordsUptoCard : Claim7 := { stood := { row := packWordsUptoRow, standIns := [], harness := (true, "d027a49ad6245683e2388a9bf0917ed7bf2ed7afc987c7a54defa697072aefb8"), looks := false }, kinds := [], alts := [], laidByText := true, laidKinds := [.data], laidTests := true, laidLooks := .later }
def PackWordsUptoCardSaid : Prop := Claim7.holds Tryd.pinned (.plain (OpenSpec.upto packWordsSpec)) packWordsUptoCard

/-- THE SECOND FORM's CARD OF 'foundlinglaw02.PackSets'. -/
def packSetsUptoCard : Claim7 := { stood := { row := packSetsUptoRow, standIns := [], harness := (true, "d027a49ad6245683e2388a9bf0917ed7bf2ed7afc987c7a54defa697072aefb8"), looks := false }, kinds := [], alts := [], laidByText := true, laidKinds := [.data], laidTests := true, laidLooks := .later }
def PackSetsUptoCardSaid : Prop := Claim7.holds Tryd.pinned (.plain (OpenSpec.upto packSetsSpec)) packSetsUptoCard

/-- THE SECOND FORM's CARD OF 'foundlinglaw02.PackBits'. -/
def packBitsUptoCard : Claim7 := { stood := { row := packBitsUptoRow, standIns := [], harness := (true, "d027a49ad6245683e2388a9bf0917ed7bf2ed7afc987c7a54defa697072aefb8"), looks := false }, kinds := [], alts := [], laidByText := true, laidKinds := [.data], laidTests := true, laidLooks := .later }
def PackBitsUptoCardSaid : Prop := Claim7.holds Tryd.pinned (.plain (OpenSpec.upto packBitsSpec)) packBitsUptoCard
end Rows
end Go.Proofs.YtffmkmhnhecmnaaDoor
