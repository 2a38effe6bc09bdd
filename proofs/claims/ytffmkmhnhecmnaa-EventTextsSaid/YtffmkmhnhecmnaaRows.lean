/-
  No cell of these rows narrows 'for every input' (looked for: loops, veiled, ifaces, maps, wideKeys, modest, calm, conditions, laid).
  DERIVED. THE GIVEN ROWS OF THIS SEAT. 3 by the template 'for every input the law returns true; each argument reads behind the call as it read before'; 0 by the template 'total and deterministic' (their statements: YtffmkmhnhecmnaaTotals.lean).
  GIVEN WITH THE SEED: the statements are not yours to turn. If you find one false, say at which input.
  Laid BY PROGRAM, IN A SANDBOX (cutbox-rows.mjs): the forced cells as the released guide's own fill.sh prints them over the translation 37465ac394a87440… (all of the seat's roots in one cut). By AI agents, Wed Nov 11 2026. No macro, syntax, notation, axiom, sorry.
-/
import Derived.Test.YtffmkmhnhecmnaaChecked
import GoSem.Claim
import GoSem.ClaimJoined
import GoSem.ClaimMapViews
import Derived.JoinedTies
import Derived.KernelRfl
namespace Go.Proofs.Ytffmkmhnhecmnaa
/- THE CELL 'sum', in the pinned program and in every row, IS THE sha256 OF THE DUMP (.gsa) THAT YtffmkmhnhecmnaaProg.lean LOADS. Nothing in Lean hashes anything: it is a label: what it is worth is what the hold of that sum in a sandbox is worth. -/
noncomputable def Try.pinned : Pinned := { name := "ytffmkmhnhecmnaa", sum := "37465ac394a874409e144e8085fc1c9a5b6b94a260ac4add40037eb4c837bc0b", checked := Try.checked }
namespace Rows
def none {H : Type} : Left H := { results := [], args := [] }

/-- 'foundlinglaw25.EventBegins': WHATEVER THE INPUT: true; the input reads as it did. -/
def eventBeginsSpec : ChangeSpec := { name := "eventBegins", fn := fun _ => fun
  | [d1, d2] => { results := [.lit (.bool true)], args := [d1, d2] }
  | _ => none }
def eventBeginsRow : OpenClaim := { program := "ytffmkmhnhecmnaa", sum := "37465ac394a874409e144e8085fc1c9a5b6b94a260ac4add40037eb4c837bc0b", func := "foundling/foundlinglaw25.EventBegins", spec := "eventBegins", inPlace := ["internal/abi.NoEscape"], apart := false }
def EventBeginsSaid : Prop := eventBeginsRow.holds Try.pinned (OpenSpec.ofChange eventBeginsSpec)

/-- ITS FALSE NEIGHBOUR: 'it returns false'. Refute it at one input. -/
def eventBeginsWrong : ChangeSpec := { name := "eventBegins", fn := fun _ => fun
  | [d1, d2] => { results := [.lit (.bool false)], args := [d1, d2] }
  | _ => none }
def EventBeginsWrongFalsely : Prop := eventBeginsRow.holds Try.pinned (OpenSpec.ofChange eventBeginsWrong)

/-- 'foundlinglaw25.EventJoins': WHATEVER THE INPUT: true; the input reads as it did. -/
def eventJoinsSpec : ChangeSpec := { name := "eventJoins", fn := fun _ => fun
  | [d1, d2] => { results := [.lit (.bool true)], args := [d1, d2] }
  | _ => none }
def eventJoinsRow : OpenClaim := { program := "ytffmkmhnhecmnaa", sum := "37465ac394a874409e144e8085fc1c9a5b6b94a260ac4add40037eb4c837bc0b", func := "foundling/foundlinglaw25.EventJoins", spec := "eventJoins", inPlace := ["internal/abi.NoEscape"], apart := false }
def EventJoinsSaid : Prop := eventJoinsRow.holds Try.pinned (OpenSpec.ofChange eventJoinsSpec)

/-- ITS FALSE NEIGHBOUR: 'it returns false'. Refute it at one input. -/
def eventJoinsWrong : ChangeSpec := { name := "eventJoins", fn := fun _ => fun
  | [d1, d2] => { results := [.lit (.bool false)], args := [d1, d2] }
  | _ => none }
def EventJoinsWrongFalsely : Prop := eventJoinsRow.holds Try.pinned (OpenSpec.ofChange eventJoinsWrong)

/-- 'foundlinglaw25.EventTexts': WHATEVER THE INPUT: true; the input reads as it did. -/
def eventTextsSpec : ChangeSpec := { name := "eventTexts", fn := fun _ => fun
  | [d] => { results := [.lit (.bool true)], args := [d] }
  | _ => none }
def eventTextsRow : OpenClaim := { program := "ytffmkmhnhecmnaa", sum := "37465ac394a874409e144e8085fc1c9a5b6b94a260ac4add40037eb4c837bc0b", func := "foundling/foundlinglaw25.EventTexts", spec := "eventTexts", inPlace := ["internal/abi.NoEscape", "internal/bytealg.IndexByteString", "internal/bytealg.IndexString"], named := ["internal/bytealg.MaxLen"], apart := false }
def EventTextsSaid : Prop := eventTextsRow.holds Try.pinned (OpenSpec.ofChange eventTextsSpec)

/-- ITS FALSE NEIGHBOUR: 'it returns false'. Refute it at one input. -/
def eventTextsWrong : ChangeSpec := { name := "eventTexts", fn := fun _ => fun
  | [d] => { results := [.lit (.bool false)], args := [d] }
  | _ => none }
def EventTextsWrongFalsely : Prop := eventTextsRow.holds Try.pinned (OpenSpec.ofChange eventTextsWrong)

/- THE SECOND FORM. 'bulk': how many values and letters a reading holds, each counted each time it is reached (what is shared counts as often as it is met; a slice's spare places count too). A statement '..UptoSaid' is the law's where the arguments, and the package variables that the reading takes, are together of bulk at most 1048576: NARROWER than '..Said'. Prove '..Said' where nothing that the law and all that it calls make is longer than what came in: it says more and counts as full. Else prove '..UptoSaid'. A law counts once. -/
mutual
def uptoBulk {H : Type} : DataW H → Nat
  | .lit (.string bytes) => bytes.length + 1
  | .lit _ => 1
  | .nil => 1
  | .ptr d => uptoBulk d + 1
  | .slice elems spare => uptoBulkAll elems + uptoBulkAll spare + 1
  | .agg parts => uptoBulkAll parts + 1
  | .iface _ d => uptoBulk d + 1
  | .map entries => uptoBulkEntries entries + 1
  | .held _ => 1
def uptoBulkAll {H : Type} : List (DataW H) → Nat
  | [] => 0
  | d :: r => uptoBulk d + uptoBulkAll r
def uptoBulkEntries {H : Type} : List (Lit × DataW H) → Nat
  | [] => 0
  | x :: r => uptoBulkEntry x + uptoBulkEntries r
def uptoBulkEntry {H : Type} : Lit × DataW H → Nat
  | (.string bytes, d) => bytes.length + uptoBulk d + 1
  | (_, d) => uptoBulk d + 1
 end
def uptoSmall : (H : Type) → List (DataW H) → Bool := fun _ ds => decide (uptoBulkAll ds ≤ 1048576)
def OpenSpec.upto (s : _root_.Go.ChangeSpec) : _root_.Go.OpenSpec := { _root_.Go.OpenSpec.ofChange s with cond := some uptoSmall }

/-- 'foundlinglaw25.EventBegins', WHERE WHAT IT READS IS OF BULK AT MOST 1048576: true; the input reads as it did. -/
def eventBeginsUptoRow : OpenClaim := { program := "ytffmkmhnhecmnaa", sum := "37465ac394a874409e144e8085fc1c9a5b6b94a260ac4add40037eb4c837bc0b", func := "foundling/foundlinglaw25.EventBegins", spec := "eventBegins", inPlace := ["internal/abi.NoEscape"], apart := false, narrowed := true }
def EventBeginsUptoSaid : Prop := eventBeginsUptoRow.holds Try.pinned (OpenSpec.upto eventBeginsSpec)

/-- 'foundlinglaw25.EventJoins', WHERE WHAT IT READS IS OF BULK AT MOST 1048576: true; the input reads as it did. -/
def eventJoinsUptoRow : OpenClaim := { program := "ytffmkmhnhecmnaa", sum := "37465ac394a874409e144e8085fc1c9a5b6b94a260ac4add40037eb4c837bc0b", func := "foundling/foundlinglaw25.EventJoins", spec := "eventJoins", inPlace := ["internal/abi.NoEscape"], apart := false, narrowed := true }
def EventJoinsUptoSaid : Prop := eventJoinsUptoRow.holds Try.pinned (OpenSpec.upto eventJoinsSpec)

/-- 'foundlinglaw25.EventTexts', WHERE WHAT IT READS IS OF BULK AT MOST 1048576: true; the input reads as it did. -/
def eventTextsUptoRow : OpenClaim := { program := "ytffmkmhnhecmnaa", sum := "37465ac394a874409e144e8085fc1c9a5b6b94a260ac4add40037eb4c837bc0b", func := "foundling/foundlinglaw25.EventTexts", spec := "eventTexts", inPlace := ["internal/abi.NoEscape", "internal/bytealg.IndexByteString", "internal/bytealg.IndexString"], named := ["internal/bytealg.MaxLen"], apart := false, narrowed := true }
def EventTextsUptoSaid : Prop := eventTextsUptoRow.holds Try.pinned (OpenSpec.upto eventTextsSpec)

end Rows
end Go.Proofs.Ytffmkmhnhecmnaa
