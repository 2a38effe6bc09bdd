/-
  No cell of these rows narrows 'for every input' (looked for: loops, veiled, ifaces, maps, wideKeys, modest, calm, conditions, laid).
  DERIVED. THE GIVEN ROWS OF THIS SEAT. 3 by the template 'for every input the law returns true; each argument reads behind the call as it read before'; 0 by the template 'total and deterministic' (their statements: YtfhkmbeokdfllaaTotals.lean).
  GIVEN WITH THE SEED: the statements are not yours to turn. If you find one false, say at which input.
  Laid BY PROGRAM, IN A SANDBOX (cutbox-rows.mjs): the forced cells as the released guide's own fill.sh prints them over the translation 83f1fac44d22d20d… (all of the seat's roots in one cut). By AI agents, Wed Nov 11 2026. No macro, syntax, notation, axiom, sorry.
-/
import Derived.Test.YtfhkmbeokdfllaaChecked
import GoSem.Claim
import GoSem.ClaimJoined
import GoSem.ClaimMapViews
import Derived.JoinedTies
import Derived.KernelRfl
namespace Go.Proofs.Ytfhkmbeokdfllaa
/- THE CELL 'sum', in the pinned program and in every row, IS THE sha256 OF THE DUMP (.gsa) THAT YtfhkmbeokdfllaaProg.lean LOADS. Nothing in Lean hashes anything: it is a label: what it is worth is what the hold of that sum in a sandbox is worth. -/
noncomputable def Try.pinned : Pinned := { name := "ytfhkmbeokdfllaa", sum := "83f1fac44d22d20d44d35714ed6839b5741acdf668807eac1930657d24600ab1", checked := Try.checked }
namespace Rows
def none {H : Type} : Left H := { results := [], args := [] }

/-- 'foundlinglaw04.HeapFills': WHATEVER THE INPUT: true; the input reads as it did. -/
def heapFillsSpec : ChangeSpec := { name := "heapFills", fn := fun _ => fun
  | [d1, d2] => { results := [.lit (.bool true)], args := [d1, d2] }
  | _ => none }
def heapFillsRow : OpenClaim := { program := "ytfhkmbeokdfllaa", sum := "83f1fac44d22d20d44d35714ed6839b5741acdf668807eac1930657d24600ab1", func := "foundling/foundlinglaw04.HeapFills", spec := "heapFills", apart := false }
def HeapFillsSaid : Prop := heapFillsRow.holds Try.pinned (OpenSpec.ofChange heapFillsSpec)

/-- ITS FALSE NEIGHBOUR: 'it returns false'. Refute it at one input. -/
def heapFillsWrong : ChangeSpec := { name := "heapFills", fn := fun _ => fun
  | [d1, d2] => { results := [.lit (.bool false)], args := [d1, d2] }
  | _ => none }
def HeapFillsWrongFalsely : Prop := heapFillsRow.holds Try.pinned (OpenSpec.ofChange heapFillsWrong)

/-- 'foundlinglaw04.HeapBytes': WHATEVER THE INPUT: true; the input reads as it did. -/
def heapBytesSpec : ChangeSpec := { name := "heapBytes", fn := fun _ => fun
  | [d1, d2, d3] => { results := [.lit (.bool true)], args := [d1, d2, d3] }
  | _ => none }
def heapBytesRow : OpenClaim := { program := "ytfhkmbeokdfllaa", sum := "83f1fac44d22d20d44d35714ed6839b5741acdf668807eac1930657d24600ab1", func := "foundling/foundlinglaw04.HeapBytes", spec := "heapBytes", apart := false }
def HeapBytesSaid : Prop := heapBytesRow.holds Try.pinned (OpenSpec.ofChange heapBytesSpec)

/-- ITS FALSE NEIGHBOUR: 'it returns false'. Refute it at one input. -/
def heapBytesWrong : ChangeSpec := { name := "heapBytes", fn := fun _ => fun
  | [d1, d2, d3] => { results := [.lit (.bool false)], args := [d1, d2, d3] }
  | _ => none }
def HeapBytesWrongFalsely : Prop := heapBytesRow.holds Try.pinned (OpenSpec.ofChange heapBytesWrong)

/-- 'foundlinglaw05.MarkDeep': WHATEVER THE INPUT: true; the input reads as it did. -/
def markDeepSpec : ChangeSpec := { name := "markDeep", fn := fun _ => fun
  | [d1, d2] => { results := [.lit (.bool true)], args := [d1, d2] }
  | _ => none }
def markDeepRow : OpenClaim := { program := "ytfhkmbeokdfllaa", sum := "83f1fac44d22d20d44d35714ed6839b5741acdf668807eac1930657d24600ab1", func := "foundling/foundlinglaw05.MarkDeep", spec := "markDeep", apart := false }
def MarkDeepSaid : Prop := markDeepRow.holds Try.pinned (OpenSpec.ofChange markDeepSpec)

/-- ITS FALSE NEIGHBOUR: 'it returns false'. Refute it at one input. -/
def markDeepWrong : ChangeSpec := { name := "markDeep", fn := fun _ => fun
  | [d1, d2] => { results := [.lit (.bool false)], args := [d1, d2] }
  | _ => none }
def MarkDeepWrongFalsely : Prop := markDeepRow.holds Try.pinned (OpenSpec.ofChange markDeepWrong)

/- THE SECOND FORM. 'bulk': how many values and letters a reading holds, each counted each time it is reached (what is shared counts as often as it is met; a slice's spare places count too). A statement '..UptoSaid' is the law's where the arguments, and the package variables that the reading takes, are together of bulk at most 1048576: NARROWER than '..Said'. Prove '..Said' where nothing that the law and all that it calls make is longer than what came in: it says more and counts as full. Else prove '..UptoSaid'. A law counts once. -/
mutual
def uptoBulk {H : Type} : DataW H → Nat
  | .lit (.string bytes) => bytes.length + 1
  | .lit _ => 1
  | .nil => 1
  | .ptr d => uptoBulk d + 1
  | .slice elems spare => uptoBulkAll elems + uptoBulkAll spare + 1
  | .agg parts => uptoBulkAll parts + 1
  | .iface _ d => uptoBulk d + 1
  | .map entries => uptoBulkEntries entries + 1
  | .held _ => 1
def uptoBulkAll {H : Type} : List (DataW H) → Nat
  | [] => 0
  | d :: r => uptoBulk d + uptoBulkAll r
def uptoBulkEntries {H : Type} : List (Lit × DataW H) → Nat
  | [] => 0
  | x :: r => uptoBulkEntry x + uptoBulkEntries r
def uptoBulkEntry {H : Type} : Lit × DataW H → Nat
  | (.string bytes, d) => bytes.length + uptoBulk d + 1
  | (_, d) => uptoBulk d + 1
 end
def uptoSmall : (H : Type) → List (DataW H) → Bool := fun _ ds => decide (uptoBulkAll ds ≤ 1048576)
def OpenSpec.upto (s : _root_.Go.ChangeSpec) : _root_.Go.OpenSpec := { _root_.Go.OpenSpec.ofChange s with cond := some uptoSmall }

/-- 'foundlinglaw04.HeapFills', WHERE WHAT IT READS IS OF BULK AT MOST 1048576: true; the input reads as it did. -/
def heapFillsUptoRow : OpenClaim := { program := "ytfhkmbeokdfllaa", sum := "83f1fac44d22d20d44d35714ed6839b5741acdf668807eac1930657d24600ab1", func := "foundling/foundlinglaw04.HeapFills", spec := "heapFills", apart := false, narrowed := true }
def HeapFillsUptoSaid : Prop := heapFillsUptoRow.holds Try.pinned (OpenSpec.upto heapFillsSpec)

/-- 'foundlinglaw04.HeapBytes', WHERE WHAT IT READS IS OF BULK AT MOST 1048576: true; the input reads as it did. -/
def heapBytesUptoRow : OpenClaim := { program := "ytfhkmbeokdfllaa", sum := "83f1fac44d22d20d44d35714ed6839b5741acdf668807eac1930657d24600ab1", func := "foundling/foundlinglaw04.HeapBytes", spec := "heapBytes", apart := false, narrowed := true }
def HeapBytesUptoSaid : Prop := heapBytesUptoRow.holds Try.pinned (OpenSpec.upto heapBytesSpec)

/-- 'foundlinglaw05.MarkDeep', WHERE WHAT IT READS IS OF BULK AT MOST 1048576: true; the input reads as it did. -/
def markDeepUptoRow : OpenClaim := { program := "ytfhkmbeokdfllaa", sum := "83f1fac44d22d20d44d35714ed6839b5741acdf668807eac1930657d24600ab1", func := "foundling/foundlinglaw05.MarkDeep", spec := "markDeep", apart := false, narrowed := true }
def MarkDeepUptoSaid : Prop := markDeepUptoRow.holds Try.pinned (OpenSpec.upto markDeepSpec)

end Rows
end Go.Proofs.Ytfhkmbeokdfllaa
