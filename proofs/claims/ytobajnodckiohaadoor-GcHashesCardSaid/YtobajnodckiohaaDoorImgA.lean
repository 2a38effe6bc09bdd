/- Memory's words, as they are used. -/
import Derived.Test.YtobajnodckiohaaDoorHeapE
import Derived.Test.YtobajnodckiohaaDoorRefHeap
import Derived.Test.YtobajnodckiohaaDoorPackOpen
namespace Go.Proofs.YtobajnodckiohaaDoor
open Go.RowKit
set_option linter.unusedVariables false
/-- the words that are used -/
def usedL (M : Nat → Nat) (free : Nat) : List Nat := (List.range (free - 2)).map fun i => M (2 + i)
theorem usedL_len (M : Nat → Nat) (free : Nat) : (usedL M free).length = free - 2 := by simp [usedL]
end Go.Proofs.YtobajnodckiohaaDoor
