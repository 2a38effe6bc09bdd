/- Memory's objects, one behind the other. -/
import Derived.Test.YtobajnodckiohaaDoorLaidTab
import Derived.Test.YtobajnodckiohaaDoorHeapE
import Derived.Test.YtobajnodckiohaaDoorHeadB
namespace Go.Proofs.YtobajnodckiohaaDoor
open Go.RowKit
set_option linter.unusedVariables false
/-- the first start from a place on: its pointer; nought: there is none -/
def IsFrom (N : Nat) (S : Nat → Bool) (i : Int) (x : Nat) : Prop :=
  (x = 0 ∧ ∀ j : Nat, i ≤ (j : Int) → j < N → S j = false) ∨ (∃ k : Nat, x = k * 2 ∧ k < N ∧ i ≤ (k : Int) ∧ S k = true ∧ ∀ j : Nat, i ≤ (j : Int) → j < k → S j = false)
end Go.Proofs.YtobajnodckiohaaDoor
