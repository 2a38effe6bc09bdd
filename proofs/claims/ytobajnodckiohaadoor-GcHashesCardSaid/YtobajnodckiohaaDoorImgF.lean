/- All leads to objects: of memory of small objects. -/
import Derived.Test.YtobajnodckiohaaDoorImgE
import Derived.Test.YtobajnodckiohaaDoorWalkH
import Derived.Test.YtobajnodckiohaaDoorHeapT
import Derived.Test.YtobajnodckiohaaDoorPlaces
namespace Go.Proofs.YtobajnodckiohaaDoor
open Go.RowKit
set_option linter.unusedVariables false
def Leads1 (S : Nat → Bool) (y : Nat) : Prop := ∃ c, y = c * 2 ∧ 1 ≤ c ∧ c < 16777216 ∧ S c = true
end Go.Proofs.YtobajnodckiohaaDoor
