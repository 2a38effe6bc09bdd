/- math/bits.TrailingZeros64 by the library's contract. -/
import Derived.Test.YtfhkmbeokdfllaaProg
import Derived.Shelf.Spec.TrailingZeros
import Derived.KernelRfl
namespace Go.Proofs
open Go.Shelf
end Go.Proofs
