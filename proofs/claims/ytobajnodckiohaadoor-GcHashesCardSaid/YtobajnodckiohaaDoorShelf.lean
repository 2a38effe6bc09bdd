/- No contract of the shelf is needed at this seat: nothing is proved here. -/
import Derived.Shelf.Bytes.SlClone
import Derived.Shelf.SlicesE.Clone
import Derived.Shelf.Bytes.SlSmallAll
import Derived.Shelf.Bytes.Small
import Derived.Test.YtobajnodckiohaaDoorProg
namespace Go.Proofs.YtobajnodckiohaaDoor
end Go.Proofs.YtobajnodckiohaaDoor
