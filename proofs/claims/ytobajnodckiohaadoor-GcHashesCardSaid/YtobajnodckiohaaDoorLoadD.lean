/- The bytes of an image are told to be one. An image is memory again, where there is room. -/
import Derived.Test.YtobajnodckiohaaDoorImgE
import Derived.Test.YtobajnodckiohaaDoorLoadB
import Derived.Laws.MakeOwn
namespace Go.Proofs.YtobajnodckiohaaDoor
open Go.RowKit
set_option linter.unusedVariables false
end Go.Proofs.YtobajnodckiohaaDoor
namespace Go.Proofs.YtobajnodckiohaaDoor
open Go.RowKit
set_option linter.unusedVariables false
end Go.Proofs.YtobajnodckiohaaDoor
