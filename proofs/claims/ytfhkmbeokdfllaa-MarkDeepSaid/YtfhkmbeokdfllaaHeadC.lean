/- Layer 3 (head): the references' heads, heads of the law, cells. -/
import Derived.Test.YtfhkmbeokdfllaaHeadB
namespace Go.Proofs.Ytfhkmbeokdfllaa
open Go.RowKit
end Go.Proofs.Ytfhkmbeokdfllaa
