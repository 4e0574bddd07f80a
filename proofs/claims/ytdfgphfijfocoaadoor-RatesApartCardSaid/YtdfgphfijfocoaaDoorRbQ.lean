import Derived.Test.YtdfgphfijfocoaaDoorRbM2
import Derived.Test.YtdfgphfijfocoaaDoorRbO
namespace Go.Proofs.Ax
open Go Go.Proofs
set_option maxRecDepth 10000
set_option maxHeartbeats 4000000
end Go.Proofs.Ax
