import Derived.Test.YtdfgphfijfocoaaGreatDoorRbM1
import Derived.Test.YtdfgphfijfocoaaGreatDoorRbXYZ
namespace Go.Proofs.Ax
open Go Go.Proofs
set_option maxRecDepth 10000
set_option maxHeartbeats 4000000
end Go.Proofs.Ax
