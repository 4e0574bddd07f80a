import Derived.Test.YtdfgphfijfocoaaGreatDoorNtA
import Derived.Test.YtdfgphfijfocoaaGreatDoorAxH
import Derived.Test.YtdfgphfijfocoaaGreatDoorRbVW
namespace Go.Proofs.Ax
open Go Go.Proofs
set_option maxRecDepth 10000
set_option maxHeartbeats 4000000
def onesTo (n k : Nat) : List Int := (List.range n).map fun j => if j < k then 1 else 0
end Go.Proofs.Ax
