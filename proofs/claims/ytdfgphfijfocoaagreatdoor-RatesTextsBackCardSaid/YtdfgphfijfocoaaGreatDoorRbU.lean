import Derived.Test.YtdfgphfijfocoaaGreatDoorRbT
import Derived.Test.YtdfgphfijfocoaaGreatDoorAxH
namespace Go.Proofs.Ax
open Go Go.Proofs
set_option maxRecDepth 10000
set_option maxHeartbeats 8000000
section
variable {A S : Int} {w : List Int} {t : Bool} {ps : List Int}
end
end Go.Proofs.Ax
