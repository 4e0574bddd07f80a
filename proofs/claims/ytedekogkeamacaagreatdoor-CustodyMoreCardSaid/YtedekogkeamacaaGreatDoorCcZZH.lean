import Derived.Test.YtedekogkeamacaaGreatDoorCcTold
import Derived.Test.YtedekogkeamacaaGreatDoorCuLaws3
namespace Go.Proofs.Ax
open Go Go.Proofs Go.Proofs.Cu Go.Proofs.Tx
set_option maxRecDepth 10000
set_option maxHeartbeats 4000000
abbrev u8 (n : Nat) : AV := .sc (.int .u8 (n : Int))
end Go.Proofs.Ax
