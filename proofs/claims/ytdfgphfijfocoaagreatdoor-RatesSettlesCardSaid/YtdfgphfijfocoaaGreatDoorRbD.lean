import Derived.Test.YtdfgphfijfocoaaGreatDoorNtA
import Derived.Test.YtdfgphfijfocoaaGreatDoorRbBo
namespace Go.Proofs.Ax
open Go Go.Proofs
set_option maxRecDepth 10000
set_option maxHeartbeats 4000000
def dInts (l : List Round) (k : Nat) : List Int := (dIdx l k).map fun i => ((i : Nat) : Int)
def bools (t : Bool) (l : List Bool) : AV := .sl 1 t (l.map fun b => [vb b])
end Go.Proofs.Ax
