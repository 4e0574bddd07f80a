import Derived.Test.YtdfgphfijfocoaaGreatDoorRbY
namespace Go.Proofs.Ax
open Go Go.Proofs
set_option maxRecDepth 10000
set_option maxHeartbeats 4000000
def firstShares (A : Int) (w : List Int) (i : Nat) : List Int := (List.range i).map (share A w)
def firstKeys (A : Int) (w : List Int) (i : Nat) : List Int := (List.range i).map (key A w.sum w)
end Go.Proofs.Ax
