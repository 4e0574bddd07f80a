import Derived.Test.YtdfgphfijfocoaaGreatDoorRbX
namespace Go.Proofs.Ax
open Go Go.Proofs
set_option maxRecDepth 10000
set_option maxHeartbeats 4000000
abbrev nilS : AV := .sc (.slice none 0 0)
/-- What is left of each, with -1 for each number of l. -/
def leftOf (A : Int) (w : List Int) (l : List Nat) : List Int := (List.range w.length).map fun j => if j ∈ l then -1 else key A w.sum w j
end Go.Proofs.Ax
