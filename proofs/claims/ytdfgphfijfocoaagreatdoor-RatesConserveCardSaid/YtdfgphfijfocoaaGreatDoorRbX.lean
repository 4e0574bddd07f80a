import Derived.Test.YtdfgphfijfocoaaGreatDoorRbVW
namespace Go.Proofs.Ax
open Go Go.Proofs
set_option maxRecDepth 10000
set_option maxHeartbeats 4000000
def splitErr (A : Int) (w : List Int) : Int := if 50 < w.length then 2 else if ¬ (∀ x ∈ w, 0 ≤ x ∧ x ≤ 1000000) then 1 else if w.sum = 0 ∨ A < 0 ∨ 1099511627776 < A then 1 else 0
end Go.Proofs.Ax
