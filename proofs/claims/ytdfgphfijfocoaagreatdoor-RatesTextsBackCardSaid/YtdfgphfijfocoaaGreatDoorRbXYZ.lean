import Derived.Test.YtdfgphfijfocoaaGreatDoorRbVW
namespace Go.Proofs.Ax
open Go Go.Proofs
set_option maxRecDepth 10000
set_option maxHeartbeats 4000000
def splitErr (A : Int) (w : List Int) : Int := if 50 < w.length then 2 else if ¬ (∀ x ∈ w, 0 ≤ x ∧ x ≤ 1000000) then 1 else if w.sum = 0 ∨ A < 0 ∨ 1099511627776 < A then 1 else 0
end Go.Proofs.Ax
namespace Go.Proofs.Ax
open Go Go.Proofs
set_option maxRecDepth 10000
set_option maxHeartbeats 4000000
abbrev nilS : AV := .sc (.slice none 0 0)
/-- What is left of each, with -1 for each number of l. -/
def leftOf (A : Int) (w : List Int) (l : List Nat) : List Int := (List.range w.length).map fun j => if j ∈ l then -1 else key A w.sum w j
end Go.Proofs.Ax
namespace Go.Proofs.Ax
open Go Go.Proofs
set_option maxRecDepth 10000
set_option maxHeartbeats 4000000
def firstShares (A : Int) (w : List Int) (i : Nat) : List Int := (List.range i).map (share A w)
def firstKeys (A : Int) (w : List Int) (i : Nat) : List Int := (List.range i).map (key A w.sum w)
end Go.Proofs.Ax
