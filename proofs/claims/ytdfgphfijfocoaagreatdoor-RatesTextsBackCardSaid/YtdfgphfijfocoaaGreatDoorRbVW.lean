import Derived.Test.YtdfgphfijfocoaaGreatDoorRbU
import Derived.Test.YtdfgphfijfocoaaGreatDoorDivA
namespace Go.Proofs.Ax
open Go Go.Proofs
set_option maxRecDepth 10000
set_option maxHeartbeats 8000000
/-- In order by blocks of k. -/
inductive Chop (key : Nat → Int) (k : Nat) : List Nat → Prop
  | last (B : List Nat) (h : B.length < k) (s : B.Pairwise (bef key)) : Chop key k B
  | cons (B Y : List Nat) (h : B.length = k) (s : B.Pairwise (bef key)) (lt : ∀ x ∈ B, ∀ y ∈ Y, x < y) (c : Chop key k Y) : Chop key k (B ++ Y)
/-- What is done: in order by blocks of k, each whole. -/
def ChopX (key : Nat → Int) (k : Nat) (X : List Nat) : Prop := ∀ Z, Chop key k Z → (∀ x ∈ X, ∀ z ∈ Z, x < z) → Chop key k (X ++ Z)
section
variable {A S : Int} {w : List Int} {t : Bool} {ps : List Int}
end
end Go.Proofs.Ax
namespace Go.Proofs.Ax
open Go Go.Proofs
set_option maxRecDepth 10000
set_option maxHeartbeats 4000000
inductive IntN (x : List AV) (K : Int → Prop) : Prop
  | mk (n : Int) (h : x = intRow n) (hk : K n)
end Go.Proofs.Ax
