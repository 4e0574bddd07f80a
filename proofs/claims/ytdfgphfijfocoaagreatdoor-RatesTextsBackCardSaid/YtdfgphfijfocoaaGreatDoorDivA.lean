import Derived.Test.YtdfgphfijfocoaaGreatDoorAxH
namespace Go.Proofs.Ax
/-- Ahead: of the greater key, or of the same one and the smaller number. -/
def bef (key : Nat → Int) (x y : Nat) : Prop := key y < key x ∨ (key x = key y ∧ x < y)
theorem bef.key {key : Nat → Int} {x y : Nat} (h : bef key x y) : key y ≤ key x := by
  unfold bef at h; omega
theorem bef.trans {key : Nat → Int} {x y z : Nat} (h : bef key x y) (k : bef key y z) : bef key x z := by
  unfold bef at *; omega
/-- The part from a to b of o is put in order. -/
def Srt (key : Nat → Int) (a b : Nat) (o o' : List Nat) : Prop :=
  ∃ P M M' R, o = P ++ M ++ R ∧ o' = P ++ M' ++ R ∧ P.length = a ∧ P.length + M.length = b ∧ M'.Perm M ∧ M'.Pairwise (bef key)
theorem Srt.length {key : Nat → Int} {a b : Nat} {o o' : List Nat} (h : Srt key a b o o') : o'.length = o.length := by
  obtain ⟨P, M, M', R, rfl, rfl, -, -, hp, -⟩ := h
  simp [hp.length_eq]
end Go.Proofs.Ax
namespace Go.Proofs.Ax
/-- The remainder of a share. -/
def key (A S : Int) (w : List Int) (i : Nat) : Int := A * w.getD i 0 % S
def share (A : Int) (w : List Int) (i : Nat) : Int := A * w.getD i 0 / w.sum
def shares (A : Int) (w : List Int) (k : Nat) : Int := ((List.range k).map (share A w)).sum
/-- How many of the first n go ahead of j. -/
def rank (key : Nat → Int) (n j : Nat) : Nat := ((List.range n).filter fun i => decide (key j < key i ∨ (key i = key j ∧ i < j))).length
/-- An amount divided. -/
def divided (A : Int) (w : List Int) : List Int := (List.range w.length).map fun j => share A w j + if (rank (key A w.sum w) w.length j : Int) < A - shares A w w.length then 1 else 0
structure DivOk (A : Int) (w : List Int) : Prop where
  lo : 0 ≤ A
  hi : A ≤ 1099511627776
  wlo : ∀ x ∈ w, 0 ≤ x
  whi : ∀ x ∈ w, x ≤ 1000000
  len : w.length ≤ 50
  pos : 0 < w.sum
end Go.Proofs.Ax
namespace Go.Proofs.Ax
/-- The parts, with one more for each number of l. -/
def partsOf (A : Int) (w : List Int) (l : List Nat) : List Int := (List.range w.length).map fun j => share A w j + if j ∈ l then 1 else 0
/-- The shares of the first i, and the numbers of the first i. -/
def sharesTo (A : Int) (w : List Int) (i : Nat) : List Int := (List.range w.length).map fun j => if j < i then share A w j else 0
def numsTo (n i : Nat) : List Nat := (List.range n).map fun j => if j < i then j else 0
end Go.Proofs.Ax
namespace Go.Proofs.Ax
/-- The law of a division. -/
structure FairOk (A : Int) (w l : List Int) : Prop where
  len : l.length = w.length
  sum : l.sum = A
  lo : ∀ i (h : i < l.length), share A w i ≤ l[i]
  hi : ∀ i (h : i < l.length), l[i] ≤ share A w i + 1
  mono : ∀ i j (hi : i < w.length) (hj : j < w.length) (hi' : i < l.length) (hj' : j < l.length), w[j] < w[i] → l[j] ≤ l[i]
end Go.Proofs.Ax
namespace Go.Proofs.Ax
open Go
end Go.Proofs.Ax
