import Derived.Test.YtdfgphfijfocoaaGreatDoorRbA
namespace Go.Proofs.Ax
open Go Go.Proofs
set_option maxRecDepth 10000
structure Round where
  night : Int
  no : Int
  kind : Int
  tight : Bool
  crew : List Int
def ints (t : Bool) (l : List Int) : AV := .sl 1 t (l.map fun n => [vi n])
def Round.enc (r : Round) : List AV := [vi r.night, vi r.no, vi r.kind, ints r.tight r.crew]
/-- Increasing, behind b. -/
def goodCrew : Int → List Int → Prop
  | _, [] => True
  | b, x :: xs => b < x ∧ x ≤ 1099511627776 ∧ goodCrew x xs
instance goodCrewDec : ∀ (b : Int) (l : List Int), Decidable (goodCrew b l)
  | _, [] => isTrue trivial
  | b, x :: xs => by
    have := goodCrewDec x xs
    unfold goodCrew
    infer_instance
def Round.ok (r : Round) : Prop := (0 ≤ r.night ∧ r.night ≤ 20000) ∧ (1 ≤ r.no ∧ r.no ≤ 12) ∧ (1 ≤ r.kind ∧ r.kind ≤ 4) ∧ (1 ≤ r.crew.length ∧ r.crew.length ≤ 4) ∧ goodCrew 0 r.crew
instance (r : Round) : Decidable r.ok := by unfold Round.ok; infer_instance
def befOf (l : List Int) (k : Nat) : Int := if k = 0 then 0 else l[k - 1]?.getD 0
def rounds (t : Bool) (l : List Round) : AV := .sl 4 t (l.map Round.enc)
def notBehind (q r : Round) : Prop := r.night < q.night ∨ (r.night = q.night ∧ r.no ≤ q.no)
instance (q r : Round) : Decidable (notBehind q r) := by unfold notBehind; infer_instance
def badRound (prev : Option Round) (r : Round) : Option Int :=
  if r.ok then match prev with
    | some q => if notBehind q r then some 6 else none
    | none => none
  else some 1
def checkRounds (l : List Round) : Int × Int := if 200 < l.length then (2, -1) else scan badRound 0 none l
end Go.Proofs.Ax
