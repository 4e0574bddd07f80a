import Derived.Test.YtdfgphfijfocoaaGreatDoorRbAB
import Derived.Test.YtdfgphfijfocoaaGreatDoorSaneT
namespace Go.Proofs.Ax
open Go Go.Proofs
set_option maxRecDepth 10000
def pol0 : Policy := ⟨0, 0, 0, 0, 0, 0, 0⟩
/-- The policy in force, and whether there is one: what has been found so far. -/
def forceFrom (night : Int) : Policy × Bool → List Policy → Policy × Bool
  | acc, [] => acc
  | acc, p :: ps => forceFrom night (if p.since ≤ night then (p, true) else acc) ps
def forceOf (l : List Policy) (night : Int) : Policy × Bool := forceFrom night (pol0, false) l
def pb (r : Policy × Bool) : AV := .tuple [.agg r.1.enc, vb r.2]
def inForce (l : List Policy) (night : Int) : Policy × Int :=
  if (checkPol l).1 ≠ 0 then (pol0, (checkPol l).1) else
  if ¬ (0 ≤ night ∧ night ≤ 20000) then (pol0, 1) else
  if (forceOf l night).2 = false then (pol0, 5) else ((forceOf l night).1, 0)
def pe (r : Policy × Int) : AV := .tuple [.agg r.1.enc, vi r.2]
/-- Few enough to be looked at. -/
def fewP (ps : List Policy) (l : List Round) : Prop := ps.length ≤ 25 ∧ (l.length ≤ 40 ∨ (200 < l.length ∧ l.length ≤ 210)) ∧ ∀ r ∈ l, r.crew.length ≤ 10
instance (ps : List Policy) (l : List Round) : Decidable (fewP ps l) := by unfold fewP; infer_instance
theorem sane_ok : Pu Tryz.prog G1 14 [] (vb true) := ⟨⟨_, _, Tryz.func14, rfl⟩, AFnH.pure (sane.mono fun y H h => h.1) (fun x hx => by cases hx) rfl⟩
end Go.Proofs.Ax
