import Derived.Test.YtdfgphfijfocoaaGreatDoorRbDf
import Derived.Test.YtdfgphfijfocoaaGreatDoorAxSo
import Derived.Test.YtdfgphfijfocoaaGreatDoorRzA
namespace Go.Proofs.Ax
open Go Go.Proofs
/-! The specification's names of groups that differ. -/
def nmNo (p : Posting) : Int := 100 * p.night + p.no
def nameOf (k : Int) : Int × Int := (k / 100, k % 100)
def namesR (a b : List Posting) : List Int := putAll (putAll [] (a.map nmNo)) (b.map nmNo)
def differR (a b : List Posting) : List (Int × Int) := ((namesR a b).filter fun k => decide (grp a (nameOf k) ≠ grp b (nameOf k))).map nameOf
end Go.Proofs.Ax
namespace Go.Proofs.Ax
open Go Go.Proofs
set_option maxRecDepth 10000
set_option maxHeartbeats 4000000
abbrev nms (t : Bool) (l : List (Int × Int)) : AV := .sl 2 t (l.map nmRow)
def difTo (a b : List Posting) (k : Nat) : List (Int × Int) := (((namesR a b).take k).filter fun k => decide (grp a (nameOf k) ≠ grp b (nameOf k))).map nameOf
end Go.Proofs.Ax
