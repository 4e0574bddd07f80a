import Derived.Test.YtdfgphfijfocoaaGreatDoorRbPE
import Derived.Test.YtdfgphfijfocoaaGreatDoorAxSo
import Derived.Test.YtdfgphfijfocoaaGreatDoorRbM1
import Derived.Test.YtdfgphfijfocoaaGreatDoorAxG
namespace Go.Proofs.Ax
open Go Go.Proofs
/-! The accounts of postings, and their balances. -/
def accs (l : List Posting) : List Int := l.flatMap fun p => [p.src, p.dst]
def accts (l : List Posting) : List Int := putAll [] (accs l)
abbrev Chg := Int × Int
abbrev Chg.enc (c : Chg) : List AV := [vi c.1, vi c.2]
abbrev chgs (t : Bool) (l : List Chg) : AV := .sl 2 t (l.map Chg.enc)
def balsOf (l : List Posting) : List Chg := (accts l).map fun a => (a, bal l a)
end Go.Proofs.Ax
namespace Go.Proofs.Ax
open Go Go.Proofs
set_option maxRecDepth 10000
set_option maxHeartbeats 4000000
abbrev chE (c : Chg) : List AV := [vi c.1, vi c.2]
end Go.Proofs.Ax
