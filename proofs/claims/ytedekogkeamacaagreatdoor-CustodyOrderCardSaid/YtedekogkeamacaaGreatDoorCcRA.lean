import Derived.Test.YtedekogkeamacaaGreatDoorCcAF
import Derived.Test.YtedekogkeamacaaGreatDoorCcAJ
namespace Go.Proofs.Ax
open Go Go.Proofs Go.Proofs.Cu
set_option maxRecDepth 10000
set_option maxHeartbeats 4000000
end Go.Proofs.Ax
namespace Go.Proofs.Ax
open Go Go.Proofs Go.Proofs.Cu
set_option maxRecDepth 10000
set_option maxHeartbeats 4000000
end Go.Proofs.Ax
namespace Go.Proofs.Ax
open Go Go.Proofs Go.Proofs.Cu
set_option maxRecDepth 10000
set_option maxHeartbeats 4000000
abbrev bookX (c : Book) (x : AV) : List AV := [persons c.people, ints c.keys, x, vi c.gaps]
end Go.Proofs.Ax
