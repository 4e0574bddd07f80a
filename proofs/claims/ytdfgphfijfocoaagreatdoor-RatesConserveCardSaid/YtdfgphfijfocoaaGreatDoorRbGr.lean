import Derived.Test.YtdfgphfijfocoaaGreatDoorRbPE
import Derived.Test.YtdfgphfijfocoaaGreatDoorAxG
namespace Go.Proofs.Ax
open Go Go.Proofs
set_option maxRecDepth 10000
set_option maxHeartbeats 4000000
theorem tryd_okg (m n : Nat) : EC.Ok ⟨⟨Tryz.prog, G1, m, none⟩, n, Tryz.tab⟩ := ⟨fun t i h => TT.get_ok Tryz.tabOk t i h, enters, mixed⟩
/-- The name of a posting's group. -/
def nmOf (p : Posting) : Int × Int := (p.night, p.no)
def kN (q : Int × Int) : AV := .agg [vi q.1, vi q.2]
abbrev gsOf (l : List Posting) : List ((Int × Int) × List Posting) := groupsOf nmOf l
abbrev gEn (f : Nat → Nat) (gs : List ((Int × Int) × List Posting)) := gEnt kN 5 f 0 gs
end Go.Proofs.Ax
