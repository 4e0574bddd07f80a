/-
  DERIVED: THE SHELF's CONTRACTS AT THIS DUMP, IN PLAIN WORDS (tools/lay-plain.mjs out of 'TryzSrt.lean', which tools/lay-shelf.mjs wrote): THE SAME DECLARATIONS UNDER THE SAME NAMES: 'import', 'namespace', 'open', 'def', 'theorem' AND NOTHING ELSE: no command of the shelf's: FOR A HAND-IN. Each laying: the table of numbers ('.._ren') and one theorem, a field a fact of the dump's own or the kernel's comparison; each contract: ONE APPLICATION.
-/
import Derived.Ground.SlsfProg
import Derived.Shelf.SlSortCmp.NoneTotal
import Derived.Test.YtdfgphfijfocoaaGreatDoorProg
import Derived.Test.YtdfgphfijfocoaaGreatDoorRbGrEq
import Derived.Test.YtdfgphfijfocoaaGreatDoorAxSo
namespace Go.Proofs.Ax
/-- How two names compare. -/
def cmpN (x y : Int × Int) : Int := if x.1 = y.1 then x.2 - y.2 else x.1 - y.1
def ltN (x y : Int × Int) : Bool := decide (cmpN x y < 0)
def sortN (d : List (Int × Int)) : List (Int × Int) := d.mergeSort fun x y => !(ltN y x)
end Go.Proofs.Ax
namespace Go.Proofs
open Go.Shelf
def Tryz.sortNm_ren : Go.Shelf.Ren := ⟨fun | 6 => 99 | 15 => 127 | 14 => 126 | 28 => 153 | 29 => 154 | 20 => 145 | 21 => 146 | 22 => 147 | 23 => 148 | 24 => 149 | 25 => 150 | 26 => 151 | 27 => 152 | 46 => 169 | 47 => 170 | 48 => 171 | 49 => 172 | 50 => 173 | 57 => 194 | n => n, fun | 22 => 96 | 24 => 100 | 25 => 152 | 3 => 3 | 39 => 180 | 0 => 0 | 53 => 205 | 55 => 207 | 4 => 4 | 46 => 198 | 45 => 197 | 50 => 202 | 5 => 5 | 9 => 9 | 66 => 224 | 70 => 228 | 76 => 245 | 77 => 246 | n => n, fun | n => n⟩
end Go.Proofs
namespace Go.Proofs.Ax
open Go Go.Proofs Go.Sort Go.Shelf Go.RowKit
abbrev nmRow (q : Int × Int) : List AV := [vi q.1, vi q.2]
def nmOk (q : Int × Int) : Prop := (0 ≤ q.1 ∧ q.1 ≤ 20000) ∧ 0 ≤ q.2 ∧ q.2 ≤ 12
abbrev NmS := { q : Int × Int // nmOk q }
instance : Inhabited NmS := ⟨⟨(0, 0), by unfold nmOk; decide⟩⟩
def encN (x : NmS) : List Value := [.int .i64 x.1.1, .int .i64 x.1.2]
def cmpS (x y : NmS) : Int := cmpN x.1 y.1
set_option maxHeartbeats 2000000 in
def sortS (d : List NmS) : List NmS := d.mergeSort fun x y => !(ltOf cmpS) y x
end Go.Proofs.Ax
