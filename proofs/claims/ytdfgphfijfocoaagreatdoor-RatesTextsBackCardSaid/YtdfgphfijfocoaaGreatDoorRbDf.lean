import Derived.Test.YtdfgphfijfocoaaGreatDoorRbSo
namespace Go.Proofs.Ax
open Go Go.Proofs
set_option maxRecDepth 10000
set_option maxHeartbeats 4000000
abbrev fEn (gs : List ((Int × Int) × List Posting)) := fEnt kN Posting.enc 5 0 gs
abbrev mB (gs : List ((Int × Int) × List Posting)) : ABlk := .amap (fEn gs) gs.length
abbrev names (t : Bool) (l : List (Int × Int)) : AV := .sl 2 t (l.map nmRow)
def grp (l : List Posting) (q : Int × Int) : List Posting := l.filter fun x => decide (nmOf x = q)
def oneP (a b : List Posting) (i : Nat) : List (Int × Int) := match (gsOf a)[i]? with
  | some g => if grp a g.1 = grp b g.1 then [] else [g.1]
  | none => []
def twoP (a b : List Posting) (i : Nat) : List (Int × Int) := match (gsOf b)[i]? with
  | some g => if grp a g.1 = [] then [g.1] else []
  | none => []
/-- What is read at a name. -/
def lkV (gs : List ((Int × Int) × List Posting)) (q : Int × Int) : AV := match idxG q gs with
  | some _ => .sl 5 false ((lookG q gs).map Posting.enc)
  | none => .sc (.slice none 0 0)
abbrev dH1 (a b : List Posting) (seen : List Nat) (o : List (Int × Int)) : AH := [mB (gsOf a), mB (gsOf b), .miter (some 0) (gsOf a).length seen (gsOf a).length, .rows (o.map nmRow) 100]
abbrev dH1b (a b : List Posting) (seen : List Nat) (o : List (Int × Int)) (q : Int × Int) : AH := [mB (gsOf a), mB (gsOf b), .miter (some 0) (gsOf a).length seen (gsOf a).length, .rows (o.map nmRow) 100, .rows [nmRow q] 100]
def differ (a b : List Posting) : List (Int × Int) := sortN ((List.range (gsOf a).length).flatMap (oneP a b) ++ (List.range (gsOf b).length).flatMap (twoP a b))
abbrev dH2 (a b : List Posting) (o : List (Int × Int)) (seen : List Nat) : AH := [mB (gsOf a), mB (gsOf b), .rows (o.map nmRow) 100, .miter (some 1) (gsOf b).length seen (gsOf b).length]
abbrev dH2b (a b : List Posting) (o : List (Int × Int)) (seen : List Nat) (q : Int × Int) : AH := [mB (gsOf a), mB (gsOf b), .rows (o.map nmRow) 100, .miter (some 1) (gsOf b).length seen (gsOf b).length, .rows [nmRow q] 100]
end Go.Proofs.Ax
namespace Go.Proofs.Ax
open Go Go.Proofs
/-! What the names of differing groups are. -/
/-- The postings that turn one list into another. -/
def swapP (x : Posting) : Posting := ⟨x.night, x.no, x.dst, x.src, x.amount⟩
def corrOf (a b : List Posting) (D : List (Int × Int)) : List Posting := D.flatMap fun q => (grp a q).map swapP ++ grp b q
def correct (a b : List Posting) : List Posting := corrOf a b (differ a b)
end Go.Proofs.Ax
