import Derived.Test.YtdfgphfijfocoaaGreatDoorRbR
namespace Go.Proofs.Ax
open Go Go.Proofs
set_option maxRecDepth 10000
set_option maxHeartbeats 4000000
abbrev nightH (p : Policy) (n : Int) (t : Bool) (l : List Round) : AH := [.rows [p.enc] 105, .rows [[vi n]] 3, .rows [[rounds t l]] 23]
noncomputable def rfOf (c : Code) : Option (Code × Code) :=
  Code.rec (motive := fun _ => Option (Code × Code)) none (fun _ _ _ => none) (fun _ _ x y => match x with | some z => some z | none => y) (fun _ _ _ x y => match x with | some z => some z | none => y) (fun _ _ x => x) (fun _ x => x) (fun _ _ az bd _ _ => some (az, bd)) (fun _ => none) (fun _ x => x) (fun _ => none) (fun _ => none) none (fun _ => none) c
noncomputable def as77 : Code := match Tryz.f101.body with
  | some c => match rfOf c with
    | some (a, _) => a
    | none => .skip
  | none => .skip
noncomputable def bd77 : Code := match Tryz.f101.body with
  | some c => match rfOf c with
    | some (_, b) => b
    | none => .skip
  | none => .skip
abbrev cl78 : AV := .fn (.func 104) [] [.pm 0 0 0, .pm 1 0 0, .pm 2 0 0]
abbrev fl77 : Fr := [(2, .pm 4 0 0), (6, cl78)]
noncomputable abbrev lp77 : ABlk := .loop .ready none (frm 0 fl77 13) #[7] as77 bd77
/-- The blocks of a range over a night's postings that are appended. -/
noncomputable abbrev H77 (p : Policy) (n : Int) (t : Bool) (l : List Round) (o : List Posting) : AH := [.rows [p.enc] 105, .rows [[vi n]] 3, .rows [[rounds t l]] 23, .dead, .rows [[.sm 6 5 0 o.length]] 49, lp77, .rows (o.map Posting.enc) 61]
abbrev fr78 : Fr := [(0, .yl 5), (1, .pm 0 0 0), (2, .pm 1 0 0), (3, .pm 2 0 0)]
end Go.Proofs.Ax
