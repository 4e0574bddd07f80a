import Derived.Test.YtdfgphfijfocoaaGreatDoorRbS
namespace Go.Proofs.Ax
open Go Go.Proofs
set_option maxRecDepth 10000
set_option maxHeartbeats 4000000
theorem RowN.getD {o : List Nat} {j : Nat} {k : List AV → Prop} (h : j < o.length) (hk : k (ix (o.getD j 0))) : RowN (o.map ix) j k := .raw (by simp [List.getD_eq_getElem?_getD, h]) hk
section
variable {A S : Int} {w : List Int} {t : Bool} {ps : List Int}
end
end Go.Proofs.Ax
