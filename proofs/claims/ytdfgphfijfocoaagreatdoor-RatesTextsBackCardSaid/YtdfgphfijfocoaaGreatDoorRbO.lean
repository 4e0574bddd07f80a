import Derived.Test.YtdfgphfijfocoaaGreatDoorRbN
import Derived.Test.YtdfgphfijfocoaaGreatDoorRbM1
namespace Go.Proofs.Ax
open Go Go.Proofs
set_option maxRecDepth 10000
set_option maxHeartbeats 4000000
theorem deepL {rs : List (List AV)} (h : (rs.all fun r => r.all AV.deep) = true) : AllDeep rs := fun row hr x hx => List.all_eq_true.1 (List.all_eq_true.1 h row hr) x hx
theorem RangeN.re {E : EC} {f : Operand} {ps : Array Tmp} {az bd : Code} {l l' : Fr} {H H' : AH} {k : XK} (h : Reabs E.C ⟨frm 0 l E.n, H⟩ ⟨frm 0 l' E.n, H'⟩) (hc : RangeN E f ps az bd l' H' k) : RangeN E f ps az bd l H k := ⟨AWp_reabs h hc.1⟩
def nightErr (p : Policy) (n : Int) (l : List Round) : Int := if (checkPol [p]).1 ≠ 0 then (checkPol [p]).1 else if (checkRounds l).1 ≠ 0 then (checkRounds l).1 else if ¬ (0 ≤ n ∧ n ≤ 20000) then 1 else 0
end Go.Proofs.Ax
