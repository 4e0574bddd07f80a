import Derived.Test.YtdfgphfijfocoaaGreatDoorSaneA
import Derived.Test.YtdfgphfijfocoaaGreatDoorSaneM23
import Derived.Test.YtdfgphfijfocoaaGreatDoorSaneM43
import Derived.Test.YtdfgphfijfocoaaGreatDoorSaneM38
import Derived.Test.YtdfgphfijfocoaaGreatDoorSaneM12
import Derived.Test.YtdfgphfijfocoaaGreatDoorSaneM44
import Derived.Test.YtdfgphfijfocoaaGreatDoorSaneM36
namespace Go.Proofs.Ax
open Go
def memo1 (args args' : List AV) (H H' : AH) (o : List (AV × AH)) : Option (List (AV × AH)) := if lbeq (abeq 12) args args' && lbeq bbeq H H' then some o else none
theorem memo1_ok {f : FuncId} {args args' : List AV} {H H' : AH} {o o' : List (AV × AH)} (h : memo1 args args' H H' o = some o')
    (hr : isOuts (rcall Tryz.prog orc0 (rcode Tryz.prog G1 orc0 hint1 100000) f args' H') o = true) : OrcAt Tryz.prog G1 f args H o' := by
  unfold memo1 at h
  split at h
  · rename_i hc
    cases h
    simp only [Bool.and_eq_true] at hc
    rw [lbeq_eq (abeq_eq 12) hc.1, lbeq_eq (fun x y => bbeq_eq) hc.2]
    exact memo_ok enters mixed orc0_ok (isOuts_eq hr)
  · cases h
def orc1 : Orc := fun f args H => match f with
  | 50 => memo1 args memoA42 H memoH42 memoO42
  | 51 => memo1 args memoA23 H memoH23 memoO23
  | 46 => memo1 args memoA43 H memoH43 memoO43
  | 30 => memo1 args memoA38 H memoH38 memoO38
  | 15 => memo1 args memoA44 H memoH44 memoO44
  | 20 => memo1 args memoA36 H memoH36 memoO36
  | 52 => memo1 args memoA12 H memoH12 memoO12
  | _ => none
theorem orc1_ok : OrcOk Tryz.prog G1 orc1 := by
  intro f args H outs h
  unfold orc1 at h
  split at h
  · exact memo1_ok h memoRun42
  · exact memo1_ok h memoRun23
  · exact memo1_ok h memoRun43
  · exact memo1_ok h memoRun38
  · exact memo1_ok h memoRun44
  · exact memo1_ok h memoRun36
  · exact memo1_ok h memoRun12
  · cases h
theorem saneRun : isOuts (rfun Tryz.prog G1 orc1 (fun _ _ => none) 100000 14 []) [(.sc (.bool true), [])] = true := by kernel_rfl
/-- The chapter's examples hold. -/
theorem sane : AFnH Tryz.prog G1 14 [] [] fun y H => y = .sc (.bool true) ∧ H = [] :=
  (rfun_sound enters mixed orc1_ok (isOuts_eq saneRun)).mono fun y H h => by
    rcases List.mem_singleton.1 h with h
    cases h
    exact ⟨rfl, rfl⟩
#print axioms sane
end Go.Proofs.Ax
