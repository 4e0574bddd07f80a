import Derived.Test.YtdfgphfijfocoaaDoorRbG
import Derived.Test.YtdfgphfijfocoaaDoorRbF
namespace Go.Proofs.Ax
open Go Go.Proofs
theorem law_fair : ∀ xs, wfArgs [shI, .slice shI] xs → APure Tryd.prog G1 4 (argsAV [shI, .slice shI] xs) (.sc (.bool true)) := by
  intro xs h
  match xs, h with
  | [a, b], h =>
    obtain ⟨ha, hb, -⟩ := h
    obtain ⟨n, rfl, -⟩ := dt_int ha
    obtain ⟨l, e1, m1, -⟩ := ints_read hb
    simp only [argsAV, Sh.av, e1]
    exact (ratesFair n false l (maxLen_le m1)).2
end Go.Proofs.Ax
