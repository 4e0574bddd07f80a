/- The law RatesSettles is true of every input. -/
import Derived.Test.YtdfgphfijfocoaaGreatDoorRbG
import Derived.Test.YtdfgphfijfocoaaGreatDoorRzIJ
namespace Go.Proofs.Ax
open Go Go.Proofs
theorem law_settles : ∀ xs, wfArgs [.slice shPost] xs → APure Tryz.prog G1 7 (argsAV [.slice shPost] xs) (.sc (.bool true)) := by
  intro xs h
  match xs, h with
  | [a], h =>
    obtain ⟨ha, -⟩ := h
    obtain ⟨xa, ea, ma⟩ := posts_read ha
    simp only [argsAV, Sh.av, ea]
    exact (ratesSettles false xa (maxLen_le ma)).2
end Go.Proofs.Ax
