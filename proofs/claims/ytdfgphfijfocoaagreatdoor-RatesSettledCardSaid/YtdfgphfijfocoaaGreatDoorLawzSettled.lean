/- The law RatesSettled is true of every input. -/
import Derived.Test.YtdfgphfijfocoaaGreatDoorRbG
import Derived.Test.YtdfgphfijfocoaaGreatDoorRzGK
namespace Go.Proofs.Ax
open Go Go.Proofs
theorem law_settled : ∀ xs, wfArgs [.slice shPost] xs → APure Tryz.prog G1 8 (argsAV [.slice shPost] xs) (.sc (.bool true)) := by
  intro xs h
  match xs, h with
  | [a], h =>
    obtain ⟨ha, -⟩ := h
    obtain ⟨xa, ea, ma⟩ := posts_read ha
    simp only [argsAV, Sh.av, ea]
    exact (ratesSettled false xa (maxLen_le ma)).2
end Go.Proofs.Ax
