/- The law RatesCorrected is true of every input. -/
import Derived.Test.YtdfgphfijfocoaaGreatDoorRbG
import Derived.Test.YtdfgphfijfocoaaGreatDoorRzO
namespace Go.Proofs.Ax
open Go Go.Proofs
theorem law_corrected : ∀ xs, wfArgs [.slice shPost, .slice shPost] xs → APure Tryz.prog G1 10 (argsAV [.slice shPost, .slice shPost] xs) (.sc (.bool true)) := by
  intro xs h
  match xs, h with
  | [a, b], h =>
    obtain ⟨ha, hb, -⟩ := h
    obtain ⟨xa, ea, ma⟩ := posts_read ha
    obtain ⟨xb, eb, mb⟩ := posts_read hb
    simp only [argsAV, Sh.av, ea, eb]
    exact (ratesCorrected false false xa xb (maxLen_le ma) (maxLen_le mb)).2
end Go.Proofs.Ax
