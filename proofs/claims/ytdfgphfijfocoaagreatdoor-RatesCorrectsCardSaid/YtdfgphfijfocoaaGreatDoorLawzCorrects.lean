/- The law RatesCorrects is true of every input. -/
import Derived.Test.YtdfgphfijfocoaaGreatDoorRbG
import Derived.Test.YtdfgphfijfocoaaGreatDoorRzN
namespace Go.Proofs.Ax
open Go Go.Proofs
theorem law_corrects : ∀ xs, wfArgs [.slice shPost, .slice shPost] xs → APure Tryz.prog G1 9 (argsAV [.slice shPost, .slice shPost] xs) (.sc (.bool true)) := by
  intro xs h
  match xs, h with
  | [a, b], h =>
    obtain ⟨ha, hb, -⟩ := h
    obtain ⟨xa, ea, ma⟩ := posts_read ha
    obtain ⟨xb, eb, mb⟩ := posts_read hb
    simp only [argsAV, Sh.av, ea, eb]
    exact (ratesCorrects false false xa xb (maxLen_le ma) (maxLen_le mb)).2
end Go.Proofs.Ax
