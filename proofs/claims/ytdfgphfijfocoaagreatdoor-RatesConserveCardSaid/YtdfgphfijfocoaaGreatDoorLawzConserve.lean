/- The law RatesConserve is true of every input. -/
import Derived.Test.YtdfgphfijfocoaaGreatDoorRbG
import Derived.Test.YtdfgphfijfocoaaGreatDoorRzG
namespace Go.Proofs.Ax
open Go Go.Proofs
theorem law_conserve : ∀ xs, wfArgs [.slice shPost, .slice shPost, shI] xs → APure Tryz.prog G1 6 (argsAV [.slice shPost, .slice shPost, shI] xs) (.sc (.bool true)) := by
  intro xs h
  match xs, h with
  | [a, b, c], h =>
    obtain ⟨ha, hb, hc, -⟩ := h
    obtain ⟨xa, ea, ma⟩ := posts_read ha
    obtain ⟨xb, eb, mb⟩ := posts_read hb
    obtain ⟨xc, rfl, -⟩ := dt_int hc
    simp only [argsAV, Sh.av, ea, eb]
    exact (ratesConserve false false xa xb xc (maxLen_le ma) (maxLen_le mb)).2
end Go.Proofs.Ax
