/- The law RatesPostings is true of every input. -/
import Derived.Test.YtdfgphfijfocoaaGreatDoorRbG
import Derived.Test.YtdfgphfijfocoaaGreatDoorRzF
namespace Go.Proofs.Ax
open Go Go.Proofs
theorem law_postings : ∀ xs, wfArgs [.slice shPost, shI, shB] xs → APure Tryz.prog G1 5 (argsAV [.slice shPost, shI, shB] xs) (.sc (.bool true)) := by
  intro xs h
  match xs, h with
  | [a, b, c], h =>
    obtain ⟨ha, hb, hc, -⟩ := h
    obtain ⟨xa, ea, ma⟩ := posts_read ha
    obtain ⟨xb, rfl, -⟩ := dt_int hb
    obtain ⟨xc, rfl⟩ := dt_bool hc
    simp only [argsAV, Sh.av, ea]
    exact (ratesPostings false xa xb xc (maxLen_le ma)).2
end Go.Proofs.Ax
