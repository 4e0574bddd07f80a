/- The law RatesRests is true of every input. -/
import Derived.Test.YtdfgphfijfocoaaGreatDoorRbG
import Derived.Test.YtdfgphfijfocoaaGreatDoorRzH
namespace Go.Proofs.Ax
open Go Go.Proofs
theorem law_rests : ∀ xs, wfArgs [.slice shPol, .slice shRnd, shSpan, shI] xs → APure Tryz.prog G1 3 (argsAV [.slice shPol, .slice shRnd, shSpan, shI] xs) (.sc (.bool true)) := by
  intro xs h
  match xs, h with
  | [a, b, c, d], h =>
    obtain ⟨ha, hb, hc, hd, -⟩ := h
    obtain ⟨xa, ea, ma⟩ := pols_read ha
    obtain ⟨xb, eb, mb⟩ := rnds_read hb
    obtain ⟨xc, ec⟩ := span_read hc
    obtain ⟨xd, rfl, -⟩ := dt_int hd
    simp only [argsAV, Sh.av, ea, eb, ec]
    exact (ratesRests false false xa xb xc xd (maxLen_le ma) (maxLen_le mb)).2
end Go.Proofs.Ax
