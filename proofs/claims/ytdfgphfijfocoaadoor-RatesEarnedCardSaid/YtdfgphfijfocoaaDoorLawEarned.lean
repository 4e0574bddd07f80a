import Derived.Test.YtdfgphfijfocoaaDoorRbG
import Derived.Test.YtdfgphfijfocoaaDoorRbE
namespace Go.Proofs.Ax
open Go Go.Proofs
theorem law_earned : ∀ xs, wfArgs [.slice shPost, shI, shSpan] xs → APure Tryd.prog G1 7 (argsAV [.slice shPost, shI, shSpan] xs) (.sc (.bool true)) := by
  intro xs h
  match xs, h with
  | [a, b, c], h =>
    obtain ⟨ha, hb, hc, -⟩ := h
    obtain ⟨l, e1, m1⟩ := posts_read ha
    obtain ⟨n, rfl, -⟩ := dt_int hb
    obtain ⟨s, e3⟩ := span_read hc
    simp only [argsAV, Sh.av, e1, e3]
    exact (ratesEarned false l n s (maxLen_le m1)).2
end Go.Proofs.Ax
