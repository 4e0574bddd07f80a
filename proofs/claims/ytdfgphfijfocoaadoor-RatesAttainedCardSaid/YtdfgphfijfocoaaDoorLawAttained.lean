import Derived.Test.YtdfgphfijfocoaaDoorRbG
import Derived.Test.YtdfgphfijfocoaaDoorRbAt
namespace Go.Proofs.Ax
open Go Go.Proofs
theorem law_attained : ∀ xs, wfArgs [.slice shPol, .slice shRnd, shSpan, shI] xs → APure Tryd.prog G1 8 (argsAV [.slice shPol, .slice shRnd, shSpan, shI] xs) (.sc (.bool true)) := by
  intro xs h
  match xs, h with
  | [a, b, c, d], h =>
    obtain ⟨ha, hb, hc, hd, -⟩ := h
    obtain ⟨ps, e1, m1⟩ := pols_read ha
    obtain ⟨l, e2, m2⟩ := rnds_read hb
    obtain ⟨s, e3⟩ := span_read hc
    obtain ⟨n, rfl, -⟩ := dt_int hd
    simp only [argsAV, Sh.av, e1, e2, e3]
    exact (ratesAttained false false ps l s n (maxLen_le m1) (maxLen_le m2)).2
end Go.Proofs.Ax
