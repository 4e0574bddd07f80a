import Derived.Test.YtdfgphfijfocoaaDoorRbG
import Derived.Test.YtdfgphfijfocoaaDoorRbNi
namespace Go.Proofs.Ax
open Go Go.Proofs
theorem law_nights : ∀ xs, wfArgs [.slice shPol, .slice shRnd, shPol, shI, shSpan] xs → APure Tryd.prog G1 6 (argsAV [.slice shPol, .slice shRnd, shPol, shI, shSpan] xs) (.sc (.bool true)) := by
  intro xs h
  match xs, h with
  | [a, b, c, d, e], h =>
    obtain ⟨ha, hb, hc, hd, he, -⟩ := h
    obtain ⟨ps, e1, m1⟩ := pols_read ha
    obtain ⟨l, e2, m2⟩ := rnds_read hb
    obtain ⟨p, e3, -⟩ := pol_read hc
    obtain ⟨n, rfl, -⟩ := dt_int hd
    obtain ⟨s, e5⟩ := span_read he
    simp only [argsAV, Sh.av, e1, e2, e3, e5]
    exact (ratesNights false false ps l p n s (maxLen_le m1) (maxLen_le m2)).2
end Go.Proofs.Ax
