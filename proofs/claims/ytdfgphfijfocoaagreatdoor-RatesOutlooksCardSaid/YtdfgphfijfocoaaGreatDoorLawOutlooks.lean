import Derived.Test.YtdfgphfijfocoaaGreatDoorRbG
import Derived.Test.YtdfgphfijfocoaaGreatDoorRbOz3
namespace Go.Proofs.Ax
open Go Go.Proofs
theorem law_outlooks : ∀ xs, wfArgs [.slice shPol, .slice shRnd, shSpan, .slice shB] xs → APure Tryz.prog G1 4 (argsAV [.slice shPol, .slice shRnd, shSpan, .slice shB] xs) (.sc (.bool true)) := by
  intro xs h
  match xs, h with
  | [a, b, c, d], h =>
    obtain ⟨ha, hb, hc, hd, -⟩ := h
    obtain ⟨ps, e1, m1⟩ := pols_read ha
    obtain ⟨l, e2, m2⟩ := rnds_read hb
    obtain ⟨s, e3⟩ := span_read hc
    obtain ⟨bs, e4, m4⟩ := bools_read hd
    simp only [argsAV, Sh.av, e1, e2, e3, e4]
    exact (ratesOutlooks false false false ps l s bs (maxLen_le m1) (maxLen_le m2) (maxLen_le m4)).2
end Go.Proofs.Ax
