/- The law RatesApart is true of every input. -/
import Derived.Test.YtdfgphfijfocoaaDoorRbG
import Derived.Test.YtdfgphfijfocoaaDoorRbAp
namespace Go.Proofs.Ax
open Go Go.Proofs
theorem law_apart : ∀ xs, wfArgs [.slice shPol, .slice shRnd, shSpan, shI, shI, shI] xs → APure Tryd.prog G1 9 (argsAV [.slice shPol, .slice shRnd, shSpan, shI, shI, shI] xs) (.sc (.bool true)) := by
  intro xs h
  match xs, h with
  | [a, b, c, d, e, f], h =>
    obtain ⟨ha, hb, hc, hd, he, hf, -⟩ := h
    obtain ⟨ps, e1, m1⟩ := pols_read ha
    obtain ⟨l, e2, m2⟩ := rnds_read hb
    obtain ⟨s, e3⟩ := span_read hc
    obtain ⟨n, rfl, -⟩ := dt_int hd
    obtain ⟨id, rfl, -⟩ := dt_int he
    obtain ⟨kd, rfl, -⟩ := dt_int hf
    simp only [argsAV, Sh.av, e1, e2, e3]
    exact (ratesApart false false ps l s n id kd (maxLen_le m1) (maxLen_le m2)).2
end Go.Proofs.Ax
