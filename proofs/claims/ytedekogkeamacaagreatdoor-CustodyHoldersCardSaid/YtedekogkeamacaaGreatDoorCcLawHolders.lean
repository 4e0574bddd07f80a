import Derived.Test.YtedekogkeamacaaGreatDoorCcRP
import Derived.Test.YtedekogkeamacaaGreatDoorCcRd
namespace Go.Proofs.Ax
open Go Go.Proofs Go.Proofs.Cu
theorem law_holders : ∀ xs, wfArgs [shBook, shI, shI, shSpan] xs → APure Tryz.prog G1 3 (argsAV [shBook, shI, shI, shSpan] xs) (.sc (.bool true)) := by
  intro xs h
  match xs, h with
  | [a, b, c, d], h =>
    obtain ⟨ha, hb, hc, hd, -⟩ := h; obtain ⟨xa, ea, ma⟩ := book_read ha; obtain ⟨b, rfl⟩ := dt_int hb; obtain ⟨c, rfl⟩ := dt_int hc; obtain ⟨xd, ed, -⟩ := span_read hd; simp only [argsAV, Sh.av, ea, ed]; exact (hold_law ma b c xd).2
end Go.Proofs.Ax
