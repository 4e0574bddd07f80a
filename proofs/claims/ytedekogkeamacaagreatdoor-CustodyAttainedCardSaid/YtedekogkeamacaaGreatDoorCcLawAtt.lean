import Derived.Test.YtedekogkeamacaaGreatDoorCcZZJ
import Derived.Test.YtedekogkeamacaaGreatDoorCcRd
namespace Go.Proofs.Ax
open Go Go.Proofs Go.Proofs.Cu
theorem law_att : ∀ xs, wfArgs [shBook, shI, shI, shSpan, shI] xs → APure Tryz.prog G1 5 (argsAV [shBook, shI, shI, shSpan, shI] xs) (.sc (.bool true)) := by
  intro xs h
  match xs, h with
  | [a, b, c, d, e], h =>
    obtain ⟨ha, hb, hc, hd, he, -⟩ := h
    obtain ⟨xa, ea, ma⟩ := book_read ha
    obtain ⟨b, rfl⟩ := dt_int hb
    obtain ⟨c, rfl⟩ := dt_int hc
    obtain ⟨xd, ed, -⟩ := span_read hd
    obtain ⟨e, rfl⟩ := dt_int he
    simp only [argsAV, Sh.av, ea, ed]
    exact (att_law ma b c xd e).2
end Go.Proofs.Ax
