import Derived.Test.YtedekogkeamacaaGreatDoorCcZZL
import Derived.Test.YtedekogkeamacaaGreatDoorCcRd
namespace Go.Proofs.Ax
open Go Go.Proofs Go.Proofs.Cu
theorem law_more : ∀ xs, wfArgs [shBook, shI, shI, shEntr, shU8, shSpan] xs → APure Tryz.prog G1 6 (argsAV [shBook, shI, shI, shEntr, shU8, shSpan] xs) (.sc (.bool true)) := by
  intro xs h
  match xs, h with
  | [a, b, c, d, e, f], h =>
    obtain ⟨ha, hb, hc, hd, he, hf, -⟩ := h
    obtain ⟨xa, ea, ma⟩ := book_read ha
    obtain ⟨b, rfl⟩ := dt_int hb
    obtain ⟨c, rfl⟩ := dt_int hc
    obtain ⟨xd, ed, -⟩ := entr_read hd
    obtain ⟨e, rfl, me⟩ := dt_byte he
    obtain ⟨xf, ef, -⟩ := span_read hf
    simp only [argsAV, Sh.av, ea, ed, ef]
    exact (more_claw ma b c xd e me xf).2
end Go.Proofs.Ax
