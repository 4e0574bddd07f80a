import Derived.Test.YtedekogkeamacaaGreatDoorCcRE
import Derived.Test.YtedekogkeamacaaGreatDoorCcRd
namespace Go.Proofs.Ax
open Go Go.Proofs Go.Proofs.Cu
theorem law_books : ∀ xs, wfArgs [shBook, shEntr, .slice shI] xs → APure Tryz.prog G1 7 (argsAV [shBook, shEntr, .slice shI] xs) (.sc (.bool true)) := by
  intro xs h
  match xs, h with
  | [a, b, c], h =>
    obtain ⟨ha, hb, hc, -⟩ := h
    obtain ⟨xa, ea, ma⟩ := book_read ha
    obtain ⟨xb, eb, -⟩ := entr_read hb
    obtain ⟨xc, ec, mc⟩ := ints_read hc
    simp only [argsAV, Sh.av, ea, eb, ec]
    exact (books_law ma xb xc (by unfold maxLen at mc; omega)).2
end Go.Proofs.Ax
