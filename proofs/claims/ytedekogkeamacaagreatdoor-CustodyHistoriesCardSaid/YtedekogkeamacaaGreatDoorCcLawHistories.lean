import Derived.Test.YtedekogkeamacaaGreatDoorCcRQ
import Derived.Test.YtedekogkeamacaaGreatDoorCcRd
namespace Go.Proofs.Ax
open Go Go.Proofs Go.Proofs.Cu
theorem law_histories : ∀ xs, wfArgs [shBook, shI, .slice shMv, shI] xs → APure Tryz.prog G1 8 (argsAV [shBook, shI, .slice shMv, shI] xs) (.sc (.bool true)) := by
  intro xs h
  match xs, h with
  | [a, b, c, d], h =>
    obtain ⟨ha, hb, hc, hd, -⟩ := h; obtain ⟨xa, ea, ma⟩ := book_read ha; obtain ⟨b, rfl⟩ := dt_int hb; obtain ⟨xc, ec, mc⟩ := moves_read hc; obtain ⟨d, rfl⟩ := dt_int hd; simp only [argsAV, Sh.av, ea, ec]; exact (hist_law ma b xc (by unfold maxLen at mc; omega) d).2
end Go.Proofs.Ax
