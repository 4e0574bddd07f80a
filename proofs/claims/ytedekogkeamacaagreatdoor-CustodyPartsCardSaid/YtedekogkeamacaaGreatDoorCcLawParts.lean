import Derived.Test.YtedekogkeamacaaGreatDoorCcZZK
import Derived.Test.YtedekogkeamacaaGreatDoorCcRd
namespace Go.Proofs.Ax
open Go Go.Proofs Go.Proofs.Cu
theorem law_parts : ∀ xs, wfArgs [shBook, .slice shMv, shU8, shU8] xs → APure Tryz.prog G1 12 (argsAV [shBook, .slice shMv, shU8, shU8] xs) (.sc (.bool true)) := by
  intro xs h
  match xs, h with
  | [a, b, c, d], h =>
    obtain ⟨ha, hb, hc, hd, -⟩ := h
    obtain ⟨xa, ea, ma⟩ := book_read ha
    obtain ⟨xb, eb, mb⟩ := uses_read hb
    obtain ⟨c, rfl, mc⟩ := dt_byte hc
    obtain ⟨d, rfl, md⟩ := dt_byte hd
    simp only [argsAV, Sh.av, ea, eb]
    unfold maxLen at mb
    exact (parts_claw ma xb (by omega) c d mc md).2
end Go.Proofs.Ax
