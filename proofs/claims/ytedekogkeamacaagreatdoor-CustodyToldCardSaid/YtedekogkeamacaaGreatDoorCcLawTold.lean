import Derived.Test.YtedekogkeamacaaGreatDoorCcRd
namespace Go.Proofs.Ax
open Go Go.Proofs Go.Proofs.Cu
theorem law_told : ∀ xs, wfArgs [shBook, shI, .slice shMv, shI, shU] xs → APure Tryz.prog G1 9 (argsAV [shBook, shI, .slice shMv, shI, shU] xs) (.sc (.bool true)) := by
  intro xs h
  match xs, h with
  | [a, b, c, d, e], h =>
    obtain ⟨ha, hb, hc, hd, he, -⟩ := h
    obtain ⟨xa, ea, ma⟩ := book_read ha
    obtain ⟨b, rfl⟩ := dt_int hb
    obtain ⟨xc, ec, mc⟩ := moves_read hc
    obtain ⟨d, rfl⟩ := dt_int hd
    obtain ⟨e, rfl, me⟩ := dt_u8 he
    simp only [argsAV, Sh.av, ea, ec]
    exact (told_law ma b xc (by unfold maxLen at mc; omega) d e me).2
end Go.Proofs.Ax
