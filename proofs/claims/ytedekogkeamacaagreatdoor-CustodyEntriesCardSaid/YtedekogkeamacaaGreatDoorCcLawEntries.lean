import Derived.Test.YtedekogkeamacaaGreatDoorCcRX
import Derived.Test.YtedekogkeamacaaGreatDoorCcRd
namespace Go.Proofs.Ax
open Go Go.Proofs Go.Proofs.Cu
theorem law_entries : ∀ xs, wfArgs [shBook, shI, shI] xs → APure Tryz.prog G1 4 (argsAV [shBook, shI, shI] xs) (.sc (.bool true)) := by
  intro xs h
  match xs, h with
  | [a, b, c], h =>
    obtain ⟨ha, hb, hc, -⟩ := h; obtain ⟨xa, ea, ma⟩ := book_read ha; obtain ⟨b, rfl⟩ := dt_int hb; obtain ⟨c, rfl⟩ := dt_int hc; simp only [argsAV, Sh.av, ea]; exact (ent_law ma b c).2
end Go.Proofs.Ax
