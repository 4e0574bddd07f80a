import Derived.Test.YtedekogkeamacaaGreatDoorCcZZI
import Derived.Test.YtedekogkeamacaaGreatDoorCcRd
namespace Go.Proofs.Ax
open Go Go.Proofs Go.Proofs.Cu
theorem law_order : ∀ xs, wfArgs [shBook, shI, shI, shSpan, shU8, .slice shMv, .slice (.slice shMv)] xs → APure Tryz.prog G1 10 (argsAV [shBook, shI, shI, shSpan, shU8, .slice shMv, .slice (.slice shMv)] xs) (.sc (.bool true)) := by
  intro xs h
  match xs, h with
  | [a, b, c, d, e, f, g], h =>
    obtain ⟨ha, hb, hc, hd, he, hf, hg, -⟩ := h
    obtain ⟨xa, ea, ma⟩ := book_read ha
    obtain ⟨b, rfl⟩ := dt_int hb
    obtain ⟨c, rfl⟩ := dt_int hc
    obtain ⟨xd, ed, -⟩ := span_read hd
    obtain ⟨e, rfl, me⟩ := dt_byte he
    obtain ⟨xf, ef, mf⟩ := uses_read hf
    obtain ⟨xg, eg, mg, mg2⟩ := hists_read hg
    simp only [argsAV, Sh.av, ea, ed, ef, eg]
    unfold maxLen at mf mg mg2
    exact (order_claw ma b c xd e me xf (by omega) xg (by omega) (fun x hx => by have := mg2 x hx; omega)).2
end Go.Proofs.Ax
