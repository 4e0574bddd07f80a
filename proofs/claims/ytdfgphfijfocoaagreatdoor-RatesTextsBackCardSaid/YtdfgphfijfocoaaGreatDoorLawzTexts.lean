/- The laws RatesTexts and RatesTextsBack are true of every input. -/
import Derived.Test.YtdfgphfijfocoaaGreatDoorRbG
import Derived.Test.YtdfgphfijfocoaaGreatDoorRzUU
namespace Go.Proofs.Ax
open Go Go.Proofs
abbrev shS : Sh := .str
theorem dt_str {d : Dt} (h : Dt.wf shS d) : ∃ s, d = .str s ∧ s.size ≤ maxLen := by
  cases d <;> first | exact h.elim | exact ⟨_, rfl, h⟩
theorem law_texts (m : Int) (e0 e1 : AV) (h0 : okE e0) (h1 : okE e1) : ∀ xs, wfArgs [.slice shPost, shS] xs → APure Tryz.prog (G2 m e0 e1) 11 (argsAV [.slice shPost, shS] xs) (.sc (.bool true)) := by
  intro xs h
  match xs, h with
  | [a, b], h =>
    obtain ⟨ha, hb, -⟩ := h
    obtain ⟨xa, ea, ma⟩ := posts_read ha
    obtain ⟨xb, rfl, -⟩ := dt_str hb
    simp only [argsAV, Sh.av, ea]
    exact (ratesTexts m e0 e1 h0 h1 false xa xb (maxLen_le ma)).2
theorem law_textsBack (m : Int) (e0 e1 : AV) (h0 : okE e0) (h1 : okE e1) : ∀ xs, wfArgs [.slice shPost, shS] xs → APure Tryz.prog (G2 m e0 e1) 12 (argsAV [.slice shPost, shS] xs) (.sc (.bool true)) := by
  intro xs h
  match xs, h with
  | [a, b], h =>
    obtain ⟨ha, hb, -⟩ := h
    obtain ⟨xa, ea, ma⟩ := posts_read ha
    obtain ⟨xb, rfl, -⟩ := dt_str hb
    simp only [argsAV, Sh.av, ea]
    exact (ratesTextsBack m e0 e1 h0 h1 false xa xb (maxLen_le ma)).2
end Go.Proofs.Ax
