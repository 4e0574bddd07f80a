import Derived.Test.YtdfgphfijfocoaaGreatDoorRbVW
namespace Go.Proofs.Ax
open Go Go.Proofs
set_option maxRecDepth 10000
set_option maxHeartbeats 4000000
def splitErr (A : Int) (w : List Int) : Int := if 50 < w.length then 2 else if ¬ (∀ x ∈ w, 0 ≤ x ∧ x ≤ 1000000) then 1 else if w.sum = 0 ∨ A < 0 ∨ 1099511627776 < A then 1 else 0
theorem splitErr_0 {A : Int} {w : List Int} (h : splitErr A w = 0) : DivOk A w := by
  unfold splitErr at h
  split at h
  · cases h
  split at h
  · cases h
  split at h
  · cases h
  rename_i h1 h2 h3
  have h2 : ∀ x ∈ w, 0 ≤ x ∧ x ≤ 1000000 := Decidable.of_not_not h2
  have hb := sum_bd (fun x hx => (h2 x hx).1) (fun x hx => (h2 x hx).2)
  exact ⟨by omega, by omega, fun x hx => (h2 x hx).1, fun x hx => (h2 x hx).2, by omega, by omega⟩
end Go.Proofs.Ax
