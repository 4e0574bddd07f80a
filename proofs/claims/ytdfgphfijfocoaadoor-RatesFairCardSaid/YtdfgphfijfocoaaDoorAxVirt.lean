import Derived.Test.YtdfgphfijfocoaaDoorAxE
namespace Go.Proofs.Ax
open Go
set_option linter.unusedVariables false
/-- A nil slice as an empty one of the code's own. -/
theorem Reabs.virt {C : Ctx} {l : Fr} {N : Nat} {H : AH} (j k : Nat) (te : TypeId) (hj : alk j l = .sc (.slice none 0 0)) : Reabs C ⟨frm 0 l N, H⟩ ⟨frm 0 ((j, .sm H.length k 0 0) :: l) N, H ++ [.rows [] te]⟩ := by
  intro B I w ρ a hs
  obtain ⟨h1, h2⟩ := hs.heap.virtual (.rows [] te)
  refine ⟨I, ρ, ⟨h1, ?_, fun i x hi => ?_, hs.marks.went h2, hs.base⟩, h2.gone⟩
  · rw [hs.size]; simp [frm_length]
  · simp only [frm_get] at hi
    split at hi
    · rename_i hlt
      cases hi
      have h0 := hs.fr i (alk (0 + i) l) (by simp only [frm_get, if_pos hlt])
      by_cases he : 0 + i = j
      · rw [he] at h0 ⊢
        rw [hj] at h0
        have : alk j ((j, AV.sm H.length k 0 0) :: l) = .sm H.length k 0 0 := by simp [alk]
        rw [this]
        generalize a.tmps.getD i undef = v at h0
        cases h0
        exact .smNil
      · rw [alk_ne he]
        exact h0
    · cases hi
theorem deepR {α : Type} {f : α → List AV} {l : List α} (h : ∀ a, (f a).all AV.deep = true) : AllDeep (l.map f) := by
  intro row hr x hx
  obtain ⟨a, _, rfl⟩ := List.mem_map.1 hr
  exact List.all_eq_true.1 (h a) x hx
theorem take_succ_snoc {α : Type} {l : List α} {k : Nat} (h : k < l.length) : l.take (k + 1) = l.take k ++ [l[k]] := by
  rw [List.take_succ_eq_append_getElem h]
theorem one_row {α : Type} {f : α → List AV} {l : List α} {k : Nat} (h : k < l.length) : ((l.map f).take (k + 1)).drop k = [f l[k]] := by
  rw [take_succ_snoc (by simpa using h)]
  have : ((l.map f).take k).length = k := by simp; omega
  rw [List.drop_append_of_le_length (by omega), List.drop_of_length_le (by omega)]
  simp
/-- The slice that a frozen block shows whole. -/
theorem frz_all {id k : Nat} {rs : List (List AV)} {n : Nat} (h : n = rs.length) : (AV.sm id k 0 n).frz0 id rs = .sl k false rs := by
  subst h
  simp [AV.frz0]
end Go.Proofs.Ax
