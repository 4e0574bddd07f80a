import Derived.Test.YtdfgphfijfocoaaGreatDoorRbPE
import Derived.Test.YtdfgphfijfocoaaGreatDoorAxG
namespace Go.Proofs.Ax
open Go Go.Proofs
set_option maxRecDepth 10000
set_option maxHeartbeats 4000000
/-- The name of a posting's group. -/
def nmOf (p : Posting) : Int × Int := (p.night, p.no)
def kN (q : Int × Int) : AV := .agg [vi q.1, vi q.2]
abbrev gsOf (l : List Posting) : List ((Int × Int) × List Posting) := groupsOf nmOf l
abbrev gEn (f : Nat → Nat) (gs : List ((Int × Int) × List Posting)) := gEnt kN 5 f 0 gs
end Go.Proofs.Ax
namespace Go.Proofs.Ax
open Go Go.Proofs
set_option maxRecDepth 10000
set_option maxHeartbeats 4000000
/-- A nil slice stands for an empty one. -/
def NilA : List AV → List AV → Prop
  | [], [] => True
  | x :: xs, y :: ys => (x = y ∨ (x = .sc (.slice none 0 0) ∧ ∃ k t, y = .sl k t [])) ∧ NilA xs ys
  | _, _ => False
theorem NilA.get {xs ys : List AV} (h : NilA xs ys) : xs.length = ys.length ∧ ∀ (i : Nat) (y : AV), ys[i]? = some y → ∃ x, xs[i]? = some x ∧ (x = y ∨ (x = .sc (.slice none 0 0) ∧ ∃ k t, y = .sl k t [])) := by
  induction xs generalizing ys with
  | nil => cases ys with
    | nil => exact ⟨rfl, fun i y h => by simp at h⟩
    | cons y ys => exact h.elim
  | cons x xs ih => cases ys with
    | nil => exact h.elim
    | cons y ys =>
      obtain ⟨h1, h2⟩ := ih h.2
      refine ⟨by simp [h1], fun i z hz => ?_⟩
      cases i with
      | zero => simp at hz; subst hz; exact ⟨x, rfl, h.1⟩
      | succ i => obtain ⟨x', g1, g2⟩ := h2 i z (by simpa using hz); exact ⟨x', by simpa using g1, g2⟩
theorem Pu.nils {P : Program} {G : Glob} {f : FuncId} {xs bs : List AV} {y : AV} (h : Pu P G f bs y) (hn : NilA xs bs) : Pu P G f xs y := by
  obtain ⟨h1, h2⟩ := hn.get
  refine ⟨h.1, fun H I w ρ vs hh hl hv => h.2 H I w ρ vs hh (hl.trans h1) fun i x hx => ?_⟩
  obtain ⟨x', g1, rfl | ⟨rfl, k, t, rfl⟩⟩ := h2 i x hx
  · exact hv i _ g1
  · have := hv i _ g1
    generalize vs.getD i undef = v at this
    cases this
    exact .slNil
end Go.Proofs.Ax
