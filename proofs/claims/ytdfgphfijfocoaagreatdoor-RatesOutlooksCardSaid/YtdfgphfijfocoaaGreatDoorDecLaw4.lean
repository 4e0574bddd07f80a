import Derived.Test.YtdfgphfijfocoaaGreatDoorNtA
namespace Go.Proofs.Ax
open Go Go.Proofs
/-! Decided one by one. -/
def decAt (l : List Round) (bs : List Bool) (r : Round) : Round := if r.kind = 2 then dec r (bs.getD (dN l) false) else r
theorem decideL_snoc : ∀ (l : List Round) (bs : List Bool) (r : Round), decideL (l ++ [r]) bs = decideL l bs ++ [decAt l bs r]
  | [], bs, r => by
    simp only [List.nil_append, decideL, decAt, dN]
    by_cases h : r.kind = 2
    · simp only [if_pos h]
      cases bs <;> rfl
    · simp only [if_neg h]
  | q :: l, bs, r => by
    have h1 := decideL_snoc l bs r
    have h2 := decideL_snoc l bs.tail r
    simp only [List.cons_append, decideL]
    by_cases h : q.kind = 2
    · rw [if_pos h, if_pos h, h2]
      simp only [List.cons_append, decAt, dN, if_pos h]
      congr 3
      by_cases hr : r.kind = 2
      · rw [if_pos hr, if_pos hr]
        congr 1
        cases bs with
        | nil => simp
        | cons b bs => simp [Nat.add_comm 1]
      · rw [if_neg hr, if_neg hr]
    · rw [if_neg h, if_neg h, h1]
      simp only [List.cons_append, decAt, dN, if_neg h, Nat.zero_add]
theorem firstK_get {d c j : Nat} (h : j < d) : (firstK d c).getD j false = decide (j < c) := by
  rw [List.getD_eq_getElem?_getD]
  simp [firstK, h]
/-- Equal, but for the room behind the crew. -/
theorem loose_same : ∀ (l : List Round) (bs : List Bool), (decideL (l.map loose) bs).map (fun r => (r.night, r.no, r.kind, r.crew)) = (decideL l bs).map (fun r => (r.night, r.no, r.kind, r.crew))
  | [], _ => rfl
  | r :: l, bs => by
    have h1 := loose_same l bs
    have h2 := loose_same l bs.tail
    simp only [List.map_cons, decideL]
    by_cases h : r.kind = 2
    · rw [if_pos h, if_pos (show (loose r).kind = 2 from h)]
      simp only [List.map_cons, h2]
      rfl
    · rw [if_neg h, if_neg (show ¬ (loose r).kind = 2 from h)]
      simp only [List.map_cons, h1]
      rfl
end Go.Proofs.Ax
