import Derived.Test.YtdfgphfijfocoaaGreatDoorRbX
namespace Go.Proofs.Ax
open Go Go.Proofs
set_option maxRecDepth 10000
set_option maxHeartbeats 4000000
abbrev nilS : AV := .sc (.slice none 0 0)
/-- What is left of each, with -1 for each number of l. -/
def leftOf (A : Int) (w : List Int) (l : List Nat) : List Int := (List.range w.length).map fun j => if j ∈ l then -1 else key A w.sum w j
theorem leftOf_len (A : Int) (w : List Int) (l : List Nat) : (leftOf A w l).length = w.length := by simp [leftOf]
theorem leftOf_step {A : Int} {w : List Int} {l : List Nat} {i : Nat} : (leftOf A w l).set i (-1) = leftOf A w (l ++ [i]) := by
  refine List.ext_getElem (by simp [leftOf]) fun j h1 h2 => ?_
  rw [List.getElem_set]
  simp only [leftOf, List.getElem_map, List.getElem_range, List.mem_append, List.mem_singleton]
  split
  · rename_i he
    subst he
    rw [if_pos (.inr rfl)]
  · rename_i hne
    by_cases hj : j ∈ l
    · rw [if_pos hj, if_pos (.inl hj)]
    · rw [if_neg hj, if_neg (by rintro (h | h); exact hj h; exact hne h.symm)]
/-- The numbers in their order. -/
theorem order_ex (key : Nat → Int) (n : Nat) : ∃ o : List Nat, o.Perm (List.range n) ∧ o.Pairwise (bef key) := by
  let le : Nat → Nat → Bool := fun x y => decide (key y < key x ∨ (key x = key y ∧ x ≤ y))
  refine ⟨(List.range n).mergeSort le, List.mergeSort_perm _ _, ?_⟩
  have hs : ((List.range n).mergeSort le).Pairwise fun a b => le a b = true := List.pairwise_mergeSort (fun a b c h1 h2 => by simp only [le, decide_eq_true_eq] at *; omega) (fun a b => by simp only [le, Bool.or_eq_true, decide_eq_true_eq]; omega) _
  have hn : ((List.range n).mergeSort le).Pairwise (· ≠ ·) := (List.mergeSort_perm _ _).nodup_iff.2 List.nodup_range
  refine (hs.and hn).imp fun {a b} h => ?_
  have h1 := h.1
  have h2 := h.2
  simp only [le, decide_eq_true_eq] at h1
  unfold bef
  omega
/-- The first of the greatest of what is left is the next in the order. -/
theorem best_is {A : Int} {w : List Int} (hd : DivOk A w) {o : List Nat} (p : o.Perm (List.range w.length)) (s : o.Pairwise (bef (key A w.sum w))) {c b : Nat} (hc : c < o.length) (hb : b < w.length)
    (h1 : ∀ j (hj : j < w.length), (leftOf A w (o.take c)).getD j 0 ≤ (leftOf A w (o.take c)).getD b 0) (h2 : ∀ j, j < b → (leftOf A w (o.take c)).getD j 0 < (leftOf A w (o.take c)).getD b 0) : b = o[c] := by
  have hg : ∀ j, j < w.length → (leftOf A w (o.take c)).getD j 0 = if j ∈ o.take c then -1 else key A w.sum w j := fun j hj => by
    rw [getD_lt (by rw [leftOf_len]; exact hj)]
    simp [leftOf]
  have hk : ∀ j, 0 ≤ key A w.sum w j := fun j => Int.emod_nonneg _ (by have := hd.pos; omega)
  have hoc : o[c] < w.length := List.mem_range.1 (p.mem_iff.1 (List.getElem_mem hc))
  have hnc : o[c] ∉ o.take c := fun hm => by
    obtain ⟨r, hr, he⟩ := List.getElem_of_mem hm
    rw [List.getElem_take] at he
    simp only [List.length_take] at hr
    have := (List.getElem_inj (p.nodup_iff.2 List.nodup_range)).1 he
    omega
  have e1 := h1 _ hoc
  rw [hg _ hoc, hg _ hb, if_neg hnc] at e1
  have hkc := hk o[c]
  by_cases hbt : b ∈ o.take c
  · rw [if_pos hbt] at e1; omega
  rw [if_neg hbt] at e1
  -- b lies at c or behind it
  obtain ⟨q, hq, hqe⟩ := List.getElem_of_mem (p.mem_iff.2 (List.mem_range.2 hb))
  have hqc : c ≤ q := by
    by_cases hlt : q < c
    · exact absurd (List.mem_iff_getElem.2 ⟨q, by simp; omega, by simp [hqe]⟩) hbt
    · omega
  rcases Nat.lt_or_ge c q with hlt | hge
  · exfalso
    have hbef := (List.pairwise_iff_getElem.1 s) c q hc hq hlt
    rw [hqe] at hbef
    rcases hbef with h | ⟨h, h'⟩
    · omega
    · have e2 := h2 _ h'
      rw [hg _ hoc, hg _ hb, if_neg hnc, if_neg hbt] at e2
      omega
  · have : q = c := by omega
    subst this
    exact hqe.symm
end Go.Proofs.Ax
