import Derived.Test.YtdfgphfijfocoaaDoorRbX
namespace Go.Proofs.Ax
open Go Go.Proofs
set_option maxRecDepth 10000
set_option maxHeartbeats 4000000
abbrev nilS : AV := .sc (.slice none 0 0)
theorem rsplit_bad (A : Int) (t : Bool) (w : List Int) (h : splitErr A w ≠ 0) (hmax : w.length ≤ 1000000) : Pu Tryd.prog G1 13 [vi A, ints t w] (.agg [nilS, vi (splitErr A w)]) := by
  refine Pu.of_ev (T := Tryd.tab) (n := 108) (tryd_ok _) Tryd.func13 rfl rfl rfl (by first | rfl | (split <;> rfl)) (by simp) ?_
  by_cases hn : 50 < w.length
  · ((conv => whnf); repeat' ((first | refine vv1 ?_ | refine vv2 ?_ | refine vv3 ?_ | refine vv4 ?_ | refine vv5 ?_ | refine vv6 ?_ | refine vv7 ?_ | refine vv8 ?_ | refine vv9 ?_ | refine vv10 ?_ | refine vv11 (fun hbr => ?_) (fun hbr => ?_) | refine vv12 (fun hbr => ?_) (fun hbr => ?_) | refine vv13 ?_ | refine vv14 ?_ | refine vv15 ?_ | refine vv16 ?_ | refine vv17 (fun hbr => ?_) (fun hbr => ?_) | refine vv18 ?_ | refine vv19 (fun hbr => ?_) (fun hbr => ?_) | refine vv20 ?_ | refine SlIdxN.map _ rfl (by first | assumption | omega) ?_ | refine SlIdxN.mapPred (by omega) (by omega) ?_ | refine SlIdxN.mapSucc (by omega) ?_ | refine SlIdxN.lit _ _ rfl rfl ?_ | refine SlIdxN.mapInt (by omega) (by omega) ?_ | refine IdxN.at0 _ rfl (by first | assumption | omega | (simp <;> omega)) ?_ | refine vv21 ?_ | refine RowN.map (by first | assumption | omega) ?_ | refine vv22 ?_ | refine RowSN.map (by first | assumption | omega) ?_ | refine vv23 ?_ | refine vv24 ?_ | refine vv25 ?_ | refine Need.mk (by first | assumption | omega | (simp <;> omega)) ?_ | refine DrawN.gen (by first | exact tryd_ok _ | exact tryd_okm _ _) (by kernel_rfl) ?_ | refine vv26 ?_ | refine vv27 ?_ | refine vv28 ?_ | refine vv29 ?_ | refine vv30 ?_ | refine vv31 ?_ | refine vv32 ?_ | refine vv33 ?_) <;> (conv => whnf)))
    refine DoneN.pure ?_
    simp [splitErr, hn]
  ((conv => whnf); repeat' ((first | refine vv1 ?_ | refine vv2 ?_ | refine vv3 ?_ | refine vv4 ?_ | refine vv5 ?_ | refine vv6 ?_ | refine vv7 ?_ | refine vv8 ?_ | refine vv9 ?_ | refine vv10 ?_ | refine vv11 (fun hbr => ?_) (fun hbr => ?_) | refine vv12 (fun hbr => ?_) (fun hbr => ?_) | refine vv13 ?_ | refine vv14 ?_ | refine vv15 ?_ | refine vv16 ?_ | refine vv17 (fun hbr => ?_) (fun hbr => ?_) | refine vv18 ?_ | refine vv19 (fun hbr => ?_) (fun hbr => ?_) | refine vv20 ?_ | refine SlIdxN.map _ rfl (by first | assumption | omega) ?_ | refine SlIdxN.mapPred (by omega) (by omega) ?_ | refine SlIdxN.mapSucc (by omega) ?_ | refine SlIdxN.lit _ _ rfl rfl ?_ | refine SlIdxN.mapInt (by omega) (by omega) ?_ | refine IdxN.at0 _ rfl (by first | assumption | omega | (simp <;> omega)) ?_ | refine vv21 ?_ | refine RowN.map (by first | assumption | omega) ?_ | refine vv22 ?_ | refine RowSN.map (by first | assumption | omega) ?_ | refine vv23 ?_ | refine vv24 ?_ | refine vv25 ?_ | refine Need.mk (by first | assumption | omega | (simp <;> omega)) ?_ | refine DrawN.gen (by first | exact tryd_ok _ | exact tryd_okm _ _) (by kernel_rfl) ?_ | refine vv26 ?_ | refine vv27 ?_ | refine vv28 ?_ | refine vv29 ?_ | refine vv30 ?_ | refine vv31 ?_ | refine vv32 ?_ | refine vv33 ?_) <;> (conv => whnf)))
  refine LoopN.of2 (tryd_ok _) (fun (k : Nat) (s : Int) => [(0, vi A), (1, ints t w), (4, .pm 0 0 0), (5, vi s), (6, vi k)]) (fun _ _ => [.rows [[nilS, vi 0]] 28]) (fun k _ => w.length - k) (fun k s => k ≤ w.length ∧ s = (w.take k).sum ∧ ∀ x ∈ w.take k, 0 ≤ x ∧ x ≤ 1000000) 0 0 ⟨Nat.zero_le _, by simp, by simp⟩ (Reabs.frmN [0] (by repeat (first | exact trivial | refine ⟨.inr ⟨rfl, rfl⟩, ?_⟩)) (by repeat (first | exact trivial | refine ⟨⟨_, rfl, blkDeep rfl (by first | exact deepLit rfl | exact deepMap (fun _ => rfl)), fun _ => rfl⟩, ?_⟩)) (by decide) ⟨Nat.zero_le _, fun i hi => absurd hi (Nat.not_lt_zero i)⟩) ?_
  rintro k s ⟨hk, hs, hg⟩
  have hb := sum_bd (fun x hx => (hg x hx).1) (fun x hx => (hg x hx).2)
  rw [← hs, List.length_take, Nat.min_eq_left hk] at hb
  by_cases hlt : k < w.length
  · by_cases hx : 0 ≤ w[k] ∧ w[k] ≤ 1000000
    · ((conv => whnf); repeat' ((first | refine vv1 ?_ | refine vv2 ?_ | refine vv3 ?_ | refine vv4 ?_ | refine vv5 ?_ | refine vv6 ?_ | refine vv7 ?_ | refine vv8 ?_ | refine vv9 ?_ | refine vv10 ?_ | refine vv11 (fun hbr => ?_) (fun hbr => ?_) | refine vv12 (fun hbr => ?_) (fun hbr => ?_) | refine vv13 ?_ | refine vv14 ?_ | refine vv15 ?_ | refine vv16 ?_ | refine vv17 (fun hbr => ?_) (fun hbr => ?_) | refine vv18 ?_ | refine vv19 (fun hbr => ?_) (fun hbr => ?_) | refine vv20 ?_ | refine SlIdxN.map _ rfl (by first | assumption | omega) ?_ | refine SlIdxN.mapPred (by omega) (by omega) ?_ | refine SlIdxN.mapSucc (by omega) ?_ | refine SlIdxN.lit _ _ rfl rfl ?_ | refine SlIdxN.mapInt (by omega) (by omega) ?_ | refine IdxN.at0 _ rfl (by first | assumption | omega | (simp <;> omega)) ?_ | refine vv21 ?_ | refine RowN.map (by first | assumption | omega) ?_ | refine vv22 ?_ | refine RowSN.map (by first | assumption | omega) ?_ | refine vv23 ?_ | refine vv24 ?_ | refine vv25 ?_ | refine Need.mk (by first | assumption | omega | (simp <;> omega)) ?_ | refine DrawN.gen (by first | exact tryd_ok _ | exact tryd_okm _ _) (by kernel_rfl) ?_ | refine vv26 ?_ | refine vv27 ?_ | refine vv28 ?_ | refine vv29 ?_ | refine vv30 ?_ | refine vv31 ?_ | refine vv32 ?_ | refine vv33 ?_ | refine CallN.pure (in_ok _ _ _) ?_ | refine GCallN.pure _ (in_ok _ _ _) ?_ | refine GCallN.ef (in_ok _ _ _) ?_) <;> (conv => whnf)))
      refine BackN2.mk (k + 1) (s + w[k]) ⟨by omega, by rw [take_sum_succ hlt, hs], fun x hm => ?_⟩ (by omega) (Reabs.frmN [0] (by repeat (first | exact trivial | refine ⟨.inr ⟨rfl, rfl⟩, ?_⟩)) (by repeat (first | exact trivial | refine ⟨⟨_, rfl, blkDeep rfl (by first | exact deepLit rfl | exact deepMap (fun _ => rfl)), fun _ => rfl⟩, ?_⟩)) (by decide) ⟨Nat.zero_le _, fun i hi => absurd hi (Nat.not_lt_zero i)⟩)
      rw [take_succ_snoc hlt] at hm
      rcases List.mem_append.1 hm with hm | hm
      · exact hg x hm
      · rw [List.mem_singleton.1 hm]; exact hx
    · have he : splitErr A w = 1 := by
        unfold splitErr
        rw [if_neg hn, if_pos (fun hh => hx (hh _ (List.getElem_mem hlt)))]
      rw [he]
      ((conv => whnf); repeat' ((first | refine vv1 ?_ | refine vv2 ?_ | refine vv3 ?_ | refine vv4 ?_ | refine vv5 ?_ | refine vv6 ?_ | refine vv7 ?_ | refine vv8 ?_ | refine vv9 ?_ | refine vv10 ?_ | refine vv11 (fun hbr => ?_) (fun hbr => ?_) | refine vv12 (fun hbr => ?_) (fun hbr => ?_) | refine vv13 ?_ | refine vv14 ?_ | refine vv15 ?_ | refine vv16 ?_ | refine vv17 (fun hbr => ?_) (fun hbr => ?_) | refine vv18 ?_ | refine vv19 (fun hbr => ?_) (fun hbr => ?_) | refine vv20 ?_ | refine SlIdxN.map _ rfl (by first | assumption | omega) ?_ | refine SlIdxN.mapPred (by omega) (by omega) ?_ | refine SlIdxN.mapSucc (by omega) ?_ | refine SlIdxN.lit _ _ rfl rfl ?_ | refine SlIdxN.mapInt (by omega) (by omega) ?_ | refine IdxN.at0 _ rfl (by first | assumption | omega | (simp <;> omega)) ?_ | refine vv21 ?_ | refine RowN.map (by first | assumption | omega) ?_ | refine vv22 ?_ | refine RowSN.map (by first | assumption | omega) ?_ | refine vv23 ?_ | refine vv24 ?_ | refine vv25 ?_ | refine Need.mk (by first | assumption | omega | (simp <;> omega)) ?_ | refine DrawN.gen (by first | exact tryd_ok _ | exact tryd_okm _ _) (by kernel_rfl) ?_ | refine vv26 ?_ | refine vv27 ?_ | refine vv28 ?_ | refine vv29 ?_ | refine vv30 ?_ | refine vv31 ?_ | refine vv32 ?_ | refine vv33 ?_ | refine CallN.pure (in_ok _ _ _) ?_ | refine GCallN.pure _ (in_ok _ _ _) ?_ | refine GCallN.ef (in_ok _ _ _) ?_) <;> (conv => whnf)))
      all_goals exact DoneN.pure rfl
  · have hS : s = w.sum := by rw [hs, List.take_of_length_le (by omega)]
    rw [List.take_of_length_le (by omega)] at hg
    have he : splitErr A w = 1 ∧ (w.sum = 0 ∨ A < 0 ∨ 1099511627776 < A) := by
      unfold splitErr at h ⊢
      rw [if_neg hn, if_neg (fun hh => hh hg)] at h ⊢
      split at h
      · rename_i hc; exact ⟨if_pos hc, hc⟩
      · exact absurd rfl h
    rw [he.1]
    have he2 := he.2
    ((conv => whnf); repeat' ((first | refine vv1 ?_ | refine vv2 ?_ | refine vv3 ?_ | refine vv4 ?_ | refine vv5 ?_ | refine vv6 ?_ | refine vv7 ?_ | refine vv8 ?_ | refine vv9 ?_ | refine vv10 ?_ | refine vv11 (fun hbr => ?_) (fun hbr => ?_) | refine vv12 (fun hbr => ?_) (fun hbr => ?_) | refine vv13 ?_ | refine vv14 ?_ | refine vv15 ?_ | refine vv16 ?_ | refine vv17 (fun hbr => ?_) (fun hbr => ?_) | refine vv18 ?_ | refine vv19 (fun hbr => ?_) (fun hbr => ?_) | refine vv20 ?_ | refine SlIdxN.map _ rfl (by first | assumption | omega) ?_ | refine SlIdxN.mapPred (by omega) (by omega) ?_ | refine SlIdxN.mapSucc (by omega) ?_ | refine SlIdxN.lit _ _ rfl rfl ?_ | refine SlIdxN.mapInt (by omega) (by omega) ?_ | refine IdxN.at0 _ rfl (by first | assumption | omega | (simp <;> omega)) ?_ | refine vv21 ?_ | refine RowN.map (by first | assumption | omega) ?_ | refine vv22 ?_ | refine RowSN.map (by first | assumption | omega) ?_ | refine vv23 ?_ | refine vv24 ?_ | refine vv25 ?_ | refine Need.mk (by first | assumption | omega | (simp <;> omega)) ?_ | refine DrawN.gen (by first | exact tryd_ok _ | exact tryd_okm _ _) (by kernel_rfl) ?_ | refine vv26 ?_ | refine vv27 ?_ | refine vv28 ?_ | refine vv29 ?_ | refine vv30 ?_ | refine vv31 ?_ | refine vv32 ?_ | refine vv33 ?_ | refine CallN.pure (in_ok _ _ _) ?_ | refine GCallN.pure _ (in_ok _ _ _) ?_ | refine GCallN.ef (in_ok _ _ _) ?_) <;> (conv => whnf)))
    all_goals exact DoneN.pure rfl
/-- What is left of each, with -1 for each number of l. -/
def leftOf (A : Int) (w : List Int) (l : List Nat) : List Int := (List.range w.length).map fun j => if j ∈ l then -1 else key A w.sum w j
theorem leftOf_len (A : Int) (w : List Int) (l : List Nat) : (leftOf A w l).length = w.length := by simp [leftOf]
theorem leftOf_step {A : Int} {w : List Int} {l : List Nat} {i : Nat} : (leftOf A w l).set i (-1) = leftOf A w (l ++ [i]) := by
  refine List.ext_getElem (by simp [leftOf]) fun j h1 h2 => ?_
  rw [List.getElem_set]
  simp only [leftOf, List.getElem_map, List.getElem_range, List.mem_append, List.mem_singleton]
  split
  · rename_i he
    subst he
    rw [if_pos (.inr rfl)]
  · rename_i hne
    by_cases hj : j ∈ l
    · rw [if_pos hj, if_pos (.inl hj)]
    · rw [if_neg hj, if_neg (by rintro (h | h); exact hj h; exact hne h.symm)]
/-- The numbers in their order. -/
theorem order_ex (key : Nat → Int) (n : Nat) : ∃ o : List Nat, o.Perm (List.range n) ∧ o.Pairwise (bef key) := by
  let le : Nat → Nat → Bool := fun x y => decide (key y < key x ∨ (key x = key y ∧ x ≤ y))
  refine ⟨(List.range n).mergeSort le, List.mergeSort_perm _ _, ?_⟩
  have hs : ((List.range n).mergeSort le).Pairwise fun a b => le a b = true := List.pairwise_mergeSort (fun a b c h1 h2 => by simp only [le, decide_eq_true_eq] at *; omega) (fun a b => by simp only [le, Bool.or_eq_true, decide_eq_true_eq]; omega) _
  have hn : ((List.range n).mergeSort le).Pairwise (· ≠ ·) := (List.mergeSort_perm _ _).nodup_iff.2 List.nodup_range
  refine (hs.and hn).imp fun {a b} h => ?_
  have h1 := h.1
  have h2 := h.2
  simp only [le, decide_eq_true_eq] at h1
  unfold bef
  omega
/-- The first of the greatest of what is left is the next in the order. -/
theorem best_is {A : Int} {w : List Int} (hd : DivOk A w) {o : List Nat} (p : o.Perm (List.range w.length)) (s : o.Pairwise (bef (key A w.sum w))) {c b : Nat} (hc : c < o.length) (hb : b < w.length)
    (h1 : ∀ j (hj : j < w.length), (leftOf A w (o.take c)).getD j 0 ≤ (leftOf A w (o.take c)).getD b 0) (h2 : ∀ j, j < b → (leftOf A w (o.take c)).getD j 0 < (leftOf A w (o.take c)).getD b 0) : b = o[c] := by
  have hg : ∀ j, j < w.length → (leftOf A w (o.take c)).getD j 0 = if j ∈ o.take c then -1 else key A w.sum w j := fun j hj => by
    rw [getD_lt (by rw [leftOf_len]; exact hj)]
    simp [leftOf]
  have hk : ∀ j, 0 ≤ key A w.sum w j := fun j => Int.emod_nonneg _ (by have := hd.pos; omega)
  have hoc : o[c] < w.length := List.mem_range.1 (p.mem_iff.1 (List.getElem_mem hc))
  have hnc : o[c] ∉ o.take c := fun hm => by
    obtain ⟨r, hr, he⟩ := List.getElem_of_mem hm
    rw [List.getElem_take] at he
    simp only [List.length_take] at hr
    have := (List.getElem_inj (p.nodup_iff.2 List.nodup_range)).1 he
    omega
  have e1 := h1 _ hoc
  rw [hg _ hoc, hg _ hb, if_neg hnc] at e1
  have hkc := hk o[c]
  by_cases hbt : b ∈ o.take c
  · rw [if_pos hbt] at e1; omega
  rw [if_neg hbt] at e1
  -- b lies at c or behind it
  obtain ⟨q, hq, hqe⟩ := List.getElem_of_mem (p.mem_iff.2 (List.mem_range.2 hb))
  have hqc : c ≤ q := by
    by_cases hlt : q < c
    · exact absurd (List.mem_iff_getElem.2 ⟨q, by simp; omega, by simp [hqe]⟩) hbt
    · omega
  rcases Nat.lt_or_ge c q with hlt | hge
  · exfalso
    have hbef := (List.pairwise_iff_getElem.1 s) c q hc hq hlt
    rw [hqe] at hbef
    rcases hbef with h | ⟨h, h'⟩
    · omega
    · have e2 := h2 _ h'
      rw [hg _ hoc, hg _ hb, if_neg hnc, if_neg hbt] at e2
      omega
  · have : q = c := by omega
    subst this
    exact hqe.symm
end Go.Proofs.Ax
