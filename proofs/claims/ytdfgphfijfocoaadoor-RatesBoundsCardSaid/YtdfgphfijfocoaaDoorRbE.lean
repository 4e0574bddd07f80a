import Derived.Test.YtdfgphfijfocoaaDoorRbP
import Derived.Test.YtdfgphfijfocoaaDoorAxH
namespace Go.Proofs.Ax
open Go Go.Proofs
set_option maxRecDepth 10000
set_option maxHeartbeats 2000000
/-- The balance of an account. -/
def bal (l : List Posting) (a : Int) : Int := (l.map (change · a)).sum
theorem bal_nil (a : Int) : bal [] a = 0 := rfl
theorem bal_append (l m : List Posting) (a : Int) : bal (l ++ m) a = bal l a + bal m a := by simp [bal]
theorem bal_snoc (l : List Posting) (p : Posting) (a : Int) : bal (l ++ [p]) a = bal l a + change p a := by rw [bal_append]; simp [bal]
theorem change_bd {p : Posting} (h : p.ok) (a : Int) : -1099511627776 ≤ change p a ∧ change p a ≤ 1099511627776 := by
  unfold Posting.ok at h
  unfold change
  split
  · omega
  · split <;> omega
theorem bal_bd : ∀ {l : List Posting} (_ : ∀ p ∈ l, p.ok) (a : Int), -(1099511627776 * (l.length : Int)) ≤ bal l a ∧ bal l a ≤ 1099511627776 * (l.length : Int)
  | [], _, a => by simp [bal]
  | p :: l, h, a => by
    have ih := bal_bd (fun p hp => h p (List.mem_cons_of_mem _ hp)) (l := l) a
    have hc := change_bd (h p (List.mem_cons_self ..)) a
    have : bal (p :: l) a = change p a + bal l a := by simp [bal]
    rw [this, List.length_cons]
    omega
theorem bal_take_succ {l : List Posting} {k : Nat} (h : k < l.length) (a : Int) : bal (l.take (k + 1)) a = bal (l.take k) a + change l[k] a := by
  rw [take_succ_snoc h, bal_snoc]
theorem bal_take_bd {l : List Posting} (h : ∀ p ∈ l, p.ok) (k : Nat) (hk : k ≤ l.length) (a : Int) : -(1099511627776 * (k : Int)) ≤ bal (l.take k) a ∧ bal (l.take k) a ≤ 1099511627776 * (k : Int) := by
  have := bal_bd (l := l.take k) (fun p hp => h p (List.mem_of_mem_take hp)) a
  rw [List.length_take, Nat.min_eq_left hk] at this
  exact this
theorem rbalance_ok (t : Bool) (l : List Posting) (a : Int) (h : ∀ p ∈ l, p.ok) (hmax : l.length ≤ 8000) : Pu Tryd.prog G1 65 [postings t l, vi a] (vi (bal l a)) := by
  refine Pu.of_ev (T := Tryd.tab) (n := 42) (tryd_ok _) Tryd.func65 rfl rfl rfl (by first | rfl | (split <;> rfl)) (by simp) ?_
  ((conv => whnf); repeat' ((first | refine vv1 ?_ | refine vv2 ?_ | refine vv3 ?_ | refine vv4 ?_ | refine vv5 ?_ | refine vv6 ?_ | refine vv7 ?_ | refine vv8 ?_ | refine vv9 ?_ | refine vv10 ?_ | refine vv11 (fun hbr => ?_) (fun hbr => ?_) | refine vv12 (fun hbr => ?_) (fun hbr => ?_) | refine vv13 ?_ | refine vv14 ?_ | refine vv15 ?_ | refine vv16 ?_ | refine vv17 (fun hbr => ?_) (fun hbr => ?_) | refine vv18 ?_ | refine vv19 (fun hbr => ?_) (fun hbr => ?_) | refine vv20 ?_ | refine SlIdxN.map _ rfl (by first | assumption | omega) ?_ | refine SlIdxN.mapPred (by omega) (by omega) ?_ | refine SlIdxN.mapSucc (by omega) ?_ | refine SlIdxN.lit _ _ rfl rfl ?_ | refine SlIdxN.mapInt (by omega) (by omega) ?_ | refine IdxN.at0 _ rfl (by first | assumption | omega | (simp <;> omega)) ?_ | refine vv21 ?_ | refine RowN.map (by first | assumption | omega) ?_ | refine vv22 ?_ | refine RowSN.map (by first | assumption | omega) ?_ | refine vv23 ?_ | refine vv24 ?_ | refine vv25 ?_ | refine Need.mk (by first | assumption | omega | (simp <;> omega)) ?_ | refine DrawN.gen (by first | exact tryd_ok _ | exact tryd_okm _ _) (by kernel_rfl) ?_ | refine vv26 ?_ | refine vv27 ?_ | refine vv28 ?_ | refine vv29 ?_ | refine vv30 ?_ | refine vv31 ?_ | refine vv32 ?_ | refine vv33 ?_) <;> (conv => whnf)))
  refine LoopN.of2 (tryd_ok _) (fun (k : Nat) (n : Int) => [(0, postings t l), (1, vi a), (5, vi n), (6, vi k)]) (fun _ _ => []) (fun k _ => l.length - k) (fun k n => k ≤ l.length ∧ n = bal (l.take k) a) 0 0 ⟨Nat.zero_le _, rfl⟩ (Reabs.frm0 rfl (by repeat (first | exact trivial | refine ⟨.inr ⟨rfl, rfl⟩, ?_⟩))) ?_
  rintro k n ⟨hk, hn⟩
  by_cases hlt : k < l.length
  · have hok := h _ (List.getElem_mem hlt)
    have hb := bal_take_bd h k hk a
    have hs := bal_take_succ hlt a
    have hok' := hok
    unfold Posting.ok at hok'
    have hamt : 1 ≤ l[k].amount ∧ l[k].amount ≤ 1099511627776 := hok'.2.2.2.2.2
    have hne : l[k].src ≠ l[k].dst := hok'.2.2.2.2.1
    clear hok hok'
    ((conv => whnf); repeat' ((first | refine vv1 ?_ | refine vv2 ?_ | refine vv3 ?_ | refine vv4 ?_ | refine vv5 ?_ | refine vv6 ?_ | refine vv7 ?_ | refine vv8 ?_ | refine vv9 ?_ | refine vv10 ?_ | refine vv11 (fun hbr => ?_) (fun hbr => ?_) | refine vv12 (fun hbr => ?_) (fun hbr => ?_) | refine vv13 ?_ | refine vv14 ?_ | refine vv15 ?_ | refine vv16 ?_ | refine vv17 (fun hbr => ?_) (fun hbr => ?_) | refine vv18 ?_ | refine vv19 (fun hbr => ?_) (fun hbr => ?_) | refine vv20 ?_ | refine SlIdxN.map _ rfl (by first | assumption | omega) ?_ | refine SlIdxN.mapPred (by omega) (by omega) ?_ | refine SlIdxN.mapSucc (by omega) ?_ | refine SlIdxN.lit _ _ rfl rfl ?_ | refine SlIdxN.mapInt (by omega) (by omega) ?_ | refine IdxN.at0 _ rfl (by first | assumption | omega | (simp <;> omega)) ?_ | refine vv21 ?_ | refine RowN.map (by first | assumption | omega) ?_ | refine vv22 ?_ | refine RowSN.map (by first | assumption | omega) ?_ | refine vv23 ?_ | refine vv24 ?_ | refine vv25 ?_ | refine Need.mk (by first | assumption | omega | (simp <;> omega)) ?_ | refine DrawN.gen (by first | exact tryd_ok _ | exact tryd_okm _ _) (by kernel_rfl) ?_ | refine vv26 ?_ | refine vv27 ?_ | refine vv28 ?_ | refine vv29 ?_ | refine vv30 ?_ | refine vv31 ?_ | refine vv32 ?_ | refine vv33 ?_) <;> (conv => whnf)))
    all_goals refine BackN2.mk (k + 1) _ ⟨by omega, ?_⟩ (by omega) (Reabs.frm0 rfl (by repeat (first | exact trivial | refine ⟨.inr ⟨rfl, rfl⟩, ?_⟩)))
    all_goals rw [hs]; unfold change
    all_goals first
      | (exfalso; omega)
      | (rw [if_pos (by omega)]; omega)
      | (rw [if_neg (by omega), if_pos (by omega)]; omega)
      | (rw [if_neg (by omega), if_neg (by omega)]; omega)
  · ((conv => whnf); repeat' ((first | refine vv1 ?_ | refine vv2 ?_ | refine vv3 ?_ | refine vv4 ?_ | refine vv5 ?_ | refine vv6 ?_ | refine vv7 ?_ | refine vv8 ?_ | refine vv9 ?_ | refine vv10 ?_ | refine vv11 (fun hbr => ?_) (fun hbr => ?_) | refine vv12 (fun hbr => ?_) (fun hbr => ?_) | refine vv13 ?_ | refine vv14 ?_ | refine vv15 ?_ | refine vv16 ?_ | refine vv17 (fun hbr => ?_) (fun hbr => ?_) | refine vv18 ?_ | refine vv19 (fun hbr => ?_) (fun hbr => ?_) | refine vv20 ?_ | refine SlIdxN.map _ rfl (by first | assumption | omega) ?_ | refine SlIdxN.mapPred (by omega) (by omega) ?_ | refine SlIdxN.mapSucc (by omega) ?_ | refine SlIdxN.lit _ _ rfl rfl ?_ | refine SlIdxN.mapInt (by omega) (by omega) ?_ | refine IdxN.at0 _ rfl (by first | assumption | omega | (simp <;> omega)) ?_ | refine vv21 ?_ | refine RowN.map (by first | assumption | omega) ?_ | refine vv22 ?_ | refine RowSN.map (by first | assumption | omega) ?_ | refine vv23 ?_ | refine vv24 ?_ | refine vv25 ?_ | refine Need.mk (by first | assumption | omega | (simp <;> omega)) ?_ | refine DrawN.gen (by first | exact tryd_ok _ | exact tryd_okm _ _) (by kernel_rfl) ?_ | refine vv26 ?_ | refine vv27 ?_ | refine vv28 ?_ | refine vv29 ?_ | refine vv30 ?_ | refine vv31 ?_ | refine vv32 ?_ | refine vv33 ?_) <;> (conv => whnf)))
    refine DoneN.pure (vi_eq ?_)
    rw [hn, List.take_of_length_le (by omega)]
/-- What a watchman has earned in each of some nights. -/
def earned (l : List Posting) (id : Int) (s : Span) : List Int := (List.range (s.hi - s.lo + 1).toNat).map fun (j : Nat) => bal (l.filter fun p => decide (p.night = s.lo + ((j : Nat) : Int))) id
theorem earned_length (l : List Posting) (id : Int) (s : Span) : (earned l id s).length = (s.hi - s.lo + 1).toNat := by simp [earned]
theorem checkPost_0 {l : List Posting} (h : (checkPost l).1 = 0) : l.length ≤ 4000 ∧ ∀ p ∈ l, p.ok := by
  unfold checkPost at h
  split at h
  · cases h
  · refine ⟨by omega, ?_⟩
    have key : ∀ (l : List Posting) (k : Nat) (q : Option Posting), (scan badPost k q l).1 = 0 → ∀ p ∈ l, p.ok := by
      intro l
      induction l with
      | nil => intro k q _ p hp; cases hp
      | cons x xs ih =>
        intro k q h p hp
        unfold scan badPost at h
        by_cases hx : x.ok
        · simp only [if_pos hx] at h
          rcases List.mem_cons.1 hp with rfl | hp
          · exact hx
          · exact ih _ _ h p hp
        · simp only [if_neg hx] at h
          cases h
    exact key l 0 none h
def intRow (n : Int) : List AV := [vi n]
theorem ints_eq (t : Bool) (l : List Int) : ints t l = .sl 1 t (l.map intRow) := rfl
theorem earned_step {l : List Posting} {k : Nat} (h : k < l.length) (id : Int) (s : Span) (hin : s.lo ≤ l[k].night ∧ l[k].night ≤ s.hi) :
    (earned (l.take k) id s).set (l[k].night - s.lo).toNat ((earned (l.take k) id s)[(l[k].night - s.lo).toNat]'(by rw [earned_length]; omega) + change l[k] id) = earned (l.take (k + 1)) id s := by
  refine List.ext_getElem (by simp [earned_length]) fun j h1 h2 => ?_
  rw [List.length_set, earned_length] at h1
  rw [List.getElem_set]
  simp only [earned, List.getElem_map, List.getElem_range, take_succ_snoc h, List.filter_append]
  split
  · rename_i he
    subst he
    have : (decide (l[k].night = s.lo + (((l[k].night - s.lo).toNat : Nat) : Int))) = true := by
      rw [decide_eq_true_eq]; omega
    simp only [List.filter_cons, this, if_true, List.filter_nil, bal_snoc]
  · rename_i hne
    have : (decide (l[k].night = s.lo + (j : Int))) = false := by
      rw [decide_eq_false_iff_not]; omega
    simp only [List.filter_cons, this, List.filter_nil]
    simp
theorem earned_skip {l : List Posting} {k : Nat} (h : k < l.length) (id : Int) (s : Span) (hin : ¬ (s.lo ≤ l[k].night ∧ l[k].night ≤ s.hi)) : earned (l.take (k + 1)) id s = earned (l.take k) id s := by
  unfold earned
  refine List.map_congr_left fun j hj => ?_
  rw [List.mem_range] at hj
  rw [take_succ_snoc h, List.filter_append]
  have : (decide (l[k].night = s.lo + (j : Int))) = false := by
    rw [decide_eq_false_iff_not]; omega
  simp only [List.filter_cons, this, List.filter_nil]
  simp
theorem earned_bd {l : List Posting} (h : ∀ p ∈ l, p.ok) (id : Int) (s : Span) {j : Nat} (hj : j < (earned l id s).length) : -(1099511627776 * (l.length : Int)) ≤ (earned l id s)[j] ∧ (earned l id s)[j] ≤ 1099511627776 * (l.length : Int) := by
  simp only [earned, List.getElem_map]
  have := bal_bd (l := l.filter fun p => decide (p.night = s.lo + (((List.range (s.hi - s.lo + 1).toNat)[j]'(by simpa [earned] using hj) : Nat) : Int))) (fun p hp => h p (List.mem_filter.1 hp).1) id
  have hl := List.length_filter_le (fun p : Posting => decide (p.night = s.lo + (((List.range (s.hi - s.lo + 1).toNat)[j]'(by simpa [earned] using hj) : Nat) : Int))) l
  omega
/-- The error of Earned. -/
def earnedErr (l : List Posting) (id : Int) (s : Span) : Int := if (checkPost l).1 ≠ 0 then (checkPost l).1 else if spanErr s ≠ 0 then spanErr s else if ¬ (1 ≤ id ∧ id ≤ 1099511627776) then 1 else 0
theorem spanErr_0 {s : Span} (h : spanErr s = 0) : s.lo ≤ s.hi ∧ (0 ≤ s.lo ∧ s.lo ≤ 20000) ∧ (0 ≤ s.hi ∧ s.hi ≤ 20000) ∧ s.hi - s.lo < 400 := by
  unfold spanErr at h
  split at h
  · cases h
  · split at h
    · cases h
    · omega
theorem earned_ok (t : Bool) (l : List Posting) (id : Int) (s : Span) (hmax : l.length ≤ 9223372036854775807) : Pu Tryd.prog G1 31 [postings t l, vi id, .agg s.enc]
    (if earnedErr l id s = 0 then .tuple [ints false (earned l id s), vi 0] else .tuple [.sc (.slice none 0 0), vi (earnedErr l id s)]) := by
  refine Pu.of_ev (T := Tryd.tab) (n := 73) (tryd_ok _) Tryd.func31 rfl rfl rfl (by first | rfl | (split <;> rfl)) (by simp) ?_
  ((conv => whnf); repeat' ((first | refine vv1 ?_ | refine vv2 ?_ | refine vv3 ?_ | refine vv4 ?_ | refine vv5 ?_ | refine vv6 ?_ | refine vv7 ?_ | refine vv8 ?_ | refine vv9 ?_ | refine vv10 ?_ | refine vv11 (fun hbr => ?_) (fun hbr => ?_) | refine vv12 (fun hbr => ?_) (fun hbr => ?_) | refine vv13 ?_ | refine vv14 ?_ | refine vv15 ?_ | refine vv16 ?_ | refine vv17 (fun hbr => ?_) (fun hbr => ?_) | refine vv18 ?_ | refine vv19 (fun hbr => ?_) (fun hbr => ?_) | refine vv20 ?_ | refine SlIdxN.map _ rfl (by first | assumption | omega) ?_ | refine SlIdxN.mapPred (by omega) (by omega) ?_ | refine SlIdxN.mapSucc (by omega) ?_ | refine SlIdxN.lit _ _ rfl rfl ?_ | refine SlIdxN.mapInt (by omega) (by omega) ?_ | refine IdxN.at0 _ rfl (by first | assumption | omega | (simp <;> omega)) ?_ | refine vv21 ?_ | refine RowN.map (by first | assumption | omega) ?_ | refine vv22 ?_ | refine RowSN.map (by first | assumption | omega) ?_ | refine vv23 ?_ | refine vv24 ?_ | refine vv25 ?_ | refine Need.mk (by first | assumption | omega | (simp <;> omega)) ?_ | refine DrawN.gen (by first | exact tryd_ok _ | exact tryd_okm _ _) (by kernel_rfl) ?_ | refine vv26 ?_ | refine vv27 ?_ | refine vv28 ?_ | refine vv29 ?_ | refine vv30 ?_ | refine vv31 ?_ | refine vv32 ?_ | refine vv33 ?_ | refine CallN.pure (checkPost_ok _ _ hmax) ?_ | refine CallN.pure (spanned_ok _) ?_ | refine GCallN.pure _ (checkPost_ok _ _ hmax) ?_ | refine GCallN.pure _ (spanned_ok _) ?_ | refine GCallN.ef (checkPost_ok _ _ hmax) ?_ | refine GCallN.ef (spanned_ok _) ?_) <;> (conv => whnf)))
  case refine_2 => refine DoneN.pure ?_; rw [if_neg (by simp [earnedErr, *])]; simp only [earnedErr, if_pos (show (checkPost l).1 ≠ 0 by assumption)]
  case refine_1.refine_2 => refine DoneN.pure ?_; rw [if_neg (by simp [earnedErr, *])]; simp [earnedErr, *]
  case refine_1.refine_1.refine_1 => refine DoneN.pure ?_; rw [if_neg (by simp [earnedErr, *] <;> omega)]; simp [earnedErr, *] <;> omega
  case refine_1.refine_1.refine_2.refine_1 => refine DoneN.pure ?_; rw [if_neg (by simp [earnedErr, *] <;> omega)]; simp [earnedErr, *] <;> omega
  have hs := spanErr_0 ‹spanErr s = 0›
  have hp := checkPost_0 ‹(checkPost l).1 = 0›
  have herr : earnedErr l id s = 0 := by simp [earnedErr, *] <;> omega
  rw [if_pos herr]
  obtain ⟨hp1, hp2⟩ := hp
  ((conv => whnf); repeat' ((first | refine vv1 ?_ | refine vv2 ?_ | refine vv3 ?_ | refine vv4 ?_ | refine vv5 ?_ | refine vv6 ?_ | refine vv7 ?_ | refine vv8 ?_ | refine vv9 ?_ | refine vv10 ?_ | refine vv11 (fun hbr => ?_) (fun hbr => ?_) | refine vv12 (fun hbr => ?_) (fun hbr => ?_) | refine vv13 ?_ | refine vv14 ?_ | refine vv15 ?_ | refine vv16 ?_ | refine vv17 (fun hbr => ?_) (fun hbr => ?_) | refine vv18 ?_ | refine vv19 (fun hbr => ?_) (fun hbr => ?_) | refine vv20 ?_ | refine SlIdxN.map _ rfl (by first | assumption | omega) ?_ | refine SlIdxN.mapPred (by omega) (by omega) ?_ | refine SlIdxN.mapSucc (by omega) ?_ | refine SlIdxN.lit _ _ rfl rfl ?_ | refine SlIdxN.mapInt (by omega) (by omega) ?_ | refine IdxN.at0 _ rfl (by first | assumption | omega | (simp <;> omega)) ?_ | refine vv21 ?_ | refine RowN.map (by first | assumption | omega) ?_ | refine vv22 ?_ | refine RowSN.map (by first | assumption | omega) ?_ | refine vv23 ?_ | refine vv24 ?_ | refine vv25 ?_ | refine Need.mk (by first | assumption | omega | (simp <;> omega)) ?_ | refine DrawN.gen (by first | exact tryd_ok _ | exact tryd_okm _ _) (by kernel_rfl) ?_ | refine vv26 ?_ | refine vv27 ?_ | refine vv28 ?_ | refine vv29 ?_ | refine vv30 ?_ | refine vv31 ?_ | refine vv32 ?_ | refine vv33 ?_) <;> (conv => whnf)))
  refine LoopN.of (tryd_ok _) (fun k : Nat => [(1, vi id), (5, .pm 0 0 0), (11, .sm 1 1 0 (s.hi - s.lo + 1).toNat), (40, postings t l), (41, vi l.length), (42, vi k)]) (fun k => [.rows [s.enc] 45, .rows ((earned (l.take k) id s).map intRow) 3]) (fun k => l.length - k) (fun k => k ≤ l.length) 0 (Nat.zero_le _)
    (Reabs.frmN [0, 1] (by repeat (first | exact trivial | refine ⟨.inr ⟨rfl, rfl⟩, ?_⟩)) ⟨⟨_, rfl, blkDeep rfl (deepLit rfl), fun _ => rfl⟩, ⟨_, rfl, blkDeep ?_ (deepMap (fun _ => rfl)), fun _ => rfl⟩, trivial⟩ (by decide) ⟨Nat.zero_le _, fun i hi => absurd hi (Nat.not_lt_zero i)⟩) ?_
  · congr 1
    refine List.ext_getElem (by simp [earned_length]) fun j h1 h2 => ?_
    simp [earned, bal_nil, intRow]
  intro k hk
  have hlen := earned_length (l.take k) id s
  by_cases hlt : k < l.length
  · have hok := hp2 _ (List.getElem_mem hlt)
    have hamt : 1 ≤ l[k].amount ∧ l[k].amount ≤ 1099511627776 := hok.2.2.2.2.2
    have hcb := change_bd hok id
    have hbd := fun (j : Nat) (hj : j < (earned (l.take k) id s).length) => earned_bd (l := l.take k) (fun p hp => hp2 p (List.mem_of_mem_take hp)) id s hj
    have htl : (l.take k).length = k := by simp; omega
    by_cases hin : s.lo ≤ l[k].night ∧ l[k].night ≤ s.hi
    · have hb := hbd (l[k].night - s.lo).toNat (by omega)
      have hst := earned_step hlt id s hin
      obtain ⟨hin1, hin2⟩ := hin
      ((conv => whnf); repeat' ((first | refine vv1 ?_ | refine vv2 ?_ | refine vv3 ?_ | refine vv4 ?_ | refine vv5 ?_ | refine vv6 ?_ | refine vv7 ?_ | refine vv8 ?_ | refine vv9 ?_ | refine vv10 ?_ | refine vv11 (fun hbr => ?_) (fun hbr => ?_) | refine vv12 (fun hbr => ?_) (fun hbr => ?_) | refine vv13 ?_ | refine vv14 ?_ | refine vv15 ?_ | refine vv16 ?_ | refine vv17 (fun hbr => ?_) (fun hbr => ?_) | refine vv18 ?_ | refine vv19 (fun hbr => ?_) (fun hbr => ?_) | refine vv20 ?_ | refine SlIdxN.map _ rfl (by first | assumption | omega) ?_ | refine SlIdxN.mapPred (by omega) (by omega) ?_ | refine SlIdxN.mapSucc (by omega) ?_ | refine SlIdxN.lit _ _ rfl rfl ?_ | refine SlIdxN.mapInt (by omega) (by omega) ?_ | refine IdxN.at0 _ rfl (by first | assumption | omega | (simp <;> omega)) ?_ | refine vv21 ?_ | refine RowN.map (by first | assumption | omega) ?_ | refine vv22 ?_ | refine RowSN.map (by first | assumption | omega) ?_ | refine vv23 ?_ | refine vv24 ?_ | refine vv25 ?_ | refine Need.mk (by first | assumption | omega | (simp <;> omega)) ?_ | refine DrawN.gen (by first | exact tryd_ok _ | exact tryd_okm _ _) (by kernel_rfl) ?_ | refine vv26 ?_ | refine vv27 ?_ | refine vv28 ?_ | refine vv29 ?_ | refine vv30 ?_ | refine vv31 ?_ | refine vv32 ?_ | refine vv33 ?_ | refine CallN.pure (change_ok _ _ (by omega)) ?_ | refine GCallN.pure _ (change_ok _ _ (by omega)) ?_ | refine GCallN.ef (change_ok _ _ (by omega)) ?_) <;> (conv => whnf)))
      refine BackN.mk (k + 1) (by omega) (by omega) (Reabs.frmN [0, 1] (by repeat (first | exact trivial | refine ⟨.inr ⟨rfl, rfl⟩, ?_⟩)) ⟨⟨_, rfl, blkDeep rfl (deepLit rfl), fun _ => rfl⟩, ⟨_, rfl, blkDeep ?_ (deepMap (fun _ => rfl)), fun _ => rfl⟩, trivial⟩ (by decide) ⟨Nat.zero_le _, fun i hi => absurd hi (Nat.not_lt_zero i)⟩)
      rw [← hst, List.map_set]
      rfl
    · have hst := earned_skip hlt id s hin
      ((conv => whnf); repeat' ((first | refine vv1 ?_ | refine vv2 ?_ | refine vv3 ?_ | refine vv4 ?_ | refine vv5 ?_ | refine vv6 ?_ | refine vv7 ?_ | refine vv8 ?_ | refine vv9 ?_ | refine vv10 ?_ | refine vv11 (fun hbr => ?_) (fun hbr => ?_) | refine vv12 (fun hbr => ?_) (fun hbr => ?_) | refine vv13 ?_ | refine vv14 ?_ | refine vv15 ?_ | refine vv16 ?_ | refine vv17 (fun hbr => ?_) (fun hbr => ?_) | refine vv18 ?_ | refine vv19 (fun hbr => ?_) (fun hbr => ?_) | refine vv20 ?_ | refine SlIdxN.map _ rfl (by first | assumption | omega) ?_ | refine SlIdxN.mapPred (by omega) (by omega) ?_ | refine SlIdxN.mapSucc (by omega) ?_ | refine SlIdxN.lit _ _ rfl rfl ?_ | refine SlIdxN.mapInt (by omega) (by omega) ?_ | refine IdxN.at0 _ rfl (by first | assumption | omega | (simp <;> omega)) ?_ | refine vv21 ?_ | refine RowN.map (by first | assumption | omega) ?_ | refine vv22 ?_ | refine RowSN.map (by first | assumption | omega) ?_ | refine vv23 ?_ | refine vv24 ?_ | refine vv25 ?_ | refine Need.mk (by first | assumption | omega | (simp <;> omega)) ?_ | refine DrawN.gen (by first | exact tryd_ok _ | exact tryd_okm _ _) (by kernel_rfl) ?_ | refine vv26 ?_ | refine vv27 ?_ | refine vv28 ?_ | refine vv29 ?_ | refine vv30 ?_ | refine vv31 ?_ | refine vv32 ?_ | refine vv33 ?_) <;> (conv => whnf)))
      all_goals first
        | (exfalso; omega)
        | (refine BackN.mk (k + 1) (by omega) (by omega) (Reabs.frmN [0, 1] (by repeat (first | exact trivial | refine ⟨.inr ⟨rfl, rfl⟩, ?_⟩)) ⟨⟨_, rfl, blkDeep rfl (deepLit rfl), fun _ => rfl⟩, ⟨_, rfl, blkDeep ?_ (deepMap (fun _ => rfl)), fun _ => rfl⟩, trivial⟩ (by decide) ⟨Nat.zero_le _, fun i hi => absurd hi (Nat.not_lt_zero i)⟩)
           rw [hst])
  · ((conv => whnf); repeat' ((first | refine vv1 ?_ | refine vv2 ?_ | refine vv3 ?_ | refine vv4 ?_ | refine vv5 ?_ | refine vv6 ?_ | refine vv7 ?_ | refine vv8 ?_ | refine vv9 ?_ | refine vv10 ?_ | refine vv11 (fun hbr => ?_) (fun hbr => ?_) | refine vv12 (fun hbr => ?_) (fun hbr => ?_) | refine vv13 ?_ | refine vv14 ?_ | refine vv15 ?_ | refine vv16 ?_ | refine vv17 (fun hbr => ?_) (fun hbr => ?_) | refine vv18 ?_ | refine vv19 (fun hbr => ?_) (fun hbr => ?_) | refine vv20 ?_ | refine SlIdxN.map _ rfl (by first | assumption | omega) ?_ | refine SlIdxN.mapPred (by omega) (by omega) ?_ | refine SlIdxN.mapSucc (by omega) ?_ | refine SlIdxN.lit _ _ rfl rfl ?_ | refine SlIdxN.mapInt (by omega) (by omega) ?_ | refine IdxN.at0 _ rfl (by first | assumption | omega | (simp <;> omega)) ?_ | refine vv21 ?_ | refine RowN.map (by first | assumption | omega) ?_ | refine vv22 ?_ | refine RowSN.map (by first | assumption | omega) ?_ | refine vv23 ?_ | refine vv24 ?_ | refine vv25 ?_ | refine Need.mk (by first | assumption | omega | (simp <;> omega)) ?_ | refine DrawN.gen (by first | exact tryd_ok _ | exact tryd_okm _ _) (by kernel_rfl) ?_ | refine vv26 ?_ | refine vv27 ?_ | refine vv28 ?_ | refine vv29 ?_ | refine vv30 ?_ | refine vv31 ?_ | refine vv32 ?_ | refine vv33 ?_) <;> (conv => whnf)))
    have hkl : k = l.length := by omega
    subst hkl
    refine DoneN.frz 1 _ 3 rfl (deepR (fun _ => rfl)) (DoneN.pure ?_)
    rw [List.take_length] at hlen ⊢
    simp only [AV.frz2, AV.frz1, AV.frz0, List.map_cons, List.map_nil, List.length_map, Nat.zero_add, List.drop_zero, if_true]
    rw [if_pos (by omega), List.take_of_length_le (by simp; omega)]
    rfl
theorem rbalance_one (l : List Posting) (k : Nat) (hk : k < l.length) (a : Int) (h : ∀ p ∈ l, p.ok) : Pu Tryd.prog G1 65 [.sl 5 false (((l.map Posting.enc).take (k + 1)).drop k), vi a] (vi (change l[k] a)) := by
  have := rbalance_ok false [l[k]] a (fun p hp => by rw [List.mem_singleton.1 hp]; exact h _ (List.getElem_mem hk)) (by simp)
  rw [one_row hk]
  have e : bal [l[k]] a = change l[k] a := by simp [bal]
  rw [e] at this
  exact this
/-- What an account has got in one night, of the first postings. -/
def nightBal (l : List Posting) (id n : Int) : Int := bal (l.filter fun p => decide (p.night = n)) id
theorem nightBal_step {l : List Posting} {k : Nat} (h : k < l.length) (id n : Int) : nightBal (l.take (k + 1)) id n = nightBal (l.take k) id n + if l[k].night = n then change l[k] id else 0 := by
  unfold nightBal
  rw [take_succ_snoc h, List.filter_append, bal_append]
  congr 1
  by_cases hn : l[k].night = n
  · simp [List.filter_cons, hn, bal]
  · simp [List.filter_cons, hn, bal]
theorem nightBal_bd {l : List Posting} (h : ∀ p ∈ l, p.ok) (id n : Int) : -(1099511627776 * (l.length : Int)) ≤ nightBal l id n ∧ nightBal l id n ≤ 1099511627776 * (l.length : Int) := by
  have := bal_bd (l := l.filter fun p => decide (p.night = n)) (fun p hp => h p (List.mem_filter.1 hp).1) id
  have hl := List.length_filter_le (fun p : Posting => decide (p.night = n)) l
  unfold nightBal
  omega
/-- The first nights. -/
def earnedTo (l : List Posting) (id : Int) (s : Span) (m : Nat) : List Int := (List.range m).map fun (j : Nat) => nightBal l id (s.lo + ((j : Nat) : Int))
theorem earnedTo_succ (l : List Posting) (id : Int) (s : Span) (m : Nat) : earnedTo l id s (m + 1) = earnedTo l id s m ++ [nightBal l id (s.lo + (m : Int))] := by
  simp [earnedTo, List.range_succ]
theorem earnedTo_length (l : List Posting) (id : Int) (s : Span) (m : Nat) : (earnedTo l id s m).length = m := by simp [earnedTo]
theorem rearned_ok (t : Bool) (l : List Posting) (id : Int) (s : Span) (h : ∀ p ∈ l, p.ok) (hmax : l.length ≤ 4000) (hs : spanErr s = 0) : Pu Tryd.prog G1 34 [postings t l, vi id, .agg s.enc] (ints false (earned l id s)) := by
  have hs := spanErr_0 hs
  refine Pu.of_ev (T := Tryd.tab) (n := 46) (tryd_ok _) Tryd.func34 rfl rfl rfl (by first | rfl | (split <;> rfl)) (by simp) ?_
  ((conv => whnf); repeat' ((first | refine vv1 ?_ | refine vv2 ?_ | refine vv3 ?_ | refine vv4 ?_ | refine vv5 ?_ | refine vv6 ?_ | refine vv7 ?_ | refine vv8 ?_ | refine vv9 ?_ | refine vv10 ?_ | refine vv11 (fun hbr => ?_) (fun hbr => ?_) | refine vv12 (fun hbr => ?_) (fun hbr => ?_) | refine vv13 ?_ | refine vv14 ?_ | refine vv15 ?_ | refine vv16 ?_ | refine vv17 (fun hbr => ?_) (fun hbr => ?_) | refine vv18 ?_ | refine vv19 (fun hbr => ?_) (fun hbr => ?_) | refine vv20 ?_ | refine SlIdxN.map _ rfl (by first | assumption | omega) ?_ | refine SlIdxN.mapPred (by omega) (by omega) ?_ | refine SlIdxN.mapSucc (by omega) ?_ | refine SlIdxN.lit _ _ rfl rfl ?_ | refine SlIdxN.mapInt (by omega) (by omega) ?_ | refine IdxN.at0 _ rfl (by first | assumption | omega | (simp <;> omega)) ?_ | refine vv21 ?_ | refine RowN.map (by first | assumption | omega) ?_ | refine vv22 ?_ | refine RowSN.map (by first | assumption | omega) ?_ | refine vv23 ?_ | refine vv24 ?_ | refine vv25 ?_ | refine Need.mk (by first | assumption | omega | (simp <;> omega)) ?_ | refine DrawN.gen (by first | exact tryd_ok _ | exact tryd_okm _ _) (by kernel_rfl) ?_ | refine vv26 ?_ | refine vv27 ?_ | refine vv28 ?_ | refine vv29 ?_ | refine vv30 ?_ | refine vv31 ?_ | refine vv32 ?_ | refine vv33 ?_) <;> (conv => whnf)))
  refine LoopN.of (tryd_ok _) (fun m : Nat => [(0, postings t l), (1, vi id), (5, .pm 0 0 0), (7, .sm 1 1 0 m), (8, vi (s.lo + (m : Int)))]) (fun m => [.rows [s.enc] 45, .rows ((earnedTo l id s m).map intRow) 3]) (fun m => (s.hi - s.lo + 1).toNat - m) (fun m => m ≤ (s.hi - s.lo + 1).toNat) 0 (Nat.zero_le _)
    ((Reabs.virt 7 1 3 rfl).trans (Reabs.frmN [0, 1] (by refine ⟨.inr ⟨rfl, rfl⟩, .inr ⟨rfl, rfl⟩, .inr ⟨rfl, rfl⟩, .inr ⟨rfl, rfl⟩, .inr ⟨rfl, ?_⟩, trivial⟩; simp [alk, AV.ren, AV.ren0]) ⟨⟨_, rfl, blkDeep rfl (deepLit rfl), fun _ => rfl⟩, ⟨_, rfl, blkDeep rfl (deepMap (fun _ => rfl)), fun _ => rfl⟩, trivial⟩ (by decide) ⟨Nat.zero_le _, fun i hi => absurd hi (Nat.not_lt_zero i)⟩)) ?_
  intro m hm
  have hel := earnedTo_length l id s m
  by_cases hlt : s.lo + (m : Int) ≤ s.hi
  · ((conv => whnf); repeat' ((first | refine vv1 ?_ | refine vv2 ?_ | refine vv3 ?_ | refine vv4 ?_ | refine vv5 ?_ | refine vv6 ?_ | refine vv7 ?_ | refine vv8 ?_ | refine vv9 ?_ | refine vv10 ?_ | refine vv11 (fun hbr => ?_) (fun hbr => ?_) | refine vv12 (fun hbr => ?_) (fun hbr => ?_) | refine vv13 ?_ | refine vv14 ?_ | refine vv15 ?_ | refine vv16 ?_ | refine vv17 (fun hbr => ?_) (fun hbr => ?_) | refine vv18 ?_ | refine vv19 (fun hbr => ?_) (fun hbr => ?_) | refine vv20 ?_ | refine SlIdxN.map _ rfl (by first | assumption | omega) ?_ | refine SlIdxN.mapPred (by omega) (by omega) ?_ | refine SlIdxN.mapSucc (by omega) ?_ | refine SlIdxN.lit _ _ rfl rfl ?_ | refine SlIdxN.mapInt (by omega) (by omega) ?_ | refine IdxN.at0 _ rfl (by first | assumption | omega | (simp <;> omega)) ?_ | refine vv21 ?_ | refine RowN.map (by first | assumption | omega) ?_ | refine vv22 ?_ | refine RowSN.map (by first | assumption | omega) ?_ | refine vv23 ?_ | refine vv24 ?_ | refine vv25 ?_ | refine Need.mk (by first | assumption | omega | (simp <;> omega)) ?_ | refine DrawN.gen (by first | exact tryd_ok _ | exact tryd_okm _ _) (by kernel_rfl) ?_ | refine vv26 ?_ | refine vv27 ?_ | refine vv28 ?_ | refine vv29 ?_ | refine vv30 ?_ | refine vv31 ?_ | refine vv32 ?_ | refine vv33 ?_) <;> (conv => whnf)))
    refine LoopN.of (tryd_ok _) (fun k : Nat => [(0, postings t l), (1, vi id), (5, .pm 0 0 0), (7, .sm 1 1 0 m), (8, vi (s.lo + (m : Int))), (9, vi (nightBal (l.take k) id (s.lo + (m : Int)))), (10, vi k)]) (fun _ => [.rows [s.enc] 45, .rows ((earnedTo l id s m).map intRow) 3]) (fun k => l.length - k) (fun k => k ≤ l.length) 0 (Nat.zero_le _) (Reabs.frmN [0, 1] (by repeat (first | exact trivial | refine ⟨.inr ⟨rfl, rfl⟩, ?_⟩)) (by repeat (first | exact trivial | refine ⟨⟨_, rfl, blkDeep rfl (by first | exact deepLit rfl | exact deepMap (fun _ => rfl)), fun _ => rfl⟩, ?_⟩)) (by decide) ⟨Nat.zero_le _, fun i hi => absurd hi (Nat.not_lt_zero i)⟩) ?_
    intro k hk
    have hnb := nightBal_bd (l := l.take k) (fun p hp => h p (List.mem_of_mem_take hp)) id (s.lo + (m : Int))
    have htl : (l.take k).length = k := by simp; omega
    by_cases hkl : k < l.length
    · have hcb := change_bd (h _ (List.getElem_mem hkl)) id
      have hst := nightBal_step hkl id (s.lo + (m : Int))
      ((conv => whnf); repeat' ((first | refine vv1 ?_ | refine vv2 ?_ | refine vv3 ?_ | refine vv4 ?_ | refine vv5 ?_ | refine vv6 ?_ | refine vv7 ?_ | refine vv8 ?_ | refine vv9 ?_ | refine vv10 ?_ | refine vv11 (fun hbr => ?_) (fun hbr => ?_) | refine vv12 (fun hbr => ?_) (fun hbr => ?_) | refine vv13 ?_ | refine vv14 ?_ | refine vv15 ?_ | refine vv16 ?_ | refine vv17 (fun hbr => ?_) (fun hbr => ?_) | refine vv18 ?_ | refine vv19 (fun hbr => ?_) (fun hbr => ?_) | refine vv20 ?_ | refine SlIdxN.map _ rfl (by first | assumption | omega) ?_ | refine SlIdxN.mapPred (by omega) (by omega) ?_ | refine SlIdxN.mapSucc (by omega) ?_ | refine SlIdxN.lit _ _ rfl rfl ?_ | refine SlIdxN.mapInt (by omega) (by omega) ?_ | refine IdxN.at0 _ rfl (by first | assumption | omega | (simp <;> omega)) ?_ | refine vv21 ?_ | refine RowN.map (by first | assumption | omega) ?_ | refine vv22 ?_ | refine RowSN.map (by first | assumption | omega) ?_ | refine vv23 ?_ | refine vv24 ?_ | refine vv25 ?_ | refine Need.mk (by first | assumption | omega | (simp <;> omega)) ?_ | refine DrawN.gen (by first | exact tryd_ok _ | exact tryd_okm _ _) (by kernel_rfl) ?_ | refine vv26 ?_ | refine vv27 ?_ | refine vv28 ?_ | refine vv29 ?_ | refine vv30 ?_ | refine vv31 ?_ | refine vv32 ?_ | refine vv33 ?_ | refine CallN.pure (rbalance_one l k hkl _ h) ?_ | refine GCallN.pure _ (rbalance_one l k hkl _ h) ?_ | refine GCallN.ef (rbalance_one l k hkl _ h) ?_) <;> (conv => whnf)))
      · refine BackN.mk (k + 1) (by omega) (by omega) (Reabs.frmN [0, 1] (by exact ⟨.inr ⟨rfl, rfl⟩, .inr ⟨rfl, rfl⟩, .inr ⟨rfl, rfl⟩, .inr ⟨rfl, rfl⟩, .inr ⟨rfl, rfl⟩, .inr ⟨rfl, by rw [hst, if_pos (by assumption)]; rfl⟩, .inr ⟨rfl, rfl⟩, trivial⟩) (by exact ⟨⟨_, rfl, blkDeep rfl (deepLit rfl), fun _ => rfl⟩, ⟨_, rfl, blkDeep rfl (deepMap (fun _ => rfl)), fun _ => rfl⟩, trivial⟩) (by decide) ⟨Nat.zero_le _, fun i hi => absurd hi (Nat.not_lt_zero i)⟩)
      · refine BackN.mk (k + 1) (by omega) (by omega) (Reabs.frmN [0, 1] (by exact ⟨.inr ⟨rfl, rfl⟩, .inr ⟨rfl, rfl⟩, .inr ⟨rfl, rfl⟩, .inr ⟨rfl, rfl⟩, .inr ⟨rfl, rfl⟩, .inr ⟨rfl, by rw [hst, if_neg (by assumption), Int.add_zero]; rfl⟩, .inr ⟨rfl, rfl⟩, trivial⟩) (by exact ⟨⟨_, rfl, blkDeep rfl (deepLit rfl), fun _ => rfl⟩, ⟨_, rfl, blkDeep rfl (deepMap (fun _ => rfl)), fun _ => rfl⟩, trivial⟩) (by decide) ⟨Nat.zero_le _, fun i hi => absurd hi (Nat.not_lt_zero i)⟩)
    · have hkl' : k = l.length := by omega
      subst hkl'
      have hsu := earnedTo_succ l id s m
      rw [List.take_length]
      ((conv => whnf); repeat' ((first | refine vv1 ?_ | refine vv2 ?_ | refine vv3 ?_ | refine vv4 ?_ | refine vv5 ?_ | refine vv6 ?_ | refine vv7 ?_ | refine vv8 ?_ | refine vv9 ?_ | refine vv10 ?_ | refine vv11 (fun hbr => ?_) (fun hbr => ?_) | refine vv12 (fun hbr => ?_) (fun hbr => ?_) | refine vv13 ?_ | refine vv14 ?_ | refine vv15 ?_ | refine vv16 ?_ | refine vv17 (fun hbr => ?_) (fun hbr => ?_) | refine vv18 ?_ | refine vv19 (fun hbr => ?_) (fun hbr => ?_) | refine vv20 ?_ | refine SlIdxN.map _ rfl (by first | assumption | omega) ?_ | refine SlIdxN.mapPred (by omega) (by omega) ?_ | refine SlIdxN.mapSucc (by omega) ?_ | refine SlIdxN.lit _ _ rfl rfl ?_ | refine SlIdxN.mapInt (by omega) (by omega) ?_ | refine IdxN.at0 _ rfl (by first | assumption | omega | (simp <;> omega)) ?_ | refine vv21 ?_ | refine RowN.map (by first | assumption | omega) ?_ | refine vv22 ?_ | refine RowSN.map (by first | assumption | omega) ?_ | refine vv23 ?_ | refine vv24 ?_ | refine vv25 ?_ | refine Need.mk (by first | assumption | omega | (simp <;> omega)) ?_ | refine DrawN.gen (by first | exact tryd_ok _ | exact tryd_okm _ _) (by kernel_rfl) ?_ | refine vv26 ?_ | refine vv27 ?_ | refine vv28 ?_ | refine vv29 ?_ | refine vv30 ?_ | refine vv31 ?_ | refine vv32 ?_ | refine vv33 ?_) <;> (conv => whnf)))
      refine BackN.mk (m + 1) (by omega) (by omega) (Reabs.frmN [0, 2] (by exact ⟨.inr ⟨rfl, rfl⟩, .inr ⟨rfl, rfl⟩, .inr ⟨rfl, rfl⟩, .inr ⟨rfl, by show AV.sm 2 1 0 ((earnedTo l id s m).length + 1) = AV.sm 2 1 0 (m + 1); rw [hel]⟩, .inr ⟨rfl, by simp [alk, AV.ren, AV.ren0]; omega⟩, trivial⟩) (by exact ⟨⟨_, rfl, blkDeep rfl (deepLit rfl), fun _ => rfl⟩, ⟨_, rfl, blkDeep (by rw [hsu, List.map_append]; rfl) (deepMap (fun _ => rfl)), fun _ => rfl⟩, trivial⟩) (by decide) ⟨Nat.zero_le _, fun i hi => absurd hi (Nat.not_lt_zero i)⟩)
  · ((conv => whnf); repeat' ((first | refine vv1 ?_ | refine vv2 ?_ | refine vv3 ?_ | refine vv4 ?_ | refine vv5 ?_ | refine vv6 ?_ | refine vv7 ?_ | refine vv8 ?_ | refine vv9 ?_ | refine vv10 ?_ | refine vv11 (fun hbr => ?_) (fun hbr => ?_) | refine vv12 (fun hbr => ?_) (fun hbr => ?_) | refine vv13 ?_ | refine vv14 ?_ | refine vv15 ?_ | refine vv16 ?_ | refine vv17 (fun hbr => ?_) (fun hbr => ?_) | refine vv18 ?_ | refine vv19 (fun hbr => ?_) (fun hbr => ?_) | refine vv20 ?_ | refine SlIdxN.map _ rfl (by first | assumption | omega) ?_ | refine SlIdxN.mapPred (by omega) (by omega) ?_ | refine SlIdxN.mapSucc (by omega) ?_ | refine SlIdxN.lit _ _ rfl rfl ?_ | refine SlIdxN.mapInt (by omega) (by omega) ?_ | refine IdxN.at0 _ rfl (by first | assumption | omega | (simp <;> omega)) ?_ | refine vv21 ?_ | refine RowN.map (by first | assumption | omega) ?_ | refine vv22 ?_ | refine RowSN.map (by first | assumption | omega) ?_ | refine vv23 ?_ | refine vv24 ?_ | refine vv25 ?_ | refine Need.mk (by first | assumption | omega | (simp <;> omega)) ?_ | refine DrawN.gen (by first | exact tryd_ok _ | exact tryd_okm _ _) (by kernel_rfl) ?_ | refine vv26 ?_ | refine vv27 ?_ | refine vv28 ?_ | refine vv29 ?_ | refine vv30 ?_ | refine vv31 ?_ | refine vv32 ?_ | refine vv33 ?_) <;> (conv => whnf)))
    refine DoneN.frz 1 _ 3 rfl (deepR (fun _ => rfl)) (DoneN.pure ?_)
    have hm' : m = (s.hi - s.lo + 1).toNat := by omega
    subst hm'
    show (AV.sm 1 1 0 _).frz0 1 _ = _
    rw [frz_all (by simp [hel])]
    rfl
theorem earned_good (t : Bool) (l : List Posting) (id : Int) (s : Span) (hmax : l.length ≤ 9223372036854775807) (h : earnedErr l id s = 0) : Pu Tryd.prog G1 31 [postings t l, vi id, .agg s.enc] (.tuple [ints false (earned l id s), vi 0]) := by
  have := earned_ok t l id s hmax
  rwa [if_pos h] at this
theorem earned_bad (t : Bool) (l : List Posting) (id : Int) (s : Span) (hmax : l.length ≤ 9223372036854775807) (h : earnedErr l id s ≠ 0) : Pu Tryd.prog G1 31 [postings t l, vi id, .agg s.enc] (.tuple [.sc (.slice none 0 0), vi (earnedErr l id s)]) := by
  have := earned_ok t l id s hmax
  rwa [if_neg h] at this
theorem ratesEarned (t : Bool) (l : List Posting) (id : Int) (s : Span) (hmax : l.length ≤ 9223372036854775807) : Pu Tryd.prog G1 7 [postings t l, vi id, .agg s.enc] (vb true) := by
  by_cases herr : earnedErr l id s = 0
  · have herr' := herr
    unfold earnedErr at herr'
    have h1 : (checkPost l).1 = 0 := by
      by_cases h : (checkPost l).1 = 0
      · exact h
      · rw [if_pos h] at herr'; exact absurd herr' h
    rw [if_neg (by simpa using h1)] at herr'
    have h2 : spanErr s = 0 := by
      by_cases h : spanErr s = 0
      · exact h
      · rw [if_pos h] at herr'; exact absurd herr' h
    rw [if_neg (by simpa using h2)] at herr'
    have h3 : 1 ≤ id ∧ id ≤ 1099511627776 := by
      by_cases h : 1 ≤ id ∧ id ≤ 1099511627776
      · exact h
      · rw [if_pos h] at herr'; cases herr'
    have hp := checkPost_0 h1
    have hl1 := earned_length l id s
    have hs := spanErr_0 h2
    refine Pu.of_ev (T := Tryd.tab) (n := 60) (tryd_ok _) Tryd.func7 rfl rfl rfl (by first | rfl | (split <;> rfl)) (by simp) ?_
    ((conv => whnf); repeat' ((first | refine vv1 ?_ | refine vv2 ?_ | refine vv3 ?_ | refine vv4 ?_ | refine vv5 ?_ | refine vv6 ?_ | refine vv7 ?_ | refine vv8 ?_ | refine vv9 ?_ | refine vv10 ?_ | refine vv11 (fun hbr => ?_) (fun hbr => ?_) | refine vv12 (fun hbr => ?_) (fun hbr => ?_) | refine vv13 ?_ | refine vv14 ?_ | refine vv15 ?_ | refine vv16 ?_ | refine vv17 (fun hbr => ?_) (fun hbr => ?_) | refine vv18 ?_ | refine vv19 (fun hbr => ?_) (fun hbr => ?_) | refine vv20 ?_ | refine SlIdxN.map _ rfl (by first | assumption | omega) ?_ | refine SlIdxN.mapPred (by omega) (by omega) ?_ | refine SlIdxN.mapSucc (by omega) ?_ | refine SlIdxN.lit _ _ rfl rfl ?_ | refine SlIdxN.mapInt (by omega) (by omega) ?_ | refine IdxN.at0 _ rfl (by first | assumption | omega | (simp <;> omega)) ?_ | refine vv21 ?_ | refine RowN.map (by first | assumption | omega) ?_ | refine vv22 ?_ | refine RowSN.map (by first | assumption | omega) ?_ | refine vv23 ?_ | refine vv24 ?_ | refine vv25 ?_ | refine Need.mk (by first | assumption | omega | (simp <;> omega)) ?_ | refine DrawN.gen (by first | exact tryd_ok _ | exact tryd_okm _ _) (by kernel_rfl) ?_ | refine vv26 ?_ | refine vv27 ?_ | refine vv28 ?_ | refine vv29 ?_ | refine vv30 ?_ | refine vv31 ?_ | refine vv32 ?_ | refine vv33 ?_ | refine CallN.pure (short_ok _ _ hmax) ?_ | refine CallN.pure (sane_ok) ?_ | refine CallN.pure (earned_good _ _ _ _ hmax herr) ?_ | refine CallN.pure (error_ok _ _ hmax) ?_ | refine CallN.pure (nights_ok _) ?_ | refine CallN.pure (in_ok _ _ _) ?_ | refine CallN.pure (rearned_ok _ _ _ _ hp.2 hp.1 h2) ?_ | refine CallN.pure (sameInts_ok _ _ _ _ (by omega) (by omega)) ?_ | refine GCallN.pure _ (short_ok _ _ hmax) ?_ | refine GCallN.pure _ (sane_ok) ?_ | refine GCallN.pure _ (earned_good _ _ _ _ hmax herr) ?_ | refine GCallN.pure _ (error_ok _ _ hmax) ?_ | refine GCallN.pure _ (nights_ok _) ?_ | refine GCallN.pure _ (in_ok _ _ _) ?_ | refine GCallN.pure _ (rearned_ok _ _ _ _ hp.2 hp.1 h2) ?_ | refine GCallN.pure _ (sameInts_ok _ _ _ _ (by omega) (by omega)) ?_ | refine GCallN.ef (short_ok _ _ hmax) ?_ | refine GCallN.ef (sane_ok) ?_ | refine GCallN.ef (earned_good _ _ _ _ hmax herr) ?_ | refine GCallN.ef (error_ok _ _ hmax) ?_ | refine GCallN.ef (nights_ok _) ?_ | refine GCallN.ef (in_ok _ _ _) ?_ | refine GCallN.ef (rearned_ok _ _ _ _ hp.2 hp.1 h2) ?_ | refine GCallN.ef (sameInts_ok _ _ _ _ (by omega) (by omega)) ?_) <;> (conv => whnf)))
    all_goals refine DoneN.pure ?_
    all_goals first | rfl | (simp; done)
  · refine Pu.of_ev (T := Tryd.tab) (n := 60) (tryd_ok _) Tryd.func7 rfl rfl rfl (by first | rfl | (split <;> rfl)) (by simp) ?_
    ((conv => whnf); repeat' ((first | refine vv1 ?_ | refine vv2 ?_ | refine vv3 ?_ | refine vv4 ?_ | refine vv5 ?_ | refine vv6 ?_ | refine vv7 ?_ | refine vv8 ?_ | refine vv9 ?_ | refine vv10 ?_ | refine vv11 (fun hbr => ?_) (fun hbr => ?_) | refine vv12 (fun hbr => ?_) (fun hbr => ?_) | refine vv13 ?_ | refine vv14 ?_ | refine vv15 ?_ | refine vv16 ?_ | refine vv17 (fun hbr => ?_) (fun hbr => ?_) | refine vv18 ?_ | refine vv19 (fun hbr => ?_) (fun hbr => ?_) | refine vv20 ?_ | refine SlIdxN.map _ rfl (by first | assumption | omega) ?_ | refine SlIdxN.mapPred (by omega) (by omega) ?_ | refine SlIdxN.mapSucc (by omega) ?_ | refine SlIdxN.lit _ _ rfl rfl ?_ | refine SlIdxN.mapInt (by omega) (by omega) ?_ | refine IdxN.at0 _ rfl (by first | assumption | omega | (simp <;> omega)) ?_ | refine vv21 ?_ | refine RowN.map (by first | assumption | omega) ?_ | refine vv22 ?_ | refine RowSN.map (by first | assumption | omega) ?_ | refine vv23 ?_ | refine vv24 ?_ | refine vv25 ?_ | refine Need.mk (by first | assumption | omega | (simp <;> omega)) ?_ | refine DrawN.gen (by first | exact tryd_ok _ | exact tryd_okm _ _) (by kernel_rfl) ?_ | refine vv26 ?_ | refine vv27 ?_ | refine vv28 ?_ | refine vv29 ?_ | refine vv30 ?_ | refine vv31 ?_ | refine vv32 ?_ | refine vv33 ?_ | refine CallN.pure (short_ok _ _ hmax) ?_ | refine CallN.pure (sane_ok) ?_ | refine CallN.pure (earned_bad _ _ _ _ hmax herr) ?_ | refine CallN.pure (error_ok _ _ hmax) ?_ | refine CallN.pure (nights_ok _) ?_ | refine CallN.pure (in_ok _ _ _) ?_ | refine GCallN.pure _ (short_ok _ _ hmax) ?_ | refine GCallN.pure _ (sane_ok) ?_ | refine GCallN.pure _ (earned_bad _ _ _ _ hmax herr) ?_ | refine GCallN.pure _ (error_ok _ _ hmax) ?_ | refine GCallN.pure _ (nights_ok _) ?_ | refine GCallN.pure _ (in_ok _ _ _) ?_ | refine GCallN.ef (short_ok _ _ hmax) ?_ | refine GCallN.ef (sane_ok) ?_ | refine GCallN.ef (earned_bad _ _ _ _ hmax herr) ?_ | refine GCallN.ef (error_ok _ _ hmax) ?_ | refine GCallN.ef (nights_ok _) ?_ | refine GCallN.ef (in_ok _ _ _) ?_) <;> (conv => whnf)))
    all_goals refine DoneN.pure ?_
    all_goals first
      | rfl
      | (simp; done)
      | (exfalso; simp_all [earnedErr]; done)
      | (exfalso; revert herr; simp [earnedErr, *] <;> omega)
end Go.Proofs.Ax
