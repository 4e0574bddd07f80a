import Derived.Test.YtdfgphfijfocoaaDoorNtA
namespace Go.Proofs.Ax
open Go Go.Proofs
/-- How many rounds are of a night, and of the nights from one to another. -/
def cntN (n : Int) (l : List Round) : Nat := l.countP fun r => decide (r.night = n)
def cntTo (lo hi : Int) (l : List Round) : Nat := l.countP fun r => decide (lo ≤ r.night ∧ r.night < hi)
theorem cntTo_succ (lo hi : Int) (h : lo ≤ hi) (l : List Round) : cntTo lo (hi + 1) l = cntTo lo hi l + cntN hi l := by
  induction l with
  | nil => rfl
  | cons r l ih =>
    simp only [cntTo, cntN, List.countP_cons, decide_eq_true_eq] at ih ⊢
    rw [ih]
    by_cases h1 : r.night = hi
    · rw [if_pos (by omega), if_neg (by omega), if_pos h1]; omega
    · by_cases h2 : lo ≤ r.night ∧ r.night < hi
      · rw [if_pos (by omega), if_pos h2, if_neg h1]; omega
      · rw [if_neg (by omega), if_neg h2, if_neg h1]; omega
theorem night_len {p : Policy} (hp : p.ok) {n : Int} (hn : 0 ≤ n ∧ n ≤ 20000) {l : List Round} (hl : ∀ r ∈ l, r.ok) : ∀ k, k ≤ l.length → (nightSt p n (l.take k)).out.length ≤ 1 + 5 * cntN n (l.take k)
  | 0, _ => by
    show (baseL p n).length ≤ _
    unfold baseL
    split <;> simp
  | k + 1, hk => by
    have hlt : k < l.length := by omega
    have ih := night_len hp hn hl k (by omega)
    have nok := nok_st hp hn hl k (by omega)
    have hr := hl _ (List.getElem_mem hlt)
    have g := (roundL_ok hp hr nok.cr nok.ch).2.1
    rw [nightSt_succ hlt, take_succ_snoc hlt]
    have hc : cntN n (l.take k ++ [l[k]]) = cntN n (l.take k) + if l[k].night = n then 1 else 0 := by
      unfold cntN
      rw [List.countP_append, List.countP_cons, List.countP_nil]
      simp
    rw [hc]
    unfold stepN
    by_cases h : l[k].night = n
    · rw [if_pos h, if_pos h]
      simp only [List.length_append]
      omega
    · rw [if_neg h, if_neg h]
      exact ih
theorem nightIn_len {ps : List Policy} {l : List Round} {n : Int} (hp : ∀ p ∈ ps, p.ok) (hl : ∀ r ∈ l, r.ok) (hn : 0 ≤ n ∧ n ≤ 20000) : (nightIn ps l n).length ≤ 1 + 5 * cntN n l := by
  unfold nightIn
  split
  · rename_i hf
    have := night_len (hp _ (forceOf_mem hf)) hn hl l.length (Nat.le_refl _)
    rw [List.take_length] at this
    exact this
  · simp
theorem seasonTo_len2 {ps : List Policy} {l : List Round} {lo : Int} (hp : ∀ p ∈ ps, p.ok) (hl : ∀ r ∈ l, r.ok) (hlo : 0 ≤ lo) : ∀ m : Nat, lo + (m : Int) ≤ 20001 → (seasonTo ps l lo m).length ≤ m + 5 * cntTo lo (lo + (m : Int)) l
  | 0, _ => by simp [seasonTo]
  | m + 1, h => by
    have h1 := seasonTo_len2 hp hl hlo m (by omega)
    have h2 := nightIn_len (n := lo + (m : Int)) hp hl (by omega)
    have h3 := cntTo_succ lo (lo + (m : Int)) (by omega) l
    rw [seasonTo_succ, List.length_append, show lo + ((m + 1 : Nat) : Int) = lo + (m : Int) + 1 by omega, h3]
    omega
theorem cntTo_le (lo hi : Int) (l : List Round) : cntTo lo hi l ≤ l.length := List.countP_le_length
theorem seasonOf_len2 {ps : List Policy} {l : List Round} {s : Span} (hp : ∀ p ∈ ps, p.ok) (hl : ∀ r ∈ l, r.ok) (hs : spanErr s = 0) : (seasonOf ps l s).length ≤ 400 + 5 * l.length := by
  have hs := spanErr_0 hs
  have h1 := seasonTo_len2 hp hl hs.2.1.1 (s.hi - s.lo + 1).toNat (by omega)
  have h2 := cntTo_le s.lo (s.lo + ((s.hi - s.lo + 1).toNat : Int)) l
  unfold seasonOf
  omega
theorem seasonOf_mem {ps : List Policy} {l : List Round} {s : Span} (hp : ∀ p ∈ ps, p.ok) (hl : ∀ r ∈ l, r.ok) (hs : spanErr s = 0) : ∀ x ∈ seasonOf ps l s, x.ok ∧ (s.lo ≤ x.night ∧ x.night ≤ s.hi) ∧ x.src ≤ -1 := by
  have hs := spanErr_0 hs
  intro x hx
  have := seasonTo_mem hp hl hs.2.1.1 (m := (s.hi - s.lo + 1).toNat) (by omega) x hx
  exact ⟨this.1, by omega, this.2.2⟩
theorem scan_none {α : Type} {bad : Option α → α → Option Int} : ∀ (l : List α) (k : Nat) (q : Option α), (∀ q, ∀ x ∈ l, bad q x = none) → scan bad k q l = (0, -1)
  | [], k, q, _ => rfl
  | y :: l, k, q, h => by
    unfold scan
    rw [h q y (List.mem_cons_self ..)]
    exact scan_none l _ _ fun q x hx => h q x (List.mem_cons_of_mem _ hx)
theorem checkPost_good {l : List Posting} (h : ∀ x ∈ l, x.ok) (hl : l.length ≤ 4000) : checkPost l = (0, -1) := by
  unfold checkPost
  rw [if_neg (by omega)]
  exact scan_none l _ _ fun q x hx => by unfold badPost; rw [if_pos (h x hx)]
theorem filter_all {α : Type} {f : α → Bool} {l : List α} (h : ∀ x ∈ l, f x = true) : l.filter f = l := List.filter_eq_self.2 h
theorem filter_none {α : Type} {f : α → Bool} {l : List α} (h : ∀ x ∈ l, f x = false) : l.filter f = [] := by
  rw [List.filter_eq_nil_iff]
  intro x hx
  rw [h x hx]
  simp
theorem season_filter {ps : List Policy} {l : List Round} {lo : Int} (hp : ∀ p ∈ ps, p.ok) (hl : ∀ r ∈ l, r.ok) (hlo : 0 ≤ lo) (n : Int) : ∀ m : Nat, lo + (m : Int) ≤ 20001 →
    (seasonTo ps l lo m).filter (fun p => decide (p.night = n)) = if lo ≤ n ∧ n < lo + m then nightIn ps l n else []
  | 0, _ => by
    rw [if_neg (by omega)]
    rfl
  | m + 1, h => by
    have ih := season_filter hp hl hlo n m (by omega)
    have hm := (nightIn_ok (n := lo + (m : Int)) hp hl (by omega)).2
    rw [seasonTo_succ, List.filter_append, ih]
    by_cases h1 : n = lo + (m : Int)
    · rw [if_neg (by omega), if_pos (by omega), List.nil_append, filter_all fun x hx => decide_eq_true (by have := (hm x hx).2.1; omega), h1]
    · rw [filter_none fun x hx => decide_eq_false (by have := (hm x hx).2.1; omega), List.append_nil]
      by_cases h2 : lo ≤ n ∧ n < lo + (m : Int)
      · rw [if_pos h2, if_pos (by omega)]
      · rw [if_neg h2, if_neg (by omega)]
theorem earned_at {ps : List Policy} {l : List Round} {s : Span} (hp : ∀ p ∈ ps, p.ok) (hl : ∀ r ∈ l, r.ok) (hs : spanErr s = 0) (id n : Int) (hn : s.lo ≤ n ∧ n ≤ s.hi) (h : (n - s.lo).toNat < (earned (seasonOf ps l s) id s).length) :
    (earned (seasonOf ps l s) id s)[(n - s.lo).toNat] = bal (nightIn ps l n) id := by
  have hs := spanErr_0 hs
  simp only [earned, List.getElem_map, List.getElem_range]
  have e : s.lo + (((n - s.lo).toNat : Nat) : Int) = n := by omega
  have := season_filter hp hl hs.2.1.1 n (s.hi - s.lo + 1).toNat (by omega)
  rw [if_pos (by omega)] at this
  rw [e]
  unfold seasonOf
  rw [this]
theorem one_night (ps : List Policy) (l : List Round) (n : Int) : seasonOf ps l ⟨n, n⟩ = nightIn ps l n := by
  have : (n - n + 1).toNat = 1 := by omega
  simp only [seasonOf, this]
  simp [seasonTo]
theorem bal_nn {l : List Posting} (h : ∀ x ∈ l, x.ok ∧ x.src ≤ -1) {a : Int} (ha : 1 ≤ a) : 0 ≤ bal l a := by
  induction l with
  | nil => simp [bal]
  | cons y l ih =>
    have := ih (fun x hx => h x (List.mem_cons_of_mem _ hx))
    have hy := h y (List.mem_cons_self ..)
    have hok := hy.1
    unfold Posting.ok at hok
    rw [bal_cons]
    unfold change
    split
    · omega
    · rw [if_neg (by omega)]; omega
theorem inForce_at {ps : List Policy} {n : Int} (h : (checkPol ps).1 = 0) (hn : 0 ≤ n ∧ n ≤ 20000) : inForce ps n = if (forceOf ps n).2 = false then (pol0, 5) else ((forceOf ps n).1, 0) := by
  unfold inForce
  rw [if_neg (by simpa using h), if_neg (by omega)]
theorem few_40 {ps : List Policy} {l : List Round} (h : fewP ps l) (hl : l.length ≤ 200) : l.length ≤ 40 := by
  have := h.2.1
  omega
end Go.Proofs.Ax
