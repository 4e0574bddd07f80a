import Derived.Test.YtdfgphfijfocoaaGreatDoorAxH
namespace Go.Proofs.Ax
/-- Ahead: of the greater key, or of the same one and the smaller number. -/
def bef (key : Nat → Int) (x y : Nat) : Prop := key y < key x ∨ (key x = key y ∧ x < y)
theorem bef.key {key : Nat → Int} {x y : Nat} (h : bef key x y) : key y ≤ key x := by
  unfold bef at h; omega
theorem bef.trans {key : Nat → Int} {x y z : Nat} (h : bef key x y) (k : bef key y z) : bef key x z := by
  unfold bef at *; omega
theorem bef.asymm {key : Nat → Int} {x y : Nat} (h : bef key x y) (k : bef key y x) : False := by
  unfold bef at *; omega
/-- The part from a to b of o is put in order. -/
def Srt (key : Nat → Int) (a b : Nat) (o o' : List Nat) : Prop :=
  ∃ P M M' R, o = P ++ M ++ R ∧ o' = P ++ M' ++ R ∧ P.length = a ∧ P.length + M.length = b ∧ M'.Perm M ∧ M'.Pairwise (bef key)
theorem Srt.length {key : Nat → Int} {a b : Nat} {o o' : List Nat} (h : Srt key a b o o') : o'.length = o.length := by
  obtain ⟨P, M, M', R, rfl, rfl, -, -, hp, -⟩ := h
  simp [hp.length_eq]
theorem split_mid {l : List Nat} {k : Nat} (h : k < l.length) : ∃ E1 e E2, l = E1 ++ e :: E2 ∧ E1.length = k := by
  refine ⟨l.take k, l[k], l.drop (k + 1), ?_, by simp; omega⟩
  rw [List.getElem_cons_drop, List.take_append_drop]
theorem getD_at {A B : List Nat} {x j : Nat} (h : A.length = j) : (A ++ x :: B).getD j 0 = x := by
  subst h
  simp [List.getD_eq_getElem?_getD]
theorem getD_mid {P M R : List Nat} {j : Nat} (h1 : P.length ≤ j) (h2 : j < P.length + M.length) : (P ++ M ++ R).getD j 0 ∈ M := by
  rw [List.append_assoc, List.getD_eq_getElem?_getD, List.getElem?_append_right h1, List.getElem?_append_left (by omega), List.getElem?_eq_getElem (by omega)]
  exact List.getElem_mem _
theorem keys_first {key : Nat → Int} {x : Nat} {l : List Nat} (h : (x :: l).Pairwise (bef key)) : ∀ y ∈ x :: l, key y ≤ key x := by
  intro y hy
  rcases List.mem_cons.1 hy with rfl | hy
  · exact Int.le_refl _
  · exact ((List.pairwise_cons.1 h).1 y hy).key
theorem keys_last {key : Nat → Int} {x : Nat} {l : List Nat} (h : (l ++ [x]).Pairwise (bef key)) : ∀ y ∈ l ++ [x], key x ≤ key y := by
  intro y hy
  rcases List.mem_append.1 hy with hy | hy
  · exact ((List.pairwise_append.1 h).2.2 y hy x (by simp)).key
  · rw [List.mem_singleton.1 hy]; exact Int.le_refl _
theorem symX {key : Nat → Int} {P La Lb Da Db R : List Nat} {s e : Nat} (hs : P.length + La.length = s) (he : P.length + La.length + Lb.length + Da.length = e) (sL : (La ++ Lb).Pairwise (bef key)) (sD : (Da ++ Db).Pairwise (bef key))
    (h : 0 < La.length → 0 < Db.length → key ((P ++ (La ++ Lb) ++ (Da ++ Db) ++ R).getD e 0) ≤ key ((P ++ (La ++ Lb) ++ (Da ++ Db) ++ R).getD (s - 1) 0)) : ∀ x ∈ La, ∀ y ∈ Db, key y ≤ key x := by
  intro x hx y hy
  rcases List.eq_nil_or_concat La with rfl | ⟨L, x0, rfl⟩
  · cases hx
  cases Db with
  | nil => cases hy
  | cons y0 D =>
    rw [List.concat_eq_append] at *
    have h' := h (by simp) (by simp)
    rw [show P ++ (L ++ [x0] ++ Lb) ++ (Da ++ y0 :: D) ++ R = (P ++ (L ++ [x0] ++ Lb) ++ Da) ++ y0 :: (D ++ R) by simp, getD_at (by simp at he ⊢; omega)] at h'
    rw [show (P ++ (L ++ [x0] ++ Lb) ++ Da) ++ y0 :: (D ++ R) = (P ++ L) ++ x0 :: (Lb ++ Da ++ y0 :: (D ++ R)) by simp, getD_at (by simp at hs ⊢; omega)] at h'
    have h1 := keys_last (List.pairwise_append.1 sL).1 x hx
    have h2 := keys_first (List.pairwise_append.1 sD).2.1 y hy
    omega
theorem symY {key : Nat → Int} {P La Lb Da Db R : List Nat} {s e : Nat} (hs : P.length + La.length = s) (he : P.length + La.length + Lb.length + Da.length = e) (sL : (La ++ Lb).Pairwise (bef key)) (sD : (Da ++ Db).Pairwise (bef key))
    (h : 0 < Lb.length → 0 < Da.length → key ((P ++ (La ++ Lb) ++ (Da ++ Db) ++ R).getD s 0) < key ((P ++ (La ++ Lb) ++ (Da ++ Db) ++ R).getD (e - 1) 0)) : ∀ x ∈ Lb, ∀ y ∈ Da, key x < key y := by
  intro x hx y hy
  rcases List.eq_nil_or_concat Da with rfl | ⟨D, y0, rfl⟩
  · cases hy
  cases Lb with
  | nil => cases hx
  | cons x0 L =>
    rw [List.concat_eq_append] at *
    have h' := h (by simp) (by simp)
    rw [show P ++ (La ++ x0 :: L) ++ (D ++ [y0] ++ Db) ++ R = (P ++ La) ++ x0 :: (L ++ (D ++ [y0] ++ Db) ++ R) by simp, getD_at (by simp at hs ⊢; omega)] at h'
    rw [show (P ++ La) ++ x0 :: (L ++ (D ++ [y0] ++ Db) ++ R) = (P ++ La ++ x0 :: L ++ D) ++ y0 :: (Db ++ R) by simp, getD_at (by simp at he ⊢; omega)] at h'
    have h1 := keys_last (List.pairwise_append.1 sD).1 y hy
    have h2 := keys_first (List.pairwise_append.1 sL).2.1 x hx
    omega
/-- Two cut in two each: what is ahead in both goes ahead of what is behind in both. -/
theorem sym_law {key : Nat → Int} {La Lb Da Db M1 M2 : List Nat} (sL : (La ++ Lb).Pairwise (bef key)) (sD : (Da ++ Db).Pairwise (bef key)) (hlt : ∀ x ∈ La ++ Lb, ∀ y ∈ Da ++ Db, x < y)
    (hX : ∀ x ∈ La, ∀ y ∈ Db, key y ≤ key x) (hY : ∀ x ∈ Lb, ∀ y ∈ Da, key x < key y) (p1 : M1.Perm (La ++ Da)) (s1 : M1.Pairwise (bef key)) (p2 : M2.Perm (Lb ++ Db)) (s2 : M2.Pairwise (bef key)) :
    (M1 ++ M2).Perm (La ++ Lb ++ (Da ++ Db)) ∧ (M1 ++ M2).Pairwise (bef key) := by
  constructor
  · refine (p1.append p2).trans ?_
    rw [List.append_assoc, List.append_assoc]
    refine List.Perm.append_left La ?_
    rw [← List.append_assoc, ← List.append_assoc]
    exact (List.perm_append_comm).append_right Db
  · refine List.pairwise_append.2 ⟨s1, s2, fun x hx y hy => ?_⟩
    rcases List.mem_append.1 (p1.mem_iff.1 hx) with hx | hx <;> rcases List.mem_append.1 (p2.mem_iff.1 hy) with hy | hy
    · exact (List.pairwise_append.1 sL).2.2 x hx y hy
    · have := hX x hx y hy
      have := hlt x (List.mem_append_left _ hx) y (List.mem_append_right _ hy)
      unfold bef; omega
    · exact .inl (hY y hy x hx)
    · exact (List.pairwise_append.1 sD).2.2 x hx y hy
end Go.Proofs.Ax
namespace Go.Proofs.Ax
/-- The remainder of a share. -/
def key (A S : Int) (w : List Int) (i : Nat) : Int := A * w.getD i 0 % S
def share (A : Int) (w : List Int) (i : Nat) : Int := A * w.getD i 0 / w.sum
def shares (A : Int) (w : List Int) (k : Nat) : Int := ((List.range k).map (share A w)).sum
/-- How many of the first n go ahead of j. -/
def rank (key : Nat → Int) (n j : Nat) : Nat := ((List.range n).filter fun i => decide (key j < key i ∨ (key i = key j ∧ i < j))).length
/-- An amount divided. -/
def divided (A : Int) (w : List Int) : List Int := (List.range w.length).map fun j => share A w j + if (rank (key A w.sum w) w.length j : Int) < A - shares A w w.length then 1 else 0
structure DivOk (A : Int) (w : List Int) : Prop where
  lo : 0 ≤ A
  hi : A ≤ 1099511627776
  wlo : ∀ x ∈ w, 0 ≤ x
  whi : ∀ x ∈ w, x ≤ 1000000
  len : w.length ≤ 50
  pos : 0 < w.sum
theorem sum_bd {w : List Int} (h0 : ∀ x ∈ w, 0 ≤ x) (h1 : ∀ x ∈ w, x ≤ 1000000) : 0 ≤ w.sum ∧ w.sum ≤ 1000000 * (w.length : Int) := by
  induction w with
  | nil => simp
  | cons x w ih =>
    have := ih (fun y hy => h0 y (List.mem_cons_of_mem _ hy)) (fun y hy => h1 y (List.mem_cons_of_mem _ hy))
    have := h0 x (List.mem_cons_self ..)
    have := h1 x (List.mem_cons_self ..)
    simp only [List.sum_cons, List.length_cons]
    omega
theorem take_sum_succ {w : List Int} {k : Nat} (h : k < w.length) : (w.take (k + 1)).sum = (w.take k).sum + w[k] := by
  rw [List.take_succ_eq_append_getElem h, List.sum_append]; simp
theorem take_sum_bd {w : List Int} (h0 : ∀ x ∈ w, 0 ≤ x) (h1 : ∀ x ∈ w, x ≤ 1000000) (k : Nat) : 0 ≤ (w.take k).sum ∧ (w.take k).sum ≤ 1000000 * (w.length : Int) := by
  have := sum_bd (w := w.take k) (fun x hx => h0 x (List.mem_of_mem_take hx)) (fun x hx => h1 x (List.mem_of_mem_take hx))
  have hl : (w.take k).length ≤ w.length := by simp; omega
  omega
theorem take_sum_le {w : List Int} (h0 : ∀ x ∈ w, 0 ≤ x) (k : Nat) : (w.take k).sum ≤ w.sum := by
  have e : w.sum = (w.take k).sum + (w.drop k).sum := by rw [← List.sum_append, List.take_append_drop]
  have : 0 ≤ (w.drop k).sum := by
    have : ∀ l : List Int, (∀ x ∈ l, 0 ≤ x) → 0 ≤ l.sum := by
      intro l
      induction l with
      | nil => simp
      | cons x l ih =>
        intro h
        have := ih (fun y hy => h y (List.mem_cons_of_mem _ hy))
        have := h x (List.mem_cons_self ..)
        simp only [List.sum_cons]; omega
    exact this _ fun x hx => h0 x (List.mem_of_mem_drop hx)
  omega
theorem prod_bd {A : Int} {w : List Int} (h : DivOk A w) {x : Int} (hx : x ∈ w) : 0 ≤ A * x ∧ A * x ≤ 1099511627776000000 := by
  have h1 := h.wlo x hx
  have h2 := h.whi x hx
  refine ⟨Int.mul_nonneg h.lo h1, ?_⟩
  have : A * x ≤ 1099511627776 * 1000000 := Int.mul_le_mul h.hi h2 h1 (by omega)
  omega
theorem shares_succ (A : Int) (w : List Int) (k : Nat) : shares A w (k + 1) = shares A w k + share A w k := by
  simp [shares, List.range_succ]
theorem getD_lt {w : List Int} {k : Nat} (h : k < w.length) : w.getD k 0 = w[k] := by simp [h]
theorem share_nonneg {A : Int} {w : List Int} (h : DivOk A w) {k : Nat} (hk : k < w.length) : 0 ≤ share A w k := by
  have := prod_bd h (List.getElem_mem hk)
  simp only [share, getD_lt hk]
  exact Int.ediv_nonneg this.1 (Int.le_of_lt h.pos)
/-- The shares and the remainders together. -/
theorem shares_law {A : Int} {w : List Int} (h : DivOk A w) : ∀ k, k ≤ w.length → A * (w.take k).sum = w.sum * shares A w k + ((List.range k).map (key A w.sum w)).sum
  | 0, _ => by simp [shares]
  | k + 1, hk => by
    have hk' : k < w.length := by omega
    have ih := shares_law h k (by omega)
    have e := Int.mul_ediv_add_emod (A * w[k]) w.sum
    rw [take_sum_succ hk', shares_succ, Int.mul_add, Int.mul_add, ih, List.range_succ, List.map_append, List.sum_append]
    simp only [List.map_cons, List.map_nil, List.sum_cons, List.sum_nil, Int.add_zero, share, key, getD_lt hk']
    omega
theorem keys_sum {A S : Int} {w : List Int} (hS : 0 < S) : ∀ k : Nat, 0 ≤ ((List.range k).map (key A S w)).sum ∧ ((List.range k).map (key A S w)).sum ≤ (k : Int) * (S - 1)
  | 0 => by simp
  | k + 1 => by
    have ih := keys_sum (A := A) (w := w) hS k
    have h1 := Int.emod_nonneg (A * w.getD k 0) (show S ≠ 0 by omega)
    have h2 := Int.emod_lt_of_pos (A * w.getD k 0) hS
    rw [List.range_succ, List.map_append, List.sum_append]
    simp only [List.map_cons, List.map_nil, List.sum_cons, List.sum_nil, Int.add_zero, key] at *
    rw [show ((k + 1 : Nat) : Int) * (S - 1) = (k : Int) * (S - 1) + (S - 1) by rw [Int.natCast_add, Int.add_mul]; simp]
    omega
theorem shares_bd {A : Int} {w : List Int} (h : DivOk A w) {k : Nat} (hk : k ≤ w.length) : 0 ≤ shares A w k ∧ shares A w k ≤ A := by
  refine ⟨?_, ?_⟩
  · have hk' := hk
    clear hk
    have : ∀ k, k ≤ w.length → 0 ≤ shares A w k := by
      intro k
      induction k with
      | zero => intro _; simp [shares]
      | succ k ih => intro hk; rw [shares_succ]; have := ih (by omega); have := share_nonneg h (show k < w.length by omega); omega
    exact this k hk'
  · have e := shares_law h k hk
    have hs := (keys_sum (A := A) (w := w) h.pos k).1
    have h1 : A * (w.take k).sum ≤ A * w.sum := Int.mul_le_mul_of_nonneg_left (take_sum_le h.wlo k) h.lo
    have h2 : w.sum * shares A w k ≤ w.sum * A := by rw [Int.mul_comm w.sum A]; omega
    exact Int.le_of_mul_le_mul_left h2 h.pos
theorem left_bd {A : Int} {w : List Int} (h : DivOk A w) : 0 ≤ A - shares A w w.length ∧ A - shares A w w.length < w.length := by
  have h0 := (shares_bd h (Nat.le_refl _)).2
  refine ⟨by omega, ?_⟩
  have e := shares_law h w.length (Nat.le_refl _)
  rw [List.take_length] at e
  have hs := (keys_sum (A := A) (w := w) h.pos w.length).2
  have hn : 0 < (w.length : Int) := by
    cases w with
    | nil => have := h.pos; simp at this
    | cons x w => simp
  have h1 : w.sum * (A - shares A w w.length) < w.sum * w.length := by
    rw [Int.mul_sub, Int.mul_comm w.sum A, e]
    have : (w.length : Int) * (w.sum - 1) = w.sum * w.length - w.length := by rw [Int.mul_sub, Int.mul_comm]; simp
    omega
  exact Int.lt_of_mul_lt_mul_left h1 (Int.le_of_lt h.pos)
end Go.Proofs.Ax
namespace Go.Proofs.Ax
theorem bef_irrefl {key : Nat → Int} {x : Nat} (h : bef key x x) : False := by unfold bef at h; omega
theorem rank_at {key : Nat → Int} {n : Nat} {o : List Nat} (p : o.Perm (List.range n)) (s : o.Pairwise (bef key)) {k : Nat} (hk : k < o.length) : rank key n o[k] = k := by
  have e : o = o.take k ++ o[k] :: o.drop (k + 1) := by rw [List.getElem_cons_drop, List.take_append_drop]
  have s' := s
  rw [e] at s'
  obtain ⟨s1, s2, s3⟩ := List.pairwise_append.1 s'
  have s4 := (List.pairwise_cons.1 s2).1
  unfold rank
  rw [(p.symm.filter _).length_eq]
  generalize hx : o[k] = x at *
  rw [e, List.filter_append, List.filter_cons]
  have f1 : (o.take k).filter (fun i => decide (key x < key i ∨ (key i = key x ∧ i < x))) = o.take k := by
    rw [List.filter_eq_self]
    intro y hy
    have := s3 y hy x (by simp)
    unfold bef at this
    simpa using this
  have f2 : (o.drop (k + 1)).filter (fun i => decide (key x < key i ∨ (key i = key x ∧ i < x))) = [] := by
    rw [List.filter_eq_nil_iff]
    intro y hy hb
    exact (s4 y hy).asymm (by unfold bef; simpa using hb)
  rw [f1, f2, if_neg (by simp)]
  simp; omega
theorem mem_take_iff {key : Nat → Int} {n : Nat} {o : List Nat} (p : o.Perm (List.range n)) (s : o.Pairwise (bef key)) {j m : Nat} (hj : j < n) : j ∈ o.take m ↔ rank key n j < m := by
  obtain ⟨q, hq, rfl⟩ := List.getElem_of_mem (p.mem_iff.2 (List.mem_range.2 hj))
  rw [rank_at p s hq]
  constructor
  · intro h
    obtain ⟨r, hr, he⟩ := List.getElem_of_mem h
    rw [List.getElem_take] at he
    have hr' : r < o.length := by simp at hr; omega
    have := rank_at p s hr'
    rw [he, rank_at p s hq] at this
    simp at hr; omega
  · intro h
    exact List.mem_iff_getElem.2 ⟨q, by simp; omega, by simp⟩
/-- The parts, with one more for each number of l. -/
def partsOf (A : Int) (w : List Int) (l : List Nat) : List Int := (List.range w.length).map fun j => share A w j + if j ∈ l then 1 else 0
theorem partsOf_len (A : Int) (w : List Int) (l : List Nat) : (partsOf A w l).length = w.length := by simp [partsOf]
theorem partsOf_nil (A : Int) (w : List Int) : partsOf A w [] = (List.range w.length).map (share A w) := by simp [partsOf]
theorem divided_eq {A : Int} {w : List Int} {o : List Nat} (p : o.Perm (List.range w.length)) (s : o.Pairwise (bef (key A w.sum w))) {m : Nat} (hm : (m : Int) = A - shares A w w.length) : partsOf A w (o.take m) = divided A w := by
  unfold partsOf divided
  refine List.map_congr_left fun j hj => ?_
  have := mem_take_iff p s (List.mem_range.1 hj) (m := m)
  rw [← hm]
  by_cases h : rank (key A w.sum w) w.length j < m
  · rw [if_pos (this.2 h), if_pos (by omega)]
  · rw [if_neg (fun hh => h (this.1 hh)), if_neg (by omega)]
theorem partsOf_step {A : Int} {w : List Int} {l : List Nat} {i : Nat} (hi : i < w.length) (hn : i ∉ l) : (partsOf A w l).set i ((partsOf A w l)[i]'(by rw [partsOf_len]; exact hi) + 1) = partsOf A w (l ++ [i]) := by
  refine List.ext_getElem (by simp [partsOf]) fun j h1 h2 => ?_
  rw [List.getElem_set]
  simp only [partsOf, List.getElem_map, List.getElem_range]
  split
  · rename_i he
    subst he
    simp [hn]
  · rename_i hne
    simp only [List.mem_append, List.mem_singleton]
    by_cases hj : j ∈ l
    · rw [if_pos hj, if_pos (.inl hj)]
    · rw [if_neg hj, if_neg (by rintro (h | h); exact hj h; exact hne h.symm)]
/-- The shares of the first i, and the numbers of the first i. -/
def sharesTo (A : Int) (w : List Int) (i : Nat) : List Int := (List.range w.length).map fun j => if j < i then share A w j else 0
def numsTo (n i : Nat) : List Nat := (List.range n).map fun j => if j < i then j else 0
theorem sharesTo_len (A : Int) (w : List Int) (i : Nat) : (sharesTo A w i).length = w.length := by simp [sharesTo]
theorem numsTo_len (n i : Nat) : (numsTo n i).length = n := by simp [numsTo]
theorem sharesTo_step {A : Int} {w : List Int} {i : Nat} : (sharesTo A w i).set i (share A w i) = sharesTo A w (i + 1) := by
  refine List.ext_getElem (by simp [sharesTo]) fun j h1 h2 => ?_
  rw [List.getElem_set]
  simp only [sharesTo, List.getElem_map, List.getElem_range]
  split
  · rename_i he
    subst he
    rw [if_pos (by omega)]
  · rename_i hne
    by_cases hj : j < i
    · rw [if_pos hj, if_pos (by omega)]
    · rw [if_neg hj, if_neg (by omega)]
theorem numsTo_step {n i : Nat} : (numsTo n i).set i i = numsTo n (i + 1) := by
  refine List.ext_getElem (by simp [numsTo]) fun j h1 h2 => ?_
  rw [List.getElem_set]
  simp only [numsTo, List.getElem_map, List.getElem_range]
  split
  · rename_i he
    subst he
    rw [if_pos (by omega)]
  · rename_i hne
    by_cases hj : j < i
    · rw [if_pos hj, if_pos (by omega)]
    · rw [if_neg hj, if_neg (by omega)]
theorem numsTo_all (n : Nat) : numsTo n n = List.range n := by
  unfold numsTo
  rw [show (List.range n).map (fun j => if j < n then j else 0) = (List.range n).map id from List.map_congr_left fun j hj => by rw [if_pos (List.mem_range.1 hj)]; rfl]
  simp
theorem sharesTo_all (A : Int) (w : List Int) : sharesTo A w w.length = partsOf A w [] := by
  rw [partsOf_nil]
  exact List.map_congr_left fun j hj => by rw [if_pos (List.mem_range.1 hj)]
end Go.Proofs.Ax
namespace Go.Proofs.Ax
theorem mem_le_sum {l : List Int} (h : ∀ x ∈ l, 0 ≤ x) {x : Int} (hx : x ∈ l) : x ≤ l.sum := by
  induction l with
  | nil => cases hx
  | cons y l ih =>
    have h0 := h y (List.mem_cons_self ..)
    have hs : 0 ≤ l.sum := by
      have : ∀ l : List Int, (∀ x ∈ l, 0 ≤ x) → 0 ≤ l.sum := by
        intro l
        induction l with
        | nil => simp
        | cons x l ih =>
          intro h
          have := ih (fun y hy => h y (List.mem_cons_of_mem _ hy))
          have := h x (List.mem_cons_self ..)
          simp only [List.sum_cons]; omega
      exact this l fun z hz => h z (List.mem_cons_of_mem _ hz)
    simp only [List.sum_cons]
    rcases List.mem_cons.1 hx with rfl | hx
    · omega
    · have := ih (fun z hz => h z (List.mem_cons_of_mem _ hz)) hx; omega
theorem share_le_A {A : Int} {w : List Int} (h : DivOk A w) {k : Nat} (hk : k < w.length) : share A w k ≤ A := by
  simp only [share, getD_lt hk]
  refine Int.ediv_le_of_le_mul h.pos ?_
  exact Int.mul_le_mul_of_nonneg_left (mem_le_sum h.wlo (List.getElem_mem hk)) h.lo
theorem sum_set {l : List Int} {i : Nat} (h : i < l.length) (v : Int) : (l.set i v).sum = l.sum - l[i] + v := by
  induction l generalizing i with
  | nil => simp at h
  | cons x l ih =>
    cases i with
    | zero => simp; omega
    | succ i =>
      simp only [List.length_cons] at h
      have := ih (i := i) (by omega)
      simp only [List.set_cons_succ, List.sum_cons, List.getElem_cons_succ]
      omega
theorem parts_sum {A : Int} {w : List Int} {o : List Nat} (p : o.Perm (List.range w.length)) : ∀ k, k ≤ o.length → (partsOf A w (o.take k)).sum = shares A w w.length + k
  | 0, _ => by simp [partsOf_nil, shares]
  | k + 1, hk => by
    have ih := parts_sum (A := A) p k (by omega)
    have hko : k < o.length := by omega
    have hoN : o.Nodup := p.nodup_iff.2 List.nodup_range
    have hok : o[k] < w.length := List.mem_range.1 (p.mem_iff.1 (List.getElem_mem hko))
    have hn : o[k] ∉ o.take k := fun hm => by
      obtain ⟨r, hr, he⟩ := List.getElem_of_mem hm
      rw [List.getElem_take] at he
      simp only [List.length_take] at hr
      have := (List.getElem_inj hoN).1 he
      omega
    rw [List.take_succ_eq_append_getElem hko, ← partsOf_step hok hn, sum_set (by rw [partsOf_len]; exact hok), ih]
    omega
/-- The law of a division. -/
structure FairOk (A : Int) (w l : List Int) : Prop where
  len : l.length = w.length
  sum : l.sum = A
  lo : ∀ i (h : i < l.length), share A w i ≤ l[i]
  hi : ∀ i (h : i < l.length), l[i] ≤ share A w i + 1
  mono : ∀ i j (hi : i < w.length) (hj : j < w.length) (hi' : i < l.length) (hj' : j < l.length), w[j] < w[i] → l[j] ≤ l[i]
theorem rank_mono {key : Nat → Int} {n : Nat} {o : List Nat} (p : o.Perm (List.range n)) (s : o.Pairwise (bef key)) {i j : Nat} (hi : i < n) (hj : j < n) (h : bef key i j) : rank key n i < rank key n j := by
  obtain ⟨a, ha, rfl⟩ := List.getElem_of_mem (p.mem_iff.2 (List.mem_range.2 hi))
  obtain ⟨b, hb, rfl⟩ := List.getElem_of_mem (p.mem_iff.2 (List.mem_range.2 hj))
  rw [rank_at p s ha, rank_at p s hb]
  rcases Nat.lt_trichotomy a b with g | g | g
  · exact g
  · subst g; exact (bef_irrefl h).elim
  · exact (((List.pairwise_iff_getElem.1 s) b a hb ha g).asymm h).elim
theorem fair_ok {A : Int} {w : List Int} (h : DivOk A w) {o : List Nat} (p : o.Perm (List.range w.length)) (s : o.Pairwise (bef (key A w.sum w))) : FairOk A w (divided A w) := by
  have hol : o.length = w.length := by rw [p.length_eq, List.length_range]
  have hlb := left_bd h
  obtain ⟨m, hm⟩ : ∃ m : Nat, (m : Int) = A - shares A w w.length := ⟨(A - shares A w w.length).toNat, by omega⟩
  have hd := divided_eq p s hm
  have hlen : (divided A w).length = w.length := by simp [divided]
  refine ⟨hlen, ?_, fun i hi => ?_, fun i hi => ?_, fun i j hi hj hi' hj' hw => ?_⟩
  · rw [← hd, parts_sum p m (by omega)]; omega
  · simp only [divided, List.getElem_map, List.getElem_range]; split <;> omega
  · simp only [divided, List.getElem_map, List.getElem_range]; split <;> omega
  · simp only [divided, List.getElem_map, List.getElem_range]
    have hle : A * w[j] ≤ A * w[i] := Int.mul_le_mul_of_nonneg_left (Int.le_of_lt hw) h.lo
    have hsh : share A w j ≤ share A w i := by
      simp only [share, getD_lt hi, getD_lt hj]
      exact Int.ediv_le_ediv h.pos hle
    by_cases he : share A w j = share A w i
    · have e1 := Int.mul_ediv_add_emod (A * w[i]) w.sum
      have e2 := Int.mul_ediv_add_emod (A * w[j]) w.sum
      have he' := he
      simp only [share, getD_lt hi, getD_lt hj] at he'
      rw [he'] at e2
      have hk : key A w.sum w j ≤ key A w.sum w i := by simp only [key, getD_lt hi, getD_lt hj]; omega
      by_cases hA : A = 0
      · have : A - shares A w w.length ≤ 0 := by have := (shares_bd h (Nat.le_refl _)).1; omega
        rw [if_neg (by omega), if_neg (by omega)]
        omega
      · have hlt : A * w[j] < A * w[i] := Int.mul_lt_mul_of_pos_left hw (by have := h.lo; omega)
        have hk : key A w.sum w j < key A w.sum w i := by simp only [key, getD_lt hi, getD_lt hj]; omega
        have := rank_mono p s hi hj (.inl hk)
        split
        · rw [if_pos (by omega)]; omega
        · split <;> omega
    · split <;> split <;> omega
end Go.Proofs.Ax
namespace Go.Proofs.Ax
open Go
/-- The numbers in their order. -/
theorem ord_ex (key : Nat → Int) (n : Nat) : ∃ o : List Nat, o.Perm (List.range n) ∧ o.Pairwise (bef key) := by
  let le : Nat → Nat → Bool := fun x y => decide (key y < key x ∨ (key x = key y ∧ x ≤ y))
  refine ⟨(List.range n).mergeSort le, List.mergeSort_perm _ _, ?_⟩
  have hs : ((List.range n).mergeSort le).Pairwise fun a b => le a b = true := List.pairwise_mergeSort (fun a b c h1 h2 => by simp only [le, decide_eq_true_eq] at *; omega) (fun a b => by simp only [le, Bool.or_eq_true, decide_eq_true_eq]; omega) _
  have hn : ((List.range n).mergeSort le).Pairwise (· ≠ ·) := (List.mergeSort_perm _ _).nodup_iff.2 List.nodup_range
  refine (hs.and hn).imp fun {a b} h => ?_
  have h1 := h.1
  have h2 := h.2
  simp only [le, decide_eq_true_eq] at h1
  unfold bef
  omega
end Go.Proofs.Ax
