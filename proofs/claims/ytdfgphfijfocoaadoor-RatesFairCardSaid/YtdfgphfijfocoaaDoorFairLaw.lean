import Derived.Test.YtdfgphfijfocoaaDoorDivA
namespace Go.Proofs.Ax
theorem mem_le_sum {l : List Int} (h : ∀ x ∈ l, 0 ≤ x) {x : Int} (hx : x ∈ l) : x ≤ l.sum := by
  induction l with
  | nil => cases hx
  | cons y l ih =>
    have h0 := h y (List.mem_cons_self ..)
    have hs : 0 ≤ l.sum := by
      have : ∀ l : List Int, (∀ x ∈ l, 0 ≤ x) → 0 ≤ l.sum := by
        intro l
        induction l with
        | nil => simp
        | cons x l ih =>
          intro h
          have := ih (fun y hy => h y (List.mem_cons_of_mem _ hy))
          have := h x (List.mem_cons_self ..)
          simp only [List.sum_cons]; omega
      exact this l fun z hz => h z (List.mem_cons_of_mem _ hz)
    simp only [List.sum_cons]
    rcases List.mem_cons.1 hx with rfl | hx
    · omega
    · have := ih (fun z hz => h z (List.mem_cons_of_mem _ hz)) hx; omega
theorem share_le_A {A : Int} {w : List Int} (h : DivOk A w) {k : Nat} (hk : k < w.length) : share A w k ≤ A := by
  simp only [share, getD_lt hk]
  refine Int.ediv_le_of_le_mul h.pos ?_
  exact Int.mul_le_mul_of_nonneg_left (mem_le_sum h.wlo (List.getElem_mem hk)) h.lo
theorem sum_set {l : List Int} {i : Nat} (h : i < l.length) (v : Int) : (l.set i v).sum = l.sum - l[i] + v := by
  induction l generalizing i with
  | nil => simp at h
  | cons x l ih =>
    cases i with
    | zero => simp; omega
    | succ i =>
      simp only [List.length_cons] at h
      have := ih (i := i) (by omega)
      simp only [List.set_cons_succ, List.sum_cons, List.getElem_cons_succ]
      omega
theorem parts_sum {A : Int} {w : List Int} {o : List Nat} (p : o.Perm (List.range w.length)) : ∀ k, k ≤ o.length → (partsOf A w (o.take k)).sum = shares A w w.length + k
  | 0, _ => by simp [partsOf_nil, shares]
  | k + 1, hk => by
    have ih := parts_sum (A := A) p k (by omega)
    have hko : k < o.length := by omega
    have hoN : o.Nodup := p.nodup_iff.2 List.nodup_range
    have hok : o[k] < w.length := List.mem_range.1 (p.mem_iff.1 (List.getElem_mem hko))
    have hn : o[k] ∉ o.take k := fun hm => by
      obtain ⟨r, hr, he⟩ := List.getElem_of_mem hm
      rw [List.getElem_take] at he
      simp only [List.length_take] at hr
      have := (List.getElem_inj hoN).1 he
      omega
    rw [List.take_succ_eq_append_getElem hko, ← partsOf_step hok hn, sum_set (by rw [partsOf_len]; exact hok), ih]
    omega
/-- The law of a division. -/
structure FairOk (A : Int) (w l : List Int) : Prop where
  len : l.length = w.length
  sum : l.sum = A
  lo : ∀ i (h : i < l.length), share A w i ≤ l[i]
  hi : ∀ i (h : i < l.length), l[i] ≤ share A w i + 1
  mono : ∀ i j (hi : i < w.length) (hj : j < w.length) (hi' : i < l.length) (hj' : j < l.length), w[j] < w[i] → l[j] ≤ l[i]
theorem rank_mono {key : Nat → Int} {n : Nat} {o : List Nat} (p : o.Perm (List.range n)) (s : o.Pairwise (bef key)) {i j : Nat} (hi : i < n) (hj : j < n) (h : bef key i j) : rank key n i < rank key n j := by
  obtain ⟨a, ha, rfl⟩ := List.getElem_of_mem (p.mem_iff.2 (List.mem_range.2 hi))
  obtain ⟨b, hb, rfl⟩ := List.getElem_of_mem (p.mem_iff.2 (List.mem_range.2 hj))
  rw [rank_at p s ha, rank_at p s hb]
  rcases Nat.lt_trichotomy a b with g | g | g
  · exact g
  · subst g; exact (bef_irrefl h).elim
  · exact (((List.pairwise_iff_getElem.1 s) b a hb ha g).asymm h).elim
theorem fair_ok {A : Int} {w : List Int} (h : DivOk A w) {o : List Nat} (p : o.Perm (List.range w.length)) (s : o.Pairwise (bef (key A w.sum w))) : FairOk A w (divided A w) := by
  have hol : o.length = w.length := by rw [p.length_eq, List.length_range]
  have hlb := left_bd h
  obtain ⟨m, hm⟩ : ∃ m : Nat, (m : Int) = A - shares A w w.length := ⟨(A - shares A w w.length).toNat, by omega⟩
  have hd := divided_eq p s hm
  have hlen : (divided A w).length = w.length := by simp [divided]
  refine ⟨hlen, ?_, fun i hi => ?_, fun i hi => ?_, fun i j hi hj hi' hj' hw => ?_⟩
  · rw [← hd, parts_sum p m (by omega)]; omega
  · simp only [divided, List.getElem_map, List.getElem_range]; split <;> omega
  · simp only [divided, List.getElem_map, List.getElem_range]; split <;> omega
  · simp only [divided, List.getElem_map, List.getElem_range]
    have hle : A * w[j] ≤ A * w[i] := Int.mul_le_mul_of_nonneg_left (Int.le_of_lt hw) h.lo
    have hsh : share A w j ≤ share A w i := by
      simp only [share, getD_lt hi, getD_lt hj]
      exact Int.ediv_le_ediv h.pos hle
    by_cases he : share A w j = share A w i
    · have e1 := Int.mul_ediv_add_emod (A * w[i]) w.sum
      have e2 := Int.mul_ediv_add_emod (A * w[j]) w.sum
      have he' := he
      simp only [share, getD_lt hi, getD_lt hj] at he'
      rw [he'] at e2
      have hk : key A w.sum w j ≤ key A w.sum w i := by simp only [key, getD_lt hi, getD_lt hj]; omega
      by_cases hA : A = 0
      · have : A - shares A w w.length ≤ 0 := by have := (shares_bd h (Nat.le_refl _)).1; omega
        rw [if_neg (by omega), if_neg (by omega)]
        omega
      · have hlt : A * w[j] < A * w[i] := Int.mul_lt_mul_of_pos_left hw (by have := h.lo; omega)
        have hk : key A w.sum w j < key A w.sum w i := by simp only [key, getD_lt hi, getD_lt hj]; omega
        have := rank_mono p s hi hj (.inl hk)
        split
        · rw [if_pos (by omega)]; omega
        · split <;> omega
    · split <;> split <;> omega
end Go.Proofs.Ax
