import Derived.Test.YtedekogkeamacaaGreatDoorCuC
namespace Go.Proofs.Cu
open Go.Proofs.Ax
set_option linter.unusedVariables false
def rotL {α : Type} (l : List α) (t : Nat) : List α := l.drop (t % l.length) ++ l.take (t % l.length)
theorem rotL_perm {α : Type} (l : List α) (t : Nat) : (rotL l t).Perm l :=
  (List.perm_append_comm).trans (.of_eq (List.take_append_drop _ _))
theorem rotL_len {α : Type} (l : List α) (t : Nat) : (rotL l t).length = l.length := (rotL_perm l t).length_eq
theorem rotL_get? {α : Type} (l : List α) (t : Nat) {i : Nat} (h : i < l.length) : (rotL l t)[i]? = l[(i + t) % l.length]? := by
  have hr : t % l.length < l.length := Nat.mod_lt _ (by omega)
  have e : (i + t) % l.length = (i + t % l.length) % l.length := (Nat.add_mod_mod ..).symm
  unfold rotL
  generalize t % l.length = r at *
  rw [e]
  by_cases h1 : i < l.length - r
  · rw [List.getElem?_append_left (by simp; omega), List.getElem?_drop, Nat.mod_eq_of_lt (by omega), Nat.add_comm]
  · rw [List.getElem?_append_right (by simp; omega), List.length_drop, List.getElem?_take_of_lt (by omega), Nat.mod_eq_sub_mod (by omega), Nat.mod_eq_of_lt (by omega)]
    congr 1
    omega
theorem rotL_get {α : Type} (l : List α) (t : Nat) {i : Nat} (h : i < l.length) : (rotL l t)[i]'(by rw [rotL_len]; exact h) = l[(i + t) % l.length]'(Nat.mod_lt _ (by omega)) := by
  have h1 := rotL_get? l t h
  rw [List.getElem?_eq_getElem (by rw [rotL_len]; exact h), List.getElem?_eq_getElem (Nat.mod_lt _ (by omega))] at h1
  exact Option.some.inj h1
theorem used_sub {c : Book} {l m : List Use} (h : usedE c l false = 0) (hm : ∀ u ∈ m, u ∈ l) (hl : m.length ≤ l.length) : usedE c m false = 0 := by
  obtain ⟨h1, h2, h3⟩ := used_0 h
  unfold usedE
  rw [if_neg (by simpa using (check_ok c).2 h1), if_neg (by omega), if_pos]
  rw [List.all_eq_true]
  intro u hu
  obtain ⟨a, b, d⟩ := h3 u (hm u hu)
  simp only [Bool.and_eq_true, Bool.or_eq_true]
  exact ⟨⟨by simpa using a, b⟩, d⟩
def dropAt {α : Type} (l : List α) (n : Nat) : List α := l.take n ++ l.drop (n + 1)
theorem mem_dropAt {α : Type} {l : List α} {n : Nat} {u : α} (h : u ∈ dropAt l n) : u ∈ l := by
  rcases List.mem_append.1 h with h | h
  · exact List.mem_of_mem_take h
  · exact List.mem_of_mem_drop h
theorem dropAt_len {α : Type} {l : List α} {n : Nat} (h : n < l.length) : (dropAt l n).length + 1 = l.length := by
  unfold dropAt; rw [List.length_append, List.length_take, List.length_drop]; omega
theorem parts_law {c : Book} {l : List Use} (h : usedE c l false = 0) (t n : Nat) (hn : n < l.length) : usedE c (rotL l t) false = 0 ∧ fitsB c (rotL l t) = fitsB c l ∧ usedE c (dropAt l n) false = 0 ∧ (fitsB c l = true → fitsB c (dropAt l n) = true) := by
  obtain ⟨h1, h2, h3⟩ := used_0 h
  have ht : ∀ u ∈ l, timeOk u.time = true := fun u hu => (h3 u hu).2.1
  have hm : ∀ u, u ∈ rotL l t ↔ u ∈ l := fun u => (rotL_perm l t).mem_iff
  refine ⟨used_sub h (fun u hu => (hm u).1 hu) (by rw [rotL_len]; exact Nat.le_refl _), ?_, used_sub h (fun u hu => mem_dropAt hu) (by have := dropAt_len hn; omega), fun hf => ?_⟩
  · rw [Bool.eq_iff_iff, fits_law h1 fun u hu => ht u ((hm u).1 hu), fits_law h1 ht]
    exact ⟨fun h => h.sub fun u hu => (hm u).2 hu, fun h => h.sub fun u hu => (hm u).1 hu⟩
  · rw [fits_law h1 fun u hu => ht u (mem_dropAt hu)]
    exact ((fits_law h1 ht).1 hf).sub fun u hu => mem_dropAt hu
theorem filter_drop {l : List Nat} (h : l.Pairwise (· < ·)) {k : Nat} (hk : k < l.length) : (l.filter fun n => n != l[k]) = dropAt l k := by
  have e : l = l.take k ++ l[k] :: l.drop (k + 1) := by rw [← List.drop_eq_getElem_cons hk, List.take_append_drop]
  have h' := h
  rw [e] at h'
  obtain ⟨h1, h2, h3⟩ := List.pairwise_append.1 h'
  obtain ⟨h4, h5⟩ := List.pairwise_cons.1 h2
  generalize l[k] = x at *
  unfold dropAt
  conv => lhs; rw [e]
  rw [List.filter_append, List.filter_cons_of_neg (by simp)]
  congr 1
  · rw [List.filter_eq_self]
    intro a ha
    have := h3 a ha x List.mem_cons_self
    simp; omega
  · rw [List.filter_eq_self]
    intro a ha
    have := h4 a ha
    simp; omega
theorem pickU_drop (l : List Use) (ix : List Nat) (k : Nat) (hb : ∀ n ∈ ix, n < l.length) : pickU l (dropAt ix k) = dropAt (pickU l ix) k := by
  have hp : ∀ (ix : List Nat), (∀ n ∈ ix, n < l.length) → ∀ k, (pickU l ix).take k = pickU l (ix.take k) ∧ (pickU l ix).drop k = pickU l (ix.drop k) := by
    intro ix
    induction ix with
    | nil => intro _ k; exact ⟨by simp [pickU], by simp [pickU]⟩
    | cons n r ih =>
      intro hb k
      have hn := hb n List.mem_cons_self
      have e : pickU l (n :: r) = l[n] :: pickU l r := by
        show (n :: r).filterMap _ = _
        rw [List.filterMap_cons, List.getElem?_eq_getElem hn]
        rfl
      obtain i := ih (fun m hm => hb m (List.mem_cons_of_mem _ hm))
      cases k with
      | zero => exact ⟨by simp [pickU], by simp⟩
      | succ k =>
        rw [e, List.take_succ_cons, List.drop_succ_cons, List.take_succ_cons, List.drop_succ_cons]
        refine ⟨?_, (i k).2⟩
        rw [(i k).1]
        show _ = (n :: r.take k).filterMap _
        rw [List.filterMap_cons, List.getElem?_eq_getElem hn]
        rfl
  unfold dropAt
  rw [(hp ix hb k).1, (hp ix hb (k + 1)).2]
  exact List.filterMap_append ..
theorem pickU_len {l : List Use} {ix : List Nat} (hb : ∀ n ∈ ix, n < l.length) : (pickU l ix).length = ix.length := by
  induction ix with
  | nil => rfl
  | cons n r ih =>
    have e : pickU l (n :: r) = l[n]'(hb n List.mem_cons_self) :: pickU l r := by
      show (n :: r).filterMap _ = _
      rw [List.filterMap_cons, List.getElem?_eq_getElem (hb n List.mem_cons_self)]
      rfl
    rw [e, List.length_cons, List.length_cons, ih fun m hm => hb m (List.mem_cons_of_mem _ hm)]
theorem incN_len {n : Nat} : ∀ {l : List Nat} (m : Nat), l.Pairwise (· < ·) → (∀ x ∈ l, m ≤ x ∧ x < n) → l.length ≤ n - m
  | [], m, _, _ => Nat.zero_le _
  | a :: l, m, h, hb => by
    obtain ⟨h1, h2⟩ := List.pairwise_cons.1 h
    have ha := hb a List.mem_cons_self
    have := incN_len (a + 1) h2 fun x hx => ⟨h1 x hx, (hb x (List.mem_cons_of_mem _ hx)).2⟩
    rw [List.length_cons]
    omega
theorem parts_core {c : Book} {l : List Use} (h : usedE c l false = 0) (hf : fitsB c l = false) :
    (coreL c l).Pairwise (· < ·) ∧ (∀ n ∈ coreL c l, n < l.length) ∧ (coreL c l).length ≤ l.length ∧ usedE c (pickU l (coreL c l)) false = 0 ∧ fitsB c (pickU l (coreL c l)) = false ∧
    ∀ k, k < (coreL c l).length → usedE c (dropAt (pickU l (coreL c l)) k) false = 0 ∧ fitsB c (dropAt (pickU l (coreL c l)) k) = true := by
  obtain ⟨h1, h2, h3⟩ := used_0 h
  have ht : ∀ u ∈ l, timeOk u.time = true := fun u hu => (h3 u hu).2.1
  obtain ⟨c1, c2, c3, c4⟩ := core_law h1 ht fun hp => by rw [(fits_law h1 ht).2 hp] at hf; cases hf
  have hlen : (coreL c l).length ≤ l.length := by have := incN_len 0 c1 fun x hx => ⟨Nat.zero_le _, c2 x hx⟩; omega
  generalize coreL c l = ix at *
  have pm : ∀ ix : List Nat, ∀ u ∈ pickU l ix, u ∈ l := fun ix u hu => by
    obtain ⟨n, -, hn⟩ := List.mem_filterMap.1 hu
    exact List.mem_of_getElem? hn
  have hpl := pickU_len c2
  refine ⟨c1, c2, hlen, used_sub h (pm ix) (by omega), ?_, fun k hk => ⟨used_sub h (fun u hu => pm ix u (mem_dropAt hu)) (by have := dropAt_len (l := pickU l ix) (n := k) (by omega); omega), ?_⟩⟩
  · rw [Bool.eq_false_iff]
    intro hq
    exact c3 ((fits_law h1 fun u hu => ht u (pm ix u hu)).1 hq)
  · rw [fits_law h1 fun u hu => ht u (pm ix u (mem_dropAt hu)), ← pickU_drop l ix k c2, ← filter_drop c1 hk]
    exact c4 _ (List.getElem_mem hk)
end Go.Proofs.Cu
