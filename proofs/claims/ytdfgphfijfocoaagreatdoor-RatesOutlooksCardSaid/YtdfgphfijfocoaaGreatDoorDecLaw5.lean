import Derived.Test.YtdfgphfijfocoaaGreatDoorDecLaw4
namespace Go.Proofs.Ax
open Go Go.Proofs
/-! At most 12 rounds are of one night. -/
def room (n : Int) : Option Round → Int
  | none => 12
  | some q => if q.night < n then 12 else if q.night = n then 12 - q.no else 0
theorem cntN_cons (n : Int) (r : Round) (l : List Round) : cntN n (r :: l) = cntN n l + if r.night = n then 1 else 0 := by
  simp [cntN, List.countP_cons]
theorem cnt_room (n : Int) : ∀ (l : List Round) (q : Option Round), (∀ r ∈ l, r.ok) → (∀ p, q = some p → p.no ≤ 12) → ordR q l → (cntN n l : Int) ≤ room n q
  | [], q, _, hq, _ => by
    have : cntN n [] = 0 := rfl
    rw [this]
    cases q with
    | none => simp [room]
    | some q =>
      have := hq q rfl
      simp only [room]
      by_cases e1 : q.night < n
      · rw [if_pos e1]; decide
      · rw [if_neg e1]
        by_cases e2 : q.night = n
        · rw [if_pos e2]; omega
        · rw [if_neg e2]; decide
  | r :: l, q, h, hq, ho => by
    have hr := h r (List.mem_cons_self ..)
    unfold Round.ok at hr
    have hl : ∀ r ∈ l, r.ok := fun x hx => h x (List.mem_cons_of_mem _ hx)
    have ho2 : ordR (some r) l := by
      cases q with
      | none => exact ho
      | some q => exact ho.2
    have ih := cnt_room n l (some r) hl (fun p hp => by cases hp; omega) ho2
    rw [cntN_cons]
    cases q with
    | none =>
      simp only [room] at ih ⊢
      by_cases e : r.night = n
      · rw [if_pos e]
        rw [if_neg (by omega), if_pos e] at ih
        omega
      · rw [if_neg e]
        rw [if_neg e] at ih
        split at ih <;> omega
    | some q =>
      have hb := ho.1
      have hq := hq q rfl
      unfold before at hb
      simp only [room] at ih ⊢
      by_cases e : r.night = n
      · rw [if_pos e]
        rw [if_neg (by omega), if_pos e] at ih
        by_cases e1 : q.night < n
        · rw [if_pos e1]; omega
        · rw [if_neg e1, if_pos (by omega)]; omega
      · rw [if_neg e]
        rw [if_neg e] at ih
        by_cases e1 : q.night < n
        · rw [if_pos e1]; split at ih <;> omega
        · rw [if_neg e1]
          rw [if_neg (by omega)] at ih
          split <;> omega
theorem dNn_cnt (n : Int) : ∀ l : List Round, dNn n l ≤ cntN n l
  | [] => Nat.le_refl _
  | r :: l => by
    have := dNn_cnt n l
    rw [cntN_cons]
    unfold dNn
    by_cases e : r.night = n
    · rw [if_pos e]; split <;> omega
    · rw [if_neg e, if_neg (by simp [e])]; omega
theorem dNn_12 {l : List Round} (h : (checkRounds l).1 = 0) (n : Int) : dNn n l ≤ 12 := by
  obtain ⟨h1, h2, h3⟩ := (checkRounds_iff l).1 h
  have := cnt_room n l none h2 (fun p hp => by cases hp) h3
  have := dNn_cnt n l
  simp only [room] at *
  omega
end Go.Proofs.Ax
