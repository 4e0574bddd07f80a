import Derived.Test.YtedekogkeamacaaGreatDoorCuC
namespace Go.Proofs.Cu
open Go.Proofs.Ax
set_option linter.unusedVariables false
def narS (e : Entr) (s : Spn) : Spn := ⟨max e.at_.lo s.lo, min e.at_.hi s.hi⟩
def narE (l : List Entr) (n : Nat) (s : Spn) : List Entr := match l[n]? with
  | none => l
  | some e => if s.lo ≤ s.hi ∧ (narS e s).lo ≤ (narS e s).hi then l.set n { e with at_ := narS e s } else l
def narB (c : Book) (w : Nat) (s : Spn) : Book := { c with entries := narE c.entries (w % c.entries.length) s, gaps := max 0 (c.gaps - ((w % 2 : Nat) : Int)) }
theorem narE_len (l : List Entr) (n : Nat) (s : Spn) : (narE l n s).length = l.length := by
  unfold narE
  split
  · rfl
  · split
    · exact List.length_set ..
    · rfl
theorem narB_less {c : Book} (h : c.ok) (w : Nat) (s : Spn) : Less (narB c w s) c := by
  have hg := h.gaps
  refine ⟨rfl, rfl, by show max 0 (c.gaps - _) ≤ c.gaps; omega, narE_len .., fun i a b ha hb => ?_⟩
  have ha : (narE c.entries (w % c.entries.length) s)[i]? = some a := ha
  generalize w % c.entries.length = n at *
  have refl : ∀ e : Entr, Narrow e e ∧ e.key = e.key := fun e => ⟨⟨rfl, rfl, rfl, rfl, Int.le_refl _, Int.le_refl _⟩, rfl⟩
  unfold narE at ha
  split at ha
  · rw [ha] at hb; cases hb; exact refl _
  · rename_i e he
    split at ha
    · by_cases e1 : n = i
      · subst e1
        rw [he] at hb
        cases hb
        rw [List.getElem?_set_self (List.getElem?_eq_some_iff.1 he).1] at ha
        cases ha
        exact ⟨⟨rfl, rfl, rfl, rfl, Int.le_max_left _ _, Int.min_le_left _ _⟩, rfl⟩
      · rw [List.getElem?_set_ne e1, hb] at ha
        cases ha
        exact refl _
    · rw [ha] at hb; cases hb; exact refl _
theorem solved_of {c : Book} {key t : Int} (h : (holdersF c key t).2 = 0) : solvedE c key (timeOk t) = 0 := (among_err ..).symm.trans h
theorem solved_ofH {c : Book} {key : Int} {s : Spn} (h : (handsF c key s).2 = 0) : solvedE c key (validS s) = 0 := hands_err.symm.trans h
theorem ok_of_solved {c : Book} {key : Int} {r : Bool} (h : solvedE c key r = 0) : c.ok := (asked_0 (solved_0 h).1).1
theorem more_less {c : Book} (h : c.ok) (w : Nat) (s : Spn) (key t : Int) (hi : (holdersF (narB c w s) key t).2 = 0) :
    (holdersF c key t).2 = 0 ∧ (copiersF (narB c w s) key t).2 = 0 ∧ ((holdersF (narB c w s) key t).1.all fun n => (holdersF c key t).1.contains n) = true ∧ ((copiersF (narB c w s) key t).1.all fun n => (copiersF c key t).1.contains n) = true := by
  have hs := solved_of hi
  have hy := ok_of_solved hs
  have hl := narB_less h w s
  have hs' := less_solved hl hy h hs
  obtain ⟨p1, p2⟩ := less_holders hl hy h hs
  exact ⟨(among_err ..).trans hs', (among_err ..).trans hs, List.all_eq_true.2 fun n hn => List.contains_iff_mem.2 (p1 n hn), List.all_eq_true.2 fun n hn => List.contains_iff_mem.2 (p2 n hn)⟩
theorem more_hands {c : Book} (h : c.ok) (w : Nat) (s : Spn) (key : Int) (hi : (handsF (narB c w s) key s).2 = 0) :
    (handsF c key s).2 = 0 ∧ ((handsF (narB c w s) key s).1.all fun n => (handsF c key s).1.contains n) = true := by
  have hs := solved_ofH hi
  have hy := ok_of_solved hs
  have hl := narB_less h w s
  exact ⟨hands_err.trans (less_solved hl hy h hs), List.all_eq_true.2 fun n hn => List.contains_iff_mem.2 (less_hands hl hy h hs n hn)⟩
theorem history_err {c : Book} {key : Int} (h : askedE c key = 0) : (historyF c key).2 = if foundS (chnOf c key) [] = true then 0 else 9 := by
  unfold historyF foundS
  rw [if_neg (by simpa using h)]
  cases searchS (chnOf c key) [] <;> rfl
theorem asked_gaps {c : Book} {key : Int} (h : askedE c key = 0) {g : Int} (hg : 0 ≤ g ∧ g ≤ 3) : askedE { c with gaps := g } key = 0 := by
  rw [asked_eq (asked_0 h).1 (gaps_ok (asked_0 h).1 hg) rfl]; exact h
theorem more_needed {c : Book} {key t : Int} (h : (neededF c key).2 = 0) : 0 ≤ (neededF c key).1 ∧ (neededF c key).1 ≤ 3 ∧ (historyF { c with gaps := (neededF c key).1 } key).2 = 0 ∧
    ((holdersF c key t).2 = 1 ∨ ((holdersF c key t).2 = 0 ∧ (neededF c key).1 ≤ c.gaps) ∨ ((holdersF c key t).2 = 9 ∧ c.gaps < (neededF c key).1)) ∧ ((neededF c key).1 = 0 ∨ (historyF { c with gaps := (neededF c key).1 - 1 } key).2 = 9) := by
  obtain ⟨n, e, h0, h3, hok, ha, hf, hl, hi⟩ := needed_law h
  rw [e]
  refine ⟨h0, h3, ?_, ?_, ?_⟩
  · rw [history_err (asked_gaps ha ⟨h0, h3⟩), if_pos hf]
  · have : (holdersF c key t).2 = solvedE c key (timeOk t) := among_err ..
    rw [this]
    unfold solvedE
    rw [if_neg (by simpa using ha)]
    cases ht : timeOk t with
    | false => exact .inl (by rw [if_pos rfl])
    | true =>
      rw [if_neg (by simp)]
      cases hq : foundS (chnOf c key) [] with
      | true => exact .inr (.inl ⟨by rw [if_neg (by simp)], hi.2 hq⟩)
      | false => exact .inr (.inr ⟨by rw [if_pos rfl], by have := mt hi.1 (by rw [hq]; simp); omega⟩)
  · by_cases hz : n = 0
    · exact .inl hz
    · right
      rw [history_err (asked_gaps ha ⟨by omega, by omega⟩), if_neg]
      rw [hl (n - 1) (by omega) (by omega)]
      simp
end Go.Proofs.Cu
