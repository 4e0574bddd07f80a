import Derived.Test.YtedekogkeamacaaGreatDoorCuC
namespace Go.Proofs.Cu
open Go.Proofs.Ax
set_option linter.unusedVariables false
def rotL {α : Type} (l : List α) (t : Nat) : List α := l.drop (t % l.length) ++ l.take (t % l.length)
theorem rotL_perm {α : Type} (l : List α) (t : Nat) : (rotL l t).Perm l :=
  (List.perm_append_comm).trans (.of_eq (List.take_append_drop _ _))
theorem rotL_len {α : Type} (l : List α) (t : Nat) : (rotL l t).length = l.length := (rotL_perm l t).length_eq
theorem rotL_get? {α : Type} (l : List α) (t : Nat) {i : Nat} (h : i < l.length) : (rotL l t)[i]? = l[(i + t) % l.length]? := by
  have hr : t % l.length < l.length := Nat.mod_lt _ (by omega)
  have e : (i + t) % l.length = (i + t % l.length) % l.length := (Nat.add_mod_mod ..).symm
  unfold rotL
  generalize t % l.length = r at *
  rw [e]
  by_cases h1 : i < l.length - r
  · rw [List.getElem?_append_left (by simp; omega), List.getElem?_drop, Nat.mod_eq_of_lt (by omega), Nat.add_comm]
  · rw [List.getElem?_append_right (by simp; omega), List.length_drop, List.getElem?_take_of_lt (by omega), Nat.mod_eq_sub_mod (by omega), Nat.mod_eq_of_lt (by omega)]
    congr 1
    omega
theorem rotL_get {α : Type} (l : List α) (t : Nat) {i : Nat} (h : i < l.length) : (rotL l t)[i]'(by rw [rotL_len]; exact h) = l[(i + t) % l.length]'(Nat.mod_lt _ (by omega)) := by
  have h1 := rotL_get? l t h
  rw [List.getElem?_eq_getElem (by rw [rotL_len]; exact h), List.getElem?_eq_getElem (Nat.mod_lt _ (by omega))] at h1
  exact Option.some.inj h1
def rotB (c : Book) (t : Nat) : Book := { c with entries := rotL c.entries t }
theorem rotB_turned (c : Book) (t : Nat) : Turned c (rotB c t) := ⟨rfl, rfl, rfl, rotL_perm _ _⟩
theorem order_law {c : Book} (h : c.ok) (w : Nat) (key t : Int) (s : Spn) : holdersF (rotB c w) key t = holdersF c key t ∧ copiersF (rotB c w) key t = copiersF c key t ∧ handsF (rotB c w) key s = handsF c key s ∧ suspectsF (rotB c w) key = suspectsF c key :=
  ⟨turned_holders h (rotB_turned c w) key t, turned_copiers h (rotB_turned c w) key t, turned_hands h (rotB_turned c w) key s, turned_suspects h (rotB_turned c w) key⟩
end Go.Proofs.Cu
