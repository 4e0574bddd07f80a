import Derived.Test.YtdfgphfijfocoaaGreatDoorRbPE
import Derived.Test.YtdfgphfijfocoaaGreatDoorAxSo
import Derived.Test.YtdfgphfijfocoaaGreatDoorRbM1
import Derived.Test.YtdfgphfijfocoaaGreatDoorAxG
namespace Go.Proofs.Ax
open Go Go.Proofs
/-! The accounts of postings, and their balances. -/
def accs (l : List Posting) : List Int := l.flatMap fun p => [p.src, p.dst]
def accts (l : List Posting) : List Int := putAll [] (accs l)
abbrev Chg := Int × Int
abbrev Chg.enc (c : Chg) : List AV := [vi c.1, vi c.2]
abbrev chgs (t : Bool) (l : List Chg) : AV := .sl 2 t (l.map Chg.enc)
def balsOf (l : List Posting) : List Chg := (accts l).map fun a => (a, bal l a)
theorem accts_inc (l : List Posting) : Inc (accts l) := putAll_inc _ .nil
theorem mem_accts {l : List Posting} {a : Int} : a ∈ accts l ↔ a ∈ accs l := by
  rw [accts, mem_putAll]; simp
theorem accs_len (l : List Posting) : (accs l).length = 2 * l.length := by
  unfold accs
  induction l with
  | nil => rfl
  | cons p l ih => simp only [List.flatMap_cons, List.length_append, List.length_cons, List.length_nil, ih]; omega
theorem accts_len (l : List Posting) : (accts l).length ≤ 2 * l.length := by
  have := putAll_len (accs l) []
  rw [accs_len] at this
  simpa [accts] using this
theorem balsOf_len (l : List Posting) : (balsOf l).length ≤ 2 * l.length := by rw [balsOf, List.length_map]; exact accts_len l
theorem balsOf_mem {l : List Posting} {c : Chg} (h : c ∈ balsOf l) : c.1 ∈ accts l ∧ c.2 = bal l c.1 := by
  obtain ⟨a, ha, rfl⟩ := List.mem_map.1 h
  exact ⟨ha, rfl⟩
theorem accs_append (l m : List Posting) : accs (l ++ m) = accs l ++ accs m := by simp [accs]
theorem accs_ok {l : List Posting} (h : ∀ p ∈ l, p.ok) : ∀ a ∈ accs l, isAcc a := by
  intro a ha
  obtain ⟨p, hp, h2⟩ := List.mem_flatMap.1 ha
  have := h p hp
  unfold Posting.ok at this
  rcases List.mem_cons.1 h2 with rfl | h2
  · exact this.2.2.1
  · rw [List.mem_singleton.1 h2]; exact this.2.2.2.1
/-- The sum of all balances. -/
theorem sum_map_add {α : Type} (f g : α → Int) : ∀ l : List α, (l.map fun a => f a + g a).sum = (l.map f).sum + (l.map g).sum
  | [] => rfl
  | a :: l => by have := sum_map_add f g l; simp only [List.map_cons, List.sum_cons]; omega
theorem sum_map_zero {α : Type} : ∀ l : List α, (l.map fun _ => (0 : Int)).sum = 0
  | [] => rfl
  | a :: l => by have := sum_map_zero l; simp only [List.map_cons, List.sum_cons]; omega
theorem sum_ite {a v : Int} : ∀ {l : List Int}, Inc l → (l.map fun x => if x = a then v else 0).sum = if a ∈ l then v else 0
  | [], _ => rfl
  | x :: l, h => by
    have h' := List.pairwise_cons.1 h
    have ih := sum_ite (a := a) (v := v) h'.2
    simp only [List.map_cons, List.sum_cons, ih]
    by_cases hx : x = a
    · subst hx
      have : x ∉ l := fun hm => by have := h'.1 x hm; omega
      rw [if_pos rfl, if_neg this, if_pos (List.mem_cons_self ..)]; omega
    · rw [if_neg hx]
      by_cases hm : a ∈ l
      · rw [if_pos hm, if_pos (List.mem_cons_of_mem _ hm)]; omega
      · rw [if_neg hm, if_neg (by rw [List.mem_cons]; rintro (e | e); exact hx e.symm; exact hm e)]; rfl
theorem change_split {p : Posting} (h : p.src ≠ p.dst) (a : Int) : change p a = (if a = p.dst then p.amount else 0) + (if a = p.src then -p.amount else 0) := by
  unfold change
  by_cases h1 : a = p.dst
  · rw [if_pos (by omega), if_pos h1, if_neg (by omega)]; omega
  · rw [if_neg (by omega), if_neg h1]
    by_cases h2 : a = p.src
    · rw [if_pos (by omega)]; omega
    · rw [if_neg (by omega)]; rfl
theorem sum_change {S : List Int} (hS : Inc S) {p : Posting} (h : p.src ≠ p.dst) (h1 : p.src ∈ S) (h2 : p.dst ∈ S) : (S.map fun a => change p a).sum = 0 := by
  have : (fun a => change p a) = fun a => (if a = p.dst then p.amount else 0) + (if a = p.src then -p.amount else 0) := funext fun a => change_split h a
  rw [this, sum_map_add, sum_ite hS, sum_ite hS, if_pos h1, if_pos h2]; omega
theorem sum_bal {S : List Int} (hS : Inc S) : ∀ {l : List Posting}, (∀ p ∈ l, p.src ≠ p.dst ∧ p.src ∈ S ∧ p.dst ∈ S) → (S.map fun a => bal l a).sum = 0
  | [], _ => sum_map_zero S
  | p :: l, h => by
    have e : (fun a => bal (p :: l) a) = fun a => change p a + bal l a := funext fun a => by simp [bal]
    obtain ⟨h1, h2, h3⟩ := h p (List.mem_cons_self ..)
    rw [e, sum_map_add, sum_change hS h1 h2 h3, sum_bal hS fun q hq => h q (List.mem_cons_of_mem _ hq)]; rfl
end Go.Proofs.Ax
namespace Go.Proofs.Ax
open Go Go.Proofs
set_option maxRecDepth 10000
set_option maxHeartbeats 4000000
abbrev chE (c : Chg) : List AV := [vi c.1, vi c.2]
end Go.Proofs.Ax
