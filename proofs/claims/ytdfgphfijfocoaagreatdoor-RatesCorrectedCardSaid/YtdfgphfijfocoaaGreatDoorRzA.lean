import Derived.Test.YtdfgphfijfocoaaGreatDoorRbPE
import Derived.Test.YtdfgphfijfocoaaGreatDoorAxSo
import Derived.Test.YtdfgphfijfocoaaGreatDoorRbM1
import Derived.Test.YtdfgphfijfocoaaGreatDoorAxG
namespace Go.Proofs.Ax
open Go Go.Proofs
/-! The accounts of postings, and their balances. -/
def accs (l : List Posting) : List Int := l.flatMap fun p => [p.src, p.dst]
def accts (l : List Posting) : List Int := putAll [] (accs l)
abbrev Chg := Int × Int
abbrev Chg.enc (c : Chg) : List AV := [vi c.1, vi c.2]
abbrev chgs (t : Bool) (l : List Chg) : AV := .sl 2 t (l.map Chg.enc)
def balsOf (l : List Posting) : List Chg := (accts l).map fun a => (a, bal l a)
theorem accts_inc (l : List Posting) : Inc (accts l) := putAll_inc _ .nil
theorem mem_accts {l : List Posting} {a : Int} : a ∈ accts l ↔ a ∈ accs l := by
  rw [accts, mem_putAll]; simp
theorem accs_len (l : List Posting) : (accs l).length = 2 * l.length := by
  unfold accs
  induction l with
  | nil => rfl
  | cons p l ih => simp only [List.flatMap_cons, List.length_append, List.length_cons, List.length_nil, ih]; omega
theorem accts_len (l : List Posting) : (accts l).length ≤ 2 * l.length := by
  have := putAll_len (accs l) []
  rw [accs_len] at this
  simpa [accts] using this
theorem balsOf_len (l : List Posting) : (balsOf l).length ≤ 2 * l.length := by rw [balsOf, List.length_map]; exact accts_len l
theorem balsOf_mem {l : List Posting} {c : Chg} (h : c ∈ balsOf l) : c.1 ∈ accts l ∧ c.2 = bal l c.1 := by
  obtain ⟨a, ha, rfl⟩ := List.mem_map.1 h
  exact ⟨ha, rfl⟩
theorem accs_ok {l : List Posting} (h : ∀ p ∈ l, p.ok) : ∀ a ∈ accs l, isAcc a := by
  intro a ha
  obtain ⟨p, hp, h2⟩ := List.mem_flatMap.1 ha
  have := h p hp
  unfold Posting.ok at this
  rcases List.mem_cons.1 h2 with rfl | h2
  · exact this.2.2.1
  · rw [List.mem_singleton.1 h2]; exact this.2.2.2.1
theorem bal_not {l : List Posting} {a : Int} (h : a ∉ accs l) : bal l a = 0 := by
  induction l with
  | nil => rfl
  | cons p l ih =>
    have e : accs (p :: l) = [p.src, p.dst] ++ accs l := rfl
    rw [e, List.mem_append] at h
    have h2 := ih (fun hh => h (.inr hh))
    have h1 : ¬ (a = p.src ∨ a = p.dst) := fun hh => h (.inl (by simpa using hh))
    have : bal (p :: l) a = change p a + bal l a := by simp [bal]
    rw [this, h2]
    unfold change
    rw [if_neg (fun e => h1 (by omega)), if_neg (fun e => h1 (by omega))]
    rfl
theorem change_split {p : Posting} (h : p.src ≠ p.dst) (a : Int) : change p a = (if a = p.dst then p.amount else 0) + (if a = p.src then -p.amount else 0) := by
  unfold change
  by_cases h1 : a = p.dst
  · rw [if_pos (by omega), if_pos h1, if_neg (by omega)]; omega
  · rw [if_neg (by omega), if_neg h1]
    by_cases h2 : a = p.src
    · rw [if_pos (by omega)]; omega
    · rw [if_neg (by omega)]; rfl
end Go.Proofs.Ax
namespace Go.Proofs.Ax
open Go Go.Proofs
set_option maxRecDepth 10000
set_option maxHeartbeats 4000000
abbrev chE (c : Chg) : List AV := [vi c.1, vi c.2]
theorem chg_eqb (x y : Int × Int) : (decide (x.1 = y.1) && decide (x.2 = y.2)) = decide (x = y) := by
  cases x; cases y; simp
end Go.Proofs.Ax
