import Derived.Test.YtdfgphfijfocoaaDoorRbP
import Derived.Test.YtdfgphfijfocoaaDoorAxH
namespace Go.Proofs.Ax
open Go Go.Proofs
set_option maxRecDepth 10000
set_option maxHeartbeats 2000000
/-- The balance of an account. -/
def bal (l : List Posting) (a : Int) : Int := (l.map (change · a)).sum
theorem bal_append (l m : List Posting) (a : Int) : bal (l ++ m) a = bal l a + bal m a := by simp [bal]
theorem bal_snoc (l : List Posting) (p : Posting) (a : Int) : bal (l ++ [p]) a = bal l a + change p a := by rw [bal_append]; simp [bal]
theorem change_bd {p : Posting} (h : p.ok) (a : Int) : -1099511627776 ≤ change p a ∧ change p a ≤ 1099511627776 := by
  unfold Posting.ok at h
  unfold change
  split
  · omega
  · split <;> omega
theorem bal_bd : ∀ {l : List Posting} (_ : ∀ p ∈ l, p.ok) (a : Int), -(1099511627776 * (l.length : Int)) ≤ bal l a ∧ bal l a ≤ 1099511627776 * (l.length : Int)
  | [], _, a => by simp [bal]
  | p :: l, h, a => by
    have ih := bal_bd (fun p hp => h p (List.mem_cons_of_mem _ hp)) (l := l) a
    have hc := change_bd (h p (List.mem_cons_self ..)) a
    have : bal (p :: l) a = change p a + bal l a := by simp [bal]
    rw [this, List.length_cons]
    omega
theorem bal_take_succ {l : List Posting} {k : Nat} (h : k < l.length) (a : Int) : bal (l.take (k + 1)) a = bal (l.take k) a + change l[k] a := by
  rw [take_succ_snoc h, bal_snoc]
theorem bal_take_bd {l : List Posting} (h : ∀ p ∈ l, p.ok) (k : Nat) (hk : k ≤ l.length) (a : Int) : -(1099511627776 * (k : Int)) ≤ bal (l.take k) a ∧ bal (l.take k) a ≤ 1099511627776 * (k : Int) := by
  have := bal_bd (l := l.take k) (fun p hp => h p (List.mem_of_mem_take hp)) a
  rw [List.length_take, Nat.min_eq_left hk] at this
  exact this
/-- What a watchman has earned in each of some nights. -/
def earned (l : List Posting) (id : Int) (s : Span) : List Int := (List.range (s.hi - s.lo + 1).toNat).map fun (j : Nat) => bal (l.filter fun p => decide (p.night = s.lo + ((j : Nat) : Int))) id
def intRow (n : Int) : List AV := [vi n]
/-- The error of Earned. -/
def earnedErr (l : List Posting) (id : Int) (s : Span) : Int := if (checkPost l).1 ≠ 0 then (checkPost l).1 else if spanErr s ≠ 0 then spanErr s else if ¬ (1 ≤ id ∧ id ≤ 1099511627776) then 1 else 0
theorem spanErr_0 {s : Span} (h : spanErr s = 0) : s.lo ≤ s.hi ∧ (0 ≤ s.lo ∧ s.lo ≤ 20000) ∧ (0 ≤ s.hi ∧ s.hi ≤ 20000) ∧ s.hi - s.lo < 400 := by
  unfold spanErr at h
  split at h
  · cases h
  · split at h
    · cases h
    · omega
/-- What an account has got in one night, of the first postings. -/
def nightBal (l : List Posting) (id n : Int) : Int := bal (l.filter fun p => decide (p.night = n)) id
/-- The first nights. -/
def earnedTo (l : List Posting) (id : Int) (s : Span) (m : Nat) : List Int := (List.range m).map fun (j : Nat) => nightBal l id (s.lo + ((j : Nat) : Int))
end Go.Proofs.Ax
