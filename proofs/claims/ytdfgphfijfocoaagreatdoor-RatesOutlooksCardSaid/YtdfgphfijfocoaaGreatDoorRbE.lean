import Derived.Test.YtdfgphfijfocoaaGreatDoorRbP
import Derived.Test.YtdfgphfijfocoaaGreatDoorAxH
namespace Go.Proofs.Ax
open Go Go.Proofs
set_option maxRecDepth 10000
set_option maxHeartbeats 2000000
/-- The balance of an account. -/
def bal (l : List Posting) (a : Int) : Int := (l.map (change · a)).sum
theorem bal_append (l m : List Posting) (a : Int) : bal (l ++ m) a = bal l a + bal m a := by simp [bal]
theorem bal_snoc (l : List Posting) (p : Posting) (a : Int) : bal (l ++ [p]) a = bal l a + change p a := by rw [bal_append]; simp [bal]
theorem change_bd {p : Posting} (h : p.ok) (a : Int) : -1099511627776 ≤ change p a ∧ change p a ≤ 1099511627776 := by
  unfold Posting.ok at h
  unfold change
  split
  · omega
  · split <;> omega
theorem bal_bd : ∀ {l : List Posting} (_ : ∀ p ∈ l, p.ok) (a : Int), -(1099511627776 * (l.length : Int)) ≤ bal l a ∧ bal l a ≤ 1099511627776 * (l.length : Int)
  | [], _, a => by simp [bal]
  | p :: l, h, a => by
    have ih := bal_bd (fun p hp => h p (List.mem_cons_of_mem _ hp)) (l := l) a
    have hc := change_bd (h p (List.mem_cons_self ..)) a
    have : bal (p :: l) a = change p a + bal l a := by simp [bal]
    rw [this, List.length_cons]
    omega
theorem bal_take_succ {l : List Posting} {k : Nat} (h : k < l.length) (a : Int) : bal (l.take (k + 1)) a = bal (l.take k) a + change l[k] a := by
  rw [take_succ_snoc h, bal_snoc]
theorem bal_take_bd {l : List Posting} (h : ∀ p ∈ l, p.ok) (k : Nat) (hk : k ≤ l.length) (a : Int) : -(1099511627776 * (k : Int)) ≤ bal (l.take k) a ∧ bal (l.take k) a ≤ 1099511627776 * (k : Int) := by
  have := bal_bd (l := l.take k) (fun p hp => h p (List.mem_of_mem_take hp)) a
  rw [List.length_take, Nat.min_eq_left hk] at this
  exact this
theorem rbalance_ok (t : Bool) (l : List Posting) (a : Int) (h : ∀ p ∈ l, p.ok) (hmax : l.length ≤ 8000) : Pu Tryz.prog G1 35 [postings t l, vi a] (vi (bal l a)) := by
  refine Pu.of_ev (T := Tryz.tab) (n := 42) (tryd_ok _) Tryz.func35 rfl rfl rfl (by first | rfl | (split <;> rfl)) (by simp) ?_
  (conv => whnf)
  refine LoopN.of2 (tryd_ok _) (fun (k : Nat) (n : Int) => [(0, postings t l), (1, vi a), (5, vi n), (6, vi k)]) (fun _ _ => []) (fun k _ => l.length - k) (fun k n => k ≤ l.length ∧ n = bal (l.take k) a) 0 0 ⟨Nat.zero_le _, rfl⟩ (Reabs.frm0 rfl (by repeat (first | exact trivial | refine ⟨.inr ⟨rfl, rfl⟩, ?_⟩))) ?_
  rintro k n ⟨hk, hn⟩
  by_cases hlt : k < l.length
  · have hok := h _ (List.getElem_mem hlt)
    have hb := bal_take_bd h k hk a
    have hs := bal_take_succ hlt a
    have hok' := hok
    unfold Posting.ok at hok'
    have hamt : 1 ≤ l[k].amount ∧ l[k].amount ≤ 1099511627776 := hok'.2.2.2.2.2
    have hne : l[k].src ≠ l[k].dst := hok'.2.2.2.2.1
    clear hok hok'
    ((conv => whnf); repeat' ((first | refine vv7 ?_ | refine vv8 ?_ | refine vv11 (fun hbr => ?_) (fun hbr => ?_) | refine vv20 ?_ | refine SlIdxN.map _ rfl (by first | assumption | omega) ?_ | refine vv23 ?_) <;> (conv => whnf)))
    all_goals refine BackN2.mk (k + 1) _ ⟨by omega, ?_⟩ (by omega) (Reabs.frm0 rfl (by repeat (first | exact trivial | refine ⟨.inr ⟨rfl, rfl⟩, ?_⟩)))
    all_goals rw [hs]; unfold change
    all_goals first
      | (exfalso; omega)
      | (rw [if_pos (by omega)]; omega)
      | (rw [if_neg (by omega), if_pos (by omega)]; omega)
      | (rw [if_neg (by omega), if_neg (by omega)]; omega)
  · ((conv => whnf); repeat' ((first | refine vv8 ?_ | refine vv23 ?_) <;> (conv => whnf)))
    refine DoneN.pure (vi_eq ?_)
    rw [hn, List.take_of_length_le (by omega)]
/-- What a watchman has earned in each of some nights. -/
def earned (l : List Posting) (id : Int) (s : Span) : List Int := (List.range (s.hi - s.lo + 1).toNat).map fun (j : Nat) => bal (l.filter fun p => decide (p.night = s.lo + ((j : Nat) : Int))) id
def intRow (n : Int) : List AV := [vi n]
/-- The error of Earned. -/
def earnedErr (l : List Posting) (id : Int) (s : Span) : Int := if (checkPost l).1 ≠ 0 then (checkPost l).1 else if spanErr s ≠ 0 then spanErr s else if ¬ (1 ≤ id ∧ id ≤ 1099511627776) then 1 else 0
theorem spanErr_0 {s : Span} (h : spanErr s = 0) : s.lo ≤ s.hi ∧ (0 ≤ s.lo ∧ s.lo ≤ 20000) ∧ (0 ≤ s.hi ∧ s.hi ≤ 20000) ∧ s.hi - s.lo < 400 := by
  unfold spanErr at h
  split at h
  · cases h
  · split at h
    · cases h
    · omega
/-- What an account has got in one night, of the first postings. -/
def nightBal (l : List Posting) (id n : Int) : Int := bal (l.filter fun p => decide (p.night = n)) id
/-- The first nights. -/
def earnedTo (l : List Posting) (id : Int) (s : Span) (m : Nat) : List Int := (List.range m).map fun (j : Nat) => nightBal l id (s.lo + ((j : Nat) : Int))
end Go.Proofs.Ax
