import Derived.Test.YtdfgphfijfocoaaGreatDoorRbC
import Derived.Test.YtdfgphfijfocoaaGreatDoorAxH
namespace Go.Proofs.Ax
open Go Go.Proofs
set_option maxRecDepth 10000
structure Posting where
  night : Int
  no : Int
  src : Int
  dst : Int
  amount : Int
  deriving DecidableEq
def Posting.enc (p : Posting) : List AV := [vi p.night, vi p.no, vi p.src, vi p.dst, vi p.amount]
def postings (t : Bool) (l : List Posting) : AV := .sl 5 t (l.map Posting.enc)
def isAcc (n : Int) : Prop := n = -1 ∨ n = -2 ∨ (1 ≤ n ∧ n ≤ 1099511627776)
instance (n : Int) : Decidable (isAcc n) := by unfold isAcc; infer_instance
def Posting.ok (p : Posting) : Prop := (0 ≤ p.night ∧ p.night ≤ 20000) ∧ (0 ≤ p.no ∧ p.no ≤ 12) ∧ isAcc p.src ∧ isAcc p.dst ∧ p.src ≠ p.dst ∧ (1 ≤ p.amount ∧ p.amount ≤ 1099511627776)
instance (p : Posting) : Decidable p.ok := by unfold Posting.ok; infer_instance
def badPost (prev : Option Posting) (p : Posting) : Option Int := if p.ok then none else some 1
def checkPost (l : List Posting) : Int × Int := if 4000 < l.length then (2, -1) else scan badPost 0 none l
structure Span where
  lo : Int
  hi : Int
  deriving DecidableEq
def Span.enc (s : Span) : List AV := [vi s.lo, vi s.hi]
def spanErr (s : Span) : Int := if s.hi < s.lo ∨ ¬ (0 ≤ s.lo ∧ s.lo ≤ 20000) ∨ ¬ (0 ≤ s.hi ∧ s.hi ≤ 20000) then 1 else if 400 ≤ s.hi - s.lo then 2 else 0
theorem vi_eq {a b : Int} (h : a = b) : vi a = vi b := by rw [h]
theorem spanned_ok (s : Span) : Pu Tryz.prog G1 97 [.agg s.enc] (vi (spanErr s)) := by
  refine Pu.of_ev (T := Tryz.tab) (n := 26) (tryd_ok _) Tryz.func97 rfl rfl rfl (by first | rfl | (split <;> rfl)) (by simp) ?_
  ((conv => whnf); repeat' ((first | refine vv1 ?_ | refine vv3 ?_ | refine vv4 ?_ | refine vv5 ?_ | refine vv6 ?_ | refine vv11 (fun hbr => ?_) (fun hbr => ?_) | refine vv12 (fun hbr => ?_) (fun hbr => ?_) | refine vv20 ?_ | refine vv21 ?_ | refine CallN.pure (night_ok _) ?_) <;> (conv => whnf)))
  all_goals refine DoneN.pure (vi_eq ?_)
  all_goals unfold spanErr
  all_goals first
    | (rw [if_pos (by omega)]; done)
    | (rw [if_neg (by omega), if_pos (by omega)]; done)
    | (rw [if_neg (by omega), if_neg (by omega)]; done)
theorem nights_ok (s : Span) : Pu Tryz.prog G1 59 [.agg s.enc] (vi (spanErr s)) := by
  refine Pu.of_ev (T := Tryz.tab) (n := 26) (tryd_ok _) Tryz.func59 rfl rfl rfl (by first | rfl | (split <;> rfl)) (by simp) ?_
  ((conv => whnf); repeat' ((first | refine vv1 ?_ | refine vv3 ?_ | refine vv4 ?_ | refine vv5 ?_ | refine vv6 ?_ | refine vv11 (fun hbr => ?_) (fun hbr => ?_) | refine vv12 (fun hbr => ?_) (fun hbr => ?_) | refine vv20 ?_ | refine vv21 ?_ | refine CallN.pure (in_ok _ _ _) ?_) <;> (conv => whnf)))
  all_goals refine DoneN.pure (vi_eq ?_)
  all_goals unfold spanErr
  all_goals first
    | (rw [if_pos (by omega)]; done)
    | (rw [if_neg (by omega), if_pos (by omega)]; done)
    | (rw [if_neg (by omega), if_neg (by omega)]; done)
/-- What a posting adds to an account. -/
def change (p : Posting) (a : Int) : Int := if a = p.dst then p.amount else if a = p.src then -p.amount else 0
end Go.Proofs.Ax
namespace Go.Proofs.Ax
open Go Go.Proofs
set_option maxRecDepth 10000
set_option maxHeartbeats 2000000
/-- The balance of an account. -/
def bal (l : List Posting) (a : Int) : Int := (l.map (change · a)).sum
theorem bal_append (l m : List Posting) (a : Int) : bal (l ++ m) a = bal l a + bal m a := by simp [bal]
/-- What a watchman has earned in each of some nights. -/
def earned (l : List Posting) (id : Int) (s : Span) : List Int := (List.range (s.hi - s.lo + 1).toNat).map fun (j : Nat) => bal (l.filter fun p => decide (p.night = s.lo + ((j : Nat) : Int))) id
def intRow (n : Int) : List AV := [vi n]
/-- The error of Earned. -/
def earnedErr (l : List Posting) (id : Int) (s : Span) : Int := if (checkPost l).1 ≠ 0 then (checkPost l).1 else if spanErr s ≠ 0 then spanErr s else if ¬ (1 ≤ id ∧ id ≤ 1099511627776) then 1 else 0
theorem spanErr_0 {s : Span} (h : spanErr s = 0) : s.lo ≤ s.hi ∧ (0 ≤ s.lo ∧ s.lo ≤ 20000) ∧ (0 ≤ s.hi ∧ s.hi ≤ 20000) ∧ s.hi - s.lo < 400 := by
  unfold spanErr at h
  split at h
  · cases h
  · split at h
    · cases h
    · omega
/-- What an account has got in one night, of the first postings. -/
def nightBal (l : List Posting) (id n : Int) : Int := bal (l.filter fun p => decide (p.night = n)) id
/-- The first nights. -/
def earnedTo (l : List Posting) (id : Int) (s : Span) (m : Nat) : List Int := (List.range m).map fun (j : Nat) => nightBal l id (s.lo + ((j : Nat) : Int))
end Go.Proofs.Ax
