import Derived.Test.YtdfgphfijfocoaaGreatDoorRbC
import Derived.Test.YtdfgphfijfocoaaGreatDoorAxH
namespace Go.Proofs.Ax
open Go Go.Proofs
set_option maxRecDepth 10000
structure Posting where
  night : Int
  no : Int
  src : Int
  dst : Int
  amount : Int
  deriving DecidableEq
def Posting.enc (p : Posting) : List AV := [vi p.night, vi p.no, vi p.src, vi p.dst, vi p.amount]
def postings (t : Bool) (l : List Posting) : AV := .sl 5 t (l.map Posting.enc)
def isAcc (n : Int) : Prop := n = -1 ∨ n = -2 ∨ (1 ≤ n ∧ n ≤ 1099511627776)
instance (n : Int) : Decidable (isAcc n) := by unfold isAcc; infer_instance
def Posting.ok (p : Posting) : Prop := (0 ≤ p.night ∧ p.night ≤ 20000) ∧ (0 ≤ p.no ∧ p.no ≤ 12) ∧ isAcc p.src ∧ isAcc p.dst ∧ p.src ≠ p.dst ∧ (1 ≤ p.amount ∧ p.amount ≤ 1099511627776)
instance (p : Posting) : Decidable p.ok := by unfold Posting.ok; infer_instance
theorem account_ok (n : Int) : Pu Tryz.prog G1 74 [vi n] (vb (decide (isAcc n))) := by
  refine Pu.of_ev (T := Tryz.tab) (n := 17) (tryd_ok _) Tryz.func74 rfl rfl rfl (by first | rfl | (split <;> rfl)) (by simp) ?_
  ((conv => whnf); repeat' ((first | refine vv1 ?_ | refine vv3 ?_ | refine vv4 ?_ | refine vv11 (fun hbr => ?_) (fun hbr => ?_)) <;> (conv => whnf)))
  all_goals refine DoneN.pure ?_
  all_goals unfold isAcc
  all_goals first | rfl | exact vb_dec (by omega) | exact vb_tt (by omega) | exact vb_ff (by omega)
theorem raccount_ok (n : Int) : Pu Tryz.prog G1 34 [vi n] (vb (decide (isAcc n))) := by
  refine Pu.of_ev (T := Tryz.tab) (n := 13) (tryd_ok _) Tryz.func34 rfl rfl rfl (by first | rfl | (split <;> rfl)) (by simp) ?_
  ((conv => whnf); repeat' ((first | refine vv1 ?_ | refine vv3 ?_ | refine vv4 ?_ | refine vv11 (fun hbr => ?_) (fun hbr => ?_) | refine CallN.pure (in_ok _ _ _) ?_) <;> (conv => whnf)))
  all_goals refine DoneN.pure ?_
  all_goals unfold isAcc
  all_goals first | rfl | exact vb_dec (by omega) | exact vb_tt (by omega) | exact vb_ff (by omega)
theorem rposting_ok (p : Posting) : Pu Tryz.prog G1 75 [.agg p.enc] (vb (decide p.ok)) := by
  refine Pu.of_ev (T := Tryz.tab) (n := 37) (tryd_ok _) Tryz.func75 rfl rfl rfl (by first | rfl | (split <;> rfl)) (by simp) ?_
  ((conv => whnf); repeat' ((first | refine vv2 ?_ | refine vv3 ?_ | refine vv4 ?_ | refine vv5 ?_ | refine vv6 ?_ | refine vv11 (fun hbr => ?_) (fun hbr => ?_) | refine vv12 (fun hbr => ?_) (fun hbr => ?_) | refine vv21 ?_ | refine CallN.pure (in_ok _ _ _) ?_ | refine CallN.pure (raccount_ok _) ?_) <;> (conv => whnf)))
  all_goals refine DoneN.pure ?_
  all_goals simp only [Posting.ok, isAcc] at *
  all_goals first | rfl | exact vb_dec (by omega) | exact vb_tt (by omega) | exact vb_ff (by omega)
def badPost (prev : Option Posting) (p : Posting) : Option Int := if p.ok then none else some 1
def checkPost (l : List Posting) : Int × Int := if 4000 < l.length then (2, -1) else scan badPost 0 none l
theorem badPost_1 {l : List Posting} {k : Nat} (h : k < l.length) (hb : ¬ (l[k]).ok) : badPost (prevOf l k) l[k] = some 1 := by unfold badPost; rw [if_neg hb]
theorem badPost_no {l : List Posting} {k : Nat} (h : k < l.length) (hb : (l[k]).ok) : badPost (prevOf l k) l[k] = none := by unfold badPost; rw [if_pos hb]
theorem rcheckPost_ok (t : Bool) (l : List Posting) (hmax : l.length ≤ 9223372036854775807) : Pu Tryz.prog G1 29 [postings t l] (ei (checkPost l)) := by
  refine Pu.of_ev (T := Tryz.tab) (n := 23) (tryd_ok _) Tryz.func29 rfl rfl rfl (by first | rfl | (split <;> rfl)) (by simp) ?_
  ((conv => whnf); repeat' ((first | refine vv11 (fun hbr => ?_) (fun hbr => ?_) | refine vv23 ?_) <;> (conv => whnf)))
  case refine_1 => refine DoneN.pure ?_; rw [checkPost, if_pos (by omega)]; rfl
  refine LoopN.of (tryd_ok _) (fun k : Nat => [(0, postings t l), (4, vi k)]) (fun _ => []) (fun k => l.length - k) (fun k => k ≤ l.length ∧ checkPost l = scan badPost k (prevOf l k) (l.drop k)) 0 ⟨Nat.zero_le _, by rw [checkPost, if_neg (by omega)]; rfl⟩ (Reabs.frm0 rfl (by repeat (first | exact trivial | refine ⟨.inr ⟨rfl, rfl⟩, ?_⟩))) ?_
  rintro k ⟨hk, hscan⟩
  ((conv => whnf); repeat' ((first | refine vv11 (fun hbr => ?_) (fun hbr => ?_) | refine vv12 (fun hbr => ?_) (fun hbr => ?_) | refine vv20 ?_ | refine SlIdxN.map _ rfl (by first | assumption | omega) ?_ | refine vv23 ?_ | refine CallN.pure (rposting_ok _) ?_) <;> (conv => whnf)))
  all_goals first
    | (refine BackN.mk (k + 1) ⟨by omega, ?_⟩ (by omega) (Reabs.frm0 rfl (by repeat (first | exact trivial | refine ⟨.inr ⟨rfl, rfl⟩, ?_⟩))); rw [hscan, scan_good (by omega) (badPost_no (by omega) (by assumption))])
    | (refine DoneN.pure ?_; rw [hscan, scan_bad (by omega) (badPost_1 (by omega) (by assumption))]; rfl)
    | (refine DoneN.pure ?_; rw [hscan, scan_end (by omega)]; rfl)
theorem checkPost_ok (t : Bool) (l : List Posting) (hmax : l.length ≤ 9223372036854775807) : Pu Tryz.prog G1 28 [postings t l] (ei (checkPost l)) := by
  refine Pu.of_ev (T := Tryz.tab) (n := 61) (tryd_ok _) Tryz.func28 rfl rfl rfl (by first | rfl | (split <;> rfl)) (by simp) ?_
  ((conv => whnf); repeat' ((first | refine vv11 (fun hbr => ?_) (fun hbr => ?_) | refine vv23 ?_) <;> (conv => whnf)))
  case refine_1 => refine DoneN.pure ?_; rw [checkPost, if_pos (by omega)]; rfl
  refine LoopN.of (tryd_ok _) (fun k : Nat => [(9, postings t l), (10, vi l.length), (11, vi k)]) (fun _ => []) (fun k => l.length - k) (fun k => k ≤ l.length ∧ checkPost l = scan badPost k (prevOf l k) (l.drop k)) 0 ⟨Nat.zero_le _, by rw [checkPost, if_neg (by omega)]; rfl⟩ (Reabs.frm0 rfl (by repeat (first | exact trivial | refine ⟨.inr ⟨rfl, rfl⟩, ?_⟩))) ?_
  rintro k ⟨hk, hscan⟩
  ((conv => whnf); repeat' ((first | refine vv1 ?_ | refine vv3 ?_ | refine vv4 ?_ | refine vv5 ?_ | refine vv6 ?_ | refine vv11 (fun hbr => ?_) (fun hbr => ?_) | refine vv12 (fun hbr => ?_) (fun hbr => ?_) | refine vv20 ?_ | refine SlIdxN.map _ rfl (by first | assumption | omega) ?_ | refine vv21 ?_ | refine vv22 ?_ | refine CallN.pure (night_ok _) ?_ | refine CallN.pure (account_ok _) ?_) <;> (conv => whnf)))
  all_goals first
    | (refine BackN.mk (k + 1) ⟨by omega, ?_⟩ (by omega) (Reabs.frm0 rfl (by repeat (first | exact trivial | refine ⟨.inr ⟨rfl, rfl⟩, ?_⟩))); rw [hscan, scan_good (by omega) (badPost_no (by omega) (by unfold Posting.ok; first | omega | exact ⟨by omega, by omega, by assumption, by assumption, by assumption, by omega⟩))])
    | (refine DoneN.pure ?_; rw [hscan, scan_bad (by omega) (badPost_1 (by omega) (by unfold Posting.ok; first | omega | (intro hq; exact absurd hq.2.2.1 (by assumption)) | (intro hq; exact absurd hq.2.2.2.1 (by assumption)) | (intro hq; exact absurd (by assumption) hq.2.2.2.2.1)))]; rfl)
    | (refine DoneN.pure ?_; rw [hscan, scan_end (by omega)]; rfl)
theorem error_ok (t : Bool) (l : List Posting) (hmax : l.length ≤ 9223372036854775807) : Pu Tryz.prog G1 36 [postings t l] (vi (checkPost l).1) := by
  refine Pu.of_ev (T := Tryz.tab) (n := 11) (tryd_ok _) Tryz.func36 rfl rfl rfl (by first | rfl | (split <;> rfl)) (by simp) ?_
  ((conv => whnf); repeat' ((first | refine CallN.pure (rcheckPost_ok _ _ hmax) ?_) <;> (conv => whnf)))
  refine DoneN.pure rfl
structure Span where
  lo : Int
  hi : Int
  deriving DecidableEq
def Span.enc (s : Span) : List AV := [vi s.lo, vi s.hi]
def spanErr (s : Span) : Int := if s.hi < s.lo ∨ ¬ (0 ≤ s.lo ∧ s.lo ≤ 20000) ∨ ¬ (0 ≤ s.hi ∧ s.hi ≤ 20000) then 1 else if 400 ≤ s.hi - s.lo then 2 else 0
theorem vi_eq {a b : Int} (h : a = b) : vi a = vi b := by rw [h]
/-- What a posting adds to an account. -/
def change (p : Posting) (a : Int) : Int := if a = p.dst then p.amount else if a = p.src then -p.amount else 0
theorem short_ok (t : Bool) (l : List Posting) (hmax : l.length ≤ 9223372036854775807) : Pu Tryz.prog G1 27 [postings t l] (vb (decide ((l.length : Int) ≤ 60))) := by
  refine Pu.of_ev (T := Tryz.tab) (n := 6) (tryd_ok _) Tryz.func27 rfl rfl rfl (by first | rfl | (split <;> rfl)) (by simp) ?_
  ((conv => whnf); repeat' ((first | refine vv23 ?_) <;> (conv => whnf)))
  refine DoneN.pure rfl
end Go.Proofs.Ax
namespace Go.Proofs.Ax
open Go Go.Proofs
set_option maxRecDepth 10000
set_option maxHeartbeats 2000000
/-- The balance of an account. -/
def bal (l : List Posting) (a : Int) : Int := (l.map (change · a)).sum
/-- What a watchman has earned in each of some nights. -/
def earned (l : List Posting) (id : Int) (s : Span) : List Int := (List.range (s.hi - s.lo + 1).toNat).map fun (j : Nat) => bal (l.filter fun p => decide (p.night = s.lo + ((j : Nat) : Int))) id
theorem checkPost_0 {l : List Posting} (h : (checkPost l).1 = 0) : l.length ≤ 4000 ∧ ∀ p ∈ l, p.ok := by
  unfold checkPost at h
  split at h
  · cases h
  · refine ⟨by omega, ?_⟩
    have key : ∀ (l : List Posting) (k : Nat) (q : Option Posting), (scan badPost k q l).1 = 0 → ∀ p ∈ l, p.ok := by
      intro l
      induction l with
      | nil => intro k q _ p hp; cases hp
      | cons x xs ih =>
        intro k q h p hp
        unfold scan badPost at h
        by_cases hx : x.ok
        · simp only [if_pos hx] at h
          rcases List.mem_cons.1 hp with rfl | hp
          · exact hx
          · exact ih _ _ h p hp
        · simp only [if_neg hx] at h
          cases h
    exact key l 0 none h
def intRow (n : Int) : List AV := [vi n]
/-- The error of Earned. -/
def earnedErr (l : List Posting) (id : Int) (s : Span) : Int := if (checkPost l).1 ≠ 0 then (checkPost l).1 else if spanErr s ≠ 0 then spanErr s else if ¬ (1 ≤ id ∧ id ≤ 1099511627776) then 1 else 0
/-- What an account has got in one night, of the first postings. -/
def nightBal (l : List Posting) (id n : Int) : Int := bal (l.filter fun p => decide (p.night = n)) id
/-- The first nights. -/
def earnedTo (l : List Posting) (id : Int) (s : Span) (m : Nat) : List Int := (List.range m).map fun (j : Nat) => nightBal l id (s.lo + ((j : Nat) : Int))
end Go.Proofs.Ax
