import Derived.Test.YtdfgphfijfocoaaGreatDoorRbC
namespace Go.Proofs.Ax
open Go Go.Proofs
set_option maxRecDepth 10000
structure Posting where
  night : Int
  no : Int
  src : Int
  dst : Int
  amount : Int
  deriving DecidableEq
def Posting.enc (p : Posting) : List AV := [vi p.night, vi p.no, vi p.src, vi p.dst, vi p.amount]
def postings (t : Bool) (l : List Posting) : AV := .sl 5 t (l.map Posting.enc)
def isAcc (n : Int) : Prop := n = -1 ∨ n = -2 ∨ (1 ≤ n ∧ n ≤ 1099511627776)
instance (n : Int) : Decidable (isAcc n) := by unfold isAcc; infer_instance
def Posting.ok (p : Posting) : Prop := (0 ≤ p.night ∧ p.night ≤ 20000) ∧ (0 ≤ p.no ∧ p.no ≤ 12) ∧ isAcc p.src ∧ isAcc p.dst ∧ p.src ≠ p.dst ∧ (1 ≤ p.amount ∧ p.amount ≤ 1099511627776)
instance (p : Posting) : Decidable p.ok := by unfold Posting.ok; infer_instance
def badPost (prev : Option Posting) (p : Posting) : Option Int := if p.ok then none else some 1
def checkPost (l : List Posting) : Int × Int := if 4000 < l.length then (2, -1) else scan badPost 0 none l
structure Span where
  lo : Int
  hi : Int
  deriving DecidableEq
def Span.enc (s : Span) : List AV := [vi s.lo, vi s.hi]
def spanErr (s : Span) : Int := if s.hi < s.lo ∨ ¬ (0 ≤ s.lo ∧ s.lo ≤ 20000) ∨ ¬ (0 ≤ s.hi ∧ s.hi ≤ 20000) then 1 else if 400 ≤ s.hi - s.lo then 2 else 0
theorem vi_eq {a b : Int} (h : a = b) : vi a = vi b := by rw [h]
theorem spanned_ok (s : Span) : Pu Tryz.prog G1 97 [.agg s.enc] (vi (spanErr s)) := by
  refine Pu.of_ev (T := Tryz.tab) (n := 26) (tryd_ok _) Tryz.func97 rfl rfl rfl (by first | rfl | (split <;> rfl)) (by simp) ?_
  ((conv => whnf); repeat' ((first | refine vv1 ?_ | refine vv3 ?_ | refine vv4 ?_ | refine vv5 ?_ | refine vv6 ?_ | refine vv11 (fun hbr => ?_) (fun hbr => ?_) | refine vv12 (fun hbr => ?_) (fun hbr => ?_) | refine vv20 ?_ | refine vv21 ?_ | refine CallN.pure (night_ok _) ?_) <;> (conv => whnf)))
  all_goals refine DoneN.pure (vi_eq ?_)
  all_goals unfold spanErr
  all_goals first
    | (rw [if_pos (by omega)]; done)
    | (rw [if_neg (by omega), if_pos (by omega)]; done)
    | (rw [if_neg (by omega), if_neg (by omega)]; done)
theorem nights_ok (s : Span) : Pu Tryz.prog G1 59 [.agg s.enc] (vi (spanErr s)) := by
  refine Pu.of_ev (T := Tryz.tab) (n := 26) (tryd_ok _) Tryz.func59 rfl rfl rfl (by first | rfl | (split <;> rfl)) (by simp) ?_
  ((conv => whnf); repeat' ((first | refine vv1 ?_ | refine vv3 ?_ | refine vv4 ?_ | refine vv5 ?_ | refine vv6 ?_ | refine vv11 (fun hbr => ?_) (fun hbr => ?_) | refine vv12 (fun hbr => ?_) (fun hbr => ?_) | refine vv20 ?_ | refine vv21 ?_ | refine CallN.pure (in_ok _ _ _) ?_) <;> (conv => whnf)))
  all_goals refine DoneN.pure (vi_eq ?_)
  all_goals unfold spanErr
  all_goals first
    | (rw [if_pos (by omega)]; done)
    | (rw [if_neg (by omega), if_pos (by omega)]; done)
    | (rw [if_neg (by omega), if_neg (by omega)]; done)
/-- What a posting adds to an account. -/
def change (p : Posting) (a : Int) : Int := if a = p.dst then p.amount else if a = p.src then -p.amount else 0
theorem change_ok (p : Posting) (a : Int) (h : -1099511627776 ≤ p.amount ∧ p.amount ≤ 1099511627776) : Pu Tryz.prog G1 65 [.agg p.enc, vi a] (vi (change p a)) := by
  refine Pu.of_ev (T := Tryz.tab) (n := 19) (tryd_ok _) Tryz.func65 rfl rfl rfl (by first | rfl | (split <;> rfl)) (by simp) ?_
  ((conv => whnf); repeat' ((first | refine vv11 (fun hbr => ?_) (fun hbr => ?_) | refine vv20 ?_ | refine vv21 ?_) <;> (conv => whnf)))
  all_goals refine DoneN.pure (vi_eq ?_)
  all_goals unfold change
  all_goals first
    | (rw [if_pos (by assumption)]; done)
    | (rw [if_neg (by assumption), if_pos (by assumption)]; omega)
    | (rw [if_neg (by assumption), if_neg (by assumption)]; done)
/-- Equal, each number. -/
theorem sameInts_ok (t u : Bool) (a b : List Int) (hmax : a.length ≤ 9223372036854775807) (hmax' : b.length ≤ 9223372036854775807) : Pu Tryz.prog G1 53 [ints t a, ints u b] (vb (decide (a = b))) := by
  refine Pu.of_ev (T := Tryz.tab) (n := 26) (tryd_ok _) Tryz.func53 rfl rfl rfl (by first | rfl | (split <;> rfl)) (by simp) ?_
  ((conv => whnf); repeat' ((first | refine vv12 (fun hbr => ?_) (fun hbr => ?_) | refine vv23 ?_) <;> (conv => whnf)))
  all_goals first
    | (refine DoneN.pure (vb_ff ?_); intro he; subst he; omega)
    | skip
  refine LoopN.of (tryd_ok _) (fun k : Nat => [(0, ints t a), (1, ints u b), (5, vi k)]) (fun _ => []) (fun k => a.length - k) (fun k => k ≤ a.length ∧ a.length = b.length ∧ ∀ j, (h : j < a.length) → (h' : j < b.length) → j < k → a[j] = b[j]) 0 ⟨Nat.zero_le _, by omega, fun j h h' hj => by omega⟩ (Reabs.frm0 rfl (by repeat (first | exact trivial | refine ⟨.inr ⟨rfl, rfl⟩, ?_⟩))) ?_
  rintro k ⟨hk, hab, hall⟩
  ((conv => whnf); repeat' ((first | refine vv11 (fun hbr => ?_) (fun hbr => ?_) | refine vv12 (fun hbr => ?_) (fun hbr => ?_) | refine vv20 ?_ | refine SlIdxN.map _ rfl (by first | assumption | omega) ?_ | refine vv23 ?_ | refine vv25 ?_ | refine DrawN.gen (by first | exact tryd_ok _ | exact tryd_okm _ _) (by kernel_rfl) ?_) <;> (conv => whnf)))
  · refine BackN.mk (k + 1) ⟨by omega, hab, fun j h h' hj => ?_⟩ (by omega) (Reabs.frm0 rfl (by repeat (first | exact trivial | refine ⟨.inr ⟨rfl, rfl⟩, ?_⟩)))
    by_cases hq : j = k
    · subst hq; assumption
    · exact hall j h h' (by omega)
  · refine DoneN.pure (vb_ff ?_); intro he; subst he; exact absurd rfl ‹_›
  · refine DoneN.pure (vb_tt ?_)
    refine List.ext_getElem hab fun j h h' => hall j h h' (by omega)
end Go.Proofs.Ax
