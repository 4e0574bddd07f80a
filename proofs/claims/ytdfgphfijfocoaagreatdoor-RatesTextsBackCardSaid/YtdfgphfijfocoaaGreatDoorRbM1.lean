import Derived.Test.YtdfgphfijfocoaaGreatDoorNtA
import Derived.Test.YtdfgphfijfocoaaGreatDoorAxH
import Derived.Test.YtdfgphfijfocoaaGreatDoorRbS
namespace Go.Proofs.Ax
open Go Go.Proofs
set_option maxRecDepth 10000
set_option maxHeartbeats 4000000
theorem post_eqb (x y : Posting) : (decide (x.night = y.night) && (decide (x.no = y.no) && (decide (x.src = y.src) && (decide (x.dst = y.dst) && decide (x.amount = y.amount))))) = decide (x = y) := by
  cases x; cases y; simp
theorem samePostings_ok (t u : Bool) (a b : List Posting) (hmax : a.length ≤ 9223372036854775807) (hmax' : b.length ≤ 9223372036854775807) : Pu Tryz.prog G1 41 [postings t a, postings u b] (vb (decide (a = b))) := by
  refine Pu.of_ev (T := Tryz.tab) (n := 26) (tryd_ok _) Tryz.func41 rfl rfl rfl (by first | rfl | (split <;> rfl)) (by simp) ?_
  ((conv => whnf); repeat' ((first | refine vv12 (fun hbr => ?_) (fun hbr => ?_) | refine vv23 ?_) <;> (conv => whnf)))
  all_goals first
    | (refine DoneN.pure (vb_ff ?_); intro he; subst he; omega)
    | skip
  refine LoopN.of (tryd_ok _) (fun k : Nat => [(0, postings t a), (1, postings u b), (5, vi k)]) (fun _ => []) (fun k => a.length - k) (fun k => k ≤ a.length ∧ a.length = b.length ∧ ∀ j, (h : j < a.length) → (h' : j < b.length) → j < k → a[j] = b[j]) 0 ⟨Nat.zero_le _, by omega, fun j h h' hj => by omega⟩ (Reabs.frm0 rfl (by repeat (first | exact trivial | refine ⟨.inr ⟨rfl, rfl⟩, ?_⟩))) ?_
  rintro k ⟨hk, hab, hall⟩
  ((conv => whnf); repeat' ((first | refine vv11 (fun hbr => ?_) (fun hbr => ?_) | refine vv17 (fun hbr => ?_) (fun hbr => ?_) | refine vv20 ?_ | refine SlIdxN.map _ rfl (by first | assumption | omega) ?_ | refine vv23 ?_ | refine vv25 ?_ | refine DrawN.gen (by first | exact tryd_ok _ | exact tryd_okm _ _) (by kernel_rfl) ?_) <;> (conv => whnf)))
  · rw [post_eqb] at hbr
    have hbr := of_decide_eq_true hbr
    refine BackN.mk (k + 1) ⟨by omega, hab, fun j h h' hj => ?_⟩ (by omega) (Reabs.frm0 rfl (by repeat (first | exact trivial | refine ⟨.inr ⟨rfl, rfl⟩, ?_⟩)))
    by_cases hq : j = k
    · subst hq; assumption
    · exact hall j h h' (by omega)
  · rw [post_eqb] at hbr
    have hbr := of_decide_eq_false hbr
    refine DoneN.pure (vb_ff ?_); intro he; subst he; exact absurd rfl hbr
  · refine DoneN.pure (vb_tt ?_)
    refine List.ext_getElem hab fun j h h' => hall j h h' (by omega)
end Go.Proofs.Ax
