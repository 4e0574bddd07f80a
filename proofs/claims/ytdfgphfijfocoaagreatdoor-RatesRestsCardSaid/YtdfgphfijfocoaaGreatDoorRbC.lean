import Derived.Test.YtdfgphfijfocoaaGreatDoorRbB
import Derived.Test.YtdfgphfijfocoaaGreatDoorSaneT
namespace Go.Proofs.Ax
open Go Go.Proofs
set_option maxRecDepth 10000
def pol0 : Policy := ⟨0, 0, 0, 0, 0, 0, 0⟩
/-- The policy in force, and whether there is one: what has been found so far. -/
def forceFrom (night : Int) : Policy × Bool → List Policy → Policy × Bool
  | acc, [] => acc
  | acc, p :: ps => forceFrom night (if p.since ≤ night then (p, true) else acc) ps
def forceOf (l : List Policy) (night : Int) : Policy × Bool := forceFrom night (pol0, false) l
def pb (r : Policy × Bool) : AV := .tuple [.agg r.1.enc, vb r.2]
theorem force_step {l : List Policy} {k : Nat} {night : Int} {acc : Policy × Bool} (h : k < l.length) : forceFrom night acc (l.drop k) = forceFrom night (if (l[k]).since ≤ night then (l[k], true) else acc) (l.drop (k + 1)) := by
  rw [List.drop_eq_getElem_cons h, forceFrom]
theorem force_end {l : List Policy} {k : Nat} {night : Int} {acc : Policy × Bool} (h : l.length ≤ k) : forceFrom night acc (l.drop k) = acc := by
  rw [List.drop_eq_nil_iff.2 h, forceFrom]
theorem force_ok (t : Bool) (l : List Policy) (night : Int) (hmax : l.length ≤ 9223372036854775807) : Pu Tryz.prog G1 62 [policies t l, vi night] (pb (forceOf l night)) := by
  refine Pu.of_ev (T := Tryz.tab) (n := 25) (tryd_ok _) Tryz.func62 rfl rfl rfl (by first | rfl | (split <;> rfl)) (by simp) ?_
  ((conv => whnf); repeat' ((first | refine vv22 ?_ | refine vv23 ?_) <;> (conv => whnf)))
  refine LoopN.of3 (tryd_ok _) (fun (k : Nat) (p : Policy) (b : Bool) => [(1, vi night), (4, .pm 0 0 0), (6, .pm 1 0 0), (7, vb b), (11, policies t l), (12, vi l.length), (13, vi k)]) (fun k p b => [.rows [pol0.enc] 105, .rows [p.enc] 105]) (fun k p b => l.length - k) (fun k p b => k ≤ l.length ∧ forceOf l night = forceFrom night (p, b) (l.drop k)) 0 pol0 false ⟨Nat.zero_le _, rfl⟩ (Reabs.frmN [0, 1] (by repeat (first | exact trivial | refine ⟨.inr ⟨rfl, rfl⟩, ?_⟩)) (by repeat (first | exact trivial | refine ⟨⟨_, rfl, blkDeep rfl (by first | exact deepLit rfl | exact deepMap (fun _ => rfl)), fun _ => rfl⟩, ?_⟩)) (by decide) ⟨Nat.zero_le _, fun i hi => absurd hi (Nat.not_lt_zero i)⟩) ?_
  rintro k p b ⟨hk, hf⟩
  ((conv => whnf); repeat' ((first | refine vv11 (fun hbr => ?_) (fun hbr => ?_) | refine vv20 ?_ | refine SlIdxN.map _ rfl (by first | assumption | omega) ?_ | refine vv21 ?_ | refine vv22 ?_) <;> (conv => whnf)))
  · refine BackN3.mk (k + 1) l[k] true ⟨by omega, ?_⟩ (by omega) (Reabs.frmN [0, 1] (by repeat (first | exact trivial | refine ⟨.inr ⟨rfl, rfl⟩, ?_⟩)) (by repeat (first | exact trivial | refine ⟨⟨_, rfl, blkDeep rfl (by first | exact deepLit rfl | exact deepMap (fun _ => rfl)), fun _ => rfl⟩, ?_⟩)) (by decide) ⟨Nat.zero_le _, fun i hi => absurd hi (Nat.not_lt_zero i)⟩)
    rw [hf, force_step (by omega), if_pos (by assumption)]
  · refine BackN3.mk (k + 1) p b ⟨by omega, ?_⟩ (by omega) (Reabs.frmN [0, 1] (by repeat (first | exact trivial | refine ⟨.inr ⟨rfl, rfl⟩, ?_⟩)) (by repeat (first | exact trivial | refine ⟨⟨_, rfl, blkDeep rfl (by first | exact deepLit rfl | exact deepMap (fun _ => rfl)), fun _ => rfl⟩, ?_⟩)) (by decide) ⟨Nat.zero_le _, fun i hi => absurd hi (Nat.not_lt_zero i)⟩)
    rw [hf, force_step (by omega), if_neg (by assumption)]
  · refine DoneN.pure ?_; rw [hf, force_end (by omega)]; rfl
theorem rforce_ok (t : Bool) (l : List Policy) (night : Int) (hmax : l.length ≤ 9223372036854775807) : Pu Tryz.prog G1 66 [policies t l, vi night] (pb (forceOf l night)) := by
  refine Pu.of_ev (T := Tryz.tab) (n := 28) (tryd_ok _) Tryz.func66 rfl rfl rfl (by first | rfl | (split <;> rfl)) (by simp) ?_
  (conv => whnf)
  refine LoopN.of3 (tryd_ok _) (fun (k : Nat) (p : Policy) (b : Bool) => [(0, policies t l), (1, vi night), (4, .pm 0 0 0), (6, .pm 1 0 0), (7, vb b), (8, vi k)]) (fun k p b => [.rows [pol0.enc] 105, .rows [p.enc] 105]) (fun k p b => l.length - k) (fun k p b => k ≤ l.length ∧ forceOf l night = forceFrom night (p, b) (l.drop k)) 0 pol0 false ⟨Nat.zero_le _, rfl⟩ (Reabs.frmN [0, 1] (by repeat (first | exact trivial | refine ⟨.inr ⟨rfl, rfl⟩, ?_⟩)) (by repeat (first | exact trivial | refine ⟨⟨_, rfl, blkDeep rfl (by first | exact deepLit rfl | exact deepMap (fun _ => rfl)), fun _ => rfl⟩, ?_⟩)) (by decide) ⟨Nat.zero_le _, fun i hi => absurd hi (Nat.not_lt_zero i)⟩) ?_
  rintro k p b ⟨hk, hf⟩
  ((conv => whnf); repeat' ((first | refine vv11 (fun hbr => ?_) (fun hbr => ?_) | refine vv20 ?_ | refine SlIdxN.map _ rfl (by first | assumption | omega) ?_ | refine vv21 ?_ | refine vv22 ?_ | refine vv23 ?_) <;> (conv => whnf)))
  · refine BackN3.mk (k + 1) l[k] true ⟨by omega, ?_⟩ (by omega) (Reabs.frmN [0, 1] (by repeat (first | exact trivial | refine ⟨.inr ⟨rfl, rfl⟩, ?_⟩)) (by repeat (first | exact trivial | refine ⟨⟨_, rfl, blkDeep rfl (by first | exact deepLit rfl | exact deepMap (fun _ => rfl)), fun _ => rfl⟩, ?_⟩)) (by decide) ⟨Nat.zero_le _, fun i hi => absurd hi (Nat.not_lt_zero i)⟩)
    rw [hf, force_step (by omega), if_pos (by assumption)]
  · refine BackN3.mk (k + 1) p b ⟨by omega, ?_⟩ (by omega) (Reabs.frmN [0, 1] (by repeat (first | exact trivial | refine ⟨.inr ⟨rfl, rfl⟩, ?_⟩)) (by repeat (first | exact trivial | refine ⟨⟨_, rfl, blkDeep rfl (by first | exact deepLit rfl | exact deepMap (fun _ => rfl)), fun _ => rfl⟩, ?_⟩)) (by decide) ⟨Nat.zero_le _, fun i hi => absurd hi (Nat.not_lt_zero i)⟩)
    rw [hf, force_step (by omega), if_neg (by assumption)]
  · refine DoneN.pure ?_; rw [hf, force_end (by omega)]; rfl
def inForce (l : List Policy) (night : Int) : Policy × Int :=
  if (checkPol l).1 ≠ 0 then (pol0, (checkPol l).1) else
  if ¬ (0 ≤ night ∧ night ≤ 20000) then (pol0, 1) else
  if (forceOf l night).2 = false then (pol0, 5) else ((forceOf l night).1, 0)
def pe (r : Policy × Int) : AV := .tuple [.agg r.1.enc, vi r.2]
/-- Few enough to be looked at. -/
def fewP (ps : List Policy) (l : List Round) : Prop := ps.length ≤ 25 ∧ (l.length ≤ 40 ∨ (200 < l.length ∧ l.length ≤ 210)) ∧ ∀ r ∈ l, r.crew.length ≤ 10
instance (ps : List Policy) (l : List Round) : Decidable (fewP ps l) := by unfold fewP; infer_instance
theorem few_ok (t u : Bool) (ps : List Policy) (l : List Round) (hmax : ps.length ≤ 9223372036854775807) (hmax' : l.length ≤ 9223372036854775807) : Pu Tryz.prog G1 13 [policies t ps, rounds u l] (vb (decide (fewP ps l))) := by
  refine Pu.of_ev (T := Tryz.tab) (n := 37) (tryd_ok _) Tryz.func13 rfl rfl rfl (by first | rfl | (split <;> rfl)) (by simp) ?_
  ((conv => whnf); repeat' ((first | refine vv1 ?_ | refine vv2 ?_ | refine vv3 ?_ | refine vv4 ?_ | refine vv8 ?_ | refine vv11 (fun hbr => ?_) (fun hbr => ?_) | refine vv23 ?_) <;> (conv => whnf)))
  all_goals first
    | (refine DoneN.pure (vb_ff ?_); unfold fewP; omega)
    | skip
  all_goals refine LoopN.of (tryd_ok _) (fun k : Nat => [(1, rounds u l), (5, vi k)]) (fun _ => []) (fun k => l.length - k) (fun k => k ≤ l.length ∧ ∀ j, (h : j < l.length) → j < k → l[j].crew.length ≤ 10) 0 ⟨Nat.zero_le _, fun j h hj => by omega⟩ (Reabs.frm0 rfl (by repeat (first | exact trivial | refine ⟨.inr ⟨rfl, rfl⟩, ?_⟩))) ?_
  all_goals rintro k ⟨hk, hall⟩
  all_goals ((conv => whnf); repeat' ((first | refine vv11 (fun hbr => ?_) (fun hbr => ?_) | refine vv20 ?_ | refine SlIdxN.map _ rfl (by first | assumption | omega) ?_ | refine vv23 ?_) <;> (conv => whnf)))
  all_goals first
    | (refine DoneN.pure (vb_ff ?_); intro hf; have := hf.2.2 _ (List.getElem_mem (by omega : k < l.length)); omega)
    | (refine BackN.mk (k + 1) ⟨by omega, ?_⟩ (by omega) (Reabs.frm0 rfl (by repeat (first | exact trivial | refine ⟨.inr ⟨rfl, rfl⟩, ?_⟩)))
       intro j hj hjk
       by_cases hq : j = k
       · subst hq; omega
       · exact hall j hj (by omega))
    | (refine DoneN.pure (vb_tt ?_)
       refine ⟨by omega, by omega, fun r hr => ?_⟩
       obtain ⟨j, hj, rfl⟩ := List.getElem_of_mem hr
       exact hall j hj (by omega))
theorem sane_ok : Pu Tryz.prog G1 14 [] (vb true) := ⟨⟨_, _, Tryz.func14, rfl⟩, AFnH.pure (sane.mono fun y H h => h.1) (fun x hx => by cases hx) rfl⟩
end Go.Proofs.Ax
