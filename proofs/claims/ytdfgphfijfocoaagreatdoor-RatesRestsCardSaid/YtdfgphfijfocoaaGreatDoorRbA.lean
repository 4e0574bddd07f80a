import Derived.Test.YtdfgphfijfocoaaGreatDoorTrydTab
import Derived.Test.YtdfgphfijfocoaaGreatDoorAxRul
import Derived.Test.YtdfgphfijfocoaaGreatDoorSaneA
namespace Go.Proofs.Ax
open Go Go.Proofs
set_option maxRecDepth 10000
abbrev vi (n : Int) : AV := .sc (.int .i64 n)
abbrev vb (b : Bool) : AV := .sc (.bool b)
theorem tryd_ok (n : Nat) : EC.Ok ⟨⟨Tryz.prog, G1, 0, none⟩, n, Tryz.tab⟩ := ⟨fun t i h => TT.get_ok Tryz.tabOk t i h, enters, mixed⟩
theorem vb_dec {p q : Prop} [Decidable p] [Decidable q] (h : p ↔ q) : vb (decide p) = vb (decide q) := by rw [decide_eq_decide.2 h]
theorem vb_tt {p : Prop} [Decidable p] (h : p) : vb true = vb (decide p) := by rw [decide_eq_true h]
theorem vb_ff {p : Prop} [Decidable p] (h : ¬ p) : vb false = vb (decide p) := by rw [decide_eq_false h]
theorem in_ok (n lo hi : Int) : Pu Tryz.prog G1 17 [vi n, vi lo, vi hi] (vb (decide (lo ≤ n ∧ n ≤ hi))) := by
  refine Pu.of_ev (T := Tryz.tab) (n := 15) (tryd_ok _) Tryz.func17 rfl rfl rfl (by first | rfl | (split <;> rfl)) (by simp) ?_
  ((conv => whnf); repeat' ((first | refine vv1 ?_ | refine vv2 ?_ | refine vv3 ?_ | refine vv4 ?_ | refine vv5 ?_ | refine vv6 ?_ | refine vv7 ?_ | refine vv8 ?_ | refine vv9 ?_ | refine vv10 ?_ | refine vv11 (fun hbr => ?_) (fun hbr => ?_) | refine vv12 (fun hbr => ?_) (fun hbr => ?_) | refine vv13 ?_ | refine vv14 ?_ | refine vv15 ?_ | refine vv16 ?_ | refine vv17 (fun hbr => ?_) (fun hbr => ?_) | refine vv18 ?_ | refine vv19 (fun hbr => ?_) (fun hbr => ?_) | refine vv20 ?_ | refine SlIdxN.map _ rfl (by first | assumption | omega) ?_ | refine SlIdxN.mapPred (by omega) (by omega) ?_ | refine SlIdxN.mapSucc (by omega) ?_ | refine SlIdxN.lit _ _ rfl rfl ?_ | refine SlIdxN.mapInt (by omega) (by omega) ?_ | refine IdxN.at0 _ rfl (by first | assumption | omega | (simp <;> omega)) ?_ | refine vv21 ?_ | refine RowN.map (by first | assumption | omega) ?_ | refine vv22 ?_ | refine RowSN.map (by first | assumption | omega) ?_ | refine vv23 ?_ | refine vv24 ?_ | refine vv25 ?_ | refine Need.mk (by first | assumption | omega | (simp <;> omega)) ?_ | refine DrawN.gen (by first | exact tryd_ok _ | exact tryd_okm _ _) (by kernel_rfl) ?_ | refine vv26 ?_ | refine vv27 ?_ | refine vv28 ?_ | refine vv29 ?_ | refine vv30 ?_ | refine vv31 ?_ | refine vv32 ?_ | refine vv33 ?_) <;> (conv => whnf)))
  all_goals refine DoneN.pure ?_
  all_goals first | rfl | exact vb_dec (by omega) | exact vb_tt (by omega) | exact vb_ff (by omega)
theorem night_ok (n : Int) : Pu Tryz.prog G1 73 [vi n] (vb (decide (0 ≤ n ∧ n ≤ 20000))) := by
  refine Pu.of_ev (T := Tryz.tab) (n := 9) (tryd_ok _) Tryz.func73 rfl rfl rfl (by first | rfl | (split <;> rfl)) (by simp) ?_
  ((conv => whnf); repeat' ((first | refine vv1 ?_ | refine vv2 ?_ | refine vv3 ?_ | refine vv4 ?_ | refine vv5 ?_ | refine vv6 ?_ | refine vv7 ?_ | refine vv8 ?_ | refine vv9 ?_ | refine vv10 ?_ | refine vv11 (fun hbr => ?_) (fun hbr => ?_) | refine vv12 (fun hbr => ?_) (fun hbr => ?_) | refine vv13 ?_ | refine vv14 ?_ | refine vv15 ?_ | refine vv16 ?_ | refine vv17 (fun hbr => ?_) (fun hbr => ?_) | refine vv18 ?_ | refine vv19 (fun hbr => ?_) (fun hbr => ?_) | refine vv20 ?_ | refine SlIdxN.map _ rfl (by first | assumption | omega) ?_ | refine SlIdxN.mapPred (by omega) (by omega) ?_ | refine SlIdxN.mapSucc (by omega) ?_ | refine SlIdxN.lit _ _ rfl rfl ?_ | refine SlIdxN.mapInt (by omega) (by omega) ?_ | refine IdxN.at0 _ rfl (by first | assumption | omega | (simp <;> omega)) ?_ | refine vv21 ?_ | refine RowN.map (by first | assumption | omega) ?_ | refine vv22 ?_ | refine RowSN.map (by first | assumption | omega) ?_ | refine vv23 ?_ | refine vv24 ?_ | refine vv25 ?_ | refine Need.mk (by first | assumption | omega | (simp <;> omega)) ?_ | refine DrawN.gen (by first | exact tryd_ok _ | exact tryd_okm _ _) (by kernel_rfl) ?_ | refine vv26 ?_ | refine vv27 ?_ | refine vv28 ?_ | refine vv29 ?_ | refine vv30 ?_ | refine vv31 ?_ | refine vv32 ?_ | refine vv33 ?_) <;> (conv => whnf)))
  all_goals refine DoneN.pure ?_
  all_goals first | rfl | exact vb_dec (by omega) | exact vb_tt (by omega) | exact vb_ff (by omega)
theorem pence_ok (n : Int) : Pu Tryz.prog G1 125 [vi n] (vb (decide (0 ≤ n ∧ n ≤ 1000000))) := by
  refine Pu.of_ev (T := Tryz.tab) (n := 9) (tryd_ok _) Tryz.func125 rfl rfl rfl (by first | rfl | (split <;> rfl)) (by simp) ?_
  ((conv => whnf); repeat' ((first | refine vv1 ?_ | refine vv2 ?_ | refine vv3 ?_ | refine vv4 ?_ | refine vv5 ?_ | refine vv6 ?_ | refine vv7 ?_ | refine vv8 ?_ | refine vv9 ?_ | refine vv10 ?_ | refine vv11 (fun hbr => ?_) (fun hbr => ?_) | refine vv12 (fun hbr => ?_) (fun hbr => ?_) | refine vv13 ?_ | refine vv14 ?_ | refine vv15 ?_ | refine vv16 ?_ | refine vv17 (fun hbr => ?_) (fun hbr => ?_) | refine vv18 ?_ | refine vv19 (fun hbr => ?_) (fun hbr => ?_) | refine vv20 ?_ | refine SlIdxN.map _ rfl (by first | assumption | omega) ?_ | refine SlIdxN.mapPred (by omega) (by omega) ?_ | refine SlIdxN.mapSucc (by omega) ?_ | refine SlIdxN.lit _ _ rfl rfl ?_ | refine SlIdxN.mapInt (by omega) (by omega) ?_ | refine IdxN.at0 _ rfl (by first | assumption | omega | (simp <;> omega)) ?_ | refine vv21 ?_ | refine RowN.map (by first | assumption | omega) ?_ | refine vv22 ?_ | refine RowSN.map (by first | assumption | omega) ?_ | refine vv23 ?_ | refine vv24 ?_ | refine vv25 ?_ | refine Need.mk (by first | assumption | omega | (simp <;> omega)) ?_ | refine DrawN.gen (by first | exact tryd_ok _ | exact tryd_okm _ _) (by kernel_rfl) ?_ | refine vv26 ?_ | refine vv27 ?_ | refine vv28 ?_ | refine vv29 ?_ | refine vv30 ?_ | refine vv31 ?_ | refine vv32 ?_ | refine vv33 ?_) <;> (conv => whnf)))
  all_goals refine DoneN.pure ?_
  all_goals first | rfl | exact vb_dec (by omega) | exact vb_tt (by omega) | exact vb_ff (by omega)
structure Policy where
  since : Int
  base : Int
  credit : Int
  charge : Int
  doubt : Int
  cap : Int
  bonus : Int
def Policy.enc (p : Policy) : List AV := [vi p.since, vi p.base, vi p.credit, vi p.charge, vi p.doubt, vi p.cap, vi p.bonus]
def Policy.ok (p : Policy) : Prop := (0 ≤ p.since ∧ p.since ≤ 20000) ∧ (0 ≤ p.base ∧ p.base ≤ 1000000) ∧ (0 ≤ p.credit ∧ p.credit ≤ 1000000) ∧ (0 ≤ p.charge ∧ p.charge ≤ 1000000) ∧ (0 ≤ p.doubt ∧ p.doubt ≤ 1000000) ∧ (0 ≤ p.cap ∧ p.cap ≤ p.base) ∧ (0 ≤ p.bonus ∧ p.bonus ≤ 1000)
instance (p : Policy) : Decidable p.ok := by unfold Policy.ok; infer_instance
theorem rpolicy_ok (p : Policy) : Pu Tryz.prog G1 102 [.agg p.enc] (vb (decide p.ok)) := by
  refine Pu.of_ev (T := Tryz.tab) (n := 40) (tryd_ok _) Tryz.func102 rfl rfl rfl (by first | rfl | (split <;> rfl)) (by simp) ?_
  ((conv => whnf); repeat' ((first | refine vv1 ?_ | refine vv2 ?_ | refine vv3 ?_ | refine vv4 ?_ | refine vv5 ?_ | refine vv6 ?_ | refine vv7 ?_ | refine vv8 ?_ | refine vv9 ?_ | refine vv10 ?_ | refine vv11 (fun hbr => ?_) (fun hbr => ?_) | refine vv12 (fun hbr => ?_) (fun hbr => ?_) | refine vv13 ?_ | refine vv14 ?_ | refine vv15 ?_ | refine vv16 ?_ | refine vv17 (fun hbr => ?_) (fun hbr => ?_) | refine vv18 ?_ | refine vv19 (fun hbr => ?_) (fun hbr => ?_) | refine vv20 ?_ | refine SlIdxN.map _ rfl (by first | assumption | omega) ?_ | refine SlIdxN.mapPred (by omega) (by omega) ?_ | refine SlIdxN.mapSucc (by omega) ?_ | refine SlIdxN.lit _ _ rfl rfl ?_ | refine SlIdxN.mapInt (by omega) (by omega) ?_ | refine IdxN.at0 _ rfl (by first | assumption | omega | (simp <;> omega)) ?_ | refine vv21 ?_ | refine RowN.map (by first | assumption | omega) ?_ | refine vv22 ?_ | refine RowSN.map (by first | assumption | omega) ?_ | refine vv23 ?_ | refine vv24 ?_ | refine vv25 ?_ | refine Need.mk (by first | assumption | omega | (simp <;> omega)) ?_ | refine DrawN.gen (by first | exact tryd_ok _ | exact tryd_okm _ _) (by kernel_rfl) ?_ | refine vv26 ?_ | refine vv27 ?_ | refine vv28 ?_ | refine vv29 ?_ | refine vv30 ?_ | refine vv31 ?_ | refine vv32 ?_ | refine vv33 ?_ | refine CallN.pure (in_ok _ _ _) ?_ | refine GCallN.pure _ (in_ok _ _ _) ?_ | refine GCallN.ef (in_ok _ _ _) ?_) <;> (conv => whnf)))
  all_goals refine DoneN.pure ?_
  all_goals unfold Policy.ok
  all_goals first | rfl | exact vb_dec (by omega) | exact vb_tt (by omega) | exact vb_ff (by omega)
def policies (t : Bool) (l : List Policy) : AV := .sl 7 t (l.map Policy.enc)
def badPol (prev : Option Policy) (p : Policy) : Option Int :=
  if p.ok then match prev with
    | some q => if p.since ≤ q.since then some 6 else none
    | none => none
  else some 1
def checkPol (l : List Policy) : Int × Int := if 20 < l.length then (2, -1) else scan badPol 0 none l
def ei (r : Int × Int) : AV := .tuple [vi r.1, vi r.2]

theorem badPol_1 {l : List Policy} {k : Nat} (h : k < l.length) (hb : ¬ (l[k]).ok) : badPol (prevOf l k) l[k] = some 1 := by unfold badPol; rw [if_neg hb]
theorem badPol_6 {l : List Policy} {k : Nat} (h : k < l.length) (hb : (l[k]).ok) (h0 : 0 < k) (hs : (l[k]).since ≤ (l[k-1]'(by omega)).since) : badPol (prevOf l k) l[k] = some 6 := by
  unfold badPol
  rw [if_pos hb, prevOf, if_neg (by omega), List.getElem?_eq_getElem (by omega)]
  exact if_pos hs
theorem badPol_no {l : List Policy} {k : Nat} (h : k < l.length) (hb : (l[k]).ok) (hs : ∀ h0 : 0 < k, ¬ (l[k]).since ≤ (l[k-1]'(by omega)).since) : badPol (prevOf l k) l[k] = none := by
  unfold badPol
  rw [if_pos hb, prevOf]
  by_cases h0 : k = 0
  · rw [if_pos h0]
  · rw [if_neg h0, List.getElem?_eq_getElem (by omega)]
    exact if_neg (hs (by omega))
theorem rcheckPol_ok (t : Bool) (l : List Policy) (hmax : l.length ≤ 9223372036854775807) : Pu Tryz.prog G1 58 [policies t l] (ei (checkPol l)) := by
  refine Pu.of_ev (T := Tryz.tab) (n := 40) (tryd_ok _) Tryz.func58 rfl rfl rfl (by first | rfl | (split <;> rfl)) (by simp) ?_
  ((conv => whnf); repeat' ((first | refine vv1 ?_ | refine vv2 ?_ | refine vv3 ?_ | refine vv4 ?_ | refine vv5 ?_ | refine vv6 ?_ | refine vv7 ?_ | refine vv8 ?_ | refine vv9 ?_ | refine vv10 ?_ | refine vv11 (fun hbr => ?_) (fun hbr => ?_) | refine vv12 (fun hbr => ?_) (fun hbr => ?_) | refine vv13 ?_ | refine vv14 ?_ | refine vv15 ?_ | refine vv16 ?_ | refine vv17 (fun hbr => ?_) (fun hbr => ?_) | refine vv18 ?_ | refine vv19 (fun hbr => ?_) (fun hbr => ?_) | refine vv20 ?_ | refine SlIdxN.map _ rfl (by first | assumption | omega) ?_ | refine SlIdxN.mapPred (by omega) (by omega) ?_ | refine SlIdxN.mapSucc (by omega) ?_ | refine SlIdxN.lit _ _ rfl rfl ?_ | refine SlIdxN.mapInt (by omega) (by omega) ?_ | refine IdxN.at0 _ rfl (by first | assumption | omega | (simp <;> omega)) ?_ | refine vv21 ?_ | refine RowN.map (by first | assumption | omega) ?_ | refine vv22 ?_ | refine RowSN.map (by first | assumption | omega) ?_ | refine vv23 ?_ | refine vv24 ?_ | refine vv25 ?_ | refine Need.mk (by first | assumption | omega | (simp <;> omega)) ?_ | refine DrawN.gen (by first | exact tryd_ok _ | exact tryd_okm _ _) (by kernel_rfl) ?_ | refine vv26 ?_ | refine vv27 ?_ | refine vv28 ?_ | refine vv29 ?_ | refine vv30 ?_ | refine vv31 ?_ | refine vv32 ?_ | refine vv33 ?_) <;> (conv => whnf)))
  case refine_1 => refine DoneN.pure ?_; rw [checkPol, if_pos (by omega)]; rfl
  refine LoopN.of (tryd_ok _) (fun k : Nat => [(0, policies t l), (4, vi k)]) (fun _ => []) (fun k => l.length - k) (fun k => k ≤ l.length ∧ checkPol l = scan badPol k (prevOf l k) (l.drop k)) 0 ⟨Nat.zero_le _, by rw [checkPol, if_neg (by omega)]; rfl⟩ (Reabs.frm0 rfl (by repeat (first | exact trivial | refine ⟨.inr ⟨rfl, rfl⟩, ?_⟩))) ?_
  rintro k ⟨hk, hscan⟩
  ((conv => whnf); repeat' ((first | refine vv1 ?_ | refine vv2 ?_ | refine vv3 ?_ | refine vv4 ?_ | refine vv5 ?_ | refine vv6 ?_ | refine vv7 ?_ | refine vv8 ?_ | refine vv9 ?_ | refine vv10 ?_ | refine vv11 (fun hbr => ?_) (fun hbr => ?_) | refine vv12 (fun hbr => ?_) (fun hbr => ?_) | refine vv13 ?_ | refine vv14 ?_ | refine vv15 ?_ | refine vv16 ?_ | refine vv17 (fun hbr => ?_) (fun hbr => ?_) | refine vv18 ?_ | refine vv19 (fun hbr => ?_) (fun hbr => ?_) | refine vv20 ?_ | refine SlIdxN.map _ rfl (by first | assumption | omega) ?_ | refine SlIdxN.mapPred (by omega) (by omega) ?_ | refine SlIdxN.mapSucc (by omega) ?_ | refine SlIdxN.lit _ _ rfl rfl ?_ | refine SlIdxN.mapInt (by omega) (by omega) ?_ | refine IdxN.at0 _ rfl (by first | assumption | omega | (simp <;> omega)) ?_ | refine vv21 ?_ | refine RowN.map (by first | assumption | omega) ?_ | refine vv22 ?_ | refine RowSN.map (by first | assumption | omega) ?_ | refine vv23 ?_ | refine vv24 ?_ | refine vv25 ?_ | refine Need.mk (by first | assumption | omega | (simp <;> omega)) ?_ | refine DrawN.gen (by first | exact tryd_ok _ | exact tryd_okm _ _) (by kernel_rfl) ?_ | refine vv26 ?_ | refine vv27 ?_ | refine vv28 ?_ | refine vv29 ?_ | refine vv30 ?_ | refine vv31 ?_ | refine vv32 ?_ | refine vv33 ?_ | refine CallN.pure (rpolicy_ok _) ?_ | refine GCallN.pure _ (rpolicy_ok _) ?_ | refine GCallN.ef (rpolicy_ok _) ?_) <;> (conv => whnf)))
  · refine DoneN.pure ?_; rw [hscan, scan_bad (by omega) (badPol_6 (by omega) (by assumption) (by omega) (by assumption))]; rfl
  · refine BackN.mk (k + 1) ⟨by omega, ?_⟩ (by omega) (Reabs.frm0 rfl (by repeat (first | exact trivial | refine ⟨.inr ⟨rfl, rfl⟩, ?_⟩)))
    rw [hscan, scan_good (by omega) (badPol_no (by omega) (by assumption) (fun _ => by assumption))]
  · refine BackN.mk (k + 1) ⟨by omega, ?_⟩ (by omega) (Reabs.frm0 rfl (by repeat (first | exact trivial | refine ⟨.inr ⟨rfl, rfl⟩, ?_⟩)))
    rw [hscan, scan_good (by omega) (badPol_no (by omega) (by assumption) (fun _ => by omega))]
  · refine DoneN.pure ?_; rw [hscan, scan_bad (by omega) (badPol_1 (by omega) (by assumption))]; rfl
  · refine DoneN.pure ?_; rw [hscan, scan_end (by omega)]; rfl
theorem checkPol_ok (t : Bool) (l : List Policy) (hmax : l.length ≤ 9223372036854775807) : Pu Tryz.prog G1 96 [policies t l] (ei (checkPol l)) := by
  refine Pu.of_ev (T := Tryz.tab) (n := 82) (tryd_ok _) Tryz.func96 rfl rfl rfl (by first | rfl | (split <;> rfl)) (by simp) ?_
  ((conv => whnf); repeat' ((first | refine vv1 ?_ | refine vv2 ?_ | refine vv3 ?_ | refine vv4 ?_ | refine vv5 ?_ | refine vv6 ?_ | refine vv7 ?_ | refine vv8 ?_ | refine vv9 ?_ | refine vv10 ?_ | refine vv11 (fun hbr => ?_) (fun hbr => ?_) | refine vv12 (fun hbr => ?_) (fun hbr => ?_) | refine vv13 ?_ | refine vv14 ?_ | refine vv15 ?_ | refine vv16 ?_ | refine vv17 (fun hbr => ?_) (fun hbr => ?_) | refine vv18 ?_ | refine vv19 (fun hbr => ?_) (fun hbr => ?_) | refine vv20 ?_ | refine SlIdxN.map _ rfl (by first | assumption | omega) ?_ | refine SlIdxN.mapPred (by omega) (by omega) ?_ | refine SlIdxN.mapSucc (by omega) ?_ | refine SlIdxN.lit _ _ rfl rfl ?_ | refine SlIdxN.mapInt (by omega) (by omega) ?_ | refine IdxN.at0 _ rfl (by first | assumption | omega | (simp <;> omega)) ?_ | refine vv21 ?_ | refine RowN.map (by first | assumption | omega) ?_ | refine vv22 ?_ | refine RowSN.map (by first | assumption | omega) ?_ | refine vv23 ?_ | refine vv24 ?_ | refine vv25 ?_ | refine Need.mk (by first | assumption | omega | (simp <;> omega)) ?_ | refine DrawN.gen (by first | exact tryd_ok _ | exact tryd_okm _ _) (by kernel_rfl) ?_ | refine vv26 ?_ | refine vv27 ?_ | refine vv28 ?_ | refine vv29 ?_ | refine vv30 ?_ | refine vv31 ?_ | refine vv32 ?_ | refine vv33 ?_) <;> (conv => whnf)))
  case refine_1 => refine DoneN.pure ?_; rw [checkPol, if_pos (by omega)]; rfl
  refine LoopN.of (tryd_ok _) (fun k : Nat => [(0, policies t l), (9, policies t l), (10, vi l.length), (11, vi k)]) (fun _ => []) (fun k => l.length - k) (fun k => k ≤ l.length ∧ checkPol l = scan badPol k (prevOf l k) (l.drop k)) 0 ⟨Nat.zero_le _, by rw [checkPol, if_neg (by omega)]; rfl⟩ (Reabs.frm0 rfl (by repeat (first | exact trivial | refine ⟨.inr ⟨rfl, rfl⟩, ?_⟩))) ?_
  rintro k ⟨hk, hscan⟩
  ((conv => whnf); repeat' ((first | refine vv1 ?_ | refine vv2 ?_ | refine vv3 ?_ | refine vv4 ?_ | refine vv5 ?_ | refine vv6 ?_ | refine vv7 ?_ | refine vv8 ?_ | refine vv9 ?_ | refine vv10 ?_ | refine vv11 (fun hbr => ?_) (fun hbr => ?_) | refine vv12 (fun hbr => ?_) (fun hbr => ?_) | refine vv13 ?_ | refine vv14 ?_ | refine vv15 ?_ | refine vv16 ?_ | refine vv17 (fun hbr => ?_) (fun hbr => ?_) | refine vv18 ?_ | refine vv19 (fun hbr => ?_) (fun hbr => ?_) | refine vv20 ?_ | refine SlIdxN.map _ rfl (by first | assumption | omega) ?_ | refine SlIdxN.mapPred (by omega) (by omega) ?_ | refine SlIdxN.mapSucc (by omega) ?_ | refine SlIdxN.lit _ _ rfl rfl ?_ | refine SlIdxN.mapInt (by omega) (by omega) ?_ | refine IdxN.at0 _ rfl (by first | assumption | omega | (simp <;> omega)) ?_ | refine vv21 ?_ | refine RowN.map (by first | assumption | omega) ?_ | refine vv22 ?_ | refine RowSN.map (by first | assumption | omega) ?_ | refine vv23 ?_ | refine vv24 ?_ | refine vv25 ?_ | refine Need.mk (by first | assumption | omega | (simp <;> omega)) ?_ | refine DrawN.gen (by first | exact tryd_ok _ | exact tryd_okm _ _) (by kernel_rfl) ?_ | refine vv26 ?_ | refine vv27 ?_ | refine vv28 ?_ | refine vv29 ?_ | refine vv30 ?_ | refine vv31 ?_ | refine vv32 ?_ | refine vv33 ?_ | refine CallN.pure (night_ok _) ?_ | refine CallN.pure (pence_ok _) ?_ | refine GCallN.pure _ (night_ok _) ?_ | refine GCallN.pure _ (pence_ok _) ?_ | refine GCallN.ef (night_ok _) ?_ | refine GCallN.ef (pence_ok _) ?_) <;> (conv => whnf)))
  all_goals first
    | (refine BackN.mk (k + 1) ⟨by omega, ?_⟩ (by omega) (Reabs.frm0 rfl (by repeat (first | exact trivial | refine ⟨.inr ⟨rfl, rfl⟩, ?_⟩))); rw [hscan, scan_good (by omega) (badPol_no (by omega) (by unfold Policy.ok; omega) (fun _ => by omega))])
    | (refine DoneN.pure ?_; rw [hscan, scan_bad (by omega) (badPol_6 (by omega) (by unfold Policy.ok; omega) (by omega) (by omega))]; rfl)
    | (refine DoneN.pure ?_; rw [hscan, scan_bad (by omega) (badPol_1 (by omega) (by unfold Policy.ok; omega))]; rfl)
    | (refine DoneN.pure ?_; rw [hscan, scan_end (by omega)]; rfl)
end Go.Proofs.Ax
