import Derived.Test.YtdfgphfijfocoaaGreatDoorRbA
namespace Go.Proofs.Ax
open Go Go.Proofs
set_option maxRecDepth 10000
structure Round where
  night : Int
  no : Int
  kind : Int
  tight : Bool
  crew : List Int
def ints (t : Bool) (l : List Int) : AV := .sl 1 t (l.map fun n => [vi n])
def Round.enc (r : Round) : List AV := [vi r.night, vi r.no, vi r.kind, ints r.tight r.crew]
/-- Increasing, behind b. -/
def goodCrew : Int → List Int → Prop
  | _, [] => True
  | b, x :: xs => b < x ∧ x ≤ 1099511627776 ∧ goodCrew x xs
instance goodCrewDec : ∀ (b : Int) (l : List Int), Decidable (goodCrew b l)
  | _, [] => isTrue trivial
  | b, x :: xs => by
    have := goodCrewDec x xs
    unfold goodCrew
    infer_instance
def Round.ok (r : Round) : Prop := (0 ≤ r.night ∧ r.night ≤ 20000) ∧ (1 ≤ r.no ∧ r.no ≤ 12) ∧ (1 ≤ r.kind ∧ r.kind ≤ 4) ∧ (1 ≤ r.crew.length ∧ r.crew.length ≤ 4) ∧ goodCrew 0 r.crew
instance (r : Round) : Decidable r.ok := by unfold Round.ok; infer_instance
def befOf (l : List Int) (k : Nat) : Int := if k = 0 then 0 else l[k - 1]?.getD 0
theorem befOf_succ {l : List Int} {k : Nat} (h : k < l.length) : befOf l (k + 1) = l[k] := by simp [befOf, h]
theorem befOf_pos {l : List Int} {k : Nat} (h : 0 < k) (hk : k - 1 < l.length) : befOf l k = l[k - 1] := by
  rw [befOf, if_neg (by omega), List.getElem?_eq_getElem hk]; rfl
theorem good_step {l : List Int} {k : Nat} (h : k < l.length) : goodCrew (befOf l k) (l.drop k) ↔ (befOf l k < l[k] ∧ l[k] ≤ 1099511627776 ∧ goodCrew (befOf l (k + 1)) (l.drop (k + 1))) := by
  rw [List.drop_eq_getElem_cons h, goodCrew, befOf_succ h]
theorem good_end {l : List Int} {k : Nat} (h : l.length ≤ k) (b : Int) : goodCrew b (l.drop k) := by
  rw [List.drop_eq_nil_iff.2 h]; trivial
theorem validRound_ok (r : Round) : Pu Tryz.prog G1 109 [.agg r.enc] (vb (decide r.ok)) := by
  refine Pu.of_ev (T := Tryz.tab) (n := 58) (tryd_ok _) Tryz.func109 rfl rfl rfl (by first | rfl | (split <;> rfl)) (by simp) ?_
  ((conv => whnf); repeat' ((first | refine vv1 ?_ | refine vv2 ?_ | refine vv3 ?_ | refine vv4 ?_ | refine vv5 ?_ | refine vv6 ?_ | refine vv7 ?_ | refine vv8 ?_ | refine vv9 ?_ | refine vv10 ?_ | refine vv11 (fun hbr => ?_) (fun hbr => ?_) | refine vv12 (fun hbr => ?_) (fun hbr => ?_) | refine vv13 ?_ | refine vv14 ?_ | refine vv15 ?_ | refine vv16 ?_ | refine vv17 (fun hbr => ?_) (fun hbr => ?_) | refine vv18 ?_ | refine vv19 (fun hbr => ?_) (fun hbr => ?_) | refine vv20 ?_ | refine SlIdxN.map _ rfl (by first | assumption | omega) ?_ | refine SlIdxN.mapPred (by omega) (by omega) ?_ | refine SlIdxN.mapSucc (by omega) ?_ | refine SlIdxN.lit _ _ rfl rfl ?_ | refine SlIdxN.mapInt (by omega) (by omega) ?_ | refine IdxN.at0 _ rfl (by first | assumption | omega | (simp <;> omega)) ?_ | refine vv21 ?_ | refine RowN.map (by first | assumption | omega) ?_ | refine vv22 ?_ | refine RowSN.map (by first | assumption | omega) ?_ | refine vv23 ?_ | refine vv24 ?_ | refine vv25 ?_ | refine Need.mk (by first | assumption | omega | (simp <;> omega)) ?_ | refine DrawN.gen (by first | exact tryd_ok _ | exact tryd_okm _ _) (by kernel_rfl) ?_ | refine vv26 ?_ | refine vv27 ?_ | refine vv28 ?_ | refine vv29 ?_ | refine vv30 ?_ | refine vv31 ?_ | refine vv32 ?_ | refine vv33 ?_ | refine CallN.pure (night_ok _) ?_ | refine GCallN.pure _ (night_ok _) ?_ | refine GCallN.ef (night_ok _) ?_) <;> (conv => whnf)))
  all_goals first
    | (refine DoneN.pure ?_; refine vb_ff ?_; unfold Round.ok; omega)
    | skip
  refine LoopN.of (tryd_ok _) (fun k : Nat => [(3, vi (befOf r.crew k)), (43, ints r.tight r.crew), (44, vi r.crew.length), (45, vi k)]) (fun _ => []) (fun k => r.crew.length - k) (fun k => k ≤ r.crew.length ∧ (r.ok ↔ goodCrew (befOf r.crew k) (r.crew.drop k))) 0 ⟨Nat.zero_le _, ?_⟩ (Reabs.frm0 rfl (by repeat (first | exact trivial | refine ⟨.inr ⟨rfl, rfl⟩, ?_⟩))) ?_
  · unfold Round.ok
    rw [show befOf r.crew 0 = 0 from rfl, List.drop_zero]
    constructor
    · exact fun h => h.2.2.2.2
    · exact fun h => ⟨by omega, by omega, by omega, by omega, h⟩
  rintro k ⟨hk, hgood⟩
  ((conv => whnf); repeat' ((first | refine vv1 ?_ | refine vv2 ?_ | refine vv3 ?_ | refine vv4 ?_ | refine vv5 ?_ | refine vv6 ?_ | refine vv7 ?_ | refine vv8 ?_ | refine vv9 ?_ | refine vv10 ?_ | refine vv11 (fun hbr => ?_) (fun hbr => ?_) | refine vv12 (fun hbr => ?_) (fun hbr => ?_) | refine vv13 ?_ | refine vv14 ?_ | refine vv15 ?_ | refine vv16 ?_ | refine vv17 (fun hbr => ?_) (fun hbr => ?_) | refine vv18 ?_ | refine vv19 (fun hbr => ?_) (fun hbr => ?_) | refine vv20 ?_ | refine SlIdxN.map _ rfl (by first | assumption | omega) ?_ | refine SlIdxN.mapPred (by omega) (by omega) ?_ | refine SlIdxN.mapSucc (by omega) ?_ | refine SlIdxN.lit _ _ rfl rfl ?_ | refine SlIdxN.mapInt (by omega) (by omega) ?_ | refine IdxN.at0 _ rfl (by first | assumption | omega | (simp <;> omega)) ?_ | refine vv21 ?_ | refine RowN.map (by first | assumption | omega) ?_ | refine vv22 ?_ | refine RowSN.map (by first | assumption | omega) ?_ | refine vv23 ?_ | refine vv24 ?_ | refine vv25 ?_ | refine Need.mk (by first | assumption | omega | (simp <;> omega)) ?_ | refine DrawN.gen (by first | exact tryd_ok _ | exact tryd_okm _ _) (by kernel_rfl) ?_ | refine vv26 ?_ | refine vv27 ?_ | refine vv28 ?_ | refine vv29 ?_ | refine vv30 ?_ | refine vv31 ?_ | refine vv32 ?_ | refine vv33 ?_) <;> (conv => whnf)))
  · refine DoneN.pure (vb_ff ?_); rw [hgood, good_step (by omega)]; omega
  · refine DoneN.pure (vb_ff ?_); rw [hgood, good_step (by omega)]; omega
  · refine BackN.mk (k + 1) ⟨by omega, ?_⟩ (by omega) (Reabs.frm0 rfl ⟨.inr ⟨rfl, by rw [befOf_succ (by omega)]; rfl⟩, (by repeat (first | exact trivial | refine ⟨.inr ⟨rfl, rfl⟩, ?_⟩))⟩)
    rw [hgood, good_step (by omega)]
    exact ⟨fun h => h.2.2, fun h => ⟨by omega, by omega, h⟩⟩
  · refine DoneN.pure (vb_tt ?_); rw [hgood]; exact good_end (by omega) _
theorem rround_ok (r : Round) : Pu Tryz.prog G1 72 [.agg r.enc] (vb (decide r.ok)) := by
  refine Pu.of_ev (T := Tryz.tab) (n := 59) (tryd_ok _) Tryz.func72 rfl rfl rfl (by first | rfl | (split <;> rfl)) (by simp) ?_
  ((conv => whnf); repeat' ((first | refine vv1 ?_ | refine vv2 ?_ | refine vv3 ?_ | refine vv4 ?_ | refine vv5 ?_ | refine vv6 ?_ | refine vv7 ?_ | refine vv8 ?_ | refine vv9 ?_ | refine vv10 ?_ | refine vv11 (fun hbr => ?_) (fun hbr => ?_) | refine vv12 (fun hbr => ?_) (fun hbr => ?_) | refine vv13 ?_ | refine vv14 ?_ | refine vv15 ?_ | refine vv16 ?_ | refine vv17 (fun hbr => ?_) (fun hbr => ?_) | refine vv18 ?_ | refine vv19 (fun hbr => ?_) (fun hbr => ?_) | refine vv20 ?_ | refine SlIdxN.map _ rfl (by first | assumption | omega) ?_ | refine SlIdxN.mapPred (by omega) (by omega) ?_ | refine SlIdxN.mapSucc (by omega) ?_ | refine SlIdxN.lit _ _ rfl rfl ?_ | refine SlIdxN.mapInt (by omega) (by omega) ?_ | refine IdxN.at0 _ rfl (by first | assumption | omega | (simp <;> omega)) ?_ | refine vv21 ?_ | refine RowN.map (by first | assumption | omega) ?_ | refine vv22 ?_ | refine RowSN.map (by first | assumption | omega) ?_ | refine vv23 ?_ | refine vv24 ?_ | refine vv25 ?_ | refine Need.mk (by first | assumption | omega | (simp <;> omega)) ?_ | refine DrawN.gen (by first | exact tryd_ok _ | exact tryd_okm _ _) (by kernel_rfl) ?_ | refine vv26 ?_ | refine vv27 ?_ | refine vv28 ?_ | refine vv29 ?_ | refine vv30 ?_ | refine vv31 ?_ | refine vv32 ?_ | refine vv33 ?_ | refine CallN.pure (in_ok _ _ _) ?_ | refine GCallN.pure _ (in_ok _ _ _) ?_ | refine GCallN.ef (in_ok _ _ _) ?_) <;> (conv => whnf)))
  all_goals first
    | (refine DoneN.pure ?_; refine vb_ff ?_; unfold Round.ok; omega)
    | skip
  refine LoopN.of (tryd_ok _) (fun k : Nat => [(1, .pm 0 0 0), (3, vi k)]) (fun _ => [.rows [r.enc] 87]) (fun k => r.crew.length - k) (fun k => k ≤ r.crew.length ∧ 0 ≤ befOf r.crew k ∧ (r.ok ↔ goodCrew (befOf r.crew k) (r.crew.drop k))) 0 ⟨Nat.zero_le _, by simp [befOf], ?_⟩ (Reabs.frmN [0] (by repeat (first | exact trivial | refine ⟨.inr ⟨rfl, rfl⟩, ?_⟩)) (by repeat (first | exact trivial | refine ⟨⟨_, rfl, blkDeep rfl (by first | exact deepLit rfl | exact deepMap (fun _ => rfl)), fun _ => rfl⟩, ?_⟩)) (by decide) ⟨Nat.zero_le _, fun i hi => absurd hi (Nat.not_lt_zero i)⟩) ?_
  · unfold Round.ok
    rw [show befOf r.crew 0 = 0 from rfl, List.drop_zero]
    constructor
    · exact fun h => h.2.2.2.2
    · exact fun h => ⟨by omega, by omega, by omega, by omega, h⟩
  rintro k ⟨hk, hb0, hgood⟩
  ((conv => whnf); repeat' ((first | refine vv1 ?_ | refine vv2 ?_ | refine vv3 ?_ | refine vv4 ?_ | refine vv5 ?_ | refine vv6 ?_ | refine vv7 ?_ | refine vv8 ?_ | refine vv9 ?_ | refine vv10 ?_ | refine vv11 (fun hbr => ?_) (fun hbr => ?_) | refine vv12 (fun hbr => ?_) (fun hbr => ?_) | refine vv13 ?_ | refine vv14 ?_ | refine vv15 ?_ | refine vv16 ?_ | refine vv17 (fun hbr => ?_) (fun hbr => ?_) | refine vv18 ?_ | refine vv19 (fun hbr => ?_) (fun hbr => ?_) | refine vv20 ?_ | refine SlIdxN.map _ rfl (by first | assumption | omega) ?_ | refine SlIdxN.mapPred (by omega) (by omega) ?_ | refine SlIdxN.mapSucc (by omega) ?_ | refine SlIdxN.lit _ _ rfl rfl ?_ | refine SlIdxN.mapInt (by omega) (by omega) ?_ | refine IdxN.at0 _ rfl (by first | assumption | omega | (simp <;> omega)) ?_ | refine vv21 ?_ | refine RowN.map (by first | assumption | omega) ?_ | refine vv22 ?_ | refine RowSN.map (by first | assumption | omega) ?_ | refine vv23 ?_ | refine vv24 ?_ | refine vv25 ?_ | refine Need.mk (by first | assumption | omega | (simp <;> omega)) ?_ | refine DrawN.gen (by first | exact tryd_ok _ | exact tryd_okm _ _) (by kernel_rfl) ?_ | refine vv26 ?_ | refine vv27 ?_ | refine vv28 ?_ | refine vv29 ?_ | refine vv30 ?_ | refine vv31 ?_ | refine vv32 ?_ | refine vv33 ?_ | refine CallN.pure (in_ok _ _ _) ?_ | refine GCallN.pure _ (in_ok _ _ _) ?_ | refine GCallN.ef (in_ok _ _ _) ?_) <;> (conv => whnf)))
  · refine DoneN.pure (vb_ff ?_); rw [hgood, good_step (by omega), befOf_pos (by omega) (by omega)]; omega
  · refine BackN.mk (k + 1) ⟨by omega, by rw [befOf_succ (by omega)]; omega, ?_⟩ (by omega) (Reabs.frmN [0] (by repeat (first | exact trivial | refine ⟨.inr ⟨rfl, rfl⟩, ?_⟩)) (by repeat (first | exact trivial | refine ⟨⟨_, rfl, blkDeep rfl (by first | exact deepLit rfl | exact deepMap (fun _ => rfl)), fun _ => rfl⟩, ?_⟩)) (by decide) ⟨Nat.zero_le _, fun i hi => absurd hi (Nat.not_lt_zero i)⟩)
    rw [hgood, good_step (by omega), befOf_pos (by omega) (by omega)]
    exact ⟨fun h => h.2.2, fun h => ⟨by omega, by omega, h⟩⟩
  · refine BackN.mk (k + 1) ⟨by omega, by rw [befOf_succ (by omega)]; omega, ?_⟩ (by omega) (Reabs.frmN [0] (by repeat (first | exact trivial | refine ⟨.inr ⟨rfl, rfl⟩, ?_⟩)) (by repeat (first | exact trivial | refine ⟨⟨_, rfl, blkDeep rfl (by first | exact deepLit rfl | exact deepMap (fun _ => rfl)), fun _ => rfl⟩, ?_⟩)) (by decide) ⟨Nat.zero_le _, fun i hi => absurd hi (Nat.not_lt_zero i)⟩)
    have hk0 : k = 0 := by omega
    subst hk0
    rw [hgood, good_step (by omega)]
    rw [show befOf r.crew 0 = 0 from rfl]
    exact ⟨fun h => h.2.2, fun h => ⟨by omega, by omega, h⟩⟩
  · refine DoneN.pure (vb_ff ?_); rw [hgood, good_step (by omega)]; omega
  · refine DoneN.pure (vb_tt ?_); rw [hgood]; exact good_end (by omega) _
def rounds (t : Bool) (l : List Round) : AV := .sl 4 t (l.map Round.enc)
def notBehind (q r : Round) : Prop := r.night < q.night ∨ (r.night = q.night ∧ r.no ≤ q.no)
instance (q r : Round) : Decidable (notBehind q r) := by unfold notBehind; infer_instance
def badRound (prev : Option Round) (r : Round) : Option Int :=
  if r.ok then match prev with
    | some q => if notBehind q r then some 6 else none
    | none => none
  else some 1
def checkRounds (l : List Round) : Int × Int := if 200 < l.length then (2, -1) else scan badRound 0 none l
theorem badRound_1 {l : List Round} {k : Nat} (h : k < l.length) (hb : ¬ (l[k]).ok) : badRound (prevOf l k) l[k] = some 1 := by unfold badRound; rw [if_neg hb]
theorem badRound_6 {l : List Round} {k : Nat} (h : k < l.length) (hb : (l[k]).ok) (h0 : 0 < k) (hs : (l[k]).night < (l[k-1]'(by omega)).night ∨ ((l[k]).night = (l[k-1]'(by omega)).night ∧ (l[k]).no ≤ (l[k-1]'(by omega)).no)) : badRound (prevOf l k) l[k] = some 6 := by
  unfold badRound
  rw [if_pos hb, prevOf, if_neg (by omega), List.getElem?_eq_getElem (by omega)]
  exact if_pos hs
theorem badRound_no {l : List Round} {k : Nat} (h : k < l.length) (hb : (l[k]).ok) (hs : ∀ h0 : 0 < k, ¬ ((l[k]).night < (l[k-1]'(by omega)).night ∨ ((l[k]).night = (l[k-1]'(by omega)).night ∧ (l[k]).no ≤ (l[k-1]'(by omega)).no))) : badRound (prevOf l k) l[k] = none := by
  unfold badRound
  rw [if_pos hb, prevOf]
  by_cases h0 : k = 0
  · rw [if_pos h0]
  · rw [if_neg h0, List.getElem?_eq_getElem (by omega)]
    exact if_neg (hs (by omega))
theorem rcheckRounds_ok (t : Bool) (l : List Round) (hmax : l.length ≤ 9223372036854775807) : Pu Tryz.prog G1 23 [rounds t l] (ei (checkRounds l)) := by
  refine Pu.of_ev (T := Tryz.tab) (n := 68) (tryd_ok _) Tryz.func23 rfl rfl rfl (by first | rfl | (split <;> rfl)) (by simp) ?_
  ((conv => whnf); repeat' ((first | refine vv1 ?_ | refine vv2 ?_ | refine vv3 ?_ | refine vv4 ?_ | refine vv5 ?_ | refine vv6 ?_ | refine vv7 ?_ | refine vv8 ?_ | refine vv9 ?_ | refine vv10 ?_ | refine vv11 (fun hbr => ?_) (fun hbr => ?_) | refine vv12 (fun hbr => ?_) (fun hbr => ?_) | refine vv13 ?_ | refine vv14 ?_ | refine vv15 ?_ | refine vv16 ?_ | refine vv17 (fun hbr => ?_) (fun hbr => ?_) | refine vv18 ?_ | refine vv19 (fun hbr => ?_) (fun hbr => ?_) | refine vv20 ?_ | refine SlIdxN.map _ rfl (by first | assumption | omega) ?_ | refine SlIdxN.mapPred (by omega) (by omega) ?_ | refine SlIdxN.mapSucc (by omega) ?_ | refine SlIdxN.lit _ _ rfl rfl ?_ | refine SlIdxN.mapInt (by omega) (by omega) ?_ | refine IdxN.at0 _ rfl (by first | assumption | omega | (simp <;> omega)) ?_ | refine vv21 ?_ | refine RowN.map (by first | assumption | omega) ?_ | refine vv22 ?_ | refine RowSN.map (by first | assumption | omega) ?_ | refine vv23 ?_ | refine vv24 ?_ | refine vv25 ?_ | refine Need.mk (by first | assumption | omega | (simp <;> omega)) ?_ | refine DrawN.gen (by first | exact tryd_ok _ | exact tryd_okm _ _) (by kernel_rfl) ?_ | refine vv26 ?_ | refine vv27 ?_ | refine vv28 ?_ | refine vv29 ?_ | refine vv30 ?_ | refine vv31 ?_ | refine vv32 ?_ | refine vv33 ?_) <;> (conv => whnf)))
  case refine_1 => refine DoneN.pure ?_; rw [checkRounds, if_pos (by omega)]; rfl
  refine LoopN.of (tryd_ok _) (fun k : Nat => [(0, rounds t l), (4, vi k)]) (fun _ => []) (fun k => l.length - k) (fun k => k ≤ l.length ∧ checkRounds l = scan badRound k (prevOf l k) (l.drop k)) 0 ⟨Nat.zero_le _, by rw [checkRounds, if_neg (by omega)]; rfl⟩ (Reabs.frm0 rfl (by repeat (first | exact trivial | refine ⟨.inr ⟨rfl, rfl⟩, ?_⟩))) ?_
  rintro k ⟨hk, hscan⟩
  ((conv => whnf); repeat' ((first | refine vv1 ?_ | refine vv2 ?_ | refine vv3 ?_ | refine vv4 ?_ | refine vv5 ?_ | refine vv6 ?_ | refine vv7 ?_ | refine vv8 ?_ | refine vv9 ?_ | refine vv10 ?_ | refine vv11 (fun hbr => ?_) (fun hbr => ?_) | refine vv12 (fun hbr => ?_) (fun hbr => ?_) | refine vv13 ?_ | refine vv14 ?_ | refine vv15 ?_ | refine vv16 ?_ | refine vv17 (fun hbr => ?_) (fun hbr => ?_) | refine vv18 ?_ | refine vv19 (fun hbr => ?_) (fun hbr => ?_) | refine vv20 ?_ | refine SlIdxN.map _ rfl (by first | assumption | omega) ?_ | refine SlIdxN.mapPred (by omega) (by omega) ?_ | refine SlIdxN.mapSucc (by omega) ?_ | refine SlIdxN.lit _ _ rfl rfl ?_ | refine SlIdxN.mapInt (by omega) (by omega) ?_ | refine IdxN.at0 _ rfl (by first | assumption | omega | (simp <;> omega)) ?_ | refine vv21 ?_ | refine RowN.map (by first | assumption | omega) ?_ | refine vv22 ?_ | refine RowSN.map (by first | assumption | omega) ?_ | refine vv23 ?_ | refine vv24 ?_ | refine vv25 ?_ | refine Need.mk (by first | assumption | omega | (simp <;> omega)) ?_ | refine DrawN.gen (by first | exact tryd_ok _ | exact tryd_okm _ _) (by kernel_rfl) ?_ | refine vv26 ?_ | refine vv27 ?_ | refine vv28 ?_ | refine vv29 ?_ | refine vv30 ?_ | refine vv31 ?_ | refine vv32 ?_ | refine vv33 ?_ | refine CallN.pure (rround_ok _) ?_ | refine GCallN.pure _ (rround_ok _) ?_ | refine GCallN.ef (rround_ok _) ?_) <;> (conv => whnf)))
  all_goals first
    | (refine BackN.mk (k + 1) ⟨by omega, ?_⟩ (by omega) (Reabs.frm0 rfl (by repeat (first | exact trivial | refine ⟨.inr ⟨rfl, rfl⟩, ?_⟩))); rw [hscan, scan_good (by omega) (badRound_no (by omega) (by assumption) (fun _ => by omega))])
    | (refine DoneN.pure ?_; rw [hscan, scan_bad (by omega) (badRound_6 (by omega) (by assumption) (by omega) (by omega))]; rfl)
    | (refine DoneN.pure ?_; rw [hscan, scan_bad (by omega) (badRound_1 (by omega) (by assumption))]; rfl)
    | (refine DoneN.pure ?_; rw [hscan, scan_end (by omega)]; rfl)
theorem checkRounds_ok (t : Bool) (l : List Round) (hmax : l.length ≤ 9223372036854775807) : Pu Tryz.prog G1 70 [rounds t l] (ei (checkRounds l)) := by
  refine Pu.of_ev (T := Tryz.tab) (n := 57) (tryd_ok _) Tryz.func70 rfl rfl rfl (by first | rfl | (split <;> rfl)) (by simp) ?_
  ((conv => whnf); repeat' ((first | refine vv1 ?_ | refine vv2 ?_ | refine vv3 ?_ | refine vv4 ?_ | refine vv5 ?_ | refine vv6 ?_ | refine vv7 ?_ | refine vv8 ?_ | refine vv9 ?_ | refine vv10 ?_ | refine vv11 (fun hbr => ?_) (fun hbr => ?_) | refine vv12 (fun hbr => ?_) (fun hbr => ?_) | refine vv13 ?_ | refine vv14 ?_ | refine vv15 ?_ | refine vv16 ?_ | refine vv17 (fun hbr => ?_) (fun hbr => ?_) | refine vv18 ?_ | refine vv19 (fun hbr => ?_) (fun hbr => ?_) | refine vv20 ?_ | refine SlIdxN.map _ rfl (by first | assumption | omega) ?_ | refine SlIdxN.mapPred (by omega) (by omega) ?_ | refine SlIdxN.mapSucc (by omega) ?_ | refine SlIdxN.lit _ _ rfl rfl ?_ | refine SlIdxN.mapInt (by omega) (by omega) ?_ | refine IdxN.at0 _ rfl (by first | assumption | omega | (simp <;> omega)) ?_ | refine vv21 ?_ | refine RowN.map (by first | assumption | omega) ?_ | refine vv22 ?_ | refine RowSN.map (by first | assumption | omega) ?_ | refine vv23 ?_ | refine vv24 ?_ | refine vv25 ?_ | refine Need.mk (by first | assumption | omega | (simp <;> omega)) ?_ | refine DrawN.gen (by first | exact tryd_ok _ | exact tryd_okm _ _) (by kernel_rfl) ?_ | refine vv26 ?_ | refine vv27 ?_ | refine vv28 ?_ | refine vv29 ?_ | refine vv30 ?_ | refine vv31 ?_ | refine vv32 ?_ | refine vv33 ?_) <;> (conv => whnf)))
  case refine_1 => refine DoneN.pure ?_; rw [checkRounds, if_pos (by omega)]; rfl
  refine LoopN.of (tryd_ok _) (fun k : Nat => [(0, rounds t l), (9, rounds t l), (10, vi l.length), (11, vi k)]) (fun _ => []) (fun k => l.length - k) (fun k => k ≤ l.length ∧ checkRounds l = scan badRound k (prevOf l k) (l.drop k)) 0 ⟨Nat.zero_le _, by rw [checkRounds, if_neg (by omega)]; rfl⟩ (Reabs.frm0 rfl (by repeat (first | exact trivial | refine ⟨.inr ⟨rfl, rfl⟩, ?_⟩))) ?_
  rintro k ⟨hk, hscan⟩
  ((conv => whnf); repeat' ((first | refine vv1 ?_ | refine vv2 ?_ | refine vv3 ?_ | refine vv4 ?_ | refine vv5 ?_ | refine vv6 ?_ | refine vv7 ?_ | refine vv8 ?_ | refine vv9 ?_ | refine vv10 ?_ | refine vv11 (fun hbr => ?_) (fun hbr => ?_) | refine vv12 (fun hbr => ?_) (fun hbr => ?_) | refine vv13 ?_ | refine vv14 ?_ | refine vv15 ?_ | refine vv16 ?_ | refine vv17 (fun hbr => ?_) (fun hbr => ?_) | refine vv18 ?_ | refine vv19 (fun hbr => ?_) (fun hbr => ?_) | refine vv20 ?_ | refine SlIdxN.map _ rfl (by first | assumption | omega) ?_ | refine SlIdxN.mapPred (by omega) (by omega) ?_ | refine SlIdxN.mapSucc (by omega) ?_ | refine SlIdxN.lit _ _ rfl rfl ?_ | refine SlIdxN.mapInt (by omega) (by omega) ?_ | refine IdxN.at0 _ rfl (by first | assumption | omega | (simp <;> omega)) ?_ | refine vv21 ?_ | refine RowN.map (by first | assumption | omega) ?_ | refine vv22 ?_ | refine RowSN.map (by first | assumption | omega) ?_ | refine vv23 ?_ | refine vv24 ?_ | refine vv25 ?_ | refine Need.mk (by first | assumption | omega | (simp <;> omega)) ?_ | refine DrawN.gen (by first | exact tryd_ok _ | exact tryd_okm _ _) (by kernel_rfl) ?_ | refine vv26 ?_ | refine vv27 ?_ | refine vv28 ?_ | refine vv29 ?_ | refine vv30 ?_ | refine vv31 ?_ | refine vv32 ?_ | refine vv33 ?_ | refine CallN.pure (validRound_ok _) ?_ | refine GCallN.pure _ (validRound_ok _) ?_ | refine GCallN.ef (validRound_ok _) ?_) <;> (conv => whnf)))
  all_goals first
    | (refine BackN.mk (k + 1) ⟨by omega, ?_⟩ (by omega) (Reabs.frm0 rfl (by repeat (first | exact trivial | refine ⟨.inr ⟨rfl, rfl⟩, ?_⟩))); rw [hscan, scan_good (by omega) (badRound_no (by omega) (by assumption) (fun _ => by omega))])
    | (refine DoneN.pure ?_; rw [hscan, scan_bad (by omega) (badRound_6 (by omega) (by assumption) (by omega) (by omega))]; rfl)
    | (refine DoneN.pure ?_; rw [hscan, scan_bad (by omega) (badRound_1 (by omega) (by assumption))]; rfl)
    | (refine DoneN.pure ?_; rw [hscan, scan_end (by omega)]; rfl)
end Go.Proofs.Ax
