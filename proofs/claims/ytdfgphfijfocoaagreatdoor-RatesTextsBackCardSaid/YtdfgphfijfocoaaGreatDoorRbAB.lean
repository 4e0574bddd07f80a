import Derived.Test.YtdfgphfijfocoaaGreatDoorTrydTab
import Derived.Test.YtdfgphfijfocoaaGreatDoorAxRul
import Derived.Test.YtdfgphfijfocoaaGreatDoorSaneA
namespace Go.Proofs.Ax
open Go Go.Proofs
set_option maxRecDepth 10000
abbrev vi (n : Int) : AV := .sc (.int .i64 n)
abbrev vb (b : Bool) : AV := .sc (.bool b)
theorem tryd_ok (n : Nat) : EC.Ok ⟨⟨Tryz.prog, G1, 0, none⟩, n, Tryz.tab⟩ := ⟨fun t i h => TT.get_ok Tryz.tabOk t i h, enters, mixed⟩
theorem vb_dec {p q : Prop} [Decidable p] [Decidable q] (h : p ↔ q) : vb (decide p) = vb (decide q) := by rw [decide_eq_decide.2 h]
theorem vb_tt {p : Prop} [Decidable p] (h : p) : vb true = vb (decide p) := by rw [decide_eq_true h]
theorem vb_ff {p : Prop} [Decidable p] (h : ¬ p) : vb false = vb (decide p) := by rw [decide_eq_false h]
theorem in_ok (n lo hi : Int) : Pu Tryz.prog G1 17 [vi n, vi lo, vi hi] (vb (decide (lo ≤ n ∧ n ≤ hi))) := by
  refine Pu.of_ev (T := Tryz.tab) (n := 15) (tryd_ok _) Tryz.func17 rfl rfl rfl (by first | rfl | (split <;> rfl)) (by simp) ?_
  ((conv => whnf); repeat' ((first | refine vv1 ?_ | refine vv2 ?_ | refine vv3 ?_ | refine vv4 ?_ | refine vv5 ?_ | refine vv6 ?_ | refine vv7 ?_ | refine vv8 ?_ | refine vv9 ?_ | refine vv10 ?_ | refine vv11 (fun hbr => ?_) (fun hbr => ?_) | refine vv12 (fun hbr => ?_) (fun hbr => ?_) | refine vv13 ?_ | refine vv14 ?_ | refine vv15 ?_ | refine vv16 ?_ | refine vv17 (fun hbr => ?_) (fun hbr => ?_) | refine vv18 ?_ | refine vv19 (fun hbr => ?_) (fun hbr => ?_) | refine vv20 ?_ | refine SlIdxN.map _ rfl (by first | assumption | omega) ?_ | refine SlIdxN.mapPred (by omega) (by omega) ?_ | refine SlIdxN.mapSucc (by omega) ?_ | refine SlIdxN.lit _ _ rfl rfl ?_ | refine SlIdxN.mapInt (by omega) (by omega) ?_ | refine IdxN.at0 _ rfl (by first | assumption | omega | (simp <;> omega)) ?_ | refine vv21 ?_ | refine RowN.map (by first | assumption | omega) ?_ | refine vv22 ?_ | refine RowSN.map (by first | assumption | omega) ?_ | refine vv23 ?_ | refine vv24 ?_ | refine vv25 ?_ | refine Need.mk (by first | assumption | omega | (simp <;> omega)) ?_ | refine DrawN.gen (by first | exact tryd_ok _ | exact tryd_okm _ _) (by kernel_rfl) ?_ | refine vv26 ?_ | refine vv27 ?_ | refine vv28 ?_ | refine vv29 ?_ | refine vv30 ?_ | refine vv31 ?_ | refine vv32 ?_ | refine vv33 ?_) <;> (conv => whnf)))
  all_goals refine DoneN.pure ?_
  all_goals first | rfl | exact vb_dec (by omega) | exact vb_tt (by omega) | exact vb_ff (by omega)
theorem night_ok (n : Int) : Pu Tryz.prog G1 73 [vi n] (vb (decide (0 ≤ n ∧ n ≤ 20000))) := by
  refine Pu.of_ev (T := Tryz.tab) (n := 9) (tryd_ok _) Tryz.func73 rfl rfl rfl (by first | rfl | (split <;> rfl)) (by simp) ?_
  ((conv => whnf); repeat' ((first | refine vv1 ?_ | refine vv2 ?_ | refine vv3 ?_ | refine vv4 ?_ | refine vv5 ?_ | refine vv6 ?_ | refine vv7 ?_ | refine vv8 ?_ | refine vv9 ?_ | refine vv10 ?_ | refine vv11 (fun hbr => ?_) (fun hbr => ?_) | refine vv12 (fun hbr => ?_) (fun hbr => ?_) | refine vv13 ?_ | refine vv14 ?_ | refine vv15 ?_ | refine vv16 ?_ | refine vv17 (fun hbr => ?_) (fun hbr => ?_) | refine vv18 ?_ | refine vv19 (fun hbr => ?_) (fun hbr => ?_) | refine vv20 ?_ | refine SlIdxN.map _ rfl (by first | assumption | omega) ?_ | refine SlIdxN.mapPred (by omega) (by omega) ?_ | refine SlIdxN.mapSucc (by omega) ?_ | refine SlIdxN.lit _ _ rfl rfl ?_ | refine SlIdxN.mapInt (by omega) (by omega) ?_ | refine IdxN.at0 _ rfl (by first | assumption | omega | (simp <;> omega)) ?_ | refine vv21 ?_ | refine RowN.map (by first | assumption | omega) ?_ | refine vv22 ?_ | refine RowSN.map (by first | assumption | omega) ?_ | refine vv23 ?_ | refine vv24 ?_ | refine vv25 ?_ | refine Need.mk (by first | assumption | omega | (simp <;> omega)) ?_ | refine DrawN.gen (by first | exact tryd_ok _ | exact tryd_okm _ _) (by kernel_rfl) ?_ | refine vv26 ?_ | refine vv27 ?_ | refine vv28 ?_ | refine vv29 ?_ | refine vv30 ?_ | refine vv31 ?_ | refine vv32 ?_ | refine vv33 ?_) <;> (conv => whnf)))
  all_goals refine DoneN.pure ?_
  all_goals first | rfl | exact vb_dec (by omega) | exact vb_tt (by omega) | exact vb_ff (by omega)
structure Policy where
  since : Int
  base : Int
  credit : Int
  charge : Int
  doubt : Int
  cap : Int
  bonus : Int
def Policy.enc (p : Policy) : List AV := [vi p.since, vi p.base, vi p.credit, vi p.charge, vi p.doubt, vi p.cap, vi p.bonus]
def Policy.ok (p : Policy) : Prop := (0 ≤ p.since ∧ p.since ≤ 20000) ∧ (0 ≤ p.base ∧ p.base ≤ 1000000) ∧ (0 ≤ p.credit ∧ p.credit ≤ 1000000) ∧ (0 ≤ p.charge ∧ p.charge ≤ 1000000) ∧ (0 ≤ p.doubt ∧ p.doubt ≤ 1000000) ∧ (0 ≤ p.cap ∧ p.cap ≤ p.base) ∧ (0 ≤ p.bonus ∧ p.bonus ≤ 1000)
instance (p : Policy) : Decidable p.ok := by unfold Policy.ok; infer_instance
def policies (t : Bool) (l : List Policy) : AV := .sl 7 t (l.map Policy.enc)
def badPol (prev : Option Policy) (p : Policy) : Option Int :=
  if p.ok then match prev with
    | some q => if p.since ≤ q.since then some 6 else none
    | none => none
  else some 1
def checkPol (l : List Policy) : Int × Int := if 20 < l.length then (2, -1) else scan badPol 0 none l
def ei (r : Int × Int) : AV := .tuple [vi r.1, vi r.2]

end Go.Proofs.Ax
namespace Go.Proofs.Ax
open Go Go.Proofs
set_option maxRecDepth 10000
structure Round where
  night : Int
  no : Int
  kind : Int
  tight : Bool
  crew : List Int
def ints (t : Bool) (l : List Int) : AV := .sl 1 t (l.map fun n => [vi n])
def Round.enc (r : Round) : List AV := [vi r.night, vi r.no, vi r.kind, ints r.tight r.crew]
/-- Increasing, behind b. -/
def goodCrew : Int → List Int → Prop
  | _, [] => True
  | b, x :: xs => b < x ∧ x ≤ 1099511627776 ∧ goodCrew x xs
instance goodCrewDec : ∀ (b : Int) (l : List Int), Decidable (goodCrew b l)
  | _, [] => isTrue trivial
  | b, x :: xs => by
    have := goodCrewDec x xs
    unfold goodCrew
    infer_instance
def Round.ok (r : Round) : Prop := (0 ≤ r.night ∧ r.night ≤ 20000) ∧ (1 ≤ r.no ∧ r.no ≤ 12) ∧ (1 ≤ r.kind ∧ r.kind ≤ 4) ∧ (1 ≤ r.crew.length ∧ r.crew.length ≤ 4) ∧ goodCrew 0 r.crew
instance (r : Round) : Decidable r.ok := by unfold Round.ok; infer_instance
def befOf (l : List Int) (k : Nat) : Int := if k = 0 then 0 else l[k - 1]?.getD 0
def rounds (t : Bool) (l : List Round) : AV := .sl 4 t (l.map Round.enc)
def notBehind (q r : Round) : Prop := r.night < q.night ∨ (r.night = q.night ∧ r.no ≤ q.no)
instance (q r : Round) : Decidable (notBehind q r) := by unfold notBehind; infer_instance
def badRound (prev : Option Round) (r : Round) : Option Int :=
  if r.ok then match prev with
    | some q => if notBehind q r then some 6 else none
    | none => none
  else some 1
def checkRounds (l : List Round) : Int × Int := if 200 < l.length then (2, -1) else scan badRound 0 none l
end Go.Proofs.Ax
