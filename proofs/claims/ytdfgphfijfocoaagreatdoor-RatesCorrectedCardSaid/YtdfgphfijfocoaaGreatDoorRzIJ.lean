import Derived.Test.YtdfgphfijfocoaaGreatDoorRzA
import Derived.Test.YtdfgphfijfocoaaGreatDoorRzF
import Derived.Test.YtdfgphfijfocoaaGreatDoorRbD
namespace Go.Proofs.Ax
open Go Go.Proofs
/-! Payments that make all balances zero. -/
def posI (b : List Chg) : Nat := b.findIdx fun c => decide (0 < c.2)
def negI (b : List Chg) : Nat := b.findIdx fun c => decide (c.2 < 0)
def payN (x y : Int) : Int := min x (0 - y)
/-- One payment: the creditor h, the debtor o. -/
def payB (b : List Chg) (h o : Nat) (x y : Chg) : List Chg := (b.set h (x.1, x.2 - payN x.2 y.2)).set o (y.1, y.2 + payN x.2 y.2)
def payP (x y : Chg) : Posting := ⟨0, 0, x.1, y.1, payN x.2 y.2⟩
def settleF : Nat → List Chg → List Posting → Int × List Posting
  | 0, _, out => (0, out)
  | f + 1, b, out => match b[posI b]?, b[negI b]? with
    | some x, some y => if 1099511627776 < payN x.2 y.2 then (2, []) else settleF f (payB b (posI b) (negI b) x y) (out ++ [payP x y])
    | _, _ => (0, out)
def nz (b : List Chg) : Nat := b.countP fun c => decide (c.2 ≠ 0)
def settleOf (l : List Posting) : Int × List Posting := settleF (nz (balsOf l) + 1) (balsOf l) []
end Go.Proofs.Ax
namespace Go.Proofs.Ax
open Go Go.Proofs
set_option maxRecDepth 10000
set_option maxHeartbeats 4000000
/-! The first element of a kind. -/
def idxInt (b : List Chg) (k : Nat) : Int := if k < b.length then (k : Int) else -1
theorem nil1_ok (c : Chg) : Pu Tryz.prog G1 85 [.agg (chE c)] (vb (decide (c.2 = 0))) := by
  refine Pu.of_ev (T := Tryz.tab) (n := 6) (tryd_ok _) Tryz.func85 rfl rfl rfl (by first | rfl | (split <;> rfl)) (by simp) ?_
  ((conv => whnf); repeat' ((first | refine vv1 ?_ | refine vv2 ?_ | refine vv3 ?_ | refine vv4 ?_ | refine vv5 ?_ | refine vv6 ?_ | refine vv7 ?_ | refine vv8 ?_ | refine vv9 ?_ | refine vv10 ?_ | refine vv11 (fun hbr => ?_) (fun hbr => ?_) | refine vv12 (fun hbr => ?_) (fun hbr => ?_) | refine vv13 ?_ | refine vv14 ?_ | refine vv15 ?_ | refine vv16 ?_ | refine vv17 (fun hbr => ?_) (fun hbr => ?_) | refine vv18 ?_ | refine vv19 (fun hbr => ?_) (fun hbr => ?_) | refine vv20 ?_ | refine SlIdxN.map _ rfl (by first | assumption | omega) ?_ | refine SlIdxN.mapPred (by omega) (by omega) ?_ | refine SlIdxN.mapSucc (by omega) ?_ | refine SlIdxN.lit _ _ rfl rfl ?_ | refine SlIdxN.mapInt (by omega) (by omega) ?_ | refine IdxN.at0 _ rfl (by first | assumption | omega | (simp <;> omega)) ?_ | refine vv21 ?_ | refine RowN.map (by first | assumption | omega) ?_ | refine vv22 ?_ | refine RowSN.map (by first | assumption | omega) ?_ | refine vv23 ?_ | refine vv24 ?_ | refine vv25 ?_ | refine Need.mk (by first | assumption | omega | (simp <;> omega)) ?_ | refine DrawN.gen (by first | exact tryd_ok _ | exact tryd_okm _ _) (by kernel_rfl) ?_ | refine vv26 ?_ | refine vv27 ?_ | refine vv28 ?_ | refine vv29 ?_ | refine vv30 ?_ | refine vv31 ?_ | refine vv32 ?_ | refine vv33 ?_) <;> (conv => whnf)))
  exact DoneN.pure rfl
theorem idxFunc_ef (F : FuncId) (p : Chg → Bool) (hF : ∀ c, Pu Tryz.prog G1 F [.agg (chE c)] (vb (p c))) (b : List Chg) (hmax : b.length ≤ 1000000) :
    Ef Tryz.prog G1 78 [.sm 0 2 0 b.length, .sc (.func (.func F) #[] #[])] [.rows (b.map chE) 74] fun y H' => y = vi (idxInt b (b.findIdx p)) ∧ H' = [.rows (b.map chE) 74] := by
  refine Ef.reabs (Ef.of_ev (T := Tryz.tab) (n := 19) (tryd_okg 1 _) rfl Tryz.func78 rfl rfl (by simp) ?_)
  ((conv => whnf); repeat' ((first | refine vv1 ?_ | refine vv2 ?_ | refine vv3 ?_ | refine vv4 ?_ | refine vv5 ?_ | refine vv6 ?_ | refine vv7 ?_ | refine vv8 ?_ | refine vv9 ?_ | refine vv10 ?_ | refine vv11 (fun hbr => ?_) (fun hbr => ?_) | refine vv12 (fun hbr => ?_) (fun hbr => ?_) | refine vv13 ?_ | refine vv14 ?_ | refine vv15 ?_ | refine vv16 ?_ | refine vv17 (fun hbr => ?_) (fun hbr => ?_) | refine vv18 ?_ | refine vv19 (fun hbr => ?_) (fun hbr => ?_) | refine vv20 ?_ | refine SlIdxN.map _ rfl (by first | assumption | omega) ?_ | refine SlIdxN.mapPred (by omega) (by omega) ?_ | refine SlIdxN.mapSucc (by omega) ?_ | refine SlIdxN.lit _ _ rfl rfl ?_ | refine SlIdxN.mapInt (by omega) (by omega) ?_ | refine IdxN.at0 _ rfl (by first | assumption | omega | (simp <;> omega)) ?_ | refine vv21 ?_ | refine RowN.map (by first | assumption | omega) ?_ | refine vv22 ?_ | refine RowSN.map (by first | assumption | omega) ?_ | refine vv23 ?_ | refine vv24 ?_ | refine vv25 ?_ | refine Need.mk (by first | assumption | omega | (simp <;> omega)) ?_ | refine DrawN.gen (by first | exact tryd_ok _ | exact tryd_okm _ _) (by kernel_rfl) ?_ | refine vv26 ?_ | refine vv27 ?_ | refine vv28 ?_ | refine vv29 ?_ | refine vv30 ?_ | refine vv31 ?_ | refine vv32 ?_ | refine vv33 ?_) <;> (conv => whnf)))
  refine LoopN.of (tryd_okg 1 _) (fun k : Nat => [(0, .sm 0 2 0 b.length), (1, .sc (.func (.func F) #[] #[])), (7, vi b.length), (8, vi k)]) (fun _ => [.rows (b.map chE) 74]) (fun k => b.length - k) (fun k => k ≤ b.length ∧ ∀ i (h : i < b.length), i < k → p b[i] = false) 0 ⟨Nat.zero_le _, fun i h hi => by omega⟩ (Reabs.frmM [0] (by repeat (first | exact trivial | refine ⟨.inr ⟨rfl, rfl⟩, ?_⟩ | refine ⟨.inr ⟨rfl, vi_eq (by first | omega | (simp; done) | (simp; omega))⟩, ?_⟩ | refine ⟨.inr ⟨rfl, smE rfl (by first | omega | (simp; done) | (simp; omega))⟩, ?_⟩)) (by repeat (first | exact trivial | refine ⟨⟨_, rfl, (by first | exact blkDead | exact blkDeep rfl (deepLit rfl) | exact blkDeep rfl (deepMap (fun _ => rfl)) | exact blkOk rfl rfl | exact blkLoop rfl rfl), (by first | exact fun _ => rfl | exact fun h => (by cases h))⟩, ?_⟩)) rfl rfl) ?_
  rintro k ⟨hk, hall⟩
  by_cases hlt : k < b.length
  · have hf := hF b[k]
    cases hp : p b[k] with
    | true =>
      rw [hp] at hf
      have e : b.findIdx p = k := (List.findIdx_eq hlt).2 ⟨hp, fun j hj => hall j (by omega) hj⟩
      ((conv => whnf); repeat' ((first | refine vv1 ?_ | refine vv2 ?_ | refine vv3 ?_ | refine vv4 ?_ | refine vv5 ?_ | refine vv6 ?_ | refine vv7 ?_ | refine vv8 ?_ | refine vv9 ?_ | refine vv10 ?_ | refine vv11 (fun hbr => ?_) (fun hbr => ?_) | refine vv12 (fun hbr => ?_) (fun hbr => ?_) | refine vv13 ?_ | refine vv14 ?_ | refine vv15 ?_ | refine vv16 ?_ | refine vv17 (fun hbr => ?_) (fun hbr => ?_) | refine vv18 ?_ | refine vv19 (fun hbr => ?_) (fun hbr => ?_) | refine vv20 ?_ | refine SlIdxN.map _ rfl (by first | assumption | omega) ?_ | refine SlIdxN.mapPred (by omega) (by omega) ?_ | refine SlIdxN.mapSucc (by omega) ?_ | refine SlIdxN.lit _ _ rfl rfl ?_ | refine SlIdxN.mapInt (by omega) (by omega) ?_ | refine IdxN.at0 _ rfl (by first | assumption | omega | (simp <;> omega)) ?_ | refine vv21 ?_ | refine RowN.map (by first | assumption | omega) ?_ | refine vv22 ?_ | refine RowSN.map (by first | assumption | omega) ?_ | refine vv23 ?_ | refine vv24 ?_ | refine vv25 ?_ | refine Need.mk (by first | assumption | omega | (simp <;> omega)) ?_ | refine DrawN.gen (by first | exact tryd_ok _ | exact tryd_okm _ _) (by kernel_rfl) ?_ | refine vv26 ?_ | refine vv27 ?_ | refine vv28 ?_ | refine vv29 ?_ | refine vv30 ?_ | refine vv31 ?_ | refine vv32 ?_ | refine vv33 ?_ | refine CallN.pure (hf) ?_ | refine GCallN.pure _ (hf) ?_ | refine GCallN.ef (hf) ?_) <;> (conv => whnf)))
      refine ⟨⟨_, [.rows (b.map chE) 74], ?_, rfl, rfl⟩⟩
      rw [e, idxInt, if_pos hlt]
      exact Reabs.frmM [0] (by repeat (first | exact trivial | refine ⟨.inr ⟨rfl, rfl⟩, ?_⟩)) (by repeat (first | exact trivial | refine ⟨⟨_, rfl, (by first | exact blkDead | exact blkDeep rfl (deepLit rfl) | exact blkDeep rfl (deepMap (fun _ => rfl)) | exact blkOk rfl rfl | exact blkLoop rfl rfl), (by first | exact fun _ => rfl | exact fun h => (by cases h))⟩, ?_⟩)) rfl rfl
    | false =>
      rw [hp] at hf
      ((conv => whnf); repeat' ((first | refine vv1 ?_ | refine vv2 ?_ | refine vv3 ?_ | refine vv4 ?_ | refine vv5 ?_ | refine vv6 ?_ | refine vv7 ?_ | refine vv8 ?_ | refine vv9 ?_ | refine vv10 ?_ | refine vv11 (fun hbr => ?_) (fun hbr => ?_) | refine vv12 (fun hbr => ?_) (fun hbr => ?_) | refine vv13 ?_ | refine vv14 ?_ | refine vv15 ?_ | refine vv16 ?_ | refine vv17 (fun hbr => ?_) (fun hbr => ?_) | refine vv18 ?_ | refine vv19 (fun hbr => ?_) (fun hbr => ?_) | refine vv20 ?_ | refine SlIdxN.map _ rfl (by first | assumption | omega) ?_ | refine SlIdxN.mapPred (by omega) (by omega) ?_ | refine SlIdxN.mapSucc (by omega) ?_ | refine SlIdxN.lit _ _ rfl rfl ?_ | refine SlIdxN.mapInt (by omega) (by omega) ?_ | refine IdxN.at0 _ rfl (by first | assumption | omega | (simp <;> omega)) ?_ | refine vv21 ?_ | refine RowN.map (by first | assumption | omega) ?_ | refine vv22 ?_ | refine RowSN.map (by first | assumption | omega) ?_ | refine vv23 ?_ | refine vv24 ?_ | refine vv25 ?_ | refine Need.mk (by first | assumption | omega | (simp <;> omega)) ?_ | refine DrawN.gen (by first | exact tryd_ok _ | exact tryd_okm _ _) (by kernel_rfl) ?_ | refine vv26 ?_ | refine vv27 ?_ | refine vv28 ?_ | refine vv29 ?_ | refine vv30 ?_ | refine vv31 ?_ | refine vv32 ?_ | refine vv33 ?_ | refine CallN.pure (hf) ?_ | refine GCallN.pure _ (hf) ?_ | refine GCallN.ef (hf) ?_) <;> (conv => whnf)))
      refine BackN.mk (k + 1) ⟨by omega, fun i h hi => ?_⟩ (by omega) (Reabs.frmM [0] (by repeat (first | exact trivial | refine ⟨.inr ⟨rfl, rfl⟩, ?_⟩ | refine ⟨.inr ⟨rfl, vi_eq (by first | omega | (simp; done) | (simp; omega))⟩, ?_⟩ | refine ⟨.inr ⟨rfl, smE rfl (by first | omega | (simp; done) | (simp; omega))⟩, ?_⟩)) (by repeat (first | exact trivial | refine ⟨⟨_, rfl, (by first | exact blkDead | exact blkDeep rfl (deepLit rfl) | exact blkDeep rfl (deepMap (fun _ => rfl)) | exact blkOk rfl rfl | exact blkLoop rfl rfl), (by first | exact fun _ => rfl | exact fun h => (by cases h))⟩, ?_⟩)) rfl rfl)
      by_cases hq : i = k
      · subst hq; exact hp
      · exact hall i h (by omega)
  · have e : b.findIdx p = b.length := List.findIdx_eq_length.2 fun x hx => by
      obtain ⟨i, hi, rfl⟩ := List.getElem_of_mem hx
      simp [hall i hi (by omega)]
    ((conv => whnf); repeat' ((first | refine vv1 ?_ | refine vv2 ?_ | refine vv3 ?_ | refine vv4 ?_ | refine vv5 ?_ | refine vv6 ?_ | refine vv7 ?_ | refine vv8 ?_ | refine vv9 ?_ | refine vv10 ?_ | refine vv11 (fun hbr => ?_) (fun hbr => ?_) | refine vv12 (fun hbr => ?_) (fun hbr => ?_) | refine vv13 ?_ | refine vv14 ?_ | refine vv15 ?_ | refine vv16 ?_ | refine vv17 (fun hbr => ?_) (fun hbr => ?_) | refine vv18 ?_ | refine vv19 (fun hbr => ?_) (fun hbr => ?_) | refine vv20 ?_ | refine SlIdxN.map _ rfl (by first | assumption | omega) ?_ | refine SlIdxN.mapPred (by omega) (by omega) ?_ | refine SlIdxN.mapSucc (by omega) ?_ | refine SlIdxN.lit _ _ rfl rfl ?_ | refine SlIdxN.mapInt (by omega) (by omega) ?_ | refine IdxN.at0 _ rfl (by first | assumption | omega | (simp <;> omega)) ?_ | refine vv21 ?_ | refine RowN.map (by first | assumption | omega) ?_ | refine vv22 ?_ | refine RowSN.map (by first | assumption | omega) ?_ | refine vv23 ?_ | refine vv24 ?_ | refine vv25 ?_ | refine Need.mk (by first | assumption | omega | (simp <;> omega)) ?_ | refine DrawN.gen (by first | exact tryd_ok _ | exact tryd_okm _ _) (by kernel_rfl) ?_ | refine vv26 ?_ | refine vv27 ?_ | refine vv28 ?_ | refine vv29 ?_ | refine vv30 ?_ | refine vv31 ?_ | refine vv32 ?_ | refine vv33 ?_) <;> (conv => whnf)))
    refine ⟨⟨_, [.rows (b.map chE) 74], ?_, rfl, rfl⟩⟩
    rw [e, idxInt, if_neg (by omega)]
    exact Reabs.frmM [0] (by repeat (first | exact trivial | refine ⟨.inr ⟨rfl, rfl⟩, ?_⟩)) (by repeat (first | exact trivial | refine ⟨⟨_, rfl, (by first | exact blkDead | exact blkDeep rfl (deepLit rfl) | exact blkDeep rfl (deepMap (fun _ => rfl)) | exact blkOk rfl rfl | exact blkLoop rfl rfl), (by first | exact fun _ => rfl | exact fun h => (by cases h))⟩, ?_⟩)) rfl rfl
theorem idxFunc_in (F : FuncId) (p : Chg → Bool) (hF : ∀ c, Pu Tryz.prog G1 F [.agg (chE c)] (vb (p c))) (b : List Chg) (hmax : b.length ≤ 1000000) (H : AH) (i n : Nat) (hn : n = b.length) (hi : nthB H i = some (.rows (b.map chE) 74)) (v : Int) (hv : v = idxInt b (b.findIdx p)) :
    Ef Tryz.prog G1 78 [.sm i 2 0 n, .sc (.func (.func F) #[] #[])] H fun y H' => y = vi v ∧ H' = H := by
  subst hn; subst hv
  refine Ef.subD (idxFunc_ef F p hF b hmax) rfl (Nat.le_refl _) ⟨okDeep (deepR (fun _ => rfl)) _, trivial⟩ [i] (by simp) ⟨⟨_, hi, blkDeep rfl (deepMap (fun _ => rfl)), fun _ => rfl⟩, trivial⟩ rfl (fun x hx => ?_) rfl ?_
  · simp only [List.mem_cons, List.not_mem_nil, or_false] at hx
    rcases hx with rfl | rfl <;> rfl
  · show H.set i (ABlk.ren _ _) ++ [] = _
    rw [List.append_nil, ren_deepB (deepR (fun _ => rfl))]
    rw [nthB_eq] at hi
    obtain ⟨hlt, he⟩ := List.getElem?_eq_some_iff.1 hi
    rw [← he, List.set_getElem_self]
def AbsB (b : List Chg) : Prop := ∀ c ∈ b, -4400000000000000 ≤ c.2 ∧ c.2 ≤ 4400000000000000
abbrev settleRes (R : Int × List Posting) : AV := if R.1 = 2 then .tuple [.sc (.slice none 0 0), vi 2] else .tuple [postings false R.2, vi 0]
end Go.Proofs.Ax
namespace Go.Proofs.Ax
open Go Go.Proofs
set_option maxRecDepth 10000
set_option maxHeartbeats 4000000
abbrev hS (b : List Chg) (out : List Posting) : AH := [.rows [[.sc (.slice none 0 0), vi 0]] 70, .rows (b.map chE) 74, .rows (out.map Posting.enc) 61]
abbrev frS (B : List Chg) (out : List Posting) : Fr := [(2, .pm 0 0 0), (3, .sm 1 2 0 B.length), (4, .sm 2 5 0 out.length)]
end Go.Proofs.Ax
