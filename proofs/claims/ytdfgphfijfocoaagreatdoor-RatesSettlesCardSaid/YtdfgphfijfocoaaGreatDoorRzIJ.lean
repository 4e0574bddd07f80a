import Derived.Test.YtdfgphfijfocoaaGreatDoorRzA
import Derived.Test.YtdfgphfijfocoaaGreatDoorRzF
import Derived.Test.YtdfgphfijfocoaaGreatDoorRbD
namespace Go.Proofs.Ax
open Go Go.Proofs
/-! Payments that make all balances zero. -/
def posI (b : List Chg) : Nat := b.findIdx fun c => decide (0 < c.2)
def negI (b : List Chg) : Nat := b.findIdx fun c => decide (c.2 < 0)
def payN (x y : Int) : Int := min x (0 - y)
/-- One payment: the creditor h, the debtor o. -/
def payB (b : List Chg) (h o : Nat) (x y : Chg) : List Chg := (b.set h (x.1, x.2 - payN x.2 y.2)).set o (y.1, y.2 + payN x.2 y.2)
def payP (x y : Chg) : Posting := ⟨0, 0, x.1, y.1, payN x.2 y.2⟩
def settleF : Nat → List Chg → List Posting → Int × List Posting
  | 0, _, out => (0, out)
  | f + 1, b, out => match b[posI b]?, b[negI b]? with
    | some x, some y => if 1099511627776 < payN x.2 y.2 then (2, []) else settleF f (payB b (posI b) (negI b) x y) (out ++ [payP x y])
    | _, _ => (0, out)
def nz (b : List Chg) : Nat := b.countP fun c => decide (c.2 ≠ 0)
def settleOf (l : List Posting) : Int × List Posting := settleF (nz (balsOf l) + 1) (balsOf l) []
theorem posI_get {b : List Chg} {x : Chg} (h : b[posI b]? = some x) : 0 < x.2 := by
  obtain ⟨h1, rfl⟩ := List.getElem?_eq_some_iff.1 h
  have := List.findIdx_getElem (w := h1)
  exact of_decide_eq_true this
theorem negI_get {b : List Chg} {x : Chg} (h : b[negI b]? = some x) : x.2 < 0 := by
  obtain ⟨h1, rfl⟩ := List.getElem?_eq_some_iff.1 h
  have := List.findIdx_getElem (w := h1)
  exact of_decide_eq_true this
theorem payN_bd {x y : Int} (hx : 0 < x) (hy : y < 0) : 0 < payN x y ∧ payN x y ≤ x ∧ payN x y ≤ -y ∧ (payN x y = x ∨ payN x y = -y) := by
  unfold payN
  omega
theorem count_set {p : Chg → Bool} : ∀ {b : List Chg} {i : Nat} {x y : Chg}, b[i]? = some x → (b.set i y).countP p + (if p x then 1 else 0) = b.countP p + (if p y then 1 else 0)
  | [], i, x, y, h => by simp at h
  | a :: b, 0, x, y, h => by
    simp at h
    subst h
    simp only [List.set_cons_zero, List.countP_cons]; omega
  | a :: b, i + 1, x, y, h => by
    have := count_set (p := p) (b := b) (i := i) (x := x) (y := y) (by simpa using h)
    simp only [List.set_cons_succ, List.countP_cons]; omega
theorem payB_get {b : List Chg} {x y : Chg} {h o : Nat} (hx : b[h]? = some x) (hy : b[o]? = some y) (hne : h ≠ o) : (b.set h (x.1, x.2 - payN x.2 y.2))[o]? = some y := by
  rw [List.getElem?_set, if_neg hne]; exact hy
theorem pos_ne_neg {b : List Chg} {x y : Chg} (hx : b[posI b]? = some x) (hy : b[negI b]? = some y) : posI b ≠ negI b := by
  intro e
  rw [e, hy] at hx
  cases hx
  have h1 := posI_get (x := x) (by rw [e]; exact hy)
  have h2 := negI_get hy
  omega
theorem nz_pay {b : List Chg} {x y : Chg} (hx : b[posI b]? = some x) (hy : b[negI b]? = some y) : nz (payB b (posI b) (negI b) x y) < nz b ∧ 2 ≤ nz b := by
  have hp := posI_get hx
  have hn := negI_get hy
  have hne := pos_ne_neg hx hy
  have hb := payN_bd hp hn
  have h1 := count_set (p := fun c : Chg => decide (c.2 ≠ 0)) (y := (x.1, x.2 - payN x.2 y.2)) hx
  have h2 := count_set (p := fun c : Chg => decide (c.2 ≠ 0)) (y := (y.1, y.2 + payN x.2 y.2)) (payB_get hx hy hne)
  have z1 := count_set (p := fun c : Chg => decide (c.2 ≠ 0)) (y := (0, 0)) hx
  have z2 := count_set (p := fun c : Chg => decide (c.2 ≠ 0)) (b := b.set (posI b) (0, 0)) (i := negI b) (x := y) (y := (0, 0)) (by rw [List.getElem?_set, if_neg hne]; exact hy)
  have e1 : decide (x.2 ≠ 0) = true := by simpa using (by omega : x.2 ≠ 0)
  have e2 : decide (y.2 ≠ 0) = true := by simpa using (by omega : y.2 ≠ 0)
  simp only [e1, e2, if_true, ne_eq, not_true, decide_false, Bool.false_eq_true, if_false] at h1 h2 z1 z2
  unfold nz payB
  refine ⟨?_, by simp only [ne_eq]; omega⟩
  rcases hb.2.2.2 with e | e
  · have : decide (¬ (x.2 - payN x.2 y.2 = 0)) = false := by simp; omega
    simp only [this, Bool.false_eq_true, if_false] at h1
    split at h2 <;> (simp only [ne_eq]; omega)
  · have : decide (¬ (y.2 + payN x.2 y.2 = 0)) = false := by simp; omega
    simp only [this, Bool.false_eq_true, if_false] at h2
    split at h1 <;> (simp only [ne_eq]; omega)
theorem settleF_len : ∀ (f : Nat) (b : List Chg) (out : List Posting), nz b < f → (settleF f b out).2.length ≤ out.length + (nz b - 1)
  | 0, b, out, h => by omega
  | f + 1, b, out, h => by
    unfold settleF
    split
    · rename_i x y hx hy
      obtain ⟨h1, h2⟩ := nz_pay hx hy
      split
      · simp
      · have := settleF_len f (payB b (posI b) (negI b) x y) (out ++ [payP x y]) (by omega)
        rw [List.length_append, List.length_singleton] at this
        omega
    · simp
end Go.Proofs.Ax
namespace Go.Proofs.Ax
open Go Go.Proofs
set_option maxRecDepth 10000
set_option maxHeartbeats 4000000
/-! The first element of a kind. -/
def idxInt (b : List Chg) (k : Nat) : Int := if k < b.length then (k : Int) else -1
theorem pos1_ok (c : Chg) : Pu Tryz.prog G1 79 [.agg (chE c)] (vb (decide (0 < c.2))) := by
  refine Pu.of_ev (T := Tryz.tab) (n := 6) (tryd_ok _) Tryz.func79 rfl rfl rfl (by first | rfl | (split <;> rfl)) (by simp) ?_
  ((conv => whnf); repeat' ((first | refine vv1 ?_ | refine vv2 ?_ | refine vv3 ?_ | refine vv4 ?_ | refine vv5 ?_ | refine vv6 ?_ | refine vv7 ?_ | refine vv8 ?_ | refine vv9 ?_ | refine vv10 ?_ | refine vv11 (fun hbr => ?_) (fun hbr => ?_) | refine vv12 (fun hbr => ?_) (fun hbr => ?_) | refine vv13 ?_ | refine vv14 ?_ | refine vv15 ?_ | refine vv16 ?_ | refine vv17 (fun hbr => ?_) (fun hbr => ?_) | refine vv18 ?_ | refine vv19 (fun hbr => ?_) (fun hbr => ?_) | refine vv20 ?_ | refine SlIdxN.map _ rfl (by first | assumption | omega) ?_ | refine SlIdxN.mapPred (by omega) (by omega) ?_ | refine SlIdxN.mapSucc (by omega) ?_ | refine SlIdxN.lit _ _ rfl rfl ?_ | refine SlIdxN.mapInt (by omega) (by omega) ?_ | refine IdxN.at0 _ rfl (by first | assumption | omega | (simp <;> omega)) ?_ | refine vv21 ?_ | refine RowN.map (by first | assumption | omega) ?_ | refine vv22 ?_ | refine RowSN.map (by first | assumption | omega) ?_ | refine vv23 ?_ | refine vv24 ?_ | refine vv25 ?_ | refine Need.mk (by first | assumption | omega | (simp <;> omega)) ?_ | refine DrawN.gen (by first | exact tryd_ok _ | exact tryd_okm _ _) (by kernel_rfl) ?_ | refine vv26 ?_ | refine vv27 ?_ | refine vv28 ?_ | refine vv29 ?_ | refine vv30 ?_ | refine vv31 ?_ | refine vv32 ?_ | refine vv33 ?_) <;> (conv => whnf)))
  exact DoneN.pure rfl
theorem neg1_ok (c : Chg) : Pu Tryz.prog G1 80 [.agg (chE c)] (vb (decide (c.2 < 0))) := by
  refine Pu.of_ev (T := Tryz.tab) (n := 6) (tryd_ok _) Tryz.func80 rfl rfl rfl (by first | rfl | (split <;> rfl)) (by simp) ?_
  ((conv => whnf); repeat' ((first | refine vv1 ?_ | refine vv2 ?_ | refine vv3 ?_ | refine vv4 ?_ | refine vv5 ?_ | refine vv6 ?_ | refine vv7 ?_ | refine vv8 ?_ | refine vv9 ?_ | refine vv10 ?_ | refine vv11 (fun hbr => ?_) (fun hbr => ?_) | refine vv12 (fun hbr => ?_) (fun hbr => ?_) | refine vv13 ?_ | refine vv14 ?_ | refine vv15 ?_ | refine vv16 ?_ | refine vv17 (fun hbr => ?_) (fun hbr => ?_) | refine vv18 ?_ | refine vv19 (fun hbr => ?_) (fun hbr => ?_) | refine vv20 ?_ | refine SlIdxN.map _ rfl (by first | assumption | omega) ?_ | refine SlIdxN.mapPred (by omega) (by omega) ?_ | refine SlIdxN.mapSucc (by omega) ?_ | refine SlIdxN.lit _ _ rfl rfl ?_ | refine SlIdxN.mapInt (by omega) (by omega) ?_ | refine IdxN.at0 _ rfl (by first | assumption | omega | (simp <;> omega)) ?_ | refine vv21 ?_ | refine RowN.map (by first | assumption | omega) ?_ | refine vv22 ?_ | refine RowSN.map (by first | assumption | omega) ?_ | refine vv23 ?_ | refine vv24 ?_ | refine vv25 ?_ | refine Need.mk (by first | assumption | omega | (simp <;> omega)) ?_ | refine DrawN.gen (by first | exact tryd_ok _ | exact tryd_okm _ _) (by kernel_rfl) ?_ | refine vv26 ?_ | refine vv27 ?_ | refine vv28 ?_ | refine vv29 ?_ | refine vv30 ?_ | refine vv31 ?_ | refine vv32 ?_ | refine vv33 ?_) <;> (conv => whnf)))
  exact DoneN.pure rfl
theorem idxFunc_ef (F : FuncId) (p : Chg → Bool) (hF : ∀ c, Pu Tryz.prog G1 F [.agg (chE c)] (vb (p c))) (b : List Chg) (hmax : b.length ≤ 1000000) :
    Ef Tryz.prog G1 78 [.sm 0 2 0 b.length, .sc (.func (.func F) #[] #[])] [.rows (b.map chE) 74] fun y H' => y = vi (idxInt b (b.findIdx p)) ∧ H' = [.rows (b.map chE) 74] := by
  refine Ef.reabs (Ef.of_ev (T := Tryz.tab) (n := 19) (tryd_okg 1 _) rfl Tryz.func78 rfl rfl (by simp) ?_)
  ((conv => whnf); repeat' ((first | refine vv1 ?_ | refine vv2 ?_ | refine vv3 ?_ | refine vv4 ?_ | refine vv5 ?_ | refine vv6 ?_ | refine vv7 ?_ | refine vv8 ?_ | refine vv9 ?_ | refine vv10 ?_ | refine vv11 (fun hbr => ?_) (fun hbr => ?_) | refine vv12 (fun hbr => ?_) (fun hbr => ?_) | refine vv13 ?_ | refine vv14 ?_ | refine vv15 ?_ | refine vv16 ?_ | refine vv17 (fun hbr => ?_) (fun hbr => ?_) | refine vv18 ?_ | refine vv19 (fun hbr => ?_) (fun hbr => ?_) | refine vv20 ?_ | refine SlIdxN.map _ rfl (by first | assumption | omega) ?_ | refine SlIdxN.mapPred (by omega) (by omega) ?_ | refine SlIdxN.mapSucc (by omega) ?_ | refine SlIdxN.lit _ _ rfl rfl ?_ | refine SlIdxN.mapInt (by omega) (by omega) ?_ | refine IdxN.at0 _ rfl (by first | assumption | omega | (simp <;> omega)) ?_ | refine vv21 ?_ | refine RowN.map (by first | assumption | omega) ?_ | refine vv22 ?_ | refine RowSN.map (by first | assumption | omega) ?_ | refine vv23 ?_ | refine vv24 ?_ | refine vv25 ?_ | refine Need.mk (by first | assumption | omega | (simp <;> omega)) ?_ | refine DrawN.gen (by first | exact tryd_ok _ | exact tryd_okm _ _) (by kernel_rfl) ?_ | refine vv26 ?_ | refine vv27 ?_ | refine vv28 ?_ | refine vv29 ?_ | refine vv30 ?_ | refine vv31 ?_ | refine vv32 ?_ | refine vv33 ?_) <;> (conv => whnf)))
  refine LoopN.of (tryd_okg 1 _) (fun k : Nat => [(0, .sm 0 2 0 b.length), (1, .sc (.func (.func F) #[] #[])), (7, vi b.length), (8, vi k)]) (fun _ => [.rows (b.map chE) 74]) (fun k => b.length - k) (fun k => k ≤ b.length ∧ ∀ i (h : i < b.length), i < k → p b[i] = false) 0 ⟨Nat.zero_le _, fun i h hi => by omega⟩ (Reabs.frmM [0] (by repeat (first | exact trivial | refine ⟨.inr ⟨rfl, rfl⟩, ?_⟩ | refine ⟨.inr ⟨rfl, vi_eq (by first | omega | (simp; done) | (simp; omega))⟩, ?_⟩ | refine ⟨.inr ⟨rfl, smE rfl (by first | omega | (simp; done) | (simp; omega))⟩, ?_⟩)) (by repeat (first | exact trivial | refine ⟨⟨_, rfl, (by first | exact blkDead | exact blkDeep rfl (deepLit rfl) | exact blkDeep rfl (deepMap (fun _ => rfl)) | exact blkOk rfl rfl | exact blkLoop rfl rfl), (by first | exact fun _ => rfl | exact fun h => (by cases h))⟩, ?_⟩)) rfl rfl) ?_
  rintro k ⟨hk, hall⟩
  by_cases hlt : k < b.length
  · have hf := hF b[k]
    cases hp : p b[k] with
    | true =>
      rw [hp] at hf
      have e : b.findIdx p = k := (List.findIdx_eq hlt).2 ⟨hp, fun j hj => hall j (by omega) hj⟩
      ((conv => whnf); repeat' ((first | refine vv1 ?_ | refine vv2 ?_ | refine vv3 ?_ | refine vv4 ?_ | refine vv5 ?_ | refine vv6 ?_ | refine vv7 ?_ | refine vv8 ?_ | refine vv9 ?_ | refine vv10 ?_ | refine vv11 (fun hbr => ?_) (fun hbr => ?_) | refine vv12 (fun hbr => ?_) (fun hbr => ?_) | refine vv13 ?_ | refine vv14 ?_ | refine vv15 ?_ | refine vv16 ?_ | refine vv17 (fun hbr => ?_) (fun hbr => ?_) | refine vv18 ?_ | refine vv19 (fun hbr => ?_) (fun hbr => ?_) | refine vv20 ?_ | refine SlIdxN.map _ rfl (by first | assumption | omega) ?_ | refine SlIdxN.mapPred (by omega) (by omega) ?_ | refine SlIdxN.mapSucc (by omega) ?_ | refine SlIdxN.lit _ _ rfl rfl ?_ | refine SlIdxN.mapInt (by omega) (by omega) ?_ | refine IdxN.at0 _ rfl (by first | assumption | omega | (simp <;> omega)) ?_ | refine vv21 ?_ | refine RowN.map (by first | assumption | omega) ?_ | refine vv22 ?_ | refine RowSN.map (by first | assumption | omega) ?_ | refine vv23 ?_ | refine vv24 ?_ | refine vv25 ?_ | refine Need.mk (by first | assumption | omega | (simp <;> omega)) ?_ | refine DrawN.gen (by first | exact tryd_ok _ | exact tryd_okm _ _) (by kernel_rfl) ?_ | refine vv26 ?_ | refine vv27 ?_ | refine vv28 ?_ | refine vv29 ?_ | refine vv30 ?_ | refine vv31 ?_ | refine vv32 ?_ | refine vv33 ?_ | refine CallN.pure (hf) ?_ | refine GCallN.pure _ (hf) ?_ | refine GCallN.ef (hf) ?_) <;> (conv => whnf)))
      refine ⟨⟨_, [.rows (b.map chE) 74], ?_, rfl, rfl⟩⟩
      rw [e, idxInt, if_pos hlt]
      exact Reabs.frmM [0] (by repeat (first | exact trivial | refine ⟨.inr ⟨rfl, rfl⟩, ?_⟩)) (by repeat (first | exact trivial | refine ⟨⟨_, rfl, (by first | exact blkDead | exact blkDeep rfl (deepLit rfl) | exact blkDeep rfl (deepMap (fun _ => rfl)) | exact blkOk rfl rfl | exact blkLoop rfl rfl), (by first | exact fun _ => rfl | exact fun h => (by cases h))⟩, ?_⟩)) rfl rfl
    | false =>
      rw [hp] at hf
      ((conv => whnf); repeat' ((first | refine vv1 ?_ | refine vv2 ?_ | refine vv3 ?_ | refine vv4 ?_ | refine vv5 ?_ | refine vv6 ?_ | refine vv7 ?_ | refine vv8 ?_ | refine vv9 ?_ | refine vv10 ?_ | refine vv11 (fun hbr => ?_) (fun hbr => ?_) | refine vv12 (fun hbr => ?_) (fun hbr => ?_) | refine vv13 ?_ | refine vv14 ?_ | refine vv15 ?_ | refine vv16 ?_ | refine vv17 (fun hbr => ?_) (fun hbr => ?_) | refine vv18 ?_ | refine vv19 (fun hbr => ?_) (fun hbr => ?_) | refine vv20 ?_ | refine SlIdxN.map _ rfl (by first | assumption | omega) ?_ | refine SlIdxN.mapPred (by omega) (by omega) ?_ | refine SlIdxN.mapSucc (by omega) ?_ | refine SlIdxN.lit _ _ rfl rfl ?_ | refine SlIdxN.mapInt (by omega) (by omega) ?_ | refine IdxN.at0 _ rfl (by first | assumption | omega | (simp <;> omega)) ?_ | refine vv21 ?_ | refine RowN.map (by first | assumption | omega) ?_ | refine vv22 ?_ | refine RowSN.map (by first | assumption | omega) ?_ | refine vv23 ?_ | refine vv24 ?_ | refine vv25 ?_ | refine Need.mk (by first | assumption | omega | (simp <;> omega)) ?_ | refine DrawN.gen (by first | exact tryd_ok _ | exact tryd_okm _ _) (by kernel_rfl) ?_ | refine vv26 ?_ | refine vv27 ?_ | refine vv28 ?_ | refine vv29 ?_ | refine vv30 ?_ | refine vv31 ?_ | refine vv32 ?_ | refine vv33 ?_ | refine CallN.pure (hf) ?_ | refine GCallN.pure _ (hf) ?_ | refine GCallN.ef (hf) ?_) <;> (conv => whnf)))
      refine BackN.mk (k + 1) ⟨by omega, fun i h hi => ?_⟩ (by omega) (Reabs.frmM [0] (by repeat (first | exact trivial | refine ⟨.inr ⟨rfl, rfl⟩, ?_⟩ | refine ⟨.inr ⟨rfl, vi_eq (by first | omega | (simp; done) | (simp; omega))⟩, ?_⟩ | refine ⟨.inr ⟨rfl, smE rfl (by first | omega | (simp; done) | (simp; omega))⟩, ?_⟩)) (by repeat (first | exact trivial | refine ⟨⟨_, rfl, (by first | exact blkDead | exact blkDeep rfl (deepLit rfl) | exact blkDeep rfl (deepMap (fun _ => rfl)) | exact blkOk rfl rfl | exact blkLoop rfl rfl), (by first | exact fun _ => rfl | exact fun h => (by cases h))⟩, ?_⟩)) rfl rfl)
      by_cases hq : i = k
      · subst hq; exact hp
      · exact hall i h (by omega)
  · have e : b.findIdx p = b.length := List.findIdx_eq_length.2 fun x hx => by
      obtain ⟨i, hi, rfl⟩ := List.getElem_of_mem hx
      simp [hall i hi (by omega)]
    ((conv => whnf); repeat' ((first | refine vv1 ?_ | refine vv2 ?_ | refine vv3 ?_ | refine vv4 ?_ | refine vv5 ?_ | refine vv6 ?_ | refine vv7 ?_ | refine vv8 ?_ | refine vv9 ?_ | refine vv10 ?_ | refine vv11 (fun hbr => ?_) (fun hbr => ?_) | refine vv12 (fun hbr => ?_) (fun hbr => ?_) | refine vv13 ?_ | refine vv14 ?_ | refine vv15 ?_ | refine vv16 ?_ | refine vv17 (fun hbr => ?_) (fun hbr => ?_) | refine vv18 ?_ | refine vv19 (fun hbr => ?_) (fun hbr => ?_) | refine vv20 ?_ | refine SlIdxN.map _ rfl (by first | assumption | omega) ?_ | refine SlIdxN.mapPred (by omega) (by omega) ?_ | refine SlIdxN.mapSucc (by omega) ?_ | refine SlIdxN.lit _ _ rfl rfl ?_ | refine SlIdxN.mapInt (by omega) (by omega) ?_ | refine IdxN.at0 _ rfl (by first | assumption | omega | (simp <;> omega)) ?_ | refine vv21 ?_ | refine RowN.map (by first | assumption | omega) ?_ | refine vv22 ?_ | refine RowSN.map (by first | assumption | omega) ?_ | refine vv23 ?_ | refine vv24 ?_ | refine vv25 ?_ | refine Need.mk (by first | assumption | omega | (simp <;> omega)) ?_ | refine DrawN.gen (by first | exact tryd_ok _ | exact tryd_okm _ _) (by kernel_rfl) ?_ | refine vv26 ?_ | refine vv27 ?_ | refine vv28 ?_ | refine vv29 ?_ | refine vv30 ?_ | refine vv31 ?_ | refine vv32 ?_ | refine vv33 ?_) <;> (conv => whnf)))
    refine ⟨⟨_, [.rows (b.map chE) 74], ?_, rfl, rfl⟩⟩
    rw [e, idxInt, if_neg (by omega)]
    exact Reabs.frmM [0] (by repeat (first | exact trivial | refine ⟨.inr ⟨rfl, rfl⟩, ?_⟩)) (by repeat (first | exact trivial | refine ⟨⟨_, rfl, (by first | exact blkDead | exact blkDeep rfl (deepLit rfl) | exact blkDeep rfl (deepMap (fun _ => rfl)) | exact blkOk rfl rfl | exact blkLoop rfl rfl), (by first | exact fun _ => rfl | exact fun h => (by cases h))⟩, ?_⟩)) rfl rfl
theorem idxFunc_in (F : FuncId) (p : Chg → Bool) (hF : ∀ c, Pu Tryz.prog G1 F [.agg (chE c)] (vb (p c))) (b : List Chg) (hmax : b.length ≤ 1000000) (H : AH) (i n : Nat) (hn : n = b.length) (hi : nthB H i = some (.rows (b.map chE) 74)) (v : Int) (hv : v = idxInt b (b.findIdx p)) :
    Ef Tryz.prog G1 78 [.sm i 2 0 n, .sc (.func (.func F) #[] #[])] H fun y H' => y = vi v ∧ H' = H := by
  subst hn; subst hv
  refine Ef.subD (idxFunc_ef F p hF b hmax) rfl (Nat.le_refl _) ⟨okDeep (deepR (fun _ => rfl)) _, trivial⟩ [i] (by simp) ⟨⟨_, hi, blkDeep rfl (deepMap (fun _ => rfl)), fun _ => rfl⟩, trivial⟩ rfl (fun x hx => ?_) rfl ?_
  · simp only [List.mem_cons, List.not_mem_nil, or_false] at hx
    rcases hx with rfl | rfl <;> rfl
  · show H.set i (ABlk.ren _ _) ++ [] = _
    rw [List.append_nil, ren_deepB (deepR (fun _ => rfl))]
    rw [nthB_eq] at hi
    obtain ⟨hlt, he⟩ := List.getElem?_eq_some_iff.1 hi
    rw [← he, List.set_getElem_self]
theorem idxInt_some {b : List Chg} {k : Nat} {x : Chg} (h : b[k]? = some x) : idxInt b k = (k : Int) := if_pos (List.getElem?_eq_some_iff.1 h).1
theorem idxInt_none {b : List Chg} {k : Nat} (h : b[k]? = none) : idxInt b k = -1 := if_neg (by have := List.getElem?_eq_none_iff.1 h; omega)
def AbsB (b : List Chg) : Prop := ∀ c ∈ b, -4400000000000000 ≤ c.2 ∧ c.2 ≤ 4400000000000000
theorem absB_bals {l : List Posting} (h : ∀ p ∈ l, p.ok) (hl : l.length ≤ 4000) : AbsB (balsOf l) := by
  intro c hc
  have e := (balsOf_mem hc).2
  have := bal_bd h c.1
  rw [← e] at this
  omega
theorem absB_pay {b : List Chg} {x y : Chg} (h : AbsB b) (hx : b[posI b]? = some x) (hy : b[negI b]? = some y) : AbsB (payB b (posI b) (negI b) x y) := by
  have h1 := posI_get hx
  have h2 := negI_get hy
  have h3 := payN_bd h1 h2
  have hbx := h x (List.mem_of_getElem? hx)
  have hby := h y (List.mem_of_getElem? hy)
  intro c hc
  unfold payB at hc
  rcases List.mem_or_eq_of_mem_set hc with hc | rfl
  · rcases List.mem_or_eq_of_mem_set hc with hc | rfl
    · exact h c hc
    · simp only; omega
  · simp only; omega
theorem payB_rows {b : List Chg} {i j : Nat} {x y : Chg} : ((b.map chE).set i [vi x.1, vi (x.2 - payN x.2 y.2)]).set j [vi y.1, vi (y.2 + payN x.2 y.2)] = (payB b i j x y).map chE := by
  unfold payB
  rw [List.map_set, List.map_set]
theorem rows1 {b : List Chg} {i j : Nat} {y : Chg} (z : List AV) (hy : b[j]? = some y) (hne : i ≠ j) : ((b.map chE).set i z)[j]? = some (chE y) := by
  rw [List.getElem?_set, if_neg hne, List.getElem?_map, hy]; rfl
theorem rows0 {b : List Chg} {i : Nat} {x : Chg} (hx : b[i]? = some x) : (b.map chE)[i]? = some (chE x) := by rw [List.getElem?_map, hx]; rfl
theorem rows2 {b : List Chg} {i j : Nat} {x : Chg} (z w : List AV) (hx : b[i]? = some x) (hne : i ≠ j) : (((b.map chE).set i z).set j w)[i]? = some z := by
  rw [List.getElem?_set, if_neg (fun e => hne e.symm), List.getElem?_set, if_pos rfl, if_pos (by rw [List.length_map]; exact (List.getElem?_eq_some_iff.1 hx).1)]
theorem rows3 {b : List Chg} {i j : Nat} {y : Chg} (z w : List AV) (hy : b[j]? = some y) : (((b.map chE).set i z).set j w)[j]? = some w := by
  rw [List.getElem?_set, if_pos rfl, if_pos (by rw [List.length_set, List.length_map]; exact (List.getElem?_eq_some_iff.1 hy).1)]
abbrev settleRes (R : Int × List Posting) : AV := if R.1 = 2 then .tuple [.sc (.slice none 0 0), vi 2] else .tuple [postings false R.2, vi 0]
theorem settleF_2 {f : Nat} {b : List Chg} {out : List Posting} {x y : Chg} (hx : b[posI b]? = some x) (hy : b[negI b]? = some y) : settleF (f + 1) b out = if 1099511627776 < payN x.2 y.2 then (2, []) else settleF f (payB b (posI b) (negI b) x y) (out ++ [payP x y]) := by
  simp only [settleF, hx, hy]
theorem settleF_0 {f : Nat} {b : List Chg} {out : List Posting} (h : b[posI b]? = none ∨ b[negI b]? = none) : settleF (f + 1) b out = (0, out) := by
  rcases h with h | h
  · simp only [settleF, h]
  · simp only [settleF, h]
    cases b[posI b]? <;> rfl
theorem settle_ok (t : Bool) (l : List Posting) (h : checkPost l = (0, -1)) (hmax : l.length ≤ 200) : Pu Tryz.prog G1 39 [postings t l] (settleRes (settleOf l)) := by
  obtain ⟨-, hok⟩ := checkPost_0 (l := l) (by rw [h])
  have hc := checkPost_ok t l (by omega)
  rw [h] at hc
  have hb := balances_at t hok (by omega) [] 0 rfl
  have hbl := balsOf_len l
  have hab := absB_bals hok (by omega)
  have hnz : nz (balsOf l) ≤ (balsOf l).length := List.countP_le_length
  unfold settleOf
  generalize balsOf l = B at *
  generalize hR0 : settleF (nz B + 1) B [] = R at *
  show Pu _ _ _ _ (if R.1 = 2 then .tuple [.sc (.slice none 0 0), vi 2] else .tuple [postings false R.2, vi 0])
  refine Pu.of_ev (T := Tryz.tab) (n := 79) (tryd_ok _) Tryz.func39 rfl rfl rfl (by first | rfl | (split <;> rfl)) (by simp) ?_
  ((conv => whnf); repeat' ((first | refine CallN.efD hb ?_ | refine RowN.row2 (by first | omega | (show _ = _ + 1; omega)) ?_ | refine RowN.row1 (by first | omega | (show _ = _ + 1; omega)) ?_ | refine RowN.rowB (by first | omega | (show _ = _ + 1; omega)) ?_ | refine RowSN.row2 (by first | omega | (show _ = _ + 1; omega)) ?_ | refine RowSN.row1 (by first | omega | (show _ = _ + 1; omega)) ?_ | refine RowSN.rowB (by first | omega | (show _ = _ + 1; omega)) ?_ | refine IxN.mk _ rfl ?_ | refine shr_ok rfl rfl ?_ | refine WrapN.inU ⟨by omega, by omega⟩ ?_ | refine vv1 ?_ | refine vv2 ?_ | refine vv3 ?_ | refine vv4 ?_ | refine vv5 ?_ | refine vv6 ?_ | refine vv7 ?_ | refine vv8 ?_ | refine vv9 ?_ | refine vv10 ?_ | refine vv11 (fun hbr => ?_) (fun hbr => ?_) | refine vv12 (fun hbr => ?_) (fun hbr => ?_) | refine vv13 ?_ | refine vv14 ?_ | refine vv15 ?_ | refine vv16 ?_ | refine vv17 (fun hbr => ?_) (fun hbr => ?_) | refine vv18 ?_ | refine vv19 (fun hbr => ?_) (fun hbr => ?_) | refine vv20 ?_ | refine SlIdxN.map _ rfl (by first | assumption | omega) ?_ | refine SlIdxN.mapPred (by omega) (by omega) ?_ | refine SlIdxN.mapSucc (by omega) ?_ | refine SlIdxN.lit _ _ rfl rfl ?_ | refine SlIdxN.mapInt (by omega) (by omega) ?_ | refine IdxN.at0 _ rfl (by first | assumption | omega | (simp <;> omega)) ?_ | refine vv21 ?_ | refine RowN.map (by first | assumption | omega) ?_ | refine vv22 ?_ | refine RowSN.map (by first | assumption | omega) ?_ | refine vv23 ?_ | refine vv24 ?_ | refine vv25 ?_ | refine Need.mk (by first | assumption | omega | (simp <;> omega)) ?_ | refine DrawN.gen (by first | exact tryd_ok _ | exact tryd_okm _ _) (by kernel_rfl) ?_ | refine vv26 ?_ | refine vv27 ?_ | refine vv28 ?_ | refine vv29 ?_ | refine vv30 ?_ | refine vv31 ?_ | refine vv32 ?_ | refine vv33 ?_ | refine CallN.pure (hc) ?_ | refine GCallN.pure _ (hc) ?_ | refine GCallN.ef (hc) ?_) <;> (conv => whnf)))
  refine LoopN.of3 (tryd_okg 0 _) (fun (f : Nat) (b : List Chg) (out : List Posting) => [(6, .sm 0 2 0 B.length), (7, .sm 1 5 0 out.length)]) (fun f b out => [.rows (b.map chE) 74, .rows (out.map Posting.enc) 61]) (fun f _ _ => f) (fun f b out => nz b < f ∧ settleF f b out = R ∧ b.length = B.length ∧ out.length + nz b ≤ nz B ∧ AbsB b) (nz B + 1) B [] ⟨by omega, hR0, rfl, by simp, hab⟩
    ((Reabs.virt 7 5 61 rfl).trans (Reabs.frmM [0, 1] (by repeat (first | exact trivial | refine ⟨.inr ⟨rfl, rfl⟩, ?_⟩ | refine ⟨.inr ⟨rfl, vi_eq (by first | omega | (simp; done) | (simp; omega))⟩, ?_⟩ | refine ⟨.inr ⟨rfl, smE rfl (by first | omega | (simp; done) | (simp; omega))⟩, ?_⟩)) (by repeat (first | exact trivial | refine ⟨⟨_, rfl, (by first | exact blkDead | exact blkDeep rfl (deepLit rfl) | exact blkDeep rfl (deepMap (fun _ => rfl)) | exact blkOk rfl rfl | exact blkLoop rfl rfl), (by first | exact fun _ => rfl | exact fun h => (by cases h))⟩, ?_⟩)) rfl rfl)) ?_
  rintro f b out ⟨hf, hR, hbl2, hol, hab⟩
  obtain ⟨f, rfl⟩ : ∃ f', f = f' + 1 := ⟨f - 1, by omega⟩
  subst hR
  clear hR0
  have hi1 := fun v hv => idxFunc_in 79 (fun c => decide (0 < c.2)) pos1_ok b (by omega) [.rows (b.map chE) 74, .rows (out.map Posting.enc) 61] 0 B.length hbl2.symm rfl v hv
  have hi2 := fun v hv => idxFunc_in 80 (fun c => decide (c.2 < 0)) neg1_ok b (by omega) [.rows (b.map chE) 74, .rows (out.map Posting.enc) 61] 0 B.length hbl2.symm rfl v hv
  cases hx : b[posI b]? with
  | none =>
    have g1 := hi1 (-1) (idxInt_none hx).symm
    have g2 := hi2 _ rfl
    rw [settleF_0 (.inl hx)]
    generalize idxInt b _ = v2 at g2
    ((conv => whnf); repeat' ((first | refine CallN.efD g1 ?_ | refine CallN.efD g2 ?_ | refine RowN.row2 (by first | omega | (show _ = _ + 1; omega)) ?_ | refine RowN.row1 (by first | omega | (show _ = _ + 1; omega)) ?_ | refine RowN.rowB (by first | omega | (show _ = _ + 1; omega)) ?_ | refine RowSN.row2 (by first | omega | (show _ = _ + 1; omega)) ?_ | refine RowSN.row1 (by first | omega | (show _ = _ + 1; omega)) ?_ | refine RowSN.rowB (by first | omega | (show _ = _ + 1; omega)) ?_ | refine IxN.mk _ rfl ?_ | refine shr_ok rfl rfl ?_ | refine WrapN.inU ⟨by omega, by omega⟩ ?_ | refine vv1 ?_ | refine vv2 ?_ | refine vv3 ?_ | refine vv4 ?_ | refine vv5 ?_ | refine vv6 ?_ | refine vv7 ?_ | refine vv8 ?_ | refine vv9 ?_ | refine vv10 ?_ | refine vv11 (fun hbr => ?_) (fun hbr => ?_) | refine vv12 (fun hbr => ?_) (fun hbr => ?_) | refine vv13 ?_ | refine vv14 ?_ | refine vv15 ?_ | refine vv16 ?_ | refine vv17 (fun hbr => ?_) (fun hbr => ?_) | refine vv18 ?_ | refine vv19 (fun hbr => ?_) (fun hbr => ?_) | refine vv20 ?_ | refine SlIdxN.map _ rfl (by first | assumption | omega) ?_ | refine SlIdxN.mapPred (by omega) (by omega) ?_ | refine SlIdxN.mapSucc (by omega) ?_ | refine SlIdxN.lit _ _ rfl rfl ?_ | refine SlIdxN.mapInt (by omega) (by omega) ?_ | refine IdxN.at0 _ rfl (by first | assumption | omega | (simp <;> omega)) ?_ | refine vv21 ?_ | refine RowN.map (by first | assumption | omega) ?_ | refine vv22 ?_ | refine RowSN.map (by first | assumption | omega) ?_ | refine vv23 ?_ | refine vv24 ?_ | refine vv25 ?_ | refine Need.mk (by first | assumption | omega | (simp <;> omega)) ?_ | refine DrawN.gen (by first | exact tryd_ok _ | exact tryd_okm _ _) (by kernel_rfl) ?_ | refine vv26 ?_ | refine vv27 ?_ | refine vv28 ?_ | refine vv29 ?_ | refine vv30 ?_ | refine vv31 ?_ | refine vv32 ?_ | refine vv33 ?_) <;> (conv => whnf)))
    refine DoneN.frz 1 _ 61 rfl (deepR (fun _ => rfl)) (DoneN.pure ?_)
    show AV.tuple [(AV.sm 1 5 0 _).frz0 1 _, _] = _
    rw [frz_all (by simp)]
    rfl
  | some x =>
    cases hy : b[negI b]? with
    | none =>
      have g1 := hi1 _ (idxInt_some hx).symm
      have g2 := hi2 (-1) (idxInt_none hy).symm
      rw [settleF_0 (.inr hy)]
      ((conv => whnf); repeat' ((first | refine CallN.efD g1 ?_ | refine CallN.efD g2 ?_ | refine RowN.row2 (by first | omega | (show _ = _ + 1; omega)) ?_ | refine RowN.row1 (by first | omega | (show _ = _ + 1; omega)) ?_ | refine RowN.rowB (by first | omega | (show _ = _ + 1; omega)) ?_ | refine RowSN.row2 (by first | omega | (show _ = _ + 1; omega)) ?_ | refine RowSN.row1 (by first | omega | (show _ = _ + 1; omega)) ?_ | refine RowSN.rowB (by first | omega | (show _ = _ + 1; omega)) ?_ | refine IxN.mk _ rfl ?_ | refine shr_ok rfl rfl ?_ | refine WrapN.inU ⟨by omega, by omega⟩ ?_ | refine vv1 ?_ | refine vv2 ?_ | refine vv3 ?_ | refine vv4 ?_ | refine vv5 ?_ | refine vv6 ?_ | refine vv7 ?_ | refine vv8 ?_ | refine vv9 ?_ | refine vv10 ?_ | refine vv11 (fun hbr => ?_) (fun hbr => ?_) | refine vv12 (fun hbr => ?_) (fun hbr => ?_) | refine vv13 ?_ | refine vv14 ?_ | refine vv15 ?_ | refine vv16 ?_ | refine vv17 (fun hbr => ?_) (fun hbr => ?_) | refine vv18 ?_ | refine vv19 (fun hbr => ?_) (fun hbr => ?_) | refine vv20 ?_ | refine SlIdxN.map _ rfl (by first | assumption | omega) ?_ | refine SlIdxN.mapPred (by omega) (by omega) ?_ | refine SlIdxN.mapSucc (by omega) ?_ | refine SlIdxN.lit _ _ rfl rfl ?_ | refine SlIdxN.mapInt (by omega) (by omega) ?_ | refine IdxN.at0 _ rfl (by first | assumption | omega | (simp <;> omega)) ?_ | refine vv21 ?_ | refine RowN.map (by first | assumption | omega) ?_ | refine vv22 ?_ | refine RowSN.map (by first | assumption | omega) ?_ | refine vv23 ?_ | refine vv24 ?_ | refine vv25 ?_ | refine Need.mk (by first | assumption | omega | (simp <;> omega)) ?_ | refine DrawN.gen (by first | exact tryd_ok _ | exact tryd_okm _ _) (by kernel_rfl) ?_ | refine vv26 ?_ | refine vv27 ?_ | refine vv28 ?_ | refine vv29 ?_ | refine vv30 ?_ | refine vv31 ?_ | refine vv32 ?_ | refine vv33 ?_) <;> (conv => whnf)))
      refine DoneN.frz 1 _ 61 rfl (deepR (fun _ => rfl)) (DoneN.pure ?_)
      show AV.tuple [(AV.sm 1 5 0 _).frz0 1 _, _] = _
      rw [frz_all (by simp)]
      rfl
    | some y =>
      have g1 := hi1 _ (idxInt_some hx).symm
      have g2 := hi2 _ (idxInt_some hy).symm
      have hp := posI_get hx
      have hn := negI_get hy
      have hne := pos_ne_neg hx hy
      have hpn := payN_bd hp hn
      have hbx := hab x (List.mem_of_getElem? hx)
      have hby := hab y (List.mem_of_getElem? hy)
      have hnp := nz_pay hx hy
      have hpl : (payB b (posI b) (negI b) x y).length = b.length := by unfold payB; simp
      have hap := absB_pay hab hx hy
      have hl1 := (List.getElem?_eq_some_iff.1 hx).1
      have hl2 := (List.getElem?_eq_some_iff.1 hy).1
      rw [settleF_2 hx hy]
      have r0 := rows0 hx
      have r0' := rows0 hy
      have r1 := fun z => rows1 (i := posI b) z hy hne
      have r2 := fun z w => rows2 z w hx hne
      have hpb := payB_rows (b := b) (i := posI b) (j := negI b) (x := x) (y := y)
      have hpp : payP x y = ⟨0, 0, x.1, y.1, payN x.2 y.2⟩ := rfl
      have hl3 : posI b < B.length := by omega
      have hl4 : negI b < B.length := by omega
      have r3 := fun z w => rows3 (i := posI b) z w hy
      generalize hq : payB b (posI b) (negI b) x y = b' at *
      generalize posI b = i at *
      generalize negI b = j at *
      clear hi1 hi2 hl1 hl2 hx hy hq
      unfold payN at *
      ((conv => whnf); repeat' ((first | refine CallN.efD g1 ?_ | refine CallN.efD g2 ?_ | refine RowN.raw r0 ?_ | refine RowN.raw r0' ?_ | refine RowSN.raw r0 ?_ | refine RowN.raw (r1 _) ?_ | refine RowSN.raw (r1 _) ?_ | refine RowN.raw (r2 _ _) ?_ | refine RowN.raw (r3 _ _) ?_ | refine RowN.row2 (by first | omega | (show _ = _ + 1; omega)) ?_ | refine RowN.row1 (by first | omega | (show _ = _ + 1; omega)) ?_ | refine RowN.rowB (by first | omega | (show _ = _ + 1; omega)) ?_ | refine RowSN.row2 (by first | omega | (show _ = _ + 1; omega)) ?_ | refine RowSN.row1 (by first | omega | (show _ = _ + 1; omega)) ?_ | refine RowSN.rowB (by first | omega | (show _ = _ + 1; omega)) ?_ | refine IxN.mk _ rfl ?_ | refine shr_ok rfl rfl ?_ | refine WrapN.inU ⟨by omega, by omega⟩ ?_ | refine vv1 ?_ | refine vv2 ?_ | refine vv3 ?_ | refine vv4 ?_ | refine vv5 ?_ | refine vv6 ?_ | refine vv7 ?_ | refine vv8 ?_ | refine vv9 ?_ | refine vv10 ?_ | refine vv11 (fun hbr => ?_) (fun hbr => ?_) | refine vv12 (fun hbr => ?_) (fun hbr => ?_) | refine vv13 ?_ | refine vv14 ?_ | refine vv15 ?_ | refine vv16 ?_ | refine vv17 (fun hbr => ?_) (fun hbr => ?_) | refine vv18 ?_ | refine vv19 (fun hbr => ?_) (fun hbr => ?_) | refine vv20 ?_ | refine SlIdxN.map _ rfl (by first | assumption | omega) ?_ | refine SlIdxN.mapPred (by omega) (by omega) ?_ | refine SlIdxN.mapSucc (by omega) ?_ | refine SlIdxN.lit _ _ rfl rfl ?_ | refine SlIdxN.mapInt (by omega) (by omega) ?_ | refine IdxN.at0 _ rfl (by first | assumption | omega | (simp <;> omega)) ?_ | refine vv21 ?_ | refine RowN.map (by first | assumption | omega) ?_ | refine vv22 ?_ | refine RowSN.map (by first | assumption | omega) ?_ | refine vv23 ?_ | refine vv24 ?_ | refine vv25 ?_ | refine Need.mk (by first | assumption | omega | (simp <;> omega)) ?_ | refine DrawN.gen (by first | exact tryd_ok _ | exact tryd_okm _ _) (by kernel_rfl) ?_ | refine vv26 ?_ | refine vv27 ?_ | refine vv28 ?_ | refine vv29 ?_ | refine vv30 ?_ | refine vv31 ?_ | refine vv32 ?_ | refine vv33 ?_) <;> (conv => whnf)))
      · refine DoneN.pure ?_
        rw [if_pos hbr, if_pos rfl]
      · rw [if_neg hbr]
        refine BackN3.mk f b' (out ++ [payP x y]) ⟨by omega, rfl, by omega, by simp; omega, hap⟩ (by omega) ?_
        exact Reabs.frmM [0, 2] (by repeat (first | exact trivial | refine ⟨.inr ⟨rfl, rfl⟩, ?_⟩ | refine ⟨.inr ⟨rfl, vi_eq (by first | omega | (simp; done) | (simp; omega))⟩, ?_⟩ | refine ⟨.inr ⟨rfl, smE rfl (by first | omega | (simp; done) | (simp; omega))⟩, ?_⟩)) (by exact ⟨⟨_, rfl, blkDeep (congrArg (fun r => ABlk.rows r 74) hpb) (deepMap (fun _ => rfl)), fun _ => rfl⟩, ⟨_, rfl, blkDeep (by rw [List.map_append]; rfl) (deepMap (fun _ => rfl)), fun _ => rfl⟩, trivial⟩) rfl rfl
end Go.Proofs.Ax
namespace Go.Proofs.Ax
open Go Go.Proofs
set_option maxRecDepth 10000
set_option maxHeartbeats 4000000
theorem rbalances_ef (t : Bool) (l : List Posting) (h : ∀ p ∈ l, p.ok) (hmax : l.length ≤ 8000) : Ef Tryz.prog G1 33 [postings t l] [] fun y H' => y = .sm 0 2 0 (balsOf l).length ∧ H' = [.rows ((balsOf l).map chE) 74] := by
  have ha := accounts_ok t l (by omega)
  have hal := accts_len l
  refine Ef.reabs (Ef.of_ev (T := Tryz.tab) (n := 29) (tryd_okg 0 _) rfl Tryz.func33 rfl rfl (by simp) ?_)
  ((conv => whnf); repeat' ((first | refine vv1 ?_ | refine vv2 ?_ | refine vv3 ?_ | refine vv4 ?_ | refine vv5 ?_ | refine vv6 ?_ | refine vv7 ?_ | refine vv8 ?_ | refine vv9 ?_ | refine vv10 ?_ | refine vv11 (fun hbr => ?_) (fun hbr => ?_) | refine vv12 (fun hbr => ?_) (fun hbr => ?_) | refine vv13 ?_ | refine vv14 ?_ | refine vv15 ?_ | refine vv16 ?_ | refine vv17 (fun hbr => ?_) (fun hbr => ?_) | refine vv18 ?_ | refine vv19 (fun hbr => ?_) (fun hbr => ?_) | refine vv20 ?_ | refine SlIdxN.map _ rfl (by first | assumption | omega) ?_ | refine SlIdxN.mapPred (by omega) (by omega) ?_ | refine SlIdxN.mapSucc (by omega) ?_ | refine SlIdxN.lit _ _ rfl rfl ?_ | refine SlIdxN.mapInt (by omega) (by omega) ?_ | refine IdxN.at0 _ rfl (by first | assumption | omega | (simp <;> omega)) ?_ | refine vv21 ?_ | refine RowN.map (by first | assumption | omega) ?_ | refine vv22 ?_ | refine RowSN.map (by first | assumption | omega) ?_ | refine vv23 ?_ | refine vv24 ?_ | refine vv25 ?_ | refine Need.mk (by first | assumption | omega | (simp <;> omega)) ?_ | refine DrawN.gen (by first | exact tryd_ok _ | exact tryd_okm _ _) (by kernel_rfl) ?_ | refine vv26 ?_ | refine vv27 ?_ | refine vv28 ?_ | refine vv29 ?_ | refine vv30 ?_ | refine vv31 ?_ | refine vv32 ?_ | refine vv33 ?_ | refine CallN.pure (ha) ?_ | refine GCallN.pure _ (ha) ?_ | refine GCallN.ef (ha) ?_) <;> (conv => whnf)))
  refine LoopN.of (tryd_okg 0 _) (fun k : Nat => [(0, postings t l), (3, ints false (accts l)), (4, .sm 0 2 0 k), (5, vi k)]) (fun k => [.rows (((accts l).take k).map fun a => chE (a, bal l a)) 74]) (fun k => (accts l).length - k) (fun k => k ≤ (accts l).length) 0 (Nat.zero_le _) ((Reabs.virt 4 2 74 rfl).trans (Reabs.frmM [0] (by repeat (first | exact trivial | refine ⟨.inr ⟨rfl, rfl⟩, ?_⟩ | refine ⟨.inr ⟨rfl, vi_eq (by first | omega | (simp; done) | (simp; omega))⟩, ?_⟩ | refine ⟨.inr ⟨rfl, smE rfl (by first | omega | (simp; done) | (simp; omega))⟩, ?_⟩)) (by repeat (first | exact trivial | refine ⟨⟨_, rfl, (by first | exact blkDead | exact blkDeep rfl (deepLit rfl) | exact blkDeep rfl (deepMap (fun _ => rfl)) | exact blkOk rfl rfl | exact blkLoop rfl rfl), (by first | exact fun _ => rfl | exact fun h => (by cases h))⟩, ?_⟩)) rfl rfl)) ?_
  intro k hk
  by_cases hlt : k < (accts l).length
  · have hb := rbalance_ok t l (accts l)[k] h hmax
    ((conv => whnf); repeat' ((first | refine AppN.len (k + 1) (by first | omega | (simp; done) | (simp; omega)) (by first | omega | (simp; done) | (simp; omega)) (by first | omega | (simp; done) | (simp; omega)) ?_ | refine RowN.row2 (by first | omega | (show _ = _ + 1; omega)) ?_ | refine RowN.row1 (by first | omega | (show _ = _ + 1; omega)) ?_ | refine RowN.rowB (by first | omega | (show _ = _ + 1; omega)) ?_ | refine RowSN.row2 (by first | omega | (show _ = _ + 1; omega)) ?_ | refine RowSN.row1 (by first | omega | (show _ = _ + 1; omega)) ?_ | refine RowSN.rowB (by first | omega | (show _ = _ + 1; omega)) ?_ | refine IxN.mk _ rfl ?_ | refine shr_ok rfl rfl ?_ | refine WrapN.inU ⟨by omega, by omega⟩ ?_ | refine vv1 ?_ | refine vv2 ?_ | refine vv3 ?_ | refine vv4 ?_ | refine vv5 ?_ | refine vv6 ?_ | refine vv7 ?_ | refine vv8 ?_ | refine vv9 ?_ | refine vv10 ?_ | refine vv11 (fun hbr => ?_) (fun hbr => ?_) | refine vv12 (fun hbr => ?_) (fun hbr => ?_) | refine vv13 ?_ | refine vv14 ?_ | refine vv15 ?_ | refine vv16 ?_ | refine vv17 (fun hbr => ?_) (fun hbr => ?_) | refine vv18 ?_ | refine vv19 (fun hbr => ?_) (fun hbr => ?_) | refine vv20 ?_ | refine SlIdxN.map _ rfl (by first | assumption | omega) ?_ | refine SlIdxN.mapPred (by omega) (by omega) ?_ | refine SlIdxN.mapSucc (by omega) ?_ | refine SlIdxN.lit _ _ rfl rfl ?_ | refine SlIdxN.mapInt (by omega) (by omega) ?_ | refine IdxN.at0 _ rfl (by first | assumption | omega | (simp <;> omega)) ?_ | refine vv21 ?_ | refine RowN.map (by first | assumption | omega) ?_ | refine vv22 ?_ | refine RowSN.map (by first | assumption | omega) ?_ | refine vv23 ?_ | refine vv24 ?_ | refine vv25 ?_ | refine Need.mk (by first | assumption | omega | (simp <;> omega)) ?_ | refine DrawN.gen (by first | exact tryd_ok _ | exact tryd_okm _ _) (by kernel_rfl) ?_ | refine vv26 ?_ | refine vv27 ?_ | refine vv28 ?_ | refine vv29 ?_ | refine vv30 ?_ | refine vv31 ?_ | refine vv32 ?_ | refine vv33 ?_ | refine CallN.pure (hb) ?_ | refine GCallN.pure _ (hb) ?_ | refine GCallN.ef (hb) ?_) <;> (conv => whnf)))
    refine BackN.mk (k + 1) (by omega) (by omega) (Reabs.frmM [1] (by repeat (first | exact trivial | refine ⟨.inr ⟨rfl, rfl⟩, ?_⟩ | refine ⟨.inr ⟨rfl, vi_eq (by first | omega | (simp; done) | (simp; omega))⟩, ?_⟩ | refine ⟨.inr ⟨rfl, smE rfl (by first | omega | (simp; done) | (simp; omega))⟩, ?_⟩)) ?_ rfl rfl)
    exact ⟨⟨_, rfl, blkDeep (by rw [take_succ_snoc hlt, List.map_append]; rfl) (deepMap (fun _ => rfl)), fun _ => rfl⟩, trivial⟩
  · obtain rfl : k = (accts l).length := by omega
    ((conv => whnf); repeat' ((first | refine vv1 ?_ | refine vv2 ?_ | refine vv3 ?_ | refine vv4 ?_ | refine vv5 ?_ | refine vv6 ?_ | refine vv7 ?_ | refine vv8 ?_ | refine vv9 ?_ | refine vv10 ?_ | refine vv11 (fun hbr => ?_) (fun hbr => ?_) | refine vv12 (fun hbr => ?_) (fun hbr => ?_) | refine vv13 ?_ | refine vv14 ?_ | refine vv15 ?_ | refine vv16 ?_ | refine vv17 (fun hbr => ?_) (fun hbr => ?_) | refine vv18 ?_ | refine vv19 (fun hbr => ?_) (fun hbr => ?_) | refine vv20 ?_ | refine SlIdxN.map _ rfl (by first | assumption | omega) ?_ | refine SlIdxN.mapPred (by omega) (by omega) ?_ | refine SlIdxN.mapSucc (by omega) ?_ | refine SlIdxN.lit _ _ rfl rfl ?_ | refine SlIdxN.mapInt (by omega) (by omega) ?_ | refine IdxN.at0 _ rfl (by first | assumption | omega | (simp <;> omega)) ?_ | refine vv21 ?_ | refine RowN.map (by first | assumption | omega) ?_ | refine vv22 ?_ | refine RowSN.map (by first | assumption | omega) ?_ | refine vv23 ?_ | refine vv24 ?_ | refine vv25 ?_ | refine Need.mk (by first | assumption | omega | (simp <;> omega)) ?_ | refine DrawN.gen (by first | exact tryd_ok _ | exact tryd_okm _ _) (by kernel_rfl) ?_ | refine vv26 ?_ | refine vv27 ?_ | refine vv28 ?_ | refine vv29 ?_ | refine vv30 ?_ | refine vv31 ?_ | refine vv32 ?_ | refine vv33 ?_) <;> (conv => whnf)))
    refine ⟨⟨_, [.rows ((balsOf l).map chE) 74], ?_, rfl, rfl⟩⟩
    rw [List.take_length]
    have e : (balsOf l).map chE = (accts l).map fun a => chE (a, bal l a) := by rw [balsOf, List.map_map]; rfl
    have e2 : (balsOf l).length = (accts l).length := by rw [balsOf, List.length_map]
    rw [e, e2]
    exact (Reabs.frmM [0] (by repeat (first | exact trivial | refine ⟨.inr ⟨rfl, rfl⟩, ?_⟩ | refine ⟨.inr ⟨rfl, vi_eq (by first | omega | (simp; done) | (simp; omega))⟩, ?_⟩ | refine ⟨.inr ⟨rfl, smE rfl (by first | omega | (simp; done) | (simp; omega))⟩, ?_⟩)) (by exact ⟨⟨_, rfl, blkDeep rfl (deepMap (fun _ => rfl)), fun _ => rfl⟩, trivial⟩) rfl rfl)
theorem rbalances_at (t : Bool) {l : List Posting} (hl : ∀ p ∈ l, p.ok) (hmax : l.length ≤ 8000) (H : AH) (n : Nat) (hn : H.length = n) : Ef Tryz.prog G1 33 [postings t l] H fun y H' => y = .sm n 2 0 (balsOf l).length ∧ H' = H ++ [.rows ((balsOf l).map chE) 74] := by
  subst hn
  refine Ef.subD (rbalances_ef t l hl hmax) rfl (by simp) ⟨okDeep (deepR (fun _ => rfl)) _, trivial⟩ [] (by simp) trivial rfl (fun x hx => by rw [List.mem_singleton.1 hx]; rfl) ?_ ?_
  · simp [AV.ren, AV.ren0, tau]
  · simp only [setIds, List.drop_nil, List.length_nil, List.drop_zero, List.map_cons, List.map_nil]
    rw [ren_deepB (deepR (fun _ => rfl))]
theorem posI_next {b : List Chg} {k : Nat} (hk : k ≤ b.length) (hall : ∀ i (h : i < b.length), i < k → b[i].2 ≤ 0) (hne : k ≠ posI b) : ∃ h : k < b.length, b[k].2 ≤ 0 := by
  rcases Nat.lt_or_ge k b.length with h | h
  · refine ⟨h, ?_⟩
    apply Classical.byContradiction
    intro hn
    refine hne ((List.findIdx_eq h).2 ⟨?_, fun j hj => ?_⟩).symm
    · exact decide_eq_true (by omega)
    · exact decide_eq_false (by have := hall j (by omega) hj; omega)
  · refine absurd ?_ hne
    have : posI b = b.length := List.findIdx_eq_length.2 fun x hx => by
      obtain ⟨i, hi, rfl⟩ := List.getElem_of_mem hx
      have := hall i hi (by omega)
      rw [decide_eq_false (by omega)]
    omega
theorem negI_next {b : List Chg} {k : Nat} (hk : k ≤ b.length) (hall : ∀ i (h : i < b.length), i < k → 0 ≤ b[i].2) (hne : k ≠ negI b) : ∃ h : k < b.length, 0 ≤ b[k].2 := by
  rcases Nat.lt_or_ge k b.length with h | h
  · refine ⟨h, ?_⟩
    apply Classical.byContradiction
    intro hn
    refine hne ((List.findIdx_eq h).2 ⟨?_, fun j hj => ?_⟩).symm
    · exact decide_eq_true (by omega)
    · exact decide_eq_false (by have := hall j (by omega) hj; omega)
  · refine absurd ?_ hne
    have : negI b = b.length := List.findIdx_eq_length.2 fun x hx => by
      obtain ⟨i, hi, rfl⟩ := List.getElem_of_mem hx
      have := hall i hi (by omega)
      rw [decide_eq_false (by omega)]
    omega
theorem at_none {b : List Chg} {k : Nat} (hk : k ≤ b.length) (h : b[k]? = none) : k = b.length := by have := List.getElem?_eq_none_iff.1 h; omega
abbrev hS (b : List Chg) (out : List Posting) : AH := [.rows [[.sc (.slice none 0 0), vi 0]] 70, .rows (b.map chE) 74, .rows (out.map Posting.enc) 61]
abbrev frS (B : List Chg) (out : List Posting) : Fr := [(2, .pm 0 0 0), (3, .sm 1 2 0 B.length), (4, .sm 2 5 0 out.length)]
theorem rsettle_ok (t : Bool) (l : List Posting) (hok : ∀ p ∈ l, p.ok) (hmax : l.length ≤ 200) : Pu Tryz.prog G1 40 [postings t l] (if (settleOf l).1 = 2 then .agg [.sc (.slice none 0 0), vi 2] else .agg [postings false (settleOf l).2, vi 0]) := by
  have hb := rbalances_at t hok (by omega) [.rows [[.sc (.slice none 0 0), vi 0]] 70] 1 rfl
  have hbl := balsOf_len l
  have hab := absB_bals hok (by omega)
  have hnz : nz (balsOf l) ≤ (balsOf l).length := List.countP_le_length
  unfold settleOf
  generalize balsOf l = B at *
  generalize hR0 : settleF (nz B + 1) B [] = R at *
  refine Pu.of_ev (T := Tryz.tab) (n := 102) (tryd_ok _) Tryz.func40 rfl rfl rfl (by first | rfl | (split <;> rfl)) (by simp) ?_
  ((conv => whnf); repeat' ((first | refine CallN.efD hb ?_ | refine RowN.row2 (by first | omega | (show _ = _ + 1; omega)) ?_ | refine RowN.row1 (by first | omega | (show _ = _ + 1; omega)) ?_ | refine RowN.rowB (by first | omega | (show _ = _ + 1; omega)) ?_ | refine RowSN.row2 (by first | omega | (show _ = _ + 1; omega)) ?_ | refine RowSN.row1 (by first | omega | (show _ = _ + 1; omega)) ?_ | refine RowSN.rowB (by first | omega | (show _ = _ + 1; omega)) ?_ | refine IxN.mk _ rfl ?_ | refine shr_ok rfl rfl ?_ | refine WrapN.inU ⟨by omega, by omega⟩ ?_ | refine vv1 ?_ | refine vv2 ?_ | refine vv3 ?_ | refine vv4 ?_ | refine vv5 ?_ | refine vv6 ?_ | refine vv7 ?_ | refine vv8 ?_ | refine vv9 ?_ | refine vv10 ?_ | refine vv11 (fun hbr => ?_) (fun hbr => ?_) | refine vv12 (fun hbr => ?_) (fun hbr => ?_) | refine vv13 ?_ | refine vv14 ?_ | refine vv15 ?_ | refine vv16 ?_ | refine vv17 (fun hbr => ?_) (fun hbr => ?_) | refine vv18 ?_ | refine vv19 (fun hbr => ?_) (fun hbr => ?_) | refine vv20 ?_ | refine SlIdxN.map _ rfl (by first | assumption | omega) ?_ | refine SlIdxN.mapPred (by omega) (by omega) ?_ | refine SlIdxN.mapSucc (by omega) ?_ | refine SlIdxN.lit _ _ rfl rfl ?_ | refine SlIdxN.mapInt (by omega) (by omega) ?_ | refine IdxN.at0 _ rfl (by first | assumption | omega | (simp <;> omega)) ?_ | refine vv21 ?_ | refine RowN.map (by first | assumption | omega) ?_ | refine vv22 ?_ | refine RowSN.map (by first | assumption | omega) ?_ | refine vv23 ?_ | refine vv24 ?_ | refine vv25 ?_ | refine Need.mk (by first | assumption | omega | (simp <;> omega)) ?_ | refine DrawN.gen (by first | exact tryd_ok _ | exact tryd_okm _ _) (by kernel_rfl) ?_ | refine vv26 ?_ | refine vv27 ?_ | refine vv28 ?_ | refine vv29 ?_ | refine vv30 ?_ | refine vv31 ?_ | refine vv32 ?_ | refine vv33 ?_) <;> (conv => whnf)))
  refine LoopN.of3 (tryd_okg 0 _) (fun (f : Nat) (b : List Chg) (out : List Posting) => frS B out) (fun f b out => hS b out) (fun f _ _ => f) (fun f b out => nz b < f ∧ settleF f b out = R ∧ b.length = B.length ∧ out.length + nz b ≤ nz B ∧ AbsB b) (nz B + 1) B [] ⟨by omega, hR0, rfl, by simp, hab⟩
    ((Reabs.virt 4 5 61 rfl).trans (Reabs.frmM [0, 1, 2] (by repeat (first | exact trivial | refine ⟨.inr ⟨rfl, rfl⟩, ?_⟩ | refine ⟨.inr ⟨rfl, vi_eq (by first | omega | (simp; done) | (simp; omega))⟩, ?_⟩ | refine ⟨.inr ⟨rfl, smE rfl (by first | omega | (simp; done) | (simp; omega))⟩, ?_⟩)) (by repeat (first | exact trivial | refine ⟨⟨_, rfl, (by first | exact blkDead | exact blkDeep rfl (deepLit rfl) | exact blkDeep rfl (deepMap (fun _ => rfl)) | exact blkOk rfl rfl | exact blkLoop rfl rfl), (by first | exact fun _ => rfl | exact fun h => (by cases h))⟩, ?_⟩)) rfl rfl)) ?_
  rintro f b out ⟨hf, hR, hbl2, hol, hab⟩
  obtain ⟨f, rfl⟩ : ∃ f', f = f' + 1 := ⟨f - 1, by omega⟩
  subst hR
  clear hR0
  ((conv => whnf); repeat' ((first | refine vv1 ?_ | refine vv2 ?_ | refine vv3 ?_ | refine vv4 ?_ | refine vv5 ?_ | refine vv6 ?_ | refine vv7 ?_ | refine vv8 ?_ | refine vv9 ?_ | refine vv10 ?_ | refine vv11 (fun hbr => ?_) (fun hbr => ?_) | refine vv12 (fun hbr => ?_) (fun hbr => ?_) | refine vv13 ?_ | refine vv14 ?_ | refine vv15 ?_ | refine vv16 ?_ | refine vv17 (fun hbr => ?_) (fun hbr => ?_) | refine vv18 ?_ | refine vv19 (fun hbr => ?_) (fun hbr => ?_) | refine vv20 ?_ | refine SlIdxN.map _ rfl (by first | assumption | omega) ?_ | refine SlIdxN.mapPred (by omega) (by omega) ?_ | refine SlIdxN.mapSucc (by omega) ?_ | refine SlIdxN.lit _ _ rfl rfl ?_ | refine SlIdxN.mapInt (by omega) (by omega) ?_ | refine IdxN.at0 _ rfl (by first | assumption | omega | (simp <;> omega)) ?_ | refine vv21 ?_ | refine RowN.map (by first | assumption | omega) ?_ | refine vv22 ?_ | refine RowSN.map (by first | assumption | omega) ?_ | refine vv23 ?_ | refine vv24 ?_ | refine vv25 ?_ | refine Need.mk (by first | assumption | omega | (simp <;> omega)) ?_ | refine DrawN.gen (by first | exact tryd_ok _ | exact tryd_okm _ _) (by kernel_rfl) ?_ | refine vv26 ?_ | refine vv27 ?_ | refine vv28 ?_ | refine vv29 ?_ | refine vv30 ?_ | refine vv31 ?_ | refine vv32 ?_ | refine vv33 ?_) <;> (conv => whnf)))
  refine LoopN.of (tryd_okg 0 _) (fun (k : Nat) => (5, vi k) :: frS B out) (fun _ => hS b out) (fun k => b.length - k) (fun k => k ≤ b.length ∧ ∀ i (h : i < b.length), i < k → b[i].2 ≤ 0) 0 ⟨Nat.zero_le _, fun i h hi => by omega⟩ (Reabs.frmM [0, 1, 2] (by repeat (first | exact trivial | refine ⟨.inr ⟨rfl, rfl⟩, ?_⟩ | refine ⟨.inr ⟨rfl, vi_eq (by first | omega | (simp; done) | (simp; omega))⟩, ?_⟩ | refine ⟨.inr ⟨rfl, smE rfl (by first | omega | (simp; done) | (simp; omega))⟩, ?_⟩)) (by repeat (first | exact trivial | refine ⟨⟨_, rfl, (by first | exact blkDead | exact blkDeep rfl (deepLit rfl) | exact blkDeep rfl (deepMap (fun _ => rfl)) | exact blkOk rfl rfl | exact blkLoop rfl rfl), (by first | exact fun _ => rfl | exact fun h => (by cases h))⟩, ?_⟩)) rfl rfl) ?_
  rintro k ⟨hk, hall⟩
  by_cases hkp : k = posI b
  case neg =>
    obtain ⟨hlt, hle⟩ := posI_next hk hall hkp
    ((conv => whnf); repeat' ((first | refine vv1 ?_ | refine vv2 ?_ | refine vv3 ?_ | refine vv4 ?_ | refine vv5 ?_ | refine vv6 ?_ | refine vv7 ?_ | refine vv8 ?_ | refine vv9 ?_ | refine vv10 ?_ | refine vv11 (fun hbr => ?_) (fun hbr => ?_) | refine vv12 (fun hbr => ?_) (fun hbr => ?_) | refine vv13 ?_ | refine vv14 ?_ | refine vv15 ?_ | refine vv16 ?_ | refine vv17 (fun hbr => ?_) (fun hbr => ?_) | refine vv18 ?_ | refine vv19 (fun hbr => ?_) (fun hbr => ?_) | refine vv20 ?_ | refine SlIdxN.map _ rfl (by first | assumption | omega) ?_ | refine SlIdxN.mapPred (by omega) (by omega) ?_ | refine SlIdxN.mapSucc (by omega) ?_ | refine SlIdxN.lit _ _ rfl rfl ?_ | refine SlIdxN.mapInt (by omega) (by omega) ?_ | refine IdxN.at0 _ rfl (by first | assumption | omega | (simp <;> omega)) ?_ | refine vv21 ?_ | refine RowN.map (by first | assumption | omega) ?_ | refine vv22 ?_ | refine RowSN.map (by first | assumption | omega) ?_ | refine vv23 ?_ | refine vv24 ?_ | refine vv25 ?_ | refine Need.mk (by first | assumption | omega | (simp <;> omega)) ?_ | refine DrawN.gen (by first | exact tryd_ok _ | exact tryd_okm _ _) (by kernel_rfl) ?_ | refine vv26 ?_ | refine vv27 ?_ | refine vv28 ?_ | refine vv29 ?_ | refine vv30 ?_ | refine vv31 ?_ | refine vv32 ?_ | refine vv33 ?_) <;> (conv => whnf)))
    refine BackN.mk (k + 1) ⟨by omega, fun i h hi => ?_⟩ (by omega) (Reabs.frmM [0, 1, 2] (by repeat (first | exact trivial | refine ⟨.inr ⟨rfl, rfl⟩, ?_⟩ | refine ⟨.inr ⟨rfl, vi_eq (by first | omega | (simp; done) | (simp; omega))⟩, ?_⟩ | refine ⟨.inr ⟨rfl, smE rfl (by first | omega | (simp; done) | (simp; omega))⟩, ?_⟩)) (by repeat (first | exact trivial | refine ⟨⟨_, rfl, (by first | exact blkDead | exact blkDeep rfl (deepLit rfl) | exact blkDeep rfl (deepMap (fun _ => rfl)) | exact blkOk rfl rfl | exact blkLoop rfl rfl), (by first | exact fun _ => rfl | exact fun h => (by cases h))⟩, ?_⟩)) rfl rfl)
    by_cases hq : i = k
    · subst hq; exact hle
    · exact hall i h (by omega)
  clear hall
  cases hx : b[posI b]? with
  | none =>
    rw [settleF_0 (.inl hx)]
    rw [← hkp] at hx
    have hkl := at_none hk hx
    ((conv => whnf); repeat' ((first | refine vv1 ?_ | refine vv2 ?_ | refine vv3 ?_ | refine vv4 ?_ | refine vv5 ?_ | refine vv6 ?_ | refine vv7 ?_ | refine vv8 ?_ | refine vv9 ?_ | refine vv10 ?_ | refine vv11 (fun hbr => ?_) (fun hbr => ?_) | refine vv12 (fun hbr => ?_) (fun hbr => ?_) | refine vv13 ?_ | refine vv14 ?_ | refine vv15 ?_ | refine vv16 ?_ | refine vv17 (fun hbr => ?_) (fun hbr => ?_) | refine vv18 ?_ | refine vv19 (fun hbr => ?_) (fun hbr => ?_) | refine vv20 ?_ | refine SlIdxN.map _ rfl (by first | assumption | omega) ?_ | refine SlIdxN.mapPred (by omega) (by omega) ?_ | refine SlIdxN.mapSucc (by omega) ?_ | refine SlIdxN.lit _ _ rfl rfl ?_ | refine SlIdxN.mapInt (by omega) (by omega) ?_ | refine IdxN.at0 _ rfl (by first | assumption | omega | (simp <;> omega)) ?_ | refine vv21 ?_ | refine RowN.map (by first | assumption | omega) ?_ | refine vv22 ?_ | refine RowSN.map (by first | assumption | omega) ?_ | refine vv23 ?_ | refine vv24 ?_ | refine vv25 ?_ | refine Need.mk (by first | assumption | omega | (simp <;> omega)) ?_ | refine DrawN.gen (by first | exact tryd_ok _ | exact tryd_okm _ _) (by kernel_rfl) ?_ | refine vv26 ?_ | refine vv27 ?_ | refine vv28 ?_ | refine vv29 ?_ | refine vv30 ?_ | refine vv31 ?_ | refine vv32 ?_ | refine vv33 ?_) <;> (conv => whnf)))
    refine LoopN.of (tryd_okg 0 _) (fun (m : Nat) => (5, vi k) :: (6, vi m) :: frS B out) (fun _ => hS b out) (fun m => b.length - m) (fun m => m ≤ b.length ∧ ∀ i (h : i < b.length), i < m → 0 ≤ b[i].2) 0 ⟨Nat.zero_le _, fun i h hi => by omega⟩ (Reabs.frmM [0, 1, 2] (by repeat (first | exact trivial | refine ⟨.inr ⟨rfl, rfl⟩, ?_⟩ | refine ⟨.inr ⟨rfl, vi_eq (by first | omega | (simp; done) | (simp; omega))⟩, ?_⟩ | refine ⟨.inr ⟨rfl, smE rfl (by first | omega | (simp; done) | (simp; omega))⟩, ?_⟩)) (by repeat (first | exact trivial | refine ⟨⟨_, rfl, (by first | exact blkDead | exact blkDeep rfl (deepLit rfl) | exact blkDeep rfl (deepMap (fun _ => rfl)) | exact blkOk rfl rfl | exact blkLoop rfl rfl), (by first | exact fun _ => rfl | exact fun h => (by cases h))⟩, ?_⟩)) rfl rfl) ?_
    rintro m ⟨hm, hall⟩
    by_cases hmp : m = negI b
    case neg =>
      obtain ⟨hlt, hle⟩ := negI_next hm hall hmp
      ((conv => whnf); repeat' ((first | refine vv1 ?_ | refine vv2 ?_ | refine vv3 ?_ | refine vv4 ?_ | refine vv5 ?_ | refine vv6 ?_ | refine vv7 ?_ | refine vv8 ?_ | refine vv9 ?_ | refine vv10 ?_ | refine vv11 (fun hbr => ?_) (fun hbr => ?_) | refine vv12 (fun hbr => ?_) (fun hbr => ?_) | refine vv13 ?_ | refine vv14 ?_ | refine vv15 ?_ | refine vv16 ?_ | refine vv17 (fun hbr => ?_) (fun hbr => ?_) | refine vv18 ?_ | refine vv19 (fun hbr => ?_) (fun hbr => ?_) | refine vv20 ?_ | refine SlIdxN.map _ rfl (by first | assumption | omega) ?_ | refine SlIdxN.mapPred (by omega) (by omega) ?_ | refine SlIdxN.mapSucc (by omega) ?_ | refine SlIdxN.lit _ _ rfl rfl ?_ | refine SlIdxN.mapInt (by omega) (by omega) ?_ | refine IdxN.at0 _ rfl (by first | assumption | omega | (simp <;> omega)) ?_ | refine vv21 ?_ | refine RowN.map (by first | assumption | omega) ?_ | refine vv22 ?_ | refine RowSN.map (by first | assumption | omega) ?_ | refine vv23 ?_ | refine vv24 ?_ | refine vv25 ?_ | refine Need.mk (by first | assumption | omega | (simp <;> omega)) ?_ | refine DrawN.gen (by first | exact tryd_ok _ | exact tryd_okm _ _) (by kernel_rfl) ?_ | refine vv26 ?_ | refine vv27 ?_ | refine vv28 ?_ | refine vv29 ?_ | refine vv30 ?_ | refine vv31 ?_ | refine vv32 ?_ | refine vv33 ?_) <;> (conv => whnf)))
      refine BackN.mk (m + 1) ⟨by omega, fun i h hi => ?_⟩ (by omega) (Reabs.frmM [0, 1, 2] (by repeat (first | exact trivial | refine ⟨.inr ⟨rfl, rfl⟩, ?_⟩ | refine ⟨.inr ⟨rfl, vi_eq (by first | omega | (simp; done) | (simp; omega))⟩, ?_⟩ | refine ⟨.inr ⟨rfl, smE rfl (by first | omega | (simp; done) | (simp; omega))⟩, ?_⟩)) (by repeat (first | exact trivial | refine ⟨⟨_, rfl, (by first | exact blkDead | exact blkDeep rfl (deepLit rfl) | exact blkDeep rfl (deepMap (fun _ => rfl)) | exact blkOk rfl rfl | exact blkLoop rfl rfl), (by first | exact fun _ => rfl | exact fun h => (by cases h))⟩, ?_⟩)) rfl rfl)
      by_cases hq : i = m
      · subst hq; exact hle
      · exact hall i h (by omega)
    clear hall
    cases hy : b[negI b]? with
    | none =>
      rw [← hmp] at hy
      have hml := at_none hm hy
      ((conv => whnf); repeat' ((first | refine vv1 ?_ | refine vv2 ?_ | refine vv3 ?_ | refine vv4 ?_ | refine vv5 ?_ | refine vv6 ?_ | refine vv7 ?_ | refine vv8 ?_ | refine vv9 ?_ | refine vv10 ?_ | refine vv11 (fun hbr => ?_) (fun hbr => ?_) | refine vv12 (fun hbr => ?_) (fun hbr => ?_) | refine vv13 ?_ | refine vv14 ?_ | refine vv15 ?_ | refine vv16 ?_ | refine vv17 (fun hbr => ?_) (fun hbr => ?_) | refine vv18 ?_ | refine vv19 (fun hbr => ?_) (fun hbr => ?_) | refine vv20 ?_ | refine SlIdxN.map _ rfl (by first | assumption | omega) ?_ | refine SlIdxN.mapPred (by omega) (by omega) ?_ | refine SlIdxN.mapSucc (by omega) ?_ | refine SlIdxN.lit _ _ rfl rfl ?_ | refine SlIdxN.mapInt (by omega) (by omega) ?_ | refine IdxN.at0 _ rfl (by first | assumption | omega | (simp <;> omega)) ?_ | refine vv21 ?_ | refine RowN.map (by first | assumption | omega) ?_ | refine vv22 ?_ | refine RowSN.map (by first | assumption | omega) ?_ | refine vv23 ?_ | refine vv24 ?_ | refine vv25 ?_ | refine Need.mk (by first | assumption | omega | (simp <;> omega)) ?_ | refine DrawN.gen (by first | exact tryd_ok _ | exact tryd_okm _ _) (by kernel_rfl) ?_ | refine vv26 ?_ | refine vv27 ?_ | refine vv28 ?_ | refine vv29 ?_ | refine vv30 ?_ | refine vv31 ?_ | refine vv32 ?_ | refine vv33 ?_) <;> (conv => whnf)))
      refine DoneN.frz 2 _ 61 rfl (deepR (fun _ => rfl)) (DoneN.pure ?_)
      show AV.agg [(AV.sm 2 5 0 _).frz0 2 _, _] = _
      rw [frz_all (by simp)]
      rfl
    | some y =>
      have hy2 := negI_get hy
      rw [← hmp] at hy
      obtain ⟨hml, rfl⟩ := List.getElem?_eq_some_iff.1 hy
      ((conv => whnf); repeat' ((first | refine vv1 ?_ | refine vv2 ?_ | refine vv3 ?_ | refine vv4 ?_ | refine vv5 ?_ | refine vv6 ?_ | refine vv7 ?_ | refine vv8 ?_ | refine vv9 ?_ | refine vv10 ?_ | refine vv11 (fun hbr => ?_) (fun hbr => ?_) | refine vv12 (fun hbr => ?_) (fun hbr => ?_) | refine vv13 ?_ | refine vv14 ?_ | refine vv15 ?_ | refine vv16 ?_ | refine vv17 (fun hbr => ?_) (fun hbr => ?_) | refine vv18 ?_ | refine vv19 (fun hbr => ?_) (fun hbr => ?_) | refine vv20 ?_ | refine SlIdxN.map _ rfl (by first | assumption | omega) ?_ | refine SlIdxN.mapPred (by omega) (by omega) ?_ | refine SlIdxN.mapSucc (by omega) ?_ | refine SlIdxN.lit _ _ rfl rfl ?_ | refine SlIdxN.mapInt (by omega) (by omega) ?_ | refine IdxN.at0 _ rfl (by first | assumption | omega | (simp <;> omega)) ?_ | refine vv21 ?_ | refine RowN.map (by first | assumption | omega) ?_ | refine vv22 ?_ | refine RowSN.map (by first | assumption | omega) ?_ | refine vv23 ?_ | refine vv24 ?_ | refine vv25 ?_ | refine Need.mk (by first | assumption | omega | (simp <;> omega)) ?_ | refine DrawN.gen (by first | exact tryd_ok _ | exact tryd_okm _ _) (by kernel_rfl) ?_ | refine vv26 ?_ | refine vv27 ?_ | refine vv28 ?_ | refine vv29 ?_ | refine vv30 ?_ | refine vv31 ?_ | refine vv32 ?_ | refine vv33 ?_) <;> (conv => whnf)))
      refine DoneN.frz 2 _ 61 rfl (deepR (fun _ => rfl)) (DoneN.pure ?_)
      show AV.agg [(AV.sm 2 5 0 _).frz0 2 _, _] = _
      rw [frz_all (by simp)]
      rfl
  | some x =>
    have hx2 := posI_get hx
    have hx' := hx
    rw [← hkp] at hx'
    obtain ⟨hkl, hxe⟩ := List.getElem?_eq_some_iff.1 hx'
    have hx3 : ¬ b[k].2 ≤ 0 := by rw [hxe]; omega
    ((conv => whnf); repeat' ((first | refine vv1 ?_ | refine vv2 ?_ | refine vv3 ?_ | refine vv4 ?_ | refine vv5 ?_ | refine vv6 ?_ | refine vv7 ?_ | refine vv8 ?_ | refine vv9 ?_ | refine vv10 ?_ | refine vv11 (fun hbr => ?_) (fun hbr => ?_) | refine vv12 (fun hbr => ?_) (fun hbr => ?_) | refine vv13 ?_ | refine vv14 ?_ | refine vv15 ?_ | refine vv16 ?_ | refine vv17 (fun hbr => ?_) (fun hbr => ?_) | refine vv18 ?_ | refine vv19 (fun hbr => ?_) (fun hbr => ?_) | refine vv20 ?_ | refine SlIdxN.map _ rfl (by first | assumption | omega) ?_ | refine SlIdxN.mapPred (by omega) (by omega) ?_ | refine SlIdxN.mapSucc (by omega) ?_ | refine SlIdxN.lit _ _ rfl rfl ?_ | refine SlIdxN.mapInt (by omega) (by omega) ?_ | refine IdxN.at0 _ rfl (by first | assumption | omega | (simp <;> omega)) ?_ | refine vv21 ?_ | refine RowN.map (by first | assumption | omega) ?_ | refine vv22 ?_ | refine RowSN.map (by first | assumption | omega) ?_ | refine vv23 ?_ | refine vv24 ?_ | refine vv25 ?_ | refine Need.mk (by first | assumption | omega | (simp <;> omega)) ?_ | refine DrawN.gen (by first | exact tryd_ok _ | exact tryd_okm _ _) (by kernel_rfl) ?_ | refine vv26 ?_ | refine vv27 ?_ | refine vv28 ?_ | refine vv29 ?_ | refine vv30 ?_ | refine vv31 ?_ | refine vv32 ?_ | refine vv33 ?_) <;> (conv => whnf)))
    refine LoopN.of (tryd_okg 0 _) (fun (m : Nat) => (5, vi k) :: (6, vi m) :: frS B out) (fun _ => hS b out) (fun m => b.length - m) (fun m => m ≤ b.length ∧ ∀ i (h : i < b.length), i < m → 0 ≤ b[i].2) 0 ⟨Nat.zero_le _, fun i h hi => by omega⟩ (Reabs.frmM [0, 1, 2] (by repeat (first | exact trivial | refine ⟨.inr ⟨rfl, rfl⟩, ?_⟩ | refine ⟨.inr ⟨rfl, vi_eq (by first | omega | (simp; done) | (simp; omega))⟩, ?_⟩ | refine ⟨.inr ⟨rfl, smE rfl (by first | omega | (simp; done) | (simp; omega))⟩, ?_⟩)) (by repeat (first | exact trivial | refine ⟨⟨_, rfl, (by first | exact blkDead | exact blkDeep rfl (deepLit rfl) | exact blkDeep rfl (deepMap (fun _ => rfl)) | exact blkOk rfl rfl | exact blkLoop rfl rfl), (by first | exact fun _ => rfl | exact fun h => (by cases h))⟩, ?_⟩)) rfl rfl) ?_
    rintro m ⟨hm, hall⟩
    by_cases hmp : m = negI b
    case neg =>
      obtain ⟨hlt, hle⟩ := negI_next hm hall hmp
      ((conv => whnf); repeat' ((first | refine vv1 ?_ | refine vv2 ?_ | refine vv3 ?_ | refine vv4 ?_ | refine vv5 ?_ | refine vv6 ?_ | refine vv7 ?_ | refine vv8 ?_ | refine vv9 ?_ | refine vv10 ?_ | refine vv11 (fun hbr => ?_) (fun hbr => ?_) | refine vv12 (fun hbr => ?_) (fun hbr => ?_) | refine vv13 ?_ | refine vv14 ?_ | refine vv15 ?_ | refine vv16 ?_ | refine vv17 (fun hbr => ?_) (fun hbr => ?_) | refine vv18 ?_ | refine vv19 (fun hbr => ?_) (fun hbr => ?_) | refine vv20 ?_ | refine SlIdxN.map _ rfl (by first | assumption | omega) ?_ | refine SlIdxN.mapPred (by omega) (by omega) ?_ | refine SlIdxN.mapSucc (by omega) ?_ | refine SlIdxN.lit _ _ rfl rfl ?_ | refine SlIdxN.mapInt (by omega) (by omega) ?_ | refine IdxN.at0 _ rfl (by first | assumption | omega | (simp <;> omega)) ?_ | refine vv21 ?_ | refine RowN.map (by first | assumption | omega) ?_ | refine vv22 ?_ | refine RowSN.map (by first | assumption | omega) ?_ | refine vv23 ?_ | refine vv24 ?_ | refine vv25 ?_ | refine Need.mk (by first | assumption | omega | (simp <;> omega)) ?_ | refine DrawN.gen (by first | exact tryd_ok _ | exact tryd_okm _ _) (by kernel_rfl) ?_ | refine vv26 ?_ | refine vv27 ?_ | refine vv28 ?_ | refine vv29 ?_ | refine vv30 ?_ | refine vv31 ?_ | refine vv32 ?_ | refine vv33 ?_) <;> (conv => whnf)))
      refine BackN.mk (m + 1) ⟨by omega, fun i h hi => ?_⟩ (by omega) (Reabs.frmM [0, 1, 2] (by repeat (first | exact trivial | refine ⟨.inr ⟨rfl, rfl⟩, ?_⟩ | refine ⟨.inr ⟨rfl, vi_eq (by first | omega | (simp; done) | (simp; omega))⟩, ?_⟩ | refine ⟨.inr ⟨rfl, smE rfl (by first | omega | (simp; done) | (simp; omega))⟩, ?_⟩)) (by repeat (first | exact trivial | refine ⟨⟨_, rfl, (by first | exact blkDead | exact blkDeep rfl (deepLit rfl) | exact blkDeep rfl (deepMap (fun _ => rfl)) | exact blkOk rfl rfl | exact blkLoop rfl rfl), (by first | exact fun _ => rfl | exact fun h => (by cases h))⟩, ?_⟩)) rfl rfl)
      by_cases hq : i = m
      · subst hq; exact hle
      · exact hall i h (by omega)
    clear hall
    cases hy : b[negI b]? with
    | none =>
      rw [settleF_0 (.inr hy)]
      rw [← hmp] at hy
      have hml := at_none hm hy
      ((conv => whnf); repeat' ((first | refine vv1 ?_ | refine vv2 ?_ | refine vv3 ?_ | refine vv4 ?_ | refine vv5 ?_ | refine vv6 ?_ | refine vv7 ?_ | refine vv8 ?_ | refine vv9 ?_ | refine vv10 ?_ | refine vv11 (fun hbr => ?_) (fun hbr => ?_) | refine vv12 (fun hbr => ?_) (fun hbr => ?_) | refine vv13 ?_ | refine vv14 ?_ | refine vv15 ?_ | refine vv16 ?_ | refine vv17 (fun hbr => ?_) (fun hbr => ?_) | refine vv18 ?_ | refine vv19 (fun hbr => ?_) (fun hbr => ?_) | refine vv20 ?_ | refine SlIdxN.map _ rfl (by first | assumption | omega) ?_ | refine SlIdxN.mapPred (by omega) (by omega) ?_ | refine SlIdxN.mapSucc (by omega) ?_ | refine SlIdxN.lit _ _ rfl rfl ?_ | refine SlIdxN.mapInt (by omega) (by omega) ?_ | refine IdxN.at0 _ rfl (by first | assumption | omega | (simp <;> omega)) ?_ | refine vv21 ?_ | refine RowN.map (by first | assumption | omega) ?_ | refine vv22 ?_ | refine RowSN.map (by first | assumption | omega) ?_ | refine vv23 ?_ | refine vv24 ?_ | refine vv25 ?_ | refine Need.mk (by first | assumption | omega | (simp <;> omega)) ?_ | refine DrawN.gen (by first | exact tryd_ok _ | exact tryd_okm _ _) (by kernel_rfl) ?_ | refine vv26 ?_ | refine vv27 ?_ | refine vv28 ?_ | refine vv29 ?_ | refine vv30 ?_ | refine vv31 ?_ | refine vv32 ?_ | refine vv33 ?_) <;> (conv => whnf)))
      refine DoneN.frz 2 _ 61 rfl (deepR (fun _ => rfl)) (DoneN.pure ?_)
      show AV.agg [(AV.sm 2 5 0 _).frz0 2 _, _] = _
      rw [frz_all (by simp)]
      rfl
    | some y =>
      have hy2 := negI_get hy
      have hy' := hy
      rw [← hmp] at hy'
      obtain ⟨hml, hye⟩ := List.getElem?_eq_some_iff.1 hy'
      have hy3 : ¬ 0 ≤ b[m].2 := by rw [hye]; omega
      have hne := pos_ne_neg hx hy
      have hpn := payN_bd hx2 hy2
      have hbx := hab x (List.mem_of_getElem? hx)
      have hby := hab y (List.mem_of_getElem? hy)
      have hnp := nz_pay hx hy
      have hpl : (payB b (posI b) (negI b) x y).length = b.length := by unfold payB; simp
      have hap := absB_pay hab hx hy
      rw [settleF_2 hx hy]
      have r0 := rows0 hx
      have r0' := rows0 hy
      have r1 := fun z => rows1 (i := posI b) z hy hne
      have hpb := payB_rows (b := b) (i := posI b) (j := negI b) (x := x) (y := y)
      have hl3 : k < B.length := by omega
      have hl4 : m < B.length := by omega
      generalize hq : payB b (posI b) (negI b) x y = b' at *
      rw [← hkp] at r0 r1 hpb hne
      rw [← hmp] at r0' r1 hpb hne
      have hkm : k ≠ m := hne
      clear hx hy hq hx' hy' hkp hmp hne
      unfold payN at *
      ((conv => whnf); repeat' ((first | refine RowN.raw r0 ?_ | refine RowN.raw r0' ?_ | refine RowSN.raw r0 ?_ | refine RowN.raw (r1 _) ?_ | refine RowSN.raw (r1 _) ?_ | refine RowN.row2 (by first | omega | (show _ = _ + 1; omega)) ?_ | refine RowN.row1 (by first | omega | (show _ = _ + 1; omega)) ?_ | refine RowN.rowB (by first | omega | (show _ = _ + 1; omega)) ?_ | refine RowSN.row2 (by first | omega | (show _ = _ + 1; omega)) ?_ | refine RowSN.row1 (by first | omega | (show _ = _ + 1; omega)) ?_ | refine RowSN.rowB (by first | omega | (show _ = _ + 1; omega)) ?_ | refine IxN.mk _ rfl ?_ | refine shr_ok rfl rfl ?_ | refine WrapN.inU ⟨by omega, by omega⟩ ?_ | refine vv1 ?_ | refine vv2 ?_ | refine vv3 ?_ | refine vv4 ?_ | refine vv5 ?_ | refine vv6 ?_ | refine vv7 ?_ | refine vv8 ?_ | refine vv9 ?_ | refine vv10 ?_ | refine vv11 (fun hbr => ?_) (fun hbr => ?_) | refine vv12 (fun hbr => ?_) (fun hbr => ?_) | refine vv13 ?_ | refine vv14 ?_ | refine vv15 ?_ | refine vv16 ?_ | refine vv17 (fun hbr => ?_) (fun hbr => ?_) | refine vv18 ?_ | refine vv19 (fun hbr => ?_) (fun hbr => ?_) | refine vv20 ?_ | refine SlIdxN.map _ rfl (by first | assumption | omega) ?_ | refine SlIdxN.mapPred (by omega) (by omega) ?_ | refine SlIdxN.mapSucc (by omega) ?_ | refine SlIdxN.lit _ _ rfl rfl ?_ | refine SlIdxN.mapInt (by omega) (by omega) ?_ | refine IdxN.at0 _ rfl (by first | assumption | omega | (simp <;> omega)) ?_ | refine vv21 ?_ | refine RowN.map (by first | assumption | omega) ?_ | refine vv22 ?_ | refine RowSN.map (by first | assumption | omega) ?_ | refine vv23 ?_ | refine vv24 ?_ | refine vv25 ?_ | refine Need.mk (by first | assumption | omega | (simp <;> omega)) ?_ | refine DrawN.gen (by first | exact tryd_ok _ | exact tryd_okm _ _) (by kernel_rfl) ?_ | refine vv26 ?_ | refine vv27 ?_ | refine vv28 ?_ | refine vv29 ?_ | refine vv30 ?_ | refine vv31 ?_ | refine vv32 ?_ | refine vv33 ?_) <;> (conv => whnf)))
      · refine DoneN.pure ?_
        rw [if_pos hbr, if_pos rfl]
      · rw [if_neg hbr]
        refine BackN3.mk f b' (out ++ [payP x y]) ⟨by omega, rfl, by omega, by simp; omega, hap⟩ (by omega) ?_
        exact Reabs.frmM [0, 1, 3] (by repeat (first | exact trivial | refine ⟨.inr ⟨rfl, rfl⟩, ?_⟩ | refine ⟨.inr ⟨rfl, vi_eq (by first | omega | (simp; done) | (simp; omega))⟩, ?_⟩ | refine ⟨.inr ⟨rfl, smE rfl (by first | omega | (simp; done) | (simp; omega))⟩, ?_⟩)) (by exact ⟨⟨_, rfl, blkDeep rfl (deepLit rfl), fun _ => rfl⟩, ⟨_, rfl, blkDeep (congrArg (fun r => ABlk.rows r 74) hpb) (deepMap (fun _ => rfl)), fun _ => rfl⟩, ⟨_, rfl, blkDeep (by rw [List.map_append]; rfl) (deepMap (fun _ => rfl)), fun _ => rfl⟩, trivial⟩) rfl rfl
theorem settle_err (t : Bool) (l : List Posting) (hmax : l.length ≤ 9223372036854775807) (h : (checkPost l).1 ≠ 0) : Pu Tryz.prog G1 39 [postings t l] (.tuple [.sc (.slice none 0 0), vi (checkPost l).1]) := by
  have hc := checkPost_ok t l hmax
  refine Pu.of_ev (T := Tryz.tab) (n := 79) (tryd_ok _) Tryz.func39 rfl rfl rfl (by first | rfl | (split <;> rfl)) (by simp) ?_
  ((conv => whnf); repeat' ((first | refine vv1 ?_ | refine vv2 ?_ | refine vv3 ?_ | refine vv4 ?_ | refine vv5 ?_ | refine vv6 ?_ | refine vv7 ?_ | refine vv8 ?_ | refine vv9 ?_ | refine vv10 ?_ | refine vv11 (fun hbr => ?_) (fun hbr => ?_) | refine vv12 (fun hbr => ?_) (fun hbr => ?_) | refine vv13 ?_ | refine vv14 ?_ | refine vv15 ?_ | refine vv16 ?_ | refine vv17 (fun hbr => ?_) (fun hbr => ?_) | refine vv18 ?_ | refine vv19 (fun hbr => ?_) (fun hbr => ?_) | refine vv20 ?_ | refine SlIdxN.map _ rfl (by first | assumption | omega) ?_ | refine SlIdxN.mapPred (by omega) (by omega) ?_ | refine SlIdxN.mapSucc (by omega) ?_ | refine SlIdxN.lit _ _ rfl rfl ?_ | refine SlIdxN.mapInt (by omega) (by omega) ?_ | refine IdxN.at0 _ rfl (by first | assumption | omega | (simp <;> omega)) ?_ | refine vv21 ?_ | refine RowN.map (by first | assumption | omega) ?_ | refine vv22 ?_ | refine RowSN.map (by first | assumption | omega) ?_ | refine vv23 ?_ | refine vv24 ?_ | refine vv25 ?_ | refine Need.mk (by first | assumption | omega | (simp <;> omega)) ?_ | refine DrawN.gen (by first | exact tryd_ok _ | exact tryd_okm _ _) (by kernel_rfl) ?_ | refine vv26 ?_ | refine vv27 ?_ | refine vv28 ?_ | refine vv29 ?_ | refine vv30 ?_ | refine vv31 ?_ | refine vv32 ?_ | refine vv33 ?_ | refine CallN.pure (hc) ?_ | refine GCallN.pure _ (hc) ?_ | refine GCallN.ef (hc) ?_) <;> (conv => whnf)))
  exact DoneN.pure rfl
theorem settleOf_len (l : List Posting) : (settleOf l).2.length ≤ nz (balsOf l) - 1 := by
  have := settleF_len (nz (balsOf l) + 1) (balsOf l) [] (by omega)
  simpa [settleOf] using this
theorem ratesSettles (t : Bool) (l : List Posting) (hmax : l.length ≤ 9223372036854775807) : Pu Tryz.prog G1 7 [postings t l] (vb true) := by
  have hsh := short_ok t l hmax
  by_cases hs : l.length ≤ 60
  case neg =>
    rw [decide_eq_false (by omega)] at hsh
    refine Pu.of_ev (T := Tryz.tab) (n := 46) (tryd_ok _) Tryz.func7 rfl rfl rfl (by first | rfl | (split <;> rfl)) (by simp) ?_
    ((conv => whnf); repeat' ((first | refine vv1 ?_ | refine vv2 ?_ | refine vv3 ?_ | refine vv4 ?_ | refine vv5 ?_ | refine vv6 ?_ | refine vv7 ?_ | refine vv8 ?_ | refine vv9 ?_ | refine vv10 ?_ | refine vv11 (fun hbr => ?_) (fun hbr => ?_) | refine vv12 (fun hbr => ?_) (fun hbr => ?_) | refine vv13 ?_ | refine vv14 ?_ | refine vv15 ?_ | refine vv16 ?_ | refine vv17 (fun hbr => ?_) (fun hbr => ?_) | refine vv18 ?_ | refine vv19 (fun hbr => ?_) (fun hbr => ?_) | refine vv20 ?_ | refine SlIdxN.map _ rfl (by first | assumption | omega) ?_ | refine SlIdxN.mapPred (by omega) (by omega) ?_ | refine SlIdxN.mapSucc (by omega) ?_ | refine SlIdxN.lit _ _ rfl rfl ?_ | refine SlIdxN.mapInt (by omega) (by omega) ?_ | refine IdxN.at0 _ rfl (by first | assumption | omega | (simp <;> omega)) ?_ | refine vv21 ?_ | refine RowN.map (by first | assumption | omega) ?_ | refine vv22 ?_ | refine RowSN.map (by first | assumption | omega) ?_ | refine vv23 ?_ | refine vv24 ?_ | refine vv25 ?_ | refine Need.mk (by first | assumption | omega | (simp <;> omega)) ?_ | refine DrawN.gen (by first | exact tryd_ok _ | exact tryd_okm _ _) (by kernel_rfl) ?_ | refine vv26 ?_ | refine vv27 ?_ | refine vv28 ?_ | refine vv29 ?_ | refine vv30 ?_ | refine vv31 ?_ | refine vv32 ?_ | refine vv33 ?_ | refine CallN.pure (hsh) ?_ | refine CallN.pure (sane_ok) ?_ | refine GCallN.pure _ (hsh) ?_ | refine GCallN.pure _ (sane_ok) ?_ | refine GCallN.ef (hsh) ?_ | refine GCallN.ef (sane_ok) ?_) <;> (conv => whnf)))
    exact DoneN.pure rfl
  rw [decide_eq_true (by omega)] at hsh
  have he := error_ok t l hmax
  by_cases hc : (checkPost l).1 = 0
  case neg =>
    have hse := settle_err t l hmax hc
    refine Pu.of_ev (T := Tryz.tab) (n := 46) (tryd_ok _) Tryz.func7 rfl rfl rfl (by first | rfl | (split <;> rfl)) (by simp) ?_
    ((conv => whnf); repeat' ((first | refine vv1 ?_ | refine vv2 ?_ | refine vv3 ?_ | refine vv4 ?_ | refine vv5 ?_ | refine vv6 ?_ | refine vv7 ?_ | refine vv8 ?_ | refine vv9 ?_ | refine vv10 ?_ | refine vv11 (fun hbr => ?_) (fun hbr => ?_) | refine vv12 (fun hbr => ?_) (fun hbr => ?_) | refine vv13 ?_ | refine vv14 ?_ | refine vv15 ?_ | refine vv16 ?_ | refine vv17 (fun hbr => ?_) (fun hbr => ?_) | refine vv18 ?_ | refine vv19 (fun hbr => ?_) (fun hbr => ?_) | refine vv20 ?_ | refine SlIdxN.map _ rfl (by first | assumption | omega) ?_ | refine SlIdxN.mapPred (by omega) (by omega) ?_ | refine SlIdxN.mapSucc (by omega) ?_ | refine SlIdxN.lit _ _ rfl rfl ?_ | refine SlIdxN.mapInt (by omega) (by omega) ?_ | refine IdxN.at0 _ rfl (by first | assumption | omega | (simp <;> omega)) ?_ | refine vv21 ?_ | refine RowN.map (by first | assumption | omega) ?_ | refine vv22 ?_ | refine RowSN.map (by first | assumption | omega) ?_ | refine vv23 ?_ | refine vv24 ?_ | refine vv25 ?_ | refine Need.mk (by first | assumption | omega | (simp <;> omega)) ?_ | refine DrawN.gen (by first | exact tryd_ok _ | exact tryd_okm _ _) (by kernel_rfl) ?_ | refine vv26 ?_ | refine vv27 ?_ | refine vv28 ?_ | refine vv29 ?_ | refine vv30 ?_ | refine vv31 ?_ | refine vv32 ?_ | refine vv33 ?_ | refine CallN.pure (hsh) ?_ | refine CallN.pure (he) ?_ | refine CallN.pure (hse) ?_ | refine CallN.pure (sane_ok) ?_ | refine GCallN.pure _ (hsh) ?_ | refine GCallN.pure _ (he) ?_ | refine GCallN.pure _ (hse) ?_ | refine GCallN.pure _ (sane_ok) ?_ | refine GCallN.ef (hsh) ?_ | refine GCallN.ef (he) ?_ | refine GCallN.ef (hse) ?_ | refine GCallN.ef (sane_ok) ?_) <;> (conv => whnf)))
    all_goals first
      | exact DoneN.pure rfl
      | (refine DoneN.pure ?_; simp; done)
      | trace_state
  rw [hc] at he
  obtain ⟨-, hok⟩ := checkPost_0 hc
  have h1 := settle_ok t l (checkPost_eq hc) (by omega)
  have h2 := rsettle_ok t l hok (by omega)
  have hl := settleOf_len l
  have hl2 : nz (balsOf l) ≤ (balsOf l).length := List.countP_le_length
  have hl3 := balsOf_len l
  generalize settleOf l = R at *
  obtain ⟨e, out⟩ := R
  simp only [settleRes] at h1 h2 hl
  have hsp := samePostings_ok false false out out (by omega) (by omega)
  rw [decide_eq_true rfl] at hsp
  have hsn : Pu Tryz.prog G1 41 [.sc (.slice none 0 0), .sc (.slice none 0 0)] (vb true) := by
    have := samePostings_ok false false [] [] (by simp) (by simp)
    exact Pu.nils this ⟨.inr ⟨rfl, 5, false, rfl⟩, .inr ⟨rfl, 5, false, rfl⟩, trivial⟩
  by_cases h : e = 2
  · rw [if_pos h] at h1 h2
    refine Pu.of_ev (T := Tryz.tab) (n := 46) (tryd_ok _) Tryz.func7 rfl rfl rfl (by first | rfl | (split <;> rfl)) (by simp) ?_
    ((conv => whnf); repeat' ((first | refine vv1 ?_ | refine vv2 ?_ | refine vv3 ?_ | refine vv4 ?_ | refine vv5 ?_ | refine vv6 ?_ | refine vv7 ?_ | refine vv8 ?_ | refine vv9 ?_ | refine vv10 ?_ | refine vv11 (fun hbr => ?_) (fun hbr => ?_) | refine vv12 (fun hbr => ?_) (fun hbr => ?_) | refine vv13 ?_ | refine vv14 ?_ | refine vv15 ?_ | refine vv16 ?_ | refine vv17 (fun hbr => ?_) (fun hbr => ?_) | refine vv18 ?_ | refine vv19 (fun hbr => ?_) (fun hbr => ?_) | refine vv20 ?_ | refine SlIdxN.map _ rfl (by first | assumption | omega) ?_ | refine SlIdxN.mapPred (by omega) (by omega) ?_ | refine SlIdxN.mapSucc (by omega) ?_ | refine SlIdxN.lit _ _ rfl rfl ?_ | refine SlIdxN.mapInt (by omega) (by omega) ?_ | refine IdxN.at0 _ rfl (by first | assumption | omega | (simp <;> omega)) ?_ | refine vv21 ?_ | refine RowN.map (by first | assumption | omega) ?_ | refine vv22 ?_ | refine RowSN.map (by first | assumption | omega) ?_ | refine vv23 ?_ | refine vv24 ?_ | refine vv25 ?_ | refine Need.mk (by first | assumption | omega | (simp <;> omega)) ?_ | refine DrawN.gen (by first | exact tryd_ok _ | exact tryd_okm _ _) (by kernel_rfl) ?_ | refine vv26 ?_ | refine vv27 ?_ | refine vv28 ?_ | refine vv29 ?_ | refine vv30 ?_ | refine vv31 ?_ | refine vv32 ?_ | refine vv33 ?_ | refine CallN.pure (hsh) ?_ | refine CallN.pure (he) ?_ | refine CallN.pure (h1) ?_ | refine CallN.pure (h2) ?_ | refine CallN.pure (hsn) ?_ | refine CallN.pure (sane_ok) ?_ | refine GCallN.pure _ (hsh) ?_ | refine GCallN.pure _ (he) ?_ | refine GCallN.pure _ (h1) ?_ | refine GCallN.pure _ (h2) ?_ | refine GCallN.pure _ (hsn) ?_ | refine GCallN.pure _ (sane_ok) ?_ | refine GCallN.ef (hsh) ?_ | refine GCallN.ef (he) ?_ | refine GCallN.ef (h1) ?_ | refine GCallN.ef (h2) ?_ | refine GCallN.ef (hsn) ?_ | refine GCallN.ef (sane_ok) ?_) <;> (conv => whnf)))
    all_goals first
      | exact DoneN.pure rfl
      | (refine DoneN.pure ?_; simp; done)
      | trace_state
  · rw [if_neg h] at h1 h2
    refine Pu.of_ev (T := Tryz.tab) (n := 46) (tryd_ok _) Tryz.func7 rfl rfl rfl (by first | rfl | (split <;> rfl)) (by simp) ?_
    ((conv => whnf); repeat' ((first | refine vv1 ?_ | refine vv2 ?_ | refine vv3 ?_ | refine vv4 ?_ | refine vv5 ?_ | refine vv6 ?_ | refine vv7 ?_ | refine vv8 ?_ | refine vv9 ?_ | refine vv10 ?_ | refine vv11 (fun hbr => ?_) (fun hbr => ?_) | refine vv12 (fun hbr => ?_) (fun hbr => ?_) | refine vv13 ?_ | refine vv14 ?_ | refine vv15 ?_ | refine vv16 ?_ | refine vv17 (fun hbr => ?_) (fun hbr => ?_) | refine vv18 ?_ | refine vv19 (fun hbr => ?_) (fun hbr => ?_) | refine vv20 ?_ | refine SlIdxN.map _ rfl (by first | assumption | omega) ?_ | refine SlIdxN.mapPred (by omega) (by omega) ?_ | refine SlIdxN.mapSucc (by omega) ?_ | refine SlIdxN.lit _ _ rfl rfl ?_ | refine SlIdxN.mapInt (by omega) (by omega) ?_ | refine IdxN.at0 _ rfl (by first | assumption | omega | (simp <;> omega)) ?_ | refine vv21 ?_ | refine RowN.map (by first | assumption | omega) ?_ | refine vv22 ?_ | refine RowSN.map (by first | assumption | omega) ?_ | refine vv23 ?_ | refine vv24 ?_ | refine vv25 ?_ | refine Need.mk (by first | assumption | omega | (simp <;> omega)) ?_ | refine DrawN.gen (by first | exact tryd_ok _ | exact tryd_okm _ _) (by kernel_rfl) ?_ | refine vv26 ?_ | refine vv27 ?_ | refine vv28 ?_ | refine vv29 ?_ | refine vv30 ?_ | refine vv31 ?_ | refine vv32 ?_ | refine vv33 ?_ | refine CallN.pure (hsh) ?_ | refine CallN.pure (he) ?_ | refine CallN.pure (h1) ?_ | refine CallN.pure (h2) ?_ | refine CallN.pure (hsp) ?_ | refine CallN.pure (sane_ok) ?_ | refine GCallN.pure _ (hsh) ?_ | refine GCallN.pure _ (he) ?_ | refine GCallN.pure _ (h1) ?_ | refine GCallN.pure _ (h2) ?_ | refine GCallN.pure _ (hsp) ?_ | refine GCallN.pure _ (sane_ok) ?_ | refine GCallN.ef (hsh) ?_ | refine GCallN.ef (he) ?_ | refine GCallN.ef (h1) ?_ | refine GCallN.ef (h2) ?_ | refine GCallN.ef (hsp) ?_ | refine GCallN.ef (sane_ok) ?_) <;> (conv => whnf)))
    all_goals first
      | exact DoneN.pure rfl
      | (refine DoneN.pure ?_; simp; done)
      | trace_state
end Go.Proofs.Ax
