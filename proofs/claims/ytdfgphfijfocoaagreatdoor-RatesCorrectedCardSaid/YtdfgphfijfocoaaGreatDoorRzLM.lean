import Derived.Test.YtdfgphfijfocoaaGreatDoorRzIJ
import Derived.Test.YtdfgphfijfocoaaGreatDoorAxG
import Derived.Test.YtdfgphfijfocoaaGreatDoorRbCo
namespace Go.Proofs.Ax
open Go Go.Proofs
set_option maxRecDepth 10000
set_option maxHeartbeats 4000000
/-! Balances that are not zero. -/
def keepB (b : List Chg) : List Chg := b.filter fun c => !decide (c.2 = 0)
theorem keepB_succ {b : List Chg} {k : Nat} (h : k < b.length) : keepB (b.take (k + 1)) = keepB (b.take k) ++ if b[k].2 = 0 then [] else [b[k]] := by
  unfold keepB
  rw [take_succ_snoc h, List.filter_append]
  by_cases hq : b[k].2 = 0 <;> simp [hq]
theorem keepB_len (b : List Chg) : (keepB b).length ≤ b.length := List.length_filter_le ..
theorem keepB_pre {b : List Chg} (h : ∀ c ∈ b, c.2 ≠ 0) : keepB b = b := List.filter_eq_self.2 fun c hc => by simpa using h c hc
theorem set_drop {r : List Chg} {i j : Nat} {c : Chg} (h : i < j) : (r.set i c).drop j = r.drop j := by
  refine List.ext_getElem? fun m => ?_
  rw [List.getElem?_drop, List.getElem?_drop, List.getElem?_set, if_neg (by omega)]
theorem set_take {r : List Chg} {i : Nat} {c : Chg} (h : i < r.length) : (r.set i c).take (i + 1) = r.take i ++ [c] := by
  rw [take_succ_snoc (by simpa using h), List.take_set_of_le (Nat.le_refl _), List.getElem_set_self]
theorem delete_ef (b : List Chg) (hmax : b.length ≤ 1000000) : Ef Tryz.prog G1 84 [.sm 0 2 0 b.length, .sc (.func (.func 85) #[] #[])] [.rows (b.map chE) 74] fun y H' => y = .sm 0 2 0 (keepB b).length ∧ H' = [.rows ((keepB b).map chE) 74] := by
  have hix := fun v hv => idxFunc_in 85 (fun c => decide (c.2 = 0)) nil1_ok b hmax [.rows (b.map chE) 74] 0 b.length rfl rfl v hv
  refine Ef.reabs (Ef.of_code (T := Tryz.tab) (n := 42) (tryd_okg 1 _) rfl Tryz.func84 rfl rfl (by simp) ?_)
  by_cases hi0 : b.findIdx (fun c => decide (c.2 = 0)) < b.length
  case neg =>
    have hall : ∀ c ∈ b, c.2 ≠ 0 := fun c hc => by
      have h1 := List.findIdx_le_length (xs := b) (p := fun c => decide (c.2 = 0))
      have := List.findIdx_eq_length.1 (show b.findIdx (fun c => decide (c.2 = 0)) = b.length by omega) c hc
      simpa using this
    have hx := hix (-1) (if_neg hi0).symm
    rw [keepB_pre hall]
    refine CodeN.of_ev (tryd_okg 1 _) ?_
    ((conv => whnf); repeat' ((first | refine CallN.efD hx ?_ | refine RowN.row2 (by first | omega | (show _ = _ + 1; omega)) ?_ | refine RowN.row1 (by first | omega | (show _ = _ + 1; omega)) ?_ | refine RowN.rowB (by first | omega | (show _ = _ + 1; omega)) ?_ | refine RowSN.row2 (by first | omega | (show _ = _ + 1; omega)) ?_ | refine RowSN.row1 (by first | omega | (show _ = _ + 1; omega)) ?_ | refine RowSN.rowB (by first | omega | (show _ = _ + 1; omega)) ?_ | refine IxN.mk _ rfl ?_ | refine shr_ok rfl rfl ?_ | refine WrapN.inU ⟨by omega, by omega⟩ ?_ | refine vv1 ?_ | refine vv2 ?_ | refine vv3 ?_ | refine vv4 ?_ | refine vv5 ?_ | refine vv6 ?_ | refine vv7 ?_ | refine vv8 ?_ | refine vv9 ?_ | refine vv10 ?_ | refine vv11 (fun hbr => ?_) (fun hbr => ?_) | refine vv12 (fun hbr => ?_) (fun hbr => ?_) | refine vv13 ?_ | refine vv14 ?_ | refine vv15 ?_ | refine vv16 ?_ | refine vv17 (fun hbr => ?_) (fun hbr => ?_) | refine vv18 ?_ | refine vv19 (fun hbr => ?_) (fun hbr => ?_) | refine vv20 ?_ | refine SlIdxN.map _ rfl (by first | assumption | omega) ?_ | refine SlIdxN.mapPred (by omega) (by omega) ?_ | refine SlIdxN.mapSucc (by omega) ?_ | refine SlIdxN.lit _ _ rfl rfl ?_ | refine SlIdxN.mapInt (by omega) (by omega) ?_ | refine IdxN.at0 _ rfl (by first | assumption | omega | (simp <;> omega)) ?_ | refine vv21 ?_ | refine RowN.map (by first | assumption | omega) ?_ | refine vv22 ?_ | refine RowSN.map (by first | assumption | omega) ?_ | refine vv23 ?_ | refine vv24 ?_ | refine vv25 ?_ | refine Need.mk (by first | assumption | omega | (simp <;> omega)) ?_ | refine DrawN.gen (by first | exact tryd_ok _ | exact tryd_okm _ _) (by kernel_rfl) ?_ | refine vv26 ?_ | refine vv27 ?_ | refine vv28 ?_ | refine vv29 ?_ | refine vv30 ?_ | refine vv31 ?_ | refine vv32 ?_ | refine vv33 ?_) <;> (conv => whnf)))
    refine ⟨⟨_, [.rows (b.map chE) 74], ?_, rfl, rfl⟩⟩
    exact Reabs.frmM [0] (by repeat (first | exact trivial | refine ⟨.inr ⟨rfl, rfl⟩, ?_⟩)) (by repeat (first | exact trivial | refine ⟨⟨_, rfl, (by first | exact blkDead | exact blkDeep rfl (deepLit rfl) | exact blkDeep rfl (deepMap (fun _ => rfl)) | exact blkOk rfl rfl | exact blkLoop rfl rfl), (by first | exact fun _ => rfl | exact fun h => (by cases h))⟩, ?_⟩)) rfl rfl
  have hx := hix _ (if_pos hi0).symm
  have hz := List.findIdx_getElem (w := hi0)
  have hz := of_decide_eq_true hz
  have hpre : ∀ i (h : i < b.length), i < b.findIdx (fun c => decide (c.2 = 0)) → b[i].2 ≠ 0 := fun i h hi => by
    have := List.not_of_lt_findIdx hi
    simpa using this
  generalize b.findIdx (fun c => decide (c.2 = 0)) = i0 at *
  have hk0 : keepB (b.take (i0 + 1)) = b.take i0 := by
    rw [keepB_succ hi0, if_pos hz, List.append_nil]
    refine keepB_pre fun c hc => ?_
    obtain ⟨i, hi, rfl⟩ := List.getElem_of_mem hc
    rw [List.length_take] at hi
    rw [List.getElem_take]
    exact hpre i (by omega) (by omega)
  refine CodeN.seqE (tryd_okg 1 _) ?_
  ((conv => whnf); repeat' ((first | refine CallN.efD hx ?_ | refine RowN.row2 (by first | omega | (show _ = _ + 1; omega)) ?_ | refine RowN.row1 (by first | omega | (show _ = _ + 1; omega)) ?_ | refine RowN.rowB (by first | omega | (show _ = _ + 1; omega)) ?_ | refine RowSN.row2 (by first | omega | (show _ = _ + 1; omega)) ?_ | refine RowSN.row1 (by first | omega | (show _ = _ + 1; omega)) ?_ | refine RowSN.rowB (by first | omega | (show _ = _ + 1; omega)) ?_ | refine IxN.mk _ rfl ?_ | refine shr_ok rfl rfl ?_ | refine WrapN.inU ⟨by omega, by omega⟩ ?_ | refine vv1 ?_ | refine vv2 ?_ | refine vv3 ?_ | refine vv4 ?_ | refine vv5 ?_ | refine vv6 ?_ | refine vv7 ?_ | refine vv8 ?_ | refine vv9 ?_ | refine vv10 ?_ | refine vv11 (fun hbr => ?_) (fun hbr => ?_) | refine vv12 (fun hbr => ?_) (fun hbr => ?_) | refine vv13 ?_ | refine vv14 ?_ | refine vv15 ?_ | refine vv16 ?_ | refine vv17 (fun hbr => ?_) (fun hbr => ?_) | refine vv18 ?_ | refine vv19 (fun hbr => ?_) (fun hbr => ?_) | refine vv20 ?_ | refine SlIdxN.map _ rfl (by first | assumption | omega) ?_ | refine SlIdxN.mapPred (by omega) (by omega) ?_ | refine SlIdxN.mapSucc (by omega) ?_ | refine SlIdxN.lit _ _ rfl rfl ?_ | refine SlIdxN.mapInt (by omega) (by omega) ?_ | refine IdxN.at0 _ rfl (by first | assumption | omega | (simp <;> omega)) ?_ | refine vv21 ?_ | refine RowN.map (by first | assumption | omega) ?_ | refine vv22 ?_ | refine RowSN.map (by first | assumption | omega) ?_ | refine vv23 ?_ | refine vv24 ?_ | refine vv25 ?_ | refine Need.mk (by first | assumption | omega | (simp <;> omega)) ?_ | refine DrawN.gen (by first | exact tryd_ok _ | exact tryd_okm _ _) (by kernel_rfl) ?_ | refine vv26 ?_ | refine vv27 ?_ | refine vv28 ?_ | refine vv29 ?_ | refine vv30 ?_ | refine vv31 ?_ | refine vv32 ?_ | refine vv33 ?_) <;> (conv => whnf)))
  refine CodeN.seqE (tryd_okg 1 _) ?_
  ((conv => whnf); repeat' ((first | refine CallN.efD hx ?_ | refine RowN.row2 (by first | omega | (show _ = _ + 1; omega)) ?_ | refine RowN.row1 (by first | omega | (show _ = _ + 1; omega)) ?_ | refine RowN.rowB (by first | omega | (show _ = _ + 1; omega)) ?_ | refine RowSN.row2 (by first | omega | (show _ = _ + 1; omega)) ?_ | refine RowSN.row1 (by first | omega | (show _ = _ + 1; omega)) ?_ | refine RowSN.rowB (by first | omega | (show _ = _ + 1; omega)) ?_ | refine IxN.mk _ rfl ?_ | refine shr_ok rfl rfl ?_ | refine WrapN.inU ⟨by omega, by omega⟩ ?_ | refine vv1 ?_ | refine vv2 ?_ | refine vv3 ?_ | refine vv4 ?_ | refine vv5 ?_ | refine vv6 ?_ | refine vv7 ?_ | refine vv8 ?_ | refine vv9 ?_ | refine vv10 ?_ | refine vv11 (fun hbr => ?_) (fun hbr => ?_) | refine vv12 (fun hbr => ?_) (fun hbr => ?_) | refine vv13 ?_ | refine vv14 ?_ | refine vv15 ?_ | refine vv16 ?_ | refine vv17 (fun hbr => ?_) (fun hbr => ?_) | refine vv18 ?_ | refine vv19 (fun hbr => ?_) (fun hbr => ?_) | refine vv20 ?_ | refine SlIdxN.map _ rfl (by first | assumption | omega) ?_ | refine SlIdxN.mapPred (by omega) (by omega) ?_ | refine SlIdxN.mapSucc (by omega) ?_ | refine SlIdxN.lit _ _ rfl rfl ?_ | refine SlIdxN.mapInt (by omega) (by omega) ?_ | refine IdxN.at0 _ rfl (by first | assumption | omega | (simp <;> omega)) ?_ | refine vv21 ?_ | refine RowN.map (by first | assumption | omega) ?_ | refine vv22 ?_ | refine RowSN.map (by first | assumption | omega) ?_ | refine vv23 ?_ | refine vv24 ?_ | refine vv25 ?_ | refine Need.mk (by first | assumption | omega | (simp <;> omega)) ?_ | refine DrawN.gen (by first | exact tryd_ok _ | exact tryd_okm _ _) (by kernel_rfl) ?_ | refine vv26 ?_ | refine vv27 ?_ | refine vv28 ?_ | refine vv29 ?_ | refine vv30 ?_ | refine vv31 ?_ | refine vv32 ?_ | refine vv33 ?_) <;> (conv => whnf)))
  refine CodeN.seqE (tryd_okg 1 _) ?_
  ((conv => whnf); repeat' ((first | refine CallN.efD hx ?_ | refine RowN.row2 (by first | omega | (show _ = _ + 1; omega)) ?_ | refine RowN.row1 (by first | omega | (show _ = _ + 1; omega)) ?_ | refine RowN.rowB (by first | omega | (show _ = _ + 1; omega)) ?_ | refine RowSN.row2 (by first | omega | (show _ = _ + 1; omega)) ?_ | refine RowSN.row1 (by first | omega | (show _ = _ + 1; omega)) ?_ | refine RowSN.rowB (by first | omega | (show _ = _ + 1; omega)) ?_ | refine IxN.mk _ rfl ?_ | refine shr_ok rfl rfl ?_ | refine WrapN.inU ⟨by omega, by omega⟩ ?_ | refine vv1 ?_ | refine vv2 ?_ | refine vv3 ?_ | refine vv4 ?_ | refine vv5 ?_ | refine vv6 ?_ | refine vv7 ?_ | refine vv8 ?_ | refine vv9 ?_ | refine vv10 ?_ | refine vv11 (fun hbr => ?_) (fun hbr => ?_) | refine vv12 (fun hbr => ?_) (fun hbr => ?_) | refine vv13 ?_ | refine vv14 ?_ | refine vv15 ?_ | refine vv16 ?_ | refine vv17 (fun hbr => ?_) (fun hbr => ?_) | refine vv18 ?_ | refine vv19 (fun hbr => ?_) (fun hbr => ?_) | refine vv20 ?_ | refine SlIdxN.map _ rfl (by first | assumption | omega) ?_ | refine SlIdxN.mapPred (by omega) (by omega) ?_ | refine SlIdxN.mapSucc (by omega) ?_ | refine SlIdxN.lit _ _ rfl rfl ?_ | refine SlIdxN.mapInt (by omega) (by omega) ?_ | refine IdxN.at0 _ rfl (by first | assumption | omega | (simp <;> omega)) ?_ | refine vv21 ?_ | refine RowN.map (by first | assumption | omega) ?_ | refine vv22 ?_ | refine RowSN.map (by first | assumption | omega) ?_ | refine vv23 ?_ | refine vv24 ?_ | refine vv25 ?_ | refine Need.mk (by first | assumption | omega | (simp <;> omega)) ?_ | refine DrawN.gen (by first | exact tryd_ok _ | exact tryd_okm _ _) (by kernel_rfl) ?_ | refine vv26 ?_ | refine vv27 ?_ | refine vv28 ?_ | refine vv29 ?_ | refine vv30 ?_ | refine vv31 ?_ | refine vv32 ?_ | refine vv33 ?_) <;> (conv => whnf)))
  refine CodeN.seqE (tryd_okg 1 _) ?_
  ((conv => whnf); repeat' ((first | refine CallN.efD hx ?_ | refine RowN.row2 (by first | omega | (show _ = _ + 1; omega)) ?_ | refine RowN.row1 (by first | omega | (show _ = _ + 1; omega)) ?_ | refine RowN.rowB (by first | omega | (show _ = _ + 1; omega)) ?_ | refine RowSN.row2 (by first | omega | (show _ = _ + 1; omega)) ?_ | refine RowSN.row1 (by first | omega | (show _ = _ + 1; omega)) ?_ | refine RowSN.rowB (by first | omega | (show _ = _ + 1; omega)) ?_ | refine IxN.mk _ rfl ?_ | refine shr_ok rfl rfl ?_ | refine WrapN.inU ⟨by omega, by omega⟩ ?_ | refine vv1 ?_ | refine vv2 ?_ | refine vv3 ?_ | refine vv4 ?_ | refine vv5 ?_ | refine vv6 ?_ | refine vv7 ?_ | refine vv8 ?_ | refine vv9 ?_ | refine vv10 ?_ | refine vv11 (fun hbr => ?_) (fun hbr => ?_) | refine vv12 (fun hbr => ?_) (fun hbr => ?_) | refine vv13 ?_ | refine vv14 ?_ | refine vv15 ?_ | refine vv16 ?_ | refine vv17 (fun hbr => ?_) (fun hbr => ?_) | refine vv18 ?_ | refine vv19 (fun hbr => ?_) (fun hbr => ?_) | refine vv20 ?_ | refine SlIdxN.map _ rfl (by first | assumption | omega) ?_ | refine SlIdxN.mapPred (by omega) (by omega) ?_ | refine SlIdxN.mapSucc (by omega) ?_ | refine SlIdxN.lit _ _ rfl rfl ?_ | refine SlIdxN.mapInt (by omega) (by omega) ?_ | refine IdxN.at0 _ rfl (by first | assumption | omega | (simp <;> omega)) ?_ | refine vv21 ?_ | refine RowN.map (by first | assumption | omega) ?_ | refine vv22 ?_ | refine RowSN.map (by first | assumption | omega) ?_ | refine vv23 ?_ | refine vv24 ?_ | refine vv25 ?_ | refine Need.mk (by first | assumption | omega | (simp <;> omega)) ?_ | refine DrawN.gen (by first | exact tryd_ok _ | exact tryd_okm _ _) (by kernel_rfl) ?_ | refine vv26 ?_ | refine vv27 ?_ | refine vv28 ?_ | refine vv29 ?_ | refine vv30 ?_ | refine vv31 ?_ | refine vv32 ?_ | refine vv33 ?_) <;> (conv => whnf)))
  refine LoopN.of2 (tryd_okg 1 _) (fun (j : Nat) (r : List Chg) => [(0, .sm 0 2 0 b.length), (1, .sc (.func (.func 85) #[] #[])), (5, vi (keepB (b.take j)).length), (6, vi j)]) (fun _ r => [.rows (r.map chE) 74]) (fun j _ => b.length - j) (fun j r => j ≤ b.length ∧ (keepB (b.take j)).length < j ∧ r.length = b.length ∧ r.take (keepB (b.take j)).length = keepB (b.take j) ∧ r.drop j = b.drop j) (i0 + 1) b
    ⟨by omega, by rw [hk0, List.length_take]; omega, rfl, by rw [hk0, List.length_take, Nat.min_eq_left (by omega)], rfl⟩ (Reabs.frmM [0] (by rw [hk0, List.length_take, Nat.min_eq_left (by omega)]; exact (by repeat (first | exact trivial | refine ⟨.inr ⟨rfl, rfl⟩, ?_⟩ | refine ⟨.inr ⟨rfl, vi_eq (by first | omega | (simp; done) | (simp; omega))⟩, ?_⟩ | refine ⟨.inr ⟨rfl, smE rfl (by first | omega | (simp; done) | (simp; omega))⟩, ?_⟩))) (by repeat (first | exact trivial | refine ⟨⟨_, rfl, (by first | exact blkDead | exact blkDeep rfl (deepLit rfl) | exact blkDeep rfl (deepMap (fun _ => rfl)) | exact blkOk rfl rfl | exact blkLoop rfl rfl), (by first | exact fun _ => rfl | exact fun h => (by cases h))⟩, ?_⟩)) rfl rfl) ?_
  rintro j r ⟨hj, hij, hr, ht, hd⟩
  clear hk0 hpre hz hx hix
  by_cases hlt : j < b.length
  · have hs := keepB_succ hlt
    have hrj : r[j] = b[j] := by
      have h1 : (r.drop j)[0]? = (b.drop j)[0]? := by rw [hd]
      rw [List.getElem?_drop, List.getElem?_drop, Nat.add_zero, List.getElem?_eq_getElem (by omega), List.getElem?_eq_getElem hlt] at h1
      exact Option.some.inj h1
    have hf := nil1_ok r[j]
    have hd2 : r.drop (j + 1) = b.drop (j + 1) := by
      have := congrArg (List.drop 1) hd
      rwa [List.drop_drop, List.drop_drop] at this
    rw [← hrj] at hs
    by_cases hq : r[j].2 = 0
    · rw [decide_eq_true hq] at hf
      rw [if_pos hq, List.append_nil] at hs
      ((conv => whnf); repeat' ((first | refine vv1 ?_ | refine vv2 ?_ | refine vv3 ?_ | refine vv4 ?_ | refine vv5 ?_ | refine vv6 ?_ | refine vv7 ?_ | refine vv8 ?_ | refine vv9 ?_ | refine vv10 ?_ | refine vv11 (fun hbr => ?_) (fun hbr => ?_) | refine vv12 (fun hbr => ?_) (fun hbr => ?_) | refine vv13 ?_ | refine vv14 ?_ | refine vv15 ?_ | refine vv16 ?_ | refine vv17 (fun hbr => ?_) (fun hbr => ?_) | refine vv18 ?_ | refine vv19 (fun hbr => ?_) (fun hbr => ?_) | refine vv20 ?_ | refine SlIdxN.map _ rfl (by first | assumption | omega) ?_ | refine SlIdxN.mapPred (by omega) (by omega) ?_ | refine SlIdxN.mapSucc (by omega) ?_ | refine SlIdxN.lit _ _ rfl rfl ?_ | refine SlIdxN.mapInt (by omega) (by omega) ?_ | refine IdxN.at0 _ rfl (by first | assumption | omega | (simp <;> omega)) ?_ | refine vv21 ?_ | refine RowN.map (by first | assumption | omega) ?_ | refine vv22 ?_ | refine RowSN.map (by first | assumption | omega) ?_ | refine vv23 ?_ | refine vv24 ?_ | refine vv25 ?_ | refine Need.mk (by first | assumption | omega | (simp <;> omega)) ?_ | refine DrawN.gen (by first | exact tryd_ok _ | exact tryd_okm _ _) (by kernel_rfl) ?_ | refine vv26 ?_ | refine vv27 ?_ | refine vv28 ?_ | refine vv29 ?_ | refine vv30 ?_ | refine vv31 ?_ | refine vv32 ?_ | refine vv33 ?_ | refine CallN.pure (hf) ?_ | refine GCallN.pure _ (hf) ?_ | refine GCallN.ef (hf) ?_) <;> (conv => whnf)))
      refine BackN2.mk (j + 1) r ⟨by omega, by rw [hs]; omega, hr, by rw [hs]; exact ht, hd2⟩ (by omega) (Reabs.frmM [0] (by rw [hs]; exact (by repeat (first | exact trivial | refine ⟨.inr ⟨rfl, rfl⟩, ?_⟩ | refine ⟨.inr ⟨rfl, vi_eq (by first | omega | (simp; done) | (simp; omega))⟩, ?_⟩ | refine ⟨.inr ⟨rfl, smE rfl (by first | omega | (simp; done) | (simp; omega))⟩, ?_⟩))) (by repeat (first | exact trivial | refine ⟨⟨_, rfl, (by first | exact blkDead | exact blkDeep rfl (deepLit rfl) | exact blkDeep rfl (deepMap (fun _ => rfl)) | exact blkOk rfl rfl | exact blkLoop rfl rfl), (by first | exact fun _ => rfl | exact fun h => (by cases h))⟩, ?_⟩)) rfl rfl)
    · rw [decide_eq_false hq] at hf
      rw [if_neg hq] at hs
      have hl : (keepB (b.take (j + 1))).length = (keepB (b.take j)).length + 1 := by rw [hs, List.length_append]; rfl
      generalize hi : (keepB (b.take j)).length = i at *
      ((conv => whnf); repeat' ((first | refine vv1 ?_ | refine vv2 ?_ | refine vv3 ?_ | refine vv4 ?_ | refine vv5 ?_ | refine vv6 ?_ | refine vv7 ?_ | refine vv8 ?_ | refine vv9 ?_ | refine vv10 ?_ | refine vv11 (fun hbr => ?_) (fun hbr => ?_) | refine vv12 (fun hbr => ?_) (fun hbr => ?_) | refine vv13 ?_ | refine vv14 ?_ | refine vv15 ?_ | refine vv16 ?_ | refine vv17 (fun hbr => ?_) (fun hbr => ?_) | refine vv18 ?_ | refine vv19 (fun hbr => ?_) (fun hbr => ?_) | refine vv20 ?_ | refine SlIdxN.map _ rfl (by first | assumption | omega) ?_ | refine SlIdxN.mapPred (by omega) (by omega) ?_ | refine SlIdxN.mapSucc (by omega) ?_ | refine SlIdxN.lit _ _ rfl rfl ?_ | refine SlIdxN.mapInt (by omega) (by omega) ?_ | refine IdxN.at0 _ rfl (by first | assumption | omega | (simp <;> omega)) ?_ | refine vv21 ?_ | refine RowN.map (by first | assumption | omega) ?_ | refine vv22 ?_ | refine RowSN.map (by first | assumption | omega) ?_ | refine vv23 ?_ | refine vv24 ?_ | refine vv25 ?_ | refine Need.mk (by first | assumption | omega | (simp <;> omega)) ?_ | refine DrawN.gen (by first | exact tryd_ok _ | exact tryd_okm _ _) (by kernel_rfl) ?_ | refine vv26 ?_ | refine vv27 ?_ | refine vv28 ?_ | refine vv29 ?_ | refine vv30 ?_ | refine vv31 ?_ | refine vv32 ?_ | refine vv33 ?_ | refine CallN.pure (hf) ?_ | refine GCallN.pure _ (hf) ?_ | refine GCallN.ef (hf) ?_) <;> (conv => whnf)))
      refine BackN2.mk (j + 1) (r.set i r[j]) ⟨by omega, by omega, by simpa using hr, ?_, ?_⟩ (by omega) (Reabs.frmM [0] (by rw [hl]; exact (by repeat (first | exact trivial | refine ⟨.inr ⟨rfl, rfl⟩, ?_⟩ | refine ⟨.inr ⟨rfl, vi_eq (by first | omega | (simp; done) | (simp; omega))⟩, ?_⟩ | refine ⟨.inr ⟨rfl, smE rfl (by first | omega | (simp; done) | (simp; omega))⟩, ?_⟩))) ?_ rfl rfl)
      · rw [hl, hs, set_take (by omega), ht]
      · rw [set_drop (by omega), hd2]
      · exact ⟨⟨_, rfl, blkDeep (by rw [List.map_set]) (deepMap (fun _ => rfl)), fun _ => rfl⟩, trivial⟩
  · obtain rfl : j = b.length := by omega
    rw [List.take_length] at *
    have hkl := keepB_len b
    generalize hi : (keepB b).length = i at *
    ((conv => whnf); repeat' ((first | refine vv1 ?_ | refine vv2 ?_ | refine vv3 ?_ | refine vv4 ?_ | refine vv5 ?_ | refine vv6 ?_ | refine vv7 ?_ | refine vv8 ?_ | refine vv9 ?_ | refine vv10 ?_ | refine vv11 (fun hbr => ?_) (fun hbr => ?_) | refine vv12 (fun hbr => ?_) (fun hbr => ?_) | refine vv13 ?_ | refine vv14 ?_ | refine vv15 ?_ | refine vv16 ?_ | refine vv17 (fun hbr => ?_) (fun hbr => ?_) | refine vv18 ?_ | refine vv19 (fun hbr => ?_) (fun hbr => ?_) | refine vv20 ?_ | refine SlIdxN.map _ rfl (by first | assumption | omega) ?_ | refine SlIdxN.mapPred (by omega) (by omega) ?_ | refine SlIdxN.mapSucc (by omega) ?_ | refine SlIdxN.lit _ _ rfl rfl ?_ | refine SlIdxN.mapInt (by omega) (by omega) ?_ | refine IdxN.at0 _ rfl (by first | assumption | omega | (simp <;> omega)) ?_ | refine vv21 ?_ | refine RowN.map (by first | assumption | omega) ?_ | refine vv22 ?_ | refine RowSN.map (by first | assumption | omega) ?_ | refine vv23 ?_ | refine vv24 ?_ | refine vv25 ?_ | refine Need.mk (by first | assumption | omega | (simp <;> omega)) ?_ | refine DrawN.gen (by first | exact tryd_ok _ | exact tryd_okm _ _) (by kernel_rfl) ?_ | refine vv26 ?_ | refine vv27 ?_ | refine vv28 ?_ | refine vv29 ?_ | refine vv30 ?_ | refine vv31 ?_ | refine vv32 ?_ | refine vv33 ?_) <;> (conv => whnf)))
    refine CodeN.clear (tryd_okg 1 _) rfl ?_
    ((conv => whnf); repeat' ((first | refine vv1 ?_ | refine vv2 ?_ | refine vv3 ?_ | refine vv4 ?_ | refine vv5 ?_ | refine vv6 ?_ | refine vv7 ?_ | refine vv8 ?_ | refine vv9 ?_ | refine vv10 ?_ | refine vv11 (fun hbr => ?_) (fun hbr => ?_) | refine vv12 (fun hbr => ?_) (fun hbr => ?_) | refine vv13 ?_ | refine vv14 ?_ | refine vv15 ?_ | refine vv16 ?_ | refine vv17 (fun hbr => ?_) (fun hbr => ?_) | refine vv18 ?_ | refine vv19 (fun hbr => ?_) (fun hbr => ?_) | refine vv20 ?_ | refine SlIdxN.map _ rfl (by first | assumption | omega) ?_ | refine SlIdxN.mapPred (by omega) (by omega) ?_ | refine SlIdxN.mapSucc (by omega) ?_ | refine SlIdxN.lit _ _ rfl rfl ?_ | refine SlIdxN.mapInt (by omega) (by omega) ?_ | refine IdxN.at0 _ rfl (by first | assumption | omega | (simp <;> omega)) ?_ | refine vv21 ?_ | refine RowN.map (by first | assumption | omega) ?_ | refine vv22 ?_ | refine RowSN.map (by first | assumption | omega) ?_ | refine vv23 ?_ | refine vv24 ?_ | refine vv25 ?_ | refine Need.mk (by first | assumption | omega | (simp <;> omega)) ?_ | refine DrawN.gen (by first | exact tryd_ok _ | exact tryd_okm _ _) (by kernel_rfl) ?_ | refine vv26 ?_ | refine vv27 ?_ | refine vv28 ?_ | refine vv29 ?_ | refine vv30 ?_ | refine vv31 ?_ | refine vv32 ?_ | refine vv33 ?_) <;> (conv => whnf)))
    refine ClearN.mk 0 2 (0 + i) (b.length - i) (r.map chE) 74 74 (.agg #[.int .i64 0, .int .i64 0]) rfl rfl Tryz.underlying54 Tryz.zeroValue74 rfl (by intro u hu; simp [Value.cells] at hu; subst hu; rfl) (by omega) ?_
    refine CodeN.of_ev (tryd_okg 1 _) ?_
    ((conv => whnf); repeat' ((first | refine vv1 ?_ | refine vv2 ?_ | refine vv3 ?_ | refine vv4 ?_ | refine vv5 ?_ | refine vv6 ?_ | refine vv7 ?_ | refine vv8 ?_ | refine vv9 ?_ | refine vv10 ?_ | refine vv11 (fun hbr => ?_) (fun hbr => ?_) | refine vv12 (fun hbr => ?_) (fun hbr => ?_) | refine vv13 ?_ | refine vv14 ?_ | refine vv15 ?_ | refine vv16 ?_ | refine vv17 (fun hbr => ?_) (fun hbr => ?_) | refine vv18 ?_ | refine vv19 (fun hbr => ?_) (fun hbr => ?_) | refine vv20 ?_ | refine SlIdxN.map _ rfl (by first | assumption | omega) ?_ | refine SlIdxN.mapPred (by omega) (by omega) ?_ | refine SlIdxN.mapSucc (by omega) ?_ | refine SlIdxN.lit _ _ rfl rfl ?_ | refine SlIdxN.mapInt (by omega) (by omega) ?_ | refine IdxN.at0 _ rfl (by first | assumption | omega | (simp <;> omega)) ?_ | refine vv21 ?_ | refine RowN.map (by first | assumption | omega) ?_ | refine vv22 ?_ | refine RowSN.map (by first | assumption | omega) ?_ | refine vv23 ?_ | refine vv24 ?_ | refine vv25 ?_ | refine Need.mk (by first | assumption | omega | (simp <;> omega)) ?_ | refine DrawN.gen (by first | exact tryd_ok _ | exact tryd_okm _ _) (by kernel_rfl) ?_ | refine vv26 ?_ | refine vv27 ?_ | refine vv28 ?_ | refine vv29 ?_ | refine vv30 ?_ | refine vv31 ?_ | refine vv32 ?_ | refine vv33 ?_) <;> (conv => whnf)))
    refine ⟨⟨_, [.rows ((keepB b).map chE) 74], ?_, rfl, rfl⟩⟩
    exact Reabs.frmM [0] (by repeat (first | exact trivial | refine ⟨.inr ⟨rfl, rfl⟩, ?_⟩ | refine ⟨.inr ⟨rfl, vi_eq (by first | omega | (simp; done) | (simp; omega))⟩, ?_⟩ | refine ⟨.inr ⟨rfl, smE rfl (by first | omega | (simp; done) | (simp; omega))⟩, ?_⟩)) (by exact ⟨⟨_, rfl, blkDeep (by rw [← ht, List.map_take, Nat.zero_add]) (deepMap (fun _ => rfl)), fun _ => rfl⟩, trivial⟩) rfl rfl
end Go.Proofs.Ax
namespace Go.Proofs.Ax
open Go Go.Proofs
set_option maxRecDepth 10000
set_option maxHeartbeats 4000000
/-! Accounts whose balances differ. -/
theorem swapP_ok {p : Posting} (h : p.ok) : (swapP p).ok := by
  unfold Posting.ok at *
  exact ⟨h.1, h.2.1, h.2.2.2.1, h.2.2.1, fun e => h.2.2.2.2.1 e.symm, h.2.2.2.2.2⟩
theorem change_swap {p : Posting} (h : p.src ≠ p.dst) (a : Int) : change (swapP p) a = -change p a := by
  rw [change_split (p := swapP p) (fun e => h e.symm), change_split h]
  show (if a = p.src then p.amount else 0) + (if a = p.dst then -p.amount else 0) = _
  by_cases h1 : a = p.dst
  · rw [if_pos h1, if_neg (by omega), if_pos h1, if_neg (by omega)]; omega
  · rw [if_neg h1, if_neg h1]
    by_cases h2 : a = p.src
    · rw [if_pos h2, if_pos h2]; omega
    · rw [if_neg h2, if_neg h2]; rfl
theorem bal_swap : ∀ {l : List Posting}, (∀ p ∈ l, p.src ≠ p.dst) → ∀ a, bal (l.map swapP) a = -bal l a
  | [], _, a => rfl
  | p :: l, h, a => by
    have ih := bal_swap (l := l) (fun q hq => h q (List.mem_cons_of_mem _ hq)) a
    have h1 : bal ((p :: l).map swapP) a = change (swapP p) a + bal (l.map swapP) a := by simp [bal]
    have h2 : bal (p :: l) a = change p a + bal l a := by simp [bal]
    rw [h1, h2, ih, change_swap (h p (List.mem_cons_self ..))]; omega
def bothL (old now : List Posting) : List Posting := now ++ old.map swapP
def movedOf (old now : List Posting) : List Chg := keepB (balsOf (bothL old now))
theorem bothL_ok {old now : List Posting} (h1 : ∀ p ∈ old, p.ok) (h2 : ∀ p ∈ now, p.ok) : ∀ p ∈ bothL old now, p.ok := by
  intro p hp
  rcases List.mem_append.1 hp with hp | hp
  · exact h2 p hp
  · obtain ⟨q, hq, rfl⟩ := List.mem_map.1 hp
    exact swapP_ok (h1 q hq)
theorem bal_both {old now : List Posting} (h : ∀ p ∈ old, p.ok) (a : Int) : bal (bothL old now) a = bal now a - bal old a := by
  rw [bothL, bal_append, bal_swap (fun p hp => (h p hp).2.2.2.2.1)]; omega
theorem clonePo_ef (t : Bool) (l : List Posting) (hmax : l.length ≤ 1000000) : Ef Tryz.prog G1 83 [postings t l] [] fun y H' => y = .sm 0 5 0 l.length ∧ H' = [.rows (l.map Posting.enc) 61] := by
  refine Ef.reabs ?_
  by_cases hl : l = []
  · subst hl
    refine Ef.mt 0 5 t rfl ?_ ?_
    · refine Ef.of_ev (T := Tryz.tab) (n := 8) (tryd_okg 0 _) rfl Tryz.func83 rfl rfl (by simp) ?_
      ((conv => whnf); repeat' ((first | refine vv1 ?_ | refine vv2 ?_ | refine vv3 ?_ | refine vv4 ?_ | refine vv5 ?_ | refine vv6 ?_ | refine vv7 ?_ | refine vv8 ?_ | refine vv9 ?_ | refine vv10 ?_ | refine vv11 (fun hbr => ?_) (fun hbr => ?_) | refine vv12 (fun hbr => ?_) (fun hbr => ?_) | refine vv13 ?_ | refine vv14 ?_ | refine vv15 ?_ | refine vv16 ?_ | refine vv17 (fun hbr => ?_) (fun hbr => ?_) | refine vv18 ?_ | refine vv19 (fun hbr => ?_) (fun hbr => ?_) | refine vv20 ?_ | refine SlIdxN.map _ rfl (by first | assumption | omega) ?_ | refine SlIdxN.mapPred (by omega) (by omega) ?_ | refine SlIdxN.mapSucc (by omega) ?_ | refine SlIdxN.lit _ _ rfl rfl ?_ | refine SlIdxN.mapInt (by omega) (by omega) ?_ | refine IdxN.at0 _ rfl (by first | assumption | omega | (simp <;> omega)) ?_ | refine vv21 ?_ | refine RowN.map (by first | assumption | omega) ?_ | refine vv22 ?_ | refine RowSN.map (by first | assumption | omega) ?_ | refine vv23 ?_ | refine vv24 ?_ | refine vv25 ?_ | refine Need.mk (by first | assumption | omega | (simp <;> omega)) ?_ | refine DrawN.gen (by first | exact tryd_ok _ | exact tryd_okm _ _) (by kernel_rfl) ?_ | refine vv26 ?_ | refine vv27 ?_ | refine vv28 ?_ | refine vv29 ?_ | refine vv30 ?_ | refine vv31 ?_ | refine vv32 ?_ | refine vv33 ?_) <;> (conv => whnf)))
      refine StepN.mk (.sc (.bool true)) [] (by kernel_rfl) ?_
      ((conv => whnf); repeat' ((first | refine vv1 ?_ | refine vv2 ?_ | refine vv3 ?_ | refine vv4 ?_ | refine vv5 ?_ | refine vv6 ?_ | refine vv7 ?_ | refine vv8 ?_ | refine vv9 ?_ | refine vv10 ?_ | refine vv11 (fun hbr => ?_) (fun hbr => ?_) | refine vv12 (fun hbr => ?_) (fun hbr => ?_) | refine vv13 ?_ | refine vv14 ?_ | refine vv15 ?_ | refine vv16 ?_ | refine vv17 (fun hbr => ?_) (fun hbr => ?_) | refine vv18 ?_ | refine vv19 (fun hbr => ?_) (fun hbr => ?_) | refine vv20 ?_ | refine SlIdxN.map _ rfl (by first | assumption | omega) ?_ | refine SlIdxN.mapPred (by omega) (by omega) ?_ | refine SlIdxN.mapSucc (by omega) ?_ | refine SlIdxN.lit _ _ rfl rfl ?_ | refine SlIdxN.mapInt (by omega) (by omega) ?_ | refine IdxN.at0 _ rfl (by first | assumption | omega | (simp <;> omega)) ?_ | refine vv21 ?_ | refine RowN.map (by first | assumption | omega) ?_ | refine vv22 ?_ | refine RowSN.map (by first | assumption | omega) ?_ | refine vv23 ?_ | refine vv24 ?_ | refine vv25 ?_ | refine Need.mk (by first | assumption | omega | (simp <;> omega)) ?_ | refine DrawN.gen (by first | exact tryd_ok _ | exact tryd_okm _ _) (by kernel_rfl) ?_ | refine vv26 ?_ | refine vv27 ?_ | refine vv28 ?_ | refine vv29 ?_ | refine vv30 ?_ | refine vv31 ?_ | refine vv32 ?_ | refine vv33 ?_) <;> (conv => whnf)))
      refine ⟨⟨_, [.rows [] 61], ?_, rfl, rfl⟩⟩
      exact Reabs.virt 0 5 61 rfl
    · refine Ef.of_ev (T := Tryz.tab) (n := 8) (tryd_okg 0 _) rfl Tryz.func83 rfl rfl (by simp) ?_
      ((conv => whnf); repeat' ((first | refine vv1 ?_ | refine vv2 ?_ | refine vv3 ?_ | refine vv4 ?_ | refine vv5 ?_ | refine vv6 ?_ | refine vv7 ?_ | refine vv8 ?_ | refine vv9 ?_ | refine vv10 ?_ | refine vv11 (fun hbr => ?_) (fun hbr => ?_) | refine vv12 (fun hbr => ?_) (fun hbr => ?_) | refine vv13 ?_ | refine vv14 ?_ | refine vv15 ?_ | refine vv16 ?_ | refine vv17 (fun hbr => ?_) (fun hbr => ?_) | refine vv18 ?_ | refine vv19 (fun hbr => ?_) (fun hbr => ?_) | refine vv20 ?_ | refine SlIdxN.map _ rfl (by first | assumption | omega) ?_ | refine SlIdxN.mapPred (by omega) (by omega) ?_ | refine SlIdxN.mapSucc (by omega) ?_ | refine SlIdxN.lit _ _ rfl rfl ?_ | refine SlIdxN.mapInt (by omega) (by omega) ?_ | refine IdxN.at0 _ rfl (by first | assumption | omega | (simp <;> omega)) ?_ | refine vv21 ?_ | refine RowN.map (by first | assumption | omega) ?_ | refine vv22 ?_ | refine RowSN.map (by first | assumption | omega) ?_ | refine vv23 ?_ | refine vv24 ?_ | refine vv25 ?_ | refine Need.mk (by first | assumption | omega | (simp <;> omega)) ?_ | refine DrawN.gen (by first | exact tryd_ok _ | exact tryd_okm _ _) (by kernel_rfl) ?_ | refine vv26 ?_ | refine vv27 ?_ | refine vv28 ?_ | refine vv29 ?_ | refine vv30 ?_ | refine vv31 ?_ | refine vv32 ?_ | refine vv33 ?_) <;> (conv => whnf)))
      refine StepN.mk (.sc (.bool false)) [] (by kernel_rfl) ?_
      ((conv => whnf); repeat' ((first | refine Need.mk (.inl rfl) ?_ | refine AppN.len 0 (by first | omega | (simp; done) | (simp; omega)) (by first | omega | (simp; done) | (simp; omega)) (by first | omega | (simp; done) | (simp; omega)) ?_ | refine RowN.row2 (by first | omega | (show _ = _ + 1; omega)) ?_ | refine RowN.row1 (by first | omega | (show _ = _ + 1; omega)) ?_ | refine RowN.rowB (by first | omega | (show _ = _ + 1; omega)) ?_ | refine RowSN.row2 (by first | omega | (show _ = _ + 1; omega)) ?_ | refine RowSN.row1 (by first | omega | (show _ = _ + 1; omega)) ?_ | refine RowSN.rowB (by first | omega | (show _ = _ + 1; omega)) ?_ | refine IxN.mk _ rfl ?_ | refine shr_ok rfl rfl ?_ | refine WrapN.inU ⟨by omega, by omega⟩ ?_ | refine vv1 ?_ | refine vv2 ?_ | refine vv3 ?_ | refine vv4 ?_ | refine vv5 ?_ | refine vv6 ?_ | refine vv7 ?_ | refine vv8 ?_ | refine vv9 ?_ | refine vv10 ?_ | refine vv11 (fun hbr => ?_) (fun hbr => ?_) | refine vv12 (fun hbr => ?_) (fun hbr => ?_) | refine vv13 ?_ | refine vv14 ?_ | refine vv15 ?_ | refine vv16 ?_ | refine vv17 (fun hbr => ?_) (fun hbr => ?_) | refine vv18 ?_ | refine vv19 (fun hbr => ?_) (fun hbr => ?_) | refine vv20 ?_ | refine SlIdxN.map _ rfl (by first | assumption | omega) ?_ | refine SlIdxN.mapPred (by omega) (by omega) ?_ | refine SlIdxN.mapSucc (by omega) ?_ | refine SlIdxN.lit _ _ rfl rfl ?_ | refine SlIdxN.mapInt (by omega) (by omega) ?_ | refine IdxN.at0 _ rfl (by first | assumption | omega | (simp <;> omega)) ?_ | refine vv21 ?_ | refine RowN.map (by first | assumption | omega) ?_ | refine vv22 ?_ | refine RowSN.map (by first | assumption | omega) ?_ | refine vv23 ?_ | refine vv24 ?_ | refine vv25 ?_ | refine Need.mk (by first | assumption | omega | (simp <;> omega)) ?_ | refine DrawN.gen (by first | exact tryd_ok _ | exact tryd_okm _ _) (by kernel_rfl) ?_ | refine vv26 ?_ | refine vv27 ?_ | refine vv28 ?_ | refine vv29 ?_ | refine vv30 ?_ | refine vv31 ?_ | refine vv32 ?_ | refine vv33 ?_) <;> (conv => whnf)))
      refine ⟨⟨_, [.rows [] 61], ?_, rfl, rfl⟩⟩
      exact Reabs.frmM [0] (by repeat (first | exact trivial | refine ⟨.inr ⟨rfl, rfl⟩, ?_⟩ | refine ⟨.inr ⟨rfl, vi_eq (by first | omega | (simp; done) | (simp; omega))⟩, ?_⟩ | refine ⟨.inr ⟨rfl, smE rfl (by first | omega | (simp; done) | (simp; omega))⟩, ?_⟩)) (by repeat (first | exact trivial | refine ⟨⟨_, rfl, (by first | exact blkDead | exact blkDeep rfl (deepLit rfl) | exact blkDeep rfl (deepMap (fun _ => rfl)) | exact blkOk rfl rfl | exact blkLoop rfl rfl), (by first | exact fun _ => rfl | exact fun h => (by cases h))⟩, ?_⟩)) rfl rfl
  · obtain ⟨x, l, rfl⟩ := List.exists_cons_of_ne_nil hl
    have hm : l.length + 1 ≤ 1000000 := by simpa using hmax
    refine Ef.of_ev (T := Tryz.tab) (n := 8) (tryd_okg 0 _) rfl Tryz.func83 rfl rfl (by simp) ?_
    ((conv => whnf); repeat' ((first | refine vv1 ?_ | refine vv2 ?_ | refine vv3 ?_ | refine vv4 ?_ | refine vv5 ?_ | refine vv6 ?_ | refine vv7 ?_ | refine vv8 ?_ | refine vv9 ?_ | refine vv10 ?_ | refine vv11 (fun hbr => ?_) (fun hbr => ?_) | refine vv12 (fun hbr => ?_) (fun hbr => ?_) | refine vv13 ?_ | refine vv14 ?_ | refine vv15 ?_ | refine vv16 ?_ | refine vv17 (fun hbr => ?_) (fun hbr => ?_) | refine vv18 ?_ | refine vv19 (fun hbr => ?_) (fun hbr => ?_) | refine vv20 ?_ | refine SlIdxN.map _ rfl (by first | assumption | omega) ?_ | refine SlIdxN.mapPred (by omega) (by omega) ?_ | refine SlIdxN.mapSucc (by omega) ?_ | refine SlIdxN.lit _ _ rfl rfl ?_ | refine SlIdxN.mapInt (by omega) (by omega) ?_ | refine IdxN.at0 _ rfl (by first | assumption | omega | (simp <;> omega)) ?_ | refine vv21 ?_ | refine RowN.map (by first | assumption | omega) ?_ | refine vv22 ?_ | refine RowSN.map (by first | assumption | omega) ?_ | refine vv23 ?_ | refine vv24 ?_ | refine vv25 ?_ | refine Need.mk (by first | assumption | omega | (simp <;> omega)) ?_ | refine DrawN.gen (by first | exact tryd_ok _ | exact tryd_okm _ _) (by kernel_rfl) ?_ | refine vv26 ?_ | refine vv27 ?_ | refine vv28 ?_ | refine vv29 ?_ | refine vv30 ?_ | refine vv31 ?_ | refine vv32 ?_ | refine vv33 ?_) <;> (conv => whnf)))
    refine StepN.mk (.sc (.bool false)) [] (by kernel_rfl) ?_
    ((conv => whnf); repeat' ((first | refine AppN.len (l.length + 1) (by first | omega | (simp; done) | (simp; omega)) (by first | omega | (simp; done) | (simp; omega)) (by first | omega | (simp; done) | (simp; omega)) ?_ | refine RowN.row2 (by first | omega | (show _ = _ + 1; omega)) ?_ | refine RowN.row1 (by first | omega | (show _ = _ + 1; omega)) ?_ | refine RowN.rowB (by first | omega | (show _ = _ + 1; omega)) ?_ | refine RowSN.row2 (by first | omega | (show _ = _ + 1; omega)) ?_ | refine RowSN.row1 (by first | omega | (show _ = _ + 1; omega)) ?_ | refine RowSN.rowB (by first | omega | (show _ = _ + 1; omega)) ?_ | refine IxN.mk _ rfl ?_ | refine shr_ok rfl rfl ?_ | refine WrapN.inU ⟨by omega, by omega⟩ ?_ | refine vv1 ?_ | refine vv2 ?_ | refine vv3 ?_ | refine vv4 ?_ | refine vv5 ?_ | refine vv6 ?_ | refine vv7 ?_ | refine vv8 ?_ | refine vv9 ?_ | refine vv10 ?_ | refine vv11 (fun hbr => ?_) (fun hbr => ?_) | refine vv12 (fun hbr => ?_) (fun hbr => ?_) | refine vv13 ?_ | refine vv14 ?_ | refine vv15 ?_ | refine vv16 ?_ | refine vv17 (fun hbr => ?_) (fun hbr => ?_) | refine vv18 ?_ | refine vv19 (fun hbr => ?_) (fun hbr => ?_) | refine vv20 ?_ | refine SlIdxN.map _ rfl (by first | assumption | omega) ?_ | refine SlIdxN.mapPred (by omega) (by omega) ?_ | refine SlIdxN.mapSucc (by omega) ?_ | refine SlIdxN.lit _ _ rfl rfl ?_ | refine SlIdxN.mapInt (by omega) (by omega) ?_ | refine IdxN.at0 _ rfl (by first | assumption | omega | (simp <;> omega)) ?_ | refine vv21 ?_ | refine RowN.map (by first | assumption | omega) ?_ | refine vv22 ?_ | refine RowSN.map (by first | assumption | omega) ?_ | refine vv23 ?_ | refine vv24 ?_ | refine vv25 ?_ | refine Need.mk (by first | assumption | omega | (simp <;> omega)) ?_ | refine DrawN.gen (by first | exact tryd_ok _ | exact tryd_okm _ _) (by kernel_rfl) ?_ | refine vv26 ?_ | refine vv27 ?_ | refine vv28 ?_ | refine vv29 ?_ | refine vv30 ?_ | refine vv31 ?_ | refine vv32 ?_ | refine vv33 ?_) <;> (conv => whnf)))
    refine ⟨⟨_, [.rows ((x :: l).map Posting.enc) 61], ?_, rfl, rfl⟩⟩
    exact Reabs.frmM [0] (by repeat (first | exact trivial | refine ⟨.inr ⟨rfl, rfl⟩, ?_⟩ | refine ⟨.inr ⟨rfl, vi_eq (by first | omega | (simp; done) | (simp; omega))⟩, ?_⟩ | refine ⟨.inr ⟨rfl, smE rfl (by first | omega | (simp; done) | (simp; omega))⟩, ?_⟩)) (by exact ⟨⟨_, rfl, blkDeep rfl (deepMap (fun _ => rfl)), fun _ => rfl⟩, trivial⟩) rfl rfl
theorem delete_in (b : List Chg) (hmax : b.length ≤ 1000000) (H : AH) (i n : Nat) (hn : n = b.length) (hi : nthB H i = some (.rows (b.map chE) 74)) (H2 : AH) (h2 : H2 = H.set i (.rows ((keepB b).map chE) 74)) :
    Ef Tryz.prog G1 84 [.sm i 2 0 n, .sc (.func (.func 85) #[] #[])] H fun y H' => y = .sm i 2 0 (keepB b).length ∧ H' = H2 := by
  subst hn; subst h2
  refine Ef.subD (delete_ef b hmax) rfl (Nat.le_refl _) ⟨okDeep (deepR (fun _ => rfl)) _, trivial⟩ [i] (by simp) ⟨⟨_, hi, blkDeep rfl (deepMap (fun _ => rfl)), fun _ => rfl⟩, trivial⟩ rfl (fun x hx => ?_) rfl ?_
  · simp only [List.mem_cons, List.not_mem_nil, or_false] at hx
    rcases hx with rfl | rfl <;> rfl
  · show H.set i (ABlk.ren _ _) ++ [] = _
    rw [List.append_nil, ren_deepB (deepR (fun _ => rfl))]
theorem bothL_take {old now : List Posting} {k : Nat} (h : k < old.length) : now ++ (old.take (k + 1)).map swapP = (now ++ (old.take k).map swapP) ++ [swapP old[k]] := by
  rw [take_succ_snoc h, List.map_append, List.append_assoc]; rfl
theorem frz_posts (l : List Posting) (i n : Nat) (hn : n = l.length) : (AV.sm i 5 0 n).frz0 i (l.map Posting.enc) = postings false l := frz_all (by rw [List.length_map, hn])
theorem moved_ok (t u : Bool) (old now : List Posting) (h : bothErr old now = 0) : Pu Tryz.prog G1 43 [postings t old, postings u now] (.tuple [chgs false (movedOf old now), vi 0]) := by
  obtain ⟨c1, c2⟩ := bothErr_0 h
  obtain ⟨l1, o1⟩ := checkPost_0 c1
  obtain ⟨l2, o2⟩ := checkPost_0 c2
  have h1 := both_ok t u old now (by omega) (by omega)
  rw [h] at h1
  have hcl := clonePo_ef u now (by omega)
  have oj := bothL_ok o1 o2
  have hjl : (bothL old now).length = now.length + old.length := by rw [bothL, List.length_append, List.length_map]
  have hbl := balsOf_len (bothL old now)
  show Pu _ _ _ _ (.tuple [chgs false (keepB (balsOf (bothL old now))), vi 0])
  refine Pu.of_ev (T := Tryz.tab) (n := 38) (tryd_ok _) Tryz.func43 rfl rfl rfl (by first | rfl | (split <;> rfl)) (by simp) ?_
  ((conv => whnf); repeat' ((first | refine CallN.efD hcl ?_ | refine RowN.row2 (by first | omega | (show _ = _ + 1; omega)) ?_ | refine RowN.row1 (by first | omega | (show _ = _ + 1; omega)) ?_ | refine RowN.rowB (by first | omega | (show _ = _ + 1; omega)) ?_ | refine RowSN.row2 (by first | omega | (show _ = _ + 1; omega)) ?_ | refine RowSN.row1 (by first | omega | (show _ = _ + 1; omega)) ?_ | refine RowSN.rowB (by first | omega | (show _ = _ + 1; omega)) ?_ | refine IxN.mk _ rfl ?_ | refine shr_ok rfl rfl ?_ | refine WrapN.inU ⟨by omega, by omega⟩ ?_ | refine vv1 ?_ | refine vv2 ?_ | refine vv3 ?_ | refine vv4 ?_ | refine vv5 ?_ | refine vv6 ?_ | refine vv7 ?_ | refine vv8 ?_ | refine vv9 ?_ | refine vv10 ?_ | refine vv11 (fun hbr => ?_) (fun hbr => ?_) | refine vv12 (fun hbr => ?_) (fun hbr => ?_) | refine vv13 ?_ | refine vv14 ?_ | refine vv15 ?_ | refine vv16 ?_ | refine vv17 (fun hbr => ?_) (fun hbr => ?_) | refine vv18 ?_ | refine vv19 (fun hbr => ?_) (fun hbr => ?_) | refine vv20 ?_ | refine SlIdxN.map _ rfl (by first | assumption | omega) ?_ | refine SlIdxN.mapPred (by omega) (by omega) ?_ | refine SlIdxN.mapSucc (by omega) ?_ | refine SlIdxN.lit _ _ rfl rfl ?_ | refine SlIdxN.mapInt (by omega) (by omega) ?_ | refine IdxN.at0 _ rfl (by first | assumption | omega | (simp <;> omega)) ?_ | refine vv21 ?_ | refine RowN.map (by first | assumption | omega) ?_ | refine vv22 ?_ | refine RowSN.map (by first | assumption | omega) ?_ | refine vv23 ?_ | refine vv24 ?_ | refine vv25 ?_ | refine Need.mk (by first | assumption | omega | (simp <;> omega)) ?_ | refine DrawN.gen (by first | exact tryd_ok _ | exact tryd_okm _ _) (by kernel_rfl) ?_ | refine vv26 ?_ | refine vv27 ?_ | refine vv28 ?_ | refine vv29 ?_ | refine vv30 ?_ | refine vv31 ?_ | refine vv32 ?_ | refine vv33 ?_ | refine CallN.pure (h1) ?_ | refine GCallN.pure _ (h1) ?_ | refine GCallN.ef (h1) ?_) <;> (conv => whnf)))
  refine LoopN.of (tryd_okg 0 _) (fun (k : Nat) => [(7, .sm 0 5 0 (now.length + k)), (18, postings t old), (19, vi old.length), (20, vi k)]) (fun k => [.rows ((now ++ (old.take k).map swapP).map Posting.enc) 61]) (fun k => old.length - k) (fun k => k ≤ old.length) 0 (Nat.zero_le _)
    (Reabs.frmM [0] (by repeat (first | exact trivial | refine ⟨.inr ⟨rfl, rfl⟩, ?_⟩ | refine ⟨.inr ⟨rfl, vi_eq (by first | omega | (simp; done) | (simp; omega))⟩, ?_⟩ | refine ⟨.inr ⟨rfl, smE rfl (by first | omega | (simp; done) | (simp; omega))⟩, ?_⟩)) (by exact ⟨⟨_, rfl, blkDeep (by simp) (deepMap (fun _ => rfl)), fun _ => rfl⟩, trivial⟩) rfl rfl) ?_
  intro k hk
  have hlk : (now ++ (old.take k).map swapP).length = now.length + k := by rw [List.length_append, List.length_map, List.length_take]; omega
  by_cases hlt : k < old.length
  · have hs := bothL_take (now := now) hlt
    generalize now ++ (old.take k).map swapP = c at *
    ((conv => whnf); repeat' ((first | refine AppN.len (now.length + k + 1) (by first | omega | (simp; done) | (simp; omega)) (by first | omega | (simp; done) | (simp; omega)) (by first | omega | (simp; done) | (simp; omega)) ?_ | refine RowN.row2 (by first | omega | (show _ = _ + 1; omega)) ?_ | refine RowN.row1 (by first | omega | (show _ = _ + 1; omega)) ?_ | refine RowN.rowB (by first | omega | (show _ = _ + 1; omega)) ?_ | refine RowSN.row2 (by first | omega | (show _ = _ + 1; omega)) ?_ | refine RowSN.row1 (by first | omega | (show _ = _ + 1; omega)) ?_ | refine RowSN.rowB (by first | omega | (show _ = _ + 1; omega)) ?_ | refine IxN.mk _ rfl ?_ | refine shr_ok rfl rfl ?_ | refine WrapN.inU ⟨by omega, by omega⟩ ?_ | refine vv1 ?_ | refine vv2 ?_ | refine vv3 ?_ | refine vv4 ?_ | refine vv5 ?_ | refine vv6 ?_ | refine vv7 ?_ | refine vv8 ?_ | refine vv9 ?_ | refine vv10 ?_ | refine vv11 (fun hbr => ?_) (fun hbr => ?_) | refine vv12 (fun hbr => ?_) (fun hbr => ?_) | refine vv13 ?_ | refine vv14 ?_ | refine vv15 ?_ | refine vv16 ?_ | refine vv17 (fun hbr => ?_) (fun hbr => ?_) | refine vv18 ?_ | refine vv19 (fun hbr => ?_) (fun hbr => ?_) | refine vv20 ?_ | refine SlIdxN.map _ rfl (by first | assumption | omega) ?_ | refine SlIdxN.mapPred (by omega) (by omega) ?_ | refine SlIdxN.mapSucc (by omega) ?_ | refine SlIdxN.lit _ _ rfl rfl ?_ | refine SlIdxN.mapInt (by omega) (by omega) ?_ | refine IdxN.at0 _ rfl (by first | assumption | omega | (simp <;> omega)) ?_ | refine vv21 ?_ | refine RowN.map (by first | assumption | omega) ?_ | refine vv22 ?_ | refine RowSN.map (by first | assumption | omega) ?_ | refine vv23 ?_ | refine vv24 ?_ | refine vv25 ?_ | refine Need.mk (by first | assumption | omega | (simp <;> omega)) ?_ | refine DrawN.gen (by first | exact tryd_ok _ | exact tryd_okm _ _) (by kernel_rfl) ?_ | refine vv26 ?_ | refine vv27 ?_ | refine vv28 ?_ | refine vv29 ?_ | refine vv30 ?_ | refine vv31 ?_ | refine vv32 ?_ | refine vv33 ?_) <;> (conv => whnf)))
    refine BackN.mk (k + 1) (by omega) (by omega) ?_
    simp only [hs]
    exact (Reabs.frmM [2] (by repeat (first | exact trivial | refine ⟨.inr ⟨rfl, rfl⟩, ?_⟩ | refine ⟨.inr ⟨rfl, vi_eq (by first | omega | (simp; done) | (simp; omega))⟩, ?_⟩ | refine ⟨.inr ⟨rfl, smE rfl (by first | omega | (simp; done) | (simp; omega))⟩, ?_⟩)) (by exact ⟨⟨_, rfl, blkDeep (by rw [List.map_append]; rfl) (deepMap (fun _ => rfl)), fun _ => rfl⟩, trivial⟩) rfl rfl)
  · obtain rfl : k = old.length := by omega
    have e : now ++ (old.take old.length).map swapP = bothL old now := by rw [List.take_length]; rfl
    rw [e] at *
    generalize bothL old now = J at *
    rw [← hjl]
    have hba := balances_at false oj (by omega) [.dead] 1 rfl
    have hdl := delete_in (balsOf J) (by omega) [.dead, .rows ((balsOf J).map chE) 74] 1 (balsOf J).length rfl rfl [.dead, .rows ((keepB (balsOf J)).map chE) 74] rfl
    ((conv => whnf); repeat' ((first | refine vv1 ?_ | refine vv2 ?_ | refine vv3 ?_ | refine vv4 ?_ | refine vv5 ?_ | refine vv6 ?_ | refine vv7 ?_ | refine vv8 ?_ | refine vv9 ?_ | refine vv10 ?_ | refine vv11 (fun hbr => ?_) (fun hbr => ?_) | refine vv12 (fun hbr => ?_) (fun hbr => ?_) | refine vv13 ?_ | refine vv14 ?_ | refine vv15 ?_ | refine vv16 ?_ | refine vv17 (fun hbr => ?_) (fun hbr => ?_) | refine vv18 ?_ | refine vv19 (fun hbr => ?_) (fun hbr => ?_) | refine vv20 ?_ | refine SlIdxN.map _ rfl (by first | assumption | omega) ?_ | refine SlIdxN.mapPred (by omega) (by omega) ?_ | refine SlIdxN.mapSucc (by omega) ?_ | refine SlIdxN.lit _ _ rfl rfl ?_ | refine SlIdxN.mapInt (by omega) (by omega) ?_ | refine IdxN.at0 _ rfl (by first | assumption | omega | (simp <;> omega)) ?_ | refine vv21 ?_ | refine RowN.map (by first | assumption | omega) ?_ | refine vv22 ?_ | refine RowSN.map (by first | assumption | omega) ?_ | refine vv23 ?_ | refine vv24 ?_ | refine vv25 ?_ | refine Need.mk (by first | assumption | omega | (simp <;> omega)) ?_ | refine DrawN.gen (by first | exact tryd_ok _ | exact tryd_okm _ _) (by kernel_rfl) ?_ | refine vv26 ?_ | refine vv27 ?_ | refine vv28 ?_ | refine vv29 ?_ | refine vv30 ?_ | refine vv31 ?_ | refine vv32 ?_ | refine vv33 ?_) <;> (conv => whnf)))
    refine CallN.frz 0 (J.map Posting.enc) 61 rfl (deepR (fun _ => rfl)) ?_
    show CallN _ _ [(AV.sm 0 5 0 J.length).frz0 0 _] _ _
    rw [frz_posts J 0 _ rfl]
    refine CallN.efD hba ?_
    ((conv => whnf); repeat' ((first | refine CallN.efD hdl ?_ | refine RowN.row2 (by first | omega | (show _ = _ + 1; omega)) ?_ | refine RowN.row1 (by first | omega | (show _ = _ + 1; omega)) ?_ | refine RowN.rowB (by first | omega | (show _ = _ + 1; omega)) ?_ | refine RowSN.row2 (by first | omega | (show _ = _ + 1; omega)) ?_ | refine RowSN.row1 (by first | omega | (show _ = _ + 1; omega)) ?_ | refine RowSN.rowB (by first | omega | (show _ = _ + 1; omega)) ?_ | refine IxN.mk _ rfl ?_ | refine shr_ok rfl rfl ?_ | refine WrapN.inU ⟨by omega, by omega⟩ ?_ | refine vv1 ?_ | refine vv2 ?_ | refine vv3 ?_ | refine vv4 ?_ | refine vv5 ?_ | refine vv6 ?_ | refine vv7 ?_ | refine vv8 ?_ | refine vv9 ?_ | refine vv10 ?_ | refine vv11 (fun hbr => ?_) (fun hbr => ?_) | refine vv12 (fun hbr => ?_) (fun hbr => ?_) | refine vv13 ?_ | refine vv14 ?_ | refine vv15 ?_ | refine vv16 ?_ | refine vv17 (fun hbr => ?_) (fun hbr => ?_) | refine vv18 ?_ | refine vv19 (fun hbr => ?_) (fun hbr => ?_) | refine vv20 ?_ | refine SlIdxN.map _ rfl (by first | assumption | omega) ?_ | refine SlIdxN.mapPred (by omega) (by omega) ?_ | refine SlIdxN.mapSucc (by omega) ?_ | refine SlIdxN.lit _ _ rfl rfl ?_ | refine SlIdxN.mapInt (by omega) (by omega) ?_ | refine IdxN.at0 _ rfl (by first | assumption | omega | (simp <;> omega)) ?_ | refine vv21 ?_ | refine RowN.map (by first | assumption | omega) ?_ | refine vv22 ?_ | refine RowSN.map (by first | assumption | omega) ?_ | refine vv23 ?_ | refine vv24 ?_ | refine vv25 ?_ | refine Need.mk (by first | assumption | omega | (simp <;> omega)) ?_ | refine DrawN.gen (by first | exact tryd_ok _ | exact tryd_okm _ _) (by kernel_rfl) ?_ | refine vv26 ?_ | refine vv27 ?_ | refine vv28 ?_ | refine vv29 ?_ | refine vv30 ?_ | refine vv31 ?_ | refine vv32 ?_ | refine vv33 ?_) <;> (conv => whnf)))
    refine DoneN.frz 1 ((keepB (balsOf J)).map chE) 74 rfl (deepR (fun _ => rfl)) (DoneN.pure ?_)
    show AV.tuple [(AV.sm 1 2 0 _).frz0 1 _, _] = _
    rw [frz_all (by simp)]
    rfl
end Go.Proofs.Ax
namespace Go.Proofs.Ax
open Go Go.Proofs
/-! What corrections do to balances. -/
theorem bal_perm {l m : List Posting} (h : l.Perm m) (a : Int) : bal l a = bal m a := by
  unfold bal
  induction h with
  | nil => rfl
  | cons x _ ih => simp only [List.map_cons, List.sum_cons, ih]
  | swap x y l => simp only [List.map_cons, List.sum_cons]; omega
  | trans _ _ ih1 ih2 => rw [ih1, ih2]
theorem count_grp (l : List Posting) (q : Int × Int) (x : Posting) : (grp l q).count x = if nmOf x = q then l.count x else 0 := by
  unfold grp
  by_cases h : nmOf x = q
  · rw [if_pos h, List.count_filter (by simpa using h)]
  · rw [if_neg h]
    exact List.count_eq_zero.2 fun hm => h (by simpa using (List.mem_filter.1 hm).2)
theorem count_flat (l : List Posting) (x : Posting) : ∀ D : List (Int × Int), D.Nodup → (D.flatMap (grp l)).count x = if nmOf x ∈ D then l.count x else 0
  | [], _ => rfl
  | q :: D, h => by
    have h' := List.nodup_cons.1 h
    rw [List.flatMap_cons, List.count_append, count_grp, count_flat l x D h'.2]
    by_cases hq : nmOf x = q
    · have : nmOf x ∉ D := by rw [hq]; exact h'.1
      rw [if_pos hq, if_neg this, if_pos (by rw [hq]; exact List.mem_cons_self ..)]; omega
    · rw [if_neg hq]
      by_cases hd : nmOf x ∈ D
      · rw [if_pos hd, if_pos (List.mem_cons_of_mem _ hd)]; omega
      · rw [if_neg hd, if_neg (by rw [List.mem_cons]; rintro (h | h); exact hq h; exact hd h)]
theorem bal_part (l : List Posting) {D : List (Int × Int)} (h : D.Nodup) (a : Int) : bal l a = bal (D.flatMap (grp l)) a + bal (l.filter fun x => !decide (nmOf x ∈ D)) a := by
  rw [← bal_append]
  refine bal_perm (List.perm_iff_count.2 fun x => ?_) a
  rw [List.count_append, count_flat l x D h]
  by_cases hx : nmOf x ∈ D
  · rw [if_pos hx]
    have : (l.filter fun x => !decide (nmOf x ∈ D)).count x = 0 := List.count_eq_zero.2 fun hm => by
      have := (List.mem_filter.1 hm).2
      simp [hx] at this
    omega
  · rw [if_neg hx, List.count_filter (by simpa using hx)]; omega
theorem bal_rest {a b : List Posting} (x : Int) : bal (a.filter fun p => !decide (nmOf p ∈ differ a b)) x = bal (b.filter fun p => !decide (nmOf p ∈ differ a b)) x := by
  refine bal_perm (List.perm_iff_count.2 fun p => ?_) x
  by_cases hp : nmOf p ∈ differ a b
  · have z : ∀ l : List Posting, (l.filter fun p => !decide (nmOf p ∈ differ a b)).count p = 0 := fun l => List.count_eq_zero.2 fun hm => by
      have := (List.mem_filter.1 hm).2
      simp [hp] at this
    rw [z, z]
  · rw [List.count_filter (by simpa using hp), List.count_filter (by simpa using hp)]
    have h := Classical.not_not.1 (fun hne => hp (mem_differ.2 hne))
    have h1 := count_grp a (nmOf p) p
    have h2 := count_grp b (nmOf p) p
    rw [if_pos rfl] at h1 h2
    rw [← h1, ← h2, h]
theorem bal_corrOf (a b : List Posting) (ha : ∀ p ∈ a, p.src ≠ p.dst) (x : Int) : ∀ D : List (Int × Int), bal (corrOf a b D) x = bal (D.flatMap (grp b)) x - bal (D.flatMap (grp a)) x
  | [] => rfl
  | q :: D => by
    have ih := bal_corrOf a b ha x D
    have e : corrOf a b (q :: D) = ((grp a q).map swapP ++ grp b q) ++ corrOf a b D := rfl
    rw [e, bal_append, bal_append, ih, bal_swap (fun p hp => ha p (grp_mem hp).1), List.flatMap_cons, List.flatMap_cons, bal_append, bal_append]
    omega
theorem bal_correct {a b : List Posting} (ha : ∀ p ∈ a, p.src ≠ p.dst) (x : Int) : bal (correct a b) x = bal b x - bal a x := by
  have h1 := bal_part a (differ_nodup a b) x
  have h2 := bal_part b (differ_nodup a b) x
  have h3 := bal_rest (a := a) (b := b) x
  have h4 := bal_corrOf a b ha x (differ a b)
  unfold correct
  omega
theorem correct_ok {a b : List Posting} (ha : ∀ p ∈ a, p.ok) (hb : ∀ p ∈ b, p.ok) : ∀ p ∈ correct a b, p.ok := by
  intro p hp
  obtain ⟨q, -, hx⟩ := List.mem_flatMap.1 hp
  rcases List.mem_append.1 hx with hx | hx
  · obtain ⟨y, hy, rfl⟩ := List.mem_map.1 hx
    exact swapP_ok (ha y (grp_mem hy).1)
  · exact hb p (grp_mem hx).1
theorem differ_self (a : List Posting) : differ a a = [] := by
  refine List.eq_nil_iff_forall_not_mem.2 fun q hq => ?_
  exact mem_differ.1 hq rfl
theorem correct_self (a : List Posting) : correct a a = [] := by rw [correct, differ_self]; rfl
theorem keepB_bals (l : List Posting) : keepB (balsOf l) = ((accts l).filter fun a => !decide (bal l a = 0)).map fun a => (a, bal l a) := by
  unfold keepB balsOf
  rw [List.filter_map]
  rfl
theorem keepB_congr {l m : List Posting} (h : ∀ a, bal l a = bal m a) : keepB (balsOf l) = keepB (balsOf m) := by
  rw [keepB_bals, keepB_bals]
  have hf : (fun a => !decide (bal l a = 0)) = fun a => !decide (bal m a = 0) := funext fun a => by rw [h]
  have : ((accts l).filter fun a => !decide (bal l a = 0)) = ((accts m).filter fun a => !decide (bal m a = 0)) := by
    refine Inc.ext ((accts_inc l).filter _) ((accts_inc m).filter _) fun a => ?_
    rw [List.mem_filter, List.mem_filter, mem_accts, mem_accts, h]
    constructor
    · rintro ⟨-, h2⟩
      refine ⟨Classical.byContradiction fun hn => ?_, h2⟩
      have := bal_not hn
      simp [this] at h2
    · rintro ⟨-, h2⟩
      refine ⟨Classical.byContradiction fun hn => ?_, h2⟩
      have := bal_not hn
      rw [← h] at h2
      simp [this] at h2
  rw [this]
  exact List.map_congr_left fun a _ => by rw [h]
theorem moved_corr {a b : List Posting} (ha : ∀ p ∈ a, p.ok) : movedOf a b = keepB (balsOf (correct a b)) :=
  keepB_congr fun x => by rw [bal_both ha, bal_correct (fun p hp => (ha p hp).2.2.2.2.1)]
theorem moved_left {a b : List Posting} (ha : ∀ p ∈ a, p.ok) (hb : ∀ p ∈ b, p.ok) : movedOf (a ++ correct a b) b = [] := by
  unfold movedOf
  have hj : ∀ p ∈ a ++ correct a b, p.ok := fun p hp => (List.mem_append.1 hp).elim (ha p) (correct_ok ha hb p)
  rw [keepB_bals]
  have : ((accts (bothL (a ++ correct a b) b)).filter fun x => !decide (bal (bothL (a ++ correct a b) b) x = 0)) = [] := by
    refine List.filter_eq_nil_iff.2 fun x _ => ?_
    have h1 := bal_both (now := b) hj x
    rw [bal_append, bal_correct (fun p hp => (ha p hp).2.2.2.2.1)] at h1
    simp
    omega
  rw [this]; rfl
theorem keepB_at {B : List Chg} {i : Nat} (h : i < B.length) (hz : B[i].2 ≠ 0) : ∃ hk : (keepB (B.take i)).length < (keepB B).length, (keepB B)[(keepB (B.take i)).length] = B[i] := by
  have e : keepB B = keepB (B.take i) ++ (B[i] :: keepB (B.drop (i + 1))) := by
    conv => lhs; rw [← List.take_append_drop i B, List.drop_eq_getElem_cons h]
    unfold keepB
    rw [List.filter_append, List.filter_cons, if_pos (by simpa using hz)]
  have hl : (keepB (B.take i)).length < (keepB B).length := by rw [e, List.length_append, List.length_cons]; omega
  refine ⟨hl, ?_⟩
  have : (keepB B)[(keepB (B.take i)).length]? = some B[i] := by rw [e, List.getElem?_append_right (Nat.le_refl _), Nat.sub_self]; rfl
  rw [List.getElem?_eq_getElem hl] at this
  exact Option.some.inj this
end Go.Proofs.Ax
