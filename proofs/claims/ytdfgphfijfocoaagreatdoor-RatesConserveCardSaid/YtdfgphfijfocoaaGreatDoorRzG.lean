import Derived.Test.YtdfgphfijfocoaaGreatDoorRzF
import Derived.Test.YtdfgphfijfocoaaGreatDoorRbCo
namespace Go.Proofs.Ax
open Go Go.Proofs
set_option maxRecDepth 10000
set_option maxHeartbeats 4000000
theorem balsOf_len (l : List Posting) : (balsOf l).length ≤ 2 * l.length := by rw [balsOf, List.length_map]; exact accts_len l
theorem balsOf_mem {l : List Posting} {c : Chg} (h : c ∈ balsOf l) : c.1 ∈ accts l ∧ c.2 = bal l c.1 := by
  obtain ⟨a, ha, rfl⟩ := List.mem_map.1 h
  exact ⟨ha, rfl⟩
def sum2 (b : List Chg) : Int := (b.map (·.2)).sum
theorem sum2_succ {b : List Chg} {k : Nat} (h : k < b.length) : sum2 (b.take (k + 1)) = sum2 (b.take k) + b[k].2 := by
  rw [sum2, take_succ_snoc h, List.map_append, List.sum_append]; simp [sum2]
theorem zero_ok (t : Bool) (l : List Posting) (h : checkPost l = (0, -1)) (hmax : l.length ≤ 200) : Pu Tryz.prog G1 38 [postings t l] (vb true) := by
  obtain ⟨-, hok⟩ := checkPost_0 (l := l) (by rw [h])
  have hB := Balances_good t l h
  have hbl := balsOf_len l
  have hbd : ∀ (k : Nat) (hk : k < (balsOf l).length), -300000000000000 ≤ (balsOf l)[k].2 ∧ (balsOf l)[k].2 ≤ 300000000000000 := fun k hk => by
    have e := (balsOf_mem (List.getElem_mem hk)).2
    have hb := bal_bd hok (balsOf l)[k].1
    rw [← e] at hb
    omega
  have hz : sum2 (balsOf l) = 0 := bals_sum hok
  generalize balsOf l = B at *
  refine Pu.of_ev (T := Tryz.tab) (n := 31) (tryd_ok _) Tryz.func38 rfl rfl rfl (by first | rfl | (split <;> rfl)) (by simp) ?_
  ((conv => whnf); repeat' ((first | refine vv1 ?_ | refine vv2 ?_ | refine vv3 ?_ | refine vv4 ?_ | refine vv5 ?_ | refine vv6 ?_ | refine vv7 ?_ | refine vv8 ?_ | refine vv9 ?_ | refine vv10 ?_ | refine vv11 (fun hbr => ?_) (fun hbr => ?_) | refine vv12 (fun hbr => ?_) (fun hbr => ?_) | refine vv13 ?_ | refine vv14 ?_ | refine vv15 ?_ | refine vv16 ?_ | refine vv17 (fun hbr => ?_) (fun hbr => ?_) | refine vv18 ?_ | refine vv19 (fun hbr => ?_) (fun hbr => ?_) | refine vv20 ?_ | refine SlIdxN.map _ rfl (by first | assumption | omega) ?_ | refine SlIdxN.mapPred (by omega) (by omega) ?_ | refine SlIdxN.mapSucc (by omega) ?_ | refine SlIdxN.lit _ _ rfl rfl ?_ | refine SlIdxN.mapInt (by omega) (by omega) ?_ | refine IdxN.at0 _ rfl (by first | assumption | omega | (simp <;> omega)) ?_ | refine vv21 ?_ | refine RowN.map (by first | assumption | omega) ?_ | refine vv22 ?_ | refine RowSN.map (by first | assumption | omega) ?_ | refine vv23 ?_ | refine vv24 ?_ | refine vv25 ?_ | refine Need.mk (by first | assumption | omega | (simp <;> omega)) ?_ | refine DrawN.gen (by first | exact tryd_ok _ | exact tryd_okm _ _) (by kernel_rfl) ?_ | refine vv26 ?_ | refine vv27 ?_ | refine vv28 ?_ | refine vv29 ?_ | refine vv30 ?_ | refine vv31 ?_ | refine vv32 ?_ | refine vv33 ?_ | refine CallN.pure (hB) ?_ | refine GCallN.pure _ (hB) ?_ | refine GCallN.ef (hB) ?_) <;> (conv => whnf)))
  refine LoopN.of2 (tryd_okg 0 _) (fun (k : Nat) (n : Int) => [(3, chgs false B), (4, vi 0), (5, vi n), (6, vi k)]) (fun _ _ => []) (fun k _ => B.length - k) (fun k n => k ≤ B.length ∧ n = sum2 (B.take k) ∧ -(300000000000000 * (k : Int)) ≤ n ∧ n ≤ 300000000000000 * (k : Int)) 0 0 ⟨Nat.zero_le _, rfl, by omega, by omega⟩ (Reabs.frm0 rfl (by repeat (first | exact trivial | refine ⟨.inr ⟨rfl, rfl⟩, ?_⟩))) ?_
  rintro k n ⟨hk, hn, hn1, hn2⟩
  by_cases hlt : k < B.length
  · have hb := hbd k hlt
    have hs := sum2_succ hlt
    ((conv => whnf); repeat' ((first | refine vv1 ?_ | refine vv2 ?_ | refine vv3 ?_ | refine vv4 ?_ | refine vv5 ?_ | refine vv6 ?_ | refine vv7 ?_ | refine vv8 ?_ | refine vv9 ?_ | refine vv10 ?_ | refine vv11 (fun hbr => ?_) (fun hbr => ?_) | refine vv12 (fun hbr => ?_) (fun hbr => ?_) | refine vv13 ?_ | refine vv14 ?_ | refine vv15 ?_ | refine vv16 ?_ | refine vv17 (fun hbr => ?_) (fun hbr => ?_) | refine vv18 ?_ | refine vv19 (fun hbr => ?_) (fun hbr => ?_) | refine vv20 ?_ | refine SlIdxN.map _ rfl (by first | assumption | omega) ?_ | refine SlIdxN.mapPred (by omega) (by omega) ?_ | refine SlIdxN.mapSucc (by omega) ?_ | refine SlIdxN.lit _ _ rfl rfl ?_ | refine SlIdxN.mapInt (by omega) (by omega) ?_ | refine IdxN.at0 _ rfl (by first | assumption | omega | (simp <;> omega)) ?_ | refine vv21 ?_ | refine RowN.map (by first | assumption | omega) ?_ | refine vv22 ?_ | refine RowSN.map (by first | assumption | omega) ?_ | refine vv23 ?_ | refine vv24 ?_ | refine vv25 ?_ | refine Need.mk (by first | assumption | omega | (simp <;> omega)) ?_ | refine DrawN.gen (by first | exact tryd_ok _ | exact tryd_okm _ _) (by kernel_rfl) ?_ | refine vv26 ?_ | refine vv27 ?_ | refine vv28 ?_ | refine vv29 ?_ | refine vv30 ?_ | refine vv31 ?_ | refine vv32 ?_ | refine vv33 ?_) <;> (conv => whnf)))
    exact BackN2.mk (k + 1) (n + B[k].2) ⟨by omega, by omega, by omega, by omega⟩ (by omega) (Reabs.frm0 rfl (by repeat (first | exact trivial | refine ⟨.inr ⟨rfl, rfl⟩, ?_⟩)))
  · ((conv => whnf); repeat' ((first | refine vv1 ?_ | refine vv2 ?_ | refine vv3 ?_ | refine vv4 ?_ | refine vv5 ?_ | refine vv6 ?_ | refine vv7 ?_ | refine vv8 ?_ | refine vv9 ?_ | refine vv10 ?_ | refine vv11 (fun hbr => ?_) (fun hbr => ?_) | refine vv12 (fun hbr => ?_) (fun hbr => ?_) | refine vv13 ?_ | refine vv14 ?_ | refine vv15 ?_ | refine vv16 ?_ | refine vv17 (fun hbr => ?_) (fun hbr => ?_) | refine vv18 ?_ | refine vv19 (fun hbr => ?_) (fun hbr => ?_) | refine vv20 ?_ | refine SlIdxN.map _ rfl (by first | assumption | omega) ?_ | refine SlIdxN.mapPred (by omega) (by omega) ?_ | refine SlIdxN.mapSucc (by omega) ?_ | refine SlIdxN.lit _ _ rfl rfl ?_ | refine SlIdxN.mapInt (by omega) (by omega) ?_ | refine IdxN.at0 _ rfl (by first | assumption | omega | (simp <;> omega)) ?_ | refine vv21 ?_ | refine RowN.map (by first | assumption | omega) ?_ | refine vv22 ?_ | refine RowSN.map (by first | assumption | omega) ?_ | refine vv23 ?_ | refine vv24 ?_ | refine vv25 ?_ | refine Need.mk (by first | assumption | omega | (simp <;> omega)) ?_ | refine DrawN.gen (by first | exact tryd_ok _ | exact tryd_okm _ _) (by kernel_rfl) ?_ | refine vv26 ?_ | refine vv27 ?_ | refine vv28 ?_ | refine vv29 ?_ | refine vv30 ?_ | refine vv31 ?_ | refine vv32 ?_ | refine vv33 ?_) <;> (conv => whnf)))
    all_goals first
      | exact DoneN.pure rfl
      | (rw [List.take_of_length_le (by omega), hz] at hn; subst hn; exact DoneN.pure rfl)
      | trace_state
theorem ratesConserve (t u : Bool) (a b : List Posting) (n : Int) (hmax : a.length ≤ 9223372036854775807) (hmax' : b.length ≤ 9223372036854775807) : Pu Tryz.prog G1 6 [postings t a, postings u b, vi n] (vb true) := by
  have hs1 := short_ok t a hmax
  have hs2 := short_ok u b hmax'
  have he1 := error_ok t a hmax
  have he2 := error_ok u b hmax'
  have hra := raccount_ok n
  by_cases hg : a.length ≤ 60 ∧ b.length ≤ 60 ∧ (checkPost a).1 = 0 ∧ (checkPost b).1 = 0 ∧ isAcc n
  case neg =>
    refine Pu.of_ev (T := Tryz.tab) (n := 91) (tryd_ok _) Tryz.func6 rfl rfl rfl (by first | rfl | (split <;> rfl)) (by simp) ?_
    ((conv => whnf); repeat' ((first | refine vv1 ?_ | refine vv2 ?_ | refine vv3 ?_ | refine vv4 ?_ | refine vv5 ?_ | refine vv6 ?_ | refine vv7 ?_ | refine vv8 ?_ | refine vv9 ?_ | refine vv10 ?_ | refine vv11 (fun hbr => ?_) (fun hbr => ?_) | refine vv12 (fun hbr => ?_) (fun hbr => ?_) | refine vv13 ?_ | refine vv14 ?_ | refine vv15 ?_ | refine vv16 ?_ | refine vv17 (fun hbr => ?_) (fun hbr => ?_) | refine vv18 ?_ | refine vv19 (fun hbr => ?_) (fun hbr => ?_) | refine vv20 ?_ | refine SlIdxN.map _ rfl (by first | assumption | omega) ?_ | refine SlIdxN.mapPred (by omega) (by omega) ?_ | refine SlIdxN.mapSucc (by omega) ?_ | refine SlIdxN.lit _ _ rfl rfl ?_ | refine SlIdxN.mapInt (by omega) (by omega) ?_ | refine IdxN.at0 _ rfl (by first | assumption | omega | (simp <;> omega)) ?_ | refine vv21 ?_ | refine RowN.map (by first | assumption | omega) ?_ | refine vv22 ?_ | refine RowSN.map (by first | assumption | omega) ?_ | refine vv23 ?_ | refine vv24 ?_ | refine vv25 ?_ | refine Need.mk (by first | assumption | omega | (simp <;> omega)) ?_ | refine DrawN.gen (by first | exact tryd_ok _ | exact tryd_okm _ _) (by kernel_rfl) ?_ | refine vv26 ?_ | refine vv27 ?_ | refine vv28 ?_ | refine vv29 ?_ | refine vv30 ?_ | refine vv31 ?_ | refine vv32 ?_ | refine vv33 ?_ | refine CallN.pure (hs1) ?_ | refine CallN.pure (hs2) ?_ | refine CallN.pure (he1) ?_ | refine CallN.pure (he2) ?_ | refine CallN.pure (hra) ?_ | refine CallN.pure (sane_ok) ?_ | refine GCallN.pure _ (hs1) ?_ | refine GCallN.pure _ (hs2) ?_ | refine GCallN.pure _ (he1) ?_ | refine GCallN.pure _ (he2) ?_ | refine GCallN.pure _ (hra) ?_ | refine GCallN.pure _ (sane_ok) ?_ | refine GCallN.ef (hs1) ?_ | refine GCallN.ef (hs2) ?_ | refine GCallN.ef (he1) ?_ | refine GCallN.ef (he2) ?_ | refine GCallN.ef (hra) ?_ | refine GCallN.ef (sane_ok) ?_) <;> (conv => whnf)))
    all_goals first
      | exact DoneN.pure rfl
      | (exfalso; exact hg ⟨by omega, by omega, by assumption, by assumption, by assumption⟩)
      | trace_state
  obtain ⟨g1, g2, g3, g4, g5⟩ := hg
  rw [decide_eq_true (by omega)] at hs1 hs2
  rw [g3] at he1
  rw [g4] at he2
  rw [decide_eq_true g5] at hra
  have c1 := checkPost_eq g3
  have c2 := checkPost_eq g4
  obtain ⟨-, o1⟩ := checkPost_0 g3
  obtain ⟨-, o2⟩ := checkPost_0 g4
  have hj := joined_ok t u a b (by omega) (by omega)
  have oj : ∀ p ∈ a ++ b, p.ok := fun p hp => (List.mem_append.1 hp).elim (o1 p) (o2 p)
  have cj := checkPost_good oj (by rw [List.length_append]; omega)
  have b1 := balance_good t a n c1 g5 o1 (by omega)
  have b2 := balance_good u b n c2 g5 o2 (by omega)
  have b3 := balance_good false (a ++ b) n cj g5 oj (by rw [List.length_append]; omega)
  have z1 := zero_ok t a c1 (by omega)
  have z2 := zero_ok u b c2 (by omega)
  have z3 := zero_ok false (a ++ b) cj (by rw [List.length_append]; omega)
  have d1 := bal_bd o1 n
  have d2 := bal_bd o2 n
  rw [bal_append] at b3
  generalize bal a n = x at *
  generalize bal b n = y at *
  refine Pu.of_ev (T := Tryz.tab) (n := 91) (tryd_ok _) Tryz.func6 rfl rfl rfl (by first | rfl | (split <;> rfl)) (by simp) ?_
  ((conv => whnf); repeat' ((first | refine vv1 ?_ | refine vv2 ?_ | refine vv3 ?_ | refine vv4 ?_ | refine vv5 ?_ | refine vv6 ?_ | refine vv7 ?_ | refine vv8 ?_ | refine vv9 ?_ | refine vv10 ?_ | refine vv11 (fun hbr => ?_) (fun hbr => ?_) | refine vv12 (fun hbr => ?_) (fun hbr => ?_) | refine vv13 ?_ | refine vv14 ?_ | refine vv15 ?_ | refine vv16 ?_ | refine vv17 (fun hbr => ?_) (fun hbr => ?_) | refine vv18 ?_ | refine vv19 (fun hbr => ?_) (fun hbr => ?_) | refine vv20 ?_ | refine SlIdxN.map _ rfl (by first | assumption | omega) ?_ | refine SlIdxN.mapPred (by omega) (by omega) ?_ | refine SlIdxN.mapSucc (by omega) ?_ | refine SlIdxN.lit _ _ rfl rfl ?_ | refine SlIdxN.mapInt (by omega) (by omega) ?_ | refine IdxN.at0 _ rfl (by first | assumption | omega | (simp <;> omega)) ?_ | refine vv21 ?_ | refine RowN.map (by first | assumption | omega) ?_ | refine vv22 ?_ | refine RowSN.map (by first | assumption | omega) ?_ | refine vv23 ?_ | refine vv24 ?_ | refine vv25 ?_ | refine Need.mk (by first | assumption | omega | (simp <;> omega)) ?_ | refine DrawN.gen (by first | exact tryd_ok _ | exact tryd_okm _ _) (by kernel_rfl) ?_ | refine vv26 ?_ | refine vv27 ?_ | refine vv28 ?_ | refine vv29 ?_ | refine vv30 ?_ | refine vv31 ?_ | refine vv32 ?_ | refine vv33 ?_ | refine CallN.pure (hs1) ?_ | refine CallN.pure (hs2) ?_ | refine CallN.pure (he1) ?_ | refine CallN.pure (he2) ?_ | refine CallN.pure (hra) ?_ | refine CallN.pure (hj) ?_ | refine CallN.pure (b1) ?_ | refine CallN.pure (b2) ?_ | refine CallN.pure (b3) ?_ | refine CallN.pure (z1) ?_ | refine CallN.pure (z2) ?_ | refine CallN.pure (z3) ?_ | refine CallN.pure (sane_ok) ?_ | refine GCallN.pure _ (hs1) ?_ | refine GCallN.pure _ (hs2) ?_ | refine GCallN.pure _ (he1) ?_ | refine GCallN.pure _ (he2) ?_ | refine GCallN.pure _ (hra) ?_ | refine GCallN.pure _ (hj) ?_ | refine GCallN.pure _ (b1) ?_ | refine GCallN.pure _ (b2) ?_ | refine GCallN.pure _ (b3) ?_ | refine GCallN.pure _ (z1) ?_ | refine GCallN.pure _ (z2) ?_ | refine GCallN.pure _ (z3) ?_ | refine GCallN.pure _ (sane_ok) ?_ | refine GCallN.ef (hs1) ?_ | refine GCallN.ef (hs2) ?_ | refine GCallN.ef (he1) ?_ | refine GCallN.ef (he2) ?_ | refine GCallN.ef (hra) ?_ | refine GCallN.ef (hj) ?_ | refine GCallN.ef (b1) ?_ | refine GCallN.ef (b2) ?_ | refine GCallN.ef (b3) ?_ | refine GCallN.ef (z1) ?_ | refine GCallN.ef (z2) ?_ | refine GCallN.ef (z3) ?_ | refine GCallN.ef (sane_ok) ?_) <;> (conv => whnf)))
  all_goals first
    | exact DoneN.pure rfl
    | (refine DoneN.pure ?_; simp; done)
    | trace_state
end Go.Proofs.Ax
