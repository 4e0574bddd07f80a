import Derived.Test.YtdfgphfijfocoaaDoorBoundLaw
import Derived.Test.YtdfgphfijfocoaaDoorRbO
namespace Go.Proofs.Ax
open Go Go.Proofs
set_option maxRecDepth 10000
set_option maxHeartbeats 4000000
theorem balance_good (t : Bool) (l : List Posting) (a : Int) (h : checkPost l = (0, -1)) (ha : isAcc a) (hl : ∀ x ∈ l, x.ok) (hmax : l.length ≤ 4000) : Pu Tryd.prog G1 38 [postings t l, vi a] (.tuple [vi (bal l a), vi 0]) := by
  have hc := checkPost_ok t l (by omega)
  rw [h] at hc
  have hac := account_ok a
  rw [decide_eq_true ha] at hac
  refine Pu.of_ev (T := Tryd.tab) (n := 35) (tryd_ok _) Tryd.func38 rfl rfl rfl (by first | rfl | (split <;> rfl)) (by simp) ?_
  ((conv => whnf); repeat' ((first | refine vv1 ?_ | refine vv2 ?_ | refine vv3 ?_ | refine vv4 ?_ | refine vv5 ?_ | refine vv6 ?_ | refine vv7 ?_ | refine vv8 ?_ | refine vv9 ?_ | refine vv10 ?_ | refine vv11 (fun hbr => ?_) (fun hbr => ?_) | refine vv12 (fun hbr => ?_) (fun hbr => ?_) | refine vv13 ?_ | refine vv14 ?_ | refine vv15 ?_ | refine vv16 ?_ | refine vv17 (fun hbr => ?_) (fun hbr => ?_) | refine vv18 ?_ | refine vv19 (fun hbr => ?_) (fun hbr => ?_) | refine vv20 ?_ | refine SlIdxN.map _ rfl (by first | assumption | omega) ?_ | refine SlIdxN.mapPred (by omega) (by omega) ?_ | refine SlIdxN.mapSucc (by omega) ?_ | refine SlIdxN.lit _ _ rfl rfl ?_ | refine SlIdxN.mapInt (by omega) (by omega) ?_ | refine IdxN.at0 _ rfl (by first | assumption | omega | (simp <;> omega)) ?_ | refine vv21 ?_ | refine RowN.map (by first | assumption | omega) ?_ | refine vv22 ?_ | refine RowSN.map (by first | assumption | omega) ?_ | refine vv23 ?_ | refine vv24 ?_ | refine vv25 ?_ | refine Need.mk (by first | assumption | omega | (simp <;> omega)) ?_ | refine DrawN.gen (by first | exact tryd_ok _ | exact tryd_okm _ _) (by kernel_rfl) ?_ | refine vv26 ?_ | refine vv27 ?_ | refine vv28 ?_ | refine vv29 ?_ | refine vv30 ?_ | refine vv31 ?_ | refine vv32 ?_ | refine vv33 ?_ | refine CallN.pure (hc) ?_ | refine CallN.pure (hac) ?_ | refine GCallN.pure _ (hc) ?_ | refine GCallN.pure _ (hac) ?_ | refine GCallN.ef (hc) ?_ | refine GCallN.ef (hac) ?_) <;> (conv => whnf)))
  refine LoopN.of2 (tryd_ok _) (fun (k : Nat) (n : Int) => [(1, vi a), (8, vi n), (22, postings t l), (23, vi l.length), (24, vi k)]) (fun _ _ => []) (fun k _ => l.length - k) (fun k n => k ≤ l.length ∧ n = bal (l.take k) a) 0 0 ⟨Nat.zero_le _, rfl⟩ (Reabs.frm0 rfl (by repeat (first | exact trivial | refine ⟨.inr ⟨rfl, rfl⟩, ?_⟩))) ?_
  rintro k n ⟨hk, hn⟩
  by_cases hlt : k < l.length
  · have hok := hl _ (List.getElem_mem hlt)
    have hb := bal_take_bd hl k hk a
    have hs := bal_take_succ hlt a
    have hcb := change_bd hok a
    have hamt : 1 ≤ l[k].amount ∧ l[k].amount ≤ 1099511627776 := hok.2.2.2.2.2
    ((conv => whnf); repeat' ((first | refine vv1 ?_ | refine vv2 ?_ | refine vv3 ?_ | refine vv4 ?_ | refine vv5 ?_ | refine vv6 ?_ | refine vv7 ?_ | refine vv8 ?_ | refine vv9 ?_ | refine vv10 ?_ | refine vv11 (fun hbr => ?_) (fun hbr => ?_) | refine vv12 (fun hbr => ?_) (fun hbr => ?_) | refine vv13 ?_ | refine vv14 ?_ | refine vv15 ?_ | refine vv16 ?_ | refine vv17 (fun hbr => ?_) (fun hbr => ?_) | refine vv18 ?_ | refine vv19 (fun hbr => ?_) (fun hbr => ?_) | refine vv20 ?_ | refine SlIdxN.map _ rfl (by first | assumption | omega) ?_ | refine SlIdxN.mapPred (by omega) (by omega) ?_ | refine SlIdxN.mapSucc (by omega) ?_ | refine SlIdxN.lit _ _ rfl rfl ?_ | refine SlIdxN.mapInt (by omega) (by omega) ?_ | refine IdxN.at0 _ rfl (by first | assumption | omega | (simp <;> omega)) ?_ | refine vv21 ?_ | refine RowN.map (by first | assumption | omega) ?_ | refine vv22 ?_ | refine RowSN.map (by first | assumption | omega) ?_ | refine vv23 ?_ | refine vv24 ?_ | refine vv25 ?_ | refine Need.mk (by first | assumption | omega | (simp <;> omega)) ?_ | refine DrawN.gen (by first | exact tryd_ok _ | exact tryd_okm _ _) (by kernel_rfl) ?_ | refine vv26 ?_ | refine vv27 ?_ | refine vv28 ?_ | refine vv29 ?_ | refine vv30 ?_ | refine vv31 ?_ | refine vv32 ?_ | refine vv33 ?_ | refine CallN.pure (change_ok _ _ (by omega)) ?_ | refine GCallN.pure _ (change_ok _ _ (by omega)) ?_ | refine GCallN.ef (change_ok _ _ (by omega)) ?_) <;> (conv => whnf)))
    exact BackN2.mk (k + 1) (n + change l[k] a) ⟨by omega, by rw [hs, hn]⟩ (by omega) (Reabs.frm0 rfl (by repeat (first | exact trivial | refine ⟨.inr ⟨rfl, rfl⟩, ?_⟩)))
  · ((conv => whnf); repeat' ((first | refine vv1 ?_ | refine vv2 ?_ | refine vv3 ?_ | refine vv4 ?_ | refine vv5 ?_ | refine vv6 ?_ | refine vv7 ?_ | refine vv8 ?_ | refine vv9 ?_ | refine vv10 ?_ | refine vv11 (fun hbr => ?_) (fun hbr => ?_) | refine vv12 (fun hbr => ?_) (fun hbr => ?_) | refine vv13 ?_ | refine vv14 ?_ | refine vv15 ?_ | refine vv16 ?_ | refine vv17 (fun hbr => ?_) (fun hbr => ?_) | refine vv18 ?_ | refine vv19 (fun hbr => ?_) (fun hbr => ?_) | refine vv20 ?_ | refine SlIdxN.map _ rfl (by first | assumption | omega) ?_ | refine SlIdxN.mapPred (by omega) (by omega) ?_ | refine SlIdxN.mapSucc (by omega) ?_ | refine SlIdxN.lit _ _ rfl rfl ?_ | refine SlIdxN.mapInt (by omega) (by omega) ?_ | refine IdxN.at0 _ rfl (by first | assumption | omega | (simp <;> omega)) ?_ | refine vv21 ?_ | refine RowN.map (by first | assumption | omega) ?_ | refine vv22 ?_ | refine RowSN.map (by first | assumption | omega) ?_ | refine vv23 ?_ | refine vv24 ?_ | refine vv25 ?_ | refine Need.mk (by first | assumption | omega | (simp <;> omega)) ?_ | refine DrawN.gen (by first | exact tryd_ok _ | exact tryd_okm _ _) (by kernel_rfl) ?_ | refine vv26 ?_ | refine vv27 ?_ | refine vv28 ?_ | refine vv29 ?_ | refine vv30 ?_ | refine vv31 ?_ | refine vv32 ?_ | refine vv33 ?_) <;> (conv => whnf)))
    refine DoneN.pure ?_
    rw [hn, List.take_of_length_le (by omega)]
theorem ratesBounds (t u : Bool) (ps : List Policy) (l : List Round) (s : Span) (n id : Int) (hmax : ps.length ≤ 9223372036854775807) (hmax' : l.length ≤ 9223372036854775807) : Pu Tryd.prog G1 10 [policies t ps, rounds u l, .agg s.enc, vi n, vi id] (vb true) := by
  have hfew := few_ok t u ps l hmax hmax'
  have hask := rasked_ok t u ps l s hmax hmax'
  by_cases hf : fewP ps l
  case neg =>
    rw [decide_eq_false hf] at hfew
    refine Pu.of_ev (T := Tryd.tab) (n := 164) (tryd_ok _) Tryd.func10 rfl rfl rfl (by first | rfl | (split <;> rfl)) (by simp) ?_
    ((conv => whnf); repeat' ((first | refine vv1 ?_ | refine vv2 ?_ | refine vv3 ?_ | refine vv4 ?_ | refine vv5 ?_ | refine vv6 ?_ | refine vv7 ?_ | refine vv8 ?_ | refine vv9 ?_ | refine vv10 ?_ | refine vv11 (fun hbr => ?_) (fun hbr => ?_) | refine vv12 (fun hbr => ?_) (fun hbr => ?_) | refine vv13 ?_ | refine vv14 ?_ | refine vv15 ?_ | refine vv16 ?_ | refine vv17 (fun hbr => ?_) (fun hbr => ?_) | refine vv18 ?_ | refine vv19 (fun hbr => ?_) (fun hbr => ?_) | refine vv20 ?_ | refine SlIdxN.map _ rfl (by first | assumption | omega) ?_ | refine SlIdxN.mapPred (by omega) (by omega) ?_ | refine SlIdxN.mapSucc (by omega) ?_ | refine SlIdxN.lit _ _ rfl rfl ?_ | refine SlIdxN.mapInt (by omega) (by omega) ?_ | refine IdxN.at0 _ rfl (by first | assumption | omega | (simp <;> omega)) ?_ | refine vv21 ?_ | refine RowN.map (by first | assumption | omega) ?_ | refine vv22 ?_ | refine RowSN.map (by first | assumption | omega) ?_ | refine vv23 ?_ | refine vv24 ?_ | refine vv25 ?_ | refine Need.mk (by first | assumption | omega | (simp <;> omega)) ?_ | refine DrawN.gen (by first | exact tryd_ok _ | exact tryd_okm _ _) (by kernel_rfl) ?_ | refine vv26 ?_ | refine vv27 ?_ | refine vv28 ?_ | refine vv29 ?_ | refine vv30 ?_ | refine vv31 ?_ | refine vv32 ?_ | refine vv33 ?_ | refine CallN.pure (hfew) ?_ | refine CallN.pure (sane_ok) ?_ | refine GCallN.pure _ (hfew) ?_ | refine GCallN.pure _ (sane_ok) ?_ | refine GCallN.ef (hfew) ?_ | refine GCallN.ef (sane_ok) ?_) <;> (conv => whnf)))
    all_goals exact DoneN.pure rfl
  rw [decide_eq_true hf] at hfew
  by_cases ha : askedErr ps l s = 0
  case neg =>
    refine Pu.of_ev (T := Tryd.tab) (n := 164) (tryd_ok _) Tryd.func10 rfl rfl rfl (by first | rfl | (split <;> rfl)) (by simp) ?_
    ((conv => whnf); repeat' ((first | refine vv1 ?_ | refine vv2 ?_ | refine vv3 ?_ | refine vv4 ?_ | refine vv5 ?_ | refine vv6 ?_ | refine vv7 ?_ | refine vv8 ?_ | refine vv9 ?_ | refine vv10 ?_ | refine vv11 (fun hbr => ?_) (fun hbr => ?_) | refine vv12 (fun hbr => ?_) (fun hbr => ?_) | refine vv13 ?_ | refine vv14 ?_ | refine vv15 ?_ | refine vv16 ?_ | refine vv17 (fun hbr => ?_) (fun hbr => ?_) | refine vv18 ?_ | refine vv19 (fun hbr => ?_) (fun hbr => ?_) | refine vv20 ?_ | refine SlIdxN.map _ rfl (by first | assumption | omega) ?_ | refine SlIdxN.mapPred (by omega) (by omega) ?_ | refine SlIdxN.mapSucc (by omega) ?_ | refine SlIdxN.lit _ _ rfl rfl ?_ | refine SlIdxN.mapInt (by omega) (by omega) ?_ | refine IdxN.at0 _ rfl (by first | assumption | omega | (simp <;> omega)) ?_ | refine vv21 ?_ | refine RowN.map (by first | assumption | omega) ?_ | refine vv22 ?_ | refine RowSN.map (by first | assumption | omega) ?_ | refine vv23 ?_ | refine vv24 ?_ | refine vv25 ?_ | refine Need.mk (by first | assumption | omega | (simp <;> omega)) ?_ | refine DrawN.gen (by first | exact tryd_ok _ | exact tryd_okm _ _) (by kernel_rfl) ?_ | refine vv26 ?_ | refine vv27 ?_ | refine vv28 ?_ | refine vv29 ?_ | refine vv30 ?_ | refine vv31 ?_ | refine vv32 ?_ | refine vv33 ?_ | refine CallN.pure (hfew) ?_ | refine CallN.pure (sane_ok) ?_ | refine CallN.pure (hask) ?_ | refine GCallN.pure _ (hfew) ?_ | refine GCallN.pure _ (sane_ok) ?_ | refine GCallN.pure _ (hask) ?_ | refine GCallN.ef (hfew) ?_ | refine GCallN.ef (sane_ok) ?_ | refine GCallN.ef (hask) ?_) <;> (conv => whnf)))
    all_goals first
      | exact DoneN.pure rfl
      | (exfalso; exact ha (by assumption))
  rw [ha] at hask
  have hin1 := in_ok n s.lo s.hi
  by_cases hn : s.lo ≤ n ∧ n ≤ s.hi
  case neg =>
    rw [decide_eq_false hn] at hin1
    refine Pu.of_ev (T := Tryd.tab) (n := 164) (tryd_ok _) Tryd.func10 rfl rfl rfl (by first | rfl | (split <;> rfl)) (by simp) ?_
    ((conv => whnf); repeat' ((first | refine vv1 ?_ | refine vv2 ?_ | refine vv3 ?_ | refine vv4 ?_ | refine vv5 ?_ | refine vv6 ?_ | refine vv7 ?_ | refine vv8 ?_ | refine vv9 ?_ | refine vv10 ?_ | refine vv11 (fun hbr => ?_) (fun hbr => ?_) | refine vv12 (fun hbr => ?_) (fun hbr => ?_) | refine vv13 ?_ | refine vv14 ?_ | refine vv15 ?_ | refine vv16 ?_ | refine vv17 (fun hbr => ?_) (fun hbr => ?_) | refine vv18 ?_ | refine vv19 (fun hbr => ?_) (fun hbr => ?_) | refine vv20 ?_ | refine SlIdxN.map _ rfl (by first | assumption | omega) ?_ | refine SlIdxN.mapPred (by omega) (by omega) ?_ | refine SlIdxN.mapSucc (by omega) ?_ | refine SlIdxN.lit _ _ rfl rfl ?_ | refine SlIdxN.mapInt (by omega) (by omega) ?_ | refine IdxN.at0 _ rfl (by first | assumption | omega | (simp <;> omega)) ?_ | refine vv21 ?_ | refine RowN.map (by first | assumption | omega) ?_ | refine vv22 ?_ | refine RowSN.map (by first | assumption | omega) ?_ | refine vv23 ?_ | refine vv24 ?_ | refine vv25 ?_ | refine Need.mk (by first | assumption | omega | (simp <;> omega)) ?_ | refine DrawN.gen (by first | exact tryd_ok _ | exact tryd_okm _ _) (by kernel_rfl) ?_ | refine vv26 ?_ | refine vv27 ?_ | refine vv28 ?_ | refine vv29 ?_ | refine vv30 ?_ | refine vv31 ?_ | refine vv32 ?_ | refine vv33 ?_ | refine CallN.pure (hfew) ?_ | refine CallN.pure (sane_ok) ?_ | refine CallN.pure (hask) ?_ | refine CallN.pure (hin1) ?_ | refine GCallN.pure _ (hfew) ?_ | refine GCallN.pure _ (sane_ok) ?_ | refine GCallN.pure _ (hask) ?_ | refine GCallN.pure _ (hin1) ?_ | refine GCallN.ef (hfew) ?_ | refine GCallN.ef (sane_ok) ?_ | refine GCallN.ef (hask) ?_ | refine GCallN.ef (hin1) ?_) <;> (conv => whnf)))
    all_goals exact DoneN.pure rfl
  rw [decide_eq_true hn] at hin1
  have hin2 := in_ok id 1 1099511627776
  by_cases hid : 1 ≤ id ∧ id ≤ 1099511627776
  case neg =>
    rw [decide_eq_false hid] at hin2
    refine Pu.of_ev (T := Tryd.tab) (n := 164) (tryd_ok _) Tryd.func10 rfl rfl rfl (by first | rfl | (split <;> rfl)) (by simp) ?_
    ((conv => whnf); repeat' ((first | refine vv1 ?_ | refine vv2 ?_ | refine vv3 ?_ | refine vv4 ?_ | refine vv5 ?_ | refine vv6 ?_ | refine vv7 ?_ | refine vv8 ?_ | refine vv9 ?_ | refine vv10 ?_ | refine vv11 (fun hbr => ?_) (fun hbr => ?_) | refine vv12 (fun hbr => ?_) (fun hbr => ?_) | refine vv13 ?_ | refine vv14 ?_ | refine vv15 ?_ | refine vv16 ?_ | refine vv17 (fun hbr => ?_) (fun hbr => ?_) | refine vv18 ?_ | refine vv19 (fun hbr => ?_) (fun hbr => ?_) | refine vv20 ?_ | refine SlIdxN.map _ rfl (by first | assumption | omega) ?_ | refine SlIdxN.mapPred (by omega) (by omega) ?_ | refine SlIdxN.mapSucc (by omega) ?_ | refine SlIdxN.lit _ _ rfl rfl ?_ | refine SlIdxN.mapInt (by omega) (by omega) ?_ | refine IdxN.at0 _ rfl (by first | assumption | omega | (simp <;> omega)) ?_ | refine vv21 ?_ | refine RowN.map (by first | assumption | omega) ?_ | refine vv22 ?_ | refine RowSN.map (by first | assumption | omega) ?_ | refine vv23 ?_ | refine vv24 ?_ | refine vv25 ?_ | refine Need.mk (by first | assumption | omega | (simp <;> omega)) ?_ | refine DrawN.gen (by first | exact tryd_ok _ | exact tryd_okm _ _) (by kernel_rfl) ?_ | refine vv26 ?_ | refine vv27 ?_ | refine vv28 ?_ | refine vv29 ?_ | refine vv30 ?_ | refine vv31 ?_ | refine vv32 ?_ | refine vv33 ?_ | refine CallN.pure (hfew) ?_ | refine CallN.pure (sane_ok) ?_ | refine CallN.pure (hask) ?_ | refine CallN.pure (hin1) ?_ | refine CallN.pure (hin2) ?_ | refine GCallN.pure _ (hfew) ?_ | refine GCallN.pure _ (sane_ok) ?_ | refine GCallN.pure _ (hask) ?_ | refine GCallN.pure _ (hin1) ?_ | refine GCallN.pure _ (hin2) ?_ | refine GCallN.ef (hfew) ?_ | refine GCallN.ef (sane_ok) ?_ | refine GCallN.ef (hask) ?_ | refine GCallN.ef (hin1) ?_ | refine GCallN.ef (hin2) ?_) <;> (conv => whnf)))
    all_goals exact DoneN.pure rfl
  rw [decide_eq_true hid] at hin2
  obtain ⟨h1, h2, h3⟩ := askedErr_0 ha
  obtain ⟨c1, c2⟩ := checkPol_0 h1
  obtain ⟨b1, b2⟩ := checkRounds_0 h2
  have h40 := few_40 hf b1
  have hs := spanErr_0 h3
  have hn2 : 0 ≤ n ∧ n ≤ 20000 := by omega
  have h3' : spanErr ⟨n, n⟩ = 0 := by unfold spanErr; simp only; rw [if_neg (by omega), if_neg (by omega)]
  have ha' : askedErr ps l ⟨n, n⟩ = 0 := by unfold askedErr; rw [if_neg (by simpa using h1), if_neg (by simpa using h2)]; exact h3'
  have hgs := Season_good t u ps l s hmax hmax' ha
  have hg1 := Season_good t u ps l ⟨n, n⟩ hmax hmax' ha'
  rw [one_night] at hg1
  have ml := seasonOf_len2 c2 b2 h3
  have mm := seasonOf_mem c2 b2 h3
  have nl := nightIn_len (n := n) c2 b2 hn2
  have ncl : cntN n l ≤ l.length := List.countP_le_length
  have nm := (nightIn_ok (n := n) c2 b2 hn2).2
  have hcp := checkPost_good (fun x hx => (mm x hx).1) (by omega)
  have hc1 := checkPost_good (fun x hx => (nm x hx).1) (by omega)
  have hb1 := balance_good false _ (-2) hc1 (.inr (.inl rfl)) (fun x hx => (nm x hx).1) (by omega)
  have hb2 := balance_good false _ id hc1 (.inr (.inr hid)) (fun x hx => (nm x hx).1) (by omega)
  have hee : earnedErr (seasonOf ps l s) id s = 0 := by
    unfold earnedErr
    rw [if_neg (by rw [hcp]; simp), if_neg (by simpa using h3), if_neg (by omega)]
  have hea := earned_good false _ id s (by omega) hee
  have hel := earned_length (seasonOf ps l s) id s
  have hat := fun h => earned_at c2 b2 h3 id n hn h
  have hinf := inForce_ok t ps n hmax
  rw [inForce_at h1 hn2] at hinf
  unfold pe at hinf
  have hnn := bal_nn (fun x hx => ⟨(nm x hx).1, (nm x hx).2.2⟩) hid.1
  by_cases hfo : (forceOf ps n).2 = true
  · rw [if_neg (by simp [hfo])] at hinf
    have hpo := c2 _ (forceOf_mem hfo)
    have nok := night_nok hpo hn2 b2
    have ei : bal (nightIn ps l n) (-2) = (forceOf ps n).1.base + (nightSt (forceOf ps n).1 n l).ch - (nightSt (forceOf ps n).1 n l).cr := by
      rw [nightIn, if_pos hfo]; exact nok.ins
    have ncr := nok.cr
    have nch := nok.ch
    unfold Policy.ok at hpo
    rw [ei] at hb1
    generalize nightIn ps l n = N at *
    generalize earned (seasonOf ps l s) id s = Es at *
    generalize seasonOf ps l s = S at *
    generalize bal N id = B at *
    generalize (nightSt (forceOf ps n).1 n l).ch = ch at *
    generalize (nightSt (forceOf ps n).1 n l).cr = cr at *
    generalize (forceOf ps n).1 = p at *
    have hat := hat (by omega)
    refine Pu.of_ev (T := Tryd.tab) (n := 164) (tryd_ok _) Tryd.func10 rfl rfl rfl (by first | rfl | (split <;> rfl)) (by simp) ?_
    ((conv => whnf); repeat' ((first | refine vv1 ?_ | refine vv2 ?_ | refine vv3 ?_ | refine vv4 ?_ | refine vv5 ?_ | refine vv6 ?_ | refine vv7 ?_ | refine vv8 ?_ | refine vv9 ?_ | refine vv10 ?_ | refine vv11 (fun hbr => ?_) (fun hbr => ?_) | refine vv12 (fun hbr => ?_) (fun hbr => ?_) | refine vv13 ?_ | refine vv14 ?_ | refine vv15 ?_ | refine vv16 ?_ | refine vv17 (fun hbr => ?_) (fun hbr => ?_) | refine vv18 ?_ | refine vv19 (fun hbr => ?_) (fun hbr => ?_) | refine vv20 ?_ | refine SlIdxN.map _ rfl (by first | assumption | omega) ?_ | refine SlIdxN.mapPred (by omega) (by omega) ?_ | refine SlIdxN.mapSucc (by omega) ?_ | refine SlIdxN.lit _ _ rfl rfl ?_ | refine SlIdxN.mapInt (by omega) (by omega) ?_ | refine IdxN.at0 _ rfl (by first | assumption | omega | (simp <;> omega)) ?_ | refine vv21 ?_ | refine RowN.map (by first | assumption | omega) ?_ | refine vv22 ?_ | refine RowSN.map (by first | assumption | omega) ?_ | refine vv23 ?_ | refine vv24 ?_ | refine vv25 ?_ | refine Need.mk (by first | assumption | omega | (simp <;> omega)) ?_ | refine DrawN.gen (by first | exact tryd_ok _ | exact tryd_okm _ _) (by kernel_rfl) ?_ | refine vv26 ?_ | refine vv27 ?_ | refine vv28 ?_ | refine vv29 ?_ | refine vv30 ?_ | refine vv31 ?_ | refine vv32 ?_ | refine vv33 ?_ | refine CallN.pure (hfew) ?_ | refine CallN.pure (sane_ok) ?_ | refine CallN.pure (hask) ?_ | refine CallN.pure (hin1) ?_ | refine CallN.pure (hin2) ?_ | refine CallN.pure (hgs) ?_ | refine CallN.pure (hg1) ?_ | refine CallN.pure (hb1) ?_ | refine CallN.pure (hb2) ?_ | refine CallN.pure (hea) ?_ | refine CallN.pure (hinf) ?_ | refine GCallN.pure _ (hfew) ?_ | refine GCallN.pure _ (sane_ok) ?_ | refine GCallN.pure _ (hask) ?_ | refine GCallN.pure _ (hin1) ?_ | refine GCallN.pure _ (hin2) ?_ | refine GCallN.pure _ (hgs) ?_ | refine GCallN.pure _ (hg1) ?_ | refine GCallN.pure _ (hb1) ?_ | refine GCallN.pure _ (hb2) ?_ | refine GCallN.pure _ (hea) ?_ | refine GCallN.pure _ (hinf) ?_ | refine GCallN.ef (hfew) ?_ | refine GCallN.ef (sane_ok) ?_ | refine GCallN.ef (hask) ?_ | refine GCallN.ef (hin1) ?_ | refine GCallN.ef (hin2) ?_ | refine GCallN.ef (hgs) ?_ | refine GCallN.ef (hg1) ?_ | refine GCallN.ef (hb1) ?_ | refine GCallN.ef (hb2) ?_ | refine GCallN.ef (hea) ?_ | refine GCallN.ef (hinf) ?_) <;> (conv => whnf)))
    all_goals first
      | exact DoneN.pure rfl
      | (refine DoneN.pure ?_; simp [hat]; done)
      | trace_state
  · have hfo' := Bool.eq_false_iff.2 hfo
    rw [if_pos hfo'] at hinf
    simp only at hinf
    have e0 : nightIn ps l n = [] := by rw [nightIn, if_neg hfo]
    rw [e0] at hg1 hb1 hb2
    refine Pu.of_ev (T := Tryd.tab) (n := 164) (tryd_ok _) Tryd.func10 rfl rfl rfl (by first | rfl | (split <;> rfl)) (by simp) ?_
    ((conv => whnf); repeat' ((first | refine vv1 ?_ | refine vv2 ?_ | refine vv3 ?_ | refine vv4 ?_ | refine vv5 ?_ | refine vv6 ?_ | refine vv7 ?_ | refine vv8 ?_ | refine vv9 ?_ | refine vv10 ?_ | refine vv11 (fun hbr => ?_) (fun hbr => ?_) | refine vv12 (fun hbr => ?_) (fun hbr => ?_) | refine vv13 ?_ | refine vv14 ?_ | refine vv15 ?_ | refine vv16 ?_ | refine vv17 (fun hbr => ?_) (fun hbr => ?_) | refine vv18 ?_ | refine vv19 (fun hbr => ?_) (fun hbr => ?_) | refine vv20 ?_ | refine SlIdxN.map _ rfl (by first | assumption | omega) ?_ | refine SlIdxN.mapPred (by omega) (by omega) ?_ | refine SlIdxN.mapSucc (by omega) ?_ | refine SlIdxN.lit _ _ rfl rfl ?_ | refine SlIdxN.mapInt (by omega) (by omega) ?_ | refine IdxN.at0 _ rfl (by first | assumption | omega | (simp <;> omega)) ?_ | refine vv21 ?_ | refine RowN.map (by first | assumption | omega) ?_ | refine vv22 ?_ | refine RowSN.map (by first | assumption | omega) ?_ | refine vv23 ?_ | refine vv24 ?_ | refine vv25 ?_ | refine Need.mk (by first | assumption | omega | (simp <;> omega)) ?_ | refine DrawN.gen (by first | exact tryd_ok _ | exact tryd_okm _ _) (by kernel_rfl) ?_ | refine vv26 ?_ | refine vv27 ?_ | refine vv28 ?_ | refine vv29 ?_ | refine vv30 ?_ | refine vv31 ?_ | refine vv32 ?_ | refine vv33 ?_ | refine CallN.pure (hfew) ?_ | refine CallN.pure (sane_ok) ?_ | refine CallN.pure (hask) ?_ | refine CallN.pure (hin1) ?_ | refine CallN.pure (hin2) ?_ | refine CallN.pure (hgs) ?_ | refine CallN.pure (hg1) ?_ | refine CallN.pure (hb1) ?_ | refine CallN.pure (hb2) ?_ | refine CallN.pure (hea) ?_ | refine CallN.pure (hinf) ?_ | refine GCallN.pure _ (hfew) ?_ | refine GCallN.pure _ (sane_ok) ?_ | refine GCallN.pure _ (hask) ?_ | refine GCallN.pure _ (hin1) ?_ | refine GCallN.pure _ (hin2) ?_ | refine GCallN.pure _ (hgs) ?_ | refine GCallN.pure _ (hg1) ?_ | refine GCallN.pure _ (hb1) ?_ | refine GCallN.pure _ (hb2) ?_ | refine GCallN.pure _ (hea) ?_ | refine GCallN.pure _ (hinf) ?_ | refine GCallN.ef (hfew) ?_ | refine GCallN.ef (sane_ok) ?_ | refine GCallN.ef (hask) ?_ | refine GCallN.ef (hin1) ?_ | refine GCallN.ef (hin2) ?_ | refine GCallN.ef (hgs) ?_ | refine GCallN.ef (hg1) ?_ | refine GCallN.ef (hb1) ?_ | refine GCallN.ef (hb2) ?_ | refine GCallN.ef (hea) ?_ | refine GCallN.ef (hinf) ?_) <;> (conv => whnf)))
    all_goals first
      | exact DoneN.pure rfl
      | (refine DoneN.pure ?_; simp; done)
end Go.Proofs.Ax
