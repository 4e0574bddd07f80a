import Derived.Test.YtdfgphfijfocoaaDoorRbCo
import Derived.Test.YtdfgphfijfocoaaDoorApartLaw
import Derived.Test.YtdfgphfijfocoaaDoorRbNi
namespace Go.Proofs.Ax
open Go Go.Proofs
set_option maxRecDepth 10000
set_option maxHeartbeats 4000000
theorem u64w (n : Int) : ∃ W : Int, IntKind.u64.wrap n = W ∧ 0 ≤ W ∧ W < 18446744073709551616 := by
  refine ⟨_, rfl, ?_⟩
  show 0 ≤ n % (2 ^ 64) ∧ n % (2 ^ 64) < _
  omega
theorem u64s {n : Int} (h0 : 0 ≤ n) (h1 : n ≤ 1000000) : IntKind.u64.wrap n = n := by
  show n % (2 ^ 64) = n
  omega
theorem tmod_nat {W : Int} {n : Nat} (h0 : 0 ≤ W) (hn : 0 < n) (hn' : n ≤ 1000000) : ∃ k : Nat, k < n ∧ W.tmod (n : Int) = (k : Int) := by
  have h1 := Int.tmod_nonneg (n : Int) h0
  have h2 := Int.tmod_lt_of_pos W (b := (n : Int)) (by omega)
  exact ⟨(W.tmod (n : Int)).toNat, by omega, by omega⟩
theorem i64s {n : Int} (h0 : -1000000 ≤ n) (h1 : n ≤ 1000000) : IntKind.i64.wrap n = n := wrapI ⟨by omega, by omega⟩
theorem ratesApart (t u : Bool) (ps : List Policy) (l : List Round) (s : Span) (cut which kind : Int) (hmax : ps.length ≤ 9223372036854775807) (hmax' : l.length ≤ 9223372036854775807) : Pu Tryd.prog G1 9 [policies t ps, rounds u l, .agg s.enc, vi cut, vi which, vi kind] (vb true) := by
  have hfew := few_ok t u ps l hmax hmax'
  have hask := rasked_ok t u ps l s hmax hmax'
  by_cases hf : fewP ps l
  case neg =>
    rw [decide_eq_false hf] at hfew
    refine Pu.of_ev (T := Tryd.tab) (n := 165) (tryd_ok _) Tryd.func9 rfl rfl rfl (by first | rfl | (split <;> rfl)) (by simp) ?_
    ((conv => whnf); repeat' ((first | refine vv1 ?_ | refine vv2 ?_ | refine vv3 ?_ | refine vv4 ?_ | refine vv5 ?_ | refine vv6 ?_ | refine vv7 ?_ | refine vv8 ?_ | refine vv9 ?_ | refine vv10 ?_ | refine vv11 (fun hbr => ?_) (fun hbr => ?_) | refine vv12 (fun hbr => ?_) (fun hbr => ?_) | refine vv13 ?_ | refine vv14 ?_ | refine vv15 ?_ | refine vv16 ?_ | refine vv17 (fun hbr => ?_) (fun hbr => ?_) | refine vv18 ?_ | refine vv19 (fun hbr => ?_) (fun hbr => ?_) | refine vv20 ?_ | refine SlIdxN.map _ rfl (by first | assumption | omega) ?_ | refine SlIdxN.mapPred (by omega) (by omega) ?_ | refine SlIdxN.mapSucc (by omega) ?_ | refine SlIdxN.lit _ _ rfl rfl ?_ | refine SlIdxN.mapInt (by omega) (by omega) ?_ | refine IdxN.at0 _ rfl (by first | assumption | omega | (simp <;> omega)) ?_ | refine vv21 ?_ | refine RowN.map (by first | assumption | omega) ?_ | refine vv22 ?_ | refine RowSN.map (by first | assumption | omega) ?_ | refine vv23 ?_ | refine vv24 ?_ | refine vv25 ?_ | refine Need.mk (by first | assumption | omega | (simp <;> omega)) ?_ | refine DrawN.gen (by first | exact tryd_ok _ | exact tryd_okm _ _) (by kernel_rfl) ?_ | refine vv26 ?_ | refine vv27 ?_ | refine vv28 ?_ | refine vv29 ?_ | refine vv30 ?_ | refine vv31 ?_ | refine vv32 ?_ | refine vv33 ?_ | refine CallN.pure (hfew) ?_ | refine CallN.pure (sane_ok) ?_ | refine GCallN.pure _ (hfew) ?_ | refine GCallN.pure _ (sane_ok) ?_ | refine GCallN.ef (hfew) ?_ | refine GCallN.ef (sane_ok) ?_) <;> (conv => whnf)))
    all_goals exact DoneN.pure rfl
  rw [decide_eq_true hf] at hfew
  by_cases ha : askedErr ps l s = 0
  case neg =>
    refine Pu.of_ev (T := Tryd.tab) (n := 165) (tryd_ok _) Tryd.func9 rfl rfl rfl (by first | rfl | (split <;> rfl)) (by simp) ?_
    ((conv => whnf); repeat' ((first | refine vv1 ?_ | refine vv2 ?_ | refine vv3 ?_ | refine vv4 ?_ | refine vv5 ?_ | refine vv6 ?_ | refine vv7 ?_ | refine vv8 ?_ | refine vv9 ?_ | refine vv10 ?_ | refine vv11 (fun hbr => ?_) (fun hbr => ?_) | refine vv12 (fun hbr => ?_) (fun hbr => ?_) | refine vv13 ?_ | refine vv14 ?_ | refine vv15 ?_ | refine vv16 ?_ | refine vv17 (fun hbr => ?_) (fun hbr => ?_) | refine vv18 ?_ | refine vv19 (fun hbr => ?_) (fun hbr => ?_) | refine vv20 ?_ | refine SlIdxN.map _ rfl (by first | assumption | omega) ?_ | refine SlIdxN.mapPred (by omega) (by omega) ?_ | refine SlIdxN.mapSucc (by omega) ?_ | refine SlIdxN.lit _ _ rfl rfl ?_ | refine SlIdxN.mapInt (by omega) (by omega) ?_ | refine IdxN.at0 _ rfl (by first | assumption | omega | (simp <;> omega)) ?_ | refine vv21 ?_ | refine RowN.map (by first | assumption | omega) ?_ | refine vv22 ?_ | refine RowSN.map (by first | assumption | omega) ?_ | refine vv23 ?_ | refine vv24 ?_ | refine vv25 ?_ | refine Need.mk (by first | assumption | omega | (simp <;> omega)) ?_ | refine DrawN.gen (by first | exact tryd_ok _ | exact tryd_okm _ _) (by kernel_rfl) ?_ | refine vv26 ?_ | refine vv27 ?_ | refine vv28 ?_ | refine vv29 ?_ | refine vv30 ?_ | refine vv31 ?_ | refine vv32 ?_ | refine vv33 ?_ | refine CallN.pure (hfew) ?_ | refine CallN.pure (sane_ok) ?_ | refine CallN.pure (hask) ?_ | refine GCallN.pure _ (hfew) ?_ | refine GCallN.pure _ (sane_ok) ?_ | refine GCallN.pure _ (hask) ?_ | refine GCallN.ef (hfew) ?_ | refine GCallN.ef (sane_ok) ?_ | refine GCallN.ef (hask) ?_) <;> (conv => whnf)))
    all_goals first
      | exact DoneN.pure rfl
      | (exfalso; exact ha (by assumption))
  rw [ha] at hask
  obtain ⟨h1, h2, h3⟩ := askedErr_0 ha
  obtain ⟨c1, c2⟩ := checkPol_0 h1
  obtain ⟨b1, b2⟩ := checkRounds_0 h2
  have h40 := few_40 hf b1
  have hs := spanErr_0 h3
  have hgs := Season_good t u ps l s hmax hmax' ha
  have ml := seasonOf_len2 c2 b2 h3
  have mm := seasonOf_mem c2 b2 h3
  have hcp := checkPost_good (fun x hx => (mm x hx).1) (by omega)
  have hall : bothErr (seasonOf ps l s) (seasonOf ps l s) = 0 := by unfold bothErr; simp [hcp]
  have hcut : (s.lo ≤ cut ∧ cut < s.hi) → ∃ A B, seasonOf ps l ⟨s.lo, cut⟩ = A ∧ seasonOf ps l ⟨cut + 1, s.hi⟩ = B ∧ A ++ B = seasonOf ps l s := fun h => ⟨_, _, rfl, rfl, season_cut ps l s h.1 h.2⟩
  have hx1 : (s.lo ≤ cut ∧ cut < s.hi) → Pu Tryd.prog G1 23 [policies t ps, rounds u l, .agg [vi s.lo, vi cut]] (.tuple [postings false (seasonOf ps l ⟨s.lo, cut⟩), vi 0]) ∧ (seasonOf ps l ⟨s.lo, cut⟩).length ≤ 600 := fun h => by
    have h3' : spanErr ⟨s.lo, cut⟩ = 0 := by unfold spanErr; simp only; rw [if_neg (by omega), if_neg (by omega)]
    exact ⟨Season_good t u ps l ⟨s.lo, cut⟩ hmax hmax' (by unfold askedErr; rw [if_neg (by simpa using h1), if_neg (by simpa using h2)]; exact h3'), by have := seasonOf_len2 c2 b2 h3'; omega⟩
  have hx2 : (s.lo ≤ cut ∧ cut < s.hi) → Pu Tryd.prog G1 23 [policies t ps, rounds u l, .agg [vi (cut + 1), vi s.hi]] (.tuple [postings false (seasonOf ps l ⟨cut + 1, s.hi⟩), vi 0]) ∧ (seasonOf ps l ⟨cut + 1, s.hi⟩).length ≤ 600 := fun h => by
    have h3' : spanErr ⟨cut + 1, s.hi⟩ = 0 := by unfold spanErr; simp only; rw [if_neg (by omega), if_neg (by omega)]
    exact ⟨Season_good t u ps l ⟨cut + 1, s.hi⟩ hmax hmax' (by unfold askedErr; rw [if_neg (by simpa using h1), if_neg (by simpa using h2)]; exact h3'), by have := seasonOf_len2 c2 b2 h3'; omega⟩
  by_cases hl0 : l = []
  case pos =>
    have hlen : l.length = 0 := by rw [hl0]; rfl
    generalize hS : seasonOf ps l s = S at *
    by_cases hc : s.lo ≤ cut ∧ cut < s.hi
    · obtain ⟨A, B, e1, e2, e3⟩ := hcut hc
      obtain ⟨x1, x3⟩ := hx1 hc
      obtain ⟨x2, x4⟩ := hx2 hc
      rw [e1] at x1 x3
      rw [e2] at x2 x4
      have hj := joined_ok false false A B (by omega) (by omega)
      rw [e3] at hj
      have hsp := samePostings_ok false false S S (by omega) (by omega)
      rw [decide_eq_true rfl] at hsp
      clear hcut hx1 hx2
      refine Pu.of_ev (T := Tryd.tab) (n := 165) (tryd_ok _) Tryd.func9 rfl rfl rfl (by first | rfl | (split <;> rfl)) (by simp) ?_
      ((conv => whnf); repeat' ((first | refine vv1 ?_ | refine vv2 ?_ | refine vv3 ?_ | refine vv4 ?_ | refine vv5 ?_ | refine vv6 ?_ | refine vv7 ?_ | refine vv8 ?_ | refine vv9 ?_ | refine vv10 ?_ | refine vv11 (fun hbr => ?_) (fun hbr => ?_) | refine vv12 (fun hbr => ?_) (fun hbr => ?_) | refine vv13 ?_ | refine vv14 ?_ | refine vv15 ?_ | refine vv16 ?_ | refine vv17 (fun hbr => ?_) (fun hbr => ?_) | refine vv18 ?_ | refine vv19 (fun hbr => ?_) (fun hbr => ?_) | refine vv20 ?_ | refine SlIdxN.map _ rfl (by first | assumption | omega) ?_ | refine SlIdxN.mapPred (by omega) (by omega) ?_ | refine SlIdxN.mapSucc (by omega) ?_ | refine SlIdxN.lit _ _ rfl rfl ?_ | refine SlIdxN.mapInt (by omega) (by omega) ?_ | refine IdxN.at0 _ rfl (by first | assumption | omega | (simp <;> omega)) ?_ | refine vv21 ?_ | refine RowN.map (by first | assumption | omega) ?_ | refine vv22 ?_ | refine RowSN.map (by first | assumption | omega) ?_ | refine vv23 ?_ | refine vv24 ?_ | refine vv25 ?_ | refine Need.mk (by first | assumption | omega | (simp <;> omega)) ?_ | refine DrawN.gen (by first | exact tryd_ok _ | exact tryd_okm _ _) (by kernel_rfl) ?_ | refine vv26 ?_ | refine vv27 ?_ | refine vv28 ?_ | refine vv29 ?_ | refine vv30 ?_ | refine vv31 ?_ | refine vv32 ?_ | refine vv33 ?_ | refine CallN.pure (hfew) ?_ | refine CallN.pure (hask) ?_ | refine CallN.pure (hgs) ?_ | refine CallN.pure (x1) ?_ | refine CallN.pure (x2) ?_ | refine CallN.pure (hj) ?_ | refine CallN.pure (hsp) ?_ | refine CallN.pure (sane_ok) ?_ | refine GCallN.pure _ (hfew) ?_ | refine GCallN.pure _ (hask) ?_ | refine GCallN.pure _ (hgs) ?_ | refine GCallN.pure _ (x1) ?_ | refine GCallN.pure _ (x2) ?_ | refine GCallN.pure _ (hj) ?_ | refine GCallN.pure _ (hsp) ?_ | refine GCallN.pure _ (sane_ok) ?_ | refine GCallN.ef (hfew) ?_ | refine GCallN.ef (hask) ?_ | refine GCallN.ef (hgs) ?_ | refine GCallN.ef (x1) ?_ | refine GCallN.ef (x2) ?_ | refine GCallN.ef (hj) ?_ | refine GCallN.ef (hsp) ?_ | refine GCallN.ef (sane_ok) ?_) <;> (conv => whnf)))
      all_goals exact DoneN.pure rfl
    · refine Pu.of_ev (T := Tryd.tab) (n := 165) (tryd_ok _) Tryd.func9 rfl rfl rfl (by first | rfl | (split <;> rfl)) (by simp) ?_
      ((conv => whnf); repeat' ((first | refine vv1 ?_ | refine vv2 ?_ | refine vv3 ?_ | refine vv4 ?_ | refine vv5 ?_ | refine vv6 ?_ | refine vv7 ?_ | refine vv8 ?_ | refine vv9 ?_ | refine vv10 ?_ | refine vv11 (fun hbr => ?_) (fun hbr => ?_) | refine vv12 (fun hbr => ?_) (fun hbr => ?_) | refine vv13 ?_ | refine vv14 ?_ | refine vv15 ?_ | refine vv16 ?_ | refine vv17 (fun hbr => ?_) (fun hbr => ?_) | refine vv18 ?_ | refine vv19 (fun hbr => ?_) (fun hbr => ?_) | refine vv20 ?_ | refine SlIdxN.map _ rfl (by first | assumption | omega) ?_ | refine SlIdxN.mapPred (by omega) (by omega) ?_ | refine SlIdxN.mapSucc (by omega) ?_ | refine SlIdxN.lit _ _ rfl rfl ?_ | refine SlIdxN.mapInt (by omega) (by omega) ?_ | refine IdxN.at0 _ rfl (by first | assumption | omega | (simp <;> omega)) ?_ | refine vv21 ?_ | refine RowN.map (by first | assumption | omega) ?_ | refine vv22 ?_ | refine RowSN.map (by first | assumption | omega) ?_ | refine vv23 ?_ | refine vv24 ?_ | refine vv25 ?_ | refine Need.mk (by first | assumption | omega | (simp <;> omega)) ?_ | refine DrawN.gen (by first | exact tryd_ok _ | exact tryd_okm _ _) (by kernel_rfl) ?_ | refine vv26 ?_ | refine vv27 ?_ | refine vv28 ?_ | refine vv29 ?_ | refine vv30 ?_ | refine vv31 ?_ | refine vv32 ?_ | refine vv33 ?_ | refine CallN.pure (hfew) ?_ | refine CallN.pure (hask) ?_ | refine CallN.pure (hgs) ?_ | refine CallN.pure (sane_ok) ?_ | refine GCallN.pure _ (hfew) ?_ | refine GCallN.pure _ (hask) ?_ | refine GCallN.pure _ (hgs) ?_ | refine GCallN.pure _ (sane_ok) ?_ | refine GCallN.ef (hfew) ?_ | refine GCallN.ef (hask) ?_ | refine GCallN.ef (hgs) ?_ | refine GCallN.ef (sane_ok) ?_) <;> (conv => whnf)))
      all_goals first
        | exact DoneN.pure rfl
        | (exfalso; exact hc ⟨by omega, by omega⟩)
  have hlen : 0 < l.length := List.length_pos_iff.2 hl0
  obtain ⟨W, w1, w2, w3⟩ := u64w which
  have w4 : IntKind.u64.wrap (l.length : Int) = l.length := u64s (by omega) (by omega)
  obtain ⟨k, hk, w5⟩ := tmod_nat (W := W) (n := l.length) w2 hlen (by omega)
  have w6 : IntKind.i64.wrap (W.tmod (l.length : Int)) = (k : Int) := by rw [w5]; exact i64s (by omega) (by omega)
  obtain ⟨V, v1, v2, v3⟩ := u64w kind
  obtain ⟨v, hv, v5⟩ := tmod_nat (W := V) (n := 4) v2 (by omega) (by omega)
  have v6 : IntKind.i64.wrap (V.tmod 4) = (v : Int) := by rw [show (4 : Int) = ((4 : Nat) : Int) from rfl, v5]; exact i64s (by omega) (by omega)
  have hv4 : 1 ≤ (1 + (v : Int)) ∧ (1 + (v : Int)) ≤ 4 := by omega
  have hre := reK_check h2 (k := k) hv4
  have hreo := reK_ok b2 (k := k) hv4
  have h2' : (checkRounds (reK l k (1 + (v : Int)))).1 = 0 := by rw [hre]; exact h2
  have hap := apart_names c2 h2 h3 hk hv4
  have hrl : (reK l k (1 + (v : Int))).length = l.length := by unfold reK; split <;> simp
  have hrow : (l.map Round.enc).set k [vi l[k].night, vi l[k].no, vi (1 + (v : Int)), ints l[k].tight l[k].crew] = (reK l k (1 + (v : Int))).map Round.enc := by
    unfold reK
    rw [List.getElem?_eq_getElem hk]
    simp only
    rw [List.map_set]
    rfl
  generalize reK l k (1 + (v : Int)) = m at *
  have ham : askedErr ps m s = 0 := by
    unfold askedErr
    rw [if_neg (by simpa using h1), if_neg (by simpa using h2')]
    exact h3
  have hgm := Season_good t false ps m s hmax (by omega) ham
  have ml2 := seasonOf_len2 c2 hreo h3
  have mm2 := seasonOf_mem c2 hreo h3
  have hcp2 := checkPost_good (fun x hx => (mm2 x hx).1) (by omega)
  have hbe : bothErr (seasonOf ps l s) (seasonOf ps m s) = 0 := by unfold bothErr; simp [hcp, hcp2]
  have hcl := correct_len (seasonOf ps l s) (seasonOf ps m s)
  have hco := correct_good false false (seasonOf ps l s) (seasonOf ps m s) hbe
  rw [if_neg (by omega)] at hco
  generalize hS : seasonOf ps l s = S at *
  generalize seasonOf ps m s = M at *
  generalize hC : correct S M = C at *
  clear hre hreo h2' ham mm mm2 hcp hcp2 hbe hall v2 v3 w2 w3
  by_cases hc : s.lo ≤ cut ∧ cut < s.hi
  case pos =>
    obtain ⟨A, B, e1, e2, e3⟩ := hcut hc
    obtain ⟨x1, x3⟩ := hx1 hc
    obtain ⟨x2, x4⟩ := hx2 hc
    rw [e1] at x1 x3
    rw [e2] at x2 x4
    have hj := joined_ok false false A B (by omega) (by omega)
    rw [e3] at hj
    have hsp := samePostings_ok false false S S (by omega) (by omega)
    rw [decide_eq_true rfl] at hsp
    clear hcut hx1 hx2
    refine Pu.of_ev (T := Tryd.tab) (n := 165) (tryd_ok _) Tryd.func9 rfl rfl rfl (by first | rfl | (split <;> rfl)) (by simp) ?_
    ((conv => whnf); repeat' ((first | refine WrapN.mk _ w1 ?_ | refine WrapN.mk _ w4 ?_ | refine WrapN.mk _ w6 ?_ | refine WrapN.mk _ v1 ?_ | refine WrapN.mk _ v6 ?_ | refine Need.mk (.inl rfl) ?_ | refine AppN.nilm (by omega) (by omega) ?_ | refine RowN.row2 (by first | omega | (show _ = _ + 1; omega)) ?_ | refine RowN.row1 (by first | omega | (show _ = _ + 1; omega)) ?_ | refine RowN.rowB (by first | omega | (show _ = _ + 1; omega)) ?_ | refine RowSN.row2 (by first | omega | (show _ = _ + 1; omega)) ?_ | refine RowSN.row1 (by first | omega | (show _ = _ + 1; omega)) ?_ | refine RowSN.rowB (by first | omega | (show _ = _ + 1; omega)) ?_ | refine IxN.mk _ rfl ?_ | refine shr_ok rfl rfl ?_ | refine WrapN.inU ⟨by omega, by omega⟩ ?_ | refine vv1 ?_ | refine vv2 ?_ | refine vv3 ?_ | refine vv4 ?_ | refine vv5 ?_ | refine vv6 ?_ | refine vv7 ?_ | refine vv8 ?_ | refine vv9 ?_ | refine vv10 ?_ | refine vv11 (fun hbr => ?_) (fun hbr => ?_) | refine vv12 (fun hbr => ?_) (fun hbr => ?_) | refine vv13 ?_ | refine vv14 ?_ | refine vv15 ?_ | refine vv16 ?_ | refine vv17 (fun hbr => ?_) (fun hbr => ?_) | refine vv18 ?_ | refine vv19 (fun hbr => ?_) (fun hbr => ?_) | refine vv20 ?_ | refine SlIdxN.map _ rfl (by first | assumption | omega) ?_ | refine SlIdxN.mapPred (by omega) (by omega) ?_ | refine SlIdxN.mapSucc (by omega) ?_ | refine SlIdxN.lit _ _ rfl rfl ?_ | refine SlIdxN.mapInt (by omega) (by omega) ?_ | refine IdxN.at0 _ rfl (by first | assumption | omega | (simp <;> omega)) ?_ | refine vv21 ?_ | refine RowN.map (by first | assumption | omega) ?_ | refine vv22 ?_ | refine RowSN.map (by first | assumption | omega) ?_ | refine vv23 ?_ | refine vv24 ?_ | refine vv25 ?_ | refine Need.mk (by first | assumption | omega | (simp <;> omega)) ?_ | refine DrawN.gen (by first | exact tryd_ok _ | exact tryd_okm _ _) (by kernel_rfl) ?_ | refine vv26 ?_ | refine vv27 ?_ | refine vv28 ?_ | refine vv29 ?_ | refine vv30 ?_ | refine vv31 ?_ | refine vv32 ?_ | refine vv33 ?_ | refine CallN.pure (hfew) ?_ | refine CallN.pure (hask) ?_ | refine CallN.pure (hgs) ?_ | refine CallN.pure (x1) ?_ | refine CallN.pure (x2) ?_ | refine CallN.pure (hj) ?_ | refine CallN.pure (hsp) ?_ | refine GCallN.pure _ (hfew) ?_ | refine GCallN.pure _ (hask) ?_ | refine GCallN.pure _ (hgs) ?_ | refine GCallN.pure _ (x1) ?_ | refine GCallN.pure _ (x2) ?_ | refine GCallN.pure _ (hj) ?_ | refine GCallN.pure _ (hsp) ?_ | refine GCallN.ef (hfew) ?_ | refine GCallN.ef (hask) ?_ | refine GCallN.ef (hgs) ?_ | refine GCallN.ef (x1) ?_ | refine GCallN.ef (x2) ?_ | refine GCallN.ef (hj) ?_ | refine GCallN.ef (hsp) ?_) <;> (conv => whnf)))
    refine CallN.frz 1 (m.map Round.enc) 75 (congrArg (fun r => some (ABlk.rows r 75)) hrow) (deepR (fun _ => rfl)) ?_
    show CallN _ _ [policies t ps, (AV.sm 1 4 0 l.length).frz0 1 _, .agg s.enc] _ _
    rw [frz_all (by simp [hrl])]
    ((conv => whnf); repeat' ((first | refine CallN.pure hgm ?_ | refine RowN.row2 (by first | omega | (show _ = _ + 1; omega)) ?_ | refine RowN.row1 (by first | omega | (show _ = _ + 1; omega)) ?_ | refine RowN.rowB (by first | omega | (show _ = _ + 1; omega)) ?_ | refine RowSN.row2 (by first | omega | (show _ = _ + 1; omega)) ?_ | refine RowSN.row1 (by first | omega | (show _ = _ + 1; omega)) ?_ | refine RowSN.rowB (by first | omega | (show _ = _ + 1; omega)) ?_ | refine IxN.mk _ rfl ?_ | refine shr_ok rfl rfl ?_ | refine WrapN.inU ⟨by omega, by omega⟩ ?_ | refine vv1 ?_ | refine vv2 ?_ | refine vv3 ?_ | refine vv4 ?_ | refine vv5 ?_ | refine vv6 ?_ | refine vv7 ?_ | refine vv8 ?_ | refine vv9 ?_ | refine vv10 ?_ | refine vv11 (fun hbr => ?_) (fun hbr => ?_) | refine vv12 (fun hbr => ?_) (fun hbr => ?_) | refine vv13 ?_ | refine vv14 ?_ | refine vv15 ?_ | refine vv16 ?_ | refine vv17 (fun hbr => ?_) (fun hbr => ?_) | refine vv18 ?_ | refine vv19 (fun hbr => ?_) (fun hbr => ?_) | refine vv20 ?_ | refine SlIdxN.map _ rfl (by first | assumption | omega) ?_ | refine SlIdxN.mapPred (by omega) (by omega) ?_ | refine SlIdxN.mapSucc (by omega) ?_ | refine SlIdxN.lit _ _ rfl rfl ?_ | refine SlIdxN.mapInt (by omega) (by omega) ?_ | refine IdxN.at0 _ rfl (by first | assumption | omega | (simp <;> omega)) ?_ | refine vv21 ?_ | refine RowN.map (by first | assumption | omega) ?_ | refine vv22 ?_ | refine RowSN.map (by first | assumption | omega) ?_ | refine vv23 ?_ | refine vv24 ?_ | refine vv25 ?_ | refine Need.mk (by first | assumption | omega | (simp <;> omega)) ?_ | refine DrawN.gen (by first | exact tryd_ok _ | exact tryd_okm _ _) (by kernel_rfl) ?_ | refine vv26 ?_ | refine vv27 ?_ | refine vv28 ?_ | refine vv29 ?_ | refine vv30 ?_ | refine vv31 ?_ | refine vv32 ?_ | refine vv33 ?_ | refine CallN.pure (hco) ?_ | refine GCallN.pure _ (hco) ?_ | refine GCallN.ef (hco) ?_) <;> (conv => whnf)))
    refine LoopN.of (tryd_ok _) (fun j : Nat => [(1, rounds u l), (19, vi k), (23, postings false C), (25, vi j)]) (fun _ => []) (fun j => C.length - j) (fun j => j ≤ C.length) 0 (Nat.zero_le _) (Reabs.frm0 rfl (by repeat (first | exact trivial | refine ⟨.inr ⟨rfl, rfl⟩, ?_⟩))) ?_
    intro j hj
    by_cases hjl : j < C.length
    · have hxj := hap _ (List.getElem_mem hjl)
      ((conv => whnf); repeat' ((first | refine vv1 ?_ | refine vv2 ?_ | refine vv3 ?_ | refine vv4 ?_ | refine vv5 ?_ | refine vv6 ?_ | refine vv7 ?_ | refine vv8 ?_ | refine vv9 ?_ | refine vv10 ?_ | refine vv11 (fun hbr => ?_) (fun hbr => ?_) | refine vv12 (fun hbr => ?_) (fun hbr => ?_) | refine vv13 ?_ | refine vv14 ?_ | refine vv15 ?_ | refine vv16 ?_ | refine vv17 (fun hbr => ?_) (fun hbr => ?_) | refine vv18 ?_ | refine vv19 (fun hbr => ?_) (fun hbr => ?_) | refine vv20 ?_ | refine SlIdxN.map _ rfl (by first | assumption | omega) ?_ | refine SlIdxN.mapPred (by omega) (by omega) ?_ | refine SlIdxN.mapSucc (by omega) ?_ | refine SlIdxN.lit _ _ rfl rfl ?_ | refine SlIdxN.mapInt (by omega) (by omega) ?_ | refine IdxN.at0 _ rfl (by first | assumption | omega | (simp <;> omega)) ?_ | refine vv21 ?_ | refine RowN.map (by first | assumption | omega) ?_ | refine vv22 ?_ | refine RowSN.map (by first | assumption | omega) ?_ | refine vv23 ?_ | refine vv24 ?_ | refine vv25 ?_ | refine Need.mk (by first | assumption | omega | (simp <;> omega)) ?_ | refine DrawN.gen (by first | exact tryd_ok _ | exact tryd_okm _ _) (by kernel_rfl) ?_ | refine vv26 ?_ | refine vv27 ?_ | refine vv28 ?_ | refine vv29 ?_ | refine vv30 ?_ | refine vv31 ?_ | refine vv32 ?_ | refine vv33 ?_) <;> (conv => whnf)))
      exact BackN.mk (j + 1) (by omega) (by omega) (Reabs.frm0 rfl (by repeat (first | exact trivial | refine ⟨.inr ⟨rfl, rfl⟩, ?_⟩)))
    · ((conv => whnf); repeat' ((first | refine vv1 ?_ | refine vv2 ?_ | refine vv3 ?_ | refine vv4 ?_ | refine vv5 ?_ | refine vv6 ?_ | refine vv7 ?_ | refine vv8 ?_ | refine vv9 ?_ | refine vv10 ?_ | refine vv11 (fun hbr => ?_) (fun hbr => ?_) | refine vv12 (fun hbr => ?_) (fun hbr => ?_) | refine vv13 ?_ | refine vv14 ?_ | refine vv15 ?_ | refine vv16 ?_ | refine vv17 (fun hbr => ?_) (fun hbr => ?_) | refine vv18 ?_ | refine vv19 (fun hbr => ?_) (fun hbr => ?_) | refine vv20 ?_ | refine SlIdxN.map _ rfl (by first | assumption | omega) ?_ | refine SlIdxN.mapPred (by omega) (by omega) ?_ | refine SlIdxN.mapSucc (by omega) ?_ | refine SlIdxN.lit _ _ rfl rfl ?_ | refine SlIdxN.mapInt (by omega) (by omega) ?_ | refine IdxN.at0 _ rfl (by first | assumption | omega | (simp <;> omega)) ?_ | refine vv21 ?_ | refine RowN.map (by first | assumption | omega) ?_ | refine vv22 ?_ | refine RowSN.map (by first | assumption | omega) ?_ | refine vv23 ?_ | refine vv24 ?_ | refine vv25 ?_ | refine Need.mk (by first | assumption | omega | (simp <;> omega)) ?_ | refine DrawN.gen (by first | exact tryd_ok _ | exact tryd_okm _ _) (by kernel_rfl) ?_ | refine vv26 ?_ | refine vv27 ?_ | refine vv28 ?_ | refine vv29 ?_ | refine vv30 ?_ | refine vv31 ?_ | refine vv32 ?_ | refine vv33 ?_ | refine CallN.pure (sane_ok) ?_ | refine GCallN.pure _ (sane_ok) ?_ | refine GCallN.ef (sane_ok) ?_) <;> (conv => whnf)))
      exact DoneN.pure rfl
  case neg =>
    clear hcut hx1 hx2
    refine Pu.of_ev (T := Tryd.tab) (n := 165) (tryd_ok _) Tryd.func9 rfl rfl rfl (by first | rfl | (split <;> rfl)) (by simp) ?_
    ((conv => whnf); repeat' ((first | refine WrapN.mk _ w1 ?_ | refine WrapN.mk _ w4 ?_ | refine WrapN.mk _ w6 ?_ | refine WrapN.mk _ v1 ?_ | refine WrapN.mk _ v6 ?_ | refine Need.mk (.inl rfl) ?_ | refine AppN.nilm (by omega) (by omega) ?_ | refine RowN.row2 (by first | omega | (show _ = _ + 1; omega)) ?_ | refine RowN.row1 (by first | omega | (show _ = _ + 1; omega)) ?_ | refine RowN.rowB (by first | omega | (show _ = _ + 1; omega)) ?_ | refine RowSN.row2 (by first | omega | (show _ = _ + 1; omega)) ?_ | refine RowSN.row1 (by first | omega | (show _ = _ + 1; omega)) ?_ | refine RowSN.rowB (by first | omega | (show _ = _ + 1; omega)) ?_ | refine IxN.mk _ rfl ?_ | refine shr_ok rfl rfl ?_ | refine WrapN.inU ⟨by omega, by omega⟩ ?_ | refine vv1 ?_ | refine vv2 ?_ | refine vv3 ?_ | refine vv4 ?_ | refine vv5 ?_ | refine vv6 ?_ | refine vv7 ?_ | refine vv8 ?_ | refine vv9 ?_ | refine vv10 ?_ | refine vv11 (fun hbr => ?_) (fun hbr => ?_) | refine vv12 (fun hbr => ?_) (fun hbr => ?_) | refine vv13 ?_ | refine vv14 ?_ | refine vv15 ?_ | refine vv16 ?_ | refine vv17 (fun hbr => ?_) (fun hbr => ?_) | refine vv18 ?_ | refine vv19 (fun hbr => ?_) (fun hbr => ?_) | refine vv20 ?_ | refine SlIdxN.map _ rfl (by first | assumption | omega) ?_ | refine SlIdxN.mapPred (by omega) (by omega) ?_ | refine SlIdxN.mapSucc (by omega) ?_ | refine SlIdxN.lit _ _ rfl rfl ?_ | refine SlIdxN.mapInt (by omega) (by omega) ?_ | refine IdxN.at0 _ rfl (by first | assumption | omega | (simp <;> omega)) ?_ | refine vv21 ?_ | refine RowN.map (by first | assumption | omega) ?_ | refine vv22 ?_ | refine RowSN.map (by first | assumption | omega) ?_ | refine vv23 ?_ | refine vv24 ?_ | refine vv25 ?_ | refine Need.mk (by first | assumption | omega | (simp <;> omega)) ?_ | refine DrawN.gen (by first | exact tryd_ok _ | exact tryd_okm _ _) (by kernel_rfl) ?_ | refine vv26 ?_ | refine vv27 ?_ | refine vv28 ?_ | refine vv29 ?_ | refine vv30 ?_ | refine vv31 ?_ | refine vv32 ?_ | refine vv33 ?_ | refine CallN.pure (hfew) ?_ | refine CallN.pure (hask) ?_ | refine CallN.pure (hgs) ?_ | refine GCallN.pure _ (hfew) ?_ | refine GCallN.pure _ (hask) ?_ | refine GCallN.pure _ (hgs) ?_ | refine GCallN.ef (hfew) ?_ | refine GCallN.ef (hask) ?_ | refine GCallN.ef (hgs) ?_) <;> (conv => whnf)))
    all_goals first
      | (exfalso; exact hc ⟨by omega, by omega⟩)
      | skip
    all_goals clear hc
    all_goals
      refine CallN.frz 1 (m.map Round.enc) 75 (congrArg (fun r => some (ABlk.rows r 75)) hrow) (deepR (fun _ => rfl)) ?_
      show CallN _ _ [policies t ps, (AV.sm 1 4 0 l.length).frz0 1 _, .agg s.enc] _ _
      rw [frz_all (by simp [hrl])]
      ((conv => whnf); repeat' ((first | refine CallN.pure hgm ?_ | refine RowN.row2 (by first | omega | (show _ = _ + 1; omega)) ?_ | refine RowN.row1 (by first | omega | (show _ = _ + 1; omega)) ?_ | refine RowN.rowB (by first | omega | (show _ = _ + 1; omega)) ?_ | refine RowSN.row2 (by first | omega | (show _ = _ + 1; omega)) ?_ | refine RowSN.row1 (by first | omega | (show _ = _ + 1; omega)) ?_ | refine RowSN.rowB (by first | omega | (show _ = _ + 1; omega)) ?_ | refine IxN.mk _ rfl ?_ | refine shr_ok rfl rfl ?_ | refine WrapN.inU ⟨by omega, by omega⟩ ?_ | refine vv1 ?_ | refine vv2 ?_ | refine vv3 ?_ | refine vv4 ?_ | refine vv5 ?_ | refine vv6 ?_ | refine vv7 ?_ | refine vv8 ?_ | refine vv9 ?_ | refine vv10 ?_ | refine vv11 (fun hbr => ?_) (fun hbr => ?_) | refine vv12 (fun hbr => ?_) (fun hbr => ?_) | refine vv13 ?_ | refine vv14 ?_ | refine vv15 ?_ | refine vv16 ?_ | refine vv17 (fun hbr => ?_) (fun hbr => ?_) | refine vv18 ?_ | refine vv19 (fun hbr => ?_) (fun hbr => ?_) | refine vv20 ?_ | refine SlIdxN.map _ rfl (by first | assumption | omega) ?_ | refine SlIdxN.mapPred (by omega) (by omega) ?_ | refine SlIdxN.mapSucc (by omega) ?_ | refine SlIdxN.lit _ _ rfl rfl ?_ | refine SlIdxN.mapInt (by omega) (by omega) ?_ | refine IdxN.at0 _ rfl (by first | assumption | omega | (simp <;> omega)) ?_ | refine vv21 ?_ | refine RowN.map (by first | assumption | omega) ?_ | refine vv22 ?_ | refine RowSN.map (by first | assumption | omega) ?_ | refine vv23 ?_ | refine vv24 ?_ | refine vv25 ?_ | refine Need.mk (by first | assumption | omega | (simp <;> omega)) ?_ | refine DrawN.gen (by first | exact tryd_ok _ | exact tryd_okm _ _) (by kernel_rfl) ?_ | refine vv26 ?_ | refine vv27 ?_ | refine vv28 ?_ | refine vv29 ?_ | refine vv30 ?_ | refine vv31 ?_ | refine vv32 ?_ | refine vv33 ?_ | refine CallN.pure (hco) ?_ | refine GCallN.pure _ (hco) ?_ | refine GCallN.ef (hco) ?_) <;> (conv => whnf)))
      refine LoopN.of (tryd_ok _) (fun j : Nat => [(1, rounds u l), (19, vi k), (23, postings false C), (25, vi j)]) (fun _ => []) (fun j => C.length - j) (fun j => j ≤ C.length) 0 (Nat.zero_le _) (Reabs.frm0 rfl (by repeat (first | exact trivial | refine ⟨.inr ⟨rfl, rfl⟩, ?_⟩))) ?_
      intro j hj
      by_cases hjl : j < C.length
      · have hxj := hap _ (List.getElem_mem hjl)
        ((conv => whnf); repeat' ((first | refine vv1 ?_ | refine vv2 ?_ | refine vv3 ?_ | refine vv4 ?_ | refine vv5 ?_ | refine vv6 ?_ | refine vv7 ?_ | refine vv8 ?_ | refine vv9 ?_ | refine vv10 ?_ | refine vv11 (fun hbr => ?_) (fun hbr => ?_) | refine vv12 (fun hbr => ?_) (fun hbr => ?_) | refine vv13 ?_ | refine vv14 ?_ | refine vv15 ?_ | refine vv16 ?_ | refine vv17 (fun hbr => ?_) (fun hbr => ?_) | refine vv18 ?_ | refine vv19 (fun hbr => ?_) (fun hbr => ?_) | refine vv20 ?_ | refine SlIdxN.map _ rfl (by first | assumption | omega) ?_ | refine SlIdxN.mapPred (by omega) (by omega) ?_ | refine SlIdxN.mapSucc (by omega) ?_ | refine SlIdxN.lit _ _ rfl rfl ?_ | refine SlIdxN.mapInt (by omega) (by omega) ?_ | refine IdxN.at0 _ rfl (by first | assumption | omega | (simp <;> omega)) ?_ | refine vv21 ?_ | refine RowN.map (by first | assumption | omega) ?_ | refine vv22 ?_ | refine RowSN.map (by first | assumption | omega) ?_ | refine vv23 ?_ | refine vv24 ?_ | refine vv25 ?_ | refine Need.mk (by first | assumption | omega | (simp <;> omega)) ?_ | refine DrawN.gen (by first | exact tryd_ok _ | exact tryd_okm _ _) (by kernel_rfl) ?_ | refine vv26 ?_ | refine vv27 ?_ | refine vv28 ?_ | refine vv29 ?_ | refine vv30 ?_ | refine vv31 ?_ | refine vv32 ?_ | refine vv33 ?_) <;> (conv => whnf)))
        exact BackN.mk (j + 1) (by omega) (by omega) (Reabs.frm0 rfl (by repeat (first | exact trivial | refine ⟨.inr ⟨rfl, rfl⟩, ?_⟩)))
      · ((conv => whnf); repeat' ((first | refine vv1 ?_ | refine vv2 ?_ | refine vv3 ?_ | refine vv4 ?_ | refine vv5 ?_ | refine vv6 ?_ | refine vv7 ?_ | refine vv8 ?_ | refine vv9 ?_ | refine vv10 ?_ | refine vv11 (fun hbr => ?_) (fun hbr => ?_) | refine vv12 (fun hbr => ?_) (fun hbr => ?_) | refine vv13 ?_ | refine vv14 ?_ | refine vv15 ?_ | refine vv16 ?_ | refine vv17 (fun hbr => ?_) (fun hbr => ?_) | refine vv18 ?_ | refine vv19 (fun hbr => ?_) (fun hbr => ?_) | refine vv20 ?_ | refine SlIdxN.map _ rfl (by first | assumption | omega) ?_ | refine SlIdxN.mapPred (by omega) (by omega) ?_ | refine SlIdxN.mapSucc (by omega) ?_ | refine SlIdxN.lit _ _ rfl rfl ?_ | refine SlIdxN.mapInt (by omega) (by omega) ?_ | refine IdxN.at0 _ rfl (by first | assumption | omega | (simp <;> omega)) ?_ | refine vv21 ?_ | refine RowN.map (by first | assumption | omega) ?_ | refine vv22 ?_ | refine RowSN.map (by first | assumption | omega) ?_ | refine vv23 ?_ | refine vv24 ?_ | refine vv25 ?_ | refine Need.mk (by first | assumption | omega | (simp <;> omega)) ?_ | refine DrawN.gen (by first | exact tryd_ok _ | exact tryd_okm _ _) (by kernel_rfl) ?_ | refine vv26 ?_ | refine vv27 ?_ | refine vv28 ?_ | refine vv29 ?_ | refine vv30 ?_ | refine vv31 ?_ | refine vv32 ?_ | refine vv33 ?_ | refine CallN.pure (sane_ok) ?_ | refine GCallN.pure _ (sane_ok) ?_ | refine GCallN.ef (sane_ok) ?_) <;> (conv => whnf)))
        exact DoneN.pure rfl
end Go.Proofs.Ax
