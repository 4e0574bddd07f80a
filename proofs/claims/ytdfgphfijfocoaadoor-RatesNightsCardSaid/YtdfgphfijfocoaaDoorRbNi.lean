import Derived.Test.YtdfgphfijfocoaaDoorRbQ
namespace Go.Proofs.Ax
open Go Go.Proofs
set_option maxRecDepth 10000
set_option maxHeartbeats 4000000
theorem rseason_ok (t u : Bool) (ps : List Policy) (l : List Round) (s : Span) (hp : ∀ p ∈ ps, p.ok) (hl : ∀ r ∈ l, r.ok) (hpl : ps.length ≤ 20) (hll : l.length ≤ 200) (hs : spanErr s = 0) : Pu Tryd.prog G1 26 [policies t ps, rounds u l, .agg s.enc] (postings false (seasonOf ps l s)) := by
  have hs := spanErr_0 hs
  refine Pu.of_ev (T := Tryd.tab) (n := 33) (tryd_ok _) Tryd.func26 rfl rfl rfl (by first | rfl | (split <;> rfl)) (by simp) ?_
  ((conv => whnf); repeat' ((first | refine vv1 ?_ | refine vv2 ?_ | refine vv3 ?_ | refine vv4 ?_ | refine vv5 ?_ | refine vv6 ?_ | refine vv7 ?_ | refine vv8 ?_ | refine vv9 ?_ | refine vv10 ?_ | refine vv11 (fun hbr => ?_) (fun hbr => ?_) | refine vv12 (fun hbr => ?_) (fun hbr => ?_) | refine vv13 ?_ | refine vv14 ?_ | refine vv15 ?_ | refine vv16 ?_ | refine vv17 (fun hbr => ?_) (fun hbr => ?_) | refine vv18 ?_ | refine vv19 (fun hbr => ?_) (fun hbr => ?_) | refine vv20 ?_ | refine SlIdxN.map _ rfl (by first | assumption | omega) ?_ | refine SlIdxN.mapPred (by omega) (by omega) ?_ | refine SlIdxN.mapSucc (by omega) ?_ | refine SlIdxN.lit _ _ rfl rfl ?_ | refine SlIdxN.mapInt (by omega) (by omega) ?_ | refine IdxN.at0 _ rfl (by first | assumption | omega | (simp <;> omega)) ?_ | refine vv21 ?_ | refine RowN.map (by first | assumption | omega) ?_ | refine vv22 ?_ | refine RowSN.map (by first | assumption | omega) ?_ | refine vv23 ?_ | refine vv24 ?_ | refine vv25 ?_ | refine Need.mk (by first | assumption | omega | (simp <;> omega)) ?_ | refine DrawN.gen (by first | exact tryd_ok _ | exact tryd_okm _ _) (by kernel_rfl) ?_ | refine vv26 ?_ | refine vv27 ?_ | refine vv28 ?_ | refine vv29 ?_ | refine vv30 ?_ | refine vv31 ?_ | refine vv32 ?_ | refine vv33 ?_) <;> (conv => whnf)))
  refine LoopN.of (tryd_ok _) (fun m : Nat => [(0, policies t ps), (1, rounds u l), (5, .pm 0 0 0), (7, .sm 1 5 0 (seasonTo ps l s.lo m).length), (8, vi (s.lo + (m : Int)))]) (fun m => [.rows [s.enc] 45, .rows ((seasonTo ps l s.lo m).map Posting.enc) 78]) (fun m => (s.hi - s.lo + 1).toNat - m) (fun m => m ≤ (s.hi - s.lo + 1).toNat) 0 (Nat.zero_le _)
    ((Reabs.virt 7 5 78 rfl).trans (Reabs.frmM [0, 1] (by repeat (first | exact trivial | refine ⟨.inr ⟨rfl, rfl⟩, ?_⟩ | refine ⟨.inr ⟨rfl, vi_eq (by first | omega | (simp; done) | (simp; omega))⟩, ?_⟩ | refine ⟨.inr ⟨rfl, smE rfl (by first | omega | (simp; done) | (simp; omega))⟩, ?_⟩)) (by repeat (first | exact trivial | refine ⟨⟨_, rfl, (by first | exact blkDead | exact blkDeep rfl (deepLit rfl) | exact blkDeep rfl (deepMap (fun _ => rfl)) | exact blkOk rfl rfl | exact blkLoop rfl rfl), (by first | exact fun _ => rfl | exact fun h => (by cases h))⟩, ?_⟩)) rfl rfl)) ?_
  intro m hm
  have hsl := seasonTo_len hp hl hs.2.1.1 m (by omega)
  have hmul : m * (1 + 5 * l.length) ≤ 400 * 1001 := Nat.mul_le_mul (by omega) (by omega)
  have hsu := seasonTo_succ ps l s.lo m
  generalize ho : seasonTo ps l s.lo m = o at *
  by_cases hlt : s.lo + (m : Int) ≤ s.hi
  · by_cases hf : (forceOf ps (s.lo + (m : Int))).2 = true
    · have hfo := rforce_ok t ps (s.lo + (m : Int)) (by omega)
      have hpo := hp _ (forceOf_mem hf)
      have hni : nightIn ps l (s.lo + (m : Int)) = nightOf (forceOf ps (s.lo + (m : Int))).1 (s.lo + (m : Int)) l := by rw [nightIn, if_pos hf]
      rw [hni] at hsu
      unfold pb at hfo
      rw [hf] at hfo
      generalize (forceOf ps (s.lo + (m : Int))).1 = p at *
      have hnl := (night_nok hpo (n := s.lo + (m : Int)) (by omega) hl).len
      have hrn := rnight_ok u (n := s.lo + (m : Int)) hpo (by omega) hl (by omega)
      change (nightOf p (s.lo + (m : Int)) l).length ≤ _ at hnl
      generalize nightOf p (s.lo + (m : Int)) l = B at *
      ((conv => whnf); repeat' ((first | refine CallN.pure hfo ?_ | refine CallN.pure hrn ?_ | refine AppN.maps (by omega) (by omega) ?_ | refine RowN.row2 (by first | omega | (show _ = _ + 1; omega)) ?_ | refine RowN.row1 (by first | omega | (show _ = _ + 1; omega)) ?_ | refine RowN.rowB (by first | omega | (show _ = _ + 1; omega)) ?_ | refine RowSN.row2 (by first | omega | (show _ = _ + 1; omega)) ?_ | refine RowSN.row1 (by first | omega | (show _ = _ + 1; omega)) ?_ | refine RowSN.rowB (by first | omega | (show _ = _ + 1; omega)) ?_ | refine IxN.mk _ rfl ?_ | refine shr_ok rfl rfl ?_ | refine WrapN.inU ⟨by omega, by omega⟩ ?_ | refine vv1 ?_ | refine vv2 ?_ | refine vv3 ?_ | refine vv4 ?_ | refine vv5 ?_ | refine vv6 ?_ | refine vv7 ?_ | refine vv8 ?_ | refine vv9 ?_ | refine vv10 ?_ | refine vv11 (fun hbr => ?_) (fun hbr => ?_) | refine vv12 (fun hbr => ?_) (fun hbr => ?_) | refine vv13 ?_ | refine vv14 ?_ | refine vv15 ?_ | refine vv16 ?_ | refine vv17 (fun hbr => ?_) (fun hbr => ?_) | refine vv18 ?_ | refine vv19 (fun hbr => ?_) (fun hbr => ?_) | refine vv20 ?_ | refine SlIdxN.map _ rfl (by first | assumption | omega) ?_ | refine SlIdxN.mapPred (by omega) (by omega) ?_ | refine SlIdxN.mapSucc (by omega) ?_ | refine SlIdxN.lit _ _ rfl rfl ?_ | refine SlIdxN.mapInt (by omega) (by omega) ?_ | refine IdxN.at0 _ rfl (by first | assumption | omega | (simp <;> omega)) ?_ | refine vv21 ?_ | refine RowN.map (by first | assumption | omega) ?_ | refine vv22 ?_ | refine RowSN.map (by first | assumption | omega) ?_ | refine vv23 ?_ | refine vv24 ?_ | refine vv25 ?_ | refine Need.mk (by first | assumption | omega | (simp <;> omega)) ?_ | refine DrawN.gen (by first | exact tryd_ok _ | exact tryd_okm _ _) (by kernel_rfl) ?_ | refine vv26 ?_ | refine vv27 ?_ | refine vv28 ?_ | refine vv29 ?_ | refine vv30 ?_ | refine vv31 ?_ | refine vv32 ?_ | refine vv33 ?_) <;> (conv => whnf)))
      refine BackN.mk (m + 1) (by omega) (by omega) ?_
      simp only [hsu]
      exact (Reabs.frmM [0, 3] (by repeat (first | exact trivial | refine ⟨.inr ⟨rfl, rfl⟩, ?_⟩ | refine ⟨.inr ⟨rfl, vi_eq (by first | omega | (simp; done) | (simp; omega))⟩, ?_⟩ | refine ⟨.inr ⟨rfl, smE rfl (by first | omega | (simp; done) | (simp; omega))⟩, ?_⟩)) (by repeat (first | exact trivial | refine ⟨⟨_, rfl, (by first | exact blkDead | exact blkDeep rfl (deepLit rfl) | exact blkDeep rfl (deepMap (fun _ => rfl)) | exact blkOk rfl rfl | exact blkLoop rfl rfl), (by first | exact fun _ => rfl | exact fun h => (by cases h))⟩, ?_⟩)) rfl rfl)
    · have hfo := rforce_ok t ps (s.lo + (m : Int)) (by omega)
      have hni : nightIn ps l (s.lo + (m : Int)) = [] := by rw [nightIn, if_neg hf]
      rw [hni, List.append_nil] at hsu
      unfold pb at hfo
      rw [Bool.eq_false_iff.2 hf] at hfo
      ((conv => whnf); repeat' ((first | refine CallN.pure hfo ?_ | refine RowN.row2 (by first | omega | (show _ = _ + 1; omega)) ?_ | refine RowN.row1 (by first | omega | (show _ = _ + 1; omega)) ?_ | refine RowN.rowB (by first | omega | (show _ = _ + 1; omega)) ?_ | refine RowSN.row2 (by first | omega | (show _ = _ + 1; omega)) ?_ | refine RowSN.row1 (by first | omega | (show _ = _ + 1; omega)) ?_ | refine RowSN.rowB (by first | omega | (show _ = _ + 1; omega)) ?_ | refine IxN.mk _ rfl ?_ | refine shr_ok rfl rfl ?_ | refine WrapN.inU ⟨by omega, by omega⟩ ?_ | refine vv1 ?_ | refine vv2 ?_ | refine vv3 ?_ | refine vv4 ?_ | refine vv5 ?_ | refine vv6 ?_ | refine vv7 ?_ | refine vv8 ?_ | refine vv9 ?_ | refine vv10 ?_ | refine vv11 (fun hbr => ?_) (fun hbr => ?_) | refine vv12 (fun hbr => ?_) (fun hbr => ?_) | refine vv13 ?_ | refine vv14 ?_ | refine vv15 ?_ | refine vv16 ?_ | refine vv17 (fun hbr => ?_) (fun hbr => ?_) | refine vv18 ?_ | refine vv19 (fun hbr => ?_) (fun hbr => ?_) | refine vv20 ?_ | refine SlIdxN.map _ rfl (by first | assumption | omega) ?_ | refine SlIdxN.mapPred (by omega) (by omega) ?_ | refine SlIdxN.mapSucc (by omega) ?_ | refine SlIdxN.lit _ _ rfl rfl ?_ | refine SlIdxN.mapInt (by omega) (by omega) ?_ | refine IdxN.at0 _ rfl (by first | assumption | omega | (simp <;> omega)) ?_ | refine vv21 ?_ | refine RowN.map (by first | assumption | omega) ?_ | refine vv22 ?_ | refine RowSN.map (by first | assumption | omega) ?_ | refine vv23 ?_ | refine vv24 ?_ | refine vv25 ?_ | refine Need.mk (by first | assumption | omega | (simp <;> omega)) ?_ | refine DrawN.gen (by first | exact tryd_ok _ | exact tryd_okm _ _) (by kernel_rfl) ?_ | refine vv26 ?_ | refine vv27 ?_ | refine vv28 ?_ | refine vv29 ?_ | refine vv30 ?_ | refine vv31 ?_ | refine vv32 ?_ | refine vv33 ?_) <;> (conv => whnf)))
      refine BackN.mk (m + 1) (by omega) (by omega) ?_
      simp only [hsu]
      exact (Reabs.frmM [0, 1] (by repeat (first | exact trivial | refine ⟨.inr ⟨rfl, rfl⟩, ?_⟩ | refine ⟨.inr ⟨rfl, vi_eq (by first | omega | (simp; done) | (simp; omega))⟩, ?_⟩ | refine ⟨.inr ⟨rfl, smE rfl (by first | omega | (simp; done) | (simp; omega))⟩, ?_⟩)) (by repeat (first | exact trivial | refine ⟨⟨_, rfl, (by first | exact blkDead | exact blkDeep rfl (deepLit rfl) | exact blkDeep rfl (deepMap (fun _ => rfl)) | exact blkOk rfl rfl | exact blkLoop rfl rfl), (by first | exact fun _ => rfl | exact fun h => (by cases h))⟩, ?_⟩)) rfl rfl)
  · ((conv => whnf); repeat' ((first | refine vv1 ?_ | refine vv2 ?_ | refine vv3 ?_ | refine vv4 ?_ | refine vv5 ?_ | refine vv6 ?_ | refine vv7 ?_ | refine vv8 ?_ | refine vv9 ?_ | refine vv10 ?_ | refine vv11 (fun hbr => ?_) (fun hbr => ?_) | refine vv12 (fun hbr => ?_) (fun hbr => ?_) | refine vv13 ?_ | refine vv14 ?_ | refine vv15 ?_ | refine vv16 ?_ | refine vv17 (fun hbr => ?_) (fun hbr => ?_) | refine vv18 ?_ | refine vv19 (fun hbr => ?_) (fun hbr => ?_) | refine vv20 ?_ | refine SlIdxN.map _ rfl (by first | assumption | omega) ?_ | refine SlIdxN.mapPred (by omega) (by omega) ?_ | refine SlIdxN.mapSucc (by omega) ?_ | refine SlIdxN.lit _ _ rfl rfl ?_ | refine SlIdxN.mapInt (by omega) (by omega) ?_ | refine IdxN.at0 _ rfl (by first | assumption | omega | (simp <;> omega)) ?_ | refine vv21 ?_ | refine RowN.map (by first | assumption | omega) ?_ | refine vv22 ?_ | refine RowSN.map (by first | assumption | omega) ?_ | refine vv23 ?_ | refine vv24 ?_ | refine vv25 ?_ | refine Need.mk (by first | assumption | omega | (simp <;> omega)) ?_ | refine DrawN.gen (by first | exact tryd_ok _ | exact tryd_okm _ _) (by kernel_rfl) ?_ | refine vv26 ?_ | refine vv27 ?_ | refine vv28 ?_ | refine vv29 ?_ | refine vv30 ?_ | refine vv31 ?_ | refine vv32 ?_ | refine vv33 ?_) <;> (conv => whnf)))
    obtain rfl : m = (s.hi - s.lo + 1).toNat := by omega
    refine DoneN.frz 1 _ 78 rfl (deepR (fun _ => rfl)) (DoneN.pure ?_)
    show (AV.sm 1 5 0 _).frz0 1 _ = _
    rw [frz_all (by simp), ← ho]
    rfl
theorem seasonOf_len {ps : List Policy} {l : List Round} {s : Span} (hp : ∀ p ∈ ps, p.ok) (hl : ∀ r ∈ l, r.ok) (hll : l.length ≤ 200) (hs : spanErr s = 0) : (seasonOf ps l s).length ≤ 400400 := by
  have hs := spanErr_0 hs
  have hsl := seasonTo_len hp hl hs.2.1.1 (s.hi - s.lo + 1).toNat (by omega)
  have hmul : (s.hi - s.lo + 1).toNat * (1 + 5 * l.length) ≤ 400 * 1001 := Nat.mul_le_mul (by omega) (by omega)
  unfold seasonOf
  omega
theorem ratesNights (t u : Bool) (ps : List Policy) (l : List Round) (p : Policy) (n : Int) (s : Span) (hmax : ps.length ≤ 9223372036854775807) (hmax' : l.length ≤ 9223372036854775807) : Pu Tryd.prog G1 6 [policies t ps, rounds u l, .agg p.enc, vi n, .agg s.enc] (vb true) := by
  have hfew := few_ok t u ps l hmax hmax'
  have hask := rasked_ok t u ps l s hmax hmax'
  have hcp := rcheckPol_ok true [p] (by simp)
  have hcr := rcheckRounds_ok u l hmax'
  by_cases hf : fewP ps l
  case neg =>
    rw [decide_eq_false hf] at hfew
    refine Pu.of_ev (T := Tryd.tab) (n := 116) (tryd_ok _) Tryd.func6 rfl rfl rfl (by first | rfl | (split <;> rfl)) (by simp) ?_
    ((conv => whnf); repeat' ((first | refine vv1 ?_ | refine vv2 ?_ | refine vv3 ?_ | refine vv4 ?_ | refine vv5 ?_ | refine vv6 ?_ | refine vv7 ?_ | refine vv8 ?_ | refine vv9 ?_ | refine vv10 ?_ | refine vv11 (fun hbr => ?_) (fun hbr => ?_) | refine vv12 (fun hbr => ?_) (fun hbr => ?_) | refine vv13 ?_ | refine vv14 ?_ | refine vv15 ?_ | refine vv16 ?_ | refine vv17 (fun hbr => ?_) (fun hbr => ?_) | refine vv18 ?_ | refine vv19 (fun hbr => ?_) (fun hbr => ?_) | refine vv20 ?_ | refine SlIdxN.map _ rfl (by first | assumption | omega) ?_ | refine SlIdxN.mapPred (by omega) (by omega) ?_ | refine SlIdxN.mapSucc (by omega) ?_ | refine SlIdxN.lit _ _ rfl rfl ?_ | refine SlIdxN.mapInt (by omega) (by omega) ?_ | refine IdxN.at0 _ rfl (by first | assumption | omega | (simp <;> omega)) ?_ | refine vv21 ?_ | refine RowN.map (by first | assumption | omega) ?_ | refine vv22 ?_ | refine RowSN.map (by first | assumption | omega) ?_ | refine vv23 ?_ | refine vv24 ?_ | refine vv25 ?_ | refine Need.mk (by first | assumption | omega | (simp <;> omega)) ?_ | refine DrawN.gen (by first | exact tryd_ok _ | exact tryd_okm _ _) (by kernel_rfl) ?_ | refine vv26 ?_ | refine vv27 ?_ | refine vv28 ?_ | refine vv29 ?_ | refine vv30 ?_ | refine vv31 ?_ | refine vv32 ?_ | refine vv33 ?_ | refine CallN.pure (hfew) ?_ | refine CallN.pure (sane_ok) ?_ | refine GCallN.pure _ (hfew) ?_ | refine GCallN.pure _ (sane_ok) ?_ | refine GCallN.ef (hfew) ?_ | refine GCallN.ef (sane_ok) ?_) <;> (conv => whnf)))
    all_goals exact DoneN.pure rfl
  rw [decide_eq_true hf] at hfew
  by_cases hn : nightErr p n l = 0
  · have hgn := night_good u p n l hmax' hn
    obtain ⟨n1, n2, n3⟩ := nightErr_0 hn
    obtain ⟨b1, b2⟩ := checkRounds_0 n2
    have hpk := (checkPol_0 n1).2 p (List.mem_singleton.2 rfl)
    have hrn := rnight_ok u hpk n3 b2 (by omega)
    have hnl := (night_nok hpk n3 b2).len
    change (nightOf p n l).length ≤ _ at hnl
    simp only [ei, n1] at hcp
    simp only [ei, n2] at hcr
    have hin := in_ok n 0 20000
    rw [decide_eq_true n3] at hin
    have hsp := samePostings_ok false false (nightOf p n l) (nightOf p n l) (by omega) (by omega)
    rw [decide_eq_true rfl] at hsp
    by_cases ha : askedErr ps l s = 0
    · have hgs := Season_good t u ps l s hmax hmax' ha
      obtain ⟨h1, h2, h3⟩ := askedErr_0 ha
      obtain ⟨c1, c2⟩ := checkPol_0 h1
      have hrs := rseason_ok t u ps l s c2 b2 c1 b1 h3
      have hsl := seasonOf_len c2 b2 b1 h3
      have hsp2 := samePostings_ok false false (seasonOf ps l s) (seasonOf ps l s) (by omega) (by omega)
      rw [decide_eq_true rfl] at hsp2
      rw [ha] at hask
      refine Pu.of_ev (T := Tryd.tab) (n := 116) (tryd_ok _) Tryd.func6 rfl rfl rfl (by first | rfl | (split <;> rfl)) (by simp) ?_
      ((conv => whnf); repeat' ((first | refine vv1 ?_ | refine vv2 ?_ | refine vv3 ?_ | refine vv4 ?_ | refine vv5 ?_ | refine vv6 ?_ | refine vv7 ?_ | refine vv8 ?_ | refine vv9 ?_ | refine vv10 ?_ | refine vv11 (fun hbr => ?_) (fun hbr => ?_) | refine vv12 (fun hbr => ?_) (fun hbr => ?_) | refine vv13 ?_ | refine vv14 ?_ | refine vv15 ?_ | refine vv16 ?_ | refine vv17 (fun hbr => ?_) (fun hbr => ?_) | refine vv18 ?_ | refine vv19 (fun hbr => ?_) (fun hbr => ?_) | refine vv20 ?_ | refine SlIdxN.map _ rfl (by first | assumption | omega) ?_ | refine SlIdxN.mapPred (by omega) (by omega) ?_ | refine SlIdxN.mapSucc (by omega) ?_ | refine SlIdxN.lit _ _ rfl rfl ?_ | refine SlIdxN.mapInt (by omega) (by omega) ?_ | refine IdxN.at0 _ rfl (by first | assumption | omega | (simp <;> omega)) ?_ | refine vv21 ?_ | refine RowN.map (by first | assumption | omega) ?_ | refine vv22 ?_ | refine RowSN.map (by first | assumption | omega) ?_ | refine vv23 ?_ | refine vv24 ?_ | refine vv25 ?_ | refine Need.mk (by first | assumption | omega | (simp <;> omega)) ?_ | refine DrawN.gen (by first | exact tryd_ok _ | exact tryd_okm _ _) (by kernel_rfl) ?_ | refine vv26 ?_ | refine vv27 ?_ | refine vv28 ?_ | refine vv29 ?_ | refine vv30 ?_ | refine vv31 ?_ | refine vv32 ?_ | refine vv33 ?_ | refine CallN.pure (hfew) ?_ | refine CallN.pure (sane_ok) ?_ | refine CallN.pure (hgs) ?_ | refine CallN.pure (hask) ?_ | refine CallN.pure (hrs) ?_ | refine CallN.pure (hsp2) ?_ | refine CallN.pure (hgn) ?_ | refine CallN.pure (hcp) ?_ | refine CallN.pure (hcr) ?_ | refine CallN.pure (hin) ?_ | refine CallN.pure (hrn) ?_ | refine CallN.pure (hsp) ?_ | refine GCallN.pure _ (hfew) ?_ | refine GCallN.pure _ (sane_ok) ?_ | refine GCallN.pure _ (hgs) ?_ | refine GCallN.pure _ (hask) ?_ | refine GCallN.pure _ (hrs) ?_ | refine GCallN.pure _ (hsp2) ?_ | refine GCallN.pure _ (hgn) ?_ | refine GCallN.pure _ (hcp) ?_ | refine GCallN.pure _ (hcr) ?_ | refine GCallN.pure _ (hin) ?_ | refine GCallN.pure _ (hrn) ?_ | refine GCallN.pure _ (hsp) ?_ | refine GCallN.ef (hfew) ?_ | refine GCallN.ef (sane_ok) ?_ | refine GCallN.ef (hgs) ?_ | refine GCallN.ef (hask) ?_ | refine GCallN.ef (hrs) ?_ | refine GCallN.ef (hsp2) ?_ | refine GCallN.ef (hgn) ?_ | refine GCallN.ef (hcp) ?_ | refine GCallN.ef (hcr) ?_ | refine GCallN.ef (hin) ?_ | refine GCallN.ef (hrn) ?_ | refine GCallN.ef (hsp) ?_) <;> (conv => whnf)))
      all_goals exact DoneN.pure rfl
    · have hbs := Season_bad t u ps l s hmax hmax' ha
      refine Pu.of_ev (T := Tryd.tab) (n := 116) (tryd_ok _) Tryd.func6 rfl rfl rfl (by first | rfl | (split <;> rfl)) (by simp) ?_
      ((conv => whnf); repeat' ((first | refine vv1 ?_ | refine vv2 ?_ | refine vv3 ?_ | refine vv4 ?_ | refine vv5 ?_ | refine vv6 ?_ | refine vv7 ?_ | refine vv8 ?_ | refine vv9 ?_ | refine vv10 ?_ | refine vv11 (fun hbr => ?_) (fun hbr => ?_) | refine vv12 (fun hbr => ?_) (fun hbr => ?_) | refine vv13 ?_ | refine vv14 ?_ | refine vv15 ?_ | refine vv16 ?_ | refine vv17 (fun hbr => ?_) (fun hbr => ?_) | refine vv18 ?_ | refine vv19 (fun hbr => ?_) (fun hbr => ?_) | refine vv20 ?_ | refine SlIdxN.map _ rfl (by first | assumption | omega) ?_ | refine SlIdxN.mapPred (by omega) (by omega) ?_ | refine SlIdxN.mapSucc (by omega) ?_ | refine SlIdxN.lit _ _ rfl rfl ?_ | refine SlIdxN.mapInt (by omega) (by omega) ?_ | refine IdxN.at0 _ rfl (by first | assumption | omega | (simp <;> omega)) ?_ | refine vv21 ?_ | refine RowN.map (by first | assumption | omega) ?_ | refine vv22 ?_ | refine RowSN.map (by first | assumption | omega) ?_ | refine vv23 ?_ | refine vv24 ?_ | refine vv25 ?_ | refine Need.mk (by first | assumption | omega | (simp <;> omega)) ?_ | refine DrawN.gen (by first | exact tryd_ok _ | exact tryd_okm _ _) (by kernel_rfl) ?_ | refine vv26 ?_ | refine vv27 ?_ | refine vv28 ?_ | refine vv29 ?_ | refine vv30 ?_ | refine vv31 ?_ | refine vv32 ?_ | refine vv33 ?_ | refine CallN.pure (hfew) ?_ | refine CallN.pure (sane_ok) ?_ | refine CallN.pure (hbs) ?_ | refine CallN.pure (hask) ?_ | refine CallN.pure (hgn) ?_ | refine CallN.pure (hcp) ?_ | refine CallN.pure (hcr) ?_ | refine CallN.pure (hin) ?_ | refine CallN.pure (hrn) ?_ | refine CallN.pure (hsp) ?_ | refine GCallN.pure _ (hfew) ?_ | refine GCallN.pure _ (sane_ok) ?_ | refine GCallN.pure _ (hbs) ?_ | refine GCallN.pure _ (hask) ?_ | refine GCallN.pure _ (hgn) ?_ | refine GCallN.pure _ (hcp) ?_ | refine GCallN.pure _ (hcr) ?_ | refine GCallN.pure _ (hin) ?_ | refine GCallN.pure _ (hrn) ?_ | refine GCallN.pure _ (hsp) ?_ | refine GCallN.ef (hfew) ?_ | refine GCallN.ef (sane_ok) ?_ | refine GCallN.ef (hbs) ?_ | refine GCallN.ef (hask) ?_ | refine GCallN.ef (hgn) ?_ | refine GCallN.ef (hcp) ?_ | refine GCallN.ef (hcr) ?_ | refine GCallN.ef (hin) ?_ | refine GCallN.ef (hrn) ?_ | refine GCallN.ef (hsp) ?_) <;> (conv => whnf)))
      all_goals exact DoneN.pure rfl
  · have hbn := night_bad u p n l hmax' hn
    have hne : nightErr p n l = if (checkPol [p]).1 ≠ 0 then (checkPol [p]).1 else if (checkRounds l).1 ≠ 0 then (checkRounds l).1 else if ¬ (0 ≤ n ∧ n ≤ 20000) then 1 else 0 := rfl
    by_cases ha : askedErr ps l s = 0
    · have hgs := Season_good t u ps l s hmax hmax' ha
      obtain ⟨h1, h2, h3⟩ := askedErr_0 ha
      obtain ⟨c1, c2⟩ := checkPol_0 h1
      obtain ⟨b1, b2⟩ := checkRounds_0 h2
      have hrs := rseason_ok t u ps l s c2 b2 c1 b1 h3
      have hsl := seasonOf_len c2 b2 b1 h3
      have hsp2 := samePostings_ok false false (seasonOf ps l s) (seasonOf ps l s) (by omega) (by omega)
      rw [decide_eq_true rfl] at hsp2
      rw [ha] at hask
      refine Pu.of_ev (T := Tryd.tab) (n := 116) (tryd_ok _) Tryd.func6 rfl rfl rfl (by first | rfl | (split <;> rfl)) (by simp) ?_
      ((conv => whnf); repeat' ((first | refine vv1 ?_ | refine vv2 ?_ | refine vv3 ?_ | refine vv4 ?_ | refine vv5 ?_ | refine vv6 ?_ | refine vv7 ?_ | refine vv8 ?_ | refine vv9 ?_ | refine vv10 ?_ | refine vv11 (fun hbr => ?_) (fun hbr => ?_) | refine vv12 (fun hbr => ?_) (fun hbr => ?_) | refine vv13 ?_ | refine vv14 ?_ | refine vv15 ?_ | refine vv16 ?_ | refine vv17 (fun hbr => ?_) (fun hbr => ?_) | refine vv18 ?_ | refine vv19 (fun hbr => ?_) (fun hbr => ?_) | refine vv20 ?_ | refine SlIdxN.map _ rfl (by first | assumption | omega) ?_ | refine SlIdxN.mapPred (by omega) (by omega) ?_ | refine SlIdxN.mapSucc (by omega) ?_ | refine SlIdxN.lit _ _ rfl rfl ?_ | refine SlIdxN.mapInt (by omega) (by omega) ?_ | refine IdxN.at0 _ rfl (by first | assumption | omega | (simp <;> omega)) ?_ | refine vv21 ?_ | refine RowN.map (by first | assumption | omega) ?_ | refine vv22 ?_ | refine RowSN.map (by first | assumption | omega) ?_ | refine vv23 ?_ | refine vv24 ?_ | refine vv25 ?_ | refine Need.mk (by first | assumption | omega | (simp <;> omega)) ?_ | refine DrawN.gen (by first | exact tryd_ok _ | exact tryd_okm _ _) (by kernel_rfl) ?_ | refine vv26 ?_ | refine vv27 ?_ | refine vv28 ?_ | refine vv29 ?_ | refine vv30 ?_ | refine vv31 ?_ | refine vv32 ?_ | refine vv33 ?_ | refine CallN.pure (hfew) ?_ | refine CallN.pure (sane_ok) ?_ | refine CallN.pure (hgs) ?_ | refine CallN.pure (hask) ?_ | refine CallN.pure (hrs) ?_ | refine CallN.pure (hsp2) ?_ | refine CallN.pure (hbn) ?_ | refine CallN.pure (hcp) ?_ | refine CallN.pure (hcr) ?_ | refine CallN.pure (in_ok _ _ _) ?_ | refine GCallN.pure _ (hfew) ?_ | refine GCallN.pure _ (sane_ok) ?_ | refine GCallN.pure _ (hgs) ?_ | refine GCallN.pure _ (hask) ?_ | refine GCallN.pure _ (hrs) ?_ | refine GCallN.pure _ (hsp2) ?_ | refine GCallN.pure _ (hbn) ?_ | refine GCallN.pure _ (hcp) ?_ | refine GCallN.pure _ (hcr) ?_ | refine GCallN.pure _ (in_ok _ _ _) ?_ | refine GCallN.ef (hfew) ?_ | refine GCallN.ef (sane_ok) ?_ | refine GCallN.ef (hgs) ?_ | refine GCallN.ef (hask) ?_ | refine GCallN.ef (hrs) ?_ | refine GCallN.ef (hsp2) ?_ | refine GCallN.ef (hbn) ?_ | refine GCallN.ef (hcp) ?_ | refine GCallN.ef (hcr) ?_ | refine GCallN.ef (in_ok _ _ _) ?_) <;> (conv => whnf)))
      all_goals first
        | exact DoneN.pure rfl
        | (exfalso; exact hn (by simp [nightErr, *]; done))
        | (exfalso; revert hn; simp [nightErr, *]; done)
        | (exfalso; revert hne; simp [*]; done)
        | trace_state
    · have hbs := Season_bad t u ps l s hmax hmax' ha
      refine Pu.of_ev (T := Tryd.tab) (n := 116) (tryd_ok _) Tryd.func6 rfl rfl rfl (by first | rfl | (split <;> rfl)) (by simp) ?_
      ((conv => whnf); repeat' ((first | refine vv1 ?_ | refine vv2 ?_ | refine vv3 ?_ | refine vv4 ?_ | refine vv5 ?_ | refine vv6 ?_ | refine vv7 ?_ | refine vv8 ?_ | refine vv9 ?_ | refine vv10 ?_ | refine vv11 (fun hbr => ?_) (fun hbr => ?_) | refine vv12 (fun hbr => ?_) (fun hbr => ?_) | refine vv13 ?_ | refine vv14 ?_ | refine vv15 ?_ | refine vv16 ?_ | refine vv17 (fun hbr => ?_) (fun hbr => ?_) | refine vv18 ?_ | refine vv19 (fun hbr => ?_) (fun hbr => ?_) | refine vv20 ?_ | refine SlIdxN.map _ rfl (by first | assumption | omega) ?_ | refine SlIdxN.mapPred (by omega) (by omega) ?_ | refine SlIdxN.mapSucc (by omega) ?_ | refine SlIdxN.lit _ _ rfl rfl ?_ | refine SlIdxN.mapInt (by omega) (by omega) ?_ | refine IdxN.at0 _ rfl (by first | assumption | omega | (simp <;> omega)) ?_ | refine vv21 ?_ | refine RowN.map (by first | assumption | omega) ?_ | refine vv22 ?_ | refine RowSN.map (by first | assumption | omega) ?_ | refine vv23 ?_ | refine vv24 ?_ | refine vv25 ?_ | refine Need.mk (by first | assumption | omega | (simp <;> omega)) ?_ | refine DrawN.gen (by first | exact tryd_ok _ | exact tryd_okm _ _) (by kernel_rfl) ?_ | refine vv26 ?_ | refine vv27 ?_ | refine vv28 ?_ | refine vv29 ?_ | refine vv30 ?_ | refine vv31 ?_ | refine vv32 ?_ | refine vv33 ?_ | refine CallN.pure (hfew) ?_ | refine CallN.pure (sane_ok) ?_ | refine CallN.pure (hbs) ?_ | refine CallN.pure (hask) ?_ | refine CallN.pure (hbn) ?_ | refine CallN.pure (hcp) ?_ | refine CallN.pure (hcr) ?_ | refine CallN.pure (in_ok _ _ _) ?_ | refine GCallN.pure _ (hfew) ?_ | refine GCallN.pure _ (sane_ok) ?_ | refine GCallN.pure _ (hbs) ?_ | refine GCallN.pure _ (hask) ?_ | refine GCallN.pure _ (hbn) ?_ | refine GCallN.pure _ (hcp) ?_ | refine GCallN.pure _ (hcr) ?_ | refine GCallN.pure _ (in_ok _ _ _) ?_ | refine GCallN.ef (hfew) ?_ | refine GCallN.ef (sane_ok) ?_ | refine GCallN.ef (hbs) ?_ | refine GCallN.ef (hask) ?_ | refine GCallN.ef (hbn) ?_ | refine GCallN.ef (hcp) ?_ | refine GCallN.ef (hcr) ?_ | refine GCallN.ef (in_ok _ _ _) ?_) <;> (conv => whnf)))
      all_goals first
        | exact DoneN.pure rfl
        | (exfalso; exact hn (by simp [nightErr, *]; done))
        | (exfalso; revert hn; simp [nightErr, *]; done)
        | (exfalso; revert hne; simp [*]; done)
        | trace_state
end Go.Proofs.Ax
