import Derived.Test.YtdfgphfijfocoaaDoorRbTo
namespace Go.Proofs.Ax
open Go Go.Proofs
set_option maxRecDepth 10000
set_option maxHeartbeats 8000000
theorem dNn_le (n : Int) : ∀ l : List Round, dNn n l ≤ dN l
  | [] => Nat.le_refl _
  | r :: l => by
    have := dNn_le n l
    unfold dNn dN
    by_cases hk : r.kind = 2
    · rw [if_pos hk]; split <;> omega
    · rw [if_neg hk, if_neg (by simp [hk])]; omega
theorem convU {n : Int} (h0 : 0 ≤ n) (h1 : n ≤ 1000000) : IntKind.u64.wrap n = n := by
  show n % (2 ^ 64) = n
  omega
theorem StepN.shrA {E : EC} {t u : TypeId} {x y : Operand} {ty : TypeId} {l : Fr} {H : AH} {k : AV → AH → Prop} {a : Int} {d : Nat} (hx : evo E l x = vi a) (hy : evo E l y = .sc (.int .u64 (d : Int))) (hk : ∀ z : Int, k (vi z) H) : StepN E (.binOp .shr t x y u) ty l H k := by
  have h : val? (binOp BinOp.shr t (Value.int IntKind.i64 a) (Value.int IntKind.u64 (d : Int))) = some (.int .i64 (a.fdiv (2 ^ (min (d : Int).toNat 64)))) := by
    simp only [binOp, Op.shift]
    rw [if_neg (by omega)]
    rfl
  refine ⟨_, _, ?_, hk (a.fdiv (2 ^ (min (d : Int).toNat 64)))⟩
  rw [evo_eq E l H] at hx hy
  simp only [astep, hx, hy, abin, h, Option.map_some]
theorem ratesAttained (t u : Bool) (ps : List Policy) (l : List Round) (s : Span) (bits : Int) (hmax : ps.length ≤ 9223372036854775807) (hmax' : l.length ≤ 9223372036854775807) : Pu Tryd.prog G1 8 [policies t ps, rounds u l, .agg s.enc, vi bits] (vb true) := by
  have hfew := few_ok t u ps l hmax hmax'
  have hask := rasked_ok t u ps l s hmax hmax'
  by_cases hf : fewP ps l
  case neg =>
    rw [decide_eq_false hf] at hfew
    refine Pu.of_ev (T := Tryd.tab) (n := 123) (tryd_ok _) Tryd.func8 rfl rfl rfl (by first | rfl | (split <;> rfl)) (by simp) ?_
    ((conv => whnf); repeat' ((first | refine vv1 ?_ | refine vv2 ?_ | refine vv3 ?_ | refine vv4 ?_ | refine vv5 ?_ | refine vv6 ?_ | refine vv7 ?_ | refine vv8 ?_ | refine vv9 ?_ | refine vv10 ?_ | refine vv11 (fun hbr => ?_) (fun hbr => ?_) | refine vv12 (fun hbr => ?_) (fun hbr => ?_) | refine vv13 ?_ | refine vv14 ?_ | refine vv15 ?_ | refine vv16 ?_ | refine vv17 (fun hbr => ?_) (fun hbr => ?_) | refine vv18 ?_ | refine vv19 (fun hbr => ?_) (fun hbr => ?_) | refine vv20 ?_ | refine SlIdxN.map _ rfl (by first | assumption | omega) ?_ | refine SlIdxN.mapPred (by omega) (by omega) ?_ | refine SlIdxN.mapSucc (by omega) ?_ | refine SlIdxN.lit _ _ rfl rfl ?_ | refine SlIdxN.mapInt (by omega) (by omega) ?_ | refine IdxN.at0 _ rfl (by first | assumption | omega | (simp <;> omega)) ?_ | refine vv21 ?_ | refine RowN.map (by first | assumption | omega) ?_ | refine vv22 ?_ | refine RowSN.map (by first | assumption | omega) ?_ | refine vv23 ?_ | refine vv24 ?_ | refine vv25 ?_ | refine Need.mk (by first | assumption | omega | (simp <;> omega)) ?_ | refine DrawN.gen (by first | exact tryd_ok _ | exact tryd_okm _ _) (by kernel_rfl) ?_ | refine vv26 ?_ | refine vv27 ?_ | refine vv28 ?_ | refine vv29 ?_ | refine vv30 ?_ | refine vv31 ?_ | refine vv32 ?_ | refine vv33 ?_ | refine CallN.pure (hfew) ?_ | refine CallN.pure (sane_ok) ?_ | refine GCallN.pure _ (hfew) ?_ | refine GCallN.pure _ (sane_ok) ?_ | refine GCallN.ef (hfew) ?_ | refine GCallN.ef (sane_ok) ?_) <;> (conv => whnf)))
    all_goals exact DoneN.pure rfl
  rw [decide_eq_true hf] at hfew
  by_cases ha : askedErr ps l s = 0
  case neg =>
    refine Pu.of_ev (T := Tryd.tab) (n := 123) (tryd_ok _) Tryd.func8 rfl rfl rfl (by first | rfl | (split <;> rfl)) (by simp) ?_
    ((conv => whnf); repeat' ((first | refine vv1 ?_ | refine vv2 ?_ | refine vv3 ?_ | refine vv4 ?_ | refine vv5 ?_ | refine vv6 ?_ | refine vv7 ?_ | refine vv8 ?_ | refine vv9 ?_ | refine vv10 ?_ | refine vv11 (fun hbr => ?_) (fun hbr => ?_) | refine vv12 (fun hbr => ?_) (fun hbr => ?_) | refine vv13 ?_ | refine vv14 ?_ | refine vv15 ?_ | refine vv16 ?_ | refine vv17 (fun hbr => ?_) (fun hbr => ?_) | refine vv18 ?_ | refine vv19 (fun hbr => ?_) (fun hbr => ?_) | refine vv20 ?_ | refine SlIdxN.map _ rfl (by first | assumption | omega) ?_ | refine SlIdxN.mapPred (by omega) (by omega) ?_ | refine SlIdxN.mapSucc (by omega) ?_ | refine SlIdxN.lit _ _ rfl rfl ?_ | refine SlIdxN.mapInt (by omega) (by omega) ?_ | refine IdxN.at0 _ rfl (by first | assumption | omega | (simp <;> omega)) ?_ | refine vv21 ?_ | refine RowN.map (by first | assumption | omega) ?_ | refine vv22 ?_ | refine RowSN.map (by first | assumption | omega) ?_ | refine vv23 ?_ | refine vv24 ?_ | refine vv25 ?_ | refine Need.mk (by first | assumption | omega | (simp <;> omega)) ?_ | refine DrawN.gen (by first | exact tryd_ok _ | exact tryd_okm _ _) (by kernel_rfl) ?_ | refine vv26 ?_ | refine vv27 ?_ | refine vv28 ?_ | refine vv29 ?_ | refine vv30 ?_ | refine vv31 ?_ | refine vv32 ?_ | refine vv33 ?_ | refine CallN.pure (hfew) ?_ | refine CallN.pure (sane_ok) ?_ | refine CallN.pure (hask) ?_ | refine GCallN.pure _ (hfew) ?_ | refine GCallN.pure _ (sane_ok) ?_ | refine GCallN.pure _ (hask) ?_ | refine GCallN.ef (hfew) ?_ | refine GCallN.ef (sane_ok) ?_ | refine GCallN.ef (hask) ?_) <;> (conv => whnf)))
    all_goals first
      | exact DoneN.pure rfl
      | (exfalso; exact ha (by assumption))
  rw [ha] at hask
  obtain ⟨h1, h2, h3⟩ := askedErr_0 ha
  obtain ⟨c1, c2⟩ := checkPol_0 h1
  obtain ⟨b1, b2⟩ := checkRounds_0 h2
  have h40 := few_40 hf b1
  have hs := spanErr_0 h3
  have hrd := rdoubtful_ok u l (by omega)
  have hdl := dN_le l
  by_cases hdn : dN l ≤ 12
  case neg =>
    refine Pu.of_ev (T := Tryd.tab) (n := 123) (tryd_ok _) Tryd.func8 rfl rfl rfl (by first | rfl | (split <;> rfl)) (by simp) ?_
    ((conv => whnf); repeat' ((first | refine vv1 ?_ | refine vv2 ?_ | refine vv3 ?_ | refine vv4 ?_ | refine vv5 ?_ | refine vv6 ?_ | refine vv7 ?_ | refine vv8 ?_ | refine vv9 ?_ | refine vv10 ?_ | refine vv11 (fun hbr => ?_) (fun hbr => ?_) | refine vv12 (fun hbr => ?_) (fun hbr => ?_) | refine vv13 ?_ | refine vv14 ?_ | refine vv15 ?_ | refine vv16 ?_ | refine vv17 (fun hbr => ?_) (fun hbr => ?_) | refine vv18 ?_ | refine vv19 (fun hbr => ?_) (fun hbr => ?_) | refine vv20 ?_ | refine SlIdxN.map _ rfl (by first | assumption | omega) ?_ | refine SlIdxN.mapPred (by omega) (by omega) ?_ | refine SlIdxN.mapSucc (by omega) ?_ | refine SlIdxN.lit _ _ rfl rfl ?_ | refine SlIdxN.mapInt (by omega) (by omega) ?_ | refine IdxN.at0 _ rfl (by first | assumption | omega | (simp <;> omega)) ?_ | refine vv21 ?_ | refine RowN.map (by first | assumption | omega) ?_ | refine vv22 ?_ | refine RowSN.map (by first | assumption | omega) ?_ | refine vv23 ?_ | refine vv24 ?_ | refine vv25 ?_ | refine Need.mk (by first | assumption | omega | (simp <;> omega)) ?_ | refine DrawN.gen (by first | exact tryd_ok _ | exact tryd_okm _ _) (by kernel_rfl) ?_ | refine vv26 ?_ | refine vv27 ?_ | refine vv28 ?_ | refine vv29 ?_ | refine vv30 ?_ | refine vv31 ?_ | refine vv32 ?_ | refine vv33 ?_ | refine CallN.pure (hfew) ?_ | refine CallN.pure (sane_ok) ?_ | refine CallN.pure (hask) ?_ | refine CallN.pure (hrd) ?_ | refine GCallN.pure _ (hfew) ?_ | refine GCallN.pure _ (sane_ok) ?_ | refine GCallN.pure _ (hask) ?_ | refine GCallN.pure _ (hrd) ?_ | refine GCallN.ef (hfew) ?_ | refine GCallN.ef (sane_ok) ?_ | refine GCallN.ef (hask) ?_ | refine GCallN.ef (hrd) ?_) <;> (conv => whnf)))
    all_goals exact DoneN.pure rfl
  have hd12 : ∀ n, dNn n l ≤ 12 := fun n => by have := dNn_le n l; omega
  have hou := outlook_good t u ps l s hmax hmax' ha hd12
  have ht1 := total_ok t u true ps l s hmax hmax' ha h40 hd12
  have ht2 := total_ok t u false ps l s hmax hmax' ha h40 hd12
  have hb1 : sumTo (bestN ps l true) s.lo (s.hi - s.lo + 1).toNat = sumTo (outLo ps l) s.lo (s.hi - s.lo + 1).toNat := rfl
  have hb2 : sumTo (bestN ps l false) s.lo (s.hi - s.lo + 1).toNat = sumTo (outHi ps l) s.lo (s.hi - s.lo + 1).toNat := rfl
  rw [hb1] at ht1
  rw [hb2] at ht2
  have q1 := sumTo_bd (f := outLo ps l) (lo := s.lo) (a := -1000000) (b := 3000000) (s.hi - s.lo + 1).toNat (fun j _ => (out_bd c2 l _).1)
  have q2 := sumTo_bd (f := outHi ps l) (lo := s.lo) (a := -1000000) (b := 3000000) (s.hi - s.lo + 1).toNat (fun j _ => (out_bd c2 l _).2)
  clear hd12
  refine Pu.of_ev (T := Tryd.tab) (n := 123) (tryd_ok _) Tryd.func8 rfl rfl rfl (by first | rfl | (split <;> rfl)) (by simp) ?_
  ((conv => whnf); repeat' ((first | refine vv1 ?_ | refine vv2 ?_ | refine vv3 ?_ | refine vv4 ?_ | refine vv5 ?_ | refine vv6 ?_ | refine vv7 ?_ | refine vv8 ?_ | refine vv9 ?_ | refine vv10 ?_ | refine vv11 (fun hbr => ?_) (fun hbr => ?_) | refine vv12 (fun hbr => ?_) (fun hbr => ?_) | refine vv13 ?_ | refine vv14 ?_ | refine vv15 ?_ | refine vv16 ?_ | refine vv17 (fun hbr => ?_) (fun hbr => ?_) | refine vv18 ?_ | refine vv19 (fun hbr => ?_) (fun hbr => ?_) | refine vv20 ?_ | refine SlIdxN.map _ rfl (by first | assumption | omega) ?_ | refine SlIdxN.mapPred (by omega) (by omega) ?_ | refine SlIdxN.mapSucc (by omega) ?_ | refine SlIdxN.lit _ _ rfl rfl ?_ | refine SlIdxN.mapInt (by omega) (by omega) ?_ | refine IdxN.at0 _ rfl (by first | assumption | omega | (simp <;> omega)) ?_ | refine vv21 ?_ | refine RowN.map (by first | assumption | omega) ?_ | refine vv22 ?_ | refine RowSN.map (by first | assumption | omega) ?_ | refine vv23 ?_ | refine vv24 ?_ | refine vv25 ?_ | refine Need.mk (by first | assumption | omega | (simp <;> omega)) ?_ | refine DrawN.gen (by first | exact tryd_ok _ | exact tryd_okm _ _) (by kernel_rfl) ?_ | refine vv26 ?_ | refine vv27 ?_ | refine vv28 ?_ | refine vv29 ?_ | refine vv30 ?_ | refine vv31 ?_ | refine vv32 ?_ | refine vv33 ?_ | refine CallN.pure (hfew) ?_ | refine CallN.pure (hask) ?_ | refine CallN.pure (hrd) ?_ | refine CallN.pure (hou) ?_ | refine GCallN.pure _ (hfew) ?_ | refine GCallN.pure _ (hask) ?_ | refine GCallN.pure _ (hrd) ?_ | refine GCallN.pure _ (hou) ?_ | refine GCallN.ef (hfew) ?_ | refine GCallN.ef (hask) ?_ | refine GCallN.ef (hrd) ?_ | refine GCallN.ef (hou) ?_) <;> (conv => whnf)))
  refine LoopN.of2 (tryd_ok _) (fun (k : Nat) (bs : List Bool) => [(0, policies t ps), (1, rounds u l), (3, vi bits), (6, .pm 0 0 0), (9, .pm 1 0 0), (10, vi 0), (11, .sm 2 1 0 k), (12, vi k)]) (fun k bs => [.rows [s.enc] 45, .rows [[vi (sumTo (outLo ps l) s.lo (s.hi - s.lo + 1).toNat), vi (sumTo (outHi ps l) s.lo (s.hi - s.lo + 1).toNat)]] 45, .rows (bs.map fun b => [vb b]) 4]) (fun k _ => dN l - k) (fun k bs => k ≤ dN l ∧ bs.length = k) 0 [] ⟨Nat.zero_le _, rfl⟩
    ((Reabs.virt 11 1 4 rfl).trans (Reabs.frmM [0, 1, 2] (by repeat (first | exact trivial | refine ⟨.inr ⟨rfl, rfl⟩, ?_⟩ | refine ⟨.inr ⟨rfl, vi_eq (by first | omega | (simp; done) | (simp; omega))⟩, ?_⟩ | refine ⟨.inr ⟨rfl, smE rfl (by first | omega | (simp; done) | (simp; omega))⟩, ?_⟩)) (by repeat (first | exact trivial | refine ⟨⟨_, rfl, (by first | exact blkDead | exact blkDeep rfl (deepLit rfl) | exact blkDeep rfl (deepMap (fun _ => rfl)) | exact blkOk rfl rfl | exact blkLoop rfl rfl), (by first | exact fun _ => rfl | exact fun h => (by cases h))⟩, ?_⟩)) rfl rfl)) ?_
  rintro k bs ⟨hk, hbl⟩
  by_cases hlt : k < dN l
  · ((conv => whnf); repeat' ((first | refine WrapN.mk _ (convU (by omega) (by omega)) ?_ | refine StepN.shrA rfl rfl (fun z => ?_) | refine StepN.and1 rfl rfl ?_ | refine RowN.row2 (by first | omega | (show _ = _ + 1; omega)) ?_ | refine RowN.row1 (by first | omega | (show _ = _ + 1; omega)) ?_ | refine RowN.rowB (by first | omega | (show _ = _ + 1; omega)) ?_ | refine RowSN.row2 (by first | omega | (show _ = _ + 1; omega)) ?_ | refine RowSN.row1 (by first | omega | (show _ = _ + 1; omega)) ?_ | refine RowSN.rowB (by first | omega | (show _ = _ + 1; omega)) ?_ | refine IxN.mk _ rfl ?_ | refine shr_ok rfl rfl ?_ | refine WrapN.inU ⟨by omega, by omega⟩ ?_ | refine vv1 ?_ | refine vv2 ?_ | refine vv3 ?_ | refine vv4 ?_ | refine vv5 ?_ | refine vv6 ?_ | refine vv7 ?_ | refine vv8 ?_ | refine vv9 ?_ | refine vv10 ?_ | refine vv11 (fun hbr => ?_) (fun hbr => ?_) | refine vv12 (fun hbr => ?_) (fun hbr => ?_) | refine vv13 ?_ | refine vv14 ?_ | refine vv15 ?_ | refine vv16 ?_ | refine vv17 (fun hbr => ?_) (fun hbr => ?_) | refine vv18 ?_ | refine vv19 (fun hbr => ?_) (fun hbr => ?_) | refine vv20 ?_ | refine SlIdxN.map _ rfl (by first | assumption | omega) ?_ | refine SlIdxN.mapPred (by omega) (by omega) ?_ | refine SlIdxN.mapSucc (by omega) ?_ | refine SlIdxN.lit _ _ rfl rfl ?_ | refine SlIdxN.mapInt (by omega) (by omega) ?_ | refine IdxN.at0 _ rfl (by first | assumption | omega | (simp <;> omega)) ?_ | refine vv21 ?_ | refine RowN.map (by first | assumption | omega) ?_ | refine vv22 ?_ | refine RowSN.map (by first | assumption | omega) ?_ | refine vv23 ?_ | refine vv24 ?_ | refine vv25 ?_ | refine Need.mk (by first | assumption | omega | (simp <;> omega)) ?_ | refine DrawN.gen (by first | exact tryd_ok _ | exact tryd_okm _ _) (by kernel_rfl) ?_ | refine vv26 ?_ | refine vv27 ?_ | refine vv28 ?_ | refine vv29 ?_ | refine vv30 ?_ | refine vv31 ?_ | refine vv32 ?_ | refine vv33 ?_ | refine CallN.pure (hrd) ?_ | refine GCallN.pure _ (hrd) ?_ | refine GCallN.ef (hrd) ?_) <;> (conv => whnf)))
    exact BackN2.mk (k + 1) (bs ++ [decide (z % 2 = 1)]) ⟨by omega, by simp; omega⟩ (by omega) (Reabs.frmM [0, 1, 3] (by repeat (first | exact trivial | refine ⟨.inr ⟨rfl, rfl⟩, ?_⟩ | refine ⟨.inr ⟨rfl, vi_eq (by first | omega | (simp; done) | (simp; omega))⟩, ?_⟩ | refine ⟨.inr ⟨rfl, smE rfl (by first | omega | (simp; done) | (simp; omega))⟩, ?_⟩)) (by exact ⟨⟨_, rfl, blkDeep rfl (deepLit rfl), fun _ => rfl⟩, ⟨_, rfl, blkDeep rfl (deepLit rfl), fun _ => rfl⟩, ⟨_, rfl, blkDeep (by rw [List.map_append]; rfl) (deepMap (fun _ => rfl)), fun _ => rfl⟩, trivial⟩) rfl rfl)
  obtain rfl : k = dN l := by omega
  have hdc := decide_good u false l bs h2 hbl
  have hcc := checkRounds_dec h2 bs
  have hCl := decideL_length (l.map loose) bs
  rw [List.length_map] at hCl
  have hCo := decideL_ok (loose_ok b2) bs
  have hco := season_cost (ps := ps) (l := l.map loose) (lo := s.lo) c2 (loose_ok b2) hs.2.1.1 bs (s.hi - s.lo + 1).toNat (by omega)
  have hlo := sumTo_le (f := outLo ps l) (g := fun n => gN ps (l.map loose) n (trueN n (l.map loose) bs)) (lo := s.lo) (s.hi - s.lo + 1).toNat (fun j _ => by
    simp only [gN_loose, loose_trueN]
    exact minTo_le _ _ _ (trueN_le _ _ _))
  have hhi := sumTo_le (f := fun n => gN ps (l.map loose) n (trueN n (l.map loose) bs)) (g := outHi ps l) (lo := s.lo) (s.hi - s.lo + 1).toNat (fun j _ => by
    simp only [gN_loose, loose_trueN]
    exact maxTo_ge _ _ _ (trueN_le _ _ _))
  rw [← hco] at hlo hhi
  generalize decideL (l.map loose) bs = C at *
  have hac : askedErr ps C s = 0 := by
    unfold askedErr
    rw [if_neg (by simpa using h1), if_neg (by simpa using hcc)]
    exact h3
  have hse := Season_good t false ps C s hmax (by omega) hac
  have ml := seasonOf_len2 c2 hCo h3
  have mm := seasonOf_mem c2 hCo h3
  have hc1 := checkPost_good (fun x hx => (mm x hx).1) (by omega)
  have hb := balance_good false _ (-1) hc1 (.inl rfl) (fun x hx => (mm x hx).1) (by omega)
  change _ ≤ -(bal (seasonOf ps C s) (-1)) at hlo
  change -(bal (seasonOf ps C s) (-1)) ≤ _ at hhi
  generalize seasonOf ps C s = Q at *
  generalize bal Q (-1) = B at *
  generalize sumTo (outLo ps l) s.lo (s.hi - s.lo + 1).toNat = LO at *
  generalize sumTo (outHi ps l) s.lo (s.hi - s.lo + 1).toNat = HI at *
  have hB : -1200000000 ≤ B ∧ B ≤ 1200000000 := by omega
  clear hf ml hs hCl h40 hdl
  ((conv => whnf); repeat' ((first | refine vv1 ?_ | refine vv2 ?_ | refine vv3 ?_ | refine vv4 ?_ | refine vv5 ?_ | refine vv6 ?_ | refine vv7 ?_ | refine vv8 ?_ | refine vv9 ?_ | refine vv10 ?_ | refine vv11 (fun hbr => ?_) (fun hbr => ?_) | refine vv12 (fun hbr => ?_) (fun hbr => ?_) | refine vv13 ?_ | refine vv14 ?_ | refine vv15 ?_ | refine vv16 ?_ | refine vv17 (fun hbr => ?_) (fun hbr => ?_) | refine vv18 ?_ | refine vv19 (fun hbr => ?_) (fun hbr => ?_) | refine vv20 ?_ | refine SlIdxN.map _ rfl (by first | assumption | omega) ?_ | refine SlIdxN.mapPred (by omega) (by omega) ?_ | refine SlIdxN.mapSucc (by omega) ?_ | refine SlIdxN.lit _ _ rfl rfl ?_ | refine SlIdxN.mapInt (by omega) (by omega) ?_ | refine IdxN.at0 _ rfl (by first | assumption | omega | (simp <;> omega)) ?_ | refine vv21 ?_ | refine RowN.map (by first | assumption | omega) ?_ | refine vv22 ?_ | refine RowSN.map (by first | assumption | omega) ?_ | refine vv23 ?_ | refine vv24 ?_ | refine vv25 ?_ | refine Need.mk (by first | assumption | omega | (simp <;> omega)) ?_ | refine DrawN.gen (by first | exact tryd_ok _ | exact tryd_okm _ _) (by kernel_rfl) ?_ | refine vv26 ?_ | refine vv27 ?_ | refine vv28 ?_ | refine vv29 ?_ | refine vv30 ?_ | refine vv31 ?_ | refine vv32 ?_ | refine vv33 ?_ | refine CallN.pure (hrd) ?_ | refine GCallN.pure _ (hrd) ?_ | refine GCallN.ef (hrd) ?_) <;> (conv => whnf)))
  refine CallN.frz 2 _ 4 rfl (deepR (fun _ => rfl)) ?_
  show CallN _ _ [rounds u l, (AV.sm 2 1 0 (dN l)).frz0 2 _] _ _
  rw [frz_all (by simp [hbl])]
  refine CallN.pure hdc ?_
  ((conv => whnf); repeat' ((first | refine CallN.pure hse ?_ | refine CallN.pure hb ?_ | refine RowN.row2 (by first | omega | (show _ = _ + 1; omega)) ?_ | refine RowN.row1 (by first | omega | (show _ = _ + 1; omega)) ?_ | refine RowN.rowB (by first | omega | (show _ = _ + 1; omega)) ?_ | refine RowSN.row2 (by first | omega | (show _ = _ + 1; omega)) ?_ | refine RowSN.row1 (by first | omega | (show _ = _ + 1; omega)) ?_ | refine RowSN.rowB (by first | omega | (show _ = _ + 1; omega)) ?_ | refine IxN.mk _ rfl ?_ | refine shr_ok rfl rfl ?_ | refine WrapN.inU ⟨by omega, by omega⟩ ?_ | refine vv1 ?_ | refine vv2 ?_ | refine vv3 ?_ | refine vv4 ?_ | refine vv5 ?_ | refine vv6 ?_ | refine vv7 ?_ | refine vv8 ?_ | refine vv9 ?_ | refine vv10 ?_ | refine vv11 (fun hbr => ?_) (fun hbr => ?_) | refine vv12 (fun hbr => ?_) (fun hbr => ?_) | refine vv13 ?_ | refine vv14 ?_ | refine vv15 ?_ | refine vv16 ?_ | refine vv17 (fun hbr => ?_) (fun hbr => ?_) | refine vv18 ?_ | refine vv19 (fun hbr => ?_) (fun hbr => ?_) | refine vv20 ?_ | refine SlIdxN.map _ rfl (by first | assumption | omega) ?_ | refine SlIdxN.mapPred (by omega) (by omega) ?_ | refine SlIdxN.mapSucc (by omega) ?_ | refine SlIdxN.lit _ _ rfl rfl ?_ | refine SlIdxN.mapInt (by omega) (by omega) ?_ | refine IdxN.at0 _ rfl (by first | assumption | omega | (simp <;> omega)) ?_ | refine vv21 ?_ | refine RowN.map (by first | assumption | omega) ?_ | refine vv22 ?_ | refine RowSN.map (by first | assumption | omega) ?_ | refine vv23 ?_ | refine vv24 ?_ | refine vv25 ?_ | refine Need.mk (by first | assumption | omega | (simp <;> omega)) ?_ | refine DrawN.gen (by first | exact tryd_ok _ | exact tryd_okm _ _) (by kernel_rfl) ?_ | refine vv26 ?_ | refine vv27 ?_ | refine vv28 ?_ | refine vv29 ?_ | refine vv30 ?_ | refine vv31 ?_ | refine vv32 ?_ | refine vv33 ?_ | refine CallN.pure (sane_ok) ?_ | refine CallN.pure (ht1) ?_ | refine CallN.pure (ht2) ?_ | refine GCallN.pure _ (sane_ok) ?_ | refine GCallN.pure _ (ht1) ?_ | refine GCallN.pure _ (ht2) ?_ | refine GCallN.ef (sane_ok) ?_ | refine GCallN.ef (ht1) ?_ | refine GCallN.ef (ht2) ?_) <;> (conv => whnf)))
  all_goals first
    | exact DoneN.pure rfl
    | (refine DoneN.pure ?_; simp; done)
    | trace_state
end Go.Proofs.Ax
