import Derived.Test.YtdfgphfijfocoaaGreatDoorRzDif
import Derived.Test.YtdfgphfijfocoaaGreatDoorRbNi
import Derived.Test.YtdfgphfijfocoaaGreatDoorRbQ
import Derived.Test.YtdfgphfijfocoaaGreatDoorNtA
import Derived.Test.YtdfgphfijfocoaaGreatDoorRbCo
namespace Go.Proofs.Ax
open Go Go.Proofs
set_option maxRecDepth 10000
set_option maxHeartbeats 4000000
theorem cloneR_ef (t : Bool) (l : List Round) (hmax : l.length ≤ 1000000) : Ef Tryz.prog G1 55 [rounds t l] [] fun y H' => y = .sm 0 4 0 l.length ∧ H' = [.rows (l.map Round.enc) 87] := by
  refine Ef.reabs ?_
  by_cases hl : l = []
  · subst hl
    refine Ef.mt 0 4 t rfl ?_ ?_
    · refine Ef.of_ev (T := Tryz.tab) (n := 8) (tryd_okg 0 _) rfl Tryz.func55 rfl rfl (by simp) ?_
      (conv => whnf)
      refine StepN.mk (.sc (.bool true)) [] (by kernel_rfl) ?_
      ((conv => whnf); repeat' ((first | refine vv1 ?_) <;> (conv => whnf)))
      refine ⟨⟨_, [.rows [] 87], ?_, rfl, rfl⟩⟩
      exact Reabs.virt 0 4 87 rfl
    · refine Ef.of_ev (T := Tryz.tab) (n := 8) (tryd_okg 0 _) rfl Tryz.func55 rfl rfl (by simp) ?_
      (conv => whnf)
      refine StepN.mk (.sc (.bool false)) [] (by kernel_rfl) ?_
      ((conv => whnf); repeat' ((first | refine Need.mk (.inl rfl) ?_ | refine AppN.len 0 (by first | omega | (simp; done) | (simp; omega)) (by first | omega | (simp; done) | (simp; omega)) (by first | omega | (simp; done) | (simp; omega)) ?_ | refine vv2 ?_) <;> (conv => whnf)))
      refine ⟨⟨_, [.rows [] 87], ?_, rfl, rfl⟩⟩
      exact Reabs.frmM [0] (by repeat (first | exact trivial | refine ⟨.inr ⟨rfl, rfl⟩, ?_⟩ | refine ⟨.inr ⟨rfl, vi_eq (by first | omega | (simp; done) | (simp; omega))⟩, ?_⟩ | refine ⟨.inr ⟨rfl, smE rfl (by first | omega | (simp; done) | (simp; omega))⟩, ?_⟩)) (by repeat (first | exact trivial | refine ⟨⟨_, rfl, (by first | exact blkDead | exact blkDeep rfl (deepLit rfl) | exact blkDeep rfl (deepMap (fun _ => rfl)) | exact blkOk rfl rfl | exact blkLoop rfl rfl), (by first | exact fun _ => rfl | exact fun h => (by cases h))⟩, ?_⟩)) rfl rfl
  · obtain ⟨x, l, rfl⟩ := List.exists_cons_of_ne_nil hl
    have hm : l.length + 1 ≤ 1000000 := by simpa using hmax
    refine Ef.of_ev (T := Tryz.tab) (n := 8) (tryd_okg 0 _) rfl Tryz.func55 rfl rfl (by simp) ?_
    (conv => whnf)
    refine StepN.mk (.sc (.bool false)) [] (by kernel_rfl) ?_
    ((conv => whnf); repeat' ((first | refine AppN.len (l.length + 1) (by first | omega | (simp; done) | (simp; omega)) (by first | omega | (simp; done) | (simp; omega)) (by first | omega | (simp; done) | (simp; omega)) ?_ | refine vv2 ?_ | refine Need.mk (by first | assumption | omega | (simp <;> omega)) ?_) <;> (conv => whnf)))
    refine ⟨⟨_, [.rows ((x :: l).map Round.enc) 87], ?_, rfl, rfl⟩⟩
    exact Reabs.frmM [0] (by repeat (first | exact trivial | refine ⟨.inr ⟨rfl, rfl⟩, ?_⟩ | refine ⟨.inr ⟨rfl, vi_eq (by first | omega | (simp; done) | (simp; omega))⟩, ?_⟩ | refine ⟨.inr ⟨rfl, smE rfl (by first | omega | (simp; done) | (simp; omega))⟩, ?_⟩)) (by exact ⟨⟨_, rfl, blkDeep rfl (deepMap (fun _ => rfl)), fun _ => rfl⟩, trivial⟩) rfl rfl
theorem cloneR_in (l : List Round) (w : Nat) (hmax : l.length ≤ 1000000) (H : AH) (n m : Nat) (hn : H.length = n) (hm : m = (l.take w).length) : Ef Tryz.prog G1 55 [.sl 4 false (List.take w (List.map Round.enc l))] H fun y H' => y = .sm n 4 0 m ∧ H' = H ++ [.rows ((l.take w).map Round.enc) 87] := by
  subst hn; subst hm
  rw [← List.map_take]
  refine Ef.subD (cloneR_ef false (l.take w) (by rw [List.length_take]; omega)) rfl (by simp) ⟨okDeep (deepR (fun _ => rfl)) _, trivial⟩ [] (by simp) trivial rfl (fun x hx => by rw [List.mem_singleton.1 hx]; rfl) ?_ ?_
  · simp [AV.ren, AV.ren0, tau]
  · simp only [setIds, List.drop_nil, List.length_nil, List.drop_zero, List.map_cons, List.map_nil]
    rw [ren_deepB (deepR (fun _ => rfl))]
def lessR (l : List Round) (w : Nat) : List Round := l.take w ++ l.drop (w + 1)
theorem lessR_len {l : List Round} {w : Nat} (h : w < l.length) : (lessR l w).length + 1 = l.length := by
  rw [lessR, List.length_append, List.length_take, List.length_drop]; omega
theorem lessR_mem {l : List Round} {w : Nat} {r : Round} (h : r ∈ lessR l w) : r ∈ l := by
  rcases List.mem_append.1 h with h | h
  · exact List.mem_of_mem_take h
  · exact List.mem_of_mem_drop h
def restsOf (ps : List Policy) (l : List Round) (s : Span) (w : Nat) : List (Int × Int) := differ (seasonOf ps l s) (seasonOf ps (lessR l w) s)
theorem lessR_rows (l : List Round) (w : Nat) : List.map Round.enc (List.take w l) ++ List.drop (w + 1) (List.map Round.enc l) = (lessR l w).map Round.enc := by
  rw [lessR, List.map_append, List.map_drop]
theorem frz_less (l : List Round) (i n : Nat) (hn : n = l.length) : (AV.sm i 4 0 n).frz0 i (l.map Round.enc) = rounds false l := frz_all (by rw [List.length_map, hn])
theorem rests_good (t u : Bool) (ps : List Policy) (l : List Round) (s : Span) (w : Nat) (hmax : ps.length ≤ 9223372036854775807) (ha : askedErr ps l s = 0) (hw : w < l.length) : Pu Tryz.prog G1 15 [policies t ps, rounds u l, .agg s.enc, vi w] (.tuple [nms false (restsOf ps l s w), vi 0]) := by
  obtain ⟨h1, h2, h3⟩ := askedErr_0 ha
  obtain ⟨c1, c2⟩ := checkPol_0 h1
  obtain ⟨b1, b2⟩ := checkRounds_0 h2
  have hask := asked_ok t u ps l s hmax (by omega)
  rw [ha] at hask
  have hll := lessR_len hw
  have hs1 := season_ok t u ps l s c2 b2 c1 b1 h3
  have hs2 := season_ok t false ps (lessR l w) s c2 (fun r hr => b2 r (lessR_mem hr)) c1 (by omega) h3
  have m1 := seasonOf_len2 c2 b2 h3
  have m2 := seasonOf_len2 (l := lessR l w) c2 (fun r hr => b2 r (lessR_mem hr)) h3
  have k1 := seasonOf_mem c2 b2 h3
  have k2 := seasonOf_mem (l := lessR l w) c2 (fun r hr => b2 r (lessR_mem hr)) h3
  have hd := differing_ok false false (seasonOf ps l s) (seasonOf ps (lessR l w) s) (by omega) (by omega) (fun p hp => (k1 p hp).1) (fun p hp => (k2 p hp).1)
  have hcl := cloneR_in l w (by omega) [.rows [s.enc] 25] 1 w rfl (by rw [List.length_take]; omega)
  have hdl := differ_len (seasonOf ps l s) (seasonOf ps (lessR l w) s)
  have hrw := lessR_rows l w
  refine Pu.of_ev (T := Tryz.tab) (n := 63) (tryd_ok _) Tryz.func15 rfl rfl rfl (by first | rfl | (split <;> rfl)) (by simp) ?_
  ((conv => whnf); repeat' ((first | refine GCallN.ef hcl ?_ | refine AppN.len (lessR l w).length (by first | omega | (simp; done) | (simp; omega)) (by first | omega | (simp; done) | (simp; omega)) (by first | omega | (simp; done) | (simp; omega)) ?_ | refine DrawN.re (Reabs.trans (Reabs.frz 2 ((lessR l w).map Round.enc) 87 (by exact congrArg (fun r => some (ABlk.rows r 87)) hrw) (deepR (fun _ => rfl))) (Reabs.frmM (r := [(0, policies t ps), (1, rounds u l), (6, .pm 0 0 0), (11, rounds false (lessR l w)), (12, .sc (.slice none 0 0))]) (H' := [.rows [s.enc] 25]) [0] (by exact ⟨.inr ⟨rfl, rfl⟩, .inr ⟨rfl, rfl⟩, .inr ⟨rfl, rfl⟩, .inr ⟨rfl, frz_less _ 2 _ rfl⟩, .inr ⟨rfl, rfl⟩, trivial⟩) (by exact ⟨⟨_, rfl, blkDeep rfl (deepLit rfl), fun _ => rfl⟩, trivial⟩) rfl rfl)) ?_ | refine vv2 ?_ | refine vv8 ?_ | refine vv20 ?_ | refine IdxN.at0 _ rfl (by first | assumption | omega | (simp <;> omega)) ?_ | refine vv21 ?_ | refine vv23 ?_ | refine vv25 ?_ | refine DrawN.gen (by first | exact tryd_ok _ | exact tryd_okm _ _) (by kernel_rfl) ?_ | refine vv31 ?_ | refine CallN.pure (hask) ?_ | refine GCallN.pure _ (hs1) ?_ | refine GCallN.pure _ (hs2) ?_ | refine GCallN.pure _ (hd) ?_) <;> (conv => whnf)))
  show LoopN _ _ _ _ _
  generalize hD : differ (seasonOf ps l s) (seasonOf ps (lessR l w) s) = D at *
  have hDl : D.length ≤ 10000 := by omega
  have hR : restsOf ps l s w = D := hD
  rw [hR]
  refine LoopN.of (tryd_okg 0 _) (fun (k : Nat) => [(12, .sm 0 2 0 k), (47, names false D), (48, vi D.length), (49, vi k)]) (fun k => [.rows ((D.take k).map nmRow) 93]) (fun k => D.length - k) (fun k => k ≤ D.length) 0 (Nat.zero_le _)
    ((Reabs.virt 12 2 93 rfl).trans (Reabs.frmM [1] (by repeat (first | exact trivial | refine ⟨.inr ⟨rfl, rfl⟩, ?_⟩ | refine ⟨.inr ⟨rfl, vi_eq (by first | omega | (simp; done) | (simp; omega))⟩, ?_⟩ | refine ⟨.inr ⟨rfl, smE rfl (by first | omega | (simp; done) | (simp; omega))⟩, ?_⟩)) (by exact ⟨⟨_, rfl, blkDeep rfl (deepLit rfl), fun _ => rfl⟩, trivial⟩) rfl rfl)) ?_
  intro k hk
  by_cases hlt : k < D.length
  · ((conv => whnf); repeat' ((first | refine AppN.len (k + 1) (by first | omega | (simp; done) | (simp; omega)) (by first | omega | (simp; done) | (simp; omega)) (by first | omega | (simp; done) | (simp; omega)) ?_ | refine vv7 ?_ | refine vv20 ?_ | refine SlIdxN.map _ rfl (by first | assumption | omega) ?_ | refine vv21 ?_ | refine vv22 ?_ | refine vv31 ?_) <;> (conv => whnf)))
    refine BackN.mk (k + 1) (by omega) (by omega) (Reabs.frmM [2] (by repeat (first | exact trivial | refine ⟨.inr ⟨rfl, rfl⟩, ?_⟩ | refine ⟨.inr ⟨rfl, vi_eq (by first | omega | (simp; done) | (simp; omega))⟩, ?_⟩ | refine ⟨.inr ⟨rfl, smE rfl (by first | omega | (simp; done) | (simp; omega))⟩, ?_⟩)) ?_ rfl rfl)
    exact ⟨⟨_, rfl, blkDeep (by rw [take_succ_snoc hlt, List.map_append]; rfl) (deepMap (fun _ => rfl)), fun _ => rfl⟩, trivial⟩
  · ((conv => whnf); repeat' ((first | refine vv8 ?_) <;> (conv => whnf)))
    obtain rfl : k = D.length := by omega
    refine DoneN.frz 0 _ 93 rfl (deepR (fun _ => rfl)) (DoneN.pure ?_)
    show AV.tuple [(AV.sm 0 2 0 _).frz0 0 _, _] = _
    rw [List.take_length, frz_all (by simp)]
    rfl
theorem rests_err (t u : Bool) (ps : List Policy) (l : List Round) (s : Span) (w : Int) (hmax : ps.length ≤ 9223372036854775807) (hmax' : l.length ≤ 9223372036854775807) (ha : askedErr ps l s ≠ 0) : Pu Tryz.prog G1 15 [policies t ps, rounds u l, .agg s.enc, vi w] (.tuple [.sc (.slice none 0 0), vi (askedErr ps l s)]) := by
  have hask := asked_ok t u ps l s hmax hmax'
  refine Pu.of_ev (T := Tryz.tab) (n := 63) (tryd_ok _) Tryz.func15 rfl rfl rfl (by first | rfl | (split <;> rfl)) (by simp) ?_
  ((conv => whnf); repeat' ((first | refine vv6 ?_ | refine vv21 ?_ | refine CallN.pure (hask) ?_) <;> (conv => whnf)))
  all_goals first
    | exact DoneN.pure rfl
    | (exfalso; exact ha (by assumption))
theorem rests_out (t u : Bool) (ps : List Policy) (l : List Round) (s : Span) (w : Int) (hmax : ps.length ≤ 9223372036854775807) (hmax' : l.length ≤ 9223372036854775807) (ha : askedErr ps l s = 0) (hw : ¬ (0 ≤ w ∧ w < l.length)) : Pu Tryz.prog G1 15 [policies t ps, rounds u l, .agg s.enc, vi w] (.tuple [.sc (.slice none 0 0), vi 1]) := by
  have hask := asked_ok t u ps l s hmax hmax'
  rw [ha] at hask
  refine Pu.of_ev (T := Tryz.tab) (n := 63) (tryd_ok _) Tryz.func15 rfl rfl rfl (by first | rfl | (split <;> rfl)) (by simp) ?_
  ((conv => whnf); repeat' ((first | refine vv1 ?_ | refine vv2 ?_ | refine vv3 ?_ | refine vv4 ?_ | refine vv7 ?_ | refine vv11 (fun hbr => ?_) (fun hbr => ?_) | refine vv21 ?_ | refine vv23 ?_ | refine CallN.pure (hask) ?_) <;> (conv => whnf)))
  all_goals first
    | exact DoneN.pure rfl
    | (exfalso; exact hw ⟨by omega, by omega⟩)
theorem rrests_ok (t u : Bool) (ps : List Policy) (l : List Round) (s : Span) (w : Nat) (ha : askedErr ps l s = 0) (hw : w < l.length) : Pu Tryz.prog G1 19 [policies t ps, rounds u l, .agg s.enc, vi w] (nms false (restsOf ps l s w)) := by
  obtain ⟨h1, h2, h3⟩ := askedErr_0 ha
  obtain ⟨c1, c2⟩ := checkPol_0 h1
  obtain ⟨b1, b2⟩ := checkRounds_0 h2
  have hll := lessR_len hw
  have hs1 := rseason_ok t u ps l s c2 b2 c1 b1 h3
  have hs2 := rseason_ok t false ps (lessR l w) s c2 (fun r hr => b2 r (lessR_mem hr)) c1 (by omega) h3
  have m1 := seasonOf_len2 c2 b2 h3
  have m2 := seasonOf_len2 (l := lessR l w) c2 (fun r hr => b2 r (lessR_mem hr)) h3
  have k1 := seasonOf_mem c2 b2 h3
  have k2 := seasonOf_mem (l := lessR l w) c2 (fun r hr => b2 r (lessR_mem hr)) h3
  have hd := rdiffer_ok false false (seasonOf ps l s) (seasonOf ps (lessR l w) s) (fun p hp => (k1 p hp).1) (fun p hp => (k2 p hp).1) (by omega) (by omega)
  rw [differR_eq (fun p hp => (k1 p hp).1) (fun p hp => (k2 p hp).1)] at hd
  have hrw : [] ++ List.take w (List.map Round.enc l) ++ List.drop (w + 1) (List.map Round.enc l) = (lessR l w).map Round.enc := by
    rw [List.nil_append, ← List.map_take]; exact lessR_rows l w
  refine Pu.of_ev (T := Tryz.tab) (n := 29) (tryd_ok _) Tryz.func19 rfl rfl rfl (by first | rfl | (split <;> rfl)) (by simp) ?_
  ((conv => whnf); repeat' ((first | refine Need.mk (.inl rfl) ?_ | refine AppN.len w (by first | omega | (simp; done) | (simp; omega)) (by first | omega | (simp; done) | (simp; omega)) (by first | omega | (simp; done) | (simp; omega)) ?_ | refine AppN.len (lessR l w).length (by first | omega | (simp; done) | (simp; omega)) (by first | omega | (simp; done) | (simp; omega)) (by first | omega | (simp; done) | (simp; omega)) ?_ | refine DrawN.re (Reabs.trans (Reabs.frz 2 ((lessR l w).map Round.enc) 87 (by exact congrArg (fun r => some (ABlk.rows r 87)) hrw) (deepR (fun _ => rfl))) (Reabs.frmM (r := [(0, policies t ps), (1, rounds u l), (6, .pm 0 0 0), (9, rounds false (lessR l w))]) (H' := [.rows [s.enc] 25]) [0] (by exact ⟨.inr ⟨rfl, rfl⟩, .inr ⟨rfl, rfl⟩, .inr ⟨rfl, rfl⟩, .inr ⟨rfl, frz_less _ 2 _ rfl⟩, trivial⟩) (by exact ⟨⟨_, rfl, blkDeep rfl (deepLit rfl), fun _ => rfl⟩, trivial⟩) rfl rfl)) ?_ | refine vv20 ?_ | refine IdxN.at0 _ rfl (by first | assumption | omega | (simp <;> omega)) ?_ | refine vv21 ?_ | refine vv25 ?_ | refine DrawN.gen (by first | exact tryd_ok _ | exact tryd_okm _ _) (by kernel_rfl) ?_ | refine vv31 ?_ | refine GCallN.pure _ (hs1) ?_ | refine GCallN.pure _ (hs2) ?_ | refine GCallN.pure _ (hd) ?_) <;> (conv => whnf)))
  exact DoneN.pure rfl
theorem ratesRests (t u : Bool) (ps : List Policy) (l : List Round) (s : Span) (w : Int) (hmax : ps.length ≤ 9223372036854775807) (hmax' : l.length ≤ 9223372036854775807) : Pu Tryz.prog G1 3 [policies t ps, rounds u l, .agg s.enc, vi w] (vb true) := by
  have hfew := few_ok t u ps l hmax hmax'
  by_cases hf : fewP ps l
  case neg =>
    rw [decide_eq_false hf] at hfew
    refine Pu.of_ev (T := Tryz.tab) (n := 66) (tryd_ok _) Tryz.func3 rfl rfl rfl (by first | rfl | (split <;> rfl)) (by simp) ?_
    ((conv => whnf); repeat' ((first | refine vv1 ?_ | refine CallN.pure (hfew) ?_ | refine CallN.pure (sane_ok) ?_) <;> (conv => whnf)))
    all_goals exact DoneN.pure rfl
  rw [decide_eq_true hf] at hfew
  have hask := rasked_ok t u ps l s hmax hmax'
  by_cases ha : askedErr ps l s = 0
  case neg =>
    have hre := rests_err t u ps l s w hmax hmax' ha
    refine Pu.of_ev (T := Tryz.tab) (n := 66) (tryd_ok _) Tryz.func3 rfl rfl rfl (by first | rfl | (split <;> rfl)) (by simp) ?_
    ((conv => whnf); repeat' ((first | refine vv1 ?_ | refine vv2 ?_ | refine vv4 ?_ | refine vv6 ?_ | refine vv7 ?_ | refine vv21 ?_ | refine CallN.pure (hfew) ?_ | refine CallN.pure (hask) ?_ | refine CallN.pure (hre) ?_ | refine CallN.pure (sane_ok) ?_) <;> (conv => whnf)))
    all_goals first
      | exact DoneN.pure rfl
      | (exfalso; exact ha (by assumption))
      | (refine DoneN.pure ?_; simp; done)
      | trace_state
  rw [ha] at hask
  by_cases hw : 0 ≤ w ∧ w < l.length
  case neg =>
    have hro := rests_out t u ps l s w hmax hmax' ha hw
    have hin := in_ok w 0 ((l.length : Int) - 1)
    rw [decide_eq_false (by omega)] at hin
    refine Pu.of_ev (T := Tryz.tab) (n := 66) (tryd_ok _) Tryz.func3 rfl rfl rfl (by first | rfl | (split <;> rfl)) (by simp) ?_
    ((conv => whnf); repeat' ((first | refine vv1 ?_ | refine vv2 ?_ | refine vv20 ?_ | refine vv21 ?_ | refine vv23 ?_ | refine CallN.pure (hfew) ?_ | refine CallN.pure (hask) ?_ | refine CallN.pure (hro) ?_ | refine CallN.pure (hin) ?_ | refine CallN.pure (sane_ok) ?_) <;> (conv => whnf)))
    all_goals first
      | exact DoneN.pure rfl
      | (refine DoneN.pure ?_; simp; done)
      | trace_state
  obtain ⟨k, rfl⟩ : ∃ k : Nat, w = (k : Int) := ⟨w.toNat, by omega⟩
  have hk : k < l.length := by omega
  have hin := in_ok (k : Int) 0 ((l.length : Int) - 1)
  rw [decide_eq_true (by omega)] at hin
  have hre := rests_good t u ps l s k hmax ha hk
  have hrr := rrests_ok t u ps l s k ha hk
  have hrl : (restsOf ps l s k).length ≤ 9223372036854775807 := by
    obtain ⟨h1, h2, h3⟩ := askedErr_0 ha
    obtain ⟨c1, c2⟩ := checkPol_0 h1
    obtain ⟨b1, b2⟩ := checkRounds_0 h2
    have m1 := seasonOf_len2 c2 b2 h3
    have m2 := seasonOf_len2 (l := lessR l k) c2 (fun r hr => b2 r (lessR_mem hr)) h3
    have hll := lessR_len hk
    have := differ_len (seasonOf ps l s) (seasonOf ps (lessR l k) s)
    unfold restsOf; omega
  have hsn := sameNames_ok false false (restsOf ps l s k) (restsOf ps l s k) hrl hrl
  rw [decide_eq_true rfl] at hsn
  refine Pu.of_ev (T := Tryz.tab) (n := 66) (tryd_ok _) Tryz.func3 rfl rfl rfl (by first | rfl | (split <;> rfl)) (by simp) ?_
  ((conv => whnf); repeat' ((first | refine vv1 ?_ | refine vv2 ?_ | refine vv20 ?_ | refine vv21 ?_ | refine vv23 ?_ | refine CallN.pure (hfew) ?_ | refine CallN.pure (hask) ?_ | refine CallN.pure (hre) ?_ | refine CallN.pure (hin) ?_ | refine CallN.pure (hrr) ?_ | refine CallN.pure (hsn) ?_ | refine CallN.pure (sane_ok) ?_) <;> (conv => whnf)))
  all_goals first
    | exact DoneN.pure rfl
    | (refine DoneN.pure ?_; simp; done)
    | trace_state
end Go.Proofs.Ax
