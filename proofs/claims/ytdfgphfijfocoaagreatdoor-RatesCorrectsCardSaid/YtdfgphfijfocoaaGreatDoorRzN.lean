import Derived.Test.YtdfgphfijfocoaaGreatDoorRzLM
namespace Go.Proofs.Ax
open Go Go.Proofs
set_option maxRecDepth 10000
set_option maxHeartbeats 4000000
abbrev hC (c : List Posting) : AH := [.rows [[.sc (.slice none 0 0), vi 0]] 70, .rows (c.map Posting.enc) 61]
theorem rcorrect_ok (t u : Bool) (a b : List Posting) (ha : ∀ p ∈ a, p.ok) (hb : ∀ p ∈ b, p.ok) (hmax : a.length ≤ 4000) (hmax' : b.length ≤ 4000) : Pu Tryz.prog G1 44 [postings t a, postings u b] (if 4000 < (correct a b).length then .agg [.sc (.slice none 0 0), vi 2] else .agg [postings false (correct a b), vi 0]) := by
  have hd := rdiffer_ok t u a b ha hb (by omega) (by omega)
  rw [differR_eq ha hb] at hd
  have hdl := differ_len a b
  have hcl := correct_len a b
  refine Pu.of_ev (T := Tryz.tab) (n := 78) (tryd_ok _) Tryz.func44 rfl rfl rfl (by first | rfl | (split <;> rfl)) (by simp) ?_
  ((conv => whnf); repeat' ((first | refine vv1 ?_ | refine vv2 ?_ | refine vv3 ?_ | refine vv4 ?_ | refine vv5 ?_ | refine vv6 ?_ | refine vv7 ?_ | refine vv8 ?_ | refine vv9 ?_ | refine vv10 ?_ | refine vv11 (fun hbr => ?_) (fun hbr => ?_) | refine vv12 (fun hbr => ?_) (fun hbr => ?_) | refine vv13 ?_ | refine vv14 ?_ | refine vv15 ?_ | refine vv16 ?_ | refine vv17 (fun hbr => ?_) (fun hbr => ?_) | refine vv18 ?_ | refine vv19 (fun hbr => ?_) (fun hbr => ?_) | refine vv20 ?_ | refine SlIdxN.map _ rfl (by first | assumption | omega) ?_ | refine SlIdxN.mapPred (by omega) (by omega) ?_ | refine SlIdxN.mapSucc (by omega) ?_ | refine SlIdxN.lit _ _ rfl rfl ?_ | refine SlIdxN.mapInt (by omega) (by omega) ?_ | refine IdxN.at0 _ rfl (by first | assumption | omega | (simp <;> omega)) ?_ | refine vv21 ?_ | refine RowN.map (by first | assumption | omega) ?_ | refine vv22 ?_ | refine RowSN.map (by first | assumption | omega) ?_ | refine vv23 ?_ | refine vv24 ?_ | refine vv25 ?_ | refine Need.mk (by first | assumption | omega | (simp <;> omega)) ?_ | refine DrawN.gen (by first | exact tryd_ok _ | exact tryd_okm _ _) (by kernel_rfl) ?_ | refine vv26 ?_ | refine vv27 ?_ | refine vv28 ?_ | refine vv29 ?_ | refine vv30 ?_ | refine vv31 ?_ | refine vv32 ?_ | refine vv33 ?_ | refine CallN.pure (hd) ?_ | refine GCallN.pure _ (hd) ?_ | refine GCallN.ef (hd) ?_) <;> (conv => whnf)))
  refine LoopN.of (tryd_okg 0 _) (fun (k : Nat) => [(0, postings t a), (1, postings u b), (4, .pm 0 0 0), (5, nms false (differ a b)), (6, .sm 1 5 0 (corrOf a b ((differ a b).take k)).length), (7, vi k)]) (fun k => hC (corrOf a b ((differ a b).take k))) (fun k => (differ a b).length - k) (fun k => k ≤ (differ a b).length) 0 (Nat.zero_le _)
    ((Reabs.virt 6 5 61 rfl).trans (Reabs.frmM [0, 1] (by repeat (first | exact trivial | refine ⟨.inr ⟨rfl, rfl⟩, ?_⟩ | refine ⟨.inr ⟨rfl, vi_eq (by first | omega | (simp; done) | (simp; omega))⟩, ?_⟩ | refine ⟨.inr ⟨rfl, smE rfl (by first | omega | (simp; done) | (simp; omega))⟩, ?_⟩)) (by exact ⟨⟨_, rfl, blkDeep rfl (deepLit rfl), fun _ => rfl⟩, ⟨_, rfl, blkDeep rfl (deepMap (fun _ => rfl)), fun _ => rfl⟩, trivial⟩) rfl rfl)) ?_
  intro k hk
  have hcb := corr_take_len a b k
  by_cases hlt : k < (differ a b).length
  · have hcs : corrOf a b ((differ a b).take (k + 1)) = (corrOf a b ((differ a b).take k) ++ (grp a (differ a b)[k]).map swapP) ++ grp b (differ a b)[k] := by
      rw [take_succ_snoc hlt, corrOf, List.flatMap_append, List.flatMap_cons, List.flatMap_nil, List.append_nil, List.append_assoc]
      rfl
    have hga := grp_len a (differ a b)[k]
    have hgb := grp_len b (differ a b)[k]
    have g1 : Pu Tryz.prog G1 86 [postings t a, vi (differ a b)[k].1, vi (differ a b)[k].2] (postings false (grp a (differ a b)[k])) := group_ok t a _ _ (by omega)
    have g2 : Pu Tryz.prog G1 86 [postings u b, vi (differ a b)[k].1, vi (differ a b)[k].2] (postings false (grp b (differ a b)[k])) := group_ok u b _ _ (by omega)
    ((conv => whnf); repeat' ((first | refine vv1 ?_ | refine vv2 ?_ | refine vv3 ?_ | refine vv4 ?_ | refine vv5 ?_ | refine vv6 ?_ | refine vv7 ?_ | refine vv8 ?_ | refine vv9 ?_ | refine vv10 ?_ | refine vv11 (fun hbr => ?_) (fun hbr => ?_) | refine vv12 (fun hbr => ?_) (fun hbr => ?_) | refine vv13 ?_ | refine vv14 ?_ | refine vv15 ?_ | refine vv16 ?_ | refine vv17 (fun hbr => ?_) (fun hbr => ?_) | refine vv18 ?_ | refine vv19 (fun hbr => ?_) (fun hbr => ?_) | refine vv20 ?_ | refine SlIdxN.map _ rfl (by first | assumption | omega) ?_ | refine SlIdxN.mapPred (by omega) (by omega) ?_ | refine SlIdxN.mapSucc (by omega) ?_ | refine SlIdxN.lit _ _ rfl rfl ?_ | refine SlIdxN.mapInt (by omega) (by omega) ?_ | refine IdxN.at0 _ rfl (by first | assumption | omega | (simp <;> omega)) ?_ | refine vv21 ?_ | refine RowN.map (by first | assumption | omega) ?_ | refine vv22 ?_ | refine RowSN.map (by first | assumption | omega) ?_ | refine vv23 ?_ | refine vv24 ?_ | refine vv25 ?_ | refine Need.mk (by first | assumption | omega | (simp <;> omega)) ?_ | refine DrawN.gen (by first | exact tryd_ok _ | exact tryd_okm _ _) (by kernel_rfl) ?_ | refine vv26 ?_ | refine vv27 ?_ | refine vv28 ?_ | refine vv29 ?_ | refine vv30 ?_ | refine vv31 ?_ | refine vv32 ?_ | refine vv33 ?_ | refine CallN.pure (g1) ?_ | refine GCallN.pure _ (g1) ?_ | refine GCallN.ef (g1) ?_) <;> (conv => whnf)))
    generalize corrOf a b ((differ a b).take k) = c at *
    generalize grp a (differ a b)[k] = G at *
    generalize grp b (differ a b)[k] = G2 at *
    refine LoopN.of (tryd_okg 0 _) (fun (j : Nat) => [(0, postings t a), (1, postings u b), (4, .pm 0 0 0), (5, nms false (differ a b)), (6, .sm 1 5 0 (c ++ (G.take j).map swapP).length), (7, vi k), (8, postings false G), (9, vi j)]) (fun j => hC (c ++ (G.take j).map swapP)) (fun j => G.length - j) (fun j => j ≤ G.length) 0 (Nat.zero_le _)
      (Reabs.frmM [0, 1] (by repeat (first | exact trivial | refine ⟨.inr ⟨rfl, rfl⟩, ?_⟩ | refine ⟨.inr ⟨rfl, vi_eq (by first | omega | (simp; done) | (simp; omega))⟩, ?_⟩ | refine ⟨.inr ⟨rfl, smE rfl (by first | omega | (simp; done) | (simp; omega))⟩, ?_⟩)) (by exact ⟨⟨_, rfl, blkDeep rfl (deepLit rfl), fun _ => rfl⟩, ⟨_, rfl, blkDeep (by simp) (deepMap (fun _ => rfl)), fun _ => rfl⟩, trivial⟩) rfl rfl) ?_
    intro j hj
    have hcj : (c ++ (G.take j).map swapP).length ≤ 20000 := by
      rw [List.length_append, List.length_map, List.length_take]; omega
    by_cases hjl : j < G.length
    · have hjs : c ++ (G.take (j + 1)).map swapP = (c ++ (G.take j).map swapP) ++ [swapP G[j]] := by
        rw [take_succ_snoc hjl, List.map_append, List.append_assoc]; rfl
      generalize c ++ (G.take j).map swapP = cj at *
      ((conv => whnf); repeat' ((first | refine AppN.len (cj.length + 1) (by first | omega | (simp; done) | (simp; omega)) (by first | omega | (simp; done) | (simp; omega)) (by first | omega | (simp; done) | (simp; omega)) ?_ | refine RowN.row2 (by first | omega | (show _ = _ + 1; omega)) ?_ | refine RowN.row1 (by first | omega | (show _ = _ + 1; omega)) ?_ | refine RowN.rowB (by first | omega | (show _ = _ + 1; omega)) ?_ | refine RowSN.row2 (by first | omega | (show _ = _ + 1; omega)) ?_ | refine RowSN.row1 (by first | omega | (show _ = _ + 1; omega)) ?_ | refine RowSN.rowB (by first | omega | (show _ = _ + 1; omega)) ?_ | refine IxN.mk _ rfl ?_ | refine shr_ok rfl rfl ?_ | refine WrapN.inU ⟨by omega, by omega⟩ ?_ | refine vv1 ?_ | refine vv2 ?_ | refine vv3 ?_ | refine vv4 ?_ | refine vv5 ?_ | refine vv6 ?_ | refine vv7 ?_ | refine vv8 ?_ | refine vv9 ?_ | refine vv10 ?_ | refine vv11 (fun hbr => ?_) (fun hbr => ?_) | refine vv12 (fun hbr => ?_) (fun hbr => ?_) | refine vv13 ?_ | refine vv14 ?_ | refine vv15 ?_ | refine vv16 ?_ | refine vv17 (fun hbr => ?_) (fun hbr => ?_) | refine vv18 ?_ | refine vv19 (fun hbr => ?_) (fun hbr => ?_) | refine vv20 ?_ | refine SlIdxN.map _ rfl (by first | assumption | omega) ?_ | refine SlIdxN.mapPred (by omega) (by omega) ?_ | refine SlIdxN.mapSucc (by omega) ?_ | refine SlIdxN.lit _ _ rfl rfl ?_ | refine SlIdxN.mapInt (by omega) (by omega) ?_ | refine IdxN.at0 _ rfl (by first | assumption | omega | (simp <;> omega)) ?_ | refine vv21 ?_ | refine RowN.map (by first | assumption | omega) ?_ | refine vv22 ?_ | refine RowSN.map (by first | assumption | omega) ?_ | refine vv23 ?_ | refine vv24 ?_ | refine vv25 ?_ | refine Need.mk (by first | assumption | omega | (simp <;> omega)) ?_ | refine DrawN.gen (by first | exact tryd_ok _ | exact tryd_okm _ _) (by kernel_rfl) ?_ | refine vv26 ?_ | refine vv27 ?_ | refine vv28 ?_ | refine vv29 ?_ | refine vv30 ?_ | refine vv31 ?_ | refine vv32 ?_ | refine vv33 ?_) <;> (conv => whnf)))
      refine BackN.mk (j + 1) (by omega) (by omega) ?_
      simp only [hjs]
      exact (Reabs.frmM [0, 3] (by repeat (first | exact trivial | refine ⟨.inr ⟨rfl, rfl⟩, ?_⟩ | refine ⟨.inr ⟨rfl, vi_eq (by first | omega | (simp; done) | (simp; omega))⟩, ?_⟩ | refine ⟨.inr ⟨rfl, smE rfl (by first | omega | (simp; done) | (simp; omega))⟩, ?_⟩)) (by exact ⟨⟨_, rfl, blkDeep rfl (deepLit rfl), fun _ => rfl⟩, ⟨_, rfl, blkDeep (by rw [List.map_append]; rfl) (deepMap (fun _ => rfl)), fun _ => rfl⟩, trivial⟩) rfl rfl)
    · obtain rfl : j = G.length := by omega
      rw [List.take_length] at *
      generalize c ++ G.map swapP = cj at *
      ((conv => whnf); repeat' ((first | refine AppN.maps (by first | omega | (simp; done) | (simp; omega)) (by first | omega | (simp; done) | (simp; omega)) ?_ | refine RowN.row2 (by first | omega | (show _ = _ + 1; omega)) ?_ | refine RowN.row1 (by first | omega | (show _ = _ + 1; omega)) ?_ | refine RowN.rowB (by first | omega | (show _ = _ + 1; omega)) ?_ | refine RowSN.row2 (by first | omega | (show _ = _ + 1; omega)) ?_ | refine RowSN.row1 (by first | omega | (show _ = _ + 1; omega)) ?_ | refine RowSN.rowB (by first | omega | (show _ = _ + 1; omega)) ?_ | refine IxN.mk _ rfl ?_ | refine shr_ok rfl rfl ?_ | refine WrapN.inU ⟨by omega, by omega⟩ ?_ | refine vv1 ?_ | refine vv2 ?_ | refine vv3 ?_ | refine vv4 ?_ | refine vv5 ?_ | refine vv6 ?_ | refine vv7 ?_ | refine vv8 ?_ | refine vv9 ?_ | refine vv10 ?_ | refine vv11 (fun hbr => ?_) (fun hbr => ?_) | refine vv12 (fun hbr => ?_) (fun hbr => ?_) | refine vv13 ?_ | refine vv14 ?_ | refine vv15 ?_ | refine vv16 ?_ | refine vv17 (fun hbr => ?_) (fun hbr => ?_) | refine vv18 ?_ | refine vv19 (fun hbr => ?_) (fun hbr => ?_) | refine vv20 ?_ | refine SlIdxN.map _ rfl (by first | assumption | omega) ?_ | refine SlIdxN.mapPred (by omega) (by omega) ?_ | refine SlIdxN.mapSucc (by omega) ?_ | refine SlIdxN.lit _ _ rfl rfl ?_ | refine SlIdxN.mapInt (by omega) (by omega) ?_ | refine IdxN.at0 _ rfl (by first | assumption | omega | (simp <;> omega)) ?_ | refine vv21 ?_ | refine RowN.map (by first | assumption | omega) ?_ | refine vv22 ?_ | refine RowSN.map (by first | assumption | omega) ?_ | refine vv23 ?_ | refine vv24 ?_ | refine vv25 ?_ | refine Need.mk (by first | assumption | omega | (simp <;> omega)) ?_ | refine DrawN.gen (by first | exact tryd_ok _ | exact tryd_okm _ _) (by kernel_rfl) ?_ | refine vv26 ?_ | refine vv27 ?_ | refine vv28 ?_ | refine vv29 ?_ | refine vv30 ?_ | refine vv31 ?_ | refine vv32 ?_ | refine vv33 ?_ | refine CallN.pure (g2) ?_ | refine GCallN.pure _ (g2) ?_ | refine GCallN.ef (g2) ?_) <;> (conv => whnf)))
      refine BackN.mk (k + 1) (by omega) (by omega) ?_
      simp only [hcs]
      exact (Reabs.frmM [0, 2] (by repeat (first | exact trivial | refine ⟨.inr ⟨rfl, rfl⟩, ?_⟩ | refine ⟨.inr ⟨rfl, vi_eq (by first | omega | (simp; done) | (simp; omega))⟩, ?_⟩ | refine ⟨.inr ⟨rfl, smE rfl (by first | omega | (simp; done) | (simp; omega))⟩, ?_⟩)) (by exact ⟨⟨_, rfl, blkDeep rfl (deepLit rfl), fun _ => rfl⟩, ⟨_, rfl, blkDeep rfl (deepMap (fun _ => rfl)), fun _ => rfl⟩, trivial⟩) rfl rfl)
  · obtain rfl : k = (differ a b).length := by omega
    have hcc : corrOf a b ((differ a b).take (differ a b).length) = correct a b := by rw [List.take_length]; rfl
    rw [hcc]
    generalize correct a b = c at *
    by_cases h4 : 4000 < c.length
    · rw [if_pos h4]
      ((conv => whnf); repeat' ((first | refine vv1 ?_ | refine vv2 ?_ | refine vv3 ?_ | refine vv4 ?_ | refine vv5 ?_ | refine vv6 ?_ | refine vv7 ?_ | refine vv8 ?_ | refine vv9 ?_ | refine vv10 ?_ | refine vv11 (fun hbr => ?_) (fun hbr => ?_) | refine vv12 (fun hbr => ?_) (fun hbr => ?_) | refine vv13 ?_ | refine vv14 ?_ | refine vv15 ?_ | refine vv16 ?_ | refine vv17 (fun hbr => ?_) (fun hbr => ?_) | refine vv18 ?_ | refine vv19 (fun hbr => ?_) (fun hbr => ?_) | refine vv20 ?_ | refine SlIdxN.map _ rfl (by first | assumption | omega) ?_ | refine SlIdxN.mapPred (by omega) (by omega) ?_ | refine SlIdxN.mapSucc (by omega) ?_ | refine SlIdxN.lit _ _ rfl rfl ?_ | refine SlIdxN.mapInt (by omega) (by omega) ?_ | refine IdxN.at0 _ rfl (by first | assumption | omega | (simp <;> omega)) ?_ | refine vv21 ?_ | refine RowN.map (by first | assumption | omega) ?_ | refine vv22 ?_ | refine RowSN.map (by first | assumption | omega) ?_ | refine vv23 ?_ | refine vv24 ?_ | refine vv25 ?_ | refine Need.mk (by first | assumption | omega | (simp <;> omega)) ?_ | refine DrawN.gen (by first | exact tryd_ok _ | exact tryd_okm _ _) (by kernel_rfl) ?_ | refine vv26 ?_ | refine vv27 ?_ | refine vv28 ?_ | refine vv29 ?_ | refine vv30 ?_ | refine vv31 ?_ | refine vv32 ?_ | refine vv33 ?_) <;> (conv => whnf)))
      exact DoneN.pure rfl
    · rw [if_neg h4]
      ((conv => whnf); repeat' ((first | refine vv1 ?_ | refine vv2 ?_ | refine vv3 ?_ | refine vv4 ?_ | refine vv5 ?_ | refine vv6 ?_ | refine vv7 ?_ | refine vv8 ?_ | refine vv9 ?_ | refine vv10 ?_ | refine vv11 (fun hbr => ?_) (fun hbr => ?_) | refine vv12 (fun hbr => ?_) (fun hbr => ?_) | refine vv13 ?_ | refine vv14 ?_ | refine vv15 ?_ | refine vv16 ?_ | refine vv17 (fun hbr => ?_) (fun hbr => ?_) | refine vv18 ?_ | refine vv19 (fun hbr => ?_) (fun hbr => ?_) | refine vv20 ?_ | refine SlIdxN.map _ rfl (by first | assumption | omega) ?_ | refine SlIdxN.mapPred (by omega) (by omega) ?_ | refine SlIdxN.mapSucc (by omega) ?_ | refine SlIdxN.lit _ _ rfl rfl ?_ | refine SlIdxN.mapInt (by omega) (by omega) ?_ | refine IdxN.at0 _ rfl (by first | assumption | omega | (simp <;> omega)) ?_ | refine vv21 ?_ | refine RowN.map (by first | assumption | omega) ?_ | refine vv22 ?_ | refine RowSN.map (by first | assumption | omega) ?_ | refine vv23 ?_ | refine vv24 ?_ | refine vv25 ?_ | refine Need.mk (by first | assumption | omega | (simp <;> omega)) ?_ | refine DrawN.gen (by first | exact tryd_ok _ | exact tryd_okm _ _) (by kernel_rfl) ?_ | refine vv26 ?_ | refine vv27 ?_ | refine vv28 ?_ | refine vv29 ?_ | refine vv30 ?_ | refine vv31 ?_ | refine vv32 ?_ | refine vv33 ?_) <;> (conv => whnf)))
      refine DoneN.frz 1 (c.map Posting.enc) 61 rfl (deepR (fun _ => rfl)) (DoneN.pure ?_)
      show AV.agg [(AV.sm 1 5 0 c.length).frz0 1 _, vi 0] = _
      rw [frz_all (by simp)]
      rfl
theorem movedOf_len (old now : List Posting) : (movedOf old now).length ≤ 2 * (now.length + old.length) := by
  have h1 := keepB_len (balsOf (bothL old now))
  have h2 := balsOf_len (bothL old now)
  have h3 : (bothL old now).length = now.length + old.length := by rw [bothL, List.length_append, List.length_map]
  unfold movedOf; omega
theorem ratesCorrects (t u : Bool) (a b : List Posting) (hmax : a.length ≤ 9223372036854775807) (hmax' : b.length ≤ 9223372036854775807) : Pu Tryz.prog G1 9 [postings t a, postings u b] (vb true) := by
  have hs1 := short_ok t a hmax
  have hs2 := short_ok u b hmax'
  by_cases hg : a.length ≤ 60 ∧ b.length ≤ 60
  case neg =>
    refine Pu.of_ev (T := Tryz.tab) (n := 86) (tryd_ok _) Tryz.func9 rfl rfl rfl (by first | rfl | (split <;> rfl)) (by simp) ?_
    ((conv => whnf); repeat' ((first | refine vv1 ?_ | refine vv2 ?_ | refine vv3 ?_ | refine vv4 ?_ | refine vv5 ?_ | refine vv6 ?_ | refine vv7 ?_ | refine vv8 ?_ | refine vv9 ?_ | refine vv10 ?_ | refine vv11 (fun hbr => ?_) (fun hbr => ?_) | refine vv12 (fun hbr => ?_) (fun hbr => ?_) | refine vv13 ?_ | refine vv14 ?_ | refine vv15 ?_ | refine vv16 ?_ | refine vv17 (fun hbr => ?_) (fun hbr => ?_) | refine vv18 ?_ | refine vv19 (fun hbr => ?_) (fun hbr => ?_) | refine vv20 ?_ | refine SlIdxN.map _ rfl (by first | assumption | omega) ?_ | refine SlIdxN.mapPred (by omega) (by omega) ?_ | refine SlIdxN.mapSucc (by omega) ?_ | refine SlIdxN.lit _ _ rfl rfl ?_ | refine SlIdxN.mapInt (by omega) (by omega) ?_ | refine IdxN.at0 _ rfl (by first | assumption | omega | (simp <;> omega)) ?_ | refine vv21 ?_ | refine RowN.map (by first | assumption | omega) ?_ | refine vv22 ?_ | refine RowSN.map (by first | assumption | omega) ?_ | refine vv23 ?_ | refine vv24 ?_ | refine vv25 ?_ | refine Need.mk (by first | assumption | omega | (simp <;> omega)) ?_ | refine DrawN.gen (by first | exact tryd_ok _ | exact tryd_okm _ _) (by kernel_rfl) ?_ | refine vv26 ?_ | refine vv27 ?_ | refine vv28 ?_ | refine vv29 ?_ | refine vv30 ?_ | refine vv31 ?_ | refine vv32 ?_ | refine vv33 ?_ | refine CallN.pure (hs1) ?_ | refine CallN.pure (hs2) ?_ | refine CallN.pure (sane_ok) ?_ | refine GCallN.pure _ (hs1) ?_ | refine GCallN.pure _ (hs2) ?_ | refine GCallN.pure _ (sane_ok) ?_ | refine GCallN.ef (hs1) ?_ | refine GCallN.ef (hs2) ?_ | refine GCallN.ef (sane_ok) ?_) <;> (conv => whnf)))
    all_goals first
      | exact DoneN.pure rfl
      | (exfalso; exact hg ⟨by omega, by omega⟩)
      | trace_state
  obtain ⟨l1, l2⟩ := hg
  rw [decide_eq_true (by omega)] at hs1 hs2
  have he1 := error_ok t a hmax
  have he2 := error_ok u b hmax'
  by_cases hbe : bothErr a b = 0
  case neg =>
    have hc := correct_bad t u a b hmax hmax' hbe
    have hm := moved_err t u a b hmax hmax' hbe
    unfold bothErr at hc hm hbe
    by_cases h1 : (checkPost a).1 = 0
    · rw [if_neg (by simpa using h1)] at hc hm hbe
      rw [h1] at he1
      refine Pu.of_ev (T := Tryz.tab) (n := 86) (tryd_ok _) Tryz.func9 rfl rfl rfl (by first | rfl | (split <;> rfl)) (by simp) ?_
      ((conv => whnf); repeat' ((first | refine vv1 ?_ | refine vv2 ?_ | refine vv3 ?_ | refine vv4 ?_ | refine vv5 ?_ | refine vv6 ?_ | refine vv7 ?_ | refine vv8 ?_ | refine vv9 ?_ | refine vv10 ?_ | refine vv11 (fun hbr => ?_) (fun hbr => ?_) | refine vv12 (fun hbr => ?_) (fun hbr => ?_) | refine vv13 ?_ | refine vv14 ?_ | refine vv15 ?_ | refine vv16 ?_ | refine vv17 (fun hbr => ?_) (fun hbr => ?_) | refine vv18 ?_ | refine vv19 (fun hbr => ?_) (fun hbr => ?_) | refine vv20 ?_ | refine SlIdxN.map _ rfl (by first | assumption | omega) ?_ | refine SlIdxN.mapPred (by omega) (by omega) ?_ | refine SlIdxN.mapSucc (by omega) ?_ | refine SlIdxN.lit _ _ rfl rfl ?_ | refine SlIdxN.mapInt (by omega) (by omega) ?_ | refine IdxN.at0 _ rfl (by first | assumption | omega | (simp <;> omega)) ?_ | refine vv21 ?_ | refine RowN.map (by first | assumption | omega) ?_ | refine vv22 ?_ | refine RowSN.map (by first | assumption | omega) ?_ | refine vv23 ?_ | refine vv24 ?_ | refine vv25 ?_ | refine Need.mk (by first | assumption | omega | (simp <;> omega)) ?_ | refine DrawN.gen (by first | exact tryd_ok _ | exact tryd_okm _ _) (by kernel_rfl) ?_ | refine vv26 ?_ | refine vv27 ?_ | refine vv28 ?_ | refine vv29 ?_ | refine vv30 ?_ | refine vv31 ?_ | refine vv32 ?_ | refine vv33 ?_ | refine CallN.pure (hs1) ?_ | refine CallN.pure (hs2) ?_ | refine CallN.pure (he1) ?_ | refine CallN.pure (he2) ?_ | refine CallN.pure (hc) ?_ | refine CallN.pure (hm) ?_ | refine CallN.pure (sane_ok) ?_ | refine GCallN.pure _ (hs1) ?_ | refine GCallN.pure _ (hs2) ?_ | refine GCallN.pure _ (he1) ?_ | refine GCallN.pure _ (he2) ?_ | refine GCallN.pure _ (hc) ?_ | refine GCallN.pure _ (hm) ?_ | refine GCallN.pure _ (sane_ok) ?_ | refine GCallN.ef (hs1) ?_ | refine GCallN.ef (hs2) ?_ | refine GCallN.ef (he1) ?_ | refine GCallN.ef (he2) ?_ | refine GCallN.ef (hc) ?_ | refine GCallN.ef (hm) ?_ | refine GCallN.ef (sane_ok) ?_) <;> (conv => whnf)))
      all_goals first
        | exact DoneN.pure rfl
        | (refine DoneN.pure ?_; simp; done)
        | trace_state
    · rw [if_pos h1] at hc hm hbe
      refine Pu.of_ev (T := Tryz.tab) (n := 86) (tryd_ok _) Tryz.func9 rfl rfl rfl (by first | rfl | (split <;> rfl)) (by simp) ?_
      ((conv => whnf); repeat' ((first | refine vv1 ?_ | refine vv2 ?_ | refine vv3 ?_ | refine vv4 ?_ | refine vv5 ?_ | refine vv6 ?_ | refine vv7 ?_ | refine vv8 ?_ | refine vv9 ?_ | refine vv10 ?_ | refine vv11 (fun hbr => ?_) (fun hbr => ?_) | refine vv12 (fun hbr => ?_) (fun hbr => ?_) | refine vv13 ?_ | refine vv14 ?_ | refine vv15 ?_ | refine vv16 ?_ | refine vv17 (fun hbr => ?_) (fun hbr => ?_) | refine vv18 ?_ | refine vv19 (fun hbr => ?_) (fun hbr => ?_) | refine vv20 ?_ | refine SlIdxN.map _ rfl (by first | assumption | omega) ?_ | refine SlIdxN.mapPred (by omega) (by omega) ?_ | refine SlIdxN.mapSucc (by omega) ?_ | refine SlIdxN.lit _ _ rfl rfl ?_ | refine SlIdxN.mapInt (by omega) (by omega) ?_ | refine IdxN.at0 _ rfl (by first | assumption | omega | (simp <;> omega)) ?_ | refine vv21 ?_ | refine RowN.map (by first | assumption | omega) ?_ | refine vv22 ?_ | refine RowSN.map (by first | assumption | omega) ?_ | refine vv23 ?_ | refine vv24 ?_ | refine vv25 ?_ | refine Need.mk (by first | assumption | omega | (simp <;> omega)) ?_ | refine DrawN.gen (by first | exact tryd_ok _ | exact tryd_okm _ _) (by kernel_rfl) ?_ | refine vv26 ?_ | refine vv27 ?_ | refine vv28 ?_ | refine vv29 ?_ | refine vv30 ?_ | refine vv31 ?_ | refine vv32 ?_ | refine vv33 ?_ | refine CallN.pure (hs1) ?_ | refine CallN.pure (hs2) ?_ | refine CallN.pure (he1) ?_ | refine CallN.pure (he2) ?_ | refine CallN.pure (hc) ?_ | refine CallN.pure (hm) ?_ | refine CallN.pure (sane_ok) ?_ | refine GCallN.pure _ (hs1) ?_ | refine GCallN.pure _ (hs2) ?_ | refine GCallN.pure _ (he1) ?_ | refine GCallN.pure _ (he2) ?_ | refine GCallN.pure _ (hc) ?_ | refine GCallN.pure _ (hm) ?_ | refine GCallN.pure _ (sane_ok) ?_ | refine GCallN.ef (hs1) ?_ | refine GCallN.ef (hs2) ?_ | refine GCallN.ef (he1) ?_ | refine GCallN.ef (he2) ?_ | refine GCallN.ef (hc) ?_ | refine GCallN.ef (hm) ?_ | refine GCallN.ef (sane_ok) ?_) <;> (conv => whnf)))
      all_goals first
        | exact DoneN.pure rfl
        | (refine DoneN.pure ?_; simp; done)
        | trace_state
  obtain ⟨c1, c2⟩ := bothErr_0 hbe
  obtain ⟨-, o1⟩ := checkPost_0 c1
  obtain ⟨-, o2⟩ := checkPost_0 c2
  rw [c1] at he1
  rw [c2] at he2
  have hcl := correct_len a b
  have hc := correct_good t u a b hbe
  have hr := rcorrect_ok t u a b o1 o2 (by omega) (by omega)
  rw [if_neg (by omega)] at hc hr
  have hm := moved_ok t u a b hbe
  have hrm := rmoved_ok t u a b o1 o2 (by omega) (by omega)
  have hml := movedOf_len a b
  have hsp := samePostings_ok false false (correct a b) (correct a b) (by omega) (by omega)
  rw [decide_eq_true rfl] at hsp
  have hsc := sameChanges_ok false false (movedOf a b) (movedOf a b) (by omega) (by omega)
  rw [decide_eq_true rfl] at hsc
  refine Pu.of_ev (T := Tryz.tab) (n := 86) (tryd_ok _) Tryz.func9 rfl rfl rfl (by first | rfl | (split <;> rfl)) (by simp) ?_
  ((conv => whnf); repeat' ((first | refine vv1 ?_ | refine vv2 ?_ | refine vv3 ?_ | refine vv4 ?_ | refine vv5 ?_ | refine vv6 ?_ | refine vv7 ?_ | refine vv8 ?_ | refine vv9 ?_ | refine vv10 ?_ | refine vv11 (fun hbr => ?_) (fun hbr => ?_) | refine vv12 (fun hbr => ?_) (fun hbr => ?_) | refine vv13 ?_ | refine vv14 ?_ | refine vv15 ?_ | refine vv16 ?_ | refine vv17 (fun hbr => ?_) (fun hbr => ?_) | refine vv18 ?_ | refine vv19 (fun hbr => ?_) (fun hbr => ?_) | refine vv20 ?_ | refine SlIdxN.map _ rfl (by first | assumption | omega) ?_ | refine SlIdxN.mapPred (by omega) (by omega) ?_ | refine SlIdxN.mapSucc (by omega) ?_ | refine SlIdxN.lit _ _ rfl rfl ?_ | refine SlIdxN.mapInt (by omega) (by omega) ?_ | refine IdxN.at0 _ rfl (by first | assumption | omega | (simp <;> omega)) ?_ | refine vv21 ?_ | refine RowN.map (by first | assumption | omega) ?_ | refine vv22 ?_ | refine RowSN.map (by first | assumption | omega) ?_ | refine vv23 ?_ | refine vv24 ?_ | refine vv25 ?_ | refine Need.mk (by first | assumption | omega | (simp <;> omega)) ?_ | refine DrawN.gen (by first | exact tryd_ok _ | exact tryd_okm _ _) (by kernel_rfl) ?_ | refine vv26 ?_ | refine vv27 ?_ | refine vv28 ?_ | refine vv29 ?_ | refine vv30 ?_ | refine vv31 ?_ | refine vv32 ?_ | refine vv33 ?_ | refine CallN.pure (hs1) ?_ | refine CallN.pure (hs2) ?_ | refine CallN.pure (he1) ?_ | refine CallN.pure (he2) ?_ | refine CallN.pure (hc) ?_ | refine CallN.pure (hm) ?_ | refine CallN.pure (hr) ?_ | refine CallN.pure (hsp) ?_ | refine CallN.pure (hrm) ?_ | refine CallN.pure (hsc) ?_ | refine CallN.pure (sane_ok) ?_ | refine GCallN.pure _ (hs1) ?_ | refine GCallN.pure _ (hs2) ?_ | refine GCallN.pure _ (he1) ?_ | refine GCallN.pure _ (he2) ?_ | refine GCallN.pure _ (hc) ?_ | refine GCallN.pure _ (hm) ?_ | refine GCallN.pure _ (hr) ?_ | refine GCallN.pure _ (hsp) ?_ | refine GCallN.pure _ (hrm) ?_ | refine GCallN.pure _ (hsc) ?_ | refine GCallN.pure _ (sane_ok) ?_ | refine GCallN.ef (hs1) ?_ | refine GCallN.ef (hs2) ?_ | refine GCallN.ef (he1) ?_ | refine GCallN.ef (he2) ?_ | refine GCallN.ef (hc) ?_ | refine GCallN.ef (hm) ?_ | refine GCallN.ef (hr) ?_ | refine GCallN.ef (hsp) ?_ | refine GCallN.ef (hrm) ?_ | refine GCallN.ef (hsc) ?_ | refine GCallN.ef (sane_ok) ?_) <;> (conv => whnf)))
  all_goals first
    | exact DoneN.pure rfl
    | (refine DoneN.pure ?_; simp; done)
    | trace_state
end Go.Proofs.Ax
