import Derived.Test.YtdfgphfijfocoaaGreatDoorRbDf
namespace Go.Proofs.Ax
open Go Go.Proofs
set_option maxRecDepth 10000
set_option maxHeartbeats 4000000
def bothErr (a b : List Posting) : Int := if (checkPost a).1 ≠ 0 then (checkPost a).1 else (checkPost b).1
theorem both_ok (t u : Bool) (a b : List Posting) (hmax : a.length ≤ 9223372036854775807) (hmax' : b.length ≤ 9223372036854775807) : Pu Tryz.prog G1 81 [postings t a, postings u b] (vi (bothErr a b)) := by
  have h1 := checkPost_ok t a hmax
  have h2 := checkPost_ok u b hmax'
  refine Pu.of_ev (T := Tryz.tab) (n := 23) (tryd_ok _) Tryz.func81 rfl rfl rfl (by first | rfl | (split <;> rfl)) (by simp) ?_
  ((conv => whnf); repeat' ((first | refine vv12 (fun hbr => ?_) (fun hbr => ?_) | refine CallN.pure (h1) ?_ | refine CallN.pure (h2) ?_) <;> (conv => whnf)))
  all_goals refine DoneN.pure ?_
  all_goals
    unfold bothErr
    first
      | rw [if_pos (by assumption)]
      | rw [if_neg (by simpa using hbr)]
theorem AppN.nilm {α : Type} {f : α → List AV} {m : List α} {b : Nat} {k : List (List AV) → Nat → Prop} (h1 : m.length * b ≤ 140737488355328) (h2 : m.length ≤ 9223372036854775807) (hk : k (m.map f) m.length) : AppN [] (m.map f) b k := ⟨_, _, rfl, by simp, h1, h2, hk⟩
theorem joined_ok (t u : Bool) (a b : List Posting) (hmax : a.length ≤ 1000000) (hmax' : b.length ≤ 1000000) : Pu Tryz.prog G1 37 [postings t a, postings u b] (postings false (a ++ b)) := by
  refine Pu.of_ev (T := Tryz.tab) (n := 10) (tryd_ok _) Tryz.func37 rfl rfl rfl (by first | rfl | (split <;> rfl)) (by simp) ?_
  ((conv => whnf); repeat' ((first | refine Need.mk (.inl rfl) ?_ | refine AppN.nilm (by omega) (by omega) ?_ | refine AppN.maps (by omega) (by omega) ?_ | refine vv31 ?_) <;> (conv => whnf)))
  refine DoneN.frz 1 ((a ++ b).map Posting.enc) 61 rfl (deepR (fun _ => rfl)) ?_
  show DoneN _ ((AV.sm 1 5 0 (a.length + b.length)).frz0 1 _) _
  rw [frz_all (by simp)]
  exact DoneN.pure rfl
def corrErr (a b : List Posting) : Int := if bothErr a b ≠ 0 then bothErr a b else if 4000 < (correct a b).length then 2 else 0
theorem bothErr_0 {a b : List Posting} (h : bothErr a b = 0) : (checkPost a).1 = 0 ∧ (checkPost b).1 = 0 := by
  unfold bothErr at h
  split at h
  · exact absurd h (by assumption)
  · rename_i h1; exact ⟨by omega, h⟩
abbrev cfr (c : List Posting) (k : Nat) (n : Nat) (a b : List Posting) : Fr := [(7, .mp 0), (8, .mp 1), (9, .sm 2 5 0 c.length), (26, names false (differ a b)), (27, vi n), (28, vi k)]
abbrev cH (a b : List Posting) (c : List Posting) : AH := [mB (gsOf a), mB (gsOf b), .rows (c.map Posting.enc) 61]
abbrev cHb (a b : List Posting) (c : List Posting) (q : Int × Int) : AH := [mB (gsOf a), mB (gsOf b), .rows (c.map Posting.enc) 61, .rows [nmRow q] 100]
theorem AppN.none {α : Type} {f : α → List AV} {l : List α} {b : Nat} {k : List (List AV) → Nat → Prop} (h1 : l.length * b ≤ 140737488355328) (h2 : l.length ≤ 9223372036854775807) (hk : k (l.map f) l.length) : AppN (l.map f) [] b k := ⟨_, _, List.append_nil _, by simp, h1, h2, hk⟩
theorem differ_len (a b : List Posting) : (differ a b).length ≤ a.length + b.length := by
  have h1 := gsOf_length a
  have h2 := gsOf_length b
  have h3 := flat_len (oneP_len a b) (List.range (gsOf a).length)
  have h4 := flat_len (twoP_len a b) (List.range (gsOf b).length)
  rw [List.length_range] at h3 h4
  rw [differ, sortN, List.length_mergeSort, List.length_append]; omega
theorem corr_take_len (a b : List Posting) (k : Nat) : (corrOf a b ((differ a b).take k)).length ≤ a.length + b.length := by
  have hn := (differ_nodup a b).sublist (List.take_sublist k _)
  have h1 := grp_flat_len _ a hn
  have h2 := grp_flat_len _ b hn
  rw [corrOf_len]; omega
theorem correct_good (t u : Bool) (a b : List Posting) (h : bothErr a b = 0) : Pu Tryz.prog G1 42 [postings t a, postings u b] (if 4000 < (correct a b).length then .tuple [.sc (.slice none 0 0), vi 2] else .tuple [postings false (correct a b), vi 0]) := by
  obtain ⟨c1, c2⟩ := bothErr_0 h
  obtain ⟨la, oa⟩ := checkPost_0 c1
  obtain ⟨lb, ob⟩ := checkPost_0 c2
  have h1 := both_ok t u a b (by omega) (by omega)
  rw [h] at h1
  have hd := differing_ok t u a b (by omega) (by omega) oa ob
  have hg1 := groups_at t a (by omega) [] 0 rfl [mB (gsOf a)] rfl
  have hg2 := groups_at u b (by omega) [mB (gsOf a)] 1 rfl [mB (gsOf a), mB (gsOf b)] rfl
  have hcl := correct_len a b
  have hdl : (differ a b).length ≤ 8000 := by
    have := differ_len a b
    omega
  refine Pu.of_ev (T := Tryz.tab) (n := 61) (tryd_ok _) Tryz.func42 rfl rfl rfl (by first | rfl | (split <;> rfl)) (by simp) ?_
  ((conv => whnf); repeat' ((first | refine CallN.efD hg1 ?_ | refine CallN.efD hg2 ?_ | refine vv2 ?_ | refine vv23 ?_ | refine CallN.pure (h1) ?_ | refine CallN.pure (hd) ?_) <;> (conv => whnf)))
  refine LoopN.of (tryd_okg 0 _) (fun (k : Nat) => cfr (corrOf a b ((differ a b).take k)) k (differ a b).length a b) (fun k => cH a b (corrOf a b ((differ a b).take k))) (fun k => (differ a b).length - k) (fun k => k ≤ (differ a b).length) 0 (Nat.zero_le _)
    ((Reabs.virt 9 5 61 rfl).trans (Reabs.frmM [0, 1, 2] (by repeat (first | exact trivial | refine ⟨.inr ⟨rfl, rfl⟩, ?_⟩ | refine ⟨.inr ⟨rfl, vi_eq (by first | omega | (simp; done) | (simp; omega))⟩, ?_⟩ | refine ⟨.inr ⟨rfl, smE rfl (by first | omega | (simp; done) | (simp; omega))⟩, ?_⟩)) ⟨⟨_, rfl, blkM _, fun _ => rfl⟩, ⟨_, rfl, blkM _, fun _ => rfl⟩, ⟨_, rfl, blkDeep rfl (deepMap (fun _ => rfl)), fun _ => rfl⟩, trivial⟩ rfl rfl)) ?_
  intro k hk
  have hcb := corr_take_len a b k
  by_cases hlt : k < (differ a b).length
  · have hcs : corrOf a b ((differ a b).take (k + 1)) = (corrOf a b ((differ a b).take k) ++ (grp a (differ a b)[k]).map swapP) ++ grp b (differ a b)[k] := by
      rw [take_succ_snoc hlt, corrOf, List.flatMap_append, List.flatMap_cons, List.flatMap_nil, List.append_nil, List.append_assoc]
      rfl
    have hga : (grp a (differ a b)[k]).length ≤ a.length := List.length_filter_le ..
    have hgb : (grp b (differ a b)[k]).length ≤ b.length := List.length_filter_le ..
    ((conv => whnf); repeat' ((first | refine vv7 ?_ | refine SlIdxN.map _ rfl (by first | assumption | omega) ?_ | refine vv21 ?_ | refine vv22 ?_) <;> (conv => whnf)))
    generalize hq : (differ a b)[k] = q at *
    generalize hc : corrOf a b ((differ a b).take k) = c at *
    rcases lkV_cases a q with hb1 | ⟨hb1, hemp⟩
    · refine StepN.mk (.sl 5 false ((grp a q).map Posting.enc)) (cHb a b c q) ((look_mB q rfl).trans (by rw [hb1])) ?_
      ((conv => whnf); repeat' ((first | refine vv23 ?_) <;> (conv => whnf)))
      refine LoopN.of (tryd_okg 0 _) (fun (j : Nat) => [(11, .pm 3 0 0), (34, .sl 5 false ((grp a q).map Posting.enc)), (35, vi (grp a q).length), (36, vi j)] ++ cfr (c ++ ((grp a q).take j).map swapP) k (differ a b).length a b) (fun j => cHb a b (c ++ ((grp a q).take j).map swapP) q) (fun j => (grp a q).length - j) (fun j => j ≤ (grp a q).length) 0 (Nat.zero_le _)
        (Reabs.frmM [0, 1, 2, 3] (by repeat (first | exact trivial | refine ⟨.inr ⟨rfl, rfl⟩, ?_⟩ | refine ⟨.inr ⟨rfl, vi_eq (by first | omega | (simp; done) | (simp; omega))⟩, ?_⟩ | refine ⟨.inr ⟨rfl, smE rfl (by first | omega | (simp; done) | (simp; omega))⟩, ?_⟩)) ⟨⟨_, rfl, blkM _, fun _ => rfl⟩, ⟨_, rfl, blkM _, fun _ => rfl⟩, ⟨_, rfl, blkDeep (by simp) (deepMap (fun _ => rfl)), fun _ => rfl⟩, ⟨_, rfl, blkDeep rfl (deepLit rfl), fun _ => rfl⟩, trivial⟩ rfl rfl) ?_
      intro j hj
      by_cases hjl : j < (grp a q).length
      · have hjs : c ++ ((grp a q).take (j + 1)).map swapP = (c ++ ((grp a q).take j).map swapP) ++ [swapP (grp a q)[j]] := by
          rw [take_succ_snoc hjl, List.map_append, List.append_assoc]; rfl
        have hcj : (c ++ ((grp a q).take j).map swapP).length ≤ 20000 := by
          rw [List.length_append, List.length_map, List.length_take]; omega
        generalize c ++ ((grp a q).take j).map swapP = cj at *
        ((conv => whnf); repeat' ((first | refine vv7 ?_ | refine vv20 ?_ | refine SlIdxN.map _ rfl (by first | assumption | omega) ?_ | refine vv21 ?_ | refine vv22 ?_ | refine vv31 ?_ | refine vv33 ?_) <;> (conv => whnf)))
        refine BackN.mk (j + 1) (by omega) (by omega) (Reabs.frmM [0, 1, 5, 3] (by simp only [hjs]; exact (by repeat (first | exact trivial | refine ⟨.inr ⟨rfl, rfl⟩, ?_⟩ | refine ⟨.inr ⟨rfl, vi_eq (by first | omega | (simp; done) | (simp; omega))⟩, ?_⟩ | refine ⟨.inr ⟨rfl, smE rfl (by first | omega | (simp; done) | (simp; omega))⟩, ?_⟩))) (by simp only [hjs]; exact ⟨⟨_, rfl, blkM _, fun _ => rfl⟩, ⟨_, rfl, blkM _, fun _ => rfl⟩, ⟨_, rfl, blkDeep (by simp; rfl) (deepMap (fun _ => rfl)), fun _ => rfl⟩, ⟨_, rfl, blkDeep rfl (deepLit rfl), fun _ => rfl⟩, trivial⟩) rfl rfl)
      obtain rfl : j = (grp a q).length := by omega
      rw [List.take_length]
      have hcj : (c ++ (grp a q).map swapP).length ≤ 20000 := by
        rw [List.length_append, List.length_map]; omega
      ((conv => whnf); repeat' ((first | refine vv8 ?_ | refine vv21 ?_) <;> (conv => whnf)))
      rcases lkV_cases b q with hb2 | ⟨hb2, hemp2⟩
      · refine StepN.mk (.sl 5 false ((grp b q).map Posting.enc)) (cHb a b (c ++ (grp a q).map swapP) q) ((look_mB q rfl).trans (by rw [hb2])) ?_
        ((conv => whnf); repeat' ((first | refine AppN.maps (by first | omega | (simp; done) | (simp; omega)) (by first | omega | (simp; done) | (simp; omega)) ?_ | refine vv20 ?_ | refine vv31 ?_) <;> (conv => whnf)))
        refine BackN.mk (k + 1) (by omega) (by omega) (Reabs.frmM [0, 1, 4] (by rw [hcs]; exact (by repeat (first | exact trivial | refine ⟨.inr ⟨rfl, rfl⟩, ?_⟩ | refine ⟨.inr ⟨rfl, vi_eq (by first | omega | (simp; done) | (simp; omega))⟩, ?_⟩ | refine ⟨.inr ⟨rfl, smE rfl (by first | omega | (simp; done) | (simp; omega))⟩, ?_⟩))) (by show AllB _ _ _ _ (cH a b (corrOf a b ((differ a b).take (k + 1)))); rw [hcs]; exact ⟨⟨_, rfl, blkM _, fun _ => rfl⟩, ⟨_, rfl, blkM _, fun _ => rfl⟩, ⟨_, rfl, blkDeep (by simp) (deepMap (fun _ => rfl)), fun _ => rfl⟩, trivial⟩) rfl rfl)
      · refine StepN.mk _ (cHb a b (c ++ (grp a q).map swapP) q) ((look_mB q rfl).trans (by rw [hb2])) ?_
        ((conv => whnf); repeat' ((first | refine AppN.none (by first | omega | (simp; done) | (simp; omega)) (by first | omega | (simp; done) | (simp; omega)) ?_ | refine vv20 ?_ | refine vv31 ?_) <;> (conv => whnf)))
        rw [hemp2, List.append_nil] at hcs
        refine BackN.mk (k + 1) (by omega) (by omega) (Reabs.frmM [0, 1, 4] (by rw [hcs]; exact (by repeat (first | exact trivial | refine ⟨.inr ⟨rfl, rfl⟩, ?_⟩ | refine ⟨.inr ⟨rfl, vi_eq (by first | omega | (simp; done) | (simp; omega))⟩, ?_⟩ | refine ⟨.inr ⟨rfl, smE rfl (by first | omega | (simp; done) | (simp; omega))⟩, ?_⟩))) (by show AllB _ _ _ _ (cH a b (corrOf a b ((differ a b).take (k + 1)))); rw [hcs]; exact ⟨⟨_, rfl, blkM _, fun _ => rfl⟩, ⟨_, rfl, blkM _, fun _ => rfl⟩, ⟨_, rfl, blkDeep (by simp) (deepMap (fun _ => rfl)), fun _ => rfl⟩, trivial⟩) rfl rfl)
    · refine StepN.mk _ (cHb a b c q) ((look_mB q rfl).trans (by rw [hb1])) ?_
      (conv => whnf)
      refine LoopN.of (tryd_okg 0 _) (fun (_ : Unit) => [(11, .pm 3 0 0), (35, vi 0), (36, vi 0)] ++ cfr (c ++ (grp a q).map swapP) k (differ a b).length a b) (fun _ => cHb a b (c ++ (grp a q).map swapP) q) (fun _ => 0) (fun _ => True) () trivial
        (Reabs.frmM [0, 1, 2, 3] (by rw [hemp]; exact (by repeat (first | exact trivial | refine ⟨.inr ⟨rfl, rfl⟩, ?_⟩ | refine ⟨.inr ⟨rfl, vi_eq (by first | omega | (simp; done) | (simp; omega))⟩, ?_⟩ | refine ⟨.inr ⟨rfl, smE rfl (by first | omega | (simp; done) | (simp; omega))⟩, ?_⟩))) (by rw [hemp]; exact ⟨⟨_, rfl, blkM _, fun _ => rfl⟩, ⟨_, rfl, blkM _, fun _ => rfl⟩, ⟨_, rfl, blkDeep (by simp) (deepMap (fun _ => rfl)), fun _ => rfl⟩, ⟨_, rfl, blkDeep rfl (deepLit rfl), fun _ => rfl⟩, trivial⟩) rfl rfl) ?_
      rintro ⟨⟩ -
      have hcj : (c ++ (grp a q).map swapP).length ≤ 20000 := by
        rw [List.length_append, List.length_map]; omega
      ((conv => whnf); repeat' ((first | refine vv2 ?_ | refine vv21 ?_) <;> (conv => whnf)))
      rcases lkV_cases b q with hb2 | ⟨hb2, hemp2⟩
      · refine StepN.mk (.sl 5 false ((grp b q).map Posting.enc)) (cHb a b (c ++ (grp a q).map swapP) q) ((look_mB q rfl).trans (by rw [hb2])) ?_
        ((conv => whnf); repeat' ((first | refine AppN.maps (by first | omega | (simp; done) | (simp; omega)) (by first | omega | (simp; done) | (simp; omega)) ?_ | refine vv20 ?_ | refine vv31 ?_) <;> (conv => whnf)))
        refine BackN.mk (k + 1) (by omega) (by omega) (Reabs.frmM [0, 1, 4] (by rw [hcs]; exact (by repeat (first | exact trivial | refine ⟨.inr ⟨rfl, rfl⟩, ?_⟩ | refine ⟨.inr ⟨rfl, vi_eq (by first | omega | (simp; done) | (simp; omega))⟩, ?_⟩ | refine ⟨.inr ⟨rfl, smE rfl (by first | omega | (simp; done) | (simp; omega))⟩, ?_⟩))) (by show AllB _ _ _ _ (cH a b (corrOf a b ((differ a b).take (k + 1)))); rw [hcs]; exact ⟨⟨_, rfl, blkM _, fun _ => rfl⟩, ⟨_, rfl, blkM _, fun _ => rfl⟩, ⟨_, rfl, blkDeep (by simp) (deepMap (fun _ => rfl)), fun _ => rfl⟩, trivial⟩) rfl rfl)
      · refine StepN.mk _ (cHb a b (c ++ (grp a q).map swapP) q) ((look_mB q rfl).trans (by rw [hb2])) ?_
        ((conv => whnf); repeat' ((first | refine AppN.none (by first | omega | (simp; done) | (simp; omega)) (by first | omega | (simp; done) | (simp; omega)) ?_ | refine vv20 ?_ | refine vv31 ?_) <;> (conv => whnf)))
        rw [hemp2, List.append_nil] at hcs
        refine BackN.mk (k + 1) (by omega) (by omega) (Reabs.frmM [0, 1, 4] (by rw [hcs]; exact (by repeat (first | exact trivial | refine ⟨.inr ⟨rfl, rfl⟩, ?_⟩ | refine ⟨.inr ⟨rfl, vi_eq (by first | omega | (simp; done) | (simp; omega))⟩, ?_⟩ | refine ⟨.inr ⟨rfl, smE rfl (by first | omega | (simp; done) | (simp; omega))⟩, ?_⟩))) (by show AllB _ _ _ _ (cH a b (corrOf a b ((differ a b).take (k + 1)))); rw [hcs]; exact ⟨⟨_, rfl, blkM _, fun _ => rfl⟩, ⟨_, rfl, blkM _, fun _ => rfl⟩, ⟨_, rfl, blkDeep (by simp) (deepMap (fun _ => rfl)), fun _ => rfl⟩, trivial⟩) rfl rfl)
  · obtain rfl : k = (differ a b).length := by omega
    have hcc : corrOf a b ((differ a b).take (differ a b).length) = correct a b := by rw [List.take_length]; rfl
    show ev _ _ (cfr (corrOf a b ((differ a b).take (differ a b).length)) _ _ a b) (cH a b (corrOf a b ((differ a b).take (differ a b).length))) _
    rw [hcc]
    generalize correct a b = c at *
    by_cases h4 : 4000 < c.length
    · rw [if_pos h4]
      ((conv => whnf); repeat' ((first | refine vv7 ?_ | refine vv8 ?_) <;> (conv => whnf)))
      exact DoneN.pure rfl
    · rw [if_neg h4]
      ((conv => whnf); repeat' ((first | refine vv8 ?_) <;> (conv => whnf)))
      refine DoneN.frz 2 (c.map Posting.enc) 61 rfl (deepR (fun _ => rfl)) ?_
      show DoneN _ (AV.tuple [(AV.sm 2 5 0 c.length).frz0 2 _, vi 0]) _
      rw [frz_all (by simp)]
      exact DoneN.pure rfl
end Go.Proofs.Ax
