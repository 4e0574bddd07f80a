import Derived.Test.YtdfgphfijfocoaaGreatDoorRbM1
import Derived.Test.YtdfgphfijfocoaaGreatDoorRbZ
namespace Go.Proofs.Ax
open Go Go.Proofs
set_option maxRecDepth 10000
set_option maxHeartbeats 4000000
theorem rbonus_ok {r : Round} (hr : r.ok) {a : Int} (h0 : 0 ≤ a) (h1 : a ≤ 1000000) : Pu Tryz.prog G1 107 [.agg r.enc, vi a] (postings false (bonusL r a)) := by
  have hd := onesOk hr h0 h1
  have he : splitErr a (onesOf r) = 0 := by
    unfold splitErr
    have g1 := hd.len
    have g2 := hd.pos
    rw [if_neg (by omega), if_neg (fun hh => hh fun x hx => ⟨hd.wlo x hx, hd.whi x hx⟩), if_neg (by omega)]
  obtain ⟨l1, l2⟩ := bonus_parts hr h0 h1
  have hr' := hr
  unfold Round.ok at hr'
  obtain ⟨-, -, -, hcl, -⟩ := hr'
  refine Pu.of_ev (T := Tryz.tab) (n := 55) (tryd_ok _) Tryz.func107 rfl rfl rfl (by first | rfl | (split <;> rfl)) (by simp) ?_
  (conv => whnf)
  refine LoopN.of (tryd_ok _) (fun k : Nat => [(1, vi a), (2, .pm 0 0 0), (5, .sm 1 1 0 k), (6, vi k)]) (fun k => [.rows [r.enc] 87, .rows ((List.replicate k (1 : Int)).map intRow) 3]) (fun k => r.crew.length - k) (fun k => k ≤ r.crew.length) 0 (Nat.zero_le _)
    ((Reabs.virt 5 1 3 rfl).trans (Reabs.frmM [0, 1] (by repeat (first | exact trivial | refine ⟨.inr ⟨rfl, rfl⟩, ?_⟩ | refine ⟨.inr ⟨rfl, vi_eq (by first | omega | (simp; done) | (simp; omega))⟩, ?_⟩ | refine ⟨.inr ⟨rfl, smE rfl (by first | omega | (simp; done) | (simp; omega))⟩, ?_⟩)) (by repeat (first | exact trivial | refine ⟨⟨_, rfl, (by first | exact blkDead | exact blkDeep rfl (deepLit rfl) | exact blkDeep rfl (deepMap (fun _ => rfl)) | exact blkOk rfl rfl | exact blkLoop rfl rfl), (by first | exact fun _ => rfl | exact fun h => (by cases h))⟩, ?_⟩)) rfl rfl)) ?_
  intro k hk
  have hrl : (List.replicate k (1 : Int)).length = k := by simp
  by_cases hlt : k < r.crew.length
  · ((conv => whnf); repeat' ((first | refine vv7 ?_ | refine vv20 ?_ | refine vv21 ?_ | refine vv23 ?_ | refine vv31 ?_ | refine vv33 ?_) <;> (conv => whnf)))
    refine BackN.mk (k + 1) (by omega) (by omega) (Reabs.frmM [0, 2] (by repeat (first | exact trivial | refine ⟨.inr ⟨rfl, rfl⟩, ?_⟩ | refine ⟨.inr ⟨rfl, vi_eq (by first | omega | (simp; done) | (simp; omega))⟩, ?_⟩ | refine ⟨.inr ⟨rfl, smE rfl (by first | omega | (simp; done) | (simp; omega))⟩, ?_⟩)) (by exact ⟨⟨_, rfl, blkDeep rfl (deepLit rfl), fun _ => rfl⟩, ⟨_, rfl, blkDeep (by rw [List.replicate_succ', List.map_append]; rfl) (deepMap (fun _ => rfl)), fun _ => rfl⟩, trivial⟩) rfl rfl)
  obtain rfl : k = r.crew.length := by omega
  ((conv => whnf); repeat' ((first | refine vv8 ?_ | refine vv21 ?_ | refine vv23 ?_) <;> (conv => whnf)))
  refine CallN.frz 1 _ 3 rfl (deepR (fun _ => rfl)) ?_
  show CallN _ _ [vi a, (AV.sm 1 1 0 r.crew.length).frz0 1 _] _ _
  rw [frz_all (by simp)]
  refine CallN.pure (rsplit_good a false (onesOf r) he) ?_
  ((conv => whnf); repeat' ((first | refine vv22 ?_) <;> (conv => whnf)))
  unfold bonusL
  generalize divided a (onesOf r) = L at *
  refine LoopN.of (tryd_ok _) (fun k : Nat => [(2, .pm 0 0 0), (7, .pm 1 0 0), (8, .sm 2 5 0 (bonusTo r L k).length), (9, vi k)]) (fun k => [.rows [r.enc] 87, .rows [[ints false L, vi 0]] 183, .rows ((bonusTo r L k).map Posting.enc) 61]) (fun k => L.length - k) (fun k => k ≤ L.length) 0 (Nat.zero_le _)
    ((Reabs.virt 8 5 61 rfl).trans (Reabs.frmM [0, 2, 3] (by repeat (first | exact trivial | refine ⟨.inr ⟨rfl, rfl⟩, ?_⟩ | refine ⟨.inr ⟨rfl, vi_eq (by first | omega | (simp; done) | (simp; omega))⟩, ?_⟩ | refine ⟨.inr ⟨rfl, smE rfl (by first | omega | (simp; done) | (simp; omega))⟩, ?_⟩)) (by repeat (first | exact trivial | refine ⟨⟨_, rfl, (by first | exact blkDead | exact blkDeep rfl (deepLit rfl) | exact blkDeep rfl (deepMap (fun _ => rfl)) | exact blkOk rfl rfl | exact blkLoop rfl rfl), (by first | exact fun _ => rfl | exact fun h => (by cases h))⟩, ?_⟩)) rfl rfl)) ?_
  intro k hk
  have hsu := bonusTo_succ r L k
  have hbl := bonusTo_len r L k
  by_cases hlt2 : k < L.length
  · have hcr : k < r.crew.length := by omega
    rw [getD_lt hlt2, List.getD_eq_getElem?_getD, List.getElem?_eq_getElem hcr, Option.getD_some] at hsu
    by_cases hpos : 0 < L[k]
    · rw [if_pos hpos] at hsu
      ((conv => whnf); repeat' ((first | refine vv3 ?_ | refine vv7 ?_ | refine vv20 ?_ | refine SlIdxN.map _ rfl (by first | assumption | omega) ?_ | refine vv21 ?_ | refine vv23 ?_ | refine vv25 ?_ | refine DrawN.gen (by first | exact tryd_ok _ | exact tryd_okm _ _) (by kernel_rfl) ?_ | refine vv31 ?_ | refine vv33 ?_) <;> (conv => whnf)))
      refine BackN.mk (k + 1) (by omega) (by omega) ?_
      simp only [hsu]
      exact (Reabs.frmM [0, 1, 3] (by repeat (first | exact trivial | refine ⟨.inr ⟨rfl, rfl⟩, ?_⟩ | refine ⟨.inr ⟨rfl, vi_eq (by first | omega | (simp; done) | (simp; omega))⟩, ?_⟩ | refine ⟨.inr ⟨rfl, smE rfl (by first | omega | (simp; done) | (simp; omega))⟩, ?_⟩)) (by exact ⟨⟨_, rfl, blkDeep rfl (deepLit rfl), fun _ => rfl⟩, ⟨_, rfl, blkDeep rfl (deepLit rfl), fun _ => rfl⟩, ⟨_, rfl, blkDeep (by rw [List.map_append]; rfl) (deepMap (fun _ => rfl)), fun _ => rfl⟩, trivial⟩) rfl rfl)
    · rw [if_neg hpos, List.append_nil] at hsu
      ((conv => whnf); repeat' ((first | refine vv4 ?_ | refine vv7 ?_ | refine vv20 ?_ | refine SlIdxN.map _ rfl (by first | assumption | omega) ?_ | refine vv21 ?_ | refine vv23 ?_) <;> (conv => whnf)))
      refine BackN.mk (k + 1) (by omega) (by omega) ?_
      simp only [hsu]
      exact (Reabs.frmM [0, 1, 2] (by repeat (first | exact trivial | refine ⟨.inr ⟨rfl, rfl⟩, ?_⟩ | refine ⟨.inr ⟨rfl, vi_eq (by first | omega | (simp; done) | (simp; omega))⟩, ?_⟩ | refine ⟨.inr ⟨rfl, smE rfl (by first | omega | (simp; done) | (simp; omega))⟩, ?_⟩)) (by repeat (first | exact trivial | refine ⟨⟨_, rfl, (by first | exact blkDead | exact blkDeep rfl (deepLit rfl) | exact blkDeep rfl (deepMap (fun _ => rfl)) | exact blkOk rfl rfl | exact blkLoop rfl rfl), (by first | exact fun _ => rfl | exact fun h => (by cases h))⟩, ?_⟩)) rfl rfl)
  · obtain rfl : k = L.length := by omega
    ((conv => whnf); repeat' ((first | refine vv8 ?_ | refine vv21 ?_ | refine vv23 ?_) <;> (conv => whnf)))
    refine DoneN.frz 2 _ 61 rfl (deepR (fun _ => rfl)) (DoneN.pure ?_)
    show (AV.sm 2 5 0 _).frz0 2 _ = _
    rw [frz_all (by simp), l1]
    rfl
end Go.Proofs.Ax
