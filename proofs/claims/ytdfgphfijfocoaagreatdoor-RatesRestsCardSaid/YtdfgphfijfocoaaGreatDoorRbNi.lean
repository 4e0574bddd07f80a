import Derived.Test.YtdfgphfijfocoaaGreatDoorRbQ
namespace Go.Proofs.Ax
open Go Go.Proofs
set_option maxRecDepth 10000
set_option maxHeartbeats 4000000
theorem rseason_ok (t u : Bool) (ps : List Policy) (l : List Round) (s : Span) (hp : ∀ p ∈ ps, p.ok) (hl : ∀ r ∈ l, r.ok) (hpl : ps.length ≤ 20) (hll : l.length ≤ 200) (hs : spanErr s = 0) : Pu Tryz.prog G1 61 [policies t ps, rounds u l, .agg s.enc] (postings false (seasonOf ps l s)) := by
  have hs := spanErr_0 hs
  refine Pu.of_ev (T := Tryz.tab) (n := 33) (tryd_ok _) Tryz.func61 rfl rfl rfl (by first | rfl | (split <;> rfl)) (by simp) ?_
  ((conv => whnf); repeat' ((first | refine vv21 ?_) <;> (conv => whnf)))
  refine LoopN.of (tryd_ok _) (fun m : Nat => [(0, policies t ps), (1, rounds u l), (5, .pm 0 0 0), (7, .sm 1 5 0 (seasonTo ps l s.lo m).length), (8, vi (s.lo + (m : Int)))]) (fun m => [.rows [s.enc] 25, .rows ((seasonTo ps l s.lo m).map Posting.enc) 61]) (fun m => (s.hi - s.lo + 1).toNat - m) (fun m => m ≤ (s.hi - s.lo + 1).toNat) 0 (Nat.zero_le _)
    ((Reabs.virt 7 5 61 rfl).trans (Reabs.frmM [0, 1] (by repeat (first | exact trivial | refine ⟨.inr ⟨rfl, rfl⟩, ?_⟩ | refine ⟨.inr ⟨rfl, vi_eq (by first | omega | (simp; done) | (simp; omega))⟩, ?_⟩ | refine ⟨.inr ⟨rfl, smE rfl (by first | omega | (simp; done) | (simp; omega))⟩, ?_⟩)) (by repeat (first | exact trivial | refine ⟨⟨_, rfl, (by first | exact blkDead | exact blkDeep rfl (deepLit rfl) | exact blkDeep rfl (deepMap (fun _ => rfl)) | exact blkOk rfl rfl | exact blkLoop rfl rfl), (by first | exact fun _ => rfl | exact fun h => (by cases h))⟩, ?_⟩)) rfl rfl)) ?_
  intro m hm
  have hsl := seasonTo_len hp hl hs.2.1.1 m (by omega)
  have hmul : m * (1 + 5 * l.length) ≤ 400 * 1001 := Nat.mul_le_mul (by omega) (by omega)
  have hsu := seasonTo_succ ps l s.lo m
  generalize ho : seasonTo ps l s.lo m = o at *
  by_cases hlt : s.lo + (m : Int) ≤ s.hi
  · by_cases hf : (forceOf ps (s.lo + (m : Int))).2 = true
    · have hfo := rforce_ok t ps (s.lo + (m : Int)) (by omega)
      have hpo := hp _ (forceOf_mem hf)
      have hni : nightIn ps l (s.lo + (m : Int)) = nightOf (forceOf ps (s.lo + (m : Int))).1 (s.lo + (m : Int)) l := by rw [nightIn, if_pos hf]
      rw [hni] at hsu
      unfold pb at hfo
      rw [hf] at hfo
      generalize (forceOf ps (s.lo + (m : Int))).1 = p at *
      have hnl := (night_nok hpo (n := s.lo + (m : Int)) (by omega) hl).len
      have hrn := rnight_ok u (n := s.lo + (m : Int)) hpo (by omega) hl (by omega)
      change (nightOf p (s.lo + (m : Int)) l).length ≤ _ at hnl
      generalize nightOf p (s.lo + (m : Int)) l = B at *
      ((conv => whnf); repeat' ((first | refine CallN.pure hfo ?_ | refine CallN.pure hrn ?_ | refine AppN.maps (by omega) (by omega) ?_ | refine vv1 ?_ | refine vv3 ?_ | refine vv20 ?_ | refine vv21 ?_ | refine vv22 ?_ | refine vv31 ?_) <;> (conv => whnf)))
      refine BackN.mk (m + 1) (by omega) (by omega) ?_
      simp only [hsu]
      exact (Reabs.frmM [0, 3] (by repeat (first | exact trivial | refine ⟨.inr ⟨rfl, rfl⟩, ?_⟩ | refine ⟨.inr ⟨rfl, vi_eq (by first | omega | (simp; done) | (simp; omega))⟩, ?_⟩ | refine ⟨.inr ⟨rfl, smE rfl (by first | omega | (simp; done) | (simp; omega))⟩, ?_⟩)) (by repeat (first | exact trivial | refine ⟨⟨_, rfl, (by first | exact blkDead | exact blkDeep rfl (deepLit rfl) | exact blkDeep rfl (deepMap (fun _ => rfl)) | exact blkOk rfl rfl | exact blkLoop rfl rfl), (by first | exact fun _ => rfl | exact fun h => (by cases h))⟩, ?_⟩)) rfl rfl)
    · have hfo := rforce_ok t ps (s.lo + (m : Int)) (by omega)
      have hni : nightIn ps l (s.lo + (m : Int)) = [] := by rw [nightIn, if_neg hf]
      rw [hni, List.append_nil] at hsu
      unfold pb at hfo
      rw [Bool.eq_false_iff.2 hf] at hfo
      ((conv => whnf); repeat' ((first | refine CallN.pure hfo ?_ | refine vv2 ?_ | refine vv3 ?_ | refine vv20 ?_ | refine vv21 ?_ | refine vv22 ?_) <;> (conv => whnf)))
      refine BackN.mk (m + 1) (by omega) (by omega) ?_
      simp only [hsu]
      exact (Reabs.frmM [0, 1] (by repeat (first | exact trivial | refine ⟨.inr ⟨rfl, rfl⟩, ?_⟩ | refine ⟨.inr ⟨rfl, vi_eq (by first | omega | (simp; done) | (simp; omega))⟩, ?_⟩ | refine ⟨.inr ⟨rfl, smE rfl (by first | omega | (simp; done) | (simp; omega))⟩, ?_⟩)) (by repeat (first | exact trivial | refine ⟨⟨_, rfl, (by first | exact blkDead | exact blkDeep rfl (deepLit rfl) | exact blkDeep rfl (deepMap (fun _ => rfl)) | exact blkOk rfl rfl | exact blkLoop rfl rfl), (by first | exact fun _ => rfl | exact fun h => (by cases h))⟩, ?_⟩)) rfl rfl)
  · ((conv => whnf); repeat' ((first | refine vv4 ?_ | refine vv21 ?_) <;> (conv => whnf)))
    obtain rfl : m = (s.hi - s.lo + 1).toNat := by omega
    refine DoneN.frz 1 _ 61 rfl (deepR (fun _ => rfl)) (DoneN.pure ?_)
    show (AV.sm 1 5 0 _).frz0 1 _ = _
    rw [frz_all (by simp), ← ho]
    rfl
end Go.Proofs.Ax
