import Derived.Test.YtdfgphfijfocoaaGreatDoorRbOz
namespace Go.Proofs.Ax
open Go Go.Proofs
set_option maxRecDepth 10000
set_option maxHeartbeats 8000000
/-- A fact that the arithmetic is not to see. -/
structure Hid (p : Prop) : Prop where
  out : p
theorem routlook_ok (t u : Bool) (ps : List Policy) (l : List Round) (s : Span) (hmax : ps.length ≤ 9223372036854775807) (h1 : (checkPol ps).1 = 0) (h2 : (checkRounds l).1 = 0) (h3 : spanErr s = 0) (hd : ∀ n, dNn n l ≤ 12) : Pu Tryz.prog G1 21 [policies t ps, rounds u l, .agg s.enc]
    (.agg [vi (sumTo (outLo ps l) s.lo (s.hi - s.lo + 1).toNat), vi (sumTo (outHi ps l) s.lo (s.hi - s.lo + 1).toNat)]) := by
  obtain ⟨a1, a2⟩ := checkPol_0 h1
  obtain ⟨b1, b2⟩ := checkRounds_0 h2
  have hs := spanErr_0 h3
  refine Pu.of_ev (T := Tryz.tab) (n := 67) (tryd_ok _) Tryz.func21 rfl rfl rfl (by first | rfl | (split <;> rfl)) (by simp) ?_
  ((conv => whnf); repeat' ((first | refine vv21 ?_) <;> (conv => whnf)))
  refine LoopN.of (tryd_ok _) (fun m : Nat => [(0, policies t ps), (1, rounds u l), (5, .pm 0 0 0), (6, .pm 1 0 0), (7, .pm 2 0 0), (8, vi (s.lo + (m : Int)))]) (fun m => [.rows [s.enc] 25, .rows [[vi 0, vi 0]] 25, .rows [[vi (sumTo (outLo ps l) s.lo m), vi (sumTo (outHi ps l) s.lo m)]] 25]) (fun m => (s.hi - s.lo + 1).toNat - m) (fun m => m ≤ (s.hi - s.lo + 1).toNat) 0 (Nat.zero_le _)
    (Reabs.frmM [0, 1, 2] (by repeat (first | exact trivial | refine ⟨.inr ⟨rfl, rfl⟩, ?_⟩ | refine ⟨.inr ⟨rfl, vi_eq (by first | omega | (simp; done) | (simp; omega))⟩, ?_⟩ | refine ⟨.inr ⟨rfl, smE rfl (by first | omega | (simp; done) | (simp; omega))⟩, ?_⟩)) (by repeat (first | exact trivial | refine ⟨⟨_, rfl, (by first | exact blkDead | exact blkDeep rfl (deepLit rfl) | exact blkDeep rfl (deepMap (fun _ => rfl)) | exact blkOk rfl rfl | exact blkLoop rfl rfl), (by first | exact fun _ => rfl | exact fun h => (by cases h))⟩, ?_⟩)) rfl rfl) ?_
  intro m hm
  have e1 := sumTo_succ (outLo ps l) s.lo m
  have e2 := sumTo_succ (outHi ps l) s.lo m
  have q1 := sumTo_bd (f := outLo ps l) (lo := s.lo) (a := -1000000) (b := 3000000) m (fun j _ => (out_bd a2 l _).1)
  have q2 := sumTo_bd (f := outHi ps l) (lo := s.lo) (a := -1000000) (b := 3000000) m (fun j _ => (out_bd a2 l _).2)
  have q3 := out_bd a2 l (s.lo + (m : Int))
  generalize hS1 : sumTo (outLo ps l) s.lo m = S1 at *
  generalize hS2 : sumTo (outHi ps l) s.lo m = S2 at *
  by_cases hlt : s.lo + (m : Int) ≤ s.hi
  · have hfo := rforce_ok t ps (s.lo + (m : Int)) (by omega)
    unfold pb at hfo
    by_cases hf : (forceOf ps (s.lo + (m : Int))).2 = true
    · have hpo := a2 _ (forceOf_mem hf)
      rw [hf] at hfo
      generalize hN : s.lo + (m : Int) = N at *
      have hgd : ∀ cs, (∀ r ∈ cs, Round.ok r) → nightIn ps cs N = nightOf (forceOf ps N).1 N cs := fun cs _ => by rw [nightIn, if_pos hf]
      have hN2 : 0 ≤ N ∧ N ≤ 20000 := by omega
      generalize hP : (forceOf ps N).1 = p at *
      have hof := rof_ok u l N (by omega)
      have hol := ofN_len N l
      have hown := ofN_gN ps l N
      have hodn := ofN_dN N l
      have hall := ofN_all (n := N) (l := l)
      have hoo : ∀ r ∈ ofN N l, r.ok := fun r hr => b2 r (List.mem_filter.1 hr).1
      have hd12 := hd N
      generalize hO : ofN N l = O at *
      have hrd := rdoubtful_ok false O (by omega)
      rw [hodn] at hrd
      ((conv => whnf); repeat' ((first | refine CallN.pure hfo ?_ | refine CallN.pure hof ?_ | refine vv2 ?_ | refine vv3 ?_ | refine vv21 ?_ | refine vv22 ?_) <;> (conv => whnf)))
      refine LoopN.of3 (tryd_ok _) (fun (k : Nat) (x y : Int) => [(0, policies t ps), (1, rounds u l), (5, .pm 0 0 0), (6, .pm 1 0 0), (7, .pm 2 0 0), (8, vi N), (9, .pm 3 0 0), (11, rounds false O), (12, vi x), (13, vi y), (14, vi k)]) (fun k x y => [.rows [s.enc] 25, .rows [[vi 0, vi 0]] 25, .rows [[vi S1, vi S2]] 25, .rows [p.enc] 105]) (fun k x y => dNn N l + 1 - k)
        (fun k x y => k ≤ dNn N l + 1 ∧ (k = 0 → x = 1152921504606846976 ∧ y = -1152921504606846976) ∧ (0 < k → x = minTo (gN ps l N) (k - 1) ∧ y = maxTo (gN ps l N) (k - 1))) 0 1152921504606846976 (-1152921504606846976) ⟨Nat.zero_le _, fun _ => ⟨rfl, rfl⟩, fun h => absurd h (Nat.lt_irrefl _)⟩
        (Reabs.frmM [0, 1, 2, 3] (by repeat (first | exact trivial | refine ⟨.inr ⟨rfl, rfl⟩, ?_⟩ | refine ⟨.inr ⟨rfl, vi_eq (by first | omega | (simp; done) | (simp; omega))⟩, ?_⟩ | refine ⟨.inr ⟨rfl, smE rfl (by first | omega | (simp; done) | (simp; omega))⟩, ?_⟩)) (by repeat (first | exact trivial | refine ⟨⟨_, rfl, (by first | exact blkDead | exact blkDeep rfl (deepLit rfl) | exact blkDeep rfl (deepMap (fun _ => rfl)) | exact blkOk rfl rfl | exact blkLoop rfl rfl), (by first | exact fun _ => rfl | exact fun h => (by cases h))⟩, ?_⟩)) rfl rfl) ?_
      rintro k x y ⟨hk, hx0, hx1⟩
      have hx : Hid ((k = 0 → x = 1152921504606846976 ∧ y = -1152921504606846976) ∧ (0 < k → x = minTo (gN ps l N) (k - 1) ∧ y = maxTo (gN ps l N) (k - 1))) := ⟨hx0, hx1⟩
      clear hx0 hx1
      by_cases hkd : k ≤ dNn N l
      · have hfi := rfirst_ok false O N k (by omega) hall (by omega)
        rw [hodn] at hfi
        have hfd : (firstK (dNn N l) k).length = dN O := by rw [hodn]; simp [firstK]
        have hCo := decideL_ok hoo (firstK (dNn N l) k)
        have hCl := decideL_length O (firstK (dNn N l) k)
        have hco := nightIn_cost (n := N) a2 hoo hN2 (firstK (dNn N l) k)
        rw [trueN_all N O _ hall hfd, firstK_count _ _ hkd, hown, hgd _ hCo] at hco
        have hrn := rnight_ok false (n := N) hpo hN2 hCo (by omega)
        have nok := night_nok hpo hN2 hCo
        have nlen := nok.len
        have hrb := rbalance_ok false (nightOf p N (decideL O (firstK (dNn N l) k))) (-1) (fun x hx => (nok.out x hx).1) (by rw [hCl] at nlen; exact Nat.le_trans nlen (by omega))
        have hgb := gN_bd a2 l N hkd
        have hm1 : Hid (minTo (gN ps l N) k = min x (gN ps l N k) ∧ maxTo (gN ps l N) k = max y (gN ps l N k)) := ⟨by
          by_cases h0 : k = 0
          · subst h0
            obtain ⟨ex, ey⟩ := hx.out.1 rfl
            subst ex; subst ey
            unfold minTo maxTo
            omega
          · obtain ⟨k', rfl⟩ : ∃ k', k = k' + 1 := ⟨k - 1, by omega⟩
            obtain ⟨ex, ey⟩ := hx.out.2 (by omega)
            rw [ex, ey]
            exact ⟨rfl, rfl⟩⟩
        generalize decideL O (firstK (dNn N l) k) = C at *
        generalize nightOf p N C = Q at *
        generalize hBB : bal Q (-1) = B at *
        rw [← hco] at hgb hm1
        clear hx hco nok nlen hCo hall hoo hown hgd hfd
        ((conv => whnf); repeat' ((first | refine GCallN.pure _ hfi ?_ | refine GCallN.pure _ hrn ?_ | refine GCallN.pure _ hrb ?_ | refine vv7 ?_ | refine vv20 ?_ | refine vv21 ?_ | refine vv25 ?_ | refine DrawN.gen (by first | exact tryd_ok _ | exact tryd_okm _ _) (by kernel_rfl) ?_ | refine CallN.pure (hrd) ?_) <;> (conv => whnf)))
        refine BackN3.mk (k + 1) (min x (0 - B)) (max y (0 - B)) ⟨by omega, fun h => by omega, fun _ => ?_⟩ (by omega) (Reabs.frmM [0, 1, 2, 3] (by repeat (first | exact trivial | refine ⟨.inr ⟨rfl, rfl⟩, ?_⟩ | refine ⟨.inr ⟨rfl, vi_eq (by first | omega | (simp; done) | (simp; omega))⟩, ?_⟩ | refine ⟨.inr ⟨rfl, smE rfl (by first | omega | (simp; done) | (simp; omega))⟩, ?_⟩)) (by repeat (first | exact trivial | refine ⟨⟨_, rfl, (by first | exact blkDead | exact blkDeep rfl (deepLit rfl) | exact blkDeep rfl (deepMap (fun _ => rfl)) | exact blkOk rfl rfl | exact blkLoop rfl rfl), (by first | exact fun _ => rfl | exact fun h => (by cases h))⟩, ?_⟩)) rfl rfl)
        rw [Nat.add_sub_cancel, hm1.out.1, hm1.out.2, show 0 - B = -B by omega]
        exact ⟨rfl, rfl⟩
      · obtain ⟨ex, ey⟩ := hx.out.2 (by omega)
        rw [show k - 1 = dNn N l by omega] at ex ey
        change x = outLo ps l N at ex
        change y = outHi ps l N at ey
        subst ex
        subst ey
        ((conv => whnf); repeat' ((first | refine vv8 ?_ | refine vv20 ?_ | refine vv21 ?_ | refine vv22 ?_ | refine CallN.pure (hrd) ?_) <;> (conv => whnf)))
        refine BackN.mk (m + 1) (by omega) (by omega) ?_
        simp only [e1, e2]
        exact (Reabs.frmM [0, 1, 2] (by repeat (first | exact trivial | refine ⟨.inr ⟨rfl, rfl⟩, ?_⟩ | refine ⟨.inr ⟨rfl, vi_eq (by first | omega | (simp; done) | (simp; omega))⟩, ?_⟩ | refine ⟨.inr ⟨rfl, smE rfl (by first | omega | (simp; done) | (simp; omega))⟩, ?_⟩)) (by repeat (first | exact trivial | refine ⟨⟨_, rfl, (by first | exact blkDead | exact blkDeep rfl (deepLit rfl) | exact blkDeep rfl (deepMap (fun _ => rfl)) | exact blkOk rfl rfl | exact blkLoop rfl rfl), (by first | exact fun _ => rfl | exact fun h => (by cases h))⟩, ?_⟩)) rfl rfl)
    · rw [Bool.eq_false_iff.2 hf] at hfo
      obtain ⟨z1, z2⟩ := out_none l hf
      rw [z1] at e1
      rw [z2] at e2
      rw [Int.add_zero] at e1 e2
      ((conv => whnf); repeat' ((first | refine CallN.pure hfo ?_ | refine vv1 ?_ | refine vv3 ?_ | refine vv20 ?_ | refine vv21 ?_ | refine vv22 ?_) <;> (conv => whnf)))
      refine BackN.mk (m + 1) (by omega) (by omega) ?_
      simp only [e1, e2]
      exact (Reabs.frmM [0, 1, 2] (by repeat (first | exact trivial | refine ⟨.inr ⟨rfl, rfl⟩, ?_⟩ | refine ⟨.inr ⟨rfl, vi_eq (by first | omega | (simp; done) | (simp; omega))⟩, ?_⟩ | refine ⟨.inr ⟨rfl, smE rfl (by first | omega | (simp; done) | (simp; omega))⟩, ?_⟩)) (by repeat (first | exact trivial | refine ⟨⟨_, rfl, (by first | exact blkDead | exact blkDeep rfl (deepLit rfl) | exact blkDeep rfl (deepMap (fun _ => rfl)) | exact blkOk rfl rfl | exact blkLoop rfl rfl), (by first | exact fun _ => rfl | exact fun h => (by cases h))⟩, ?_⟩)) rfl rfl)
  · ((conv => whnf); repeat' ((first | refine vv4 ?_ | refine vv21 ?_ | refine vv22 ?_) <;> (conv => whnf)))
    obtain rfl : m = (s.hi - s.lo + 1).toNat := by omega
    refine DoneN.pure ?_
    rw [hS1, hS2]
end Go.Proofs.Ax
