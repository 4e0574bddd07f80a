import Derived.Test.YtdfgphfijfocoaaGreatDoorRbOl
namespace Go.Proofs.Ax
open Go Go.Proofs
set_option maxRecDepth 10000
set_option maxHeartbeats 8000000
theorem ofN_succ {n : Int} {l : List Round} {k : Nat} (h : k < l.length) : ofN n (l.take (k + 1)) = ofN n (l.take k) ++ if l[k].night = n then [l[k]] else [] := by
  unfold ofN
  rw [take_succ_snoc h, List.filter_append]
  congr 1
  rw [List.filter_cons]
  by_cases hk : l[k].night = n
  · simp [hk]
  · simp [hk]
theorem ofN_len (n : Int) (l : List Round) : (ofN n l).length ≤ l.length := List.length_filter_le _ _
/-- What is known of the least and the greatest so far. -/
def MinMax (g : Nat → Int) (b : Nat) (x y : Int) : Prop := (∀ j, j < b → x ≤ g j ∧ g j ≤ y) ∧ (0 < b → (∃ j, j < b ∧ x = g j) ∧ ∃ j, j < b ∧ y = g j)
theorem MinMax.step {g : Nat → Int} {b : Nat} {x y : Int} (h : MinMax g b x y) (hb : 0 < b) : MinMax g (b + 1) (min x (g b)) (max y (g b)) := by
  obtain ⟨h1, h2⟩ := h
  obtain ⟨⟨i, hi, ex⟩, j, hj, ey⟩ := h2 hb
  refine ⟨fun k hk => ?_, fun _ => ⟨?_, ?_⟩⟩
  · by_cases e : k = b
    · subst e; omega
    · have := h1 k (by omega); omega
  · by_cases e : x ≤ g b
    · exact ⟨i, by omega, by omega⟩
    · exact ⟨b, by omega, by omega⟩
  · by_cases e : g b ≤ y
    · exact ⟨j, by omega, by omega⟩
    · exact ⟨b, by omega, by omega⟩
theorem MinMax.one (g : Nat → Int) : MinMax g 1 (g 0) (g 0) := ⟨fun j hj => by rw [show j = 0 by omega]; omega, fun _ => ⟨⟨0, by omega, rfl⟩, 0, by omega, rfl⟩⟩
/-- Over all ways to decide, the least and the greatest are those over the numbers of certified ones. -/
theorem MinMax.bits {g : Nat → Int} {d : Nat} {x y : Int} (h : MinMax (fun b => g ((bitsOf d b).countP fun b => b)) (2 ^ d) x y) : x = minTo g d ∧ y = maxTo g d := by
  obtain ⟨h1, h2⟩ := h
  obtain ⟨⟨i, hi, ex⟩, j, hj, ey⟩ := h2 (Nat.two_pow_pos d)
  have key : ∀ k, k ≤ d → x ≤ g k ∧ g k ≤ y := fun k hk => by
    have hlt : 2 ^ k - 1 < 2 ^ d := by
      have h3 : 2 ^ k ≤ 2 ^ d := Nat.pow_le_pow_right (by decide) hk
      have h4 := Nat.two_pow_pos k
      omega
    have := h1 (2 ^ k - 1) hlt
    simp only [bits_first, firstK_count d k hk] at this
    exact this
  obtain ⟨k, hk, ek⟩ := minTo_at g d
  obtain ⟨k2, hk2, ek2⟩ := maxTo_at g d
  have a1 := key k hk
  have a2 := key k2 hk2
  have b1 := minTo_le g d _ (bits_count_le d i)
  have b2 := maxTo_ge g d _ (bits_count_le d j)
  simp only at ex ey
  omega
theorem of_sm (c : OC) (acc : Int) : Ef Tryz.prog G1 64 [.agg c.p.enc, vi c.n, .sm 4 4 0 c.cur.length] [.rows [c.s.enc] 25, .rows [[vi 0, vi 0]] 25, .rows [[vi c.c0, vi c.c1]] 25, .rows [c.p.enc] 105, .rows (c.cur.map Round.enc) 87, .rows [[vi c.x, vi c.y]] 25, .rows [[vi acc]] 3] fun y H' => y = .fn (.func 104) [] [.pm 7 0 0, .pm 8 0 0, .pm 9 0 0] ∧ H' = H36 c acc := by
  refine Ef.of_ev (T := Tryz.tab) (n := 8) (tryd_okm 7 _) rfl Tryz.func64 rfl rfl (by simp) ?_
  (conv => whnf)
  exact ⟨⟨rfl, rfl⟩⟩
theorem out_none {ps : List Policy} (l : List Round) {n : Int} (h : ¬ (forceOf ps n).2 = true) : outLo ps l n = 0 ∧ outHi ps l n = 0 := by
  have hg : gN ps l n = fun _ => 0 := by funext k; unfold gN; rw [if_neg h]
  obtain ⟨k, _, h1⟩ := minTo_at (gN ps l n) (dNn n l)
  obtain ⟨j, _, h2⟩ := maxTo_at (gN ps l n) (dNn n l)
  unfold outLo outHi
  rw [h1, h2, hg]
  exact ⟨rfl, rfl⟩
structure BS where
  b : Nat
  cur : List Round
  x : Int
  y : Int
  f : Bool
theorem outlook_good (t u : Bool) (ps : List Policy) (l : List Round) (s : Span) (hmax : ps.length ≤ 9223372036854775807) (hmax' : l.length ≤ 9223372036854775807) (h : askedErr ps l s = 0) (hd : ∀ n, dNn n l ≤ 12) : Pu Tryz.prog G1 20 [policies t ps, rounds u l, .agg s.enc]
    (.tuple [.agg [vi (sumTo (outLo ps l) s.lo (s.hi - s.lo + 1).toNat), vi (sumTo (outHi ps l) s.lo (s.hi - s.lo + 1).toNat)], vi 0]) := by
  obtain ⟨h1, h2, h3⟩ := askedErr_0 h
  obtain ⟨a1, a2⟩ := checkPol_0 h1
  obtain ⟨b1, b2⟩ := checkRounds_0 h2
  have ha := asked_ok t u ps l s hmax hmax'
  rw [h] at ha
  have hs := spanErr_0 h3
  refine Pu.of_ev (T := Tryz.tab) (n := 127) (tryd_ok _) Tryz.func20 rfl rfl rfl (by first | rfl | (split <;> rfl)) (by simp) ?_
  ((conv => whnf); repeat' ((first | refine vv2 ?_ | refine vv21 ?_ | refine CallN.pure (ha) ?_) <;> (conv => whnf)))
  refine LoopN.of (tryd_ok _) (fun m : Nat => [(0, policies t ps), (1, rounds u l), (5, .pm 0 0 0), (6, .pm 1 0 0), (9, .pm 2 0 0), (10, vi (s.lo + (m : Int)))]) (fun m => [.rows [s.enc] 25, .rows [[vi 0, vi 0]] 25, .rows [[vi (sumTo (outLo ps l) s.lo m), vi (sumTo (outHi ps l) s.lo m)]] 25]) (fun m => (s.hi - s.lo + 1).toNat - m) (fun m => m ≤ (s.hi - s.lo + 1).toNat) 0 (Nat.zero_le _)
    (Reabs.frmM [0, 1, 2] (by repeat (first | exact trivial | refine ⟨.inr ⟨rfl, rfl⟩, ?_⟩ | refine ⟨.inr ⟨rfl, vi_eq (by first | omega | (simp; done) | (simp; omega))⟩, ?_⟩ | refine ⟨.inr ⟨rfl, smE rfl (by first | omega | (simp; done) | (simp; omega))⟩, ?_⟩)) (by repeat (first | exact trivial | refine ⟨⟨_, rfl, (by first | exact blkDead | exact blkDeep rfl (deepLit rfl) | exact blkDeep rfl (deepMap (fun _ => rfl)) | exact blkOk rfl rfl | exact blkLoop rfl rfl), (by first | exact fun _ => rfl | exact fun h => (by cases h))⟩, ?_⟩)) rfl rfl) ?_
  intro m hm
  have e1 := sumTo_succ (outLo ps l) s.lo m
  have e2 := sumTo_succ (outHi ps l) s.lo m
  have q1 := sumTo_bd (f := outLo ps l) (lo := s.lo) (a := -1000000) (b := 3000000) m (fun j _ => (out_bd a2 l _).1)
  have q2 := sumTo_bd (f := outHi ps l) (lo := s.lo) (a := -1000000) (b := 3000000) m (fun j _ => (out_bd a2 l _).2)
  have q3 := out_bd a2 l (s.lo + (m : Int))
  generalize hS1 : sumTo (outLo ps l) s.lo m = S1 at *
  generalize hS2 : sumTo (outHi ps l) s.lo m = S2 at *
  by_cases hlt : s.lo + (m : Int) ≤ s.hi
  · have hfo := force_ok t ps (s.lo + (m : Int)) (by omega)
    unfold pb at hfo
    by_cases hf : (forceOf ps (s.lo + (m : Int))).2 = true
    · have hpo := a2 _ (forceOf_mem hf)
      rw [hf] at hfo
      generalize hN : s.lo + (m : Int) = N at *
      have hgd : ∀ cs, (∀ r ∈ cs, Round.ok r) → nightIn ps cs N = nightOf (forceOf ps N).1 N cs := fun cs _ => by rw [nightIn, if_pos hf]
      have hN2 : 0 ≤ N ∧ N ≤ 20000 := by omega
      generalize hP : (forceOf ps N).1 = p at *
      ((conv => whnf); repeat' ((first | refine CallN.pure hfo ?_ | refine vv2 ?_ | refine vv3 ?_ | refine vv21 ?_ | refine vv22 ?_ | refine vv23 ?_) <;> (conv => whnf)))
      refine LoopN.of (tryd_ok _) (fun k : Nat => [(0, policies t ps), (1, rounds u l), (5, .pm 0 0 0), (6, .pm 1 0 0), (9, .pm 2 0 0), (10, vi N), (11, .pm 3 0 0), (13, .sm 4 4 0 (ofN N (l.take k)).length), (48, rounds u l), (49, vi l.length), (50, vi k)]) (fun k => [.rows [s.enc] 25, .rows [[vi 0, vi 0]] 25, .rows [[vi S1, vi S2]] 25, .rows [p.enc] 105, .rows ((ofN N (l.take k)).map Round.enc) 87]) (fun k => l.length - k) (fun k => k ≤ l.length) 0 (Nat.zero_le _)
        ((Reabs.virt 13 4 87 rfl).trans (Reabs.frmM [0, 1, 2, 3, 4] (by repeat (first | exact trivial | refine ⟨.inr ⟨rfl, rfl⟩, ?_⟩ | refine ⟨.inr ⟨rfl, vi_eq (by first | omega | (simp; done) | (simp; omega))⟩, ?_⟩ | refine ⟨.inr ⟨rfl, smE rfl (by first | omega | (simp; done) | (simp; omega))⟩, ?_⟩)) (by repeat (first | exact trivial | refine ⟨⟨_, rfl, (by first | exact blkDead | exact blkDeep rfl (deepLit rfl) | exact blkDeep rfl (deepMap (fun _ => rfl)) | exact blkOk rfl rfl | exact blkLoop rfl rfl), (by first | exact fun _ => rfl | exact fun h => (by cases h))⟩, ?_⟩)) rfl rfl)) ?_
      intro k hk
      have hol := ofN_len N (l.take k)
      rw [List.length_take, Nat.min_eq_left hk] at hol
      by_cases hkl : k < l.length
      · have hos := ofN_succ (n := N) hkl
        by_cases hnn : l[k].night = N
        · rw [if_pos hnn] at hos
          ((conv => whnf); repeat' ((first | refine vv3 ?_ | refine vv7 ?_ | refine vv20 ?_ | refine SlIdxN.map _ rfl (by first | assumption | omega) ?_ | refine vv21 ?_ | refine vv22 ?_ | refine vv31 ?_ | refine vv33 ?_) <;> (conv => whnf)))
          refine BackN.mk (k + 1) (by omega) (by omega) ?_
          simp only [hos]
          exact (Reabs.frmM [0, 1, 2, 3, 6] (by repeat (first | exact trivial | refine ⟨.inr ⟨rfl, rfl⟩, ?_⟩ | refine ⟨.inr ⟨rfl, vi_eq (by first | omega | (simp; done) | (simp; omega))⟩, ?_⟩ | refine ⟨.inr ⟨rfl, smE rfl (by first | omega | (simp; done) | (simp; omega))⟩, ?_⟩)) (by exact ⟨⟨_, rfl, blkDeep rfl (deepLit rfl), fun _ => rfl⟩, ⟨_, rfl, blkDeep rfl (deepLit rfl), fun _ => rfl⟩, ⟨_, rfl, blkDeep rfl (deepLit rfl), fun _ => rfl⟩, ⟨_, rfl, blkDeep rfl (deepLit rfl), fun _ => rfl⟩, ⟨_, rfl, blkDeep (by rw [List.map_append]; rfl) (deepMap (fun _ => rfl)), fun _ => rfl⟩, trivial⟩) rfl rfl)
        · rw [if_neg hnn, List.append_nil] at hos
          ((conv => whnf); repeat' ((first | refine vv4 ?_ | refine vv7 ?_ | refine vv20 ?_ | refine SlIdxN.map _ rfl (by first | assumption | omega) ?_ | refine vv21 ?_ | refine vv22 ?_) <;> (conv => whnf)))
          refine BackN.mk (k + 1) (by omega) (by omega) ?_
          simp only [hos]
          exact (Reabs.frmM [0, 1, 2, 3, 4] (by repeat (first | exact trivial | refine ⟨.inr ⟨rfl, rfl⟩, ?_⟩ | refine ⟨.inr ⟨rfl, vi_eq (by first | omega | (simp; done) | (simp; omega))⟩, ?_⟩ | refine ⟨.inr ⟨rfl, smE rfl (by first | omega | (simp; done) | (simp; omega))⟩, ?_⟩)) (by repeat (first | exact trivial | refine ⟨⟨_, rfl, (by first | exact blkDead | exact blkDeep rfl (deepLit rfl) | exact blkDeep rfl (deepMap (fun _ => rfl)) | exact blkOk rfl rfl | exact blkLoop rfl rfl), (by first | exact fun _ => rfl | exact fun h => (by cases h))⟩, ?_⟩)) rfl rfl)
      obtain rfl : k = l.length := by omega
      rw [List.take_length] at hol ⊢
      have hown := ofN_gN ps l N
      have hodn := ofN_dN N l
      have hall := ofN_all (n := N) (l := l)
      have hoo : ∀ r ∈ ofN N l, r.ok := fun r hr => b2 r (List.mem_filter.1 hr).1
      have hd12 := hd N
      generalize hO : ofN N l = O at *
      have hil := dInts_len (l := O) (Nat.le_refl _)
      rw [rk_all, hodn] at hil
      have hdi := doubtful_in O (by omega) [.rows [s.enc] 25, .rows [[vi 0, vi 0]] 25, .rows [[vi S1, vi S2]] 25, .rows [p.enc] 105, .rows (O.map Round.enc) 87] 4 _ rfl rfl
      ((conv => whnf); repeat' ((first | refine CallN.efD hdi ?_ | refine StepN.shl1 rfl rfl (by omega) ?_ | refine vv8 ?_ | refine vv23 ?_) <;> (conv => whnf)))
      have hgeq : gN ps O N = gN ps l N := funext hown
      have hp2 : 0 < 2 ^ dNn N l := Nat.two_pow_pos _
      have hp3 : 2 ^ dNn N l ≤ 2 ^ 12 := Nat.pow_le_pow_right (by decide) hd12
      refine LoopN.of (σ := BS) (tryd_ok _) (fun z => [(0, policies t ps), (1, rounds u l), (5, .pm 0 0 0), (6, .pm 1 0 0), (9, .pm 2 0 0), (10, vi N), (11, .pm 3 0 0), (13, .sm 4 4 0 O.length), (16, ints false (dInts O O.length)), (17, vb z.f), (18, .pm 5 0 0), (67, vi ((2 ^ dNn N l : Nat) : Int)), (68, vi z.b)])
        (fun z => [.rows [s.enc] 25, .rows [[vi 0, vi 0]] 25, .rows [[vi S1, vi S2]] 25, .rows [p.enc] 105, .rows (z.cur.map Round.enc) 87, .rows [[vi z.x, vi z.y]] 25]) (fun z => 2 ^ dNn N l - z.b)
        (fun z => z.b ≤ 2 ^ dNn N l ∧ z.cur.length = O.length ∧ (∀ i (h : i < O.length), Alike (z.cur.getD i rnd0) O[i]) ∧ (∀ i (h : i < O.length), O[i].kind ≠ 2 → z.cur.getD i rnd0 = O[i]) ∧ MinMax (fun b => gN ps O N ((bitsOf (dNn N l) b).countP fun b => b)) z.b z.x z.y ∧ z.f = decide (z.b = 0))
        ⟨0, O, 0, 0, true⟩ ⟨Nat.zero_le _, rfl, fun i h => ⟨_, by rw [getD_r h]⟩, fun i h _ => getD_r h, ⟨fun j hj => absurd hj (Nat.not_lt_zero j), fun h => absurd h (Nat.lt_irrefl _)⟩, rfl⟩
        ?_ ?_
      · simp only [hil]
        exact (Reabs.frmM [0, 1, 2, 3, 4, 5] (by repeat (first | exact trivial | refine ⟨.inr ⟨rfl, rfl⟩, ?_⟩ | refine ⟨.inr ⟨rfl, vi_eq (by first | omega | (simp; done) | (simp; omega))⟩, ?_⟩ | refine ⟨.inr ⟨rfl, smE rfl (by first | omega | (simp; done) | (simp; omega))⟩, ?_⟩)) (by repeat (first | exact trivial | refine ⟨⟨_, rfl, (by first | exact blkDead | exact blkDeep rfl (deepLit rfl) | exact blkDeep rfl (deepMap (fun _ => rfl)) | exact blkOk rfl rfl | exact blkLoop rfl rfl), (by first | exact fun _ => rfl | exact fun h => (by cases h))⟩, ?_⟩)) rfl rfl)
      rintro ⟨b, cur, x, y, f⟩ ⟨hb, hcl, hal, hnd, hmm, hf2⟩
      simp only at hb hcl hal hnd hmm hf2
      dsimp only
      by_cases hbl : b < 2 ^ dNn N l
      · ((conv => whnf); repeat' ((first | refine vv7 ?_ | refine vv23 ?_) <;> (conv => whnf)))
        refine LoopN.of (tryd_ok _) (fun k : Nat => [(0, policies t ps), (1, rounds u l), (5, .pm 0 0 0), (6, .pm 1 0 0), (9, .pm 2 0 0), (10, vi N), (11, .pm 3 0 0), (13, .sm 4 4 0 O.length), (16, ints false (dInts O O.length)), (17, vb f), (18, .pm 5 0 0), (19, vi b), (67, vi ((2 ^ dNn N l : Nat) : Int)), (68, vi b), (71, ints false (dInts O O.length)), (72, vi (dInts O O.length).length), (73, vi k)])
          (fun k => [.rows [s.enc] 25, .rows [[vi 0, vi 0]] 25, .rows [[vi S1, vi S2]] 25, .rows [p.enc] 105, .rows ((mix cur O (bitsOf (dNn N l) b) k).map Round.enc) 87, .rows [[vi x, vi y]] 25]) (fun k => dN O - k) (fun k => k ≤ dN O) 0 (Nat.zero_le _) ?_ ?_
        · simp only [mix_0 hcl]
          exact (Reabs.frmM [0, 1, 2, 3, 4, 5] (by repeat (first | exact trivial | refine ⟨.inr ⟨rfl, rfl⟩, ?_⟩ | refine ⟨.inr ⟨rfl, vi_eq (by first | omega | (simp; done) | (simp; omega))⟩, ?_⟩ | refine ⟨.inr ⟨rfl, smE rfl (by first | omega | (simp; done) | (simp; omega))⟩, ?_⟩)) (by repeat (first | exact trivial | refine ⟨⟨_, rfl, (by first | exact blkDead | exact blkDeep rfl (deepLit rfl) | exact blkDeep rfl (deepMap (fun _ => rfl)) | exact blkOk rfl rfl | exact blkLoop rfl rfl), (by first | exact fun _ => rfl | exact fun h => (by cases h))⟩, ?_⟩)) rfl rfl)
        intro k hk2
        have hmx := mix_len cur O (bitsOf (dNn N l) b) k
        by_cases hlt2 : k < dN O
        · obtain ⟨i, hi, g1, g2, g3⟩ := dInts_get (l := O) (j := k) (by omega)
          have hst := mix_step (prev := cur) (l := O) (bs := bitsOf (dNn N l) b) (k := k) (i := i) hi g2 g3
          obtain ⟨kd, hkd⟩ := mix_alike (prev := cur) (l := O) (bs := bitsOf (dNn N l) b) hal k i hi
          have hil2 : i < (List.map Round.enc (mix cur O (bitsOf (dNn N l) b) k)).length := by rw [List.length_map]; omega
          have hbit : (bitsOf (dNn N l) b).getD k false = decide (b / 2 ^ k % 2 = 1) := by
            rw [List.getD_eq_getElem?_getD]
            simp only [bitsOf, List.getElem?_map, List.getElem?_range (show k < dNn N l by omega), Option.map_some, Option.getD_some]
            exact Nat.testBit_eq_decide_div_mod_eq
          rw [hbit] at hst
          by_cases hbt : ((b / 2 ^ k : Nat) : Int) % 2 = 1
          · rw [decide_eq_true (by omega)] at hst
            ((conv => whnf); repeat' ((first | refine IdxN.at0 i (by omega) (by omega) ?_ | refine RowSN.setR (by assumption) ?_ | refine StepN.shrN rfl rfl (by omega) ?_ | refine StepN.and1 rfl rfl ?_ | refine vv3 ?_ | refine vv7 ?_ | refine vv20 ?_ | refine SlIdxN.map _ rfl (by first | assumption | omega) ?_ | refine RowSN.map (by first | assumption | omega) ?_) <;> (conv => whnf)))
            refine BackN.mk (k + 1) (by omega) (by omega) ?_
            simp only [← hst]
            exact (Reabs.frmM [0, 1, 2, 3, 4, 5] (by repeat (first | exact trivial | refine ⟨.inr ⟨rfl, rfl⟩, ?_⟩ | refine ⟨.inr ⟨rfl, vi_eq (by first | omega | (simp; done) | (simp; omega))⟩, ?_⟩ | refine ⟨.inr ⟨rfl, smE rfl (by first | omega | (simp; done) | (simp; omega))⟩, ?_⟩)) (by exact ⟨⟨_, rfl, blkDeep rfl (deepLit rfl), fun _ => rfl⟩, ⟨_, rfl, blkDeep rfl (deepLit rfl), fun _ => rfl⟩, ⟨_, rfl, blkDeep rfl (deepLit rfl), fun _ => rfl⟩, ⟨_, rfl, blkDeep rfl (deepLit rfl), fun _ => rfl⟩, ⟨_, rfl, blkDeep (by rw [List.map_set]; congr 2; rw [hkd]; rfl) (deepMap (fun _ => rfl)), fun _ => rfl⟩, ⟨_, rfl, blkDeep rfl (deepLit rfl), fun _ => rfl⟩, trivial⟩) rfl rfl)
          · rw [decide_eq_false (by omega)] at hst
            ((conv => whnf); repeat' ((first | refine IdxN.at0 i (by omega) (by omega) ?_ | refine StepN.shrN rfl rfl (by omega) ?_ | refine StepN.and1 rfl rfl ?_ | refine vv4 ?_ | refine vv7 ?_ | refine vv20 ?_ | refine SlIdxN.map _ rfl (by first | assumption | omega) ?_ | refine RowSN.map (by first | assumption | omega) ?_) <;> (conv => whnf)))
            refine BackN.mk (k + 1) (by omega) (by omega) ?_
            simp only [← hst]
            exact (Reabs.frmM [0, 1, 2, 3, 4, 5] (by repeat (first | exact trivial | refine ⟨.inr ⟨rfl, rfl⟩, ?_⟩ | refine ⟨.inr ⟨rfl, vi_eq (by first | omega | (simp; done) | (simp; omega))⟩, ?_⟩ | refine ⟨.inr ⟨rfl, smE rfl (by first | omega | (simp; done) | (simp; omega))⟩, ?_⟩)) (by exact ⟨⟨_, rfl, blkDeep rfl (deepLit rfl), fun _ => rfl⟩, ⟨_, rfl, blkDeep rfl (deepLit rfl), fun _ => rfl⟩, ⟨_, rfl, blkDeep rfl (deepLit rfl), fun _ => rfl⟩, ⟨_, rfl, blkDeep rfl (deepLit rfl), fun _ => rfl⟩, ⟨_, rfl, blkDeep (by rw [List.map_set]; congr 2; rw [hkd]; rfl) (deepMap (fun _ => rfl)), fun _ => rfl⟩, ⟨_, rfl, blkDeep rfl (deepLit rfl), fun _ => rfl⟩, trivial⟩) rfl rfl)
        obtain rfl : k = dN O := by omega
        rw [mix_all hnd]
        have hbl2 : (bitsOf (dNn N l) b).length = dN O := by simp [bitsOf]; omega
        have hcost := nightIn_cost (n := N) a2 hoo hN2 (bitsOf (dNn N l) b)
        rw [trueN_all N O _ hall hbl2, hgd _ (decideL_ok hoo _)] at hcost
        have hCl := decideL_length O (bitsOf (dNn N l) b)
        have hCo := decideL_ok hoo (bitsOf (dNn N l) b)
        have hCa := fun i h => decideL_alike O (bitsOf (dNn N l) b) i h
        have hCn : ∀ i (h : i < O.length), O[i].kind ≠ 2 → (decideL O (bitsOf (dNn N l) b)).getD i rnd0 = O[i] := fun i h hk => by rw [getD_r (by omega), decideL_get _ _ _ h, if_neg hk]
        have hgb := gN_bd a2 O N (k := (bitsOf (dNn N l) b).countP fun b => b) (by have := bits_count_le (dNn N l) b; have := ofN_dN N O; rw [show ofN N O = O from List.filter_eq_self.2 (fun r hr => decide_eq_true (hall r hr))] at this; omega)
        have hG : gN ps O N ((bitsOf (dNn N l) b).countP fun b => b) = -(bal (nightOf p N (decideL O (bitsOf (dNn N l) b))) (-1)) := hcost.symm
        rw [← hcost] at hgb
        generalize decideL O (bitsOf (dNn N l) b) = C at *
        have hsm := of_sm ⟨s, S1, S2, p, C, x, y, N, fl36 t u ps l N O.length (dInts O O.length) f (2 ^ dNn N l) b⟩ 0
        simp only [hCl] at hsm
        ((conv => whnf); repeat' ((first | refine CallN.efD hsm ?_ | refine vv8 ?_ | refine vv21 ?_ | refine vv22 ?_) <;> (conv => whnf)))
        refine RangeN.re (l' := fl36 t u ps l N O.length (dInts O O.length) f (2 ^ dNn N l) b) (H' := H36 ⟨s, S1, S2, p, C, x, y, N, fl36 t u ps l N O.length (dInts O O.length) f (2 ^ dNn N l) b⟩ 0) (Reabs.frmM [0, 1, 2, 3, 4, 5, 6, 7, 8, 9] (by repeat (first | exact trivial | refine ⟨.inr ⟨rfl, rfl⟩, ?_⟩)) (by exact ⟨⟨_, rfl, blkDeep rfl (deepLit rfl), fun _ => rfl⟩, ⟨_, rfl, blkDeep rfl (deepLit rfl), fun _ => rfl⟩, ⟨_, rfl, blkDeep rfl (deepLit rfl), fun _ => rfl⟩, ⟨_, rfl, blkDeep rfl (deepLit rfl), fun _ => rfl⟩, ⟨_, rfl, blkDeep rfl (deepMap (fun _ => rfl)), fun _ => rfl⟩, ⟨_, rfl, blkDeep rfl (deepLit rfl), fun _ => rfl⟩, ⟨_, rfl, blkDeep rfl (deepLit rfl), fun _ => rfl⟩, ⟨_, rfl, blkDeep rfl (deepLit rfl), fun _ => rfl⟩, ⟨_, rfl, blkDeep rfl (deepLit rfl), fun _ => rfl⟩, ⟨_, rfl, blkOk rfl (by simp only [hCl]; rfl), fun _ => rfl⟩, trivial⟩) rfl rfl) ?_
        refine RangeN.of (tryd_ok _) rfl rfl (of2_ok ⟨s, S1, S2, p, C, x, y, N, fl36 t u ps l N O.length (dInts O O.length) f (2 ^ dNn N l) b⟩ hpo hN2 hCo (by simp only; omega) t u ps l N O.length (dInts O O.length) f (2 ^ dNn N l) b rfl) ?_
        rintro y' H' ⟨rfl, rfl⟩
        conv => whnf
        refine ⟨nofun, ?_⟩
        dsimp only
        generalize hGG : -(bal (nightOf p N C) (-1)) = G at *
        by_cases hb0 : b = 0
        · obtain rfl : f = true := by rw [hf2]; simp [hb0]
          ((conv => whnf); repeat' ((first | refine vv1 ?_ | refine vv20 ?_ | refine vv21 ?_ | refine vv22 ?_) <;> (conv => whnf)))
          refine BackN.mk ⟨b + 1, C, min G G, max G G, false⟩ ⟨by show b + 1 ≤ _; omega, hCl, hCa, hCn, ?_, by simp⟩ (by show 2 ^ dNn N l - (b + 1) < 2 ^ dNn N l - b; omega) (Reabs.frmM [0, 1, 2, 3, 4, 5] (by repeat (first | exact trivial | refine ⟨.inr ⟨rfl, rfl⟩, ?_⟩ | refine ⟨.inr ⟨rfl, vi_eq (by first | omega | (simp; done) | (simp; omega))⟩, ?_⟩ | refine ⟨.inr ⟨rfl, smE rfl (by first | omega | (simp; done) | (simp; omega))⟩, ?_⟩)) (by repeat (first | exact trivial | refine ⟨⟨_, rfl, (by first | exact blkDead | exact blkDeep rfl (deepLit rfl) | exact blkDeep rfl (deepMap (fun _ => rfl)) | exact blkOk rfl rfl | exact blkLoop rfl rfl), (by first | exact fun _ => rfl | exact fun h => (by cases h))⟩, ?_⟩)) rfl rfl)
          subst hb0
          have h1 := MinMax.one (fun b => gN ps O N ((bitsOf (dNn N l) b).countP fun b => b))
          rw [hG] at h1
          simp only [Int.min_self, Int.max_self, Nat.zero_add]
          exact h1
        · obtain rfl : f = false := by rw [hf2]; simp [hb0]
          ((conv => whnf); repeat' ((first | refine vv2 ?_ | refine vv20 ?_ | refine vv21 ?_ | refine vv22 ?_) <;> (conv => whnf)))
          refine BackN.mk ⟨b + 1, C, min x G, max y G, false⟩ ⟨by show b + 1 ≤ _; omega, hCl, hCa, hCn, ?_, by simp⟩ (by show 2 ^ dNn N l - (b + 1) < 2 ^ dNn N l - b; omega) (Reabs.frmM [0, 1, 2, 3, 4, 5] (by repeat (first | exact trivial | refine ⟨.inr ⟨rfl, rfl⟩, ?_⟩ | refine ⟨.inr ⟨rfl, vi_eq (by first | omega | (simp; done) | (simp; omega))⟩, ?_⟩ | refine ⟨.inr ⟨rfl, smE rfl (by first | omega | (simp; done) | (simp; omega))⟩, ?_⟩)) (by repeat (first | exact trivial | refine ⟨⟨_, rfl, (by first | exact blkDead | exact blkDeep rfl (deepLit rfl) | exact blkDeep rfl (deepMap (fun _ => rfl)) | exact blkOk rfl rfl | exact blkLoop rfl rfl), (by first | exact fun _ => rfl | exact fun h => (by cases h))⟩, ?_⟩)) rfl rfl)
          have h1 := hmm.step (by omega)
          rw [hG] at h1
          exact h1
      obtain rfl : b = 2 ^ dNn N l := by omega
      obtain ⟨ex, ey⟩ := MinMax.bits hmm
      rw [hgeq] at ex ey
      change x = outLo ps l N at ex
      change y = outHi ps l N at ey
      subst ex
      subst ey
      ((conv => whnf); repeat' ((first | refine vv8 ?_ | refine vv20 ?_ | refine vv21 ?_ | refine vv22 ?_) <;> (conv => whnf)))
      refine BackN.mk (m + 1) (by omega) (by omega) ?_
      simp only [e1, e2]
      exact (Reabs.frmM [0, 1, 2] (by repeat (first | exact trivial | refine ⟨.inr ⟨rfl, rfl⟩, ?_⟩ | refine ⟨.inr ⟨rfl, vi_eq (by first | omega | (simp; done) | (simp; omega))⟩, ?_⟩ | refine ⟨.inr ⟨rfl, smE rfl (by first | omega | (simp; done) | (simp; omega))⟩, ?_⟩)) (by repeat (first | exact trivial | refine ⟨⟨_, rfl, (by first | exact blkDead | exact blkDeep rfl (deepLit rfl) | exact blkDeep rfl (deepMap (fun _ => rfl)) | exact blkOk rfl rfl | exact blkLoop rfl rfl), (by first | exact fun _ => rfl | exact fun h => (by cases h))⟩, ?_⟩)) rfl rfl)
    · rw [Bool.eq_false_iff.2 hf] at hfo
      obtain ⟨z1, z2⟩ := out_none l hf
      rw [z1] at e1
      rw [z2] at e2
      rw [Int.add_zero] at e1 e2
      ((conv => whnf); repeat' ((first | refine CallN.pure hfo ?_ | refine vv1 ?_ | refine vv3 ?_ | refine vv20 ?_ | refine vv21 ?_ | refine vv22 ?_) <;> (conv => whnf)))
      refine BackN.mk (m + 1) (by omega) (by omega) ?_
      simp only [e1, e2]
      exact (Reabs.frmM [0, 1, 2] (by repeat (first | exact trivial | refine ⟨.inr ⟨rfl, rfl⟩, ?_⟩ | refine ⟨.inr ⟨rfl, vi_eq (by first | omega | (simp; done) | (simp; omega))⟩, ?_⟩ | refine ⟨.inr ⟨rfl, smE rfl (by first | omega | (simp; done) | (simp; omega))⟩, ?_⟩)) (by repeat (first | exact trivial | refine ⟨⟨_, rfl, (by first | exact blkDead | exact blkDeep rfl (deepLit rfl) | exact blkDeep rfl (deepMap (fun _ => rfl)) | exact blkOk rfl rfl | exact blkLoop rfl rfl), (by first | exact fun _ => rfl | exact fun h => (by cases h))⟩, ?_⟩)) rfl rfl)
  · ((conv => whnf); repeat' ((first | refine vv4 ?_ | refine vv21 ?_ | refine vv22 ?_) <;> (conv => whnf)))
    obtain rfl : m = (s.hi - s.lo + 1).toNat := by omega
    refine DoneN.pure ?_
    rw [hS1, hS2]
end Go.Proofs.Ax
