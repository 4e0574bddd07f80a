import Derived.Test.YtedekogkeamacaaGreatDoorCcZZH
import Derived.Test.YtedekogkeamacaaGreatDoorCcZZJ
import Derived.Test.YtedekogkeamacaaGreatDoorCcRA
namespace Go.Proofs.Ax
open Go Go.Proofs Go.Proofs.Cu Go.Proofs.Tx
set_option maxRecDepth 10000
set_option maxHeartbeats 4000000
theorem rem_nat (k w n : Nat) : Int.tmod ((k : Int) + (w : Int)) (n : Int) = (((k + w) % n : Nat) : Int) := by
  rw [← Int.natCast_add]
  exact (Int.ofNat_tmod (k + w) n).symm
theorem BkS.rot {c : Book} (h : BkS c) (w : Nat) : BkS (rotB c w) := ⟨h.pl, h.kl, by show (rotL _ _).length ≤ _; rw [rotL_len]; exact h.el, h.du⟩
theorem suspectsV {c : Book} (hS : BkS c) (key : Int) {e : Int} (h : (suspectsF c key).2 = e) : Pu Tryz.prog G1 29 [bookV c, vi key] (.tuple [ints (suspectsF c key).1, vi e]) := by
  subst h; exact suspects_ok hS key
theorem susp_len {c : Book} (key : Int) : (suspectsF c key).1.length ≤ 1000000 := by
  unfold suspectsF
  split
  · exact Nat.zero_le _
  · rename_i h
    split
    · exact Nat.zero_le _
    · have hok := (asked_0 (c := c) (key := key) (by simpa using h)).1
      show (suspL c key).length ≤ _
      rw [← susK_all hok key]
      have := susK_len hok key c.entries.length
      have e : (sortL (susK c key c.entries.length)).length = (susK c key c.entries.length).length := (List.mergeSort_perm ..).length_eq
      omega
theorem order_good {c : Book} (hc : BkW c) (key t : Int) (s : Spn) (w : Nat) (hw : w < 256) (l : List Use) (p : List (List Mv)) (h : smallB c = true) (h12 : l.length ≤ 12) (hm : movesB p = true) (hck : checkE c = 0) : Pu Tryz.prog G1 10 (orderA c key t s w l p) (vb true) := by
  have hmm : p.length ≤ 12 ∧ ∀ h ∈ p, h.length ≤ 30 := by
    unfold movesB at hm
    simp only [Bool.and_eq_true, decide_eq_true_eq, List.all_eq_true] at hm
    exact ⟨hm.2, hm.1⟩
  have h1 := small_ok c hc
  rw [h] at h1
  have h2 := sanity_ok
  have h3 := moves_ok p (by omega) (fun x hx => by have := hmm.2 x hx; omega)
  rw [hm] at h3
  have hS := small_bks h
  have h4 := hS.check
  rw [hck] at h4
  have hok := (check_ok c).1 hck
  have hel : c.entries.length ≤ 40 := hok.lens.2.2
  refine Pu.of_fin (Ef.of_code (T := Tryz.tab) (n := 197) (tryd_okm 0 _) rfl Tryz.func10 rfl rfl (by simp) ?_) rfl rfl
  refine CodeN.seqE (tryd_okm 0 _) ?_
  (conv => whnf)
  refine CodeN.re ((Reabs.frz 1 [encS s] 28 rfl (deepAll rfl)).trans (Reabs.frz 0 [bookC c] 26 rfl (deepAll rfl))) ?_
  refine CodeN.seqE (tryd_okm 0 _) ?_
  ((conv => whnf); repeat' ((first | refine vv2 ?_ | refine vv8 ?_ | refine vv23 ?_ | refine CallN.pure (h1) ?_ | refine CallN.pure (h3) ?_ | refine CallN.pure (h4) ?_) <;> (conv => whnf)))
  refine CodeN.seqE (tryd_okm 0 _) ?_
  ((conv => whnf); repeat' ((first | refine vv22 ?_) <;> (conv => whnf)))
  refine CodeN.seqE (tryd_okm 0 _) ?_
  ((conv => whnf); repeat' ((first | refine vv22 ?_) <;> (conv => whnf)))
  refine CodeN.seqE (tryd_okm 0 _) ?_
  (conv => whnf)
  refine LoopN.re ((Reabs.more 68).trans (Reabs.cells 2 [bookX c nilA] [bookX c (.sm 3 7 0 0)] 26 rfl (show WkB [bookX c nilA] [bookX c (.sm 3 7 0 0)] from ⟨⟨WkC.refl _, WkC.refl _, WkC.nilSm _ _, WkC.refl _, trivial⟩, trivial⟩))) ?_
  refine LoopN.of (tryd_okm 0 _) (fun k : Nat => [(1, vi key), (2, vi t), (4, u8 w), (5, uses l), (6, hists p), (7, .pi (bookC c)), (10, .pi (encS s)), (15, .pm 0 0 0), (16, vi k)]) (fun k => [.rows [bookX c (.sm 1 7 0 k)] 26, .rows (((rotL c.entries w).take k).map encE) 68]) (fun k => c.entries.length - k) (fun k => k ≤ c.entries.length) 0 (Nat.zero_le _) (Reabs.frmM [2, 3] (by repeat (first | exact sv0 | refine sv1 ?_ | refine sv2 ?_ | refine sv3 ?_)) (by repeat (first | exact bv0 | refine bv1 ?_)) rfl rfl) ?_
  intro k hk
  by_cases hlt : k < c.entries.length
  · have hrem := rem_nat k w c.entries.length
    have hml : (k + w) % c.entries.length < c.entries.length := Nat.mod_lt _ (by omega)
    have hrl : k < (rotL c.entries w).length := by rw [rotL_len]; exact hlt
    have hsn : (rotL c.entries w).take (k + 1) = (rotL c.entries w).take k ++ [c.entries[(k + w) % c.entries.length]] := by
      rw [take_succ_snoc hrl, rotL_get _ _ hlt]
    have hle : ((rotL c.entries w).take k).length = k := by rw [List.length_take]; omega
    generalize (rotL c.entries w).take k = o at *
    generalize (k + w) % c.entries.length = m at *
    ((conv => whnf); repeat' ((first | refine SlIdxN.map m hrem hml ?_ | refine AppN.len (k + 1) (by first | omega | (simp; done) | (simp; omega)) (by first | omega | (simp; done) | (simp; omega)) (by first | omega | (simp; done) | (simp; omega)) ?_ | refine vv7 ?_ | refine vv20 ?_ | refine vv21 ?_ | refine vv22 ?_ | refine vv23 ?_ | refine vv25 ?_ | refine Need.mk (by first | assumption | omega | (simp <;> omega)) ?_ | refine DrawN.gen (by first | exact tryd_ok _ | exact tryd_okm _ _ | exact tryd_okr _ _ _) (by kernel_rfl) ?_ | refine vv31 ?_) <;> (conv => whnf)))
    exact BackN.mk (k + 1) (by omega) (by omega) (Reabs.frmM [0, 2] (by repeat (first | exact sv0 | refine sv1 ?_ | refine sv2 ?_ | refine sv3 ?_)) (by exact ⟨⟨_, rfl, blkOk rfl rfl, fun _ => rfl⟩, ⟨_, rfl, blkDeep (by rw [hsn, List.map_append]; rfl) (deepMap (fun _ => rfl)), fun _ => rfl⟩, trivial⟩) rfl rfl)
  · obtain rfl : k = c.entries.length := by omega
    have hall : (rotL c.entries w).take c.entries.length = rotL c.entries w := List.take_of_length_le (by rw [rotL_len]; exact Nat.le_refl _)
    rw [hall]
    ((conv => whnf); repeat' ((first | refine vv8 ?_ | refine vv23 ?_) <;> (conv => whnf)))
    have hfz : AV.frz0 1 ((rotL c.entries w).map encE) (.sm 1 7 0 c.entries.length) = entries (rotL c.entries w) := frz_all (by rw [List.length_map, rotL_len])
    refine CodeN.re (l' := [(1, vi key), (2, vi t), (5, uses l), (6, hists p), (7, .pi (bookC c)), (10, .pi (encS s)), (15, .pm 0 0 0)]) (H' := [.rows [bookC (rotB c w)] 26]) (Reabs.trans (Reabs.frz 1 ((rotL c.entries w).map encE) 68 rfl (deepR (fun _ => rfl))) (Reabs.frmM [0] (by repeat (first | exact sv0 | refine sv1 ?_ | refine sv2 ?_ | refine sv3 ?_)) (by exact ⟨⟨_, rfl, blkOk rfl (by show _ = ABlk.rows [[persons c.people, ints c.keys, entries (rotL c.entries w), vi c.gaps]] 26; rw [← hfz]; rfl), fun _ => rfl⟩, trivial⟩) rfl rfl)) ?_
    refine CodeN.re (Reabs.frz 0 [bookC (rotB c w)] 26 rfl (deepAll rfl)) ?_
    refine CodeN.of_ev (tryd_okm 0 _) ?_
    obtain ⟨o1, o2, o3, o4⟩ := order_law hok w key t s
    have hX := hS.rot w
    have b1 := holdersV hX key t rfl
    have b2 := copiersV hX key t rfl
    have b3 := handsV hX key s rfl
    have b4 := suspectsV hX key rfl
    have a1 := holdersV hS key t rfl
    have a2 := copiersV hS key t rfl
    have a3 := handsV hS key s rfl
    have a4 := suspectsV hS key rfl
    rw [o1] at b1
    rw [o2] at b2
    rw [o3] at b3
    rw [o4] at b4
    have n1 := holdersF_len2 (c := c) key t
    have n2 := copiersF_len2 (c := c) key t
    have n3 := handsF_len2 hS key s
    have n4 := susp_len (c := c) key
    have c1 := same_ok (holdersF c key t).1 (holdersF c key t).1 n1 n1
    have c2 := same_ok (copiersF c key t).1 (copiersF c key t).1 n2 n2
    have c3 := same_ok (handsF c key s).1 (handsF c key s).1 n3 n3
    have c4 := same_ok (suspectsF c key).1 (suspectsF c key).1 n4 n4
    rw [decide_eq_true rfl] at c1 c2 c3 c4
    have f1 := fits_ok hS l (by omega)
    have f2 := proof_ok2 hS l (by omega) p (by omega) (fun x hx => by have := hmm.2 x hx; omega)
    clear o1 o2 o3 o4 n1 n2 n3 n4
    generalize (holdersF c key t).1 = A at *
    generalize (holdersF c key t).2 = e1 at *
    generalize (copiersF c key t).1 = B at *
    generalize (copiersF c key t).2 = e2 at *
    generalize (handsF c key s).1 = D at *
    generalize (handsF c key s).2 = e3 at *
    generalize (suspectsF c key).1 = E at *
    generalize (suspectsF c key).2 = e4 at *
    by_cases hp : proofE c l p = 0
    · obtain ⟨u1, u2⟩ := proof_fits hp
      rw [hp] at f2
      unfold fitsG at f1
      rw [if_neg (by simpa using u1), u2] at f1
      ((conv => whnf); repeat' ((first | refine vv1 ?_ | refine vv2 ?_ | refine vv9 ?_ | refine CallN.pure (a1) ?_ | refine CallN.pure (b1) ?_ | refine CallN.pure (a2) ?_ | refine CallN.pure (b2) ?_ | refine CallN.pure (a3) ?_ | refine CallN.pure (b3) ?_ | refine CallN.pure (a4) ?_ | refine CallN.pure (b4) ?_ | refine CallN.pure (c1) ?_ | refine CallN.pure (c2) ?_ | refine CallN.pure (c3) ?_ | refine CallN.pure (c4) ?_ | refine CallN.pure (f1) ?_ | refine CallN.pure (f2) ?_ | refine CallN.pure (h2) ?_) <;> (conv => whnf)))
      exact ⟨.val rfl⟩
    · have f1 : Pu Tryz.prog G1 38 [bookV c, uses l] (.tuple [vb (fitsG c l).1, vi (fitsG c l).2]) := f1
      generalize (fitsG c l).1 = F at *
      generalize (fitsG c l).2 = e5 at *
      generalize proofE c l p = e6 at *
      ((conv => whnf); repeat' ((first | refine vv1 ?_ | refine vv2 ?_ | refine vv6 ?_ | refine vv9 ?_ | refine CallN.pure (a1) ?_ | refine CallN.pure (b1) ?_ | refine CallN.pure (a2) ?_ | refine CallN.pure (b2) ?_ | refine CallN.pure (a3) ?_ | refine CallN.pure (b3) ?_ | refine CallN.pure (a4) ?_ | refine CallN.pure (b4) ?_ | refine CallN.pure (c1) ?_ | refine CallN.pure (c2) ?_ | refine CallN.pure (c3) ?_ | refine CallN.pure (c4) ?_ | refine CallN.pure (f1) ?_ | refine CallN.pure (f2) ?_ | refine CallN.pure (h2) ?_) <;> (conv => whnf)))
      exact ⟨.val rfl⟩
theorem order_claw {c : Book} (hc : BkW c) (key t : Int) (s : Spn) (w : Nat) (hw : w < 256) (l : List Use) (hl : l.length ≤ 9223372036854775807) (p : List (List Mv)) (hp : p.length ≤ 9223372036854775807) (hp2 : ∀ h ∈ p, h.length ≤ 9223372036854775807) : Pu Tryz.prog G1 10 (orderA c key t s w l p) (vb true) := by
  cases h : smallB c with
  | false => exact order_bad1 hc key t s w l p h
  | true =>
    by_cases h12 : 12 < l.length
    · exact order_bad2 hc key t s w l hl p h h12
    · cases hm : movesB p with
      | false => exact order_bad3 hc key t s w l p hp hp2 h (by omega) hm
      | true =>
        by_cases hck : checkE c = 0
        · exact order_good hc key t s w hw l p h (by omega) hm hck
        · exact order_bad4 hc key t s w l p hp hp2 h (by omega) hm hck
end Go.Proofs.Ax
