import Derived.Test.YtedekogkeamacaaGreatDoorCcAL
namespace Go.Proofs.Ax
open Go Go.Proofs Go.Proofs.Cu Go.Proofs.Tx
set_option maxRecDepth 10000
set_option maxHeartbeats 4000000
theorem told_bad1 {c : Book} (hc : BkW c) (key : Int) (l : List Mv) (hl : l.length ≤ 9223372036854775807) (t d : Int) (h : smallB c = false) : Pu Tryz.prog G1 9 [bookV c, vi key, moves l, vi t, .sc (.int .u16 d)] (vb true) := by
  have h1 := small_ok c hc
  rw [h] at h1
  have h2 := sanity_ok
  refine Pu.of_fin (Ef.of_ev (T := Tryz.tab) (n := 206) (tryd_okm 0 _) rfl Tryz.func9 rfl rfl (by simp) ?_) rfl rfl
  ((conv => whnf); repeat' ((first | refine vv1 ?_ | refine vv21 ?_ | refine CallN.pure (h1) ?_ | refine CallN.pure (h2) ?_) <;> (conv => whnf)))
  exact ⟨.val rfl⟩
theorem told_bad2 {c : Book} (hc : BkW c) (key : Int) (l : List Mv) (hl : l.length ≤ 9223372036854775807) (t d : Int) (h : smallB c = true) (h20 : 20 < l.length) : Pu Tryz.prog G1 9 [bookV c, vi key, moves l, vi t, .sc (.int .u16 d)] (vb true) := by
  have h1 := small_ok c hc
  rw [h] at h1
  have h2 := sanity_ok
  refine Pu.of_fin (Ef.of_ev (T := Tryz.tab) (n := 206) (tryd_okm 0 _) rfl Tryz.func9 rfl rfl (by simp) ?_) rfl rfl
  ((conv => whnf); repeat' ((first | refine vv1 ?_ | refine vv2 ?_ | refine vv7 ?_ | refine vv21 ?_ | refine vv23 ?_ | refine CallN.pure (h1) ?_ | refine CallN.pure (h2) ?_) <;> (conv => whnf)))
  exact ⟨.val rfl⟩
theorem told_bad3 {c : Book} (hc : BkW c) (key : Int) (l : List Mv) (t d : Int) (h : smallB c = true) (h20 : l.length ≤ 20) (ht : tellE c key l ≠ 0) : Pu Tryz.prog G1 9 [bookV c, vi key, moves l, vi t, .sc (.int .u16 d)] (vb true) := by
  have h1 := small_ok c hc
  rw [h] at h1
  have h2 := sanity_ok
  have h3 := tell_ok (small_bks h) key l (by omega)
  refine Pu.of_fin (Ef.of_ev (T := Tryz.tab) (n := 206) (tryd_okm 0 _) rfl Tryz.func9 rfl rfl (by simp) ?_) rfl rfl
  ((conv => whnf); repeat' ((first | refine vv2 ?_ | refine vv6 ?_ | refine vv8 ?_ | refine vv21 ?_ | refine vv23 ?_ | refine CallN.pure (h1) ?_ | refine CallN.pure (h2) ?_ | refine CallN.pure (h3) ?_) <;> (conv => whnf)))
  exact ⟨.val rfl⟩
end Go.Proofs.Ax
namespace Go.Proofs.Ax
open Go Go.Proofs Go.Proofs.Cu Go.Proofs.Tx
set_option maxRecDepth 10000
set_option maxHeartbeats 4000000
theorem among_len (c : Book) (key t : Int) (l : List Int) (mk : Int → Cnd) : (amongF c key t l mk).1.length ≤ l.length := by
  unfold amongF
  repeat' split
  all_goals first | exact Nat.zero_le _ | exact List.length_filter_le ..
theorem handsF_len (c : Book) (key : Int) (s : Spn) : (handsF c key s).1.length ≤ c.people.length := by
  unfold handsF
  repeat' split
  · exact Nat.zero_le _
  · exact Nat.zero_le _
  · exact Nat.zero_le _
  · simp only [List.length_map]
    exact List.length_filter_le ..
theorem heldF_len {c : Book} (h : c.ok) (key : Int) (l : List Mv) (t : Int) : (heldF c key l t).2.1.length ≤ 7 := by
  unfold heldF
  repeat' split
  · exact Nat.zero_le _
  · exact Nat.zero_le _
  · exact Nat.zero_le _
  · exact copiesL_len (chn_cb h key) _
theorem told_good {c : Book} (hc : BkW c) (key : Int) (l : List Mv) (t d : Int) (hd : 0 ≤ d ∧ d ≤ 65535) (h : smallB c = true) (ht : tellE c key l = 0) : Pu Tryz.prog G1 9 [bookV c, vi key, moves l, vi t, .sc (.int .u16 d)] (vb true) := by
  have h1 := small_ok c hc
  rw [h] at h1
  have h2 := sanity_ok
  have hS := small_bks h
  obtain ⟨ha, hok, hk, h20, htl⟩ := tell_0 ht
  have h3 := tell_ok hS key l (by omega)
  rw [ht] at h3
  obtain ⟨th1, th2⟩ := told_history ht
  have h4 := history_ok hS key
  rw [show historyF c key = ((historyF c key).1, 0) from by rw [← th1]] at h4
  have hL20 : (historyF c key).1.length ≤ 20 := (tell_0 th2).2.2.2.1
  have h5 := tell_ok hS key (historyF c key).1 (by omega)
  rw [th2] at h5
  generalize (historyF c key).1 = L at *
  have h4 : Pu Tryz.prog G1 37 [bookV c, vi key] (.tuple [moves L, vi 0]) := h4
  refine Pu.of_fin (Ef.of_code (T := Tryz.tab) (n := 206) (tryd_okm 0 _) rfl Tryz.func9 rfl rfl (by simp) ?_) rfl rfl
  refine CodeN.seqE (tryd_okm 0 _) ?_
  (conv => whnf)
  refine CodeN.re (Reabs.frz 0 [bookC c] 26 rfl (deepAll rfl)) ?_
  refine CodeN.of_ev (tryd_okm 0 _) ?_
  ((conv => whnf); repeat' ((first | refine vv2 ?_ | refine vv8 ?_ | refine vv23 ?_ | refine CallN.pure (h1) ?_ | refine CallN.pure (h3) ?_ | refine CallN.pure (h4) ?_ | refine CallN.pure (h5) ?_) <;> (conv => whnf)))
  refine LoopN.of (tryd_okm 0 _) (fun k : Nat => [(1, vi key), (2, moves l), (3, vi t), (4, .sc (.int .u16 d)), (5, .pi (bookC c)), (13, vi k)]) (fun _ => []) (fun k => l.length - k) (fun k => k ≤ l.length) 0 (Nat.zero_le _) (Reabs.frm0 rfl (by repeat (first | exact sv0 | refine sv1 ?_ | refine sv2 ?_ | refine sv3 ?_))) ?_
  intro k hk'
  by_cases hlt : k < l.length
  · by_cases hne : l[k].entry = 0
    · ((conv => whnf); repeat' ((first | refine SlIdxN.map k rfl hlt ?_ | refine vv3 ?_ | refine vv7 ?_ | refine vv20 ?_ | refine vv23 ?_) <;> (conv => whnf)))
      exact BackN.mk (k + 1) (by omega) (by omega) (Reabs.frm0 rfl (by repeat (first | exact sv0 | refine sv1 ?_ | refine sv2 ?_ | refine sv3 ?_)))
    · obtain ⟨w1, w2, w3⟩ := told_when ht (List.getElem_mem hlt) hne
      have h6 := when_ok hS l[k].entry
      rw [show whenF c l[k].entry = ((whenF c l[k].entry).1, 0) from by rw [← w1]] at h6
      generalize (whenF c l[k].entry).1 = w at *
      have h6 : Pu Tryz.prog G1 27 [bookV c, vi l[k].entry] (.tuple [.agg (encS w), vi 0]) := h6
      ((conv => whnf); repeat' ((first | refine SlIdxN.map k rfl hlt ?_ | refine vv2 ?_ | refine vv4 ?_ | refine vv7 ?_ | refine vv8 ?_ | refine vv20 ?_ | refine vv21 ?_ | refine vv22 ?_ | refine vv23 ?_ | refine vv25 ?_ | refine DrawN.gen (by first | exact tryd_ok _ | exact tryd_okm _ _ | exact tryd_okr _ _ _) (by kernel_rfl) ?_ | refine GCallN.pure _ (h6) ?_) <;> (conv => whnf)))
      exact BackN.mk (k + 1) (by omega) (by omega) (Reabs.frm0 rfl (by repeat (first | exact sv0 | refine sv1 ?_ | refine sv2 ?_ | refine sv3 ?_)))
  · obtain rfl : k = l.length := by omega
    have h7 := held_ok hS key l (by omega) t
    by_cases he : (heldF c key l t).2.2 = 0
    · have htm : timeOk t = true := by
        unfold heldF at he
        rw [if_neg (by simpa using ha)] at he
        cases hq : timeOk t with
        | true => rfl
        | false => rw [hq, if_pos rfl] at he; simp at he
      have htb : 0 ≤ t ∧ t ≤ 1073741823 := by unfold timeOk at htm; exact of_decide_eq_true htm
      have hvs : validS ⟨max 0 (t - d), min 1073741823 (t + d)⟩ = true := by
        have hm : maxTime = 1073741823 := rfl
        rw [validS_iff]; simp only; omega
      obtain ⟨g1, g2, g3, g4, g5, g6⟩ := told_held ht htm hvs (by simp only; omega)
      have e8 : (holdersF c key t).2 = 0 := (among_err ..).trans g2
      have e9 : (copiersF c key t).2 = 0 := (among_err ..).trans g2
      have e10 := (hands_err (c := c) (key := key) (s := ⟨max 0 (t - d), min 1073741823 (t + d)⟩)).trans g3
      have n8 := among_len c key t (placesL c) fun n => .place n t
      have n9 := among_len c key t (c.people.map (·.id)) fun n => .copy n t
      have n10 := handsF_len c key ⟨max 0 (t - d), min 1073741823 (t + d)⟩
      have n7 := heldF_len hok key l t
      have hpp := hok.lens.1
      have n8 : (holdersF c key t).1.length ≤ 1000 := by
        have e : (placesL c).length = c.people.length + 2 := by simp [placesL]
        have : (holdersF c key t).1.length ≤ (placesL c).length := n8
        omega
      have n9 : (copiersF c key t).1.length ≤ 1000 := by
        have e : (c.people.map (·.id)).length = c.people.length := List.length_map _
        have : (copiersF c key t).1.length ≤ (c.people.map (·.id)).length := n9
        omega
      have h8 := holders_ok hS key t
      have h9 := copiers_ok hS key t
      have h10 := hands_ok hS key ⟨max 0 (t - d), min 1073741823 (t + d)⟩
      rw [show holdersF c key t = ((holdersF c key t).1, 0) from Prod.ext rfl e8] at h8
      rw [show copiersF c key t = ((copiersF c key t).1, 0) from Prod.ext rfl e9] at h9
      rw [show handsF c key ⟨max 0 (t - d), min 1073741823 (t + d)⟩ = ((handsF c key ⟨max 0 (t - d), min 1073741823 (t + d)⟩).1, 0) from Prod.ext rfl e10] at h10
      have h7 : Pu Tryz.prog G1 49 [bookV c, vi key, moves l, vi t] (.tuple [vi (heldF c key l t).1, ints (heldF c key l t).2.1, vi (heldF c key l t).2.2]) := h7
      rw [he] at h7
      generalize (heldF c key l t).1 = a at *
      generalize (heldF c key l t).2.1 = b at *
      generalize (holdersF c key t).1 = A at *
      generalize (copiersF c key t).1 = B at *
      generalize (handsF c key ⟨max 0 (t - d), min 1073741823 (t + d)⟩).1 = D at *
      have h8 : Pu Tryz.prog G1 17 [bookV c, vi key, vi t] (.tuple [ints A, vi 0]) := h8
      have h9 : Pu Tryz.prog G1 18 [bookV c, vi key, vi t] (.tuple [ints B, vi 0]) := h9
      have h10 : Pu Tryz.prog G1 19 [bookV c, vi key, .agg [vi (max 0 (t - d)), vi (min 1073741823 (t + d))]] (.tuple [ints D, vi 0]) := h10
      have k1 := hasL_ok A a (by omega)
      rw [List.contains_iff_mem.2 g4] at k1
      clear h3 h4 h5 e8 e9 e10 he
      ((conv => whnf); repeat' ((first | refine vv2 ?_ | refine vv8 ?_ | refine vv20 ?_ | refine vv21 ?_ | refine vv22 ?_ | refine vv23 ?_ | refine CallN.pure (h7) ?_ | refine CallN.pure (h8) ?_ | refine CallN.pure (h9) ?_ | refine CallN.pure (h10) ?_ | refine CallN.pure (k1) ?_) <;> (conv => whnf)))
      refine LoopN.of (tryd_okm 0 _) (fun k : Nat => [(3, vi t), (5, .pi (bookC c)), (16, vi a), (17, ints b), (22, ints B), (24, ints D), (26, vi k)]) (fun _ => []) (fun k => b.length - k) (fun k => k ≤ b.length) 0 (Nat.zero_le _) (Reabs.frm0 rfl (by repeat (first | exact sv0 | refine sv1 ?_ | refine sv2 ?_ | refine sv3 ?_))) ?_
      intro k hk2
      by_cases hkb : k < b.length
      · obtain ⟨q1, q2⟩ := g6 b[k] (List.getElem_mem hkb)
        have k2 := hasL_ok B b[k] (by omega)
        rw [List.contains_iff_mem.2 q1] at k2
        have k3 := onDuty_ok c hS b[k] t
        have k4 := hasL_ok D b[k] (by omega)
        clear g1 g2 g3 g4 g5 g6
        cases hdu : dutyP c.people b[k] t with
        | true =>
          rw [hdu] at k3
          rw [List.contains_iff_mem.2 (q2 hdu)] at k4
          clear q2
          ((conv => whnf); repeat' ((first | refine SlIdxN.map k rfl hkb ?_ | refine vv1 ?_ | refine vv2 ?_ | refine vv7 ?_ | refine vv20 ?_ | refine vv23 ?_ | refine vv25 ?_ | refine DrawN.gen (by first | exact tryd_ok _ | exact tryd_okm _ _ | exact tryd_okr _ _ _) (by kernel_rfl) ?_ | refine GCallN.pure _ (k2) ?_ | refine GCallN.pure _ (k3) ?_ | refine GCallN.pure _ (k4) ?_) <;> (conv => whnf)))
          exact BackN.mk (k + 1) (by omega) (by omega) (Reabs.frm0 rfl (by repeat (first | exact sv0 | refine sv1 ?_ | refine sv2 ?_ | refine sv3 ?_)))
        | false =>
          rw [hdu] at k3
          clear q2
          ((conv => whnf); repeat' ((first | refine SlIdxN.map k rfl hkb ?_ | refine vv2 ?_ | refine vv7 ?_ | refine vv20 ?_ | refine vv23 ?_ | refine vv25 ?_ | refine DrawN.gen (by first | exact tryd_ok _ | exact tryd_okm _ _ | exact tryd_okr _ _ _) (by kernel_rfl) ?_ | refine GCallN.pure _ (k2) ?_ | refine GCallN.pure _ (k3) ?_) <;> (conv => whnf)))
          exact BackN.mk (k + 1) (by omega) (by omega) (Reabs.frm0 rfl (by repeat (first | exact sv0 | refine sv1 ?_ | refine sv2 ?_ | refine sv3 ?_)))
      · obtain rfl : k = b.length := by omega
        have k3 := onDuty_ok c hS a t
        have k4 := hasL_ok D a (by omega)
        cases hdu : dutyP c.people a t with
        | true =>
          rw [hdu] at k3
          rw [List.contains_iff_mem.2 (g5 hdu)] at k4
          clear g1 g2 g3 g4 g5 g6
          ((conv => whnf); repeat' ((first | refine vv1 ?_ | refine vv2 ?_ | refine vv8 ?_ | refine vv23 ?_ | refine CallN.pure (h2) ?_ | refine CallN.pure (k3) ?_ | refine CallN.pure (k4) ?_) <;> (conv => whnf)))
          exact ⟨.val rfl⟩
        | false =>
          rw [hdu] at k3
          clear g1 g2 g3 g4 g5 g6
          ((conv => whnf); repeat' ((first | refine vv1 ?_ | refine vv8 ?_ | refine vv23 ?_ | refine CallN.pure (h2) ?_ | refine CallN.pure (k3) ?_) <;> (conv => whnf)))
          exact ⟨.val rfl⟩
    · have h7 : Pu Tryz.prog G1 49 [bookV c, vi key, moves l, vi t] (.tuple [vi (heldF c key l t).1, ints (heldF c key l t).2.1, vi (heldF c key l t).2.2]) := h7
      generalize (heldF c key l t).2.2 = e at *
      generalize (heldF c key l t).1 = a at *
      generalize (heldF c key l t).2.1 = b at *
      ((conv => whnf); repeat' ((first | refine vv6 ?_ | refine vv8 ?_ | refine vv23 ?_ | refine CallN.pure (h7) ?_ | refine CallN.pure (h2) ?_) <;> (conv => whnf)))
      exact ⟨.val rfl⟩
end Go.Proofs.Ax
namespace Go.Proofs.Ax
open Go Go.Proofs Go.Proofs.Cu Go.Proofs.Tx
theorem told_law {c : Book} (hc : BkW c) (key : Int) (l : List Mv) (hl : l.length ≤ 9223372036854775807) (t d : Int) (hd : 0 ≤ d ∧ d ≤ 65535) : Pu Tryz.prog G1 9 [bookV c, vi key, moves l, vi t, .sc (.int .u16 d)] (vb true) := by
  cases h : smallB c with
  | false => exact told_bad1 hc key l hl t d h
  | true =>
    by_cases h20 : 20 < l.length
    · exact told_bad2 hc key l hl t d h h20
    · by_cases ht : tellE c key l = 0
      · exact told_good hc key l t d hd h ht
      · exact told_bad3 hc key l t d h (by omega) ht
end Go.Proofs.Ax
