import Derived.Test.YtedekogkeamacaaGreatDoorCcZZJ
import Derived.Test.YtedekogkeamacaaGreatDoorAxFrz2
namespace Go.Proofs.Ax
open Go Go.Proofs Go.Proofs.Cu Go.Proofs.Tx
set_option maxRecDepth 10000
set_option maxHeartbeats 4000000
abbrev u8v (n : Nat) : AV := .sc (.int .u8 (n : Int))
abbrev partsA (c : Book) (l : List Use) (n w : Nat) : List AV := [bookV c, uses l, u8v n, u8v w]
theorem parts_bad1 {c : Book} (hc : BkW c) (l : List Use) (n w : Nat) (h : smallB c = false) : Pu Tryz.prog G1 12 (partsA c l n w) (vb true) := by
  have h1 := small_ok c hc
  rw [h] at h1
  have h2 := sanity_ok
  refine Pu.of_fin (Ef.of_ev (T := Tryz.tab) (n := 232) (tryd_okm 0 _) rfl Tryz.func12 rfl rfl (by simp) ?_) rfl rfl
  ((conv => whnf); repeat' ((first | refine vv1 ?_ | refine vv21 ?_ | refine CallN.pure (h1) ?_ | refine CallN.pure (h2) ?_) <;> (conv => whnf)))
  exact ⟨.val rfl⟩
theorem parts_bad2 {c : Book} (hc : BkW c) (l : List Use) (hl : l.length ≤ 9223372036854775807) (n w : Nat) (h : smallB c = true) (h0 : l.length = 0 ∨ 12 < l.length) : Pu Tryz.prog G1 12 (partsA c l n w) (vb true) := by
  have h1 := small_ok c hc
  rw [h] at h1
  have h2 := sanity_ok
  refine Pu.of_fin (Ef.of_ev (T := Tryz.tab) (n := 232) (tryd_okm 0 _) rfl Tryz.func12 rfl rfl (by simp) ?_) rfl rfl
  rcases h0 with h0 | h0
  · ((conv => whnf); repeat' ((first | refine vv1 ?_ | refine vv2 ?_ | refine vv7 ?_ | refine vv21 ?_ | refine vv23 ?_ | refine CallN.pure (h1) ?_ | refine CallN.pure (h2) ?_) <;> (conv => whnf)))
    exact ⟨.val rfl⟩
  · ((conv => whnf); repeat' ((first | refine vv2 ?_ | refine vv7 ?_ | refine vv8 ?_ | refine vv21 ?_ | refine vv23 ?_ | refine CallN.pure (h1) ?_ | refine CallN.pure (h2) ?_) <;> (conv => whnf)))
    exact ⟨.val rfl⟩
theorem fits_at {c : Book} (hS : BkS c) (l : List Use) (hl : l.length ≤ 12) {b : Bool} (hu : usedE c l false = 0) (hf : fitsB c l = b) : Pu Tryz.prog G1 38 [bookV c, uses l] (.tuple [vb b, vi 0]) := by
  have h := fits_ok hS l (by omega)
  unfold fitsG at h
  rw [if_neg (by simpa using hu), hf] at h
  exact h
theorem parts_bad3 {c : Book} (hc : BkW c) (l : List Use) (n w : Nat) (h : smallB c = true) (h0 : l.length ≠ 0) (h12 : l.length ≤ 12) (hu : usedE c l false ≠ 0) : Pu Tryz.prog G1 12 (partsA c l n w) (vb true) := by
  have h1 := small_ok c hc
  rw [h] at h1
  have h2 := sanity_ok
  have h3 := fits_ok (small_bks h) l (by omega)
  unfold fitsG at h3
  rw [if_pos hu] at h3
  refine Pu.of_fin (Ef.of_ev (T := Tryz.tab) (n := 232) (tryd_okm 0 _) rfl Tryz.func12 rfl rfl (by simp) ?_) rfl rfl
  ((conv => whnf); repeat' ((first | refine vv2 ?_ | refine vv6 ?_ | refine vv8 ?_ | refine vv21 ?_ | refine vv23 ?_ | refine CallN.pure (h1) ?_ | refine CallN.pure (h2) ?_ | refine CallN.pure (h3) ?_) <;> (conv => whnf)))
  exact ⟨.val rfl⟩
theorem rem_natK (k w n : Nat) : Int.tmod ((k : Int) + (w : Int)) (n : Int) = (((k + w) % n : Nat) : Int) := by
  rw [← Int.natCast_add]
  exact (Int.ofNat_tmod (k + w) n).symm
theorem parts_fit {c : Book} (hc : BkW c) (l : List Use) (n w : Nat) (hn : n < 256) (hw : w < 256) (h : smallB c = true) (h0 : l.length ≠ 0) (h12 : l.length ≤ 12) (hu : usedE c l false = 0) (hf : fitsB c l = true) : Pu Tryz.prog G1 12 (partsA c l n w) (vb true) := by
  have h1 := small_ok c hc
  rw [h] at h1
  have h2 := sanity_ok
  have hS := small_bks h
  have h3 := fits_at hS l h12 hu hf
  have hnl : n % l.length < l.length := Nat.mod_lt _ (by omega)
  obtain ⟨p1, p2, p3, p4⟩ := parts_law hu w (n % l.length) hnl
  have hrl : (rotL l w).length = l.length := rotL_len l w
  have h4 := fits_at hS (rotL l w) (by omega) p1 (p2.trans hf)
  have hz4 : AV.frz0 0 ((rotL l w).map encU) (.sm 0 3 0 l.length) = uses (rotL l w) := frz_all (by rw [List.length_map, hrl])
  rw [← hz4] at h4
  refine Pu.of_fin (Ef.of_code (T := Tryz.tab) (n := 232) (tryd_okm 0 _) rfl Tryz.func12 rfl rfl (by simp) ?_) rfl rfl
  refine CodeN.seqE (tryd_okm 0 _) ?_
  (conv => whnf)
  refine CodeN.re (Reabs.frz 0 [bookC c] 26 rfl (deepAll rfl)) ?_
  refine CodeN.of_ev (tryd_okm 0 _) ?_
  ((conv => whnf); repeat' ((first | refine vv2 ?_ | refine vv8 ?_ | refine vv23 ?_ | refine CallN.pure (h1) ?_ | refine CallN.pure (h3) ?_) <;> (conv => whnf)))
  refine LoopN.re (Reabs.virt 11 3 63 rfl) ?_
  refine LoopN.of (tryd_okm 0 _) (fun k : Nat => [(1, uses l), (2, u8v n), (3, u8v w), (4, .pi (bookC c)), (9, vb true), (11, .sm 0 3 0 k), (12, vi k)]) (fun k => [.rows (((rotL l w).take k).map encU) 63]) (fun k => l.length - k) (fun k => k ≤ l.length) 0 (Nat.zero_le _) (Reabs.frmM [1] (by repeat (first | exact sv0 | refine sv1 ?_ | refine sv2 ?_ | refine sv3 ?_)) (by repeat (first | exact bv0 | refine bv1 ?_)) rfl rfl) ?_
  intro k hk
  by_cases hlt : k < l.length
  · have hrem := rem_natK k w l.length
    have hml : (k + w) % l.length < l.length := Nat.mod_lt _ (by omega)
    have hrl : k < (rotL l w).length := by omega
    have hsn : (rotL l w).take (k + 1) = (rotL l w).take k ++ [l[(k + w) % l.length]] := by
      rw [take_succ_snoc hrl, rotL_get _ _ hlt]
    have hle : ((rotL l w).take k).length = k := by rw [List.length_take]; omega
    generalize (rotL l w).take k = o at *
    generalize (k + w) % l.length = m at *
    ((conv => whnf); repeat' ((first | refine SlIdxN.map m hrem hml ?_ | refine AppN.len (k + 1) (by first | omega | (simp; done) | (simp; omega)) (by first | omega | (simp; done) | (simp; omega)) (by first | omega | (simp; done) | (simp; omega)) ?_ | refine vv7 ?_ | refine vv20 ?_ | refine vv23 ?_ | refine Need.mk (by first | assumption | omega | (simp <;> omega)) ?_ | refine vv31 ?_) <;> (conv => whnf)))
    exact BackN.mk (k + 1) (by omega) (by omega) (Reabs.frmM [1] (by repeat (first | exact sv0 | refine sv1 ?_ | refine sv2 ?_ | refine sv3 ?_)) (by exact ⟨⟨_, rfl, blkDeep (by rw [hsn, List.map_append]; rfl) (deepMap (fun _ => rfl)), fun _ => rfl⟩, trivial⟩) rfl rfl)
  · obtain rfl : k = l.length := by omega
    have hall : (rotL l w).take l.length = rotL l w := List.take_of_length_le (by omega)
    rw [hall]
    have hn' : Int.tmod (n : Int) (l.length : Int) = ((n % l.length : Nat) : Int) := (Int.ofNat_tmod n l.length).symm
    generalize n % l.length = q at *
    have h6f := fits_at hS (dropAt l q) (by have := dropAt_len hnl; omega) p3 rfl
    have hrows : [] ++ List.take q (List.map encU l) ++ List.drop (q + 1) (List.map encU l) = List.map encU (dropAt l q) := by simp [dropAt]
    have hz6 : AV.frz0 2 (List.map encU (dropAt l q)) (.sm 2 3 0 (l.length - 1)) = uses (dropAt l q) := frz_all (by have := dropAt_len hnl; rw [List.length_map]; omega)
    rw [← hrows] at hz6
    rw [← hz6] at h6f
    have hd6 : AllDeep ([] ++ List.take q (List.map encU l) ++ List.drop (q + 1) (List.map encU l)) := by rw [hrows]; exact deepR (fun _ => rfl)
    have hq1 : Int.tmod (n : Int) (l.length : Int) + 1 = ((q + 1 : Nat) : Int) := by omega
    obtain ⟨hs, hp1, hp2⟩ := proveV_some hf
    have h7 := prove_ok2 hS l (by omega)
    unfold proveG at h7
    rw [if_neg (by simpa using hu), hp1] at h7
    have h8p := prove_ok hu hp1
    have hsz : hs.length ≤ 1000000 ∧ ∀ h ∈ hs, h.length ≤ 1000000 := by
      unfold proofE at h8p
      rw [if_neg (by simpa using hu)] at h8p
      split at h8p
      · cases h8p
      · rename_i hany
        split at h8p
        · cases h8p
        · rename_i hlen
          refine ⟨by have := hS.kl; omega, fun h hh => ?_⟩
          have := List.any_eq_false.1 (by simpa using hany : (hs.any fun h => decide (20 < h.length)) = false) h hh
          simp at this
          omega
    have h8 := proof_ok2 hS l (by omega) hs hsz.1 hsz.2
    rw [h8p] at h8
    rw [p4 hf] at h6f
    ((conv => whnf); repeat' ((first | refine CallN.frz 0 _ _ rfl (deepR (fun _ => rfl)) ?_ | refine IdxN.at0 q hn' (by first | omega | (simp; done) | (simp; omega)) ?_ | refine IdxN.at0 (q + 1) hq1 (by first | omega | (simp; done) | (simp; omega)) ?_ | refine AppN.len q (by first | omega | (simp; done) | (simp; omega)) (by first | omega | (simp; done) | (simp; omega)) (by first | omega | (simp; done) | (simp; omega)) ?_ | refine AppN.len (l.length - 1) (by first | omega | (simp; done) | (simp; omega)) (by first | omega | (simp; done) | (simp; omega)) (by first | omega | (simp; done) | (simp; omega)) ?_ | refine GCallN.frz 2 _ _ rfl hd6 h6f ?_ | refine vv1 ?_ | refine vv2 ?_ | refine vv8 ?_ | refine vv20 ?_ | refine vv23 ?_ | refine vv25 ?_ | refine Need.mk (by first | assumption | omega | (simp <;> omega)) ?_ | refine DrawN.gen (by first | exact tryd_ok _ | exact tryd_okm _ _ | exact tryd_okr _ _ _) (by kernel_rfl) ?_ | refine vv31 ?_ | refine CallN.pure (h4) ?_ | refine CallN.pure (h7) ?_ | refine CallN.pure (h8) ?_ | refine CallN.pure (h2) ?_) <;> (conv => whnf)))
    exact ⟨.val rfl⟩
theorem parts_not {c : Book} (hc : BkW c) (l : List Use) (n w : Nat) (hn : n < 256) (hw : w < 256) (h : smallB c = true) (h0 : l.length ≠ 0) (h12 : l.length ≤ 12) (hu : usedE c l false = 0) (hf : fitsB c l = false) : Pu Tryz.prog G1 12 (partsA c l n w) (vb true) := by
  have h1 := small_ok c hc
  rw [h] at h1
  have h2 := sanity_ok
  have hS := small_bks h
  have h3 := fits_at hS l h12 hu hf
  have hnl : n % l.length < l.length := Nat.mod_lt _ (by omega)
  obtain ⟨p1, p2, p3, p4⟩ := parts_law hu w (n % l.length) hnl
  have hrl : (rotL l w).length = l.length := rotL_len l w
  have h4 := fits_at hS (rotL l w) (by omega) p1 (p2.trans hf)
  have hz4 : AV.frz0 0 ((rotL l w).map encU) (.sm 0 3 0 l.length) = uses (rotL l w) := frz_all (by rw [List.length_map, hrl])
  rw [← hz4] at h4
  obtain ⟨c1, c2, c3, c4, c5, c6⟩ := parts_core hu hf
  refine Pu.of_fin (Ef.of_code (T := Tryz.tab) (n := 232) (tryd_okm 0 _) rfl Tryz.func12 rfl rfl (by simp) ?_) rfl rfl
  refine CodeN.seqE (tryd_okm 0 _) ?_
  (conv => whnf)
  refine CodeN.re (Reabs.frz 0 [bookC c] 26 rfl (deepAll rfl)) ?_
  refine CodeN.seqE (tryd_okm 0 _) ?_
  ((conv => whnf); repeat' ((first | refine vv2 ?_ | refine vv8 ?_ | refine vv23 ?_ | refine CallN.pure (h1) ?_) <;> (conv => whnf)))
  refine CodeN.seqE (tryd_okm 0 _) ?_
  ((conv => whnf); repeat' ((first | refine CallN.pure (h3) ?_) <;> (conv => whnf)))
  refine CodeN.seqE (tryd_okm 0 _) ?_
  ((conv => whnf); repeat' ((first | refine vv2 ?_) <;> (conv => whnf)))
  refine CodeN.seqE (tryd_okm 0 _) ?_
  (conv => whnf)
  refine CodeN.seqE (tryd_okm 0 _) ?_
  (conv => whnf)
  refine LoopN.re (Reabs.virt 11 3 63 rfl) ?_
  refine LoopN.of (tryd_okm 0 _) (fun k : Nat => [(1, uses l), (2, u8v n), (3, u8v w), (4, .pi (bookC c)), (9, vb false), (11, .sm 0 3 0 k), (12, vi k)]) (fun k => [.rows (((rotL l w).take k).map encU) 63]) (fun k => l.length - k) (fun k => k ≤ l.length) 0 (Nat.zero_le _) (Reabs.frmM [1] (by repeat (first | exact sv0 | refine sv1 ?_ | refine sv2 ?_ | refine sv3 ?_)) (by repeat (first | exact bv0 | refine bv1 ?_)) rfl rfl) ?_
  intro k hk
  by_cases hlt : k < l.length
  · have hrem := rem_natK k w l.length
    have hml : (k + w) % l.length < l.length := Nat.mod_lt _ (by omega)
    have hrl : k < (rotL l w).length := by omega
    have hsn : (rotL l w).take (k + 1) = (rotL l w).take k ++ [l[(k + w) % l.length]] := by
      rw [take_succ_snoc hrl, rotL_get _ _ hlt]
    have hle : ((rotL l w).take k).length = k := by rw [List.length_take]; omega
    generalize (rotL l w).take k = o at *
    generalize (k + w) % l.length = m at *
    ((conv => whnf); repeat' ((first | refine SlIdxN.map m hrem hml ?_ | refine AppN.len (k + 1) (by first | omega | (simp; done) | (simp; omega)) (by first | omega | (simp; done) | (simp; omega)) (by first | omega | (simp; done) | (simp; omega)) ?_ | refine vv7 ?_ | refine vv20 ?_ | refine vv23 ?_ | refine Need.mk (by first | assumption | omega | (simp <;> omega)) ?_ | refine vv31 ?_) <;> (conv => whnf)))
    exact BackN.mk (k + 1) (by omega) (by omega) (Reabs.frmM [1] (by repeat (first | exact sv0 | refine sv1 ?_ | refine sv2 ?_ | refine sv3 ?_)) (by exact ⟨⟨_, rfl, blkDeep (by rw [hsn, List.map_append]; rfl) (deepMap (fun _ => rfl)), fun _ => rfl⟩, trivial⟩) rfl rfl)
  · obtain rfl : k = l.length := by omega
    have hall : (rotL l w).take l.length = rotL l w := List.take_of_length_le (by omega)
    rw [hall]
    have hn' : Int.tmod (n : Int) (l.length : Int) = ((n % l.length : Nat) : Int) := (Int.ofNat_tmod n l.length).symm
    generalize n % l.length = q at *
    have h6f := fits_at hS (dropAt l q) (by have := dropAt_len hnl; omega) p3 rfl
    have hrows : [] ++ List.take q (List.map encU l) ++ List.drop (q + 1) (List.map encU l) = List.map encU (dropAt l q) := by simp [dropAt]
    have hz6 : AV.frz0 2 (List.map encU (dropAt l q)) (.sm 2 3 0 (l.length - 1)) = uses (dropAt l q) := frz_all (by have := dropAt_len hnl; rw [List.length_map]; omega)
    rw [← hrows] at hz6
    rw [← hz6] at h6f
    have hd6 : AllDeep ([] ++ List.take q (List.map encU l) ++ List.drop (q + 1) (List.map encU l)) := by rw [hrows]; exact deepR (fun _ => rfl)
    have hq1 : Int.tmod (n : Int) (l.length : Int) + 1 = ((q + 1 : Nat) : Int) := by omega
    have h7 := prove_ok2 hS l (by omega)
    unfold proveG at h7
    rw [if_neg (by simpa using hu)] at h7
    have hp1 : proveF c l = none := by
      have : (proveF c l).isSome = false := hf
      cases hq : proveF c l with
      | none => rfl
      | some x => rw [hq] at this; cases this
    rw [hp1] at h7
    have h8 := core_ok hS l (by omega)
    unfold coreG at h8
    rw [if_neg (by simpa using hu), if_neg (by rw [hf]; simp)] at h8
    generalize fitsB c (dropAt l q) = less at *
    ((conv => whnf); repeat' ((first | refine vv8 ?_ | refine vv23 ?_) <;> (conv => whnf)))
    refine CodeN.seqE (tryd_okm 0 _) ?_
    ((conv => whnf); repeat' ((first | refine CallN.frz 0 _ _ rfl (deepR (fun _ => rfl)) ?_ | refine CallN.pure (h4) ?_) <;> (conv => whnf)))
    refine CodeN.seqE (tryd_okm 0 _) ?_
    ((conv => whnf); repeat' ((first | refine vv20 ?_ | refine vv23 ?_ | refine Need.mk (by first | assumption | omega | (simp <;> omega)) ?_) <;> (conv => whnf)))
    refine CodeN.seqE (tryd_okm 0 _) ?_
    ((conv => whnf); repeat' ((first | refine IdxN.at0 q hn' (by first | omega | (simp; done) | (simp; omega)) ?_ | refine IdxN.at0 (q + 1) hq1 (by first | omega | (simp; done) | (simp; omega)) ?_ | refine AppN.len q (by first | omega | (simp; done) | (simp; omega)) (by first | omega | (simp; done) | (simp; omega)) (by first | omega | (simp; done) | (simp; omega)) ?_ | refine AppN.len (l.length - 1) (by first | omega | (simp; done) | (simp; omega)) (by first | omega | (simp; done) | (simp; omega)) (by first | omega | (simp; done) | (simp; omega)) ?_ | refine GCallN.frz 2 _ _ rfl hd6 h6f ?_ | refine vv20 ?_ | refine vv25 ?_ | refine Need.mk (by first | assumption | omega | (simp <;> omega)) ?_ | refine DrawN.gen (by first | exact tryd_ok _ | exact tryd_okm _ _ | exact tryd_okr _ _ _) (by kernel_rfl) ?_ | refine vv31 ?_) <;> (conv => whnf)))
    refine CodeN.seqE (tryd_okm 0 _) ?_
    ((conv => whnf); repeat' ((first | refine CallN.pure (h7) ?_) <;> (conv => whnf)))
    refine CodeN.seqE (tryd_okm 0 _) ?_
    ((conv => whnf); repeat' ((first | refine vv2 ?_) <;> (conv => whnf)))
    refine CodeN.seqE (tryd_okm 0 _) ?_
    ((conv => whnf); repeat' ((first | refine vv2 ?_) <;> (conv => whnf)))
    refine CodeN.seqE (tryd_okm 0 _) ?_
    ((conv => whnf); repeat' ((first | refine CallN.pure (h8) ?_) <;> (conv => whnf)))
    refine CodeN.seqE (tryd_okm 0 _) ?_
    ((conv => whnf); repeat' ((first | refine vv2 ?_) <;> (conv => whnf)))
    generalize coreL c l = ix at *
    refine CodeN.re (l' := [(1, uses l), (4, .pi (bookC c)), (20, ints (cast ix))]) (H' := []) (Reabs.frm0 rfl (by repeat (first | exact sv0 | refine sv1 ?_ | refine sv2 ?_ | refine sv3 ?_))) ?_
    refine CodeN.seqE (tryd_okm 0 _) ?_
    (conv => whnf)
    refine CodeN.seqE (tryd_okm 0 _) ?_
    (conv => whnf)
    refine LoopN.re (Reabs.virt 22 3 63 rfl) ?_
    refine LoopN.of (tryd_okm 0 _) (fun k : Nat => [(1, uses l), (4, .pi (bookC c)), (20, ints (cast ix)), (22, .sm 0 3 0 k), (23, vi k)]) (fun k => [.rows ((pickU l (ix.take k)).map encU) 63]) (fun k => ix.length - k) (fun k => k ≤ ix.length) 0 (Nat.zero_le _) (Reabs.frmM [0] (by repeat (first | exact sv0 | refine sv1 ?_ | refine sv2 ?_ | refine sv3 ?_)) (by repeat (first | exact bv0 | refine bv1 ?_)) rfl rfl) ?_
    intro k hk
    have hcl := cast_len ix
    by_cases hlt : k < ix.length
    · have hb := c2 _ (List.getElem_mem hlt)
      have hcast : k < (cast ix).length := by omega
      have e1 : (cast ix)[k] = ((ix[k] : Nat) : Int) := by simp [cast]
      have hsn := pick_snoc hlt hb
      have hle : (pickU l (ix.take k)).length = k := by rw [pickU_len fun n hn => c2 n (List.mem_of_mem_take hn), List.length_take]; omega
      generalize pickU l (ix.take k) = o at *
      by_cases hk0 : 0 < k
      · have e2 : (cast ix)[k - 1]'(by omega) = ((ix[k - 1]'(by omega) : Nat) : Int) := by simp [cast]
        have e3 : ix[k - 1]'(by omega) < ix[k] := List.pairwise_iff_getElem.1 c1 (k - 1) k (by omega) hlt (by omega)
        ((conv => whnf); repeat' ((first | refine SlIdxN.map k rfl hcast ?_ | refine SlIdxN.map ix[k] e1 hb ?_ | refine AppN.len (k + 1) (by first | omega | (simp; done) | (simp; omega)) (by first | omega | (simp; done) | (simp; omega)) (by first | omega | (simp; done) | (simp; omega)) ?_ | refine vv7 ?_ | refine vv8 ?_ | refine vv20 ?_ | refine SlIdxN.mapPred (by omega) (by omega) ?_ | refine vv23 ?_ | refine vv25 ?_ | refine DrawN.gen (by first | exact tryd_ok _ | exact tryd_okm _ _ | exact tryd_okr _ _ _) (by kernel_rfl) ?_ | refine vv31 ?_) <;> (conv => whnf)))
        exact BackN.mk (k + 1) (by omega) (by omega) (Reabs.frmM [1] (by repeat (first | exact sv0 | refine sv1 ?_ | refine sv2 ?_ | refine sv3 ?_)) (by exact ⟨⟨_, rfl, blkDeep (by rw [hsn, List.map_append]; rfl) (deepMap (fun _ => rfl)), fun _ => rfl⟩, trivial⟩) rfl rfl)
      · ((conv => whnf); repeat' ((first | refine SlIdxN.map k rfl hcast ?_ | refine SlIdxN.map ix[k] e1 hb ?_ | refine AppN.len (k + 1) (by first | omega | (simp; done) | (simp; omega)) (by first | omega | (simp; done) | (simp; omega)) (by first | omega | (simp; done) | (simp; omega)) ?_ | refine vv2 ?_ | refine vv7 ?_ | refine vv8 ?_ | refine vv20 ?_ | refine vv23 ?_ | refine vv25 ?_ | refine DrawN.gen (by first | exact tryd_ok _ | exact tryd_okm _ _ | exact tryd_okr _ _ _) (by kernel_rfl) ?_ | refine vv31 ?_) <;> (conv => whnf)))
        exact BackN.mk (k + 1) (by omega) (by omega) (Reabs.frmM [1] (by repeat (first | exact sv0 | refine sv1 ?_ | refine sv2 ?_ | refine sv3 ?_)) (by exact ⟨⟨_, rfl, blkDeep (by rw [hsn, List.map_append]; rfl) (deepMap (fun _ => rfl)), fun _ => rfl⟩, trivial⟩) rfl rfl)
    · obtain rfl : k = ix.length := by omega
      rw [List.take_length]
      ((conv => whnf); repeat' ((first | refine vv8 ?_ | refine vv23 ?_) <;> (conv => whnf)))
      have hpl := pickU_len (l := l) (ix := ix) c2
      have hz : AV.frz0 0 ((pickU l ix).map encU) (.sm 0 3 0 ix.length) = uses (pickU l ix) := frz_all (by rw [List.length_map]; omega)
      refine CodeN.re (l' := [(1, uses l), (4, .pi (bookC c)), (22, .sm 0 3 0 ix.length)]) (H' := [.rows ((pickU l ix).map encU) 63]) (Reabs.frmM [0] (by repeat (first | exact sv0 | refine sv1 ?_ | refine sv2 ?_ | refine sv3 ?_)) (by repeat (first | exact bv0 | refine bv1 ?_)) rfl rfl) ?_
      refine CodeN.re (Reabs.frz 0 ((pickU l ix).map encU) 63 rfl (deepR (fun _ => rfl))) ?_
      show CodeN _ _ [(1, uses l), (4, .pi (bookC c)), (22, AV.frz0 0 ((pickU l ix).map encU) (.sm 0 3 0 ix.length))] _ _
      rw [hz]
      refine CodeN.re (l' := [(1, uses l), (4, .pi (bookC c)), (22, uses (pickU l ix))]) (H' := []) (Reabs.frm0 rfl (by repeat (first | exact sv0 | refine sv1 ?_ | refine sv2 ?_ | refine sv3 ?_))) ?_
      have h9 := fits_at hS (pickU l ix) (by omega) c4 c5
      have hL : (pickU l ix).length ≤ 12 := by omega
      have c6 : ∀ k, k < (pickU l ix).length → usedE c (dropAt (pickU l ix) k) false = 0 ∧ fitsB c (dropAt (pickU l ix) k) = true := fun k hk => c6 k (by omega)
      clear hz hpl c1 c2 c3 c4 c5 h3 h4 h7 h8 h6f hz6 hd6 hrows p1 p2 p3 p4
      generalize pickU l ix = S at *
      refine CodeN.of_ev (tryd_okm 0 _) ?_
      ((conv => whnf); repeat' ((first | refine vv2 ?_ | refine CallN.pure (h9) ?_) <;> (conv => whnf)))
      refine LoopN.of (tryd_okm 0 _) (fun k : Nat => [(4, .pi (bookC c)), (22, uses S), (26, vi k)]) (fun _ => []) (fun k => S.length - k) (fun k => k ≤ S.length) 0 (Nat.zero_le _) (Reabs.frm0 rfl (by repeat (first | exact sv0 | refine sv1 ?_ | refine sv2 ?_ | refine sv3 ?_))) ?_
      intro k hk
      by_cases hlt : k < S.length
      · obtain ⟨d1, d2⟩ := c6 k hlt
        have hdl := dropAt_len hlt
        have h6f := fits_at hS (dropAt S k) (by omega) d1 d2
        have hrows : [] ++ List.take k (List.map encU S) ++ List.drop (k + 1) (List.map encU S) = List.map encU (dropAt S k) := by simp [dropAt]
        have hz6 : AV.frz0 1 (List.map encU (dropAt S k)) (.sm 1 3 0 (S.length - 1)) = uses (dropAt S k) := frz_all (by rw [List.length_map]; omega)
        rw [← hrows] at hz6
        rw [← hz6] at h6f
        have hd6 : AllDeep ([] ++ List.take k (List.map encU S) ++ List.drop (k + 1) (List.map encU S)) := by rw [hrows]; exact deepR (fun _ => rfl)
        ((conv => whnf); repeat' ((first | refine IdxN.at0 k rfl (by first | omega | (simp; done) | (simp; omega)) ?_ | refine IdxN.at0 (k + 1) rfl (by first | omega | (simp; done) | (simp; omega)) ?_ | refine AppN.len k (by first | omega | (simp; done) | (simp; omega)) (by first | omega | (simp; done) | (simp; omega)) (by first | omega | (simp; done) | (simp; omega)) ?_ | refine AppN.len (S.length - 1) (by first | omega | (simp; done) | (simp; omega)) (by first | omega | (simp; done) | (simp; omega)) (by first | omega | (simp; done) | (simp; omega)) ?_ | refine GCallN.frz 1 _ _ rfl hd6 h6f ?_ | refine vv2 ?_ | refine vv7 ?_ | refine vv20 ?_ | refine vv23 ?_ | refine vv25 ?_ | refine Need.mk (by first | assumption | omega | (simp <;> omega)) ?_ | refine DrawN.gen (by first | exact tryd_ok _ | exact tryd_okm _ _ | exact tryd_okr _ _ _) (by kernel_rfl) ?_ | refine vv31 ?_) <;> (conv => whnf)))
        exact BackN.mk (k + 1) (by omega) (by omega) (Reabs.frm0 rfl (by repeat (first | exact sv0 | refine sv1 ?_ | refine sv2 ?_ | refine sv3 ?_)))
      · obtain rfl : k = S.length := by omega
        ((conv => whnf); repeat' ((first | refine vv8 ?_ | refine vv23 ?_ | refine CallN.pure (h2) ?_) <;> (conv => whnf)))
        exact ⟨.val rfl⟩
theorem parts_claw {c : Book} (hc : BkW c) (l : List Use) (hl : l.length ≤ 9223372036854775807) (n w : Nat) (hn : n < 256) (hw : w < 256) : Pu Tryz.prog G1 12 (partsA c l n w) (vb true) := by
  cases h : smallB c with
  | false => exact parts_bad1 hc l n w h
  | true =>
    by_cases h0 : l.length = 0 ∨ 12 < l.length
    · exact parts_bad2 hc l hl n w h h0
    · by_cases hu : usedE c l false = 0
      · cases hf : fitsB c l with
        | true => exact parts_fit hc l n w hn hw h (by omega) (by omega) hu hf
        | false => exact parts_not hc l n w hn hw h (by omega) (by omega) hu hf
      · exact parts_bad3 hc l n w h (by omega) (by omega) hu
end Go.Proofs.Ax
