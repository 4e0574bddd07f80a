import Derived.Test.YtedekogkeamacaaGreatDoorCcTold
import Derived.Test.YtedekogkeamacaaGreatDoorCuLaws3
namespace Go.Proofs.Ax
open Go Go.Proofs Go.Proofs.Cu Go.Proofs.Tx
set_option maxRecDepth 10000
set_option maxHeartbeats 4000000
abbrev attA (c : Book) (key t : Int) (s : Spn) (at_ : Int) : List AV := [bookV c, vi key, vi t, .agg (encS s), vi at_]
theorem att_bad {c : Book} (hc : BkW c) (key t : Int) (s : Spn) (at_ : Int) (h : smallB c = false) : Pu Tryz.prog G1 5 (attA c key t s at_) (vb true) := by
  have h1 := small_ok c hc
  rw [h] at h1
  have h2 := sanity_ok
  refine Pu.of_fin (Ef.of_ev (T := Tryz.tab) (n := 210) (tryd_okm 0 _) rfl Tryz.func5 rfl rfl (by simp) ?_) rfl rfl
  ((conv => whnf); repeat' ((first | refine vv1 ?_ | refine vv21 ?_ | refine CallN.pure (h1) ?_ | refine CallN.pure (h2) ?_) <;> (conv => whnf)))
  exact ⟨.val rfl⟩
theorem handsV {c : Book} (hS : BkS c) (key : Int) (s : Spn) {e : Int} (h : (handsF c key s).2 = e) : Pu Tryz.prog G1 19 [bookV c, vi key, .agg (encS s)] (.tuple [ints (handsF c key s).1, vi e]) := by
  subst h; exact hands_ok hS key s
theorem holdersV {c : Book} (hS : BkS c) (key t : Int) {e : Int} (h : (holdersF c key t).2 = e) : Pu Tryz.prog G1 17 [bookV c, vi key, vi t] (.tuple [ints (holdersF c key t).1, vi e]) := by
  subst h; exact holders_ok hS key t
theorem copiersV {c : Book} (hS : BkS c) (key t : Int) {e : Int} (h : (copiersF c key t).2 = e) : Pu Tryz.prog G1 18 [bookV c, vi key, vi t] (.tuple [ints (copiersF c key t).1, vi e]) := by
  subst h; exact copiers_ok hS key t
theorem historyV {c : Book} (hS : BkS c) (key : Int) {e : Int} (h : (historyF c key).2 = e) : Pu Tryz.prog G1 37 [bookV c, vi key] (.tuple [moves (historyF c key).1, vi e]) := by
  subst h; exact history_ok hS key
theorem handsF_len2 {c : Book} (hS : BkS c) (key : Int) (s : Spn) : (handsF c key s).1.length ≤ 1000000 := by
  have h1 := handsF_len c key s
  have h2 := hS.pl
  omega
theorem among_len2 {c : Book} (key t : Int) (l : List Int) (mk : Int → Cnd) (hl : c.ok → l.length ≤ 1000000) : (amongF c key t l mk).1.length ≤ 1000000 := by
  unfold amongF
  split
  · exact Nat.zero_le _
  · rename_i h
    split
    · exact Nat.zero_le _
    · split
      · exact Nat.zero_le _
      · exact Nat.le_trans (List.length_filter_le ..) (hl (asked_0 (by simpa using h)).1)
theorem holdersF_len2 {c : Book} (key t : Int) : (holdersF c key t).1.length ≤ 1000000 := among_len2 key t (placesL c) _ fun h => by
  have := h.lens.1
  have e : (placesL c).length = c.people.length + 2 := by simp [placesL]
  omega
theorem copiersF_len2 {c : Book} (key t : Int) : (copiersF c key t).1.length ≤ 1000000 := by
  have h : ∀ l : List Int, (c.ok → l.length ≤ 1000000) → (amongF c key t l fun n => Cnd.copy n t).1.length ≤ 1000000 := fun l => among_len2 key t l _
  refine h _ fun h => ?_
  have := h.lens.1
  rw [List.length_map]
  omega
theorem att_good {c : Book} (hc : BkW c) (key t : Int) (s : Spn) (at_ : Int) (h : smallB c = true) : Pu Tryz.prog G1 5 (attA c key t s at_) (vb true) := by
  have h1 := small_ok c hc
  rw [h] at h1
  have h2 := sanity_ok
  have hS := small_bks h
  have hkl := hS.kl
  have hpl := hS.pl
  refine Pu.of_fin (Ef.of_code (T := Tryz.tab) (n := 210) (tryd_okm 0 _) rfl Tryz.func5 rfl rfl (by simp) ?_) rfl rfl
  refine CodeN.seqE (tryd_okm 0 _) ?_
  (conv => whnf)
  refine CodeN.re ((Reabs.frz 1 [encS s] 28 rfl (deepAll rfl)).trans (Reabs.frz 0 [bookC c] 26 rfl (deepAll rfl))) ?_
  refine CodeN.seqE (tryd_okm 0 _) ?_
  ((conv => whnf); repeat' ((first | refine vv2 ?_ | refine CallN.pure (h1) ?_) <;> (conv => whnf)))
  refine CodeN.seqE (tryd_okm 0 _) ?_
  (conv => whnf)
  refine LoopN.of (tryd_okm 0 _) (fun k : Nat => [(1, vi key), (2, vi t), (4, vi at_), (5, .pi (bookC c)), (8, .pi (encS s)), (11, vi k)]) (fun _ => []) (fun k => c.keys.length - k) (fun k => k ≤ c.keys.length ∧ ∀ i (hi : i < c.keys.length), i < k → (historyF c c.keys[i]).2 = 0) 0 ⟨Nat.zero_le _, fun i hi hik => by omega⟩ (Reabs.frm0 rfl (by repeat (first | exact sv0 | refine sv1 ?_ | refine sv2 ?_ | refine sv3 ?_))) ?_
  rintro k ⟨hk, hall⟩
  by_cases hlt : k < c.keys.length
  · by_cases he : (historyF c c.keys[k]).2 = 0
    · have h4 := historyV hS c.keys[k] he
      ((conv => whnf); repeat' ((first | refine SlIdxN.map k rfl hlt ?_ | refine vv2 ?_ | refine vv7 ?_ | refine vv20 ?_ | refine vv23 ?_ | refine vv25 ?_ | refine DrawN.gen (by first | exact tryd_ok _ | exact tryd_okm _ _ | exact tryd_okr _ _ _) (by kernel_rfl) ?_ | refine GCallN.pure _ (h4) ?_) <;> (conv => whnf)))
      refine BackN.mk (k + 1) ⟨by omega, fun i hi hik => ?_⟩ (by omega) (Reabs.frm0 rfl (by repeat (first | exact sv0 | refine sv1 ?_ | refine sv2 ?_ | refine sv3 ?_)))
      by_cases e : i = k
      · subst e; exact he
      · exact hall i hi (by omega)
    · have h4 := historyV hS c.keys[k] rfl
      ((conv => whnf); repeat' ((first | refine SlIdxN.map k rfl hlt ?_ | refine vv6 ?_ | refine vv7 ?_ | refine vv23 ?_ | refine vv25 ?_ | refine DrawN.gen (by first | exact tryd_ok _ | exact tryd_okm _ _ | exact tryd_okr _ _ _) (by kernel_rfl) ?_ | refine CallN.pure (h2) ?_ | refine GCallN.pure _ (h4) ?_) <;> (conv => whnf)))
      exact ⟨.val rfl⟩
  · obtain rfl : k = c.keys.length := by omega
    have hall' : ∀ k ∈ c.keys, (historyF c k).2 = 0 := fun k hk => by
      obtain ⟨i, hi, rfl⟩ := List.getElem_of_mem hk
      exact hall i hi hi
    ((conv => whnf); repeat' ((first | refine vv8 ?_ | refine vv23 ?_) <;> (conv => whnf)))
    have h8 := holdersV hS key t rfl
    have h9 := copiersV hS key t rfl
    have n8 := holdersF_len2 (c := c) key t
    have n9 := copiersF_len2 (c := c) key t
    refine CodeN.seqE (tryd_okm 0 _) ?_
    ((conv => whnf); repeat' ((first | refine CallN.pure (h8) ?_) <;> (conv => whnf)))
    refine CodeN.seqE (tryd_okm 0 _) ?_
    ((conv => whnf); repeat' ((first | refine CallN.pure (h9) ?_) <;> (conv => whnf)))
    refine CodeN.cut (tryd_okm 0 _) (fun _ : Unit => [(1, vi key), (4, vi at_), (5, .pi (bookC c)), (8, .pi (encS s))]) (fun _ => []) (fun _ => True) ?_ ?_
    · by_cases he : (holdersF c key t).2 = 0
      · have hsv : solvedE c key (timeOk t) = 0 := solved_of he
        have he9 : (copiersF c key t).2 = 0 := (among_err ..).trans hsv
        have hfit : ∀ k (hk : k < c.people.length), _ := fun k hk => attained_fits hall' hsv (List.mem_map_of_mem (List.getElem_mem hk))
        rw [he, he9]
        generalize (holdersF c key t).1 = A at *
        generalize (copiersF c key t).1 = B at *
        ((conv => whnf); repeat' ((first | refine vv1 ?_) <;> (conv => whnf)))
        refine LoopN.of (tryd_okm 0 _) (fun k : Nat => [(1, vi key), (2, vi t), (4, vi at_), (5, .pi (bookC c)), (8, .pi (encS s)), (14, ints A), (16, ints B), (17, vi 0), (18, vi k)]) (fun _ => []) (fun k => c.people.length - k) (fun k => k ≤ c.people.length) 0 (Nat.zero_le _) (Reabs.frm0 rfl (by repeat (first | exact sv0 | refine sv1 ?_ | refine sv2 ?_ | refine sv3 ?_))) ?_
        intro k hk
        by_cases hlt : k < c.people.length
        · obtain ⟨u1, u2⟩ := hfit k hlt
          have k1 := fits_ok hS [⟨key, (c.people[k]).id, t⟩] (by simp)
          unfold fitsG at k1
          rw [if_neg (by simpa using u1)] at k1
          have k2 := onDuty_ok c hS (c.people[k]).id t
          have k3 := hasL_ok A (c.people[k]).id n8
          have k4 := hasL_ok B (c.people[k]).id n9
          have u3 : fitsB c [⟨key, (c.people[k]).id, t⟩] = (dutyP c.people (c.people[k]).id t && (A.contains (c.people[k]).id || B.contains (c.people[k]).id)) := by
            rw [Bool.eq_iff_iff, u2]
            simp
          rw [u3] at k1
          clear u1 u2 u3 hfit
          generalize dutyP c.people (c.people[k]).id t = x1 at *
          generalize A.contains (c.people[k]).id = x2 at *
          generalize B.contains (c.people[k]).id = x3 at *
          have k1 : Pu Tryz.prog G1 38 [bookV c, .sl 3 true [[vi key, vi (c.people[k]).id, vi t]]] (.tuple [vb (x1 && (x2 || x3)), vi 0]) := k1.wk ⟨WkC.refl _, WkC.loose _ _, trivial⟩
          cases x1 <;> cases x2 <;> cases x3
          all_goals ((conv => whnf); repeat' ((first | refine SlIdxN.map k rfl hlt ?_ | refine vv1 ?_ | refine vv2 ?_ | refine vv7 ?_ | refine vv20 ?_ | refine vv23 ?_ | refine CallN.pure (k1) ?_ | refine CallN.pure (k2) ?_ | refine CallN.pure (k3) ?_ | refine CallN.pure (k4) ?_) <;> (conv => whnf)))
          all_goals exact BackN.mk (k + 1) (by omega) (by omega) (Reabs.frm0 rfl (by repeat (first | exact sv0 | refine sv1 ?_ | refine sv2 ?_ | refine sv3 ?_)))
        · obtain rfl : k = c.people.length := by omega
          ((conv => whnf); repeat' ((first | refine vv8 ?_ | refine vv23 ?_) <;> (conv => whnf)))
          exact JoinN.mk () trivial (Reabs.frm0 rfl (by repeat (first | exact sv0 | refine sv1 ?_ | refine sv2 ?_ | refine sv3 ?_)))
      · ((conv => whnf); repeat' ((first | refine vv4 ?_) <;> (conv => whnf)))
        exact JoinN.mk () trivial (Reabs.frm0 rfl (by repeat (first | exact sv0 | refine sv1 ?_ | refine sv2 ?_ | refine sv3 ?_)))
    · rintro - -
      clear h8 h9 n8 n9 hall hall' hk hlt
      have k5 := spanned_ok s
      refine CodeN.of_ev (tryd_okm 0 _) ?_
      cases hv : validS s with
      | false =>
        rw [hv] at k5
        ((conv => whnf); repeat' ((first | refine vv1 ?_ | refine CallN.pure (k5) ?_ | refine CallN.pure (h2) ?_) <;> (conv => whnf)))
        exact ⟨.val rfl⟩
      | true =>
        rw [hv] at k5
        obtain ⟨b1, b2, b3⟩ := validS_iff.1 hv
        rw [show maxTime = 1073741823 from rfl] at b3
        by_cases h3 : at_ ≤ s.lo
        · ((conv => whnf); repeat' ((first | refine vv1 ?_ | refine vv2 ?_ | refine vv3 ?_ | refine CallN.pure (k5) ?_ | refine CallN.pure (h2) ?_) <;> (conv => whnf)))
          exact ⟨.val rfl⟩
        · by_cases h4 : s.hi < at_
          · ((conv => whnf); repeat' ((first | refine vv2 ?_ | refine vv3 ?_ | refine vv4 ?_ | refine CallN.pure (k5) ?_ | refine CallN.pure (h2) ?_) <;> (conv => whnf)))
            exact ⟨.val rfl⟩
          · obtain ⟨v1, v2, v3⟩ := hands_split (c := c) (key := key) hv (by omega : s.lo < at_) (by omega)
            have e1 : (handsF c key s).2 = solvedE c key true := by rw [← hv]; exact hands_err
            have e2 : (handsF c key ⟨s.lo, at_ - 1⟩).2 = solvedE c key true := by rw [← v1]; exact hands_err
            have e3 : (handsF c key ⟨at_, s.hi⟩).2 = solvedE c key true := by rw [← v2]; exact hands_err
            have h10 := handsV hS key s e1
            have h11 := handsV hS key ⟨s.lo, at_ - 1⟩ e2
            have h12 := handsV hS key ⟨at_, s.hi⟩ e3
            have n10 := handsF_len2 hS key s
            have n11 := handsF_len2 hS key ⟨s.lo, at_ - 1⟩
            have n12 := handsF_len2 hS key ⟨at_, s.hi⟩
            by_cases hz : solvedE c key true = 0
            · rw [hv] at v3
              have v4 := v3 hz
              rw [hz] at h10 h11 h12
              clear v1 v2 v3 e1 e2 e3 hz
              have w : ∀ n, (handsF c key s).1.contains n = ((handsF c key ⟨s.lo, at_ - 1⟩).1.contains n || (handsF c key ⟨at_, s.hi⟩).1.contains n) := fun n => by
                rw [Bool.eq_iff_iff]
                simp only [List.contains_iff_mem, Bool.or_eq_true]
                exact v4 n
              clear v4
              generalize (handsF c key s).1 = A at *
              generalize (handsF c key ⟨s.lo, at_ - 1⟩).1 = B at *
              generalize (handsF c key ⟨at_, s.hi⟩).1 = D at *
              have h11 : Pu Tryz.prog G1 19 [bookV c, vi key, .agg [vi s.lo, vi (at_ - 1)]] (.tuple [ints B, vi 0]) := h11
              have h12 : Pu Tryz.prog G1 19 [bookV c, vi key, .agg [vi at_, vi s.hi]] (.tuple [ints D, vi 0]) := h12
              ((conv => whnf); repeat' ((first | refine vv2 ?_ | refine vv4 ?_ | refine vv20 ?_ | refine CallN.pure (k5) ?_ | refine CallN.pure (h10) ?_ | refine CallN.pure (h11) ?_ | refine CallN.pure (h12) ?_) <;> (conv => whnf)))
              refine LoopN.of (tryd_okm 0 _) (fun k : Nat => [(5, .pi (bookC c)), (23, ints A), (25, ints B), (27, ints D), (29, vi k)]) (fun _ => []) (fun k => c.people.length - k) (fun k => k ≤ c.people.length) 0 (Nat.zero_le _) (Reabs.frm0 rfl (by repeat (first | exact sv0 | refine sv1 ?_ | refine sv2 ?_ | refine sv3 ?_))) ?_
              intro k hk
              by_cases hlt : k < c.people.length
              · have k3 := hasL_ok A (c.people[k]).id n10
                have k4 := hasL_ok B (c.people[k]).id n11
                have k6 := hasL_ok D (c.people[k]).id n12
                rw [w] at k3
                generalize B.contains (c.people[k]).id = x2 at *
                generalize D.contains (c.people[k]).id = x3 at *
                cases x2 <;> cases x3
                all_goals ((conv => whnf); repeat' ((first | refine SlIdxN.map k rfl hlt ?_ | refine vv1 ?_ | refine vv2 ?_ | refine vv7 ?_ | refine vv20 ?_ | refine vv23 ?_ | refine CallN.pure (k3) ?_ | refine CallN.pure (k4) ?_ | refine CallN.pure (k6) ?_) <;> (conv => whnf)))
                all_goals exact BackN.mk (k + 1) (by omega) (by omega) (Reabs.frm0 rfl (by repeat (first | exact sv0 | refine sv1 ?_ | refine sv2 ?_ | refine sv3 ?_)))
              · obtain rfl : k = c.people.length := by omega
                ((conv => whnf); repeat' ((first | refine vv8 ?_ | refine vv23 ?_ | refine CallN.pure (h2) ?_) <;> (conv => whnf)))
                exact ⟨.val rfl⟩
            · generalize (handsF c key s).1 = A at *
              generalize (handsF c key ⟨s.lo, at_ - 1⟩).1 = B at *
              generalize (handsF c key ⟨at_, s.hi⟩).1 = D at *
              clear v1 v2 v3 e1 e2 e3
              generalize solvedE c key true = e at *
              have h11 : Pu Tryz.prog G1 19 [bookV c, vi key, .agg [vi s.lo, vi (at_ - 1)]] (.tuple [ints B, vi e]) := h11
              have h12 : Pu Tryz.prog G1 19 [bookV c, vi key, .agg [vi at_, vi s.hi]] (.tuple [ints D, vi e]) := h12
              ((conv => whnf); repeat' ((first | refine vv1 ?_ | refine vv2 ?_ | refine vv4 ?_ | refine vv6 ?_ | refine vv7 ?_ | refine vv20 ?_ | refine CallN.pure (k5) ?_ | refine CallN.pure (h10) ?_ | refine CallN.pure (h11) ?_ | refine CallN.pure (h12) ?_ | refine CallN.pure (h2) ?_) <;> (conv => whnf)))
              rw [decide_eq_true (rfl : e = e)]
              exact ⟨.val rfl⟩
theorem att_law {c : Book} (hc : BkW c) (key t : Int) (s : Spn) (at_ : Int) : Pu Tryz.prog G1 5 (attA c key t s at_) (vb true) := by
  cases h : smallB c with
  | false => exact att_bad hc key t s at_ h
  | true => exact att_good hc key t s at_ h
end Go.Proofs.Ax
