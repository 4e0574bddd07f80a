import Derived.Test.YtdfgphfijfocoaaGreatDoorRzF
import Derived.Test.YtdfgphfijfocoaaGreatDoorRbCo
import Derived.Test.YtdfgphfijfocoaaGreatDoorRzIJ
namespace Go.Proofs.Ax
open Go Go.Proofs
set_option maxRecDepth 10000
set_option maxHeartbeats 4000000
def sum2 (b : List Chg) : Int := (b.map (·.2)).sum
end Go.Proofs.Ax
namespace Go.Proofs.Ax
open Go Go.Proofs
set_option maxRecDepth 10000
set_option maxHeartbeats 4000000
/-! Behind the payments. -/
theorem change_pay {x y : Chg} (hne : x.1 ≠ y.1) (a : Int) : change (payP x y) a = if a = x.1 then -payN x.2 y.2 else if a = y.1 then payN x.2 y.2 else 0 := by
  unfold change payP
  simp only
  by_cases h1 : a = y.1
  · rw [if_pos h1, if_neg (by omega), if_pos h1]
  · rw [if_neg h1]
    by_cases h2 : a = x.1
    · rw [if_pos h2, if_pos h2]
    · rw [if_neg h2, if_neg h2, if_neg h1]
/-- The balances that are kept are those of the postings and the payments. -/
structure SInv (l : List Posting) (b : List Chg) (out : List Posting) : Prop where
  keys : b.map (·.1) = accts l
  val : ∀ c ∈ b, c.2 = bal (l ++ out) c.1
  acc : ∀ p ∈ out, p.ok ∧ p.src ∈ accts l ∧ p.dst ∈ accts l
theorem SInv.nodup {l : List Posting} {b : List Chg} {out : List Posting} (h : SInv l b out) {i j : Nat} {x y : Chg} (hx : b[i]? = some x) (hy : b[j]? = some y) (hne : i ≠ j) : x.1 ≠ y.1 := by
  have hi := accts_inc l
  rw [← h.keys] at hi
  intro e
  have h1 : (b.map (·.1))[i]? = some x.1 := by rw [List.getElem?_map, hx]; rfl
  have h2 : (b.map (·.1))[j]? = some y.1 := by rw [List.getElem?_map, hy]; rfl
  obtain ⟨l1, e1⟩ := List.getElem?_eq_some_iff.1 h1
  obtain ⟨l2, e2⟩ := List.getElem?_eq_some_iff.1 h2
  rcases Nat.lt_or_gt_of_ne hne with hlt | hlt
  · have := List.pairwise_iff_getElem.1 hi i j l1 l2 hlt
    omega
  · have := List.pairwise_iff_getElem.1 hi j i l2 l1 hlt
    omega
theorem SInv.step {l : List Posting} {b : List Chg} {out : List Posting} (hl : ∀ p ∈ l, p.ok) (h : SInv l b out) {x y : Chg} (hx : b[posI b]? = some x) (hy : b[negI b]? = some y) (hlim : ¬ 1099511627776 < payN x.2 y.2) : SInv l (payB b (posI b) (negI b) x y) (out ++ [payP x y]) := by
  have hne := pos_ne_neg hx hy
  have hxy := h.nodup hx hy hne
  have hpn := payN_bd (posI_get hx) (negI_get hy)
  have hxk : x.1 ∈ accts l := by rw [← h.keys]; exact List.mem_map_of_mem (List.mem_of_getElem? hx)
  have hyk : y.1 ∈ accts l := by rw [← h.keys]; exact List.mem_map_of_mem (List.mem_of_getElem? hy)
  have hxa := accs_ok hl _ (mem_accts.1 hxk)
  have hya := accs_ok hl _ (mem_accts.1 hyk)
  refine ⟨by rw [payB_map hx hy hne, h.keys], ?_, ?_⟩
  · intro c hc
    obtain ⟨i, hi⟩ := List.getElem?_of_mem hc
    unfold payB at hi
    rw [List.getElem?_set] at hi
    rw [← List.append_assoc, bal_append]
    have one : bal [payP x y] c.1 = change (payP x y) c.1 := by simp [bal]
    rw [one, change_pay hxy]
    split at hi
    · rename_i hji
      split at hi
      · cases hi
        have := h.val y (List.mem_of_getElem? hy)
        simp only
        rw [if_neg (fun e => hxy e.symm), if_pos trivial, ← this]
      · cases hi
    · rename_i hji
      rw [List.getElem?_set] at hi
      split at hi
      · split at hi
        · cases hi
          have := h.val x (List.mem_of_getElem? hx)
          simp only
          rw [if_pos trivial, ← this]
          omega
        · cases hi
      · rename_i hii
        have hv := h.val c (List.mem_of_getElem? hi)
        have n1 := h.nodup hi hx (fun e => hii e.symm)
        have n2 := h.nodup hi hy (fun e => hji e.symm)
        rw [if_neg n1, if_neg n2, ← hv]
        omega
  · intro p hp
    rcases List.mem_append.1 hp with hp | hp
    · exact h.acc p hp
    · rw [List.mem_singleton.1 hp]
      refine ⟨?_, hxk, hyk⟩
      unfold Posting.ok payP
      simp only
      exact ⟨by omega, by omega, hxa, hya, hxy, by omega⟩
theorem sum_all_zero : ∀ {b : List Chg}, (∀ c ∈ b, c.2 ≤ 0) → (b.map (·.2)).sum = 0 → ∀ c ∈ b, c.2 = 0
  | [], _, _, c, hc => by cases hc
  | a :: b, h, hs, c, hc => by
    have h1 := h a (List.mem_cons_self ..)
    have h2 : ∀ c ∈ b, c.2 ≤ 0 := fun c hc => h c (List.mem_cons_of_mem _ hc)
    have h3 : (b.map (·.2)).sum ≤ 0 := by
      clear hs hc
      clear h h1
      induction b with
      | nil => simp
      | cons d b ih =>
        have := ih (fun c hc => h2 c (List.mem_cons_of_mem _ hc))
        have := h2 d (List.mem_cons_self ..)
        simp only [List.map_cons, List.sum_cons]; omega
    simp only [List.map_cons, List.sum_cons] at hs
    rcases List.mem_cons.1 hc with rfl | hc
    · omega
    · exact sum_all_zero h2 (by omega) c hc
theorem sum_all_zero' : ∀ {b : List Chg}, (∀ c ∈ b, 0 ≤ c.2) → (b.map (·.2)).sum = 0 → ∀ c ∈ b, c.2 = 0
  | [], _, _, c, hc => by cases hc
  | a :: b, h, hs, c, hc => by
    have h1 := h a (List.mem_cons_self ..)
    have h2 : ∀ c ∈ b, 0 ≤ c.2 := fun c hc => h c (List.mem_cons_of_mem _ hc)
    have h3 : 0 ≤ (b.map (·.2)).sum := by
      clear hs hc
      clear h h1
      induction b with
      | nil => simp
      | cons d b ih =>
        have := ih (fun c hc => h2 c (List.mem_cons_of_mem _ hc))
        have := h2 d (List.mem_cons_self ..)
        simp only [List.map_cons, List.sum_cons]; omega
    simp only [List.map_cons, List.sum_cons] at hs
    rcases List.mem_cons.1 hc with rfl | hc
    · omega
    · exact sum_all_zero' h2 (by omega) c hc
theorem SInv.sum {l : List Posting} {b : List Chg} {out : List Posting} (hl : ∀ p ∈ l, p.ok) (h : SInv l b out) : (b.map (·.2)).sum = 0 := by
  have e : b.map (·.2) = (accts l).map fun a => bal (l ++ out) a := by
    rw [← h.keys, List.map_map]
    exact List.map_congr_left fun c hc => h.val c hc
  rw [e]
  refine sum_bal (accts_inc l) fun p hp => ?_
  rcases List.mem_append.1 hp with hp | hp
  · have := hl p hp
    unfold Posting.ok at this
    exact ⟨this.2.2.2.2.1, mem_accts.2 (List.mem_flatMap.2 ⟨p, hp, by simp⟩), mem_accts.2 (List.mem_flatMap.2 ⟨p, hp, by simp⟩)⟩
  · obtain ⟨h1, h2, h3⟩ := h.acc p hp
    unfold Posting.ok at h1
    exact ⟨h1.2.2.2.2.1, h2, h3⟩
theorem settleF_inv {l : List Posting} (hl : ∀ p ∈ l, p.ok) : ∀ (f : Nat) (b : List Chg) (out : List Posting), nz b < f → SInv l b out → (settleF f b out).1 ≠ 2 → (settleF f b out).1 = 0 ∧ (∀ p ∈ (settleF f b out).2, p.ok ∧ p.src ∈ accts l ∧ p.dst ∈ accts l) ∧ ∀ a ∈ accts l, bal (l ++ (settleF f b out).2) a = 0
  | 0, b, out, h, _, _ => by omega
  | f + 1, b, out, h, hi, he => by
    cases hx : b[posI b]? with
    | none =>
      rw [settleF_0 (.inl hx)]
      refine ⟨rfl, hi.acc, fun a ha => ?_⟩
      rw [← hi.keys] at ha
      obtain ⟨c, hc, rfl⟩ := List.mem_map.1 ha
      rw [← hi.val c hc]
      exact sum_all_zero (posI_none hx) (hi.sum hl) c hc
    | some x =>
      cases hy : b[negI b]? with
      | none =>
        rw [settleF_0 (.inr hy)]
        refine ⟨rfl, hi.acc, fun a ha => ?_⟩
        rw [← hi.keys] at ha
        obtain ⟨c, hc, rfl⟩ := List.mem_map.1 ha
        rw [← hi.val c hc]
        exact sum_all_zero' (negI_none hy) (hi.sum hl) c hc
      | some y =>
        rw [settleF_2 hx hy] at he ⊢
        split at he
        · exact absurd rfl he
        · rename_i hlim
          rw [if_neg hlim]
          exact settleF_inv hl f _ _ (by have := (nz_pay hx hy).1; omega) (hi.step hl hx hy hlim) he
theorem settleOf_inv {l : List Posting} (hl : ∀ p ∈ l, p.ok) (he : (settleOf l).1 ≠ 2) : (∀ p ∈ (settleOf l).2, p.ok) ∧ ∀ c ∈ balsOf (l ++ (settleOf l).2), c.2 = 0 := by
  have h := settleF_inv hl (nz (balsOf l) + 1) (balsOf l) [] (by omega) ⟨by rw [balsOf, List.map_map]; exact List.map_id _, fun c hc => by rw [List.append_nil]; exact (balsOf_mem hc).2, fun p hp => by cases hp⟩ he
  refine ⟨fun p hp => (h.2.1 p hp).1, fun c hc => ?_⟩
  obtain ⟨h1, h2⟩ := balsOf_mem hc
  rw [h2]
  refine h.2.2 c.1 ?_
  rw [mem_accts, accs_append, List.mem_append] at h1
  rcases h1 with h1 | h1
  · exact mem_accts.2 h1
  · obtain ⟨p, hp, h3⟩ := List.mem_flatMap.1 h1
    obtain ⟨-, g1, g2⟩ := h.2.1 p hp
    rcases List.mem_cons.1 h3 with h3 | h3
    · rw [h3]; exact g1
    · rw [List.mem_singleton.1 h3]; exact g2
theorem cntNz_take {b : List Chg} {k : Nat} (h : k < b.length) : nz (b.take (k + 1)) = nz (b.take k) + if b[k].2 = 0 then 0 else 1 := by
  unfold nz
  rw [take_succ_snoc h, List.countP_append]
  by_cases hq : b[k].2 = 0 <;> simp [hq]
theorem ratesSettled (t : Bool) (l : List Posting) (hmax : l.length ≤ 9223372036854775807) : Pu Tryz.prog G1 8 [postings t l] (vb true) := by
  have hsh := short_ok t l hmax
  have he := error_ok t l hmax
  by_cases hg : l.length ≤ 60 ∧ (checkPost l).1 = 0
  case neg =>
    refine Pu.of_ev (T := Tryz.tab) (n := 93) (tryd_ok _) Tryz.func8 rfl rfl rfl (by first | rfl | (split <;> rfl)) (by simp) ?_
    ((conv => whnf); repeat' ((first | refine vv1 ?_ | refine vv2 ?_ | refine vv3 ?_ | refine vv4 ?_ | refine vv5 ?_ | refine vv6 ?_ | refine vv7 ?_ | refine vv8 ?_ | refine vv9 ?_ | refine vv10 ?_ | refine vv11 (fun hbr => ?_) (fun hbr => ?_) | refine vv12 (fun hbr => ?_) (fun hbr => ?_) | refine vv13 ?_ | refine vv14 ?_ | refine vv15 ?_ | refine vv16 ?_ | refine vv17 (fun hbr => ?_) (fun hbr => ?_) | refine vv18 ?_ | refine vv19 (fun hbr => ?_) (fun hbr => ?_) | refine vv20 ?_ | refine SlIdxN.map _ rfl (by first | assumption | omega) ?_ | refine SlIdxN.mapPred (by omega) (by omega) ?_ | refine SlIdxN.mapSucc (by omega) ?_ | refine SlIdxN.lit _ _ rfl rfl ?_ | refine SlIdxN.mapInt (by omega) (by omega) ?_ | refine IdxN.at0 _ rfl (by first | assumption | omega | (simp <;> omega)) ?_ | refine vv21 ?_ | refine RowN.map (by first | assumption | omega) ?_ | refine vv22 ?_ | refine RowSN.map (by first | assumption | omega) ?_ | refine vv23 ?_ | refine vv24 ?_ | refine vv25 ?_ | refine Need.mk (by first | assumption | omega | (simp <;> omega)) ?_ | refine DrawN.gen (by first | exact tryd_ok _ | exact tryd_okm _ _) (by kernel_rfl) ?_ | refine vv26 ?_ | refine vv27 ?_ | refine vv28 ?_ | refine vv29 ?_ | refine vv30 ?_ | refine vv31 ?_ | refine vv32 ?_ | refine vv33 ?_ | refine CallN.pure (hsh) ?_ | refine CallN.pure (he) ?_ | refine CallN.pure (sane_ok) ?_ | refine GCallN.pure _ (hsh) ?_ | refine GCallN.pure _ (he) ?_ | refine GCallN.pure _ (sane_ok) ?_ | refine GCallN.ef (hsh) ?_ | refine GCallN.ef (he) ?_ | refine GCallN.ef (sane_ok) ?_) <;> (conv => whnf)))
    all_goals first
      | exact DoneN.pure rfl
      | (exfalso; exact hg ⟨by omega, by assumption⟩)
      | trace_state
  obtain ⟨hs, hc⟩ := hg
  rw [decide_eq_true (by omega)] at hsh
  rw [hc] at he
  obtain ⟨-, hok⟩ := checkPost_0 hc
  have h1 := settle_ok t l (checkPost_eq hc) (by omega)
  have hl := settleOf_len l
  have hl2 : nz (balsOf l) ≤ (balsOf l).length := List.countP_le_length
  have hl3 := balsOf_len l
  by_cases h : (settleOf l).1 = 2
  · simp only [settleRes, if_pos h] at h1
    refine Pu.of_ev (T := Tryz.tab) (n := 93) (tryd_ok _) Tryz.func8 rfl rfl rfl (by first | rfl | (split <;> rfl)) (by simp) ?_
    ((conv => whnf); repeat' ((first | refine vv1 ?_ | refine vv2 ?_ | refine vv3 ?_ | refine vv4 ?_ | refine vv5 ?_ | refine vv6 ?_ | refine vv7 ?_ | refine vv8 ?_ | refine vv9 ?_ | refine vv10 ?_ | refine vv11 (fun hbr => ?_) (fun hbr => ?_) | refine vv12 (fun hbr => ?_) (fun hbr => ?_) | refine vv13 ?_ | refine vv14 ?_ | refine vv15 ?_ | refine vv16 ?_ | refine vv17 (fun hbr => ?_) (fun hbr => ?_) | refine vv18 ?_ | refine vv19 (fun hbr => ?_) (fun hbr => ?_) | refine vv20 ?_ | refine SlIdxN.map _ rfl (by first | assumption | omega) ?_ | refine SlIdxN.mapPred (by omega) (by omega) ?_ | refine SlIdxN.mapSucc (by omega) ?_ | refine SlIdxN.lit _ _ rfl rfl ?_ | refine SlIdxN.mapInt (by omega) (by omega) ?_ | refine IdxN.at0 _ rfl (by first | assumption | omega | (simp <;> omega)) ?_ | refine vv21 ?_ | refine RowN.map (by first | assumption | omega) ?_ | refine vv22 ?_ | refine RowSN.map (by first | assumption | omega) ?_ | refine vv23 ?_ | refine vv24 ?_ | refine vv25 ?_ | refine Need.mk (by first | assumption | omega | (simp <;> omega)) ?_ | refine DrawN.gen (by first | exact tryd_ok _ | exact tryd_okm _ _) (by kernel_rfl) ?_ | refine vv26 ?_ | refine vv27 ?_ | refine vv28 ?_ | refine vv29 ?_ | refine vv30 ?_ | refine vv31 ?_ | refine vv32 ?_ | refine vv33 ?_ | refine CallN.pure (hsh) ?_ | refine CallN.pure (he) ?_ | refine CallN.pure (h1) ?_ | refine CallN.pure (sane_ok) ?_ | refine GCallN.pure _ (hsh) ?_ | refine GCallN.pure _ (he) ?_ | refine GCallN.pure _ (h1) ?_ | refine GCallN.pure _ (sane_ok) ?_ | refine GCallN.ef (hsh) ?_ | refine GCallN.ef (he) ?_ | refine GCallN.ef (h1) ?_ | refine GCallN.ef (sane_ok) ?_) <;> (conv => whnf)))
    all_goals first
      | exact DoneN.pure rfl
      | (refine DoneN.pure ?_; simp; done)
      | trace_state
  simp only [settleRes, if_neg h] at h1
  obtain ⟨i1, i2⟩ := settleOf_inv hok h
  generalize (settleOf l).2 = P at *
  have oj : ∀ p ∈ l ++ P, p.ok := fun p hp => (List.mem_append.1 hp).elim (hok p) (i1 p)
  have hjl : (l ++ P).length ≤ 4000 := by rw [List.length_append]; omega
  have cj := checkPost_good oj hjl
  have hj := joined_ok t false l P (by omega) (by omega)
  have hB1 := Balances_good t l (checkPost_eq hc)
  have hB2 := Balances_good false (l ++ P) cj
  have hl4 := balsOf_len (l ++ P)
  generalize balsOf (l ++ P) = D at *
  generalize balsOf l = B at *
  refine Pu.of_ev (T := Tryz.tab) (n := 93) (tryd_ok _) Tryz.func8 rfl rfl rfl (by first | rfl | (split <;> rfl)) (by simp) ?_
  ((conv => whnf); repeat' ((first | refine vv1 ?_ | refine vv2 ?_ | refine vv3 ?_ | refine vv4 ?_ | refine vv5 ?_ | refine vv6 ?_ | refine vv7 ?_ | refine vv8 ?_ | refine vv9 ?_ | refine vv10 ?_ | refine vv11 (fun hbr => ?_) (fun hbr => ?_) | refine vv12 (fun hbr => ?_) (fun hbr => ?_) | refine vv13 ?_ | refine vv14 ?_ | refine vv15 ?_ | refine vv16 ?_ | refine vv17 (fun hbr => ?_) (fun hbr => ?_) | refine vv18 ?_ | refine vv19 (fun hbr => ?_) (fun hbr => ?_) | refine vv20 ?_ | refine SlIdxN.map _ rfl (by first | assumption | omega) ?_ | refine SlIdxN.mapPred (by omega) (by omega) ?_ | refine SlIdxN.mapSucc (by omega) ?_ | refine SlIdxN.lit _ _ rfl rfl ?_ | refine SlIdxN.mapInt (by omega) (by omega) ?_ | refine IdxN.at0 _ rfl (by first | assumption | omega | (simp <;> omega)) ?_ | refine vv21 ?_ | refine RowN.map (by first | assumption | omega) ?_ | refine vv22 ?_ | refine RowSN.map (by first | assumption | omega) ?_ | refine vv23 ?_ | refine vv24 ?_ | refine vv25 ?_ | refine Need.mk (by first | assumption | omega | (simp <;> omega)) ?_ | refine DrawN.gen (by first | exact tryd_ok _ | exact tryd_okm _ _) (by kernel_rfl) ?_ | refine vv26 ?_ | refine vv27 ?_ | refine vv28 ?_ | refine vv29 ?_ | refine vv30 ?_ | refine vv31 ?_ | refine vv32 ?_ | refine vv33 ?_ | refine CallN.pure (hsh) ?_ | refine CallN.pure (he) ?_ | refine CallN.pure (h1) ?_ | refine CallN.pure (hj) ?_ | refine CallN.pure (hB1) ?_ | refine CallN.pure (hB2) ?_ | refine GCallN.pure _ (hsh) ?_ | refine GCallN.pure _ (he) ?_ | refine GCallN.pure _ (h1) ?_ | refine GCallN.pure _ (hj) ?_ | refine GCallN.pure _ (hB1) ?_ | refine GCallN.pure _ (hB2) ?_ | refine GCallN.ef (hsh) ?_ | refine GCallN.ef (he) ?_ | refine GCallN.ef (h1) ?_ | refine GCallN.ef (hj) ?_ | refine GCallN.ef (hB1) ?_ | refine GCallN.ef (hB2) ?_) <;> (conv => whnf)))
  refine LoopN.of (tryd_okg 0 _) (fun (k : Nat) => [(3, postings false P), (5, chgs false B), (6, vi 0), (7, chgs false D), (8, vi 0), (9, vi (nz (B.take k))), (10, vi k)]) (fun _ => []) (fun k => B.length - k) (fun k => k ≤ B.length) 0 (Nat.zero_le _) (Reabs.frm0 rfl (by repeat (first | exact trivial | refine ⟨.inr ⟨rfl, rfl⟩, ?_⟩))) ?_
  intro k hk
  have hnk : nz (B.take k) ≤ k := by
    have := List.countP_le_length (p := fun c : Chg => decide (c.2 ≠ 0)) (l := B.take k)
    rw [List.length_take] at this
    unfold nz; omega
  by_cases hlt : k < B.length
  · have hn := cntNz_take hlt
    by_cases hq : B[k].2 = 0
    · rw [if_pos hq] at hn
      ((conv => whnf); repeat' ((first | refine vv1 ?_ | refine vv2 ?_ | refine vv3 ?_ | refine vv4 ?_ | refine vv5 ?_ | refine vv6 ?_ | refine vv7 ?_ | refine vv8 ?_ | refine vv9 ?_ | refine vv10 ?_ | refine vv11 (fun hbr => ?_) (fun hbr => ?_) | refine vv12 (fun hbr => ?_) (fun hbr => ?_) | refine vv13 ?_ | refine vv14 ?_ | refine vv15 ?_ | refine vv16 ?_ | refine vv17 (fun hbr => ?_) (fun hbr => ?_) | refine vv18 ?_ | refine vv19 (fun hbr => ?_) (fun hbr => ?_) | refine vv20 ?_ | refine SlIdxN.map _ rfl (by first | assumption | omega) ?_ | refine SlIdxN.mapPred (by omega) (by omega) ?_ | refine SlIdxN.mapSucc (by omega) ?_ | refine SlIdxN.lit _ _ rfl rfl ?_ | refine SlIdxN.mapInt (by omega) (by omega) ?_ | refine IdxN.at0 _ rfl (by first | assumption | omega | (simp <;> omega)) ?_ | refine vv21 ?_ | refine RowN.map (by first | assumption | omega) ?_ | refine vv22 ?_ | refine RowSN.map (by first | assumption | omega) ?_ | refine vv23 ?_ | refine vv24 ?_ | refine vv25 ?_ | refine Need.mk (by first | assumption | omega | (simp <;> omega)) ?_ | refine DrawN.gen (by first | exact tryd_ok _ | exact tryd_okm _ _) (by kernel_rfl) ?_ | refine vv26 ?_ | refine vv27 ?_ | refine vv28 ?_ | refine vv29 ?_ | refine vv30 ?_ | refine vv31 ?_ | refine vv32 ?_ | refine vv33 ?_) <;> (conv => whnf)))
      exact BackN.mk (k + 1) (by omega) (by omega) (Reabs.frm0 rfl (by repeat (first | exact trivial | refine ⟨.inr ⟨rfl, rfl⟩, ?_⟩ | refine ⟨.inr ⟨rfl, vi_eq (by first | omega | (simp; done) | (simp; omega))⟩, ?_⟩ | refine ⟨.inr ⟨rfl, smE rfl (by first | omega | (simp; done) | (simp; omega))⟩, ?_⟩)))
    · rw [if_neg hq] at hn
      ((conv => whnf); repeat' ((first | refine vv1 ?_ | refine vv2 ?_ | refine vv3 ?_ | refine vv4 ?_ | refine vv5 ?_ | refine vv6 ?_ | refine vv7 ?_ | refine vv8 ?_ | refine vv9 ?_ | refine vv10 ?_ | refine vv11 (fun hbr => ?_) (fun hbr => ?_) | refine vv12 (fun hbr => ?_) (fun hbr => ?_) | refine vv13 ?_ | refine vv14 ?_ | refine vv15 ?_ | refine vv16 ?_ | refine vv17 (fun hbr => ?_) (fun hbr => ?_) | refine vv18 ?_ | refine vv19 (fun hbr => ?_) (fun hbr => ?_) | refine vv20 ?_ | refine SlIdxN.map _ rfl (by first | assumption | omega) ?_ | refine SlIdxN.mapPred (by omega) (by omega) ?_ | refine SlIdxN.mapSucc (by omega) ?_ | refine SlIdxN.lit _ _ rfl rfl ?_ | refine SlIdxN.mapInt (by omega) (by omega) ?_ | refine IdxN.at0 _ rfl (by first | assumption | omega | (simp <;> omega)) ?_ | refine vv21 ?_ | refine RowN.map (by first | assumption | omega) ?_ | refine vv22 ?_ | refine RowSN.map (by first | assumption | omega) ?_ | refine vv23 ?_ | refine vv24 ?_ | refine vv25 ?_ | refine Need.mk (by first | assumption | omega | (simp <;> omega)) ?_ | refine DrawN.gen (by first | exact tryd_ok _ | exact tryd_okm _ _) (by kernel_rfl) ?_ | refine vv26 ?_ | refine vv27 ?_ | refine vv28 ?_ | refine vv29 ?_ | refine vv30 ?_ | refine vv31 ?_ | refine vv32 ?_ | refine vv33 ?_) <;> (conv => whnf)))
      exact BackN.mk (k + 1) (by omega) (by omega) (Reabs.frm0 rfl (by repeat (first | exact trivial | refine ⟨.inr ⟨rfl, rfl⟩, ?_⟩ | refine ⟨.inr ⟨rfl, vi_eq (by first | omega | (simp; done) | (simp; omega))⟩, ?_⟩ | refine ⟨.inr ⟨rfl, smE rfl (by first | omega | (simp; done) | (simp; omega))⟩, ?_⟩)))
  obtain rfl : k = B.length := by omega
  rw [List.take_length] at *
  ((conv => whnf); repeat' ((first | refine vv1 ?_ | refine vv2 ?_ | refine vv3 ?_ | refine vv4 ?_ | refine vv5 ?_ | refine vv6 ?_ | refine vv7 ?_ | refine vv8 ?_ | refine vv9 ?_ | refine vv10 ?_ | refine vv11 (fun hbr => ?_) (fun hbr => ?_) | refine vv12 (fun hbr => ?_) (fun hbr => ?_) | refine vv13 ?_ | refine vv14 ?_ | refine vv15 ?_ | refine vv16 ?_ | refine vv17 (fun hbr => ?_) (fun hbr => ?_) | refine vv18 ?_ | refine vv19 (fun hbr => ?_) (fun hbr => ?_) | refine vv20 ?_ | refine SlIdxN.map _ rfl (by first | assumption | omega) ?_ | refine SlIdxN.mapPred (by omega) (by omega) ?_ | refine SlIdxN.mapSucc (by omega) ?_ | refine SlIdxN.lit _ _ rfl rfl ?_ | refine SlIdxN.mapInt (by omega) (by omega) ?_ | refine IdxN.at0 _ rfl (by first | assumption | omega | (simp <;> omega)) ?_ | refine vv21 ?_ | refine RowN.map (by first | assumption | omega) ?_ | refine vv22 ?_ | refine RowSN.map (by first | assumption | omega) ?_ | refine vv23 ?_ | refine vv24 ?_ | refine vv25 ?_ | refine Need.mk (by first | assumption | omega | (simp <;> omega)) ?_ | refine DrawN.gen (by first | exact tryd_ok _ | exact tryd_okm _ _) (by kernel_rfl) ?_ | refine vv26 ?_ | refine vv27 ?_ | refine vv28 ?_ | refine vv29 ?_ | refine vv30 ?_ | refine vv31 ?_ | refine vv32 ?_ | refine vv33 ?_) <;> (conv => whnf)))
  refine LoopN.of (tryd_okg 0 _) (fun (k : Nat) => [(3, postings false P), (6, vi 0), (7, chgs false D), (8, vi 0), (9, vi (nz B)), (11, vi k)]) (fun _ => []) (fun k => D.length - k) (fun k => k ≤ D.length) 0 (Nat.zero_le _) (Reabs.frm0 rfl (by repeat (first | exact trivial | refine ⟨.inr ⟨rfl, rfl⟩, ?_⟩))) ?_
  intro k hk
  by_cases hlt : k < D.length
  · have hz := i2 _ (List.getElem_mem hlt)
    ((conv => whnf); repeat' ((first | refine vv1 ?_ | refine vv2 ?_ | refine vv3 ?_ | refine vv4 ?_ | refine vv5 ?_ | refine vv6 ?_ | refine vv7 ?_ | refine vv8 ?_ | refine vv9 ?_ | refine vv10 ?_ | refine vv11 (fun hbr => ?_) (fun hbr => ?_) | refine vv12 (fun hbr => ?_) (fun hbr => ?_) | refine vv13 ?_ | refine vv14 ?_ | refine vv15 ?_ | refine vv16 ?_ | refine vv17 (fun hbr => ?_) (fun hbr => ?_) | refine vv18 ?_ | refine vv19 (fun hbr => ?_) (fun hbr => ?_) | refine vv20 ?_ | refine SlIdxN.map _ rfl (by first | assumption | omega) ?_ | refine SlIdxN.mapPred (by omega) (by omega) ?_ | refine SlIdxN.mapSucc (by omega) ?_ | refine SlIdxN.lit _ _ rfl rfl ?_ | refine SlIdxN.mapInt (by omega) (by omega) ?_ | refine IdxN.at0 _ rfl (by first | assumption | omega | (simp <;> omega)) ?_ | refine vv21 ?_ | refine RowN.map (by first | assumption | omega) ?_ | refine vv22 ?_ | refine RowSN.map (by first | assumption | omega) ?_ | refine vv23 ?_ | refine vv24 ?_ | refine vv25 ?_ | refine Need.mk (by first | assumption | omega | (simp <;> omega)) ?_ | refine DrawN.gen (by first | exact tryd_ok _ | exact tryd_okm _ _) (by kernel_rfl) ?_ | refine vv26 ?_ | refine vv27 ?_ | refine vv28 ?_ | refine vv29 ?_ | refine vv30 ?_ | refine vv31 ?_ | refine vv32 ?_ | refine vv33 ?_) <;> (conv => whnf)))
    exact BackN.mk (k + 1) (by omega) (by omega) (Reabs.frm0 rfl (by repeat (first | exact trivial | refine ⟨.inr ⟨rfl, rfl⟩, ?_⟩)))
  · ((conv => whnf); repeat' ((first | refine vv1 ?_ | refine vv2 ?_ | refine vv3 ?_ | refine vv4 ?_ | refine vv5 ?_ | refine vv6 ?_ | refine vv7 ?_ | refine vv8 ?_ | refine vv9 ?_ | refine vv10 ?_ | refine vv11 (fun hbr => ?_) (fun hbr => ?_) | refine vv12 (fun hbr => ?_) (fun hbr => ?_) | refine vv13 ?_ | refine vv14 ?_ | refine vv15 ?_ | refine vv16 ?_ | refine vv17 (fun hbr => ?_) (fun hbr => ?_) | refine vv18 ?_ | refine vv19 (fun hbr => ?_) (fun hbr => ?_) | refine vv20 ?_ | refine SlIdxN.map _ rfl (by first | assumption | omega) ?_ | refine SlIdxN.mapPred (by omega) (by omega) ?_ | refine SlIdxN.mapSucc (by omega) ?_ | refine SlIdxN.lit _ _ rfl rfl ?_ | refine SlIdxN.mapInt (by omega) (by omega) ?_ | refine IdxN.at0 _ rfl (by first | assumption | omega | (simp <;> omega)) ?_ | refine vv21 ?_ | refine RowN.map (by first | assumption | omega) ?_ | refine vv22 ?_ | refine RowSN.map (by first | assumption | omega) ?_ | refine vv23 ?_ | refine vv24 ?_ | refine vv25 ?_ | refine Need.mk (by first | assumption | omega | (simp <;> omega)) ?_ | refine DrawN.gen (by first | exact tryd_ok _ | exact tryd_okm _ _) (by kernel_rfl) ?_ | refine vv26 ?_ | refine vv27 ?_ | refine vv28 ?_ | refine vv29 ?_ | refine vv30 ?_ | refine vv31 ?_ | refine vv32 ?_ | refine vv33 ?_ | refine CallN.pure (sane_ok) ?_ | refine GCallN.pure _ (sane_ok) ?_ | refine GCallN.ef (sane_ok) ?_) <;> (conv => whnf)))
    all_goals first
      | exact DoneN.pure rfl
      | (refine DoneN.pure ?_; simp; omega)
      | trace_state
end Go.Proofs.Ax
