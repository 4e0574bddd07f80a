import Derived.Test.YtdfgphfijfocoaaGreatDoorRzN
import Derived.Test.YtdfgphfijfocoaaGreatDoorRzLM
namespace Go.Proofs.Ax
open Go Go.Proofs
set_option maxRecDepth 10000
set_option maxHeartbeats 4000000
theorem ratesCorrected (t u : Bool) (a b : List Posting) (hmax : a.length ≤ 9223372036854775807) (hmax' : b.length ≤ 9223372036854775807) : Pu Tryz.prog G1 10 [postings t a, postings u b] (vb true) := by
  have hs1 := short_ok t a hmax
  have hs2 := short_ok u b hmax'
  have he1 := error_ok t a hmax
  have he2 := error_ok u b hmax'
  by_cases hg : a.length ≤ 60 ∧ b.length ≤ 60 ∧ (checkPost a).1 = 0 ∧ (checkPost b).1 = 0
  case neg =>
    refine Pu.of_ev (T := Tryz.tab) (n := 168) (tryd_ok _) Tryz.func10 rfl rfl rfl (by first | rfl | (split <;> rfl)) (by simp) ?_
    ((conv => whnf); repeat' ((first | refine vv1 ?_ | refine vv2 ?_ | refine vv3 ?_ | refine vv4 ?_ | refine vv5 ?_ | refine vv6 ?_ | refine vv7 ?_ | refine vv8 ?_ | refine vv9 ?_ | refine vv10 ?_ | refine vv11 (fun hbr => ?_) (fun hbr => ?_) | refine vv12 (fun hbr => ?_) (fun hbr => ?_) | refine vv13 ?_ | refine vv14 ?_ | refine vv15 ?_ | refine vv16 ?_ | refine vv17 (fun hbr => ?_) (fun hbr => ?_) | refine vv18 ?_ | refine vv19 (fun hbr => ?_) (fun hbr => ?_) | refine vv20 ?_ | refine SlIdxN.map _ rfl (by first | assumption | omega) ?_ | refine SlIdxN.mapPred (by omega) (by omega) ?_ | refine SlIdxN.mapSucc (by omega) ?_ | refine SlIdxN.lit _ _ rfl rfl ?_ | refine SlIdxN.mapInt (by omega) (by omega) ?_ | refine IdxN.at0 _ rfl (by first | assumption | omega | (simp <;> omega)) ?_ | refine vv21 ?_ | refine RowN.map (by first | assumption | omega) ?_ | refine vv22 ?_ | refine RowSN.map (by first | assumption | omega) ?_ | refine vv23 ?_ | refine vv24 ?_ | refine vv25 ?_ | refine Need.mk (by first | assumption | omega | (simp <;> omega)) ?_ | refine DrawN.gen (by first | exact tryd_ok _ | exact tryd_okm _ _) (by kernel_rfl) ?_ | refine vv26 ?_ | refine vv27 ?_ | refine vv28 ?_ | refine vv29 ?_ | refine vv30 ?_ | refine vv31 ?_ | refine vv32 ?_ | refine vv33 ?_ | refine CallN.pure (hs1) ?_ | refine CallN.pure (hs2) ?_ | refine CallN.pure (he1) ?_ | refine CallN.pure (he2) ?_ | refine CallN.pure (sane_ok) ?_ | refine GCallN.pure _ (hs1) ?_ | refine GCallN.pure _ (hs2) ?_ | refine GCallN.pure _ (he1) ?_ | refine GCallN.pure _ (he2) ?_ | refine GCallN.pure _ (sane_ok) ?_ | refine GCallN.ef (hs1) ?_ | refine GCallN.ef (hs2) ?_ | refine GCallN.ef (he1) ?_ | refine GCallN.ef (he2) ?_ | refine GCallN.ef (sane_ok) ?_) <;> (conv => whnf)))
    all_goals first
      | exact DoneN.pure rfl
      | (exfalso; exact hg ⟨by omega, by omega, by assumption, by assumption⟩)
      | trace_state
  obtain ⟨l1, l2, c1, c2⟩ := hg
  rw [decide_eq_true (by omega)] at hs1 hs2
  rw [c1] at he1
  rw [c2] at he2
  obtain ⟨-, o1⟩ := checkPost_0 c1
  obtain ⟨-, o2⟩ := checkPost_0 c2
  have e1 := checkPost_eq c1
  have e2 := checkPost_eq c2
  have hcl := correct_len a b
  have oc := correct_ok o1 o2
  have ec := checkPost_good oc (by omega)
  have hbe : bothErr a b = 0 := by unfold bothErr; rw [if_neg (by simpa using c1)]; exact c2
  have hbs : bothErr a a = 0 := by unfold bothErr; rw [if_neg (by simpa using c1)]; exact c1
  have hc := correct_good t u a b hbe
  rw [if_neg (by omega)] at hc
  have hn := correct_good t t a a hbs
  rw [correct_self, if_neg (by simp)] at hn
  have hm := moved_ok t u a b hbe
  rw [moved_corr o1] at hm
  have hB := Balances_good false (correct a b) ec
  have hj := joined_ok t false a (correct a b) (by omega) (by omega)
  have oj : ∀ p ∈ a ++ correct a b, p.ok := fun p hp => (List.mem_append.1 hp).elim (o1 p) (oc p)
  have hjl : (a ++ correct a b).length = a.length + (correct a b).length := List.length_append
  have ej := checkPost_good oj (by omega)
  have hbj : bothErr (a ++ correct a b) b = 0 := by unfold bothErr; rw [ej, if_neg (by simp)]; exact c2
  have hml := moved_ok false u (a ++ correct a b) b hbj
  rw [moved_left o1 o2] at hml
  have hbx : ∀ x, isAcc x → Pu Tryz.prog G1 30 [postings false (a ++ correct a b), vi x] (.tuple [vi (bal b x), vi 0]) := fun x hx => by
    have := balance_good false (a ++ correct a b) x ej hx oj (by omega)
    rw [bal_append, bal_correct (fun p hp => (o1 p hp).2.2.2.2.1)] at this
    rw [show bal a x + (bal b x - bal a x) = bal b x by omega] at this
    exact this
  have hby : ∀ x, isAcc x → Pu Tryz.prog G1 30 [postings u b, vi x] (.tuple [vi (bal b x), vi 0]) := fun x hx => balance_good u b x e2 hx o2 (by omega)
  have hacc : ∀ c ∈ balsOf (correct a b), isAcc c.1 := fun c hc => accs_ok oc _ (mem_accts.1 (balsOf_mem hc).1)
  have hbl := balsOf_len (correct a b)
  have hkl := keepB_len (balsOf (correct a b))
  generalize a ++ correct a b = J at *
  generalize balsOf (correct a b) = B at *
  generalize correct a b = c at *
  refine Pu.of_ev (T := Tryz.tab) (n := 168) (tryd_ok _) Tryz.func10 rfl rfl rfl (by first | rfl | (split <;> rfl)) (by simp) ?_
  ((conv => whnf); repeat' ((first | refine vv1 ?_ | refine vv2 ?_ | refine vv3 ?_ | refine vv4 ?_ | refine vv5 ?_ | refine vv6 ?_ | refine vv7 ?_ | refine vv8 ?_ | refine vv9 ?_ | refine vv10 ?_ | refine vv11 (fun hbr => ?_) (fun hbr => ?_) | refine vv12 (fun hbr => ?_) (fun hbr => ?_) | refine vv13 ?_ | refine vv14 ?_ | refine vv15 ?_ | refine vv16 ?_ | refine vv17 (fun hbr => ?_) (fun hbr => ?_) | refine vv18 ?_ | refine vv19 (fun hbr => ?_) (fun hbr => ?_) | refine vv20 ?_ | refine SlIdxN.map _ rfl (by first | assumption | omega) ?_ | refine SlIdxN.mapPred (by omega) (by omega) ?_ | refine SlIdxN.mapSucc (by omega) ?_ | refine SlIdxN.lit _ _ rfl rfl ?_ | refine SlIdxN.mapInt (by omega) (by omega) ?_ | refine IdxN.at0 _ rfl (by first | assumption | omega | (simp <;> omega)) ?_ | refine vv21 ?_ | refine RowN.map (by first | assumption | omega) ?_ | refine vv22 ?_ | refine RowSN.map (by first | assumption | omega) ?_ | refine vv23 ?_ | refine vv24 ?_ | refine vv25 ?_ | refine Need.mk (by first | assumption | omega | (simp <;> omega)) ?_ | refine DrawN.gen (by first | exact tryd_ok _ | exact tryd_okm _ _) (by kernel_rfl) ?_ | refine vv26 ?_ | refine vv27 ?_ | refine vv28 ?_ | refine vv29 ?_ | refine vv30 ?_ | refine vv31 ?_ | refine vv32 ?_ | refine vv33 ?_ | refine CallN.pure (hs1) ?_ | refine CallN.pure (hs2) ?_ | refine CallN.pure (he1) ?_ | refine CallN.pure (he2) ?_ | refine CallN.pure (hc) ?_ | refine CallN.pure (hn) ?_ | refine CallN.pure (hm) ?_ | refine CallN.pure (hB) ?_ | refine GCallN.pure _ (hs1) ?_ | refine GCallN.pure _ (hs2) ?_ | refine GCallN.pure _ (he1) ?_ | refine GCallN.pure _ (he2) ?_ | refine GCallN.pure _ (hc) ?_ | refine GCallN.pure _ (hn) ?_ | refine GCallN.pure _ (hm) ?_ | refine GCallN.pure _ (hB) ?_ | refine GCallN.ef (hs1) ?_ | refine GCallN.ef (hs2) ?_ | refine GCallN.ef (he1) ?_ | refine GCallN.ef (he2) ?_ | refine GCallN.ef (hc) ?_ | refine GCallN.ef (hn) ?_ | refine GCallN.ef (hm) ?_ | refine GCallN.ef (hB) ?_) <;> (conv => whnf)))
  refine LoopN.of (tryd_okg 0 _) (fun (k : Nat) => [(0, postings t a), (1, postings u b), (5, postings false c), (9, chgs false (keepB B)), (11, chgs false B), (13, vi (keepB (B.take k)).length), (14, vi k)]) (fun _ => []) (fun k => B.length - k) (fun k => k ≤ B.length) 0 (Nat.zero_le _) (Reabs.frm0 rfl (by repeat (first | exact trivial | refine ⟨.inr ⟨rfl, rfl⟩, ?_⟩ | refine ⟨.inr ⟨rfl, vi_eq (by first | omega | (simp; done) | (simp; omega))⟩, ?_⟩ | refine ⟨.inr ⟨rfl, smE rfl (by first | omega | (simp; done) | (simp; omega))⟩, ?_⟩))) ?_
  intro k hk
  have hkk := keepB_len (B.take k)
  rw [List.length_take] at hkk
  by_cases hlt : k < B.length
  · have ha := hacc _ (List.getElem_mem hlt)
    have hs := keepB_succ hlt
    have p1 := hbx _ ha
    have p2 := hby _ ha
    generalize bal b B[k].1 = z at *
    by_cases hz : B[k].2 = 0
    · rw [if_pos hz, List.append_nil] at hs
      clear hbx hby hacc
      ((conv => whnf); repeat' ((first | refine vv1 ?_ | refine vv2 ?_ | refine vv3 ?_ | refine vv4 ?_ | refine vv5 ?_ | refine vv6 ?_ | refine vv7 ?_ | refine vv8 ?_ | refine vv9 ?_ | refine vv10 ?_ | refine vv11 (fun hbr => ?_) (fun hbr => ?_) | refine vv12 (fun hbr => ?_) (fun hbr => ?_) | refine vv13 ?_ | refine vv14 ?_ | refine vv15 ?_ | refine vv16 ?_ | refine vv17 (fun hbr => ?_) (fun hbr => ?_) | refine vv18 ?_ | refine vv19 (fun hbr => ?_) (fun hbr => ?_) | refine vv20 ?_ | refine SlIdxN.map _ rfl (by first | assumption | omega) ?_ | refine SlIdxN.mapPred (by omega) (by omega) ?_ | refine SlIdxN.mapSucc (by omega) ?_ | refine SlIdxN.lit _ _ rfl rfl ?_ | refine SlIdxN.mapInt (by omega) (by omega) ?_ | refine IdxN.at0 _ rfl (by first | assumption | omega | (simp <;> omega)) ?_ | refine vv21 ?_ | refine RowN.map (by first | assumption | omega) ?_ | refine vv22 ?_ | refine RowSN.map (by first | assumption | omega) ?_ | refine vv23 ?_ | refine vv24 ?_ | refine vv25 ?_ | refine Need.mk (by first | assumption | omega | (simp <;> omega)) ?_ | refine DrawN.gen (by first | exact tryd_ok _ | exact tryd_okm _ _) (by kernel_rfl) ?_ | refine vv26 ?_ | refine vv27 ?_ | refine vv28 ?_ | refine vv29 ?_ | refine vv30 ?_ | refine vv31 ?_ | refine vv32 ?_ | refine vv33 ?_ | refine CallN.pure (hj) ?_ | refine CallN.pure (p1) ?_ | refine CallN.pure (p2) ?_ | refine GCallN.pure _ (hj) ?_ | refine GCallN.pure _ (p1) ?_ | refine GCallN.pure _ (p2) ?_ | refine GCallN.ef (hj) ?_ | refine GCallN.ef (p1) ?_ | refine GCallN.ef (p2) ?_) <;> (conv => whnf)))
      exact BackN.mk (k + 1) (by omega) (by omega) (Reabs.frm0 rfl (by rw [hs]; exact (by repeat (first | exact trivial | refine ⟨.inr ⟨rfl, rfl⟩, ?_⟩ | refine ⟨.inr ⟨rfl, vi_eq (by first | omega | (simp; done) | (simp; omega))⟩, ?_⟩ | refine ⟨.inr ⟨rfl, smE rfl (by first | omega | (simp; done) | (simp; omega))⟩, ?_⟩))))
    · rw [if_neg hz] at hs
      obtain ⟨q1, q2⟩ := keepB_at hlt hz
      have hl : (keepB (B.take (k + 1))).length = (keepB (B.take k)).length + 1 := by rw [hs, List.length_append]; rfl
      generalize (keepB (B.take k)).length = m at *
      clear hbx hby hacc
      ((conv => whnf); repeat' ((first | refine vv1 ?_ | refine vv2 ?_ | refine vv3 ?_ | refine vv4 ?_ | refine vv5 ?_ | refine vv6 ?_ | refine vv7 ?_ | refine vv8 ?_ | refine vv9 ?_ | refine vv10 ?_ | refine vv11 (fun hbr => ?_) (fun hbr => ?_) | refine vv12 (fun hbr => ?_) (fun hbr => ?_) | refine vv13 ?_ | refine vv14 ?_ | refine vv15 ?_ | refine vv16 ?_ | refine vv17 (fun hbr => ?_) (fun hbr => ?_) | refine vv18 ?_ | refine vv19 (fun hbr => ?_) (fun hbr => ?_) | refine vv20 ?_ | refine SlIdxN.map _ rfl (by first | assumption | omega) ?_ | refine SlIdxN.mapPred (by omega) (by omega) ?_ | refine SlIdxN.mapSucc (by omega) ?_ | refine SlIdxN.lit _ _ rfl rfl ?_ | refine SlIdxN.mapInt (by omega) (by omega) ?_ | refine IdxN.at0 _ rfl (by first | assumption | omega | (simp <;> omega)) ?_ | refine vv21 ?_ | refine RowN.map (by first | assumption | omega) ?_ | refine vv22 ?_ | refine RowSN.map (by first | assumption | omega) ?_ | refine vv23 ?_ | refine vv24 ?_ | refine vv25 ?_ | refine Need.mk (by first | assumption | omega | (simp <;> omega)) ?_ | refine DrawN.gen (by first | exact tryd_ok _ | exact tryd_okm _ _) (by kernel_rfl) ?_ | refine vv26 ?_ | refine vv27 ?_ | refine vv28 ?_ | refine vv29 ?_ | refine vv30 ?_ | refine vv31 ?_ | refine vv32 ?_ | refine vv33 ?_ | refine CallN.pure (hj) ?_ | refine CallN.pure (p1) ?_ | refine CallN.pure (p2) ?_ | refine GCallN.pure _ (hj) ?_ | refine GCallN.pure _ (p1) ?_ | refine GCallN.pure _ (p2) ?_ | refine GCallN.ef (hj) ?_ | refine GCallN.ef (p1) ?_ | refine GCallN.ef (p2) ?_) <;> (conv => whnf)))
      · exact BackN.mk (k + 1) (by omega) (by omega) (Reabs.frm0 rfl (by rw [hl]; exact (by repeat (first | exact trivial | refine ⟨.inr ⟨rfl, rfl⟩, ?_⟩ | refine ⟨.inr ⟨rfl, vi_eq (by first | omega | (simp; done) | (simp; omega))⟩, ?_⟩ | refine ⟨.inr ⟨rfl, smE rfl (by first | omega | (simp; done) | (simp; omega))⟩, ?_⟩))))
      · rw [chg_eqb, q2] at hbr
        exact absurd rfl (of_decide_eq_false hbr)
  · obtain rfl : k = B.length := by omega
    rw [List.take_length] at *
    ((conv => whnf); repeat' ((first | refine vv1 ?_ | refine vv2 ?_ | refine vv3 ?_ | refine vv4 ?_ | refine vv5 ?_ | refine vv6 ?_ | refine vv7 ?_ | refine vv8 ?_ | refine vv9 ?_ | refine vv10 ?_ | refine vv11 (fun hbr => ?_) (fun hbr => ?_) | refine vv12 (fun hbr => ?_) (fun hbr => ?_) | refine vv13 ?_ | refine vv14 ?_ | refine vv15 ?_ | refine vv16 ?_ | refine vv17 (fun hbr => ?_) (fun hbr => ?_) | refine vv18 ?_ | refine vv19 (fun hbr => ?_) (fun hbr => ?_) | refine vv20 ?_ | refine SlIdxN.map _ rfl (by first | assumption | omega) ?_ | refine SlIdxN.mapPred (by omega) (by omega) ?_ | refine SlIdxN.mapSucc (by omega) ?_ | refine SlIdxN.lit _ _ rfl rfl ?_ | refine SlIdxN.mapInt (by omega) (by omega) ?_ | refine IdxN.at0 _ rfl (by first | assumption | omega | (simp <;> omega)) ?_ | refine vv21 ?_ | refine RowN.map (by first | assumption | omega) ?_ | refine vv22 ?_ | refine RowSN.map (by first | assumption | omega) ?_ | refine vv23 ?_ | refine vv24 ?_ | refine vv25 ?_ | refine Need.mk (by first | assumption | omega | (simp <;> omega)) ?_ | refine DrawN.gen (by first | exact tryd_ok _ | exact tryd_okm _ _) (by kernel_rfl) ?_ | refine vv26 ?_ | refine vv27 ?_ | refine vv28 ?_ | refine vv29 ?_ | refine vv30 ?_ | refine vv31 ?_ | refine vv32 ?_ | refine vv33 ?_ | refine CallN.pure (hj) ?_ | refine CallN.pure (hml) ?_ | refine CallN.pure (sane_ok) ?_ | refine GCallN.pure _ (hj) ?_ | refine GCallN.pure _ (hml) ?_ | refine GCallN.pure _ (sane_ok) ?_ | refine GCallN.ef (hj) ?_ | refine GCallN.ef (hml) ?_ | refine GCallN.ef (sane_ok) ?_) <;> (conv => whnf)))
    all_goals first
      | exact DoneN.pure rfl
      | (refine DoneN.pure ?_; simp; done)
      | trace_state
end Go.Proofs.Ax
