import Derived.Test.YtdfgphfijfocoaaGreatDoorRzDE
import Derived.Test.YtdfgphfijfocoaaGreatDoorRbBo
import Derived.Test.YtdfgphfijfocoaaGreatDoorRbQ
namespace Go.Proofs.Ax
open Go Go.Proofs
set_option maxRecDepth 10000
set_option maxHeartbeats 4000000
theorem ok_bal {l : List Posting} (hl : ∀ p ∈ l, p.ok) : (∀ p ∈ l, p.src ≠ p.dst ∧ 1 ≤ p.amount ∧ p.amount ≤ 1099511627776) ∧ (∀ (k : Nat) a, k ≤ l.length → -(1099511627776 * (k : Int)) ≤ bal (l.take k) a ∧ bal (l.take k) a ≤ 1099511627776 * (k : Int)) :=
  ⟨fun p hp => (hl p hp).2.2.2.2, fun k a hk => bal_take_bd hl k hk a⟩
theorem balances_at (t : Bool) {l : List Posting} (hl : ∀ p ∈ l, p.ok) (hmax : l.length ≤ 100000) (H : AH) (n : Nat) (hn : H.length = n) : Ef Tryz.prog G1 76 [postings t l] H fun y H' => y = .sm n 2 0 (balsOf l).length ∧ H' = H ++ [.rows ((balsOf l).map chE) 74] := by
  subst hn
  refine Ef.subD (balances_ef t l (ok_bal hl).1 hmax (ok_bal hl).2) rfl (by simp) ⟨okDeep (deepR (fun _ => rfl)) _, trivial⟩ [] (by simp) trivial rfl (fun x hx => by rw [List.mem_singleton.1 hx]; rfl) ?_ ?_
  · simp [AV.ren, AV.ren0, tau]
  · simp only [setIds, List.drop_nil, List.length_nil, List.drop_zero, List.map_cons, List.map_nil]
    rw [ren_deepB (deepR (fun _ => rfl))]
theorem balances_pu (t : Bool) {l : List Posting} (hl : ∀ p ∈ l, p.ok) (hmax : l.length ≤ 100000) : Pu Tryz.prog G1 76 [postings t l] (chgs false (balsOf l)) := by
  have h := balances_ef t l (ok_bal hl).1 hmax (ok_bal hl).2
  refine Pu.of_ef (z := chgs false (balsOf l)) (Ef.fin (z := chgs false (balsOf l)) (Hz := []) ⟨h.1, h.2.mono ?_⟩) (fun y H h => h.1) rfl rfl
  rintro y H' ⟨rfl, rfl⟩
  refine .step 0 _ 74 rfl (deepR (fun _ => rfl)) ?_
  show FinTo _ _ ((AV.sm 0 2 0 _).frz0 0 _) _ _
  rw [frz_all (by simp)]
  exact .done _ _ _ (Nat.zero_le _) rfl (fun b hb => by cases hb) rfl
theorem Balances_good (t : Bool) (l : List Posting) (h : checkPost l = (0, -1)) : Pu Tryz.prog G1 31 [postings t l] (.tuple [chgs false (balsOf l), vi 0]) := by
  obtain ⟨h1, h2⟩ := checkPost_0 (l := l) (by rw [h])
  have hc := checkPost_ok t l (by omega)
  rw [h] at hc
  have hb := balances_pu t h2 (by omega)
  refine Pu.of_ev (T := Tryz.tab) (n := 16) (tryd_ok _) Tryz.func31 rfl rfl rfl (by first | rfl | (split <;> rfl)) (by simp) ?_
  ((conv => whnf); repeat' ((first | refine vv1 ?_ | refine vv2 ?_ | refine vv3 ?_ | refine vv4 ?_ | refine vv5 ?_ | refine vv6 ?_ | refine vv7 ?_ | refine vv8 ?_ | refine vv9 ?_ | refine vv10 ?_ | refine vv11 (fun hbr => ?_) (fun hbr => ?_) | refine vv12 (fun hbr => ?_) (fun hbr => ?_) | refine vv13 ?_ | refine vv14 ?_ | refine vv15 ?_ | refine vv16 ?_ | refine vv17 (fun hbr => ?_) (fun hbr => ?_) | refine vv18 ?_ | refine vv19 (fun hbr => ?_) (fun hbr => ?_) | refine vv20 ?_ | refine SlIdxN.map _ rfl (by first | assumption | omega) ?_ | refine SlIdxN.mapPred (by omega) (by omega) ?_ | refine SlIdxN.mapSucc (by omega) ?_ | refine SlIdxN.lit _ _ rfl rfl ?_ | refine SlIdxN.mapInt (by omega) (by omega) ?_ | refine IdxN.at0 _ rfl (by first | assumption | omega | (simp <;> omega)) ?_ | refine vv21 ?_ | refine RowN.map (by first | assumption | omega) ?_ | refine vv22 ?_ | refine RowSN.map (by first | assumption | omega) ?_ | refine vv23 ?_ | refine vv24 ?_ | refine vv25 ?_ | refine Need.mk (by first | assumption | omega | (simp <;> omega)) ?_ | refine DrawN.gen (by first | exact tryd_ok _ | exact tryd_okm _ _) (by kernel_rfl) ?_ | refine vv26 ?_ | refine vv27 ?_ | refine vv28 ?_ | refine vv29 ?_ | refine vv30 ?_ | refine vv31 ?_ | refine vv32 ?_ | refine vv33 ?_ | refine CallN.pure (hc) ?_ | refine CallN.pure (hb) ?_ | refine GCallN.pure _ (hc) ?_ | refine GCallN.pure _ (hb) ?_ | refine GCallN.ef (hc) ?_ | refine GCallN.ef (hb) ?_) <;> (conv => whnf)))
  exact DoneN.pure rfl
theorem checkPost_eq {l : List Posting} (h : (checkPost l).1 = 0) : checkPost l = (0, -1) := by
  obtain ⟨h1, h2⟩ := checkPost_0 h
  exact checkPost_good h2 h1
/-! One posting, as often as may be. -/
end Go.Proofs.Ax
