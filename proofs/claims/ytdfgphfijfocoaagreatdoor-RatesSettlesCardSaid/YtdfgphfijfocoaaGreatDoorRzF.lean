import Derived.Test.YtdfgphfijfocoaaGreatDoorRzDE
import Derived.Test.YtdfgphfijfocoaaGreatDoorRbBo
import Derived.Test.YtdfgphfijfocoaaGreatDoorRbQ
namespace Go.Proofs.Ax
open Go Go.Proofs
set_option maxRecDepth 10000
set_option maxHeartbeats 4000000
theorem ok_bal {l : List Posting} (hl : ∀ p ∈ l, p.ok) : (∀ p ∈ l, p.src ≠ p.dst ∧ 1 ≤ p.amount ∧ p.amount ≤ 1099511627776) ∧ (∀ (k : Nat) a, k ≤ l.length → -(1099511627776 * (k : Int)) ≤ bal (l.take k) a ∧ bal (l.take k) a ≤ 1099511627776 * (k : Int)) :=
  ⟨fun p hp => (hl p hp).2.2.2.2, fun k a hk => bal_take_bd hl k hk a⟩
theorem balances_at (t : Bool) {l : List Posting} (hl : ∀ p ∈ l, p.ok) (hmax : l.length ≤ 100000) (H : AH) (n : Nat) (hn : H.length = n) : Ef Tryz.prog G1 76 [postings t l] H fun y H' => y = .sm n 2 0 (balsOf l).length ∧ H' = H ++ [.rows ((balsOf l).map chE) 74] := by
  subst hn
  refine Ef.subD (balances_ef t l (ok_bal hl).1 hmax (ok_bal hl).2) rfl (by simp) ⟨okDeep (deepR (fun _ => rfl)) _, trivial⟩ [] (by simp) trivial rfl (fun x hx => by rw [List.mem_singleton.1 hx]; rfl) ?_ ?_
  · simp [AV.ren, AV.ren0, tau]
  · simp only [setIds, List.drop_nil, List.length_nil, List.drop_zero, List.map_cons, List.map_nil]
    rw [ren_deepB (deepR (fun _ => rfl))]
theorem checkPost_eq {l : List Posting} (h : (checkPost l).1 = 0) : checkPost l = (0, -1) := by
  obtain ⟨h1, h2⟩ := checkPost_0 h
  exact checkPost_good h2 h1
/-! One posting, as often as may be. -/
end Go.Proofs.Ax
