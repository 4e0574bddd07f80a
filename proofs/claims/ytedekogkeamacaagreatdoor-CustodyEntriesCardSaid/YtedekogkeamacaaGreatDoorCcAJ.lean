import Derived.Test.YtedekogkeamacaaGreatDoorCcAI
namespace Go.Proofs.Ax
open Go Go.Proofs Go.Proofs.Cu
set_option maxRecDepth 10000
set_option maxHeartbeats 4000000
section
theorem same_ok (a b : List Int) (ha : a.length ≤ 1000000) (hb : b.length ≤ 1000000) : Pu Tryz.prog G1 23 [ints a, ints b] (vb (decide (a = b))) := by
  refine Qh 26 Tryz.func23 rfl rfl ?_
  (conv => whnf); repeat' (first | refine vv12 (fun hbr => ?_) (fun hbr => ?_) | refine vv23 ?_) <;> conv => whnf
  all_goals first
    | (refine DoneN.pure (vb_ff ?_); intro he; subst he; omega)
    | skip
  refine LoopN.of Qt (fun k : Nat => [(0, ints a), (1, ints b), (5, vi k)]) (fun _ => []) (fun k => a.length - k) (fun k => k ≤ a.length ∧ a.length = b.length ∧ ∀ j, (h : j < a.length) → (h' : j < b.length) → j < k → a[j] = b[j]) 0 ⟨Nat.zero_le _, by omega, fun j h h' hj => by omega⟩ (Q0) ?_; rintro k ⟨hk, hab, hall⟩; by_cases hlt : k < a.length
  · have hkb : k < b.length := by omega
    (conv => whnf); repeat' (first | refine SlIdxN.map k rfl (by omega) ?_ | refine vv7 ?_ | refine vv12 (fun hbr => ?_) (fun hbr => ?_) | refine vv20 ?_ | refine vv23 ?_ | refine vv25 ?_ | refine Qd ?_) <;> conv => whnf
    · refine BackN.mk (k + 1) ⟨by omega, hab, fun j h h' hj => ?_⟩ (by omega) (Q0); by_cases hq : j = k
      subst hq; omega; exact hall j h h' (by omega)
    refine DoneN.pure (vb_ff ?_); intro he; subst he; omega
  (conv => whnf); repeat' (first | refine vv8 ?_ | refine vv23 ?_) <;> conv => whnf
  refine DoneN.pure (vb_tt ?_)
  refine List.ext_getElem hab fun j h h' => hall j h h' (by omega)
theorem hasL_ok (l : List Int) (n : Int) (hl : l.length ≤ 1000000) : Pu Tryz.prog G1 40 [ints l, vi n] (vb (l.contains n)) := by
  refine Qh 18 Tryz.func40 rfl rfl ?_
  (conv => whnf)
  refine LoopN.of Qt (fun k : Nat => [(0, ints l), (1, vi n), (5, vi k)]) (fun _ => []) (fun k => l.length - k) (fun k => k ≤ l.length ∧ ∀ j, (h : j < l.length) → j < k → l[j] ≠ n) 0 ⟨Nat.zero_le _, fun j h hj => by omega⟩ (Q0) ?_; rintro k ⟨hk, hall⟩; by_cases hlt : k < l.length
  · by_cases he : l[k] = n
    · have : l.contains n = true := List.contains_iff_mem.2 (he ▸ List.getElem_mem hlt); rw [this]
      repeat' ((conv => whnf); first | refine SlIdxN.map k rfl hlt ?_ | refine vv3 ?_ | refine vv7 ?_ | refine vv23 ?_)
      exact DoneN.pure rfl
    repeat' ((conv => whnf); first | refine SlIdxN.map k rfl hlt ?_ | refine vv4 ?_ | refine vv7 ?_ | refine vv20 ?_ | refine vv23 ?_)
    refine BackN.mk (k + 1) ⟨by omega, fun j h hj => ?_⟩ (by omega) (Q0); by_cases hq : j = k
    subst hq; exact he; exact hall j h (by omega)
  have : l.contains n = false := by
    rw [Bool.eq_false_iff]; intro hc; obtain ⟨i, hi, he⟩ := List.getElem_of_mem (List.contains_iff_mem.1 hc); exact hall i hi (by omega) he
  rw [this]
  repeat' ((conv => whnf); first | refine vv8 ?_ | refine vv23 ?_)
  exact DoneN.pure rfl
end
section
def smallB (c : Book) : Bool := c.people.all (fun p => decide (p.duty.length ≤ 12)) && decide (c.people.length ≤ 12) && decide (c.keys.length ≤ 12) && decide (c.entries.length ≤ 45)
structure BkW (c : Book) : Prop where
  pl : c.people.length ≤ 9223372036854775807
  kl : c.keys.length ≤ 9223372036854775807
  el : c.entries.length ≤ 9223372036854775807
  du : ∀ p ∈ c.people, p.duty.length ≤ 9223372036854775807
theorem small_bks {c : Book} (h : smallB c = true) : BkS c := by
  unfold smallB at h; simp only [Bool.and_eq_true, decide_eq_true_eq, List.all_eq_true] at h; obtain ⟨⟨⟨h1, h2⟩, h3⟩, h4⟩ := h; exact ⟨by omega, by omega, by omega, fun p hp => by have := h1 p hp; omega⟩
theorem small_ok (c : Book) (hc : BkW c) : Pu Tryz.prog G1 15 [bookV c] (vb (smallB c)) := by
  have hpl := hc.pl; have hkl := hc.kl; have hel := hc.el; refine Qf 39 Tryz.func15 rfl rfl ?_
  (conv => whnf)
  refine LoopN.of Qt (fun k : Nat => [(1, .pm 0 0 0), (3, vi k)]) (fun _ => [.rows [bookC c] 26]) (fun k => 21 - k) (fun k => k ≤ c.people.length ∧ k ≤ 20 ∧ ∀ j, (h : j < c.people.length) → j < k → c.people[j].duty.length ≤ 12) 0 ⟨Nat.zero_le _, by omega, fun j h hj => by omega⟩ (QM [0]) ?_; rintro k ⟨hk, hk2, hall⟩; by_cases hlt : k < c.people.length
  · have hdu := hc.du _ (List.getElem_mem hlt); by_cases h20 : k < 20
    · by_cases he : 12 < c.people[k].duty.length
      · have : smallB c = false := by
          unfold smallB; have h1 : c.people.all (fun p => decide (p.duty.length ≤ 12)) = false := List.all_eq_false.2 ⟨c.people[k], List.getElem_mem hlt, by simp; omega⟩; rw [h1]; rfl
        rw [this]
        repeat' ((conv => whnf); first | refine SlIdxN.map k rfl hlt ?_ | refine vv7 ?_ | refine vv21 ?_ | refine vv23 ?_)
        exact Qv
      repeat' ((conv => whnf); first | refine SlIdxN.map k rfl hlt ?_ | refine vv7 ?_ | refine vv8 ?_ | refine vv20 ?_ | refine vv21 ?_ | refine vv23 ?_)
      refine BackN.mk (k + 1) ⟨by omega, by omega, fun j h hj => ?_⟩ (by omega) (QM [0]); by_cases hq : j = k
      subst hq; omega; exact hall j h (by omega)
    have : smallB c = false := by
      unfold smallB; rw [decide_eq_false (by omega : ¬ c.people.length ≤ 12)]; simp
    rw [this]
    (conv => whnf); repeat' (first | refine vv2 ?_ | refine vv7 ?_ | refine vv8 ?_ | refine vv21 ?_ | refine vv23 ?_) <;> conv => whnf
    all_goals first
      | (exfalso; omega)
      | (rw [show (false : Bool) = decide ((c.people.length : Int) ≤ 12) from (decide_eq_false (by omega)).symm]; exact ⟨.val rfl⟩)
      | exact ⟨.val rfl⟩
  obtain rfl : k = c.people.length := by omega
  have h1 : c.people.all (fun p => decide (p.duty.length ≤ 12)) = true := List.all_eq_true.2 fun x hx => by
    obtain ⟨i, hi, rfl⟩ := List.getElem_of_mem hx; exact decide_eq_true (hall i hi hi)
  have : smallB c = (decide ((c.people.length : Int) ≤ 12) && decide ((c.keys.length : Int) ≤ 12) && decide ((c.entries.length : Int) ≤ 45)) := by
    unfold smallB; rw [h1, Bool.true_and, show decide (c.people.length ≤ 12) = decide ((c.people.length : Int) ≤ 12) from decide_eq_decide.2 (by omega), show decide (c.keys.length ≤ 12) = decide ((c.keys.length : Int) ≤ 12) from decide_eq_decide.2 (by omega), show decide (c.entries.length ≤ 45) = decide ((c.entries.length : Int) ≤ 45) from decide_eq_decide.2 (by omega)]
  rw [this]; by_cases a1 : (c.people.length : Int) ≤ 12
  · rw [decide_eq_true a1]; by_cases a2 : (c.keys.length : Int) ≤ 12
    · rw [decide_eq_true a2]
      repeat' ((conv => whnf); first | refine vv2 ?_ | refine vv3 ?_ | refine vv8 ?_ | refine vv21 ?_ | refine vv23 ?_)
      exact Qv
    rw [decide_eq_false a2]
    repeat' ((conv => whnf); first | refine vv2 ?_ | refine vv3 ?_ | refine vv4 ?_ | refine vv8 ?_ | refine vv21 ?_ | refine vv23 ?_)
    exact Qv
  rw [decide_eq_false a1]
  repeat' ((conv => whnf); first | refine vv2 ?_ | refine vv4 ?_ | refine vv8 ?_ | refine vv21 ?_ | refine vv23 ?_)
  exact Qv
end
section
end
end Go.Proofs.Ax
