import Derived.Test.YtedekogkeamacaaGreatDoorCcAI
namespace Go.Proofs.Ax
open Go Go.Proofs Go.Proofs.Cu
set_option maxRecDepth 10000
set_option maxHeartbeats 4000000
theorem same_ok (a b : List Int) (ha : a.length ≤ 1000000) (hb : b.length ≤ 1000000) : Pu Tryz.prog G1 23 [ints a, ints b] (vb (decide (a = b))) := by
  refine Pu.of_ev (T := Tryz.tab) (n := 26) (tryd_ok _) Tryz.func23 rfl rfl rfl (by first | rfl | (split <;> rfl)) (by simp) ?_
  ((conv => whnf); repeat' ((first | refine vv12 (fun hbr => ?_) (fun hbr => ?_) | refine vv23 ?_) <;> (conv => whnf)))
  all_goals first
    | (refine DoneN.pure (vb_ff ?_); intro he; subst he; omega)
    | skip
  refine LoopN.of (tryd_ok _) (fun k : Nat => [(0, ints a), (1, ints b), (5, vi k)]) (fun _ => []) (fun k => a.length - k) (fun k => k ≤ a.length ∧ a.length = b.length ∧ ∀ j, (h : j < a.length) → (h' : j < b.length) → j < k → a[j] = b[j]) 0 ⟨Nat.zero_le _, by omega, fun j h h' hj => by omega⟩ (Reabs.frm0 rfl (by repeat (first | exact sv0 | refine sv1 ?_))) ?_
  rintro k ⟨hk, hab, hall⟩
  by_cases hlt : k < a.length
  · have hkb : k < b.length := by omega
    ((conv => whnf); repeat' ((first | refine SlIdxN.map k rfl (by omega) ?_ | refine vv7 ?_ | refine vv12 (fun hbr => ?_) (fun hbr => ?_) | refine vv20 ?_ | refine vv23 ?_ | refine vv25 ?_ | refine DrawN.gen (by first | exact tryd_ok _ | exact tryd_okm _ _ | exact tryd_okr _ _ _) (by kernel_rfl) ?_) <;> (conv => whnf)))
    · refine BackN.mk (k + 1) ⟨by omega, hab, fun j h h' hj => ?_⟩ (by omega) (Reabs.frm0 rfl (by repeat (first | exact sv0 | refine sv1 ?_)))
      by_cases hq : j = k
      · subst hq; omega
      · exact hall j h h' (by omega)
    · refine DoneN.pure (vb_ff ?_); intro he; subst he; omega
  · ((conv => whnf); repeat' ((first | refine vv8 ?_ | refine vv23 ?_) <;> (conv => whnf)))
    refine DoneN.pure (vb_tt ?_)
    refine List.ext_getElem hab fun j h h' => hall j h h' (by omega)
theorem hasL_ok (l : List Int) (n : Int) (hl : l.length ≤ 1000000) : Pu Tryz.prog G1 40 [ints l, vi n] (vb (l.contains n)) := by
  refine Pu.of_ev (T := Tryz.tab) (n := 18) (tryd_ok _) Tryz.func40 rfl rfl rfl (by first | rfl | (split <;> rfl)) (by simp) ?_
  (conv => whnf)
  refine LoopN.of (tryd_ok _) (fun k : Nat => [(0, ints l), (1, vi n), (5, vi k)]) (fun _ => []) (fun k => l.length - k) (fun k => k ≤ l.length ∧ ∀ j, (h : j < l.length) → j < k → l[j] ≠ n) 0 ⟨Nat.zero_le _, fun j h hj => by omega⟩ (Reabs.frm0 rfl (by repeat (first | exact sv0 | refine sv1 ?_))) ?_
  rintro k ⟨hk, hall⟩
  by_cases hlt : k < l.length
  · by_cases he : l[k] = n
    · have : l.contains n = true := List.contains_iff_mem.2 (he ▸ List.getElem_mem hlt)
      rw [this]
      ((conv => whnf); repeat' ((first | refine SlIdxN.map k rfl hlt ?_ | refine vv3 ?_ | refine vv7 ?_ | refine vv23 ?_) <;> (conv => whnf)))
      exact DoneN.pure rfl
    · ((conv => whnf); repeat' ((first | refine SlIdxN.map k rfl hlt ?_ | refine vv4 ?_ | refine vv7 ?_ | refine vv20 ?_ | refine vv23 ?_) <;> (conv => whnf)))
      refine BackN.mk (k + 1) ⟨by omega, fun j h hj => ?_⟩ (by omega) (Reabs.frm0 rfl (by repeat (first | exact sv0 | refine sv1 ?_)))
      by_cases hq : j = k
      · subst hq; exact he
      · exact hall j h (by omega)
  · have : l.contains n = false := by
      rw [Bool.eq_false_iff]
      intro hc
      obtain ⟨i, hi, he⟩ := List.getElem_of_mem (List.contains_iff_mem.1 hc)
      exact hall i hi (by omega) he
    rw [this]
    ((conv => whnf); repeat' ((first | refine vv8 ?_ | refine vv23 ?_) <;> (conv => whnf)))
    exact DoneN.pure rfl
theorem spanned_ok (s : Spn) : Pu Tryz.prog G1 22 [.agg (encS s)] (vb (validS s)) := by
  rw [← validS_eq]
  refine Pu.of_ev (T := Tryz.tab) (n := 18) (tryd_ok _) Tryz.func22 rfl rfl rfl (by first | rfl | (split <;> rfl)) (by simp) ?_
  ((conv => whnf); repeat' ((first | refine vv2 ?_ | refine vv3 ?_ | refine vv4 ?_ | refine vv11 (fun hbr => ?_) (fun hbr => ?_) | refine vv21 ?_) <;> (conv => whnf)))
  all_goals refine DoneN.pure ?_
  all_goals first | rfl | exact vb_dec (by omega) | exact vb_tt (by omega) | exact vb_ff (by omega)
theorem part_ok (a b : List Int) (ha : a.length ≤ 1000000) (hb : b.length ≤ 1000000) : Pu Tryz.prog G1 43 [ints a, ints b] (vb (a.all fun n => b.contains n)) := by
  refine Pu.of_ev (T := Tryz.tab) (n := 19) (tryd_ok _) Tryz.func43 rfl rfl rfl (by first | rfl | (split <;> rfl)) (by simp) ?_
  (conv => whnf)
  refine LoopN.of (tryd_ok _) (fun k : Nat => [(0, ints a), (1, ints b), (5, vi k)]) (fun _ => []) (fun k => a.length - k) (fun k => k ≤ a.length ∧ ∀ j, (h : j < a.length) → j < k → b.contains a[j] = true) 0 ⟨Nat.zero_le _, fun j h hj => by omega⟩ (Reabs.frm0 rfl (by repeat (first | exact sv0 | refine sv1 ?_))) ?_
  rintro k ⟨hk, hall⟩
  by_cases hlt : k < a.length
  · have hh := hasL_ok b a[k] hb
    cases hc : b.contains a[k] with
    | true =>
      rw [hc] at hh
      ((conv => whnf); repeat' ((first | refine SlIdxN.map k rfl hlt ?_ | refine vv2 ?_ | refine vv7 ?_ | refine vv20 ?_ | refine vv23 ?_ | refine CallN.pure (hh) ?_) <;> (conv => whnf)))
      refine BackN.mk (k + 1) ⟨by omega, fun j h hj => ?_⟩ (by omega) (Reabs.frm0 rfl (by repeat (first | exact sv0 | refine sv1 ?_)))
      by_cases hq : j = k
      · subst hq; exact hc
      · exact hall j h (by omega)
    | false =>
      rw [hc] at hh
      have : (a.all fun n => b.contains n) = false := List.all_eq_false.2 ⟨a[k], List.getElem_mem hlt, by rw [hc]; simp⟩
      rw [this]
      ((conv => whnf); repeat' ((first | refine SlIdxN.map k rfl hlt ?_ | refine vv1 ?_ | refine vv7 ?_ | refine vv23 ?_ | refine CallN.pure (hh) ?_) <;> (conv => whnf)))
      exact DoneN.pure rfl
  · have : (a.all fun n => b.contains n) = true := List.all_eq_true.2 fun x hx => by
      obtain ⟨i, hi, rfl⟩ := List.getElem_of_mem hx
      exact hall i hi (by omega)
    rw [this]
    ((conv => whnf); repeat' ((first | refine vv8 ?_ | refine vv23 ?_) <;> (conv => whnf)))
    exact DoneN.pure rfl
end Go.Proofs.Ax
namespace Go.Proofs.Ax
open Go Go.Proofs Go.Proofs.Cu
set_option maxRecDepth 10000
set_option maxHeartbeats 4000000
def smallB (c : Book) : Bool := c.people.all (fun p => decide (p.duty.length ≤ 12)) && decide (c.people.length ≤ 12) && decide (c.keys.length ≤ 12) && decide (c.entries.length ≤ 45)
structure BkW (c : Book) : Prop where
  pl : c.people.length ≤ 9223372036854775807
  kl : c.keys.length ≤ 9223372036854775807
  el : c.entries.length ≤ 9223372036854775807
  du : ∀ p ∈ c.people, p.duty.length ≤ 9223372036854775807
theorem small_bks {c : Book} (h : smallB c = true) : BkS c := by
  unfold smallB at h
  simp only [Bool.and_eq_true, decide_eq_true_eq, List.all_eq_true] at h
  obtain ⟨⟨⟨h1, h2⟩, h3⟩, h4⟩ := h
  exact ⟨by omega, by omega, by omega, fun p hp => by have := h1 p hp; omega⟩
theorem small_ok (c : Book) (hc : BkW c) : Pu Tryz.prog G1 15 [bookV c] (vb (smallB c)) := by
  have hpl := hc.pl
  have hkl := hc.kl
  have hel := hc.el
  refine Pu.of_fin (Ef.of_ev (T := Tryz.tab) (n := 39) (tryd_okm 0 _) rfl Tryz.func15 rfl rfl (by simp) ?_) rfl rfl
  (conv => whnf)
  refine LoopN.of (tryd_okm 0 _) (fun k : Nat => [(1, .pm 0 0 0), (3, vi k)]) (fun _ => [.rows [bookC c] 26]) (fun k => 21 - k) (fun k => k ≤ c.people.length ∧ k ≤ 20 ∧ ∀ j, (h : j < c.people.length) → j < k → c.people[j].duty.length ≤ 12) 0 ⟨Nat.zero_le _, by omega, fun j h hj => by omega⟩ (Reabs.frmM [0] (by repeat (first | exact sv0 | refine sv1 ?_ | refine sv2 ?_ | refine sv3 ?_)) (by repeat (first | exact bv0 | refine bv1 ?_)) rfl rfl) ?_
  rintro k ⟨hk, hk2, hall⟩
  by_cases hlt : k < c.people.length
  · have hdu := hc.du _ (List.getElem_mem hlt)
    by_cases h20 : k < 20
    · by_cases he : 12 < c.people[k].duty.length
      · have : smallB c = false := by
          unfold smallB
          have h1 : c.people.all (fun p => decide (p.duty.length ≤ 12)) = false := List.all_eq_false.2 ⟨c.people[k], List.getElem_mem hlt, by simp; omega⟩
          rw [h1]; rfl
        rw [this]
        ((conv => whnf); repeat' ((first | refine SlIdxN.map k rfl hlt ?_ | refine vv7 ?_ | refine vv21 ?_ | refine vv23 ?_) <;> (conv => whnf)))
        exact ⟨.val rfl⟩
      · ((conv => whnf); repeat' ((first | refine SlIdxN.map k rfl hlt ?_ | refine vv7 ?_ | refine vv8 ?_ | refine vv20 ?_ | refine vv21 ?_ | refine vv23 ?_) <;> (conv => whnf)))
        refine BackN.mk (k + 1) ⟨by omega, by omega, fun j h hj => ?_⟩ (by omega) (Reabs.frmM [0] (by repeat (first | exact sv0 | refine sv1 ?_ | refine sv2 ?_ | refine sv3 ?_)) (by repeat (first | exact bv0 | refine bv1 ?_)) rfl rfl)
        by_cases hq : j = k
        · subst hq; omega
        · exact hall j h (by omega)
    · have : smallB c = false := by
        unfold smallB
        rw [decide_eq_false (by omega : ¬ c.people.length ≤ 12)]
        simp
      rw [this]
      ((conv => whnf); repeat' ((first | refine vv2 ?_ | refine vv7 ?_ | refine vv8 ?_ | refine vv21 ?_ | refine vv23 ?_) <;> (conv => whnf)))
      all_goals first
        | (exfalso; omega)
        | (rw [show (false : Bool) = decide ((c.people.length : Int) ≤ 12) from (decide_eq_false (by omega)).symm]; exact ⟨.val rfl⟩)
        | exact ⟨.val rfl⟩
  · obtain rfl : k = c.people.length := by omega
    have h1 : c.people.all (fun p => decide (p.duty.length ≤ 12)) = true := List.all_eq_true.2 fun x hx => by
      obtain ⟨i, hi, rfl⟩ := List.getElem_of_mem hx
      exact decide_eq_true (hall i hi hi)
    have : smallB c = (decide ((c.people.length : Int) ≤ 12) && decide ((c.keys.length : Int) ≤ 12) && decide ((c.entries.length : Int) ≤ 45)) := by
      unfold smallB
      rw [h1, Bool.true_and, show decide (c.people.length ≤ 12) = decide ((c.people.length : Int) ≤ 12) from decide_eq_decide.2 (by omega), show decide (c.keys.length ≤ 12) = decide ((c.keys.length : Int) ≤ 12) from decide_eq_decide.2 (by omega), show decide (c.entries.length ≤ 45) = decide ((c.entries.length : Int) ≤ 45) from decide_eq_decide.2 (by omega)]
    rw [this]
    by_cases a1 : (c.people.length : Int) ≤ 12
    · rw [decide_eq_true a1]
      by_cases a2 : (c.keys.length : Int) ≤ 12
      · rw [decide_eq_true a2]
        ((conv => whnf); repeat' ((first | refine vv2 ?_ | refine vv3 ?_ | refine vv8 ?_ | refine vv21 ?_ | refine vv23 ?_) <;> (conv => whnf)))
        exact ⟨.val rfl⟩
      · rw [decide_eq_false a2]
        ((conv => whnf); repeat' ((first | refine vv2 ?_ | refine vv3 ?_ | refine vv4 ?_ | refine vv8 ?_ | refine vv21 ?_ | refine vv23 ?_) <;> (conv => whnf)))
        exact ⟨.val rfl⟩
    · rw [decide_eq_false a1]
      ((conv => whnf); repeat' ((first | refine vv2 ?_ | refine vv4 ?_ | refine vv8 ?_ | refine vv21 ?_ | refine vv23 ?_) <;> (conv => whnf)))
      exact ⟨.val rfl⟩
end Go.Proofs.Ax
namespace Go.Proofs.Ax
open Go Go.Proofs Go.Proofs.Cu
set_option maxRecDepth 10000
set_option maxHeartbeats 4000000
theorem onDuty_ok (c : Book) (hc : BkS c) (n t : Int) : Pu Tryz.prog G1 39 [bookV c, vi n, vi t] (vb (dutyP c.people n t)) := by
  have hpl := hc.pl
  refine Pu.of_fin (Ef.of_ev (T := Tryz.tab) (n := 63) (tryd_okm 0 _) rfl Tryz.func39 rfl rfl (by simp) ?_) rfl rfl
  (conv => whnf)
  refine LoopN.of (tryd_okm 0 _) (fun k : Nat => [(1, vi n), (2, vi t), (3, .pm 0 0 0), (7, vi k)]) (fun _ => [.rows [bookC c] 26]) (fun k => c.people.length - k) (fun k => k ≤ c.people.length ∧ dutyP c.people n t = dutyP (c.people.drop k) n t) 0 ⟨Nat.zero_le _, rfl⟩ (Reabs.frmM [0] (by repeat (first | exact sv0 | refine sv1 ?_ | refine sv2 ?_ | refine sv3 ?_)) (by repeat (first | exact bv0 | refine bv1 ?_)) rfl rfl) ?_
  rintro k ⟨hk, hinv⟩
  by_cases hlt : k < c.people.length
  · have hdu := hc.du _ (List.getElem_mem hlt)
    have hsp : dutyP (c.people.drop k) n t = ((c.people[k].id == n && c.people[k].duty.any fun s => decide (s.lo ≤ t ∧ t ≤ s.hi)) || dutyP (c.people.drop (k + 1)) n t) := by
      rw [List.drop_eq_getElem_cons hlt]; rfl
    rw [hsp] at hinv
    ((conv => whnf); repeat' ((first | refine vv7 ?_ | refine vv21 ?_ | refine vv23 ?_) <;> (conv => whnf)))
    refine LoopN.of (tryd_okm 0 _) (fun j : Nat => [(1, vi n), (2, vi t), (3, .pm 0 0 0), (7, vi k), (8, vi j)]) (fun _ => [.rows [bookC c] 26]) (fun j => c.people[k].duty.length - j) (fun j => j ≤ c.people[k].duty.length ∧ dutyP c.people n t = ((c.people[k].id == n && (c.people[k].duty.drop j).any fun s => decide (s.lo ≤ t ∧ t ≤ s.hi)) || dutyP (c.people.drop (k + 1)) n t)) 0 ⟨Nat.zero_le _, hinv⟩ (Reabs.frmM [0] (by repeat (first | exact sv0 | refine sv1 ?_ | refine sv2 ?_ | refine sv3 ?_)) (by repeat (first | exact bv0 | refine bv1 ?_)) rfl rfl) ?_
    clear hinv hsp
    rintro j ⟨hj, hinv⟩
    by_cases hjl : j < c.people[k].duty.length
    · rw [List.drop_eq_getElem_cons hjl, List.any_cons] at hinv
      by_cases hid : c.people[k].id = n
      · rw [show (c.people[k].id == n) = true from beq_iff_eq.2 hid, Bool.true_and] at hinv
        by_cases h1 : c.people[k].duty[j].lo ≤ t
        · by_cases h2 : t ≤ c.people[k].duty[j].hi
          · rw [decide_eq_true ⟨h1, h2⟩, Bool.true_or, Bool.true_or] at hinv
            rw [hinv]
            ((conv => whnf); repeat' ((first | refine SlIdxN.map k rfl hlt ?_ | refine SlIdxN.map j rfl hjl ?_ | refine vv3 ?_ | refine vv7 ?_ | refine vv21 ?_ | refine vv23 ?_) <;> (conv => whnf)))
            exact ⟨.val rfl⟩
          · rw [decide_eq_false (fun h => h2 h.2), Bool.false_or] at hinv
            ((conv => whnf); repeat' ((first | refine SlIdxN.map k rfl hlt ?_ | refine SlIdxN.map j rfl hjl ?_ | refine vv3 ?_ | refine vv4 ?_ | refine vv7 ?_ | refine vv20 ?_ | refine vv21 ?_ | refine vv23 ?_) <;> (conv => whnf)))
            refine BackN.mk (j + 1) ⟨by omega, ?_⟩ (by omega) (Reabs.frmM [0] (by repeat (first | exact sv0 | refine sv1 ?_ | refine sv2 ?_ | refine sv3 ?_)) (by repeat (first | exact bv0 | refine bv1 ?_)) rfl rfl)
            rw [hinv, show (c.people[k].id == n) = true from beq_iff_eq.2 hid, Bool.true_and]
        · rw [decide_eq_false (fun h => h1 h.1), Bool.false_or] at hinv
          ((conv => whnf); repeat' ((first | refine SlIdxN.map k rfl hlt ?_ | refine SlIdxN.map j rfl hjl ?_ | refine vv2 ?_ | refine vv3 ?_ | refine vv4 ?_ | refine vv7 ?_ | refine vv20 ?_ | refine vv21 ?_ | refine vv23 ?_) <;> (conv => whnf)))
          refine BackN.mk (j + 1) ⟨by omega, ?_⟩ (by omega) (Reabs.frmM [0] (by repeat (first | exact sv0 | refine sv1 ?_ | refine sv2 ?_ | refine sv3 ?_)) (by repeat (first | exact bv0 | refine bv1 ?_)) rfl rfl)
          rw [hinv, show (c.people[k].id == n) = true from beq_iff_eq.2 hid, Bool.true_and]
      · rw [show (c.people[k].id == n) = false from beq_eq_false_iff_ne.2 hid, Bool.false_and, Bool.false_or] at hinv
        ((conv => whnf); repeat' ((first | refine SlIdxN.map k rfl hlt ?_ | refine vv4 ?_ | refine vv7 ?_ | refine vv20 ?_ | refine vv21 ?_ | refine vv23 ?_) <;> (conv => whnf)))
        exact BackN.mk (k + 1) ⟨by omega, hinv⟩ (by omega) (Reabs.frmM [0] (by repeat (first | exact sv0 | refine sv1 ?_ | refine sv2 ?_ | refine sv3 ?_)) (by repeat (first | exact bv0 | refine bv1 ?_)) rfl rfl)
    · obtain rfl : j = c.people[k].duty.length := by omega
      rw [List.drop_length, List.any_nil, Bool.and_false, Bool.false_or] at hinv
      ((conv => whnf); repeat' ((first | refine SlIdxN.map k rfl hlt ?_ | refine vv2 ?_ | refine vv8 ?_ | refine vv20 ?_ | refine vv21 ?_ | refine vv23 ?_) <;> (conv => whnf)))
      exact BackN.mk (k + 1) ⟨by omega, hinv⟩ (by omega) (Reabs.frmM [0] (by repeat (first | exact sv0 | refine sv1 ?_ | refine sv2 ?_ | refine sv3 ?_)) (by repeat (first | exact bv0 | refine bv1 ?_)) rfl rfl)
  · obtain rfl : k = c.people.length := by omega
    rw [List.drop_length] at hinv
    rw [hinv]
    ((conv => whnf); repeat' ((first | refine vv8 ?_ | refine vv21 ?_ | refine vv23 ?_) <;> (conv => whnf)))
    exact ⟨.val rfl⟩
end Go.Proofs.Ax
