import Derived.Test.YtedekogkeamacaaGreatDoorCcAF
import Derived.Test.YtedekogkeamacaaGreatDoorCcAJ
namespace Go.Proofs.Ax
open Go Go.Proofs Go.Proofs.Cu
set_option maxRecDepth 10000
set_option maxHeartbeats 4000000
section
theorem rspan_ok (s : Spn) : Pu Tryz.prog G1 22 [.agg (encS s)] (vb (validS s)) := by
  rw [← validS_eq]; refine Qh 18 Tryz.func22 rfl rfl ?_
  (conv => whnf); repeat' (first | refine vv2 ?_ | refine vv3 ?_ | refine vv4 ?_ | refine vv11 (fun hbr => ?_) (fun hbr => ?_) | refine vv21 ?_) <;> conv => whnf
  all_goals refine DoneN.pure ?_
  all_goals first | rfl | exact vb_dec (by omega) | exact vb_tt (by omega) | exact vb_ff (by omega)
theorem rperson_ok (c : Book) (n : Int) (hc : BkS c) : Pu Tryz.prog G1 141 [bookV c, vi n] (vi (idxInt c.people.length (c.people.findIdx fun p => p.id == n))) := by
  have hpl := hc.pl; refine Qf 22 Tryz.func141 rfl rfl ?_
  (conv => whnf)
  refine LoopN.of Qt (fun k : Nat => [(1, vi n), (2, .pm 0 0 0), (5, vi k)]) (fun _ => [.rows [bookC c] 26]) (fun k => c.people.length - k) (fun k => k ≤ c.people.length ∧ ∀ i (h : i < c.people.length), i < k → (c.people[i].id == n) = false) 0 ⟨Nat.zero_le _, fun i h hi => by omega⟩ (QM [0]) ?_; rintro k ⟨hk, hall⟩; by_cases hlt : k < c.people.length
  · by_cases hp : c.people[k].id = n
    · have e : c.people.findIdx (fun p => p.id == n) = k := (List.findIdx_eq hlt).2 ⟨beq_iff_eq.2 hp, fun j hj => hall j (by omega) hj⟩; rw [e, idxInt, if_pos hlt]
      repeat' ((conv => whnf); first | refine SlIdxN.map k rfl hlt ?_ | refine vv3 ?_ | refine vv7 ?_ | refine vv21 ?_ | refine vv23 ?_)
      exact Qv
    repeat' ((conv => whnf); first | refine SlIdxN.map k rfl hlt ?_ | refine vv4 ?_ | refine vv7 ?_ | refine vv20 ?_ | refine vv21 ?_ | refine vv23 ?_)
    refine BackN.mk (k + 1) ⟨by omega, fun i h hi => ?_⟩ (by omega) (QM [0]); by_cases hq : i = k
    subst hq; exact beq_eq_false_iff_ne.2 hp; exact hall i h (by omega)
  have e : c.people.findIdx (fun p => p.id == n) = c.people.length := List.findIdx_eq_length.2 fun x hx => by
    obtain ⟨i, hi, rfl⟩ := List.getElem_of_mem hx; exact hall i hi (by omega)
  rw [e, idxInt, if_neg (by omega)]
  repeat' ((conv => whnf); first | refine vv8 ?_ | refine vv21 ?_ | refine vv23 ?_)
  exact Qv
theorem keyed_ok (c : Book) (n : Int) (hc : BkS c) : Pu Tryz.prog G1 89 [bookV c, vi n] (vb (c.keys.contains n)) := by
  have hkl := hc.kl; refine Qf 20 Tryz.func89 rfl rfl ?_
  (conv => whnf)
  refine LoopN.of Qt (fun k : Nat => [(1, vi n), (2, .pm 0 0 0), (5, vi k)]) (fun _ => [.rows [bookC c] 26]) (fun k => c.keys.length - k) (fun k => k ≤ c.keys.length ∧ ∀ i (h : i < c.keys.length), i < k → c.keys[i] ≠ n) 0 ⟨Nat.zero_le _, fun i h hi => by omega⟩ (QM [0]) ?_; rintro k ⟨hk, hall⟩; by_cases hlt : k < c.keys.length
  · by_cases hp : c.keys[k] = n
    · have e : c.keys.contains n = true := List.contains_iff_mem.2 (hp ▸ List.getElem_mem hlt); rw [e]
      repeat' ((conv => whnf); first | refine SlIdxN.map k rfl hlt ?_ | refine vv3 ?_ | refine vv7 ?_ | refine vv21 ?_ | refine vv23 ?_)
      exact Qv
    repeat' ((conv => whnf); first | refine SlIdxN.map k rfl hlt ?_ | refine vv4 ?_ | refine vv7 ?_ | refine vv20 ?_ | refine vv21 ?_ | refine vv23 ?_)
    refine BackN.mk (k + 1) ⟨by omega, fun i h hi => ?_⟩ (by omega) (QM [0]); by_cases hq : i = k
    subst hq; exact hp; exact hall i h (by omega)
  have e : c.keys.contains n = false := by
    rw [Bool.eq_false_iff]; intro h; obtain ⟨i, hi, e⟩ := List.getElem_of_mem (List.contains_iff_mem.1 h); exact hall i hi (by omega) e
  rw [e]
  repeat' ((conv => whnf); first | refine vv8 ?_ | refine vv21 ?_ | refine vv23 ?_)
  exact Qv
theorem idx_known (ps : List Pers) (n : Int) : decide (0 ≤ idxInt ps.length (ps.findIdx fun p => p.id == n)) = knownP ps n := by
  unfold idxInt knownP; by_cases h : (ps.findIdx fun p => p.id == n) < ps.length
  · rw [if_pos h, decide_eq_true (by omega)]; have := List.findIdx_lt_length.1 h; exact (List.any_eq_true.2 this).symm
  rw [if_neg h, decide_eq_false (by omega)]
  symm
  rw [List.any_eq_false]; intro x hx hp; exact h (List.findIdx_lt_length.2 ⟨x, hx, hp⟩)
theorem place_ok (c : Book) (n : Int) (hc : BkS c) : Pu Tryz.prog G1 140 [bookV c, vi n] (vb (hangsP c.people n)) := by
  have h1 := rperson_ok c n hc; have h2 := idx_known c.people n; unfold hangsP; rw [← h2]; clear h2; generalize idxInt c.people.length (c.people.findIdx fun p => p.id == n) = m at *; by_cases h0 : n = 0
  · rw [show (n == 0 || decide (0 ≤ m)) = true by rw [beq_iff_eq.2 h0]; rfl]; refine Qf 13 Tryz.func140 rfl rfl ?_
    repeat' ((conv => whnf); first | refine vv3 ?_)
    exact Qv
  rw [show (n == 0 || decide (0 ≤ m)) = decide (0 ≤ m) by rw [beq_eq_false_iff_ne.2 h0]; rfl]; refine Qf 13 Tryz.func140 rfl rfl ?_
  repeat' ((conv => whnf); first | refine vv4 ?_ | refine vv21 ?_ | refine Qp h1 ?_)
  exact Qv
theorem rvalid_ok (p : Pers) (hmax : p.duty.length ≤ 9223372036854775807) : Pu Tryz.prog G1 85 [.agg (encP p)] (vb (persOk p)) := by
  by_cases hid : 1 ≤ p.id ∧ p.id ≤ 1099511627776
  case neg =>
    have : persOk p = false := by unfold persOk idOk; rw [decide_eq_false hid]; simp
    rw [this]; refine Qh 52 Tryz.func85 rfl rfl ?_
    (conv => whnf); repeat' (first | refine vv1 ?_ | refine vv3 ?_ | refine vv4 ?_ | refine vv7 ?_ | refine vv11 (fun hbr => ?_) (fun hbr => ?_) | refine vv21 ?_) <;> conv => whnf
    all_goals exact DoneN.pure rfl
  by_cases hl : 6 < p.duty.length
  · have : persOk p = false := by unfold persOk; rw [decide_eq_false (by omega : ¬ p.duty.length ≤ 6)]; simp
    rw [this]; refine Qh 52 Tryz.func85 rfl rfl ?_
    (conv => whnf); repeat' (first | refine vv7 ?_ | refine vv8 ?_ | refine vv21 ?_ | refine vv23 ?_) <;> conv => whnf
    all_goals exact DoneN.pure rfl
  have e : persOk p = dutyOk none p.duty := by unfold persOk idOk; rw [decide_eq_true hid, decide_eq_true (by omega : p.duty.length ≤ 6)]; simp
  obtain ⟨hid1, hid2⟩ := hid; rw [e]; refine Qh 52 Tryz.func85 rfl rfl ?_
  repeat' ((conv => whnf); first | refine vv8 ?_ | refine vv21 ?_ | refine vv23 ?_)
  refine LoopN.of Qt (fun k : Nat => [(1, .pm 0 0 0), (3, vi k)]) (fun _ => [.rows [encP p] 59]) (fun k => p.duty.length - k) (fun k => k ≤ p.duty.length ∧ dutyOk none p.duty = dutyOk (prevHi p.duty k) (p.duty.drop k)) 0 ⟨Nat.zero_le _, rfl⟩ (Reabs.frmN [0] (by repeat (first | exact trivial | refine ⟨.inr ⟨rfl, rfl⟩, ?_⟩)) (by repeat (first | exact trivial | refine ⟨⟨_, rfl, blkDeep rfl (by first | exact deepLit rfl | exact deepMap (fun _ => rfl)), fun _ => rfl⟩, ?_⟩)) (by decide) ⟨Nat.zero_le _, fun i hi => absurd hi (Nat.not_lt_zero i)⟩) ?_; rintro k ⟨hk, hinv⟩; by_cases hlt : k < p.duty.length
  · have hv := rspan_ok p.duty[k]
    cases hq : validS p.duty[k] with
    | false =>
      rw [hq] at hv
      (conv => whnf); repeat' (first | refine SlIdxN.map k rfl hlt ?_ | refine vv1 ?_ | refine vv7 ?_ | refine vv21 ?_ | refine vv23 ?_ | refine vv25 ?_ | refine Qd ?_ | refine Qg hv ?_) <;> conv => whnf
      refine DoneN.pure ?_; refine congrArg vb ?_; rw [hinv, duty_bad hlt hq]
    | true =>
      rw [hq] at hv
      (conv => whnf); repeat' (first | refine SlIdxN.map k rfl hlt ?_ | refine vv2 ?_ | refine vv3 ?_ | refine vv4 ?_ | refine vv7 ?_ | refine vv11 (fun hbr => ?_) (fun hbr => ?_) | refine vv20 ?_ | refine SlIdxN.mapPred (by omega) (by omega) ?_ | refine vv21 ?_ | refine vv23 ?_ | refine vv25 ?_ | refine Qd ?_ | refine Qg hv ?_) <;> conv => whnf
      all_goals first
        | (refine DoneN.pure ?_; refine congrArg vb ?_; rw [hinv, duty_back hlt (by omega) (by omega)]; done)
        | (refine BackN.mk (k + 1) ⟨by omega, ?_⟩ (by omega) (Reabs.frmN [0] (by repeat (first | exact trivial | refine ⟨.inr ⟨rfl, rfl⟩, ?_⟩)) (by repeat (first | exact trivial | refine ⟨⟨_, rfl, blkDeep rfl (by first | exact deepLit rfl | exact deepMap (fun _ => rfl)), fun _ => rfl⟩, ?_⟩)) (by decide) ⟨Nat.zero_le _, fun i hi => absurd hi (Nat.not_lt_zero i)⟩); rw [hinv, duty_go hlt hq (by omega)])
        | (refine BackN.mk (k + 1) ⟨by omega, ?_⟩ (by omega) (Reabs.frmN [0] (by repeat (first | exact trivial | refine ⟨.inr ⟨rfl, rfl⟩, ?_⟩)) (by repeat (first | exact trivial | refine ⟨⟨_, rfl, blkDeep rfl (by first | exact deepLit rfl | exact deepMap (fun _ => rfl)), fun _ => rfl⟩, ?_⟩)) (by decide) ⟨Nat.zero_le _, fun i hi => absurd hi (Nat.not_lt_zero i)⟩); rw [hinv, duty_go hlt hq (fun _ => by omega)])
  rw [hinv, duty_end hlt]
  repeat' ((conv => whnf); first | refine vv8 ?_ | refine vv21 ?_ | refine vv23 ?_)
  exact DoneN.pure rfl
theorem entered_ok (c : Book) (hc : BkS c) (e : Entr) : Pu Tryz.prog G1 86 [bookV c, .agg (encE e)] (vb (entrOk c e)) := by
  have hk := keyed_ok c e.key hc
  have hs := rspan_ok e.at_
  have p1 := place_ok c e.src hc; have p2 := place_ok c e.dst hc; have p3 := rperson_ok c e.src hc; have h2 := idx_known c.people e.src; generalize idxInt c.people.length (c.people.findIdx fun p => p.id == e.src) = m at *; refine Qh 81 Tryz.func86 rfl rfl ?_
  (conv => whnf); repeat' (first | refine vv1 ?_ | refine vv2 ?_ | refine vv3 ?_ | refine vv4 ?_ | refine vv5 ?_ | refine vv6 ?_ | refine vv11 (fun hbr => ?_) (fun hbr => ?_) | refine vv12 (fun hbr => ?_) (fun hbr => ?_) | refine vv13 ?_ | refine vv14 ?_ | refine vv15 ?_ | refine vv16 ?_ | refine vv17 (fun hbr => ?_) (fun hbr => ?_) | refine vv19 (fun hbr => ?_) (fun hbr => ?_) | refine vv21 ?_ | refine Qp hk ?_ | refine Qp hs ?_ | refine Qp p1 ?_ | refine Qp p2 ?_ | refine Qp p3 ?_) <;> conv => whnf
  all_goals refine DoneN.pure (congrArg vb ?_)
  all_goals first | (simp [entrOk, show idOk e.id = false from decide_eq_false (by omega)]; done) | (simp_all [entrOk, Cu.kindOk, idOk]; done)
end
section
theorem cnt_le7 {l _d : List Entr} {k : Int} : (l.filter fun x => x.key == k).length ≤ l.length := List.length_filter_le ..
theorem any_take_succ {l : List Entr} {j : Nat} (h : j < l.length) (q : Entr → Bool) : (l.take (j + 1)).any q = ((l.take j).any q || q l[j]) := by rw [take_succ_snoc h, List.any_append]; simp
theorem filt_take_succ {l : List Entr} {j : Nat} (h : j < l.length) (q : Entr → Bool) : ((l.take (j + 1)).filter q).length = ((l.take j).filter q).length + (if q l[j] = true then 1 else 0) := by
  rw [take_succ_snoc h, List.filter_append, List.length_append]; congr 1
  by_cases hq : q l[j] = true
  rw [List.filter_cons_of_pos hq, if_pos hq]; rfl; rw [List.filter_cons_of_neg hq, if_neg hq]; rfl
theorem rcheck_ok {c : Book} (hc : BkS c) : Pu Tryz.prog G1 30 [bookV c] (vi (checkE c)) := by
  have hpl := hc.pl; have hkl := hc.kl; have hel := hc.el; unfold checkE; by_cases hg : c.gaps < 0 ∨ 3 < c.gaps
  · rw [if_pos hg]; refine Qh 151 Tryz.func30 rfl rfl ?_
    (conv => whnf); repeat' (first | refine vv1 ?_ | refine vv3 ?_ | refine vv4 ?_ | refine vv7 ?_ | refine vv11 (fun hbr => ?_) (fun hbr => ?_) | refine vv21 ?_) <;> conv => whnf
    all_goals exact DoneN.pure rfl
  rw [if_neg hg]
  have hg1 : ¬ c.gaps < 0 := fun h => hg (.inl h)
  have hg2 : ¬ 3 < c.gaps := fun h => hg (.inr h)
  clear hg; by_cases hl : 8 < c.people.length ∨ 8 < c.keys.length ∨ 40 < c.entries.length
  · rw [if_pos hl]; refine Qh 151 Tryz.func30 rfl rfl ?_
    (conv => whnf); repeat' (first | refine vv1 ?_ | refine vv3 ?_ | refine vv4 ?_ | refine vv7 ?_ | refine vv11 (fun hbr => ?_) (fun hbr => ?_) | refine vv21 ?_ | refine vv23 ?_) <;> conv => whnf
    all_goals exact DoneN.pure rfl
  rw [if_neg hl]
  have hl1 : ¬ 8 < c.people.length := fun h => hl (.inl h)
  have hl2 : ¬ 8 < c.keys.length := fun h => hl (.inr (.inl h))
  have hl3 : ¬ 40 < c.entries.length := fun h => hl (.inr (.inr h))
  clear hl; refine Qh 151 Tryz.func30 rfl rfl ?_
  repeat' ((conv => whnf); first | refine vv4 ?_ | refine vv8 ?_ | refine vv21 ?_ | refine vv23 ?_)
  refine LoopN.of Qt (fun k : Nat => [(1, .pm 0 0 0), (3, vi k)]) (fun _ => [.rows [bookC c] 26]) (fun k => c.people.length - k) (fun k => k ≤ c.people.length ∧ scanE badPers none c.people = scanE badPers (prevO c.people k) (c.people.drop k)) 0 ⟨Nat.zero_le _, rfl⟩ (Reabs.frmN [0] (by repeat (first | exact trivial | refine ⟨.inr ⟨rfl, rfl⟩, ?_⟩)) (by repeat (first | exact trivial | refine ⟨⟨_, rfl, blkDeep rfl (by first | exact deepLit rfl | exact deepMap (fun _ => rfl)), fun _ => rfl⟩, ?_⟩)) (by decide) ⟨Nat.zero_le _, fun i hi => absurd hi (Nat.not_lt_zero i)⟩) ?_; rintro k ⟨hk, hinv⟩; by_cases hlt : k < c.people.length
  · have hdu := hc.du _ (List.getElem_mem hlt); have hp := rvalid_ok c.people[k] (by omega); rw [scanE_step hlt] at hinv
    cases hq : persOk c.people[k] with
    | false =>
      rw [hq] at hp; rw [badPers_1 hq] at hinv
      (conv => whnf); repeat' (first | refine SlIdxN.map k rfl hlt ?_ | refine vv1 ?_ | refine vv7 ?_ | refine vv21 ?_ | refine vv23 ?_ | refine Qp hp ?_) <;> conv => whnf
      refine DoneN.pure ?_; rw [listsE, hinv]; rfl
    | true =>
      rw [hq] at hp
      (conv => whnf); repeat' (first | refine SlIdxN.map k rfl hlt ?_ | refine vv2 ?_ | refine vv3 ?_ | refine vv4 ?_ | refine vv7 ?_ | refine vv11 (fun hbr => ?_) (fun hbr => ?_) | refine vv20 ?_ | refine SlIdxN.mapPred (by omega) (by omega) ?_ | refine vv21 ?_ | refine vv23 ?_ | refine vv25 ?_ | refine Qd ?_ | refine Qp hp ?_) <;> conv => whnf
      all_goals first
        | (rw [badPers_6 hlt hq (by omega) (by omega)] at hinv; refine DoneN.pure ?_; rw [listsE, hinv]; rfl)
        | (rw [badPers_0 hlt hq (fun _ => by omega)] at hinv; exact BackN.mk (k + 1) ⟨by omega, hinv⟩ (by omega) (Reabs.frmN [0] (by repeat (first | exact trivial | refine ⟨.inr ⟨rfl, rfl⟩, ?_⟩)) (by repeat (first | exact trivial | refine ⟨⟨_, rfl, blkDeep rfl (by first | exact deepLit rfl | exact deepMap (fun _ => rfl)), fun _ => rfl⟩, ?_⟩)) (by decide) ⟨Nat.zero_le _, fun i hi => absurd hi (Nat.not_lt_zero i)⟩))
  rw [scanE_end hlt] at hinv; have he : listsE c = scanE badKey none c.keys := by rw [listsE, hinv]; rfl
  rw [he]
  repeat' ((conv => whnf); first | refine vv8 ?_ | refine vv21 ?_ | refine vv23 ?_)
  refine LoopN.of Qt (fun k : Nat => [(1, .pm 0 0 0), (4, vi k)]) (fun _ => [.rows [bookC c] 26]) (fun k => c.keys.length - k) (fun k => k ≤ c.keys.length ∧ scanE badKey none c.keys = scanE badKey (prevO c.keys k) (c.keys.drop k)) 0 ⟨Nat.zero_le _, rfl⟩ (Reabs.frmN [0] (by repeat (first | exact trivial | refine ⟨.inr ⟨rfl, rfl⟩, ?_⟩)) (by repeat (first | exact trivial | refine ⟨⟨_, rfl, blkDeep rfl (by first | exact deepLit rfl | exact deepMap (fun _ => rfl)), fun _ => rfl⟩, ?_⟩)) (by decide) ⟨Nat.zero_le _, fun i hi => absurd hi (Nat.not_lt_zero i)⟩) ?_; rintro k ⟨hk, hinv⟩; by_cases hlt : k < c.keys.length
  · rw [scanE_step hlt] at hinv
    cases hq : idOk c.keys[k] with
    | false =>
      have hqq : ¬ (1 ≤ c.keys[k] ∧ c.keys[k] ≤ 1099511627776) := of_decide_eq_false hq; rw [badKey_1 hq] at hinv
      (conv => whnf); repeat' (first | refine SlIdxN.map k rfl hlt ?_ | refine vv1 ?_ | refine vv3 ?_ | refine vv4 ?_ | refine vv7 ?_ | refine vv11 (fun hbr => ?_) (fun hbr => ?_) | refine vv21 ?_ | refine vv23 ?_) <;> conv => whnf
      all_goals (refine DoneN.pure ?_; rw [hinv]; rfl)
    | true =>
      obtain ⟨hq1, hq2⟩ : 1 ≤ c.keys[k] ∧ c.keys[k] ≤ 1099511627776 := of_decide_eq_true hq
      (conv => whnf); repeat' (first | refine SlIdxN.map k rfl hlt ?_ | refine vv2 ?_ | refine vv3 ?_ | refine vv4 ?_ | refine vv7 ?_ | refine vv8 ?_ | refine vv11 (fun hbr => ?_) (fun hbr => ?_) | refine vv20 ?_ | refine SlIdxN.mapPred (by omega) (by omega) ?_ | refine vv21 ?_ | refine vv23 ?_ | refine vv25 ?_ | refine Qd ?_) <;> conv => whnf
      all_goals first
        | (rw [badKey_6 hlt hq (by omega) (by omega)] at hinv; refine DoneN.pure ?_; rw [hinv]; rfl)
        | (rw [badKey_0 hlt hq (fun _ => by omega)] at hinv; exact BackN.mk (k + 1) ⟨by omega, hinv⟩ (by omega) (Reabs.frmN [0] (by repeat (first | exact trivial | refine ⟨.inr ⟨rfl, rfl⟩, ?_⟩)) (by repeat (first | exact trivial | refine ⟨⟨_, rfl, blkDeep rfl (by first | exact deepLit rfl | exact deepMap (fun _ => rfl)), fun _ => rfl⟩, ?_⟩)) (by decide) ⟨Nat.zero_le _, fun i hi => absurd hi (Nat.not_lt_zero i)⟩))
  rw [hinv, scanE_end hlt, if_neg (by simp)]
  repeat' ((conv => whnf); first | refine vv8 ?_ | refine vv21 ?_ | refine vv23 ?_)
  refine LoopN.of Qt (fun k : Nat => [(1, .pm 0 0 0), (5, vi k)]) (fun _ => [.rows [bookC c] 26]) (fun k => c.entries.length - k) (fun k => k ≤ c.entries.length ∧ entrsE c [] c.entries = entrsE c (c.entries.take k) (c.entries.drop k) ∧ ∀ q, ((c.entries.take k).filter fun x => x.key == q).length ≤ 7) 0 ⟨Nat.zero_le _, rfl, fun q => by simp⟩ (Reabs.frmN [0] (by repeat (first | exact trivial | refine ⟨.inr ⟨rfl, rfl⟩, ?_⟩)) (by repeat (first | exact trivial | refine ⟨⟨_, rfl, blkDeep rfl (by first | exact deepLit rfl | exact deepMap (fun _ => rfl)), fun _ => rfl⟩, ?_⟩)) (by decide) ⟨Nat.zero_le _, fun i hi => absurd hi (Nat.not_lt_zero i)⟩) ?_; clear hinv hlt he hk; rintro k ⟨hk, hinv, hcnt⟩; rw [hinv]; clear hinv; by_cases hlt : k < c.entries.length
  · have hen := entered_ok c hc c.entries[k]; rw [entrs_step c hlt]
    cases hok : entrOk c c.entries[k] with
    | false =>
      rw [hok] at hen; rw [if_pos rfl]
      repeat' ((conv => whnf); first | refine SlIdxN.map k rfl hlt ?_ | refine vv1 ?_ | refine vv7 ?_ | refine vv21 ?_ | refine vv23 ?_ | refine vv25 ?_ | refine Qd ?_ | refine Qg hen ?_)
      exact DoneN.pure rfl
    | true =>
      rw [hok] at hen; rw [if_neg (by simp)]
      repeat' ((conv => whnf); first | refine SlIdxN.map k rfl hlt ?_ | refine vv2 ?_ | refine vv7 ?_ | refine vv21 ?_ | refine vv23 ?_ | refine vv25 ?_ | refine Qd ?_ | refine Qg hen ?_)
      refine LoopN.of Qt (fun j : Nat => [(1, .pm 0 0 0), (5, vi k), (6, vi ((c.entries.take j).filter fun x => x.key == (c.entries[k]).key).length), (7, vi j)]) (fun _ => [.rows [bookC c] 26]) (fun j => k - j) (fun j => j ≤ k ∧ (c.entries.take j).any (fun x => x.id == (c.entries[k]).id) = false) 0 ⟨Nat.zero_le _, by simp⟩ (Reabs.frmN [0] (by repeat (first | exact trivial | refine ⟨.inr ⟨rfl, rfl⟩, ?_⟩)) (by repeat (first | exact trivial | refine ⟨⟨_, rfl, blkDeep rfl (by first | exact deepLit rfl | exact deepMap (fun _ => rfl)), fun _ => rfl⟩, ?_⟩)) (by decide) ⟨Nat.zero_le _, fun i hi => absurd hi (Nat.not_lt_zero i)⟩) ?_; rintro j ⟨hj, hall⟩; by_cases hjk : j < k
      · have hjl : j < c.entries.length := by omega
        have ha := any_take_succ hjl (fun x => x.id == (c.entries[k]).id); have hf := filt_take_succ hjl (fun x => x.key == (c.entries[k]).key); have hfl := @cnt_le7 (c.entries.take j) [] (c.entries[k]).key; rw [List.length_take] at hfl; rw [hall, Bool.false_or] at ha; by_cases hid : c.entries[j].id = c.entries[k].id
        · have : (c.entries.take k).any (fun x => x.id == (c.entries[k]).id) = true := by
            rw [List.any_eq_true]; refine ⟨c.entries[j], ?_, beq_iff_eq.2 hid⟩; rw [List.mem_iff_getElem]; exact ⟨j, by simp; omega, by simp⟩
          rw [if_pos this]
          repeat' ((conv => whnf); first | refine SlIdxN.map j rfl hjl ?_ | refine SlIdxN.map k rfl hlt ?_ | refine vv3 ?_ | refine vv7 ?_ | refine vv21 ?_ | refine vv25 ?_ | refine Qd ?_)
          exact DoneN.pure rfl
        rw [show (c.entries[j].id == c.entries[k].id) = false from beq_eq_false_iff_ne.2 hid] at ha; by_cases hky : c.entries[j].key = c.entries[k].key
        · rw [if_pos (beq_iff_eq.2 hky)] at hf
          repeat' ((conv => whnf); first | refine SlIdxN.map j rfl hjl ?_ | refine SlIdxN.map k rfl hlt ?_ | refine vv3 ?_ | refine vv4 ?_ | refine vv7 ?_ | refine vv20 ?_ | refine vv21 ?_ | refine vv25 ?_ | refine Qd ?_)
          exact BackN.mk (j + 1) ⟨by omega, ha⟩ (by omega) (by rw [hf]; exact (Reabs.frmN [0] (by repeat (first | exact trivial | refine ⟨.inr ⟨rfl, rfl⟩, ?_⟩)) (by repeat (first | exact trivial | refine ⟨⟨_, rfl, blkDeep rfl (by first | exact deepLit rfl | exact deepMap (fun _ => rfl)), fun _ => rfl⟩, ?_⟩)) (by decide) ⟨Nat.zero_le _, fun i hi => absurd hi (Nat.not_lt_zero i)⟩))
        rw [if_neg (by simpa using hky)] at hf
        repeat' ((conv => whnf); first | refine SlIdxN.map j rfl hjl ?_ | refine SlIdxN.map k rfl hlt ?_ | refine vv4 ?_ | refine vv7 ?_ | refine vv20 ?_ | refine vv21 ?_ | refine vv25 ?_ | refine Qd ?_)
        exact BackN.mk (j + 1) ⟨by omega, ha⟩ (by omega) (by rw [hf]; exact (Reabs.frmN [0] (by repeat (first | exact trivial | refine ⟨.inr ⟨rfl, rfl⟩, ?_⟩)) (by repeat (first | exact trivial | refine ⟨⟨_, rfl, blkDeep rfl (by first | exact deepLit rfl | exact deepMap (fun _ => rfl)), fun _ => rfl⟩, ?_⟩)) (by decide) ⟨Nat.zero_le _, fun i hi => absurd hi (Nat.not_lt_zero i)⟩))
      obtain rfl : j = k := by omega
      rw [hall, if_neg (by simp)]; have hc7 := hcnt (c.entries[j]).key; by_cases h7 : ((c.entries.take j).filter fun x => x.key == (c.entries[j]).key).length = 7
      · rw [if_pos h7]; rw [h7]
        repeat' ((conv => whnf); first | refine vv1 ?_ | refine vv8 ?_)
        exact DoneN.pure rfl
      rw [if_neg h7]
      have hnew : ∀ q, ((c.entries.take (j + 1)).filter fun x => x.key == q).length ≤ 7 := fun q => by
        rw [filt_take_succ hlt]; by_cases hq : (c.entries[j].key == q) = true
        · rw [if_pos hq]; have : c.entries[j].key = q := beq_iff_eq.1 hq; subst this; omega
        rw [if_neg hq]; have := hcnt q; omega
      generalize ((c.entries.take j).filter fun x => x.key == (c.entries[j]).key).length = m at *
      repeat' ((conv => whnf); first | refine vv8 ?_ | refine vv20 ?_)
      exact BackN.mk (j + 1) ⟨by omega, rfl, hnew⟩ (by omega) (Reabs.frmN [0] (by repeat (first | exact trivial | refine ⟨.inr ⟨rfl, rfl⟩, ?_⟩)) (by repeat (first | exact trivial | refine ⟨⟨_, rfl, blkDeep rfl (by first | exact deepLit rfl | exact deepMap (fun _ => rfl)), fun _ => rfl⟩, ?_⟩)) (by decide) ⟨Nat.zero_le _, fun i hi => absurd hi (Nat.not_lt_zero i)⟩)
  rw [entrs_end c hlt]
  repeat' ((conv => whnf); first | refine vv8 ?_ | refine vv21 ?_ | refine vv23 ?_)
  exact DoneN.pure rfl
end
section
theorem finBk {H : AH} (i : Nat) (ps : List Pers) (ks : List Int) (l : List Entr) (g : Int) (h : nthB H i = some (.rows (l.map encE) 68)) : FinTo 0 H (.agg [persons ps, ints ks, .sm i 7 0 l.length, vi g]) (.agg [persons ps, ints ks, entries l, vi g]) [] := by
  have hz : AV.frz0 i (l.map encE) (.sm i 7 0 l.length) = entries l := frz_all (by rw [List.length_map]); rw [nthB_eq] at h; refine .step i _ _ h (deepR (fun _ => rfl)) ?_; have h2 : (AV.agg [persons ps, ints ks, .sm i 7 0 l.length, vi g]).frz2 i (l.map encE) = .agg [persons ps, ints ks, AV.frz0 i (l.map encE) (.sm i 7 0 l.length), vi g] := rfl; rw [h2, hz]; exact .val rfl
abbrev bookX (c : Book) (x : AV) : List AV := [persons c.people, ints c.keys, x, vi c.gaps]
abbrev selW (c : Book) (ids : List Int) (k : Nat) : List Entr := (c.entries.take k).filter fun e => !ids.contains e.id
theorem selW_succ {c : Book} {ids : List Int} {k : Nat} (h : k < c.entries.length) : selW c ids (k + 1) = selW c ids k ++ if (!ids.contains (c.entries[k]).id) = true then [c.entries[k]] else [] := by
  unfold selW; rw [take_succ_snoc h, List.filter_append]; congr 1
  by_cases hq : (!ids.contains (c.entries[k]).id) = true
  rw [if_pos hq, List.filter_cons, if_pos hq]; rfl; rw [if_neg hq, List.filter_cons, if_neg hq]; rfl
theorem selW_len {c : Book} {ids : List Int} {k : Nat} : (selW c ids k).length ≤ c.entries.length := by
  refine Nat.le_trans (List.length_filter_le ..) ?_; rw [List.length_take]; omega
theorem rwithout_ok {c : Book} (hc : BkS c) (ids : List Int) (hmax : ids.length ≤ 1000000) : Pu Tryz.prog G1 47 [bookV c, ints ids] (bookV (withoutB c ids)) := by
  have hel := hc.el; refine Qc 41 Tryz.func47 rfl rfl ?_; refine Qs ?_
  (conv => whnf)
  refine CodeN.re (Reabs.frz 0 [bookC c] 26 rfl (deepAll rfl)) ?_; refine Qe ?_
  repeat' ((conv => whnf); first | refine vv22 ?_)
  refine LoopN.re ((Reabs.more 68).trans (Reabs.cells 2 [bookX c nilA] [bookX c (.sm 3 7 0 0)] 26 rfl (show WkB [bookX c nilA] [bookX c (.sm 3 7 0 0)] from ⟨⟨WkC.refl _, WkC.refl _, WkC.nilSm _ _, WkC.refl _, trivial⟩, trivial⟩))) ?_; refine LoopN.of Qt (fun k : Nat => [(1, ints ids), (2, .pi (bookC c)), (4, .pm 0 0 0), (5, .pm 1 0 0), (6, vi k)]) (fun k => [.rows [[nilA, nilA, nilA, vi 0]] 26, .rows [bookX c (.sm 2 7 0 (selW c ids k).length)] 26, .rows ((selW c ids k).map encE) 68]) (fun k => c.entries.length - k) (fun k => k ≤ c.entries.length) 0 (Nat.zero_le _) (QM [1, 2, 3]) ?_; intro k hk; by_cases hlt : k < c.entries.length
  · have hsu := selW_succ (ids := ids) hlt; have hle := selW_len (c := c) (ids := ids) (k := k); have h1 := hasL_ok ids (c.entries[k]).id hmax; generalize selW c ids k = o at *
    cases hq : ids.contains (c.entries[k]).id with
    | true =>
      rw [hq] at h1 hsu; rw [if_neg (by simp), List.append_nil] at hsu
      repeat' ((conv => whnf); first | refine SlIdxN.map k rfl hlt ?_ | refine vv2 ?_ | refine vv7 ?_ | refine vv20 ?_ | refine vv23 ?_ | refine Qp h1 ?_)
      exact Qb (k + 1) (by rw [hsu]; exact QM [0, 1, 2])
    | false =>
      rw [hq] at h1 hsu; rw [if_pos (by simp)] at hsu
      repeat' ((conv => whnf); first | refine SlIdxN.map k rfl hlt ?_ | refine vv1 ?_ | refine vv7 ?_ | refine vv20 ?_ | refine vv21 ?_ | refine vv22 ?_ | refine vv23 ?_ | refine vv25 ?_ | refine Qd ?_ | refine vv31 ?_ | refine vv33 ?_ | refine Qp h1 ?_)
      exact Qb (k + 1) (QM [0, 1, 3] (hb := bv1 (Ql rfl (blkOk rfl (by rw [hsu, List.length_append]; rfl)) (Ql rfl (blkDeep (by rw [hsu, List.map_append]; rfl) (deepMap (fun _ => rfl))) bv0))))
  obtain rfl : k = c.entries.length := by omega
  have hall : selW c ids c.entries.length = (withoutB c ids).entries := by simp [selW, withoutB]
  rw [show bookV (withoutB c ids) = .agg [persons c.people, ints c.keys, entries (withoutB c ids).entries, vi c.gaps] from rfl, ← hall]; generalize selW c ids c.entries.length = o at *
  (conv => whnf); repeat' (first | refine vv8 ?_ | refine vv21 ?_ | refine vv22 ?_ | refine vv23 ?_) <;> conv => whnf
  exact ⟨finBk 2 c.people c.keys o c.gaps rfl⟩
end
end Go.Proofs.Ax
