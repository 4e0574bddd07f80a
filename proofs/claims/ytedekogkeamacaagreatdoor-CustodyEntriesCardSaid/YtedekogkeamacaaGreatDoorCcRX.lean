import Derived.Test.YtedekogkeamacaaGreatDoorCcRY2
import Derived.Test.YtedekogkeamacaaGreatDoorCcAL
import Derived.Test.YtedekogkeamacaaGreatDoorCcAF
import Derived.Test.YtedekogkeamacaaGreatDoorCcAH
namespace Go.Proofs.Ax
open Go Go.Proofs Go.Proofs.Cu
set_option maxRecDepth 10000
set_option maxHeartbeats 4000000
theorem when_facts {c : Book} (hok : c.ok) (id : Int) : (keyOfI c id = 0 ∧ whenF c id = (⟨0, 0⟩, 5)) ∨ ∃ (k : Nat) (hk : k < c.entries.length), c.entries[k].id = id ∧ keyOfI c id = c.entries[k].key ∧ keyOfI c id ≠ 0 ∧
    ((consR c (keyOfI c id) = false ∧ whenF c id = (⟨0, 0⟩, 9)) ∨ (consR c (keyOfI c id) = true ∧ whenF c id = (whenR (chnOf c c.entries[k].key) c.entries[k], 0))) := by
  have h0 := (check_ok c).2 hok; unfold keyOfI
  cases hf : c.entries.find? fun e => e.id == id with
  | none =>
    refine .inl ⟨rfl, ?_⟩; unfold whenF; rw [if_neg (by simpa using h0), hf]
  | some e =>
    have he := List.mem_of_find?_eq_some hf; have hid : e.id = id := by have := List.find?_some hf; simpa using this
    obtain ⟨k, hk, hek⟩ := List.getElem_of_mem he; have ok := (chn_ok hok e.key).1; have hem : e ∈ (chnOf c e.key).es := List.mem_filter.2 ⟨he, by simp⟩; refine .inr ⟨k, hk, by rw [hek]; exact hid, by rw [hek], ?_, ?_⟩
    · have := hok.entr e he; unfold entrOk at this; simp only [Bool.and_eq_true] at this; have := hok.keys e.key (List.contains_iff_mem.1 this.1.1.2); unfold idOk at this; simp only [decide_eq_true_eq] at this; simp only; omega
    simp only; rw [hek, consR_eq hok]; obtain ⟨q1, q2, q3, -⟩ := when_law hok he; rw [hid] at q1 q2 q3
    have hnine : (whenF c id).2 = 9 → (whenF c id).1 = ⟨0, 0⟩ := by
      unfold whenF; rw [if_neg (by simpa using h0), hf]; simp only; split
      intro h; cases h; intro _; rfl
    cases hc : foundS (chnOf c e.key) [] with
    | true =>
      have hcn := (found_nil ok).1 hc; have h2 := q1.2 hcn; refine .inr ⟨rfl, Prod.ext ?_ h2⟩; rw [whenR_eq ok (chn_kinds hok e.key) hem hcn (fun s t => mem_earlyP ok), hid]; exact q3 h2
    | false =>
      have h2 : (whenF c id).2 = 9 := by
        rcases q2 with q2 | q2
        · have := (found_nil ok).2 (q1.1 q2); rw [hc] at this
          cases this
        exact q2
      exact .inl ⟨rfl, Prod.ext (hnine h2) h2⟩
theorem ent_core {c : Book} {key id n f g h0 ko i want e : Int} {s w : Spn} {l l' : List Int} {cb : Bool} (h1 : Pu Tryz.prog G1 15 [bookV c] (vb true)) (a1 : Pu Tryz.prog G1 27 [bookV c, vi id] (.tuple [.agg (encS s), vi e])) (a2 : Pu Tryz.prog G1 28 [bookV c, vi key] (.tuple [vi n, vi f]))
    (a3 : Pu Tryz.prog G1 29 [bookV c, vi key] (.tuple [ints l, vi g])) (b1 : Pu Tryz.prog G1 30 [bookV c] (vi h0)) (b2 : Pu Tryz.prog G1 31 [bookV c, vi id] (vi ko)) (b3 : h0 = 0 → Pu Tryz.prog G1 32 [bookV c, vi ko] (vb cb)) (b4 : h0 = 0 → ko ≠ 0 → Pu Tryz.prog G1 33 [bookV c, vi id] (.agg (encS w)))
    (b5 : Pu Tryz.prog G1 34 [bookV c, vi key] (vi i)) (b6 : i = 0 → Pu Tryz.prog G1 35 [bookV c, vi key] (vi want)) (b7 : i = 0 → Pu Tryz.prog G1 36 [bookV c, vi key] (ints l')) (b8 : i = 0 → Pu Tryz.prog G1 23 [ints l, ints l'] (vb true))
    (g1 : (h0 ≠ 0 ∧ e = h0 ∧ s = ⟨0, 0⟩ ∧ i ≠ 0) ∨ (h0 = 0 ∧ ko = 0 ∧ e = 5 ∧ s = ⟨0, 0⟩) ∨ (h0 = 0 ∧ ko ≠ 0 ∧ cb = false ∧ e = 9 ∧ s = ⟨0, 0⟩) ∨ (h0 = 0 ∧ ko ≠ 0 ∧ cb = true ∧ e = 0 ∧ s = w))
    (g2 : (i ≠ 0 ∧ f = i ∧ g = i ∧ n = 0 ∧ l = []) ∨ (i = 0 ∧ want < 0 ∧ f = 5 ∧ n = 0 ∧ g = 0) ∨ (i = 0 ∧ 0 ≤ want ∧ f = 0 ∧ n = want ∧ g = 0)) : Pu Tryz.prog G1 4 [bookV c, vi key, vi id] (vb true) := by
  have h2 := sanity_ok
  rcases g1 with ⟨q1, rfl, rfl, q2⟩ | ⟨rfl, rfl, rfl, rfl⟩ | ⟨rfl, q1, rfl, rfl, rfl⟩ | ⟨rfl, q1, rfl, rfl, rfl⟩ <;> rcases g2 with ⟨p1, rfl, rfl, rfl, rfl⟩ | ⟨rfl, p1, rfl, rfl, rfl⟩ | ⟨rfl, p1, rfl, rfl, rfl⟩
  all_goals first
    | (exfalso; exact q2 rfl)
    | skip
  all_goals
    try have b3 := b3 rfl
    try have b4 := b4 rfl q1
    try have b6 := b6 rfl
    try have b7 := b7 rfl
    try have b8 := b8 rfl
    refine Qf 144 Tryz.func4 rfl rfl ?_
    (conv => whnf); repeat' (first | refine vv1 ?_ | refine vv2 ?_ | refine vv3 ?_ | refine vv4 ?_ | refine vv6 ?_ | refine vv7 ?_ | refine vv8 ?_ | refine vv9 ?_ | refine vv17 (fun hbr => ?_) (fun hbr => ?_) | refine vv21 ?_ | refine vv22 ?_ | refine vv23 ?_ | refine vv25 ?_ | refine Qd ?_ | refine Qp h1 ?_ | refine Qp h2 ?_ | refine Qp a1 ?_ | refine Qp a2 ?_ | refine Qp a3 ?_ | refine Qp b1 ?_ | refine Qp b2 ?_ | refine Qp b5 ?_ | refine Qp b6 ?_ | refine Qp b7 ?_ | refine Qp b8 ?_ | refine Qg b2 ?_ | refine Qg b3 ?_ | refine Qg b4 ?_) <;> conv => whnf
    all_goals first
      | exact ⟨.val rfl⟩
      | (exfalso; simp_all; done)
theorem rsusK_len (Q : Entr → Bool) (l : List Entr) : ∀ k, (rsusK Q l k).length ≤ k
  | 0 => Nat.le_refl _
  | k + 1 => by
    have ih := rsusK_len Q l k; by_cases hk : k < l.length
    · cases hq : Q l[k] with
      | true =>
        rw [rsusK_hit hk hq]; have := insI_len l[k].id (rsusK Q l k); omega
      | false => rw [rsusK_miss hk hq]; omega
    have : rsusK Q l (k + 1) = rsusK Q l k := by
      unfold rsusK; rw [List.take_of_length_le (by omega), List.take_of_length_le (by omega)]
    rw [this]; omega
theorem susp_eq {c : Book} {key : Int} (ha : askedE c key = 0) : suspectsF c key = (if consR c key = true then [] else suspR c key, 0) := by
  have hok := (asked_0 ha).1; unfold suspectsF; rw [if_neg (by simpa using ha), consR_eq hok, suspR_eq hok]; split <;> rfl
theorem ent_good {c : Book} (hc : BkW c) (h : smallB c = true) (key id : Int) : Pu Tryz.prog G1 4 [bookV c, vi key, vi id] (vb true) := by
  have h1 := small_ok c hc; rw [h] at h1; have hS := small_bks h; have a1 := when_ok hS id; have a2 := needed_ok hS key; have a3 := suspects_ok hS key; have b1 := rcheck_ok hS; have b2 := keyOf_ok hS id; have b5 := rkeyed_ok hS key
  have b3 : checkE c = 0 → Pu Tryz.prog G1 32 [bookV c, vi (keyOfI c id)] (vb (consR c (keyOfI c id))) := fun h0 => consistent_ok ((check_ok c).1 h0) _
  have b6 : askedE c key = 0 → Pu Tryz.prog G1 35 [bookV c, vi key] (vi (optI (neededR c key))) := fun h0 => rneeded_ok (asked_0 h0).1 key
  have b7 : askedE c key = 0 → Pu Tryz.prog G1 36 [bookV c, vi key] (ints (if consR c key = true then [] else suspR c key)) := fun h0 => rsuspects_ok (asked_0 h0).1 key
  have b8 : askedE c key = 0 → Pu Tryz.prog G1 23 [ints (suspectsF c key).1, ints (if consR c key = true then [] else suspR c key)] (vb true) := fun h0 => by
    rw [susp_eq h0]
    have hle : (if consR c key = true then [] else suspR c key).length ≤ 1000000 := by
      split
      simp; rw [rsusp_all]; have h7 : (chnOf c key).es.length ≤ 7 := (asked_0 h0).1.few key; have := rsusK_len (fun e => consR (withoutB c [e.id]) key) (chnOf c key).es (chnOf c key).es.length; omega
    have := same_ok _ _ hle hle; rw [decide_eq_true rfl] at this; exact this
  have g2 : (askedE c key ≠ 0 ∧ (neededF c key).2 = askedE c key ∧ (suspectsF c key).2 = askedE c key ∧ (neededF c key).1 = 0 ∧ (suspectsF c key).1 = []) ∨ (askedE c key = 0 ∧ optI (neededR c key) < 0 ∧ (neededF c key).2 = 5 ∧ (neededF c key).1 = 0 ∧ (suspectsF c key).2 = 0) ∨ (askedE c key = 0 ∧ 0 ≤ optI (neededR c key) ∧ (neededF c key).2 = 0 ∧ (neededF c key).1 = optI (neededR c key) ∧ (suspectsF c key).2 = 0) := by
    by_cases h0 : askedE c key = 0
    · have hok := (asked_0 h0).1; have e1 : (suspectsF c key).2 = 0 := by rw [susp_eq h0]
      have e2 : neededF c key = match neededR c key with
        | some n => (n, 0)
        | none => (0, 5) := by
        unfold neededF; rw [if_neg (by simpa using h0), neededR_eq hok]; rfl
      cases hn : neededR c key with
      | none =>
        rw [hn] at e2; exact .inr (.inl ⟨h0, by decide, by rw [e2], by rw [e2], e1⟩)
      | some n =>
        rw [hn] at e2; have hm : n ∈ ([0, 1, 2, 3] : List Int) := List.mem_of_find?_eq_some hn
        have hm : 0 ≤ n := by
          simp only [List.mem_cons, List.not_mem_nil, or_false] at hm; omega
        exact .inr (.inr ⟨h0, hm, by rw [e2], by rw [e2]; rfl, e1⟩)
    have e1 : neededF c key = (0, askedE c key) := if_pos h0; have e2 : suspectsF c key = ([], askedE c key) := if_pos h0; exact .inl ⟨h0, by rw [e1], by rw [e2], by rw [e1], by rw [e2]⟩
  by_cases h0 : checkE c = 0
  · have hok := (check_ok c).1 h0
    rcases when_facts hok id with ⟨q1, q2⟩ | ⟨k, hk, q1, q2, q3, q4⟩
    refine ent_core (w := ⟨0, 0⟩) h1 (by rw [q2] at a1; exact a1) a2 a3 b1 b2 b3 (fun _ h => absurd q1 h) b5 b6 b7 b8 (.inr (.inl ⟨h0, q1, rfl, rfl⟩)) g2; have b4 := rwhen_ok hok id hk q1
    rcases q4 with ⟨q4, q5⟩ | ⟨q4, q5⟩
    exact ent_core h1 (by rw [q5] at a1; exact a1) a2 a3 b1 b2 b3 (fun _ _ => b4) b5 b6 b7 b8 (.inr (.inr (.inl ⟨h0, q3, q4, rfl, rfl⟩))) g2; exact ent_core h1 (by rw [q5] at a1; exact a1) a2 a3 b1 b2 b3 (fun _ _ => b4) b5 b6 b7 b8 (.inr (.inr (.inr ⟨h0, q3, q4, rfl, rfl⟩))) g2
  have e1 : whenF c id = (⟨0, 0⟩, checkE c) := if_pos h0; have e2 : askedE c key = checkE c := if_pos h0; exact ent_core (cb := true) (w := ⟨0, 0⟩) h1 (by rw [e1] at a1; exact a1) a2 a3 b1 b2 (fun h => absurd h h0) (fun h => absurd h h0) b5 b6 b7 b8 (.inl ⟨h0, rfl, rfl, by rw [e2]; exact h0⟩) g2
theorem ent_law {c : Book} (hc : BkW c) (key id : Int) : Pu Tryz.prog G1 4 [bookV c, vi key, vi id] (vb true) := by
  cases h : smallB c with
  | true => exact ent_good hc h key id
  | false =>
    have h1 := small_ok c hc; rw [h] at h1; have h2 := sanity_ok; refine Qf 144 Tryz.func4 rfl rfl ?_
    repeat' ((conv => whnf); first | refine vv1 ?_ | refine vv21 ?_ | refine Qp h1 ?_ | refine Qp h2 ?_)
    exact Qv
end Go.Proofs.Ax
