import Derived.Test.YtedekogkeamacaaGreatDoorCcRU
import Derived.Test.YtedekogkeamacaaGreatDoorCcRT
import Derived.Test.YtedekogkeamacaaGreatDoorCcAL
namespace Go.Proofs.Ax
open Go Go.Proofs Go.Proofs.Cu
set_option maxRecDepth 10000
set_option maxHeartbeats 4000000
theorem hist_core {c : Book} {key t w pl hh f sp : Int} {l own : List Mv} {cp sc : List Int} {told tk cons sb : Bool} (hl : l.length ≤ 30) (h1 : Pu Tryz.prog G1 15 [bookV c] (vb true)) (k1 : Pu Tryz.prog G1 34 [bookV c, vi key] (vi 0)) (a1 : Pu Tryz.prog G1 37 [bookV c, vi key] (movesV (own, f)))
    (a2 : Pu Tryz.prog G1 48 [bookV c, vi key, moves l] (vi w)) (a3 : Pu Tryz.prog G1 49 [bookV c, vi key, moves l, vi t] (heldV (pl, cp, hh))) (b1 : Pu Tryz.prog G1 50 [bookV c, vi key, moves l] (vb told)) (b2 : Pu Tryz.prog G1 21 [vi t] (vb tk))
    (b3 : Pu Tryz.prog G1 51 [bookV c, vi key, moves l, vi t] (.tuple [.agg [vi sp, ints sc], vb sb])) (b4 : cp = sc → Pu Tryz.prog G1 23 [ints cp, ints sc] (vb true)) (b5 : Pu Tryz.prog G1 32 [bookV c, vi key] (vb cons)) (b6 : cons = true → Pu Tryz.prog G1 50 [bookV c, vi key, moves own] (vb true))
    (g1 : (20 < l.length ∧ w = 2) ∨ (l.length ≤ 20 ∧ told = false ∧ w = 8) ∨ (l.length ≤ 20 ∧ told = true ∧ w = 0)) (g2 : (tk = false ∧ hh = 1 ∧ pl = 0 ∧ cp = []) ∨ (tk = true ∧ w ≠ 0 ∧ hh = w ∧ pl = 0 ∧ cp = []) ∨ (tk = true ∧ w = 0 ∧ hh = 0 ∧ pl = sp ∧ cp = sc))
    (g3 : (cons = true ∧ f = 0) ∨ (cons = false ∧ f = 9 ∧ own = [])) : Pu Tryz.prog G1 8 [bookV c, vi key, moves l, vi t] (vb true) := by
  have h2 := sanity_ok
  rcases g1 with ⟨q1, rfl⟩ | ⟨q1, rfl, rfl⟩ | ⟨q1, rfl, rfl⟩ <;> rcases g2 with ⟨rfl, rfl, rfl, rfl⟩ | ⟨rfl, q2, rfl, rfl, rfl⟩ | ⟨rfl, q2, rfl, rfl, rfl⟩ <;> rcases g3 with ⟨rfl, rfl⟩ | ⟨rfl, rfl, rfl⟩
  all_goals first
    | (exfalso; omega)
    | skip
  all_goals
    try have b4 := b4 rfl
    try have b6 := b6 rfl
    refine Qf 162 Tryz.func8 rfl rfl ?_
    repeat' ((conv => whnf); first | refine vv1 ?_ | refine vv2 ?_ | refine vv7 ?_ | refine vv8 ?_ | refine vv9 ?_ | refine vv21 ?_ | refine vv22 ?_ | refine vv23 ?_ | refine Qp h1 ?_ | refine Qp h2 ?_ | refine Qp k1 ?_ | refine Qp a1 ?_ | refine Qp a2 ?_ | refine Qp a3 ?_ | refine Qp b1 ?_ | refine Qp b2 ?_ | refine Qp b3 ?_ | refine Qp b4 ?_ | refine Qp b5 ?_ | refine Qp b6 ?_)
    exact Qv
theorem tell_cases {c : Book} {key : Int} {l : List Mv} (ha : askedE c key = 0) : (20 < l.length ∧ tellE c key l = 2) ∨ (l.length ≤ 20 ∧ toldR (chnOf c key) l = false ∧ tellE c key l = 8) ∨ (l.length ≤ 20 ∧ toldR (chnOf c key) l = true ∧ tellE c key l = 0) := by
  have ok := (chn_ok (asked_0 ha).1 key).1; unfold tellE; rw [if_neg (by simpa using ha), toldR_eq ok]; by_cases h : 20 < l.length
  rw [if_pos h]; exact .inl ⟨h, rfl⟩; rw [if_neg h]
  cases hp : (playS (chnOf c key) l maxTime).2 with
  | true => exact .inr (.inr ⟨by omega, rfl, if_pos rfl⟩)
  | false => exact .inr (.inl ⟨by omega, rfl, if_neg (by simp)⟩)
theorem held_cases {c : Book} {key t : Int} {l : List Mv} (ha : askedE c key = 0) : (timeOk t = false ∧ heldF c key l t = (0, [], 1)) ∨ (timeOk t = true ∧ tellE c key l ≠ 0 ∧ heldF c key l t = (0, [], tellE c key l)) ∨ (timeOk t = true ∧ tellE c key l = 0 ∧ heldF c key l t = ((behR (chnOf c key) l t).1.place, (behR (chnOf c key) l t).1.copies, 0)) := by
  have ok := (chn_ok (asked_0 ha).1 key).1; unfold heldF; rw [if_neg (by simpa using ha)]
  cases ht : timeOk t with
  | false => exact .inl ⟨rfl, if_pos rfl⟩
  | true =>
    rw [if_neg (by simp)]; by_cases hw : tellE c key l = 0
    · rw [if_neg (by simpa using hw)]; have := (beh_law ok l t).2 (tell_0 hw).2.2.2.2; exact .inr (.inr ⟨rfl, hw, by rw [this]⟩)
    rw [if_pos hw]; exact .inr (.inl ⟨rfl, hw, rfl⟩)
theorem hist_good {c : Book} (hc : BkW c) (h : smallB c = true) (key : Int) (l : List Mv) (hl : l.length ≤ 30) (t : Int) : Pu Tryz.prog G1 8 [bookV c, vi key, moves l, vi t] (vb true) := by
  have h1 := small_ok c hc; rw [h] at h1; have h2 := sanity_ok; have hS := small_bks h; have k1 := rkeyed_ok hS key; have a1 := history_ok hS key; have a2 := tell_ok hS key l (by omega); have a3 := held_ok hS key l (by omega) t; by_cases hk : askedE c key = 0
  · have hok := (asked_0 hk).1; have ok := (chn_ok hok key).1; have b1 := rtold_ok hok key l (by omega); have b2 := rtime_ok t; have b3 := behind_ok hok key l (by omega) t; have b5 := consistent_ok hok key; obtain ⟨q1, q2, q3⟩ := history_law hk; have hcn := consR_eq hok key
    have g3 : (consR c key = true ∧ (historyF c key).2 = 0) ∨ (consR c key = false ∧ (historyF c key).2 = 9 ∧ (historyF c key).1 = []) := by
      rw [hcn]
      cases hf : foundS (chnOf c key) [] with
      | true => exact .inl ⟨rfl, q1.2 ((found_nil ok).1 hf)⟩
      | false =>
        have hn : ¬ (historyF c key).2 = 0 := fun h0 => by
          have := (found_nil ok).2 (q1.1 h0); rw [hf] at this
          cases this
        rcases q2 with q2 | q2
        exact absurd q2 hn; exact .inr ⟨rfl, by rw [q2], by rw [q2]⟩
    have b6 : consR c key = true → Pu Tryz.prog G1 50 [bookV c, vi key, moves (historyF c key).1] (vb true) := fun hcs => by
      obtain ⟨g4, g5⟩ := q3 (q1.2 ((found_nil ok).1 (by rw [← hcn]; exact hcs))); have := rtold_ok hok key (historyF c key).1 (by have := (tell_0 g4).2.2.2.1; omega); rw [toldR_eq ok, (play_law ok _ maxTime).1.2 g5] at this; exact this
    have e1 : historyF c key = ((historyF c key).1, (historyF c key).2) := rfl; rw [e1] at a1; have g1 := tell_cases (l := l) hk; have g2 := held_cases (l := l) (t := t) hk; have e2 : heldF c key l t = ((heldF c key l t).1, (heldF c key l t).2.1, (heldF c key l t).2.2) := rfl; rw [e2] at a3; refine hist_core hl h1 (by rw [hk] at k1; exact k1) a1 a2 a3 b1 b2 b3 (fun hcp => ?_) b5 b6 g1 ?_ g3
    · have hle : (heldF c key l t).2.1.length ≤ 1000000 := by
        unfold heldF; split
        simp; split
        simp; split
        simp; exact Nat.le_trans (copiesL_len (chn_cb hok key) _) (by decide)
      have := same_ok _ _ hle hle; rw [decide_eq_true rfl] at this; rw [hcp] at this ⊢; exact this
    rcases g2 with ⟨p1, p2⟩ | ⟨p1, p2, p3⟩ | ⟨p1, p2, p3⟩
    exact .inl ⟨p1, by rw [p2], by rw [p2], by rw [p2]⟩; exact .inr (.inl ⟨p1, p2, by rw [p3], by rw [p3], by rw [p3]⟩); exact .inr (.inr ⟨p1, p2, by rw [p3], by rw [p3], by rw [p3]⟩)
  have e1 : historyF c key = ([], askedE c key) := if_pos hk; have e2 : tellE c key l = askedE c key := if_pos hk; have e3 : heldF c key l t = (0, [], askedE c key) := if_pos hk; rw [e1] at a1; rw [e2] at a2; rw [e3] at a3; generalize askedE c key = k at *; have a1 : Pu Tryz.prog G1 37 [bookV c, vi key] (.tuple [moves [], vi k]) := a1; have a3 : Pu Tryz.prog G1 49 [bookV c, vi key, moves l, vi t] (.tuple [vi 0, ints [], vi k]) := a3; refine Qf 162 Tryz.func8 rfl rfl ?_
  repeat' ((conv => whnf); first | refine vv1 ?_ | refine vv2 ?_ | refine vv6 ?_ | refine vv7 ?_ | refine vv8 ?_ | refine vv21 ?_ | refine vv23 ?_ | refine Qp h1 ?_ | refine Qp h2 ?_ | refine Qp k1 ?_ | refine Qp a1 ?_ | refine Qp a2 ?_ | refine Qp a3 ?_)
  exact Qv
theorem hist_law {c : Book} (hc : BkW c) (key : Int) (l : List Mv) (hm : l.length ≤ 9223372036854775807) (t : Int) : Pu Tryz.prog G1 8 [bookV c, vi key, moves l, vi t] (vb true) := by
  have h1 := small_ok c hc; have h2 := sanity_ok
  cases h : smallB c with
  | true =>
    by_cases hl : l.length ≤ 30
    exact hist_good hc h key l hl t; rw [h] at h1; refine Qf 162 Tryz.func8 rfl rfl ?_
    repeat' ((conv => whnf); first | refine vv2 ?_ | refine vv7 ?_ | refine vv21 ?_ | refine vv23 ?_ | refine Qp h1 ?_ | refine Qp h2 ?_)
    exact Qv
  | false =>
    rw [h] at h1; refine Qf 162 Tryz.func8 rfl rfl ?_
    repeat' ((conv => whnf); first | refine vv1 ?_ | refine vv21 ?_ | refine Qp h1 ?_ | refine Qp h2 ?_)
    exact Qv
end Go.Proofs.Ax
