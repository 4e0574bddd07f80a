import Derived.Test.YtedekogkeamacaaGreatDoorCcRU
import Derived.Test.YtedekogkeamacaaGreatDoorCcAL
import Derived.Test.YtedekogkeamacaaGreatDoorCcAF
namespace Go.Proofs.Ax
open Go Go.Proofs Go.Proofs.Cu
set_option maxRecDepth 10000
set_option maxHeartbeats 4000000
theorem solved_ok {c : Book} (hS : BkS c) (key : Int) (r : Bool) : Pu Tryz.prog G1 20 [bookV c, vi key, vb r] (vi (solvedE c key r)) := by
  have h1 := rkeyed_ok hS key; unfold solvedE; by_cases h0 : askedE c key = 0
  · rw [if_neg (by simpa using h0)]; have hok := (asked_0 h0).1; have h2 := consistent_ok hok key; rw [consR_eq hok] at h2; rw [h0] at h1
    cases r with
    | false =>
      rw [if_pos rfl]; refine pf 26 Tryz.func20 rfl rfl ?_
      ((conv => whnf); repeat' ((first | refine vv1 ?_ | refine vv21 ?_ | refine cp h1 ?_) <;> (conv => whnf)))
      exact ⟨.val rfl⟩
    | true =>
      rw [if_neg (by simp)]
      cases hf : foundS (chnOf c key) [] with
      | false =>
        rw [hf] at h2; rw [if_pos rfl]; refine pf 26 Tryz.func20 rfl rfl ?_
        ((conv => whnf); repeat' ((first | refine vv1 ?_ | refine vv2 ?_ | refine vv21 ?_ | refine cp h1 ?_ | refine cp h2 ?_) <;> (conv => whnf)))
        exact ⟨.val rfl⟩
      | true =>
        rw [hf] at h2; rw [if_neg (by simp)]; refine pf 26 Tryz.func20 rfl rfl ?_
        ((conv => whnf); repeat' ((first | refine vv1 ?_ | refine vv2 ?_ | refine vv21 ?_ | refine cp h1 ?_ | refine cp h2 ?_) <;> (conv => whnf)))
        exact ⟨.val rfl⟩
  · rw [if_pos h0]; generalize askedE c key = e at *; refine pf 26 Tryz.func20 rfl rfl ?_
    ((conv => whnf); repeat' ((first | refine vv2 ?_ | refine vv4 ?_ | refine vv21 ?_ | refine cp h1 ?_) <;> (conv => whnf)))
    exact ⟨.val rfl⟩
theorem solved_0 {c : Book} {key : Int} {r : Bool} (h : solvedE c key r = 0) : c.ok ∧ r = true ∧ foundS (chnOf c key) [] = true := by
  unfold solvedE at h; split at h
  · contradiction
  · rename_i h0; split at h
    · cases h
    · rename_i h1; split at h
      · cases h
      · rename_i h2; exact ⟨(asked_0 (by simpa using h0)).1, by simpa using h1, by simpa using h2⟩
theorem timeOk_iff {t : Int} (h : timeOk t = true) : 0 ≤ t ∧ t ≤ maxTime := of_decide_eq_true h
theorem among_split {c : Book} {key t : Int} {l : List Int} {mk : Int → Cnd} : amongF c key t l mk = (if solvedE c key (timeOk t) = 0 then l.filter fun n => foundS (chnOf c key) [mk n] else [], solvedE c key (timeOk t)) := by
  unfold amongF solvedE; by_cases h0 : askedE c key = 0
  · cases ht : timeOk t <;> cases hf : foundS (chnOf c key) [] <;> simp [h0]
  · simp [h0]
theorem holders_split {c : Book} {key t : Int} : holdersF c key t = (if solvedE c key (timeOk t) = 0 then holdersR c key t else [], solvedE c key (timeOk t)) := by
  unfold holdersF; rw [among_split]; by_cases h : solvedE c key (timeOk t) = 0
  · obtain ⟨hok, ht, -⟩ := solved_0 h; rw [if_pos h, if_pos h, holdersR_eq hok (timeOk_iff ht).1]
  · rw [if_neg h, if_neg h]
theorem copiers_split {c : Book} {key t : Int} : copiersF c key t = (if solvedE c key (timeOk t) = 0 then copiersR c key t else [], solvedE c key (timeOk t)) := by
  unfold copiersF; rw [among_split]; by_cases h : solvedE c key (timeOk t) = 0
  · obtain ⟨hok, ht, -⟩ := solved_0 h; rw [if_pos h, if_pos h, copiersR_eq hok (timeOk_iff ht).1]
  · rw [if_neg h, if_neg h]
theorem hands_split2 {c : Book} {key : Int} {s : Spn} : handsF c key s = (if solvedE c key (validS s) = 0 then handsR c key s else [], solvedE c key (validS s)) := by
  unfold handsF solvedE; by_cases h0 : askedE c key = 0
  · have hok := (asked_0 h0).1; have ok := (chn_ok hok key).1
    have hst : staysL (chnOf c key) = [] ↔ foundS (chnOf c key) [] = false := by
      rw [stays_nil ok, ← found_nil ok]; simp
    cases hv : validS s with
    | false => simp [h0]
    | true =>
      cases hf : foundS (chnOf c key) [] with
      | false =>
        have := hst.2 hf; simp [h0, this]
      | true =>
        have hn : ¬ staysL (chnOf c key) = [] := fun h => by rw [hst.1 h] at hf; cases hf
        rw [handsR_eq hok hv]; simp [h0, hn]
  · simp [h0]
theorem filt_len {α : Type} {P : α → Bool} {l : List α} (h : l.length ≤ 10) : (l.filter P).length ≤ 1000000 := Nat.le_trans (List.length_filter_le ..) (by omega)
theorem hold_good {c : Book} (hc : BkW c) (h : smallB c = true) (key t : Int) (s : Spn) : Pu Tryz.prog G1 3 [bookV c, vi key, vi t, .agg (encS s)] (vb true) := by
  have h1 := small_ok c hc; rw [h] at h1; have h2 := sanity_ok; have hS := small_bks h; have a1 := holders_ok hS key t; have a2 := copiers_ok hS key t; have a3 := hands_ok hS key s; have t1 := rtime_ok t; have t2 := spanned_ok s; have s1 := solved_ok hS key (timeOk t); have s2 := solved_ok hS key (validS s); rw [holders_split] at a1; rw [copiers_split] at a2; rw [hands_split2] at a3; by_cases e1 : solvedE c key (timeOk t) = 0
  · obtain ⟨hok, ht, -⟩ := solved_0 e1; have r1 := rholders_ok hok key t (timeOk_iff ht).2; have r2 := rcopiers_ok hok key t (timeOk_iff ht).2; have hp8 := hok.lens.1; have m1 := same_ok (holdersR c key t) (holdersR c key t) (filt_len (by simp [placesL]; omega)) (filt_len (by simp [placesL]; omega)); have m2 := same_ok (copiersR c key t) (copiersR c key t) (filt_len (by simp; omega)) (filt_len (by simp; omega)); rw [decide_eq_true rfl] at m1 m2; rw [if_pos e1] at a1 a2; rw [e1] at a1 a2 s1; generalize timeOk t = tk at *; by_cases e2 : solvedE c key (validS s) = 0
    · have hv := (solved_0 e2).2.1
      have r3 := rhands_ok hok key s (by
        unfold validS at hv; simp only [Bool.and_eq_true] at hv
        exact (timeOk_iff hv.1.2).2)
      have m3 := same_ok (handsR c key s) (handsR c key s) (by unfold handsR; rw [List.length_map]; exact filt_len (by omega)) (by unfold handsR; rw [List.length_map]; exact filt_len (by omega)); rw [decide_eq_true rfl] at m3; rw [if_pos e2] at a3; rw [e2] at a3 s2; generalize validS s = vk at *; refine pf 117 Tryz.func3 rfl rfl ?_
      ((conv => whnf); repeat' ((first | refine vv1 ?_ | refine vv2 ?_ | refine vv21 ?_ | refine vv25 ?_ | refine vd ?_ | refine cp h1 ?_ | refine cp h2 ?_ | refine cp a1 ?_ | refine cp a2 ?_ | refine cp a3 ?_ | refine cp r1 ?_ | refine cp r2 ?_ | refine cp r3 ?_ | refine cp m1 ?_ | refine cp m2 ?_ | refine cp m3 ?_ | refine gp t1 ?_ | refine gp t2 ?_ | refine gp s1 ?_ | refine gp s2 ?_) <;> (conv => whnf)))
      exact ⟨.val rfl⟩
    · rw [if_neg e2] at a3; generalize solvedE c key (validS s) = e at *; generalize validS s = vk at *; refine pf 117 Tryz.func3 rfl rfl ?_
      ((conv => whnf); repeat' ((first | refine vv1 ?_ | refine vv2 ?_ | refine vv6 ?_ | refine vv9 ?_ | refine vv21 ?_ | refine vv23 ?_ | refine vv25 ?_ | refine vd ?_ | refine cp h1 ?_ | refine cp h2 ?_ | refine cp a1 ?_ | refine cp a2 ?_ | refine cp a3 ?_ | refine cp r1 ?_ | refine cp r2 ?_ | refine cp m1 ?_ | refine cp m2 ?_ | refine gp t1 ?_ | refine gp t2 ?_ | refine gp s1 ?_ | refine gp s2 ?_) <;> (conv => whnf)))
      exact ⟨.val rfl⟩
  · rw [if_neg e1] at a1 a2; generalize solvedE c key (timeOk t) = e' at *; generalize timeOk t = tk at *; by_cases e2 : solvedE c key (validS s) = 0
    · obtain ⟨hok, hv, -⟩ := solved_0 e2; have hp8 := hok.lens.1
      have r3 := rhands_ok hok key s (by
        unfold validS at hv; simp only [Bool.and_eq_true] at hv
        exact (timeOk_iff hv.1.2).2)
      have m3 := same_ok (handsR c key s) (handsR c key s) (by unfold handsR; rw [List.length_map]; exact filt_len (by omega)) (by unfold handsR; rw [List.length_map]; exact filt_len (by omega)); rw [decide_eq_true rfl] at m3; rw [if_pos e2] at a3; rw [e2] at a3 s2; generalize validS s = vk at *; refine pf 117 Tryz.func3 rfl rfl ?_
      ((conv => whnf); repeat' ((first | refine WrapN.mk 0 rfl ?_ | refine vv1 ?_ | refine vv2 ?_ | refine vv6 ?_ | refine vv9 ?_ | refine vv21 ?_ | refine vv23 ?_ | refine vv25 ?_ | refine vd ?_ | refine cp h1 ?_ | refine cp h2 ?_ | refine cp a1 ?_ | refine cp a2 ?_ | refine cp a3 ?_ | refine cp r3 ?_ | refine cp m3 ?_ | refine gp t1 ?_ | refine gp t2 ?_ | refine gp s1 ?_ | refine gp s2 ?_) <;> (conv => whnf)))
      exact ⟨.val rfl⟩
    · rw [if_neg e2] at a3; generalize solvedE c key (validS s) = e at *; generalize validS s = vk at *; refine pf 117 Tryz.func3 rfl rfl ?_
      ((conv => whnf); repeat' ((first | refine WrapN.mk 0 rfl ?_ | refine vv1 ?_ | refine vv2 ?_ | refine vv6 ?_ | refine vv9 ?_ | refine vv21 ?_ | refine vv23 ?_ | refine vv25 ?_ | refine vd ?_ | refine cp h1 ?_ | refine cp h2 ?_ | refine cp a1 ?_ | refine cp a2 ?_ | refine cp a3 ?_ | refine gp t1 ?_ | refine gp t2 ?_ | refine gp s1 ?_ | refine gp s2 ?_) <;> (conv => whnf)))
      exact ⟨.val rfl⟩
theorem hold_law {c : Book} (hc : BkW c) (key t : Int) (s : Spn) : Pu Tryz.prog G1 3 [bookV c, vi key, vi t, .agg (encS s)] (vb true) := by
  cases h : smallB c with
  | true => exact hold_good hc h key t s
  | false =>
    have h1 := small_ok c hc; rw [h] at h1; have h2 := sanity_ok; refine pf 117 Tryz.func3 rfl rfl ?_
    ((conv => whnf); repeat' ((first | refine vv1 ?_ | refine vv21 ?_ | refine cp h1 ?_ | refine cp h2 ?_) <;> (conv => whnf)))
    exact ⟨.val rfl⟩
end Go.Proofs.Ax
