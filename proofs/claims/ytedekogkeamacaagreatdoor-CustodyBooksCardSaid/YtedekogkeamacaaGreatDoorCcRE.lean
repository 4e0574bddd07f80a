import Derived.Test.YtedekogkeamacaaGreatDoorCcRA
import Derived.Test.YtedekogkeamacaaGreatDoorCcAL
namespace Go.Proofs.Ax
open Go Go.Proofs Go.Proofs.Cu
set_option maxRecDepth 10000
set_option maxHeartbeats 4000000
abbrev booksA (c : Book) (x : Entr) (ids : List Int) : List AV := [bookV c, .agg (encE x), ints ids]
theorem bks0 : BkS book0 := ⟨Nat.zero_le _, Nat.zero_le _, Nat.zero_le _, fun p hp => by cases hp⟩
theorem same0 : Pu Tryz.prog G1 45 [bookV book0, .agg [nilA, nilA, nilA, vi 0]] (vb true) :=
  (samebook_ok bks0).wk ⟨WkC.refl _, WkC.agg ⟨WkC.nilSl _ _, WkC.nilSl _ _, WkC.nilSl _ _, WkC.refl _, trivial⟩, trivial⟩
theorem books_bad {c : Book} (hc : BkW c) (x : Entr) (ids : List Int) (hl : ids.length ≤ 9223372036854775807) (h : smallB c = false ∨ 60 < ids.length) : Pu Tryz.prog G1 7 (booksA c x ids) (vb true) := by
  have h1 := small_ok c hc
  have h2 := sanity_ok
  cases hs : smallB c with
  | false =>
    rw [hs] at h1
    refine Pu.of_fin (Ef.of_ev (T := Tryz.tab) (n := 100) (tryd_okm 0 _) rfl Tryz.func7 rfl rfl (by simp) ?_) rfl rfl
    ((conv => whnf); repeat' ((first | refine vv1 ?_ | refine vv21 ?_ | refine CallN.pure (h1) ?_ | refine CallN.pure (h2) ?_) <;> (conv => whnf)))
    exact ⟨.val rfl⟩
  | true =>
    rw [hs] at h1
    have h60 : 60 < ids.length := h.resolve_left (by rw [hs]; simp)
    refine Pu.of_fin (Ef.of_ev (T := Tryz.tab) (n := 100) (tryd_okm 0 _) rfl Tryz.func7 rfl rfl (by simp) ?_) rfl rfl
    ((conv => whnf); repeat' ((first | refine vv2 ?_ | refine vv7 ?_ | refine vv21 ?_ | refine vv23 ?_ | refine CallN.pure (h1) ?_ | refine CallN.pure (h2) ?_) <;> (conv => whnf)))
    exact ⟨.val rfl⟩
theorem books_good {c : Book} (hc : BkW c) (x : Entr) (ids : List Int) (h60 : ids.length ≤ 60) (h : smallB c = true) : Pu Tryz.prog G1 7 (booksA c x ids) (vb true) := by
  have h1 := small_ok c hc
  rw [h] at h1
  have h2 := sanity_ok
  have hS := small_bks h
  have h3 := rcheck_ok hS
  have h4 := hS.check
  have h5 := with_ok hS x
  have h6 := without_ok2 hS ids (by omega)
  have h8 := rwithout_ok hS ids (by omega)
  unfold withF at h5
  unfold withoutF at h6
  by_cases hck : checkE c = 0
  · have hok := (check_ok c).1 hck
    have hW := BkS.with hok x
    have hWo : BkS (withoutB c ids) := ⟨hS.pl, hS.kl, Nat.le_trans (List.length_filter_le ..) hS.el, hS.du⟩
    have h7 := rwith_ok hS x
    have h9 := rcheck_ok hW
    have s1 := samebook_ok hWo
    rw [if_neg (by simpa using hck)] at h5 h6
    rw [hck] at h3 h4
    by_cases hx : checkE (withB c x) = 0
    · rw [if_neg (by simpa using hx)] at h5
      rw [hx] at h9
      have s2 := samebook_ok hW
      refine Pu.of_fin (Ef.of_ev (T := Tryz.tab) (n := 100) (tryd_okm 0 _) rfl Tryz.func7 rfl rfl (by simp) ?_) rfl rfl
      ((conv => whnf); repeat' ((first | refine vv1 ?_ | refine vv2 ?_ | refine vv8 ?_ | refine vv21 ?_ | refine vv22 ?_ | refine vv23 ?_ | refine vv25 ?_ | refine DrawN.gen (by first | exact tryd_ok _ | exact tryd_okm _ _ | exact tryd_okr _ _ _) (by kernel_rfl) ?_ | refine CallN.pure (h1) ?_ | refine CallN.pure (h3) ?_ | refine CallN.pure (h4) ?_ | refine CallN.pure (h5) ?_ | refine CallN.pure (h6) ?_ | refine CallN.pure (h7) ?_ | refine CallN.pure (h9) ?_ | refine CallN.pure (s2) ?_ | refine GCallN.pure _ (h2) ?_ | refine GCallN.pure _ (h8) ?_ | refine GCallN.pure _ (s1) ?_) <;> (conv => whnf)))
      exact ⟨.val rfl⟩
    · rw [if_pos hx] at h5
      have s2 := same0
      generalize checkE (withB c x) = e at *
      refine Pu.of_fin (Ef.of_ev (T := Tryz.tab) (n := 100) (tryd_okm 0 _) rfl Tryz.func7 rfl rfl (by simp) ?_) rfl rfl
      ((conv => whnf); repeat' ((first | refine vv1 ?_ | refine vv2 ?_ | refine vv4 ?_ | refine vv6 ?_ | refine vv8 ?_ | refine vv9 ?_ | refine vv21 ?_ | refine vv22 ?_ | refine vv23 ?_ | refine vv25 ?_ | refine DrawN.gen (by first | exact tryd_ok _ | exact tryd_okm _ _ | exact tryd_okr _ _ _) (by kernel_rfl) ?_ | refine CallN.pure (h1) ?_ | refine CallN.pure (h3) ?_ | refine CallN.pure (h4) ?_ | refine CallN.pure (h5) ?_ | refine CallN.pure (h6) ?_ | refine CallN.pure (h7) ?_ | refine CallN.pure (h9) ?_ | refine CallN.pure (s2) ?_ | refine GCallN.pure _ (h2) ?_ | refine GCallN.pure _ (h8) ?_ | refine GCallN.pure _ (s1) ?_) <;> (conv => whnf)))
      exact ⟨.val rfl⟩
  · rw [if_pos hck] at h5 h6
    have s2 := same0
    generalize checkE c = e at *
    refine Pu.of_fin (Ef.of_ev (T := Tryz.tab) (n := 100) (tryd_okm 0 _) rfl Tryz.func7 rfl rfl (by simp) ?_) rfl rfl
    ((conv => whnf); repeat' ((first | refine vv1 ?_ | refine vv2 ?_ | refine vv6 ?_ | refine vv7 ?_ | refine vv8 ?_ | refine vv9 ?_ | refine vv21 ?_ | refine vv22 ?_ | refine vv23 ?_ | refine CallN.pure (h1) ?_ | refine CallN.pure (h2) ?_ | refine CallN.pure (h3) ?_ | refine CallN.pure (h4) ?_ | refine CallN.pure (h5) ?_ | refine CallN.pure (h6) ?_ | refine CallN.pure (s2) ?_) <;> (conv => whnf)))
    exact ⟨.val rfl⟩
theorem books_law {c : Book} (hc : BkW c) (x : Entr) (ids : List Int) (hl : ids.length ≤ 9223372036854775807) : Pu Tryz.prog G1 7 (booksA c x ids) (vb true) := by
  by_cases hb : smallB c = false ∨ 60 < ids.length
  · exact books_bad hc x ids hl hb
  · exact books_good hc x ids (by omega) (by cases hs : smallB c with
      | true => rfl
      | false => exact absurd (.inl hs) hb)
end Go.Proofs.Ax
