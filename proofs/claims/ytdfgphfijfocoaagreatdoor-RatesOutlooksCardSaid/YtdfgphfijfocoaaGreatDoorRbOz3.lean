import Derived.Test.YtdfgphfijfocoaaGreatDoorRbOz2
import Derived.Test.YtdfgphfijfocoaaGreatDoorDecLaw5
namespace Go.Proofs.Ax
open Go Go.Proofs
set_option maxRecDepth 10000
set_option maxHeartbeats 8000000
theorem outlook_bad (t u : Bool) (ps : List Policy) (l : List Round) (s : Span) (hmax : ps.length ≤ 9223372036854775807) (hmax' : l.length ≤ 9223372036854775807) (h : askedErr ps l s ≠ 0) : Pu Tryz.prog G1 20 [policies t ps, rounds u l, .agg s.enc] (.tuple [.agg [vi 0, vi 0], vi (askedErr ps l s)]) := by
  have ha := asked_ok t u ps l s hmax hmax'
  refine Pu.of_ev (T := Tryz.tab) (n := 127) (tryd_ok _) Tryz.func20 rfl rfl rfl (by first | rfl | (split <;> rfl)) (by simp) ?_
  ((conv => whnf); repeat' ((first | refine CallN.pure ha ?_ | refine vv6 ?_ | refine vv21 ?_ | refine vv22 ?_) <;> (conv => whnf)))
  all_goals first
    | exact DoneN.pure rfl
    | (exfalso; exact h (by assumption))
theorem decide_bad1 (t u : Bool) (l : List Round) (bs : List Bool) (hmax : l.length ≤ 9223372036854775807) (hc : (checkRounds l).1 ≠ 0) : Pu Tryz.prog G1 22 [rounds t l, bools u bs] (.tuple [.sc (.slice none 0 0), vi (checkRounds l).1]) := by
  have hck := checkRounds_ok t l hmax
  refine Pu.of_ev (T := Tryz.tab) (n := 65) (tryd_ok _) Tryz.func22 rfl rfl rfl (by first | rfl | (split <;> rfl)) (by simp) ?_
  ((conv => whnf); repeat' ((first | refine CallN.pure hck ?_ | refine vv6 ?_) <;> (conv => whnf)))
  all_goals first
    | exact DoneN.pure rfl
    | (exfalso; exact hc (by assumption))
theorem decide_bad2 (t u : Bool) (l : List Round) (bs : List Bool) (hc : (checkRounds l).1 = 0) (hb : bs.length ≠ dN l) (hbm : bs.length ≤ 9223372036854775807) : Pu Tryz.prog G1 22 [rounds t l, bools u bs] (.tuple [.sc (.slice none 0 0), vi 1]) := by
  obtain ⟨hl1, hl⟩ := checkRounds_0 hc
  have hck := checkRounds_ok t l (by omega)
  rw [checkRounds_eq hc] at hck
  have hil := dInts_len (l := l) (Nat.le_refl _)
  rw [rk_all] at hil
  have hdl := dN_le l
  refine Pu.of_ev (T := Tryz.tab) (n := 65) (tryd_ok _) Tryz.func22 rfl rfl rfl (by first | rfl | (split <;> rfl)) (by simp) ?_
  ((conv => whnf); repeat' ((first | refine CallN.pure hck ?_ | refine CallN.pure (doubtful_ok t l (by omega)) ?_ | refine vv2 ?_ | refine vv10 ?_ | refine vv23 ?_) <;> (conv => whnf)))
  all_goals first
    | exact DoneN.pure rfl
    | (exfalso; omega)
theorem ratesOutlooks (t u v : Bool) (ps : List Policy) (l : List Round) (s : Span) (bs : List Bool) (hmax : ps.length ≤ 9223372036854775807) (hmax' : l.length ≤ 9223372036854775807) (hmax2 : bs.length ≤ 9223372036854775807) : Pu Tryz.prog G1 4 [policies t ps, rounds u l, .agg s.enc, bools v bs] (vb true) := by
  have hfew := few_ok t u ps l hmax hmax'
  have hask := rasked_ok t u ps l s hmax hmax'
  by_cases hf : fewP ps l
  case neg =>
    rw [decide_eq_false hf] at hfew
    refine Pu.of_ev (T := Tryz.tab) (n := 106) (tryd_ok _) Tryz.func4 rfl rfl rfl (by first | rfl | (split <;> rfl)) (by simp) ?_
    ((conv => whnf); repeat' ((first | refine vv1 ?_ | refine CallN.pure (hfew) ?_ | refine CallN.pure (sane_ok) ?_) <;> (conv => whnf)))
    all_goals exact DoneN.pure rfl
  rw [decide_eq_true hf] at hfew
  by_cases hb50 : bs.length ≤ 50
  case neg =>
    refine Pu.of_ev (T := Tryz.tab) (n := 106) (tryd_ok _) Tryz.func4 rfl rfl rfl (by first | rfl | (split <;> rfl)) (by simp) ?_
    ((conv => whnf); repeat' ((first | refine vv2 ?_ | refine vv7 ?_ | refine vv23 ?_ | refine CallN.pure (hfew) ?_ | refine CallN.pure (sane_ok) ?_) <;> (conv => whnf)))
    all_goals exact DoneN.pure rfl
  have hrc := rcheckRounds_ok u l hmax'
  by_cases hc : (checkRounds l).1 = 0
  · obtain ⟨b1, b2⟩ := checkRounds_0 hc
    have hd12 := dNn_12 hc
    have hrd := rdoubtful_ok u l (by omega)
    have hdl := dN_le l
    rw [checkRounds_eq hc] at hrc
    unfold ei at hrc
    simp only at hrc
    by_cases hbl : bs.length = dN l
    · have hdg := decide_good u v l bs hc hbl
      have hrde := rdecide_ok u v l bs (by omega) hbl
      have hsm := rsame_ok false false (decideL (l.map loose) bs) (decideL l bs) (by rw [decideL_length, List.length_map]; omega) (loose_same l bs) (fun r hr => by
        have := decideL_ok (loose_ok b2) bs r hr
        unfold Round.ok at this
        omega)
      by_cases ha : askedErr ps l s = 0
      · obtain ⟨h1, h2, h3⟩ := askedErr_0 ha
        have hou := outlook_good t u ps l s hmax hmax' ha hd12
        have hro := routlook_ok t u ps l s hmax h1 h2 h3 hd12
        rw [ha] at hask
        clear hd12
        refine Pu.of_ev (T := Tryz.tab) (n := 106) (tryd_ok _) Tryz.func4 rfl rfl rfl (by first | rfl | (split <;> rfl)) (by simp) ?_
        ((conv => whnf); repeat' ((first | refine vv1 ?_ | refine vv2 ?_ | refine vv8 ?_ | refine vv9 ?_ | refine vv17 (fun hbr => ?_) (fun hbr => ?_) | refine vv21 ?_ | refine vv22 ?_ | refine vv23 ?_ | refine vv25 ?_ | refine DrawN.gen (by first | exact tryd_ok _ | exact tryd_okm _ _) (by kernel_rfl) ?_ | refine CallN.pure (hfew) ?_ | refine CallN.pure (sane_ok) ?_ | refine CallN.pure (hou) ?_ | refine CallN.pure (hask) ?_ | refine CallN.pure (hdg) ?_ | refine CallN.pure (hrc) ?_ | refine CallN.pure (hrd) ?_ | refine CallN.pure (hrde) ?_ | refine CallN.pure (hsm) ?_ | refine GCallN.pure _ (hro) ?_) <;> (conv => whnf)))
        all_goals first
          | exact DoneN.pure rfl
          | (refine DoneN.pure ?_; simp; done)
          | (exfalso; simp at hbr; done)
      · have hou := outlook_bad t u ps l s hmax hmax' ha
        clear hd12
        refine Pu.of_ev (T := Tryz.tab) (n := 106) (tryd_ok _) Tryz.func4 rfl rfl rfl (by first | rfl | (split <;> rfl)) (by simp) ?_
        ((conv => whnf); repeat' ((first | refine vv1 ?_ | refine vv2 ?_ | refine vv4 ?_ | refine vv6 ?_ | refine vv8 ?_ | refine vv9 ?_ | refine vv21 ?_ | refine vv22 ?_ | refine vv23 ?_ | refine vv25 ?_ | refine DrawN.gen (by first | exact tryd_ok _ | exact tryd_okm _ _) (by kernel_rfl) ?_ | refine CallN.pure (hfew) ?_ | refine CallN.pure (sane_ok) ?_ | refine CallN.pure (hou) ?_ | refine CallN.pure (hask) ?_ | refine CallN.pure (hdg) ?_ | refine CallN.pure (hrc) ?_ | refine CallN.pure (hrd) ?_ | refine CallN.pure (hrde) ?_ | refine CallN.pure (hsm) ?_) <;> (conv => whnf)))
        all_goals first
          | exact DoneN.pure rfl
          | (refine DoneN.pure ?_; simp; done)
          | (exfalso; simp at hbr; done)
          | (exfalso; exact ha (by assumption))
    · have hdg := decide_bad2 u v l bs hc hbl hmax2
      by_cases ha : askedErr ps l s = 0
      · obtain ⟨h1, h2, h3⟩ := askedErr_0 ha
        have hou := outlook_good t u ps l s hmax hmax' ha hd12
        have hro := routlook_ok t u ps l s hmax h1 h2 h3 hd12
        rw [ha] at hask
        clear hd12
        refine Pu.of_ev (T := Tryz.tab) (n := 106) (tryd_ok _) Tryz.func4 rfl rfl rfl (by first | rfl | (split <;> rfl)) (by simp) ?_
        ((conv => whnf); repeat' ((first | refine vv1 ?_ | refine vv2 ?_ | refine vv8 ?_ | refine vv10 ?_ | refine vv17 (fun hbr => ?_) (fun hbr => ?_) | refine vv21 ?_ | refine vv22 ?_ | refine vv23 ?_ | refine vv25 ?_ | refine DrawN.gen (by first | exact tryd_ok _ | exact tryd_okm _ _) (by kernel_rfl) ?_ | refine CallN.pure (hfew) ?_ | refine CallN.pure (sane_ok) ?_ | refine CallN.pure (hou) ?_ | refine CallN.pure (hask) ?_ | refine CallN.pure (hdg) ?_ | refine CallN.pure (hrc) ?_ | refine CallN.pure (hrd) ?_ | refine GCallN.pure _ (hro) ?_) <;> (conv => whnf)))
        all_goals first
          | exact DoneN.pure rfl
          | (refine DoneN.pure ?_; simp; done)
          | (exfalso; simp at hbr; done)
          | (exfalso; omega)
      · have hou := outlook_bad t u ps l s hmax hmax' ha
        clear hd12
        refine Pu.of_ev (T := Tryz.tab) (n := 106) (tryd_ok _) Tryz.func4 rfl rfl rfl (by first | rfl | (split <;> rfl)) (by simp) ?_
        ((conv => whnf); repeat' ((first | refine vv1 ?_ | refine vv2 ?_ | refine vv4 ?_ | refine vv6 ?_ | refine vv8 ?_ | refine vv9 ?_ | refine vv10 ?_ | refine vv21 ?_ | refine vv22 ?_ | refine vv23 ?_ | refine vv25 ?_ | refine DrawN.gen (by first | exact tryd_ok _ | exact tryd_okm _ _) (by kernel_rfl) ?_ | refine CallN.pure (hfew) ?_ | refine CallN.pure (sane_ok) ?_ | refine CallN.pure (hou) ?_ | refine CallN.pure (hask) ?_ | refine CallN.pure (hdg) ?_ | refine CallN.pure (hrc) ?_ | refine CallN.pure (hrd) ?_) <;> (conv => whnf)))
        all_goals first
          | exact DoneN.pure rfl
          | (refine DoneN.pure ?_; simp; done)
          | (exfalso; simp at hbr; done)
          | (exfalso; exact ha (by assumption))
          | (exfalso; omega)
  · have hdg := decide_bad1 u v l bs hmax' hc
    have ha : askedErr ps l s ≠ 0 := fun h => hc (askedErr_0 h).2.1
    have hou := outlook_bad t u ps l s hmax hmax' ha
    refine Pu.of_ev (T := Tryz.tab) (n := 106) (tryd_ok _) Tryz.func4 rfl rfl rfl (by first | rfl | (split <;> rfl)) (by simp) ?_
    ((conv => whnf); repeat' ((first | refine vv1 ?_ | refine vv2 ?_ | refine vv4 ?_ | refine vv6 ?_ | refine vv7 ?_ | refine vv8 ?_ | refine vv9 ?_ | refine vv21 ?_ | refine vv22 ?_ | refine vv23 ?_ | refine vv25 ?_ | refine DrawN.gen (by first | exact tryd_ok _ | exact tryd_okm _ _) (by kernel_rfl) ?_ | refine CallN.pure (hfew) ?_ | refine CallN.pure (sane_ok) ?_ | refine CallN.pure (hou) ?_ | refine CallN.pure (hask) ?_ | refine CallN.pure (hdg) ?_ | refine CallN.pure (hrc) ?_) <;> (conv => whnf)))
    all_goals first
      | exact DoneN.pure rfl
      | (refine DoneN.pure ?_; simp; done)
      | (exfalso; exact ha (by assumption))
      | (exfalso; exact hc (by assumption))
end Go.Proofs.Ax
