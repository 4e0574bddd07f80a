import Derived.Test.YtedekogkeamacaaGreatDoorCcTold
import Derived.Test.YtedekogkeamacaaGreatDoorCuLaws3
namespace Go.Proofs.Ax
open Go Go.Proofs Go.Proofs.Cu Go.Proofs.Tx
set_option maxRecDepth 10000
set_option maxHeartbeats 4000000
abbrev u8 (n : Nat) : AV := .sc (.int .u8 (n : Int))
abbrev orderA (c : Book) (key t : Int) (s : Spn) (w : Nat) (l : List Use) (p : List (List Mv)) : List AV := [bookV c, vi key, vi t, .agg (encS s), u8 w, uses l, hists p]
theorem order_bad1 {c : Book} (hc : BkW c) (key t : Int) (s : Spn) (w : Nat) (l : List Use) (p : List (List Mv)) (h : smallB c = false) : Pu Tryz.prog G1 10 (orderA c key t s w l p) (vb true) := by
  have h1 := small_ok c hc
  rw [h] at h1
  have h2 := sanity_ok
  refine Pu.of_fin (Ef.of_ev (T := Tryz.tab) (n := 197) (tryd_okm 0 _) rfl Tryz.func10 rfl rfl (by simp) ?_) rfl rfl
  ((conv => whnf); repeat' ((first | refine vv1 ?_ | refine vv21 ?_ | refine CallN.pure (h1) ?_ | refine CallN.pure (h2) ?_) <;> (conv => whnf)))
  exact ⟨.val rfl⟩
theorem order_bad2 {c : Book} (hc : BkW c) (key t : Int) (s : Spn) (w : Nat) (l : List Use) (hl : l.length ≤ 9223372036854775807) (p : List (List Mv)) (h : smallB c = true) (h12 : 12 < l.length) : Pu Tryz.prog G1 10 (orderA c key t s w l p) (vb true) := by
  have h1 := small_ok c hc
  rw [h] at h1
  have h2 := sanity_ok
  refine Pu.of_fin (Ef.of_ev (T := Tryz.tab) (n := 197) (tryd_okm 0 _) rfl Tryz.func10 rfl rfl (by simp) ?_) rfl rfl
  ((conv => whnf); repeat' ((first | refine vv1 ?_ | refine vv2 ?_ | refine vv7 ?_ | refine vv21 ?_ | refine vv23 ?_ | refine CallN.pure (h1) ?_ | refine CallN.pure (h2) ?_) <;> (conv => whnf)))
  exact ⟨.val rfl⟩
theorem order_bad3 {c : Book} (hc : BkW c) (key t : Int) (s : Spn) (w : Nat) (l : List Use) (p : List (List Mv)) (hp : p.length ≤ 9223372036854775807) (hp2 : ∀ h ∈ p, h.length ≤ 9223372036854775807) (h : smallB c = true) (h12 : l.length ≤ 12) (hm : movesB p = false) : Pu Tryz.prog G1 10 (orderA c key t s w l p) (vb true) := by
  have h1 := small_ok c hc
  rw [h] at h1
  have h2 := sanity_ok
  have h3 := moves_ok p hp hp2
  rw [hm] at h3
  refine Pu.of_fin (Ef.of_ev (T := Tryz.tab) (n := 197) (tryd_okm 0 _) rfl Tryz.func10 rfl rfl (by simp) ?_) rfl rfl
  ((conv => whnf); repeat' ((first | refine vv1 ?_ | refine vv2 ?_ | refine vv8 ?_ | refine vv21 ?_ | refine vv23 ?_ | refine CallN.pure (h1) ?_ | refine CallN.pure (h2) ?_ | refine CallN.pure (h3) ?_) <;> (conv => whnf)))
  exact ⟨.val rfl⟩
theorem order_bad4 {c : Book} (hc : BkW c) (key t : Int) (s : Spn) (w : Nat) (l : List Use) (p : List (List Mv)) (hp : p.length ≤ 9223372036854775807) (hp2 : ∀ h ∈ p, h.length ≤ 9223372036854775807) (h : smallB c = true) (h12 : l.length ≤ 12) (hm : movesB p = true) (hck : checkE c ≠ 0) : Pu Tryz.prog G1 10 (orderA c key t s w l p) (vb true) := by
  have h1 := small_ok c hc
  rw [h] at h1
  have h2 := sanity_ok
  have h3 := moves_ok p hp hp2
  rw [hm] at h3
  have h4 := (small_bks h).check
  refine Pu.of_fin (Ef.of_ev (T := Tryz.tab) (n := 197) (tryd_okm 0 _) rfl Tryz.func10 rfl rfl (by simp) ?_) rfl rfl
  ((conv => whnf); repeat' ((first | refine vv2 ?_ | refine vv6 ?_ | refine vv8 ?_ | refine vv21 ?_ | refine vv23 ?_ | refine CallN.pure (h1) ?_ | refine CallN.pure (h2) ?_ | refine CallN.pure (h3) ?_ | refine CallN.pure (h4) ?_) <;> (conv => whnf)))
  exact ⟨.val rfl⟩
end Go.Proofs.Ax
