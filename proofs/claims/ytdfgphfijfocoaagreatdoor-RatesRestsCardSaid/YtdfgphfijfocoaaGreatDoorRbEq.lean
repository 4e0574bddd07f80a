import Derived.Test.YtdfgphfijfocoaaGreatDoorRbGr
namespace Go.Proofs.Ax
open Go Go.Proofs
set_option maxRecDepth 10000
set_option maxHeartbeats 4000000
theorem post_eqd (x y : Posting) : (decide (x.night = y.night) && (decide (x.no = y.no) && (decide (x.src = y.src) && (decide (x.dst = y.dst) && decide (x.amount = y.amount))))) = decide (x = y) := by
  cases x; cases y; simp
theorem equalPs_ok (t u : Bool) (a b : List Posting) (hmax : a.length ≤ 9223372036854775807) (hmax' : b.length ≤ 9223372036854775807) : Pu Tryz.prog G1 98 [postings t a, postings u b] (vb (decide (a = b))) := by
  refine Pu.of_ev (T := Tryz.tab) (n := 26) (tryd_ok _) Tryz.func98 rfl rfl rfl (by first | rfl | (split <;> rfl)) (by simp) ?_
  ((conv => whnf); repeat' ((first | refine vv1 ?_ | refine vv2 ?_ | refine vv3 ?_ | refine vv4 ?_ | refine vv5 ?_ | refine vv6 ?_ | refine vv7 ?_ | refine vv8 ?_ | refine vv9 ?_ | refine vv10 ?_ | refine vv11 (fun hbr => ?_) (fun hbr => ?_) | refine vv12 (fun hbr => ?_) (fun hbr => ?_) | refine vv13 ?_ | refine vv14 ?_ | refine vv15 ?_ | refine vv16 ?_ | refine vv17 (fun hbr => ?_) (fun hbr => ?_) | refine vv18 ?_ | refine vv19 (fun hbr => ?_) (fun hbr => ?_) | refine vv20 ?_ | refine SlIdxN.map _ rfl (by first | assumption | omega) ?_ | refine SlIdxN.mapPred (by omega) (by omega) ?_ | refine SlIdxN.mapSucc (by omega) ?_ | refine SlIdxN.lit _ _ rfl rfl ?_ | refine SlIdxN.mapInt (by omega) (by omega) ?_ | refine IdxN.at0 _ rfl (by first | assumption | omega | (simp <;> omega)) ?_ | refine vv21 ?_ | refine RowN.map (by first | assumption | omega) ?_ | refine vv22 ?_ | refine RowSN.map (by first | assumption | omega) ?_ | refine vv23 ?_ | refine vv24 ?_ | refine vv25 ?_ | refine Need.mk (by first | assumption | omega | (simp <;> omega)) ?_ | refine DrawN.gen (by first | exact tryd_ok _ | exact tryd_okm _ _) (by kernel_rfl) ?_ | refine vv26 ?_ | refine vv27 ?_ | refine vv28 ?_ | refine vv29 ?_ | refine vv30 ?_ | refine vv31 ?_ | refine vv32 ?_ | refine vv33 ?_) <;> (conv => whnf)))
  all_goals first
    | (refine DoneN.pure (vb_ff ?_); intro he; subst he; omega)
    | skip
  refine LoopN.of (tryd_ok _) (fun k : Nat => [(0, postings t a), (1, postings u b), (12, vi a.length), (13, vi k)]) (fun _ => []) (fun k => a.length - k) (fun k => k ≤ a.length ∧ a.length = b.length ∧ ∀ j, (h : j < a.length) → (h' : j < b.length) → j < k → a[j] = b[j]) 0 ⟨Nat.zero_le _, by omega, fun j h h' hj => by omega⟩ (Reabs.frm0 rfl (by repeat (first | exact trivial | refine ⟨.inr ⟨rfl, rfl⟩, ?_⟩))) ?_
  rintro k ⟨hk, hab, hall⟩
  ((conv => whnf); repeat' ((first | refine vv1 ?_ | refine vv2 ?_ | refine vv3 ?_ | refine vv4 ?_ | refine vv5 ?_ | refine vv6 ?_ | refine vv7 ?_ | refine vv8 ?_ | refine vv9 ?_ | refine vv10 ?_ | refine vv11 (fun hbr => ?_) (fun hbr => ?_) | refine vv12 (fun hbr => ?_) (fun hbr => ?_) | refine vv13 ?_ | refine vv14 ?_ | refine vv15 ?_ | refine vv16 ?_ | refine vv17 (fun hbr => ?_) (fun hbr => ?_) | refine vv18 ?_ | refine vv19 (fun hbr => ?_) (fun hbr => ?_) | refine vv20 ?_ | refine SlIdxN.map _ rfl (by first | assumption | omega) ?_ | refine SlIdxN.mapPred (by omega) (by omega) ?_ | refine SlIdxN.mapSucc (by omega) ?_ | refine SlIdxN.lit _ _ rfl rfl ?_ | refine SlIdxN.mapInt (by omega) (by omega) ?_ | refine IdxN.at0 _ rfl (by first | assumption | omega | (simp <;> omega)) ?_ | refine vv21 ?_ | refine RowN.map (by first | assumption | omega) ?_ | refine vv22 ?_ | refine RowSN.map (by first | assumption | omega) ?_ | refine vv23 ?_ | refine vv24 ?_ | refine vv25 ?_ | refine Need.mk (by first | assumption | omega | (simp <;> omega)) ?_ | refine DrawN.gen (by first | exact tryd_ok _ | exact tryd_okm _ _) (by kernel_rfl) ?_ | refine vv26 ?_ | refine vv27 ?_ | refine vv28 ?_ | refine vv29 ?_ | refine vv30 ?_ | refine vv31 ?_ | refine vv32 ?_ | refine vv33 ?_) <;> (conv => whnf)))
  · rw [post_eqd] at hbr
    have hbr := of_decide_eq_true hbr
    refine BackN.mk (k + 1) ⟨by omega, hab, fun j h h' hj => ?_⟩ (by omega) (Reabs.frm0 rfl (by repeat (first | exact trivial | refine ⟨.inr ⟨rfl, rfl⟩, ?_⟩)))
    by_cases hq : j = k
    · subst hq; assumption
    · exact hall j h h' (by omega)
  · rw [post_eqd] at hbr
    have hbr := of_decide_eq_false hbr
    refine DoneN.pure (vb_ff ?_); intro he; subst he; exact absurd rfl hbr
  · refine DoneN.pure (vb_tt ?_)
    refine List.ext_getElem hab fun j h h' => hall j h h' (by omega)
/-- A nil slice stands for an empty one. -/
def NilA : List AV → List AV → Prop
  | [], [] => True
  | x :: xs, y :: ys => (x = y ∨ (x = .sc (.slice none 0 0) ∧ ∃ k t, y = .sl k t [])) ∧ NilA xs ys
  | _, _ => False
theorem NilA.get {xs ys : List AV} (h : NilA xs ys) : xs.length = ys.length ∧ ∀ (i : Nat) (y : AV), ys[i]? = some y → ∃ x, xs[i]? = some x ∧ (x = y ∨ (x = .sc (.slice none 0 0) ∧ ∃ k t, y = .sl k t [])) := by
  induction xs generalizing ys with
  | nil => cases ys with
    | nil => exact ⟨rfl, fun i y h => by simp at h⟩
    | cons y ys => exact h.elim
  | cons x xs ih => cases ys with
    | nil => exact h.elim
    | cons y ys =>
      obtain ⟨h1, h2⟩ := ih h.2
      refine ⟨by simp [h1], fun i z hz => ?_⟩
      cases i with
      | zero => simp at hz; subst hz; exact ⟨x, rfl, h.1⟩
      | succ i => obtain ⟨x', g1, g2⟩ := h2 i z (by simpa using hz); exact ⟨x', by simpa using g1, g2⟩
theorem Pu.nils {P : Program} {G : Glob} {f : FuncId} {xs bs : List AV} {y : AV} (h : Pu P G f bs y) (hn : NilA xs bs) : Pu P G f xs y := by
  obtain ⟨h1, h2⟩ := hn.get
  refine ⟨h.1, fun H I w ρ vs hh hl hv => h.2 H I w ρ vs hh (hl.trans h1) fun i x hx => ?_⟩
  obtain ⟨x', g1, rfl | ⟨rfl, k, t, rfl⟩⟩ := h2 i x hx
  · exact hv i _ g1
  · have := hv i _ g1
    generalize vs.getD i undef = v at this
    cases this
    exact .slNil
end Go.Proofs.Ax
