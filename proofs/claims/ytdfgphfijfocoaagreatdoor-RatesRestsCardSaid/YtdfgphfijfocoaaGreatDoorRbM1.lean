import Derived.Test.YtdfgphfijfocoaaGreatDoorNtA
import Derived.Test.YtdfgphfijfocoaaGreatDoorAxH
import Derived.Test.YtdfgphfijfocoaaGreatDoorRbS
namespace Go.Proofs.Ax
open Go Go.Proofs
set_option maxRecDepth 10000
set_option maxHeartbeats 4000000
theorem asked_ok (t u : Bool) (ps : List Policy) (l : List Round) (s : Span) (hmax : ps.length ≤ 9223372036854775807) (hmax' : l.length ≤ 9223372036854775807) : Pu Tryz.prog G1 54 [policies t ps, rounds u l, .agg s.enc] (vi (askedErr ps l s)) := by
  refine Pu.of_ev (T := Tryz.tab) (n := 29) (tryd_ok _) Tryz.func54 rfl rfl rfl (by first | rfl | (split <;> rfl)) (by simp) ?_
  ((conv => whnf); repeat' ((first | refine vv12 (fun hbr => ?_) (fun hbr => ?_) | refine vv21 ?_ | refine CallN.pure (checkPol_ok _ _ hmax) ?_ | refine CallN.pure (checkRounds_ok _ _ hmax') ?_ | refine CallN.pure (spanned_ok _) ?_) <;> (conv => whnf)))
  all_goals refine DoneN.pure (vi_eq ?_)
  all_goals simp [askedErr, *]
theorem rasked_ok (t u : Bool) (ps : List Policy) (l : List Round) (s : Span) (hmax : ps.length ≤ 9223372036854775807) (hmax' : l.length ≤ 9223372036854775807) : Pu Tryz.prog G1 16 [policies t ps, rounds u l, .agg s.enc] (vi (askedErr ps l s)) := by
  refine Pu.of_ev (T := Tryz.tab) (n := 29) (tryd_ok _) Tryz.func16 rfl rfl rfl (by first | rfl | (split <;> rfl)) (by simp) ?_
  ((conv => whnf); repeat' ((first | refine vv12 (fun hbr => ?_) (fun hbr => ?_) | refine vv21 ?_ | refine CallN.pure (rcheckPol_ok _ _ hmax) ?_ | refine CallN.pure (rcheckRounds_ok _ _ hmax') ?_ | refine CallN.pure (nights_ok _) ?_) <;> (conv => whnf)))
  all_goals refine DoneN.pure (vi_eq ?_)
  all_goals simp [askedErr, *]
theorem charge_ok (p : Policy) (k : Int) : Pu Tryz.prog G1 108 [.agg p.enc, vi k] (vi (if k = 3 then p.charge else p.doubt)) := by
  refine Pu.of_ev (T := Tryz.tab) (n := 11) (tryd_ok _) Tryz.func108 rfl rfl rfl (by first | rfl | (split <;> rfl)) (by simp) ?_
  ((conv => whnf); repeat' ((first | refine vv11 (fun hbr => ?_) (fun hbr => ?_) | refine vv21 ?_) <;> (conv => whnf)))
  · refine DoneN.pure (vi_eq ?_)
    rw [if_pos (by assumption)]
  · refine DoneN.pure (vi_eq ?_)
    rw [if_neg (by assumption)]
theorem given_take_succ {l : List Posting} {k : Nat} (h : k < l.length) (a b : Int) : given (l.take (k + 1)) a b = given (l.take k) a b + (if 0 < l[k].no ∧ l[k].src = a ∧ l[k].dst = b then l[k].amount else 0) := by
  rw [take_succ_snoc h, given_append]; simp [given]
theorem given_bd {l : List Posting} (h : ∀ x ∈ l, x.ok) (a b : Int) : 0 ≤ given l a b ∧ given l a b ≤ 1099511627776 * (l.length : Int) := by
  induction l with
  | nil => simp [given]
  | cons y l ih =>
    have := ih (fun x hx => h x (List.mem_cons_of_mem _ hx))
    have hy := h y (List.mem_cons_self ..)
    unfold Posting.ok at hy
    rw [given_cons, List.length_cons]
    split <;> omega
theorem given_ok {l : List Posting} (h : ∀ x ∈ l, x.ok) (hmax : l.length ≤ 1000000) (a b : Int) : Ef Tryz.prog G1 106 [.sm 0 5 0 l.length, vi a, vi b] [.rows (l.map Posting.enc) 61] fun y H' => y = vi (given l a b) ∧ H' = [.rows (l.map Posting.enc) 61] := by
  refine Ef.of_ev (T := Tryz.tab) (n := 47) (tryd_okm 1 _) rfl Tryz.func106 rfl rfl (by simp) ?_
  (conv => whnf)
  refine LoopN.of2 (tryd_okm 1 _) (fun (k : Nat) (n : Int) => [(0, .sm 0 5 0 l.length), (1, vi a), (2, vi b), (7, vi n), (8, vi k)]) (fun _ _ => [.rows (l.map Posting.enc) 61]) (fun k _ => l.length - k) (fun k n => k ≤ l.length ∧ n = given (l.take k) a b) 0 0 ⟨Nat.zero_le _, by simp [given]⟩ (Reabs.frmM [0] (by repeat (first | exact trivial | refine ⟨.inr ⟨rfl, rfl⟩, ?_⟩ | refine ⟨.inr ⟨rfl, vi_eq (by first | omega | (simp; done) | (simp; omega))⟩, ?_⟩ | refine ⟨.inr ⟨rfl, smE rfl (by first | omega | (simp; done) | (simp; omega))⟩, ?_⟩)) (by repeat (first | exact trivial | refine ⟨⟨_, rfl, (by first | exact blkDead | exact blkDeep rfl (deepLit rfl) | exact blkDeep rfl (deepMap (fun _ => rfl)) | exact blkOk rfl rfl | exact blkLoop rfl rfl), (by first | exact fun _ => rfl | exact fun h => (by cases h))⟩, ?_⟩)) rfl rfl) ?_
  rintro k n ⟨hk, hn⟩
  have hb := given_bd (l := l.take k) (fun x hx => h x (List.mem_of_mem_take hx)) a b
  rw [← hn, List.length_take, Nat.min_eq_left hk] at hb
  by_cases hlt : k < l.length
  · have hs := given_take_succ hlt a b
    have hamt : 1 ≤ l[k].amount ∧ l[k].amount ≤ 1099511627776 := (h _ (List.getElem_mem hlt)).2.2.2.2.2
    ((conv => whnf); repeat' ((first | refine vv2 ?_ | refine vv3 ?_ | refine vv4 ?_ | refine vv7 ?_ | refine vv11 (fun hbr => ?_) (fun hbr => ?_) | refine vv20 ?_ | refine IdxN.at0 _ rfl (by first | assumption | omega | (simp <;> omega)) ?_ | refine RowN.map (by first | assumption | omega) ?_) <;> (conv => whnf)))
    all_goals first
      | (refine BackN2.mk (k + 1) (n + l[k].amount) ⟨by omega, ?_⟩ (by omega) (Reabs.frmM [0] (by repeat (first | exact trivial | refine ⟨.inr ⟨rfl, rfl⟩, ?_⟩ | refine ⟨.inr ⟨rfl, vi_eq (by first | omega | (simp; done) | (simp; omega))⟩, ?_⟩ | refine ⟨.inr ⟨rfl, smE rfl (by first | omega | (simp; done) | (simp; omega))⟩, ?_⟩)) (by repeat (first | exact trivial | refine ⟨⟨_, rfl, (by first | exact blkDead | exact blkDeep rfl (deepLit rfl) | exact blkDeep rfl (deepMap (fun _ => rfl)) | exact blkOk rfl rfl | exact blkLoop rfl rfl), (by first | exact fun _ => rfl | exact fun h => (by cases h))⟩, ?_⟩)) rfl rfl); rw [hs, if_pos (by omega)]; omega)
      | (refine BackN2.mk (k + 1) n ⟨by omega, ?_⟩ (by omega) (Reabs.frmM [0] (by repeat (first | exact trivial | refine ⟨.inr ⟨rfl, rfl⟩, ?_⟩ | refine ⟨.inr ⟨rfl, vi_eq (by first | omega | (simp; done) | (simp; omega))⟩, ?_⟩ | refine ⟨.inr ⟨rfl, smE rfl (by first | omega | (simp; done) | (simp; omega))⟩, ?_⟩)) (by repeat (first | exact trivial | refine ⟨⟨_, rfl, (by first | exact blkDead | exact blkDeep rfl (deepLit rfl) | exact blkDeep rfl (deepMap (fun _ => rfl)) | exact blkOk rfl rfl | exact blkLoop rfl rfl), (by first | exact fun _ => rfl | exact fun h => (by cases h))⟩, ?_⟩)) rfl rfl); rw [hs, if_neg (by omega)]; omega)
  · ((conv => whnf); repeat' ((first | refine vv8 ?_) <;> (conv => whnf)))
    refine ⟨⟨vi_eq ?_, rfl⟩⟩
    rw [hn, List.take_of_length_le (by omega)]
theorem given_in {l : List Posting} (h : ∀ x ∈ l, x.ok) (hmax : l.length ≤ 1000000) (a b : Int) (H : AH) (i : Nat) (n : Nat) (hnl : n = l.length) (hi : nthB H i = some (.rows (l.map Posting.enc) 61)) :
    Ef Tryz.prog G1 106 [.sm i 5 0 n, vi a, vi b] H fun y H' => y = vi (given l a b) ∧ H' = H := by
  subst hnl
  refine Ef.subD (given_ok h hmax a b) rfl (Nat.le_refl _) ⟨okDeep (deepR (fun _ => rfl)) _, trivial⟩ [i] (by simp) ⟨⟨_, hi, blkDeep rfl (deepMap (fun _ => rfl)), fun _ => rfl⟩, trivial⟩ rfl (fun x hx => ?_) rfl ?_
  · simp only [List.mem_cons, List.not_mem_nil, or_false] at hx
    rcases hx with rfl | rfl | rfl <;> rfl
  · show H.set i (ABlk.ren _ _) ++ [] = _
    rw [List.append_nil, ren_deepB (deepR (fun _ => rfl))]
    rw [nthB_eq] at hi
    obtain ⟨hlt, he⟩ := List.getElem?_eq_some_iff.1 hi
    rw [← he, List.set_getElem_self]
theorem post_eqb (x y : Posting) : (decide (x.night = y.night) && (decide (x.no = y.no) && (decide (x.src = y.src) && (decide (x.dst = y.dst) && decide (x.amount = y.amount))))) = decide (x = y) := by
  cases x; cases y; simp
theorem samePostings_ok (t u : Bool) (a b : List Posting) (hmax : a.length ≤ 9223372036854775807) (hmax' : b.length ≤ 9223372036854775807) : Pu Tryz.prog G1 41 [postings t a, postings u b] (vb (decide (a = b))) := by
  refine Pu.of_ev (T := Tryz.tab) (n := 26) (tryd_ok _) Tryz.func41 rfl rfl rfl (by first | rfl | (split <;> rfl)) (by simp) ?_
  ((conv => whnf); repeat' ((first | refine vv12 (fun hbr => ?_) (fun hbr => ?_) | refine vv23 ?_) <;> (conv => whnf)))
  all_goals first
    | (refine DoneN.pure (vb_ff ?_); intro he; subst he; omega)
    | skip
  refine LoopN.of (tryd_ok _) (fun k : Nat => [(0, postings t a), (1, postings u b), (5, vi k)]) (fun _ => []) (fun k => a.length - k) (fun k => k ≤ a.length ∧ a.length = b.length ∧ ∀ j, (h : j < a.length) → (h' : j < b.length) → j < k → a[j] = b[j]) 0 ⟨Nat.zero_le _, by omega, fun j h h' hj => by omega⟩ (Reabs.frm0 rfl (by repeat (first | exact trivial | refine ⟨.inr ⟨rfl, rfl⟩, ?_⟩))) ?_
  rintro k ⟨hk, hab, hall⟩
  ((conv => whnf); repeat' ((first | refine vv11 (fun hbr => ?_) (fun hbr => ?_) | refine vv17 (fun hbr => ?_) (fun hbr => ?_) | refine vv20 ?_ | refine SlIdxN.map _ rfl (by first | assumption | omega) ?_ | refine vv23 ?_ | refine vv25 ?_ | refine DrawN.gen (by first | exact tryd_ok _ | exact tryd_okm _ _) (by kernel_rfl) ?_) <;> (conv => whnf)))
  · rw [post_eqb] at hbr
    have hbr := of_decide_eq_true hbr
    refine BackN.mk (k + 1) ⟨by omega, hab, fun j h h' hj => ?_⟩ (by omega) (Reabs.frm0 rfl (by repeat (first | exact trivial | refine ⟨.inr ⟨rfl, rfl⟩, ?_⟩)))
    by_cases hq : j = k
    · subst hq; assumption
    · exact hall j h h' (by omega)
  · rw [post_eqb] at hbr
    have hbr := of_decide_eq_false hbr
    refine DoneN.pure (vb_ff ?_); intro he; subst he; exact absurd rfl hbr
  · refine DoneN.pure (vb_tt ?_)
    refine List.ext_getElem hab fun j h h' => hall j h h' (by omega)
end Go.Proofs.Ax
