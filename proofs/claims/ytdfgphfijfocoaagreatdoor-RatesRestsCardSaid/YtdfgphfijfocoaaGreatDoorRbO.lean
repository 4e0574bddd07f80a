import Derived.Test.YtdfgphfijfocoaaGreatDoorRbN
import Derived.Test.YtdfgphfijfocoaaGreatDoorRbM1
namespace Go.Proofs.Ax
open Go Go.Proofs
set_option maxRecDepth 10000
set_option maxHeartbeats 4000000
theorem deepL {rs : List (List AV)} (h : (rs.all fun r => r.all AV.deep) = true) : AllDeep rs := fun row hr x hx => List.all_eq_true.1 (List.all_eq_true.1 h row hr) x hx
theorem RangeN.re {E : EC} {f : Operand} {ps : Array Tmp} {az bd : Code} {l l' : Fr} {H H' : AH} {k : XK} (h : Reabs E.C ⟨frm 0 l E.n, H⟩ ⟨frm 0 l' E.n, H'⟩) (hc : RangeN E f ps az bd l' H' k) : RangeN E f ps az bd l H k := ⟨AWp_reabs h hc.1⟩
theorem appseq_sm {p : Policy} {n : Int} {t : Bool} {l : List Round} (hp : p.ok) (hn : 0 ≤ n ∧ n ≤ 20000) (hl : ∀ r ∈ l, r.ok) (hmax : l.length ≤ 1000) (o : List Posting) (ho : o.length ≤ 1000000) :
    Ef Tryz.prog G1 101 [.sm 3 5 0 o.length, cl78] (nightH p n t l ++ [.rows (o.map Posting.enc) 61]) fun y H' => y = .sm 4 5 0 (o ++ nightOf p n l).length ∧ H' = nightH p n t l ++ [.dead, .rows ((o ++ nightOf p n l).map Posting.enc) 61] := by
  refine Ef.reabs (Ef.of_code (T := Tryz.tab) (n := 13) (tryd_okm 4 _) rfl Tryz.func101 rfl rfl (by simp) ?_)
  refine CodeN.of_ev (tryd_okm 4 _) ?_
  (conv => whnf)
  refine RangeN.re (l' := fl77) (H' := nightH p n t l ++ [.rows (o.map Posting.enc) 61, .rows [[.sm 3 5 0 o.length]] 49]) (Reabs.frmM [0, 1, 2, 3, 4] (by repeat (first | exact trivial | refine ⟨.inr ⟨rfl, rfl⟩, ?_⟩)) (by repeat (first | exact trivial | refine ⟨⟨_, rfl, (by first | exact blkDead | exact blkDeep rfl (deepLit rfl) | exact blkDeep rfl (deepMap (fun _ => rfl)) | exact blkOk rfl rfl | exact blkLoop rfl rfl), (by first | exact fun _ => rfl | exact fun h => (by cases h))⟩, ?_⟩)) rfl rfl) ?_
  refine RangeN.of (tryd_okm 4 _) rfl rfl (of1_ok hp hn hl hmax o ho) ?_
  rintro y H' ⟨rfl, rfl⟩
  conv => whnf
  refine ⟨nofun, ?_⟩
  ((conv => whnf); repeat' ((first | refine vv21 ?_) <;> (conv => whnf)))
  refine ⟨⟨_, _, ?_, rfl, rfl⟩⟩
  exact (Reabs.frmM [0, 1, 2, 3, 6] (by repeat (first | exact trivial | refine ⟨.inr ⟨rfl, rfl⟩, ?_⟩ | refine ⟨.inr ⟨rfl, vi_eq (by first | omega | (simp; done) | (simp; omega))⟩, ?_⟩ | refine ⟨.inr ⟨rfl, smE rfl (by first | omega | (simp; done) | (simp; omega))⟩, ?_⟩)) (by repeat (first | exact trivial | refine ⟨⟨_, rfl, (by first | exact blkDead | exact blkDeep rfl (deepLit rfl) | exact blkDeep rfl (deepMap (fun _ => rfl)) | exact blkOk rfl rfl | exact blkLoop rfl rfl), (by first | exact fun _ => rfl | exact fun h => (by cases h))⟩, ?_⟩)) rfl rfl)
theorem of_in (p : Policy) (n : Int) (t : Bool) (l : List Round) (H : AH) (m : Nat) (hm : H.length = m) : Ef Tryz.prog G1 64 [.agg p.enc, vi n, rounds t l] H fun y H' => y = .fn (.func 104) [] [.pm m 0 0, .pm (m + 1) 0 0, .pm (m + 2) 0 0] ∧ H' = H ++ nightH p n t l := by
  subst hm
  refine Ef.subD (of_ok p n t l) rfl (by simp) ⟨okDeep (by intro row hr x hx; rw [List.mem_singleton.1 hr] at hx; exact List.all_eq_true.1 (show p.enc.all AV.deep = true from rfl) x hx) _, okDeep (by intro row hr x hx; rw [List.mem_singleton.1 hr] at hx; rw [List.mem_singleton.1 hx]; rfl) _, okDeep (by intro row hr x hx; rw [List.mem_singleton.1 hr] at hx; rw [List.mem_singleton.1 hx]; rfl) _, trivial⟩ [] (by simp) trivial rfl (fun x hx => ?_) rfl rfl
  simp only [List.mem_cons, List.not_mem_nil, or_false] at hx
  rcases hx with rfl | rfl | rfl <;> rfl
def nightErr (p : Policy) (n : Int) (l : List Round) : Int := if (checkPol [p]).1 ≠ 0 then (checkPol [p]).1 else if (checkRounds l).1 ≠ 0 then (checkRounds l).1 else if ¬ (0 ≤ n ∧ n ≤ 20000) then 1 else 0
theorem season_ok (t u : Bool) (ps : List Policy) (l : List Round) (s : Span) (hp : ∀ p ∈ ps, p.ok) (hl : ∀ r ∈ l, r.ok) (hpl : ps.length ≤ 20) (hll : l.length ≤ 200) (hs : spanErr s = 0) : Pu Tryz.prog G1 57 [policies t ps, rounds u l, .agg s.enc] (postings false (seasonOf ps l s)) := by
  have hs := spanErr_0 hs
  refine Pu.of_ev (T := Tryz.tab) (n := 33) (tryd_ok _) Tryz.func57 rfl rfl rfl (by first | rfl | (split <;> rfl)) (by simp) ?_
  ((conv => whnf); repeat' ((first | refine vv21 ?_) <;> (conv => whnf)))
  refine LoopN.of (tryd_ok _) (fun m : Nat => [(0, policies t ps), (1, rounds u l), (5, .pm 0 0 0), (7, .sm 1 5 0 (seasonTo ps l s.lo m).length), (8, vi (s.lo + (m : Int)))]) (fun m => [.rows [s.enc] 25, .rows ((seasonTo ps l s.lo m).map Posting.enc) 61]) (fun m => (s.hi - s.lo + 1).toNat - m) (fun m => m ≤ (s.hi - s.lo + 1).toNat) 0 (Nat.zero_le _)
    ((Reabs.virt 7 5 61 rfl).trans (Reabs.frmM [0, 1] (by repeat (first | exact trivial | refine ⟨.inr ⟨rfl, rfl⟩, ?_⟩ | refine ⟨.inr ⟨rfl, vi_eq (by first | omega | (simp; done) | (simp; omega))⟩, ?_⟩ | refine ⟨.inr ⟨rfl, smE rfl (by first | omega | (simp; done) | (simp; omega))⟩, ?_⟩)) (by repeat (first | exact trivial | refine ⟨⟨_, rfl, (by first | exact blkDead | exact blkDeep rfl (deepLit rfl) | exact blkDeep rfl (deepMap (fun _ => rfl)) | exact blkOk rfl rfl | exact blkLoop rfl rfl), (by first | exact fun _ => rfl | exact fun h => (by cases h))⟩, ?_⟩)) rfl rfl)) ?_
  intro m hm
  have hsl := seasonTo_len hp hl hs.2.1.1 m (by omega)
  have hmul : m * (1 + 5 * l.length) ≤ 400 * 1001 := Nat.mul_le_mul (by omega) (by omega)
  have hsu := seasonTo_succ ps l s.lo m
  generalize ho : seasonTo ps l s.lo m = o at *
  by_cases hlt : s.lo + (m : Int) ≤ s.hi
  · by_cases hf : (forceOf ps (s.lo + (m : Int))).2 = true
    · have hfo := force_ok t ps (s.lo + (m : Int)) (by omega)
      have hpo := hp _ (forceOf_mem hf)
      have hni : nightIn ps l (s.lo + (m : Int)) = nightOf (forceOf ps (s.lo + (m : Int))).1 (s.lo + (m : Int)) l := by rw [nightIn, if_pos hf]
      rw [hni] at hsu
      unfold pb at hfo
      rw [hf] at hfo
      generalize (forceOf ps (s.lo + (m : Int))).1 = p at *
      have ha : Ef Tryz.prog G1 101 [.sm 1 5 0 o.length, .fn (.func 104) [] [.pm 3 0 0, .pm (3 + 1) 0 0, .pm (3 + 2) 0 0]] ([.rows [s.enc] 25, .rows (o.map Posting.enc) 61, .rows [p.enc] 105] ++ nightH p (s.lo + (m : Int)) u l) fun y H' => y = .sm 6 5 0 (o ++ nightOf p (s.lo + (m : Int)) l).length ∧ H' = [.rows [s.enc] 25, .dead, .rows [p.enc] 105, .rows [p.enc] 105, .rows [[vi (s.lo + (m : Int))]] 3, .rows [[rounds u l]] 23, .rows ((o ++ nightOf p (s.lo + (m : Int)) l).map Posting.enc) 61] := by
        refine Ef.subD (appseq_sm (t := u) (n := s.lo + (m : Int)) hpo (by omega) hl (by omega) o (by omega)) rfl (by simp) ?_ [3, 4, 5, 1] (by simp) ?_ rfl (fun x hx => ?_) rfl ?_
        · exact ⟨okDeep (deepL rfl) _, okDeep (deepL rfl) _, okDeep (deepL rfl) _, trivial, okDeep (deepR (fun _ => rfl)) _, trivial⟩
        · exact (by repeat (first | exact trivial | refine ⟨⟨_, rfl, (by first | exact blkDead | exact blkDeep rfl (deepLit rfl) | exact blkDeep rfl (deepMap (fun _ => rfl)) | exact blkOk rfl rfl | exact blkLoop rfl rfl), (by first | exact fun _ => rfl | exact fun h => (by cases h))⟩, ?_⟩))
        · simp only [List.mem_cons, List.not_mem_nil, or_false] at hx
          rcases hx with rfl | rfl <;> rfl
        · show [ABlk.rows [s.enc] 25, .dead, .rows [p.enc] 105, .rows [p.enc] 105, .rows [[vi (s.lo + (m : Int))]] 3, .rows [[rounds u l]] 23] ++ [(ABlk.rows ((o ++ nightOf p (s.lo + (m : Int)) l).map Posting.enc) 61).ren _] = _
          rw [ren_deepB (deepR (fun _ => rfl))]
          rfl
      ((conv => whnf); repeat' ((first | refine CallN.pure hfo ?_ | refine CallN.efD (of_in p (s.lo + (m : Int)) u l _ 3 rfl) ?_ | refine CallN.efD ha ?_ | refine vv1 ?_ | refine vv3 ?_ | refine vv20 ?_ | refine vv21 ?_ | refine vv22 ?_) <;> (conv => whnf)))
      refine BackN.mk (m + 1) (by omega) (by omega) ?_
      simp only [hsu]
      exact (Reabs.frmM [0, 6] (by repeat (first | exact trivial | refine ⟨.inr ⟨rfl, rfl⟩, ?_⟩ | refine ⟨.inr ⟨rfl, vi_eq (by first | omega | (simp; done) | (simp; omega))⟩, ?_⟩ | refine ⟨.inr ⟨rfl, smE rfl (by first | omega | (simp; done) | (simp; omega))⟩, ?_⟩)) (by repeat (first | exact trivial | refine ⟨⟨_, rfl, (by first | exact blkDead | exact blkDeep rfl (deepLit rfl) | exact blkDeep rfl (deepMap (fun _ => rfl)) | exact blkOk rfl rfl | exact blkLoop rfl rfl), (by first | exact fun _ => rfl | exact fun h => (by cases h))⟩, ?_⟩)) rfl rfl)
    · have hfo := force_ok t ps (s.lo + (m : Int)) (by omega)
      have hni : nightIn ps l (s.lo + (m : Int)) = [] := by rw [nightIn, if_neg hf]
      rw [hni, List.append_nil] at hsu
      unfold pb at hfo
      rw [Bool.eq_false_iff.2 hf] at hfo
      ((conv => whnf); repeat' ((first | refine CallN.pure hfo ?_ | refine vv2 ?_ | refine vv3 ?_ | refine vv20 ?_ | refine vv21 ?_ | refine vv22 ?_) <;> (conv => whnf)))
      refine BackN.mk (m + 1) (by omega) (by omega) ?_
      simp only [hsu]
      exact (Reabs.frmM [0, 1] (by repeat (first | exact trivial | refine ⟨.inr ⟨rfl, rfl⟩, ?_⟩ | refine ⟨.inr ⟨rfl, vi_eq (by first | omega | (simp; done) | (simp; omega))⟩, ?_⟩ | refine ⟨.inr ⟨rfl, smE rfl (by first | omega | (simp; done) | (simp; omega))⟩, ?_⟩)) (by repeat (first | exact trivial | refine ⟨⟨_, rfl, (by first | exact blkDead | exact blkDeep rfl (deepLit rfl) | exact blkDeep rfl (deepMap (fun _ => rfl)) | exact blkOk rfl rfl | exact blkLoop rfl rfl), (by first | exact fun _ => rfl | exact fun h => (by cases h))⟩, ?_⟩)) rfl rfl)
  · ((conv => whnf); repeat' ((first | refine vv4 ?_ | refine vv21 ?_) <;> (conv => whnf)))
    obtain rfl : m = (s.hi - s.lo + 1).toNat := by omega
    refine DoneN.frz 1 _ 61 rfl (deepR (fun _ => rfl)) (DoneN.pure ?_)
    show (AV.sm 1 5 0 _).frz0 1 _ = _
    rw [frz_all (by simp), ← ho]
    rfl
end Go.Proofs.Ax
