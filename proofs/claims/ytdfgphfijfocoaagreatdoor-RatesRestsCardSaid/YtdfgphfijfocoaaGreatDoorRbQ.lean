import Derived.Test.YtdfgphfijfocoaaGreatDoorRbM2
import Derived.Test.YtdfgphfijfocoaaGreatDoorRbO
namespace Go.Proofs.Ax
open Go Go.Proofs
set_option maxRecDepth 10000
set_option maxHeartbeats 4000000
theorem AppN.snocs {α : Type} {f : α → List AV} {l m : List α} {x : List AV} {b : Nat} {k : List (List AV) → Nat → Prop} (h1 : (l.length + 1 + m.length) * b ≤ 140737488355328) (h2 : l.length + 1 + m.length ≤ 9223372036854775807) (hk : k (l.map f ++ [x] ++ m.map f) (l.length + 1 + m.length)) : AppN (l.map f ++ [x]) (m.map f) b k := ⟨_, _, rfl, by simp; omega, h1, h2, hk⟩
theorem AppN.nilR {α : Type} {f : α → List AV} {l : List α} {b : Nat} {k : List (List AV) → Nat → Prop} (h1 : l.length * b ≤ 140737488355328) (h2 : l.length ≤ 9223372036854775807) (hk : k (l.map f) l.length) : AppN (l.map f) [] b k := ⟨_, _, rfl, by simp, h1, h2, by rw [List.append_nil]; exact hk⟩
theorem bonusL_0 {r : Round} (hr : r.ok) : bonusL r 0 = [] := by
  have hd := onesOk hr (Int.le_refl 0) (by decide)
  obtain ⟨o, po, so⟩ := ord_ex (key 0 (onesOf r).sum (onesOf r)) (onesOf r).length
  have hf := fair_ok hd po so
  obtain ⟨l1, l2⟩ := bonus_parts hr (Int.le_refl 0) (by decide)
  unfold bonusL bonusTo
  rw [List.map_eq_nil_iff, List.filter_eq_nil_iff]
  intro i hi
  have hi := List.mem_range.1 hi
  have hil : i < (divided 0 (onesOf r)).length := by omega
  have := mem_le_sum (fun x hx => (l2 x hx).1) (List.getElem_mem hil)
  rw [hf.sum] at this
  rw [getD_lt hil, decide_eq_true_eq]
  omega
theorem Pu.of_ef {P : Program} {G : Glob} {f : FuncId} {args : List AV} {z : AV} {Q : AV → AH → Prop} (h : Ef P G f args [] Q) (hQ : ∀ y H, Q y H → y = z) (hd : (args.all (·.deep2)) = true) (hz : z.deep2 = true) : Pu P G f args z := ⟨h.1, AFnH.pure (h.2.mono hQ) (fun x hx => List.all_eq_true.1 hd x hx) hz⟩
theorem rnight_ok (t : Bool) {p : Policy} {n : Int} {l : List Round} (hp : p.ok) (hn : 0 ≤ n ∧ n ≤ 20000) (hl : ∀ r ∈ l, r.ok) (hmax : l.length ≤ 1000) : Pu Tryz.prog G1 68 [.agg p.enc, vi n, rounds t l] (postings false (nightOf p n l)) := by
  refine Pu.of_ef (Ef.fin (z := postings false (nightOf p n l)) (Hz := []) (Ef.of_code (T := Tryz.tab) (n := 100) (tryd_okm 0 _) rfl Tryz.func68 rfl rfl (by simp) ?_)) (fun y H h => h.1) rfl rfl
  refine CodeN.seqE (tryd_okm 0 _) ?_
  (conv => whnf)
  refine CodeN.seqE (tryd_okm 0 _) ?_
  (conv => whnf)
  refine CodeN.cut (tryd_okm 0 _) (fun _ : Unit => [(1, vi n), (2, rounds t l), (3, .pm 0 0 0), (7, .sm 1 5 0 (baseL p n).length)]) (fun _ => [.rows [p.enc] 105, .rows ((baseL p n).map Posting.enc) 61]) (fun _ => True) ?_ ?_
  · by_cases hb : 0 < p.base
    · have e0 : baseL p n = [⟨n, 0, -1, -2, p.base⟩] := if_pos hb
      rw [e0]
      ((conv => whnf); repeat' ((first | refine vv3 ?_ | refine vv21 ?_ | refine vv32 ?_) <;> (conv => whnf)))
      exact JoinN.mk () trivial (Reabs.frmM [0, 1] (by repeat (first | exact trivial | refine ⟨.inr ⟨rfl, rfl⟩, ?_⟩ | refine ⟨.inr ⟨rfl, vi_eq (by first | omega | (simp; done) | (simp; omega))⟩, ?_⟩ | refine ⟨.inr ⟨rfl, smE rfl (by first | omega | (simp; done) | (simp; omega))⟩, ?_⟩)) (by repeat (first | exact trivial | refine ⟨⟨_, rfl, (by first | exact blkDead | exact blkDeep rfl (deepLit rfl) | exact blkDeep rfl (deepMap (fun _ => rfl)) | exact blkOk rfl rfl | exact blkLoop rfl rfl), (by first | exact fun _ => rfl | exact fun h => (by cases h))⟩, ?_⟩)) rfl rfl)
    · have e0 : baseL p n = [] := if_neg hb
      rw [e0]
      ((conv => whnf); repeat' ((first | refine vv4 ?_ | refine vv21 ?_) <;> (conv => whnf)))
      exact JoinN.mk () trivial ((Reabs.virt 7 5 61 rfl).trans (Reabs.frmM [0, 1] (by repeat (first | exact trivial | refine ⟨.inr ⟨rfl, rfl⟩, ?_⟩ | refine ⟨.inr ⟨rfl, vi_eq (by first | omega | (simp; done) | (simp; omega))⟩, ?_⟩ | refine ⟨.inr ⟨rfl, smE rfl (by first | omega | (simp; done) | (simp; omega))⟩, ?_⟩)) (by repeat (first | exact trivial | refine ⟨⟨_, rfl, (by first | exact blkDead | exact blkDeep rfl (deepLit rfl) | exact blkDeep rfl (deepMap (fun _ => rfl)) | exact blkOk rfl rfl | exact blkLoop rfl rfl), (by first | exact fun _ => rfl | exact fun h => (by cases h))⟩, ?_⟩)) rfl rfl))
  rintro _ -
  refine CodeN.of_ev (tryd_okm 0 _) ?_
  (conv => whnf)
  refine LoopN.of (tryd_okm 0 _) (fun k : Nat => [(1, vi n), (2, rounds t l), (3, .pm 0 0 0), (7, .sm 1 5 0 (nightSt p n (l.take k)).out.length), (8, vi k)]) (fun k => [.rows [p.enc] 105, .rows ((nightSt p n (l.take k)).out.map Posting.enc) 61]) (fun k => l.length - k) (fun k => k ≤ l.length) 0 (Nat.zero_le _) (Reabs.frmM [0, 1] (by repeat (first | exact trivial | refine ⟨.inr ⟨rfl, rfl⟩, ?_⟩ | refine ⟨.inr ⟨rfl, vi_eq (by first | omega | (simp; done) | (simp; omega))⟩, ?_⟩ | refine ⟨.inr ⟨rfl, smE rfl (by first | omega | (simp; done) | (simp; omega))⟩, ?_⟩)) (by repeat (first | exact trivial | refine ⟨⟨_, rfl, (by first | exact blkDead | exact blkDeep rfl (deepLit rfl) | exact blkDeep rfl (deepMap (fun _ => rfl)) | exact blkOk rfl rfl | exact blkLoop rfl rfl), (by first | exact fun _ => rfl | exact fun h => (by cases h))⟩, ?_⟩)) rfl rfl) ?_
  intro k hk
  have nok := nok_st hp hn hl k hk
  have nlen := nok.len
  by_cases hlt : k < l.length
  · have hst := nightSt_succ (p := p) (n := n) hlt
    have hr := hl _ (List.getElem_mem hlt)
    generalize nightSt p n (l.take k) = s at *
    by_cases hnn : l[k].night = n
    · have hst' : nightSt p n (l.take (k + 1)) = ⟨s.out ++ roundL p l[k] s.cr s.ch, crOf p l[k] s.cr, chOf p l[k] s.ch⟩ := by rw [hst, stepN, if_pos hnn]
      obtain ⟨g1, g2, -⟩ := roundL_ok hp hr nok.cr nok.ch
      have hok : ∀ x ∈ s.out, x.ok := fun x hx => (nok.out x hx).1
      have hg1 := given_in hok (by omega) (-2) (-1) [.rows [p.enc] 105, .rows (s.out.map Posting.enc) 61] 1 _ rfl rfl
      have hg2 := given_in hok (by omega) (-1) (-2) [.rows [p.enc] 105, .rows (s.out.map Posting.enc) 61] 1 _ rfl rfl
      rw [nok.gcr] at hg1
      rw [nok.gch] at hg2
      have ncr := nok.cr
      have nch := nok.ch
      have hpo := hp
      unfold Policy.ok at hpo
      by_cases hk1 : l[k].kind = 1
      · have hd := certAmt_bd hp ncr
        obtain ⟨b1, b2, b3, b4⟩ := bonus_amt hp ⟨hd.1, hd.2.1⟩
        have hq : (certAmt p s.cr * p.bonus).tdiv 1000 = certAmt p s.cr * p.bonus / 1000 := Int.tdiv_eq_ediv_of_nonneg b3
        have hbo : Pu Tryz.prog G1 107 [.agg l[k].enc, vi ((certAmt p s.cr * p.bonus).tdiv 1000)] (postings false (bonusL l[k] (certAmt p s.cr * p.bonus / 1000))) := by rw [hq]; exact rbonus_ok hr b1 b2
        have hbl := bonusTo_len l[k] (divided (certAmt p s.cr * p.bonus / 1000) (onesOf l[k])) l[k].crew.length
        have hcl : l[k].crew.length ≤ 4 := by unfold Round.ok at hr; exact hr.2.2.2.1.2
        have e : certAmt p s.cr = min p.credit (p.cap - s.cr) := rfl
        have hbl' : (bonusL l[k] (certAmt p s.cr * p.bonus / 1000)).length ≤ 4 := by unfold bonusL; omega
        by_cases h0 : certAmt p s.cr = 0
        · have hz : bonusL l[k] (certAmt p s.cr * p.bonus / 1000) = [] := by
            rw [h0]; simpa using bonusL_0 hr
          have e2 : roundL p l[k] s.cr s.ch = [] := by rw [roundL, if_pos hk1, if_pos h0]
          rw [e2, List.append_nil] at hst'
          rw [hz] at hbo
          rw [e] at h0 hbo b3 b4 hq
          ((conv => whnf); repeat' ((first | refine GCallN.same hg1 ?_ | refine GCallN.pure _ hbo ?_ | refine WrapN.inI (a := min p.credit (p.cap - s.cr) * p.bonus) ⟨by omega, by omega⟩ ?_ | refine AppN.nilR (by omega) (by omega) ?_ | refine vv3 ?_ | refine vv5 ?_ | refine vv7 ?_ | refine vv8 ?_ | refine vv20 ?_ | refine SlIdxN.map _ rfl (by first | assumption | omega) ?_ | refine vv21 ?_ | refine vv23 ?_ | refine vv25 ?_ | refine Need.mk (by first | assumption | omega | (simp <;> omega)) ?_ | refine DrawN.gen (by first | exact tryd_ok _ | exact tryd_okm _ _) (by kernel_rfl) ?_ | refine vv31 ?_) <;> (conv => whnf)))
          refine BackN.mk (k + 1) (by omega) (by omega) ?_
          simp only [hst']
          exact (Reabs.frmM [0, 2] (by repeat (first | exact trivial | refine ⟨.inr ⟨rfl, rfl⟩, ?_⟩ | refine ⟨.inr ⟨rfl, vi_eq (by first | omega | (simp; done) | (simp; omega))⟩, ?_⟩ | refine ⟨.inr ⟨rfl, smE rfl (by first | omega | (simp; done) | (simp; omega))⟩, ?_⟩)) (by exact ⟨⟨_, rfl, blkDeep rfl (deepLit rfl), fun _ => rfl⟩, ⟨_, rfl, blkDeep rfl (deepMap (fun _ => rfl)), fun _ => rfl⟩, trivial⟩) rfl rfl)
        · have e2 : roundL p l[k] s.cr s.ch = [⟨l[k].night, l[k].no, -2, -1, certAmt p s.cr⟩] ++ bonusL l[k] (certAmt p s.cr * p.bonus / 1000) := by rw [roundL, if_pos hk1, if_neg h0]; rfl
          rw [e2] at hst'
          generalize bonusL l[k] (certAmt p s.cr * p.bonus / 1000) = B at *
          rw [e] at h0 hbo b3 b4 hq hst' hd
          rw [hnn] at hst'
          ((conv => whnf); repeat' ((first | refine GCallN.same hg1 ?_ | refine GCallN.pure _ hbo ?_ | refine WrapN.inI (a := min p.credit (p.cap - s.cr) * p.bonus) ⟨by omega, by omega⟩ ?_ | refine AppN.snocs (by omega) (by omega) ?_ | refine vv3 ?_ | refine vv5 ?_ | refine vv7 ?_ | refine vv20 ?_ | refine SlIdxN.map _ rfl (by first | assumption | omega) ?_ | refine vv21 ?_ | refine vv23 ?_ | refine vv25 ?_ | refine Need.mk (by first | assumption | omega | (simp <;> omega)) ?_ | refine DrawN.gen (by first | exact tryd_ok _ | exact tryd_okm _ _) (by kernel_rfl) ?_ | refine vv31 ?_ | refine vv33 ?_) <;> (conv => whnf)))
          refine BackN.mk (k + 1) (by omega) (by omega) ?_
          simp only [hst', ← List.append_assoc]
          exact (Reabs.frmM [0, 3] (by repeat (first | exact trivial | refine ⟨.inr ⟨rfl, rfl⟩, ?_⟩ | refine ⟨.inr ⟨rfl, vi_eq (by first | omega | (simp; done) | (simp; omega))⟩, ?_⟩ | refine ⟨.inr ⟨rfl, smE rfl (by first | omega | (simp; done) | (simp; omega))⟩, ?_⟩)) (by exact ⟨⟨_, rfl, blkDeep rfl (deepLit rfl), fun _ => rfl⟩, ⟨_, rfl, blkDeep (by rw [List.map_append, List.map_append]; rfl) (deepMap (fun _ => rfl)), fun _ => rfl⟩, trivial⟩) rfl rfl)
      · have hd := doubtAmt_bd hp l[k] nch
        have e : doubtAmt p l[k] s.ch = min (if l[k].kind = 3 then p.charge else p.doubt) (p.cap - s.ch) := rfl
        by_cases h0 : doubtAmt p l[k] s.ch = 0
        · have e2 : roundL p l[k] s.cr s.ch = [] := by rw [roundL, if_neg hk1, if_pos h0]
          rw [e2, List.append_nil] at hst'
          rw [e] at h0
          ((conv => whnf); repeat' ((first | refine GCallN.same hg2 ?_ | refine GCallN.pure _ (charge_ok p _) ?_ | refine vv4 ?_ | refine vv5 ?_ | refine vv7 ?_ | refine vv8 ?_ | refine vv20 ?_ | refine SlIdxN.map _ rfl (by first | assumption | omega) ?_ | refine vv21 ?_ | refine vv23 ?_ | refine vv25 ?_ | refine DrawN.gen (by first | exact tryd_ok _ | exact tryd_okm _ _) (by kernel_rfl) ?_) <;> (conv => whnf)))
          refine BackN.mk (k + 1) (by omega) (by omega) ?_
          simp only [hst']
          exact (Reabs.frmM [0, 1] (by repeat (first | exact trivial | refine ⟨.inr ⟨rfl, rfl⟩, ?_⟩ | refine ⟨.inr ⟨rfl, vi_eq (by first | omega | (simp; done) | (simp; omega))⟩, ?_⟩ | refine ⟨.inr ⟨rfl, smE rfl (by first | omega | (simp; done) | (simp; omega))⟩, ?_⟩)) (by repeat (first | exact trivial | refine ⟨⟨_, rfl, (by first | exact blkDead | exact blkDeep rfl (deepLit rfl) | exact blkDeep rfl (deepMap (fun _ => rfl)) | exact blkOk rfl rfl | exact blkLoop rfl rfl), (by first | exact fun _ => rfl | exact fun h => (by cases h))⟩, ?_⟩)) rfl rfl)
        · have e2 : roundL p l[k] s.cr s.ch = [⟨l[k].night, l[k].no, -1, -2, doubtAmt p l[k] s.ch⟩] := by rw [roundL, if_neg hk1, if_neg h0]
          rw [e2] at hst'
          rw [e] at h0 hst' hd
          rw [hnn] at hst'
          ((conv => whnf); repeat' ((first | refine GCallN.same hg2 ?_ | refine GCallN.pure _ (charge_ok p _) ?_ | refine vv4 ?_ | refine vv5 ?_ | refine vv7 ?_ | refine vv20 ?_ | refine SlIdxN.map _ rfl (by first | assumption | omega) ?_ | refine vv21 ?_ | refine vv23 ?_ | refine vv25 ?_ | refine DrawN.gen (by first | exact tryd_ok _ | exact tryd_okm _ _) (by kernel_rfl) ?_ | refine vv31 ?_ | refine vv33 ?_) <;> (conv => whnf)))
          refine BackN.mk (k + 1) (by omega) (by omega) ?_
          simp only [hst']
          exact (Reabs.frmM [0, 2] (by repeat (first | exact trivial | refine ⟨.inr ⟨rfl, rfl⟩, ?_⟩ | refine ⟨.inr ⟨rfl, vi_eq (by first | omega | (simp; done) | (simp; omega))⟩, ?_⟩ | refine ⟨.inr ⟨rfl, smE rfl (by first | omega | (simp; done) | (simp; omega))⟩, ?_⟩)) (by exact ⟨⟨_, rfl, blkDeep rfl (deepLit rfl), fun _ => rfl⟩, ⟨_, rfl, blkDeep (by rw [List.map_append]; rfl) (deepMap (fun _ => rfl)), fun _ => rfl⟩, trivial⟩) rfl rfl)
    · have hst' : nightSt p n (l.take (k + 1)) = s := by rw [hst, stepN, if_neg hnn]
      ((conv => whnf); repeat' ((first | refine vv6 ?_ | refine vv7 ?_ | refine vv20 ?_ | refine SlIdxN.map _ rfl (by first | assumption | omega) ?_ | refine vv23 ?_) <;> (conv => whnf)))
      refine BackN.mk (k + 1) (by omega) (by omega) ?_
      simp only [hst']
      exact (Reabs.frmM [0, 1] (by repeat (first | exact trivial | refine ⟨.inr ⟨rfl, rfl⟩, ?_⟩ | refine ⟨.inr ⟨rfl, vi_eq (by first | omega | (simp; done) | (simp; omega))⟩, ?_⟩ | refine ⟨.inr ⟨rfl, smE rfl (by first | omega | (simp; done) | (simp; omega))⟩, ?_⟩)) (by repeat (first | exact trivial | refine ⟨⟨_, rfl, (by first | exact blkDead | exact blkDeep rfl (deepLit rfl) | exact blkDeep rfl (deepMap (fun _ => rfl)) | exact blkOk rfl rfl | exact blkLoop rfl rfl), (by first | exact fun _ => rfl | exact fun h => (by cases h))⟩, ?_⟩)) rfl rfl)
  · obtain rfl : k = l.length := by omega
    ((conv => whnf); repeat' ((first | refine vv8 ?_ | refine vv23 ?_) <;> (conv => whnf)))
    refine ⟨.step 1 _ 61 rfl (deepR (fun _ => rfl)) ?_⟩
    show FinTo _ _ ((AV.sm 1 5 0 _).frz0 1 _) _ _
    rw [frz_all (by simp), List.take_length]
    exact .done _ _ _ (by simp) rfl (fun b hb => by cases hb) rfl
end Go.Proofs.Ax
