import Derived.Test.YtdfgphfijfocoaaGreatDoorRbR
namespace Go.Proofs.Ax
open Go Go.Proofs
set_option maxRecDepth 10000
set_option maxHeartbeats 4000000
theorem round_in {p : Policy} {r : Round} {cr ch : Int} (hp : p.ok) (hr : r.ok) (h1 : 0 ≤ cr ∧ cr ≤ p.cap) (h2 : 0 ≤ ch ∧ ch ≤ p.cap) (H : AH) (i : Nat) (hi : nthB H i = some (.rows [[vi cr, vi ch]] 157)) :
    Ef Tryz.prog G1 105 [.pm i 0 0, .agg p.enc, .agg r.enc] H fun y H' => y = postings false (roundL p r cr ch) ∧ H' = H.set i (.rows [[vi (crOf p r cr), vi (chOf p r ch)]] 157) := by
  refine Ef.subD (round_ok hp hr h1 h2) rfl (Nat.le_refl _) ⟨okDeep (by intro row hr x hx; rw [List.mem_singleton.1 hr] at hx; simp only [List.mem_cons, List.not_mem_nil, or_false] at hx; rcases hx with rfl | rfl <;> rfl) _, trivial⟩ [i] (by simp) ⟨⟨_, hi, blkDeep rfl (deepLit rfl), fun _ => rfl⟩, trivial⟩ rfl (fun x hx => ?_) rfl ?_
  · simp only [List.mem_cons, List.not_mem_nil, or_false] at hx
    rcases hx with rfl | rfl | rfl <;> rfl
  · show H.set i _ ++ [] = _
    rw [List.append_nil]
    rfl
abbrev nightH (p : Policy) (n : Int) (t : Bool) (l : List Round) : AH := [.rows [p.enc] 105, .rows [[vi n]] 3, .rows [[rounds t l]] 23]
theorem of_ok (p : Policy) (n : Int) (t : Bool) (l : List Round) : Ef Tryz.prog G1 64 [.agg p.enc, vi n, rounds t l] [] fun y H' => y = .fn (.func 104) [] [.pm 0 0 0, .pm 1 0 0, .pm 2 0 0] ∧ H' = nightH p n t l := by
  refine Ef.of_ev (T := Tryz.tab) (n := 8) (tryd_okm 0 _) rfl Tryz.func64 rfl rfl (by simp) ?_
  (conv => whnf)
  exact ⟨⟨rfl, rfl⟩⟩
noncomputable def rfOf (c : Code) : Option (Code × Code) :=
  Code.rec (motive := fun _ => Option (Code × Code)) none (fun _ _ _ => none) (fun _ _ x y => match x with | some z => some z | none => y) (fun _ _ _ x y => match x with | some z => some z | none => y) (fun _ _ x => x) (fun _ x => x) (fun _ _ az bd _ _ => some (az, bd)) (fun _ => none) (fun _ x => x) (fun _ => none) (fun _ => none) none (fun _ => none) c
noncomputable def as77 : Code := match Tryz.f101.body with
  | some c => match rfOf c with
    | some (a, _) => a
    | none => .skip
  | none => .skip
noncomputable def bd77 : Code := match Tryz.f101.body with
  | some c => match rfOf c with
    | some (_, b) => b
    | none => .skip
  | none => .skip
abbrev cl78 : AV := .fn (.func 104) [] [.pm 0 0 0, .pm 1 0 0, .pm 2 0 0]
abbrev fl77 : Fr := [(2, .pm 4 0 0), (6, cl78)]
noncomputable abbrev lp77 : ABlk := .loop .ready none (frm 0 fl77 13) #[7] as77 bd77
/-- The blocks of a range over a night's postings that are appended. -/
noncomputable abbrev H77 (p : Policy) (n : Int) (t : Bool) (l : List Round) (o : List Posting) : AH := [.rows [p.enc] 105, .rows [[vi n]] 3, .rows [[rounds t l]] 23, .dead, .rows [[.sm 6 5 0 o.length]] 49, lp77, .rows (o.map Posting.enc) 61]
abbrev fr78 : Fr := [(0, .yl 5), (1, .pm 0 0 0), (2, .pm 1 0 0), (3, .pm 2 0 0)]
theorem of1_ok {p : Policy} {n : Int} {t : Bool} {l : List Round} (hp : p.ok) (hn : 0 ≤ n ∧ n ≤ 20000) (hl : ∀ r ∈ l, r.ok) (hmax : l.length ≤ 1000) (o : List Posting) (ho : o.length ≤ 1000000) :
    Ef Tryz.prog G1 104 [.yl 5, .pm 0 0 0, .pm 1 0 0, .pm 2 0 0] [.rows [p.enc] 105, .rows [[vi n]] 3, .rows [[rounds t l]] 23, .rows (o.map Posting.enc) 61, .rows [[.sm 3 5 0 o.length]] 49, lp77] fun y H' => y = .tuple [] ∧ H' = H77 p n t l (o ++ nightOf p n l) := by
  refine Ef.reabs (Ef.of_code (T := Tryz.tab) (n := 46) (tryd_okm 6 _) rfl Tryz.func104 rfl rfl (by simp) ?_)
  refine CodeN.re (l' := fr78) (H' := H77 p n t l o) (Reabs.frmM [0, 1, 2, 3, 4, 5, 3] (by repeat (first | exact trivial | refine ⟨.inr ⟨rfl, rfl⟩, ?_⟩)) (by repeat (first | exact trivial | refine ⟨⟨_, rfl, (by first | exact blkDead | exact blkDeep rfl (deepLit rfl) | exact blkDeep rfl (deepMap (fun _ => rfl)) | exact blkOk rfl rfl | exact blkLoop rfl rfl), (by first | exact fun _ => rfl | exact fun h => (by cases h))⟩, ?_⟩)) rfl rfl) ?_
  refine CodeN.cut (tryd_okm 6 _) (fun (o1 : List Posting) => (21, vb false) :: fr78) (fun o1 => H77 p n t l o1) (fun o1 => o1 = o ++ baseL p n) ?_ ?_
  · by_cases hb : 0 < p.base
    · ((conv => whnf); repeat' ((first | refine OpN.yl (tryd_okm 6 _) rfl rfl rfl ?_ | refine vv2 ?_ | refine vv3 ?_ | refine vv21 ?_ | refine vv22 ?_ | refine vv31 ?_ | refine vv33 ?_) <;> (conv => whnf)))
      exact JoinN.mk (o ++ baseL p n) rfl (Reabs.frmM [0, 1, 2, 3, 4, 5, 8] (by repeat (first | exact trivial | refine ⟨.inr ⟨rfl, rfl⟩, ?_⟩ | refine ⟨.inr ⟨rfl, vi_eq (by first | omega | (simp; done) | (simp; omega))⟩, ?_⟩ | refine ⟨.inr ⟨rfl, smE rfl (by first | omega | (simp; done) | (simp; omega))⟩, ?_⟩)) (by exact ⟨⟨_, rfl, blkDeep rfl (deepLit rfl), fun _ => rfl⟩, ⟨_, rfl, blkDeep rfl (deepLit rfl), fun _ => rfl⟩, ⟨_, rfl, blkDeep rfl (deepLit rfl), fun _ => rfl⟩, ⟨_, rfl, blkDead, fun h => (by cases h)⟩, ⟨_, rfl, blkOk rfl (by rw [baseL, if_pos hb, List.length_append]; rfl), fun _ => rfl⟩, ⟨_, rfl, blkLoop rfl rfl, fun _ => rfl⟩, ⟨_, rfl, blkDeep (by rw [baseL, if_pos hb, List.map_append]; rfl) (deepMap (fun _ => rfl)), fun _ => rfl⟩, trivial⟩) rfl rfl)
    · ((conv => whnf); repeat' ((first | refine vv2 ?_ | refine vv4 ?_ | refine vv21 ?_) <;> (conv => whnf)))
      exact JoinN.mk o (by rw [baseL, if_neg hb, List.append_nil]) (Reabs.frmM [0, 1, 2, 3, 4, 5, 6] (by repeat (first | exact trivial | refine ⟨.inr ⟨rfl, rfl⟩, ?_⟩)) (by repeat (first | exact trivial | refine ⟨⟨_, rfl, (by first | exact blkDead | exact blkDeep rfl (deepLit rfl) | exact blkDeep rfl (deepMap (fun _ => rfl)) | exact blkOk rfl rfl | exact blkLoop rfl rfl), (by first | exact fun _ => rfl | exact fun h => (by cases h))⟩, ?_⟩)) rfl rfl)
  rintro o1 ho1
  have ho1l : o1.length ≤ o.length + 1 := by
    rw [ho1, List.length_append]
    unfold baseL
    split <;> simp
  refine CodeN.of_ev (tryd_okm 6 _) ?_
  ((conv => whnf); repeat' ((first | refine vv21 ?_ | refine vv23 ?_) <;> (conv => whnf)))
  refine LoopN.of (tryd_okm 6 _) (fun (k : Nat) => (5, .pm 7 0 0) :: (22, rounds t l) :: (23, vi l.length) :: (24, vi k) :: fr78) (fun k => H77 p n t l (o ++ (nightSt p n (l.take k)).out) ++ [.rows [[vi (nightSt p n (l.take k)).cr, vi (nightSt p n (l.take k)).ch]] 157]) (fun k => l.length - k) (fun k => k ≤ l.length) 0 (Nat.zero_le _) ?_ ?_
  · subst ho1
    exact (Reabs.frmM [0, 1, 2, 3, 4, 5, 6, 7] (by repeat (first | exact trivial | refine ⟨.inr ⟨rfl, rfl⟩, ?_⟩ | refine ⟨.inr ⟨rfl, vi_eq (by first | omega | (simp; done) | (simp; omega))⟩, ?_⟩ | refine ⟨.inr ⟨rfl, smE rfl (by first | omega | (simp; done) | (simp; omega))⟩, ?_⟩)) (by repeat (first | exact trivial | refine ⟨⟨_, rfl, (by first | exact blkDead | exact blkDeep rfl (deepLit rfl) | exact blkDeep rfl (deepMap (fun _ => rfl)) | exact blkOk rfl rfl | exact blkLoop rfl rfl), (by first | exact fun _ => rfl | exact fun h => (by cases h))⟩, ?_⟩)) rfl rfl)
  intro k hk
  have nok := nok_st hp hn hl k hk
  have nlen := nok.len
  by_cases hlt : k < l.length
  · have hst := nightSt_succ (p := p) (n := n) hlt
    have hr := hl _ (List.getElem_mem hlt)
    generalize nightSt p n (l.take k) = s at *
    by_cases hnn : l[k].night = n
    · obtain ⟨g1, g2, -⟩ := roundL_ok hp hr nok.cr nok.ch
      have hri := fun H hi => round_in hp hr nok.cr nok.ch H 7 hi
      ((conv => whnf); repeat' ((first | refine CallN.efD (hri _ rfl) ?_ | refine vv5 ?_ | refine vv7 ?_ | refine SlIdxN.map _ rfl (by first | assumption | omega) ?_ | refine vv21 ?_ | refine vv22 ?_ | refine vv23 ?_) <;> (conv => whnf)))
      have hst' : nightSt p n (l.take (k + 1)) = ⟨s.out ++ roundL p l[k] s.cr s.ch, crOf p l[k] s.cr, chOf p l[k] s.ch⟩ := by rw [hst, stepN, if_pos hnn]
      clear hri
      generalize roundL p l[k] s.cr s.ch = rl at *
      generalize crOf p l[k] s.cr = cr' at *
      generalize chOf p l[k] s.ch = ch' at *
      refine LoopN.of (tryd_okm 6 _) (fun (j : Nat) => (5, .pm 7 0 0) :: (22, rounds t l) :: (23, vi l.length) :: (24, vi k) :: (34, postings false rl) :: (35, vi rl.length) :: (36, vi j) :: fr78) (fun j => H77 p n t l (o ++ s.out ++ rl.take j) ++ [.rows [[vi cr', vi ch']] 157]) (fun j => rl.length - j) (fun j => j ≤ rl.length) 0 (Nat.zero_le _) ?_ ?_
      · rw [List.take_zero, List.append_nil]
        exact (Reabs.frmM [0, 1, 2, 3, 4, 5, 6, 7] (by repeat (first | exact trivial | refine ⟨.inr ⟨rfl, rfl⟩, ?_⟩ | refine ⟨.inr ⟨rfl, vi_eq (by first | omega | (simp; done) | (simp; omega))⟩, ?_⟩ | refine ⟨.inr ⟨rfl, smE rfl (by first | omega | (simp; done) | (simp; omega))⟩, ?_⟩)) (by repeat (first | exact trivial | refine ⟨⟨_, rfl, (by first | exact blkDead | exact blkDeep rfl (deepLit rfl) | exact blkDeep rfl (deepMap (fun _ => rfl)) | exact blkOk rfl rfl | exact blkLoop rfl rfl), (by first | exact fun _ => rfl | exact fun h => (by cases h))⟩, ?_⟩)) rfl rfl)
      intro j hj
      have hlen : (o ++ s.out ++ rl.take j).length ≤ 1010000 := by simp only [List.length_append, List.length_take]; omega
      by_cases hjl : j < rl.length
      · have htk : o ++ s.out ++ rl.take (j + 1) = o ++ s.out ++ rl.take j ++ [rl[j]] := by rw [take_succ_snoc hjl]; simp
        ((conv => whnf); repeat' ((first | refine OpN.yl (tryd_okm 6 _) rfl rfl rfl ?_ | refine vv2 ?_ | refine vv7 ?_ | refine vv20 ?_ | refine SlIdxN.map _ rfl (by first | assumption | omega) ?_ | refine vv21 ?_ | refine vv22 ?_ | refine vv31 ?_ | refine vv33 ?_) <;> (conv => whnf)))
        refine BackN.mk (j + 1) (by omega) (by omega) ?_
        simp only [htk]
        exact (Reabs.frmM [0, 1, 2, 3, 4, 5, 10, 7] (by repeat (first | exact trivial | refine ⟨.inr ⟨rfl, rfl⟩, ?_⟩ | refine ⟨.inr ⟨rfl, vi_eq (by first | omega | (simp; done) | (simp; omega))⟩, ?_⟩ | refine ⟨.inr ⟨rfl, smE rfl (by first | omega | (simp; done) | (simp; omega))⟩, ?_⟩)) (by exact ⟨⟨_, rfl, blkDeep rfl (deepLit rfl), fun _ => rfl⟩, ⟨_, rfl, blkDeep rfl (deepLit rfl), fun _ => rfl⟩, ⟨_, rfl, blkDeep rfl (deepLit rfl), fun _ => rfl⟩, ⟨_, rfl, blkDead, fun h => (by cases h)⟩, ⟨_, rfl, blkOk rfl (by rw [List.length_append (bs := [rl[j]])]; rfl), fun _ => rfl⟩, ⟨_, rfl, blkLoop rfl rfl, fun _ => rfl⟩, ⟨_, rfl, blkDeep (by rw [List.map_append (l₂ := [rl[j]])]; rfl) (deepMap (fun _ => rfl)), fun _ => rfl⟩, ⟨_, rfl, blkDeep rfl (deepLit rfl), fun _ => rfl⟩, trivial⟩) rfl rfl)
      · ((conv => whnf); repeat' ((first | refine vv8 ?_ | refine vv20 ?_) <;> (conv => whnf)))
        refine BackN.mk (k + 1) (by omega) (by omega) ?_
        simp only [hst', ← List.append_assoc]
        rw [List.take_of_length_le (by omega)]
        exact (Reabs.frmM [0, 1, 2, 3, 4, 5, 6, 7] (by repeat (first | exact trivial | refine ⟨.inr ⟨rfl, rfl⟩, ?_⟩ | refine ⟨.inr ⟨rfl, vi_eq (by first | omega | (simp; done) | (simp; omega))⟩, ?_⟩ | refine ⟨.inr ⟨rfl, smE rfl (by first | omega | (simp; done) | (simp; omega))⟩, ?_⟩)) (by repeat (first | exact trivial | refine ⟨⟨_, rfl, (by first | exact blkDead | exact blkDeep rfl (deepLit rfl) | exact blkDeep rfl (deepMap (fun _ => rfl)) | exact blkOk rfl rfl | exact blkLoop rfl rfl), (by first | exact fun _ => rfl | exact fun h => (by cases h))⟩, ?_⟩)) rfl rfl)
    · ((conv => whnf); repeat' ((first | refine vv6 ?_ | refine vv7 ?_ | refine vv20 ?_ | refine SlIdxN.map _ rfl (by first | assumption | omega) ?_ | refine vv21 ?_ | refine vv22 ?_) <;> (conv => whnf)))
      have hst' : nightSt p n (l.take (k + 1)) = s := by rw [hst, stepN, if_neg hnn]
      refine BackN.mk (k + 1) (by omega) (by omega) ?_
      simp only [hst']
      exact (Reabs.frmM [0, 1, 2, 3, 4, 5, 6, 7] (by repeat (first | exact trivial | refine ⟨.inr ⟨rfl, rfl⟩, ?_⟩ | refine ⟨.inr ⟨rfl, vi_eq (by first | omega | (simp; done) | (simp; omega))⟩, ?_⟩ | refine ⟨.inr ⟨rfl, smE rfl (by first | omega | (simp; done) | (simp; omega))⟩, ?_⟩)) (by repeat (first | exact trivial | refine ⟨⟨_, rfl, (by first | exact blkDead | exact blkDeep rfl (deepLit rfl) | exact blkDeep rfl (deepMap (fun _ => rfl)) | exact blkOk rfl rfl | exact blkLoop rfl rfl), (by first | exact fun _ => rfl | exact fun h => (by cases h))⟩, ?_⟩)) rfl rfl)
  · obtain rfl : k = l.length := by omega
    ((conv => whnf); repeat' ((first | refine vv8 ?_) <;> (conv => whnf)))
    refine ⟨⟨_, _, ?_, rfl, rfl⟩⟩
    rw [List.take_length]
    exact (Reabs.frmM [0, 1, 2, 3, 4, 5, 6] (by repeat (first | exact trivial | refine ⟨.inr ⟨rfl, rfl⟩, ?_⟩ | refine ⟨.inr ⟨rfl, vi_eq (by first | omega | (simp; done) | (simp; omega))⟩, ?_⟩ | refine ⟨.inr ⟨rfl, smE rfl (by first | omega | (simp; done) | (simp; omega))⟩, ?_⟩)) (by repeat (first | exact trivial | refine ⟨⟨_, rfl, (by first | exact blkDead | exact blkDeep rfl (deepLit rfl) | exact blkDeep rfl (deepMap (fun _ => rfl)) | exact blkOk rfl rfl | exact blkLoop rfl rfl), (by first | exact fun _ => rfl | exact fun h => (by cases h))⟩, ?_⟩)) rfl rfl)
end Go.Proofs.Ax
