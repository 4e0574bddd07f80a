import Derived.Test.YtedekogkeamacaaGreatDoorCcAD
import Derived.Test.YtedekogkeamacaaGreatDoorAxH
import Derived.Test.YtedekogkeamacaaGreatDoorCuD
import Derived.Test.YtedekogkeamacaaGreatDoorAxM
namespace Go.Proofs.Ax
open Go Go.Proofs Go.Proofs.Cu
set_option maxRecDepth 10000
set_option maxHeartbeats 4000000
section
noncomputable abbrev hS0 (e : Env) (gs : Fnd Spot Trc) (N : List Spot) : AH := [mT gs, .rows [[.mp 0]] 205, .rows [[.sm 3 4 0 N.length]] 206, .rows (N.map encQ) 202, .rows [encQ e.q] 202, lp82 (fl82 e.C e.ks e.al e.cs e.q e.now e.L e.k)]
noncomputable abbrev hS1 (e : Env) (gs : Fnd Spot Trc) (N : List Spot) : AH := [mT gs, .rows [[.mp 0]] 205, .rows [[.sm 6 4 0 N.length]] 206, .dead, .rows [encQ e.q] 202, lp82 (fl82 e.C e.ks e.al e.cs e.q e.now e.L e.k), .rows (N.map encQ) 202]
noncomputable abbrev hS9 (e : Env) (gs : Fnd Spot Trc) (N : List Spot) : AH := [mT gs, .rows [[.mp 0]] 205, .rows [[.sm 6 4 0 N.length]] 206, .dead, .rows [encQ e.q] 202, lp82 (fl82 e.C e.ks e.al e.cs e.q e.now e.L e.k), .rows (N.map encQ) 202, .rows [[.yl 5]] 255, .rows [[vi e.last]] 3]
abbrev fr183 (e : Env) : Fr := [(0, .yl 5), (1, .pi (encQ e.q)), (2, .pi [conds e.cs]), (3, .pi [kV e.C e.ks e.al]), (4, .pi [vi e.now])]
theorem ways1_ok (e : Env) (hC : CB e.C) (hq : SB e.C e.q.st) (hlast : e.last = lastOf e.cs e.q.seen) (hseen : e.q.seen ≤ 1000) (_hcs : e.cs.length ≤ 1000) (hct : ∀ c ∈ e.cs, 0 ≤ c.time ∧ c.time ≤ maxTime) (gs : Fnd Spot Trc) (N : List Spot)
    (hinv : ∀ l : List (Spot × Trc), (∀ w ∈ l, w ∈ waysS e.C e.cs e.q e.now) → Cu.Full (l.foldl (relax Trc.time) (gs, N)).1 ∧ (l.foldl (relax Trc.time) (gs, N)).2.length ≤ 100000) :
    Ef Tryz.prog G1 183 [.yl 5, .pi (encQ e.q), .pi [conds e.cs], .pi [kV e.C e.ks e.al], .pi [vi e.now]] (hS0 e gs N) fun y H' => y = .tuple [] ∧ H' = hS1 e ((waysS e.C e.cs e.q e.now).foldl (relax Trc.time) (gs, N)).1 ((waysS e.C e.cs e.q e.now).foldl (relax Trc.time) (gs, N)).2 := by
  refine Ef.reabs (Ef.of_code (T := Tryz.tab) (n := 79) (tryd_okm 6 _) rfl Tryz.func183 rfl rfl (by simp) ?_); refine CodeN.re (l' := fr183 e) (H' := hS1 e gs N) (QM [0, 1, 2, 3, 4, 5, 3] (hb := by exact ⟨⟨_, rfl, mT_blk _, fun _ => rfl⟩, ⟨_, rfl, blkOk rfl rfl, fun _ => rfl⟩, ⟨_, rfl, blkOk rfl rfl, fun _ => rfl⟩, ⟨_, rfl, blkDead, fun h => (by cases h)⟩, ⟨_, rfl, blkDeep rfl (deepLit rfl), fun _ => rfl⟩, ⟨_, rfl, blkLoop rfl rfl, fun _ => rfl⟩, ⟨_, rfl, blkDeep rfl (deepMap (fun _ => rfl)), fun _ => rfl⟩, trivial⟩)) ?_; refine CodeN.seqE (tryd_okm 6 _) ?_
  (conv => whnf)
  refine CodeN.seqE (tryd_okm 6 _) ?_
  (conv => whnf); repeat' (first | refine vv22 ?_) <;> conv => whnf
  refine CodeN.cut (tryd_okm 6 _) (fun (st : Fnd Spot Trc × List Spot) => [(0, .yl 5), (1, .pi (encQ e.q)), (2, .pi [conds e.cs]), (3, .pi [kV e.C e.ks e.al]), (4, .pi [vi e.now]), (5, .pm 7 0 0), (6, .pm 8 0 0)]) (fun st => hS9 e st.1 st.2) (fun st => st = (condL e.C e.cs e.q e.now).foldl (relax Trc.time) (gs, N)) ?_ ?_
  · by_cases hlt : e.q.seen < e.cs.length
    · have hg : e.cs[e.q.seen]? = some e.cs[e.q.seen] := List.getElem?_eq_getElem hlt; have hct' := hct _ (List.getElem_mem hlt); have hh := holds_ok hC e.ks e.al e.q.st e.cs[e.q.seen]; have hcl : condL e.C e.cs e.q e.now = if holdsS e.C e.cs[e.q.seen] e.q.st then [(⟨e.q.st, e.q.seen + 1⟩, ⟨max e.now (e.cs[e.q.seen].time + 1), e.q, ⟨0, 0, 0⟩, false⟩)] else [] := by unfold condL; rw [hg]
      have hla : lastOf e.cs e.q.seen = e.cs[e.q.seen].time := by unfold lastOf; rw [hg]
      have hmt : maxTime = 1073741823 := rfl; rw [hla] at hlast
      cases hb : holdsS e.C e.cs[e.q.seen] e.q.st with
      | false =>
        rw [hb, if_neg (by simp)] at hcl; rw [hb] at hh; rw [hcl]
        (conv => whnf); repeat' (first | refine SlIdxN.map e.q.seen rfl hlt ?_ | refine inv_time e.cs[e.q.seen] rfl ?_ | refine vv2 ?_ | refine vv7 ?_ | refine vv22 ?_ | refine vv23 ?_ | refine Qp hh ?_) <;> conv => whnf
        exact JoinN.mk (gs, N) rfl (QM [0, 1, 2, 3, 4, 5, 6, 7, 8] (hb := by exact ⟨⟨_, rfl, mT_blk _, fun _ => rfl⟩, ⟨_, rfl, blkOk rfl rfl, fun _ => rfl⟩, ⟨_, rfl, blkOk rfl rfl, fun _ => rfl⟩, ⟨_, rfl, blkDead, fun h => (by cases h)⟩, ⟨_, rfl, blkDeep rfl (deepLit rfl), fun _ => rfl⟩, ⟨_, rfl, blkLoop rfl rfl, fun _ => rfl⟩, ⟨_, rfl, blkDeep rfl (deepMap (fun _ => rfl)), fun _ => rfl⟩, ⟨_, rfl, blkOk rfl rfl, fun _ => rfl⟩, ⟨_, rfl, blkOk rfl (by rw [hlast]; rfl), fun _ => rfl⟩, trivial⟩))
      | true =>
        rw [hb, if_pos rfl] at hcl; rw [hb] at hh; have hiv := hinv [] (fun w hw => absurd hw List.not_mem_nil); have hrd := r82a e.C e.ks e.al e.cs e.q e.now e.L e.k gs N hiv.1 hiv.2 (⟨e.q.st, e.q.seen + 1⟩, ⟨max e.now (e.cs[e.q.seen].time + 1), e.q, ⟨0, 0, 0⟩, false⟩); rw [hcl]; simp only [List.foldl_cons, List.foldl_nil]; generalize relax Trc.time (gs, N) (⟨e.q.st, e.q.seen + 1⟩, ⟨max e.now (e.cs[e.q.seen].time + 1), e.q, ⟨0, 0, 0⟩, false⟩) = st at *; obtain ⟨gs', N'⟩ := st
        (conv => whnf); repeat' (first | refine SlIdxN.map e.q.seen rfl hlt ?_ | refine inv_time e.cs[e.q.seen] rfl ?_ | refine OpN.round (tryd_okm 6 _) rfl (hrd _ _) ?_ | refine vv1 ?_ | refine vv7 ?_ | refine vv20 ?_ | refine vv21 ?_ | refine vv22 ?_ | refine vv23 ?_ | refine Qp hh ?_) <;> conv => whnf
        rintro y H' ⟨rfl, ⟨z, rfl⟩ | ⟨a, b, c, rfl⟩⟩
        · (conv => whnf); repeat' (first | refine vv1 ?_ | refine vv2 ?_) <;> conv => whnf
          exact JoinN.mk (gs', N') rfl (QM [0, 1, 2, 3, 4, 5, 6, 7, 8] (hb := by exact ⟨⟨_, rfl, mT_blk _, fun _ => rfl⟩, ⟨_, rfl, blkOk rfl rfl, fun _ => rfl⟩, ⟨_, rfl, blkOk rfl rfl, fun _ => rfl⟩, ⟨_, rfl, blkDead, fun h => (by cases h)⟩, ⟨_, rfl, blkDeep rfl (deepLit rfl), fun _ => rfl⟩, ⟨_, rfl, blkLoop rfl rfl, fun _ => rfl⟩, ⟨_, rfl, blkDeep rfl (deepMap (fun _ => rfl)), fun _ => rfl⟩, ⟨_, rfl, blkOk rfl rfl, fun _ => rfl⟩, ⟨_, rfl, blkOk rfl (by rw [hlast]; rfl), fun _ => rfl⟩, trivial⟩))
        (conv => whnf); repeat' (first | refine vv1 ?_ | refine vv2 ?_) <;> conv => whnf
        exact JoinN.mk (gs', N') rfl (QM [0, 1, 2, 3, 4, 5, 12, 7, 8] (hb := by exact ⟨⟨_, rfl, mT_blk _, fun _ => rfl⟩, ⟨_, rfl, blkOk rfl rfl, fun _ => rfl⟩, ⟨_, rfl, blkOk rfl rfl, fun _ => rfl⟩, ⟨_, rfl, blkDead, fun h => (by cases h)⟩, ⟨_, rfl, blkDeep rfl (deepLit rfl), fun _ => rfl⟩, ⟨_, rfl, blkLoop rfl rfl, fun _ => rfl⟩, ⟨_, rfl, blkDeep rfl (deepMap (fun _ => rfl)), fun _ => rfl⟩, ⟨_, rfl, blkOk rfl rfl, fun _ => rfl⟩, ⟨_, rfl, blkOk rfl (by rw [hlast]; rfl), fun _ => rfl⟩, trivial⟩))
    have hg : e.cs[e.q.seen]? = none := List.getElem?_eq_none (by omega); have hcl : condL e.C e.cs e.q e.now = [] := by unfold condL; rw [hg]
    have hla : lastOf e.cs e.q.seen = maxTime := by unfold lastOf; rw [hg]
    rw [hla] at hlast; rw [hcl]
    (conv => whnf); repeat' (first | refine vv8 ?_ | refine vv23 ?_) <;> conv => whnf
    exact JoinN.mk (gs, N) rfl (QM [0, 1, 2, 3, 4, 5, 6, 7, 8] (hb := by exact ⟨⟨_, rfl, mT_blk _, fun _ => rfl⟩, ⟨_, rfl, blkOk rfl rfl, fun _ => rfl⟩, ⟨_, rfl, blkOk rfl rfl, fun _ => rfl⟩, ⟨_, rfl, blkDead, fun h => (by cases h)⟩, ⟨_, rfl, blkDeep rfl (deepLit rfl), fun _ => rfl⟩, ⟨_, rfl, blkLoop rfl rfl, fun _ => rfl⟩, ⟨_, rfl, blkDeep rfl (deepMap (fun _ => rfl)), fun _ => rfl⟩, ⟨_, rfl, blkOk rfl rfl, fun _ => rfl⟩, ⟨_, rfl, blkOk rfl (by rw [hlast]; rfl), fun _ => rfl⟩, trivial⟩))
  rintro ⟨gs1, N1⟩ hst; refine CodeN.of_ev (tryd_okm 6 _) ?_; have hstp := steps_ok e.C e.ks e.al e.q.st; have hways : waysS e.C e.cs e.q e.now = condL e.C e.cs e.q e.now ++ (stepsS e.C e.q.st).flatMap (moveL e.q e.now e.last) := by rw [hlast]; rfl
  (conv => whnf); repeat' (first | refine Qp hstp ?_) <;> conv => whnf
  refine RangeN.re (l' := fl183 e.C e.ks e.al e.cs e.q e.now) (H' := hS9 e gs1 N1) (QM [0, 1, 2, 3, 4, 5, 6, 7, 8] (hb := by exact ⟨⟨_, rfl, mT_blk _, fun _ => rfl⟩, ⟨_, rfl, blkOk rfl rfl, fun _ => rfl⟩, ⟨_, rfl, blkOk rfl rfl, fun _ => rfl⟩, ⟨_, rfl, blkDead, fun h => (by cases h)⟩, ⟨_, rfl, blkDeep rfl (deepLit rfl), fun _ => rfl⟩, ⟨_, rfl, blkLoop rfl rfl, fun _ => rfl⟩, ⟨_, rfl, blkDeep rfl (deepMap (fun _ => rfl)), fun _ => rfl⟩, ⟨_, rfl, blkOk rfl rfl, fun _ => rfl⟩, ⟨_, rfl, blkOk rfl rfl, fun _ => rfl⟩, trivial⟩)) ?_; refine RangeN.of (tryd_okm 6 _) rfl rfl (steps1_ok hC e.ks e.al hq (hW e) 10 9 (fun d (st : StW) => (∀ y ∈ d, y ∈ stepsS e.C e.q.st) ∧ (d.flatMap (moveL e.q e.now e.last)).foldl (relax Trc.time) (gs1, N1) = (st.gs, st.N)) ⟨gs1, N1, false⟩ ⟨(fun y hy => absurd hy List.not_mem_nil), rfl⟩ rfl (by omega) ?_ ?_) ?_
  · rintro d ⟨gs2, N2, b⟩ _
    cases b
    exact ⟨Nat.le_refl _, OkBs.all (bs := hW0 _ _ _) ⟨mT_ok _ _, okRows rfl, okRows rfl, trivial, okRows rfl, okLoop rfl, okDeep (deepR (fun _ => rfl)) _, okRows rfl, okRows rfl, okLoop rfl, trivial⟩⟩; exact ⟨Nat.le_succ _, OkBs.all (bs := hW1 _ _ _) ⟨mT_ok _ _, okRows rfl, okRows rfl, trivial, okRows rfl, okLoop rfl, trivial, okRows rfl, okRows rfl, okLoop rfl, okDeep (deepR (fun _ => rfl)) _, trivial⟩⟩
  · rintro d x ⟨gs2, N2, b⟩ hx ⟨hsub, hfold⟩ A B
    have hiv := hinv (condL e.C e.cs e.q e.now ++ d.flatMap (moveL e.q e.now e.last)) (fun w hw => by
      rw [hways]
      rcases List.mem_append.1 hw with hw | hw
      exact List.mem_append_left _ hw; obtain ⟨y, hy, hw⟩ := List.mem_flatMap.1 hw
      exact List.mem_append_right _ (List.mem_flatMap.2 ⟨y, hsub y hy, hw⟩))
    rw [List.foldl_append, ← hst, hfold] at hiv
    have hR2 : ∀ b', (∀ y ∈ d ++ [x], y ∈ stepsS e.C e.q.st) ∧ ((d ++ [x]).flatMap (moveL e.q e.now e.last)).foldl (relax Trc.time) (gs1, N1) = ((⟨(mvW e x (gs2, N2)).1, (mvW e x (gs2, N2)).2, b'⟩ : StW).gs, (⟨(mvW e x (gs2, N2)).1, (mvW e x (gs2, N2)).2, b'⟩ : StW).N) := fun b' => ⟨fun y hy => by
      rcases List.mem_append.1 hy with hy | hy
      exact hsub y hy
      rw [List.mem_singleton.1 hy]; exact hx, by
      rw [List.flatMap_append, List.foldl_append, hfold, List.flatMap_cons, List.flatMap_nil, List.append_nil]; rfl⟩
    cases b
    exact ⟨round183_02 e gs2 N2 hiv.1 hiv.2 x A B _ (fun H' b' h => ⟨rfl, _, hR2 b', h⟩), round183_01 e gs2 N2 hiv.1 hiv.2 x A _ (fun H' b' h => ⟨rfl, _, hR2 b', h⟩)⟩; exact ⟨round183_12 e gs2 N2 hiv.1 hiv.2 x A B _ (fun H' b' h => ⟨rfl, _, hR2 b', h⟩), round183_11 e gs2 N2 hiv.1 hiv.2 x A _ (fun H' b' h => ⟨rfl, _, hR2 b', h⟩)⟩
  rintro y H' ⟨⟨gs2, N2, b⟩, ⟨-, hfold⟩, rfl, rfl⟩; have hall : (waysS e.C e.cs e.q e.now).foldl (relax Trc.time) (gs, N) = (gs2, N2) := by rw [hways, List.foldl_append, ← hst]; exact hfold
  rw [hall]
  cases b
  · conv => whnf
    refine ⟨nofun, ?_⟩
    (conv => whnf)
    exact ⟨⟨_, hS1 e gs2 N2, QM [0, 1, 2, 3, 4, 5, 6] (hb := by exact ⟨⟨_, rfl, mT_blk _, fun _ => rfl⟩, ⟨_, rfl, blkOk rfl rfl, fun _ => rfl⟩, ⟨_, rfl, blkOk rfl rfl, fun _ => rfl⟩, ⟨_, rfl, blkDead, fun h => (by cases h)⟩, ⟨_, rfl, blkDeep rfl (deepLit rfl), fun _ => rfl⟩, ⟨_, rfl, blkLoop rfl rfl, fun _ => rfl⟩, ⟨_, rfl, blkDeep rfl (deepMap (fun _ => rfl)), fun _ => rfl⟩, trivial⟩), rfl, rfl⟩⟩
  conv => whnf
  refine ⟨nofun, ?_⟩
  (conv => whnf)
  exact ⟨⟨_, hS1 e gs2 N2, QM [0, 1, 2, 3, 4, 5, 10] (hb := by exact ⟨⟨_, rfl, mT_blk _, fun _ => rfl⟩, ⟨_, rfl, blkOk rfl rfl, fun _ => rfl⟩, ⟨_, rfl, blkOk rfl rfl, fun _ => rfl⟩, ⟨_, rfl, blkDead, fun h => (by cases h)⟩, ⟨_, rfl, blkDeep rfl (deepLit rfl), fun _ => rfl⟩, ⟨_, rfl, blkLoop rfl rfl, fun _ => rfl⟩, ⟨_, rfl, blkDeep rfl (deepMap (fun _ => rfl)), fun _ => rfl⟩, trivial⟩), rfl, rfl⟩⟩
end
section
abbrev mv0 : Mv := ⟨0, 0, 0⟩
abbrev gm (o : List Mv) (a : Nat) : Mv := o.getD a mv0
theorem gm_get {o : List Mv} {a : Nat} (h : a < o.length) : o[a] = gm o a := by simp [gm, h]
theorem gm_set {o : List Mv} {j m : Nat} {v : Mv} (h : j < o.length) : gm (o.set j v) m = if m = j then v else gm o m := by
  unfold gm; rw [List.getD_eq_getElem?_getD, List.getElem?_set, List.getD_eq_getElem?_getD]; by_cases e : j = m
  subst e; simp [h]; rw [if_neg e, if_neg (fun e' => e e'.symm)]
theorem gm_row {W : List Mv} {m : Nat} (h : m < W.length) : (W.map encMv)[m]? = some (encMv (gm W m)) := by rw [List.getElem?_map, List.getElem?_eq_getElem h, gm_get h]; rfl
structure RevI (o W : List Mv) (i : Nat) : Prop where
  len : W.length = o.length
  mid : ∀ m, i ≤ m → m + i < o.length → gm W m = gm o m
  out : ∀ m, m < o.length → (m < i ∨ o.length ≤ m + i) → gm W m = gm o (o.length - 1 - m)
theorem RevI.done {o W : List Mv} {i : Nat} (h : RevI o W i) (hi : o.length ≤ 2 * i + 1) : W = o.reverse := by
  refine List.ext_getElem (by simp [h.len]) fun m h1 h2 => ?_
  rw [List.getElem_reverse, gm_get h1, gm_get]; have hm : m < o.length := by rw [← h.len]; exact h1
  by_cases e : i ≤ m ∧ m + i < o.length
  rw [h.mid m e.1 e.2, show o.length - 1 - m = m by omega]; exact h.out m hm (by omega)
theorem RevI.step {o W : List Mv} {i : Nat} (h : RevI o W i) (hi : 2 * i + 1 < o.length) : RevI o ((W.set i (gm W (o.length - 1 - i))).set (o.length - 1 - i) (gm W i)) (i + 1) := by
  have hl := h.len; refine ⟨by simp [hl], fun m h1 h2 => ?_, fun m h1 h2 => ?_⟩
  · rw [gm_set (by simp; omega), if_neg (by omega), gm_set (by omega), if_neg (by omega)]; exact h.mid m (by omega) (by omega)
  rw [gm_set (by simp; omega)]; by_cases e1 : m = o.length - 1 - i
  · rw [if_pos e1, h.mid i (by omega) (by omega)]; congr 1; omega
  rw [if_neg e1, gm_set (by omega)]; by_cases e2 : m = i
  rw [if_pos e2, h.mid (o.length - 1 - i) (by omega) (by omega), e2]; rw [if_neg e2]; exact h.out m h1 (by omega)
theorem reverse_ef (o : List Mv) (hmax : o.length ≤ 1000000) : Ef Tryz.prog G1 182 [.sm 0 3 0 o.length] [.rows (o.map encMv) 88] fun y H' => y = .tuple [] ∧ H' = [.rows (o.reverse.map encMv) 88] := by
  refine Ef.reabs (Ef.of_ev (T := Tryz.tab) (n := 28) (tryd_okm 1 _) rfl Tryz.func182 rfl rfl (by simp) ?_)
  (conv => whnf); repeat' (first | refine vv20 ?_) <;> conv => whnf
  refine LoopN.of2 (tryd_okm 1 _) (fun (i : Nat) (W : List Mv) => [(0, .sm 0 3 0 o.length), (2, vi i), (3, vi ((o.length : Int) - 1 - i))]) (fun i W => [.rows (W.map encMv) 88]) (fun i W => o.length - i) (fun i W => i ≤ o.length ∧ RevI o W i) 0 o ⟨Nat.zero_le _, rfl, fun m _ _ => rfl, fun m _ h => by omega⟩ (QM [0]) ?_; rintro i W ⟨hi, hI⟩; have hl := hI.len; by_cases hlt : 2 * i + 1 < o.length
  · have hst := hI.step hlt; have hi1 : i < W.length := by omega
    have hj1 : o.length - 1 - i < W.length := by omega
    have hr1 := gm_row hi1; have hr2 := gm_row hj1
    have hr3 : ∀ r : List AV, ((W.map encMv).set i r)[o.length - 1 - i]? = some (encMv (gm W (o.length - 1 - i))) := fun r => by rw [List.getElem?_set, if_neg (by omega), hr2]
    have hmap : (((W.set i (gm W (o.length - 1 - i))).set (o.length - 1 - i) (gm W i))).map encMv = ((W.map encMv).set i (encMv (gm W (o.length - 1 - i)))).set (o.length - 1 - i) (encMv (gm W i)) := by rw [List.map_set, List.map_set]
    have hlt2 : (i : Int) < (o.length : Int) - 1 - i := by omega
    have hjI : (o.length : Int) - 1 - i = ((o.length - 1 - i : Nat) : Int) := by omega
    generalize hW2 : (W.set i (gm W (o.length - 1 - i))).set (o.length - 1 - i) (gm W i) = W2 at *; generalize gm W i = u at *; generalize gm W (o.length - 1 - i) = v at *
    repeat' ((conv => whnf); first | refine IdxN.at0 (o.length - 1 - i) hjI (by omega) ?_ | refine RowN.raw hr1 ?_ | refine RowN.raw hr2 ?_ | refine RowSN.raw hr1 ?_ | refine RowSN.raw (hr3 _) ?_ | refine vv3 ?_ | refine vv20 ?_ | refine IdxN.at0 _ rfl (by first | assumption | omega | (simp <;> omega)) ?_ | refine vv25 ?_ | refine Qd ?_)
    exact BackN2.mk (i + 1) W2 ⟨by omega, hst⟩ (by omega) (QM [0] (hb := Ql rfl (blkDeep (by rw [hmap] <;> rfl) (deepMap (fun _ => rfl))) bv0))
  have hd := hI.done (by omega); subst hd; have hlt2 : ¬ (i : Int) < (o.length : Int) - 1 - i := by omega
  (conv => whnf); repeat' (first | refine vv4 ?_) <;> conv => whnf
  exact ⟨⟨_, [.rows (o.reverse.map encMv) 88], QM [0], rfl, rfl⟩⟩
theorem reverse_in (o : List Mv) (hmax : o.length ≤ 1000000) (H : AH) (i : Nat) (hi : nthB H i = some (.rows (o.map encMv) 88)) : Ef Tryz.prog G1 182 [.sm i 3 0 o.length] H fun y H' => y = .tuple [] ∧ H' = H.set i (.rows (o.reverse.map encMv) 88) := by
  refine Ef.subD (reverse_ef o hmax) rfl (Nat.le_refl _) ⟨okDeep (deepR (fun _ => rfl)) _, trivial⟩ [i] (by simp) ⟨⟨_, hi, blkDeep rfl (deepMap (fun _ => rfl)), fun _ => rfl⟩, trivial⟩ rfl (fun x hx => ?_) rfl ?_; rw [List.mem_singleton.1 hx]; rfl; show H.set i ((ABlk.rows (o.reverse.map encMv) 88).ren _) ++ [] = _; rw [List.append_nil, ren_deepB (deepR (fun _ => rfl))]
theorem hist_step {C : Chn} {cs : List Cnd} {gs : Fnd Spot Trc} (hp : Ptr Trc.time (waysS C cs) q00 gs) {s : Spot} {t : Trc} (hg : getG s gs = some t) (hne : s ≠ q00) : lvlQ C s = lvlQ C t.frm + 1 ∧ ∃ t', getG t.frm gs = some t' := by
  obtain ⟨p, tp, h1, h2⟩ := hp.ptr s t hg hne; have h3 := ways_frm h2; have h4 := (ways_ok C cs).lvl _ _ _ h2; simp only at h3 h4; rw [h3]; exact ⟨h4, tp, h1⟩
theorem history_ef {C : Chn} (ks : List Int) (al : List Entr) {cs : List Cnd} {gs : Fnd Spot Trc} (hp : Ptr Trc.time (waysS C cs) q00 gs) {s0 : Spot} (hs0 : ∃ t, getG s0 gs = some t) {f0 : Nat} (hf0 : lvlQ C s0 < f0) (hf1 : f0 ≤ 1000) :
    Ef Tryz.prog G1 134 [kV C ks al, .mp 0, kQ s0] [mT gs] fun y H' => y = moves (histS gs f0 s0) ∧ H' = [mT gs] := by
  refine Ef.fin (Ef.of_ev (T := Tryz.tab) (n := 27) (tryd_okm 1 _) rfl Tryz.func134 rfl rfl (by simp) ?_)
  (conv => whnf)
  refine LoopN.re (Reabs.virt 7 3 88 rfl) ?_; refine LoopN.of3 (tryd_okm 1 _) (fun (f : Nat) (s : Spot) (out : List Mv) => [(1, .mp 0), (5, .pm 1 0 0), (7, .sm 2 3 0 out.length)]) (fun f s out => [mT gs, .rows [encQ s] 202, .rows (out.map encMv) 88]) (fun f s out => f) (fun f s out => (∃ t, getG s gs = some t) ∧ lvlQ C s < f ∧ out.length + f ≤ 1000 ∧ histS gs f0 s0 = histS gs f s ++ out.reverse) f0 s0 [] ⟨hs0, hf0, by simpa using hf1, by simp⟩ (QM [0, 1, 2] (hb := Ql rfl (mT_blk _) (bv1 (bv1 bv0)))) ?_; rintro f s out ⟨⟨t, hg⟩, hf, hlen, hh⟩; obtain ⟨f, rfl⟩ : ∃ g, f = g + 1 := ⟨f - 1, by omega⟩; have hcj := spot_conj s q00; by_cases hz : s = q00
  · rw [decide_eq_true hz] at hcj; have he : histS gs (f + 1) s = [] := by unfold histS; rw [if_pos hz]
    rw [he, List.nil_append] at hh; rw [hh]; have hrev := reverse_in out (by omega)
    (conv => whnf); repeat' (first | refine Br.nbT hcj ?_ | refine CallN.efD (hrev _ _ rfl) ?_ | refine vv21 ?_) <;> conv => whnf
    have hz : AV.frz0 2 (out.reverse.map encMv) (.sm 2 3 0 out.length) = moves out.reverse := frz_all (by simp); refine ⟨.step 2 (out.reverse.map encMv) 88 rfl (deepR (fun _ => rfl)) ?_⟩; show FinTo 1 _ (AV.frz0 2 (out.reverse.map encMv) (.sm 2 3 0 out.length)) _ _; rw [hz]; exact .done _ _ _ (Nat.le_add_left _ _) (by show [(mT gs).frz 2 _] = _; rw [mT_frz]) (fun b hb => by rw [List.mem_singleton.1 hb]; exact mT_ok _ _) rfl
  rw [decide_eq_false hz] at hcj; obtain ⟨hl, t', ht'⟩ := hist_step hp hg hz
  have he : histS gs (f + 1) s = histS gs f t.frm ++ if t.moved then [t.move] else [] := by
    conv => lhs; unfold histS
    rw [if_neg hz, hg]
  rw [he] at hh
  have lk := fun H m hm => lookT (H := H) (m := m) gs s hm
  rw [show getT gs s = t by rw [getT, hg]; rfl] at lk
  cases hm : t.moved with
  | true =>
    rw [hm, if_pos rfl] at hh
    repeat' ((conv => whnf); first | refine Br.nbF hcj ?_ | refine StepN.keep _ (lk _ _ rfl) ?_ | refine vv13 ?_ | refine vv21 ?_ | refine vv22 ?_ | refine vv31 ?_ | refine vv33 ?_)
    exact BackN3.mk f t.frm (out ++ [t.move]) ⟨⟨t', ht'⟩, by omega, by rw [List.length_append, List.length_singleton]; omega, by rw [hh, List.reverse_append]; simp⟩ (by omega) (QM [0, 1, 4] (hb := Ql rfl (mT_blk _) (bv1 (Ql rfl (blkDeep (by rw [List.map_append]; rfl) (deepMap (fun _ => rfl))) bv0))))
  | false =>
    rw [hm, if_neg (by simp), List.append_nil] at hh
    repeat' ((conv => whnf); first | refine Br.nbF hcj ?_ | refine StepN.keep _ (lk _ _ rfl) ?_ | refine vv14 ?_ | refine vv21 ?_ | refine vv22 ?_)
    exact BackN3.mk f t.frm out ⟨⟨t', ht'⟩, by omega, by omega, hh⟩ (by omega) (QM [0, 1, 2] (hb := Ql rfl (mT_blk _) (bv1 (bv1 bv0))))
end
section
theorem ways_pu (C : Chn) (ks : List Int) (al : List Entr) (cs : List Cnd) (q : Spot) (now : Int) : Pu Tryz.prog G1 135 [kV C ks al, conds cs, kQ q, vi now] (.fn (.func 183) [] [.pi (encQ q), .pi [conds cs], .pi [kV C ks al], .pi [vi now]]) := by
  refine Qf 10 Tryz.func135 rfl rfl ?_
  (conv => whnf)
  exact ⟨.step 0 _ _ rfl (deepAll rfl) (.step 1 _ _ rfl (deepAll rfl) (.step 2 _ _ rfl (deepAll rfl) (.step 3 _ _ rfl (deepAll rfl) (.val rfl))))⟩
theorem history_in {C : Chn} (ks : List Int) (al : List Entr) {cs : List Cnd} {gs : Fnd Spot Trc} (hp : Ptr Trc.time (waysS C cs) q00 gs) {s0 : Spot} (hs0 : ∃ t, getG s0 gs = some t) {f0 : Nat} (hf0 : lvlQ C s0 < f0) (hf1 : f0 ≤ 1000) (H : AH) (i : Nat) (hi : nthB H i = some (mT gs)) :
    Ef Tryz.prog G1 134 [kV C ks al, .mp i, kQ s0] H fun y H' => y = moves (histS gs f0 s0) ∧ H' = H.set i (mT gs) := by
  refine Ef.subD (history_ef ks al hp hs0 hf0 hf1) rfl (Nat.le_refl _) ⟨mT_ok _ _, trivial⟩ [i] (by simp) ⟨⟨_, hi, mT_blk _, fun _ => rfl⟩, trivial⟩ rfl (fun x hx => ?_) rfl ?_
  · simp only [List.mem_cons, List.not_mem_nil, or_false] at hx
    rcases hx with rfl | rfl | rfl <;> rfl
  show H.set i ((mT gs).ren _) ++ [] = _; rw [List.append_nil, vB_ren (fun _ _ _ => ⟨rfl, rfl⟩) (fun _ _ _ => ⟨rfl, rfl⟩)]
def searchV (r : Option (List Mv)) : AV := match r with
  | some l => .tuple [moves l, vb true]
  | none => .tuple [nilA, vb false]
theorem searchV_deep (r : Option (List Mv)) : (searchV r).deep2 = true := by cases r <;> rfl
theorem search_pu {C : Chn} (hC : CB C) (hk : Kinds C) (ks : List Int) (al : List Entr) (cs : List Cnd) (hcs : cs.length ≤ 15) (hct : ∀ c ∈ cs, 0 ≤ c.time ∧ c.time ≤ maxTime) : Pu Tryz.prog G1 82 [kV C ks al, conds cs] (searchV (searchS C cs)) := by
  have ok := hC.ok; have wok := ways_ok C cs; have hl0 := lvl_q00 C; refine Pu.of_fin (Ef.of_ev (T := Tryz.tab) (n := 81) (tryd_okm 0 _) rfl Tryz.func82 rfl rfl (by simp) ?_) rfl (searchV_deep _)
  repeat' ((conv => whnf); first | refine StepN.mkMap 0 rfl Tryz.underlying205 ?_ | refine StepN.mk .any _ (updT (H := [.amap [] 0]) (m := 0) [] q00 trc0 rfl) ?_ | refine vv22 ?_)
  refine LoopN.re (Reabs.slot 7 (spts [q00]) (by exact WkC.loose 4 [encQ q00])) ?_; refine LoopN.of3 (tryd_okm 0 _) (fun (f : Nat) (gs : Fnd Spot Trc) (L : List Spot) => [(0, kV C ks al), (1, conds cs), (6, .pm 1 0 0), (7, spts L)]) (fun f gs L => [mT gs, .rows [[.mp 0]] 205]) (fun f gs L => f) (fun f gs L => L.Nodup ∧ ∃ k, k + f = fuelS C cs ∧ LayQ C cs k gs L ∧ searchL Trc.time (waysS C cs) (goalS C cs) f gs L = searchL Trc.time (waysS C cs) (goalS C cs) (fuelS C cs) [(q00, [trc0])] [q00]) (fuelS C cs) [(q00, [trc0])] [q00] ⟨by simp, 0, Nat.zero_add _, search_start C cs, rfl⟩ (QM [0, 1] (hb := Ql rfl (mT_blk _) (bv1 bv0))) ?_; rintro f gs L ⟨hnd, k, hf, hL, hsr⟩; have hlen : L.length ≤ 90000 := layQ_len ok hk hC.el hC.pl hcs hL hnd; by_cases hne : L = []
  · subst hne
    have e : searchS C cs = none := by
      unfold searchS; rw [← hsr]
      cases f <;> rfl
    rw [e]
    repeat' ((conv => whnf); first | refine vv2 ?_ | refine vv23 ?_)
    exact Qv
  have hpos : 0 < L.length := List.length_pos_iff.2 hne
  obtain ⟨f, rfl⟩ : ∃ g, f = g + 1 := by
    cases f with
    | succ g => exact ⟨g, rfl⟩
    | zero =>
      exfalso; obtain ⟨q, hq⟩ := List.exists_mem_of_ne_nil L hne; obtain ⟨⟨t, hg⟩, hlv⟩ := (hL.mem q).1 hq; have := spot_fuel ok (hL.ptrs.get wok hg); omega
  rw [searchL, if_neg hne] at hsr
  repeat' ((conv => whnf); first | refine vv7 ?_ | refine vv23 ?_)
  refine LoopN.re ((Reabs.more 202).trans (Reabs.cells 2 [[nilA]] [[.sm 3 4 0 0]] 206 rfl (show WkB [[nilA]] [[.sm 3 4 0 0]] from ⟨⟨WkC.nilSm _ _, trivial⟩, trivial⟩))) ?_; refine LoopN.of3 (tryd_okm 0 _) (fun (i : Nat) (gs' : Fnd Spot Trc) (N : List Spot) => [(0, kV C ks al), (1, conds cs), (6, .pm 1 0 0), (8, .pm 2 0 0), (24, spts L), (25, vi L.length), (26, vi i)]) (fun i gs' N => [mT gs', .rows [[.mp 0]] 205, .rows [[.sm 3 4 0 N.length]] 206, .rows (N.map encQ) 202]) (fun i gs' N => L.length - i) (fun i gs' N => i ≤ L.length ∧ layerL Trc.time (waysS C cs) (goalS C cs) (L.drop i) (gs', N) = layerL Trc.time (waysS C cs) (goalS C cs) L (gs, []) ∧ MidQ C cs k gs (L.take i) gs' N) 0 gs [] ⟨Nat.zero_le _, rfl, hL.mid⟩ (QM [0, 1, 2, 3] (hb := Ql rfl (mT_blk _) (bv1 (bv1 (bv1 bv0))))) ?_; rintro i gs' N ⟨hi, hla, hM⟩; by_cases hlt : i < L.length
  · obtain ⟨⟨tp, hg⟩, hlv⟩ := (hL.mem _).1 (List.getElem_mem hlt); have hg' : getG L[i] gs' = some tp := by rw [hM.old _ (by omega), hg]
    have hgt : getT gs' L[i] = tp := by rw [getT, hg']; rfl
    have hspot := get_spot ok hk (hL.ptrs.get wok hg); have hall := all_ok hC ks al (s := L[i].st); rw [List.drop_eq_getElem_cons hlt, layerL] at hla; by_cases hgo : goalS C cs L[i] = true
    · rw [if_pos hgo] at hla; rw [← hla] at hsr
      have hgo2 : allS C L[i].st = true ∧ L[i].seen = cs.length := by
        unfold goalS at hgo; simpa using hgo
      rw [hgo2.1] at hall
      have e : searchS C cs = some (histS gs' (fuelS C cs) L[i]) := by
        unfold searchS; rw [← hsr]
      rw [e]; have hfl := spot_fuel ok (hL.ptrs.get wok hg); have hfu : fuelS C cs ≤ 1000 := by have := hC.el; unfold fuelS; omega
      have hhis := history_in ks al (hM.ptrs hl0 hL) ⟨tp, hg'⟩ hfl hfu; have hse := hgo2.2
      repeat' ((conv => whnf); first | refine SlIdxN.map i rfl hlt ?_ | refine CallN.efD (hhis _ _ rfl) ?_ | refine vv1 ?_ | refine vv7 ?_ | refine vv21 ?_ | refine vv22 ?_ | refine vv23 ?_ | refine Qp hall ?_)
      exact Qv
    rw [if_neg hgo] at hla; have hsb : SB C L[i].st := pos_sb ok hspot.1
    have lk := fun H m hm => lookT (H := H) (m := m) gs' L[i] hm
    rw [hgt] at lk; have hwp := ways_pu C ks al cs L[i] tp.time
    have hiv : ∀ l : List (Spot × Trc), (∀ w ∈ l, w ∈ waysS C cs L[i] tp.time) → Cu.Full (l.foldl (relax Trc.time) (gs', N)).1 ∧ (l.foldl (relax Trc.time) (gs', N)).2.length ≤ 100000 := fun l hl => by
      have h := (Mid.wayz wok hl0 hlv hg l gs' N hl hM).1; have h2 := midQ_len ok hk hC.el hC.pl hcs hL h; exact ⟨h.full, by omega⟩
    have hw1 := ways1_ok ⟨C, ks, al, cs, L[i], tp.time, lastOf cs L[i].seen, L, i⟩ hC hsb rfl (by have := hspot.2; simp only; omega) (by simp only; omega) hct gs' N hiv
    have hex : Cu.expand Trc.time (waysS C cs) (gs', N) L[i] = (waysS C cs L[i] tp.time).foldl (relax Trc.time) (gs', N) := by
      unfold Cu.expand; rw [timeOf_some hg']
    have hM2 := hM.expand wok hl0 hlv hg; rw [← take_succ_snoc hlt] at hM2; rw [hex] at hM2 hla; simp only at hw1; generalize (waysS C cs L[i] tp.time).foldl (relax Trc.time) (gs', N) = st at *; obtain ⟨gs2, N2⟩ := st; simp only at hw1 hM2; by_cases ha : allS C L[i].st = true
    · have hne2 : ¬ (L[i].seen : Int) = (cs.length : Int) := fun h => hgo (by unfold goalS; rw [ha, Bool.true_and, beq_iff_eq]; omega)
      rw [ha] at hall
      (conv => whnf); repeat' (first | refine SlIdxN.map i rfl hlt ?_ | refine StepN.keep _ (lk _ _ rfl) ?_ | refine vv1 ?_ | refine vv4 ?_ | refine vv7 ?_ | refine vv21 ?_ | refine vv22 ?_ | refine vv23 ?_ | refine vv25 ?_ | refine Qd ?_ | refine Qp hall ?_ | refine Qg hwp ?_) <;> conv => whnf
      refine RangeN.re (l' := fl82 C ks al cs L[i] tp.time L i) (H' := [mT gs', .rows [[.mp 0]] 205, .rows [[.sm 3 4 0 N.length]] 206, .rows (N.map encQ) 202, .rows [encQ L[i]] 202]) (QM [0, 1, 2, 3, 4] (hb := Ql rfl (mT_blk _) (bv1 (bv1 (bv1 (bv1 bv0)))))) ?_; refine RangeN.of (tryd_okm 0 _) rfl rfl hw1 ?_; rintro y H' ⟨rfl, rfl⟩
      conv => whnf
      refine ⟨nofun, ?_⟩
      repeat' ((conv => whnf); first | refine vv20 ?_)
      exact BackN3.mk (i + 1) gs2 N2 ⟨by omega, hla, hM2⟩ (by omega) (QM [0, 1, 2, 6] (hb := Ql rfl (mT_blk _) (bv1 (bv1 (bv1 bv0)))))
    have ha : allS C L[i].st = false := Bool.eq_false_iff.2 ha; rw [ha] at hall
    (conv => whnf); repeat' (first | refine SlIdxN.map i rfl hlt ?_ | refine StepN.keep _ (lk _ _ rfl) ?_ | refine vv2 ?_ | refine vv7 ?_ | refine vv21 ?_ | refine vv22 ?_ | refine vv25 ?_ | refine Qd ?_ | refine Qp hall ?_ | refine Qg hwp ?_) <;> conv => whnf
    refine RangeN.re (l' := fl82 C ks al cs L[i] tp.time L i) (H' := [mT gs', .rows [[.mp 0]] 205, .rows [[.sm 3 4 0 N.length]] 206, .rows (N.map encQ) 202, .rows [encQ L[i]] 202]) (QM [0, 1, 2, 3, 4] (hb := Ql rfl (mT_blk _) (bv1 (bv1 (bv1 (bv1 bv0)))))) ?_; refine RangeN.of (tryd_okm 0 _) rfl rfl hw1 ?_; rintro y H' ⟨rfl, rfl⟩
    conv => whnf
    refine ⟨nofun, ?_⟩
    repeat' ((conv => whnf); first | refine vv20 ?_)
    exact BackN3.mk (i + 1) gs2 N2 ⟨by omega, hla, hM2⟩ (by omega) (QM [0, 1, 2, 6] (hb := Ql rfl (mT_blk _) (bv1 (bv1 (bv1 bv0)))))
  obtain rfl : i = L.length := by omega
  rw [List.drop_length, layerL] at hla; rw [List.take_length] at hM; have hL2 := hM.next wok hl0 hL; rw [← hla] at hsr; have hz : AV.frz0 3 (N.map encQ) (.sm 3 4 0 N.length) = spts N := frz_all (by rw [List.length_map])
  repeat' ((conv => whnf); first | refine vv8 ?_ | refine vv21 ?_)
  refine BackN3.mk f gs' N ⟨hM.ndN, k + 1, by omega, hL2, hsr⟩ (by omega) ?_; exact (Reabs.frz 3 (N.map encQ) 202 rfl (deepR (fun _ => rfl))).trans (QM [0, 1] (hs := by exact ⟨.inr ⟨rfl, rfl⟩, .inr ⟨rfl, rfl⟩, .inr ⟨rfl, rfl⟩, .inr ⟨rfl, hz⟩, trivial⟩) (hb := Ql rfl ((by show Blk _ _ ((mT gs').frz 3 _) _; rw [mT_frz]; exact mT_blk _)) (bv1 bv0)))
end
section
theorem late_le {C : Chn} (ok : C.ok) {s : Sta} (hs : (s.gaps : Int) ≤ C.gaps) : lateS C s ≤ maxTime + 1 := by
  rw [lateS_eq ok hs]; split
  exact Int.le_refl _
  rcases foldB_or (late := lateS C) (l := stepsS C s) (b := -1) with h | ⟨x, hx, -, h⟩
  rw [h]; decide; rw [h]; have := step_span ok hx; omega
theorem early_in {C : Chn} (hC : CB C) (hk : Kinds C) (ks : List Int) (al : List Entr) (H : AH) (N : Nat) (hN : H.length = N) : Ef Tryz.prog G1 125 [kV C ks al] H fun y H' => y = .mp N ∧ H' = H ++ [mE (earlyS C)] := by
  subst hN; refine Ef.subD (early_ef hC hk ks al) rfl (by simp) ⟨mE_ok _ _, trivial⟩ [] (by simp) trivial rfl (fun x hx => ?_) rfl ?_; rw [List.mem_singleton.1 hx]; rfl; show H ++ [(mE (earlyS C)).ren _] = _; rw [vB_ren (fun _ _ _ => ⟨rfl, rfl⟩) (fun _ _ _ => ⟨rfl, rfl⟩)]
theorem early_at {C : Chn} (ok : C.ok) {i : Nat} {g : Sta × List Int} (hg : (earlyS C)[i]? = some g) : earlyF C g.1 = some (g.2.getLast?.getD 0) := by
  obtain ⟨hp, -⟩ := early_law ok; have h1 := lookG_mem hp.nd hg; have h2 := hp.full g (List.mem_of_getElem? hg); unfold earlyF getG; rw [h1]
  cases hl : g.2.getLast? with
  | none => exact absurd (List.getLast?_eq_none_iff.1 hl) h2
  | some x => rfl
theorem early_sb {C : Chn} (hC : CB C) (hk : Kinds C) {s : Sta} {t : Int} (h : earlyF C s = some t) : SB C s ∧ 0 ≤ t := by
  have hg := (early_law hC.ok).1.get (early_ok C) h; exact ⟨pos_sb hC.ok (get_pos hC.ok hk hg), (get_run hg).1⟩
abbrev vSp (l : List Spn) : AV := .agg (encS (l.getLast?.getD ⟨0, 0⟩))
theorem keyO : KeyOk Tryz.prog kS vSp 121 150 28 where
  und := Tryz.underlying121
  key := fun q => by kernel_rfl
  eq := sta_eq
  keep := fun q => by simp [akeep, acon, scs, Instr.sameBits]
  zero := by kernel_rfl
abbrev oneG (ps : List (Sta × Spn)) : Fnd Sta Spn := ps.map fun p => (p.1, [p.2])
abbrev mO (ps : List (Sta × Spn)) : ABlk := vB kS vSp (oneG ps)
theorem mO_blk (ps : List (Sta × Spn)) {σ : Nat → Nat} {n : Nat} : Blk σ n (mO ps) (mO ps) := vB_blk (fun _ _ _ => ⟨rfl, rfl⟩) (fun _ _ _ => ⟨rfl, rfl⟩) _
theorem mO_ok (ps : List (Sta × Spn)) (n : Nat) : (mO ps).ok n := vB_ok (fun _ _ _ => ⟨rfl, rfl⟩) (fun _ _ _ => ⟨rfl, rfl⟩) _ _
theorem updO (ps : List (Sta × Spn)) (q : Sta) (x : Spn) (hq : q ∉ ps.map (·.1)) {H : AH} {m : Nat} (hm : H[m]? = some (mO ps)) : (amapUpdate Tryz.prog H 121 (.mp m) (kS q) (.agg (encS x))).map (AV.any, ·) = some (.any, H.set m (mO (ps ++ [(q, x)]))) := by
  have := keyO.upd (oneG ps) q x hm (y := .agg (encS x)) (by simp [vSp]); have hk : (oneG ps).map (·.1) = ps.map (·.1) := by simp
  have hi : idxG q (oneG ps) = none := by
    cases h : idxG q (oneG ps) with
    | none => rfl
    | some i => exact absurd (by rw [← hk]; exact mem_keys.2 (by rw [h]; simp)) hq
  rw [addG_none hi] at this; rw [this]; simp [mO, oneG]
theorem range_bind {α β : Type} (f : α → Option β) : ∀ l : List α, (List.range l.length).filterMap (fun i => (l[i]?).bind f) = l.filterMap f
  | [] => rfl
  | a :: l => by
    have ih := range_bind f l
    have e : ((fun i => ((a :: l)[i]?).bind f) ∘ fun i => i + 1) = fun i => (l[i]?).bind f := by funext i; simp
    rw [List.length_cons, List.range_succ_eq_map, List.filterMap_cons, List.filterMap_map]; simp only [Function.comp_def] at e ⊢; rw [e, ih, List.filterMap_cons]; rfl
abbrev stH (C : Chn) (g : Sta × List Int) : Option (Sta × Spn) := match stayF C g.1 with
  | some x => some (g.1, x)
  | none => none
abbrev stP (C : Chn) (seen : List Nat) : List (Sta × Spn) := seen.filterMap fun i => ((earlyS C)[i]?).bind (stH C)
theorem stP_all (C : Chn) {seen : List Nat} (h : seen.Perm (List.range (earlyS C).length)) : (stP C seen).Perm (staysL C) := by
  have := h.filterMap fun i => ((earlyS C)[i]?).bind (stH C)
  rw [range_bind] at this; exact this
theorem stP_snoc {C : Chn} {seen : List Nat} {i : Nat} {g : Sta × List Int} (hg : (earlyS C)[i]? = some g) : stP C (seen ++ [i]) = stP C seen ++ (match stayF C g.1 with
    | some x => [(g.1, x)]
    | none => []) := by
  unfold stP; rw [List.filterMap_append]; congr 1
  rw [List.filterMap_cons, hg]; simp only [Option.bind_some, stH]; split <;> rename_i h
  · split at h
    cases h
    rfl
  split at h
  cases h; rfl
  cases h
theorem stP_key {C : Chn} {seen : List Nat} (hn : ((earlyS C).map (·.1)).Nodup) {i : Nat} {g : Sta × List Int} (hg : (earlyS C)[i]? = some g) (hi : i ∉ seen) : g.1 ∉ (stP C seen).map (·.1) := by
  intro h; obtain ⟨p, hp, he⟩ := List.mem_map.1 h; obtain ⟨j, hj, hjp⟩ := List.mem_filterMap.1 hp
  cases hgj : (earlyS C)[j]? with
  | none => rw [hgj] at hjp; cases hjp
  | some g' =>
    rw [hgj] at hjp; simp only [Option.bind_some, stH] at hjp; split at hjp
    · cases hjp
      have : i = j := nodup_idx hn (a := g.1) (by rw [List.getElem?_map, hg]; rfl) (by rw [List.getElem?_map, hgj]; exact congrArg some he); exact hi (this ▸ hj)
    cases hjp
abbrev frE (C : Chn) (ks : List Int) (al : List Entr) : Fr := [(0, kV C ks al), (3, .mp 0), (4, .mp 1), (12, .it 3)]
abbrev hE (C : Chn) (gk : Fnd Sta Int) (seen : List Nat) : AH := [mO (stP C seen), mE gk, mE (earlyS C), .miter (some 2) (earlyS C).length seen (earlyS C).length]
theorem stays_ef {C : Chn} (hC : CB C) (hk : Kinds C) (ks : List Int) (al : List Entr) : Ef Tryz.prog G1 75 [kV C ks al] [] fun y H' => ∃ ps, ps.Perm (staysL C) ∧ y = .mp 0 ∧ H' = [mO ps] := by
  have hea := early_in hC hk ks al; have hnd := (early_law hC.ok).1.nd; refine Ef.reabs (Ef.of_ev (T := Tryz.tab) (n := 32) (tryd_okm 0 _) rfl Tryz.func75 rfl rfl (by simp) ?_)
  (conv => whnf); repeat' (first | refine StepN.mkMap 0 rfl Tryz.underlying121 ?_ | refine StepN.mkMap 1 rfl Tryz.underlying185 ?_ | refine CallN.efD (hea _ 2 rfl) ?_ | refine StepN.mk (.it 3) (hE C [] []) (range_V (ke := kS) (v := vL) (gs := earlyS C) (H := [mO (stP C []), mE [], mE (earlyS C)]) (m := 2) Tryz.underlying185 rfl 3 rfl) ?_) <;> conv => whnf
  refine LoopN.of2 (tryd_okm 0 _) (fun (seen : List Nat) (gk : Fnd Sta Int) => frE C ks al) (fun seen gk => hE C gk seen) (fun seen gk => (earlyS C).length - seen.length) (fun seen gk => seen.Nodup ∧ (∀ i ∈ seen, i < (earlyS C).length) ∧ Cu.Good C gk) [] [] ⟨List.nodup_nil, fun i hi => absurd hi List.not_mem_nil, Cu.Good.nil C⟩
    (QM [0, 1, 2, 3] (hb := Ql rfl (mO_blk _) (Ql rfl (mE_blk _) (Ql rfl (mE_blk _) (Ql rfl (miter_blk (by simp) rfl) bv0))))) ?_
  rintro seen gk ⟨hsn, hin, hgk⟩
  (conv => whnf)
  obtain ⟨outs, ho1, ho2⟩ := next_V (P := Tryz.prog) (ke := kS) (v := vL) (H := hE C gk seen) (it := 3) (m := 2) (gs := earlyS C) (seen := seen) rfl rfl
  refine OpN.next ho1 fun y H' hm => ?_
  rcases ho2 y H' hm with ⟨i, g, hg, g2, rfl, rfl⟩ | ⟨g1, rfl, rfl⟩
  · clear ho1 ho2 hm; obtain ⟨hs1, hs2⟩ := seen_snocV hg hsn hin g2; have hef := early_at hC.ok hg; obtain ⟨hsb, ht0⟩ := early_sb hC hk hef; have hla := late_ef hC ks al (topL C + 1) g.1 gk hsb hgk.full (by omega); obtain ⟨hv, hgk2⟩ := lateM_law hC.ok (topL C + 1) g.1 gk hsb.gaps (by omega) hgk; have hli := late_in hla; rw [hv] at hli; generalize (lateM C (topL C + 1) g.1 gk).2 = gk2 at *; have hst : stayF C g.1 = if g.2.getLast?.getD 0 < lateS C g.1 then some ⟨g.2.getLast?.getD 0, lateS C g.1 - 1⟩ else none := by unfold stayF; rw [hef]
    have hsno := stP_snoc (seen := seen) hg; rw [hst] at hsno; have hnk := stP_key hnd hg g2; have hbd := late_le hC.ok hsb.gaps; have hmt : maxTime = 1073741823 := rfl; by_cases hlt : g.2.getLast?.getD 0 < lateS C g.1
    · rw [if_pos hlt] at hsno; simp only at hsno
      (conv => whnf); repeat' (first | refine vv1 ?_) <;> conv => whnf
      refine StepN.mk _ _ (entry_V (ke := kS) (v := vL) (it := 3) (m := 2) (H := [mO (stP C seen), mE gk, mE (earlyS C), .miter (some 2) (earlyS C).length (seen ++ [i]) (earlyS C).length]) hg rfl rfl) ?_
      repeat' ((conv => whnf); first | refine CallN.efD (hli _ 1 rfl) ?_ | refine StepN.mk .any _ (updO (stP C seen) g.1 ⟨g.2.getLast?.getD 0, lateS C g.1 - 1⟩ hnk rfl) ?_ | refine vv3 ?_ | refine vv20 ?_ | refine vv21 ?_ | refine vv22 ?_)
      exact BackN2.mk (seen ++ [i]) gk2 ⟨hs1.1, hs1.2, hgk2⟩ hs2 (QM [0, 1, 2, 3] (hb := Ql rfl ((by rw [hsno]; exact mO_blk _)) (Ql rfl (mE_blk _) (Ql rfl (mE_blk _) (Ql rfl (miter_blk (by simp) rfl) bv0)))))
    rw [if_neg hlt] at hsno; simp only [List.append_nil] at hsno
    (conv => whnf); repeat' (first | refine vv1 ?_) <;> conv => whnf
    refine StepN.mk _ _ (entry_V (ke := kS) (v := vL) (it := 3) (m := 2) (H := [mO (stP C seen), mE gk, mE (earlyS C), .miter (some 2) (earlyS C).length (seen ++ [i]) (earlyS C).length]) hg rfl rfl) ?_
    repeat' ((conv => whnf); first | refine CallN.efD (hli _ 1 rfl) ?_ | refine vv4 ?_ | refine vv21 ?_ | refine vv22 ?_)
    exact BackN2.mk (seen ++ [i]) gk2 ⟨hs1.1, hs1.2, hgk2⟩ hs2 (QM [0, 1, 2, 3] (hb := Ql rfl ((by rw [hsno]; exact mO_blk _)) (Ql rfl (mE_blk _) (Ql rfl (mE_blk _) (Ql rfl (miter_blk (by simp) rfl) bv0)))))
  clear ho1 ho2 hm; have hp := stP_all C (perm_range hsn hin g1)
  (conv => whnf); repeat' (first | refine vv2 ?_) <;> conv => whnf
  exact ⟨⟨_, [mO (stP C seen)], QM [0] (hb := Ql rfl (mO_blk _) bv0), _, hp, rfl, rfl⟩⟩
end
section
theorem stays_at {C : Chn} (hC : CB C) (hk : Kinds C) (ks : List Int) (al : List Entr) (H : AH) (N : Nat) (hN : H.length = N) : Ef Tryz.prog G1 75 [kV C ks al] H fun y H' => ∃ ps, ps.Perm (staysL C) ∧ y = .mp N ∧ H' = H ++ [mO ps] := by
  subst hN; refine ⟨(stays_ef hC hk ks al).1, (AFnH.sub (stays_ef hC hk ks al).2 ?_ [] (by simp) trivial rfl (fun x hx => by rw [List.mem_singleton.1 hx]; rfl)).mono ?_⟩
  · rintro y H' ⟨ps, -, rfl, rfl⟩; exact ⟨rfl, by simp, fun b hb => by rw [List.mem_singleton.1 hb]; exact mO_ok _ _⟩
  rintro y H' ⟨y', H1, ⟨ps, hp, rfl, rfl⟩, rfl, rfl⟩; refine ⟨ps, hp, rfl, ?_⟩; show H ++ [(mO ps).ren _] = _; rw [vB_ren (fun _ _ _ => ⟨rfl, rfl⟩) (fun _ _ _ => ⟨rfl, rfl⟩)]
abbrev dutyB (_p : Pers) (s x : Spn) (d : Spn) : Bool := decide (max d.lo (max s.lo x.lo) ≤ min d.hi (min s.hi x.hi))
abbrev stayB (C : Chn) (p : Pers) (s : Spn) (g : Sta × Spn) : Bool := (g.1.place == p.id || hasCopy C.es g.1.done p.id) && p.duty.any (dutyB p s g.2)
theorem handsB_any (C : Chn) (p : Pers) (s : Spn) (ps : List (Sta × Spn)) : handsB C p s ps = ps.any (stayB C p s) := rfl
abbrev hH4 (ps : List (Sta × Spn)) (p : Pers) (s : Spn) (seen : List Nat) : AH := [mO ps, .rows [encP p] 59, .rows [encS s] 28, .miter (some 0) (oneG ps).length seen (oneG ps).length]
theorem hands_ef {C : Chn} (hC : CB C) (ks : List Int) (al : List Entr) (p : Pers) (hp : p.duty.length ≤ 6) (s : Spn) (ps : List (Sta × Spn)) : Ef Tryz.prog G1 76 [kV C ks al, .agg (encP p), .agg (encS s), .mp 0] [mO ps] fun y H' => y = vb (handsB C p s ps) ∧ H' = [mO ps] := by
  have fin : ∀ (l : Fr) (N : Nat) (H : AH) (b : Bool), nthB H 0 = some (mO ps) → Reabs ⟨Tryz.prog, G1, 1, none⟩ ⟨frm 0 [(0, vb b)] 1, H⟩ ⟨frm 0 [(0, vb b)] 1, [mO ps]⟩ := fun l N H b h => Reabs.frmM [0] (by repeat (first | exact sv0 | refine sv1 ?_ | refine sv2 ?_ | refine sv3 ?_)) ⟨⟨_, h, mO_blk _, fun _ => rfl⟩, trivial⟩ rfl rfl
  refine Ef.reabs (Ef.of_ev (T := Tryz.tab) (n := 57) (tryd_okm 1 _) rfl Tryz.func76 rfl rfl (by simp) ?_)
  repeat' ((conv => whnf); first | refine StepN.mk (.it 3) (hH4 ps p s []) (range_V (ke := kS) (v := vSp) (gs := oneG ps) (H := [mO ps, .rows [encP p] 59, .rows [encS s] 28]) (m := 0) Tryz.underlying121 rfl 3 rfl) ?_)
  refine LoopN.of (tryd_okm 1 _) (fun (seen : List Nat) => [(0, kV C ks al), (5, .pm 1 0 0), (6, .pm 2 0 0), (14, .it 3)]) (fun seen => hH4 ps p s seen) (fun seen => (oneG ps).length - seen.length) (fun seen => seen.Nodup ∧ (∀ i ∈ seen, i < (oneG ps).length) ∧ ∀ i ∈ seen, ∀ g, ps[i]? = some g → stayB C p s g = false) [] ⟨List.nodup_nil, (fun i hi => absurd hi List.not_mem_nil), fun i hi => absurd hi List.not_mem_nil⟩
    (QM [0, 1, 2, 3] (hb := Ql rfl (mO_blk _) (bv1 (bv1 (Ql rfl (miter_blk (by simp) rfl) bv0))))) ?_
  rintro seen ⟨hsn, hin, hno⟩
  (conv => whnf)
  obtain ⟨outs, ho1, ho2⟩ := next_V (P := Tryz.prog) (ke := kS) (v := vSp) (H := hH4 ps p s seen) (it := 3) (m := 0) (gs := oneG ps) (seen := seen) rfl rfl
  refine OpN.next ho1 fun y H' hm => ?_
  rcases ho2 y H' hm with ⟨i, g', hg', g2, rfl, rfl⟩ | ⟨g1, rfl, rfl⟩
  · clear ho1 ho2 hm; obtain ⟨hs1, hs2⟩ := seen_snocV hg' hsn hin g2
    obtain ⟨g, hg, rfl⟩ : ∃ g, ps[i]? = some g ∧ g' = (g.1, [g.2]) := by
      rw [List.getElem?_map] at hg'
      cases hq : ps[i]? with
      | none => rw [hq] at hg'; cases hg'
      | some g => rw [hq] at hg'; cases hg'; exact ⟨g, rfl, rfl⟩
    have hno2 : stayB C p s g = false → ∀ j ∈ seen ++ [i], ∀ g', ps[j]? = some g' → stayB C p s g' = false := fun h j hj g' hg' => by
      rcases List.mem_append.1 hj with hj | hj
      exact hno j hj g' hg'; rw [List.mem_singleton.1 hj, hg] at hg'
      cases hg'
      exact h
    have hyes : stayB C p s g = true → handsB C p s ps = true := fun h => by
      rw [handsB_any]; exact List.any_eq_true.2 ⟨g, List.mem_of_getElem? hg, h⟩
    have hcp := copies_ok hC ks al (s := g.1); have hhs := has_ok hC g.1.done p.id; have hen := entry_V (ke := kS) (v := vSp) (it := 3) (m := 0) (gs := oneG ps) (seen := seen) (H := [mO ps, .rows [encP p] 59, .rows [encS s] 28, .miter (some 0) (oneG ps).length (seen ++ [i]) (oneG ps).length]) hg' rfl rfl; obtain ⟨st, x⟩ := g; simp only at hcp hhs; by_cases hpl : st.place = p.id
    · have hpl2 : (st.place == p.id) = true := beq_iff_eq.2 hpl
      (conv => whnf); repeat' (first | refine vv1 ?_) <;> conv => whnf
      refine StepN.mk _ _ hen ?_
      repeat' ((conv => whnf); first | refine vv2 ?_ | refine vv5 ?_ | refine vv21 ?_ | refine vv22 ?_ | refine vv23 ?_ | refine vv25 ?_ | refine Qd ?_)
      refine LoopN.of (tryd_okm 1 _) (fun k : Nat => [(0, kV C ks al), (5, .pm 1 0 0), (6, .pm 2 0 0), (14, .it 3), (9, .pm 4 0 0), (10, .pm 5 0 0), (35, spans p.duty), (36, vi p.duty.length), (37, vi k)]) (fun k => [mO ps, .rows [encP p] 59, .rows [encS s] 28, .miter (some 0) (oneG ps).length (seen ++ [i]) (oneG ps).length, .rows [encSta st] 150, .rows [encS x] 28]) (fun k => p.duty.length - k) (fun k => k ≤ p.duty.length ∧ ∀ d ∈ p.duty.take k, dutyB p s x d = false) 0 ⟨Nat.zero_le _, fun d hd => by simp at hd⟩ (QM [0, 1, 2, 3, 4, 5] (hb := Ql rfl (mO_blk _) (bv1 (bv1 (Ql rfl (miter_blk (by simp) rfl) (bv1 (bv1 bv0))))))) ?_; rintro k ⟨hk, hall⟩; by_cases hlt : k < p.duty.length
      · by_cases hd : max (max (p.duty[k]).lo s.lo) x.lo ≤ min (min (p.duty[k]).hi s.hi) x.hi
        · have hdb : dutyB p s x p.duty[k] = true := decide_eq_true (by omega)
          have hy := hyes (by
            unfold stayB; rw [Bool.and_eq_true]
            exact ⟨by simp [hpl2], List.any_eq_true.2 ⟨_, List.getElem_mem hlt, hdb⟩⟩)
          rw [hy]
          (conv => whnf); repeat' (first | refine SlIdxN.map k rfl hlt ?_ | refine vv3 ?_ | refine vv7 ?_ | refine vv21 ?_ | refine vv22 ?_) <;> conv => whnf
          exact ⟨⟨_, [mO ps], fin [] 0 _ _ rfl, rfl, rfl⟩⟩
        have hdb : dutyB p s x p.duty[k] = false := decide_eq_false (by omega)
        repeat' ((conv => whnf); first | refine SlIdxN.map k rfl hlt ?_ | refine vv4 ?_ | refine vv7 ?_ | refine vv20 ?_ | refine vv21 ?_ | refine vv22 ?_)
        refine BackN.mk (k + 1) ⟨by omega, fun d hd' => ?_⟩ (by omega) (QM [0, 1, 2, 3, 4, 5] (hb := Ql rfl (mO_blk _) (bv1 (bv1 (Ql rfl (miter_blk (by simp) rfl) (bv1 (bv1 bv0))))))); rw [take_succ_snoc hlt] at hd'
        rcases List.mem_append.1 hd' with hd' | hd'
        exact hall d hd'; rw [List.mem_singleton.1 hd']; exact hdb
      have hn : stayB C p s (st, x) = false := by
        unfold stayB; rw [List.take_of_length_le (by omega)] at hall; rw [List.any_eq_false.2 (fun d hd => by rw [hall d hd]; decide), Bool.and_false]
      repeat' ((conv => whnf); first | refine vv8 ?_)
      exact BackN.mk (seen ++ [i]) ⟨hs1.1, hs1.2, hno2 hn⟩ hs2 (QM [0, 1, 2, 3] (hb := Ql rfl (mO_blk _) (bv1 (bv1 (Ql rfl (miter_blk (by simp) rfl) bv0)))))
    have hpl2 : (st.place == p.id) = false := beq_eq_false_iff_ne.2 hpl
    cases hcy : hasCopy C.es st.done p.id with
    | false =>
      rw [hcy] at hhs
      have hn : stayB C p s (st, x) = false := by
        unfold stayB; simp only [hpl2, hcy, Bool.or_self, Bool.false_and]
      (conv => whnf); repeat' (first | refine vv1 ?_) <;> conv => whnf
      refine StepN.mk _ _ hen ?_
      repeat' ((conv => whnf); first | refine Br.tt ?_ | refine vv6 ?_ | refine vv21 ?_ | refine vv22 ?_ | refine vv25 ?_ | refine Qd ?_ | refine Qg hcp ?_ | refine Qg hhs ?_)
      exact BackN.mk (seen ++ [i]) ⟨hs1.1, hs1.2, hno2 hn⟩ hs2 (QM [0, 1, 2, 3] (hb := Ql rfl (mO_blk _) (bv1 (bv1 (Ql rfl (miter_blk (by simp) rfl) bv0)))))
    | true =>
      rw [hcy] at hhs
      (conv => whnf); repeat' (first | refine vv1 ?_) <;> conv => whnf
      refine StepN.mk _ _ hen ?_
      repeat' ((conv => whnf); first | refine vv2 ?_ | refine vv6 ?_ | refine vv21 ?_ | refine vv22 ?_ | refine vv23 ?_ | refine vv25 ?_ | refine Qd ?_ | refine Qg hcp ?_ | refine Qg hhs ?_)
      refine LoopN.of (tryd_okm 1 _) (fun k : Nat => [(0, kV C ks al), (5, .pm 1 0 0), (6, .pm 2 0 0), (14, .it 3), (9, .pm 4 0 0), (10, .pm 5 0 0), (35, spans p.duty), (36, vi p.duty.length), (37, vi k)]) (fun k => [mO ps, .rows [encP p] 59, .rows [encS s] 28, .miter (some 0) (oneG ps).length (seen ++ [i]) (oneG ps).length, .rows [encSta st] 150, .rows [encS x] 28]) (fun k => p.duty.length - k) (fun k => k ≤ p.duty.length ∧ ∀ d ∈ p.duty.take k, dutyB p s x d = false) 0 ⟨Nat.zero_le _, fun d hd => by simp at hd⟩ (QM [0, 1, 2, 3, 4, 5] (hb := Ql rfl (mO_blk _) (bv1 (bv1 (Ql rfl (miter_blk (by simp) rfl) (bv1 (bv1 bv0))))))) ?_; rintro k ⟨hk, hall⟩; by_cases hlt : k < p.duty.length
      · by_cases hd : max (max (p.duty[k]).lo s.lo) x.lo ≤ min (min (p.duty[k]).hi s.hi) x.hi
        · have hdb : dutyB p s x p.duty[k] = true := decide_eq_true (by omega)
          have hy := hyes (by
            unfold stayB; rw [Bool.and_eq_true]
            exact ⟨by simp [hcy], List.any_eq_true.2 ⟨_, List.getElem_mem hlt, hdb⟩⟩)
          rw [hy]
          (conv => whnf); repeat' (first | refine SlIdxN.map k rfl hlt ?_ | refine vv3 ?_ | refine vv7 ?_ | refine vv21 ?_ | refine vv22 ?_) <;> conv => whnf
          exact ⟨⟨_, [mO ps], fin [] 0 _ _ rfl, rfl, rfl⟩⟩
        have hdb : dutyB p s x p.duty[k] = false := decide_eq_false (by omega)
        repeat' ((conv => whnf); first | refine SlIdxN.map k rfl hlt ?_ | refine vv4 ?_ | refine vv7 ?_ | refine vv20 ?_ | refine vv21 ?_ | refine vv22 ?_)
        refine BackN.mk (k + 1) ⟨by omega, fun d hd' => ?_⟩ (by omega) (QM [0, 1, 2, 3, 4, 5] (hb := Ql rfl (mO_blk _) (bv1 (bv1 (Ql rfl (miter_blk (by simp) rfl) (bv1 (bv1 bv0))))))); rw [take_succ_snoc hlt] at hd'
        rcases List.mem_append.1 hd' with hd' | hd'
        exact hall d hd'; rw [List.mem_singleton.1 hd']; exact hdb
      have hn : stayB C p s (st, x) = false := by
        unfold stayB; rw [List.take_of_length_le (by omega)] at hall; rw [List.any_eq_false.2 (fun d hd => by rw [hall d hd]; decide), Bool.and_false]
      repeat' ((conv => whnf); first | refine vv8 ?_)
      exact BackN.mk (seen ++ [i]) ⟨hs1.1, hs1.2, hno2 hn⟩ hs2 (QM [0, 1, 2, 3] (hb := Ql rfl (mO_blk _) (bv1 (bv1 (Ql rfl (miter_blk (by simp) rfl) bv0)))))
  clear ho1 ho2 hm
  have hf : handsB C p s ps = false := by
    rw [handsB_any, List.any_eq_false]; intro g hg; obtain ⟨i, hi⟩ := List.getElem?_of_mem hg; have := hno i (g1 i (by rw [List.length_map]; exact (List.getElem?_eq_some_iff.1 hi).1)) g hi; rw [this]; decide
  rw [hf]
  (conv => whnf); repeat' (first | refine vv2 ?_) <;> conv => whnf
  exact ⟨⟨_, [mO ps], fin [] 0 _ _ rfl, rfl, rfl⟩⟩
end
end Go.Proofs.Ax
