import Derived.Test.YtdfgphfijfocoaaGreatDoorNtA
import Derived.Test.YtdfgphfijfocoaaGreatDoorRbBo
namespace Go.Proofs.Ax
open Go Go.Proofs
set_option maxRecDepth 10000
set_option maxHeartbeats 4000000
def dInts (l : List Round) (k : Nat) : List Int := (dIdx l k).map fun i => ((i : Nat) : Int)
theorem dInts_succ {l : List Round} {k : Nat} (h : k < l.length) : dInts l (k + 1) = dInts l k ++ if l[k].kind = 2 then [(k : Int)] else [] := by
  unfold dInts
  rw [dIdx_succ h, List.map_append]
  split <;> rfl
theorem dInts_len {l : List Round} {k : Nat} (h : k ≤ l.length) : (dInts l k).length = rk l k := by
  unfold dInts
  rw [List.length_map, dIdx_len k h]
theorem dInts_get {l : List Round} {j : Nat} (h : j < (dInts l l.length).length) : ∃ (i : Nat) (hi : i < l.length), (dInts l l.length)[j] = (i : Int) ∧ l[i].kind = 2 ∧ rk l i = j := by
  have hj : j < (dIdx l l.length).length := by unfold dInts at h; rwa [List.length_map] at h
  obtain ⟨h1, h2, h3⟩ := dIdx_get (l := l) l.length (Nat.le_refl _) j hj
  exact ⟨_, h1, by simp [dInts], h2, h3⟩
theorem rdoubtful_ok (t : Bool) (l : List Round) (hmax : l.length ≤ 1000000) : Pu Tryz.prog G1 24 [rounds t l] (vi (dN l : Int)) := by
  refine Pu.of_ev (T := Tryz.tab) (n := 20) (tryd_ok _) Tryz.func24 rfl rfl rfl (by first | rfl | (split <;> rfl)) (by simp) ?_
  (conv => whnf)
  refine LoopN.of (tryd_ok _) (fun k : Nat => [(0, rounds t l), (3, vi (dN (l.take k) : Int)), (4, vi k)]) (fun _ => []) (fun k => l.length - k) (fun k => k ≤ l.length) 0 (Nat.zero_le _) (Reabs.frm0 rfl (by repeat (first | exact trivial | refine ⟨.inr ⟨rfl, rfl⟩, ?_⟩))) ?_
  intro k hk
  have hd := dN_le (l.take k)
  rw [List.length_take, Nat.min_eq_left hk] at hd
  by_cases hlt : k < l.length
  · have hs := dN_take_succ hlt
    by_cases h2 : l[k].kind = 2
    · rw [if_pos h2] at hs
      ((conv => whnf); repeat' ((first | refine vv3 ?_ | refine vv7 ?_ | refine vv20 ?_ | refine SlIdxN.map _ rfl (by first | assumption | omega) ?_ | refine vv23 ?_) <;> (conv => whnf)))
      exact BackN.mk (k + 1) (by omega) (by omega) (Reabs.frm0 rfl (by repeat (first | exact trivial | refine ⟨.inr ⟨rfl, rfl⟩, ?_⟩ | refine ⟨.inr ⟨rfl, vi_eq (by first | omega | (simp; done) | (simp; omega))⟩, ?_⟩ | refine ⟨.inr ⟨rfl, smE rfl (by first | omega | (simp; done) | (simp; omega))⟩, ?_⟩)))
    · rw [if_neg h2] at hs
      ((conv => whnf); repeat' ((first | refine vv4 ?_ | refine vv7 ?_ | refine vv20 ?_ | refine SlIdxN.map _ rfl (by first | assumption | omega) ?_ | refine vv23 ?_) <;> (conv => whnf)))
      exact BackN.mk (k + 1) (by omega) (by omega) (Reabs.frm0 rfl (by repeat (first | exact trivial | refine ⟨.inr ⟨rfl, rfl⟩, ?_⟩ | refine ⟨.inr ⟨rfl, vi_eq (by first | omega | (simp; done) | (simp; omega))⟩, ?_⟩ | refine ⟨.inr ⟨rfl, smE rfl (by first | omega | (simp; done) | (simp; omega))⟩, ?_⟩)))
  · ((conv => whnf); repeat' ((first | refine vv8 ?_ | refine vv23 ?_) <;> (conv => whnf)))
    obtain rfl : k = l.length := by omega
    rw [List.take_length]
    exact DoneN.pure rfl
theorem doubtful_ok (t : Bool) (l : List Round) (hmax : l.length ≤ 1000000) : Pu Tryz.prog G1 63 [rounds t l] (ints false (dInts l l.length)) := by
  refine Pu.of_ev (T := Tryz.tab) (n := 22) (tryd_ok _) Tryz.func63 rfl rfl rfl (by first | rfl | (split <;> rfl)) (by simp) ?_
  ((conv => whnf); repeat' ((first | refine vv23 ?_) <;> (conv => whnf)))
  refine LoopN.of (tryd_ok _) (fun k : Nat => [(3, .sm 0 1 0 (dInts l k).length), (6, rounds t l), (7, vi l.length), (8, vi k)]) (fun k => [.rows ((dInts l k).map intRow) 3]) (fun k => l.length - k) (fun k => k ≤ l.length) 0 (Nat.zero_le _) ((Reabs.virt 3 1 3 rfl).trans (Reabs.frmM [0] (by repeat (first | exact trivial | refine ⟨.inr ⟨rfl, rfl⟩, ?_⟩ | refine ⟨.inr ⟨rfl, vi_eq (by first | omega | (simp; done) | (simp; omega))⟩, ?_⟩ | refine ⟨.inr ⟨rfl, smE rfl (by first | omega | (simp; done) | (simp; omega))⟩, ?_⟩)) (by repeat (first | exact trivial | refine ⟨⟨_, rfl, (by first | exact blkDead | exact blkDeep rfl (deepLit rfl) | exact blkDeep rfl (deepMap (fun _ => rfl)) | exact blkOk rfl rfl | exact blkLoop rfl rfl), (by first | exact fun _ => rfl | exact fun h => (by cases h))⟩, ?_⟩)) rfl rfl)) ?_
  intro k hk
  have hrl : (dInts l k).length ≤ k := by
    unfold dInts
    rw [List.length_map]
    unfold dIdx
    have := List.length_filter_le (fun i => decide ((l.getD i rnd0).kind = 2)) (List.range k)
    rwa [List.length_range] at this
  by_cases hlt : k < l.length
  · have hs := dInts_succ hlt
    by_cases h2 : l[k].kind = 2
    · rw [if_pos h2] at hs
      ((conv => whnf); repeat' ((first | refine vv3 ?_ | refine vv7 ?_ | refine vv20 ?_ | refine SlIdxN.map _ rfl (by first | assumption | omega) ?_ | refine vv21 ?_ | refine vv22 ?_ | refine vv31 ?_ | refine vv33 ?_) <;> (conv => whnf)))
      refine BackN.mk (k + 1) (by omega) (by omega) ?_
      simp only [hs]
      exact (Reabs.frmM [2] (by repeat (first | exact trivial | refine ⟨.inr ⟨rfl, rfl⟩, ?_⟩ | refine ⟨.inr ⟨rfl, vi_eq (by first | omega | (simp; done) | (simp; omega))⟩, ?_⟩ | refine ⟨.inr ⟨rfl, smE rfl (by first | omega | (simp; done) | (simp; omega))⟩, ?_⟩)) (by exact ⟨⟨_, rfl, blkDeep (by rw [List.map_append]; rfl) (deepMap (fun _ => rfl)), fun _ => rfl⟩, trivial⟩) rfl rfl)
    · rw [if_neg h2, List.append_nil] at hs
      ((conv => whnf); repeat' ((first | refine vv4 ?_ | refine vv7 ?_ | refine vv20 ?_ | refine SlIdxN.map _ rfl (by first | assumption | omega) ?_ | refine vv21 ?_ | refine vv22 ?_) <;> (conv => whnf)))
      refine BackN.mk (k + 1) (by omega) (by omega) ?_
      simp only [hs]
      exact (Reabs.frmM [0] (by repeat (first | exact trivial | refine ⟨.inr ⟨rfl, rfl⟩, ?_⟩ | refine ⟨.inr ⟨rfl, vi_eq (by first | omega | (simp; done) | (simp; omega))⟩, ?_⟩ | refine ⟨.inr ⟨rfl, smE rfl (by first | omega | (simp; done) | (simp; omega))⟩, ?_⟩)) (by repeat (first | exact trivial | refine ⟨⟨_, rfl, (by first | exact blkDead | exact blkDeep rfl (deepLit rfl) | exact blkDeep rfl (deepMap (fun _ => rfl)) | exact blkOk rfl rfl | exact blkLoop rfl rfl), (by first | exact fun _ => rfl | exact fun h => (by cases h))⟩, ?_⟩)) rfl rfl)
  · ((conv => whnf); repeat' ((first | refine vv8 ?_) <;> (conv => whnf)))
    obtain rfl : k = l.length := by omega
    refine DoneN.frz 0 _ 3 rfl (deepR (fun _ => rfl)) (DoneN.pure ?_)
    show (AV.sm 0 1 0 _).frz0 0 _ = _
    rw [frz_all (by simp)]
    rfl
theorem frzB_deep {i : Nat} {rs qs : List (List AV)} {te : TypeId} (h : AllDeep qs) : (ABlk.rows qs te).frz i rs = .rows qs te := by
  simp only [ABlk.frz]
  congr 1
  conv => rhs; rw [← List.map_id qs]
  refine List.map_congr_left fun row hr => ?_
  conv => rhs; rw [id, ← List.map_id row]
  exact List.map_congr_left fun x hx => frz0_deep (h row hr x hx)
theorem doubtful_sm (l : List Round) (hmax : l.length ≤ 1000000) : Ef Tryz.prog G1 63 [.sm 0 4 0 l.length] [.rows (l.map Round.enc) 87] fun y H' => y = ints false (dInts l l.length) ∧ H' = [.rows (l.map Round.enc) 87] := by
  refine Ef.fin ?_
  refine Ef.of_ev (T := Tryz.tab) (n := 22) (tryd_okm 1 _) rfl Tryz.func63 rfl rfl (by simp) ?_
  (conv => whnf)
  refine LoopN.of (tryd_okm 1 _) (fun k : Nat => [(3, .sm 1 1 0 (dInts l k).length), (6, .sm 0 4 0 l.length), (7, vi l.length), (8, vi k)]) (fun k => [.rows (l.map Round.enc) 87, .rows ((dInts l k).map intRow) 3]) (fun k => l.length - k) (fun k => k ≤ l.length) 0 (Nat.zero_le _) ((Reabs.virt 3 1 3 rfl).trans (Reabs.frmM [0, 1] (by repeat (first | exact trivial | refine ⟨.inr ⟨rfl, rfl⟩, ?_⟩ | refine ⟨.inr ⟨rfl, vi_eq (by first | omega | (simp; done) | (simp; omega))⟩, ?_⟩ | refine ⟨.inr ⟨rfl, smE rfl (by first | omega | (simp; done) | (simp; omega))⟩, ?_⟩)) (by repeat (first | exact trivial | refine ⟨⟨_, rfl, (by first | exact blkDead | exact blkDeep rfl (deepLit rfl) | exact blkDeep rfl (deepMap (fun _ => rfl)) | exact blkOk rfl rfl | exact blkLoop rfl rfl), (by first | exact fun _ => rfl | exact fun h => (by cases h))⟩, ?_⟩)) rfl rfl)) ?_
  intro k hk
  have hrl : (dInts l k).length ≤ k := by
    unfold dInts
    rw [List.length_map]
    unfold dIdx
    have := List.length_filter_le (fun i => decide ((l.getD i rnd0).kind = 2)) (List.range k)
    rwa [List.length_range] at this
  by_cases hlt : k < l.length
  · have hs := dInts_succ hlt
    by_cases h2 : l[k].kind = 2
    · rw [if_pos h2] at hs
      ((conv => whnf); repeat' ((first | refine vv3 ?_ | refine vv7 ?_ | refine vv20 ?_ | refine IdxN.at0 _ rfl (by first | assumption | omega | (simp <;> omega)) ?_ | refine vv21 ?_ | refine RowN.map (by first | assumption | omega) ?_ | refine vv22 ?_ | refine vv31 ?_ | refine vv33 ?_) <;> (conv => whnf)))
      refine BackN.mk (k + 1) (by omega) (by omega) ?_
      simp only [hs]
      exact (Reabs.frmM [0, 3] (by repeat (first | exact trivial | refine ⟨.inr ⟨rfl, rfl⟩, ?_⟩ | refine ⟨.inr ⟨rfl, vi_eq (by first | omega | (simp; done) | (simp; omega))⟩, ?_⟩ | refine ⟨.inr ⟨rfl, smE rfl (by first | omega | (simp; done) | (simp; omega))⟩, ?_⟩)) (by exact ⟨⟨_, rfl, blkDeep rfl (deepMap (fun _ => rfl)), fun _ => rfl⟩, ⟨_, rfl, blkDeep (by rw [List.map_append]; rfl) (deepMap (fun _ => rfl)), fun _ => rfl⟩, trivial⟩) rfl rfl)
    · rw [if_neg h2, List.append_nil] at hs
      ((conv => whnf); repeat' ((first | refine vv4 ?_ | refine vv7 ?_ | refine vv20 ?_ | refine IdxN.at0 _ rfl (by first | assumption | omega | (simp <;> omega)) ?_ | refine vv21 ?_ | refine RowN.map (by first | assumption | omega) ?_ | refine vv22 ?_) <;> (conv => whnf)))
      refine BackN.mk (k + 1) (by omega) (by omega) ?_
      simp only [hs]
      exact (Reabs.frmM [0, 1] (by repeat (first | exact trivial | refine ⟨.inr ⟨rfl, rfl⟩, ?_⟩ | refine ⟨.inr ⟨rfl, vi_eq (by first | omega | (simp; done) | (simp; omega))⟩, ?_⟩ | refine ⟨.inr ⟨rfl, smE rfl (by first | omega | (simp; done) | (simp; omega))⟩, ?_⟩)) (by repeat (first | exact trivial | refine ⟨⟨_, rfl, (by first | exact blkDead | exact blkDeep rfl (deepLit rfl) | exact blkDeep rfl (deepMap (fun _ => rfl)) | exact blkOk rfl rfl | exact blkLoop rfl rfl), (by first | exact fun _ => rfl | exact fun h => (by cases h))⟩, ?_⟩)) rfl rfl)
  · ((conv => whnf); repeat' ((first | refine vv8 ?_) <;> (conv => whnf)))
    obtain rfl : k = l.length := by omega
    refine ⟨.step 1 _ 3 rfl (deepR (fun _ => rfl)) ?_⟩
    show FinTo _ _ ((AV.sm 1 1 0 _).frz0 1 _) _ _
    rw [frz_all (by simp)]
    refine .done _ _ _ (by simp [frzH]) ?_ (fun b hb => by rw [List.mem_singleton.1 hb]; exact okDeep (deepR (fun _ => rfl)) _) rfl
    show [ABlk.frz 1 _ (.rows (l.map Round.enc) 87)] = _
    rw [frzB_deep (deepR (fun _ => rfl))]
theorem doubtful_in (l : List Round) (hmax : l.length ≤ 1000000) (H : AH) (i n : Nat) (hn : n = l.length) (hi : nthB H i = some (.rows (l.map Round.enc) 87)) : Ef Tryz.prog G1 63 [.sm i 4 0 n] H fun y H' => y = ints false (dInts l l.length) ∧ H' = H := by
  subst hn
  refine Ef.subD (doubtful_sm l hmax) rfl (Nat.le_refl _) ⟨okDeep (deepR (fun _ => rfl)) _, trivial⟩ [i] (by simp) ⟨⟨_, hi, blkDeep rfl (deepMap (fun _ => rfl)), fun _ => rfl⟩, trivial⟩ rfl (fun x hx => ?_) rfl ?_
  · rw [List.mem_singleton.1 hx]; rfl
  · show H.set i (ABlk.ren _ _) ++ [] = _
    rw [List.append_nil, ren_deepB (deepR (fun _ => rfl))]
    rw [nthB_eq] at hi
    obtain ⟨hlt, he⟩ := List.getElem?_eq_some_iff.1 hi
    rw [← he, List.set_getElem_self]
theorem clone_ok (t : Bool) (l : List Int) (h : l ≠ []) (hmax : l.length ≤ 1000000) : Pu Tryz.prog G1 71 [ints t l] (ints false l) := by
  obtain ⟨x, l, rfl⟩ := List.exists_cons_of_ne_nil h
  have hm : l.length + 1 ≤ 1000000 := by simpa using hmax
  refine Pu.of_ev (T := Tryz.tab) (n := 8) (tryd_ok _) Tryz.func71 rfl rfl rfl (by first | rfl | (split <;> rfl)) (by simp) ?_
  (conv => whnf)
  refine StepN.mk (.sc (.bool false)) [] (by kernel_rfl) ?_
  ((conv => whnf); repeat' ((first | refine AppN.raw (l.length + 1) (by simp) (by omega) (by omega) ?_ | refine vv2 ?_ | refine Need.mk (by first | assumption | omega | (simp <;> omega)) ?_) <;> (conv => whnf)))
  refine DoneN.frz 0 _ 3 rfl (by intro row hr y hy; obtain ⟨z, _, rfl⟩ := List.mem_map.1 (show row ∈ List.map (fun n => [vi n]) (x :: l) from hr); rw [List.mem_singleton.1 hy]; rfl) (DoneN.pure ?_)
  show (AV.sm 0 1 0 _).frz0 0 _ = _
  rw [frz_all (by simp)]
  rfl
def bools (t : Bool) (l : List Bool) : AV := .sl 1 t (l.map fun b => [vb b])
theorem RowSN.setR {rs : List (List AV)} {row : List AV} {i : Nat} {k : List AV → (List AV → (List (List AV) → Prop) → Prop) → Prop} (h : i < rs.length) (hk : k row fun x K => K (rs.set i x)) : RowSN (rs.set i row) i k :=
  ⟨row, _, by simp [h], fun x K h => by rw [List.set_set]; exact h, hk⟩
theorem decide_good (t u : Bool) (l : List Round) (bs : List Bool) (hc : (checkRounds l).1 = 0) (hb : bs.length = dN l) : Pu Tryz.prog G1 22 [rounds t l, bools u bs] (.tuple [rounds false (decideL (l.map loose) bs), vi 0]) := by
  obtain ⟨hl1, hl⟩ := checkRounds_0 hc
  have hck := checkRounds_ok t l (by omega)
  rw [checkRounds_eq hc] at hck
  have hdl := dN_le l
  have hil := dInts_len (l := l) (Nat.le_refl _)
  rw [rk_all] at hil
  refine Pu.of_ev (T := Tryz.tab) (n := 65) (tryd_ok _) Tryz.func22 rfl rfl rfl (by first | rfl | (split <;> rfl)) (by simp) ?_
  ((conv => whnf); repeat' ((first | refine vv2 ?_ | refine vv9 ?_ | refine vv23 ?_ | refine CallN.pure (hck) ?_ | refine CallN.pure (doubtful_ok t l (by omega)) ?_) <;> (conv => whnf)))
  refine LoopN.of (tryd_ok _) (fun k : Nat => [(1, bools u bs), (8, ints false (dInts l l.length)), (9, .sm 0 4 0 k), (29, rounds t l), (30, vi l.length), (31, vi k)]) (fun k => [.rows (((l.map loose).take k).map Round.enc) 87]) (fun k => l.length - k) (fun k => k ≤ l.length) 0 (Nat.zero_le _) ((Reabs.virt 9 4 87 rfl).trans (Reabs.frmM [0] (by repeat (first | exact trivial | refine ⟨.inr ⟨rfl, rfl⟩, ?_⟩ | refine ⟨.inr ⟨rfl, vi_eq (by first | omega | (simp; done) | (simp; omega))⟩, ?_⟩ | refine ⟨.inr ⟨rfl, smE rfl (by first | omega | (simp; done) | (simp; omega))⟩, ?_⟩)) (by repeat (first | exact trivial | refine ⟨⟨_, rfl, (by first | exact blkDead | exact blkDeep rfl (deepLit rfl) | exact blkDeep rfl (deepMap (fun _ => rfl)) | exact blkOk rfl rfl | exact blkLoop rfl rfl), (by first | exact fun _ => rfl | exact fun h => (by cases h))⟩, ?_⟩)) rfl rfl)) ?_
  intro k hk
  have htl : ((l.map loose).take k).length = k := by simp; omega
  by_cases hlt : k < l.length
  · have hr := hl _ (List.getElem_mem hlt)
    unfold Round.ok at hr
    have hne : l[k].crew ≠ [] := fun h => by rw [h] at hr; simp at hr
    have hcl := clone_ok l[k].tight l[k].crew hne (by omega)
    ((conv => whnf); repeat' ((first | refine vv7 ?_ | refine vv20 ?_ | refine SlIdxN.map _ rfl (by first | assumption | omega) ?_ | refine vv21 ?_ | refine vv22 ?_ | refine vv31 ?_ | refine vv33 ?_ | refine CallN.pure (hcl) ?_) <;> (conv => whnf)))
    refine BackN.mk (k + 1) (by omega) (by omega) ?_
    have e1 : (l.map loose).take (k + 1) = (l.map loose).take k ++ [loose l[k]] := by rw [take_succ_snoc (by simpa using hlt)]; simp
    simp only [e1]
    exact (Reabs.frmM [2] (by repeat (first | exact trivial | refine ⟨.inr ⟨rfl, rfl⟩, ?_⟩ | refine ⟨.inr ⟨rfl, vi_eq (by first | omega | (simp; done) | (simp; omega))⟩, ?_⟩ | refine ⟨.inr ⟨rfl, smE rfl (by first | omega | (simp; done) | (simp; omega))⟩, ?_⟩)) (by exact ⟨⟨_, rfl, blkDeep (by rw [List.map_append]; rfl) (deepMap (fun _ => rfl)), fun _ => rfl⟩, trivial⟩) rfl rfl)
  obtain rfl : k = l.length := by omega
  have hml : (l.map loose).length = l.length := by simp
  rw [List.take_of_length_le (by omega)]
  have hrkl : ∀ i, rk (l.map loose) i = rk l i := by
    intro i
    have key : ∀ (l : List Round) (i : Nat), rk (l.map loose) i = rk l i := by
      intro l
      induction l with
      | nil => intro i; cases i <;> rfl
      | cons r l ih => intro i; cases i with
        | zero => rfl
        | succ i => simp only [List.map_cons, rk, ih]; rfl
    exact key l i
  ((conv => whnf); repeat' ((first | refine vv8 ?_ | refine vv23 ?_) <;> (conv => whnf)))
  refine LoopN.of (tryd_ok _) (fun k : Nat => [(1, bools u bs), (9, .sm 0 4 0 l.length), (44, ints false (dInts l l.length)), (45, vi (dInts l l.length).length), (46, vi k)]) (fun k => [.rows ((mix (l.map loose) (l.map loose) bs k).map Round.enc) 87]) (fun k => dN l - k) (fun k => k ≤ dN l) 0 (Nat.zero_le _) ?_ ?_
  · simp only [mix_0 rfl]
    exact (Reabs.frmM [0] (by repeat (first | exact trivial | refine ⟨.inr ⟨rfl, rfl⟩, ?_⟩ | refine ⟨.inr ⟨rfl, vi_eq (by first | omega | (simp; done) | (simp; omega))⟩, ?_⟩ | refine ⟨.inr ⟨rfl, smE rfl (by first | omega | (simp; done) | (simp; omega))⟩, ?_⟩)) (by repeat (first | exact trivial | refine ⟨⟨_, rfl, (by first | exact blkDead | exact blkDeep rfl (deepLit rfl) | exact blkDeep rfl (deepMap (fun _ => rfl)) | exact blkOk rfl rfl | exact blkLoop rfl rfl), (by first | exact fun _ => rfl | exact fun h => (by cases h))⟩, ?_⟩)) rfl rfl)
  intro k hk2
  have hmx := mix_len (l.map loose) (l.map loose) bs k
  by_cases hlt2 : k < dN l
  · obtain ⟨i, hi, g1, g2, g3⟩ := dInts_get (l := l) (j := k) (by omega)
    have hbk : k < bs.length := by omega
    have hi2 : i < (l.map loose).length := by omega
    have hst := mix_step (prev := l.map loose) (l := l.map loose) (bs := bs) (k := k) (i := i) hi2 (by simpa [loose] using g2) (by rw [hrkl]; exact g3)
    have hal := mix_alike (prev := l.map loose) (l := l.map loose) (bs := bs) (fun i h => ⟨_, by rw [getD_r h]⟩) k i hi2
    obtain ⟨kd, hkd⟩ := hal
    have hil2 : i < (List.map Round.enc (mix (l.map loose) (l.map loose) bs k)).length := by rw [List.length_map]; omega
    by_cases hbt : bs[k] = true
    · rw [List.getD_eq_getElem?_getD, List.getElem?_eq_getElem hbk, Option.getD_some, hbt] at hst
      ((conv => whnf); repeat' ((first | refine IdxN.at0 i (by omega) (by omega) ?_ | refine RowSN.setR (by assumption) ?_ | refine vv7 ?_ | refine vv13 ?_ | refine vv20 ?_ | refine SlIdxN.map _ rfl (by first | assumption | omega) ?_ | refine RowSN.map (by first | assumption | omega) ?_) <;> (conv => whnf)))
      refine BackN.mk (k + 1) (by omega) (by omega) ?_
      simp only [← hst]
      exact (Reabs.frmM [0] (by repeat (first | exact trivial | refine ⟨.inr ⟨rfl, rfl⟩, ?_⟩ | refine ⟨.inr ⟨rfl, vi_eq (by first | omega | (simp; done) | (simp; omega))⟩, ?_⟩ | refine ⟨.inr ⟨rfl, smE rfl (by first | omega | (simp; done) | (simp; omega))⟩, ?_⟩)) (by exact ⟨⟨_, rfl, blkDeep (by rw [List.map_set]; congr 2; rw [hkd]; rfl) (deepMap (fun _ => rfl)), fun _ => rfl⟩, trivial⟩) rfl rfl)
    · have hbf := Bool.eq_false_iff.2 hbt
      rw [List.getD_eq_getElem?_getD, List.getElem?_eq_getElem hbk, Option.getD_some, hbf] at hst
      ((conv => whnf); repeat' ((first | refine IdxN.at0 i (by omega) (by omega) ?_ | refine vv7 ?_ | refine vv14 ?_ | refine vv20 ?_ | refine SlIdxN.map _ rfl (by first | assumption | omega) ?_ | refine RowSN.map (by first | assumption | omega) ?_) <;> (conv => whnf)))
      refine BackN.mk (k + 1) (by omega) (by omega) ?_
      simp only [← hst]
      exact (Reabs.frmM [0] (by repeat (first | exact trivial | refine ⟨.inr ⟨rfl, rfl⟩, ?_⟩ | refine ⟨.inr ⟨rfl, vi_eq (by first | omega | (simp; done) | (simp; omega))⟩, ?_⟩ | refine ⟨.inr ⟨rfl, smE rfl (by first | omega | (simp; done) | (simp; omega))⟩, ?_⟩)) (by exact ⟨⟨_, rfl, blkDeep (by rw [List.map_set]; congr 2; rw [hkd]; rfl) (deepMap (fun _ => rfl)), fun _ => rfl⟩, trivial⟩) rfl rfl)
  · obtain rfl : k = dN l := by omega
    ((conv => whnf); repeat' ((first | refine vv8 ?_) <;> (conv => whnf)))
    refine DoneN.frz 0 _ 87 rfl (deepR (fun _ => rfl)) (DoneN.pure ?_)
    show AV.tuple [(AV.sm 0 4 0 _).frz0 0 _, _] = _
    rw [frz_all (by simp [mix_len]), ← loose_dN, mix_all (fun i h _ => getD_r h)]
    rfl
end Go.Proofs.Ax
