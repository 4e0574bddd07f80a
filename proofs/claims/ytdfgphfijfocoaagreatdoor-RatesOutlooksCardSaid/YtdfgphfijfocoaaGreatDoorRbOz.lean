import Derived.Test.YtdfgphfijfocoaaGreatDoorRbOu
import Derived.Test.YtdfgphfijfocoaaGreatDoorRbM2
import Derived.Test.YtdfgphfijfocoaaGreatDoorRbQ
import Derived.Test.YtdfgphfijfocoaaGreatDoorDecLaw4
namespace Go.Proofs.Ax
open Go Go.Proofs
set_option maxRecDepth 10000
set_option maxHeartbeats 8000000
theorem rof_ok (t : Bool) (l : List Round) (n : Int) (hmax : l.length ≤ 1000) : Pu Tryz.prog G1 67 [rounds t l, vi n] (rounds false (ofN n l)) := by
  refine Pu.of_ev (T := Tryz.tab) (n := 28) (tryd_ok _) Tryz.func67 rfl rfl rfl (by first | rfl | (split <;> rfl)) (by simp) ?_
  (conv => whnf)
  refine LoopN.of (tryd_ok _) (fun k : Nat => [(0, rounds t l), (1, vi n), (5, .sm 0 4 0 (ofN n (l.take k)).length), (6, vi k)]) (fun k => [.rows ((ofN n (l.take k)).map Round.enc) 87]) (fun k => l.length - k) (fun k => k ≤ l.length) 0 (Nat.zero_le _)
    ((Reabs.virt 5 4 87 rfl).trans (Reabs.frmM [0] (by repeat (first | exact trivial | refine ⟨.inr ⟨rfl, rfl⟩, ?_⟩ | refine ⟨.inr ⟨rfl, vi_eq (by first | omega | (simp; done) | (simp; omega))⟩, ?_⟩ | refine ⟨.inr ⟨rfl, smE rfl (by first | omega | (simp; done) | (simp; omega))⟩, ?_⟩)) (by repeat (first | exact trivial | refine ⟨⟨_, rfl, (by first | exact blkDead | exact blkDeep rfl (deepLit rfl) | exact blkDeep rfl (deepMap (fun _ => rfl)) | exact blkOk rfl rfl | exact blkLoop rfl rfl), (by first | exact fun _ => rfl | exact fun h => (by cases h))⟩, ?_⟩)) rfl rfl)) ?_
  intro k hk
  have hol := ofN_len n (l.take k)
  rw [List.length_take, Nat.min_eq_left hk] at hol
  by_cases hkl : k < l.length
  · have hos := ofN_succ (n := n) hkl
    by_cases hnn : l[k].night = n
    · rw [if_pos hnn] at hos
      ((conv => whnf); repeat' ((first | refine vv3 ?_ | refine vv7 ?_ | refine vv20 ?_ | refine SlIdxN.map _ rfl (by first | assumption | omega) ?_ | refine vv23 ?_ | refine vv31 ?_ | refine vv33 ?_) <;> (conv => whnf)))
      refine BackN.mk (k + 1) (by omega) (by omega) ?_
      simp only [hos]
      exact (Reabs.frmM [1] (by repeat (first | exact trivial | refine ⟨.inr ⟨rfl, rfl⟩, ?_⟩ | refine ⟨.inr ⟨rfl, vi_eq (by first | omega | (simp; done) | (simp; omega))⟩, ?_⟩ | refine ⟨.inr ⟨rfl, smE rfl (by first | omega | (simp; done) | (simp; omega))⟩, ?_⟩)) (by exact ⟨⟨_, rfl, blkDeep (by rw [List.map_append]; rfl) (deepMap (fun _ => rfl)), fun _ => rfl⟩, trivial⟩) rfl rfl)
    · rw [if_neg hnn, List.append_nil] at hos
      ((conv => whnf); repeat' ((first | refine vv4 ?_ | refine vv7 ?_ | refine vv20 ?_ | refine SlIdxN.map _ rfl (by first | assumption | omega) ?_ | refine vv23 ?_) <;> (conv => whnf)))
      refine BackN.mk (k + 1) (by omega) (by omega) ?_
      simp only [hos]
      exact (Reabs.frmM [0] (by repeat (first | exact trivial | refine ⟨.inr ⟨rfl, rfl⟩, ?_⟩ | refine ⟨.inr ⟨rfl, vi_eq (by first | omega | (simp; done) | (simp; omega))⟩, ?_⟩ | refine ⟨.inr ⟨rfl, smE rfl (by first | omega | (simp; done) | (simp; omega))⟩, ?_⟩)) (by repeat (first | exact trivial | refine ⟨⟨_, rfl, (by first | exact blkDead | exact blkDeep rfl (deepLit rfl) | exact blkDeep rfl (deepMap (fun _ => rfl)) | exact blkOk rfl rfl | exact blkLoop rfl rfl), (by first | exact fun _ => rfl | exact fun h => (by cases h))⟩, ?_⟩)) rfl rfl)
  · obtain rfl : k = l.length := by omega
    ((conv => whnf); repeat' ((first | refine vv8 ?_ | refine vv23 ?_) <;> (conv => whnf)))
    refine DoneN.frz 0 _ 87 rfl (deepR (fun _ => rfl)) (DoneN.pure ?_)
    show (AV.sm 0 4 0 _).frz0 0 _ = _
    rw [frz_all (by simp), List.take_length]
    rfl
theorem rfirst_ok (t : Bool) (l : List Round) (n : Int) (c : Nat) (hmax : l.length ≤ 1000) (hall : ∀ r ∈ l, r.night = n) (hc : c ≤ 1000) : Pu Tryz.prog G1 69 [rounds t l, vi n, vi (c : Int)] (rounds false (decideL l (firstK (dN l) c))) := by
  refine Pu.of_ev (T := Tryz.tab) (n := 40) (tryd_ok _) Tryz.func69 rfl rfl rfl (by first | rfl | (split <;> rfl)) (by simp) ?_
  (conv => whnf)
  refine LoopN.of (tryd_ok _) (fun k : Nat => [(0, rounds t l), (1, vi n), (2, vi (c : Int)), (7, .sm 0 4 0 (decideL (l.take k) (firstK (dN l) c)).length), (8, vi (dN (l.take k) : Int)), (9, vi k)]) (fun k => [.rows ((decideL (l.take k) (firstK (dN l) c)).map Round.enc) 87]) (fun k => l.length - k) (fun k => k ≤ l.length) 0 (Nat.zero_le _)
    ((Reabs.virt 7 4 87 rfl).trans (Reabs.frmM [0] (by repeat (first | exact trivial | refine ⟨.inr ⟨rfl, rfl⟩, ?_⟩ | refine ⟨.inr ⟨rfl, vi_eq (by first | omega | (simp; done) | (simp; omega))⟩, ?_⟩ | refine ⟨.inr ⟨rfl, smE rfl (by first | omega | (simp; done) | (simp; omega))⟩, ?_⟩)) (by repeat (first | exact trivial | refine ⟨⟨_, rfl, (by first | exact blkDead | exact blkDeep rfl (deepLit rfl) | exact blkDeep rfl (deepMap (fun _ => rfl)) | exact blkOk rfl rfl | exact blkLoop rfl rfl), (by first | exact fun _ => rfl | exact fun h => (by cases h))⟩, ?_⟩)) rfl rfl)) ?_
  intro k hk
  have hdl := decideL_length (l.take k) (firstK (dN l) c)
  rw [List.length_take, Nat.min_eq_left hk] at hdl
  have hdn := dN_le (l.take k)
  rw [List.length_take, Nat.min_eq_left hk] at hdn
  by_cases hkl : k < l.length
  · have hs := decideL_snoc (l.take k) (firstK (dN l) c) l[k]
    rw [← take_succ_snoc hkl] at hs
    have hd1 := dN_take_succ hkl
    have hnn := hall _ (List.getElem_mem hkl)
    have hlt2 : l[k].kind = 2 → dN (l.take k) < dN l := fun h => by
      have e := rk_lt hkl h
      have e2 : rk l k = dN (l.take k) := by
        have key : ∀ (l : List Round) (k : Nat), k ≤ l.length → rk l k = dN (l.take k) := by
          intro l
          induction l with
          | nil => intro k hk; cases k <;> rfl
          | cons r l ih => intro k hk; cases k with
            | zero => rfl
            | succ k => simp only [rk, List.take_succ_cons, dN, ih k (by simpa using hk)]
        exact key l k hk
      omega
    by_cases h2 : l[k].kind = 2
    · rw [if_pos h2] at hd1
      rw [decAt, if_pos h2, firstK_get (hlt2 h2)] at hs
      clear hlt2
      by_cases hlt : dN (l.take k) < c
      · rw [decide_eq_true hlt] at hs
        ((conv => whnf); repeat' ((first | refine vv3 ?_ | refine vv5 ?_ | refine vv7 ?_ | refine vv20 ?_ | refine SlIdxN.map _ rfl (by first | assumption | omega) ?_ | refine vv21 ?_ | refine vv22 ?_ | refine vv23 ?_ | refine vv31 ?_ | refine vv33 ?_) <;> (conv => whnf)))
        refine BackN.mk (k + 1) (by omega) (by omega) ?_
        simp only [hs]
        exact (Reabs.frmM [2] (by repeat (first | exact trivial | refine ⟨.inr ⟨rfl, rfl⟩, ?_⟩ | refine ⟨.inr ⟨rfl, vi_eq (by first | omega | (simp; done) | (simp; omega))⟩, ?_⟩ | refine ⟨.inr ⟨rfl, smE rfl (by first | omega | (simp; done) | (simp; omega))⟩, ?_⟩)) (by exact ⟨⟨_, rfl, blkDeep (by rw [List.map_append]; rfl) (deepMap (fun _ => rfl)), fun _ => rfl⟩, trivial⟩) rfl rfl)
      · rw [decide_eq_false hlt] at hs
        ((conv => whnf); repeat' ((first | refine vv3 ?_ | refine vv5 ?_ | refine vv7 ?_ | refine vv8 ?_ | refine vv20 ?_ | refine SlIdxN.map _ rfl (by first | assumption | omega) ?_ | refine vv21 ?_ | refine vv22 ?_ | refine vv23 ?_ | refine vv31 ?_ | refine vv33 ?_) <;> (conv => whnf)))
        refine BackN.mk (k + 1) (by omega) (by omega) ?_
        simp only [hs]
        exact (Reabs.frmM [2] (by repeat (first | exact trivial | refine ⟨.inr ⟨rfl, rfl⟩, ?_⟩ | refine ⟨.inr ⟨rfl, vi_eq (by first | omega | (simp; done) | (simp; omega))⟩, ?_⟩ | refine ⟨.inr ⟨rfl, smE rfl (by first | omega | (simp; done) | (simp; omega))⟩, ?_⟩)) (by exact ⟨⟨_, rfl, blkDeep (by rw [List.map_append]; rfl) (deepMap (fun _ => rfl)), fun _ => rfl⟩, trivial⟩) rfl rfl)
    · rw [if_neg h2] at hd1
      rw [decAt, if_neg h2] at hs
      clear hlt2
      ((conv => whnf); repeat' ((first | refine vv4 ?_ | refine vv5 ?_ | refine vv7 ?_ | refine vv20 ?_ | refine SlIdxN.map _ rfl (by first | assumption | omega) ?_ | refine vv21 ?_ | refine vv22 ?_ | refine vv23 ?_ | refine vv31 ?_ | refine vv33 ?_) <;> (conv => whnf)))
      refine BackN.mk (k + 1) (by omega) (by omega) ?_
      simp only [hs]
      exact (Reabs.frmM [2] (by repeat (first | exact trivial | refine ⟨.inr ⟨rfl, rfl⟩, ?_⟩ | refine ⟨.inr ⟨rfl, vi_eq (by first | omega | (simp; done) | (simp; omega))⟩, ?_⟩ | refine ⟨.inr ⟨rfl, smE rfl (by first | omega | (simp; done) | (simp; omega))⟩, ?_⟩)) (by exact ⟨⟨_, rfl, blkDeep (by rw [List.map_append]; rfl) (deepMap (fun _ => rfl)), fun _ => rfl⟩, trivial⟩) rfl rfl)
  · obtain rfl : k = l.length := by omega
    ((conv => whnf); repeat' ((first | refine vv8 ?_ | refine vv23 ?_) <;> (conv => whnf)))
    refine DoneN.frz 0 _ 87 rfl (deepR (fun _ => rfl)) (DoneN.pure ?_)
    show (AV.sm 0 4 0 _).frz0 0 _ = _
    rw [frz_all (by simp), List.take_length]
    rfl
theorem rdecide_ok (t u : Bool) (l : List Round) (bs : List Bool) (hmax : l.length ≤ 1000) (hb : bs.length = dN l) : Pu Tryz.prog G1 26 [rounds t l, bools u bs] (rounds false (decideL l bs)) := by
  refine Pu.of_ev (T := Tryz.tab) (n := 35) (tryd_ok _) Tryz.func26 rfl rfl rfl (by first | rfl | (split <;> rfl)) (by simp) ?_
  (conv => whnf)
  refine LoopN.of (tryd_ok _) (fun k : Nat => [(0, rounds t l), (1, bools u bs), (5, .sm 0 4 0 (decideL (l.take k) bs).length), (6, vi (dN (l.take k) : Int)), (7, vi k)]) (fun k => [.rows ((decideL (l.take k) bs).map Round.enc) 87]) (fun k => l.length - k) (fun k => k ≤ l.length) 0 (Nat.zero_le _)
    ((Reabs.virt 5 4 87 rfl).trans (Reabs.frmM [0] (by repeat (first | exact trivial | refine ⟨.inr ⟨rfl, rfl⟩, ?_⟩ | refine ⟨.inr ⟨rfl, vi_eq (by first | omega | (simp; done) | (simp; omega))⟩, ?_⟩ | refine ⟨.inr ⟨rfl, smE rfl (by first | omega | (simp; done) | (simp; omega))⟩, ?_⟩)) (by repeat (first | exact trivial | refine ⟨⟨_, rfl, (by first | exact blkDead | exact blkDeep rfl (deepLit rfl) | exact blkDeep rfl (deepMap (fun _ => rfl)) | exact blkOk rfl rfl | exact blkLoop rfl rfl), (by first | exact fun _ => rfl | exact fun h => (by cases h))⟩, ?_⟩)) rfl rfl)) ?_
  intro k hk
  have hdl := decideL_length (l.take k) bs
  rw [List.length_take, Nat.min_eq_left hk] at hdl
  have hdn := dN_le (l.take k)
  rw [List.length_take, Nat.min_eq_left hk] at hdn
  by_cases hkl : k < l.length
  · have hs := decideL_snoc (l.take k) bs l[k]
    rw [← take_succ_snoc hkl] at hs
    have hd1 := dN_take_succ hkl
    by_cases h2 : l[k].kind = 2
    · rw [if_pos h2] at hd1
      have hlt2 : dN (l.take k) < bs.length := by
        have e := dN_append (l.take (k + 1)) (l.drop (k + 1))
        rw [List.take_append_drop] at e
        omega
      rw [decAt, if_pos h2, List.getD_eq_getElem?_getD, List.getElem?_eq_getElem hlt2, Option.getD_some] at hs
      by_cases hbt : bs[dN (l.take k)] = true
      · rw [hbt] at hs
        ((conv => whnf); repeat' ((first | refine vv3 ?_ | refine vv7 ?_ | refine vv13 ?_ | refine vv20 ?_ | refine SlIdxN.map _ rfl (by first | assumption | omega) ?_ | refine vv21 ?_ | refine vv22 ?_ | refine vv23 ?_ | refine vv31 ?_ | refine vv33 ?_) <;> (conv => whnf)))
        refine BackN.mk (k + 1) (by omega) (by omega) ?_
        simp only [hs]
        exact (Reabs.frmM [2] (by repeat (first | exact trivial | refine ⟨.inr ⟨rfl, rfl⟩, ?_⟩ | refine ⟨.inr ⟨rfl, vi_eq (by first | omega | (simp; done) | (simp; omega))⟩, ?_⟩ | refine ⟨.inr ⟨rfl, smE rfl (by first | omega | (simp; done) | (simp; omega))⟩, ?_⟩)) (by exact ⟨⟨_, rfl, blkDeep (by rw [List.map_append]; rfl) (deepMap (fun _ => rfl)), fun _ => rfl⟩, trivial⟩) rfl rfl)
      · have hbf := Bool.eq_false_iff.2 hbt
        rw [hbf] at hs
        ((conv => whnf); repeat' ((first | refine vv3 ?_ | refine vv7 ?_ | refine vv14 ?_ | refine vv20 ?_ | refine SlIdxN.map _ rfl (by first | assumption | omega) ?_ | refine vv21 ?_ | refine vv22 ?_ | refine vv23 ?_ | refine vv31 ?_ | refine vv33 ?_) <;> (conv => whnf)))
        refine BackN.mk (k + 1) (by omega) (by omega) ?_
        simp only [hs]
        exact (Reabs.frmM [2] (by repeat (first | exact trivial | refine ⟨.inr ⟨rfl, rfl⟩, ?_⟩ | refine ⟨.inr ⟨rfl, vi_eq (by first | omega | (simp; done) | (simp; omega))⟩, ?_⟩ | refine ⟨.inr ⟨rfl, smE rfl (by first | omega | (simp; done) | (simp; omega))⟩, ?_⟩)) (by exact ⟨⟨_, rfl, blkDeep (by rw [List.map_append]; rfl) (deepMap (fun _ => rfl)), fun _ => rfl⟩, trivial⟩) rfl rfl)
    · rw [if_neg h2] at hd1
      rw [decAt, if_neg h2] at hs
      ((conv => whnf); repeat' ((first | refine vv4 ?_ | refine vv7 ?_ | refine vv20 ?_ | refine SlIdxN.map _ rfl (by first | assumption | omega) ?_ | refine vv21 ?_ | refine vv22 ?_ | refine vv23 ?_ | refine vv31 ?_ | refine vv33 ?_) <;> (conv => whnf)))
      refine BackN.mk (k + 1) (by omega) (by omega) ?_
      simp only [hs]
      exact (Reabs.frmM [2] (by repeat (first | exact trivial | refine ⟨.inr ⟨rfl, rfl⟩, ?_⟩ | refine ⟨.inr ⟨rfl, vi_eq (by first | omega | (simp; done) | (simp; omega))⟩, ?_⟩ | refine ⟨.inr ⟨rfl, smE rfl (by first | omega | (simp; done) | (simp; omega))⟩, ?_⟩)) (by exact ⟨⟨_, rfl, blkDeep (by rw [List.map_append]; rfl) (deepMap (fun _ => rfl)), fun _ => rfl⟩, trivial⟩) rfl rfl)
  · obtain rfl : k = l.length := by omega
    ((conv => whnf); repeat' ((first | refine vv8 ?_ | refine vv23 ?_) <;> (conv => whnf)))
    refine DoneN.frz 0 _ 87 rfl (deepR (fun _ => rfl)) (DoneN.pure ?_)
    show (AV.sm 0 4 0 _).frz0 0 _ = _
    rw [frz_all (by simp), List.take_length]
    rfl
def key4 (r : Round) : Int × Int × Int × List Int := (r.night, r.no, r.kind, r.crew)
theorem rsame_ok (t u : Bool) (a b : List Round) (hmax : a.length ≤ 1000) (h : a.map key4 = b.map key4) (hc : ∀ r ∈ a, r.crew.length ≤ 1000) : Pu Tryz.prog G1 25 [rounds t a, rounds u b] (vb true) := by
  have hl : a.length = b.length := by have := congrArg List.length h; simpa using this
  have hat : ∀ k (h1 : k < a.length) (h2 : k < b.length), a[k].night = b[k].night ∧ a[k].no = b[k].no ∧ a[k].kind = b[k].kind ∧ a[k].crew = b[k].crew := fun k h1 h2 => by
    have e := congrArg (fun l => l[k]?) h
    simp only [List.getElem?_map, List.getElem?_eq_getElem h1, List.getElem?_eq_getElem h2, Option.map_some, Option.some.injEq, key4, Prod.mk.injEq] at e
    exact e
  refine Pu.of_ev (T := Tryz.tab) (n := 70) (tryd_ok _) Tryz.func25 rfl rfl rfl (by first | rfl | (split <;> rfl)) (by simp) ?_
  ((conv => whnf); repeat' ((first | refine vv9 ?_ | refine vv23 ?_) <;> (conv => whnf)))
  refine LoopN.of (tryd_ok _) (fun k : Nat => [(0, rounds t a), (1, rounds u b), (5, vi k)]) (fun _ => []) (fun k => a.length - k) (fun k => k ≤ a.length) 0 (Nat.zero_le _) (Reabs.frm0 rfl (by repeat (first | exact trivial | refine ⟨.inr ⟨rfl, rfl⟩, ?_⟩))) ?_
  intro k hk
  by_cases hlt : k < a.length
  · have hlb : k < b.length := by omega
    obtain ⟨e1, e2, e3, e4⟩ := hat k hlt hlb
    have hcl := hc _ (List.getElem_mem hlt)
    have hsi := sameInts_ok a[k].tight b[k].tight a[k].crew b[k].crew (by omega) (by rw [← e4]; omega)
    rw [decide_eq_true e4] at hsi
    ((conv => whnf); repeat' ((first | refine vv2 ?_ | refine vv5 ?_ | refine vv7 ?_ | refine vv20 ?_ | refine SlIdxN.map _ rfl (by first | assumption | omega) ?_ | refine vv23 ?_ | refine vv25 ?_ | refine DrawN.gen (by first | exact tryd_ok _ | exact tryd_okm _ _) (by kernel_rfl) ?_ | refine GCallN.pure _ (hsi) ?_) <;> (conv => whnf)))
    exact BackN.mk (k + 1) (by omega) (by omega) (Reabs.frm0 rfl (by repeat (first | exact trivial | refine ⟨.inr ⟨rfl, rfl⟩, ?_⟩)))
  · ((conv => whnf); repeat' ((first | refine vv8 ?_ | refine vv23 ?_) <;> (conv => whnf)))
    exact DoneN.pure rfl
end Go.Proofs.Ax
