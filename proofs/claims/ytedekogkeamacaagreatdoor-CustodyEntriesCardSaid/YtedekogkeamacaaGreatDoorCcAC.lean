import Derived.Test.YtedekogkeamacaaGreatDoorCcAB
import Derived.Test.YtedekogkeamacaaGreatDoorCuD
namespace Go.Proofs.Ax
open Go Go.Proofs Go.Proofs.Cu
set_option maxRecDepth 10000
set_option maxHeartbeats 4000000
section
theorem pos_sb {C : Chn} {s : Sta} (ok : C.ok) (h : s ∈ posL C) : SB C s := by
  obtain ⟨h1, h2, -⟩ := mem_posL.1 h; exact ⟨h2, by have := ok.gaps; omega⟩
theorem sta_conj (a b : Sta) : (decide ((a.done : Int) = (b.done : Int)) && (decide (a.place = b.place) && decide ((a.gaps : Int) = (b.gaps : Int)))) = decide (a = b) := by
  rw [Bool.eq_iff_iff]; simp only [Bool.and_eq_true, decide_eq_true_eq]; constructor
  · rintro ⟨h1, h2, h3⟩
    cases a; cases b
    simp only at h1 h2 h3; congr 1 <;> omega
  rintro rfl; exact ⟨rfl, rfl, rfl⟩
theorem sta_eq (a b : Sta) : aeq Tryz.prog 12 150 (.agg (encSta a)) (.agg (encSta b)) = some (decide (a = b)) := by
  rw [← sta_conj]; exact aeqT_ok (tryd_okm 0 0) 12 150 _ _ _ rfl
abbrev kS (s : Sta) : AV := .agg (encSta s)
abbrev vL (l : List Int) : AV := vi (l.getLast?.getD 0)
theorem keyE : KeyOk Tryz.prog kS vL 185 150 3 where
  und := Tryz.underlying185
  key := fun q => by kernel_rfl
  eq := sta_eq
  keep := fun q => by simp [akeep, acon, scs, Instr.sameBits]
  zero := by kernel_rfl
abbrev mE (gs : Fnd Sta Int) : ABlk := vB kS vL gs
theorem mE_blk (gs : Fnd Sta Int) {σ : Nat → Nat} {n : Nat} : Blk σ n (mE gs) (mE gs) := vB_blk (fun _ _ _ => ⟨rfl, rfl⟩) (fun _ _ _ => ⟨rfl, rfl⟩) _
theorem mE_ok (gs : Fnd Sta Int) (n : Nat) : (mE gs).ok n := vB_ok (fun _ _ _ => ⟨rfl, rfl⟩) (fun _ _ _ => ⟨rfl, rfl⟩) _ _
theorem mE_frz (gs : Fnd Sta Int) (id : Nat) (rs : List (List AV)) : (mE gs).frz id rs = mE gs := vB_frz (fun _ _ _ => rfl) (fun _ _ _ => rfl) gs id rs
theorem lookE (gs : Fnd Sta Int) (q : Sta) {H : AH} {m : Nat} (hm : H[m]? = some (mE gs)) : (alookup Tryz.prog H 185 (.mp m) (kS q) false).map (fun y => (y, H)) = some (vi (timeOf tid gs q), H) := by
  rw [time_getD]; exact keyE.look gs q hm
theorem lookE2 (gs : Fnd Sta Int) (hf : Cu.Full gs) (q : Sta) {H : AH} {m : Nat} (hm : H[m]? = some (mE gs)) : (alookup Tryz.prog H 185 (.mp m) (kS q) true).map (fun y => (y, H)) = some (.tuple [vi (timeOf tid gs q), vb (getG q gs).isSome], H) := by
  rw [time_getD, ← hf.idx q]; exact keyE.look2 gs q hm
theorem updE (gs : Fnd Sta Int) (q : Sta) (t : Int) {H : AH} {m : Nat} (hm : H[m]? = some (mE gs)) : (amapUpdate Tryz.prog H 185 (.mp m) (kS q) (vi t)).map (AV.any, ·) = some (.any, H.set m (mE (addG q t gs))) :=
  keyE.upd gs q t hm (by simp [vL])
abbrev stas (l : List Sta) : AV := .sl 3 false (l.map encSta)
abbrev fl125 (C : Chn) (ks : List Int) (al : List Entr) (s : Sta) (L : List Sta) (k : Nat) : Fr := [(0, kV C ks al), (3, .pm 1 0 0), (5, .pm 2 0 0), (7, .pm 4 0 0), (20, stas L), (21, vi L.length), (22, vi k), (28, .fn (.func 179) [] [.pi [kV C ks al], .pi (encSta s)])]
noncomputable abbrev lp125 (fl : Fr) : ABlk := .loop .ready none (frm 0 fl 70) #[29] (asF Tryz.f125) (bdF Tryz.f125)
structure StE where
  gs : Fnd Sta Int
  N : List Sta
  b : Bool
noncomputable abbrev hpE0 (s : Sta) (fl : Fr) (gs : Fnd Sta Int) (N : List Sta) : AH := [mE gs, .rows [[.mp 0]] 185, .rows [[.sm 3 3 0 N.length]] 246, .rows (N.map encSta) 150, .rows [encSta s] 150, lp125 fl]
noncomputable abbrev hpE1 (s : Sta) (fl : Fr) (gs : Fnd Sta Int) (N : List Sta) : AH := [mE gs, .rows [[.mp 0]] 185, .rows [[.sm 6 3 0 N.length]] 246, .dead, .rows [encSta s] 150, lp125 fl, .rows (N.map encSta) 150]
noncomputable def hpE (s : Sta) (fl : Fr) (st : StE) : AH := match st.b with
  | false => hpE0 s fl st.gs st.N
  | true => hpE1 s fl st.gs st.N
def rlxE (now : Int) (st : Fnd Sta Int × List Sta) (x : Cu.Stp) : Fnd Sta Int × List Sta := if x.at_.hi < max now x.at_.lo then st else relax tid st (x.to_, max now x.at_.lo)
theorem round125_0 (C : Chn) (ks : List Int) (al : List Entr) (s : Sta) (L : List Sta) (k : Nat) (gs : Fnd Sta Int) (N : List Sta) (now : Int) (hf : Cu.Full gs) (hN : N.length ≤ 6000) (hnow : timeOf tid gs s = now) (x : Cu.Stp) (z : AH) (hz : (∃ A B, z = [A, B]) ∨ ∃ A, z = [A]) (Q : AV → AH → Prop)
    (hQ : ∀ H' b, ReH 6 H' (hpE s (fl125 C ks al s L k) ⟨(rlxE now (gs, N) x).1, (rlxE now (gs, N) x).2, b⟩) → Q (vb true) H') :
    Rnd 5 [.agg (encStp x)] (hpE0 s (fl125 C ks al s L k) gs N ++ z) Q := by
  have l1 := fun H m hm => lookE (H := H) (m := m) gs s hm
  rw [hnow] at l1
  have l2 := fun H m hm => lookE2 (H := H) (m := m) gs hf x.to_ hm
  unfold rlxE at hQ; by_cases hhi : x.at_.hi < max now x.at_.lo
  · rw [if_pos hhi] at hQ
    rcases hz with ⟨A, B, rfl⟩ | ⟨A, rfl⟩
    all_goals
      refine ⟨_, _, _, _, _, _, rfl, rfl, ?_⟩
      (conv => whnf); repeat' (first | refine StepN.keep _ (l1 _ _ rfl) ?_ | refine vv3 ?_ | refine vv21 ?_ | refine vv22 ?_ | refine vv25 ?_ | refine Qd ?_) <;> conv => whnf
      refine hQ _ false ?_; show ReH 6 _ (hpE0 s (fl125 C ks al s L k) gs N); exact ReH.ids [0, 1, 2, 3, 4, 5] (by exact ⟨⟨_, rfl, mE_blk _, fun _ => rfl⟩, ⟨_, rfl, blkOk rfl rfl, fun _ => rfl⟩, ⟨_, rfl, blkOk rfl rfl, fun _ => rfl⟩, ⟨_, rfl, blkDeep rfl (deepMap (fun _ => rfl)), fun _ => rfl⟩, ⟨_, rfl, blkDeep rfl (deepLit rfl), fun _ => rfl⟩, ⟨_, rfl, blkLoop rfl rfl, fun _ => rfl⟩, trivial⟩) rfl rfl
  rw [if_neg hhi] at hQ; unfold relax at hQ
  cases hg : getG x.to_ gs with
  | none =>
    simp only [hg] at hQ; rw [hg] at l2
    rcases hz with ⟨A, B, rfl⟩ | ⟨A, rfl⟩
    · refine ⟨_, _, _, _, _, _, rfl, rfl, ?_⟩
      (conv => whnf); repeat' (first | refine StepN.keep _ (l1 _ _ rfl) ?_ | refine StepN.keep _ (l2 _ _ rfl) ?_ | refine StepN.mk .any _ (updE _ _ _ rfl) ?_ | refine vv1 ?_ | refine vv4 ?_ | refine vv21 ?_ | refine vv22 ?_ | refine vv25 ?_ | refine Qd ?_ | refine vv31 ?_ | refine vv33 ?_) <;> conv => whnf
      refine hQ _ true ?_; show ReH 6 _ (hpE1 s (fl125 C ks al s L k) (addG x.to_ (max now x.at_.lo) gs) (N ++ [x.to_])); exact ReH.ids [0, 1, 2, 3, 4, 5, 9] (by exact ⟨⟨_, rfl, mE_blk _, fun _ => rfl⟩, ⟨_, rfl, blkOk rfl rfl, fun _ => rfl⟩, ⟨_, rfl, blkOk rfl (smB (by simp)), fun _ => rfl⟩, ⟨_, rfl, blkDead, fun h => (by cases h)⟩, ⟨_, rfl, blkDeep rfl (deepLit rfl), fun _ => rfl⟩, ⟨_, rfl, blkLoop rfl rfl, fun _ => rfl⟩, ⟨_, rfl, blkDeep (by rw [List.map_append]; rfl) (deepMap (fun _ => rfl)), fun _ => rfl⟩, trivial⟩) rfl rfl
    refine ⟨_, _, _, _, _, _, rfl, rfl, ?_⟩
    (conv => whnf); repeat' (first | refine StepN.keep _ (l1 _ _ rfl) ?_ | refine StepN.keep _ (l2 _ _ rfl) ?_ | refine StepN.mk .any _ (updE _ _ _ rfl) ?_ | refine vv1 ?_ | refine vv4 ?_ | refine vv21 ?_ | refine vv22 ?_ | refine vv25 ?_ | refine Qd ?_ | refine vv31 ?_ | refine vv33 ?_) <;> conv => whnf
    refine hQ _ true ?_; show ReH 6 _ (hpE1 s (fl125 C ks al s L k) (addG x.to_ (max now x.at_.lo) gs) (N ++ [x.to_])); exact ReH.ids [0, 1, 2, 3, 4, 5, 8] (by exact ⟨⟨_, rfl, mE_blk _, fun _ => rfl⟩, ⟨_, rfl, blkOk rfl rfl, fun _ => rfl⟩, ⟨_, rfl, blkOk rfl (smB (by simp)), fun _ => rfl⟩, ⟨_, rfl, blkDead, fun h => (by cases h)⟩, ⟨_, rfl, blkDeep rfl (deepLit rfl), fun _ => rfl⟩, ⟨_, rfl, blkLoop rfl rfl, fun _ => rfl⟩, ⟨_, rfl, blkDeep (by rw [List.map_append]; rfl) (deepMap (fun _ => rfl)), fun _ => rfl⟩, trivial⟩) rfl rfl
  | some τ =>
    simp only [hg] at hQ; rw [hg] at l2; have ht : timeOf tid gs x.to_ = τ := by unfold timeOf; rw [hg]
    rw [ht] at l2; by_cases hlt : max now x.at_.lo < τ
    · rw [if_pos (show tid (max now x.at_.lo) < tid τ from hlt)] at hQ
      rcases hz with ⟨A, B, rfl⟩ | ⟨A, rfl⟩
      all_goals
        refine ⟨_, _, _, _, _, _, rfl, rfl, ?_⟩
        (conv => whnf); repeat' (first | refine StepN.keep _ (l1 _ _ rfl) ?_ | refine StepN.keep _ (l2 _ _ rfl) ?_ | refine StepN.mk .any _ (updE _ _ _ rfl) ?_ | refine vv2 ?_ | refine vv3 ?_ | refine vv4 ?_ | refine vv21 ?_ | refine vv22 ?_ | refine vv25 ?_ | refine Qd ?_) <;> conv => whnf
        refine hQ _ false ?_; show ReH 6 _ (hpE0 s (fl125 C ks al s L k) (addG x.to_ (max now x.at_.lo) gs) N); exact ReH.ids [0, 1, 2, 3, 4, 5] (by exact ⟨⟨_, rfl, mE_blk _, fun _ => rfl⟩, ⟨_, rfl, blkOk rfl rfl, fun _ => rfl⟩, ⟨_, rfl, blkOk rfl rfl, fun _ => rfl⟩, ⟨_, rfl, blkDeep rfl (deepMap (fun _ => rfl)), fun _ => rfl⟩, ⟨_, rfl, blkDeep rfl (deepLit rfl), fun _ => rfl⟩, ⟨_, rfl, blkLoop rfl rfl, fun _ => rfl⟩, trivial⟩) rfl rfl
    rw [if_neg (show ¬ tid (max now x.at_.lo) < tid τ from hlt)] at hQ
    rcases hz with ⟨A, B, rfl⟩ | ⟨A, rfl⟩
    all_goals
      refine ⟨_, _, _, _, _, _, rfl, rfl, ?_⟩
      (conv => whnf); repeat' (first | refine StepN.keep _ (l1 _ _ rfl) ?_ | refine StepN.keep _ (l2 _ _ rfl) ?_ | refine vv2 ?_ | refine vv4 ?_ | refine vv21 ?_ | refine vv22 ?_ | refine vv25 ?_ | refine Qd ?_) <;> conv => whnf
      refine hQ _ false ?_; show ReH 6 _ (hpE0 s (fl125 C ks al s L k) gs N); exact ReH.ids [0, 1, 2, 3, 4, 5] (by exact ⟨⟨_, rfl, mE_blk _, fun _ => rfl⟩, ⟨_, rfl, blkOk rfl rfl, fun _ => rfl⟩, ⟨_, rfl, blkOk rfl rfl, fun _ => rfl⟩, ⟨_, rfl, blkDeep rfl (deepMap (fun _ => rfl)), fun _ => rfl⟩, ⟨_, rfl, blkDeep rfl (deepLit rfl), fun _ => rfl⟩, ⟨_, rfl, blkLoop rfl rfl, fun _ => rfl⟩, trivial⟩) rfl rfl
theorem round125_1 (C : Chn) (ks : List Int) (al : List Entr) (s : Sta) (L : List Sta) (k : Nat) (gs : Fnd Sta Int) (N : List Sta) (now : Int) (hf : Cu.Full gs) (hN : N.length ≤ 6000) (hnow : timeOf tid gs s = now) (x : Cu.Stp) (z : AH) (hz : (∃ A B, z = [A, B]) ∨ ∃ A, z = [A]) (Q : AV → AH → Prop)
    (hQ : ∀ H' b, ReH 6 H' (hpE s (fl125 C ks al s L k) ⟨(rlxE now (gs, N) x).1, (rlxE now (gs, N) x).2, b⟩) → Q (vb true) H') :
    Rnd 5 [.agg (encStp x)] (hpE1 s (fl125 C ks al s L k) gs N ++ z) Q := by
  have l1 := fun H m hm => lookE (H := H) (m := m) gs s hm
  rw [hnow] at l1
  have l2 := fun H m hm => lookE2 (H := H) (m := m) gs hf x.to_ hm
  unfold rlxE at hQ; by_cases hhi : x.at_.hi < max now x.at_.lo
  · rw [if_pos hhi] at hQ
    rcases hz with ⟨A, B, rfl⟩ | ⟨A, rfl⟩
    all_goals
      refine ⟨_, _, _, _, _, _, rfl, rfl, ?_⟩
      (conv => whnf); repeat' (first | refine StepN.keep _ (l1 _ _ rfl) ?_ | refine vv3 ?_ | refine vv21 ?_ | refine vv22 ?_ | refine vv25 ?_ | refine Qd ?_) <;> conv => whnf
      refine hQ _ true ?_; show ReH 6 _ (hpE1 s (fl125 C ks al s L k) gs N); exact ReH.ids [0, 1, 2, 3, 4, 5, 6] (by exact ⟨⟨_, rfl, mE_blk _, fun _ => rfl⟩, ⟨_, rfl, blkOk rfl rfl, fun _ => rfl⟩, ⟨_, rfl, blkOk rfl rfl, fun _ => rfl⟩, ⟨_, rfl, blkDead, fun h => (by cases h)⟩, ⟨_, rfl, blkDeep rfl (deepLit rfl), fun _ => rfl⟩, ⟨_, rfl, blkLoop rfl rfl, fun _ => rfl⟩, ⟨_, rfl, blkDeep rfl (deepMap (fun _ => rfl)), fun _ => rfl⟩, trivial⟩) rfl rfl
  rw [if_neg hhi] at hQ; unfold relax at hQ
  cases hg : getG x.to_ gs with
  | none =>
    simp only [hg] at hQ; rw [hg] at l2
    rcases hz with ⟨A, B, rfl⟩ | ⟨A, rfl⟩
    · refine ⟨_, _, _, _, _, _, rfl, rfl, ?_⟩
      (conv => whnf); repeat' (first | refine StepN.keep _ (l1 _ _ rfl) ?_ | refine StepN.keep _ (l2 _ _ rfl) ?_ | refine StepN.mk .any _ (updE _ _ _ rfl) ?_ | refine vv1 ?_ | refine vv4 ?_ | refine vv21 ?_ | refine vv22 ?_ | refine vv25 ?_ | refine Qd ?_ | refine vv31 ?_ | refine vv33 ?_) <;> conv => whnf
      refine hQ _ true ?_; show ReH 6 _ (hpE1 s (fl125 C ks al s L k) (addG x.to_ (max now x.at_.lo) gs) (N ++ [x.to_])); exact ReH.ids [0, 1, 2, 3, 4, 5, 10] (by exact ⟨⟨_, rfl, mE_blk _, fun _ => rfl⟩, ⟨_, rfl, blkOk rfl rfl, fun _ => rfl⟩, ⟨_, rfl, blkOk rfl (smB (by simp)), fun _ => rfl⟩, ⟨_, rfl, blkDead, fun h => (by cases h)⟩, ⟨_, rfl, blkDeep rfl (deepLit rfl), fun _ => rfl⟩, ⟨_, rfl, blkLoop rfl rfl, fun _ => rfl⟩, ⟨_, rfl, blkDeep (by rw [List.map_append]; rfl) (deepMap (fun _ => rfl)), fun _ => rfl⟩, trivial⟩) rfl rfl
    refine ⟨_, _, _, _, _, _, rfl, rfl, ?_⟩
    (conv => whnf); repeat' (first | refine StepN.keep _ (l1 _ _ rfl) ?_ | refine StepN.keep _ (l2 _ _ rfl) ?_ | refine StepN.mk .any _ (updE _ _ _ rfl) ?_ | refine vv1 ?_ | refine vv4 ?_ | refine vv21 ?_ | refine vv22 ?_ | refine vv25 ?_ | refine Qd ?_ | refine vv31 ?_ | refine vv33 ?_) <;> conv => whnf
    refine hQ _ true ?_; show ReH 6 _ (hpE1 s (fl125 C ks al s L k) (addG x.to_ (max now x.at_.lo) gs) (N ++ [x.to_])); exact ReH.ids [0, 1, 2, 3, 4, 5, 9] (by exact ⟨⟨_, rfl, mE_blk _, fun _ => rfl⟩, ⟨_, rfl, blkOk rfl rfl, fun _ => rfl⟩, ⟨_, rfl, blkOk rfl (smB (by simp)), fun _ => rfl⟩, ⟨_, rfl, blkDead, fun h => (by cases h)⟩, ⟨_, rfl, blkDeep rfl (deepLit rfl), fun _ => rfl⟩, ⟨_, rfl, blkLoop rfl rfl, fun _ => rfl⟩, ⟨_, rfl, blkDeep (by rw [List.map_append]; rfl) (deepMap (fun _ => rfl)), fun _ => rfl⟩, trivial⟩) rfl rfl
  | some τ =>
    simp only [hg] at hQ; rw [hg] at l2; have ht : timeOf tid gs x.to_ = τ := by unfold timeOf; rw [hg]
    rw [ht] at l2; by_cases hlt : max now x.at_.lo < τ
    · rw [if_pos (show tid (max now x.at_.lo) < tid τ from hlt)] at hQ
      rcases hz with ⟨A, B, rfl⟩ | ⟨A, rfl⟩
      all_goals
        refine ⟨_, _, _, _, _, _, rfl, rfl, ?_⟩
        (conv => whnf); repeat' (first | refine StepN.keep _ (l1 _ _ rfl) ?_ | refine StepN.keep _ (l2 _ _ rfl) ?_ | refine StepN.mk .any _ (updE _ _ _ rfl) ?_ | refine vv2 ?_ | refine vv3 ?_ | refine vv4 ?_ | refine vv21 ?_ | refine vv22 ?_ | refine vv25 ?_ | refine Qd ?_) <;> conv => whnf
        refine hQ _ true ?_; show ReH 6 _ (hpE1 s (fl125 C ks al s L k) (addG x.to_ (max now x.at_.lo) gs) N); exact ReH.ids [0, 1, 2, 3, 4, 5, 6] (by exact ⟨⟨_, rfl, mE_blk _, fun _ => rfl⟩, ⟨_, rfl, blkOk rfl rfl, fun _ => rfl⟩, ⟨_, rfl, blkOk rfl rfl, fun _ => rfl⟩, ⟨_, rfl, blkDead, fun h => (by cases h)⟩, ⟨_, rfl, blkDeep rfl (deepLit rfl), fun _ => rfl⟩, ⟨_, rfl, blkLoop rfl rfl, fun _ => rfl⟩, ⟨_, rfl, blkDeep rfl (deepMap (fun _ => rfl)), fun _ => rfl⟩, trivial⟩) rfl rfl
    rw [if_neg (show ¬ tid (max now x.at_.lo) < tid τ from hlt)] at hQ
    rcases hz with ⟨A, B, rfl⟩ | ⟨A, rfl⟩
    all_goals
      refine ⟨_, _, _, _, _, _, rfl, rfl, ?_⟩
      (conv => whnf); repeat' (first | refine StepN.keep _ (l1 _ _ rfl) ?_ | refine StepN.keep _ (l2 _ _ rfl) ?_ | refine vv2 ?_ | refine vv4 ?_ | refine vv21 ?_ | refine vv22 ?_ | refine vv25 ?_ | refine Qd ?_) <;> conv => whnf
      refine hQ _ true ?_; show ReH 6 _ (hpE1 s (fl125 C ks al s L k) gs N); exact ReH.ids [0, 1, 2, 3, 4, 5, 6] (by exact ⟨⟨_, rfl, mE_blk _, fun _ => rfl⟩, ⟨_, rfl, blkOk rfl rfl, fun _ => rfl⟩, ⟨_, rfl, blkOk rfl rfl, fun _ => rfl⟩, ⟨_, rfl, blkDead, fun h => (by cases h)⟩, ⟨_, rfl, blkDeep rfl (deepLit rfl), fun _ => rfl⟩, ⟨_, rfl, blkLoop rfl rfl, fun _ => rfl⟩, ⟨_, rfl, blkDeep rfl (deepMap (fun _ => rfl)), fun _ => rfl⟩, trivial⟩) rfl rfl
end
section
theorem layerL_none {Q T : Type} [DecidableEq Q] (time : T → Int) (ways : Q → Int → List (Q × T)) : ∀ (L : List Q) (st : Fnd Q T × List Q), layerL time ways (fun _ => false) L st = (none, L.foldl (Cu.expand time ways) st)
  | [], st => rfl
  | q :: r, st => by
    rw [layerL, if_neg (by simp), layerL_none time ways r]; rfl
theorem stW_snoc (now : Int) (d : List Cu.Stp) (x : Cu.Stp) (st : Fnd Sta Int × List Sta) : (stW now (d ++ [x])).foldl (relax tid) st = rlxE now ((stW now d).foldl (relax tid) st) x := by
  unfold stW rlxE; rw [List.flatMap_append, List.foldl_append, List.flatMap_cons, List.flatMap_nil, List.append_nil]; split <;> rfl
def RE (C : Chn) (s : Sta) (now : Int) (gs : Fnd Sta Int) (N : List Sta) (d : List Cu.Stp) (st : StE) : Prop := (∀ y ∈ d, y ∈ stepsS C s) ∧ (stW now d).foldl (relax tid) (gs, N) = (st.gs, st.N)
theorem early_ef {C : Chn} (hC : CB C) (hk : Kinds C) (ks : List Int) (al : List Entr) : Ef Tryz.prog G1 125 [kV C ks al] [] fun y H' => y = .mp 0 ∧ H' = [mE (earlyS C)] := by
  have ok := hC.ok; have wok := early_ok C; have hl0 := lvl_s00 C; refine Ef.reabs (Ef.of_ev (T := Tryz.tab) (n := 70) (tryd_okm 0 _) rfl Tryz.func125 rfl rfl (by simp) ?_)
  repeat' ((conv => whnf); first | refine StepN.mkMap 0 rfl Tryz.underlying185 ?_ | refine StepN.mk .any _ (updE (H := [.amap [] 0]) (m := 0) [] s00 0 rfl) ?_ | refine vv22 ?_)
  refine LoopN.re (Reabs.slot 4 (stas [s00]) (by exact WkC.loose 3 [encSta s00])) ?_; refine LoopN.of3 (tryd_okm 0 _) (fun (f : Nat) (gs : Fnd Sta Int) (L : List Sta) => [(0, kV C ks al), (3, .pm 1 0 0), (4, stas L)]) (fun f gs L => [mE gs, .rows [[.mp 0]] 185]) (fun f gs L => f) (fun f gs L => L.Nodup ∧ ∃ k, k + f = fuelE C ∧ Lay tid (earlyW C) (lvlS C) s00 k gs L ∧ (searchL tid (earlyW C) (fun _ => false) f gs L).2 = earlyS C) (fuelE C) [(s00, [0])] [s00] ⟨by simp, 0, Nat.zero_add _, early_start C, rfl⟩ (QM [0, 1] (hb := Ql rfl (mE_blk _) (bv1 bv0))) ?_; rintro f gs L ⟨hnd, k, hf, hL, hsr⟩; have hlen : L.length ≤ 5120 := layE_len ok hk hC.el hC.pl hL hnd; by_cases hne : L = []
  · subst hne
    have e : gs = earlyS C := by
      rw [← hsr]
      cases f <;> rfl
    subst e
    (conv => whnf); repeat' (first | refine vv2 ?_ | refine vv21 ?_ | refine vv23 ?_) <;> conv => whnf
    exact ⟨⟨_, [mE (earlyS C)], QM [0] (hb := Ql rfl (mE_blk _) bv0), rfl, rfl⟩⟩
  have hpos : 0 < L.length := List.length_pos_iff.2 hne
  repeat' ((conv => whnf); first | refine vv7 ?_ | refine vv23 ?_)
  refine LoopN.re ((Reabs.more 150).trans (Reabs.cells 2 [[nilA]] [[.sm 3 3 0 0]] 246 rfl (show WkB [[nilA]] [[.sm 3 3 0 0]] from ⟨⟨WkC.nilSm _ _, trivial⟩, trivial⟩))) ?_; refine LoopN.of3 (tryd_okm 0 _) (fun (i : Nat) (gs' : Fnd Sta Int) (N : List Sta) => [(0, kV C ks al), (3, .pm 1 0 0), (5, .pm 2 0 0), (20, stas L), (21, vi L.length), (22, vi i)]) (fun i gs' N => [mE gs', .rows [[.mp 0]] 185, .rows [[.sm 3 3 0 N.length]] 246, .rows (N.map encSta) 150]) (fun i gs' N => L.length - i) (fun i gs' N => i ≤ L.length ∧ (L.take i).foldl (Cu.expand tid (earlyW C)) (gs, []) = (gs', N) ∧ MidE C k gs (L.take i) gs' N) 0 gs [] ⟨Nat.zero_le _, rfl, hL.mid⟩ (QM [0, 1, 2, 3] (hb := Ql rfl (mE_blk _) (bv1 (bv1 (bv1 bv0))))) ?_; rintro i gs' N ⟨hi, hfo, hM⟩; by_cases hlt : i < L.length
  · have hst := steps_ok C ks al L[i]
    (conv => whnf); repeat' (first | refine SlIdxN.map i rfl hlt ?_ | refine vv7 ?_ | refine vv21 ?_ | refine vv22 ?_ | refine Qp hst ?_) <;> conv => whnf
    refine RangeN.re (l' := fl125 C ks al L[i] L i) (H' := [mE gs', .rows [[.mp 0]] 185, .rows [[.sm 3 3 0 N.length]] 246, .rows (N.map encSta) 150, .rows [encSta L[i]] 150]) (QM [0, 1, 2, 3, 4] (hb := Ql rfl (mE_blk _) (bv1 (bv1 (bv1 (bv1 bv0)))))) ?_; obtain ⟨⟨tp, hg⟩, hlv⟩ := (hL.mem _).1 (List.getElem_mem hlt)
    have hsb : SB C L[i] := by
      have h1 := midE_pos ok hk hL hL.mid hg; exact pos_sb ok h1.1
    have hg' : getG L[i] gs' = some tp := by rw [hM.old _ (by omega), hg]
    have hnow : timeOf tid gs' L[i] = tp := by rw [timeOf_some hg']
    refine RangeN.of (tryd_okm 0 _) rfl rfl (steps1_ok hC ks al hsb (hpE L[i] (fl125 C ks al L[i] L i)) 6 5 (RE C L[i] tp gs' N) ⟨gs', N, false⟩ ⟨(fun y hy => absurd hy List.not_mem_nil), rfl⟩ rfl (by omega) ?_ ?_) ?_
    · rintro d ⟨gs2, N2, b⟩ _
      cases b
      exact ⟨Nat.le_refl _, OkBs.all (bs := hpE0 _ _ _ _) ⟨mE_ok _ _, okRows rfl, okRows rfl, okDeep (deepR (fun _ => rfl)) _, okRows rfl, okLoop rfl, trivial⟩⟩; exact ⟨Nat.le_succ _, OkBs.all (bs := hpE1 _ _ _ _) ⟨mE_ok _ _, okRows rfl, okRows rfl, trivial, okRows rfl, okLoop rfl, okDeep (deepR (fun _ => rfl)) _, trivial⟩⟩
    · rintro d x ⟨gs2, N2, b⟩ hx ⟨hsub, hfold⟩ A B; have hM2 := (Mid.wayz wok hl0 hlv hg (stW tp d) gs' N (stW_sub hsub) hM).1; rw [hfold] at hM2; have hg2 : getG L[i] gs2 = some tp := by rw [hM2.old _ (by omega), hg]
      have hn2 : timeOf tid gs2 L[i] = tp := by rw [timeOf_some hg2]
      have hl2 : N2.length ≤ 5120 := midE_len ok hk hC.el hC.pl hL hM2
      have hR2 : ∀ b', RE C L[i] tp gs' N (d ++ [x]) ⟨(rlxE tp (gs2, N2) x).1, (rlxE tp (gs2, N2) x).2, b'⟩ := fun b' => ⟨fun y hy => by
        rcases List.mem_append.1 hy with hy | hy
        exact hsub y hy
        rw [List.mem_singleton.1 hy]; exact hx, by rw [stW_snoc, hfold]⟩
      cases b
      exact ⟨round125_0 C ks al L[i] L i gs2 N2 tp hM2.full (by omega) hn2 x [A, B] (.inl ⟨A, B, rfl⟩) _ (fun H' b' h => ⟨rfl, _, hR2 b', h⟩), round125_0 C ks al L[i] L i gs2 N2 tp hM2.full (by omega) hn2 x [A] (.inr ⟨A, rfl⟩) _ (fun H' b' h => ⟨rfl, _, hR2 b', h⟩)⟩; exact ⟨round125_1 C ks al L[i] L i gs2 N2 tp hM2.full (by omega) hn2 x [A, B] (.inl ⟨A, B, rfl⟩) _ (fun H' b' h => ⟨rfl, _, hR2 b', h⟩), round125_1 C ks al L[i] L i gs2 N2 tp hM2.full (by omega) hn2 x [A] (.inr ⟨A, rfl⟩) _ (fun H' b' h => ⟨rfl, _, hR2 b', h⟩)⟩
    rintro y H' ⟨⟨gs2, N2, b⟩, ⟨-, hfold⟩, rfl, rfl⟩
    have hex : Cu.expand tid (earlyW C) (gs', N) L[i] = (gs2, N2) := by
      unfold Cu.expand; rw [hnow]; exact hfold
    have hM2 := hM.expand wok hl0 hlv hg; rw [hex, ← take_succ_snoc hlt] at hM2
    have hfo2 : (L.take (i + 1)).foldl (Cu.expand tid (earlyW C)) (gs, []) = (gs2, N2) := by
      rw [take_succ_snoc hlt, List.foldl_append, hfo]; exact hex
    cases b
    · conv => whnf
      refine ⟨nofun, ?_⟩
      repeat' ((conv => whnf); first | refine vv20 ?_)
      exact BackN3.mk (i + 1) gs2 N2 ⟨by omega, hfo2, hM2⟩ (by omega) (QM [0, 1, 2, 3] (hb := Ql rfl (mE_blk _) (bv1 (bv1 (bv1 bv0)))))
    conv => whnf
    refine ⟨nofun, ?_⟩
    repeat' ((conv => whnf); first | refine vv20 ?_)
    exact BackN3.mk (i + 1) gs2 N2 ⟨by omega, hfo2, hM2⟩ (by omega) (QM [0, 1, 2, 6] (hb := Ql rfl (mE_blk _) (bv1 (bv1 (bv1 bv0)))))
  obtain rfl : i = L.length := by omega
  rw [List.take_length] at hfo hM; have hL2 := hM.next wok hl0 hL
  obtain ⟨f, rfl⟩ : ∃ g, f = g + 1 := by
    cases f with
    | succ g => exact ⟨g, rfl⟩
    | zero =>
      exfalso; obtain ⟨q, hq⟩ := List.exists_mem_of_ne_nil L hne; obtain ⟨⟨t, hg⟩, hlv⟩ := (hL.mem q).1 hq; have := early_fuel ok (hL.ptrs.get wok hg); omega
  have hsr2 : (searchL tid (earlyW C) (fun _ => false) f gs' N).2 = earlyS C := by
    rw [← hsr]
    conv => rhs; rw [searchL, if_neg hne, layerL_none, hfo]
  repeat' ((conv => whnf); first | refine vv8 ?_ | refine vv21 ?_)
  refine BackN3.mk f gs' N ⟨hM.ndN, k + 1, by omega, hL2, hsr2⟩ (by omega) ?_; have hz : AV.frz0 3 (N.map encSta) (.sm 3 3 0 N.length) = stas N := frz_all (by rw [List.length_map]); exact (Reabs.frz 3 (N.map encSta) 150 rfl (deepR (fun _ => rfl))).trans (QM [0, 1] (hs := by exact ⟨.inr ⟨rfl, rfl⟩, .inr ⟨rfl, rfl⟩, .inr ⟨rfl, hz⟩, trivial⟩) (hb := Ql rfl ((by show Blk _ _ ((mE gs').frz 3 _) _; rw [mE_frz]; exact mE_blk _)) (bv1 bv0)))
end
section
theorem nth_frz {gs : Fnd Sta Int} {id : Nat} {rs : List (List AV)} {H : AH} : nthB (frzH (id + 1) rs (mE gs :: H)) 0 = some (mE gs) := by
  show some ((mE gs).frz (id + 1) rs) = _; rw [mE_frz]
theorem late_in {F : Nat} {C : Chn} {ks : List Int} {al : List Entr} {s : Sta} {gs : Fnd Sta Int} (h : Ef Tryz.prog G1 126 [kV C ks al, kS s, .mp 0] [mE gs] fun y H' => y = vi (lateM C F s gs).1 ∧ H' = [mE (lateM C F s gs).2]) (H : AH) (i : Nat) (hi : nthB H i = some (mE gs)) :
    Ef Tryz.prog G1 126 [kV C ks al, kS s, .mp i] H fun y H' => y = vi (lateM C F s gs).1 ∧ H' = H.set i (mE (lateM C F s gs).2) := by
  refine Ef.subD h rfl (Nat.le_refl _) ⟨mE_ok _ _, trivial⟩ [i] (by simp) ⟨⟨_, hi, mE_blk _, fun _ => rfl⟩, trivial⟩ rfl (fun x hx => ?_) rfl ?_
  · simp only [List.mem_cons, List.not_mem_nil, or_false] at hx
    rcases hx with rfl | rfl | rfl <;> rfl
  show H.set i ((mE (lateM C F s gs).2).ren _) ++ [] = _; rw [List.append_nil, vB_ren (fun _ _ _ => ⟨rfl, rfl⟩) (fun _ _ _ => ⟨rfl, rfl⟩)]
abbrev fl126 (C : Chn) (ks : List Int) (al : List Entr) (s : Sta) : Fr := [(3, .pm 1 0 0), (4, .pm 2 0 0), (5, .pm 3 0 0), (9, .pm 4 0 0), (25, .fn (.func 179) [] [.pi [kV C ks al], .pi (encSta s)])]
noncomputable abbrev lp126 (fl : Fr) : ABlk := .loop .ready none (frm 0 fl 48) #[26] (asF Tryz.f126) (bdF Tryz.f126)
noncomputable abbrev hpL (C : Chn) (ks : List Int) (al : List Entr) (s : Sta) (acc : Int × Fnd Sta Int) : AH := [mE acc.2, .rows [[kV C ks al]] 119, .rows [encSta s] 150, .rows [[.mp 0]] 185, .rows [[vi acc.1]] 3, lp126 (fl126 C ks al s)]
theorem round126 {C : Chn} {ks : List Int} {al : List Entr} {s : Sta} {acc : Int × Fnd Sta Int} {F : Nat} {x : Cu.Stp} (h : Ef Tryz.prog G1 126 [kV C ks al, kS x.to_, .mp 0] [mE acc.2] fun y H' => y = vi (lateM C F x.to_ acc.2).1 ∧ H' = [mE (lateM C F x.to_ acc.2).2])
    (z : AH) (hz : (∃ A B, z = [A, B]) ∨ ∃ A, z = [A]) (Q : AV → AH → Prop) (hQ : ∀ H', ReH 6 H' (hpL C ks al s (lateT (lateM C F) acc x)) → Q (vb true) H') :
    Rnd 5 [.agg (encStp x)] (hpL C ks al s acc ++ z) Q := by
  have hl := late_in h; unfold lateT at hQ; generalize lateM C F x.to_ acc.2 = r at *; obtain ⟨lt, gs2⟩ := r; obtain ⟨b, gs⟩ := acc; simp only at hl hQ; by_cases hlo : x.at_.lo ≤ min x.at_.hi lt
  · rw [if_pos hlo] at hQ
    rcases hz with ⟨A, B, rfl⟩ | ⟨A, rfl⟩
    · refine ⟨_, _, _, _, _, _, rfl, rfl, ?_⟩
      (conv => whnf); repeat' (first | refine DrawN.re (Reabs.frz 8 _ _ rfl (deepAll rfl)) ?_ | refine GCallN.ef (hl _ _ nth_frz) ?_ | refine vv3 ?_ | refine vv21 ?_ | refine vv22 ?_ | refine vv25 ?_ | refine Qd ?_) <;> conv => whnf
      refine hQ _ ?_; exact ReH.ids [0, 1, 2, 3, 4, 5] (by exact ⟨⟨_, rfl, mE_blk _, fun _ => rfl⟩, ⟨_, rfl, blkOk rfl rfl, fun _ => rfl⟩, ⟨_, rfl, blkOk rfl rfl, fun _ => rfl⟩, ⟨_, rfl, blkOk rfl rfl, fun _ => rfl⟩, ⟨_, rfl, blkOk rfl rfl, fun _ => rfl⟩, ⟨_, rfl, blkLoop rfl rfl, fun _ => rfl⟩, trivial⟩) rfl rfl
    refine ⟨_, _, _, _, _, _, rfl, rfl, ?_⟩
    (conv => whnf); repeat' (first | refine DrawN.re (Reabs.frz 7 _ _ rfl (deepAll rfl)) ?_ | refine GCallN.ef (hl _ _ nth_frz) ?_ | refine vv3 ?_ | refine vv21 ?_ | refine vv22 ?_ | refine vv25 ?_ | refine Qd ?_) <;> conv => whnf
    refine hQ _ ?_; exact ReH.ids [0, 1, 2, 3, 4, 5] (by exact ⟨⟨_, rfl, mE_blk _, fun _ => rfl⟩, ⟨_, rfl, blkOk rfl rfl, fun _ => rfl⟩, ⟨_, rfl, blkOk rfl rfl, fun _ => rfl⟩, ⟨_, rfl, blkOk rfl rfl, fun _ => rfl⟩, ⟨_, rfl, blkOk rfl rfl, fun _ => rfl⟩, ⟨_, rfl, blkLoop rfl rfl, fun _ => rfl⟩, trivial⟩) rfl rfl
  rw [if_neg hlo] at hQ
  rcases hz with ⟨A, B, rfl⟩ | ⟨A, rfl⟩
  · refine ⟨_, _, _, _, _, _, rfl, rfl, ?_⟩
    (conv => whnf); repeat' (first | refine DrawN.re (Reabs.frz 8 _ _ rfl (deepAll rfl)) ?_ | refine GCallN.ef (hl _ _ nth_frz) ?_ | refine vv4 ?_ | refine vv21 ?_ | refine vv22 ?_ | refine vv25 ?_ | refine Qd ?_) <;> conv => whnf
    refine hQ _ ?_; exact ReH.ids [0, 1, 2, 3, 4, 5] (by exact ⟨⟨_, rfl, mE_blk _, fun _ => rfl⟩, ⟨_, rfl, blkOk rfl rfl, fun _ => rfl⟩, ⟨_, rfl, blkOk rfl rfl, fun _ => rfl⟩, ⟨_, rfl, blkOk rfl rfl, fun _ => rfl⟩, ⟨_, rfl, blkOk rfl rfl, fun _ => rfl⟩, ⟨_, rfl, blkLoop rfl rfl, fun _ => rfl⟩, trivial⟩) rfl rfl
  refine ⟨_, _, _, _, _, _, rfl, rfl, ?_⟩
  (conv => whnf); repeat' (first | refine DrawN.re (Reabs.frz 7 _ _ rfl (deepAll rfl)) ?_ | refine GCallN.ef (hl _ _ nth_frz) ?_ | refine vv4 ?_ | refine vv21 ?_ | refine vv22 ?_ | refine vv25 ?_ | refine Qd ?_) <;> conv => whnf
  refine hQ _ ?_; exact ReH.ids [0, 1, 2, 3, 4, 5] (by exact ⟨⟨_, rfl, mE_blk _, fun _ => rfl⟩, ⟨_, rfl, blkOk rfl rfl, fun _ => rfl⟩, ⟨_, rfl, blkOk rfl rfl, fun _ => rfl⟩, ⟨_, rfl, blkOk rfl rfl, fun _ => rfl⟩, ⟨_, rfl, blkOk rfl rfl, fun _ => rfl⟩, ⟨_, rfl, blkLoop rfl rfl, fun _ => rfl⟩, trivial⟩) rfl rfl
def RL (C : Chn) (F : Nat) (s : Sta) (gs : Fnd Sta Int) (d : List Cu.Stp) (acc : Int × Fnd Sta Int) : Prop := (∀ y ∈ d, y ∈ stepsS C s) ∧ Cu.Full acc.2 ∧ acc = d.foldl (lateT (lateM C F)) (-1, gs)
theorem late_ef {C : Chn} (hC : CB C) (ks : List Int) (al : List Entr) : ∀ (F : Nat) (s : Sta) (gs : Fnd Sta Int), SB C s → Cu.Full gs → topL C < lvlS C s + F → Ef Tryz.prog G1 126 [kV C ks al, kS s, .mp 0] [mE gs] fun y H' => y = vi (lateM C F s gs).1 ∧ H' = [mE (lateM C F s gs).2]
  | 0, s, gs, hs, hf, ht => by
    have := lvl_top hC.ok hs.gaps; omega
  | F + 1, s, gs, hs, hf, ht => by
    have l2 := fun H m hm => lookE2 (H := H) (m := m) gs hf s hm
    have ha := all_ok hC ks al (s := s); unfold lateM; by_cases hall : allS C s = true
    · rw [if_pos hall]; rw [hall] at ha; refine Ef.reabs (Ef.of_ev (T := Tryz.tab) (n := 48) (tryd_okm 1 _) rfl Tryz.func126 rfl rfl (by simp) ?_)
      (conv => whnf); repeat' (first | refine vv1 ?_ | refine vv21 ?_ | refine Qp ha ?_) <;> conv => whnf
      exact ⟨⟨_, [mE gs], QM [0] (hb := Ql rfl (mE_blk _) bv0), rfl, rfl⟩⟩
    rw [if_neg hall]; rw [Bool.eq_false_iff.2 hall] at ha
    cases hg : getG s gs with
    | some t =>
      have htt : timeOf tid gs s = t := by unfold timeOf; rw [hg]
      rw [hg, htt] at l2; refine Ef.reabs (Ef.of_ev (T := Tryz.tab) (n := 48) (tryd_okm 1 _) rfl Tryz.func126 rfl rfl (by simp) ?_)
      (conv => whnf); repeat' (first | refine StepN.keep _ (l2 _ _ rfl) ?_ | refine vv1 ?_ | refine vv2 ?_ | refine vv21 ?_ | refine Qp ha ?_) <;> conv => whnf
      exact ⟨⟨_, [mE gs], QM [0] (hb := Ql rfl (mE_blk _) bv0), rfl, rfl⟩⟩
    | none =>
      rw [hg] at l2; have hst := steps_ok C ks al s; refine Ef.reabs (Ef.of_ev (T := Tryz.tab) (n := 48) (tryd_okm 1 _) rfl Tryz.func126 rfl rfl (by simp) ?_)
      (conv => whnf); repeat' (first | refine StepN.keep _ (l2 _ _ rfl) ?_ | refine vv2 ?_ | refine vv21 ?_ | refine vv22 ?_ | refine Qp ha ?_ | refine Qp hst ?_) <;> conv => whnf
      refine RangeN.re (l' := fl126 C ks al s) (H' := [mE gs, .rows [[kV C ks al]] 119, .rows [encSta s] 150, .rows [[.mp 0]] 185, .rows [[vi (-1)]] 3]) (QM [0, 1, 2, 3, 4] (hb := Ql rfl (mE_blk _) (bv1 (bv1 (bv1 (bv1 bv0)))))) ?_; refine RangeN.of (tryd_okm 1 _) rfl rfl (steps1_ok hC ks al hs (hpL C ks al s) 6 5 (RL C F s gs) (-1, gs) ⟨(fun y hy => absurd hy List.not_mem_nil), hf, rfl⟩ rfl (by omega) ?_ ?_) ?_
      · rintro d ⟨b, gs2⟩ _; exact ⟨Nat.le_refl _, OkBs.all ⟨mE_ok _ _, okRows rfl, okRows rfl, okRows rfl, okRows rfl, okLoop rfl, trivial⟩⟩
      · rintro d x acc hx ⟨hsub, hfu, hfold⟩ A B; have hrec := late_ef hC ks al F x.to_ acc.2 (steps_bd hs hx) hfu (by have := step_lvl hx; omega)
        have hR2 : RL C F s gs (d ++ [x]) (lateT (lateM C F) acc x) := ⟨fun y hy => by
          rcases List.mem_append.1 hy with hy | hy
          exact hsub y hy
          rw [List.mem_singleton.1 hy]; exact hx, lateM_full _ _ _ hfu, by rw [List.foldl_append, ← hfold]; rfl⟩
        exact ⟨round126 hrec [A, B] (.inl ⟨A, B, rfl⟩) _ (fun H' h => ⟨rfl, _, hR2, h⟩), round126 hrec [A] (.inr ⟨A, rfl⟩) _ (fun H' h => ⟨rfl, _, hR2, h⟩)⟩
      rintro y H' ⟨acc, ⟨-, hfu, hfold⟩, rfl, rfl⟩; rw [← hfold]; obtain ⟨b, gs2⟩ := acc
      conv => whnf
      refine ⟨nofun, ?_⟩
      (conv => whnf); repeat' (first | refine StepN.mk .any _ (updE gs2 s b rfl) ?_ | refine vv21 ?_) <;> conv => whnf
      exact ⟨⟨_, [mE (addG s b gs2)], QM [0] (hb := Ql rfl (mE_blk _) bv0), rfl, rfl⟩⟩
end
section
theorem nan_ok (a : Int) : Pu Tryz.prog G1 216 [vi a] (vb false) := by
  refine Qh 6 Tryz.func216 rfl rfl ?_
  (conv => whnf)
  refine DoneN.pure ?_; simp
theorem less_ok (a b : Int) : Pu Tryz.prog G1 190 [vi a, vi b] (vb (decide (a < b))) := by
  refine Qh 17 Tryz.func190 rfl rfl ?_
  (conv => whnf); repeat' (first | refine vv2 ?_ | refine Qp (nan_ok a) ?_) <;> conv => whnf
  all_goals exact DoneN.pure rfl
abbrev gt (o : List Int) (a : Nat) : Int := o.getD a 0
theorem gt_get {o : List Int} {a : Nat} (h : a < o.length) : o[a] = gt o a := by simp [gt, h]
theorem gt_set {o : List Int} {j m : Nat} {v : Int} (h : j < o.length) : gt (o.set j v) m = if m = j then v else gt o m := by
  unfold gt; rw [List.getD_eq_getElem?_getD, List.getElem?_set, List.getD_eq_getElem?_getD]; by_cases e : j = m
  subst e; simp [h]; rw [if_neg e, if_neg (fun e' => e e'.symm)]
abbrev swp (o : List Int) (j : Nat) : List Int := (o.set j (gt o (j - 1))).set (j - 1) (gt o j)
theorem gt_swp {o : List Int} {j m : Nat} (h : j < o.length) (h0 : 0 < j) : gt (swp o j) m = if m = j - 1 then gt o j else if m = j then gt o (j - 1) else gt o m := by rw [gt_set (by simp; omega), gt_set h]
theorem swp_perm {o : List Int} {j : Nat} (h : j < o.length) (h0 : 0 < j) : (swp o j).Perm o := by
  have := List.set_set_perm h (by omega : j - 1 < o.length); rw [gt_get h, gt_get (by omega : j - 1 < o.length)] at this; exact this
def Up (o : List Int) (i : Nat) : Prop := ∀ a b, a < b → b < i → gt o a ≤ gt o b
structure InsI (o0 o : List Int) (i j : Nat) : Prop where
  perm : o.Perm o0
  le : j ≤ i
  lt : i < o0.length
  s1 : ∀ a b, a < b → b ≤ i → a ≠ j → b ≠ j → gt o a ≤ gt o b
  s2 : ∀ b, j < b → b ≤ i → gt o j < gt o b
theorem InsI.start {o0 o : List Int} {i : Nat} (hp : o.Perm o0) (hi : i < o0.length) (h : Up o i) : InsI o0 o i i := ⟨hp, Nat.le_refl _, hi, fun a b h1 h2 h3 h4 => h a b h1 (by omega), fun b h1 h2 => by omega⟩
theorem InsI.swap {o0 o : List Int} {i j : Nat} (h : InsI o0 o i j) (h0 : 0 < j) (hlt : gt o j < gt o (j - 1)) : InsI o0 (swp o j) i (j - 1) := by
  have hl := h.perm.length_eq; have hle := h.le; have hil := h.lt; have hj : j < o.length := by omega
  refine ⟨(swp_perm hj h0).trans h.perm, by omega, hil, fun a b h1 h2 h3 h4 => ?_, fun b h1 h2 => ?_⟩
  · rw [gt_swp hj h0, gt_swp hj h0, if_neg h3, if_neg h4]; by_cases ea : a = j
    · rw [if_pos ea, if_neg (by omega)]; exact h.s1 _ _ (by omega) h2 (by omega) (by omega)
    rw [if_neg ea]; by_cases eb : b = j
    · rw [if_pos eb]; exact h.s1 _ _ (by omega) (by omega) ea (by omega)
    rw [if_neg eb]; exact h.s1 _ _ h1 h2 ea eb
  rw [gt_swp hj h0, gt_swp hj h0, if_pos rfl, if_neg (by omega)]; by_cases eb : b = j
  rw [if_pos eb]; exact hlt; rw [if_neg eb]; exact h.s2 b (by omega) h2
theorem InsI.stop {o0 o : List Int} {i j : Nat} (h : InsI o0 o i j) (hs : j = 0 ∨ ¬ gt o j < gt o (j - 1)) : Up o (i + 1) := by
  intro a b h1 h2; by_cases ea : a = j
  · subst ea; have := h.s2 b h1 (by omega); omega
  by_cases eb : b = j
  · subst eb
    rcases hs with hs | hs
    omega; by_cases e : a = b - 1
    subst e; omega; have := h.s1 a (b - 1) (by omega) (by have := h.le; omega) ea (by omega); omega
  exact h.s1 a b h1 (by omega) ea eb
theorem up_sorted {o : List Int} (h : Up o o.length) : o.Pairwise (· ≤ ·) := by
  rw [List.pairwise_iff_getElem]; intro i j hi hj hij; rw [gt_get hi, gt_get hj]; exact h i j hij hj
abbrev sortL (o : List Int) : List Int := o.mergeSort fun a b => decide (a ≤ b)
theorem sorted_eq {o o0 : List Int} (hp : o.Perm o0) (hs : o.Pairwise (· ≤ ·)) : o = sortL o0 := by
  have h1 : (sortL o0).Perm o0 := List.mergeSort_perm ..
  have h2 : (sortL o0).Pairwise (· ≤ ·) := by
    have := List.pairwise_mergeSort (le := fun a b : Int => decide (a ≤ b)) (fun a b c h1 h2 => by simp at *; omega) (fun a b => by simp; omega) o0
    exact this.imp fun h => by simpa using h
  exact (hp.trans h1.symm).eq_of_pairwise (fun a b _ _ h1 h2 => by omega) hs h2
theorem insert_ef (o0 : List Int) (hmax : o0.length ≤ 1000000) : Ef Tryz.prog G1 184 [.sm 0 1 0 o0.length, vi 0, vi o0.length] [.rows (o0.map intR) 3] fun y H' => y = .tuple [] ∧ H' = [.rows ((sortL o0).map intR) 3] := by
  by_cases h1 : o0.length ≤ 1
  · have e : sortL o0 = o0 := (sorted_eq (List.Perm.refl _) (by
      match o0, h1 with
      | [], _ => exact List.Pairwise.nil
      | [a], _ => exact List.pairwise_singleton _ _)).symm
    rw [e]; refine Ef.reabs (Ef.of_ev (T := Tryz.tab) (n := 49) (tryd_okm 1 _) rfl Tryz.func184 rfl rfl (by simp) ?_)
    repeat' ((conv => whnf); first | refine vv20 ?_)
    refine LoopN.of (tryd_okm 1 _) (fun (_ : Unit) => [(2, vi o0.length), (6, vi 1)]) (fun _ => [.rows (o0.map intR) 3]) (fun _ => 0) (fun _ => True) () trivial (QM [0]) ?_; rintro _ -
    (conv => whnf); repeat' (first | refine vv8 ?_) <;> conv => whnf
    exact ⟨⟨_, _, QM [0], rfl, rfl⟩⟩
  refine Ef.reabs (Ef.of_ev (T := Tryz.tab) (n := 49) (tryd_okm 1 _) rfl Tryz.func184 rfl rfl (by simp) ?_)
  (conv => whnf); repeat' (first | refine vv20 ?_) <;> conv => whnf
  refine LoopN.of2 (tryd_okm 1 _) (fun (i : Nat) (o : List Int) => [(0, .sm 0 1 0 o0.length), (1, vi 0), (2, vi o0.length), (6, vi i)]) (fun i o => [.rows (o.map intR) 3]) (fun i o => o0.length - i) (fun i o => 1 ≤ i ∧ i ≤ o0.length ∧ o.Perm o0 ∧ Up o i) 1 o0 ⟨Nat.le_refl _, by omega, List.Perm.refl _, fun a b h1 h2 => by omega⟩ (QM [0]) ?_; rintro i o ⟨hi1, hi, hp, hup⟩; have hl := hp.length_eq; by_cases hlt : i < o0.length
  · (conv => whnf); repeat' (first | refine vv7 ?_) <;> conv => whnf
    refine LoopN.of2 (tryd_okm 1 _) (fun (j : Nat) (o : List Int) => [(0, .sm 0 1 0 o0.length), (1, vi 0), (2, vi o0.length), (6, vi i), (7, vi j)]) (fun j o => [.rows (o.map intR) 3]) (fun j o => j) (fun j o => InsI o0 o i j) i o (InsI.start hp hlt hup) (QM [0]) ?_; rintro j o hI; have hl := hI.perm.length_eq; have hle := hI.le; by_cases h0 : 0 < j
    · have hjo : j < o.length := by omega
      have hjp : j - 1 < o.length := by omega
      have hls := less_ok (gt o j) (gt o (j - 1)); have e1 := gt_get hjo; have e2 := gt_get hjp
      have hrow : ∀ r : List AV, ((o.map intR).set j r)[j - 1]? = some (intR (gt o (j - 1))) := fun r => by rw [List.getElem?_set, if_neg (by omega), List.getElem?_map, List.getElem?_eq_getElem hjp, ← e2]; rfl
      have hr1 : (o.map intR)[j]? = some (intR (gt o j)) := by rw [List.getElem?_map, List.getElem?_eq_getElem hjo, e1]; rfl
      have hr2 : (o.map intR)[j - 1]? = some (intR (gt o (j - 1))) := by rw [List.getElem?_map, List.getElem?_eq_getElem hjp, e2]; rfl
      by_cases hs : gt o j < gt o (j - 1)
      · have hsw := hI.swap h0 hs; have hmap : (swp o j).map intR = ((o.map intR).set j (intR (gt o (j - 1)))).set (j - 1) (intR (gt o j)) := by rw [swp, List.map_set, List.map_set]
        rw [decide_eq_true hs] at hls; clear hI e1 e2; generalize gt o j = u at *; generalize gt o (j - 1) = v at *
        repeat' ((conv => whnf); first | refine RowN.raw hr1 ?_ | refine RowN.raw hr2 ?_ | refine RowSN.raw hr1 ?_ | refine RowSN.raw (hrow _) ?_ | refine vv1 ?_ | refine vv7 ?_ | refine vv20 ?_ | refine IdxN.at0 _ rfl (by first | assumption | omega | (simp <;> omega)) ?_ | refine vv25 ?_ | refine Qd ?_ | refine vv26 ?_ | refine Qg hls ?_)
        exact BackN2.mk (j - 1) (swp o j) hsw (by omega) (QM [0] (hb := Ql rfl (blkDeep (by rw [hmap]; rfl) (deepMap (fun _ => rfl))) bv0))
      rw [decide_eq_false hs] at hls
      repeat' ((conv => whnf); first | refine RowN.raw hr1 ?_ | refine RowN.raw hr2 ?_ | refine vv2 ?_ | refine vv7 ?_ | refine vv20 ?_ | refine IdxN.at0 _ rfl (by first | assumption | omega | (simp <;> omega)) ?_ | refine vv25 ?_ | refine Qd ?_ | refine vv26 ?_ | refine Qg hls ?_)
      exact BackN2.mk (i + 1) o ⟨by omega, by omega, hI.perm, hI.stop (.inr hs)⟩ (by omega) (QM [0])
    have hst := hI.stop (.inl (by omega))
    repeat' ((conv => whnf); first | refine vv2 ?_ | refine vv8 ?_ | refine vv20 ?_ | refine vv25 ?_ | refine Qd ?_)
    exact BackN2.mk (i + 1) o ⟨by omega, by omega, hI.perm, hst⟩ (by omega) (QM [0])
  obtain rfl : i = o0.length := by omega
  have e := sorted_eq hp (up_sorted (by rw [hl]; exact hup))
  (conv => whnf); repeat' (first | refine vv8 ?_) <;> conv => whnf
  refine ⟨⟨_, [.rows (o.map intR) 3], QM [0], rfl, ?_⟩⟩; rw [e]
end
section
theorem len64_0 : Pu Tryz.prog G1 194 [.sc (.int .u64 0)] (vi 0) := by
  refine Qh 25 Tryz.func194 rfl rfl ?_
  repeat' ((conv => whnf); first | refine WrapN.mk 0 (by decide) ?_ | refine StrIxN.mk 0 0 rfl rfl ?_ | refine vv2 ?_)
  exact DoneN.pure rfl
theorem len64_1 : Pu Tryz.prog G1 194 [.sc (.int .u64 1)] (vi 1) := by
  refine Qh 25 Tryz.func194 rfl rfl ?_
  repeat' ((conv => whnf); first | refine WrapN.mk 1 (by decide) ?_ | refine StrIxN.mk 1 1 rfl rfl ?_ | refine vv2 ?_)
  exact DoneN.pure rfl
theorem len64_2 : Pu Tryz.prog G1 194 [.sc (.int .u64 2)] (vi 2) := by
  refine Qh 25 Tryz.func194 rfl rfl ?_
  repeat' ((conv => whnf); first | refine WrapN.mk 2 (by decide) ?_ | refine StrIxN.mk 2 2 rfl rfl ?_ | refine vv2 ?_)
  exact DoneN.pure rfl
theorem len64_3 : Pu Tryz.prog G1 194 [.sc (.int .u64 3)] (vi 2) := by
  refine Qh 25 Tryz.func194 rfl rfl ?_
  repeat' ((conv => whnf); first | refine WrapN.mk 3 (by decide) ?_ | refine WrapN.mk 2 (by decide) ?_ | refine StrIxN.mk 3 2 rfl rfl ?_ | refine vv2 ?_)
  exact DoneN.pure rfl
theorem len64_4 : Pu Tryz.prog G1 194 [.sc (.int .u64 4)] (vi 3) := by
  refine Qh 25 Tryz.func194 rfl rfl ?_
  repeat' ((conv => whnf); first | refine WrapN.mk 4 (by decide) ?_ | refine WrapN.mk 3 (by decide) ?_ | refine StrIxN.mk 4 3 rfl rfl ?_ | refine vv2 ?_)
  exact DoneN.pure rfl
theorem len64_5 : Pu Tryz.prog G1 194 [.sc (.int .u64 5)] (vi 3) := by
  refine Qh 25 Tryz.func194 rfl rfl ?_
  repeat' ((conv => whnf); first | refine WrapN.mk 5 (by decide) ?_ | refine WrapN.mk 3 (by decide) ?_ | refine StrIxN.mk 5 3 rfl rfl ?_ | refine vv2 ?_)
  exact DoneN.pure rfl
theorem len64_6 : Pu Tryz.prog G1 194 [.sc (.int .u64 6)] (vi 3) := by
  refine Qh 25 Tryz.func194 rfl rfl ?_
  repeat' ((conv => whnf); first | refine WrapN.mk 6 (by decide) ?_ | refine WrapN.mk 3 (by decide) ?_ | refine StrIxN.mk 6 3 rfl rfl ?_ | refine vv2 ?_)
  exact DoneN.pure rfl
theorem len64_7 : Pu Tryz.prog G1 194 [.sc (.int .u64 7)] (vi 3) := by
  refine Qh 25 Tryz.func194 rfl rfl ?_
  repeat' ((conv => whnf); first | refine WrapN.mk 7 (by decide) ?_ | refine WrapN.mk 3 (by decide) ?_ | refine StrIxN.mk 7 3 rfl rfl ?_ | refine vv2 ?_)
  exact DoneN.pure rfl
theorem len64_8 : Pu Tryz.prog G1 194 [.sc (.int .u64 8)] (vi 4) := by
  refine Qh 25 Tryz.func194 rfl rfl ?_
  repeat' ((conv => whnf); first | refine WrapN.mk 8 (by decide) ?_ | refine WrapN.mk 4 (by decide) ?_ | refine StrIxN.mk 8 4 rfl rfl ?_ | refine vv2 ?_)
  exact DoneN.pure rfl
theorem len64_9 : Pu Tryz.prog G1 194 [.sc (.int .u64 9)] (vi 4) := by
  refine Qh 25 Tryz.func194 rfl rfl ?_
  repeat' ((conv => whnf); first | refine WrapN.mk 9 (by decide) ?_ | refine WrapN.mk 4 (by decide) ?_ | refine StrIxN.mk 9 4 rfl rfl ?_ | refine vv2 ?_)
  exact DoneN.pure rfl
theorem len64_10 : Pu Tryz.prog G1 194 [.sc (.int .u64 10)] (vi 4) := by
  refine Qh 25 Tryz.func194 rfl rfl ?_
  repeat' ((conv => whnf); first | refine WrapN.mk 10 (by decide) ?_ | refine WrapN.mk 4 (by decide) ?_ | refine StrIxN.mk 10 4 rfl rfl ?_ | refine vv2 ?_)
  exact DoneN.pure rfl
theorem len64_11 : Pu Tryz.prog G1 194 [.sc (.int .u64 11)] (vi 4) := by
  refine Qh 25 Tryz.func194 rfl rfl ?_
  repeat' ((conv => whnf); first | refine WrapN.mk 11 (by decide) ?_ | refine WrapN.mk 4 (by decide) ?_ | refine StrIxN.mk 11 4 rfl rfl ?_ | refine vv2 ?_)
  exact DoneN.pure rfl
theorem len64_12 : Pu Tryz.prog G1 194 [.sc (.int .u64 12)] (vi 4) := by
  refine Qh 25 Tryz.func194 rfl rfl ?_
  repeat' ((conv => whnf); first | refine WrapN.mk 12 (by decide) ?_ | refine WrapN.mk 4 (by decide) ?_ | refine StrIxN.mk 12 4 rfl rfl ?_ | refine vv2 ?_)
  exact DoneN.pure rfl
theorem len_ok (n : Nat) (h : n ≤ 12) : ∃ r : Int, Pu Tryz.prog G1 139 [.sc (.int .u64 (n : Int))] (vi r) := by
  have key : ∀ (a r : Int), Pu Tryz.prog G1 194 [.sc (.int .u64 a)] (vi r) → Pu Tryz.prog G1 139 [.sc (.int .u64 a)] (vi r) := by
    intro a r hp; refine Qh 8 Tryz.func139 rfl rfl ?_
    (conv => whnf); repeat' (first | refine vv2 ?_ | refine Qp hp ?_) <;> conv => whnf
    all_goals exact DoneN.pure rfl
  match n, h with
  | 0, _ => exact ⟨_, key _ _ len64_0⟩
  | 1, _ => exact ⟨_, key _ _ len64_1⟩
  | 2, _ => exact ⟨_, key _ _ len64_2⟩
  | 3, _ => exact ⟨_, key _ _ len64_3⟩
  | 4, _ => exact ⟨_, key _ _ len64_4⟩
  | 5, _ => exact ⟨_, key _ _ len64_5⟩
  | 6, _ => exact ⟨_, key _ _ len64_6⟩
  | 7, _ => exact ⟨_, key _ _ len64_7⟩
  | 8, _ => exact ⟨_, key _ _ len64_8⟩
  | 9, _ => exact ⟨_, key _ _ len64_9⟩
  | 10, _ => exact ⟨_, key _ _ len64_10⟩
  | 11, _ => exact ⟨_, key _ _ len64_11⟩
  | 12, _ => exact ⟨_, key _ _ len64_12⟩
end
end Go.Proofs.Ax
