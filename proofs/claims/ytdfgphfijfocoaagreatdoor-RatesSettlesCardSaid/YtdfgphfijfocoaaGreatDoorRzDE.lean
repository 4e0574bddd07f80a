import Derived.Test.YtdfgphfijfocoaaGreatDoorRzC
namespace Go.Proofs.Ax
open Go Go.Proofs
set_option maxRecDepth 10000
set_option maxHeartbeats 4000000
/-! maps.Keys and slices.Sorted. -/
noncomputable def asA : Code := match Tryz.f155.body with
  | some c => match rfOf c with
    | some (a, _) => a
    | none => .skip
  | none => .skip
noncomputable def bdA : Code := match Tryz.f155.body with
  | some c => match rfOf c with
    | some (_, b) => b
    | none => .skip
  | none => .skip
abbrev clK : AV := .fn (.func 131) [] [.pm 1 0 0]
abbrev flA : Fr := [(2, .pm 3 0 0), (6, clK)]
noncomputable abbrev lpA : ABlk := .loop .ready none (frm 0 flA 13) #[7] asA bdA
noncomputable abbrev HA (l : List Itm) (o : List Int) : AH := [mM l, .rows [[.mp 0]] 162, .dead, .rows [[.sm 5 1 0 o.length]] 85, lpA, .rows (o.map intRow) 3]
abbrev frK : Fr := [(0, .yl 4), (5, .it 6)]
def kAt (gs : List (Int × List Itm)) (i : Nat) : List Int := match gs[i]? with | some g => [g.1] | none => []
theorem kAt_all : ∀ gs : List (Int × List Itm), (List.range gs.length).flatMap (kAt gs) = gs.map (·.1)
  | [] => rfl
  | g :: gs => by
    have ih := kAt_all gs
    rw [List.length_cons, List.range_succ_eq_map, List.flatMap_cons, List.map_cons, List.flatMap_map]
    have : (fun i => kAt (g :: gs) (i + 1)) = kAt gs := funext fun i => by simp [kAt]
    rw [this, ih]
    rfl
theorem kAt_len (gs : List (Int × List Itm)) (i : Nat) : (kAt gs i).length ≤ 1 := by
  unfold kAt
  split <;> simp
theorem flat_len' {f : Nat → List Int} (hf : ∀ i, (f i).length ≤ 1) : ∀ l : List Nat, (l.flatMap f).length ≤ l.length
  | [] => by simp
  | i :: l => by
    have := flat_len' hf l
    have := hf i
    simp only [List.flatMap_cons, List.length_append, List.length_cons]; omega
noncomputable abbrev HB (l : List Itm) (o : List Int) (seen : List Nat) : AH := [mM l, .rows [[.mp 0]] 162, .dead, .rows [[.sm 5 1 0 o.length]] 85, lpA, .rows (o.map intRow) 3, .miter (some 0) (gsM l).length seen (gsM l).length]
theorem seen_snocM {gs : List (Int × List Itm)} {i : Nat} {g : Int × List Itm} {seen : List Nat} (hg : gs[i]? = some g) (hnd : seen.Nodup) (hin : ∀ i ∈ seen, i < gs.length) (hni : i ∉ seen) :
    ((seen ++ [i]).Nodup ∧ ∀ j ∈ seen ++ [i], j < gs.length) ∧ gs.length - (seen ++ [i]).length < gs.length - seen.length := by
  have hlt := (List.getElem?_eq_some_iff.1 hg).1
  have h1 : (seen ++ [i]).Nodup := by
    rw [List.nodup_append]
    exact ⟨hnd, by simp, fun a ha b hb e => hni (by rw [List.mem_singleton.1 hb] at e; rw [← e]; exact ha)⟩
  have h2 : ∀ j ∈ seen ++ [i], j < gs.length := by
    intro j hj
    rcases List.mem_append.1 hj with hj | hj
    · exact hin j hj
    · rw [List.mem_singleton.1 hj]; exact hlt
  have h3 := len_of_nodup h1 h2
  rw [List.length_append, List.length_singleton] at h3 ⊢
  exact ⟨⟨h1, h2⟩, by omega⟩
theorem next_M {P : Program} {H : AH} {it m : Nat} {l : List Itm} {seen : List Nat} (hit : H[it]? = some (.miter (some m) (gsM l).length seen (gsM l).length)) (hm : H[m]? = some (mM l)) :
    ∃ outs, anext P H (.it it) false = some outs ∧ ∀ y H', (y, H') ∈ outs → (∃ i g, (gsM l)[i]? = some g ∧ i ∉ seen ∧ y = .tuple [.sc (.bool true), vi g.1, vS g.2] ∧ H' = H.set it (.miter (some m) (gsM l).length (seen ++ [i]) (gsM l).length)) ∨ ((∀ i, i < (gsM l).length → i ∈ seen) ∧ y = .tuple [.sc (.bool false)] ∧ H' = H) := by
  obtain ⟨outs, h1, h2⟩ := next_map (P := P) (vEnt_stamp kI vS (gsM l)) (vEnt_length ..) hit hm
  refine ⟨outs, h1, fun y H' hy => ?_⟩
  rcases h2 y H' hy with ⟨i, e, g1, g2, rfl, rfl⟩ | h
  · rw [vEnt_get] at g1
    cases hg : (gsM l)[i]? with
    | none => rw [hg] at g1; cases g1
    | some g =>
      rw [hg] at g1
      cases g1
      exact .inl ⟨i, g, hg, g2, rfl, rfl⟩
  · exact .inr h
theorem entry_M {H : AH} {it m i : Nat} {l : List Itm} {seen : List Nat} {g : Int × List Itm} (hg : (gsM l)[i]? = some g) (hit : H[it]? = some (.miter (some m) (gsM l).length (seen ++ [i]) (gsM l).length)) (hm : H[m]? = some (mM l)) :
    (aentry H (.it it)).map (fun y => (y, H)) = some (.tuple [vi g.1, vS g.2], H) := by
  rw [entry_map (e := (vi g.1, vS g.2, i)) (vEnt_stamp kI vS (gsM l)) (by rw [vEnt_get, hg, Option.map_some, Nat.zero_add]) hit hm]
  rfl
theorem keys1_ok (l : List Itm) (hmax : (gsM l).length ≤ 1000000) : Ef Tryz.prog G1 131 [.yl 4, .pm 1 0 0] [mM l, .rows [[.mp 0]] 162, .rows [] 3, .rows [[.sm 2 1 0 0]] 85, lpA] fun y H' => ∃ o : List Int, o.Perm ((gsM l).map (·.1)) ∧ y = .tuple [] ∧ H' = HA l o := by
  refine Ef.reabs (Ef.of_code (T := Tryz.tab) (n := 14) (tryd_okg 5 _) rfl Tryz.func131 rfl rfl (by simp) ?_)
  refine CodeN.re (l' := [(0, .yl 4), (1, .pm 1 0 0)]) (H' := HA l []) (Reabs.frmM [0, 1, 2, 3, 4, 2] (by repeat (first | exact trivial | refine ⟨.inr ⟨rfl, rfl⟩, ?_⟩)) ⟨⟨_, rfl, mM_blk _, fun _ => rfl⟩, ⟨_, rfl, blkOk rfl rfl, fun _ => rfl⟩, ⟨_, rfl, blkDead, fun h => (by cases h)⟩, ⟨_, rfl, blkOk rfl rfl, fun _ => rfl⟩, ⟨_, rfl, blkLoop rfl rfl, fun _ => rfl⟩, ⟨_, rfl, blkDeep rfl (deepMap (fun _ => rfl)), fun _ => rfl⟩, trivial⟩ rfl rfl) ?_
  refine CodeN.of_ev (tryd_okg 5 _) ?_
  ((conv => whnf); repeat' ((first | refine vv1 ?_ | refine vv2 ?_ | refine vv3 ?_ | refine vv4 ?_ | refine vv5 ?_ | refine vv6 ?_ | refine vv7 ?_ | refine vv8 ?_ | refine vv9 ?_ | refine vv10 ?_ | refine vv11 (fun hbr => ?_) (fun hbr => ?_) | refine vv12 (fun hbr => ?_) (fun hbr => ?_) | refine vv13 ?_ | refine vv14 ?_ | refine vv15 ?_ | refine vv16 ?_ | refine vv17 (fun hbr => ?_) (fun hbr => ?_) | refine vv18 ?_ | refine vv19 (fun hbr => ?_) (fun hbr => ?_) | refine vv20 ?_ | refine SlIdxN.map _ rfl (by first | assumption | omega) ?_ | refine SlIdxN.mapPred (by omega) (by omega) ?_ | refine SlIdxN.mapSucc (by omega) ?_ | refine SlIdxN.lit _ _ rfl rfl ?_ | refine SlIdxN.mapInt (by omega) (by omega) ?_ | refine IdxN.at0 _ rfl (by first | assumption | omega | (simp <;> omega)) ?_ | refine vv21 ?_ | refine RowN.map (by first | assumption | omega) ?_ | refine vv22 ?_ | refine RowSN.map (by first | assumption | omega) ?_ | refine vv23 ?_ | refine vv24 ?_ | refine vv25 ?_ | refine Need.mk (by first | assumption | omega | (simp <;> omega)) ?_ | refine DrawN.gen (by first | exact tryd_ok _ | exact tryd_okm _ _) (by kernel_rfl) ?_ | refine vv26 ?_ | refine vv27 ?_ | refine vv28 ?_ | refine vv29 ?_ | refine vv30 ?_ | refine vv31 ?_ | refine vv32 ?_ | refine vv33 ?_) <;> (conv => whnf)))
  refine StepN.mk (.it 6) (HB l [] []) (by simp only [astep, arange, Tryz.underlying162]; rfl) ?_
  ((conv => whnf); repeat' ((first | refine vv1 ?_ | refine vv2 ?_ | refine vv3 ?_ | refine vv4 ?_ | refine vv5 ?_ | refine vv6 ?_ | refine vv7 ?_ | refine vv8 ?_ | refine vv9 ?_ | refine vv10 ?_ | refine vv11 (fun hbr => ?_) (fun hbr => ?_) | refine vv12 (fun hbr => ?_) (fun hbr => ?_) | refine vv13 ?_ | refine vv14 ?_ | refine vv15 ?_ | refine vv16 ?_ | refine vv17 (fun hbr => ?_) (fun hbr => ?_) | refine vv18 ?_ | refine vv19 (fun hbr => ?_) (fun hbr => ?_) | refine vv20 ?_ | refine SlIdxN.map _ rfl (by first | assumption | omega) ?_ | refine SlIdxN.mapPred (by omega) (by omega) ?_ | refine SlIdxN.mapSucc (by omega) ?_ | refine SlIdxN.lit _ _ rfl rfl ?_ | refine SlIdxN.mapInt (by omega) (by omega) ?_ | refine IdxN.at0 _ rfl (by first | assumption | omega | (simp <;> omega)) ?_ | refine vv21 ?_ | refine RowN.map (by first | assumption | omega) ?_ | refine vv22 ?_ | refine RowSN.map (by first | assumption | omega) ?_ | refine vv23 ?_ | refine vv24 ?_ | refine vv25 ?_ | refine Need.mk (by first | assumption | omega | (simp <;> omega)) ?_ | refine DrawN.gen (by first | exact tryd_ok _ | exact tryd_okm _ _) (by kernel_rfl) ?_ | refine vv26 ?_ | refine vv27 ?_ | refine vv28 ?_ | refine vv29 ?_ | refine vv30 ?_ | refine vv31 ?_ | refine vv32 ?_ | refine vv33 ?_) <;> (conv => whnf)))
  refine LoopN.of (tryd_okg 5 _) (fun (_ : List Nat) => frK) (fun seen => HB l (seen.flatMap (kAt (gsM l))) seen) (fun seen => (gsM l).length - seen.length) (fun seen => seen.Nodup ∧ ∀ i ∈ seen, i < (gsM l).length) [] ⟨List.nodup_nil, fun i hi => by cases hi⟩
    (Reabs.frmM [0, 1, 2, 3, 4, 5, 6] (by repeat (first | exact trivial | refine ⟨.inr ⟨rfl, rfl⟩, ?_⟩)) ⟨⟨_, rfl, mM_blk _, fun _ => rfl⟩, ⟨_, rfl, blkOk rfl rfl, fun _ => rfl⟩, ⟨_, rfl, blkDead, fun h => (by cases h)⟩, ⟨_, rfl, blkOk rfl rfl, fun _ => rfl⟩, ⟨_, rfl, blkLoop rfl rfl, fun _ => rfl⟩, ⟨_, rfl, blkDeep rfl (deepMap (fun _ => rfl)), fun _ => rfl⟩, ⟨_, rfl, .inr (.inr ⟨fun m hm => by cases hm; simp, rfl⟩), fun _ => rfl⟩, trivial⟩ rfl rfl) ?_
  rintro seen ⟨hnd, hin⟩
  have hl1 := flat_len' (kAt_len (gsM l)) seen
  have hl2 := len_of_nodup hnd hin
  have hlo : (seen.flatMap (kAt (gsM l))).length ≤ 1000000 := by omega
  clear hl1 hl2
  ((conv => whnf); repeat' ((first | refine vv1 ?_ | refine vv2 ?_ | refine vv3 ?_ | refine vv4 ?_ | refine vv5 ?_ | refine vv6 ?_ | refine vv7 ?_ | refine vv8 ?_ | refine vv9 ?_ | refine vv10 ?_ | refine vv11 (fun hbr => ?_) (fun hbr => ?_) | refine vv12 (fun hbr => ?_) (fun hbr => ?_) | refine vv13 ?_ | refine vv14 ?_ | refine vv15 ?_ | refine vv16 ?_ | refine vv17 (fun hbr => ?_) (fun hbr => ?_) | refine vv18 ?_ | refine vv19 (fun hbr => ?_) (fun hbr => ?_) | refine vv20 ?_ | refine SlIdxN.map _ rfl (by first | assumption | omega) ?_ | refine SlIdxN.mapPred (by omega) (by omega) ?_ | refine SlIdxN.mapSucc (by omega) ?_ | refine SlIdxN.lit _ _ rfl rfl ?_ | refine SlIdxN.mapInt (by omega) (by omega) ?_ | refine IdxN.at0 _ rfl (by first | assumption | omega | (simp <;> omega)) ?_ | refine vv21 ?_ | refine RowN.map (by first | assumption | omega) ?_ | refine vv22 ?_ | refine RowSN.map (by first | assumption | omega) ?_ | refine vv23 ?_ | refine vv24 ?_ | refine vv25 ?_ | refine Need.mk (by first | assumption | omega | (simp <;> omega)) ?_ | refine DrawN.gen (by first | exact tryd_ok _ | exact tryd_okm _ _) (by kernel_rfl) ?_ | refine vv26 ?_ | refine vv27 ?_ | refine vv28 ?_ | refine vv29 ?_ | refine vv30 ?_ | refine vv31 ?_ | refine vv32 ?_ | refine vv33 ?_) <;> (conv => whnf)))
  obtain ⟨outs, ho1, ho2⟩ := next_M (P := Tryz.prog) (H := HB l (seen.flatMap (kAt (gsM l))) seen) (it := 6) (m := 0) (seen := seen) rfl rfl
  refine OpN.next ho1 fun y H' hm => ?_
  rcases ho2 y H' hm with ⟨i, g, hg, g2, rfl, rfl⟩ | ⟨g1, rfl, rfl⟩
  · clear ho1 ho2 hm
    obtain ⟨hs1, hs2⟩ := seen_snocM hg hnd hin g2
    have hsn : (seen ++ [i]).flatMap (kAt (gsM l)) = seen.flatMap (kAt (gsM l)) ++ [g.1] := by
      rw [List.flatMap_append]
      simp [kAt, hg]
    ((conv => whnf); repeat' ((first | refine vv1 ?_ | refine vv2 ?_ | refine vv3 ?_ | refine vv4 ?_ | refine vv5 ?_ | refine vv6 ?_ | refine vv7 ?_ | refine vv8 ?_ | refine vv9 ?_ | refine vv10 ?_ | refine vv11 (fun hbr => ?_) (fun hbr => ?_) | refine vv12 (fun hbr => ?_) (fun hbr => ?_) | refine vv13 ?_ | refine vv14 ?_ | refine vv15 ?_ | refine vv16 ?_ | refine vv17 (fun hbr => ?_) (fun hbr => ?_) | refine vv18 ?_ | refine vv19 (fun hbr => ?_) (fun hbr => ?_) | refine vv20 ?_ | refine SlIdxN.map _ rfl (by first | assumption | omega) ?_ | refine SlIdxN.mapPred (by omega) (by omega) ?_ | refine SlIdxN.mapSucc (by omega) ?_ | refine SlIdxN.lit _ _ rfl rfl ?_ | refine SlIdxN.mapInt (by omega) (by omega) ?_ | refine IdxN.at0 _ rfl (by first | assumption | omega | (simp <;> omega)) ?_ | refine vv21 ?_ | refine RowN.map (by first | assumption | omega) ?_ | refine vv22 ?_ | refine RowSN.map (by first | assumption | omega) ?_ | refine vv23 ?_ | refine vv24 ?_ | refine vv25 ?_ | refine Need.mk (by first | assumption | omega | (simp <;> omega)) ?_ | refine DrawN.gen (by first | exact tryd_ok _ | exact tryd_okm _ _) (by kernel_rfl) ?_ | refine vv26 ?_ | refine vv27 ?_ | refine vv28 ?_ | refine vv29 ?_ | refine vv30 ?_ | refine vv31 ?_ | refine vv32 ?_ | refine vv33 ?_) <;> (conv => whnf)))
    refine StepN.mk _ _ (entry_M (H := HB l (seen.flatMap (kAt (gsM l))) (seen ++ [i])) hg rfl rfl) ?_
    ((conv => whnf); repeat' ((first | refine OpN.yl (tryd_okg 5 _) rfl rfl rfl ?_ | refine RowN.row2 (by first | omega | (show _ = _ + 1; omega)) ?_ | refine RowN.row1 (by first | omega | (show _ = _ + 1; omega)) ?_ | refine RowN.rowB (by first | omega | (show _ = _ + 1; omega)) ?_ | refine RowSN.row2 (by first | omega | (show _ = _ + 1; omega)) ?_ | refine RowSN.row1 (by first | omega | (show _ = _ + 1; omega)) ?_ | refine RowSN.rowB (by first | omega | (show _ = _ + 1; omega)) ?_ | refine IxN.mk _ rfl ?_ | refine shr_ok rfl rfl ?_ | refine WrapN.inU ⟨by omega, by omega⟩ ?_ | refine vv1 ?_ | refine vv2 ?_ | refine vv3 ?_ | refine vv4 ?_ | refine vv5 ?_ | refine vv6 ?_ | refine vv7 ?_ | refine vv8 ?_ | refine vv9 ?_ | refine vv10 ?_ | refine vv11 (fun hbr => ?_) (fun hbr => ?_) | refine vv12 (fun hbr => ?_) (fun hbr => ?_) | refine vv13 ?_ | refine vv14 ?_ | refine vv15 ?_ | refine vv16 ?_ | refine vv17 (fun hbr => ?_) (fun hbr => ?_) | refine vv18 ?_ | refine vv19 (fun hbr => ?_) (fun hbr => ?_) | refine vv20 ?_ | refine SlIdxN.map _ rfl (by first | assumption | omega) ?_ | refine SlIdxN.mapPred (by omega) (by omega) ?_ | refine SlIdxN.mapSucc (by omega) ?_ | refine SlIdxN.lit _ _ rfl rfl ?_ | refine SlIdxN.mapInt (by omega) (by omega) ?_ | refine IdxN.at0 _ rfl (by first | assumption | omega | (simp <;> omega)) ?_ | refine vv21 ?_ | refine RowN.map (by first | assumption | omega) ?_ | refine vv22 ?_ | refine RowSN.map (by first | assumption | omega) ?_ | refine vv23 ?_ | refine vv24 ?_ | refine vv25 ?_ | refine Need.mk (by first | assumption | omega | (simp <;> omega)) ?_ | refine DrawN.gen (by first | exact tryd_ok _ | exact tryd_okm _ _) (by kernel_rfl) ?_ | refine vv26 ?_ | refine vv27 ?_ | refine vv28 ?_ | refine vv29 ?_ | refine vv30 ?_ | refine vv31 ?_ | refine vv32 ?_ | refine vv33 ?_) <;> (conv => whnf)))
    refine BackN.mk (seen ++ [i]) hs1 hs2 ?_
    simp only [hsn]
    exact (Reabs.frmM [0, 1, 2, 3, 4, 7, 6] (by repeat (first | exact trivial | refine ⟨.inr ⟨rfl, rfl⟩, ?_⟩)) ⟨⟨_, rfl, mM_blk _, fun _ => rfl⟩, ⟨_, rfl, blkOk rfl rfl, fun _ => rfl⟩, ⟨_, rfl, blkDead, fun h => (by cases h)⟩, ⟨_, rfl, blkOk rfl (by rw [List.length_append]; rfl), fun _ => rfl⟩, ⟨_, rfl, blkLoop rfl rfl, fun _ => rfl⟩, ⟨_, rfl, blkDeep (by rw [List.map_append]; rfl) (deepMap (fun _ => rfl)), fun _ => rfl⟩, ⟨_, rfl, .inr (.inr ⟨fun m hm => by cases hm; simp, rfl⟩), fun _ => rfl⟩, trivial⟩ rfl rfl)
  · clear ho1 ho2 hm
    have hp := (perm_range hnd hin g1).flatMap_right (kAt (gsM l))
    rw [kAt_all] at hp
    generalize seen.flatMap (kAt (gsM l)) = o at *
    ((conv => whnf); repeat' ((first | refine vv1 ?_ | refine vv2 ?_ | refine vv3 ?_ | refine vv4 ?_ | refine vv5 ?_ | refine vv6 ?_ | refine vv7 ?_ | refine vv8 ?_ | refine vv9 ?_ | refine vv10 ?_ | refine vv11 (fun hbr => ?_) (fun hbr => ?_) | refine vv12 (fun hbr => ?_) (fun hbr => ?_) | refine vv13 ?_ | refine vv14 ?_ | refine vv15 ?_ | refine vv16 ?_ | refine vv17 (fun hbr => ?_) (fun hbr => ?_) | refine vv18 ?_ | refine vv19 (fun hbr => ?_) (fun hbr => ?_) | refine vv20 ?_ | refine SlIdxN.map _ rfl (by first | assumption | omega) ?_ | refine SlIdxN.mapPred (by omega) (by omega) ?_ | refine SlIdxN.mapSucc (by omega) ?_ | refine SlIdxN.lit _ _ rfl rfl ?_ | refine SlIdxN.mapInt (by omega) (by omega) ?_ | refine IdxN.at0 _ rfl (by first | assumption | omega | (simp <;> omega)) ?_ | refine vv21 ?_ | refine RowN.map (by first | assumption | omega) ?_ | refine vv22 ?_ | refine RowSN.map (by first | assumption | omega) ?_ | refine vv23 ?_ | refine vv24 ?_ | refine vv25 ?_ | refine Need.mk (by first | assumption | omega | (simp <;> omega)) ?_ | refine DrawN.gen (by first | exact tryd_ok _ | exact tryd_okm _ _) (by kernel_rfl) ?_ | refine vv26 ?_ | refine vv27 ?_ | refine vv28 ?_ | refine vv29 ?_ | refine vv30 ?_ | refine vv31 ?_ | refine vv32 ?_ | refine vv33 ?_) <;> (conv => whnf)))
    refine ⟨⟨_, HA l o, ?_, o, hp, rfl, rfl⟩⟩
    exact Reabs.frmM [0, 1, 2, 3, 4, 5] (by repeat (first | exact trivial | refine ⟨.inr ⟨rfl, rfl⟩, ?_⟩)) (by exact ⟨⟨_, rfl, mM_blk _, fun _ => rfl⟩, ⟨_, rfl, blkOk rfl rfl, fun _ => rfl⟩, ⟨_, rfl, blkDead, fun h => (by cases h)⟩, ⟨_, rfl, blkOk rfl rfl, fun _ => rfl⟩, ⟨_, rfl, blkLoop rfl rfl, fun _ => rfl⟩, ⟨_, rfl, blkDeep rfl (deepMap (fun _ => rfl)), fun _ => rfl⟩, trivial⟩) rfl rfl
abbrev hK (l : List Itm) : AH := [mM l, .rows [[.mp 0]] 162]
abbrev hK3 (l : List Itm) (o : List Int) : AH := [mM l, .rows [[.mp 0]] 162, .rows (o.map intRow) 3]
theorem appseq_keys (l : List Itm) (hmax : (gsM l).length ≤ 1000000) : Ef Tryz.prog G1 155 [.sc (.slice none 0 0), clK] (hK l) fun y H' => ∃ o : List Int, o.Perm ((gsM l).map (·.1)) ∧ y = .sm 2 1 0 o.length ∧ H' = hK3 l o := by
  refine Ef.reabs (Ef.of_code (T := Tryz.tab) (n := 13) (tryd_okg 2 _) rfl Tryz.func155 rfl rfl (by simp) ?_)
  refine CodeN.re (Reabs.virt 0 1 3 rfl) ?_
  refine CodeN.of_ev (tryd_okg 2 _) ?_
  ((conv => whnf); repeat' ((first | refine vv1 ?_ | refine vv2 ?_ | refine vv3 ?_ | refine vv4 ?_ | refine vv5 ?_ | refine vv6 ?_ | refine vv7 ?_ | refine vv8 ?_ | refine vv9 ?_ | refine vv10 ?_ | refine vv11 (fun hbr => ?_) (fun hbr => ?_) | refine vv12 (fun hbr => ?_) (fun hbr => ?_) | refine vv13 ?_ | refine vv14 ?_ | refine vv15 ?_ | refine vv16 ?_ | refine vv17 (fun hbr => ?_) (fun hbr => ?_) | refine vv18 ?_ | refine vv19 (fun hbr => ?_) (fun hbr => ?_) | refine vv20 ?_ | refine SlIdxN.map _ rfl (by first | assumption | omega) ?_ | refine SlIdxN.mapPred (by omega) (by omega) ?_ | refine SlIdxN.mapSucc (by omega) ?_ | refine SlIdxN.lit _ _ rfl rfl ?_ | refine SlIdxN.mapInt (by omega) (by omega) ?_ | refine IdxN.at0 _ rfl (by first | assumption | omega | (simp <;> omega)) ?_ | refine vv21 ?_ | refine RowN.map (by first | assumption | omega) ?_ | refine vv22 ?_ | refine RowSN.map (by first | assumption | omega) ?_ | refine vv23 ?_ | refine vv24 ?_ | refine vv25 ?_ | refine Need.mk (by first | assumption | omega | (simp <;> omega)) ?_ | refine DrawN.gen (by first | exact tryd_ok _ | exact tryd_okm _ _) (by kernel_rfl) ?_ | refine vv26 ?_ | refine vv27 ?_ | refine vv28 ?_ | refine vv29 ?_ | refine vv30 ?_ | refine vv31 ?_ | refine vv32 ?_ | refine vv33 ?_) <;> (conv => whnf)))
  refine RangeN.re (l' := flA) (H' := [mM l, .rows [[.mp 0]] 162, .rows [] 3, .rows [[.sm 2 1 0 0]] 85]) (Reabs.frmM [0, 1, 2, 3] (by repeat (first | exact trivial | refine ⟨.inr ⟨rfl, rfl⟩, ?_⟩)) (by exact ⟨⟨_, rfl, mM_blk _, fun _ => rfl⟩, ⟨_, rfl, blkOk rfl rfl, fun _ => rfl⟩, ⟨_, rfl, blkDeep rfl (deepLit rfl), fun _ => rfl⟩, ⟨_, rfl, blkOk rfl rfl, fun _ => rfl⟩, trivial⟩) rfl rfl) ?_
  refine RangeN.of (tryd_okg 2 _) rfl rfl (keys1_ok l hmax) ?_
  rintro y H' ⟨o, ho, rfl, rfl⟩
  conv => whnf
  refine ⟨nofun, ?_⟩
  ((conv => whnf); repeat' ((first | refine vv1 ?_ | refine vv2 ?_ | refine vv3 ?_ | refine vv4 ?_ | refine vv5 ?_ | refine vv6 ?_ | refine vv7 ?_ | refine vv8 ?_ | refine vv9 ?_ | refine vv10 ?_ | refine vv11 (fun hbr => ?_) (fun hbr => ?_) | refine vv12 (fun hbr => ?_) (fun hbr => ?_) | refine vv13 ?_ | refine vv14 ?_ | refine vv15 ?_ | refine vv16 ?_ | refine vv17 (fun hbr => ?_) (fun hbr => ?_) | refine vv18 ?_ | refine vv19 (fun hbr => ?_) (fun hbr => ?_) | refine vv20 ?_ | refine SlIdxN.map _ rfl (by first | assumption | omega) ?_ | refine SlIdxN.mapPred (by omega) (by omega) ?_ | refine SlIdxN.mapSucc (by omega) ?_ | refine SlIdxN.lit _ _ rfl rfl ?_ | refine SlIdxN.mapInt (by omega) (by omega) ?_ | refine IdxN.at0 _ rfl (by first | assumption | omega | (simp <;> omega)) ?_ | refine vv21 ?_ | refine RowN.map (by first | assumption | omega) ?_ | refine vv22 ?_ | refine RowSN.map (by first | assumption | omega) ?_ | refine vv23 ?_ | refine vv24 ?_ | refine vv25 ?_ | refine Need.mk (by first | assumption | omega | (simp <;> omega)) ?_ | refine DrawN.gen (by first | exact tryd_ok _ | exact tryd_okm _ _) (by kernel_rfl) ?_ | refine vv26 ?_ | refine vv27 ?_ | refine vv28 ?_ | refine vv29 ?_ | refine vv30 ?_ | refine vv31 ?_ | refine vv32 ?_ | refine vv33 ?_) <;> (conv => whnf)))
  refine ⟨⟨_, hK3 l o, ?_, o, ho, rfl, rfl⟩⟩
  exact (Reabs.frmM [0, 1, 5] (by repeat (first | exact trivial | refine ⟨.inr ⟨rfl, rfl⟩, ?_⟩ | refine ⟨.inr ⟨rfl, vi_eq (by first | omega | (simp; done) | (simp; omega))⟩, ?_⟩ | refine ⟨.inr ⟨rfl, smE rfl (by first | omega | (simp; done) | (simp; omega))⟩, ?_⟩)) (by exact ⟨⟨_, rfl, mM_blk _, fun _ => rfl⟩, ⟨_, rfl, blkOk rfl rfl, fun _ => rfl⟩, ⟨_, rfl, blkDeep rfl (deepMap (fun _ => rfl)), fun _ => rfl⟩, trivial⟩) rfl rfl)
theorem collect_keys (l : List Itm) (hmax : (gsM l).length ≤ 1000000) : Ef Tryz.prog G1 129 [clK] (hK l) fun y H' => ∃ o : List Int, o.Perm ((gsM l).map (·.1)) ∧ y = .sm 2 1 0 o.length ∧ H' = hK3 l o := by
  refine Ef.of_ev (T := Tryz.tab) (n := 5) (tryd_okg 2 _) rfl Tryz.func129 rfl rfl (by simp) ?_
  ((conv => whnf); repeat' ((first | refine vv1 ?_ | refine vv2 ?_ | refine vv3 ?_ | refine vv4 ?_ | refine vv5 ?_ | refine vv6 ?_ | refine vv7 ?_ | refine vv8 ?_ | refine vv9 ?_ | refine vv10 ?_ | refine vv11 (fun hbr => ?_) (fun hbr => ?_) | refine vv12 (fun hbr => ?_) (fun hbr => ?_) | refine vv13 ?_ | refine vv14 ?_ | refine vv15 ?_ | refine vv16 ?_ | refine vv17 (fun hbr => ?_) (fun hbr => ?_) | refine vv18 ?_ | refine vv19 (fun hbr => ?_) (fun hbr => ?_) | refine vv20 ?_ | refine SlIdxN.map _ rfl (by first | assumption | omega) ?_ | refine SlIdxN.mapPred (by omega) (by omega) ?_ | refine SlIdxN.mapSucc (by omega) ?_ | refine SlIdxN.lit _ _ rfl rfl ?_ | refine SlIdxN.mapInt (by omega) (by omega) ?_ | refine IdxN.at0 _ rfl (by first | assumption | omega | (simp <;> omega)) ?_ | refine vv21 ?_ | refine RowN.map (by first | assumption | omega) ?_ | refine vv22 ?_ | refine RowSN.map (by first | assumption | omega) ?_ | refine vv23 ?_ | refine vv24 ?_ | refine vv25 ?_ | refine Need.mk (by first | assumption | omega | (simp <;> omega)) ?_ | refine DrawN.gen (by first | exact tryd_ok _ | exact tryd_okm _ _) (by kernel_rfl) ?_ | refine vv26 ?_ | refine vv27 ?_ | refine vv28 ?_ | refine vv29 ?_ | refine vv30 ?_ | refine vv31 ?_ | refine vv32 ?_ | refine vv33 ?_) <;> (conv => whnf)))
  refine CallN.ef (appseq_keys l hmax) ?_
  rintro y H' ⟨o, ho, rfl, rfl⟩
  ((conv => whnf); repeat' ((first | refine vv1 ?_ | refine vv2 ?_ | refine vv3 ?_ | refine vv4 ?_ | refine vv5 ?_ | refine vv6 ?_ | refine vv7 ?_ | refine vv8 ?_ | refine vv9 ?_ | refine vv10 ?_ | refine vv11 (fun hbr => ?_) (fun hbr => ?_) | refine vv12 (fun hbr => ?_) (fun hbr => ?_) | refine vv13 ?_ | refine vv14 ?_ | refine vv15 ?_ | refine vv16 ?_ | refine vv17 (fun hbr => ?_) (fun hbr => ?_) | refine vv18 ?_ | refine vv19 (fun hbr => ?_) (fun hbr => ?_) | refine vv20 ?_ | refine SlIdxN.map _ rfl (by first | assumption | omega) ?_ | refine SlIdxN.mapPred (by omega) (by omega) ?_ | refine SlIdxN.mapSucc (by omega) ?_ | refine SlIdxN.lit _ _ rfl rfl ?_ | refine SlIdxN.mapInt (by omega) (by omega) ?_ | refine IdxN.at0 _ rfl (by first | assumption | omega | (simp <;> omega)) ?_ | refine vv21 ?_ | refine RowN.map (by first | assumption | omega) ?_ | refine vv22 ?_ | refine RowSN.map (by first | assumption | omega) ?_ | refine vv23 ?_ | refine vv24 ?_ | refine vv25 ?_ | refine Need.mk (by first | assumption | omega | (simp <;> omega)) ?_ | refine DrawN.gen (by first | exact tryd_ok _ | exact tryd_okm _ _) (by kernel_rfl) ?_ | refine vv26 ?_ | refine vv27 ?_ | refine vv28 ?_ | refine vv29 ?_ | refine vv30 ?_ | refine vv31 ?_ | refine vv32 ?_ | refine vv33 ?_) <;> (conv => whnf)))
  exact ⟨⟨o, ho, rfl, rfl⟩⟩
theorem gsM_len (l : List Itm) : (gsM l).length ≤ l.length := by
  have add : ∀ (k : Int) (x : Itm) (gs : List (Int × List Itm)), (addG k x gs).length ≤ gs.length + 1 := by
    intro k x gs
    induction gs with
    | nil => simp [addG]
    | cons g gs ih =>
      rw [addG]
      split
      · simp
      · simp only [List.length_cons]; omega
  have : ∀ (l : List Itm) (gs : List (Int × List Itm)), (l.foldl (fun gs x => addG x.1 x gs) gs).length ≤ gs.length + l.length := by
    intro l
    induction l with
    | nil => intro gs; simp
    | cons x l ih =>
      intro gs
      have h1 := ih (addG x.1 x gs)
      have h2 := add x.1 x gs
      simp only [List.foldl_cons, List.length_cons]
      omega
  have := this l []
  simpa [gsM, groupsOf] using this
def keysM (l : List Itm) : List Int := sortI ((gsM l).map (·.1))
theorem sortI_perm {d e : List Int} (h : d.Perm e) : sortI d = sortI e := by
  have hp : ∀ d : List Int, (sortI d).Pairwise fun x y => x ≤ y := fun d => by
    have := List.pairwise_mergeSort (le := fun x y : Int => decide (x ≤ y)) (fun a b c h1 h2 => by simp only [decide_eq_true_eq] at *; omega) (fun a b => by simp only [Bool.or_eq_true, decide_eq_true_eq]; omega) d
    exact this.imp fun h => by simpa using h
  exact List.Perm.eq_of_pairwise (le := fun x y : Int => x ≤ y) (fun a b _ _ h1 h2 => by omega) (hp d) (hp e) (((List.mergeSort_perm d _).trans h).trans (List.mergeSort_perm e _).symm)
theorem sorted_keys (l : List Itm) (hmax : l.length ≤ 1000000) : Ef Tryz.prog G1 110 [clK] (hK l) fun y H' => y = .sm 2 1 0 (keysM l).length ∧ H' = hK3 l (keysM l) := by
  have hg := gsM_len l
  refine Ef.of_ev (T := Tryz.tab) (n := 9) (tryd_okg 2 _) rfl Tryz.func110 rfl rfl (by simp) ?_
  ((conv => whnf); repeat' ((first | refine vv1 ?_ | refine vv2 ?_ | refine vv3 ?_ | refine vv4 ?_ | refine vv5 ?_ | refine vv6 ?_ | refine vv7 ?_ | refine vv8 ?_ | refine vv9 ?_ | refine vv10 ?_ | refine vv11 (fun hbr => ?_) (fun hbr => ?_) | refine vv12 (fun hbr => ?_) (fun hbr => ?_) | refine vv13 ?_ | refine vv14 ?_ | refine vv15 ?_ | refine vv16 ?_ | refine vv17 (fun hbr => ?_) (fun hbr => ?_) | refine vv18 ?_ | refine vv19 (fun hbr => ?_) (fun hbr => ?_) | refine vv20 ?_ | refine SlIdxN.map _ rfl (by first | assumption | omega) ?_ | refine SlIdxN.mapPred (by omega) (by omega) ?_ | refine SlIdxN.mapSucc (by omega) ?_ | refine SlIdxN.lit _ _ rfl rfl ?_ | refine SlIdxN.mapInt (by omega) (by omega) ?_ | refine IdxN.at0 _ rfl (by first | assumption | omega | (simp <;> omega)) ?_ | refine vv21 ?_ | refine RowN.map (by first | assumption | omega) ?_ | refine vv22 ?_ | refine RowSN.map (by first | assumption | omega) ?_ | refine vv23 ?_ | refine vv24 ?_ | refine vv25 ?_ | refine Need.mk (by first | assumption | omega | (simp <;> omega)) ?_ | refine DrawN.gen (by first | exact tryd_ok _ | exact tryd_okm _ _) (by kernel_rfl) ?_ | refine vv26 ?_ | refine vv27 ?_ | refine vv28 ?_ | refine vv29 ?_ | refine vv30 ?_ | refine vv31 ?_ | refine vv32 ?_ | refine vv33 ?_) <;> (conv => whnf)))
  refine CallN.ef (collect_keys l (by omega)) ?_
  rintro y H' ⟨o, ho, rfl, rfl⟩
  have hol : o.length ≤ 1000000 := by
    have := ho.length_eq
    rw [List.length_map] at this
    omega
  have hso := sortInts_ef o (by omega) (hK3 l o) 2 rfl
  rw [sortI_perm ho] at hso
  ((conv => whnf); repeat' ((first | refine CallN.efD hso ?_ | refine RowN.row2 (by first | omega | (show _ = _ + 1; omega)) ?_ | refine RowN.row1 (by first | omega | (show _ = _ + 1; omega)) ?_ | refine RowN.rowB (by first | omega | (show _ = _ + 1; omega)) ?_ | refine RowSN.row2 (by first | omega | (show _ = _ + 1; omega)) ?_ | refine RowSN.row1 (by first | omega | (show _ = _ + 1; omega)) ?_ | refine RowSN.rowB (by first | omega | (show _ = _ + 1; omega)) ?_ | refine IxN.mk _ rfl ?_ | refine shr_ok rfl rfl ?_ | refine WrapN.inU ⟨by omega, by omega⟩ ?_ | refine vv1 ?_ | refine vv2 ?_ | refine vv3 ?_ | refine vv4 ?_ | refine vv5 ?_ | refine vv6 ?_ | refine vv7 ?_ | refine vv8 ?_ | refine vv9 ?_ | refine vv10 ?_ | refine vv11 (fun hbr => ?_) (fun hbr => ?_) | refine vv12 (fun hbr => ?_) (fun hbr => ?_) | refine vv13 ?_ | refine vv14 ?_ | refine vv15 ?_ | refine vv16 ?_ | refine vv17 (fun hbr => ?_) (fun hbr => ?_) | refine vv18 ?_ | refine vv19 (fun hbr => ?_) (fun hbr => ?_) | refine vv20 ?_ | refine SlIdxN.map _ rfl (by first | assumption | omega) ?_ | refine SlIdxN.mapPred (by omega) (by omega) ?_ | refine SlIdxN.mapSucc (by omega) ?_ | refine SlIdxN.lit _ _ rfl rfl ?_ | refine SlIdxN.mapInt (by omega) (by omega) ?_ | refine IdxN.at0 _ rfl (by first | assumption | omega | (simp <;> omega)) ?_ | refine vv21 ?_ | refine RowN.map (by first | assumption | omega) ?_ | refine vv22 ?_ | refine RowSN.map (by first | assumption | omega) ?_ | refine vv23 ?_ | refine vv24 ?_ | refine vv25 ?_ | refine Need.mk (by first | assumption | omega | (simp <;> omega)) ?_ | refine DrawN.gen (by first | exact tryd_ok _ | exact tryd_okm _ _) (by kernel_rfl) ?_ | refine vv26 ?_ | refine vv27 ?_ | refine vv28 ?_ | refine vv29 ?_ | refine vv30 ?_ | refine vv31 ?_ | refine vv32 ?_ | refine vv33 ?_) <;> (conv => whnf)))
  have hk : (keysM l).length = o.length := by rw [keysM, sortI, List.length_mergeSort, ho.length_eq]
  rw [hk]
  exact ⟨⟨rfl, rfl⟩⟩
end Go.Proofs.Ax
namespace Go.Proofs.Ax
open Go Go.Proofs
set_option maxRecDepth 10000
set_option maxHeartbeats 4000000
theorem mkeys_ef (l : List Itm) : Ef Tryz.prog G1 111 [.mp 0] [mM l] fun y H' => y = clK ∧ H' = hK l := by
  refine Ef.of_ev (T := Tryz.tab) (n := 4) (tryd_okg 1 _) rfl Tryz.func111 rfl rfl (by simp) ?_
  ((conv => whnf); repeat' ((first | refine vv1 ?_ | refine vv2 ?_ | refine vv3 ?_ | refine vv4 ?_ | refine vv5 ?_ | refine vv6 ?_ | refine vv7 ?_ | refine vv8 ?_ | refine vv9 ?_ | refine vv10 ?_ | refine vv11 (fun hbr => ?_) (fun hbr => ?_) | refine vv12 (fun hbr => ?_) (fun hbr => ?_) | refine vv13 ?_ | refine vv14 ?_ | refine vv15 ?_ | refine vv16 ?_ | refine vv17 (fun hbr => ?_) (fun hbr => ?_) | refine vv18 ?_ | refine vv19 (fun hbr => ?_) (fun hbr => ?_) | refine vv20 ?_ | refine SlIdxN.map _ rfl (by first | assumption | omega) ?_ | refine SlIdxN.mapPred (by omega) (by omega) ?_ | refine SlIdxN.mapSucc (by omega) ?_ | refine SlIdxN.lit _ _ rfl rfl ?_ | refine SlIdxN.mapInt (by omega) (by omega) ?_ | refine IdxN.at0 _ rfl (by first | assumption | omega | (simp <;> omega)) ?_ | refine vv21 ?_ | refine RowN.map (by first | assumption | omega) ?_ | refine vv22 ?_ | refine RowSN.map (by first | assumption | omega) ?_ | refine vv23 ?_ | refine vv24 ?_ | refine vv25 ?_ | refine Need.mk (by first | assumption | omega | (simp <;> omega)) ?_ | refine DrawN.gen (by first | exact tryd_ok _ | exact tryd_okm _ _) (by kernel_rfl) ?_ | refine vv26 ?_ | refine vv27 ?_ | refine vv28 ?_ | refine vv29 ?_ | refine vv30 ?_ | refine vv31 ?_ | refine vv32 ?_ | refine vv33 ?_) <;> (conv => whnf)))
  exact ⟨⟨rfl, rfl⟩⟩
theorem keysM_accts {l : List Posting} : keysM (dl l) = accts l := by
  have hs : (keysM (dl l)).Pairwise fun x y => x ≤ y := by
    have := List.pairwise_mergeSort (le := fun x y : Int => decide (x ≤ y)) (fun a b c h1 h2 => by simp only [decide_eq_true_eq] at *; omega) (fun a b => by simp only [Bool.or_eq_true, decide_eq_true_eq]; omega) ((gsM (dl l)).map (·.1))
    exact this.imp fun h => by simpa using h
  have hg := groupsOf_ok (·.1) (dl l)
  have hnd : (keysM (dl l)).Nodup := (List.mergeSort_perm _ _).nodup_iff.2 hg.nodup
  have hinc : Inc (keysM (dl l)) := (hs.and hnd).imp fun h => by omega
  refine Inc.ext hinc (accts_inc l) fun a => ?_
  rw [mem_accts, keysM, sortI, (List.mergeSort_perm _ _).mem_iff, hg.mem a]
  unfold dl accs
  constructor
  · rintro ⟨x, hx, rfl⟩
    obtain ⟨p, hp, h2⟩ := List.mem_flatMap.1 hx
    refine List.mem_flatMap.2 ⟨p, hp, ?_⟩
    rcases List.mem_cons.1 h2 with rfl | h2
    · exact List.mem_cons_self ..
    · rw [List.mem_singleton.1 h2]; exact List.mem_cons_of_mem _ (List.mem_singleton.2 rfl)
  · intro ha
    obtain ⟨p, hp, h2⟩ := List.mem_flatMap.1 ha
    rcases List.mem_cons.1 h2 with rfl | h2
    · exact ⟨_, List.mem_flatMap.2 ⟨p, hp, List.mem_cons_self ..⟩, rfl⟩
    · rw [List.mem_singleton.1 h2]
      exact ⟨_, List.mem_flatMap.2 ⟨p, hp, List.mem_cons_of_mem _ (List.mem_singleton.2 rfl)⟩, rfl⟩
theorem dl_len (l : List Posting) : (dl l).length = 2 * l.length := by
  unfold dl
  induction l with
  | nil => rfl
  | cons p l ih => simp only [List.flatMap_cons, List.length_append, List.length_cons, List.length_nil, ih]; omega
theorem balances_ef (t : Bool) (l : List Posting) (hl : ∀ p ∈ l, p.src ≠ p.dst ∧ 1 ≤ p.amount ∧ p.amount ≤ 1099511627776) (hmax : l.length ≤ 100000) (hbd : ∀ k a, k ≤ l.length → -(1099511627776 * (k : Int)) ≤ bal (l.take k) a ∧ bal (l.take k) a ≤ 1099511627776 * (k : Int)) :
    Ef Tryz.prog G1 76 [postings t l] [] fun y H' => y = .sm 0 2 0 (balsOf l).length ∧ H' = [.rows ((balsOf l).map chE) 74] := by
  refine Ef.reabs (Ef.of_ev (T := Tryz.tab) (n := 49) (tryd_okg 0 _) rfl Tryz.func76 rfl rfl (by simp) ?_)
  ((conv => whnf); repeat' ((first | refine vv1 ?_ | refine vv2 ?_ | refine vv3 ?_ | refine vv4 ?_ | refine vv5 ?_ | refine vv6 ?_ | refine vv7 ?_ | refine vv8 ?_ | refine vv9 ?_ | refine vv10 ?_ | refine vv11 (fun hbr => ?_) (fun hbr => ?_) | refine vv12 (fun hbr => ?_) (fun hbr => ?_) | refine vv13 ?_ | refine vv14 ?_ | refine vv15 ?_ | refine vv16 ?_ | refine vv17 (fun hbr => ?_) (fun hbr => ?_) | refine vv18 ?_ | refine vv19 (fun hbr => ?_) (fun hbr => ?_) | refine vv20 ?_ | refine SlIdxN.map _ rfl (by first | assumption | omega) ?_ | refine SlIdxN.mapPred (by omega) (by omega) ?_ | refine SlIdxN.mapSucc (by omega) ?_ | refine SlIdxN.lit _ _ rfl rfl ?_ | refine SlIdxN.mapInt (by omega) (by omega) ?_ | refine IdxN.at0 _ rfl (by first | assumption | omega | (simp <;> omega)) ?_ | refine vv21 ?_ | refine RowN.map (by first | assumption | omega) ?_ | refine vv22 ?_ | refine RowSN.map (by first | assumption | omega) ?_ | refine vv23 ?_ | refine vv24 ?_ | refine vv25 ?_ | refine Need.mk (by first | assumption | omega | (simp <;> omega)) ?_ | refine DrawN.gen (by first | exact tryd_ok _ | exact tryd_okm _ _) (by kernel_rfl) ?_ | refine vv26 ?_ | refine vv27 ?_ | refine vv28 ?_ | refine vv29 ?_ | refine vv30 ?_ | refine vv31 ?_ | refine vv32 ?_ | refine vv33 ?_) <;> (conv => whnf)))
  refine StepN.mk (.mp 0) [.amap [] 0] (by simp only [astep, amakeMap, Tryz.underlying162]; rfl) ?_
  ((conv => whnf); repeat' ((first | refine vv1 ?_ | refine vv2 ?_ | refine vv3 ?_ | refine vv4 ?_ | refine vv5 ?_ | refine vv6 ?_ | refine vv7 ?_ | refine vv8 ?_ | refine vv9 ?_ | refine vv10 ?_ | refine vv11 (fun hbr => ?_) (fun hbr => ?_) | refine vv12 (fun hbr => ?_) (fun hbr => ?_) | refine vv13 ?_ | refine vv14 ?_ | refine vv15 ?_ | refine vv16 ?_ | refine vv17 (fun hbr => ?_) (fun hbr => ?_) | refine vv18 ?_ | refine vv19 (fun hbr => ?_) (fun hbr => ?_) | refine vv20 ?_ | refine SlIdxN.map _ rfl (by first | assumption | omega) ?_ | refine SlIdxN.mapPred (by omega) (by omega) ?_ | refine SlIdxN.mapSucc (by omega) ?_ | refine SlIdxN.lit _ _ rfl rfl ?_ | refine SlIdxN.mapInt (by omega) (by omega) ?_ | refine IdxN.at0 _ rfl (by first | assumption | omega | (simp <;> omega)) ?_ | refine vv21 ?_ | refine RowN.map (by first | assumption | omega) ?_ | refine vv22 ?_ | refine RowSN.map (by first | assumption | omega) ?_ | refine vv23 ?_ | refine vv24 ?_ | refine vv25 ?_ | refine Need.mk (by first | assumption | omega | (simp <;> omega)) ?_ | refine DrawN.gen (by first | exact tryd_ok _ | exact tryd_okm _ _) (by kernel_rfl) ?_ | refine vv26 ?_ | refine vv27 ?_ | refine vv28 ?_ | refine vv29 ?_ | refine vv30 ?_ | refine vv31 ?_ | refine vv32 ?_ | refine vv33 ?_) <;> (conv => whnf)))
  refine LoopN.of (tryd_okg 0 _) (fun (k : Nat) => [(3, .mp 0), (10, postings t l), (11, vi l.length), (12, vi k)]) (fun k => [mM (dl (l.take k))]) (fun k => l.length - k) (fun k => k ≤ l.length) 0 (Nat.zero_le _)
    (Reabs.frmM [0] (by repeat (first | exact trivial | refine ⟨.inr ⟨rfl, rfl⟩, ?_⟩ | refine ⟨.inr ⟨rfl, vi_eq (by first | omega | (simp; done) | (simp; omega))⟩, ?_⟩ | refine ⟨.inr ⟨rfl, smE rfl (by first | omega | (simp; done) | (simp; omega))⟩, ?_⟩)) (by exact ⟨⟨_, rfl, mM_blk [], fun _ => rfl⟩, trivial⟩) rfl rfl) ?_
  intro k hk
  by_cases hlt : k < l.length
  · have hok := hl _ (List.getElem_mem hlt)
    have hsn := dl_snoc hlt
    have hne : ∀ p ∈ l.take k, p.src ≠ p.dst := fun p hp => (hl p (List.mem_of_mem_take hp)).1
    have e1 := sumM_dl l[k].src hne
    have e2 := sumM_dl l[k].dst hne
    have b1 := hbd k l[k].src hk
    have b2 := hbd k l[k].dst hk
    rw [← e1] at b1
    have e3 : sumM l[k].dst (dl (l.take k) ++ [(l[k].src, -l[k].amount)]) = bal (l.take k) l[k].dst := by
      rw [sumM_append, e2]
      have : sumM l[k].dst [(l[k].src, -l[k].amount)] = 0 := by
        unfold sumM sumV
        simp [hok.1]
      omega
    rw [← e3] at b2
    have hamt := hok.2
    clear hok e1 e2 e3 hne
    generalize hA : dl (l.take k) = A at *
    ((conv => whnf); repeat' ((first | refine vv1 ?_ | refine vv2 ?_ | refine vv3 ?_ | refine vv4 ?_ | refine vv5 ?_ | refine vv6 ?_ | refine vv7 ?_ | refine vv8 ?_ | refine vv9 ?_ | refine vv10 ?_ | refine vv11 (fun hbr => ?_) (fun hbr => ?_) | refine vv12 (fun hbr => ?_) (fun hbr => ?_) | refine vv13 ?_ | refine vv14 ?_ | refine vv15 ?_ | refine vv16 ?_ | refine vv17 (fun hbr => ?_) (fun hbr => ?_) | refine vv18 ?_ | refine vv19 (fun hbr => ?_) (fun hbr => ?_) | refine vv20 ?_ | refine SlIdxN.map _ rfl (by first | assumption | omega) ?_ | refine SlIdxN.mapPred (by omega) (by omega) ?_ | refine SlIdxN.mapSucc (by omega) ?_ | refine SlIdxN.lit _ _ rfl rfl ?_ | refine SlIdxN.mapInt (by omega) (by omega) ?_ | refine IdxN.at0 _ rfl (by first | assumption | omega | (simp <;> omega)) ?_ | refine vv21 ?_ | refine RowN.map (by first | assumption | omega) ?_ | refine vv22 ?_ | refine RowSN.map (by first | assumption | omega) ?_ | refine vv23 ?_ | refine vv24 ?_ | refine vv25 ?_ | refine Need.mk (by first | assumption | omega | (simp <;> omega)) ?_ | refine DrawN.gen (by first | exact tryd_ok _ | exact tryd_okm _ _) (by kernel_rfl) ?_ | refine vv26 ?_ | refine vv27 ?_ | refine vv28 ?_ | refine vv29 ?_ | refine vv30 ?_ | refine vv31 ?_ | refine vv32 ?_ | refine vv33 ?_) <;> (conv => whnf)))
    refine StepN.mk (vi (sumM l[k].src A)) [mM A, .rows [l[k].enc] 61] (lookM A l[k].src rfl) ?_
    ((conv => whnf); repeat' ((first | refine vv1 ?_ | refine vv2 ?_ | refine vv3 ?_ | refine vv4 ?_ | refine vv5 ?_ | refine vv6 ?_ | refine vv7 ?_ | refine vv8 ?_ | refine vv9 ?_ | refine vv10 ?_ | refine vv11 (fun hbr => ?_) (fun hbr => ?_) | refine vv12 (fun hbr => ?_) (fun hbr => ?_) | refine vv13 ?_ | refine vv14 ?_ | refine vv15 ?_ | refine vv16 ?_ | refine vv17 (fun hbr => ?_) (fun hbr => ?_) | refine vv18 ?_ | refine vv19 (fun hbr => ?_) (fun hbr => ?_) | refine vv20 ?_ | refine SlIdxN.map _ rfl (by first | assumption | omega) ?_ | refine SlIdxN.mapPred (by omega) (by omega) ?_ | refine SlIdxN.mapSucc (by omega) ?_ | refine SlIdxN.lit _ _ rfl rfl ?_ | refine SlIdxN.mapInt (by omega) (by omega) ?_ | refine IdxN.at0 _ rfl (by first | assumption | omega | (simp <;> omega)) ?_ | refine vv21 ?_ | refine RowN.map (by first | assumption | omega) ?_ | refine vv22 ?_ | refine RowSN.map (by first | assumption | omega) ?_ | refine vv23 ?_ | refine vv24 ?_ | refine vv25 ?_ | refine Need.mk (by first | assumption | omega | (simp <;> omega)) ?_ | refine DrawN.gen (by first | exact tryd_ok _ | exact tryd_okm _ _) (by kernel_rfl) ?_ | refine vv26 ?_ | refine vv27 ?_ | refine vv28 ?_ | refine vv29 ?_ | refine vv30 ?_ | refine vv31 ?_ | refine vv32 ?_ | refine vv33 ?_) <;> (conv => whnf)))
    refine StepN.mk .any [mM (A ++ [(l[k].src, -l[k].amount)]), .rows [l[k].enc] 61] (updM A (l[k].src, -l[k].amount) (m := 0) rfl (by show sumM l[k].src A - l[k].amount = sumM l[k].src A + -l[k].amount; omega)) ?_
    ((conv => whnf); repeat' ((first | refine vv1 ?_ | refine vv2 ?_ | refine vv3 ?_ | refine vv4 ?_ | refine vv5 ?_ | refine vv6 ?_ | refine vv7 ?_ | refine vv8 ?_ | refine vv9 ?_ | refine vv10 ?_ | refine vv11 (fun hbr => ?_) (fun hbr => ?_) | refine vv12 (fun hbr => ?_) (fun hbr => ?_) | refine vv13 ?_ | refine vv14 ?_ | refine vv15 ?_ | refine vv16 ?_ | refine vv17 (fun hbr => ?_) (fun hbr => ?_) | refine vv18 ?_ | refine vv19 (fun hbr => ?_) (fun hbr => ?_) | refine vv20 ?_ | refine SlIdxN.map _ rfl (by first | assumption | omega) ?_ | refine SlIdxN.mapPred (by omega) (by omega) ?_ | refine SlIdxN.mapSucc (by omega) ?_ | refine SlIdxN.lit _ _ rfl rfl ?_ | refine SlIdxN.mapInt (by omega) (by omega) ?_ | refine IdxN.at0 _ rfl (by first | assumption | omega | (simp <;> omega)) ?_ | refine vv21 ?_ | refine RowN.map (by first | assumption | omega) ?_ | refine vv22 ?_ | refine RowSN.map (by first | assumption | omega) ?_ | refine vv23 ?_ | refine vv24 ?_ | refine vv25 ?_ | refine Need.mk (by first | assumption | omega | (simp <;> omega)) ?_ | refine DrawN.gen (by first | exact tryd_ok _ | exact tryd_okm _ _) (by kernel_rfl) ?_ | refine vv26 ?_ | refine vv27 ?_ | refine vv28 ?_ | refine vv29 ?_ | refine vv30 ?_ | refine vv31 ?_ | refine vv32 ?_ | refine vv33 ?_) <;> (conv => whnf)))
    generalize hB : A ++ [(l[k].src, -l[k].amount)] = B at *
    refine StepN.mk (vi (sumM l[k].dst B)) [mM B, .rows [l[k].enc] 61] (lookM B l[k].dst rfl) ?_
    ((conv => whnf); repeat' ((first | refine vv1 ?_ | refine vv2 ?_ | refine vv3 ?_ | refine vv4 ?_ | refine vv5 ?_ | refine vv6 ?_ | refine vv7 ?_ | refine vv8 ?_ | refine vv9 ?_ | refine vv10 ?_ | refine vv11 (fun hbr => ?_) (fun hbr => ?_) | refine vv12 (fun hbr => ?_) (fun hbr => ?_) | refine vv13 ?_ | refine vv14 ?_ | refine vv15 ?_ | refine vv16 ?_ | refine vv17 (fun hbr => ?_) (fun hbr => ?_) | refine vv18 ?_ | refine vv19 (fun hbr => ?_) (fun hbr => ?_) | refine vv20 ?_ | refine SlIdxN.map _ rfl (by first | assumption | omega) ?_ | refine SlIdxN.mapPred (by omega) (by omega) ?_ | refine SlIdxN.mapSucc (by omega) ?_ | refine SlIdxN.lit _ _ rfl rfl ?_ | refine SlIdxN.mapInt (by omega) (by omega) ?_ | refine IdxN.at0 _ rfl (by first | assumption | omega | (simp <;> omega)) ?_ | refine vv21 ?_ | refine RowN.map (by first | assumption | omega) ?_ | refine vv22 ?_ | refine RowSN.map (by first | assumption | omega) ?_ | refine vv23 ?_ | refine vv24 ?_ | refine vv25 ?_ | refine Need.mk (by first | assumption | omega | (simp <;> omega)) ?_ | refine DrawN.gen (by first | exact tryd_ok _ | exact tryd_okm _ _) (by kernel_rfl) ?_ | refine vv26 ?_ | refine vv27 ?_ | refine vv28 ?_ | refine vv29 ?_ | refine vv30 ?_ | refine vv31 ?_ | refine vv32 ?_ | refine vv33 ?_) <;> (conv => whnf)))
    refine StepN.mk .any [mM (B ++ [(l[k].dst, l[k].amount)]), .rows [l[k].enc] 61] (updM B (l[k].dst, l[k].amount) (m := 0) rfl rfl) ?_
    ((conv => whnf); repeat' ((first | refine vv1 ?_ | refine vv2 ?_ | refine vv3 ?_ | refine vv4 ?_ | refine vv5 ?_ | refine vv6 ?_ | refine vv7 ?_ | refine vv8 ?_ | refine vv9 ?_ | refine vv10 ?_ | refine vv11 (fun hbr => ?_) (fun hbr => ?_) | refine vv12 (fun hbr => ?_) (fun hbr => ?_) | refine vv13 ?_ | refine vv14 ?_ | refine vv15 ?_ | refine vv16 ?_ | refine vv17 (fun hbr => ?_) (fun hbr => ?_) | refine vv18 ?_ | refine vv19 (fun hbr => ?_) (fun hbr => ?_) | refine vv20 ?_ | refine SlIdxN.map _ rfl (by first | assumption | omega) ?_ | refine SlIdxN.mapPred (by omega) (by omega) ?_ | refine SlIdxN.mapSucc (by omega) ?_ | refine SlIdxN.lit _ _ rfl rfl ?_ | refine SlIdxN.mapInt (by omega) (by omega) ?_ | refine IdxN.at0 _ rfl (by first | assumption | omega | (simp <;> omega)) ?_ | refine vv21 ?_ | refine RowN.map (by first | assumption | omega) ?_ | refine vv22 ?_ | refine RowSN.map (by first | assumption | omega) ?_ | refine vv23 ?_ | refine vv24 ?_ | refine vv25 ?_ | refine Need.mk (by first | assumption | omega | (simp <;> omega)) ?_ | refine DrawN.gen (by first | exact tryd_ok _ | exact tryd_okm _ _) (by kernel_rfl) ?_ | refine vv26 ?_ | refine vv27 ?_ | refine vv28 ?_ | refine vv29 ?_ | refine vv30 ?_ | refine vv31 ?_ | refine vv32 ?_ | refine vv33 ?_) <;> (conv => whnf)))
    refine BackN.mk (k + 1) (by omega) (by omega) ?_
    simp only [hsn]
    exact (Reabs.frmM [0] (by repeat (first | exact trivial | refine ⟨.inr ⟨rfl, rfl⟩, ?_⟩ | refine ⟨.inr ⟨rfl, vi_eq (by first | omega | (simp; done) | (simp; omega))⟩, ?_⟩ | refine ⟨.inr ⟨rfl, smE rfl (by first | omega | (simp; done) | (simp; omega))⟩, ?_⟩)) (by exact ⟨⟨_, rfl, mM_blk _, fun _ => rfl⟩, trivial⟩) rfl rfl)
  obtain rfl : k = l.length := by omega
  rw [List.take_length]
  have hsk := sorted_keys (dl l) (by rw [dl_len]; omega)
  rw [keysM_accts] at hsk
  have hal := accts_len l
  have hne : ∀ p ∈ l, p.src ≠ p.dst := fun p hp => (hl p hp).1
  ((conv => whnf); repeat' ((first | refine CallN.efD (mkeys_ef (dl l)) ?_ | refine CallN.efD hsk ?_ | refine RowN.row2 (by first | omega | (show _ = _ + 1; omega)) ?_ | refine RowN.row1 (by first | omega | (show _ = _ + 1; omega)) ?_ | refine RowN.rowB (by first | omega | (show _ = _ + 1; omega)) ?_ | refine RowSN.row2 (by first | omega | (show _ = _ + 1; omega)) ?_ | refine RowSN.row1 (by first | omega | (show _ = _ + 1; omega)) ?_ | refine RowSN.rowB (by first | omega | (show _ = _ + 1; omega)) ?_ | refine IxN.mk _ rfl ?_ | refine shr_ok rfl rfl ?_ | refine WrapN.inU ⟨by omega, by omega⟩ ?_ | refine vv1 ?_ | refine vv2 ?_ | refine vv3 ?_ | refine vv4 ?_ | refine vv5 ?_ | refine vv6 ?_ | refine vv7 ?_ | refine vv8 ?_ | refine vv9 ?_ | refine vv10 ?_ | refine vv11 (fun hbr => ?_) (fun hbr => ?_) | refine vv12 (fun hbr => ?_) (fun hbr => ?_) | refine vv13 ?_ | refine vv14 ?_ | refine vv15 ?_ | refine vv16 ?_ | refine vv17 (fun hbr => ?_) (fun hbr => ?_) | refine vv18 ?_ | refine vv19 (fun hbr => ?_) (fun hbr => ?_) | refine vv20 ?_ | refine SlIdxN.map _ rfl (by first | assumption | omega) ?_ | refine SlIdxN.mapPred (by omega) (by omega) ?_ | refine SlIdxN.mapSucc (by omega) ?_ | refine SlIdxN.lit _ _ rfl rfl ?_ | refine SlIdxN.mapInt (by omega) (by omega) ?_ | refine IdxN.at0 _ rfl (by first | assumption | omega | (simp <;> omega)) ?_ | refine vv21 ?_ | refine RowN.map (by first | assumption | omega) ?_ | refine vv22 ?_ | refine RowSN.map (by first | assumption | omega) ?_ | refine vv23 ?_ | refine vv24 ?_ | refine vv25 ?_ | refine Need.mk (by first | assumption | omega | (simp <;> omega)) ?_ | refine DrawN.gen (by first | exact tryd_ok _ | exact tryd_okm _ _) (by kernel_rfl) ?_ | refine vv26 ?_ | refine vv27 ?_ | refine vv28 ?_ | refine vv29 ?_ | refine vv30 ?_ | refine vv31 ?_ | refine vv32 ?_ | refine vv33 ?_) <;> (conv => whnf)))
  refine LoopN.of (tryd_okg 0 _) (fun (k : Nat) => [(3, .mp 0), (6, .sm 3 2 0 k), (33, .sm 2 1 0 (accts l).length), (34, vi (accts l).length), (35, vi k)]) (fun k => [mM (dl l), .rows [[.mp 0]] 162, .rows ((accts l).map intRow) 3, .rows (((accts l).take k).map fun a => chE (a, bal l a)) 74]) (fun k => (accts l).length - k) (fun k => k ≤ (accts l).length) 0 (Nat.zero_le _)
    ((Reabs.virt 6 2 74 rfl).trans (Reabs.frmM [0, 1, 2, 3] (by repeat (first | exact trivial | refine ⟨.inr ⟨rfl, rfl⟩, ?_⟩ | refine ⟨.inr ⟨rfl, vi_eq (by first | omega | (simp; done) | (simp; omega))⟩, ?_⟩ | refine ⟨.inr ⟨rfl, smE rfl (by first | omega | (simp; done) | (simp; omega))⟩, ?_⟩)) (by exact ⟨⟨_, rfl, mM_blk _, fun _ => rfl⟩, ⟨_, rfl, blkOk rfl rfl, fun _ => rfl⟩, ⟨_, rfl, blkDeep rfl (deepMap (fun _ => rfl)), fun _ => rfl⟩, ⟨_, rfl, blkDeep rfl (deepLit rfl), fun _ => rfl⟩, trivial⟩) rfl rfl)) ?_
  intro k hk
  by_cases hlt : k < (accts l).length
  · ((conv => whnf); repeat' ((first | refine vv1 ?_ | refine vv2 ?_ | refine vv3 ?_ | refine vv4 ?_ | refine vv5 ?_ | refine vv6 ?_ | refine vv7 ?_ | refine vv8 ?_ | refine vv9 ?_ | refine vv10 ?_ | refine vv11 (fun hbr => ?_) (fun hbr => ?_) | refine vv12 (fun hbr => ?_) (fun hbr => ?_) | refine vv13 ?_ | refine vv14 ?_ | refine vv15 ?_ | refine vv16 ?_ | refine vv17 (fun hbr => ?_) (fun hbr => ?_) | refine vv18 ?_ | refine vv19 (fun hbr => ?_) (fun hbr => ?_) | refine vv20 ?_ | refine SlIdxN.map _ rfl (by first | assumption | omega) ?_ | refine SlIdxN.mapPred (by omega) (by omega) ?_ | refine SlIdxN.mapSucc (by omega) ?_ | refine SlIdxN.lit _ _ rfl rfl ?_ | refine SlIdxN.mapInt (by omega) (by omega) ?_ | refine IdxN.at0 _ rfl (by first | assumption | omega | (simp <;> omega)) ?_ | refine vv21 ?_ | refine RowN.map (by first | assumption | omega) ?_ | refine vv22 ?_ | refine RowSN.map (by first | assumption | omega) ?_ | refine vv23 ?_ | refine vv24 ?_ | refine vv25 ?_ | refine Need.mk (by first | assumption | omega | (simp <;> omega)) ?_ | refine DrawN.gen (by first | exact tryd_ok _ | exact tryd_okm _ _) (by kernel_rfl) ?_ | refine vv26 ?_ | refine vv27 ?_ | refine vv28 ?_ | refine vv29 ?_ | refine vv30 ?_ | refine vv31 ?_ | refine vv32 ?_ | refine vv33 ?_) <;> (conv => whnf)))
    refine StepN.mk (vi (bal l (accts l)[k])) [mM (dl l), .rows [[.mp 0]] 162, .rows ((accts l).map intRow) 3, .rows (((accts l).take k).map fun a => chE (a, bal l a)) 74] ((lookM (dl l) (accts l)[k] (m := 0) rfl).trans (by rw [sumM_dl _ hne])) ?_
    ((conv => whnf); repeat' ((first | refine AppN.len (k + 1) (by first | omega | (simp; done) | (simp; omega)) (by first | omega | (simp; done) | (simp; omega)) (by first | omega | (simp; done) | (simp; omega)) ?_ | refine RowN.row2 (by first | omega | (show _ = _ + 1; omega)) ?_ | refine RowN.row1 (by first | omega | (show _ = _ + 1; omega)) ?_ | refine RowN.rowB (by first | omega | (show _ = _ + 1; omega)) ?_ | refine RowSN.row2 (by first | omega | (show _ = _ + 1; omega)) ?_ | refine RowSN.row1 (by first | omega | (show _ = _ + 1; omega)) ?_ | refine RowSN.rowB (by first | omega | (show _ = _ + 1; omega)) ?_ | refine IxN.mk _ rfl ?_ | refine shr_ok rfl rfl ?_ | refine WrapN.inU ⟨by omega, by omega⟩ ?_ | refine vv1 ?_ | refine vv2 ?_ | refine vv3 ?_ | refine vv4 ?_ | refine vv5 ?_ | refine vv6 ?_ | refine vv7 ?_ | refine vv8 ?_ | refine vv9 ?_ | refine vv10 ?_ | refine vv11 (fun hbr => ?_) (fun hbr => ?_) | refine vv12 (fun hbr => ?_) (fun hbr => ?_) | refine vv13 ?_ | refine vv14 ?_ | refine vv15 ?_ | refine vv16 ?_ | refine vv17 (fun hbr => ?_) (fun hbr => ?_) | refine vv18 ?_ | refine vv19 (fun hbr => ?_) (fun hbr => ?_) | refine vv20 ?_ | refine SlIdxN.map _ rfl (by first | assumption | omega) ?_ | refine SlIdxN.mapPred (by omega) (by omega) ?_ | refine SlIdxN.mapSucc (by omega) ?_ | refine SlIdxN.lit _ _ rfl rfl ?_ | refine SlIdxN.mapInt (by omega) (by omega) ?_ | refine IdxN.at0 _ rfl (by first | assumption | omega | (simp <;> omega)) ?_ | refine vv21 ?_ | refine RowN.map (by first | assumption | omega) ?_ | refine vv22 ?_ | refine RowSN.map (by first | assumption | omega) ?_ | refine vv23 ?_ | refine vv24 ?_ | refine vv25 ?_ | refine Need.mk (by first | assumption | omega | (simp <;> omega)) ?_ | refine DrawN.gen (by first | exact tryd_ok _ | exact tryd_okm _ _) (by kernel_rfl) ?_ | refine vv26 ?_ | refine vv27 ?_ | refine vv28 ?_ | refine vv29 ?_ | refine vv30 ?_ | refine vv31 ?_ | refine vv32 ?_ | refine vv33 ?_) <;> (conv => whnf)))
    refine BackN.mk (k + 1) (by omega) (by omega) (Reabs.frmM [0, 1, 2, 4] (by repeat (first | exact trivial | refine ⟨.inr ⟨rfl, rfl⟩, ?_⟩ | refine ⟨.inr ⟨rfl, vi_eq (by first | omega | (simp; done) | (simp; omega))⟩, ?_⟩ | refine ⟨.inr ⟨rfl, smE rfl (by first | omega | (simp; done) | (simp; omega))⟩, ?_⟩)) ?_ rfl rfl)
    exact ⟨⟨_, rfl, mM_blk _, fun _ => rfl⟩, ⟨_, rfl, blkOk rfl rfl, fun _ => rfl⟩, ⟨_, rfl, blkDeep rfl (deepMap (fun _ => rfl)), fun _ => rfl⟩, ⟨_, rfl, blkDeep (by rw [take_succ_snoc hlt, List.map_append]; rfl) (deepMap (fun _ => rfl)), fun _ => rfl⟩, trivial⟩
  · obtain rfl : k = (accts l).length := by omega
    ((conv => whnf); repeat' ((first | refine vv1 ?_ | refine vv2 ?_ | refine vv3 ?_ | refine vv4 ?_ | refine vv5 ?_ | refine vv6 ?_ | refine vv7 ?_ | refine vv8 ?_ | refine vv9 ?_ | refine vv10 ?_ | refine vv11 (fun hbr => ?_) (fun hbr => ?_) | refine vv12 (fun hbr => ?_) (fun hbr => ?_) | refine vv13 ?_ | refine vv14 ?_ | refine vv15 ?_ | refine vv16 ?_ | refine vv17 (fun hbr => ?_) (fun hbr => ?_) | refine vv18 ?_ | refine vv19 (fun hbr => ?_) (fun hbr => ?_) | refine vv20 ?_ | refine SlIdxN.map _ rfl (by first | assumption | omega) ?_ | refine SlIdxN.mapPred (by omega) (by omega) ?_ | refine SlIdxN.mapSucc (by omega) ?_ | refine SlIdxN.lit _ _ rfl rfl ?_ | refine SlIdxN.mapInt (by omega) (by omega) ?_ | refine IdxN.at0 _ rfl (by first | assumption | omega | (simp <;> omega)) ?_ | refine vv21 ?_ | refine RowN.map (by first | assumption | omega) ?_ | refine vv22 ?_ | refine RowSN.map (by first | assumption | omega) ?_ | refine vv23 ?_ | refine vv24 ?_ | refine vv25 ?_ | refine Need.mk (by first | assumption | omega | (simp <;> omega)) ?_ | refine DrawN.gen (by first | exact tryd_ok _ | exact tryd_okm _ _) (by kernel_rfl) ?_ | refine vv26 ?_ | refine vv27 ?_ | refine vv28 ?_ | refine vv29 ?_ | refine vv30 ?_ | refine vv31 ?_ | refine vv32 ?_ | refine vv33 ?_) <;> (conv => whnf)))
    refine ⟨⟨_, [.rows ((balsOf l).map chE) 74], ?_, rfl, rfl⟩⟩
    rw [List.take_length]
    have e : (balsOf l).map chE = (accts l).map fun a => chE (a, bal l a) := by rw [balsOf, List.map_map]; rfl
    have e2 : (balsOf l).length = (accts l).length := by rw [balsOf, List.length_map]
    rw [e, e2]
    exact (Reabs.frmM [3] (by repeat (first | exact trivial | refine ⟨.inr ⟨rfl, rfl⟩, ?_⟩ | refine ⟨.inr ⟨rfl, vi_eq (by first | omega | (simp; done) | (simp; omega))⟩, ?_⟩ | refine ⟨.inr ⟨rfl, smE rfl (by first | omega | (simp; done) | (simp; omega))⟩, ?_⟩)) (by exact ⟨⟨_, rfl, blkDeep rfl (deepMap (fun _ => rfl)), fun _ => rfl⟩, trivial⟩) rfl rfl)
end Go.Proofs.Ax
