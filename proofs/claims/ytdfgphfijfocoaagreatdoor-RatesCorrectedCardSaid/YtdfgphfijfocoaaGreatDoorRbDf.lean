import Derived.Test.YtdfgphfijfocoaaGreatDoorRbSo
namespace Go.Proofs.Ax
open Go Go.Proofs
set_option maxRecDepth 10000
set_option maxHeartbeats 4000000
abbrev fEn (gs : List ((Int × Int) × List Posting)) := fEnt kN Posting.enc 5 0 gs
abbrev mB (gs : List ((Int × Int) × List Posting)) : ABlk := .amap (fEn gs) gs.length
theorem fEn_stamp (gs : List ((Int × Int) × List Posting)) : ∀ m e, (fEn gs)[m]? = some e → e.2.2 = 0 + m := by
  intro m e h
  rw [fEnt_get] at h
  cases hg : gs[m]? with
  | none => rw [hg] at h; cases h
  | some g => rw [hg] at h; cases h; rfl
theorem mB_ren (gs : List ((Int × Int) × List Posting)) (σ : Nat → Nat) : (mB gs).ren σ = mB gs := by
  have : ∀ (i : Nat) (gs : List ((Int × Int) × List Posting)), (fEnt kN Posting.enc 5 i gs).map (fun e => (e.1.ren σ, e.2.1.ren σ, e.2.2)) = fEnt kN Posting.enc 5 i gs := by
    intro i gs
    induction gs generalizing i with
    | nil => rfl
    | cons g gs ih => rw [fEnt, List.map_cons, ih]; rfl
  show ABlk.amap _ _ = ABlk.amap _ _
  rw [this]
theorem mB_ok (gs : List ((Int × Int) × List Posting)) (n : Nat) : (mB gs).ok n := by
  intro e he
  obtain ⟨j, hj⟩ := List.getElem?_of_mem he
  rw [fEnt_get] at hj
  cases hg : gs[j]? with
  | none => rw [hg] at hj; cases hj
  | some g => rw [hg] at hj; cases hj; exact ⟨rfl, rfl⟩
theorem blkM (gs : List ((Int × Int) × List Posting)) {σ : Nat → Nat} {n : Nat} : Blk σ n (mB gs) (mB gs) := .inr (.inr ⟨mB_ok gs n, (mB_ren gs σ).symm⟩)
theorem groups_in (t : Bool) (l : List Posting) (hmax : l.length ≤ 1000000) (H : AH) : Ef Tryz.prog G1 82 [postings t l] H fun y H' => y = .mp H.length ∧ H' = H ++ [mB (gsOf l)] := by
  refine Ef.subD (groups_ef t l hmax) rfl (by simp) ⟨mB_ok _ _, trivial⟩ [] (by simp) trivial rfl (fun x hx => by rw [List.mem_singleton.1 hx]; rfl) ?_ ?_
  · simp [AV.ren, AV.ren0, tau]
  · simp only [setIds, List.drop_nil, List.length_nil, List.drop_zero, List.map_cons, List.map_nil, mB_ren]
abbrev names (t : Bool) (l : List (Int × Int)) : AV := .sl 2 t (l.map nmRow)
def grp (l : List Posting) (q : Int × Int) : List Posting := l.filter fun x => decide (nmOf x = q)
def oneP (a b : List Posting) (i : Nat) : List (Int × Int) := match (gsOf a)[i]? with
  | some g => if grp a g.1 = grp b g.1 then [] else [g.1]
  | none => []
def twoP (a b : List Posting) (i : Nat) : List (Int × Int) := match (gsOf b)[i]? with
  | some g => if grp a g.1 = [] then [g.1] else []
  | none => []
theorem groups_at (t : Bool) (l : List Posting) (hmax : l.length ≤ 1000000) (H : AH) (n : Nat) (hn : H.length = n) (H2 : AH) (h2 : H ++ [mB (gsOf l)] = H2) : Ef Tryz.prog G1 82 [postings t l] H fun y H' => y = .mp n ∧ H' = H2 := by
  subst hn; subst h2
  exact groups_in t l hmax H
theorem next_mB {P : Program} {H : AH} {it m : Nat} {gs : List ((Int × Int) × List Posting)} {seen : List Nat} (hit : H[it]? = some (.miter (some m) gs.length seen gs.length)) (hm : H[m]? = some (mB gs)) :
    ∃ outs, anext P H (.it it) false = some outs ∧ ∀ y H', (y, H') ∈ outs → (∃ i g, gs[i]? = some g ∧ i ∉ seen ∧ y = .tuple [.sc (.bool true), .agg [vi g.1.1, vi g.1.2], .sl 5 false (g.2.map Posting.enc)] ∧ H' = H.set it (.miter (some m) gs.length (seen ++ [i]) gs.length)) ∨ ((∀ i, i < gs.length → i ∈ seen) ∧ y = .tuple [.sc (.bool false)] ∧ H' = H) := by
  obtain ⟨outs, h1, h2⟩ := next_map (P := P) (fEn_stamp gs) (fEnt_length ..) hit hm
  refine ⟨outs, h1, fun y H' hy => ?_⟩
  rcases h2 y H' hy with ⟨i, e, g1, g2, rfl, rfl⟩ | h
  · rw [fEnt_get] at g1
    cases hg : gs[i]? with
    | none => rw [hg] at g1; cases g1
    | some g =>
      rw [hg] at g1
      cases g1
      exact .inl ⟨i, g, hg, g2, rfl, rfl⟩
  · exact .inr h
theorem entry_mB {H : AH} {it m i : Nat} {gs : List ((Int × Int) × List Posting)} {seen : List Nat} {g : (Int × Int) × List Posting} (hg : gs[i]? = some g) (hit : H[it]? = some (.miter (some m) gs.length (seen ++ [i]) gs.length)) (hm : H[m]? = some (mB gs)) :
    (aentry H (.it it)).map (fun y => (y, H)) = some (.tuple [.agg [vi g.1.1, vi g.1.2], .sl 5 false (g.2.map Posting.enc)], H) := by
  rw [entry_map (e := (kN g.1, .sl 5 false (g.2.map Posting.enc), i)) (fEn_stamp gs) (by rw [fEnt_get, hg, Option.map_some, Nat.zero_add]) hit hm]
  rfl
/-- What is read at a name. -/
def lkV (gs : List ((Int × Int) × List Posting)) (q : Int × Int) : AV := match idxG q gs with
  | some _ => .sl 5 false ((lookG q gs).map Posting.enc)
  | none => .sc (.slice none 0 0)
theorem look_mB {H : AH} {m : Nat} {gs : List ((Int × Int) × List Posting)} (q : Int × Int) (hm : H[m]? = some (mB gs)) : (alookup Tryz.prog H 123 (.mp m) (.agg [vi q.1, vi q.2]) false).map (fun y => (y, H)) = some (lkV gs q, H) := by
  have hz : azero Tryz.prog 49 = some (.sc (.slice none 0 0)) := by kernel_rfl
  have hk := nm_key q
  unfold kN at hk
  simp only [alookup, Tryz.underlying123, aentries, hm, hk, if_true, lkV]
  cases hi : idxG q gs with
  | none =>
    have hf : afind Tryz.prog 100 (.agg [vi q.1, vi q.2]) (fEn gs) 0 = some none := find_none (ke := kN) nm_eq (v := fun j g => .sl 5 false (g.2.map Posting.enc)) (i := 0) (n := 0) (q := q) (gs := gs) (fun j => fEnt_get (ke := kN) (ve := Posting.enc) (k := 5) 0 gs j) hi
    simp only [hf, hz]
    rfl
  | some i =>
    obtain ⟨g, h1, h2, h3⟩ := lookG_some hi
    have hf : afind Tryz.prog 100 (.agg [vi q.1, vi q.2]) (fEn gs) 0 = some (some (0 + i, (kN q, .sl 5 false (g.2.map Posting.enc), 0 + i))) := find_some (ke := kN) nm_eq (v := fun j g => .sl 5 false (g.2.map Posting.enc)) (i := 0) (n := 0) (q := q) (gs := gs) (fun j => fEnt_get (ke := kN) (ve := Posting.enc) (k := 5) 0 gs j) hi h1
    simp only [hf, h3]
    rfl
theorem lkV_len (gs : List ((Int × Int) × List Posting)) (q : Int × Int) (ps : List Posting) (h : lookG q gs = ps) : NilA [lkV gs q] [.sl 5 false (ps.map Posting.enc)] := by
  subst h
  unfold lkV
  cases hi : idxG q gs with
  | none => rw [lookG_none hi]; exact ⟨.inr ⟨rfl, _, _, rfl⟩, trivial⟩
  | some i => exact ⟨.inl rfl, trivial⟩
theorem look_grp (l : List Posting) (q : Int × Int) : lookG q (gsOf l) = grp l q := (groupsOf_ok nmOf l).look q
theorem lkV_cases (l : List Posting) (q : Int × Int) : lkV (gsOf l) q = .sl 5 false ((grp l q).map Posting.enc) ∨ (lkV (gsOf l) q = .sc (.slice none 0 0) ∧ grp l q = []) := by
  rw [← look_grp]
  unfold lkV
  cases hi : idxG q (gsOf l) with
  | none => exact .inr ⟨rfl, lookG_none hi⟩
  | some i => exact .inl rfl
theorem lkV_mem {l : List Posting} {i : Nat} {g : (Int × Int) × List Posting} (hg : (gsOf l)[i]? = some g) : lkV (gsOf l) g.1 = .sl 5 false ((grp l g.1).map Posting.enc) := by
  rcases lkV_cases l g.1 with h | ⟨h, -⟩
  · exact h
  · unfold lkV at h
    cases hi : idxG g.1 (gsOf l) with
    | none => exact absurd rfl (idxG_none.1 hi g (List.mem_of_getElem? hg))
    | some i => rw [hi] at h; cases h
abbrev dH1 (a b : List Posting) (seen : List Nat) (o : List (Int × Int)) : AH := [mB (gsOf a), mB (gsOf b), .miter (some 0) (gsOf a).length seen (gsOf a).length, .rows (o.map nmRow) 100]
abbrev dH1b (a b : List Posting) (seen : List Nat) (o : List (Int × Int)) (q : Int × Int) : AH := [mB (gsOf a), mB (gsOf b), .miter (some 0) (gsOf a).length seen (gsOf a).length, .rows (o.map nmRow) 100, .rows [nmRow q] 100]
theorem addG_length (k : Int × Int) (x : Posting) : ∀ gs : List ((Int × Int) × List Posting), (addG k x gs).length ≤ gs.length + 1
  | [] => by simp [addG]
  | g :: gs => by
    rw [addG]
    split
    · simp
    · have := addG_length k x gs
      simp only [List.length_cons]; omega
theorem gsOf_length (l : List Posting) : (gsOf l).length ≤ l.length := by
  have : ∀ (l : List Posting) (gs : List ((Int × Int) × List Posting)), (l.foldl (fun gs x => addG (nmOf x) x gs) gs).length ≤ gs.length + l.length := by
    intro l
    induction l with
    | nil => intro gs; simp
    | cons x l ih =>
      intro gs
      have h1 := ih (addG (nmOf x) x gs)
      have h2 := addG_length (nmOf x) x gs
      simp only [List.foldl_cons, List.length_cons]
      omega
  have := this l []
  simpa [gsOf, groupsOf] using this
theorem flat_len {f : Nat → List (Int × Int)} (hf : ∀ i, (f i).length ≤ 1) : ∀ l : List Nat, (l.flatMap f).length ≤ l.length
  | [] => by simp
  | i :: l => by
    have := flat_len hf l
    have := hf i
    simp only [List.flatMap_cons, List.length_append, List.length_cons]; omega
theorem oneP_len (a b : List Posting) (i : Nat) : (oneP a b i).length ≤ 1 := by
  unfold oneP
  split
  · split <;> simp
  · simp
theorem twoP_len (a b : List Posting) (i : Nat) : (twoP a b i).length ≤ 1 := by
  unfold twoP
  split
  · split <;> simp
  · simp
theorem gsOf_name {l : List Posting} {i : Nat} {g : (Int × Int) × List Posting} (hg : (gsOf l)[i]? = some g) (hl : ∀ p ∈ l, p.ok) : nmOk g.1 := by
  obtain ⟨p, hp, he⟩ := ((groupsOf_ok nmOf l).mem g.1).1 (List.mem_map_of_mem (List.mem_of_getElem? hg))
  have := hl p hp
  unfold Posting.ok at this
  rw [← he]
  exact ⟨this.1, this.2.1⟩
theorem oneP_ok {a : List Posting} (b : List Posting) (ha : ∀ p ∈ a, p.ok) (i : Nat) : ∀ q ∈ oneP a b i, nmOk q := by
  intro q hq
  unfold oneP at hq
  split at hq
  · rename_i g hg
    split at hq
    · cases hq
    · rw [List.mem_singleton.1 hq]; exact gsOf_name hg ha
  · cases hq
theorem twoP_ok (a : List Posting) {b : List Posting} (hb : ∀ p ∈ b, p.ok) (i : Nat) : ∀ q ∈ twoP a b i, nmOk q := by
  intro q hq
  unfold twoP at hq
  split at hq
  · rename_i g hg
    split at hq
    · rw [List.mem_singleton.1 hq]; exact gsOf_name hg hb
    · cases hq
  · cases hq
theorem oneP_at {a b : List Posting} {i : Nat} {g : (Int × Int) × List Posting} (hg : (gsOf a)[i]? = some g) : oneP a b i = if grp a g.1 = grp b g.1 then [] else [g.1] := by rw [oneP, hg]
theorem twoP_at {a b : List Posting} {i : Nat} {g : (Int × Int) × List Posting} (hg : (gsOf b)[i]? = some g) : twoP a b i = if grp a g.1 = [] then [g.1] else [] := by rw [twoP, hg]
def differ (a b : List Posting) : List (Int × Int) := sortN ((List.range (gsOf a).length).flatMap (oneP a b) ++ (List.range (gsOf b).length).flatMap (twoP a b))
theorem seen_snoc {seen : List Nat} {i n : Nat} {g : (Int × Int) × List Posting} {gs : List ((Int × Int) × List Posting)} (hg : gs[i]? = some g) (hn : gs.length = n) (h1 : seen.Nodup) (h2 : ∀ i ∈ seen, i < n) (h3 : i ∉ seen) : ((seen ++ [i]).Nodup ∧ ∀ j ∈ seen ++ [i], j < n) ∧ n - (seen ++ [i]).length < n - seen.length := by
  have hi : i < n := by have := (List.getElem?_eq_some_iff.1 hg).1; omega
  have h4 : (seen ++ [i]).Nodup := by
    rw [List.nodup_append]
    exact ⟨h1, by simp, fun x hx y hy => by rw [List.mem_singleton.1 hy]; exact fun e => h3 (e ▸ hx)⟩
  have h5 : ∀ j ∈ seen ++ [i], j < n := fun j hj => (List.mem_append.1 hj).elim (h2 j) fun h => by rw [List.mem_singleton.1 h]; exact hi
  have h6 := len_of_nodup h4 h5
  refine ⟨⟨h4, h5⟩, ?_⟩
  rw [List.length_append, List.length_singleton] at h6 ⊢
  omega
abbrev dH2 (a b : List Posting) (o : List (Int × Int)) (seen : List Nat) : AH := [mB (gsOf a), mB (gsOf b), .rows (o.map nmRow) 100, .miter (some 1) (gsOf b).length seen (gsOf b).length]
abbrev dH2b (a b : List Posting) (o : List (Int × Int)) (seen : List Nat) (q : Int × Int) : AH := [mB (gsOf a), mB (gsOf b), .rows (o.map nmRow) 100, .miter (some 1) (gsOf b).length seen (gsOf b).length, .rows [nmRow q] 100]
theorem differing_ok (t u : Bool) (a b : List Posting) (hmax : a.length ≤ 1000000) (hmax' : b.length ≤ 1000000) (ha : ∀ p ∈ a, p.ok) (hb : ∀ p ∈ b, p.ok) : Pu Tryz.prog G1 56 [postings t a, postings u b] (names false (differ a b)) := by
  have hg1 := groups_at t a hmax [] 0 rfl [mB (gsOf a)] rfl
  have hg2 := groups_at u b hmax' [mB (gsOf a)] 1 rfl [mB (gsOf a), mB (gsOf b)] rfl
  have heq : ∀ q, Pu Tryz.prog G1 98 [lkV (gsOf a) q, lkV (gsOf b) q] (vb (decide (grp a q = grp b q))) := fun q =>
    (equalPs_ok false false (grp a q) (grp b q) (by have := List.length_filter_le (fun x => decide (nmOf x = q)) a; unfold grp; omega) (by have := List.length_filter_le (fun x => decide (nmOf x = q)) b; unfold grp; omega)).nils
      ⟨(lkV_len _ _ _ (look_grp a q)).1, (lkV_len _ _ _ (look_grp b q)).1, trivial⟩
  have hla := gsOf_length a
  have hlb := gsOf_length b
  refine Pu.of_ev (T := Tryz.tab) (n := 50) (tryd_ok _) Tryz.func56 rfl rfl rfl (by first | rfl | (split <;> rfl)) (by simp) ?_
  ((conv => whnf); repeat' ((first | refine CallN.efD hg1 ?_ | refine CallN.efD hg2 ?_) <;> (conv => whnf)))
  refine StepN.mk (.it 2) [mB (gsOf a), mB (gsOf b), .miter (some 0) (gsOf a).length [] (gsOf a).length] (by simp only [astep, arange, Tryz.underlying123]; rfl) ?_
  (conv => whnf)
  refine LoopN.of (tryd_okg 0 _) (fun (seen : List Nat) => [(5, .mp 0), (6, .mp 1), (7, .sm 3 2 0 (seen.flatMap (oneP a b)).length), (15, .it 2)])
    (fun seen => [mB (gsOf a), mB (gsOf b), .miter (some 0) (gsOf a).length seen (gsOf a).length, .rows ((seen.flatMap (oneP a b)).map nmRow) 100]) (fun seen => (gsOf a).length - seen.length) (fun seen => seen.Nodup ∧ ∀ i ∈ seen, i < (gsOf a).length) [] ⟨List.nodup_nil, fun i hi => by cases hi⟩
    ((Reabs.virt 7 2 100 rfl).trans (Reabs.frmM [0, 1, 2, 3] (by repeat (first | exact trivial | refine ⟨.inr ⟨rfl, rfl⟩, ?_⟩ | refine ⟨.inr ⟨rfl, vi_eq (by first | omega | (simp; done) | (simp; omega))⟩, ?_⟩ | refine ⟨.inr ⟨rfl, smE rfl (by first | omega | (simp; done) | (simp; omega))⟩, ?_⟩)) ⟨⟨_, rfl, blkM _, fun _ => rfl⟩, ⟨_, rfl, blkM _, fun _ => rfl⟩, ⟨_, rfl, .inr (.inr ⟨fun m hm => by cases hm; simp, rfl⟩), fun _ => rfl⟩, ⟨_, rfl, blkDeep rfl (deepMap (fun _ => rfl)), fun _ => rfl⟩, trivial⟩ rfl rfl)) ?_
  rintro seen ⟨hnd, hin⟩
  have hl1 := flat_len (oneP_len a b) seen
  have hl2 := len_of_nodup hnd hin
  have hlo : (seen.flatMap (oneP a b)).length ≤ 1000000 := by omega
  clear hl1 hl2
  (conv => whnf)
  obtain ⟨outs, ho1, ho2⟩ := next_mB (P := Tryz.prog) (H := dH1 a b seen (seen.flatMap (oneP a b))) (it := 2) (m := 0) (seen := seen) rfl rfl
  refine OpN.next ho1 fun y H' hm => ?_
  rcases ho2 y H' hm with ⟨i, g, hg, g2, rfl, rfl⟩ | ⟨g1, rfl, rfl⟩
  · clear ho1 ho2 hm
    obtain ⟨hs1, hs2⟩ := seen_snoc hg rfl hnd hin g2
    have hsn : (seen ++ [i]).flatMap (oneP a b) = seen.flatMap (oneP a b) ++ oneP a b i := by simp [List.flatMap_append]
    rw [oneP_at hg] at hsn
    ((conv => whnf); repeat' ((first | refine vv1 ?_) <;> (conv => whnf)))
    refine StepN.mk _ _ (entry_mB (H := dH1 a b (seen ++ [i]) (seen.flatMap (oneP a b))) hg rfl rfl) ?_
    ((conv => whnf); repeat' ((first | refine vv21 ?_ | refine vv22 ?_ | refine DrawN.gen (by first | exact tryd_ok _ | exact tryd_okm _ _) (by kernel_rfl) ?_) <;> (conv => whnf)))
    have heq := heq g.1
    rw [lkV_mem hg] at heq
    refine StepN.mk (.sl 5 false ((grp a g.1).map Posting.enc)) (dH1b a b (seen ++ [i]) (seen.flatMap (oneP a b)) g.1) ((look_mB g.1 rfl).trans (by rw [lkV_mem hg])) ?_
    ((conv => whnf); repeat' ((first | refine vv21 ?_) <;> (conv => whnf)))
    rcases lkV_cases b g.1 with hb | ⟨hb, -⟩
    all_goals
      rw [hb] at heq
      refine StepN.mk _ (dH1b a b (seen ++ [i]) (seen.flatMap (oneP a b)) g.1) ((look_mB g.1 rfl).trans (by rw [hb])) ?_
      ((conv => whnf); repeat' ((first | refine vv12 (fun hbr => ?_) (fun hbr => ?_) | refine vv21 ?_ | refine vv25 ?_ | refine vv31 ?_ | refine vv33 ?_ | refine GCallN.pure _ (heq) ?_) <;> (conv => whnf)))
    case inl.refine_1 | inr.refine_1 =>
      rw [if_pos hbr, List.append_nil] at hsn
      refine BackN.mk (seen ++ [i]) hs1 hs2 (Reabs.frmM [0, 1, 2, 3] (by rw [hsn]; exact (by repeat (first | exact trivial | refine ⟨.inr ⟨rfl, rfl⟩, ?_⟩ | refine ⟨.inr ⟨rfl, vi_eq (by first | omega | (simp; done) | (simp; omega))⟩, ?_⟩ | refine ⟨.inr ⟨rfl, smE rfl (by first | omega | (simp; done) | (simp; omega))⟩, ?_⟩))) (by rw [hsn]; exact ⟨⟨_, rfl, blkM _, fun _ => rfl⟩, ⟨_, rfl, blkM _, fun _ => rfl⟩, ⟨_, rfl, .inr (.inr ⟨fun m hm => by cases hm; simp, rfl⟩), fun _ => rfl⟩, ⟨_, rfl, blkDeep rfl (deepMap (fun _ => rfl)), fun _ => rfl⟩, trivial⟩) rfl rfl)
    case inl.refine_2 | inr.refine_2 =>
      rw [if_neg hbr] at hsn
      refine BackN.mk (seen ++ [i]) hs1 hs2 (Reabs.frmM [0, 1, 2, 5] (by rw [hsn]; exact (by repeat (first | exact trivial | refine ⟨.inr ⟨rfl, rfl⟩, ?_⟩ | refine ⟨.inr ⟨rfl, vi_eq (by first | omega | (simp; done) | (simp; omega))⟩, ?_⟩ | refine ⟨.inr ⟨rfl, smE rfl (by first | omega | (simp; done) | (simp; omega))⟩, ?_⟩))) (by rw [hsn]; exact ⟨⟨_, rfl, blkM _, fun _ => rfl⟩, ⟨_, rfl, blkM _, fun _ => rfl⟩, ⟨_, rfl, .inr (.inr ⟨fun m hm => by cases hm; simp, rfl⟩), fun _ => rfl⟩, ⟨_, rfl, blkDeep (by rw [List.map_append]; rfl) (deepMap (fun _ => rfl)), fun _ => rfl⟩, trivial⟩) rfl rfl)
  · clear ho1 ho2 hm
    have hp1 := (perm_range hnd hin g1).flatMap_right (oneP a b)
    have hok1 : ∀ q ∈ seen.flatMap (oneP a b), nmOk q := fun q hq => by
      obtain ⟨i, -, hi⟩ := List.mem_flatMap.1 hq
      exact oneP_ok b ha i q hi
    generalize seen.flatMap (oneP a b) = o1 at *
    ((conv => whnf); repeat' ((first | refine vv2 ?_) <;> (conv => whnf)))
    refine StepN.mk (.it 4) [mB (gsOf a), mB (gsOf b), .miter (some 0) (gsOf a).length seen (gsOf a).length, .rows (o1.map nmRow) 100, .miter (some 1) (gsOf b).length [] (gsOf b).length] (by simp only [astep, arange, Tryz.underlying123]; rfl) ?_
    (conv => whnf)
    refine LoopN.of (tryd_okg 0 _) (fun (seen : List Nat) => [(5, .mp 0), (7, .sm 2 2 0 (o1 ++ seen.flatMap (twoP a b)).length), (33, .it 3)])
      (fun seen => dH2 a b (o1 ++ seen.flatMap (twoP a b)) seen) (fun seen => (gsOf b).length - seen.length) (fun seen => seen.Nodup ∧ ∀ i ∈ seen, i < (gsOf b).length) [] ⟨List.nodup_nil, fun i hi => by cases hi⟩
      (Reabs.frmM [0, 1, 3, 4] (by repeat (first | exact trivial | refine ⟨.inr ⟨rfl, rfl⟩, ?_⟩ | refine ⟨.inr ⟨rfl, vi_eq (by first | omega | (simp; done) | (simp; omega))⟩, ?_⟩ | refine ⟨.inr ⟨rfl, smE rfl (by first | omega | (simp; done) | (simp; omega))⟩, ?_⟩)) ⟨⟨_, rfl, blkM _, fun _ => rfl⟩, ⟨_, rfl, blkM _, fun _ => rfl⟩, ⟨_, rfl, blkDeep (by simp) (deepMap (fun _ => rfl)), fun _ => rfl⟩, ⟨_, rfl, .inr (.inr ⟨fun m hm => by cases hm; simp, rfl⟩), fun _ => rfl⟩, trivial⟩ rfl rfl) ?_
    rintro seen ⟨hnd, hin⟩
    have hl1 := flat_len (twoP_len a b) seen
    have hl2 := len_of_nodup hnd hin
    have hlo2 : (o1 ++ seen.flatMap (twoP a b)).length ≤ 2000000 := by rw [List.length_append]; omega
    clear hl1 hl2
    (conv => whnf)
    obtain ⟨outs, ho1, ho2⟩ := next_mB (P := Tryz.prog) (H := dH2 a b (o1 ++ seen.flatMap (twoP a b)) seen) (it := 3) (m := 1) (seen := seen) rfl rfl
    refine OpN.next ho1 fun y H' hm => ?_
    rcases ho2 y H' hm with ⟨i, g, hg, g2, rfl, rfl⟩ | ⟨g1, rfl, rfl⟩
    · clear ho1 ho2 hm
      obtain ⟨hs1, hs2⟩ := seen_snoc hg rfl hnd hin g2
      have hsn : o1 ++ (seen ++ [i]).flatMap (twoP a b) = (o1 ++ seen.flatMap (twoP a b)) ++ twoP a b i := by simp [List.flatMap_append]
      rw [twoP_at hg] at hsn
      ((conv => whnf); repeat' ((first | refine vv1 ?_) <;> (conv => whnf)))
      refine StepN.mk _ _ (entry_mB (H := dH2 a b (o1 ++ seen.flatMap (twoP a b)) (seen ++ [i])) hg rfl rfl) ?_
      ((conv => whnf); repeat' ((first | refine vv21 ?_ | refine vv22 ?_) <;> (conv => whnf)))
      have hll : (grp a g.1).length ≤ 1000000 := by
        have := List.length_filter_le (fun x => decide (nmOf x = g.1)) a
        unfold grp; omega
      rcases lkV_cases a g.1 with hb2 | ⟨hb2, hemp⟩
      · refine StepN.mk (.sl 5 false ((grp a g.1).map Posting.enc)) (dH2b a b (o1 ++ seen.flatMap (twoP a b)) (seen ++ [i]) g.1) ((look_mB g.1 rfl).trans (by rw [hb2])) ?_
        ((conv => whnf); repeat' ((first | refine vv11 (fun hbr => ?_) (fun hbr => ?_) | refine vv21 ?_ | refine vv23 ?_ | refine vv31 ?_ | refine vv33 ?_) <;> (conv => whnf)))
        · rw [if_pos (List.eq_nil_of_length_eq_zero (by omega))] at hsn
          refine BackN.mk (seen ++ [i]) hs1 hs2 (Reabs.frmM [0, 1, 5, 3] (by rw [hsn]; exact (by repeat (first | exact trivial | refine ⟨.inr ⟨rfl, rfl⟩, ?_⟩ | refine ⟨.inr ⟨rfl, vi_eq (by first | omega | (simp; done) | (simp; omega))⟩, ?_⟩ | refine ⟨.inr ⟨rfl, smE rfl (by first | omega | (simp; done) | (simp; omega))⟩, ?_⟩))) (by show AllB _ _ _ _ (dH2 a b (o1 ++ (seen ++ [i]).flatMap (twoP a b)) (seen ++ [i])); rw [hsn]; exact ⟨⟨_, rfl, blkM _, fun _ => rfl⟩, ⟨_, rfl, blkM _, fun _ => rfl⟩, ⟨_, rfl, blkDeep (by simp) (deepMap (fun _ => rfl)), fun _ => rfl⟩, ⟨_, rfl, .inr (.inr ⟨fun m hm => by cases hm; simp, rfl⟩), fun _ => rfl⟩, trivial⟩) rfl rfl)
        · rw [if_neg (fun e => by rw [e] at hbr; exact hbr rfl), List.append_nil] at hsn
          refine BackN.mk (seen ++ [i]) hs1 hs2 (Reabs.frmM [0, 1, 2, 3] (by rw [hsn]; exact (by repeat (first | exact trivial | refine ⟨.inr ⟨rfl, rfl⟩, ?_⟩ | refine ⟨.inr ⟨rfl, vi_eq (by first | omega | (simp; done) | (simp; omega))⟩, ?_⟩ | refine ⟨.inr ⟨rfl, smE rfl (by first | omega | (simp; done) | (simp; omega))⟩, ?_⟩))) (by show AllB _ _ _ _ (dH2 a b (o1 ++ (seen ++ [i]).flatMap (twoP a b)) (seen ++ [i])); rw [hsn]; exact ⟨⟨_, rfl, blkM _, fun _ => rfl⟩, ⟨_, rfl, blkM _, fun _ => rfl⟩, ⟨_, rfl, blkDeep rfl (deepMap (fun _ => rfl)), fun _ => rfl⟩, ⟨_, rfl, .inr (.inr ⟨fun m hm => by cases hm; simp, rfl⟩), fun _ => rfl⟩, trivial⟩) rfl rfl)
      · refine StepN.mk _ (dH2b a b (o1 ++ seen.flatMap (twoP a b)) (seen ++ [i]) g.1) ((look_mB g.1 rfl).trans (by rw [hb2])) ?_
        ((conv => whnf); repeat' ((first | refine vv1 ?_ | refine vv21 ?_ | refine vv31 ?_ | refine vv33 ?_) <;> (conv => whnf)))
        rw [if_pos hemp] at hsn
        refine BackN.mk (seen ++ [i]) hs1 hs2 (Reabs.frmM [0, 1, 5, 3] (by rw [hsn]; exact (by repeat (first | exact trivial | refine ⟨.inr ⟨rfl, rfl⟩, ?_⟩ | refine ⟨.inr ⟨rfl, vi_eq (by first | omega | (simp; done) | (simp; omega))⟩, ?_⟩ | refine ⟨.inr ⟨rfl, smE rfl (by first | omega | (simp; done) | (simp; omega))⟩, ?_⟩))) (by show AllB _ _ _ _ (dH2 a b (o1 ++ (seen ++ [i]).flatMap (twoP a b)) (seen ++ [i])); rw [hsn]; exact ⟨⟨_, rfl, blkM _, fun _ => rfl⟩, ⟨_, rfl, blkM _, fun _ => rfl⟩, ⟨_, rfl, blkDeep (by simp) (deepMap (fun _ => rfl)), fun _ => rfl⟩, ⟨_, rfl, .inr (.inr ⟨fun m hm => by cases hm; simp, rfl⟩), fun _ => rfl⟩, trivial⟩) rfl rfl)
    · clear ho1 ho2 hm
      have hp2 := hp1.append ((perm_range hnd hin g1).flatMap_right (twoP a b))
      have hok2 : ∀ q ∈ o1 ++ seen.flatMap (twoP a b), nmOk q := fun q hq => by
        rcases List.mem_append.1 hq with hq | hq
        · exact hok1 q hq
        · obtain ⟨i, -, hi⟩ := List.mem_flatMap.1 hq
          exact twoP_ok a hb i q hi
      have hso := sort_ef (o1 ++ seen.flatMap (twoP a b)) hok2 (by omega) (dH2 a b (o1 ++ seen.flatMap (twoP a b)) seen) 2 rfl
      have hd : sortN (o1 ++ seen.flatMap (twoP a b)) = differ a b := sortN_perm hp2
      rw [hd] at hso
      have hdl : (o1 ++ seen.flatMap (twoP a b)).length = (differ a b).length := by rw [← hd, sortN, List.length_mergeSort]
      generalize o1 ++ seen.flatMap (twoP a b) = o2 at *
      ((conv => whnf); repeat' ((first | refine CallN.efD hso ?_ | refine vv2 ?_) <;> (conv => whnf)))
      refine DoneN.frz 2 ((differ a b).map nmRow) 100 rfl (deepR (fun _ => rfl)) ?_
      show DoneN _ ((AV.sm 2 2 0 o2.length).frz0 2 _) _
      rw [frz_all (by rw [List.length_map, hdl])]
      exact DoneN.pure rfl
end Go.Proofs.Ax
namespace Go.Proofs.Ax
open Go Go.Proofs
/-! What the names of differing groups are. -/
theorem flat_keys (P : Int × Int → Bool) : ∀ gs : List ((Int × Int) × List Posting), (List.range gs.length).flatMap (fun i => match gs[i]? with | some g => if P g.1 then [g.1] else [] | none => []) = (gs.map (·.1)).filter P
  | [] => rfl
  | g :: gs => by
    have ih := flat_keys P gs
    rw [List.length_cons, List.range_succ_eq_map, List.flatMap_cons, List.map_cons, List.flatMap_map]
    simp only [List.getElem?_cons_zero, List.getElem?_cons_succ]
    rw [ih, List.filter_cons]
    split <;> rfl
theorem oneP_all (a b : List Posting) : (List.range (gsOf a).length).flatMap (oneP a b) = ((gsOf a).map (·.1)).filter fun q => decide (grp a q ≠ grp b q) := by
  rw [← flat_keys]
  congr 1
  funext i
  unfold oneP
  cases (gsOf a)[i]? with
  | none => rfl
  | some g =>
    simp only
    by_cases h : grp a g.1 = grp b g.1
    · rw [if_pos h, if_neg (by simpa using h)]
    · rw [if_neg h, if_pos (by simpa using h)]
theorem twoP_all (a b : List Posting) : (List.range (gsOf b).length).flatMap (twoP a b) = ((gsOf b).map (·.1)).filter fun q => decide (grp a q = []) := by
  rw [← flat_keys]
  congr 1
  funext i
  unfold twoP
  cases (gsOf b)[i]? with
  | none => rfl
  | some g =>
    simp only
    by_cases h : grp a g.1 = []
    · rw [if_pos h, if_pos (by simpa using h)]
    · rw [if_neg h, if_neg (by simpa using h)]
theorem key_grp {a : List Posting} {q : Int × Int} : q ∈ (gsOf a).map (·.1) ↔ grp a q ≠ [] := by
  rw [(groupsOf_ok nmOf a).mem q]
  unfold grp
  constructor
  · rintro ⟨x, hx, he⟩ h
    have : x ∈ a.filter fun x => decide (nmOf x = q) := List.mem_filter.2 ⟨hx, by simpa using he⟩
    rw [h] at this
    cases this
  · intro h
    obtain ⟨x, hx⟩ := List.exists_mem_of_ne_nil _ h
    obtain ⟨h1, h2⟩ := List.mem_filter.1 hx
    exact ⟨x, h1, by simpa using h2⟩
theorem differ_eq (a b : List Posting) : differ a b = sortN (((gsOf a).map (·.1)).filter (fun q => decide (grp a q ≠ grp b q)) ++ ((gsOf b).map (·.1)).filter fun q => decide (grp a q = [])) := by
  rw [differ, oneP_all, twoP_all]
theorem mem_differ {a b : List Posting} {q : Int × Int} : q ∈ differ a b ↔ grp a q ≠ grp b q := by
  rw [differ_eq, sortN_mem, List.mem_append, List.mem_filter, List.mem_filter, key_grp, key_grp]
  simp only [decide_eq_true_eq]
  constructor
  · rintro (⟨h1, h2⟩ | ⟨h1, h2⟩)
    · exact h2
    · rw [h2]; exact fun e => h1 e.symm
  · intro h
    by_cases ha : grp a q = []
    · exact .inr ⟨fun hb => h (by rw [ha, hb]), ha⟩
    · exact .inl ⟨ha, h⟩
theorem differ_nodup (a b : List Posting) : (differ a b).Nodup := by
  rw [differ_eq]
  refine (List.mergeSort_perm _ _).symm.nodup_iff.1 ?_
  rw [List.nodup_append]
  refine ⟨(groupsOf_ok nmOf a).nodup.filter _, (groupsOf_ok nmOf b).nodup.filter _, fun x hx y hy => ?_⟩
  rintro rfl
  have h1 := key_grp.1 (List.mem_filter.1 hx).1
  have h2 := (List.mem_filter.1 hy).2
  exact h1 (by simpa using h2)
theorem grp_flat_len : ∀ (D : List (Int × Int)) (a : List Posting), D.Nodup → (D.flatMap (grp a)).length ≤ a.length
  | [], a, _ => by simp
  | q :: D, a, h => by
    have h' := List.nodup_cons.1 h
    have ih := grp_flat_len D (a.filter fun x => !decide (nmOf x = q)) h'.2
    have e : D.flatMap (grp (a.filter fun x => !decide (nmOf x = q))) = D.flatMap (grp a) := by
      simp only [List.flatMap]
      congr 1
      refine List.map_congr_left fun r hr => ?_
      unfold grp
      rw [List.filter_filter]
      refine List.filter_congr fun x _ => ?_
      by_cases hx : nmOf x = r
      · have : nmOf x ≠ q := fun e => h'.1 (by rw [← e, hx]; exact hr)
        simp [hx]
        rw [← hx]; exact this
      · simp [hx]
    rw [e] at ih
    have h3 : a.length = (a.filter fun x => decide (nmOf x = q)).length + (a.filter fun x => !decide (nmOf x = q)).length := by
      clear ih e
      induction a with
      | nil => rfl
      | cons x a ih2 =>
        rw [List.filter_cons, List.filter_cons]
        by_cases hx : nmOf x = q
        · simp only [hx, decide_true, if_true, Bool.not_true, Bool.false_eq_true, if_false, List.length_cons]; omega
        · simp only [hx, decide_false, if_true, Bool.not_false, Bool.false_eq_true, if_false, List.length_cons]; omega
    rw [List.flatMap_cons, List.length_append]
    unfold grp at ih ⊢
    omega
/-- The postings that turn one list into another. -/
def swapP (x : Posting) : Posting := ⟨x.night, x.no, x.dst, x.src, x.amount⟩
def corrOf (a b : List Posting) (D : List (Int × Int)) : List Posting := D.flatMap fun q => (grp a q).map swapP ++ grp b q
def correct (a b : List Posting) : List Posting := corrOf a b (differ a b)
theorem corrOf_len (a b : List Posting) (D : List (Int × Int)) : (corrOf a b D).length = (D.flatMap (grp a)).length + (D.flatMap (grp b)).length := by
  unfold corrOf
  induction D with
  | nil => rfl
  | cons q D ih => simp only [List.flatMap_cons, List.length_append, List.length_map, ih]; omega
theorem correct_len (a b : List Posting) : (correct a b).length ≤ a.length + b.length := by
  have h1 := grp_flat_len (differ a b) a (differ_nodup a b)
  have h2 := grp_flat_len (differ a b) b (differ_nodup a b)
  rw [correct, corrOf_len]; omega
theorem grp_mem {l : List Posting} {q : Int × Int} {x : Posting} (h : x ∈ grp l q) : x ∈ l ∧ nmOf x = q := by
  obtain ⟨h1, h2⟩ := List.mem_filter.1 h
  exact ⟨h1, by simpa using h2⟩
end Go.Proofs.Ax
