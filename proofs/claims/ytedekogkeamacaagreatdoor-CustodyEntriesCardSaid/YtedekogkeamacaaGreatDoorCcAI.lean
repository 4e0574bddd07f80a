import Derived.Test.YtedekogkeamacaaGreatDoorCcAH
namespace Go.Proofs.Ax
open Go Go.Proofs Go.Proofs.Cu
set_option maxRecDepth 10000
set_option maxHeartbeats 4000000
section
abbrev hisR (h : List Mv) : List AV := [moves h]
abbrev hists (l : List (List Mv)) : AV := .sl 1 false (l.map hisR)
def proveV (r : Option (List (List Mv))) : AV := match r with
  | some hs => .tuple [hists hs, vb true]
  | none => .tuple [nilA, vb false]
abbrev useB (c : Book) (a : Bool) (u : Use) : Bool := c.keys.contains u.key && timeOk u.time && (a || knownP c.people u.who)
theorem used_ok {c : Book} (hc : BkS c) (l : List Use) (hmax : l.length ≤ 1000000) (a : Bool) : Pu Tryz.prog G1 92 [bookV c, uses l, vb a] (vi (usedE c l a)) := by
  have hck := hc.check; unfold usedE; by_cases h0 : checkE c = 0
  · rw [if_neg (by simpa using h0)]; rw [h0] at hck; by_cases hl : 12 < l.length
    · rw [if_pos hl]; refine Qf 48 Tryz.func92 rfl rfl ?_
      repeat' ((conv => whnf); first | refine vv2 ?_ | refine vv7 ?_ | refine vv21 ?_ | refine vv23 ?_ | refine Qp hck ?_)
      exact Qv
    rw [if_neg hl]; refine Qf 48 Tryz.func92 rfl rfl ?_
    repeat' ((conv => whnf); first | refine vv2 ?_ | refine vv8 ?_ | refine vv21 ?_ | refine vv23 ?_ | refine Qp hck ?_)
    refine LoopN.of Qt (fun k : Nat => [(2, vb a), (3, .pm 0 0 0), (18, uses l), (19, vi l.length), (20, vi k)]) (fun k => [.rows [bookC c] 26]) (fun k => l.length - k) (fun k => k ≤ l.length ∧ ∀ i (h : i < l.length), i < k → useB c a l[i] = true) 0 ⟨Nat.zero_le _, fun i h hi => by omega⟩ (QM [0]) ?_; rintro k ⟨hk, hall⟩; by_cases hlt : k < l.length
    · have h1 := contains_ok c.keys l[k].key hc.kl; have h2 : Pu Tryz.prog G1 98 [vi l[k].time] (vb (timeOk l[k].time)) := time_ok _; have h3 := known_ok c l[k].who hc.pl
      have hno : useB c a l[k] = false → l.all (useB c a) = false := fun h => by
        rw [List.all_eq_false]; exact ⟨l[k], List.getElem_mem hlt, by rw [h]; simp⟩
      have hyes : useB c a l[k] = true → ∀ i (h : i < l.length), i < k + 1 → useB c a l[i] = true := fun h i hi hik => by
        by_cases e : i = k
        subst e; exact h; exact hall i hi (by omega)
      have hgo : (if l.all (useB c a) = true then (0 : Int) else 1) = if l.all (fun u => c.keys.contains u.key && timeOk u.time && (a || knownP c.people u.who)) = true then 0 else 1 := rfl
      rw [← hgo]; unfold useB at hno hyes
      cases hb1 : c.keys.contains l[k].key with
      | false =>
        rw [hb1] at h1 hno; rw [hno (by simp)]
        (conv => whnf); repeat' (first | refine vv1 ?_ | refine vv7 ?_ | refine SlIdxN.map _ rfl (by first | assumption | omega) ?_ | refine vv21 ?_ | refine vv22 ?_ | refine Qp h1 ?_) <;> conv => whnf
        all_goals exact ⟨.val rfl⟩
      | true =>
        cases hb2 : timeOk l[k].time with
        | false =>
          rw [hb1] at h1 hno; rw [hb2] at h2 hno; rw [hno (by simp)]
          (conv => whnf); repeat' (first | refine vv1 ?_ | refine vv2 ?_ | refine vv7 ?_ | refine SlIdxN.map _ rfl (by first | assumption | omega) ?_ | refine vv21 ?_ | refine vv22 ?_ | refine Qp h1 ?_ | refine Qp h2 ?_) <;> conv => whnf
          all_goals exact ⟨.val rfl⟩
        | true =>
          cases a with
          | true =>
            rw [hb1] at h1 hyes; rw [hb2] at h2 hyes
            repeat' ((conv => whnf); first | refine vv2 ?_ | refine vv7 ?_ | refine vv20 ?_ | refine SlIdxN.map _ rfl (by first | assumption | omega) ?_ | refine vv21 ?_ | refine vv22 ?_ | refine Qp h1 ?_ | refine Qp h2 ?_)
            exact BackN.mk (k + 1) ⟨by omega, hyes (by simp)⟩ (by omega) (QM [0])
          | false =>
            cases hb3 : knownP c.people l[k].who with
            | false =>
              rw [hb1] at h1 hno; rw [hb2] at h2 hno; rw [hb3] at h3 hno; rw [hno (by simp)]
              (conv => whnf); repeat' (first | refine vv1 ?_ | refine vv2 ?_ | refine vv7 ?_ | refine SlIdxN.map _ rfl (by first | assumption | omega) ?_ | refine vv21 ?_ | refine vv22 ?_ | refine Qp h1 ?_ | refine Qp h2 ?_ | refine Qp h3 ?_) <;> conv => whnf
              all_goals exact ⟨.val rfl⟩
            | true =>
              rw [hb1] at h1 hyes; rw [hb2] at h2 hyes; rw [hb3] at h3 hyes
              repeat' ((conv => whnf); first | refine vv1 ?_ | refine vv2 ?_ | refine vv7 ?_ | refine vv20 ?_ | refine SlIdxN.map _ rfl (by first | assumption | omega) ?_ | refine vv21 ?_ | refine vv22 ?_ | refine Qp h1 ?_ | refine Qp h2 ?_ | refine Qp h3 ?_)
              exact BackN.mk (k + 1) ⟨by omega, hyes (by simp)⟩ (by omega) (QM [0])
    obtain rfl : k = l.length := by omega
    have : l.all (fun u => c.keys.contains u.key && timeOk u.time && (a || knownP c.people u.who)) = true := List.all_eq_true.2 fun u hu => by
      obtain ⟨i, hi, rfl⟩ := List.getElem_of_mem hu; exact hall i hi hi
    rw [if_pos this]
    repeat' ((conv => whnf); first | refine vv8 ?_)
    exact Qv
  rw [if_pos h0]; refine Qf 48 Tryz.func92 rfl rfl ?_
  repeat' ((conv => whnf); first | refine vv6 ?_ | refine vv21 ?_ | refine Qp hck ?_)
  exact Qv
end
section
theorem search_conds {c : Book} (h : c.ok) (key : Int) (l : List Use) (hmax : l.length ≤ 12) (ht : ∀ u ∈ l, timeOk u.time = true) : Pu Tryz.prog G1 82 [kV (chnOf c key) c.keys c.entries, conds (condsOf l key)] (searchV (searchS (chnOf c key) (condsOf l key))) := by
  refine search_pu (chn_cb h key) (chn_kinds h key) c.keys c.entries (condsOf l key) ?_ fun d hd => ?_
  · show (sortC ((l.filter fun u => u.key == key).map fun u => Cnd.hand u.who u.time)).length ≤ 15; rw [sortC_len, List.length_map]; have := List.length_filter_le (fun u : Use => u.key == key) l; omega
  obtain ⟨u, hu, -, rfl⟩ := mem_conds.1 hd; have := ht u hu; unfold timeOk at this; exact of_decide_eq_true this
theorem finH {H : AH} (l : List (List Mv)) (id : Nat) (h : nthB H id = some (.rows (l.map hisR) 54)) : FinTo 0 H (.tuple [.sm id 1 0 l.length, vb true]) (.tuple [hists l, vb true]) [] := by
  have hz : AV.frz0 id (l.map hisR) (.sm id 1 0 l.length) = hists l := frz_all (by rw [List.length_map]); rw [nthB_eq] at h; refine .step id _ _ h (deepR (fun _ => rfl)) ?_; have h2 : (AV.tuple [.sm id 1 0 l.length, vb true]).frz2 id (l.map hisR) = .tuple [AV.frz0 id (l.map hisR) (.sm id 1 0 l.length), vb true] := rfl; rw [h2, hz]; exact .val rfl
theorem prove_pu {c : Book} (h : c.ok) (l : List Use) (hmax : l.length ≤ 12) (ht : ∀ u ∈ l, timeOk u.time = true) : Pu Tryz.prog G1 93 [bookV c, uses l] (proveV (proveF c l)) := by
  have hc := BkS.of_ok h; have hkl := hc.kl; refine Pu.of_fin (Ef.of_ev (T := Tryz.tab) (n := 36) (tryd_okm 0 _) rfl Tryz.func93 rfl rfl (by simp) ?_) rfl (by unfold proveV; split <;> rfl)
  repeat' ((conv => whnf); first | refine vv21 ?_ | refine vv23 ?_)
  refine LoopN.re (Reabs.virt 6 1 54 rfl) ?_; refine LoopN.of2 (tryd_okm 0 _) (fun (k : Nat) (hs : List (List Mv)) => [(1, uses l), (2, .pm 0 0 0), (6, .sm 1 1 0 hs.length), (12, ints c.keys), (13, vi c.keys.length), (14, vi k)]) (fun k hs => [.rows [bookC c] 26, .rows (hs.map hisR) 54]) (fun k hs => c.keys.length - k) (fun k hs => k ≤ c.keys.length ∧ hs.length = k ∧ proveF c l = (proveL c l (c.keys.drop k)).map fun r => hs ++ r) 0 [] ⟨Nat.zero_le _, rfl, by show _ = (proveF c l).map _; simp⟩ (QM [0, 1]) ?_; rintro k hs ⟨hk, hle, hinv⟩; by_cases hlt : k < c.keys.length
  · have h1 := chain_ok c c.keys[k] hc.el; have h2 := conds_pu l c.keys[k] hmax ht; have h3 := search_conds h c.keys[k] l hmax ht; rw [List.drop_eq_getElem_cons hlt, proveL] at hinv
    cases hq : searchS (chnOf c c.keys[k]) (condsOf l c.keys[k]) with
    | none =>
      rw [hq] at h3 hinv; simp only [Option.map_none] at hinv; rw [hinv]
      repeat' ((conv => whnf); first | refine vv1 ?_ | refine vv7 ?_ | refine SlIdxN.map _ rfl (by first | assumption | omega) ?_ | refine vv21 ?_ | refine Qp h1 ?_ | refine Qp h2 ?_ | refine Qp h3 ?_)
      exact Qv
    | some m =>
      rw [hq] at h3 hinv
      have hinv2 : proveF c l = (proveL c l (c.keys.drop (k + 1))).map fun r => (hs ++ [m]) ++ r := by
        rw [hinv]
        cases proveL c l (c.keys.drop (k + 1)) with
        | none => rfl
        | some r => simp
      repeat' ((conv => whnf); first | refine vv2 ?_ | refine vv7 ?_ | refine vv20 ?_ | refine SlIdxN.map _ rfl (by first | assumption | omega) ?_ | refine vv21 ?_ | refine vv31 ?_ | refine vv33 ?_ | refine Qp h1 ?_ | refine Qp h2 ?_ | refine Qp h3 ?_)
      exact BackN2.mk (k + 1) (hs ++ [m]) ⟨by omega, by simp [hle], hinv2⟩ (by omega) (QM [0, 2] (hs := by rw [List.length_append]; exact (by repeat (first | exact sv0 | refine sv1 ?_ | refine sv2 ?_ | refine sv3 ?_))) (hb := bv1 (Ql rfl (blkDeep (by rw [List.map_append]; rfl) (deepMap (fun _ => rfl))) bv0)))
  obtain rfl : k = c.keys.length := by omega
  rw [List.drop_length, proveL] at hinv; simp only [Option.map_some, List.append_nil] at hinv; rw [hinv]
  (conv => whnf); repeat' (first | refine vv8 ?_) <;> conv => whnf
  exact ⟨finH hs 1 rfl⟩
theorem used_0 {c : Book} {l : List Use} {a : Bool} (h : usedE c l a = 0) : c.ok ∧ l.length ≤ 12 ∧ ∀ u ∈ l, timeOk u.time = true := by
  unfold usedE at h; split at h
  omega; rename_i h0; split at h
  omega; split at h
  · rename_i h1 h2; refine ⟨(check_ok c).1 (by omega), by omega, fun u hu => ?_⟩; have := List.all_eq_true.1 h2 u hu; simp only [Bool.and_eq_true] at this; exact this.1.2
  omega
def fitsG (c : Book) (l : List Use) : Bool × Int := if usedE c l false ≠ 0 then (false, usedE c l false) else (fitsB c l, 0)
def fitsV (r : Bool × Int) : AV := .tuple [vb r.1, vi r.2]
theorem proveV_some {r : Option (List (List Mv))} (h : r.isSome = true) : ∃ hs, r = some hs ∧ proveV r = .tuple [hists hs, vb true] := by
  cases r with
  | none => cases h
  | some hs => exact ⟨hs, rfl, rfl⟩
theorem fits_ok {c : Book} (hc : BkS c) (l : List Use) (hmax : l.length ≤ 1000000) : Pu Tryz.prog G1 38 [bookV c, uses l] (fitsV (fitsG c l)) := by
  have h1 := used_ok hc l hmax false; unfold fitsG; by_cases h0 : usedE c l false = 0
  · rw [if_neg (by simpa using h0)]; obtain ⟨hok, hl, ht⟩ := used_0 h0; have h2 := prove_pu hok l hl ht; rw [h0] at h1; unfold fitsB
    cases hp : proveF c l with
    | none =>
      rw [hp] at h2; refine Qf 22 Tryz.func38 rfl rfl ?_
      repeat' ((conv => whnf); first | refine vv2 ?_ | refine vv21 ?_ | refine Qp h1 ?_ | refine Qp h2 ?_)
      exact Qv
    | some hs =>
      rw [hp] at h2; refine Qf 22 Tryz.func38 rfl rfl ?_
      repeat' ((conv => whnf); first | refine vv2 ?_ | refine vv21 ?_ | refine Qp h1 ?_ | refine Qp h2 ?_)
      exact Qv
  rw [if_pos h0]; refine Qf 22 Tryz.func38 rfl rfl ?_
  repeat' ((conv => whnf); first | refine vv6 ?_ | refine vv21 ?_ | refine Qp h1 ?_)
  exact Qv
end
section
end
section
theorem clone107_ef (l : List Use) (hmax : l.length ≤ 1000000) : Ef Tryz.prog G1 107 [uses l] [] fun y H' => y = .sm 0 3 0 l.length ∧ H' = [.rows (l.map encU) 63] := by
  refine Ef.reabs ?_; by_cases hl : l = []
  · subst hl; refine Ef.mt 0 3 false rfl ?_ ?_
    · refine Ef.of_ev (T := Tryz.tab) (n := 8) (tryd_okm 0 _) rfl Tryz.func107 rfl rfl (by simp) ?_
      (conv => whnf)
      refine StepN.mk (.sc (.bool true)) [] (by kernel_rfl) ?_
      (conv => whnf); repeat' (first | refine vv1 ?_) <;> conv => whnf
      refine ⟨⟨_, [.rows [] 63], ?_, rfl, rfl⟩⟩; exact Reabs.virt 0 3 63 rfl
    refine Ef.of_ev (T := Tryz.tab) (n := 8) (tryd_okm 0 _) rfl Tryz.func107 rfl rfl (by simp) ?_
    (conv => whnf)
    refine StepN.mk (.sc (.bool false)) [] (by kernel_rfl) ?_
    (conv => whnf); repeat' (first | refine Need.mk (.inl rfl) ?_ | refine Qn 0 ?_ | refine vv2 ?_) <;> conv => whnf
    refine ⟨⟨_, [.rows [] 63], ?_, rfl, rfl⟩⟩; exact QM [0]
  obtain ⟨x, l, rfl⟩ := List.exists_cons_of_ne_nil hl; have hm : l.length + 1 ≤ 1000000 := by simpa using hmax
  refine Ef.of_ev (T := Tryz.tab) (n := 8) (tryd_okm 0 _) rfl Tryz.func107 rfl rfl (by simp) ?_
  (conv => whnf)
  refine StepN.mk (.sc (.bool false)) [] (by kernel_rfl) ?_
  (conv => whnf); repeat' (first | refine Qn (l.length + 1) ?_ | refine vv2 ?_ | refine Need.mk (by first | assumption | omega | (simp <;> omega)) ?_) <;> conv => whnf
  refine ⟨⟨_, [.rows ((x :: l).map encU) 63], ?_, rfl, rfl⟩⟩; exact QM [0] (hb := bv1 bv0)
theorem clone107_at (l : List Use) (hmax : l.length ≤ 1000000) (H : AH) (N : Nat) (hN : H.length = N) : Ef Tryz.prog G1 107 [uses l] H fun y H' => y = .sm N 3 0 l.length ∧ H' = H ++ [.rows (l.map encU) 63] := by
  subst hN; refine Ef.subD (clone107_ef l hmax) rfl (Nat.zero_le _) ⟨okDeep (deepR (fun _ => rfl)) _, trivial⟩ [] (by simp) trivial rfl (fun x hx => ?_) rfl ?_
  · simp only [List.mem_cons, List.not_mem_nil, or_false] at hx; rcases hx with rfl; rfl
  show H ++ [ABlk.ren _ _] = _; rw [ren_deepB (deepR (fun _ => rfl))]
def menG (c : Book) (l : List Use) : List Int × Int := if usedE c l true ≠ 0 then ([], usedE c l true) else (menF c l, 0)
abbrev manU (n : Int) (u : Use) : Use := { u with who := n }
abbrev menB (c : Book) (l : List Use) (p : Pers) : Bool := fitsB c (l.map (manU p.id))
theorem menF_eq (c : Book) (l : List Use) : menF c l = selP (menB c l) c.people c.people.length := by rw [selP_all]; rfl
abbrev midU (l : List Use) (n : Int) (j : Nat) : List Use := (l.take j).map (manU n) ++ l.drop j
theorem midU_get {l : List Use} {n : Int} {j : Nat} (h : j < l.length) : (midU l n j)[j]? = some l[j] := by
  rw [List.getElem?_append_right (by simp; omega)]; simp only [List.length_map, List.length_take]; rw [show j - min j l.length = 0 by omega, List.getElem?_drop, Nat.add_zero, List.getElem?_eq_getElem h]
theorem midU_set {l : List Use} {n : Int} {j : Nat} (h : j < l.length) : (midU l n j).set j (manU n l[j]) = midU l n (j + 1) := by
  unfold midU; rw [List.set_append_right _ _ (by simp; omega), take_succ_snoc h, List.map_append, List.append_assoc]; congr 1
  simp only [List.length_map, List.length_take]; rw [show j - min j l.length = 0 by omega, List.drop_eq_getElem_cons h]; rfl
theorem men_ok {c : Book} (hc : BkS c) (l : List Use) (hmax : l.length ≤ 1000000) : Pu Tryz.prog G1 56 [bookV c, uses l] (listV (menG c l)) := by
  have h1 := used_ok hc l hmax true; have hpl := hc.pl; unfold menG; by_cases h0 : usedE c l true = 0
  · rw [if_neg (by simpa using h0)]; obtain ⟨hok, hl, ht⟩ := used_0 h0; rw [h0] at h1; rw [menF_eq]; have hcl := clone107_at l hmax; refine Qf 55 Tryz.func56 rfl rfl ?_
    repeat' ((conv => whnf); first | refine vv2 ?_ | refine vv21 ?_ | refine vv23 ?_ | refine Qp h1 ?_)
    refine LoopN.re (Reabs.virt 7 1 3 rfl) ?_; refine LoopN.of Qt (fun k : Nat => [(1, uses l), (2, .pm 0 0 0), (7, .sm 1 1 0 (selP (menB c l) c.people k).length), (21, persons c.people), (22, vi c.people.length), (23, vi k)]) (fun k => [.rows [bookC c] 26, .rows ((selP (menB c l) c.people k).map intR) 3]) (fun k => c.people.length - k) (fun k => k ≤ c.people.length) 0 (Nat.zero_le _) (QM [0, 1]) ?_; intro k hk; by_cases hlt : k < c.people.length
    · have hsu := selP_succ (q := menB c l) hlt; have hle := selP_len (q := menB c l) (l := c.people) (k := k)
      have hpr := prove_pu hok (l.map (manU c.people[k].id)) (by simpa using hl) (fun u hu => by
        obtain ⟨v, hv, rfl⟩ := List.mem_map.1 hu
        exact ht v hv)
      generalize selP (menB c l) c.people k = o at *
      repeat' ((conv => whnf); first | refine SlIdxN.map k rfl hlt ?_ | refine CallN.efD (hcl _ 3 rfl) ?_ | refine vv7 ?_ | refine vv22 ?_)
      refine LoopN.of Qt (fun j : Nat => [(1, uses l), (2, .pm 0 0 0), (7, .sm 1 1 0 o.length), (9, .pm 2 0 0), (10, .sm 3 3 0 l.length), (21, persons c.people), (22, vi c.people.length), (23, vi k), (29, .sm 3 3 0 l.length), (30, vi l.length), (31, vi j)]) (fun j => [.rows [bookC c] 26, .rows (o.map intR) 3, .rows [encP c.people[k]] 59, .rows ((midU l c.people[k].id j).map encU) 63]) (fun j => l.length - j) (fun j => j ≤ l.length) 0 (Nat.zero_le _) (QM [0, 1, 2, 3] (hb := bv1 (bv1 (bv1 (bv1 bv0))))) ?_; intro j hj; by_cases hjl : j < l.length
      · have hr : ((midU l c.people[k].id j).map encU)[j]? = some (encU l[j]) := by rw [List.getElem?_map, midU_get hjl]; rfl
        have hst := midU_set (n := c.people[k].id) hjl; generalize midU l c.people[k].id j = W at *
        repeat' ((conv => whnf); first | refine RowSN.raw hr ?_ | refine vv7 ?_ | refine vv20 ?_ | refine IdxN.at0 _ rfl (by first | assumption | omega | (simp <;> omega)) ?_ | refine vv21 ?_)
        exact Qb (j + 1) (QM [0, 1, 2, 3] (hb := bv1 (bv1 (bv1 (Ql rfl (blkDeep (by rw [← hst, List.map_set]; rfl) (deepMap (fun _ => rfl))) bv0)))))
      obtain rfl : j = l.length := by omega
      have hal : midU l c.people[k].id l.length = l.map (manU c.people[k].id) := by simp [midU]
      rw [hal]; have hz : AV.frz0 3 ((l.map (manU c.people[k].id)).map encU) (.sm 3 3 0 l.length) = uses (l.map (manU c.people[k].id)) := frz_all (by simp); rw [← hz] at hpr
      cases hfb : menB c l c.people[k] with
      | true =>
        obtain ⟨hs, e1, e2⟩ := proveV_some hfb; rw [e2] at hpr; rw [if_pos hfb] at hsu
        repeat' ((conv => whnf); first | refine CallN.frz 3 _ _ rfl (deepR (fun _ => rfl)) ?_ | refine AppN.len (o.length + 1) (by simp) (by omega) (by omega) ?_ | refine vv1 ?_ | refine vv8 ?_ | refine vv20 ?_ | refine vv21 ?_ | refine vv31 ?_ | refine Qp hpr ?_)
        exact Qb (k + 1) (QM [0, 4] (hs := by rw [hsu, List.length_append]; exact (by repeat (first | exact sv0 | refine sv1 ?_ | refine sv2 ?_ | refine sv3 ?_))) (hb := bv1 (Ql rfl (blkDeep (by rw [hsu, List.map_append, List.map_map]; rfl) (deepMap (fun _ => rfl))) bv0)))
      | false =>
        have e1 : proveF c (l.map (manU c.people[k].id)) = none := by
          have : (proveF c (l.map (manU c.people[k].id))).isSome = false := hfb
          cases hq : proveF c (l.map (manU c.people[k].id)) with
          | none => rfl
          | some x => rw [hq] at this; cases this
        rw [e1] at hpr; rw [if_neg (by rw [hfb]; simp), List.append_nil] at hsu
        repeat' ((conv => whnf); first | refine CallN.frz 3 _ _ rfl (deepR (fun _ => rfl)) ?_ | refine vv2 ?_ | refine vv8 ?_ | refine vv20 ?_ | refine vv21 ?_ | refine Qp hpr ?_)
        exact Qb (k + 1) (by rw [hsu]; exact QM [0, 1] (hb := bv1 (Ql rfl (blkDeep (by show ABlk.rows (List.map _ (List.map intR o)) 3 = _; rw [List.map_map]; rfl) (deepMap (fun _ => rfl))) bv0)))
    obtain rfl : k = c.people.length := by omega
    generalize selP (menB c l) c.people c.people.length = o at *
    (conv => whnf); repeat' (first | refine vv8 ?_) <;> conv => whnf
    exact ⟨fin2 o 0⟩
  rw [if_pos h0]; refine Pu.wkr (Qf 55 Tryz.func56 rfl rfl ?_) (nilV _)
  repeat' ((conv => whnf); first | refine vv6 ?_ | refine vv21 ?_ | refine Qp h1 ?_)
  exact Qv
end
section
end
end Go.Proofs.Ax
