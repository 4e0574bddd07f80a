import Derived.Test.YtedekogkeamacaaGreatDoorCcAG
namespace Go.Proofs.Ax
open Go Go.Proofs Go.Proofs.Cu
set_option maxRecDepth 10000
set_option maxHeartbeats 4000000
section
theorem set_same {l : List Pers} {k : Nat} (h : k < l.length) : ABlk.rows ((l.map encP).set k (encP l[k])) 59 = .rows (l.map encP) 59 := by rw [← List.map_set, List.set_getElem_self]
theorem entrs_frz (l : List Entr) (id : Nat) (rs : List (List AV)) : (ABlk.rows (l.map encE) 68).frz id rs = .rows (l.map encE) 68 := by
  show ABlk.rows ((l.map encE).map fun r => r.map (AV.frz0 id rs)) 68 = _; rw [List.map_map]; rfl
theorem copied_ef {c : Book} (hc : BkS c) : Ef Tryz.prog G1 96 [bookV c] [] fun y H' => y = .agg [persons c.people, ints c.keys, .sm 0 7 0 c.entries.length, vi c.gaps] ∧ H' = [.rows (c.entries.map encE) 68] := by
  have h1 := clone105_ok c.keys hc.kl; have h2 := clone147_at c.entries hc.el; have h3 := clone148_at c.people hc.pl; have hp := hc.pl; refine Ef.reabs (Ef.of_ev (T := Tryz.tab) (n := 35) (tryd_okm 0 _) rfl Tryz.func96 rfl rfl (by simp) ?_)
  repeat' ((conv => whnf); first | refine CallN.efD (h2 _ 2 rfl) ?_ | refine CallN.efD (h3 _ 3 rfl) ?_ | refine vv21 ?_ | refine vv22 ?_ | refine Qp h1 ?_)
  refine LoopN.of Qt (fun k : Nat => [(1, .pm 0 0 0), (2, .pm 1 0 0), (3, .sm 3 2 0 c.people.length), (17, vi c.people.length), (18, vi k)]) (fun k => [.rows [[persons c.people, ints c.keys, .sm 2 7 0 c.entries.length, vi c.gaps]] 26, .rows [[nilA, nilA, nilA, vi 0]] 26, .rows (c.entries.map encE) 68, .rows (c.people.map encP) 59]) (fun k => c.people.length - k) (fun k => k ≤ c.people.length) 0 (Nat.zero_le _) (QM [0, 1, 2, 3]) ?_; intro k hk; by_cases hlt : k < c.people.length
  · have h4 := clone149_ok c.people[k].duty (hc.du _ (List.getElem_mem hlt))
    repeat' ((conv => whnf); first | refine vv7 ?_ | refine vv20 ?_ | refine IdxN.at0 _ rfl (by first | assumption | omega | (simp <;> omega)) ?_ | refine RowN.map (by first | assumption | omega) ?_ | refine RowSN.map (by first | assumption | omega) ?_ | refine Qp h4 ?_)
    exact Qb (k + 1) (QM [0, 1, 2, 3] (hb := bv1 (bv1 (bv1 (Ql rfl (blkDeep (set_same hlt) (deepMap (fun _ => rfl))) bv0)))))
  obtain rfl : k = c.people.length := by omega
  (conv => whnf); repeat' (first | refine vv8 ?_ | refine vv21 ?_ | refine vv22 ?_) <;> conv => whnf
  have hz : AV.frz0 3 (c.people.map encP) (.sm 3 2 0 c.people.length) = persons c.people := frz_all (by rw [List.length_map]); refine ⟨⟨_, [.rows (c.entries.map encE) 68], ?_, rfl, rfl⟩⟩; refine Reabs.trans (Reabs.frz 3 (c.people.map encP) 59 rfl (deepR (fun _ => rfl))) ?_; show Reabs _ ⟨frm 0 [(0, .agg [AV.frz0 3 (c.people.map encP) (.sm 3 2 0 c.people.length), ints c.keys, .sm 2 7 0 c.entries.length, vi c.gaps])] 1, _⟩ _; rw [hz]; exact QM [2] (hb := Ql rfl (blkDeep (entrs_frz _ _ _) (deepMap (fun _ => rfl))) bv0)
end
section
theorem copied_at {c : Book} (hc : BkS c) (H : AH) (N : Nat) (hN : H.length = N) : Ef Tryz.prog G1 96 [bookV c] H fun y H' => y = .agg [persons c.people, ints c.keys, .sm N 7 0 c.entries.length, vi c.gaps] ∧ H' = H ++ [.rows (c.entries.map encE) 68] := by
  subst hN; refine Ef.subD (copied_ef hc) rfl (Nat.zero_le _) ⟨okDeep (deepR (fun _ => rfl)) _, trivial⟩ [] (by simp) trivial rfl (fun x hx => ?_) rfl ?_
  · simp only [List.mem_cons, List.not_mem_nil, or_false] at hx; rcases hx with rfl; rfl
  show H ++ [ABlk.ren _ _] = _; rw [ren_deepB (deepR (fun _ => rfl))]
theorem without1_ok (ids : List Int) (hmax : ids.length ≤ 1000000) (e : Entr) : Pu Tryz.prog G1 137 [.agg (encE e), .pi [ints ids]] (vb (ids.contains e.id)) := by
  have h := contains_ok ids e.id hmax; refine Qf 8 Tryz.func137 rfl rfl ?_
  repeat' ((conv => whnf); first | refine vv21 ?_ | refine Qp h ?_)
  exact Qv
theorem finB {H : AH} (ps : List Pers) (ks : List Int) (l : List Entr) (g : Int) (h : nthB H 3 = some (.rows (l.map encE) 68)) : FinTo 0 H (.agg [persons ps, ints ks, .sm 3 7 0 l.length, vi g]) (.agg [persons ps, ints ks, entries l, vi g]) [] := by
  have hz : AV.frz0 3 (l.map encE) (.sm 3 7 0 l.length) = entries l := frz_all (by rw [List.length_map]); rw [nthB_eq] at h; refine .step 3 _ _ h (deepR (fun _ => rfl)) ?_; have h2 : (AV.agg [persons ps, ints ks, .sm 3 7 0 l.length, vi g]).frz2 3 (l.map encE) = .agg [persons ps, ints ks, AV.frz0 3 (l.map encE) (.sm 3 7 0 l.length), vi g] := rfl; rw [h2, hz]; exact .val rfl
theorem without_pu {c : Book} (hc : BkS c) (ids : List Int) (hmax : ids.length ≤ 1000000) : Pu Tryz.prog G1 83 [bookV c, ints ids] (bookV (withoutB c ids)) := by
  have h1 := copied_at hc; have h2 := del136_in 137 [ints ids] (fun _ => rfl) (fun e => ids.contains e.id) c.entries (without1_ok ids hmax) hc.el; refine Qc 14 Tryz.func83 rfl rfl ?_; refine Qs ?_
  (conv => whnf)
  refine CodeN.re ((Reabs.frz 1 _ _ rfl (deepAll rfl)).trans (Reabs.frz 0 _ _ rfl (deepAll rfl))) ?_; refine Qe ?_
  (conv => whnf); repeat' (first | refine CallN.efD (h1 _ 3 rfl) ?_ | refine CallN.efD (h2 _ 3 _ rfl rfl _ rfl) ?_ | refine vv21 ?_ | refine vv22 ?_) <;> conv => whnf
  exact ⟨finB _ _ _ _ rfl⟩
abbrev susP (c : Book) (key : Int) (e : Entr) : Bool := e.key == key && foundS (chnOf (withoutB c [e.id]) key) []
abbrev susK (c : Book) (key : Int) (k : Nat) : List Int := ((c.entries.take k).filter (susP c key)).map (·.id)
theorem susK_succ {c : Book} {key : Int} {k : Nat} (h : k < c.entries.length) : susK c key (k + 1) = susK c key k ++ if susP c key c.entries[k] = true then [(c.entries[k]).id] else [] := by
  unfold susK; rw [take_succ_snoc h, List.filter_append, List.map_append]; congr 1
  cases hq : susP c key c.entries[k] with
  | true => rw [List.filter_cons_of_pos hq]; rfl
  | false => rw [List.filter_cons_of_neg (by rw [hq]; simp)]; rfl
theorem susK_len {c : Book} (h : c.ok) (key : Int) (k : Nat) : (susK c key k).length ≤ 7 := by
  unfold susK; rw [List.length_map]; refine Nat.le_trans ?_ (h.few key); rw [← List.countP_eq_length_filter, ← List.countP_eq_length_filter]; refine Nat.le_trans ((List.take_sublist k c.entries).countP_le (p := susP c key)) ?_
  refine List.countP_mono_left fun e _ he => ?_
  have := Bool.and_eq_true_iff.1 he; exact this.1
theorem sort_nodup {o : List Int} (h : o.Nodup) : sortL o = o.foldl (fun acc n => insI n acc) [] := by
  obtain ⟨g1, g2⟩ := ins_gen o [] List.Pairwise.nil; have hp : (sortL o).Perm o := List.mergeSort_perm ..; have hs := sortL_sorted o; have hn : (sortL o).Nodup := hp.nodup_iff.2 h
  refine inc_ext ?_ g1 fun x => ?_
  exact (hs.and hn).imp fun ⟨a, b⟩ => by omega
  rw [g2, hp.mem_iff]; simp
theorem susK_all {c : Book} (h : c.ok) (key : Int) : sortL (susK c key c.entries.length) = suspL c key := by
  have e : susK c key c.entries.length = (c.entries.filter (susP c key)).map (·.id) := by unfold susK; rw [List.take_length]
  rw [e]; exact sort_nodup (h.nd.sublist ((List.filter_sublist).map _))
theorem suspects_ok {c : Book} (hc : BkS c) (key : Int) : Pu Tryz.prog G1 29 [bookV c, vi key] (listV (suspectsF c key)) := by
  have hask := hc.asked key; have hel := hc.el; unfold suspectsF; by_cases h0 : askedE c key = 0
  · rw [if_neg (by simpa using h0)]; rw [h0] at hask; obtain ⟨hok, hkey⟩ := asked_0 h0; have hch := chain_ok c key hc.el; have hsn := search_nil (chn_cb hok key) (chn_kinds hok key) c.keys c.entries
    cases hf : foundS (chnOf c key) [] with
    | true =>
      rw [if_pos rfl]; obtain ⟨l0, hl0⟩ := searchV_some hf; rw [hl0] at hsn; refine Pu.wkr (Qf 60 Tryz.func29 rfl rfl ?_) (nilV _)
      repeat' ((conv => whnf); first | refine vv1 ?_ | refine vv2 ?_ | refine vv21 ?_ | refine Qp hask ?_ | refine Qp hch ?_ | refine Qp hsn ?_)
      exact Qv
    | false =>
      rw [if_neg (by simp)]; rw [searchV_none hf] at hsn; refine Qf 60 Tryz.func29 rfl rfl ?_
      repeat' ((conv => whnf); first | refine vv2 ?_ | refine vv21 ?_ | refine vv23 ?_ | refine Qp hask ?_ | refine Qp hch ?_ | refine Qp hsn ?_)
      refine LoopN.re (Reabs.virt 9 1 3 rfl) ?_; refine LoopN.of Qt (fun k : Nat => [(1, vi key), (2, .pm 0 0 0), (9, .sm 1 1 0 (susK c key k).length), (29, entries c.entries), (30, vi c.entries.length), (31, vi k)]) (fun k => [.rows [bookC c] 26, .rows ((susK c key k).map intR) 3]) (fun k => c.entries.length - k) (fun k => k ≤ c.entries.length) 0 (Nat.zero_le _) (QM [0, 1]) ?_; intro k hk; by_cases hlt : k < c.entries.length
      · have hsu := susK_succ (key := key) hlt; have hle := susK_len hok key k; have hwi : Pu Tryz.prog G1 83 [bookV c, .sl 1 true [[vi (c.entries[k]).id]]] (bookV (withoutB c [(c.entries[k]).id])) := (without_pu hc [(c.entries[k]).id] (by simp)).wk ⟨WkC.refl _, WkC.loose _ _, trivial⟩; have hok2 := without_ok hok [(c.entries[k]).id]; have hch2 := chain_ok (withoutB c [(c.entries[k]).id]) key (Nat.le_trans (List.length_filter_le ..) hc.el); have hsn2 := search_nil (chn_cb hok2 key) (chn_kinds hok2 key) c.keys (withoutB c [(c.entries[k]).id]).entries; generalize susK c key k = o at *; by_cases hkey2 : (c.entries[k]).key = key
        · cases hfd : foundS (chnOf (withoutB c [(c.entries[k]).id]) key) [] with
          | true =>
            obtain ⟨l1, hl1⟩ := searchV_some hfd; rw [hl1] at hsn2; rw [if_pos (Bool.and_eq_true_iff.2 ⟨beq_iff_eq.2 hkey2, hfd⟩)] at hsu
            repeat' ((conv => whnf); first | refine SlIdxN.map k rfl hlt ?_ | refine vv1 ?_ | refine vv5 ?_ | refine vv7 ?_ | refine vv20 ?_ | refine vv21 ?_ | refine vv22 ?_ | refine vv31 ?_ | refine vv33 ?_ | refine Qp hwi ?_ | refine Qp hch2 ?_ | refine Qp hsn2 ?_)
            exact Qb (k + 1) (QM [0, 3] (hs := by rw [hsu, List.length_append]; exact (by repeat (first | exact sv0 | refine sv1 ?_ | refine sv2 ?_ | refine sv3 ?_))) (hb := bv1 (Ql rfl (blkDeep (by rw [hsu, List.map_append]; rfl) (deepMap (fun _ => rfl))) bv0)))
          | false =>
            rw [searchV_none hfd] at hsn2; rw [if_neg (fun h => by have := (Bool.and_eq_true_iff.1 h).2; rw [hfd] at this; cases this), List.append_nil] at hsu
            repeat' ((conv => whnf); first | refine SlIdxN.map k rfl hlt ?_ | refine vv2 ?_ | refine vv5 ?_ | refine vv7 ?_ | refine vv20 ?_ | refine vv21 ?_ | refine vv22 ?_ | refine Qp hwi ?_ | refine Qp hch2 ?_ | refine Qp hsn2 ?_)
            exact Qb (k + 1) (by rw [hsu]; exact QM [0, 1])
        rw [if_neg (fun h => hkey2 (beq_iff_eq.1 (Bool.and_eq_true_iff.1 h).1)), List.append_nil] at hsu
        repeat' ((conv => whnf); first | refine SlIdxN.map k rfl hlt ?_ | refine vv6 ?_ | refine vv7 ?_ | refine vv20 ?_ | refine vv21 ?_ | refine vv22 ?_)
        exact Qb (k + 1) (by rw [hsu]; exact QM [0, 1])
      obtain rfl : k = c.entries.length := by omega
      have hso := sort_in (susK c key c.entries.length) (by have := susK_len hok key c.entries.length; omega); have hall := susK_all hok key; have hle : (sortL (susK c key c.entries.length)).length = (susK c key c.entries.length).length := (List.mergeSort_perm ..).length_eq; rw [hall] at hso hle; generalize susK c key c.entries.length = o at *
      (conv => whnf); repeat' (first | refine CallN.efD (hso _ 1 rfl) ?_ | refine vv8 ?_) <;> conv => whnf
      rw [← hle]; exact ⟨fin2 _ 0⟩
  rw [if_pos h0]; refine Pu.wkr (Qf 60 Tryz.func29 rfl rfl ?_) (nilV _)
  repeat' ((conv => whnf); first | refine vv6 ?_ | refine vv21 ?_ | refine Qp hask ?_)
  exact Qv
end
section
def book0 : Book := ⟨[], [], [], 0⟩
def bookEV (r : Book × Int) : AV := .tuple [bookV r.1, vi r.2]
theorem WkC.agg {xs ys : List AV} (h : WkR xs ys) : WkC (.agg xs) (.agg ys) := fun I w ρ v hv => by
  obtain ⟨h1, h2⟩ := h.get
  cases hv with
  | agg hl hc hv =>
    refine .agg (hl.trans h1) (fun i y hy => ?_) fun i y hy => ?_
    · obtain ⟨x, g1, g2⟩ := h2 i y hy; exact hc i x g1
    obtain ⟨x, g1, g2⟩ := h2 i y hy; exact g2 _ _ _ _ (hv i x g1)
theorem nilB (e : Int) : WkC (.tuple [.agg [nilA, nilA, nilA, vi 0], vi e]) (bookEV (book0, e)) := WkC.tup ⟨WkC.agg ⟨WkC.nilSl _ _, WkC.nilSl _ _, WkC.nilSl _ _, WkC.refl _, trivial⟩, WkC.refl _, trivial⟩
def movesV (r : List Mv × Int) : AV := .tuple [moves r.1, vi r.2]
theorem nilM (e : Int) : WkC (.tuple [nilA, vi e]) (movesV ([], e)) := WkC.tup ⟨WkC.nilSl _ _, WkC.refl _, trivial⟩
theorem history_ok {c : Book} (hc : BkS c) (key : Int) : Pu Tryz.prog G1 37 [bookV c, vi key] (movesV (historyF c key)) := by
  have hask := hc.asked key; unfold historyF; by_cases h0 : askedE c key = 0
  · rw [if_neg (by simpa using h0)]; rw [h0] at hask; obtain ⟨hok, hkey⟩ := asked_0 h0; have hch := chain_ok c key hc.el; have hsn := search_nil (chn_cb hok key) (chn_kinds hok key) c.keys c.entries
    cases hf : searchS (chnOf c key) [] with
    | none =>
      rw [hf] at hsn; refine Pu.wkr (Qf 25 Tryz.func37 rfl rfl ?_) (nilM _)
      repeat' ((conv => whnf); first | refine vv1 ?_ | refine vv2 ?_ | refine vv21 ?_ | refine Qp hask ?_ | refine Qp hch ?_ | refine Qp hsn ?_)
      exact Qv
    | some l =>
      rw [hf] at hsn; refine Qf 25 Tryz.func37 rfl rfl ?_
      repeat' ((conv => whnf); first | refine vv2 ?_ | refine vv21 ?_ | refine Qp hask ?_ | refine Qp hch ?_ | refine Qp hsn ?_)
      exact Qv
  rw [if_pos h0]; refine Pu.wkr (Qf 25 Tryz.func37 rfl rfl ?_) (nilM _)
  repeat' ((conv => whnf); first | refine vv6 ?_ | refine vv21 ?_ | refine Qp hask ?_)
  exact Qv
theorem tell_ok {c : Book} (hc : BkS c) (key : Int) (l : List Mv) (hmax : l.length ≤ 1000000) : Pu Tryz.prog G1 48 [bookV c, vi key, moves l] (vi (tellE c key l)) := by
  have hask := hc.asked key; unfold tellE; by_cases h0 : askedE c key = 0
  · rw [if_neg (by simpa using h0)]; rw [h0] at hask; obtain ⟨hok, hkey⟩ := asked_0 h0; have hch := chain_ok c key hc.el; have hpl := play_ok (chn_cb hok key) c.keys c.entries l maxTime hmax; by_cases hl : 20 < l.length
    · rw [if_pos hl]; refine Qf 29 Tryz.func48 rfl rfl ?_
      repeat' ((conv => whnf); first | refine vv2 ?_ | refine vv7 ?_ | refine vv21 ?_ | refine vv23 ?_ | refine Qp hask ?_)
      exact Qv
    rw [if_neg hl]; unfold playV at hpl
    cases hp : (playS (chnOf c key) l maxTime).2 with
    | true =>
      rw [if_pos rfl]; rw [hp] at hpl; refine Qf 29 Tryz.func48 rfl rfl ?_
      repeat' ((conv => whnf); first | refine vv2 ?_ | refine vv8 ?_ | refine vv21 ?_ | refine vv22 ?_ | refine vv23 ?_ | refine Qp hask ?_ | refine Qp hch ?_ | refine Qp hpl ?_)
      exact Qv
    | false =>
      rw [if_neg (by simp)]; rw [hp] at hpl; refine Qf 29 Tryz.func48 rfl rfl ?_
      repeat' ((conv => whnf); first | refine vv1 ?_ | refine vv2 ?_ | refine vv8 ?_ | refine vv21 ?_ | refine vv22 ?_ | refine vv23 ?_ | refine Qp hask ?_ | refine Qp hch ?_ | refine Qp hpl ?_)
      exact Qv
  rw [if_pos h0]; refine Qf 29 Tryz.func48 rfl rfl ?_
  repeat' ((conv => whnf); first | refine vv6 ?_ | refine vv21 ?_ | refine Qp hask ?_)
  exact Qv
end
section
def withB (c : Book) (e : Entr) : Book := { c with entries := c.entries ++ [e] }
def withF (c : Book) (e : Entr) : Book × Int := if checkE c ≠ 0 then (book0, checkE c) else if checkE (withB c e) ≠ 0 then (book0, checkE (withB c e)) else (withB c e, 0)
theorem BkS.of_ok {c : Book} (h : c.ok) : BkS c := ⟨by have := h.lens; omega, by have := h.lens; omega, by have := h.lens; omega, fun p hp => by have := (pers_parts (h.pers p hp)).2; omega⟩
theorem BkS.with {c : Book} (h : c.ok) (e : Entr) : BkS (withB c e) := ⟨by have := h.lens; show c.people.length ≤ _; omega, by have := h.lens; show c.keys.length ≤ _; omega, by have := h.lens; show (c.entries ++ [e]).length ≤ _; rw [List.length_append]; simp only [List.length_singleton]; omega, (BkS.of_ok h).du⟩
theorem with_ok {c : Book} (hc : BkS c) (e : Entr) : Pu Tryz.prog G1 42 [bookV c, .agg (encE e)] (bookEV (withF c e)) := by
  have hck := hc.check; have hcp := copied_at hc; unfold withF; by_cases h0 : checkE c = 0
  · rw [if_neg (by simpa using h0)]; rw [h0] at hck; have hok := (check_ok c).1 h0; have hck2 := (BkS.with hok e).check; have hel : c.entries.length ≤ 40 := hok.lens.2.2; have hfz : AV.frz0 5 ((withB c e).entries.map encE) (.sm 5 7 0 (c.entries.length + 1)) = entries (withB c e).entries := frz_all (by rw [List.length_map]; show c.entries.length + 1 = (c.entries ++ [e]).length; simp); by_cases hx0 : checkE (withB c e) = 0
    · rw [if_neg (by simpa using hx0)]; rw [hx0] at hck2; refine Qc 30 Tryz.func42 rfl rfl ?_; refine Qs ?_
      (conv => whnf)
      refine Qs ?_
      (conv => whnf); repeat' (first | refine vv2 ?_ | refine vv21 ?_ | refine Qp hck ?_) <;> conv => whnf
      refine Qs ?_
      (conv => whnf); repeat' (first | refine CallN.efD (hcp _ 3 rfl) ?_ | refine vv21 ?_ | refine vv22 ?_) <;> conv => whnf
      refine Qs ?_
      (conv => whnf); repeat' (first | refine AppN.len (c.entries.length + 1) (by simp) (by omega) (by omega) ?_ | refine vv21 ?_ | refine vv22 ?_ | refine vv31 ?_) <;> conv => whnf
      refine CodeN.re (l' := [(4, .pm 0 0 0), (7, .pm 1 0 0)]) (H' := [.rows [[nilA, nilA, nilA, vi 0]] 26, .rows [bookC (withB c e)] 26]) (Reabs.trans (Reabs.frz 5 ((withB c e).entries.map encE) 68 (by show _ = some (ABlk.rows ((c.entries ++ [e]).map encE) 68); rw [List.map_append]; rfl) (deepR (fun _ => rfl))) (QM [2, 4] (hb := bv1 (Ql rfl (blkOk rfl (by show _ = ABlk.rows [[persons c.people, ints c.keys, entries (withB c e).entries, vi c.gaps]] 26; rw [← hfz]; rfl)) bv0)))) ?_; refine Qe ?_
      repeat' ((conv => whnf); first | refine vv2 ?_ | refine vv21 ?_ | refine vv22 ?_ | refine Qp hck2 ?_)
      exact Qv
    rw [if_pos hx0]; refine Pu.wkr (Qc 30 Tryz.func42 rfl rfl ?_) (nilB _); refine Qs ?_
    (conv => whnf)
    refine Qs ?_
    (conv => whnf); repeat' (first | refine vv2 ?_ | refine vv21 ?_ | refine Qp hck ?_) <;> conv => whnf
    refine Qs ?_
    (conv => whnf); repeat' (first | refine CallN.efD (hcp _ 3 rfl) ?_ | refine vv21 ?_ | refine vv22 ?_) <;> conv => whnf
    refine Qs ?_
    (conv => whnf); repeat' (first | refine AppN.len (c.entries.length + 1) (by simp) (by omega) (by omega) ?_ | refine vv21 ?_ | refine vv22 ?_ | refine vv31 ?_) <;> conv => whnf
    refine CodeN.re (l' := [(4, .pm 0 0 0), (7, .pm 1 0 0)]) (H' := [.rows [[nilA, nilA, nilA, vi 0]] 26, .rows [bookC (withB c e)] 26]) (Reabs.trans (Reabs.frz 5 ((withB c e).entries.map encE) 68 (by show _ = some (ABlk.rows ((c.entries ++ [e]).map encE) 68); rw [List.map_append]; rfl) (deepR (fun _ => rfl))) (QM [2, 4] (hb := bv1 (Ql rfl (blkOk rfl (by show _ = ABlk.rows [[persons c.people, ints c.keys, entries (withB c e).entries, vi c.gaps]] 26; rw [← hfz]; rfl)) bv0)))) ?_; refine Qe ?_
    repeat' ((conv => whnf); first | refine vv6 ?_ | refine vv21 ?_ | refine vv22 ?_ | refine Qp hck2 ?_)
    exact Qv
  rw [if_pos h0]; refine Pu.wkr (Qf 30 Tryz.func42 rfl rfl ?_) (nilB _)
  repeat' ((conv => whnf); first | refine vv6 ?_ | refine vv21 ?_ | refine vv22 ?_ | refine Qp hck ?_)
  exact Qv
end
section
theorem cmp198 (a b : Cnd) (ha : 0 ≤ a.time ∧ a.time ≤ maxTime) (hb : 0 ≤ b.time ∧ b.time ≤ maxTime) : Pu Tryz.prog G1 198 [cV a, cV b] (vi (a.time - b.time)) := by
  have hm : maxTime = 1073741823 := rfl; refine Qf 10 Tryz.func198 rfl rfl ?_
  repeat' ((conv => whnf); first | refine inv_time a rfl ?_ | refine inv_time b rfl ?_ | refine vv20 ?_)
  exact Qv
abbrev condR (c : Cnd) : List AV := [cV c]
abbrev TimeB (l : List Cnd) : Prop := ∀ c ∈ l, 0 ≤ c.time ∧ c.time ≤ maxTime
theorem insC_at {x : Cnd} : ∀ {L1 L2 : List Cnd}, (∀ y ∈ L1, ¬ x.time < y.time) → (∀ y ∈ L2, x.time < y.time) → insC x (L1 ++ L2) = L1 ++ x :: L2
  | [], [], _, _ => rfl
  | [], y :: L2, _, h => by
    show (if x.time < y.time then _ else _) = _; rw [if_pos (h y List.mem_cons_self)]; rfl
  | y :: L1, L2, h1, h2 => by
    show (if x.time < y.time then _ else y :: insC x (L1 ++ L2)) = _; rw [if_neg (h1 y List.mem_cons_self), insC_at (fun z hz => h1 z (List.mem_cons_of_mem _ hz)) h2]; rfl
theorem insC_stop {x : Cnd} {L1 L2 : List Cnd} (hs : SortP (L1 ++ L2)) (h1 : L1 = [] ∨ ∃ A p, L1 = A ++ [p] ∧ ¬ x.time < p.time) (h2 : ∀ y ∈ L2, x.time < y.time) : insC x (L1 ++ L2) = L1 ++ x :: L2 := by
  refine insC_at ?_ h2
  rcases h1 with rfl | ⟨A, p, rfl, hp⟩
  exact fun y hy => absurd hy List.not_mem_nil
  intro y hy hlt
  rcases List.mem_append.1 hy with hy | hy
  · have := (List.pairwise_append.1 (List.pairwise_append.1 hs).1).2.2 y hy p (by simp); omega
  rw [List.mem_singleton.1 hy] at hlt; exact hp hlt
theorem sortC_succ {l : List Cnd} {i : Nat} (h : i < l.length) : sortC (l.take (i + 1)) = insC l[i] (sortC (l.take i)) := by
  unfold sortC; rw [take_succ_snoc h, List.foldl_append]; rfl
theorem sortC_len (l : List Cnd) : (sortC l).length = l.length := by
  have ins : ∀ (x : Cnd) (l : List Cnd), (insC x l).length = l.length + 1 := by
    intro x l
    induction l with
    | nil => rfl
    | cons y r ih => unfold insC; split <;> simp [ih]
  have gen : ∀ (l acc : List Cnd), (l.foldl (fun acc c => insC c acc) acc).length = l.length + acc.length := by
    intro l
    induction l with
    | nil => intro acc; simp
    | cons x r ih => intro acc; rw [List.foldl_cons, ih, ins]; simp; omega
  exact gen l []
theorem split_last {α : Type} {l : List α} (h : 0 < l.length) : ∃ A p, l = A ++ [p] := ⟨l.dropLast, l.getLast (List.length_pos_iff.1 h), (List.dropLast_concat_getLast _).symm⟩
theorem WkC.func (f : Fn) : WkC (.sc (.func f #[] #[])) (.fn f [] []) := fun _ _ _ _ h => by
  cases h
  exact .fn rfl rfl (fun i x hx => by simp at hx) (fun i x hx => by simp at hx)
theorem Ef.wk {P : Program} {G : Glob} {f : FuncId} {xs ys : List AV} {H : AH} {Q : AV → AH → Prop} (h : Ef P G f ys H Q) (hn : WkR xs ys) : Ef P G f xs H Q := by
  obtain ⟨h1, h2⟩ := hn.get; refine ⟨h.1, fun I w ρ vs hh hl hv => h.2 I w ρ vs hh (hl.trans h1) fun i x hx => ?_⟩; obtain ⟨x', g1, g2⟩ := h2 i x hx; exact g2 _ _ _ _ (hv i _ g1)
theorem insertC_ef (l : List Cnd) (hb : TimeB l) (hmax : l.length ≤ 1000) : Ef Tryz.prog G1 234 [.sm 0 1 0 l.length, vi 0, vi l.length, .fn (.func 198) [] []] [.rows (l.map condR) 113] fun y H' => y = .tuple [] ∧ H' = [.rows ((sortC l).map condR) 113] := by
  by_cases h0 : l = []
  · subst h0; refine Ef.reabs (Ef.of_ev (T := Tryz.tab) (n := 53) (tryd_okm 1 _) rfl Tryz.func234 rfl rfl (by simp) ?_)
    repeat' ((conv => whnf); first | refine vv20 ?_)
    refine LoopN.of (tryd_okm 1 _) (fun (_ : Unit) => [(2, vi 0), (8, vi 1)]) (fun _ => [.rows [] 113]) (fun _ => 0) (fun _ => True) () trivial (QM [0]) ?_; rintro _ -
    (conv => whnf); repeat' (first | refine vv2 ?_) <;> conv => whnf
    exact ⟨⟨_, _, QM [0], rfl, rfl⟩⟩
  have hpos : 0 < l.length := List.length_pos_iff.2 h0
  have hnil : sortC (l.take 1) = l.take 1 := by
    cases l with
    | nil => exact absurd rfl h0
    | cons x r => rfl
  refine Ef.reabs (Ef.of_ev (T := Tryz.tab) (n := 53) (tryd_okm 1 _) rfl Tryz.func234 rfl rfl (by simp) ?_)
  repeat' ((conv => whnf); first | refine vv20 ?_)
  refine LoopN.of (tryd_okm 1 _) (fun (i : Nat) => [(0, .sm 0 1 0 l.length), (1, vi 0), (2, vi l.length), (3, .fn (.func 198) [] []), (8, vi i)]) (fun i => [.rows ((sortC (l.take i) ++ l.drop i).map condR) 113]) (fun i => l.length - i) (fun i => 1 ≤ i ∧ i ≤ l.length) 1 ⟨Nat.le_refl _, hpos⟩ (by rw [hnil, List.take_append_drop]; exact QM [0]) ?_; rintro i ⟨hi1, hi⟩; by_cases hlt : i < l.length
  · have hdl : (sortC (l.take i)).length = i := by rw [sortC_len, List.length_take]; omega
    have hso : SortP (sortC (l.take i)) := (sortC_gen _ [] List.Pairwise.nil).1; have hsu := sortC_succ hlt
    have hme : ∀ d, d ∈ sortC (l.take i) → d ∈ l := fun d hd => by
      rcases ((sortC_gen (l.take i) [] List.Pairwise.nil).2 d).1 hd with h | h
      exact List.mem_of_mem_take h
      cases h
    have hdr := List.drop_eq_getElem_cons hlt; have hxl : l[i] ∈ l := List.getElem_mem hlt; have hxb := hb _ hxl; have hfl : (l.drop (i + 1)).length + i + 1 = l.length := by rw [List.length_drop]; omega
    rw [hdr]; generalize l[i] = x at *; generalize sortC (l.take i) = D at *; generalize hF : l.drop (i + 1) = F at *
    (conv => whnf); repeat' (first | refine vv7 ?_) <;> conv => whnf
    refine LoopN.of3 (tryd_okm 1 _) (fun (j : Nat) (L1 L2 : List Cnd) => [(0, .sm 0 1 0 l.length), (1, vi 0), (2, vi l.length), (3, .fn (.func 198) [] []), (8, vi i), (9, vi j)]) (fun j L1 L2 => [.rows ((L1 ++ x :: (L2 ++ F)).map condR) 113]) (fun j L1 L2 => L1.length) (fun j L1 L2 => L1.length = j ∧ D = L1 ++ L2 ∧ ∀ y ∈ L2, x.time < y.time) i D [] ⟨hdl, by simp, fun y hy => absurd hy List.not_mem_nil⟩ (QM [0]) ?_; rintro j L1 L2 ⟨g0, rfl, g2⟩; simp only [List.length_append] at hdl; by_cases hj0 : 0 < L1.length
    · obtain ⟨A, p, rfl⟩ := split_last hj0; simp only [List.length_append, List.length_singleton] at g0 hdl; have hpb := hb p (hme p (by simp)); have hcm := cmp198 x p hxb hpb; have hm : maxTime = 1073741823 := rfl; have e0 : (A ++ [p]) ++ x :: (L2 ++ F) = A ++ p :: x :: (L2 ++ F) := by simp
      have hln : (A ++ p :: x :: (L2 ++ F)).length = l.length := by simp; omega
      have hr1 : ((A ++ p :: x :: (L2 ++ F)).map condR)[j]? = some (condR x) := by
        subst g0; rw [List.getElem?_map, List.getElem?_append_right (by omega), show A.length + 1 - A.length = 1 by omega]; rfl
      have hr2 : ((A ++ p :: x :: (L2 ++ F)).map condR)[j - 1]? = some (condR p) := by
        subst g0; rw [List.getElem?_map, List.getElem?_append_right (by omega), show A.length + 1 - 1 - A.length = 0 by omega]; rfl
      have hrow : ∀ r : List AV, (((A ++ p :: x :: (L2 ++ F)).map condR).set j r)[j - 1]? = some (condR p) := fun r => by rw [List.getElem?_set, if_neg (by omega), hr2]
      have hmap : (A ++ x :: p :: (L2 ++ F)).map condR = (((A ++ p :: x :: (L2 ++ F)).map condR).set j (condR p)).set (j - 1) (condR x) := by
        subst g0; rw [← List.map_set, ← List.map_set]; congr 1
        rw [List.set_append_right _ _ (by omega), List.set_append_right _ _ (by omega), show A.length + 1 - A.length = 1 by omega, show A.length + 1 - 1 - A.length = 0 by omega]; rfl
      rw [e0]; by_cases hs : x.time < p.time
      · have hneg : x.time - p.time < 0 := by omega
        clear e0 hso hme hsu hdr
        repeat' ((conv => whnf); first | refine RowN.raw hr1 ?_ | refine RowN.raw hr2 ?_ | refine RowSN.raw hr1 ?_ | refine RowSN.raw (hrow _) ?_ | refine vv3 ?_ | refine vv7 ?_ | refine vv20 ?_ | refine IdxN.at0 _ rfl (by first | assumption | omega | (simp <;> omega)) ?_ | refine vv25 ?_ | refine Qd ?_ | refine vv26 ?_ | refine Qg hcm ?_)
        exact BackN3.mk (j - 1) A (p :: L2) ⟨by omega, by simp, fun y hy => by
          rcases List.mem_cons.1 hy with rfl | hy
          exact hs
          exact g2 y hy⟩ (by simp) (QM [0] (hb := Ql rfl (blkDeep (by rw [List.cons_append, hmap]; rfl) (deepMap (fun _ => rfl))) bv0))
      have hneg : ¬ x.time - p.time < 0 := by omega
      have hst := insC_stop (x := x) hso (.inr ⟨A, p, rfl, hs⟩) g2; clear e0 hso hme hdr
      repeat' ((conv => whnf); first | refine RowN.raw hr1 ?_ | refine RowN.raw hr2 ?_ | refine vv4 ?_ | refine vv7 ?_ | refine vv20 ?_ | refine IdxN.at0 _ rfl (by first | assumption | omega | (simp <;> omega)) ?_ | refine vv25 ?_ | refine Qd ?_ | refine vv26 ?_ | refine Qg hcm ?_)
      exact BackN.mk (i + 1) ⟨by omega, by omega⟩ (by omega) (QM [0] (hb := Ql rfl (blkDeep (by rw [hsu, hst, hF]; simp) (deepMap (fun _ => rfl))) bv0))
    obtain rfl : L1 = [] := List.length_eq_zero_iff.1 (by omega); have hst := insC_stop (x := x) hso (.inl rfl) g2; simp only [List.length_nil] at g0; subst g0
    repeat' ((conv => whnf); first | refine vv2 ?_ | refine vv20 ?_ | refine vv25 ?_ | refine Qd ?_)
    exact BackN.mk (i + 1) ⟨by omega, by omega⟩ (by omega) (QM [0] (hb := Ql rfl (blkDeep (by rw [hsu, hst, hF]; simp) (deepMap (fun _ => rfl))) bv0))
  obtain rfl : i = l.length := by omega
  have e : sortC (l.take l.length) ++ l.drop l.length = sortC l := by rw [List.take_length, List.drop_length, List.append_nil]
  rw [e]
  (conv => whnf); repeat' (first | refine vv8 ?_) <;> conv => whnf
  exact ⟨⟨_, [.rows ((sortC l).map condR) 113], QM [0], rfl, rfl⟩⟩
end
section
abbrev cmpV : AV := .fn (.func 198) [] []
theorem stableC_ef (l : List Cnd) (hb : TimeB l) (hmax : l.length ≤ 12) : Ef Tryz.prog G1 218 [.sm 0 1 0 l.length, vi l.length, cmpV] [.rows (l.map condR) 113] fun y H' => y = .tuple [] ∧ H' = [.rows ((sortC l).map condR) 113] := by
  have hin := insertC_ef l hb (by omega); have hsl := sortC_len l; refine Ef.reabs (Ef.of_ev (T := Tryz.tab) (n := 63) (tryd_okm 1 _) rfl Tryz.func218 rfl rfl (by simp) ?_)
  (conv => whnf)
  refine LoopN.of (tryd_okm 1 _) (fun (_ : Unit) => [(0, .sm 0 1 0 l.length), (1, vi l.length), (2, cmpV), (6, vi 20), (7, vi 0), (8, vi 20)]) (fun _ => [.rows (l.map condR) 113]) (fun _ => 0) (fun _ => True) () trivial (QM [0]) ?_; rintro _ -
  repeat' ((conv => whnf); first | refine CallN.efD hin ?_ | refine vv8 ?_)
  refine LoopN.of (tryd_okm 1 _) (fun (_ : Unit) => [(1, vi l.length), (6, vi 20)]) (fun _ => [.rows ((sortC l).map condR) 113]) (fun _ => 0) (fun _ => True) () trivial (QM [0]) ?_; rintro _ -
  (conv => whnf); repeat' (first | refine vv8 ?_) <;> conv => whnf
  exact ⟨⟨_, [.rows ((sortC l).map condR) 113], QM [0], rfl, rfl⟩⟩
theorem sortC_ef (l : List Cnd) (hb : TimeB l) (hmax : l.length ≤ 12) : Ef Tryz.prog G1 197 [.sm 0 1 0 l.length, cmpV] [.rows (l.map condR) 113] fun y H' => y = .tuple [] ∧ H' = [.rows ((sortC l).map condR) 113] := by
  have hin := stableC_ef l hb hmax; refine Ef.reabs (Ef.of_ev (T := Tryz.tab) (n := 9) (tryd_okm 1 _) rfl Tryz.func197 rfl rfl (by simp) ?_)
  (conv => whnf); repeat' (first | refine CallN.efD hin ?_) <;> conv => whnf
  exact ⟨⟨_, [.rows ((sortC l).map condR) 113], QM [0], rfl, rfl⟩⟩
theorem sortC_in (l : List Cnd) (hb : TimeB l) (hmax : l.length ≤ 12) (H : AH) (i : Nat) (hi : nthB H i = some (.rows (l.map condR) 113)) : Ef Tryz.prog G1 197 [.sm i 1 0 l.length, .sc (.func (.func 198) #[] #[])] H fun y H' => y = .tuple [] ∧ H' = H.set i (.rows ((sortC l).map condR) 113) := by
  refine Ef.wk (ys := [.sm i 1 0 l.length, cmpV]) ?_ ⟨WkC.refl _, WkC.func _, trivial⟩; refine Ef.subD (sortC_ef l hb hmax) rfl (Nat.le_refl _) ⟨okDeep (deepR (fun _ => rfl)) _, trivial⟩ [i] (by simp) ⟨⟨_, hi, blkDeep rfl (deepMap (fun _ => rfl)), fun _ => rfl⟩, trivial⟩ rfl (fun x hx => ?_) rfl ?_
  · simp only [List.mem_cons, List.not_mem_nil, or_false] at hx
    rcases hx with rfl | rfl <;> rfl
  show H.set i ((ABlk.rows ((sortC l).map condR) 113).ren _) ++ [] = _; rw [List.append_nil, ren_deepB (deepR (fun _ => rfl))]
abbrev encU (u : Use) : List AV := [vi u.key, vi u.who, vi u.time]
abbrev uses (l : List Use) : AV := .sl 3 false (l.map encU)
abbrev selU (l : List Use) (key : Int) (k : Nat) : List Cnd := ((l.take k).filter fun u => u.key == key).map fun u => .hand u.who u.time
theorem selU_succ {l : List Use} {key : Int} {k : Nat} (h : k < l.length) : selU l key (k + 1) = selU l key k ++ if l[k].key = key then [.hand l[k].who l[k].time] else [] := by
  unfold selU; rw [take_succ_snoc h, List.filter_append, List.map_append]; congr 1
  by_cases h : l[k].key = key <;> simp [h]
theorem selU_len (l : List Use) (key : Int) (k : Nat) : (selU l key k).length ≤ l.length := by
  unfold selU; rw [List.length_map]; exact Nat.le_trans (List.length_filter_le ..) (by rw [List.length_take]; omega)
theorem finC {H : AH} (l : List Cnd) (id : Nat) (h : nthB H id = some (.rows (l.map condR) 113)) : FinTo 0 H (.sm id 1 0 l.length) (conds l) [] := by
  have hz : AV.frz0 id (l.map condR) (.sm id 1 0 l.length) = conds l := frz_all (by rw [List.length_map]); rw [nthB_eq] at h; refine .step id _ _ h (deepR (fun _ => rfl)) ?_; have h2 : (AV.sm id 1 0 l.length).frz2 id (l.map condR) = AV.frz0 id (l.map condR) (.sm id 1 0 l.length) := rfl; rw [h2, hz]; exact .val rfl
theorem conds_pu (l : List Use) (key : Int) (hmax : l.length ≤ 12) (ht : ∀ u ∈ l, timeOk u.time = true) : Pu Tryz.prog G1 143 [uses l, vi key] (conds (condsOf l key)) := by
  refine Qf 31 Tryz.func143 rfl rfl ?_
  repeat' ((conv => whnf); first | refine vv23 ?_)
  refine LoopN.re (Reabs.virt 5 1 113 rfl) ?_; refine LoopN.of Qt (fun k : Nat => [(1, vi key), (5, .sm 0 1 0 (selU l key k).length), (8, uses l), (9, vi l.length), (10, vi k)]) (fun k => [.rows ((selU l key k).map condR) 113]) (fun k => l.length - k) (fun k => k ≤ l.length) 0 (Nat.zero_le _) (QM [0]) ?_; intro k hk; by_cases hlt : k < l.length
  · have hsu := selU_succ (key := key) hlt; have hle := selU_len l key k; generalize selU l key k = o at *; by_cases hkey : l[k].key = key
    · rw [if_pos hkey] at hsu
      repeat' ((conv => whnf); first | refine SlIdxN.map k rfl hlt ?_ | refine vv3 ?_ | refine vv7 ?_ | refine vv20 ?_ | refine vv21 ?_ | refine vv22 ?_ | refine vv31 ?_ | refine vv33 ?_)
      exact Qb (k + 1) (QM [2] (hs := by rw [hsu, List.length_append]; exact (by repeat (first | exact sv0 | refine sv1 ?_ | refine sv2 ?_ | refine sv3 ?_))) (hb := Ql rfl (blkDeep (by rw [hsu, List.map_append]; rfl) (deepMap (fun _ => rfl))) bv0))
    rw [if_neg hkey, List.append_nil] at hsu
    repeat' ((conv => whnf); first | refine SlIdxN.map k rfl hlt ?_ | refine vv4 ?_ | refine vv7 ?_ | refine vv20 ?_ | refine vv21 ?_ | refine vv22 ?_)
    exact Qb (k + 1) (by rw [hsu]; exact QM [0])
  obtain rfl : k = l.length := by omega
  have hall : sortC (selU l key l.length) = condsOf l key := by unfold selU condsOf; rw [List.take_length]
  have hso := sortC_in (selU l key l.length) (fun c hc => by
    obtain ⟨u, hu, rfl⟩ := List.mem_map.1 hc; have := ht u (List.mem_of_mem_take (List.mem_filter.1 hu).1); unfold timeOk at this
    exact of_decide_eq_true this) (by have := selU_len l key l.length; omega)
  have hln := sortC_len (selU l key l.length); rw [hall] at hso hln; generalize selU l key l.length = o at *
  (conv => whnf); repeat' (first | refine CallN.efD (hso _ 0 rfl) ?_ | refine vv8 ?_) <;> conv => whnf
  rw [← hln]; exact ⟨finC _ 0 rfl⟩
end
end Go.Proofs.Ax
