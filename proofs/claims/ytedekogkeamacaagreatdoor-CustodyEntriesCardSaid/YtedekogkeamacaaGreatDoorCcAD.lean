import Derived.Test.YtedekogkeamacaaGreatDoorCcAC
import Derived.Test.YtedekogkeamacaaGreatDoorAxM
namespace Go.Proofs.Ax
open Go Go.Proofs Go.Proofs.Cu
set_option maxRecDepth 10000
set_option maxHeartbeats 4000000
section
theorem u64s {n : Int} (h0 : 0 ≤ n) (h1 : n ≤ 1000000) : IntKind.u64.wrap n = n := by
  show (n % 18446744073709551616) = n; omega
theorem pdq_ef (o : List Int) (r : Int) (hmax : o.length ≤ 12) : Ef Tryz.prog G1 138 [.sm 0 1 0 o.length, vi 0, vi o.length, vi r] [.rows (o.map intR) 3] fun y H' => y = .tuple [] ∧ H' = [.rows ((sortL o).map intR) 3] := by
  have hin := insert_ef o (by omega); refine Ef.reabs (Ef.of_ev (T := Tryz.tab) (n := 134) (tryd_okm 1 _) rfl Tryz.func138 rfl rfl (by simp) ?_)
  (conv => whnf)
  refine LoopN.of (tryd_okm 1 _) (fun (_ : Unit) => [(0, .sm 0 1 0 o.length), (1, vi 0), (2, vi o.length), (3, vi r)]) (fun _ => [.rows (o.map intR) 3]) (fun _ => 0) (fun _ => True) () trivial (QM [0]) ?_; rintro _ -
  (conv => whnf); repeat' (first | refine CallN.efD hin ?_ | refine vv7 ?_ | refine vv20 ?_) <;> conv => whnf
  exact ⟨⟨_, [.rows ((sortL o).map intR) 3], QM [0], rfl, rfl⟩⟩
theorem sort_ef (o : List Int) (hmax : o.length ≤ 12) : Ef Tryz.prog G1 84 [.sm 0 1 0 o.length] [.rows (o.map intR) 3] fun y H' => y = .tuple [] ∧ H' = [.rows ((sortL o).map intR) 3] := by
  obtain ⟨r, hr⟩ := len_ok o.length hmax; have hp := pdq_ef o r hmax; refine Ef.reabs (Ef.of_ev (T := Tryz.tab) (n := 11) (tryd_okm 1 _) rfl Tryz.func84 rfl rfl (by simp) ?_)
  (conv => whnf); repeat' (first | refine WrapN.mk (o.length : Int) (u64s (by omega) (by omega)) ?_ | refine CallN.efD hp ?_ | refine Qp hr ?_) <;> conv => whnf
  exact ⟨⟨_, [.rows ((sortL o).map intR) 3], QM [0], rfl, rfl⟩⟩
def cpL : Int → List Int → List Int
  | _, [] => []
  | q, x :: r => if x = q then cpL q r else x :: cpL x r
def cmpL : List Int → List Int
  | [] => []
  | x :: r => x :: cpL x r
theorem cpL_snoc (x : Int) : ∀ (l : List Int) (q : Int), cpL q (l ++ [x]) = cpL q l ++ if x = (q :: l).getLast (by simp) then [] else [x]
  | [], q => by simp only [List.nil_append, cpL, List.getLast_singleton]; rfl
  | a :: l, q => by
    rw [List.cons_append, cpL, cpL]; have e : (q :: a :: l).getLast (by simp) = (a :: l).getLast (by simp) := by simp
    by_cases h : a = q
    · rw [if_pos h, if_pos h, cpL_snoc x l q, e]; subst h; rfl
    rw [if_neg h, if_neg h, cpL_snoc x l a, e]; rfl
theorem cmpL_succ {o : List Int} {k : Nat} (h : k < o.length) (h0 : 0 < k) : cmpL (o.take (k + 1)) = cmpL (o.take k) ++ if gt o k = gt o (k - 1) then [] else [gt o k] := by
  obtain ⟨a, r, rfl⟩ : ∃ a r, o = a :: r := by
    cases o with
    | nil => simp at h
    | cons a r => exact ⟨a, r, rfl⟩
  obtain ⟨k, rfl⟩ : ∃ j, k = j + 1 := ⟨k - 1, by omega⟩; have hk : k < r.length := by simpa using h
  have e1 : gt (a :: r) (k + 1) = r[k] := by simp [hk]
  have e2 : gt (a :: r) (k + 1 - 1) = (a :: r.take k).getLast (by simp) := by
    rw [Nat.add_sub_cancel, List.getLast_eq_getElem]; rw [← gt_get (by simp; omega)]; simp only [List.length_cons, List.length_take, Nat.min_eq_left (Nat.le_of_lt hk), Nat.add_sub_cancel]
    cases k with
    | zero => rfl
    | succ k => simp
  rw [e1, e2, List.take_succ_cons, List.take_succ_cons, take_succ_snoc hk, cmpL, cmpL, cpL_snoc]; rfl
theorem cpL_le : ∀ (l : List Int) (q : Int), (cpL q l).length ≤ l.length
  | [], q => Nat.le_refl _
  | x :: r, q => by
    rw [cpL]; split
    · have := cpL_le r q; simp; omega
    have := cpL_le r x; simp; omega
theorem cmpL_le (l : List Int) : (cmpL l).length ≤ l.length := by
  cases l with
  | nil => exact Nat.le_refl _
  | cons a r => have := cpL_le r a; simp [cmpL]; omega
theorem cmpL_small {o : List Int} (h : o.length < 2) : cmpL o = o := by
  match o, h with
  | [], _ => rfl
  | [a], _ => rfl
theorem gt_row {W : List Int} {m : Nat} (h : m < W.length) : (W.map intR)[m]? = some (intR (gt W m)) := by rw [List.getElem?_map, List.getElem?_eq_getElem h, gt_get h]; rfl
structure CpI (o W : List Int) (k j c : Nat) : Prop where
  j1 : 1 ≤ j
  jn : k + j ≤ o.length
  len : W.length = o.length
  cl : (cmpL (o.take (k + j))).length = c
  cj : c < k + j
  pre : W.take c = cmpL (o.take (k + j))
  suf : ∀ m, k + j - 1 ≤ m → gt W m = gt o m
theorem compact_ef (o : List Int) (hmax : o.length ≤ 1000000) : Ef Tryz.prog G1 150 [.sm 0 1 0 o.length] [.rows (o.map intR) 3] fun y H' => y = .sm 0 1 0 (cmpL o).length ∧ H' = [.rows ((cmpL o).map intR) 3] := by
  by_cases h2 : o.length < 2
  · rw [cmpL_small h2]; refine Ef.reabs (Ef.of_ev (T := Tryz.tab) (n := 61) (tryd_okm 1 _) rfl Tryz.func150 rfl rfl (by simp) ?_)
    (conv => whnf); repeat' (first | refine vv7 ?_) <;> conv => whnf
    exact ⟨⟨_, [.rows (o.map intR) 3], QM [0], rfl, rfl⟩⟩
  refine Ef.reabs (Ef.of_ev (T := Tryz.tab) (n := 61) (tryd_okm 1 _) rfl Tryz.func150 rfl rfl (by simp) ?_)
  repeat' ((conv => whnf); first | refine vv8 ?_)
  refine LoopN.of (tryd_okm 1 _) (fun (k : Nat) => [(0, .sm 0 1 0 o.length), (3, vi k)]) (fun _ => [.rows (o.map intR) 3]) (fun k => o.length - k) (fun k => 1 ≤ k ∧ k ≤ o.length ∧ cmpL (o.take k) = o.take k) 1 ⟨Nat.le_refl _, by omega, cmpL_small (by rw [List.length_take]; omega)⟩ (QM [0]) ?_; rintro k ⟨hk1, hk, hpre⟩; by_cases hlt : k < o.length
  case neg =>
    obtain rfl : k = o.length := by omega
    rw [List.take_length] at hpre; rw [hpre]
    (conv => whnf); repeat' (first | refine vv8 ?_) <;> conv => whnf
    exact ⟨⟨_, [.rows (o.map intR) 3], QM [0], rfl, rfl⟩⟩
  have hsu := cmpL_succ hlt hk1; have hr1 := gt_row hlt; have hr2 := gt_row (show k - 1 < o.length by omega); by_cases he : gt o k = gt o (k - 1)
  case neg =>
    rw [if_neg he, hpre] at hsu; have hn : cmpL (o.take (k + 1)) = o.take (k + 1) := by rw [hsu, take_succ_snoc hlt, gt_get hlt]
    clear hsu hpre; generalize gt o k = u at *; generalize gt o (k - 1) = v at *
    repeat' ((conv => whnf); first | refine RowN.raw hr1 ?_ | refine RowN.raw hr2 ?_ | refine vv4 ?_ | refine vv7 ?_ | refine vv20 ?_ | refine IdxN.at0 _ rfl (by first | assumption | omega | (simp <;> omega)) ?_ | refine vv25 ?_ | refine Qd ?_ | refine vv26 ?_)
    exact BackN.mk (k + 1) ⟨by omega, by omega, hn⟩ (by omega) (QM [0])
  rw [if_pos he, List.append_nil, hpre] at hsu; have h0 : CpI o o k 1 k := ⟨Nat.le_refl _, by omega, rfl, by rw [hsu, List.length_take]; omega, by omega, hsu.symm, fun m _ => rfl⟩; clear hsu hpre; generalize gt o k = u at *; generalize gt o (k - 1) = v at *
  (conv => whnf); repeat' (first | refine RowN.raw hr1 ?_ | refine RowN.raw hr2 ?_ | refine vv3 ?_ | refine vv7 ?_ | refine vv20 ?_ | refine IdxN.at0 _ rfl (by first | assumption | omega | (simp <;> omega)) ?_ | refine vv25 ?_ | refine Need.mk (by first | assumption | omega | (simp <;> omega)) ?_ | refine Qd ?_ | refine vv26 ?_) <;> conv => whnf
  clear hr1 hr2 he; refine LoopN.of3 (tryd_okm 1 _) (fun (j c : Nat) (W : List Int) => [(0, .sm 0 1 0 o.length), (3, vi c), (4, .sm 0 1 (0 + k) (o.length - k)), (5, vi j)]) (fun j c W => [.rows (W.map intR) 3]) (fun j c W => o.length - k - j) (fun j c W => CpI o W k j c) 1 k o h0 (QM [0]) ?_; rintro j c W ⟨j1, jn, hl, hcl, hcj, hp, hsuf⟩; by_cases hjl : j < o.length - k
  · have hsu := cmpL_succ (o := o) (k := k + j) (by omega) (by omega); have e1 := hsuf (k + j) (by omega); have e2 := hsuf (k + j - 1) (by omega); have hr1 := gt_row (show k + j < W.length by omega); have hr2 := gt_row (show k + j - 1 < W.length by omega); rw [e1] at hr1; rw [e2] at hr2; by_cases he : gt o (k + j) = gt o (k + j - 1)
    · rw [if_pos he, List.append_nil] at hsu; have hI : CpI o W k (j + 1) c := ⟨by omega, by omega, hl, by rw [← Nat.add_assoc, hsu, hcl], by omega, by rw [← Nat.add_assoc, hsu, hp], fun m hm => hsuf m (by omega)⟩; clear hsu e1 e2 hsuf hp hcl; generalize gt o (k + j) = u at *; generalize gt o (k + j - 1) = v at *
      repeat' ((conv => whnf); first | refine IdxN.mk j (k + j) rfl (by omega) (by omega) ?_ | refine IdxN.mk (j - 1) (k + j - 1) (by omega) (by omega) (by omega) ?_ | refine RowN.raw hr1 ?_ | refine RowN.raw hr2 ?_ | refine vv5 ?_ | refine vv7 ?_ | refine vv20 ?_ | refine vv25 ?_ | refine Qd ?_)
      exact BackN3.mk (j + 1) c W hI (by omega) (QM [0])
    rw [if_neg he] at hsu; have hcW : c < W.length := by omega
    have hr3 := gt_row hcW
    have hI : CpI o (W.set c (gt o (k + j))) k (j + 1) (c + 1) := by
      refine ⟨by omega, by omega, by rw [List.length_set, hl], by rw [← Nat.add_assoc, hsu, List.length_append, hcl]; rfl, by omega, ?_, fun m hm => ?_⟩; rw [← Nat.add_assoc, hsu, take_succ_snoc (by rw [List.length_set]; exact hcW), List.take_set_of_le (Nat.le_refl _), hp, List.getElem_set_self]; rw [gt_set hcW, if_neg (by omega)]; exact hsuf m (by omega)
    have hmap : (W.set c (gt o (k + j))).map intR = (W.map intR).set c (intR (gt o (k + j))) := by rw [List.map_set]
    clear hsu e1 e2 hsuf hp hcl; generalize gt o (k + j) = u at *; generalize gt o (k + j - 1) = v at *; generalize gt W c = w at *
    repeat' ((conv => whnf); first | refine IdxN.mk j (k + j) rfl (by omega) (by omega) ?_ | refine IdxN.mk (j - 1) (k + j - 1) (by omega) (by omega) (by omega) ?_ | refine RowN.raw hr1 ?_ | refine RowN.raw hr2 ?_ | refine RowSN.raw hr3 ?_ | refine vv6 ?_ | refine vv7 ?_ | refine vv20 ?_ | refine IdxN.at0 _ rfl (by first | assumption | omega | (simp <;> omega)) ?_ | refine vv25 ?_ | refine Qd ?_)
    exact BackN3.mk (j + 1) (c + 1) (W.set c u) hI (by omega) (QM [0] (hb := Ql rfl (blkDeep (by rw [hmap]; rfl) (deepMap (fun _ => rfl))) bv0))
  have hkj : k + j = o.length := by omega
  rw [hkj, List.take_length] at hp hcl; rw [hcl]
  (conv => whnf); repeat' (first | refine OpN.clear ?_ | refine ClearN.mk 0 1 (0 + c) (o.length - c) (W.map intR) 3 3 (.int .i64 0) rfl rfl Tryz.underlying23 Tryz.zeroValue3 rfl (fun u hu => (List.mem_singleton.1 hu) ▸ rfl) (by omega) ?_ | refine vv7 ?_ | refine vv8 ?_ | refine IdxN.at0 _ rfl (by first | assumption | omega | (simp <;> omega)) ?_ | refine Need.mk (by first | assumption | omega | (simp <;> omega)) ?_) <;> conv => whnf
  exact ⟨⟨_, [.rows ((cmpL o).map intR) 3], QM [0] (hb := Ql rfl (blkDeep (by rw [← hp, List.map_take, Nat.zero_add]) (deepMap (fun _ => rfl))) bv0), rfl, rfl⟩⟩
end
section
theorem cpL_law : ∀ (l : List Int) (q : Int), (q :: l).Pairwise (· ≤ ·) → Cu.Inc (cpL q l) ∧ (∀ x ∈ cpL q l, q < x) ∧ ∀ x, x ∈ cpL q l ↔ x ∈ l ∧ x ≠ q
  | [], q, _ => ⟨List.Pairwise.nil, fun x h => absurd h List.not_mem_nil, fun x => by simp [cpL]⟩
  | a :: l, q, h => by
    have hqa : q ≤ a := (List.pairwise_cons.1 h).1 a List.mem_cons_self; have ha := (List.pairwise_cons.1 h).2; rw [cpL]; by_cases e : a = q
    · subst e; rw [if_pos rfl]; obtain ⟨h1, h2, h3⟩ := cpL_law l a ha; refine ⟨h1, h2, fun x => ?_⟩; rw [h3, List.mem_cons]; constructor
      rintro ⟨g1, g2⟩; exact ⟨.inr g1, g2⟩; rintro ⟨g1 | g1, g2⟩; exact absurd g1 g2; exact ⟨g1, g2⟩
    rw [if_neg e]; obtain ⟨h1, h2, h3⟩ := cpL_law l a ha; refine ⟨List.pairwise_cons.2 ⟨fun x hx => h2 x hx, h1⟩, fun x hx => ?_, fun x => ?_⟩
    · rcases List.mem_cons.1 hx with rfl | hx
      omega; have := h2 x hx; omega
    rw [List.mem_cons, h3, List.mem_cons]; constructor
    · rintro (rfl | ⟨g1, g2⟩); exact ⟨.inl rfl, e⟩; refine ⟨.inr g1, fun e' => ?_⟩; have := (List.pairwise_cons.1 ha).1 x g1; omega
    rintro ⟨g1 | g1, g2⟩; exact .inl g1; by_cases e2 : x = a
    exact .inl e2; exact .inr ⟨g1, e2⟩
theorem cmpL_law {l : List Int} (h : l.Pairwise (· ≤ ·)) : Cu.Inc (cmpL l) ∧ ∀ x, x ∈ cmpL l ↔ x ∈ l := by
  cases l with
  | nil => exact ⟨List.Pairwise.nil, fun x => Iff.rfl⟩
  | cons a l =>
    obtain ⟨h1, h2, h3⟩ := cpL_law l a h; refine ⟨List.pairwise_cons.2 ⟨fun x hx => h2 x hx, h1⟩, fun x => ?_⟩; rw [cmpL, List.mem_cons, h3, List.mem_cons]; constructor
    · rintro (rfl | ⟨g, -⟩); exact .inl rfl; exact .inr g
    rintro (rfl | g); exact .inl rfl; by_cases e : x = a
    exact .inl e; exact .inr ⟨g, e⟩
theorem sortL_sorted (o : List Int) : (sortL o).Pairwise (· ≤ ·) := by
  have := List.pairwise_mergeSort (le := fun a b : Int => decide (a ≤ b)) (fun a b c h1 h2 => by simp at *; omega) (fun a b => by simp; omega) o
  exact this.imp fun h => by simpa using h
theorem cmp_sort (o : List Int) : cmpL (sortL o) = o.foldl (fun acc n => insI n acc) [] := by
  obtain ⟨h1, h2⟩ := cmpL_law (sortL_sorted o); obtain ⟨g1, g2⟩ := ins_gen o [] List.Pairwise.nil
  refine inc_ext h1 g1 fun x => ?_
  rw [h2, g2, (List.mergeSort_perm ..).mem_iff]; simp
theorem sort_in (o : List Int) (hmax : o.length ≤ 12) (H : AH) (i : Nat) (hi : nthB H i = some (.rows (o.map intR) 3)) : Ef Tryz.prog G1 84 [.sm i 1 0 o.length] H fun y H' => y = .tuple [] ∧ H' = H.set i (.rows ((sortL o).map intR) 3) := by
  refine Ef.subD (sort_ef o hmax) rfl (Nat.le_refl _) ⟨okDeep (deepR (fun _ => rfl)) _, trivial⟩ [i] (by simp) ⟨⟨_, hi, blkDeep rfl (deepMap (fun _ => rfl)), fun _ => rfl⟩, trivial⟩ rfl (fun x hx => ?_) rfl ?_; rw [List.mem_singleton.1 hx]; rfl; show H.set i ((ABlk.rows ((sortL o).map intR) 3).ren _) ++ [] = _; rw [List.append_nil, ren_deepB (deepR (fun _ => rfl))]
theorem compact_in (o : List Int) (n : Nat) (hn : n = o.length) (hmax : o.length ≤ 1000000) (H : AH) (i : Nat) (hi : nthB H i = some (.rows (o.map intR) 3)) : Ef Tryz.prog G1 150 [.sm i 1 0 n] H fun y H' => y = .sm i 1 0 (cmpL o).length ∧ H' = H.set i (.rows ((cmpL o).map intR) 3) := by
  subst hn; refine Ef.subD (compact_ef o hmax) rfl (Nat.le_refl _) ⟨okDeep (deepR (fun _ => rfl)) _, trivial⟩ [i] (by simp) ⟨⟨_, hi, blkDeep rfl (deepMap (fun _ => rfl)), fun _ => rfl⟩, trivial⟩ rfl (fun x hx => ?_) rfl ?_; rw [List.mem_singleton.1 hx]; rfl; show H.set i ((ABlk.rows ((cmpL o).map intR) 3).ren _) ++ [] = _; rw [List.append_nil, ren_deepB (deepR (fun _ => rfl))]
abbrev cpAt (es : List Entr) (d : Nat) (i : Nat) : Option Int := match es[i]? with
  | some e => if e.kind = 2 ∧ d.testBit i = true then some e.src else none
  | none => none
abbrev cpK (es : List Entr) (d k : Nat) : List Int := (List.range k).filterMap (cpAt es d)
theorem cpK_succ {es : List Entr} {d k : Nat} (h : k < es.length) : cpK es d (k + 1) = cpK es d k ++ if es[k].kind = 2 ∧ d.testBit k = true then [es[k].src] else [] := by
  unfold cpK; rw [List.range_succ, List.filterMap_append]; congr 1
  rw [List.filterMap_cons]; unfold cpAt; rw [List.getElem?_eq_getElem h]; simp only; split <;> rename_i h1
  · split at h1
    cases h1
    rw [if_neg (by assumption)]; rfl
  split at h1
  cases h1; rw [if_pos (by assumption)]; rfl
  cases h1
theorem cpK_len (es : List Entr) (d k : Nat) : (cpK es d k).length ≤ k := Nat.le_trans (List.length_filterMap_le ..) (by simp)
theorem copies_ok {C : Chn} (hC : CB C) (ks : List Int) (al : List Entr) {s : Sta} : Pu Tryz.prog G1 99 [kV C ks al, kS s] (ints (copiesL C.es s.done)) := by
  have hel := hC.el; have hcp : copiesL C.es s.done = cmpL (sortL (cpK C.es s.done C.es.length)) := (cmp_sort _).symm; rw [hcp]; refine Qf 39 Tryz.func99 rfl rfl ?_
  repeat' ((conv => whnf); first | refine vv23 ?_)
  refine LoopN.re (Reabs.virt 5 1 3 rfl) ?_; refine LoopN.of Qt (fun k : Nat => [(0, kV C ks al), (3, .pm 0 0 0), (5, .sm 1 1 0 (cpK C.es s.done k).length), (11, entries C.es), (12, vi C.es.length), (13, vi k)]) (fun k => [.rows [encSta s] 150, .rows ((cpK C.es s.done k).map intR) 3]) (fun k => C.es.length - k) (fun k => k ≤ C.es.length) 0 (Nat.zero_le _) (QM [0, 1]) ?_; intro k hk; have hle := cpK_len C.es s.done k; by_cases hlt : k < C.es.length
  · have hsu := cpK_succ (d := s.done) hlt; generalize cpK C.es s.done k = o at *; by_cases h2 : C.es[k].kind = 2
    · cases hb : s.done.testBit k with
      | true =>
        have hbb := bit_t hb; rw [if_pos ⟨h2, hb⟩] at hsu
        repeat' ((conv => whnf); first | refine SlIdxN.map k rfl hlt ?_ | refine StepN.shrN rfl rfl (by omega) ?_ | refine StepN.and1 rfl rfl ?_ | refine vv3 ?_ | refine vv7 ?_ | refine vv20 ?_ | refine vv21 ?_ | refine vv22 ?_ | refine vv31 ?_ | refine vv33 ?_)
        exact Qb (k + 1) (QM [0, 3] (hs := by rw [hsu, List.length_append]; exact (by repeat (first | exact sv0 | refine sv1 ?_ | refine sv2 ?_ | refine sv3 ?_))) (hb := bv1 (Ql rfl (blkDeep (by rw [hsu, List.map_append]; rfl) (deepMap (fun _ => rfl))) bv0)))
      | false =>
        have hbb := bit_f hb; rw [if_neg (fun h => by rw [hb] at h; cases h.2), List.append_nil] at hsu
        repeat' ((conv => whnf); first | refine SlIdxN.map k rfl hlt ?_ | refine StepN.shrN rfl rfl (by omega) ?_ | refine StepN.and1 rfl rfl ?_ | refine vv3 ?_ | refine vv4 ?_ | refine vv7 ?_ | refine vv20 ?_ | refine vv21 ?_ | refine vv22 ?_)
        exact Qb (k + 1) (by rw [hsu]; exact QM [0, 1])
    rw [if_neg (fun h => h2 h.1), List.append_nil] at hsu
    repeat' ((conv => whnf); first | refine SlIdxN.map k rfl hlt ?_ | refine vv2 ?_ | refine vv4 ?_ | refine vv7 ?_ | refine vv20 ?_ | refine vv21 ?_ | refine vv22 ?_)
    exact Qb (k + 1) (by rw [hsu]; exact QM [0, 1])
  obtain rfl : k = C.es.length := by omega
  generalize cpK C.es s.done C.es.length = o at *; have hso := sort_in o (by omega); have hsl : (sortL o).length = o.length := List.length_mergeSort o; have hco := compact_in (sortL o) o.length hsl.symm (by omega)
  (conv => whnf); repeat' (first | refine CallN.efD (hso _ _ rfl) ?_ | refine CallN.efD (hco _ _ rfl) ?_ | refine vv8 ?_) <;> conv => whnf
  exact ⟨.sm0 rfl (deepR (fun _ => rfl)) (by rw [List.length_map])⟩
end
section
def cT : Cnd → TypeId
  | .place _ _ => 115
  | .copy _ _ => 118
  | .hand _ _ => 268
def cW : Cnd → Int
  | .place n _ => n
  | .copy n _ => n
  | .hand n _ => n
abbrev cV (c : Cnd) : AV := .iface (cT c) (.agg [vi (cW c), vi c.time])
theorem inv_time {m n : Nat} {r : Option Nat} {ro : Operand} {ats : Array TypeId} {ty : TypeId} {l : Fr} {H : AH} {k : AV → AH → Prop} (c : Cnd) (hro : evo ⟨⟨Tryz.prog, G1, m, r⟩, n, Tryz.tab⟩ l ro = cV c) (hk : k (vi c.time) H) : OpN ⟨⟨Tryz.prog, G1, m, r⟩, n, Tryz.tab⟩ (.call ⟨.invoke ro "patrol/custody.time", #[], ats⟩) ty l H k := by
  cases c with
  | place a t => exact OpN.inv (tryd_okr m n r) hro meth_at (CallN.pure (time_at a t) hk)
  | copy a t => exact OpN.inv (tryd_okr m n r) hro meth_copy (CallN.pure (time_copy a t) hk)
  | hand a t => exact OpN.inv (tryd_okr m n r) hro meth_hand (CallN.pure (time_hand a t) hk)
theorem hit115 (v : AV) : aassert Tryz.prog (.iface 115 v) 115 true = some (.tuple [v, vb true]) := by simp only [aassert, Tryz.underlying115]; rfl
theorem hit118 (v : AV) : aassert Tryz.prog (.iface 118 v) 118 true = some (.tuple [v, vb true]) := by simp only [aassert, Tryz.underlying118]; rfl
theorem hit268 (v : AV) : aassert Tryz.prog (.iface 268 v) 268 true = some (.tuple [v, vb true]) := by simp only [aassert, Tryz.underlying268]; rfl
theorem zero115 : azero Tryz.prog 115 = some (.agg [vi 0, vi 0]) := by kernel_rfl
theorem zero118 : azero Tryz.prog 118 = some (.agg [vi 0, vi 0]) := by kernel_rfl
theorem miss118 (v : AV) : aassert Tryz.prog (.iface 118 v) 115 true = some (.tuple [.agg [vi 0, vi 0], vb false]) := by simp only [aassert, Tryz.underlying115, zero115]; rfl
theorem miss268 (v : AV) : aassert Tryz.prog (.iface 268 v) 115 true = some (.tuple [.agg [vi 0, vi 0], vb false]) := by simp only [aassert, Tryz.underlying115, zero115]; rfl
theorem miss268' (v : AV) : aassert Tryz.prog (.iface 268 v) 118 true = some (.tuple [.agg [vi 0, vi 0], vb false]) := by simp only [aassert, Tryz.underlying118, zero118]; rfl
theorem has_eq {es : List Entr} {d : Nat} {n : Int} : (copiesL es d).contains n = hasCopy es d n := by rw [Bool.eq_iff_iff, List.contains_iff_mem, mem_copies]
theorem copiesL_len {C : Chn} (hC : CB C) (d : Nat) : (copiesL C.es d).length ≤ 7 := by
  rw [show copiesL C.es d = cmpL (sortL (cpK C.es d C.es.length)) from (cmp_sort _).symm]; refine Nat.le_trans (cmpL_le _) ?_; rw [show (sortL (cpK C.es d C.es.length)).length = (cpK C.es d C.es.length).length from List.length_mergeSort _]; exact Nat.le_trans (cpK_len _ _ _) hC.el
theorem has_ok {C : Chn} (hC : CB C) (d : Nat) (n : Int) : Pu Tryz.prog G1 124 [ints (copiesL C.es d), vi n] (vb (hasCopy C.es d n)) := by
  rw [← has_eq]; exact contains_ok _ n (by have := copiesL_len hC d; omega)
theorem holds_place {C : Chn} (ks : List Int) (al : List Entr) (s : Sta) (n t : Int) : Pu Tryz.prog G1 152 [kV C ks al, .iface 115 (.agg [vi n, vi t]), kS s] (vb (s.place == n)) := by
  have e : (s.place == n) = decide (s.place = n) := rfl; rw [e]; refine Qh 52 Tryz.func152 rfl rfl ?_
  repeat' ((conv => whnf); first | refine OpN.assert _ (hit115 _) ?_ | refine vv1 ?_ | refine vv21 ?_ | refine vv22 ?_)
  exact DoneN.pure rfl
theorem holds_copy {C : Chn} (hC : CB C) (ks : List Int) (al : List Entr) (s : Sta) (n t : Int) : Pu Tryz.prog G1 152 [kV C ks al, .iface 118 (.agg [vi n, vi t]), kS s] (vb (hasCopy C.es s.done n)) := by
  have h1 := copies_ok hC ks al (s := s); have h2 := has_ok hC s.done n; refine Qh 52 Tryz.func152 rfl rfl ?_
  repeat' ((conv => whnf); first | refine OpN.assert _ (miss118 _) ?_ | refine OpN.assert _ (hit118 _) ?_ | refine vv1 ?_ | refine vv2 ?_ | refine vv21 ?_ | refine vv22 ?_ | refine vv25 ?_ | refine Qd ?_ | refine Qg h1 ?_ | refine Qg h2 ?_)
  exact DoneN.pure rfl
theorem holds_hand {C : Chn} (hC : CB C) (ks : List Int) (al : List Entr) (s : Sta) (n t : Int) : Pu Tryz.prog G1 152 [kV C ks al, .iface 268 (.agg [vi n, vi t]), kS s] (vb (dutyP C.people n t && (s.place == n || hasCopy C.es s.done n))) := by
  have h0 := duty_ok C ks al n t (by have := hC.pl; omega) (fun p hp => by have := hC.du p hp; omega); have h1 := copies_ok hC ks al (s := s); have h2 := has_ok hC s.done n; have e : (s.place == n) = decide (s.place = n) := rfl; rw [e]
  cases hd : dutyP C.people n t with
  | false =>
    rw [hd] at h0; refine Qh 52 Tryz.func152 rfl rfl ?_
    repeat' ((conv => whnf); first | refine OpN.assert _ (miss268 _) ?_ | refine OpN.assert _ (miss268' _) ?_ | refine OpN.assert _ (hit268 _) ?_ | refine vv1 ?_ | refine vv2 ?_ | refine vv21 ?_ | refine vv22 ?_ | refine vv25 ?_ | refine Qd ?_ | refine Qg h0 ?_)
    exact DoneN.pure rfl
  | true =>
    rw [hd] at h0; by_cases hp : s.place = n
    · rw [decide_eq_true hp]; refine Qh 52 Tryz.func152 rfl rfl ?_
      repeat' ((conv => whnf); first | refine OpN.assert _ (miss268 _) ?_ | refine OpN.assert _ (miss268' _) ?_ | refine OpN.assert _ (hit268 _) ?_ | refine vv1 ?_ | refine vv2 ?_ | refine vv3 ?_ | refine vv21 ?_ | refine vv22 ?_ | refine vv25 ?_ | refine Qd ?_ | refine Qg h0 ?_)
      exact DoneN.pure rfl
    rw [decide_eq_false hp]; refine Qh 52 Tryz.func152 rfl rfl ?_
    repeat' ((conv => whnf); first | refine OpN.assert _ (miss268 _) ?_ | refine OpN.assert _ (miss268' _) ?_ | refine OpN.assert _ (hit268 _) ?_ | refine vv1 ?_ | refine vv2 ?_ | refine vv4 ?_ | refine vv21 ?_ | refine vv22 ?_ | refine vv25 ?_ | refine Qd ?_ | refine Qg h0 ?_ | refine Qg h1 ?_ | refine Qg h2 ?_)
    exact DoneN.pure rfl
theorem holds_ok {C : Chn} (hC : CB C) (ks : List Int) (al : List Entr) (s : Sta) (c : Cnd) : Pu Tryz.prog G1 152 [kV C ks al, cV c, kS s] (vb (holdsS C c s)) := by
  cases c with
  | place n t => exact holds_place ks al s n t
  | copy n t => exact holds_copy hC ks al s n t
  | hand n t => exact holds_hand hC ks al s n t
end
section
abbrev encQ (q : Spot) : List AV := [vi (q.st.done : Int), vi q.st.place, vi (q.st.gaps : Int), vi (q.seen : Int)]
abbrev encT (t : Trc) : List AV := [vi t.time, vi (t.frm.st.done : Int), vi t.frm.st.place, vi (t.frm.st.gaps : Int), vi (t.frm.seen : Int), vi t.move.entry, vi t.move.dst, vi t.move.time, vb t.moved]
theorem spot_conj (a b : Spot) : ((decide ((a.st.done : Int) = (b.st.done : Int)) && (decide (a.st.place = b.st.place) && decide ((a.st.gaps : Int) = (b.st.gaps : Int)))) && decide ((a.seen : Int) = (b.seen : Int))) = decide (a = b) := by
  rw [sta_conj, Bool.eq_iff_iff]; simp only [Bool.and_eq_true, decide_eq_true_eq]; constructor
  · rintro ⟨h1, h2⟩
    cases a; cases b
    simp only at h1 h2; congr 1; omega
  rintro rfl; exact ⟨rfl, rfl⟩
abbrev kQ (q : Spot) : AV := .agg (encQ q)
abbrev vT (l : List Trc) : AV := .agg (encT (l.getLast?.getD trc0))
theorem spot_eq (a b : Spot) : aeq Tryz.prog 12 202 (kQ a) (kQ b) = some (decide (a = b)) := by
  rw [← spot_conj]; exact aeqT_ok (tryd_okm 0 0) 12 202 _ _ _ rfl
theorem keyT : KeyOk Tryz.prog kQ vT 205 202 204 where
  und := Tryz.underlying205
  key := fun q => by kernel_rfl
  eq := spot_eq
  keep := fun q => by simp [akeep, acon, scs, Instr.sameBits]
  zero := by kernel_rfl
abbrev mT (gs : Fnd Spot Trc) : ABlk := vB kQ vT gs
theorem mT_blk (gs : Fnd Spot Trc) {σ : Nat → Nat} {n : Nat} : Blk σ n (mT gs) (mT gs) := vB_blk (fun _ _ _ => ⟨rfl, rfl⟩) (fun _ _ _ => ⟨rfl, rfl⟩) _
theorem mT_ok (gs : Fnd Spot Trc) (n : Nat) : (mT gs).ok n := vB_ok (fun _ _ _ => ⟨rfl, rfl⟩) (fun _ _ _ => ⟨rfl, rfl⟩) _ _
theorem mT_frz (gs : Fnd Spot Trc) (id : Nat) (rs : List (List AV)) : (mT gs).frz id rs = mT gs := vB_frz (fun _ _ _ => rfl) (fun _ _ _ => rfl) gs id rs
abbrev getT (gs : Fnd Spot Trc) (q : Spot) : Trc := (getG q gs).getD trc0
theorem lookT (gs : Fnd Spot Trc) (q : Spot) {H : AH} {m : Nat} (hm : H[m]? = some (mT gs)) : (alookup Tryz.prog H 205 (.mp m) (kQ q) false).map (fun y => (y, H)) = some (.agg (encT (getT gs q)), H) := keyT.look gs q hm
theorem lookT2 (gs : Fnd Spot Trc) (hf : Cu.Full gs) (q : Spot) {H : AH} {m : Nat} (hm : H[m]? = some (mT gs)) : (alookup Tryz.prog H 205 (.mp m) (kQ q) true).map (fun y => (y, H)) = some (.tuple [.agg (encT (getT gs q)), vb (getG q gs).isSome], H) := by
  rw [← hf.idx q]; exact keyT.look2 gs q hm
theorem updT (gs : Fnd Spot Trc) (q : Spot) (t : Trc) {H : AH} {m : Nat} (hm : H[m]? = some (mT gs)) : (amapUpdate Tryz.prog H 205 (.mp m) (kQ q) (.agg (encT t))).map (AV.any, ·) = some (.any, H.set m (mT (addG q t gs))) :=
  keyT.upd gs q t hm (by simp [vT])
abbrev conds (l : List Cnd) : AV := .sl 1 false (l.map fun c => [cV c])
abbrev spts (l : List Spot) : AV := .sl 4 false (l.map encQ)
abbrev fl82 (C : Chn) (ks : List Int) (al : List Entr) (cs : List Cnd) (q : Spot) (now : Int) (L : List Spot) (k : Nat) : Fr := [(0, kV C ks al), (1, conds cs), (6, .pm 1 0 0), (8, .pm 2 0 0), (10, .pm 4 0 0), (24, spts L), (25, vi L.length), (26, vi k), (52, .fn (.func 183) [] [.pi (encQ q), .pi [conds cs], .pi [kV C ks al], .pi [vi now]])]
noncomputable abbrev lp82 (fl : Fr) : ABlk := .loop .ready none (frm 0 fl 81) #[53, 54] (asF Tryz.f82) (bdF Tryz.f82)
def R82a (C : Chn) (ks : List Int) (al : List Entr) (cs : List Cnd) (q : Spot) (now : Int) (L : List Spot) (k : Nat) (bY bL : ABlk) (gs' : Fnd Spot Trc) (N' : List Spot) (H' : AH) : Prop := (∃ z, H' = [mT gs', .rows [[.mp 0]] 205, .rows [[.sm 6 4 0 (N').length]] 206, .dead, .rows [encQ q] 202, lp82 (fl82 C ks al cs q now L k), .rows ((N').map encQ) 202, bY, bL] ++ z) ∨ ∃ a b c, H' = [mT gs', .rows [[.mp 0]] 205, .rows [[.sm 12 4 0 (N').length]] 206, .dead, .rows [encQ q] 202, lp82 (fl82 C ks al cs q now L k), .dead, bY, bL] ++ [a, b, c, .rows (N'.map encQ) 202]
theorem r82a (C : Chn) (ks : List Int) (al : List Entr) (cs : List Cnd) (q : Spot) (now : Int) (L : List Spot) (k : Nat) (gs : Fnd Spot Trc) (N : List Spot) (hf : Cu.Full gs) (hN : N.length ≤ 100000) (w : Spot × Trc) (bY bL : ABlk) :
    Rnd 5 [.agg (encQ w.1), .agg (encT w.2)] [mT gs, .rows [[.mp 0]] 205, .rows [[.sm 6 4 0 (N).length]] 206, .dead, .rows [encQ q] 202, lp82 (fl82 C ks al cs q now L k), .rows ((N).map encQ) 202, bY, bL] fun y H' => y = vb true ∧ R82a C ks al cs q now L k bY bL (relax Trc.time (gs, N) w).1 (relax Trc.time (gs, N) w).2 H' := by
  have l2 := fun H m hm => lookT2 (H := H) (m := m) gs hf w.1 hm
  unfold relax
  cases hg : getG w.1 gs with
  | none =>
    rw [hg] at l2; simp only; refine ⟨_, _, _, _, _, _, rfl, rfl, ?_⟩
    (conv => whnf); repeat' (first | refine StepN.keep _ (l2 _ _ rfl) ?_ | refine StepN.mk .any _ (updT _ w.1 w.2 rfl) ?_ | refine vv1 ?_ | refine vv21 ?_ | refine vv22 ?_ | refine vv31 ?_ | refine vv33 ?_) <;> conv => whnf
    have e1 : (N ++ [w.1]).map encQ = N.map encQ ++ [encQ w.1] := List.map_append; have e2 : (N ++ [w.1]).length = N.length + 1 := by simp
    refine ⟨rfl, .inr ⟨.rows [encQ w.1] 202, .rows [encT w.2] 204, .rows [encT (getT gs w.1)] 204, ?_⟩⟩; rw [e1, e2]; rfl
  | some t0 =>
    have ht : getT gs w.1 = t0 := by rw [getT, hg]; rfl
    rw [hg, ht] at l2; simp only; by_cases hlt : w.2.time < t0.time
    · rw [if_pos hlt]; refine ⟨_, _, _, _, _, _, rfl, rfl, ?_⟩
      (conv => whnf); repeat' (first | refine StepN.keep _ (l2 _ _ rfl) ?_ | refine StepN.mk .any _ (updT _ w.1 w.2 rfl) ?_ | refine vv2 ?_ | refine vv3 ?_ | refine vv21 ?_ | refine vv22 ?_) <;> conv => whnf
      exact ⟨rfl, .inl ⟨_, rfl⟩⟩
    rw [if_neg hlt]; refine ⟨_, _, _, _, _, _, rfl, rfl, ?_⟩
    (conv => whnf); repeat' (first | refine StepN.keep _ (l2 _ _ rfl) ?_ | refine vv2 ?_ | refine vv4 ?_ | refine vv21 ?_ | refine vv22 ?_) <;> conv => whnf
    exact ⟨rfl, .inl ⟨_, rfl⟩⟩
def R82b2 (C : Chn) (ks : List Int) (al : List Entr) (cs : List Cnd) (q : Spot) (now : Int) (L : List Spot) (k : Nat) (bY bL bLP bA bB bS : ABlk) (gs' : Fnd Spot Trc) (N' : List Spot) (H' : AH) : Prop := (∃ z, H' = [mT gs', .rows [[.mp 0]] 205, .rows [[.sm 6 4 0 (N').length]] 206, .dead, .rows [encQ q] 202, lp82 (fl82 C ks al cs q now L k), .rows ((N').map encQ) 202, bY, bL, bLP, bA, bB, bS] ++ z) ∨ ∃ a b c, H' = [mT gs', .rows [[.mp 0]] 205, .rows [[.sm 16 4 0 (N').length]] 206, .dead, .rows [encQ q] 202, lp82 (fl82 C ks al cs q now L k), .dead, bY, bL, bLP, bA, bB, bS] ++ [a, b, c, .rows (N'.map encQ) 202]
theorem r82b2 (C : Chn) (ks : List Int) (al : List Entr) (cs : List Cnd) (q : Spot) (now : Int) (L : List Spot) (k : Nat) (gs : Fnd Spot Trc) (N : List Spot) (hf : Cu.Full gs) (hN : N.length ≤ 100000) (w : Spot × Trc) (bY bL bLP bA bB bS : ABlk) :
    Rnd 5 [.agg (encQ w.1), .agg (encT w.2)] [mT gs, .rows [[.mp 0]] 205, .rows [[.sm 6 4 0 (N).length]] 206, .dead, .rows [encQ q] 202, lp82 (fl82 C ks al cs q now L k), .rows ((N).map encQ) 202, bY, bL, bLP, bA, bB, bS] fun y H' => y = vb true ∧ R82b2 C ks al cs q now L k bY bL bLP bA bB bS (relax Trc.time (gs, N) w).1 (relax Trc.time (gs, N) w).2 H' := by
  have l2 := fun H m hm => lookT2 (H := H) (m := m) gs hf w.1 hm
  unfold relax
  cases hg : getG w.1 gs with
  | none =>
    rw [hg] at l2; simp only; refine ⟨_, _, _, _, _, _, rfl, rfl, ?_⟩
    (conv => whnf); repeat' (first | refine StepN.keep _ (l2 _ _ rfl) ?_ | refine StepN.mk .any _ (updT _ w.1 w.2 rfl) ?_ | refine vv1 ?_ | refine vv21 ?_ | refine vv22 ?_ | refine vv31 ?_ | refine vv33 ?_) <;> conv => whnf
    have e1 : (N ++ [w.1]).map encQ = N.map encQ ++ [encQ w.1] := List.map_append; have e2 : (N ++ [w.1]).length = N.length + 1 := by simp
    refine ⟨rfl, .inr ⟨.rows [encQ w.1] 202, .rows [encT w.2] 204, .rows [encT (getT gs w.1)] 204, ?_⟩⟩; rw [e1, e2]; rfl
  | some t0 =>
    have ht : getT gs w.1 = t0 := by rw [getT, hg]; rfl
    rw [hg, ht] at l2; simp only; by_cases hlt : w.2.time < t0.time
    · rw [if_pos hlt]; refine ⟨_, _, _, _, _, _, rfl, rfl, ?_⟩
      (conv => whnf); repeat' (first | refine StepN.keep _ (l2 _ _ rfl) ?_ | refine StepN.mk .any _ (updT _ w.1 w.2 rfl) ?_ | refine vv2 ?_ | refine vv3 ?_ | refine vv21 ?_ | refine vv22 ?_) <;> conv => whnf
      exact ⟨rfl, .inl ⟨_, rfl⟩⟩
    rw [if_neg hlt]; refine ⟨_, _, _, _, _, _, rfl, rfl, ?_⟩
    (conv => whnf); repeat' (first | refine StepN.keep _ (l2 _ _ rfl) ?_ | refine vv2 ?_ | refine vv4 ?_ | refine vv21 ?_ | refine vv22 ?_) <;> conv => whnf
    exact ⟨rfl, .inl ⟨_, rfl⟩⟩
def R82b1 (C : Chn) (ks : List Int) (al : List Entr) (cs : List Cnd) (q : Spot) (now : Int) (L : List Spot) (k : Nat) (bY bL bLP bA bS : ABlk) (gs' : Fnd Spot Trc) (N' : List Spot) (H' : AH) : Prop := (∃ z, H' = [mT gs', .rows [[.mp 0]] 205, .rows [[.sm 6 4 0 (N').length]] 206, .dead, .rows [encQ q] 202, lp82 (fl82 C ks al cs q now L k), .rows ((N').map encQ) 202, bY, bL, bLP, bA, bS] ++ z) ∨ ∃ a b c, H' = [mT gs', .rows [[.mp 0]] 205, .rows [[.sm 15 4 0 (N').length]] 206, .dead, .rows [encQ q] 202, lp82 (fl82 C ks al cs q now L k), .dead, bY, bL, bLP, bA, bS] ++ [a, b, c, .rows (N'.map encQ) 202]
theorem r82b1 (C : Chn) (ks : List Int) (al : List Entr) (cs : List Cnd) (q : Spot) (now : Int) (L : List Spot) (k : Nat) (gs : Fnd Spot Trc) (N : List Spot) (hf : Cu.Full gs) (hN : N.length ≤ 100000) (w : Spot × Trc) (bY bL bLP bA bS : ABlk) :
    Rnd 5 [.agg (encQ w.1), .agg (encT w.2)] [mT gs, .rows [[.mp 0]] 205, .rows [[.sm 6 4 0 (N).length]] 206, .dead, .rows [encQ q] 202, lp82 (fl82 C ks al cs q now L k), .rows ((N).map encQ) 202, bY, bL, bLP, bA, bS] fun y H' => y = vb true ∧ R82b1 C ks al cs q now L k bY bL bLP bA bS (relax Trc.time (gs, N) w).1 (relax Trc.time (gs, N) w).2 H' := by
  have l2 := fun H m hm => lookT2 (H := H) (m := m) gs hf w.1 hm
  unfold relax
  cases hg : getG w.1 gs with
  | none =>
    rw [hg] at l2; simp only; refine ⟨_, _, _, _, _, _, rfl, rfl, ?_⟩
    (conv => whnf); repeat' (first | refine StepN.keep _ (l2 _ _ rfl) ?_ | refine StepN.mk .any _ (updT _ w.1 w.2 rfl) ?_ | refine vv1 ?_ | refine vv21 ?_ | refine vv22 ?_ | refine vv31 ?_ | refine vv33 ?_) <;> conv => whnf
    have e1 : (N ++ [w.1]).map encQ = N.map encQ ++ [encQ w.1] := List.map_append; have e2 : (N ++ [w.1]).length = N.length + 1 := by simp
    refine ⟨rfl, .inr ⟨.rows [encQ w.1] 202, .rows [encT w.2] 204, .rows [encT (getT gs w.1)] 204, ?_⟩⟩; rw [e1, e2]; rfl
  | some t0 =>
    have ht : getT gs w.1 = t0 := by rw [getT, hg]; rfl
    rw [hg, ht] at l2; simp only; by_cases hlt : w.2.time < t0.time
    · rw [if_pos hlt]; refine ⟨_, _, _, _, _, _, rfl, rfl, ?_⟩
      (conv => whnf); repeat' (first | refine StepN.keep _ (l2 _ _ rfl) ?_ | refine StepN.mk .any _ (updT _ w.1 w.2 rfl) ?_ | refine vv2 ?_ | refine vv3 ?_ | refine vv21 ?_ | refine vv22 ?_) <;> conv => whnf
      exact ⟨rfl, .inl ⟨_, rfl⟩⟩
    rw [if_neg hlt]; refine ⟨_, _, _, _, _, _, rfl, rfl, ?_⟩
    (conv => whnf); repeat' (first | refine StepN.keep _ (l2 _ _ rfl) ?_ | refine vv2 ?_ | refine vv4 ?_ | refine vv21 ?_ | refine vv22 ?_) <;> conv => whnf
    exact ⟨rfl, .inl ⟨_, rfl⟩⟩
def R82c2 (C : Chn) (ks : List Int) (al : List Entr) (cs : List Cnd) (q : Spot) (now : Int) (L : List Spot) (k : Nat) (bY bL bLP bA bB bS : ABlk) (gs' : Fnd Spot Trc) (N' : List Spot) (H' : AH) : Prop := (∃ z, H' = [mT gs', .rows [[.mp 0]] 205, .rows [[.sm 10 4 0 (N').length]] 206, .dead, .rows [encQ q] 202, lp82 (fl82 C ks al cs q now L k), .dead, bY, bL, bLP, .rows ((N').map encQ) 202, bA, bB, bS] ++ z) ∨ ∃ a b c, H' = [mT gs', .rows [[.mp 0]] 205, .rows [[.sm 17 4 0 (N').length]] 206, .dead, .rows [encQ q] 202, lp82 (fl82 C ks al cs q now L k), .dead, bY, bL, bLP, .dead, bA, bB, bS] ++ [a, b, c, .rows (N'.map encQ) 202]
theorem r82c2 (C : Chn) (ks : List Int) (al : List Entr) (cs : List Cnd) (q : Spot) (now : Int) (L : List Spot) (k : Nat) (gs : Fnd Spot Trc) (N : List Spot) (hf : Cu.Full gs) (hN : N.length ≤ 100000) (w : Spot × Trc) (bY bL bLP bA bB bS : ABlk) :
    Rnd 5 [.agg (encQ w.1), .agg (encT w.2)] [mT gs, .rows [[.mp 0]] 205, .rows [[.sm 10 4 0 (N).length]] 206, .dead, .rows [encQ q] 202, lp82 (fl82 C ks al cs q now L k), .dead, bY, bL, bLP, .rows ((N).map encQ) 202, bA, bB, bS] fun y H' => y = vb true ∧ R82c2 C ks al cs q now L k bY bL bLP bA bB bS (relax Trc.time (gs, N) w).1 (relax Trc.time (gs, N) w).2 H' := by
  have l2 := fun H m hm => lookT2 (H := H) (m := m) gs hf w.1 hm
  unfold relax
  cases hg : getG w.1 gs with
  | none =>
    rw [hg] at l2; simp only; refine ⟨_, _, _, _, _, _, rfl, rfl, ?_⟩
    (conv => whnf); repeat' (first | refine StepN.keep _ (l2 _ _ rfl) ?_ | refine StepN.mk .any _ (updT _ w.1 w.2 rfl) ?_ | refine vv1 ?_ | refine vv21 ?_ | refine vv22 ?_ | refine vv31 ?_ | refine vv33 ?_) <;> conv => whnf
    have e1 : (N ++ [w.1]).map encQ = N.map encQ ++ [encQ w.1] := List.map_append; have e2 : (N ++ [w.1]).length = N.length + 1 := by simp
    refine ⟨rfl, .inr ⟨.rows [encQ w.1] 202, .rows [encT w.2] 204, .rows [encT (getT gs w.1)] 204, ?_⟩⟩; rw [e1, e2]; rfl
  | some t0 =>
    have ht : getT gs w.1 = t0 := by rw [getT, hg]; rfl
    rw [hg, ht] at l2; simp only; by_cases hlt : w.2.time < t0.time
    · rw [if_pos hlt]; refine ⟨_, _, _, _, _, _, rfl, rfl, ?_⟩
      (conv => whnf); repeat' (first | refine StepN.keep _ (l2 _ _ rfl) ?_ | refine StepN.mk .any _ (updT _ w.1 w.2 rfl) ?_ | refine vv2 ?_ | refine vv3 ?_ | refine vv21 ?_ | refine vv22 ?_) <;> conv => whnf
      exact ⟨rfl, .inl ⟨_, rfl⟩⟩
    rw [if_neg hlt]; refine ⟨_, _, _, _, _, _, rfl, rfl, ?_⟩
    (conv => whnf); repeat' (first | refine StepN.keep _ (l2 _ _ rfl) ?_ | refine vv2 ?_ | refine vv4 ?_ | refine vv21 ?_ | refine vv22 ?_) <;> conv => whnf
    exact ⟨rfl, .inl ⟨_, rfl⟩⟩
def R82c1 (C : Chn) (ks : List Int) (al : List Entr) (cs : List Cnd) (q : Spot) (now : Int) (L : List Spot) (k : Nat) (bY bL bLP bA bS : ABlk) (gs' : Fnd Spot Trc) (N' : List Spot) (H' : AH) : Prop := (∃ z, H' = [mT gs', .rows [[.mp 0]] 205, .rows [[.sm 10 4 0 (N').length]] 206, .dead, .rows [encQ q] 202, lp82 (fl82 C ks al cs q now L k), .dead, bY, bL, bLP, .rows ((N').map encQ) 202, bA, bS] ++ z) ∨ ∃ a b c, H' = [mT gs', .rows [[.mp 0]] 205, .rows [[.sm 16 4 0 (N').length]] 206, .dead, .rows [encQ q] 202, lp82 (fl82 C ks al cs q now L k), .dead, bY, bL, bLP, .dead, bA, bS] ++ [a, b, c, .rows (N'.map encQ) 202]
theorem r82c1 (C : Chn) (ks : List Int) (al : List Entr) (cs : List Cnd) (q : Spot) (now : Int) (L : List Spot) (k : Nat) (gs : Fnd Spot Trc) (N : List Spot) (hf : Cu.Full gs) (hN : N.length ≤ 100000) (w : Spot × Trc) (bY bL bLP bA bS : ABlk) :
    Rnd 5 [.agg (encQ w.1), .agg (encT w.2)] [mT gs, .rows [[.mp 0]] 205, .rows [[.sm 10 4 0 (N).length]] 206, .dead, .rows [encQ q] 202, lp82 (fl82 C ks al cs q now L k), .dead, bY, bL, bLP, .rows ((N).map encQ) 202, bA, bS] fun y H' => y = vb true ∧ R82c1 C ks al cs q now L k bY bL bLP bA bS (relax Trc.time (gs, N) w).1 (relax Trc.time (gs, N) w).2 H' := by
  have l2 := fun H m hm => lookT2 (H := H) (m := m) gs hf w.1 hm
  unfold relax
  cases hg : getG w.1 gs with
  | none =>
    rw [hg] at l2; simp only; refine ⟨_, _, _, _, _, _, rfl, rfl, ?_⟩
    (conv => whnf); repeat' (first | refine StepN.keep _ (l2 _ _ rfl) ?_ | refine StepN.mk .any _ (updT _ w.1 w.2 rfl) ?_ | refine vv1 ?_ | refine vv21 ?_ | refine vv22 ?_ | refine vv31 ?_ | refine vv33 ?_) <;> conv => whnf
    have e1 : (N ++ [w.1]).map encQ = N.map encQ ++ [encQ w.1] := List.map_append; have e2 : (N ++ [w.1]).length = N.length + 1 := by simp
    refine ⟨rfl, .inr ⟨.rows [encQ w.1] 202, .rows [encT w.2] 204, .rows [encT (getT gs w.1)] 204, ?_⟩⟩; rw [e1, e2]; rfl
  | some t0 =>
    have ht : getT gs w.1 = t0 := by rw [getT, hg]; rfl
    rw [hg, ht] at l2; simp only; by_cases hlt : w.2.time < t0.time
    · rw [if_pos hlt]; refine ⟨_, _, _, _, _, _, rfl, rfl, ?_⟩
      (conv => whnf); repeat' (first | refine StepN.keep _ (l2 _ _ rfl) ?_ | refine StepN.mk .any _ (updT _ w.1 w.2 rfl) ?_ | refine vv2 ?_ | refine vv3 ?_ | refine vv21 ?_ | refine vv22 ?_) <;> conv => whnf
      exact ⟨rfl, .inl ⟨_, rfl⟩⟩
    rw [if_neg hlt]; refine ⟨_, _, _, _, _, _, rfl, rfl, ?_⟩
    (conv => whnf); repeat' (first | refine StepN.keep _ (l2 _ _ rfl) ?_ | refine vv2 ?_ | refine vv4 ?_ | refine vv21 ?_ | refine vv22 ?_) <;> conv => whnf
    exact ⟨rfl, .inl ⟨_, rfl⟩⟩
end
section
abbrev fl183 (C : Chn) (ks : List Int) (al : List Entr) (cs : List Cnd) (q : Spot) (now : Int) : Fr := [(1, .pi (encQ q)), (2, .pi [conds cs]), (3, .pi [kV C ks al]), (4, .pi [vi now]), (5, .pm 7 0 0), (6, .pm 8 0 0), (46, .fn (.func 179) [] [.pi [kV C ks al], .pi (encSta q.st)])]
noncomputable abbrev lp183 (fl : Fr) : ABlk := .loop .ready none (frm 0 fl 79) #[47] (asF Tryz.f183) (bdF Tryz.f183)
structure Env where
  C : Chn
  ks : List Int
  al : List Entr
  cs : List Cnd
  q : Spot
  now : Int
  last : Int
  L : List Spot
  k : Nat
noncomputable abbrev hW0 (e : Env) (gs : Fnd Spot Trc) (N : List Spot) : AH := [mT gs, .rows [[.mp 0]] 205, .rows [[.sm 6 4 0 N.length]] 206, .dead, .rows [encQ e.q] 202, lp82 (fl82 e.C e.ks e.al e.cs e.q e.now e.L e.k), .rows (N.map encQ) 202, .rows [[.yl 5]] 255, .rows [[vi e.last]] 3, lp183 (fl183 e.C e.ks e.al e.cs e.q e.now)]
noncomputable abbrev hW1 (e : Env) (gs : Fnd Spot Trc) (N : List Spot) : AH := [mT gs, .rows [[.mp 0]] 205, .rows [[.sm 10 4 0 N.length]] 206, .dead, .rows [encQ e.q] 202, lp82 (fl82 e.C e.ks e.al e.cs e.q e.now e.L e.k), .dead, .rows [[.yl 5]] 255, .rows [[vi e.last]] 3, lp183 (fl183 e.C e.ks e.al e.cs e.q e.now), .rows (N.map encQ) 202]
structure StW where
  gs : Fnd Spot Trc
  N : List Spot
  b : Bool
noncomputable def hW (e : Env) (st : StW) : AH := match st.b with
  | false => hW0 e st.gs st.N
  | true => hW1 e st.gs st.N
def mvW (e : Env) (x : Cu.Stp) (st : Fnd Spot Trc × List Spot) : Fnd Spot Trc × List Spot := (moveL e.q e.now e.last x).foldl (relax Trc.time) st
theorem round183_02 (e : Env) (gs : Fnd Spot Trc) (N : List Spot) (hf : Cu.Full gs) (hN : N.length ≤ 100000) (x : Cu.Stp) (A B : ABlk) (Q : AV → AH → Prop)
    (hQ : ∀ H' b, ReH 10 H' (hW e ⟨(mvW e x (gs, N)).1, (mvW e x (gs, N)).2, b⟩) → Q (vb true) H') :
    Rnd 9 [.agg (encStp x)] (hW0 e gs N ++ [A, B]) Q := by
  obtain ⟨C, ks, al, cs, q, now, last, L, k⟩ := e; unfold mvW moveL at hQ; simp only at hQ; by_cases hhi : min last x.at_.hi < max now x.at_.lo
  · rw [if_pos hhi] at hQ; refine ⟨_, _, _, _, _, _, rfl, rfl, ?_⟩
    (conv => whnf); repeat' (first | refine vv3 ?_ | refine vv21 ?_ | refine vv22 ?_) <;> conv => whnf
    refine hQ _ false ?_; show ReH 10 _ (hW0 ⟨C, ks, al, cs, q, now, last, L, k⟩ gs N); exact ReH.ids [0, 1, 2, 3, 4, 5, 6, 7, 8, 9] (by exact ⟨⟨_, rfl, mT_blk _, fun _ => rfl⟩, ⟨_, rfl, blkOk rfl rfl, fun _ => rfl⟩, ⟨_, rfl, blkOk rfl rfl, fun _ => rfl⟩, ⟨_, rfl, blkDead, fun h => (by cases h)⟩, ⟨_, rfl, blkDeep rfl (deepLit rfl), fun _ => rfl⟩, ⟨_, rfl, blkLoop rfl rfl, fun _ => rfl⟩, ⟨_, rfl, blkDeep rfl (deepMap (fun _ => rfl)), fun _ => rfl⟩, ⟨_, rfl, blkOk rfl rfl, fun _ => rfl⟩, ⟨_, rfl, blkOk rfl rfl, fun _ => rfl⟩, ⟨_, rfl, blkLoop rfl rfl, fun _ => rfl⟩, trivial⟩) rfl rfl
  rw [if_neg hhi] at hQ; simp only [List.foldl_cons, List.foldl_nil] at hQ; have hrd := r82b2 C ks al cs q now L k gs N hf hN (⟨x.to_, q.seen⟩, ⟨max now x.at_.lo, q, ⟨x.entry, x.dst, max now x.at_.lo⟩, true⟩); generalize relax Trc.time (gs, N) (⟨x.to_, q.seen⟩, ⟨max now x.at_.lo, q, ⟨x.entry, x.dst, max now x.at_.lo⟩, true⟩) = st at *; obtain ⟨gs', N'⟩ := st; refine ⟨_, _, _, _, _, _, rfl, rfl, ?_⟩
  (conv => whnf); repeat' (first | refine OpN.round (tryd_okr _ _ _) rfl (hrd _ _ _ A B _) ?_ | refine vv4 ?_ | refine vv21 ?_ | refine vv22 ?_) <;> conv => whnf
  rintro y H' ⟨rfl, ⟨z, rfl⟩ | ⟨a, b, c, rfl⟩⟩
  · (conv => whnf); repeat' (first | refine vv2 ?_) <;> conv => whnf
    refine hQ _ false ?_; show ReH 10 _ (hW0 ⟨C, ks, al, cs, q, now, last, L, k⟩ gs' N'); exact ReH.ids [0, 1, 2, 3, 4, 5, 6, 7, 8, 9] (by exact ⟨⟨_, rfl, mT_blk _, fun _ => rfl⟩, ⟨_, rfl, blkOk rfl rfl, fun _ => rfl⟩, ⟨_, rfl, blkOk rfl rfl, fun _ => rfl⟩, ⟨_, rfl, blkDead, fun h => (by cases h)⟩, ⟨_, rfl, blkDeep rfl (deepLit rfl), fun _ => rfl⟩, ⟨_, rfl, blkLoop rfl rfl, fun _ => rfl⟩, ⟨_, rfl, blkDeep rfl (deepMap (fun _ => rfl)), fun _ => rfl⟩, ⟨_, rfl, blkOk rfl rfl, fun _ => rfl⟩, ⟨_, rfl, blkOk rfl rfl, fun _ => rfl⟩, ⟨_, rfl, blkLoop rfl rfl, fun _ => rfl⟩, trivial⟩) rfl rfl
  (conv => whnf); repeat' (first | refine vv2 ?_) <;> conv => whnf
  refine hQ _ true ?_; show ReH 10 _ (hW1 ⟨C, ks, al, cs, q, now, last, L, k⟩ gs' N'); exact ReH.ids [0, 1, 2, 3, 4, 5, 6, 7, 8, 9, 16] (by exact ⟨⟨_, rfl, mT_blk _, fun _ => rfl⟩, ⟨_, rfl, blkOk rfl rfl, fun _ => rfl⟩, ⟨_, rfl, blkOk rfl rfl, fun _ => rfl⟩, ⟨_, rfl, blkDead, fun h => (by cases h)⟩, ⟨_, rfl, blkDeep rfl (deepLit rfl), fun _ => rfl⟩, ⟨_, rfl, blkLoop rfl rfl, fun _ => rfl⟩, ⟨_, rfl, blkDead, fun h => (by cases h)⟩, ⟨_, rfl, blkOk rfl rfl, fun _ => rfl⟩, ⟨_, rfl, blkOk rfl rfl, fun _ => rfl⟩, ⟨_, rfl, blkLoop rfl rfl, fun _ => rfl⟩, ⟨_, rfl, blkDeep rfl (deepMap (fun _ => rfl)), fun _ => rfl⟩, trivial⟩) rfl rfl
theorem round183_01 (e : Env) (gs : Fnd Spot Trc) (N : List Spot) (hf : Cu.Full gs) (hN : N.length ≤ 100000) (x : Cu.Stp) (A : ABlk) (Q : AV → AH → Prop)
    (hQ : ∀ H' b, ReH 10 H' (hW e ⟨(mvW e x (gs, N)).1, (mvW e x (gs, N)).2, b⟩) → Q (vb true) H') :
    Rnd 9 [.agg (encStp x)] (hW0 e gs N ++ [A]) Q := by
  obtain ⟨C, ks, al, cs, q, now, last, L, k⟩ := e; unfold mvW moveL at hQ; simp only at hQ; by_cases hhi : min last x.at_.hi < max now x.at_.lo
  · rw [if_pos hhi] at hQ; refine ⟨_, _, _, _, _, _, rfl, rfl, ?_⟩
    (conv => whnf); repeat' (first | refine vv3 ?_ | refine vv21 ?_ | refine vv22 ?_) <;> conv => whnf
    refine hQ _ false ?_; show ReH 10 _ (hW0 ⟨C, ks, al, cs, q, now, last, L, k⟩ gs N); exact ReH.ids [0, 1, 2, 3, 4, 5, 6, 7, 8, 9] (by exact ⟨⟨_, rfl, mT_blk _, fun _ => rfl⟩, ⟨_, rfl, blkOk rfl rfl, fun _ => rfl⟩, ⟨_, rfl, blkOk rfl rfl, fun _ => rfl⟩, ⟨_, rfl, blkDead, fun h => (by cases h)⟩, ⟨_, rfl, blkDeep rfl (deepLit rfl), fun _ => rfl⟩, ⟨_, rfl, blkLoop rfl rfl, fun _ => rfl⟩, ⟨_, rfl, blkDeep rfl (deepMap (fun _ => rfl)), fun _ => rfl⟩, ⟨_, rfl, blkOk rfl rfl, fun _ => rfl⟩, ⟨_, rfl, blkOk rfl rfl, fun _ => rfl⟩, ⟨_, rfl, blkLoop rfl rfl, fun _ => rfl⟩, trivial⟩) rfl rfl
  rw [if_neg hhi] at hQ; simp only [List.foldl_cons, List.foldl_nil] at hQ; have hrd := r82b1 C ks al cs q now L k gs N hf hN (⟨x.to_, q.seen⟩, ⟨max now x.at_.lo, q, ⟨x.entry, x.dst, max now x.at_.lo⟩, true⟩); generalize relax Trc.time (gs, N) (⟨x.to_, q.seen⟩, ⟨max now x.at_.lo, q, ⟨x.entry, x.dst, max now x.at_.lo⟩, true⟩) = st at *; obtain ⟨gs', N'⟩ := st; refine ⟨_, _, _, _, _, _, rfl, rfl, ?_⟩
  (conv => whnf); repeat' (first | refine OpN.round (tryd_okr _ _ _) rfl (hrd _ _ _ A _) ?_ | refine vv4 ?_ | refine vv21 ?_ | refine vv22 ?_) <;> conv => whnf
  rintro y H' ⟨rfl, ⟨z, rfl⟩ | ⟨a, b, c, rfl⟩⟩
  · (conv => whnf); repeat' (first | refine vv2 ?_) <;> conv => whnf
    refine hQ _ false ?_; show ReH 10 _ (hW0 ⟨C, ks, al, cs, q, now, last, L, k⟩ gs' N'); exact ReH.ids [0, 1, 2, 3, 4, 5, 6, 7, 8, 9] (by exact ⟨⟨_, rfl, mT_blk _, fun _ => rfl⟩, ⟨_, rfl, blkOk rfl rfl, fun _ => rfl⟩, ⟨_, rfl, blkOk rfl rfl, fun _ => rfl⟩, ⟨_, rfl, blkDead, fun h => (by cases h)⟩, ⟨_, rfl, blkDeep rfl (deepLit rfl), fun _ => rfl⟩, ⟨_, rfl, blkLoop rfl rfl, fun _ => rfl⟩, ⟨_, rfl, blkDeep rfl (deepMap (fun _ => rfl)), fun _ => rfl⟩, ⟨_, rfl, blkOk rfl rfl, fun _ => rfl⟩, ⟨_, rfl, blkOk rfl rfl, fun _ => rfl⟩, ⟨_, rfl, blkLoop rfl rfl, fun _ => rfl⟩, trivial⟩) rfl rfl
  (conv => whnf); repeat' (first | refine vv2 ?_) <;> conv => whnf
  refine hQ _ true ?_; show ReH 10 _ (hW1 ⟨C, ks, al, cs, q, now, last, L, k⟩ gs' N'); exact ReH.ids [0, 1, 2, 3, 4, 5, 6, 7, 8, 9, 15] (by exact ⟨⟨_, rfl, mT_blk _, fun _ => rfl⟩, ⟨_, rfl, blkOk rfl rfl, fun _ => rfl⟩, ⟨_, rfl, blkOk rfl rfl, fun _ => rfl⟩, ⟨_, rfl, blkDead, fun h => (by cases h)⟩, ⟨_, rfl, blkDeep rfl (deepLit rfl), fun _ => rfl⟩, ⟨_, rfl, blkLoop rfl rfl, fun _ => rfl⟩, ⟨_, rfl, blkDead, fun h => (by cases h)⟩, ⟨_, rfl, blkOk rfl rfl, fun _ => rfl⟩, ⟨_, rfl, blkOk rfl rfl, fun _ => rfl⟩, ⟨_, rfl, blkLoop rfl rfl, fun _ => rfl⟩, ⟨_, rfl, blkDeep rfl (deepMap (fun _ => rfl)), fun _ => rfl⟩, trivial⟩) rfl rfl
theorem round183_12 (e : Env) (gs : Fnd Spot Trc) (N : List Spot) (hf : Cu.Full gs) (hN : N.length ≤ 100000) (x : Cu.Stp) (A B : ABlk) (Q : AV → AH → Prop)
    (hQ : ∀ H' b, ReH 10 H' (hW e ⟨(mvW e x (gs, N)).1, (mvW e x (gs, N)).2, b⟩) → Q (vb true) H') :
    Rnd 9 [.agg (encStp x)] (hW1 e gs N ++ [A, B]) Q := by
  obtain ⟨C, ks, al, cs, q, now, last, L, k⟩ := e; unfold mvW moveL at hQ; simp only at hQ; by_cases hhi : min last x.at_.hi < max now x.at_.lo
  · rw [if_pos hhi] at hQ; refine ⟨_, _, _, _, _, _, rfl, rfl, ?_⟩
    (conv => whnf); repeat' (first | refine vv3 ?_ | refine vv21 ?_ | refine vv22 ?_) <;> conv => whnf
    refine hQ _ true ?_; show ReH 10 _ (hW1 ⟨C, ks, al, cs, q, now, last, L, k⟩ gs N); exact ReH.ids [0, 1, 2, 3, 4, 5, 6, 7, 8, 9, 10] (by exact ⟨⟨_, rfl, mT_blk _, fun _ => rfl⟩, ⟨_, rfl, blkOk rfl rfl, fun _ => rfl⟩, ⟨_, rfl, blkOk rfl rfl, fun _ => rfl⟩, ⟨_, rfl, blkDead, fun h => (by cases h)⟩, ⟨_, rfl, blkDeep rfl (deepLit rfl), fun _ => rfl⟩, ⟨_, rfl, blkLoop rfl rfl, fun _ => rfl⟩, ⟨_, rfl, blkDead, fun h => (by cases h)⟩, ⟨_, rfl, blkOk rfl rfl, fun _ => rfl⟩, ⟨_, rfl, blkOk rfl rfl, fun _ => rfl⟩, ⟨_, rfl, blkLoop rfl rfl, fun _ => rfl⟩, ⟨_, rfl, blkDeep rfl (deepMap (fun _ => rfl)), fun _ => rfl⟩, trivial⟩) rfl rfl
  rw [if_neg hhi] at hQ; simp only [List.foldl_cons, List.foldl_nil] at hQ; have hrd := r82c2 C ks al cs q now L k gs N hf hN (⟨x.to_, q.seen⟩, ⟨max now x.at_.lo, q, ⟨x.entry, x.dst, max now x.at_.lo⟩, true⟩); generalize relax Trc.time (gs, N) (⟨x.to_, q.seen⟩, ⟨max now x.at_.lo, q, ⟨x.entry, x.dst, max now x.at_.lo⟩, true⟩) = st at *; obtain ⟨gs', N'⟩ := st; refine ⟨_, _, _, _, _, _, rfl, rfl, ?_⟩
  (conv => whnf); repeat' (first | refine OpN.round (tryd_okr _ _ _) rfl (hrd _ _ _ A B _) ?_ | refine vv4 ?_ | refine vv21 ?_ | refine vv22 ?_) <;> conv => whnf
  rintro y H' ⟨rfl, ⟨z, rfl⟩ | ⟨a, b, c, rfl⟩⟩
  · (conv => whnf); repeat' (first | refine vv2 ?_) <;> conv => whnf
    refine hQ _ true ?_; show ReH 10 _ (hW1 ⟨C, ks, al, cs, q, now, last, L, k⟩ gs' N'); exact ReH.ids [0, 1, 2, 3, 4, 5, 6, 7, 8, 9, 10] (by exact ⟨⟨_, rfl, mT_blk _, fun _ => rfl⟩, ⟨_, rfl, blkOk rfl rfl, fun _ => rfl⟩, ⟨_, rfl, blkOk rfl rfl, fun _ => rfl⟩, ⟨_, rfl, blkDead, fun h => (by cases h)⟩, ⟨_, rfl, blkDeep rfl (deepLit rfl), fun _ => rfl⟩, ⟨_, rfl, blkLoop rfl rfl, fun _ => rfl⟩, ⟨_, rfl, blkDead, fun h => (by cases h)⟩, ⟨_, rfl, blkOk rfl rfl, fun _ => rfl⟩, ⟨_, rfl, blkOk rfl rfl, fun _ => rfl⟩, ⟨_, rfl, blkLoop rfl rfl, fun _ => rfl⟩, ⟨_, rfl, blkDeep rfl (deepMap (fun _ => rfl)), fun _ => rfl⟩, trivial⟩) rfl rfl
  (conv => whnf); repeat' (first | refine vv2 ?_) <;> conv => whnf
  refine hQ _ true ?_; show ReH 10 _ (hW1 ⟨C, ks, al, cs, q, now, last, L, k⟩ gs' N'); exact ReH.ids [0, 1, 2, 3, 4, 5, 6, 7, 8, 9, 17] (by exact ⟨⟨_, rfl, mT_blk _, fun _ => rfl⟩, ⟨_, rfl, blkOk rfl rfl, fun _ => rfl⟩, ⟨_, rfl, blkOk rfl rfl, fun _ => rfl⟩, ⟨_, rfl, blkDead, fun h => (by cases h)⟩, ⟨_, rfl, blkDeep rfl (deepLit rfl), fun _ => rfl⟩, ⟨_, rfl, blkLoop rfl rfl, fun _ => rfl⟩, ⟨_, rfl, blkDead, fun h => (by cases h)⟩, ⟨_, rfl, blkOk rfl rfl, fun _ => rfl⟩, ⟨_, rfl, blkOk rfl rfl, fun _ => rfl⟩, ⟨_, rfl, blkLoop rfl rfl, fun _ => rfl⟩, ⟨_, rfl, blkDeep rfl (deepMap (fun _ => rfl)), fun _ => rfl⟩, trivial⟩) rfl rfl
theorem round183_11 (e : Env) (gs : Fnd Spot Trc) (N : List Spot) (hf : Cu.Full gs) (hN : N.length ≤ 100000) (x : Cu.Stp) (A : ABlk) (Q : AV → AH → Prop)
    (hQ : ∀ H' b, ReH 10 H' (hW e ⟨(mvW e x (gs, N)).1, (mvW e x (gs, N)).2, b⟩) → Q (vb true) H') :
    Rnd 9 [.agg (encStp x)] (hW1 e gs N ++ [A]) Q := by
  obtain ⟨C, ks, al, cs, q, now, last, L, k⟩ := e; unfold mvW moveL at hQ; simp only at hQ; by_cases hhi : min last x.at_.hi < max now x.at_.lo
  · rw [if_pos hhi] at hQ; refine ⟨_, _, _, _, _, _, rfl, rfl, ?_⟩
    (conv => whnf); repeat' (first | refine vv3 ?_ | refine vv21 ?_ | refine vv22 ?_) <;> conv => whnf
    refine hQ _ true ?_; show ReH 10 _ (hW1 ⟨C, ks, al, cs, q, now, last, L, k⟩ gs N); exact ReH.ids [0, 1, 2, 3, 4, 5, 6, 7, 8, 9, 10] (by exact ⟨⟨_, rfl, mT_blk _, fun _ => rfl⟩, ⟨_, rfl, blkOk rfl rfl, fun _ => rfl⟩, ⟨_, rfl, blkOk rfl rfl, fun _ => rfl⟩, ⟨_, rfl, blkDead, fun h => (by cases h)⟩, ⟨_, rfl, blkDeep rfl (deepLit rfl), fun _ => rfl⟩, ⟨_, rfl, blkLoop rfl rfl, fun _ => rfl⟩, ⟨_, rfl, blkDead, fun h => (by cases h)⟩, ⟨_, rfl, blkOk rfl rfl, fun _ => rfl⟩, ⟨_, rfl, blkOk rfl rfl, fun _ => rfl⟩, ⟨_, rfl, blkLoop rfl rfl, fun _ => rfl⟩, ⟨_, rfl, blkDeep rfl (deepMap (fun _ => rfl)), fun _ => rfl⟩, trivial⟩) rfl rfl
  rw [if_neg hhi] at hQ; simp only [List.foldl_cons, List.foldl_nil] at hQ; have hrd := r82c1 C ks al cs q now L k gs N hf hN (⟨x.to_, q.seen⟩, ⟨max now x.at_.lo, q, ⟨x.entry, x.dst, max now x.at_.lo⟩, true⟩); generalize relax Trc.time (gs, N) (⟨x.to_, q.seen⟩, ⟨max now x.at_.lo, q, ⟨x.entry, x.dst, max now x.at_.lo⟩, true⟩) = st at *; obtain ⟨gs', N'⟩ := st; refine ⟨_, _, _, _, _, _, rfl, rfl, ?_⟩
  (conv => whnf); repeat' (first | refine OpN.round (tryd_okr _ _ _) rfl (hrd _ _ _ A _) ?_ | refine vv4 ?_ | refine vv21 ?_ | refine vv22 ?_) <;> conv => whnf
  rintro y H' ⟨rfl, ⟨z, rfl⟩ | ⟨a, b, c, rfl⟩⟩
  · (conv => whnf); repeat' (first | refine vv2 ?_) <;> conv => whnf
    refine hQ _ true ?_; show ReH 10 _ (hW1 ⟨C, ks, al, cs, q, now, last, L, k⟩ gs' N'); exact ReH.ids [0, 1, 2, 3, 4, 5, 6, 7, 8, 9, 10] (by exact ⟨⟨_, rfl, mT_blk _, fun _ => rfl⟩, ⟨_, rfl, blkOk rfl rfl, fun _ => rfl⟩, ⟨_, rfl, blkOk rfl rfl, fun _ => rfl⟩, ⟨_, rfl, blkDead, fun h => (by cases h)⟩, ⟨_, rfl, blkDeep rfl (deepLit rfl), fun _ => rfl⟩, ⟨_, rfl, blkLoop rfl rfl, fun _ => rfl⟩, ⟨_, rfl, blkDead, fun h => (by cases h)⟩, ⟨_, rfl, blkOk rfl rfl, fun _ => rfl⟩, ⟨_, rfl, blkOk rfl rfl, fun _ => rfl⟩, ⟨_, rfl, blkLoop rfl rfl, fun _ => rfl⟩, ⟨_, rfl, blkDeep rfl (deepMap (fun _ => rfl)), fun _ => rfl⟩, trivial⟩) rfl rfl
  (conv => whnf); repeat' (first | refine vv2 ?_) <;> conv => whnf
  refine hQ _ true ?_; show ReH 10 _ (hW1 ⟨C, ks, al, cs, q, now, last, L, k⟩ gs' N'); exact ReH.ids [0, 1, 2, 3, 4, 5, 6, 7, 8, 9, 16] (by exact ⟨⟨_, rfl, mT_blk _, fun _ => rfl⟩, ⟨_, rfl, blkOk rfl rfl, fun _ => rfl⟩, ⟨_, rfl, blkOk rfl rfl, fun _ => rfl⟩, ⟨_, rfl, blkDead, fun h => (by cases h)⟩, ⟨_, rfl, blkDeep rfl (deepLit rfl), fun _ => rfl⟩, ⟨_, rfl, blkLoop rfl rfl, fun _ => rfl⟩, ⟨_, rfl, blkDead, fun h => (by cases h)⟩, ⟨_, rfl, blkOk rfl rfl, fun _ => rfl⟩, ⟨_, rfl, blkOk rfl rfl, fun _ => rfl⟩, ⟨_, rfl, blkLoop rfl rfl, fun _ => rfl⟩, ⟨_, rfl, blkDeep rfl (deepMap (fun _ => rfl)), fun _ => rfl⟩, trivial⟩) rfl rfl
end
end Go.Proofs.Ax
