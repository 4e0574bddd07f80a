import Derived.Test.YtedekogkeamacaaGreatDoorCcRA
import Derived.Test.YtedekogkeamacaaGreatDoorCcAB
namespace Go.Proofs.Ax
open Go Go.Proofs Go.Proofs.Cu
set_option maxRecDepth 10000
set_option maxHeartbeats 4000000
section
theorem of_ok {c : Book} (hc : BkS c) (key : Int) : Pu Tryz.prog G1 90 [bookV c, vi key] (entries (chnOf c key).es) := by
  have hel := hc.el; refine Qf 31 Tryz.func90 rfl rfl ?_
  (conv => whnf)
  refine LoopN.re (Reabs.virt 5 7 68 rfl) ?_; refine LoopN.of Qt (fun k : Nat => [(1, vi key), (2, .pm 0 0 0), (5, .sm 1 7 0 (selE c key k).length), (6, vi k)]) (fun k => [.rows [bookC c] 26, .rows ((selE c key k).map encE) 68]) (fun k => c.entries.length - k) (fun k => k ≤ c.entries.length) 0 (Nat.zero_le _) (QM [0, 1]) ?_; intro k hk; by_cases hlt : k < c.entries.length
  · have hsu := selE_succ (key := key) hlt; have hle := selE_len (c := c) (key := key) (k := k); generalize selE c key k = o at *; by_cases hkey : (c.entries[k]).key = key
    · rw [if_pos hkey] at hsu
      repeat' ((conv => whnf); first | refine SlIdxN.map k rfl hlt ?_ | refine vv3 ?_ | refine vv7 ?_ | refine vv20 ?_ | refine vv21 ?_ | refine vv23 ?_ | refine vv31 ?_ | refine vv33 ?_)
      exact Qb (k + 1) (QM [0, 2] (hs := by rw [hsu, List.length_append]; exact (by repeat (first | exact sv0 | refine sv1 ?_ | refine sv2 ?_ | refine sv3 ?_))) (hb := bv1 (Ql rfl (blkDeep (by rw [hsu, List.map_append]; rfl) (deepMap (fun _ => rfl))) bv0)))
    rw [if_neg hkey, List.append_nil] at hsu
    repeat' ((conv => whnf); first | refine SlIdxN.map k rfl hlt ?_ | refine vv4 ?_ | refine vv7 ?_ | refine vv20 ?_ | refine vv21 ?_ | refine vv23 ?_)
    exact Qb (k + 1) (by rw [hsu]; exact QM [0, 1])
  obtain rfl : k = c.entries.length := by omega
  have hall : selE c key c.entries.length = (chnOf c key).es := by simp [selE, chnOf]
  rw [← hall]; generalize selE c key c.entries.length = o at *
  (conv => whnf); repeat' (first | refine vv8 ?_ | refine vv21 ?_ | refine vv23 ?_) <;> conv => whnf
  exact ⟨.sm0 rfl (deepR (fun _ => rfl)) (by rw [List.length_map])⟩
theorem rentered_ok (l : List Entr) (n : Int) (hl : l.length ≤ 1000000) : Pu Tryz.prog G1 87 [entries l, vi n] (vi (idxInt l.length (l.findIdx fun e => e.id == n))) := by
  refine Qh 20 Tryz.func87 rfl rfl ?_
  (conv => whnf)
  refine LoopN.of Qt (fun k : Nat => [(0, entries l), (1, vi n), (5, vi k)]) (fun _ => []) (fun k => l.length - k) (fun k => k ≤ l.length ∧ ∀ i (h : i < l.length), i < k → (l[i].id == n) = false) 0 ⟨Nat.zero_le _, fun i h hi => by omega⟩ (Q0) ?_; rintro k ⟨hk, hall⟩; by_cases hlt : k < l.length
  · by_cases hp : l[k].id = n
    · have e : l.findIdx (fun p => p.id == n) = k := (List.findIdx_eq hlt).2 ⟨beq_iff_eq.2 hp, fun j hj => hall j (by omega) hj⟩; rw [e, idxInt, if_pos hlt]
      repeat' ((conv => whnf); first | refine SlIdxN.map k rfl hlt ?_ | refine vv3 ?_ | refine vv7 ?_ | refine vv23 ?_)
      exact DoneN.pure rfl
    repeat' ((conv => whnf); first | refine SlIdxN.map k rfl hlt ?_ | refine vv4 ?_ | refine vv7 ?_ | refine vv20 ?_ | refine vv23 ?_)
    refine BackN.mk (k + 1) ⟨by omega, fun i h hi => ?_⟩ (by omega) (Q0); by_cases hq : i = k
    subst hq; exact beq_eq_false_iff_ne.2 hp; exact hall i h (by omega)
  have e : l.findIdx (fun p => p.id == n) = l.length := List.findIdx_eq_length.2 fun x hx => by
    obtain ⟨i, hi, rfl⟩ := List.getElem_of_mem hx; exact hall i hi (by omega)
  rw [e, idxInt, if_neg (by omega)]
  repeat' ((conv => whnf); first | refine vv8 ?_ | refine vv23 ?_)
  exact DoneN.pure rfl
theorem rkeyed_ok {c : Book} (hc : BkS c) (key : Int) : Pu Tryz.prog G1 34 [bookV c, vi key] (vi (askedE c key)) := by
  have h1 := rcheck_ok hc; have h2 := keyed_ok c key hc; unfold askedE; by_cases h0 : checkE c = 0
  · rw [if_neg (by simpa using h0)]; rw [h0] at h1
    cases hk : c.keys.contains key with
    | true =>
      rw [hk] at h2; refine Qf 17 Tryz.func34 rfl rfl ?_
      repeat' ((conv => whnf); first | refine vv1 ?_ | refine vv2 ?_ | refine vv21 ?_ | refine Qp h1 ?_ | refine Qp h2 ?_)
      exact Qv
    | false =>
      rw [hk] at h2; refine Qf 17 Tryz.func34 rfl rfl ?_
      repeat' ((conv => whnf); first | refine vv1 ?_ | refine vv21 ?_ | refine Qp h1 ?_ | refine Qp h2 ?_)
      exact Qv
  rw [if_pos h0]; generalize checkE c = e at *; refine Qf 17 Tryz.func34 rfl rfl ?_
  repeat' ((conv => whnf); first | refine vv2 ?_ | refine vv4 ?_ | refine vv21 ?_ | refine Qp h1 ?_)
  exact Qv
theorem insI_at {n : Int} : ∀ {l : List Int} {k : Nat}, k ≤ l.length → (∀ i (h : i < l.length), i < k → l[i] < n) → (∀ h : k < l.length, ¬ l[k] < n) → insI n l = if l[k]? = some n then l else l.take k ++ n :: l.drop k
  | [], k, hk, _, _ => by
    have : k = 0 := by simpa using hk
    subst this; rfl
  | x :: r, 0, _, _, h2 => by
    have h : ¬ x < n := h2 (by simp); unfold insI; rw [if_neg h]; by_cases e : x = n
    rw [if_pos e, if_pos (by simp [e])]; rw [if_neg e, if_neg (by simp [e])]; rfl
  | x :: r, k + 1, hk, h1, h2 => by
    have h : x < n := h1 0 (by simp) (by omega); unfold insI; rw [if_pos h, insI_at (l := r) (k := k) (by simpa using hk) (fun i hi hik => h1 (i + 1) (by simpa using hi) (by omega)) (fun hh => h2 (by simpa using hh))]; rw [List.getElem?_cons_succ]; by_cases e : r[k]? = some n
    rw [if_pos e, if_pos e]; rw [if_neg e, if_neg e]; rfl
theorem ins_rows (l : List Int) (n : Int) (k : Nat) : [] ++ List.take k (List.map intR l) ++ [[vi n]] ++ List.drop k (List.map intR l) = List.map intR (l.take k ++ n :: l.drop k) := by simp
theorem insert_ok (l : List Int) (n : Int) (hl : l.length ≤ 1000000) : Pu Tryz.prog G1 91 [ints l, vi n] (ints (insI n l)) := by
  refine Qf 48 Tryz.func91 rfl rfl ?_
  (conv => whnf)
  refine LoopN.of Qt (fun k : Nat => [(0, ints l), (1, vi n), (5, vi k)]) (fun _ => []) (fun k => l.length - k) (fun k => k ≤ l.length ∧ ∀ i (h : i < l.length), i < k → l[i] < n) 0 ⟨Nat.zero_le _, fun i h hi => by omega⟩ (Q0) ?_; rintro k ⟨hk, hall⟩; by_cases hlt : k < l.length
  · by_cases hp : l[k] < n
    · repeat' ((conv => whnf); first | refine SlIdxN.map k rfl hlt ?_ | refine vv3 ?_ | refine vv7 ?_ | refine vv20 ?_ | refine vv23 ?_)
      refine BackN.mk (k + 1) ⟨by omega, fun i h hi => ?_⟩ (by omega) (Q0); by_cases hq : i = k
      subst hq; exact hp; exact hall i h (by omega)
    have hi := insI_at hk hall fun _ => hp
    rw [List.getElem?_eq_getElem hlt] at hi; by_cases he : l[k] = n
    · rw [if_pos (by rw [he])] at hi; rw [hi]
      repeat' ((conv => whnf); first | refine SlIdxN.map k rfl hlt ?_ | refine vv3 ?_ | refine vv4 ?_ | refine vv7 ?_ | refine vv23 ?_)
      exact Qv
    rw [if_neg (by simpa using he)] at hi; rw [hi]; clear hall; have hz : AV.frz0 2 ((l.take k ++ n :: l.drop k).map intR) (.sm 2 1 0 (l.length + 1)) = ints (l.take k ++ n :: l.drop k) := frz_all (by simp; omega); have hrows : [] ++ List.take k (List.map intR l) ++ [[vi n]] ++ List.drop k (List.map intR l) = List.map intR (l.take k ++ n :: l.drop k) := by simp
    (conv => whnf); repeat' (first | refine SlIdxN.map k rfl hlt ?_ | refine IdxN.at0 k rfl (by first | omega | (simp; done) | (simp; omega)) ?_ | refine Qn k ?_ | refine Qn (k + 1) ?_ | refine Qn (l.length + 1) ?_ | refine vv4 ?_ | refine vv7 ?_ | refine vv23 ?_ | refine Need.mk (by first | assumption | omega | (simp <;> omega)) ?_ | refine vv31 ?_) <;> conv => whnf
    refine ⟨.step 2 _ _ rfl (by rw [hrows]; exact deepR (fun _ => rfl)) ?_⟩; show FinTo 0 _ (AV.frz0 2 ([] ++ List.take k (List.map intR l) ++ [[vi n]] ++ List.drop k (List.map intR l)) (.sm 2 1 0 (l.length + 1))) _ _; rw [hrows, hz]; exact .val rfl
  obtain rfl : k = l.length := by omega
  have hi := insI_at (Nat.le_refl _) hall fun h => absurd h (by omega)
  rw [List.getElem?_eq_none (Nat.le_refl _), if_neg (by simp)] at hi; rw [hi]; have hz : AV.frz0 2 ((l.take l.length ++ n :: l.drop l.length).map intR) (.sm 2 1 0 (l.length + 1)) = ints (l.take l.length ++ n :: l.drop l.length) := frz_all (by simp); have hrows : [] ++ List.take l.length (List.map intR l) ++ [[vi n]] ++ List.drop l.length (List.map intR l) = List.map intR (l.take l.length ++ n :: l.drop l.length) := ins_rows l n l.length
  (conv => whnf); repeat' (first | refine IdxN.at0 l.length rfl (by first | omega | (simp; done) | (simp; omega)) ?_ | refine Qn l.length ?_ | refine Qn (l.length + 1) ?_ | refine vv2 ?_ | refine vv8 ?_ | refine vv23 ?_ | refine Need.mk (by first | assumption | omega | (simp <;> omega)) ?_ | refine vv31 ?_) <;> conv => whnf
  refine ⟨.step 2 _ _ rfl (by rw [hrows]; exact deepR (fun _ => rfl)) ?_⟩; show FinTo 0 _ (AV.frz0 2 ([] ++ List.take l.length (List.map intR l) ++ [[vi n]] ++ List.drop l.length (List.map intR l)) (.sm 2 1 0 (l.length + 1))) _ _; rw [hrows, hz]; exact .val rfl
end
section
def movedG (C : Chn) (s : Std) (m : Mv) : Std × Bool :=
  if timeOk m.time = false then (s, false)
  else if m.entry = 0 then (⟨m.dst, s.copies⟩, hangsP C.people m.dst && !decide (m.dst = s.place) && !decide (s.place = -1))
  else match C.es.find? fun e => e.id == m.entry with
    | none => (s, false)
    | some e => if m.dst ≠ 0 ∨ m.time < e.at_.lo ∨ e.at_.hi < m.time then (s, false) else if s.place ≠ fromOf e then (s, false) else (⟨placeOf e s.place, if e.kind = 2 then insI (fromOf e) s.copies else s.copies⟩, true)
theorem movedG_some {C : Chn} {s s' : Std} {m : Mv} (h : movedR C s m = some s') : movedG C s m = (s', true) := by
  unfold movedR at h; unfold movedG; split at h
  cases h
  rename_i h1; rw [if_neg h1]; split at h
  · rename_i h2; rw [if_pos h2]; split at h
    · rename_i h3
      cases h
      obtain ⟨a, b, c⟩ := h3; rw [a, decide_eq_false b, decide_eq_false c]; rfl
    cases h
  rename_i h2; rw [if_neg h2]; split at h
  cases h
  rename_i e he; rw [he]; simp only; split at h
  cases h
  rename_i h3; rw [if_neg h3]; split at h
  cases h
  rename_i h4; rw [if_neg h4]
  cases h
  rfl
theorem movedG_none {C : Chn} {s : Std} {m : Mv} (h : movedR C s m = none) : (movedG C s m).2 = false := by
  unfold movedR at h; unfold movedG; split at h
  rename_i h1; rw [if_pos h1]; rename_i h1; rw [if_neg h1]; split at h
  · rename_i h2; rw [if_pos h2]; split at h
    cases h
    rename_i h3; simp only; rw [Bool.eq_false_iff]; intro hh; simp only [Bool.and_eq_true, Bool.not_eq_true', decide_eq_false_iff_not] at hh; exact h3 ⟨hh.1.1, hh.1.2, hh.2⟩
  rename_i h2; rw [if_neg h2]; split at h
  rename_i he; rw [he]; rename_i e he; rw [he]; simp only; split at h
  rename_i h3; rw [if_pos h3]; rename_i h3; rw [if_neg h3]; split at h
  rename_i h4; rw [if_pos h4]
  cases h
abbrev stdC (s : Std) : List AV := [vi s.place, ints s.copies]
theorem moved_ok {c : Book} (hok : c.ok) (key : Int) (s : Std) (hs : s.copies.length ≤ 1000) (m : Mv) : Pu Tryz.prog G1 100 [bookV c, vi key, .agg (stdC s), .agg (encMv m)] (.tuple [.agg (stdC (movedG (chnOf c key) s m).1), vb (movedG (chnOf c key) s m).2]) := by
  have hS := BkS.of_ok hok; have ht := rtime_ok m.time; unfold movedG
  cases h1 : timeOk m.time with
  | false =>
    rw [h1] at ht; rw [if_pos rfl]; refine Qc 118 Tryz.func100 rfl rfl ?_; refine Qs ?_
    (conv => whnf)
    refine Qe ?_
    repeat' ((conv => whnf); first | refine vv1 ?_ | refine vv21 ?_ | refine vv22 ?_ | refine Qp ht ?_)
    exact Qv
  | true =>
    rw [h1] at ht; rw [if_neg (by simp)]; by_cases h2 : m.entry = 0
    · rw [if_pos h2]; have p1 := place_ok c m.dst hS; show Pu _ _ _ _ (.tuple [.agg [vi m.dst, ints s.copies], vb (hangsP c.people m.dst && !decide (m.dst = s.place) && !decide (s.place = -1))]); generalize hangsP c.people m.dst = hb at *; by_cases h3 : m.dst = s.place
      · rw [decide_eq_true h3]
        cases hb
        all_goals
          refine Qc 118 Tryz.func100 rfl rfl ?_; refine Qs ?_
          (conv => whnf)
          refine Qe ?_
          repeat' ((conv => whnf); first | refine vv1 ?_ | refine vv2 ?_ | refine vv3 ?_ | refine vv5 ?_ | refine vv21 ?_ | refine vv22 ?_ | refine Qp ht ?_ | refine Qp p1 ?_)
          exact Qv
      rw [decide_eq_false h3]
      cases hb
      all_goals
        refine Qc 118 Tryz.func100 rfl rfl ?_; refine Qs ?_
        (conv => whnf)
        refine Qe ?_
        repeat' ((conv => whnf); first | refine vv1 ?_ | refine vv2 ?_ | refine vv3 ?_ | refine vv6 ?_ | refine vv21 ?_ | refine vv22 ?_ | refine Qp ht ?_ | refine Qp p1 ?_)
        exact Qv
    rw [if_neg h2]; have o1 := of_ok hS key; have hkl : (chnOf c key).es.length ≤ 7 := hok.few key
    have hkk : ∀ e ∈ (chnOf c key).es, e.kind = 1 ∨ e.kind = 2 ∨ e.kind = 3 ∨ e.kind = 4 := fun e he => by
      have h := hok.entr e (List.mem_filter.1 he).1; unfold entrOk at h; simp only [Bool.and_eq_true] at h; have h := h.2; unfold Cu.kindOk at h; split at h
      exact .inl (by assumption); split at h
      exact .inr (.inl (by assumption)); split at h
      exact .inr (.inr (.inl (by assumption))); split at h
      exact .inr (.inr (.inr (by assumption)))
      cases h
    have e1 := rentered_ok (chnOf c key).es m.entry (by omega); rw [List.find?_eq_getElem?_findIdx]; generalize (chnOf c key).es = es at *; generalize es.findIdx (fun e => e.id == m.entry) = ix at *; unfold idxInt at e1; by_cases hlt : ix < es.length
    · rw [if_pos hlt] at e1; rw [List.getElem?_eq_getElem hlt]; simp only; have hk := hkk es[ix] (List.getElem_mem hlt); by_cases b1 : m.dst ≠ 0
      · rw [if_pos (.inl b1)]; refine Qc 118 Tryz.func100 rfl rfl ?_; refine Qs ?_
        (conv => whnf)
        refine CodeN.re ((Reabs.frz 2 [encMv m] 88 rfl (deepAll rfl)).trans (Reabs.frz 0 [bookC c] 26 rfl (deepAll rfl))) ?_; refine Qe ?_
        repeat' ((conv => whnf); first | refine vv1 ?_ | refine vv2 ?_ | refine vv4 ?_ | refine vv6 ?_ | refine vv21 ?_ | refine vv22 ?_ | refine vv25 ?_ | refine Qd ?_ | refine Qp ht ?_ | refine Qp o1 ?_ | refine Qp e1 ?_)
        exact Qv
      by_cases b2 : m.time < (es[ix]).at_.lo
      · rw [if_pos (.inr (.inl b2))]; refine Qc 118 Tryz.func100 rfl rfl ?_; refine Qs ?_
        (conv => whnf)
        refine CodeN.re ((Reabs.frz 2 [encMv m] 88 rfl (deepAll rfl)).trans (Reabs.frz 0 [bookC c] 26 rfl (deepAll rfl))) ?_; refine Qe ?_
        repeat' ((conv => whnf); first | refine SlIdxN.map ix rfl hlt ?_ | refine vv1 ?_ | refine vv2 ?_ | refine vv3 ?_ | refine vv4 ?_ | refine vv9 ?_ | refine vv21 ?_ | refine vv22 ?_ | refine vv25 ?_ | refine Qd ?_ | refine Qp ht ?_ | refine Qp o1 ?_ | refine Qp e1 ?_)
        exact Qv
      by_cases b3 : (es[ix]).at_.hi < m.time
      · rw [if_pos (.inr (.inr b3))]; refine Qc 118 Tryz.func100 rfl rfl ?_; refine Qs ?_
        (conv => whnf)
        refine CodeN.re ((Reabs.frz 2 [encMv m] 88 rfl (deepAll rfl)).trans (Reabs.frz 0 [bookC c] 26 rfl (deepAll rfl))) ?_; refine Qe ?_
        repeat' ((conv => whnf); first | refine SlIdxN.map ix rfl hlt ?_ | refine vv2 ?_ | refine vv3 ?_ | refine vv4 ?_ | refine vv9 ?_ | refine vv21 ?_ | refine vv22 ?_ | refine vv25 ?_ | refine Qd ?_ | refine Qp ht ?_ | refine Qp o1 ?_ | refine Qp e1 ?_)
        exact Qv
      rw [if_neg (by omega)]
      have hfr : (fromOf es[ix] = -1 ∧ (es[ix]).kind = 4) ∨ (fromOf es[ix] = (es[ix]).src ∧ (es[ix]).kind ≠ 4) := by
        unfold fromOf; by_cases h4 : (es[ix]).kind = 4
        exact .inl ⟨if_pos h4, h4⟩; exact .inr ⟨if_neg h4, h4⟩
      have i1 := insert_ok s.copies (fromOf es[ix]) (by omega); by_cases b4 : s.place ≠ fromOf es[ix]
      · rw [if_pos b4]
        rcases hfr with ⟨hf, hk4⟩ | ⟨hf, hk4⟩
        all_goals
          refine Qc 118 Tryz.func100 rfl rfl ?_; refine Qs ?_
          (conv => whnf)
          refine CodeN.re ((Reabs.frz 2 [encMv m] 88 rfl (deepAll rfl)).trans (Reabs.frz 0 [bookC c] 26 rfl (deepAll rfl))) ?_; refine Qe ?_; rw [hf] at b4
          repeat' ((conv => whnf); first | refine SlIdxN.map ix rfl hlt ?_ | refine vv2 ?_ | refine vv3 ?_ | refine vv4 ?_ | refine vv6 ?_ | refine vv9 ?_ | refine vv21 ?_ | refine vv22 ?_ | refine vv25 ?_ | refine Qd ?_ | refine Qp ht ?_ | refine Qp o1 ?_ | refine Qp e1 ?_)
          exact Qv
      rw [if_neg b4]; have b4 : s.place = fromOf es[ix] := by omega
      unfold placeOf
      rcases hfr with ⟨hf, hk4⟩ | ⟨hf, hk4⟩
      · rw [hf] at b4; rw [if_pos (.inr hk4), if_neg (by omega)]; refine Qc 118 Tryz.func100 rfl rfl ?_; refine Qs ?_
        (conv => whnf)
        refine CodeN.re ((Reabs.frz 2 [encMv m] 88 rfl (deepAll rfl)).trans (Reabs.frz 0 [bookC c] 26 rfl (deepAll rfl))) ?_; refine Qe ?_
        repeat' ((conv => whnf); first | refine SlIdxN.map ix rfl hlt ?_ | refine vv2 ?_ | refine vv3 ?_ | refine vv4 ?_ | refine vv5 ?_ | refine vv8 ?_ | refine vv9 ?_ | refine vv21 ?_ | refine vv22 ?_ | refine vv25 ?_ | refine Qd ?_ | refine Qp ht ?_ | refine Qp o1 ?_ | refine Qp e1 ?_)
        exact Qv
      rw [hf] at b4 i1
      rcases hk with hk | hk | hk | hk
      · rw [if_pos (.inl hk), if_neg (by omega)]; refine Qc 118 Tryz.func100 rfl rfl ?_; refine Qs ?_
        (conv => whnf)
        refine CodeN.re ((Reabs.frz 2 [encMv m] 88 rfl (deepAll rfl)).trans (Reabs.frz 0 [bookC c] 26 rfl (deepAll rfl))) ?_; refine Qe ?_
        repeat' ((conv => whnf); first | refine SlIdxN.map ix rfl hlt ?_ | refine vv2 ?_ | refine vv4 ?_ | refine vv5 ?_ | refine vv8 ?_ | refine vv9 ?_ | refine vv21 ?_ | refine vv22 ?_ | refine vv25 ?_ | refine Qd ?_ | refine Qp ht ?_ | refine Qp o1 ?_ | refine Qp e1 ?_)
        exact Qv
      · rw [if_neg (by omega), if_neg (by omega), if_pos hk, hf]; refine Qc 118 Tryz.func100 rfl rfl ?_; refine Qs ?_
        (conv => whnf)
        refine CodeN.re ((Reabs.frz 2 [encMv m] 88 rfl (deepAll rfl)).trans (Reabs.frz 0 [bookC c] 26 rfl (deepAll rfl))) ?_; refine Qe ?_
        repeat' ((conv => whnf); first | refine SlIdxN.map ix rfl hlt ?_ | refine vv2 ?_ | refine vv3 ?_ | refine vv4 ?_ | refine vv5 ?_ | refine vv9 ?_ | refine vv21 ?_ | refine vv22 ?_ | refine vv25 ?_ | refine Qd ?_ | refine Qp ht ?_ | refine Qp o1 ?_ | refine Qp e1 ?_ | refine Qp i1 ?_)
        exact Qv
      · rw [if_neg (by omega), if_pos hk, if_neg (by omega)]; refine Qc 118 Tryz.func100 rfl rfl ?_; refine Qs ?_
        (conv => whnf)
        refine CodeN.re ((Reabs.frz 2 [encMv m] 88 rfl (deepAll rfl)).trans (Reabs.frz 0 [bookC c] 26 rfl (deepAll rfl))) ?_; refine Qe ?_
        repeat' ((conv => whnf); first | refine SlIdxN.map ix rfl hlt ?_ | refine vv2 ?_ | refine vv3 ?_ | refine vv4 ?_ | refine vv5 ?_ | refine vv8 ?_ | refine vv9 ?_ | refine vv21 ?_ | refine vv22 ?_ | refine vv25 ?_ | refine Qd ?_ | refine Qp ht ?_ | refine Qp o1 ?_ | refine Qp e1 ?_)
        exact Qv
      exact absurd hk hk4
    rw [if_neg hlt] at e1; rw [List.getElem?_eq_none (by omega)]; refine Qc 118 Tryz.func100 rfl rfl ?_; refine Qs ?_
    (conv => whnf)
    refine CodeN.re ((Reabs.frz 2 [encMv m] 88 rfl (deepAll rfl)).trans (Reabs.frz 0 [bookC c] 26 rfl (deepAll rfl))) ?_; refine Qe ?_
    repeat' ((conv => whnf); first | refine vv1 ?_ | refine vv2 ?_ | refine vv4 ?_ | refine vv21 ?_ | refine vv22 ?_ | refine vv25 ?_ | refine Qd ?_ | refine Qp ht ?_ | refine Qp o1 ?_ | refine Qp e1 ?_)
    exact Qv
end
section
def prevT (l : List Mv) (k : Nat) : Option Int := if k = 0 then none else (l[k - 1]?).map (·.time)
theorem insI_len (n : Int) : ∀ l : List Int, (insI n l).length ≤ l.length + 1
  | [] => by simp [insI]
  | x :: r => by
    have := insI_len n r; unfold insI; split
    simp only [List.length_cons]; omega; split <;> simp only [List.length_cons] <;> omega
theorem beh_step {C : Chn} {t : Int} {l : List Mv} {k : Nat} (h : k < l.length) (s : Std) (p : Option Int) (done : List Int) (gaps : Nat) (out : Std) :
    behG C t s p done gaps out (l.drop k) = if backB p l[k].time = true ∨ (l[k].entry ≠ 0 ∧ l[k].entry ∈ done) then none else match movedR C s l[k] with
    | none => none
    | some s' => behG C t s' (some l[k].time) (if l[k].entry = 0 then done else insI l[k].entry done) (if l[k].entry = 0 then gaps + 1 else gaps) (if l[k].time ≤ t then s' else out) (l.drop (k + 1)) := by
  rw [List.drop_eq_getElem_cons h, behG]; split
  rfl
  cases movedR C s l[k] <;> rfl
theorem prevT_succ {l : List Mv} {k : Nat} (h : k < l.length) : prevT l (k + 1) = some l[k].time := by
  unfold prevT; rw [if_neg (by omega)]; simp [List.getElem?_eq_getElem h]
def behAV (C : Chn) (r : Option (Std × List Int × Nat)) : AV := match r with
  | none => .tuple [.agg [vi 0, nilA], vb false]
  | some r => .tuple [.agg (stdC r.1), vb (decide ((r.2.2 : Int) ≤ C.gaps) && r.2.1.length == C.es.length)]
theorem moved_len {C : Chn} {s s' : Std} {m : Mv} (h : movedR C s m = some s') : s'.copies.length ≤ s.copies.length + 1 := by
  unfold movedR at h; split at h
  cases h
  split at h
  · split at h
    cases h; exact Nat.le_succ _
    cases h
  split at h
  cases h
  split at h
  cases h
  split at h
  cases h
  cases h
  simp only; split
  exact insI_len _ _; exact Nat.le_succ _
theorem behind_raw {c : Book} (hok : c.ok) (key : Int) (l : List Mv) (hl : l.length ≤ 900) (t : Int) : Pu Tryz.prog G1 51 [bookV c, vi key, moves l, vi t] (behAV (chnOf c key) (behG (chnOf c key) t ⟨0, []⟩ none [] 0 ⟨0, []⟩ l)) := by
  have hS := BkS.of_ok hok; have o1 := of_ok hS key; have hkl : (chnOf c key).es.length ≤ 7 := hok.few key; refine Pu.of_fin (Ef.of_code (T := Tryz.tab) (n := 111) (tryd_okm 0 _) rfl Tryz.func51 rfl rfl (by simp) ?_) rfl (by unfold behAV; split <;> rfl); refine Qs ?_
  (conv => whnf)
  refine CodeN.re (Reabs.frz 0 [bookC c] 26 rfl (deepAll rfl)) ?_; refine Qe ?_
  repeat' ((conv => whnf); first | refine Qp o1 ?_)
  refine LoopN.re ((Reabs.cells 2 [[vi 0, nilA]] [stdC ⟨0, []⟩] 82 rfl (show WkB [[vi 0, nilA]] [stdC ⟨0, []⟩] from ⟨⟨WkC.refl _, WkC.nilSl _ _, trivial⟩, trivial⟩)).trans ((Reabs.cells 3 [[vi 0, nilA]] [stdC ⟨0, []⟩] 82 rfl (show WkB [[vi 0, nilA]] [stdC ⟨0, []⟩] from ⟨⟨WkC.refl _, WkC.nilSl _ _, trivial⟩, trivial⟩)).trans (Reabs.slot 14 (ints []) (WkC.nilSl _ _)))) ?_; refine LoopN.of Qt (fun q : Nat × Std × List Int × Nat × Std => [(1, vi key), (2, moves l), (3, vi t), (4, .pi (bookC c)), (8, .pm 0 0 0), (10, .pm 1 0 0), (11, .pm 2 0 0), (12, vi q.2.2.2.1), (13, entries (chnOf c key).es), (14, ints q.2.2.1), (15, vi q.1)]) (fun q => [.rows [[vi 0, nilA]] 82, .rows [stdC q.2.1] 82, .rows [stdC q.2.2.2.2] 82]) (fun q => l.length - q.1) (fun q => q.1 ≤ l.length ∧ q.2.2.1.length ≤ q.1 ∧ q.2.1.copies.length ≤ q.1 ∧ q.2.2.2.1 ≤ q.1 ∧ behG (chnOf c key) t ⟨0, []⟩ none [] 0 ⟨0, []⟩ l = behG (chnOf c key) t q.2.1 (prevT l q.1) q.2.2.1 q.2.2.2.1 q.2.2.2.2 (l.drop q.1)) (0, ⟨0, []⟩, [], 0, ⟨0, []⟩) ⟨Nat.zero_le _, Nat.le_refl _, Nat.le_refl _, Nat.le_refl _, rfl⟩ (QM [1, 2, 3]) ?_; rintro ⟨k, s, done, gaps, out⟩ ⟨hk, hd, hcp, hg, hinv⟩; simp only at hk hd hcp hg hinv ⊢; by_cases hlt : k < l.length
  · rw [beh_step hlt] at hinv; have h4 := hasL_ok done (l[k]).entry (by omega); have h5 := moved_ok hok key s (by omega) l[k]; have h6 := insert_ok done (l[k]).entry (by omega); have hsucc := prevT_succ hlt; by_cases hb : backB (prevT l k) (l[k]).time = true
    · rw [if_pos (.inl hb)] at hinv; rw [hinv]
      have hk0 : 0 < k := by
        by_cases h0 : k = 0
        subst h0; cases hb; omega
      have hlt1 : (l[k]).time < (l[k - 1]'(by omega)).time := by
        unfold prevT at hb; rw [if_neg (by omega), List.getElem?_eq_getElem (by omega)] at hb; exact of_decide_eq_true hb
      repeat' ((conv => whnf); first | refine SlIdxN.map k rfl hlt ?_ | refine vv1 ?_ | refine vv3 ?_ | refine vv7 ?_ | refine vv20 ?_ | refine SlIdxN.mapPred (by omega) (by omega) ?_ | refine vv21 ?_ | refine vv22 ?_ | refine vv23 ?_ | refine vv25 ?_ | refine Qd ?_)
      exact Qv
    have hge : ∀ h0 : 0 < k, ¬ (l[k]).time < (l[k - 1]'(by omega)).time := fun h0 hh => by
      apply hb; unfold prevT; rw [if_neg (by omega), List.getElem?_eq_getElem (by omega)]; exact decide_eq_true hh
    by_cases hin : (l[k]).entry ≠ 0 ∧ (l[k]).entry ∈ done
    · rw [if_pos (.inr hin)] at hinv; rw [hinv]; have hin1 := hin.1; rw [List.contains_iff_mem.2 hin.2] at h4; by_cases hk0 : 0 < k
      · have hge := hge hk0
        repeat' ((conv => whnf); first | refine SlIdxN.map k rfl hlt ?_ | refine vv1 ?_ | refine vv4 ?_ | refine vv6 ?_ | refine vv7 ?_ | refine vv20 ?_ | refine SlIdxN.mapPred (by omega) (by omega) ?_ | refine vv21 ?_ | refine vv22 ?_ | refine vv23 ?_ | refine vv25 ?_ | refine Qd ?_ | refine Qg h4 ?_)
        exact Qv
      repeat' ((conv => whnf); first | refine SlIdxN.map k rfl hlt ?_ | refine vv1 ?_ | refine vv2 ?_ | refine vv6 ?_ | refine vv7 ?_ | refine vv8 ?_ | refine vv21 ?_ | refine vv22 ?_ | refine vv23 ?_ | refine vv25 ?_ | refine Qd ?_ | refine Qg h4 ?_)
      exact Qv
    rw [if_neg (fun h => h.elim hb hin)] at hinv
    have hcon : (l[k]).entry ≠ 0 → done.contains (l[k]).entry = false := fun h0 => by
      rw [Bool.eq_false_iff]
      exact fun hc => hin ⟨h0, List.contains_iff_mem.1 hc⟩
    clear hin hb
    cases hmv : movedR (chnOf c key) s l[k] with
    | none =>
      rw [hmv] at hinv; simp only at hinv; rw [hinv]; have hmn := movedG_none hmv; rw [hmn] at h5; generalize (movedG (chnOf c key) s l[k]).1 = x at *; by_cases he0 : (l[k]).entry = 0
      · by_cases hk0 : 0 < k
        · have hge := hge hk0
          repeat' ((conv => whnf); first | refine DrawN.grow (tryd_okm 0 _) (by kernel_rfl) ?_ | refine Grow.mk _ rfl ?_ | refine SlIdxN.map k rfl hlt ?_ | refine vv1 ?_ | refine vv2 ?_ | refine vv4 ?_ | refine vv5 ?_ | refine vv7 ?_ | refine vv20 ?_ | refine SlIdxN.mapPred (by omega) (by omega) ?_ | refine vv21 ?_ | refine vv22 ?_ | refine vv23 ?_ | refine vv25 ?_ | refine Qg h5 ?_)
          exact Qv
        repeat' ((conv => whnf); first | refine DrawN.grow (tryd_okm 0 _) (by kernel_rfl) ?_ | refine Grow.mk _ rfl ?_ | refine SlIdxN.map k rfl hlt ?_ | refine vv1 ?_ | refine vv2 ?_ | refine vv5 ?_ | refine vv7 ?_ | refine vv8 ?_ | refine vv21 ?_ | refine vv22 ?_ | refine vv23 ?_ | refine vv25 ?_ | refine Qg h5 ?_)
        exact Qv
      rw [hcon he0] at h4; by_cases hk0 : 0 < k
      · have hge := hge hk0
        repeat' ((conv => whnf); first | refine DrawN.grow (tryd_okm 0 _) (by kernel_rfl) ?_ | refine Grow.mk _ rfl ?_ | refine SlIdxN.map k rfl hlt ?_ | refine vv1 ?_ | refine vv2 ?_ | refine vv4 ?_ | refine vv6 ?_ | refine vv7 ?_ | refine vv20 ?_ | refine SlIdxN.mapPred (by omega) (by omega) ?_ | refine vv21 ?_ | refine vv22 ?_ | refine vv23 ?_ | refine vv25 ?_ | refine Qg h4 ?_ | refine Qg h5 ?_)
        exact Qv
      repeat' ((conv => whnf); first | refine DrawN.grow (tryd_okm 0 _) (by kernel_rfl) ?_ | refine Grow.mk _ rfl ?_ | refine SlIdxN.map k rfl hlt ?_ | refine vv1 ?_ | refine vv2 ?_ | refine vv6 ?_ | refine vv7 ?_ | refine vv8 ?_ | refine vv21 ?_ | refine vv22 ?_ | refine vv23 ?_ | refine vv25 ?_ | refine Qg h4 ?_ | refine Qg h5 ?_)
      exact Qv
    | some s' =>
      rw [movedG_some hmv] at h5; rw [hmv] at hinv; simp only at hinv; have hml := moved_len hmv; have hil := insI_len (l[k]).entry done; by_cases he0 : (l[k]).entry = 0
      · rw [if_pos he0, if_pos he0] at hinv; by_cases htt : (l[k]).time ≤ t
        · rw [if_pos htt] at hinv; by_cases hk0 : 0 < k
          · have hge := hge hk0
            repeat' ((conv => whnf); first | refine DrawN.grow (tryd_okm 0 _) (by kernel_rfl) ?_ | refine Grow.mk _ rfl ?_ | refine SlIdxN.map k rfl hlt ?_ | refine vv2 ?_ | refine vv3 ?_ | refine vv4 ?_ | refine vv5 ?_ | refine vv7 ?_ | refine vv20 ?_ | refine SlIdxN.mapPred (by omega) (by omega) ?_ | refine vv21 ?_ | refine vv22 ?_ | refine vv23 ?_ | refine vv25 ?_ | refine Qg h5 ?_)
            exact BackN.mk (k + 1, s', done, gaps + 1, s') ⟨by simp only; omega, by simp only; omega, by simp only; omega, by simp only; omega, by simp only; rw [hsucc]; exact hinv⟩ (by simp only; omega) (QM [0, 1, 2] (hb := bv1 (bv1 (bv1 bv0))))
          repeat' ((conv => whnf); first | refine DrawN.grow (tryd_okm 0 _) (by kernel_rfl) ?_ | refine Grow.mk _ rfl ?_ | refine SlIdxN.map k rfl hlt ?_ | refine vv2 ?_ | refine vv3 ?_ | refine vv5 ?_ | refine vv7 ?_ | refine vv8 ?_ | refine vv20 ?_ | refine vv21 ?_ | refine vv22 ?_ | refine vv23 ?_ | refine vv25 ?_ | refine Qg h5 ?_)
          exact BackN.mk (k + 1, s', done, gaps + 1, s') ⟨by simp only; omega, by simp only; omega, by simp only; omega, by simp only; omega, by simp only; rw [hsucc]; exact hinv⟩ (by simp only; omega) (QM [0, 1, 2] (hb := bv1 (bv1 (bv1 bv0))))
        rw [if_neg htt] at hinv; by_cases hk0 : 0 < k
        · have hge := hge hk0
          repeat' ((conv => whnf); first | refine DrawN.grow (tryd_okm 0 _) (by kernel_rfl) ?_ | refine Grow.mk _ rfl ?_ | refine SlIdxN.map k rfl hlt ?_ | refine vv2 ?_ | refine vv3 ?_ | refine vv4 ?_ | refine vv5 ?_ | refine vv7 ?_ | refine vv20 ?_ | refine SlIdxN.mapPred (by omega) (by omega) ?_ | refine vv21 ?_ | refine vv22 ?_ | refine vv23 ?_ | refine vv25 ?_ | refine Qg h5 ?_)
          exact BackN.mk (k + 1, s', done, gaps + 1, out) ⟨by simp only; omega, by simp only; omega, by simp only; omega, by simp only; omega, by simp only; rw [hsucc]; exact hinv⟩ (by simp only; omega) (QM [0, 1, 2] (hb := bv1 (bv1 (bv1 bv0))))
        repeat' ((conv => whnf); first | refine DrawN.grow (tryd_okm 0 _) (by kernel_rfl) ?_ | refine Grow.mk _ rfl ?_ | refine SlIdxN.map k rfl hlt ?_ | refine vv2 ?_ | refine vv3 ?_ | refine vv4 ?_ | refine vv5 ?_ | refine vv7 ?_ | refine vv8 ?_ | refine vv20 ?_ | refine vv21 ?_ | refine vv22 ?_ | refine vv23 ?_ | refine vv25 ?_ | refine Qg h5 ?_)
        exact BackN.mk (k + 1, s', done, gaps + 1, out) ⟨by simp only; omega, by simp only; omega, by simp only; omega, by simp only; omega, by simp only; rw [hsucc]; exact hinv⟩ (by simp only; omega) (QM [0, 1, 2] (hb := bv1 (bv1 (bv1 bv0))))
      rw [if_neg he0, if_neg he0] at hinv; rw [hcon he0] at h4; by_cases htt : (l[k]).time ≤ t
      · rw [if_pos htt] at hinv; by_cases hk0 : 0 < k
        · have hge := hge hk0
          repeat' ((conv => whnf); first | refine DrawN.grow (tryd_okm 0 _) (by kernel_rfl) ?_ | refine Grow.mk _ rfl ?_ | refine SlIdxN.map k rfl hlt ?_ | refine vv2 ?_ | refine vv3 ?_ | refine vv4 ?_ | refine vv6 ?_ | refine vv7 ?_ | refine vv20 ?_ | refine SlIdxN.mapPred (by omega) (by omega) ?_ | refine vv21 ?_ | refine vv22 ?_ | refine vv23 ?_ | refine vv25 ?_ | refine Qp h6 ?_ | refine Qg h4 ?_ | refine Qg h5 ?_)
          exact BackN.mk (k + 1, s', insI (l[k]).entry done, gaps, s') ⟨by simp only; omega, by simp only; omega, by simp only; omega, by simp only; omega, by simp only; rw [hsucc]; exact hinv⟩ (by simp only; omega) (QM [0, 1, 2] (hb := bv1 (bv1 (bv1 bv0))))
        repeat' ((conv => whnf); first | refine DrawN.grow (tryd_okm 0 _) (by kernel_rfl) ?_ | refine Grow.mk _ rfl ?_ | refine SlIdxN.map k rfl hlt ?_ | refine vv2 ?_ | refine vv3 ?_ | refine vv4 ?_ | refine vv6 ?_ | refine vv7 ?_ | refine vv8 ?_ | refine vv20 ?_ | refine vv21 ?_ | refine vv22 ?_ | refine vv23 ?_ | refine vv25 ?_ | refine Qp h6 ?_ | refine Qg h4 ?_ | refine Qg h5 ?_)
        exact BackN.mk (k + 1, s', insI (l[k]).entry done, gaps, s') ⟨by simp only; omega, by simp only; omega, by simp only; omega, by simp only; omega, by simp only; rw [hsucc]; exact hinv⟩ (by simp only; omega) (QM [0, 1, 2] (hb := bv1 (bv1 (bv1 bv0))))
      rw [if_neg htt] at hinv; by_cases hk0 : 0 < k
      · have hge := hge hk0
        repeat' ((conv => whnf); first | refine DrawN.grow (tryd_okm 0 _) (by kernel_rfl) ?_ | refine Grow.mk _ rfl ?_ | refine SlIdxN.map k rfl hlt ?_ | refine vv2 ?_ | refine vv4 ?_ | refine vv6 ?_ | refine vv7 ?_ | refine vv20 ?_ | refine SlIdxN.mapPred (by omega) (by omega) ?_ | refine vv21 ?_ | refine vv22 ?_ | refine vv23 ?_ | refine vv25 ?_ | refine Qp h6 ?_ | refine Qg h4 ?_ | refine Qg h5 ?_)
        exact BackN.mk (k + 1, s', insI (l[k]).entry done, gaps, out) ⟨by simp only; omega, by simp only; omega, by simp only; omega, by simp only; omega, by simp only; rw [hsucc]; exact hinv⟩ (by simp only; omega) (QM [0, 1, 2] (hb := bv1 (bv1 (bv1 bv0))))
      repeat' ((conv => whnf); first | refine DrawN.grow (tryd_okm 0 _) (by kernel_rfl) ?_ | refine Grow.mk _ rfl ?_ | refine SlIdxN.map k rfl hlt ?_ | refine vv2 ?_ | refine vv4 ?_ | refine vv6 ?_ | refine vv7 ?_ | refine vv8 ?_ | refine vv20 ?_ | refine vv21 ?_ | refine vv22 ?_ | refine vv23 ?_ | refine vv25 ?_ | refine Qp h6 ?_ | refine Qg h4 ?_ | refine Qg h5 ?_)
      exact BackN.mk (k + 1, s', insI (l[k]).entry done, gaps, out) ⟨by simp only; omega, by simp only; omega, by simp only; omega, by simp only; omega, by simp only; rw [hsucc]; exact hinv⟩ (by simp only; omega) (QM [0, 1, 2] (hb := bv1 (bv1 (bv1 bv0))))
  obtain rfl : k = l.length := by omega
  rw [List.drop_length, behG] at hinv; rw [hinv]; unfold behAV; simp only; have eg : (chnOf c key).gaps = c.gaps := rfl; rw [eg]; generalize (chnOf c key).es = es at *; by_cases hgp : (gaps : Int) ≤ c.gaps
  · rw [decide_eq_true hgp, Bool.true_and]; by_cases hde : done.length = es.length
    · rw [show (done.length == es.length) = true from beq_iff_eq.2 hde]
      (conv => whnf); repeat' (first | refine vv3 ?_ | refine vv8 ?_ | refine vv21 ?_ | refine vv22 ?_ | refine vv23 ?_) <;> conv => whnf
      all_goals first
        | exact ⟨.val rfl⟩
        | (rw [decide_eq_true (show (done.length : Int) = es.length by omega)]; exact ⟨.val rfl⟩)
    rw [show (done.length == es.length) = false from beq_eq_false_iff_ne.2 hde]
    (conv => whnf); repeat' (first | refine vv3 ?_ | refine vv8 ?_ | refine vv21 ?_ | refine vv22 ?_ | refine vv23 ?_) <;> conv => whnf
    all_goals first
      | exact ⟨.val rfl⟩
      | (rw [decide_eq_false (show ¬ (done.length : Int) = es.length by omega)]; exact ⟨.val rfl⟩)
  rw [decide_eq_false hgp, Bool.false_and]
  repeat' ((conv => whnf); first | refine vv4 ?_ | refine vv8 ?_ | refine vv21 ?_ | refine vv22 ?_ | refine vv23 ?_)
  exact Qv
theorem behind_ok {c : Book} (hok : c.ok) (key : Int) (l : List Mv) (hl : l.length ≤ 900) (t : Int) : Pu Tryz.prog G1 51 [bookV c, vi key, moves l, vi t] (.tuple [.agg (stdC (behR (chnOf c key) l t).1), vb (behR (chnOf c key) l t).2]) := by
  refine (behind_raw hok key l hl t).wkr ?_; unfold behR
  cases behG (chnOf c key) t ⟨0, []⟩ none [] 0 ⟨0, []⟩ l with
  | none => exact WkC.tup ⟨WkC.agg ⟨WkC.refl _, WkC.nilSl _ _, trivial⟩, WkC.refl _, trivial⟩
  | some r => exact WkC.refl _
end
section
theorem rtold_ok {c : Book} (hok : c.ok) (key : Int) (l : List Mv) (hl : l.length ≤ 900) : Pu Tryz.prog G1 50 [bookV c, vi key, moves l] (vb (toldR (chnOf c key) l)) := by
  have h1 := behind_ok hok key l hl 0; unfold toldR; generalize (behR (chnOf c key) l 0).1 = s at *; generalize (behR (chnOf c key) l 0).2 = b at *; refine Qf 17 Tryz.func50 rfl rfl ?_
  repeat' ((conv => whnf); first | refine vv21 ?_ | refine vv22 ?_ | refine Qp h1 ?_)
  exact Qv
end
end Go.Proofs.Ax
