import Derived.Test.YtedekogkeamacaaGreatDoorCcRA
import Derived.Test.YtedekogkeamacaaGreatDoorCcAB
namespace Go.Proofs.Ax
open Go Go.Proofs Go.Proofs.Cu
set_option maxRecDepth 10000
set_option maxHeartbeats 4000000
section
theorem of_ok {c : Book} (hc : BkS c) (key : Int) : Pu Tryz.prog G1 90 [bookV c, vi key] (entries (chnOf c key).es) := by
  have hel := hc.el; refine Qf 31 Tryz.func90 rfl rfl ?_
  (conv => whnf)
  refine LoopN.re (Reabs.virt 5 7 68 rfl) ?_; refine LoopN.of Qt (fun k : Nat => [(1, vi key), (2, .pm 0 0 0), (5, .sm 1 7 0 (selE c key k).length), (6, vi k)]) (fun k => [.rows [bookC c] 26, .rows ((selE c key k).map encE) 68]) (fun k => c.entries.length - k) (fun k => k ≤ c.entries.length) 0 (Nat.zero_le _) (QM [0, 1]) ?_; intro k hk; by_cases hlt : k < c.entries.length
  · have hsu := selE_succ (key := key) hlt; have hle := selE_len (c := c) (key := key) (k := k); generalize selE c key k = o at *; by_cases hkey : (c.entries[k]).key = key
    · rw [if_pos hkey] at hsu
      repeat' ((conv => whnf); first | refine SlIdxN.map k rfl hlt ?_ | refine vv3 ?_ | refine vv7 ?_ | refine vv20 ?_ | refine vv21 ?_ | refine vv23 ?_ | refine vv31 ?_ | refine vv33 ?_)
      exact Qb (k + 1) (QM [0, 2] (hs := by rw [hsu, List.length_append]; exact (by repeat (first | exact sv0 | refine sv1 ?_ | refine sv2 ?_ | refine sv3 ?_))) (hb := bv1 (Ql rfl (blkDeep (by rw [hsu, List.map_append]; rfl) (deepMap (fun _ => rfl))) bv0)))
    rw [if_neg hkey, List.append_nil] at hsu
    repeat' ((conv => whnf); first | refine SlIdxN.map k rfl hlt ?_ | refine vv4 ?_ | refine vv7 ?_ | refine vv20 ?_ | refine vv21 ?_ | refine vv23 ?_)
    exact Qb (k + 1) (by rw [hsu]; exact QM [0, 1])
  obtain rfl : k = c.entries.length := by omega
  have hall : selE c key c.entries.length = (chnOf c key).es := by simp [selE, chnOf]
  rw [← hall]; generalize selE c key c.entries.length = o at *
  (conv => whnf); repeat' (first | refine vv8 ?_ | refine vv21 ?_ | refine vv23 ?_) <;> conv => whnf
  exact ⟨.sm0 rfl (deepR (fun _ => rfl)) (by rw [List.length_map])⟩
theorem rentered_ok (l : List Entr) (n : Int) (hl : l.length ≤ 1000000) : Pu Tryz.prog G1 87 [entries l, vi n] (vi (idxInt l.length (l.findIdx fun e => e.id == n))) := by
  refine Qh 20 Tryz.func87 rfl rfl ?_
  (conv => whnf)
  refine LoopN.of Qt (fun k : Nat => [(0, entries l), (1, vi n), (5, vi k)]) (fun _ => []) (fun k => l.length - k) (fun k => k ≤ l.length ∧ ∀ i (h : i < l.length), i < k → (l[i].id == n) = false) 0 ⟨Nat.zero_le _, fun i h hi => by omega⟩ (Q0) ?_; rintro k ⟨hk, hall⟩; by_cases hlt : k < l.length
  · by_cases hp : l[k].id = n
    · have e : l.findIdx (fun p => p.id == n) = k := (List.findIdx_eq hlt).2 ⟨beq_iff_eq.2 hp, fun j hj => hall j (by omega) hj⟩; rw [e, idxInt, if_pos hlt]
      repeat' ((conv => whnf); first | refine SlIdxN.map k rfl hlt ?_ | refine vv3 ?_ | refine vv7 ?_ | refine vv23 ?_)
      exact DoneN.pure rfl
    repeat' ((conv => whnf); first | refine SlIdxN.map k rfl hlt ?_ | refine vv4 ?_ | refine vv7 ?_ | refine vv20 ?_ | refine vv23 ?_)
    refine BackN.mk (k + 1) ⟨by omega, fun i h hi => ?_⟩ (by omega) (Q0); by_cases hq : i = k
    subst hq; exact beq_eq_false_iff_ne.2 hp; exact hall i h (by omega)
  have e : l.findIdx (fun p => p.id == n) = l.length := List.findIdx_eq_length.2 fun x hx => by
    obtain ⟨i, hi, rfl⟩ := List.getElem_of_mem hx; exact hall i hi (by omega)
  rw [e, idxInt, if_neg (by omega)]
  repeat' ((conv => whnf); first | refine vv8 ?_ | refine vv23 ?_)
  exact DoneN.pure rfl
theorem rkeyed_ok {c : Book} (hc : BkS c) (key : Int) : Pu Tryz.prog G1 34 [bookV c, vi key] (vi (askedE c key)) := by
  have h1 := rcheck_ok hc; have h2 := keyed_ok c key hc; unfold askedE; by_cases h0 : checkE c = 0
  · rw [if_neg (by simpa using h0)]; rw [h0] at h1
    cases hk : c.keys.contains key with
    | true =>
      rw [hk] at h2; refine Qf 17 Tryz.func34 rfl rfl ?_
      repeat' ((conv => whnf); first | refine vv1 ?_ | refine vv2 ?_ | refine vv21 ?_ | refine Qp h1 ?_ | refine Qp h2 ?_)
      exact Qv
    | false =>
      rw [hk] at h2; refine Qf 17 Tryz.func34 rfl rfl ?_
      repeat' ((conv => whnf); first | refine vv1 ?_ | refine vv21 ?_ | refine Qp h1 ?_ | refine Qp h2 ?_)
      exact Qv
  rw [if_pos h0]; generalize checkE c = e at *; refine Qf 17 Tryz.func34 rfl rfl ?_
  repeat' ((conv => whnf); first | refine vv2 ?_ | refine vv4 ?_ | refine vv21 ?_ | refine Qp h1 ?_)
  exact Qv
theorem insI_at {n : Int} : ∀ {l : List Int} {k : Nat}, k ≤ l.length → (∀ i (h : i < l.length), i < k → l[i] < n) → (∀ h : k < l.length, ¬ l[k] < n) → insI n l = if l[k]? = some n then l else l.take k ++ n :: l.drop k
  | [], k, hk, _, _ => by
    have : k = 0 := by simpa using hk
    subst this; rfl
  | x :: r, 0, _, _, h2 => by
    have h : ¬ x < n := h2 (by simp); unfold insI; rw [if_neg h]; by_cases e : x = n
    rw [if_pos e, if_pos (by simp [e])]; rw [if_neg e, if_neg (by simp [e])]; rfl
  | x :: r, k + 1, hk, h1, h2 => by
    have h : x < n := h1 0 (by simp) (by omega); unfold insI; rw [if_pos h, insI_at (l := r) (k := k) (by simpa using hk) (fun i hi hik => h1 (i + 1) (by simpa using hi) (by omega)) (fun hh => h2 (by simpa using hh))]; rw [List.getElem?_cons_succ]; by_cases e : r[k]? = some n
    rw [if_pos e, if_pos e]; rw [if_neg e, if_neg e]; rfl
theorem ins_rows (l : List Int) (n : Int) (k : Nat) : [] ++ List.take k (List.map intR l) ++ [[vi n]] ++ List.drop k (List.map intR l) = List.map intR (l.take k ++ n :: l.drop k) := by simp
theorem insert_ok (l : List Int) (n : Int) (hl : l.length ≤ 1000000) : Pu Tryz.prog G1 91 [ints l, vi n] (ints (insI n l)) := by
  refine Qf 48 Tryz.func91 rfl rfl ?_
  (conv => whnf)
  refine LoopN.of Qt (fun k : Nat => [(0, ints l), (1, vi n), (5, vi k)]) (fun _ => []) (fun k => l.length - k) (fun k => k ≤ l.length ∧ ∀ i (h : i < l.length), i < k → l[i] < n) 0 ⟨Nat.zero_le _, fun i h hi => by omega⟩ (Q0) ?_; rintro k ⟨hk, hall⟩; by_cases hlt : k < l.length
  · by_cases hp : l[k] < n
    · repeat' ((conv => whnf); first | refine SlIdxN.map k rfl hlt ?_ | refine vv3 ?_ | refine vv7 ?_ | refine vv20 ?_ | refine vv23 ?_)
      refine BackN.mk (k + 1) ⟨by omega, fun i h hi => ?_⟩ (by omega) (Q0); by_cases hq : i = k
      subst hq; exact hp; exact hall i h (by omega)
    have hi := insI_at hk hall fun _ => hp
    rw [List.getElem?_eq_getElem hlt] at hi; by_cases he : l[k] = n
    · rw [if_pos (by rw [he])] at hi; rw [hi]
      repeat' ((conv => whnf); first | refine SlIdxN.map k rfl hlt ?_ | refine vv3 ?_ | refine vv4 ?_ | refine vv7 ?_ | refine vv23 ?_)
      exact Qv
    rw [if_neg (by simpa using he)] at hi; rw [hi]; clear hall; have hz : AV.frz0 2 ((l.take k ++ n :: l.drop k).map intR) (.sm 2 1 0 (l.length + 1)) = ints (l.take k ++ n :: l.drop k) := frz_all (by simp; omega); have hrows : [] ++ List.take k (List.map intR l) ++ [[vi n]] ++ List.drop k (List.map intR l) = List.map intR (l.take k ++ n :: l.drop k) := by simp
    (conv => whnf); repeat' (first | refine SlIdxN.map k rfl hlt ?_ | refine IdxN.at0 k rfl (by first | omega | (simp; done) | (simp; omega)) ?_ | refine Qn k ?_ | refine Qn (k + 1) ?_ | refine Qn (l.length + 1) ?_ | refine vv4 ?_ | refine vv7 ?_ | refine vv23 ?_ | refine Need.mk (by first | assumption | omega | (simp <;> omega)) ?_ | refine vv31 ?_) <;> conv => whnf
    refine ⟨.step 2 _ _ rfl (by rw [hrows]; exact deepR (fun _ => rfl)) ?_⟩; show FinTo 0 _ (AV.frz0 2 ([] ++ List.take k (List.map intR l) ++ [[vi n]] ++ List.drop k (List.map intR l)) (.sm 2 1 0 (l.length + 1))) _ _; rw [hrows, hz]; exact .val rfl
  obtain rfl : k = l.length := by omega
  have hi := insI_at (Nat.le_refl _) hall fun h => absurd h (by omega)
  rw [List.getElem?_eq_none (Nat.le_refl _), if_neg (by simp)] at hi; rw [hi]; have hz : AV.frz0 2 ((l.take l.length ++ n :: l.drop l.length).map intR) (.sm 2 1 0 (l.length + 1)) = ints (l.take l.length ++ n :: l.drop l.length) := frz_all (by simp); have hrows : [] ++ List.take l.length (List.map intR l) ++ [[vi n]] ++ List.drop l.length (List.map intR l) = List.map intR (l.take l.length ++ n :: l.drop l.length) := ins_rows l n l.length
  (conv => whnf); repeat' (first | refine IdxN.at0 l.length rfl (by first | omega | (simp; done) | (simp; omega)) ?_ | refine Qn l.length ?_ | refine Qn (l.length + 1) ?_ | refine vv2 ?_ | refine vv8 ?_ | refine vv23 ?_ | refine Need.mk (by first | assumption | omega | (simp <;> omega)) ?_ | refine vv31 ?_) <;> conv => whnf
  refine ⟨.step 2 _ _ rfl (by rw [hrows]; exact deepR (fun _ => rfl)) ?_⟩; show FinTo 0 _ (AV.frz0 2 ([] ++ List.take l.length (List.map intR l) ++ [[vi n]] ++ List.drop l.length (List.map intR l)) (.sm 2 1 0 (l.length + 1))) _ _; rw [hrows, hz]; exact .val rfl
end
section
end
section
theorem insI_len (n : Int) : ∀ l : List Int, (insI n l).length ≤ l.length + 1
  | [] => by simp [insI]
  | x :: r => by
    have := insI_len n r; unfold insI; split
    simp only [List.length_cons]; omega; split <;> simp only [List.length_cons] <;> omega
end
section
end
end Go.Proofs.Ax
