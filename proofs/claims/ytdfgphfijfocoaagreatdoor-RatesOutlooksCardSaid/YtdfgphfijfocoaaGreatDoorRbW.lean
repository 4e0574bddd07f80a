import Derived.Test.YtdfgphfijfocoaaGreatDoorRbV
import Derived.Test.YtdfgphfijfocoaaGreatDoorDivA
namespace Go.Proofs.Ax
open Go Go.Proofs
set_option maxRecDepth 10000
set_option maxHeartbeats 4000000
inductive IntN (x : List AV) (K : Int → Prop) : Prop
  | mk (n : Int) (h : x = intRow n) (hk : K n)
theorem RowSN.setI {o : List Int} {j : Nat} {k : List AV → (List AV → (List (List AV) → Prop) → Prop) → Prop} (h : j < o.length) (hk : k (intRow (o[j]'h)) fun r K => IntN r fun n => K ((o.set j n).map intRow)) : RowSN (o.map intRow) j k :=
  ⟨_, _, by simp [h], fun r K hh => by
    obtain ⟨n, rfl, hK⟩ := hh
    rw [← List.map_set]
    exact hK, hk⟩
theorem RowSN.setX {o : List Nat} {j : Nat} {k : List AV → (List AV → (List (List AV) → Prop) → Prop) → Prop} (h : j < o.length) (hk : k (ix (o[j]'h)) fun r K => IxN r fun n => K ((o.set j n).map ix)) : RowSN (o.map ix) j k :=
  .rowX (fun n => o.set j n) (by simp [h]) (fun _ => rfl) hk
theorem RowN.selfI {o : List Int} {j : Nat} {v : Int} {k : List AV → Prop} (h : j < o.length) (hk : k (intRow v)) : RowN ((o.set j v).map intRow) j k := .raw (by simp [h]) hk
theorem DivOk.keyed {A : Int} {w : List Int} (h : DivOk A w) : Keyed A w.sum w := by
  have hb := sum_bd h.wlo h.whi
  have := h.len
  exact ⟨h.pos, by omega, fun x hx => (prod_bd h hx).1, fun x hx => by have := (prod_bd h hx).2; omega⟩
theorem share_le {A : Int} {w : List Int} (h : DivOk A w) {k : Nat} (hk : k < w.length) : share A w k ≤ 1099511627776000000 := by
  have := prod_bd h (List.getElem_mem hk)
  simp only [share, getD_lt hk]
  exact Int.le_trans (Int.ediv_le_self _ this.1) this.2
theorem parts_bd {A : Int} {w : List Int} (h : DivOk A w) {l : List Nat} {j : Nat} (hj : j < (partsOf A w l).length) : 0 ≤ (partsOf A w l)[j] ∧ (partsOf A w l)[j] ≤ 1099511627776000001 := by
  have hj' : j < w.length := by rw [partsOf_len] at hj; exact hj
  have h1 := share_nonneg h hj'
  have h2 := share_le h hj'
  simp only [partsOf, List.getElem_map, List.getElem_range]
  split <;> omega
theorem divide_ok (A : Int) (t : Bool) (w : List Int) (h : DivOk A w) : Pu Tryz.prog G1 95 [vi A, ints t w] (ints false (divided A w)) := by
  refine Pu.of_ev (T := Tryz.tab) (n := 77) (tryd_ok _) Tryz.func95 rfl rfl rfl (by first | rfl | (split <;> rfl)) (by simp) ?_
  have hA1 := h.lo
  have hA2 := h.hi
  have hn := h.len
  ((conv => whnf); repeat' ((first | refine vv21 ?_ | refine vv22 ?_ | refine vv23 ?_) <;> (conv => whnf)))
  refine LoopN.of2 (tryd_ok _) (fun (k : Nat) (s : Int) => [(2, .pm 0 0 0), (3, .pm 1 0 0), (5, .pm 2 0 0), (15, ints t w), (16, vi w.length), (17, vi k)]) (fun k s => [.rows [[vi A]] 3, .rows [[ints t w]] 85, .rows [[vi s]] 3]) (fun k s => w.length - k) (fun k s => k ≤ w.length ∧ s = (w.take k).sum) 0 0 ⟨Nat.zero_le _, by simp⟩ (Reabs.frmN [0, 1, 2] (by repeat (first | exact trivial | refine ⟨.inr ⟨rfl, rfl⟩, ?_⟩)) (by repeat (first | exact trivial | refine ⟨⟨_, rfl, blkDeep rfl (by first | exact deepLit rfl | exact deepMap (fun _ => rfl)), fun _ => rfl⟩, ?_⟩)) (by decide) ⟨Nat.zero_le _, fun i hi => absurd hi (Nat.not_lt_zero i)⟩) ?_
  rintro k s ⟨hk, hs⟩
  have hb := take_sum_bd h.wlo h.whi k
  rw [← hs] at hb
  by_cases hlt : k < w.length
  · have h1 := h.wlo _ (List.getElem_mem hlt)
    have h2 := h.whi _ (List.getElem_mem hlt)
    ((conv => whnf); repeat' ((first | refine vv7 ?_ | refine vv20 ?_ | refine SlIdxN.map _ rfl (by first | assumption | omega) ?_ | refine vv21 ?_ | refine vv22 ?_) <;> (conv => whnf)))
    exact BackN2.mk (k + 1) (s + w[k]) ⟨by omega, by rw [take_sum_succ hlt, hs]⟩ (by omega) (Reabs.frmN [0, 1, 2] (by repeat (first | exact trivial | refine ⟨.inr ⟨rfl, rfl⟩, ?_⟩)) (by repeat (first | exact trivial | refine ⟨⟨_, rfl, blkDeep rfl (by first | exact deepLit rfl | exact deepMap (fun _ => rfl)), fun _ => rfl⟩, ?_⟩)) (by decide) ⟨Nat.zero_le _, fun i hi => absurd hi (Nat.not_lt_zero i)⟩)
  have hS : s = w.sum := by rw [hs, List.take_of_length_le (by omega)]
  subst hS
  clear hs
  ((conv => whnf); repeat' ((first | refine vv8 ?_ | refine vv21 ?_ | refine vv23 ?_ | refine vv29 ?_) <;> (conv => whnf)))
  clear hlt hk
  refine LoopN.of4 (tryd_ok _) (fun (i : Nat) (l : Int) (ps : List Int) (os : List Nat) => [(2, .pm 0 0 0), (3, .pm 1 0 0), (5, .pm 2 0 0), (8, .sm 3 1 0 w.length), (9, .sm 4 1 0 w.length), (10, vi l), (32, ints t w), (33, vi w.length), (34, vi i)]) (fun i l ps os => dH A w.sum w t ps os) (fun i l ps os => w.length - i)
    (fun i l ps os => i ≤ w.length ∧ l = A - shares A w i ∧ ps = sharesTo A w i ∧ os = numsTo w.length i) 0 A (sharesTo A w 0) (numsTo w.length 0) ⟨Nat.zero_le _, by simp [shares], rfl, rfl⟩
    (Reabs.frmN [0, 1, 2, 3, 4] (by repeat (first | exact trivial | refine ⟨.inr ⟨rfl, rfl⟩, ?_⟩)) ⟨⟨_, rfl, blkDeep rfl (deepLit rfl), fun _ => rfl⟩, ⟨_, rfl, blkDeep rfl (deepLit rfl), fun _ => rfl⟩, ⟨_, rfl, blkDeep rfl (deepLit rfl), fun _ => rfl⟩, ⟨_, rfl, blkDeep ?_ (deepMap (fun _ => rfl)), fun _ => rfl⟩, ⟨_, rfl, blkDeep ?_ (deepMap (fun _ => rfl)), fun _ => rfl⟩, trivial⟩ (by decide) ⟨Nat.zero_le _, fun i hi => absurd hi (Nat.not_lt_zero i)⟩) ?_
  · congr 1
    refine List.ext_getElem (by simp [sharesTo]) fun j h1 h2 => ?_
    simp [sharesTo, intRow]
  · congr 1
    refine List.ext_getElem (by simp [numsTo]) fun j h1 h2 => ?_
    simp [numsTo, ix]
  rintro i l ps os ⟨hi, hl, hps, hos⟩
  have hpl : ps.length = w.length := by rw [hps, sharesTo_len]
  have hol : os.length = w.length := by rw [hos, numsTo_len]
  have hsb := shares_bd h hi
  by_cases hlt : i < w.length
  · have hsb' := shares_bd h (show i + 1 ≤ w.length by omega)
    rw [shares_succ] at hsb'
    have hp := prod_bd h (List.getElem_mem hlt)
    have hd : (A * w[i]).tdiv w.sum = share A w i := by rw [Int.tdiv_eq_ediv_of_nonneg hp.1]; simp [share, hlt]
    have hsn := share_nonneg h hlt
    have hpos := h.pos
    ((conv => whnf); repeat' ((first | refine RowN.selfI (by first | assumption | omega | (simp; done) | (simp; omega)) ?_ | refine RowSN.setI (by first | assumption | omega | (simp; done) | (simp; omega)) ?_ | refine RowSN.setX (by first | assumption | omega | (simp; done) | (simp; omega)) ?_ | refine IntN.mk _ rfl ?_ | refine IxN.mk _ rfl ?_ | refine vv7 ?_ | refine vv20 ?_ | refine SlIdxN.map _ rfl (by first | assumption | omega) ?_ | refine IdxN.at0 _ rfl (by first | assumption | omega | (simp <;> omega)) ?_ | refine vv21 ?_ | refine Need.mk (by first | assumption | omega | (simp <;> omega)) ?_) <;> (conv => whnf)))
    exact BackN4.mk (i + 1) (l - (A * w[i]).tdiv w.sum) (ps.set i ((A * w[i]).tdiv w.sum)) (os.set i i) ⟨by omega, by rw [hl, hd, shares_succ]; omega, by rw [hps, hd, sharesTo_step], by rw [hos, numsTo_step]⟩ (by omega) (Reabs.frmN [0, 1, 2, 3, 4] (by repeat (first | exact trivial | refine ⟨.inr ⟨rfl, rfl⟩, ?_⟩)) (by repeat (first | exact trivial | refine ⟨⟨_, rfl, blkDeep rfl (by first | exact deepLit rfl | exact deepMap (fun _ => rfl)), fun _ => rfl⟩, ?_⟩)) (by decide) ⟨Nat.zero_le _, fun i hi => absurd hi (Nat.not_lt_zero i)⟩)
  have hin : i = w.length := by omega
  subst hin
  rw [sharesTo_all] at hps
  rw [numsTo_all] at hos
  subst hps
  subst hos
  have hlb := left_bd h
  rw [← hl] at hlb
  clear hsb hi hpl hol
  ((conv => whnf); repeat' ((first | refine vv8 ?_) <;> (conv => whnf)))
  refine CallN.ef (sortStable_ok h.keyed List.pairwise_lt_range (fun x hx => List.mem_range.1 hx) List.length_range (by omega)) ?_
  rintro _ _ ⟨rfl, o, po, so, rfl⟩
  have hol : o.length = w.length := by rw [po.length_eq, List.length_range]
  have hoN : o.Nodup := po.nodup_iff.2 List.nodup_range
  have how : ∀ x ∈ o, x < w.length := fun x hx => List.mem_range.1 (po.mem_iff.1 hx)
  obtain ⟨m, rfl⟩ : ∃ m : Nat, l = m := ⟨l.toNat, by omega⟩
  ((conv => whnf); repeat' ((first | refine IdxN.at0 _ rfl (by first | assumption | omega | (simp <;> omega)) ?_) <;> (conv => whnf)))
  refine LoopN.of2 (tryd_ok _) (fun (k : Nat) (ps : List Int) => [(8, .sm 3 1 0 w.length), (63, .sm 4 1 0 m), (64, vi m), (65, vi k)]) (fun k ps => dH A w.sum w t ps o) (fun k ps => m - k) (fun k ps => k ≤ m ∧ ps = partsOf A w (o.take k)) 0 (partsOf A w []) ⟨Nat.zero_le _, by simp⟩ (Reabs.frmN [0, 1, 2, 3, 4] (by repeat (first | exact trivial | refine ⟨.inr ⟨rfl, rfl⟩, ?_⟩)) (by repeat (first | exact trivial | refine ⟨⟨_, rfl, blkDeep rfl (by first | exact deepLit rfl | exact deepMap (fun _ => rfl)), fun _ => rfl⟩, ?_⟩)) (by decide) ⟨Nat.zero_le _, fun i hi => absurd hi (Nat.not_lt_zero i)⟩) ?_
  rintro k ps ⟨hk, hps⟩
  have hpl : ps.length = w.length := by rw [hps, partsOf_len]
  by_cases hkm : k < m
  · have hko : k < o.length := by omega
    have hok := how _ (List.getElem_mem hko)
    have hv := fun (hj : o[k] < ps.length) => (show 0 ≤ ps[o[k]] ∧ ps[o[k]] ≤ 1099511627776000001 by subst hps; exact parts_bd h _)
    have hv := hv (by omega)
    have hst : ∀ (hj : o[k] < ps.length), ps.set o[k] (ps[o[k]] + 1) = partsOf A w (o.take (k + 1)) := by
      subst hps
      intro hj
      rw [List.take_succ_eq_append_getElem hko]
      exact partsOf_step hok (fun hm => by
        obtain ⟨r, hr, he⟩ := List.getElem_of_mem hm
        rw [List.getElem_take] at he
        simp only [List.length_take] at hr
        have := (List.getElem_inj hoN).1 he
        omega)
    ((conv => whnf); repeat' ((first | refine RowSN.setI (by first | assumption | omega | (simp; done) | (simp; omega)) ?_ | refine IntN.mk _ rfl ?_ | refine vv7 ?_ | refine vv20 ?_ | refine IdxN.at0 _ rfl (by first | assumption | omega | (simp <;> omega)) ?_ | refine RowN.map (by first | assumption | omega) ?_) <;> (conv => whnf)))
    exact BackN2.mk (k + 1) (ps.set o[k] ((ps[o[k]]'(by omega)) + 1)) ⟨by omega, hst _⟩ (by omega) (Reabs.frmN [0, 1, 2, 3, 4] (by repeat (first | exact trivial | refine ⟨.inr ⟨rfl, rfl⟩, ?_⟩)) (by repeat (first | exact trivial | refine ⟨⟨_, rfl, blkDeep rfl (by first | exact deepLit rfl | exact deepMap (fun _ => rfl)), fun _ => rfl⟩, ?_⟩)) (by decide) ⟨Nat.zero_le _, fun i hi => absurd hi (Nat.not_lt_zero i)⟩)
  · ((conv => whnf); repeat' ((first | refine vv8 ?_) <;> (conv => whnf)))
    have hkm' : k = m := by omega
    subst hkm'
    rw [divided_eq po so hl] at hps
    subst hps
    refine DoneN.frz 3 _ 3 rfl (deepR (fun _ => rfl)) (DoneN.pure ?_)
    show (AV.sm 3 1 0 _).frz0 3 _ = _
    rw [frz_all (by simp [hpl])]
    rfl
end Go.Proofs.Ax
