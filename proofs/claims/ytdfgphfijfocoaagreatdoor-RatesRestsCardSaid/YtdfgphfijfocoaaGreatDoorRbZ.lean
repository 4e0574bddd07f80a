import Derived.Test.YtdfgphfijfocoaaGreatDoorRbY
namespace Go.Proofs.Ax
open Go Go.Proofs
set_option maxRecDepth 10000
set_option maxHeartbeats 4000000
def firstShares (A : Int) (w : List Int) (i : Nat) : List Int := (List.range i).map (share A w)
def firstKeys (A : Int) (w : List Int) (i : Nat) : List Int := (List.range i).map (key A w.sum w)
theorem rsplit_good (A : Int) (t : Bool) (w : List Int) (h : splitErr A w = 0) : Pu Tryz.prog G1 128 [vi A, ints t w] (.agg [ints false (divided A w), vi 0]) := by
  have hd := splitErr_0 h
  have hn := hd.len
  have hA1 := hd.lo
  have hA2 := hd.hi
  have hp := hd.pos
  refine Pu.of_ev (T := Tryz.tab) (n := 108) (tryd_ok _) Tryz.func128 rfl rfl rfl (by first | rfl | (split <;> rfl)) (by simp) ?_
  ((conv => whnf); repeat' ((first | refine vv8 ?_ | refine vv23 ?_) <;> (conv => whnf)))
  refine LoopN.of2 (tryd_ok _) (fun (k : Nat) (s : Int) => [(0, vi A), (1, ints t w), (4, .pm 0 0 0), (5, vi s), (6, vi k)]) (fun _ _ => [.rows [[nilS, vi 0]] 183]) (fun k _ => w.length - k) (fun k s => k ≤ w.length ∧ s = (w.take k).sum) 0 0 ⟨Nat.zero_le _, by simp⟩ (Reabs.frmN [0] (by repeat (first | exact trivial | refine ⟨.inr ⟨rfl, rfl⟩, ?_⟩)) (by repeat (first | exact trivial | refine ⟨⟨_, rfl, blkDeep rfl (by first | exact deepLit rfl | exact deepMap (fun _ => rfl)), fun _ => rfl⟩, ?_⟩)) (by decide) ⟨Nat.zero_le _, fun i hi => absurd hi (Nat.not_lt_zero i)⟩) ?_
  rintro k s ⟨hk, hs⟩
  have hb := take_sum_bd hd.wlo hd.whi k
  rw [← hs] at hb
  by_cases hlt : k < w.length
  · have h1 := hd.wlo _ (List.getElem_mem hlt)
    have h2 := hd.whi _ (List.getElem_mem hlt)
    ((conv => whnf); repeat' ((first | refine vv7 ?_ | refine vv9 ?_ | refine vv20 ?_ | refine SlIdxN.map _ rfl (by first | assumption | omega) ?_ | refine vv23 ?_ | refine CallN.pure (in_ok _ _ _) ?_) <;> (conv => whnf)))
    exact BackN2.mk (k + 1) (s + w[k]) ⟨by omega, by rw [take_sum_succ hlt, hs]⟩ (by omega) (Reabs.frmN [0] (by repeat (first | exact trivial | refine ⟨.inr ⟨rfl, rfl⟩, ?_⟩)) (by repeat (first | exact trivial | refine ⟨⟨_, rfl, blkDeep rfl (by first | exact deepLit rfl | exact deepMap (fun _ => rfl)), fun _ => rfl⟩, ?_⟩)) (by decide) ⟨Nat.zero_le _, fun i hi => absurd hi (Nat.not_lt_zero i)⟩)
  have hS : s = w.sum := by rw [hs, List.take_of_length_le (by omega)]
  subst hS
  clear hs
  ((conv => whnf); repeat' ((first | refine vv8 ?_ | refine vv9 ?_ | refine vv23 ?_ | refine CallN.pure (in_ok _ _ _) ?_) <;> (conv => whnf)))
  clear hlt hk
  refine LoopN.of4 (tryd_ok _) (fun (i : Nat) (r : Int) (ps ls : List Int) => [(0, vi A), (1, ints t w), (4, .pm 0 0 0), (5, vi w.sum), (7, .sm 1 1 0 i), (8, .sm 2 1 0 i), (9, vi r), (10, vi i)]) (fun i r ps ls => [.rows [[nilS, vi 0]] 183, .rows (ps.map intRow) 3, .rows (ls.map intRow) 3]) (fun i _ _ _ => w.length - i)
    (fun i r ps ls => i ≤ w.length ∧ r = A - shares A w i ∧ ps = firstShares A w i ∧ ls = firstKeys A w i) 0 A [] [] ⟨Nat.zero_le _, by simp [shares], rfl, rfl⟩
    ((Reabs.virt 7 1 3 rfl).trans ((Reabs.virt 8 1 3 rfl).trans (Reabs.frmN [0, 1, 2] (by repeat (first | exact trivial | refine ⟨.inr ⟨rfl, rfl⟩, ?_⟩)) (by repeat (first | exact trivial | refine ⟨⟨_, rfl, blkDeep rfl (by first | exact deepLit rfl | exact deepMap (fun _ => rfl)), fun _ => rfl⟩, ?_⟩)) (by decide) ⟨Nat.zero_le _, fun i hi => absurd hi (Nat.not_lt_zero i)⟩))) ?_
  rintro i r ps ls ⟨hi, hr, hps, hls⟩
  have hpl : ps.length = i := by rw [hps]; simp [firstShares]
  have hll : ls.length = i := by rw [hls]; simp [firstKeys]
  have hsb := shares_bd hd hi
  by_cases hlt : i < w.length
  · have hsb' := shares_bd hd (show i + 1 ≤ w.length by omega)
    rw [shares_succ] at hsb'
    have hpr := prod_bd hd (List.getElem_mem hlt)
    have hdv : (A * w[i]).tdiv w.sum = share A w i := by rw [Int.tdiv_eq_ediv_of_nonneg hpr.1]; simp [share, hlt]
    have hmd : (A * w[i]).tmod w.sum = key A w.sum w i := by rw [Int.tmod_eq_emod_of_nonneg hpr.1]; simp [key, hlt]
    have hsn := share_nonneg hd hlt
    have hmb := key_bd hd.keyed i
    ((conv => whnf); repeat' ((first | refine vv7 ?_ | refine vv20 ?_ | refine SlIdxN.map _ rfl (by first | assumption | omega) ?_ | refine vv23 ?_ | refine Need.mk (by first | assumption | omega | (simp <;> omega)) ?_ | refine vv31 ?_ | refine vv33 ?_) <;> (conv => whnf)))
    exact BackN4.mk (i + 1) (r - (A * w[i]).tdiv w.sum) (ps ++ [(A * w[i]).tdiv w.sum]) (ls ++ [(A * w[i]).tmod w.sum]) ⟨by omega, by rw [hr, hdv, shares_succ]; omega, by rw [hps, hdv]; simp [firstShares, List.range_succ], by rw [hls, hmd]; simp [firstKeys, List.range_succ]⟩ (by omega)
      (Reabs.frmN [0, 3, 4] (by exact ⟨.inr ⟨rfl, rfl⟩, .inr ⟨rfl, rfl⟩, .inr ⟨rfl, rfl⟩, .inr ⟨rfl, rfl⟩, .inr ⟨rfl, by show AV.sm 3 1 0 (ps.length + 1) = AV.sm 3 1 0 (i + 1); rw [hpl]⟩, .inr ⟨rfl, by show AV.sm 4 1 0 (ls.length + 1) = AV.sm 4 1 0 (i + 1); rw [hll]⟩, .inr ⟨rfl, rfl⟩, .inr ⟨rfl, rfl⟩, trivial⟩)
        (by exact ⟨⟨_, rfl, blkDeep rfl (deepLit rfl), fun _ => rfl⟩, ⟨_, rfl, blkDeep (by rw [List.map_append]; rfl) (deepMap (fun _ => rfl)), fun _ => rfl⟩, ⟨_, rfl, blkDeep (by rw [List.map_append]; rfl) (deepMap (fun _ => rfl)), fun _ => rfl⟩, trivial⟩) (by decide) ⟨Nat.zero_le _, fun i hi => absurd hi (Nat.not_lt_zero i)⟩)
  have hin : i = w.length := by omega
  subst hin
  have hps' : ps = partsOf A w [] := by rw [hps, partsOf_nil]; rfl
  have hls' : ls = leftOf A w [] := by rw [hls]; simp [firstKeys, leftOf]
  clear hps hls
  obtain ⟨o, po, so⟩ := order_ex (key A w.sum w) w.length
  have hol : o.length = w.length := by rw [po.length_eq, List.length_range]
  have hoN : o.Nodup := po.nodup_iff.2 List.nodup_range
  have hlb := left_bd hd
  rw [← hr] at hlb
  obtain ⟨m, rfl⟩ : ∃ m : Nat, r = m := ⟨r.toNat, by omega⟩
  ((conv => whnf); repeat' ((first | refine vv8 ?_ | refine vv23 ?_) <;> (conv => whnf)))
  refine LoopN.of4 (tryd_ok _) (fun (c : Nat) (r : Int) (ps ls : List Int) => [(4, .pm 0 0 0), (7, .sm 1 1 0 w.length), (8, .sm 2 1 0 w.length), (9, vi r)]) (fun c r ps ls => [.rows [[nilS, vi 0]] 183, .rows (ps.map intRow) 3, .rows (ls.map intRow) 3]) (fun _ r _ _ => r.toNat)
    (fun c r ps ls => c ≤ m ∧ r = (m : Int) - c ∧ ps = partsOf A w (o.take c) ∧ ls = leftOf A w (o.take c)) 0 m ps ls ⟨Nat.zero_le _, by omega, by rw [hps']; simp, by rw [hls']; simp⟩ (Reabs.frmN [0, 1, 2] (by repeat (first | exact trivial | refine ⟨.inr ⟨rfl, rfl⟩, ?_⟩)) (by repeat (first | exact trivial | refine ⟨⟨_, rfl, blkDeep rfl (by first | exact deepLit rfl | exact deepMap (fun _ => rfl)), fun _ => rfl⟩, ?_⟩)) (by decide) ⟨Nat.zero_le _, fun i hi => absurd hi (Nat.not_lt_zero i)⟩) ?_
  clear hps' hls' hpl hll hlt ps ls
  rintro c r ps ls ⟨hc, hr2, hps, hls⟩
  have hpl : ps.length = w.length := by rw [hps, partsOf_len]
  have hll : ls.length = w.length := by rw [hls, leftOf_len]
  by_cases hcm : c < m
  · have hco : c < o.length := by omega
    have hoc : o[c] < w.length := List.mem_range.1 (po.mem_iff.1 (List.getElem_mem hco))
    ((conv => whnf); repeat' ((first | refine vv7 ?_) <;> (conv => whnf)))
    refine LoopN.of2 (tryd_ok _) (fun (i b : Nat) => [(4, .pm 0 0 0), (7, .sm 1 1 0 w.length), (8, .sm 2 1 0 w.length), (9, vi r), (12, vi b), (13, vi i)]) (fun _ _ => [.rows [[nilS, vi 0]] 183, .rows (ps.map intRow) 3, .rows (ls.map intRow) 3]) (fun i _ => w.length - i)
      (fun i b => i ≤ w.length ∧ b < w.length ∧ (∀ j, j < i → ls.getD j 0 ≤ ls.getD b 0) ∧ ∀ j, j < b → ls.getD j 0 < ls.getD b 0) 0 0 ⟨Nat.zero_le _, by omega, fun j hj => absurd hj (Nat.not_lt_zero j), fun j hj => absurd hj (Nat.not_lt_zero j)⟩ (Reabs.frmN [0, 1, 2] (by repeat (first | exact trivial | refine ⟨.inr ⟨rfl, rfl⟩, ?_⟩)) (by repeat (first | exact trivial | refine ⟨⟨_, rfl, blkDeep rfl (by first | exact deepLit rfl | exact deepMap (fun _ => rfl)), fun _ => rfl⟩, ?_⟩)) (by decide) ⟨Nat.zero_le _, fun i hi => absurd hi (Nat.not_lt_zero i)⟩) ?_
    rintro i b ⟨hi, hb, g1, g2⟩
    have hgb : ls.getD b 0 = ls[b] := getD_lt (by omega)
    by_cases hin : i < w.length
    · have hgi : ls.getD i 0 = ls[i] := getD_lt (by omega)
      ((conv => whnf); repeat' ((first | refine vv7 ?_ | refine vv11 (fun hbr => ?_) (fun hbr => ?_) | refine vv20 ?_ | refine IdxN.at0 _ rfl (by first | assumption | omega | (simp <;> omega)) ?_ | refine RowN.map (by first | assumption | omega) ?_ | refine vv25 ?_ | refine DrawN.gen (by first | exact tryd_ok _ | exact tryd_okm _ _) (by kernel_rfl) ?_) <;> (conv => whnf)))
      · refine BackN2.mk (i + 1) i ⟨by omega, hin, fun j hj => ?_, fun j hj => ?_⟩ (by omega) (Reabs.frmN [0, 1, 2] (by repeat (first | exact trivial | refine ⟨.inr ⟨rfl, rfl⟩, ?_⟩)) (by repeat (first | exact trivial | refine ⟨⟨_, rfl, blkDeep rfl (by first | exact deepLit rfl | exact deepMap (fun _ => rfl)), fun _ => rfl⟩, ?_⟩)) (by decide) ⟨Nat.zero_le _, fun i hi => absurd hi (Nat.not_lt_zero i)⟩)
        · by_cases hji : j < i
          · have := g1 j hji; omega
          · rw [show j = i by omega]; exact Int.le_refl _
        · have := g1 j hj; omega
      · refine BackN2.mk (i + 1) b ⟨by omega, hb, fun j hj => ?_, g2⟩ (by omega) (Reabs.frmN [0, 1, 2] (by repeat (first | exact trivial | refine ⟨.inr ⟨rfl, rfl⟩, ?_⟩)) (by repeat (first | exact trivial | refine ⟨⟨_, rfl, blkDeep rfl (by first | exact deepLit rfl | exact deepMap (fun _ => rfl)), fun _ => rfl⟩, ?_⟩)) (by decide) ⟨Nat.zero_le _, fun i hi => absurd hi (Nat.not_lt_zero i)⟩)
        by_cases hji : j < i
        · exact g1 j hji
        · rw [show j = i by omega]; omega
    · have hbc : b = o[c] := best_is hd po so hco hb (fun j hj => by rw [← hls]; exact g1 j (by omega)) (fun j hj => by rw [← hls]; exact g2 j hj)
      have hv : 0 ≤ ps[b] ∧ ps[b] ≤ 1099511627776000001 := by subst hps; exact parts_bd hd _
      have htk : o.take (c + 1) = o.take c ++ [b] := by rw [hbc]; exact List.take_succ_eq_append_getElem hco
      have hnb : b ∉ o.take c := fun hm => by
        obtain ⟨r', hr', he⟩ := List.getElem_of_mem hm
        rw [List.getElem_take, hbc] at he
        simp only [List.length_take] at hr'
        have := (List.getElem_inj hoN).1 he
        omega
      ((conv => whnf); repeat' ((first | refine RowSN.setI (by first | assumption | omega | (simp; done) | (simp; omega)) ?_ | refine IntN.mk _ rfl ?_ | refine vv8 ?_ | refine vv20 ?_ | refine IdxN.at0 _ rfl (by first | assumption | omega | (simp <;> omega)) ?_ | refine RowN.map (by first | assumption | omega) ?_) <;> (conv => whnf)))
      exact BackN4.mk (c + 1) (r - 1) (ps.set b (ps[b] + 1)) (ls.set b (-1)) ⟨by omega, by omega, by rw [htk]; subst hps; exact partsOf_step hb hnb, by rw [htk]; subst hls; exact leftOf_step⟩ (by omega) (Reabs.frmN [0, 1, 2] (by repeat (first | exact trivial | refine ⟨.inr ⟨rfl, rfl⟩, ?_⟩)) (by repeat (first | exact trivial | refine ⟨⟨_, rfl, blkDeep rfl (by first | exact deepLit rfl | exact deepMap (fun _ => rfl)), fun _ => rfl⟩, ?_⟩)) (by decide) ⟨Nat.zero_le _, fun i hi => absurd hi (Nat.not_lt_zero i)⟩)
  · have hcm' : c = m := by omega
    subst hcm'
    rw [divided_eq po so hr] at hps
    subst hps
    ((conv => whnf); repeat' ((first | refine vv8 ?_ | refine vv21 ?_ | refine vv22 ?_) <;> (conv => whnf)))
    refine DoneN.frz 1 _ 3 rfl (deepR (fun _ => rfl)) (DoneN.pure ?_)
    show AV.agg [(AV.sm 1 1 0 _).frz0 1 _, vi 0] = _
    rw [frz_all (by simp [hpl])]
    rfl
end Go.Proofs.Ax
