import Derived.Test.YtedekogkeamacaaGreatDoorCcAF
import Derived.Test.YtedekogkeamacaaGreatDoorAxG
namespace Go.Proofs.Ax
open Go Go.Proofs Go.Proofs.Cu
set_option maxRecDepth 10000
set_option maxHeartbeats 4000000
section
theorem clone105_ef (l : List Int) (hmax : l.length ≤ 1000000) : Ef Tryz.prog G1 105 [ints l] [] fun y H' => y = .sm 0 1 0 l.length ∧ H' = [.rows (l.map intR) 3] := by
  refine Ef.reabs ?_; by_cases hl : l = []
  · subst hl; refine Ef.mt 0 1 false rfl ?_ ?_
    · refine Ef.of_ev (T := Tryz.tab) (n := 8) (tryd_okm 0 _) rfl Tryz.func105 rfl rfl (by simp) ?_
      (conv => whnf)
      refine StepN.mk (.sc (.bool true)) [] (by kernel_rfl) ?_
      (conv => whnf); repeat' (first | refine vv1 ?_) <;> conv => whnf
      refine ⟨⟨_, [.rows [] 3], ?_, rfl, rfl⟩⟩; exact Reabs.virt 0 1 3 rfl
    refine Ef.of_ev (T := Tryz.tab) (n := 8) (tryd_okm 0 _) rfl Tryz.func105 rfl rfl (by simp) ?_
    (conv => whnf)
    refine StepN.mk (.sc (.bool false)) [] (by kernel_rfl) ?_
    (conv => whnf); repeat' (first | refine Need.mk (.inl rfl) ?_ | refine Qn 0 ?_ | refine vv2 ?_) <;> conv => whnf
    refine ⟨⟨_, [.rows [] 3], ?_, rfl, rfl⟩⟩; exact QM [0]
  obtain ⟨x, l, rfl⟩ := List.exists_cons_of_ne_nil hl; have hm : l.length + 1 ≤ 1000000 := by simpa using hmax
  refine Ef.of_ev (T := Tryz.tab) (n := 8) (tryd_okm 0 _) rfl Tryz.func105 rfl rfl (by simp) ?_
  (conv => whnf)
  refine StepN.mk (.sc (.bool false)) [] (by kernel_rfl) ?_
  (conv => whnf); repeat' (first | refine Qn (l.length + 1) ?_ | refine vv2 ?_ | refine Need.mk (by first | assumption | omega | (simp <;> omega)) ?_) <;> conv => whnf
  refine ⟨⟨_, [.rows ((x :: l).map intR) 3], ?_, rfl, rfl⟩⟩; exact QM [0] (hb := bv1 bv0)
theorem clone105_ok (l : List Int) (hmax : l.length ≤ 1000000) : Pu Tryz.prog G1 105 [ints l] (ints l) :=
  Pu.of_fin ⟨(clone105_ef l hmax).1, (clone105_ef l hmax).2.mono fun y H' h => by
    obtain ⟨rfl, rfl⟩ := h
    exact .sm0 rfl (deepR (fun _ => rfl)) (by rw [List.length_map])⟩ rfl rfl
theorem clone147_ef (l : List Entr) (hmax : l.length ≤ 1000000) : Ef Tryz.prog G1 147 [entries l] [] fun y H' => y = .sm 0 7 0 l.length ∧ H' = [.rows (l.map encE) 68] := by
  refine Ef.reabs ?_; by_cases hl : l = []
  · subst hl; refine Ef.mt 0 7 false rfl ?_ ?_
    · refine Ef.of_ev (T := Tryz.tab) (n := 8) (tryd_okm 0 _) rfl Tryz.func147 rfl rfl (by simp) ?_
      (conv => whnf)
      refine StepN.mk (.sc (.bool true)) [] (by kernel_rfl) ?_
      (conv => whnf); repeat' (first | refine vv1 ?_) <;> conv => whnf
      refine ⟨⟨_, [.rows [] 68], ?_, rfl, rfl⟩⟩; exact Reabs.virt 0 7 68 rfl
    refine Ef.of_ev (T := Tryz.tab) (n := 8) (tryd_okm 0 _) rfl Tryz.func147 rfl rfl (by simp) ?_
    (conv => whnf)
    refine StepN.mk (.sc (.bool false)) [] (by kernel_rfl) ?_
    (conv => whnf); repeat' (first | refine Need.mk (.inl rfl) ?_ | refine Qn 0 ?_ | refine vv2 ?_) <;> conv => whnf
    refine ⟨⟨_, [.rows [] 68], ?_, rfl, rfl⟩⟩; exact QM [0]
  obtain ⟨x, l, rfl⟩ := List.exists_cons_of_ne_nil hl; have hm : l.length + 1 ≤ 1000000 := by simpa using hmax
  refine Ef.of_ev (T := Tryz.tab) (n := 8) (tryd_okm 0 _) rfl Tryz.func147 rfl rfl (by simp) ?_
  (conv => whnf)
  refine StepN.mk (.sc (.bool false)) [] (by kernel_rfl) ?_
  (conv => whnf); repeat' (first | refine Qn (l.length + 1) ?_ | refine vv2 ?_ | refine Need.mk (by first | assumption | omega | (simp <;> omega)) ?_) <;> conv => whnf
  refine ⟨⟨_, [.rows ((x :: l).map encE) 68], ?_, rfl, rfl⟩⟩; exact QM [0] (hb := bv1 bv0)
theorem clone147_at (l : List Entr) (hmax : l.length ≤ 1000000) (H : AH) (N : Nat) (hN : H.length = N) : Ef Tryz.prog G1 147 [entries l] H fun y H' => y = .sm N 7 0 l.length ∧ H' = H ++ [.rows (l.map encE) 68] := by
  subst hN; refine Ef.subD (clone147_ef l hmax) rfl (Nat.zero_le _) ⟨okDeep (deepR (fun _ => rfl)) _, trivial⟩ [] (by simp) trivial rfl (fun x hx => ?_) rfl ?_
  · simp only [List.mem_cons, List.not_mem_nil, or_false] at hx; rcases hx with rfl; rfl
  show H ++ [ABlk.ren _ _] = _; rw [ren_deepB (deepR (fun _ => rfl))]
theorem clone148_ef (l : List Pers) (hmax : l.length ≤ 1000000) : Ef Tryz.prog G1 148 [persons l] [] fun y H' => y = .sm 0 2 0 l.length ∧ H' = [.rows (l.map encP) 59] := by
  refine Ef.reabs ?_; by_cases hl : l = []
  · subst hl; refine Ef.mt 0 2 false rfl ?_ ?_
    · refine Ef.of_ev (T := Tryz.tab) (n := 8) (tryd_okm 0 _) rfl Tryz.func148 rfl rfl (by simp) ?_
      (conv => whnf)
      refine StepN.mk (.sc (.bool true)) [] (by kernel_rfl) ?_
      (conv => whnf); repeat' (first | refine vv1 ?_) <;> conv => whnf
      refine ⟨⟨_, [.rows [] 59], ?_, rfl, rfl⟩⟩; exact Reabs.virt 0 2 59 rfl
    refine Ef.of_ev (T := Tryz.tab) (n := 8) (tryd_okm 0 _) rfl Tryz.func148 rfl rfl (by simp) ?_
    (conv => whnf)
    refine StepN.mk (.sc (.bool false)) [] (by kernel_rfl) ?_
    (conv => whnf); repeat' (first | refine Need.mk (.inl rfl) ?_ | refine Qn 0 ?_ | refine vv2 ?_) <;> conv => whnf
    refine ⟨⟨_, [.rows [] 59], ?_, rfl, rfl⟩⟩; exact QM [0]
  obtain ⟨x, l, rfl⟩ := List.exists_cons_of_ne_nil hl; have hm : l.length + 1 ≤ 1000000 := by simpa using hmax
  refine Ef.of_ev (T := Tryz.tab) (n := 8) (tryd_okm 0 _) rfl Tryz.func148 rfl rfl (by simp) ?_
  (conv => whnf)
  refine StepN.mk (.sc (.bool false)) [] (by kernel_rfl) ?_
  (conv => whnf); repeat' (first | refine Qn (l.length + 1) ?_ | refine vv2 ?_ | refine Need.mk (by first | assumption | omega | (simp <;> omega)) ?_) <;> conv => whnf
  refine ⟨⟨_, [.rows ((x :: l).map encP) 59], ?_, rfl, rfl⟩⟩; exact QM [0] (hb := bv1 bv0)
theorem clone148_at (l : List Pers) (hmax : l.length ≤ 1000000) (H : AH) (N : Nat) (hN : H.length = N) : Ef Tryz.prog G1 148 [persons l] H fun y H' => y = .sm N 2 0 l.length ∧ H' = H ++ [.rows (l.map encP) 59] := by
  subst hN; refine Ef.subD (clone148_ef l hmax) rfl (Nat.zero_le _) ⟨okDeep (deepR (fun _ => rfl)) _, trivial⟩ [] (by simp) trivial rfl (fun x hx => ?_) rfl ?_
  · simp only [List.mem_cons, List.not_mem_nil, or_false] at hx; rcases hx with rfl; rfl
  show H ++ [ABlk.ren _ _] = _; rw [ren_deepB (deepR (fun _ => rfl))]
theorem clone149_ef (l : List Spn) (hmax : l.length ≤ 1000000) : Ef Tryz.prog G1 149 [spans l] [] fun y H' => y = .sm 0 2 0 l.length ∧ H' = [.rows (l.map encS) 28] := by
  refine Ef.reabs ?_; by_cases hl : l = []
  · subst hl; refine Ef.mt 0 2 false rfl ?_ ?_
    · refine Ef.of_ev (T := Tryz.tab) (n := 8) (tryd_okm 0 _) rfl Tryz.func149 rfl rfl (by simp) ?_
      (conv => whnf)
      refine StepN.mk (.sc (.bool true)) [] (by kernel_rfl) ?_
      (conv => whnf); repeat' (first | refine vv1 ?_) <;> conv => whnf
      refine ⟨⟨_, [.rows [] 28], ?_, rfl, rfl⟩⟩; exact Reabs.virt 0 2 28 rfl
    refine Ef.of_ev (T := Tryz.tab) (n := 8) (tryd_okm 0 _) rfl Tryz.func149 rfl rfl (by simp) ?_
    (conv => whnf)
    refine StepN.mk (.sc (.bool false)) [] (by kernel_rfl) ?_
    (conv => whnf); repeat' (first | refine Need.mk (.inl rfl) ?_ | refine Qn 0 ?_ | refine vv2 ?_) <;> conv => whnf
    refine ⟨⟨_, [.rows [] 28], ?_, rfl, rfl⟩⟩; exact QM [0]
  obtain ⟨x, l, rfl⟩ := List.exists_cons_of_ne_nil hl; have hm : l.length + 1 ≤ 1000000 := by simpa using hmax
  refine Ef.of_ev (T := Tryz.tab) (n := 8) (tryd_okm 0 _) rfl Tryz.func149 rfl rfl (by simp) ?_
  (conv => whnf)
  refine StepN.mk (.sc (.bool false)) [] (by kernel_rfl) ?_
  (conv => whnf); repeat' (first | refine Qn (l.length + 1) ?_ | refine vv2 ?_ | refine Need.mk (by first | assumption | omega | (simp <;> omega)) ?_) <;> conv => whnf
  refine ⟨⟨_, [.rows ((x :: l).map encS) 28], ?_, rfl, rfl⟩⟩; exact QM [0] (hb := bv1 bv0)
theorem clone149_ok (l : List Spn) (hmax : l.length ≤ 1000000) : Pu Tryz.prog G1 149 [spans l] (spans l) :=
  Pu.of_fin ⟨(clone149_ef l hmax).1, (clone149_ef l hmax).2.mono fun y H' h => by
    obtain ⟨rfl, rfl⟩ := h
    exact .sm0 rfl (deepR (fun _ => rfl)) (by rw [List.length_map])⟩ rfl rfl
abbrev delE (q : Entr → Bool) (b : List Entr) : List Entr := b.filter fun x => !q x
theorem delE_succ {q : Entr → Bool} {b : List Entr} {k : Nat} (h : k < b.length) : delE q (b.take (k + 1)) = delE q (b.take k) ++ if q b[k] = true then [] else [b[k]] := by
  unfold delE; rw [take_succ_snoc h, List.filter_append]
  cases hq : q b[k] <;> simp [hq]
theorem delE_pre {q : Entr → Bool} {b : List Entr} (h : ∀ x ∈ b, q x = false) : delE q b = b := List.filter_eq_self.2 fun c hc => by simp [h c hc]
theorem idxEm_ef (F : FuncId) (z0 : List AV) (_hz : ∀ n, (AV.fn (.func F) [] [.pi z0]).ok n = true) (q : Entr → Bool) (b : List Entr) (hF : ∀ x, Pu Tryz.prog G1 F [.agg (encE x), .pi z0] (vb (q x))) (hmax : b.length ≤ 1000000) :
    Ef Tryz.prog G1 79 [.sm 0 7 0 b.length, .fn (.func F) [] [.pi z0]] [.rows (b.map encE) 68] fun y H' => y = vi (idxInt b.length (b.findIdx q)) ∧ H' = [.rows (b.map encE) 68] := by
  refine Ef.reabs (Ef.of_ev (T := Tryz.tab) (n := 19) (tryd_okm 1 _) rfl Tryz.func79 rfl rfl (by simp) ?_)
  (conv => whnf)
  refine LoopN.of (tryd_okm 1 _) (fun k : Nat => [(0, .sm 0 7 0 b.length), (1, .fn (.func F) [] [.pi z0]), (7, vi b.length), (8, vi k)]) (fun _ => [.rows (b.map encE) 68]) (fun k => b.length - k) (fun k => k ≤ b.length ∧ ∀ i (h : i < b.length), i < k → q b[i] = false) 0 ⟨Nat.zero_le _, fun i h hi => by omega⟩ (QM [0]) ?_; rintro k ⟨hk, hall⟩; by_cases hlt : k < b.length
  · have hf := hF b[k]
    cases hp : q b[k] with
    | true =>
      rw [hp] at hf; have e : b.findIdx q = k := (List.findIdx_eq hlt).2 ⟨hp, fun j hj => hall j (by omega) hj⟩
      (conv => whnf); repeat' (first | refine vv1 ?_ | refine vv7 ?_ | refine IdxN.at0 _ rfl (by first | assumption | omega | (simp <;> omega)) ?_ | refine RowN.map (by first | assumption | omega) ?_ | refine Qp hf ?_) <;> conv => whnf
      refine ⟨⟨_, [.rows (b.map encE) 68], ?_, rfl, rfl⟩⟩; rw [e, idxInt, if_pos hlt]; exact Reabs.frmM [0] (by repeat (first | exact sv0 | refine sv1 ?_)) (by repeat (first | exact bv0 | refine bv1 ?_)) rfl rfl
    | false =>
      rw [hp] at hf
      repeat' ((conv => whnf); first | refine vv2 ?_ | refine vv7 ?_ | refine vv20 ?_ | refine IdxN.at0 _ rfl (by first | assumption | omega | (simp <;> omega)) ?_ | refine RowN.map (by first | assumption | omega) ?_ | refine Qp hf ?_)
      refine BackN.mk (k + 1) ⟨by omega, fun i h hi => ?_⟩ (by omega) (QM [0]); by_cases hq : i = k
      subst hq; exact hp; exact hall i h (by omega)
  have e : b.findIdx q = b.length := List.findIdx_eq_length.2 fun x hx => by
    obtain ⟨i, hi, rfl⟩ := List.getElem_of_mem hx; simp [hall i hi (by omega)]
  (conv => whnf); repeat' (first | refine vv8 ?_) <;> conv => whnf
  refine ⟨⟨_, [.rows (b.map encE) 68], ?_, rfl, rfl⟩⟩; rw [e, idxInt, if_neg (by omega)]; exact Reabs.frmM [0] (by repeat (first | exact sv0 | refine sv1 ?_)) (by repeat (first | exact bv0 | refine bv1 ?_)) rfl rfl
theorem idxEm_in (F : FuncId) (z0 : List AV) (hz : ∀ n, (AV.fn (.func F) [] [.pi z0]).ok n = true) (q : Entr → Bool) (b : List Entr) (hF : ∀ x, Pu Tryz.prog G1 F [.agg (encE x), .pi z0] (vb (q x))) (hmax : b.length ≤ 1000000) (H : AH) (i n : Nat) (hn : n = b.length) (hi : nthB H i = some (.rows (b.map encE) 68)) (v : Int) (hv : v = idxInt b.length (b.findIdx q)) :
    Ef Tryz.prog G1 79 [.sm i 7 0 n, .fn (.func F) [] [.pi z0]] H fun y H' => y = vi v ∧ H' = H := by
  subst hn; subst hv; refine Ef.subD (idxEm_ef F z0 hz q b hF hmax) rfl (Nat.le_refl _) ⟨okDeep (deepR (fun _ => rfl)) _, trivial⟩ [i] (by simp) ⟨⟨_, hi, blkDeep rfl (deepMap (fun _ => rfl)), fun _ => rfl⟩, trivial⟩ rfl (fun x hx => ?_) rfl ?_
  · simp only [List.mem_cons, List.not_mem_nil, or_false] at hx
    rcases hx with rfl | rfl
    rfl; exact hz _
  show H.set i (ABlk.ren _ _) ++ [] = _; rw [List.append_nil, ren_deepB (deepR (fun _ => rfl))]; rw [nthB_eq] at hi; obtain ⟨hlt, he⟩ := List.getElem?_eq_some_iff.1 hi; rw [← he, List.set_getElem_self]
end
section
theorem set_drop2 {α : Type} {r : List α} {i j : Nat} {c : α} (h : i < j) : (r.set i c).drop j = r.drop j := by
  refine List.ext_getElem? fun m => ?_
  rw [List.getElem?_drop, List.getElem?_drop, List.getElem?_set, if_neg (by omega)]
theorem set_take2 {α : Type} {r : List α} {i : Nat} {c : α} (h : i < r.length) : (r.set i c).take (i + 1) = r.take i ++ [c] := by rw [take_succ_snoc (by simpa using h), List.take_set_of_le (Nat.le_refl _), List.getElem_set_self]
theorem del136_ef (F : FuncId) (z0 : List AV) (hz : ∀ n, (AV.fn (.func F) [] [.pi z0]).ok n = true) (q : Entr → Bool) (b : List Entr) (hF : ∀ x, Pu Tryz.prog G1 F [.agg (encE x), .pi z0] (vb (q x))) (hmax : b.length ≤ 1000000) :
    Ef Tryz.prog G1 136 [.sm 0 7 0 b.length, .fn (.func F) [] [.pi z0]] [.rows (b.map encE) 68] fun y H' => y = .sm 0 7 0 (delE q b).length ∧ H' = [.rows ((delE q b).map encE) 68] := by
  have hix := fun v hv => idxEm_in F z0 hz q b hF hmax [.rows (b.map encE) 68] 0 b.length rfl rfl v hv
  refine Ef.reabs (Ef.of_code (T := Tryz.tab) (n := 42) (tryd_okm 1 _) rfl Tryz.func136 rfl rfl (by simp) ?_); by_cases hi0 : b.findIdx q < b.length
  case neg =>
    have hall : ∀ x ∈ b, q x = false := fun c hc => by
      have h1 := List.findIdx_le_length (xs := b) (p := q); exact List.findIdx_eq_length.1 (show b.findIdx q = b.length by omega) c hc
    have hx := hix (-1) (if_neg hi0).symm; rw [delE_pre hall]; refine CodeN.of_ev (tryd_okm 1 _) ?_
    (conv => whnf); repeat' (first | refine CallN.efD hx ?_ | refine vv1 ?_) <;> conv => whnf
    refine ⟨⟨_, [.rows (b.map encE) 68], ?_, rfl, rfl⟩⟩; exact Reabs.frmM [0] (by repeat (first | exact sv0 | refine sv1 ?_)) (by repeat (first | exact bv0 | refine bv1 ?_)) rfl rfl
  have hx := hix _ (if_pos hi0).symm; have hzz := List.findIdx_getElem (w := hi0)
  have hpre : ∀ i (h : i < b.length), i < b.findIdx q → q b[i] = false := fun i h hi => by
    have := List.not_of_lt_findIdx hi; simpa using this
  generalize b.findIdx q = i0 at *
  have hk0 : delE q (b.take (i0 + 1)) = b.take i0 := by
    rw [delE_succ hi0, if_pos hzz, List.append_nil]
    refine delE_pre fun c hc => ?_
    obtain ⟨i, hi, rfl⟩ := List.getElem_of_mem hc; rw [List.length_take] at hi; rw [List.getElem_take]; exact hpre i (by omega) (by omega)
  refine CodeN.seqE (tryd_okm 1 _) ?_
  (conv => whnf)
  refine CodeN.seqE (tryd_okm 1 _) ?_
  (conv => whnf); repeat' (first | refine CallN.efD hx ?_) <;> conv => whnf
  refine CodeN.seqE (tryd_okm 1 _) ?_
  (conv => whnf); repeat' (first | refine vv2 ?_) <;> conv => whnf
  refine CodeN.seqE (tryd_okm 1 _) ?_
  (conv => whnf); repeat' (first | refine vv20 ?_) <;> conv => whnf
  refine LoopN.of2 (tryd_okm 1 _) (fun (j : Nat) (r : List Entr) => [(0, .sm 0 7 0 b.length), (1, .fn (.func F) [] [.pi z0]), (5, vi (delE q (b.take j)).length), (6, vi j)]) (fun _ r => [.rows (r.map encE) 68]) (fun j _ => b.length - j) (fun j r => j ≤ b.length ∧ (delE q (b.take j)).length < j ∧ r.length = b.length ∧ r.take (delE q (b.take j)).length = delE q (b.take j) ∧ r.drop j = b.drop j) (i0 + 1) b
    ⟨by omega, by rw [hk0, List.length_take]; omega, rfl, by rw [hk0, List.length_take, Nat.min_eq_left (by omega)], rfl⟩ (QM [0] (hs := by rw [hk0, List.length_take, Nat.min_eq_left (by omega)]; exact (by repeat (first | exact sv0 | refine sv1 ?_ | refine sv2 ?_ | refine sv3 ?_)))) ?_
  rintro j r ⟨hj, hij, hr, ht, hd⟩; clear hk0 hpre hzz hx hix; by_cases hlt : j < b.length
  · have hs := delE_succ (q := q) hlt
    have hrj : r[j] = b[j] := by
      have h1 : (r.drop j)[0]? = (b.drop j)[0]? := by rw [hd]
      rw [List.getElem?_drop, List.getElem?_drop, Nat.add_zero, List.getElem?_eq_getElem (by omega), List.getElem?_eq_getElem hlt] at h1; exact Option.some.inj h1
    have hf := hF r[j]
    have hd2 : r.drop (j + 1) = b.drop (j + 1) := by
      have := congrArg (List.drop 1) hd
      rwa [List.drop_drop, List.drop_drop] at this
    rw [← hrj] at hs
    cases hq : q r[j] with
    | true =>
      rw [hq] at hf; rw [if_pos hq, List.append_nil] at hs
      repeat' ((conv => whnf); first | refine vv2 ?_ | refine vv7 ?_ | refine vv20 ?_ | refine IdxN.at0 _ rfl (by first | assumption | omega | (simp <;> omega)) ?_ | refine vv21 ?_ | refine RowN.map (by first | assumption | omega) ?_ | refine vv22 ?_ | refine Qp hf ?_)
      refine BackN2.mk (j + 1) r ⟨by omega, by rw [hs]; omega, hr, by rw [hs]; exact ht, hd2⟩ (by omega) (QM [0] (hs := by rw [hs]; exact (by repeat (first | exact sv0 | refine sv1 ?_ | refine sv2 ?_ | refine sv3 ?_))))
    | false =>
      rw [hq] at hf; rw [if_neg (by rw [hq]; simp)] at hs; have hl : (delE q (b.take (j + 1))).length = (delE q (b.take j)).length + 1 := by rw [hs, List.length_append]; rfl
      generalize hi : (delE q (b.take j)).length = i at *
      repeat' ((conv => whnf); first | refine vv1 ?_ | refine vv7 ?_ | refine vv20 ?_ | refine IdxN.at0 _ rfl (by first | assumption | omega | (simp <;> omega)) ?_ | refine vv21 ?_ | refine RowN.map (by first | assumption | omega) ?_ | refine vv22 ?_ | refine RowSN.map (by first | assumption | omega) ?_ | refine Qp hf ?_)
      refine BackN2.mk (j + 1) (r.set i r[j]) ⟨by omega, by omega, by simpa using hr, ?_, ?_⟩ (by omega) (Reabs.frmM [0] (by rw [hl]; exact (by repeat (first | exact sv0 | refine sv1 ?_ | refine sv2 ?_ | refine sv3 ?_))) ?_ rfl rfl); rw [hl, hs, set_take2 (by omega), ht]; rw [set_drop2 (by omega), hd2]; exact ⟨⟨_, rfl, blkDeep (by first | (rw [List.map_set]; done) | (rw [List.map_set]; rfl)) (deepMap (fun _ => rfl)), fun _ => rfl⟩, trivial⟩
  obtain rfl : j = b.length := by omega
  rw [List.take_length] at *; have hkl : (delE q b).length ≤ b.length := List.length_filter_le ..; generalize hi : (delE q b).length = i at *
  (conv => whnf); repeat' (first | refine vv8 ?_) <;> conv => whnf
  refine CodeN.clear (tryd_okm 1 _) rfl ?_
  (conv => whnf); repeat' (first | refine vv3 ?_ | refine IdxN.at0 _ rfl (by first | assumption | omega | (simp <;> omega)) ?_ | refine Need.mk (by first | assumption | omega | (simp <;> omega)) ?_) <;> conv => whnf
  refine ClearN.mk 0 7 (0 + i) (b.length - i) (r.map encE) 68 68 (.agg #[.int .i64 0, .int .i64 0, .int .i64 0, .int .i64 0, .int .i64 0, .int .i64 0, .int .i64 0]) rfl rfl Tryz.underlying24 Tryz.zeroValue68 rfl (by intro u hu; simp [Value.cells] at hu; subst hu; rfl) (by omega) ?_; refine CodeN.of_ev (tryd_okm 1 _) ?_
  (conv => whnf); repeat' (first | refine IdxN.at0 _ rfl (by first | assumption | omega | (simp <;> omega)) ?_) <;> conv => whnf
  refine ⟨⟨_, [.rows ((delE q b).map encE) 68], ?_, rfl, rfl⟩⟩; exact QM [0] (hb := Ql rfl (blkDeep (by rw [← ht, List.map_take, Nat.zero_add]) (deepMap (fun _ => rfl))) bv0)
theorem del136_in (F : FuncId) (z0 : List AV) (hz : ∀ n, (AV.fn (.func F) [] [.pi z0]).ok n = true) (q : Entr → Bool) (b : List Entr) (hF : ∀ x, Pu Tryz.prog G1 F [.agg (encE x), .pi z0] (vb (q x))) (hmax : b.length ≤ 1000000) (H : AH) (i n : Nat) (hn : n = b.length) (hi : nthB H i = some (.rows (b.map encE) 68)) (H2 : AH) (h2 : H2 = H.set i (.rows ((delE q b).map encE) 68)) :
    Ef Tryz.prog G1 136 [.sm i 7 0 n, .fn (.func F) [] [.pi z0]] H fun y H' => y = .sm i 7 0 (delE q b).length ∧ H' = H2 := by
  subst hn; subst h2; refine Ef.subD (del136_ef F z0 hz q b hF hmax) rfl (Nat.le_refl _) ⟨okDeep (deepR (fun _ => rfl)) _, trivial⟩ [i] (by simp) ⟨⟨_, hi, blkDeep rfl (deepMap (fun _ => rfl)), fun _ => rfl⟩, trivial⟩ rfl (fun x hx => ?_) rfl ?_
  · simp only [List.mem_cons, List.not_mem_nil, or_false] at hx
    rcases hx with rfl | rfl
    rfl; exact hz _
  show H.set i (ABlk.ren _ _) ++ [] = _; rw [List.append_nil, ren_deepB (deepR (fun _ => rfl))]
end
end Go.Proofs.Ax
