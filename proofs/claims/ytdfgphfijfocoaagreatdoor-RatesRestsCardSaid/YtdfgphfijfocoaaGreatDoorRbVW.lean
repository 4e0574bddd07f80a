import Derived.Test.YtdfgphfijfocoaaGreatDoorRbU
import Derived.Test.YtdfgphfijfocoaaGreatDoorDivA
namespace Go.Proofs.Ax
open Go Go.Proofs
set_option maxRecDepth 10000
set_option maxHeartbeats 8000000
/-- In order by blocks of k. -/
inductive Chop (key : Nat → Int) (k : Nat) : List Nat → Prop
  | last (B : List Nat) (h : B.length < k) (s : B.Pairwise (bef key)) : Chop key k B
  | cons (B Y : List Nat) (h : B.length = k) (s : B.Pairwise (bef key)) (lt : ∀ x ∈ B, ∀ y ∈ Y, x < y) (c : Chop key k Y) : Chop key k (B ++ Y)
theorem chop_one {key : Nat → Int} {k : Nat} {Y : List Nat} (h : Chop key k Y) (hl : k ≤ Y.length) : ∃ B Z, Y = B ++ Z ∧ B.length = k ∧ B.Pairwise (bef key) ∧ (∀ x ∈ B, ∀ y ∈ Z, x < y) ∧ Chop key k Z := by
  cases h with
  | last _ h s => omega
  | cons B Z h s lt c => exact ⟨B, Z, rfl, h, s, lt, c⟩
theorem chop_small {key : Nat → Int} {k : Nat} {Y : List Nat} (h : Chop key k Y) (hl : Y.length ≤ k) : Y.Pairwise (bef key) := by
  cases h with
  | last _ h s => exact s
  | cons B Z h s lt c =>
    simp only [List.length_append] at hl
    rw [List.eq_nil_of_length_eq_zero (show Z.length = 0 by omega), List.append_nil]
    exact s
/-- What is done: in order by blocks of k, each whole. -/
def ChopX (key : Nat → Int) (k : Nat) (X : List Nat) : Prop := ∀ Z, Chop key k Z → (∀ x ∈ X, ∀ z ∈ Z, x < z) → Chop key k (X ++ Z)
theorem chopX_nil (key : Nat → Int) (k : Nat) : ChopX key k [] := fun Z h _ => h
theorem chopX_snoc {key : Nat → Int} {k : Nat} {X M : List Nat} (h : ChopX key k X) (hl : M.length = k) (s : M.Pairwise (bef key)) (hx : ∀ x ∈ X, ∀ y ∈ M, x < y) : ChopX key k (X ++ M) := fun Z hz hlt => by
  rw [List.append_assoc]
  refine h (M ++ Z) (.cons M Z hl s (fun x hx z hz => hlt x (List.mem_append_right _ hx) z hz) hz) (fun x hx' z hz => ?_)
  rcases List.mem_append.1 hz with hz | hz
  · exact hx x hx' z hz
  · exact hlt x (List.mem_append_left _ hx') z hz
section
variable {A S : Int} {w : List Int} {t : Bool} {ps : List Int}
/-- The sorting of the numbers in their order. -/
theorem stable_ok {o : List Nat} {N : Nat} (hk : Keyed A S w) (ho : o.Pairwise (· < ·)) (hw : ∀ x ∈ o, x < w.length) (hN : o.length = N) (hN2 : N ≤ 1000000) :
    Ef Tryz.prog G1 144 [.sm 4 1 0 N, vi N, dCl] (dH A S w t ps o) fun y' H2 => y' = .tuple [] ∧ ∃ o' : List Nat, o'.Perm o ∧ o'.Pairwise (bef (key A S w)) ∧ H2 = dH A S w t ps o' := by
  subst hN
  refine Ef.of_code (T := Tryz.tab) (n := 63) (tryd_okm 5 _) rfl Tryz.func144 rfl rfl (by simp) ?_
  refine CodeN.seqE (tryd_okm 5 _) ?_; (conv => whnf)
  refine CodeN.seqE (tryd_okm 5 _) ?_; (conv => whnf)
  refine CodeN.cut (tryd_okm 5 _) (fun p : List Nat × List Nat => [(0, .sm 4 1 0 o.length), (1, vi o.length), (2, dCl), (6, vi 20), (7, vi p.1.length)]) (fun p => dH A S w t ps (p.1 ++ p.2))
    (fun p => (p.1 ++ p.2).Perm o ∧ p.2.Pairwise (· < ·) ∧ (∀ x ∈ p.1, ∀ y ∈ p.2, x < y) ∧ ChopX (key A S w) 20 p.1 ∧ p.2.length < 20) ?_ ?_
  · (conv => whnf)
    refine LoopN.of2 (tryd_okm 5 _) (fun (X Y : List Nat) => [(0, .sm 4 1 0 o.length), (1, vi o.length), (2, dCl), (6, vi 20), (7, vi X.length), (8, vi ((X.length + 20 : Nat) : Int))]) (fun X Y => dH A S w t ps (X ++ Y)) (fun X Y => Y.length)
      (fun X Y => (X ++ Y).Perm o ∧ Y.Pairwise (· < ·) ∧ (∀ x ∈ X, ∀ y ∈ Y, x < y) ∧ ChopX (key A S w) 20 X) [] o ⟨.refl _, ho, by simp, chopX_nil _ _⟩ (dH_re rfl (by repeat (first | exact trivial | refine ⟨.inr ⟨rfl, rfl⟩, ?_⟩ | refine ⟨.inr ⟨rfl, vi_eq (by first | omega | (simp; done) | (simp; omega))⟩, ?_⟩ | refine ⟨.inr ⟨rfl, smE rfl (by first | omega | (simp; done) | (simp; omega))⟩, ?_⟩))) ?_
    rintro X Y ⟨h1, h2, h3, h4⟩
    have hl := h1.length_eq
    rw [List.length_append] at hl
    by_cases hc : 20 ≤ Y.length
    · obtain ⟨M, Z, rfl, hM⟩ := cut_at (l := Y) (k := 20) hc
      simp only [List.length_append] at hl hc
      have h2' := List.pairwise_append.1 h2
      have c := insertion_ok (A := A) (S := S) (w := w) (t := t) (ps := ps) (P := X) (M := M) (R := Z) (N := o.length) (a := X.length) (b := ((X.length + 20 : Nat) : Int)) hk rfl (by rw [hM]) h2'.1 (fun x hx => hw x (h1.mem_iff.1 (by simp [hx]))) (by simp; omega) hN2
      rw [List.append_assoc] at c
      ((conv => whnf); repeat' ((first | refine vv7 ?_) <;> (conv => whnf)))
      refine CallN.ef c ?_
      rintro _ _ ⟨rfl, M', p, sM, rfl⟩
      have hpl := p.length_eq
      ((conv => whnf); repeat' ((first | refine vv20 ?_) <;> (conv => whnf)))
      refine BackN2.mk (X ++ M') Z ⟨?_, h2'.2.1, fun x hx y hy => ?_, chopX_snoc h4 (by omega) sM (fun x hx y hy => h3 x hx y (List.mem_append_left _ (p.mem_iff.1 hy)))⟩ (by simp; omega) (dH_re rfl (by repeat (first | exact trivial | refine ⟨.inr ⟨rfl, rfl⟩, ?_⟩ | refine ⟨.inr ⟨rfl, vi_eq (by first | omega | (simp; done) | (simp; omega))⟩, ?_⟩ | refine ⟨.inr ⟨rfl, smE rfl (by first | omega | (simp; done) | (simp; omega))⟩, ?_⟩)))
      · refine List.Perm.trans ?_ h1
        rw [List.append_assoc]
        exact List.Perm.append_left X (List.Perm.append_right Z p)
      · rcases List.mem_append.1 hx with hx | hx
        · exact h3 x hx y (List.mem_append_right _ hy)
        · exact h2'.2.2 x (p.mem_iff.1 hx) y hy
    · ((conv => whnf); repeat' ((first | refine vv8 ?_) <;> (conv => whnf)))
      exact JoinN.mk (X, Y) ⟨h1, h2, h3, h4, by simp only; omega⟩ (dH_re rfl (by repeat (first | exact trivial | refine ⟨.inr ⟨rfl, rfl⟩, ?_⟩ | refine ⟨.inr ⟨rfl, vi_eq (by first | omega | (simp; done) | (simp; omega))⟩, ?_⟩ | refine ⟨.inr ⟨rfl, smE rfl (by first | omega | (simp; done) | (simp; omega))⟩, ?_⟩)))
  rintro ⟨X, Y⟩ ⟨h1, h2, h3, h4, h5⟩
  simp only at h1 h2 h3 h4 h5
  have hl := h1.length_eq
  rw [List.length_append] at hl
  refine CodeN.cut (tryd_okm 5 _) (fun _ : List Nat => [(0, .sm 4 1 0 o.length), (1, vi o.length), (2, dCl), (6, vi 20)]) (fun p => dH A S w t ps p) (fun p => p.Perm o ∧ Chop (key A S w) 20 p) ?_ ?_
  · have c := insertion_ok (A := A) (S := S) (w := w) (t := t) (ps := ps) (P := X) (M := Y) (R := []) (N := o.length) (a := X.length) (b := o.length) hk rfl (by omega) h2 (fun x hx => hw x (h1.mem_iff.1 (by simp [hx]))) (by simp; omega) hN2
    simp only [List.append_nil] at c
    (conv => whnf)
    refine CallN.ef c ?_
    rintro _ _ ⟨rfl, M', p, sM, rfl⟩
    have hpl := p.length_eq
    (conv => whnf)
    refine JoinN.mk (X ++ M') ⟨(List.Perm.append_left X p).trans h1, h4 M' (.last M' (by omega) sM) (fun x hx y hy => h3 x hx y (p.mem_iff.1 hy))⟩ (dH_re rfl (by repeat (first | exact trivial | refine ⟨.inr ⟨rfl, rfl⟩, ?_⟩ | refine ⟨.inr ⟨rfl, vi_eq (by first | omega | (simp; done) | (simp; omega))⟩, ?_⟩ | refine ⟨.inr ⟨rfl, smE rfl (by first | omega | (simp; done) | (simp; omega))⟩, ?_⟩)))
  rintro o1 ⟨p1, c1⟩
  clear h1 h2 h3 h4 h5 hl ho
  refine CodeN.of_ev (tryd_okm 5 _) ?_
  (conv => whnf)
  refine LoopN.of2 (tryd_okm 5 _) (fun (k : Nat) (_ : List Nat) => [(0, .sm 4 1 0 o.length), (1, vi o.length), (2, dCl), (6, vi k)]) (fun _ q => dH A S w t ps q) (fun k _ => o.length - k) (fun k q => 20 ≤ k ∧ k ≤ 2000000 ∧ q.Perm o ∧ Chop (key A S w) k q) 20 o1 ⟨Nat.le_refl _, by omega, p1, c1⟩ (dH_re rfl (by repeat (first | exact trivial | refine ⟨.inr ⟨rfl, rfl⟩, ?_⟩ | refine ⟨.inr ⟨rfl, vi_eq (by first | omega | (simp; done) | (simp; omega))⟩, ?_⟩ | refine ⟨.inr ⟨rfl, smE rfl (by first | omega | (simp; done) | (simp; omega))⟩, ?_⟩))) ?_
  clear p1 c1 o1
  rintro k q ⟨k1, k2, p, c⟩
  have hq := p.length_eq
  by_cases hkn : k < o.length
  · ((conv => whnf); repeat' ((first | refine vv7 ?_ | refine vv20 ?_) <;> (conv => whnf)))
    refine LoopN.of2 (tryd_okm 5 _) (fun (X Y : List Nat) => [(0, .sm 4 1 0 o.length), (1, vi o.length), (2, dCl), (6, vi k), (7, vi X.length), (8, vi ((X.length + 2 * k : Nat) : Int))]) (fun X Y => dH A S w t ps (X ++ Y)) (fun X Y => Y.length)
      (fun X Y => (X ++ Y).Perm o ∧ (∀ x ∈ X, ∀ y ∈ Y, x < y) ∧ ChopX (key A S w) (2 * k) X ∧ Chop (key A S w) k Y) [] q ⟨p, by simp, chopX_nil _ _, c⟩ (dH_re rfl (by repeat (first | exact trivial | refine ⟨.inr ⟨rfl, rfl⟩, ?_⟩ | refine ⟨.inr ⟨rfl, vi_eq (by first | omega | (simp; done) | (simp; omega))⟩, ?_⟩ | refine ⟨.inr ⟨rfl, smE rfl (by first | omega | (simp; done) | (simp; omega))⟩, ?_⟩))) ?_
    clear p c hq
    rintro X Y ⟨h1, h3, h4, h5⟩
    have hl := h1.length_eq
    rw [List.length_append] at hl
    by_cases hc : 2 * k ≤ Y.length
    · obtain ⟨B, Z0, rfl, hB, sB, ltB, c0⟩ := chop_one h5 (by omega)
      simp only [List.length_append] at hl hc
      obtain ⟨D, Z, rfl, hD, sD, ltD, c1⟩ := chop_one c0 (by omega)
      simp only [List.length_append] at hl hc
      have c := symMerge_ok (A := A) (S := S) (w := w) (t := t) (ps := ps) hk (B.length + D.length) (P := X) (L := B) (D := D) (R := Z) (N := o.length) (a := X.length) (m := ((X.length + k : Nat) : Int)) (b := ((X.length + 2 * k : Nat) : Int)) (Nat.le_refl _) (List.length_pos_iff.1 (by omega)) (List.length_pos_iff.1 (by omega)) rfl (by omega) (by omega) sB sD (fun x hx y hy => ltB x hx y (List.mem_append_left _ hy)) (fun x hx => hw x (h1.mem_iff.1 (by
        rcases List.mem_append.1 hx with h | h <;> simp [h]))) (by simp; omega) hN2
      rw [show X ++ B ++ D ++ Z = X ++ (B ++ (D ++ Z)) by simp] at c
      ((conv => whnf); repeat' ((first | refine vv7 ?_ | refine vv20 ?_) <;> (conv => whnf)))
      refine CallN.ef c ?_
      rintro _ _ ⟨rfl, M', pM, sM, rfl⟩
      have hpl := pM.length_eq
      rw [List.length_append] at hpl
      ((conv => whnf); repeat' ((first | refine vv20 ?_) <;> (conv => whnf)))
      have hmem : ∀ y ∈ M', y ∈ B ∨ y ∈ D := fun y hy => List.mem_append.1 (pM.mem_iff.1 hy)
      refine BackN2.mk (X ++ M') Z ⟨?_, fun x hx y hy => ?_, chopX_snoc h4 (by omega) sM (fun x hx y hy => h3 x hx y (by rcases hmem y hy with h | h <;> simp [h])), c1⟩ (by simp; omega) (dH_re rfl (by repeat (first | exact trivial | refine ⟨.inr ⟨rfl, rfl⟩, ?_⟩ | refine ⟨.inr ⟨rfl, vi_eq (by first | omega | (simp; done) | (simp; omega))⟩, ?_⟩ | refine ⟨.inr ⟨rfl, smE rfl (by first | omega | (simp; done) | (simp; omega))⟩, ?_⟩)))
      · refine List.Perm.trans ?_ h1
        rw [List.append_assoc, show B ++ (D ++ Z) = B ++ D ++ Z by simp]
        exact List.Perm.append_left X (List.Perm.append_right Z pM)
      · rcases List.mem_append.1 hx with hx | hx
        · exact h3 x hx y (by simp [hy])
        · rcases hmem x hx with h | h
          · exact ltB x h y (List.mem_append_right _ hy)
          · exact ltD x h y hy
    · by_cases hm : k < Y.length
      · obtain ⟨B, D, rfl, hB, sB, ltB, c0⟩ := chop_one h5 (by omega)
        simp only [List.length_append] at hl hc hm
        have sD := chop_small c0 (by omega)
        have c := symMerge_ok (A := A) (S := S) (w := w) (t := t) (ps := ps) hk (B.length + D.length) (P := X) (L := B) (D := D) (R := []) (N := o.length) (a := X.length) (m := ((X.length + k : Nat) : Int)) (b := (o.length : Int)) (Nat.le_refl _) (List.length_pos_iff.1 (by omega)) (List.length_pos_iff.1 (by omega)) rfl (by omega) (by omega) sB sD ltB (fun x hx => hw x (h1.mem_iff.1 (by
          rcases List.mem_append.1 hx with h | h <;> simp [h]))) (by simp; omega) hN2
        rw [show X ++ B ++ D ++ [] = X ++ (B ++ D) by simp] at c
        simp only [List.append_nil] at c
        ((conv => whnf); repeat' ((first | refine vv7 ?_ | refine vv8 ?_ | refine vv20 ?_) <;> (conv => whnf)))
        refine CallN.ef c ?_
        rintro _ _ ⟨rfl, M', pM, sM, rfl⟩
        have hpl := pM.length_eq
        rw [List.length_append] at hpl
        ((conv => whnf); repeat' ((first | refine vv20 ?_) <;> (conv => whnf)))
        exact BackN2.mk (k * 2) (X ++ M') ⟨by omega, by omega, (List.Perm.append_left X pM).trans h1, by
          rw [Nat.mul_comm]
          exact h4 M' (.last M' (by omega) sM) (fun x hx y hy => h3 x hx y (pM.mem_iff.1 hy))⟩ (by omega) (dH_re rfl (by repeat (first | exact trivial | refine ⟨.inr ⟨rfl, rfl⟩, ?_⟩ | refine ⟨.inr ⟨rfl, vi_eq (by first | omega | (simp; done) | (simp; omega))⟩, ?_⟩ | refine ⟨.inr ⟨rfl, smE rfl (by first | omega | (simp; done) | (simp; omega))⟩, ?_⟩)))
      · ((conv => whnf); repeat' ((first | refine vv8 ?_ | refine vv20 ?_) <;> (conv => whnf)))
        exact BackN2.mk (k * 2) (X ++ Y) ⟨by omega, by omega, h1, by
          rw [Nat.mul_comm]
          exact h4 Y (.last Y (by omega) (chop_small h5 (by omega))) h3⟩ (by omega) (dH_re rfl (by repeat (first | exact trivial | refine ⟨.inr ⟨rfl, rfl⟩, ?_⟩ | refine ⟨.inr ⟨rfl, vi_eq (by first | omega | (simp; done) | (simp; omega))⟩, ?_⟩ | refine ⟨.inr ⟨rfl, smE rfl (by first | omega | (simp; done) | (simp; omega))⟩, ?_⟩)))
  · ((conv => whnf); repeat' ((first | refine vv8 ?_) <;> (conv => whnf)))
    exact ⟨⟨rfl, q, p, chop_small c (by omega), rfl⟩⟩
theorem sortStable_ok {o : List Nat} {N : Nat} (hk : Keyed A S w) (ho : o.Pairwise (· < ·)) (hw : ∀ x ∈ o, x < w.length) (hN : o.length = N) (hN2 : N ≤ 1000000) :
    Ef Tryz.prog G1 123 [.sm 4 1 0 N, dCl] (dH A S w t ps o) fun y' H2 => y' = .tuple [] ∧ ∃ o' : List Nat, o'.Perm o ∧ o'.Pairwise (bef (key A S w)) ∧ H2 = dH A S w t ps o' := by
  refine Ef.of_ev (T := Tryz.tab) (n := 9) (tryd_okm 5 _) rfl Tryz.func123 rfl rfl (by simp) ?_
  (conv => whnf)
  refine CallN.ef (stable_ok hk ho hw hN hN2) ?_
  rintro _ _ ⟨rfl, o', p, s, rfl⟩
  (conv => whnf)
  exact ⟨⟨rfl, o', p, s, rfl⟩⟩
end
end Go.Proofs.Ax
namespace Go.Proofs.Ax
open Go Go.Proofs
set_option maxRecDepth 10000
set_option maxHeartbeats 4000000
inductive IntN (x : List AV) (K : Int → Prop) : Prop
  | mk (n : Int) (h : x = intRow n) (hk : K n)
theorem RowSN.setI {o : List Int} {j : Nat} {k : List AV → (List AV → (List (List AV) → Prop) → Prop) → Prop} (h : j < o.length) (hk : k (intRow (o[j]'h)) fun r K => IntN r fun n => K ((o.set j n).map intRow)) : RowSN (o.map intRow) j k :=
  ⟨_, _, by simp [h], fun r K hh => by
    obtain ⟨n, rfl, hK⟩ := hh
    rw [← List.map_set]
    exact hK, hk⟩
theorem RowSN.setX {o : List Nat} {j : Nat} {k : List AV → (List AV → (List (List AV) → Prop) → Prop) → Prop} (h : j < o.length) (hk : k (ix (o[j]'h)) fun r K => IxN r fun n => K ((o.set j n).map ix)) : RowSN (o.map ix) j k :=
  .rowX (fun n => o.set j n) (by simp [h]) (fun _ => rfl) hk
theorem RowN.selfI {o : List Int} {j : Nat} {v : Int} {k : List AV → Prop} (h : j < o.length) (hk : k (intRow v)) : RowN ((o.set j v).map intRow) j k := .raw (by simp [h]) hk
theorem DivOk.keyed {A : Int} {w : List Int} (h : DivOk A w) : Keyed A w.sum w := by
  have hb := sum_bd h.wlo h.whi
  have := h.len
  exact ⟨h.pos, by omega, fun x hx => (prod_bd h hx).1, fun x hx => by have := (prod_bd h hx).2; omega⟩
theorem share_le {A : Int} {w : List Int} (h : DivOk A w) {k : Nat} (hk : k < w.length) : share A w k ≤ 1099511627776000000 := by
  have := prod_bd h (List.getElem_mem hk)
  simp only [share, getD_lt hk]
  exact Int.le_trans (Int.ediv_le_self _ this.1) this.2
theorem parts_bd {A : Int} {w : List Int} (h : DivOk A w) {l : List Nat} {j : Nat} (hj : j < (partsOf A w l).length) : 0 ≤ (partsOf A w l)[j] ∧ (partsOf A w l)[j] ≤ 1099511627776000001 := by
  have hj' : j < w.length := by rw [partsOf_len] at hj; exact hj
  have h1 := share_nonneg h hj'
  have h2 := share_le h hj'
  simp only [partsOf, List.getElem_map, List.getElem_range]
  split <;> omega
theorem divide_ok (A : Int) (t : Bool) (w : List Int) (h : DivOk A w) : Pu Tryz.prog G1 95 [vi A, ints t w] (ints false (divided A w)) := by
  refine Pu.of_ev (T := Tryz.tab) (n := 77) (tryd_ok _) Tryz.func95 rfl rfl rfl (by first | rfl | (split <;> rfl)) (by simp) ?_
  have hA1 := h.lo
  have hA2 := h.hi
  have hn := h.len
  ((conv => whnf); repeat' ((first | refine vv21 ?_ | refine vv22 ?_ | refine vv23 ?_) <;> (conv => whnf)))
  refine LoopN.of2 (tryd_ok _) (fun (k : Nat) (s : Int) => [(2, .pm 0 0 0), (3, .pm 1 0 0), (5, .pm 2 0 0), (15, ints t w), (16, vi w.length), (17, vi k)]) (fun k s => [.rows [[vi A]] 3, .rows [[ints t w]] 85, .rows [[vi s]] 3]) (fun k s => w.length - k) (fun k s => k ≤ w.length ∧ s = (w.take k).sum) 0 0 ⟨Nat.zero_le _, by simp⟩ (Reabs.frmN [0, 1, 2] (by repeat (first | exact trivial | refine ⟨.inr ⟨rfl, rfl⟩, ?_⟩)) (by repeat (first | exact trivial | refine ⟨⟨_, rfl, blkDeep rfl (by first | exact deepLit rfl | exact deepMap (fun _ => rfl)), fun _ => rfl⟩, ?_⟩)) (by decide) ⟨Nat.zero_le _, fun i hi => absurd hi (Nat.not_lt_zero i)⟩) ?_
  rintro k s ⟨hk, hs⟩
  have hb := take_sum_bd h.wlo h.whi k
  rw [← hs] at hb
  by_cases hlt : k < w.length
  · have h1 := h.wlo _ (List.getElem_mem hlt)
    have h2 := h.whi _ (List.getElem_mem hlt)
    ((conv => whnf); repeat' ((first | refine vv7 ?_ | refine vv20 ?_ | refine SlIdxN.map _ rfl (by first | assumption | omega) ?_ | refine vv21 ?_ | refine vv22 ?_) <;> (conv => whnf)))
    exact BackN2.mk (k + 1) (s + w[k]) ⟨by omega, by rw [take_sum_succ hlt, hs]⟩ (by omega) (Reabs.frmN [0, 1, 2] (by repeat (first | exact trivial | refine ⟨.inr ⟨rfl, rfl⟩, ?_⟩)) (by repeat (first | exact trivial | refine ⟨⟨_, rfl, blkDeep rfl (by first | exact deepLit rfl | exact deepMap (fun _ => rfl)), fun _ => rfl⟩, ?_⟩)) (by decide) ⟨Nat.zero_le _, fun i hi => absurd hi (Nat.not_lt_zero i)⟩)
  have hS : s = w.sum := by rw [hs, List.take_of_length_le (by omega)]
  subst hS
  clear hs
  ((conv => whnf); repeat' ((first | refine vv8 ?_ | refine vv21 ?_ | refine vv23 ?_ | refine vv29 ?_) <;> (conv => whnf)))
  clear hlt hk
  refine LoopN.of4 (tryd_ok _) (fun (i : Nat) (l : Int) (ps : List Int) (os : List Nat) => [(2, .pm 0 0 0), (3, .pm 1 0 0), (5, .pm 2 0 0), (8, .sm 3 1 0 w.length), (9, .sm 4 1 0 w.length), (10, vi l), (32, ints t w), (33, vi w.length), (34, vi i)]) (fun i l ps os => dH A w.sum w t ps os) (fun i l ps os => w.length - i)
    (fun i l ps os => i ≤ w.length ∧ l = A - shares A w i ∧ ps = sharesTo A w i ∧ os = numsTo w.length i) 0 A (sharesTo A w 0) (numsTo w.length 0) ⟨Nat.zero_le _, by simp [shares], rfl, rfl⟩
    (Reabs.frmN [0, 1, 2, 3, 4] (by repeat (first | exact trivial | refine ⟨.inr ⟨rfl, rfl⟩, ?_⟩)) ⟨⟨_, rfl, blkDeep rfl (deepLit rfl), fun _ => rfl⟩, ⟨_, rfl, blkDeep rfl (deepLit rfl), fun _ => rfl⟩, ⟨_, rfl, blkDeep rfl (deepLit rfl), fun _ => rfl⟩, ⟨_, rfl, blkDeep ?_ (deepMap (fun _ => rfl)), fun _ => rfl⟩, ⟨_, rfl, blkDeep ?_ (deepMap (fun _ => rfl)), fun _ => rfl⟩, trivial⟩ (by decide) ⟨Nat.zero_le _, fun i hi => absurd hi (Nat.not_lt_zero i)⟩) ?_
  · congr 1
    refine List.ext_getElem (by simp [sharesTo]) fun j h1 h2 => ?_
    simp [sharesTo, intRow]
  · congr 1
    refine List.ext_getElem (by simp [numsTo]) fun j h1 h2 => ?_
    simp [numsTo, ix]
  rintro i l ps os ⟨hi, hl, hps, hos⟩
  have hpl : ps.length = w.length := by rw [hps, sharesTo_len]
  have hol : os.length = w.length := by rw [hos, numsTo_len]
  have hsb := shares_bd h hi
  by_cases hlt : i < w.length
  · have hsb' := shares_bd h (show i + 1 ≤ w.length by omega)
    rw [shares_succ] at hsb'
    have hp := prod_bd h (List.getElem_mem hlt)
    have hd : (A * w[i]).tdiv w.sum = share A w i := by rw [Int.tdiv_eq_ediv_of_nonneg hp.1]; simp [share, hlt]
    have hsn := share_nonneg h hlt
    have hpos := h.pos
    ((conv => whnf); repeat' ((first | refine RowN.selfI (by first | assumption | omega | (simp; done) | (simp; omega)) ?_ | refine RowSN.setI (by first | assumption | omega | (simp; done) | (simp; omega)) ?_ | refine RowSN.setX (by first | assumption | omega | (simp; done) | (simp; omega)) ?_ | refine IntN.mk _ rfl ?_ | refine IxN.mk _ rfl ?_ | refine vv7 ?_ | refine vv20 ?_ | refine SlIdxN.map _ rfl (by first | assumption | omega) ?_ | refine IdxN.at0 _ rfl (by first | assumption | omega | (simp <;> omega)) ?_ | refine vv21 ?_ | refine Need.mk (by first | assumption | omega | (simp <;> omega)) ?_) <;> (conv => whnf)))
    exact BackN4.mk (i + 1) (l - (A * w[i]).tdiv w.sum) (ps.set i ((A * w[i]).tdiv w.sum)) (os.set i i) ⟨by omega, by rw [hl, hd, shares_succ]; omega, by rw [hps, hd, sharesTo_step], by rw [hos, numsTo_step]⟩ (by omega) (Reabs.frmN [0, 1, 2, 3, 4] (by repeat (first | exact trivial | refine ⟨.inr ⟨rfl, rfl⟩, ?_⟩)) (by repeat (first | exact trivial | refine ⟨⟨_, rfl, blkDeep rfl (by first | exact deepLit rfl | exact deepMap (fun _ => rfl)), fun _ => rfl⟩, ?_⟩)) (by decide) ⟨Nat.zero_le _, fun i hi => absurd hi (Nat.not_lt_zero i)⟩)
  have hin : i = w.length := by omega
  subst hin
  rw [sharesTo_all] at hps
  rw [numsTo_all] at hos
  subst hps
  subst hos
  have hlb := left_bd h
  rw [← hl] at hlb
  clear hsb hi hpl hol
  ((conv => whnf); repeat' ((first | refine vv8 ?_) <;> (conv => whnf)))
  refine CallN.ef (sortStable_ok h.keyed List.pairwise_lt_range (fun x hx => List.mem_range.1 hx) List.length_range (by omega)) ?_
  rintro _ _ ⟨rfl, o, po, so, rfl⟩
  have hol : o.length = w.length := by rw [po.length_eq, List.length_range]
  have hoN : o.Nodup := po.nodup_iff.2 List.nodup_range
  have how : ∀ x ∈ o, x < w.length := fun x hx => List.mem_range.1 (po.mem_iff.1 hx)
  obtain ⟨m, rfl⟩ : ∃ m : Nat, l = m := ⟨l.toNat, by omega⟩
  ((conv => whnf); repeat' ((first | refine IdxN.at0 _ rfl (by first | assumption | omega | (simp <;> omega)) ?_) <;> (conv => whnf)))
  refine LoopN.of2 (tryd_ok _) (fun (k : Nat) (ps : List Int) => [(8, .sm 3 1 0 w.length), (63, .sm 4 1 0 m), (64, vi m), (65, vi k)]) (fun k ps => dH A w.sum w t ps o) (fun k ps => m - k) (fun k ps => k ≤ m ∧ ps = partsOf A w (o.take k)) 0 (partsOf A w []) ⟨Nat.zero_le _, by simp⟩ (Reabs.frmN [0, 1, 2, 3, 4] (by repeat (first | exact trivial | refine ⟨.inr ⟨rfl, rfl⟩, ?_⟩)) (by repeat (first | exact trivial | refine ⟨⟨_, rfl, blkDeep rfl (by first | exact deepLit rfl | exact deepMap (fun _ => rfl)), fun _ => rfl⟩, ?_⟩)) (by decide) ⟨Nat.zero_le _, fun i hi => absurd hi (Nat.not_lt_zero i)⟩) ?_
  rintro k ps ⟨hk, hps⟩
  have hpl : ps.length = w.length := by rw [hps, partsOf_len]
  by_cases hkm : k < m
  · have hko : k < o.length := by omega
    have hok := how _ (List.getElem_mem hko)
    have hv := fun (hj : o[k] < ps.length) => (show 0 ≤ ps[o[k]] ∧ ps[o[k]] ≤ 1099511627776000001 by subst hps; exact parts_bd h _)
    have hv := hv (by omega)
    have hst : ∀ (hj : o[k] < ps.length), ps.set o[k] (ps[o[k]] + 1) = partsOf A w (o.take (k + 1)) := by
      subst hps
      intro hj
      rw [List.take_succ_eq_append_getElem hko]
      exact partsOf_step hok (fun hm => by
        obtain ⟨r, hr, he⟩ := List.getElem_of_mem hm
        rw [List.getElem_take] at he
        simp only [List.length_take] at hr
        have := (List.getElem_inj hoN).1 he
        omega)
    ((conv => whnf); repeat' ((first | refine RowSN.setI (by first | assumption | omega | (simp; done) | (simp; omega)) ?_ | refine IntN.mk _ rfl ?_ | refine vv7 ?_ | refine vv20 ?_ | refine IdxN.at0 _ rfl (by first | assumption | omega | (simp <;> omega)) ?_ | refine RowN.map (by first | assumption | omega) ?_) <;> (conv => whnf)))
    exact BackN2.mk (k + 1) (ps.set o[k] ((ps[o[k]]'(by omega)) + 1)) ⟨by omega, hst _⟩ (by omega) (Reabs.frmN [0, 1, 2, 3, 4] (by repeat (first | exact trivial | refine ⟨.inr ⟨rfl, rfl⟩, ?_⟩)) (by repeat (first | exact trivial | refine ⟨⟨_, rfl, blkDeep rfl (by first | exact deepLit rfl | exact deepMap (fun _ => rfl)), fun _ => rfl⟩, ?_⟩)) (by decide) ⟨Nat.zero_le _, fun i hi => absurd hi (Nat.not_lt_zero i)⟩)
  · ((conv => whnf); repeat' ((first | refine vv8 ?_) <;> (conv => whnf)))
    have hkm' : k = m := by omega
    subst hkm'
    rw [divided_eq po so hl] at hps
    subst hps
    refine DoneN.frz 3 _ 3 rfl (deepR (fun _ => rfl)) (DoneN.pure ?_)
    show (AV.sm 3 1 0 _).frz0 3 _ = _
    rw [frz_all (by simp [hpl])]
    rfl
end Go.Proofs.Ax
