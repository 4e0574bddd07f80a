import Derived.Test.YtdfgphfijfocoaaGreatDoorRbU
namespace Go.Proofs.Ax
open Go Go.Proofs
set_option maxRecDepth 10000
set_option maxHeartbeats 8000000
/-- In order by blocks of k. -/
inductive Chop (key : Nat → Int) (k : Nat) : List Nat → Prop
  | last (B : List Nat) (h : B.length < k) (s : B.Pairwise (bef key)) : Chop key k B
  | cons (B Y : List Nat) (h : B.length = k) (s : B.Pairwise (bef key)) (lt : ∀ x ∈ B, ∀ y ∈ Y, x < y) (c : Chop key k Y) : Chop key k (B ++ Y)
theorem chop_one {key : Nat → Int} {k : Nat} {Y : List Nat} (h : Chop key k Y) (hl : k ≤ Y.length) : ∃ B Z, Y = B ++ Z ∧ B.length = k ∧ B.Pairwise (bef key) ∧ (∀ x ∈ B, ∀ y ∈ Z, x < y) ∧ Chop key k Z := by
  cases h with
  | last _ h s => omega
  | cons B Z h s lt c => exact ⟨B, Z, rfl, h, s, lt, c⟩
theorem chop_small {key : Nat → Int} {k : Nat} {Y : List Nat} (h : Chop key k Y) (hl : Y.length ≤ k) : Y.Pairwise (bef key) := by
  cases h with
  | last _ h s => exact s
  | cons B Z h s lt c =>
    simp only [List.length_append] at hl
    rw [List.eq_nil_of_length_eq_zero (show Z.length = 0 by omega), List.append_nil]
    exact s
/-- What is done: in order by blocks of k, each whole. -/
def ChopX (key : Nat → Int) (k : Nat) (X : List Nat) : Prop := ∀ Z, Chop key k Z → (∀ x ∈ X, ∀ z ∈ Z, x < z) → Chop key k (X ++ Z)
theorem chopX_nil (key : Nat → Int) (k : Nat) : ChopX key k [] := fun Z h _ => h
theorem chopX_snoc {key : Nat → Int} {k : Nat} {X M : List Nat} (h : ChopX key k X) (hl : M.length = k) (s : M.Pairwise (bef key)) (hx : ∀ x ∈ X, ∀ y ∈ M, x < y) : ChopX key k (X ++ M) := fun Z hz hlt => by
  rw [List.append_assoc]
  refine h (M ++ Z) (.cons M Z hl s (fun x hx z hz => hlt x (List.mem_append_right _ hx) z hz) hz) (fun x hx' z hz => ?_)
  rcases List.mem_append.1 hz with hz | hz
  · exact hx x hx' z hz
  · exact hlt x (List.mem_append_left _ hx') z hz
section
variable {A S : Int} {w : List Int} {t : Bool} {ps : List Int}
/-- The sorting of the numbers in their order. -/
theorem stable_ok {o : List Nat} {N : Nat} (hk : Keyed A S w) (ho : o.Pairwise (· < ·)) (hw : ∀ x ∈ o, x < w.length) (hN : o.length = N) (hN2 : N ≤ 1000000) :
    Ef Tryz.prog G1 144 [.sm 4 1 0 N, vi N, dCl] (dH A S w t ps o) fun y' H2 => y' = .tuple [] ∧ ∃ o' : List Nat, o'.Perm o ∧ o'.Pairwise (bef (key A S w)) ∧ H2 = dH A S w t ps o' := by
  subst hN
  refine Ef.of_code (T := Tryz.tab) (n := 63) (tryd_okm 5 _) rfl Tryz.func144 rfl rfl (by simp) ?_
  refine CodeN.seqE (tryd_okm 5 _) ?_; (conv => whnf)
  refine CodeN.seqE (tryd_okm 5 _) ?_; (conv => whnf)
  refine CodeN.cut (tryd_okm 5 _) (fun p : List Nat × List Nat => [(0, .sm 4 1 0 o.length), (1, vi o.length), (2, dCl), (6, vi 20), (7, vi p.1.length)]) (fun p => dH A S w t ps (p.1 ++ p.2))
    (fun p => (p.1 ++ p.2).Perm o ∧ p.2.Pairwise (· < ·) ∧ (∀ x ∈ p.1, ∀ y ∈ p.2, x < y) ∧ ChopX (key A S w) 20 p.1 ∧ p.2.length < 20) ?_ ?_
  · (conv => whnf)
    refine LoopN.of2 (tryd_okm 5 _) (fun (X Y : List Nat) => [(0, .sm 4 1 0 o.length), (1, vi o.length), (2, dCl), (6, vi 20), (7, vi X.length), (8, vi ((X.length + 20 : Nat) : Int))]) (fun X Y => dH A S w t ps (X ++ Y)) (fun X Y => Y.length)
      (fun X Y => (X ++ Y).Perm o ∧ Y.Pairwise (· < ·) ∧ (∀ x ∈ X, ∀ y ∈ Y, x < y) ∧ ChopX (key A S w) 20 X) [] o ⟨.refl _, ho, by simp, chopX_nil _ _⟩ (dH_re rfl (by repeat (first | exact trivial | refine ⟨.inr ⟨rfl, rfl⟩, ?_⟩ | refine ⟨.inr ⟨rfl, vi_eq (by first | omega | (simp; done) | (simp; omega))⟩, ?_⟩ | refine ⟨.inr ⟨rfl, smE rfl (by first | omega | (simp; done) | (simp; omega))⟩, ?_⟩))) ?_
    rintro X Y ⟨h1, h2, h3, h4⟩
    have hl := h1.length_eq
    rw [List.length_append] at hl
    by_cases hc : 20 ≤ Y.length
    · obtain ⟨M, Z, rfl, hM⟩ := cut_at (l := Y) (k := 20) hc
      simp only [List.length_append] at hl hc
      have h2' := List.pairwise_append.1 h2
      have c := insertion_ok (A := A) (S := S) (w := w) (t := t) (ps := ps) (P := X) (M := M) (R := Z) (N := o.length) (a := X.length) (b := ((X.length + 20 : Nat) : Int)) hk rfl (by rw [hM]) h2'.1 (fun x hx => hw x (h1.mem_iff.1 (by simp [hx]))) (by simp; omega) hN2
      rw [List.append_assoc] at c
      ((conv => whnf); repeat' ((first | refine vv7 ?_) <;> (conv => whnf)))
      refine CallN.ef c ?_
      rintro _ _ ⟨rfl, M', p, sM, rfl⟩
      have hpl := p.length_eq
      ((conv => whnf); repeat' ((first | refine vv20 ?_) <;> (conv => whnf)))
      refine BackN2.mk (X ++ M') Z ⟨?_, h2'.2.1, fun x hx y hy => ?_, chopX_snoc h4 (by omega) sM (fun x hx y hy => h3 x hx y (List.mem_append_left _ (p.mem_iff.1 hy)))⟩ (by simp; omega) (dH_re rfl (by repeat (first | exact trivial | refine ⟨.inr ⟨rfl, rfl⟩, ?_⟩ | refine ⟨.inr ⟨rfl, vi_eq (by first | omega | (simp; done) | (simp; omega))⟩, ?_⟩ | refine ⟨.inr ⟨rfl, smE rfl (by first | omega | (simp; done) | (simp; omega))⟩, ?_⟩)))
      · refine List.Perm.trans ?_ h1
        rw [List.append_assoc]
        exact List.Perm.append_left X (List.Perm.append_right Z p)
      · rcases List.mem_append.1 hx with hx | hx
        · exact h3 x hx y (List.mem_append_right _ hy)
        · exact h2'.2.2 x (p.mem_iff.1 hx) y hy
    · ((conv => whnf); repeat' ((first | refine vv8 ?_) <;> (conv => whnf)))
      exact JoinN.mk (X, Y) ⟨h1, h2, h3, h4, by simp only; omega⟩ (dH_re rfl (by repeat (first | exact trivial | refine ⟨.inr ⟨rfl, rfl⟩, ?_⟩ | refine ⟨.inr ⟨rfl, vi_eq (by first | omega | (simp; done) | (simp; omega))⟩, ?_⟩ | refine ⟨.inr ⟨rfl, smE rfl (by first | omega | (simp; done) | (simp; omega))⟩, ?_⟩)))
  rintro ⟨X, Y⟩ ⟨h1, h2, h3, h4, h5⟩
  simp only at h1 h2 h3 h4 h5
  have hl := h1.length_eq
  rw [List.length_append] at hl
  refine CodeN.cut (tryd_okm 5 _) (fun _ : List Nat => [(0, .sm 4 1 0 o.length), (1, vi o.length), (2, dCl), (6, vi 20)]) (fun p => dH A S w t ps p) (fun p => p.Perm o ∧ Chop (key A S w) 20 p) ?_ ?_
  · have c := insertion_ok (A := A) (S := S) (w := w) (t := t) (ps := ps) (P := X) (M := Y) (R := []) (N := o.length) (a := X.length) (b := o.length) hk rfl (by omega) h2 (fun x hx => hw x (h1.mem_iff.1 (by simp [hx]))) (by simp; omega) hN2
    simp only [List.append_nil] at c
    (conv => whnf)
    refine CallN.ef c ?_
    rintro _ _ ⟨rfl, M', p, sM, rfl⟩
    have hpl := p.length_eq
    (conv => whnf)
    refine JoinN.mk (X ++ M') ⟨(List.Perm.append_left X p).trans h1, h4 M' (.last M' (by omega) sM) (fun x hx y hy => h3 x hx y (p.mem_iff.1 hy))⟩ (dH_re rfl (by repeat (first | exact trivial | refine ⟨.inr ⟨rfl, rfl⟩, ?_⟩ | refine ⟨.inr ⟨rfl, vi_eq (by first | omega | (simp; done) | (simp; omega))⟩, ?_⟩ | refine ⟨.inr ⟨rfl, smE rfl (by first | omega | (simp; done) | (simp; omega))⟩, ?_⟩)))
  rintro o1 ⟨p1, c1⟩
  clear h1 h2 h3 h4 h5 hl ho
  refine CodeN.of_ev (tryd_okm 5 _) ?_
  (conv => whnf)
  refine LoopN.of2 (tryd_okm 5 _) (fun (k : Nat) (_ : List Nat) => [(0, .sm 4 1 0 o.length), (1, vi o.length), (2, dCl), (6, vi k)]) (fun _ q => dH A S w t ps q) (fun k _ => o.length - k) (fun k q => 20 ≤ k ∧ k ≤ 2000000 ∧ q.Perm o ∧ Chop (key A S w) k q) 20 o1 ⟨Nat.le_refl _, by omega, p1, c1⟩ (dH_re rfl (by repeat (first | exact trivial | refine ⟨.inr ⟨rfl, rfl⟩, ?_⟩ | refine ⟨.inr ⟨rfl, vi_eq (by first | omega | (simp; done) | (simp; omega))⟩, ?_⟩ | refine ⟨.inr ⟨rfl, smE rfl (by first | omega | (simp; done) | (simp; omega))⟩, ?_⟩))) ?_
  clear p1 c1 o1
  rintro k q ⟨k1, k2, p, c⟩
  have hq := p.length_eq
  by_cases hkn : k < o.length
  · ((conv => whnf); repeat' ((first | refine vv7 ?_ | refine vv20 ?_) <;> (conv => whnf)))
    refine LoopN.of2 (tryd_okm 5 _) (fun (X Y : List Nat) => [(0, .sm 4 1 0 o.length), (1, vi o.length), (2, dCl), (6, vi k), (7, vi X.length), (8, vi ((X.length + 2 * k : Nat) : Int))]) (fun X Y => dH A S w t ps (X ++ Y)) (fun X Y => Y.length)
      (fun X Y => (X ++ Y).Perm o ∧ (∀ x ∈ X, ∀ y ∈ Y, x < y) ∧ ChopX (key A S w) (2 * k) X ∧ Chop (key A S w) k Y) [] q ⟨p, by simp, chopX_nil _ _, c⟩ (dH_re rfl (by repeat (first | exact trivial | refine ⟨.inr ⟨rfl, rfl⟩, ?_⟩ | refine ⟨.inr ⟨rfl, vi_eq (by first | omega | (simp; done) | (simp; omega))⟩, ?_⟩ | refine ⟨.inr ⟨rfl, smE rfl (by first | omega | (simp; done) | (simp; omega))⟩, ?_⟩))) ?_
    clear p c hq
    rintro X Y ⟨h1, h3, h4, h5⟩
    have hl := h1.length_eq
    rw [List.length_append] at hl
    by_cases hc : 2 * k ≤ Y.length
    · obtain ⟨B, Z0, rfl, hB, sB, ltB, c0⟩ := chop_one h5 (by omega)
      simp only [List.length_append] at hl hc
      obtain ⟨D, Z, rfl, hD, sD, ltD, c1⟩ := chop_one c0 (by omega)
      simp only [List.length_append] at hl hc
      have c := symMerge_ok (A := A) (S := S) (w := w) (t := t) (ps := ps) hk (B.length + D.length) (P := X) (L := B) (D := D) (R := Z) (N := o.length) (a := X.length) (m := ((X.length + k : Nat) : Int)) (b := ((X.length + 2 * k : Nat) : Int)) (Nat.le_refl _) (List.length_pos_iff.1 (by omega)) (List.length_pos_iff.1 (by omega)) rfl (by omega) (by omega) sB sD (fun x hx y hy => ltB x hx y (List.mem_append_left _ hy)) (fun x hx => hw x (h1.mem_iff.1 (by
        rcases List.mem_append.1 hx with h | h <;> simp [h]))) (by simp; omega) hN2
      rw [show X ++ B ++ D ++ Z = X ++ (B ++ (D ++ Z)) by simp] at c
      ((conv => whnf); repeat' ((first | refine vv7 ?_ | refine vv20 ?_) <;> (conv => whnf)))
      refine CallN.ef c ?_
      rintro _ _ ⟨rfl, M', pM, sM, rfl⟩
      have hpl := pM.length_eq
      rw [List.length_append] at hpl
      ((conv => whnf); repeat' ((first | refine vv20 ?_) <;> (conv => whnf)))
      have hmem : ∀ y ∈ M', y ∈ B ∨ y ∈ D := fun y hy => List.mem_append.1 (pM.mem_iff.1 hy)
      refine BackN2.mk (X ++ M') Z ⟨?_, fun x hx y hy => ?_, chopX_snoc h4 (by omega) sM (fun x hx y hy => h3 x hx y (by rcases hmem y hy with h | h <;> simp [h])), c1⟩ (by simp; omega) (dH_re rfl (by repeat (first | exact trivial | refine ⟨.inr ⟨rfl, rfl⟩, ?_⟩ | refine ⟨.inr ⟨rfl, vi_eq (by first | omega | (simp; done) | (simp; omega))⟩, ?_⟩ | refine ⟨.inr ⟨rfl, smE rfl (by first | omega | (simp; done) | (simp; omega))⟩, ?_⟩)))
      · refine List.Perm.trans ?_ h1
        rw [List.append_assoc, show B ++ (D ++ Z) = B ++ D ++ Z by simp]
        exact List.Perm.append_left X (List.Perm.append_right Z pM)
      · rcases List.mem_append.1 hx with hx | hx
        · exact h3 x hx y (by simp [hy])
        · rcases hmem x hx with h | h
          · exact ltB x h y (List.mem_append_right _ hy)
          · exact ltD x h y hy
    · by_cases hm : k < Y.length
      · obtain ⟨B, D, rfl, hB, sB, ltB, c0⟩ := chop_one h5 (by omega)
        simp only [List.length_append] at hl hc hm
        have sD := chop_small c0 (by omega)
        have c := symMerge_ok (A := A) (S := S) (w := w) (t := t) (ps := ps) hk (B.length + D.length) (P := X) (L := B) (D := D) (R := []) (N := o.length) (a := X.length) (m := ((X.length + k : Nat) : Int)) (b := (o.length : Int)) (Nat.le_refl _) (List.length_pos_iff.1 (by omega)) (List.length_pos_iff.1 (by omega)) rfl (by omega) (by omega) sB sD ltB (fun x hx => hw x (h1.mem_iff.1 (by
          rcases List.mem_append.1 hx with h | h <;> simp [h]))) (by simp; omega) hN2
        rw [show X ++ B ++ D ++ [] = X ++ (B ++ D) by simp] at c
        simp only [List.append_nil] at c
        ((conv => whnf); repeat' ((first | refine vv7 ?_ | refine vv8 ?_ | refine vv20 ?_) <;> (conv => whnf)))
        refine CallN.ef c ?_
        rintro _ _ ⟨rfl, M', pM, sM, rfl⟩
        have hpl := pM.length_eq
        rw [List.length_append] at hpl
        ((conv => whnf); repeat' ((first | refine vv20 ?_) <;> (conv => whnf)))
        exact BackN2.mk (k * 2) (X ++ M') ⟨by omega, by omega, (List.Perm.append_left X pM).trans h1, by
          rw [Nat.mul_comm]
          exact h4 M' (.last M' (by omega) sM) (fun x hx y hy => h3 x hx y (pM.mem_iff.1 hy))⟩ (by omega) (dH_re rfl (by repeat (first | exact trivial | refine ⟨.inr ⟨rfl, rfl⟩, ?_⟩ | refine ⟨.inr ⟨rfl, vi_eq (by first | omega | (simp; done) | (simp; omega))⟩, ?_⟩ | refine ⟨.inr ⟨rfl, smE rfl (by first | omega | (simp; done) | (simp; omega))⟩, ?_⟩)))
      · ((conv => whnf); repeat' ((first | refine vv8 ?_ | refine vv20 ?_) <;> (conv => whnf)))
        exact BackN2.mk (k * 2) (X ++ Y) ⟨by omega, by omega, h1, by
          rw [Nat.mul_comm]
          exact h4 Y (.last Y (by omega) (chop_small h5 (by omega))) h3⟩ (by omega) (dH_re rfl (by repeat (first | exact trivial | refine ⟨.inr ⟨rfl, rfl⟩, ?_⟩ | refine ⟨.inr ⟨rfl, vi_eq (by first | omega | (simp; done) | (simp; omega))⟩, ?_⟩ | refine ⟨.inr ⟨rfl, smE rfl (by first | omega | (simp; done) | (simp; omega))⟩, ?_⟩)))
  · ((conv => whnf); repeat' ((first | refine vv8 ?_) <;> (conv => whnf)))
    exact ⟨⟨rfl, q, p, chop_small c (by omega), rfl⟩⟩
theorem sortStable_ok {o : List Nat} {N : Nat} (hk : Keyed A S w) (ho : o.Pairwise (· < ·)) (hw : ∀ x ∈ o, x < w.length) (hN : o.length = N) (hN2 : N ≤ 1000000) :
    Ef Tryz.prog G1 123 [.sm 4 1 0 N, dCl] (dH A S w t ps o) fun y' H2 => y' = .tuple [] ∧ ∃ o' : List Nat, o'.Perm o ∧ o'.Pairwise (bef (key A S w)) ∧ H2 = dH A S w t ps o' := by
  refine Ef.of_ev (T := Tryz.tab) (n := 9) (tryd_okm 5 _) rfl Tryz.func123 rfl rfl (by simp) ?_
  (conv => whnf)
  refine CallN.ef (stable_ok hk ho hw hN hN2) ?_
  rintro _ _ ⟨rfl, o', p, s, rfl⟩
  (conv => whnf)
  exact ⟨⟨rfl, o', p, s, rfl⟩⟩
end
end Go.Proofs.Ax
