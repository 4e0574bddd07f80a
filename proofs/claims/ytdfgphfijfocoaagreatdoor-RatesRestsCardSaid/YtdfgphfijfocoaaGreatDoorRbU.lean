import Derived.Test.YtdfgphfijfocoaaGreatDoorRbT
import Derived.Test.YtdfgphfijfocoaaGreatDoorAxH
namespace Go.Proofs.Ax
open Go Go.Proofs
set_option maxRecDepth 10000
set_option maxHeartbeats 8000000
theorem cut_at {l : List Nat} {k : Nat} (h : k ≤ l.length) : ∃ X Y, l = X ++ Y ∧ X.length = k := ⟨l.take k, l.drop k, (List.take_append_drop ..).symm, by simp; omega⟩
section
variable {A S : Int} {w : List Int} {t : Bool} {ps : List Int}
theorem symMerge_ok (hk : Keyed A S w) (n : Nat) : ∀ {P L D R : List Nat} {N : Nat} {a m b : Int}, L.length + D.length ≤ n → L ≠ [] → D ≠ [] → (P.length : Int) = a → ((P.length + L.length : Nat) : Int) = m → ((P.length + L.length + D.length : Nat) : Int) = b → L.Pairwise (bef (key A S w)) → D.Pairwise (bef (key A S w)) → (∀ x ∈ L, ∀ y ∈ D, x < y) →
    (∀ x ∈ L ++ D, x < w.length) → (P ++ L ++ D ++ R).length = N → N ≤ 1000000 →
    Ef Tryz.prog G1 168 [.sm 4 1 0 N, vi a, vi m, vi b, dCl] (dH A S w t ps (P ++ L ++ D ++ R)) fun y' H2 => y' = .tuple [] ∧ ∃ M' : List Nat, M'.Perm (L ++ D) ∧ M'.Pairwise (bef (key A S w)) ∧ H2 = dH A S w t ps (P ++ M' ++ R) := by
  induction n with
  | zero =>
    intro P L D R N a m b hn hL
    exact absurd (List.eq_nil_of_length_eq_zero (by omega)) hL
  | succ n ih =>
    intro P L D R N a m b hn hL hD ha hm hb sL sD hlt hw hN hN2
    have hL' := List.length_pos_iff.2 hL
    have hD' := List.length_pos_iff.2 hD
    by_cases hL1 : L.length = 1
    · obtain ⟨x, rfl⟩ := List.length_eq_one_iff.1 hL1
      exact symMerge_one hk hD ha (by simpa using hm) (by simpa using hb) sD (fun y hy => hlt x (by simp) y hy) (hw x (by simp)) (fun y hy => hw y (List.mem_append_right _ hy)) hN hN2
    by_cases hD1 : D.length = 1
    · obtain ⟨x, rfl⟩ := List.length_eq_one_iff.1 hD1
      exact symMerge_lone hk (by omega) ha hm (by simpa using hb) sL (fun y hy => hlt y hy x (by simp)) (hw x (by simp)) (fun y hy => hw y (List.mem_append_left _ hy)) hN hN2
    refine Ef.of_code (T := Tryz.tab) (n := 220) (tryd_okm 5 _) rfl Tryz.func168 rfl rfl (by simp) ?_
    subst ha
    subst hm
    subst hb
    have hlen := hN
    simp only [List.length_append] at hN
    have hin : ∀ j, P.length ≤ j → j < P.length + L.length + D.length → (P ++ L ++ D ++ R).getD j 0 < w.length := fun j h1 h2 => by
      rw [show P ++ L ++ D ++ R = P ++ (L ++ D) ++ R by simp]
      exact hw _ (getD_mid h1 (by simp; omega))
    obtain ⟨md, hmd⟩ : ∃ md : Nat, md = (P.length + (P.length + L.length + D.length)) / 2 := ⟨_, rfl⟩
    refine CodeN.seqE (tryd_okm 5 _) ?_; ((conv => whnf); repeat' ((first | refine vv8 ?_ | refine vv20 ?_) <;> (conv => whnf)))
    refine CodeN.seqE (tryd_okm 5 _) ?_; ((conv => whnf); repeat' ((first | refine vv8 ?_ | refine vv20 ?_) <;> (conv => whnf)))
    refine CodeN.seqE (tryd_okm 5 _) ?_; ((conv => whnf); repeat' ((first | refine shr_ok rfl rfl ?_ | refine WrapN.inU ⟨by omega, by omega⟩ ?_ | refine vv20 ?_) <;> (conv => whnf)))
    refine CodeN.seqE (tryd_okm 5 _) ?_; ((conv => whnf); repeat' ((first | refine vv20 ?_) <;> (conv => whnf)))
    refine CodeN.seqE (tryd_okm 5 _) ?_; (conv => whnf)
    obtain ⟨s0, r0, h0⟩ : ∃ s0 r0 : Nat, (md < P.length + L.length ∧ s0 + (P.length + L.length + D.length) = md + (P.length + L.length) ∧ r0 = md) ∨ (P.length + L.length ≤ md ∧ s0 = P.length ∧ r0 = P.length + L.length) := by
      by_cases h : md < P.length + L.length
      · exact ⟨md + (P.length + L.length) - (P.length + L.length + D.length), md, .inl ⟨h, by omega, rfl⟩⟩
      · exact ⟨_, _, .inr ⟨by omega, rfl, rfl⟩⟩
    refine CodeN.cut (tryd_okm 5 _) (fun _ : Unit => [(0, .sm 4 1 0 N), (1, vi P.length), (2, vi ((P.length + L.length : Nat) : Int)), (3, vi ((P.length + L.length + D.length : Nat) : Int)), (4, dCl), (18, vi md), (19, vi ((md + (P.length + L.length) : Nat) : Int)), (20, vi s0), (21, vi r0)]) (fun _ => dH A S w t ps (P ++ L ++ D ++ R)) (fun _ => True) ?_ ?_
    · ((conv => whnf); repeat' ((first | refine vv11 (fun hbr => ?_) (fun hbr => ?_) | refine vv20 ?_) <;> (conv => whnf)))
      all_goals exact JoinN.mk () trivial (dH_re rfl (by repeat (first | exact trivial | refine ⟨.inr ⟨rfl, rfl⟩, ?_⟩ | refine ⟨.inr ⟨rfl, vi_eq (by first | omega | (simp; done) | (simp; omega))⟩, ?_⟩ | refine ⟨.inr ⟨rfl, smE rfl (by first | omega | (simp; done) | (simp; omega))⟩, ?_⟩)))
    rintro _ -
    have hb : ∀ s, s0 ≤ s → s ≤ r0 → P.length ≤ s ∧ s ≤ md ∧ s ≤ P.length + L.length ∧ md + (P.length + L.length) - s ≤ P.length + L.length + D.length := fun s g1 g2 => by
      rcases h0 with h | h <;> exact ⟨by omega, by omega, by omega, by omega⟩
    have hb2 : ∀ s, s < r0 → s < md := fun s g1 => by
      rcases h0 with h | h <;> omega
    have hs0 : ∀ s, s0 ≤ s → P.length < s → md + (P.length + L.length) - s < P.length + L.length + D.length → s0 < s := fun s g1 g2 g3 => by
      rcases h0 with h | h <;> omega
    have hr0 : ∀ s, s ≤ r0 → s < md → s < P.length + L.length → s < r0 := fun s g1 g2 g3 => by
      rcases h0 with h | h <;> omega
    have hsr0 : s0 ≤ r0 := by rcases h0 with h | h <;> omega
    have hmb : P.length < md ∧ md < P.length + L.length + D.length := by omega
    clear h0 hmd
    refine CodeN.seqE (tryd_okm 5 _) ?_; ((conv => whnf); repeat' ((first | refine vv20 ?_) <;> (conv => whnf)))
    refine CodeN.cut (tryd_okm 5 _) (fun s : Nat => [(0, .sm 4 1 0 N), (1, vi P.length), (2, vi ((P.length + L.length : Nat) : Int)), (3, vi ((P.length + L.length + D.length : Nat) : Int)), (4, dCl), (18, vi md), (19, vi ((md + (P.length + L.length) : Nat) : Int)), (20, vi s)]) (fun _ => dH A S w t ps (P ++ L ++ D ++ R))
      (fun s => s0 ≤ s ∧ s ≤ r0 ∧ (s0 < s → key A S w ((P ++ L ++ D ++ R).getD (md + (P.length + L.length) - s) 0) ≤ key A S w ((P ++ L ++ D ++ R).getD (s - 1) 0)) ∧ (s < r0 → key A S w ((P ++ L ++ D ++ R).getD s 0) < key A S w ((P ++ L ++ D ++ R).getD (md + (P.length + L.length) - 1 - s) 0))) ?_ ?_
    · (conv => whnf)
      refine LoopN.of2 (tryd_okm 5 _) (fun (s r : Nat) => [(0, .sm 4 1 0 N), (1, vi P.length), (2, vi ((P.length + L.length : Nat) : Int)), (3, vi ((P.length + L.length + D.length : Nat) : Int)), (4, dCl), (18, vi md), (19, vi ((md + (P.length + L.length) : Nat) : Int)), (20, vi s), (21, vi r), (22, vi ((md + (P.length + L.length) - 1 : Nat) : Int))]) (fun s r => dH A S w t ps (P ++ L ++ D ++ R)) (fun s r => r - s)
        (fun s r => s0 ≤ s ∧ s ≤ r ∧ r ≤ r0 ∧ (s0 < s → key A S w ((P ++ L ++ D ++ R).getD (md + (P.length + L.length) - s) 0) ≤ key A S w ((P ++ L ++ D ++ R).getD (s - 1) 0)) ∧ (r < r0 → key A S w ((P ++ L ++ D ++ R).getD r 0) < key A S w ((P ++ L ++ D ++ R).getD (md + (P.length + L.length) - 1 - r) 0)))
        s0 r0 ⟨Nat.le_refl _, hsr0, Nat.le_refl _, fun h => absurd h (Nat.lt_irrefl _), fun h => absurd h (Nat.lt_irrefl _)⟩ (dH_re rfl (by repeat (first | exact trivial | refine ⟨.inr ⟨rfl, rfl⟩, ?_⟩ | refine ⟨.inr ⟨rfl, vi_eq (by first | omega | (simp; done) | (simp; omega))⟩, ?_⟩ | refine ⟨.inr ⟨rfl, smE rfl (by first | omega | (simp; done) | (simp; omega))⟩, ?_⟩))) ?_
      rintro s r ⟨h1, h2, h3, h4, h5⟩
      by_cases hsr : s < r
      · obtain ⟨c, hc⟩ : ∃ c, c = (s + r) / 2 := ⟨_, rfl⟩
        obtain ⟨q, hq⟩ : ∃ q, q = md + (P.length + L.length) - 1 - c := ⟨_, rfl⟩
        obtain ⟨b1, b2, b3, b4⟩ := hb c (by omega) (by omega)
        have b5 := hb2 c (by omega)
        have hcw := hin c (by omega) (by omega)
        have hqw := hin q (by omega) (by omega)
        have hkc := key_bd hk ((P ++ L ++ D ++ R).getD c 0)
        have hkq := key_bd hk ((P ++ L ++ D ++ R).getD q 0)
        ((conv => whnf); repeat' ((first | refine IdxN.at0 c (by omega) (by omega) ?_ | refine IdxN.at0 q (by omega) (by omega) ?_ | refine RowN.getD (by omega) ?_ | refine shr_ok rfl rfl ?_ | refine WrapN.inU ⟨by omega, by omega⟩ ?_ | refine vv7 ?_ | refine vv12 (fun hbr => ?_) (fun hbr => ?_) | refine vv20 ?_ | refine vv25 ?_ | refine DrawN.gen (by first | exact tryd_ok _ | exact tryd_okm _ _) (by kernel_rfl) ?_ | refine GCallN.ef (cmp_ok hk hqw hcw) ?_) <;> (conv => whnf)))
        case refine_2 =>
          refine BackN2.mk (c + 1) r ⟨by omega, by omega, h3, fun _ => ?_, h5⟩ (by omega) (dH_re rfl (by repeat (first | exact trivial | refine ⟨.inr ⟨rfl, rfl⟩, ?_⟩ | refine ⟨.inr ⟨rfl, vi_eq (by first | omega | (simp; done) | (simp; omega))⟩, ?_⟩ | refine ⟨.inr ⟨rfl, smE rfl (by first | omega | (simp; done) | (simp; omega))⟩, ?_⟩)))
          rw [show md + (P.length + L.length) - (c + 1) = q by omega, show c + 1 - 1 = c by omega]
          omega
        case refine_1 =>
          refine BackN2.mk s c ⟨h1, by omega, by omega, h4, fun _ => ?_⟩ (by omega) (dH_re rfl (by repeat (first | exact trivial | refine ⟨.inr ⟨rfl, rfl⟩, ?_⟩ | refine ⟨.inr ⟨rfl, vi_eq (by first | omega | (simp; done) | (simp; omega))⟩, ?_⟩ | refine ⟨.inr ⟨rfl, smE rfl (by first | omega | (simp; done) | (simp; omega))⟩, ?_⟩)))
          rw [show md + (P.length + L.length) - 1 - c = q by omega]
          omega
      · obtain rfl : s = r := by omega
        ((conv => whnf); repeat' ((first | refine vv8 ?_) <;> (conv => whnf)))
        exact JoinN.mk s ⟨h1, h3, h4, h5⟩ (dH_re rfl (by repeat (first | exact trivial | refine ⟨.inr ⟨rfl, rfl⟩, ?_⟩ | refine ⟨.inr ⟨rfl, vi_eq (by first | omega | (simp; done) | (simp; omega))⟩, ?_⟩ | refine ⟨.inr ⟨rfl, smE rfl (by first | omega | (simp; done) | (simp; omega))⟩, ?_⟩)))
    rintro s ⟨h1, h3, h4, h5⟩
    obtain ⟨e, he⟩ : ∃ e, e = md + (P.length + L.length) - s := ⟨_, rfl⟩
    obtain ⟨b1, b2, b3, b4⟩ := hb s h1 h3
    obtain ⟨La, Lb, rfl, hLa⟩ := cut_at (l := L) (k := s - P.length) (by omega)
    obtain ⟨Da, Db, rfl, hDa⟩ := cut_at (l := D) (k := e - (P.length + (La ++ Lb).length)) (by omega)
    have hLl : (La ++ Lb).length = La.length + Lb.length := List.length_append
    have hDl : (Da ++ Db).length = Da.length + Db.length := List.length_append
    have hX := symX (key := key A S w) (P := P) (R := R) (s := s) (e := e) (by omega) (by omega) sL sD (fun g1 g2 => by rw [he]; exact h4 (hs0 s h1 (by omega) (by omega)))
    have hY := symY (key := key A S w) (P := P) (R := R) (s := s) (e := e) (by omega) (by omega) sL sD (fun g1 g2 => by
      rw [show e - 1 = md + (P.length + (La ++ Lb).length) - 1 - s by omega]; exact h5 (hr0 s h3 (by omega) (by omega)))
    clear h4 h5 hin hs0 hr0 hb hb2
    have hrot : ∀ (x : Int), x = (e : Int) → 0 < Lb.length → 0 < Da.length → Ef Tryz.prog G1 193 [.sm 4 1 0 N, vi s, vi ((P.length + (La ++ Lb).length : Nat) : Int), vi x, dCl] (dH A S w t ps (P ++ (La ++ Lb) ++ (Da ++ Db) ++ R)) fun y' H2 => y' = .tuple [] ∧ H2 = dH A S w t ps (P ++ La ++ Da ++ (Lb ++ Db ++ R)) := fun x hx g1 g2 => by
      have c := rotate_ok (A := A) (S := S) (w := w) (t := t) (ps := ps) (P := P ++ La) (B := Lb) (D := Da) (R := Db ++ R) (N := N) (a := s) (m := ((P.length + (La ++ Lb).length : Nat) : Int)) (b := x) (by simp; omega) (by simp; omega) (by simp; omega) (List.length_pos_iff.1 g1) (List.length_pos_iff.1 g2) (by rw [← hlen]; simp) hN2
      rw [show P ++ La ++ Lb ++ Da ++ (Db ++ R) = P ++ (La ++ Lb) ++ (Da ++ Db) ++ R by simp, show P ++ La ++ Da ++ Lb ++ (Db ++ R) = P ++ La ++ Da ++ (Lb ++ Db ++ R) by simp] at c
      exact c
    have hno : ¬ (0 < Lb.length ∧ 0 < Da.length) → P ++ (La ++ Lb) ++ (Da ++ Db) ++ R = P ++ La ++ Da ++ (Lb ++ Db ++ R) := fun h => by
      by_cases g : Lb.length = 0
      · rw [List.eq_nil_of_length_eq_zero g]; simp
      · rw [List.eq_nil_of_length_eq_zero (show Da.length = 0 by omega)]; simp
    have hr1 : 0 < La.length → 0 < Da.length → Ef Tryz.prog G1 168 [.sm 4 1 0 N, vi P.length, vi s, vi md, dCl] (dH A S w t ps (P ++ La ++ Da ++ (Lb ++ Db ++ R))) fun y' H2 => y' = .tuple [] ∧ ∃ M' : List Nat, M'.Perm (La ++ Da) ∧ M'.Pairwise (bef (key A S w)) ∧ H2 = dH A S w t ps (P ++ M' ++ (Lb ++ Db ++ R)) := fun g1 g2 =>
      ih (by omega) (List.length_pos_iff.1 g1) (List.length_pos_iff.1 g2) rfl (by omega) (by omega) (List.pairwise_append.1 sL).1 (List.pairwise_append.1 sD).1 (fun x hx y hy => hlt x (List.mem_append_left _ hx) y (List.mem_append_left _ hy)) (fun x hx => hw x (by
        rcases List.mem_append.1 hx with h | h
        · exact List.mem_append_left _ (List.mem_append_left _ h)
        · exact List.mem_append_right _ (List.mem_append_left _ h))) (by rw [← hlen]; simp; omega) hN2
    have hs1 : ¬ (0 < La.length ∧ 0 < Da.length) → (La ++ Da).Pairwise (bef (key A S w)) := fun h => by
      by_cases g : La.length = 0
      · rw [List.eq_nil_of_length_eq_zero g]; exact (List.pairwise_append.1 sD).1
      · rw [List.eq_nil_of_length_eq_zero (show Da.length = 0 by omega), List.append_nil]; exact (List.pairwise_append.1 sL).1
    have hr2 : ∀ (M1 o : List Nat) (x : Int), x = (e : Int) → o = P ++ M1 ++ (Lb ++ Db ++ R) → M1.Perm (La ++ Da) → 0 < Lb.length → 0 < Db.length → Ef Tryz.prog G1 168 [.sm 4 1 0 N, vi md, vi x, vi ((P.length + (La ++ Lb).length + (Da ++ Db).length : Nat) : Int), dCl] (dH A S w t ps o) fun y' H2 => y' = .tuple [] ∧ ∃ M' : List Nat, M'.Perm (Lb ++ Db) ∧ M'.Pairwise (bef (key A S w)) ∧ H2 = dH A S w t ps (P ++ M1 ++ M' ++ R) := fun M1 o x hx ho hp g1 g2 => by
      have hpl := hp.length_eq
      simp only [List.length_append] at hpl
      subst ho
      have c := ih (P := P ++ M1) (L := Lb) (D := Db) (R := R) (N := N) (a := md) (m := x) (b := ((P.length + (La ++ Lb).length + (Da ++ Db).length : Nat) : Int)) (by omega) (List.length_pos_iff.1 g1) (List.length_pos_iff.1 g2) (by simp; omega) (by simp; omega) (by simp; omega) (List.pairwise_append.1 sL).2.1 (List.pairwise_append.1 sD).2.1 (fun x hx y hy => hlt x (List.mem_append_right _ hx) y (List.mem_append_right _ hy)) (fun x hx => hw x (by
        rcases List.mem_append.1 hx with h | h
        · exact List.mem_append_left _ (List.mem_append_right _ h)
        · exact List.mem_append_right _ (List.mem_append_right _ h))) (by rw [← hlen]; simp; omega) hN2
      rw [show P ++ M1 ++ Lb ++ Db ++ R = P ++ M1 ++ (Lb ++ Db ++ R) by simp] at c
      exact c
    have hs2 : ¬ (0 < Lb.length ∧ 0 < Db.length) → (Lb ++ Db).Pairwise (bef (key A S w)) := fun h => by
      by_cases g : Lb.length = 0
      · rw [List.eq_nil_of_length_eq_zero g]; exact (List.pairwise_append.1 sD).2.1
      · rw [List.eq_nil_of_length_eq_zero (show Db.length = 0 by omega), List.append_nil]; exact (List.pairwise_append.1 sL).2.1
    have fin : ∀ (M1 M2 o : List Nat), M1.Perm (La ++ Da) → M1.Pairwise (bef (key A S w)) → M2.Perm (Lb ++ Db) → M2.Pairwise (bef (key A S w)) → o = P ++ (M1 ++ M2) ++ R →
        DoneN (fun y' H2 => y' = .tuple [] ∧ ∃ M' : List Nat, M'.Perm (La ++ Lb ++ (Da ++ Db)) ∧ M'.Pairwise (bef (key A S w)) ∧ H2 = dH A S w t ps (P ++ M' ++ R)) (.tuple []) (dH A S w t ps o) := fun M1 M2 o p1 s1 p2 s2 ho => by
      subst ho
      have := sym_law sL sD hlt hX hY p1 s1 p2 s2
      exact ⟨⟨rfl, M1 ++ M2, this.1, this.2, rfl⟩⟩
    clear sL sD hlt hX hY ih hw
    refine CodeN.seqE (tryd_okm 5 _) ?_; ((conv => whnf); repeat' ((first | refine vv20 ?_) <;> (conv => whnf)))
    refine CodeN.cut (tryd_okm 5 _) (fun _ : Unit => [(0, .sm 4 1 0 N), (1, vi P.length), (3, vi ((P.length + (La ++ Lb).length + (Da ++ Db).length : Nat) : Int)), (4, dCl), (18, vi md), (20, vi s), (24, vi e)]) (fun _ => dH A S w t ps (P ++ La ++ Da ++ (Lb ++ Db ++ R))) (fun _ => True) ?_ ?_
    · by_cases c1 : 0 < Lb.length ∧ 0 < Da.length
      · ((conv => whnf); repeat' ((first | refine vv7 ?_) <;> (conv => whnf)))
        refine CallN.ef (hrot _ (by omega) c1.1 c1.2) ?_
        rintro _ _ ⟨rfl, rfl⟩
        (conv => whnf)
        exact JoinN.mk () trivial (dH_re rfl (by repeat (first | exact trivial | refine ⟨.inr ⟨rfl, rfl⟩, ?_⟩ | refine ⟨.inr ⟨rfl, vi_eq (by first | omega | (simp; done) | (simp; omega))⟩, ?_⟩ | refine ⟨.inr ⟨rfl, smE rfl (by first | omega | (simp; done) | (simp; omega))⟩, ?_⟩)))
      · ((conv => whnf); repeat' ((first | refine vv2 ?_ | refine vv3 ?_ | refine vv4 ?_ | refine vv8 ?_ | refine vv11 (fun hbr => ?_) (fun hbr => ?_)) <;> (conv => whnf)))
        all_goals exact JoinN.mk () trivial (dH_re (hno c1) (by repeat (first | exact trivial | refine ⟨.inr ⟨rfl, rfl⟩, ?_⟩ | refine ⟨.inr ⟨rfl, vi_eq (by first | omega | (simp; done) | (simp; omega))⟩, ?_⟩ | refine ⟨.inr ⟨rfl, smE rfl (by first | omega | (simp; done) | (simp; omega))⟩, ?_⟩)))
    rintro _ -
    refine CodeN.cut (tryd_okm 5 _) (fun _ : List Nat => [(0, .sm 4 1 0 N), (3, vi ((P.length + (La ++ Lb).length + (Da ++ Db).length : Nat) : Int)), (4, dCl), (18, vi md), (24, vi e)]) (fun M1 => dH A S w t ps (P ++ M1 ++ (Lb ++ Db ++ R))) (fun M1 => M1.Perm (La ++ Da) ∧ M1.Pairwise (bef (key A S w))) ?_ ?_
    · by_cases c2 : 0 < La.length ∧ 0 < Da.length
      · ((conv => whnf); repeat' ((first | refine vv7 ?_) <;> (conv => whnf)))
        refine CallN.ef (hr1 c2.1 c2.2) ?_
        rintro _ _ ⟨rfl, M1, p1, s1, rfl⟩
        (conv => whnf)
        exact JoinN.mk M1 ⟨p1, s1⟩ (dH_re rfl (by repeat (first | exact trivial | refine ⟨.inr ⟨rfl, rfl⟩, ?_⟩ | refine ⟨.inr ⟨rfl, vi_eq (by first | omega | (simp; done) | (simp; omega))⟩, ?_⟩ | refine ⟨.inr ⟨rfl, smE rfl (by first | omega | (simp; done) | (simp; omega))⟩, ?_⟩)))
      · ((conv => whnf); repeat' ((first | refine vv2 ?_ | refine vv3 ?_ | refine vv4 ?_ | refine vv8 ?_ | refine vv11 (fun hbr => ?_) (fun hbr => ?_)) <;> (conv => whnf)))
        all_goals exact JoinN.mk (La ++ Da) ⟨.refl _, hs1 c2⟩ (dH_re (by simp) (by repeat (first | exact trivial | refine ⟨.inr ⟨rfl, rfl⟩, ?_⟩ | refine ⟨.inr ⟨rfl, vi_eq (by first | omega | (simp; done) | (simp; omega))⟩, ?_⟩ | refine ⟨.inr ⟨rfl, smE rfl (by first | omega | (simp; done) | (simp; omega))⟩, ?_⟩)))
    rintro M1 ⟨p1, s1⟩
    refine CodeN.of_ev (tryd_okm 5 _) ?_
    by_cases c3 : 0 < Lb.length ∧ 0 < Db.length
    · ((conv => whnf); repeat' ((first | refine vv7 ?_) <;> (conv => whnf)))
      refine CallN.ef (hr2 M1 _ _ (by omega) rfl p1 c3.1 c3.2) ?_
      rintro _ _ ⟨rfl, M2, p2, s2, rfl⟩
      (conv => whnf)
      exact fin M1 M2 _ p1 s1 p2 s2 (by simp)
    · ((conv => whnf); repeat' ((first | refine vv2 ?_ | refine vv3 ?_ | refine vv4 ?_ | refine vv8 ?_ | refine vv11 (fun hbr => ?_) (fun hbr => ?_)) <;> (conv => whnf)))
      all_goals exact fin M1 (Lb ++ Db) _ p1 s1 (.refl _) (hs2 c3) (by simp)
end
end Go.Proofs.Ax
