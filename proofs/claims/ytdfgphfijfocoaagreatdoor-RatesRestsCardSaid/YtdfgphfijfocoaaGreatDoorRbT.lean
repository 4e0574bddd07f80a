import Derived.Test.YtdfgphfijfocoaaGreatDoorRbS
namespace Go.Proofs.Ax
open Go Go.Proofs
set_option maxRecDepth 10000
set_option maxHeartbeats 4000000
theorem RowN.getD {o : List Nat} {j : Nat} {k : List AV → Prop} (h : j < o.length) (hk : k (ix (o.getD j 0))) : RowN (o.map ix) j k := .raw (by simp [List.getD_eq_getElem?_getD, h]) hk
section
variable {A S : Int} {w : List Int} {t : Bool} {ps : List Int}
theorem symMerge_one {P D R : List Nat} {x N : Nat} {a m b : Int} (hk : Keyed A S w) (hD : D ≠ []) (ha : (P.length : Int) = a) (hm : ((P.length + 1 : Nat) : Int) = m) (hb : ((P.length + 1 + D.length : Nat) : Int) = b) (sD : D.Pairwise (bef (key A S w))) (hlt : ∀ y ∈ D, x < y)
    (hxw : x < w.length) (hw : ∀ x ∈ D, x < w.length) (hN : (P ++ [x] ++ D ++ R).length = N) (hN2 : N ≤ 1000000) :
    Ef Tryz.prog G1 168 [.sm 4 1 0 N, vi a, vi m, vi b, dCl] (dH A S w t ps (P ++ [x] ++ D ++ R)) fun y' H2 => y' = .tuple [] ∧ ∃ M' : List Nat, M'.Perm ([x] ++ D) ∧ M'.Pairwise (bef (key A S w)) ∧ H2 = dH A S w t ps (P ++ M' ++ R) := by
  have hD' := List.length_pos_iff.2 hD
  refine Ef.of_ev (T := Tryz.tab) (n := 220) (tryd_okm 5 _) rfl Tryz.func168 rfl rfl (by simp) ?_
  subst ha
  subst hm
  subst hb
  simp only [List.length_append, List.length_cons, List.length_nil] at hN
  have hkx := key_bd hk x
  ((conv => whnf); repeat' ((first | refine vv7 ?_ | refine vv20 ?_) <;> (conv => whnf)))
  refine LoopN.of4 (tryd_okm 5 _) (fun (i : Nat) (D1 D2 D3 : List Nat) => [(0, .sm 4 1 0 N), (1, vi P.length), (4, dCl), (10, vi i), (11, vi ((i + D2.length : Nat) : Int))]) (fun i D1 D2 D3 => dH A S w t ps (P ++ x :: D ++ R)) (fun i D1 D2 D3 => D2.length)
    (fun i D1 D2 D3 => P.length + 1 + D1.length = i ∧ D = D1 ++ D2 ++ D3 ∧ (∀ y ∈ D1, key A S w x < key A S w y) ∧ (∀ y ∈ D3, key A S w y ≤ key A S w x)) (P.length + 1) [] D [] ⟨rfl, by simp, by simp, by simp⟩ (dH_re (by simp) (by repeat (first | exact trivial | refine ⟨.inr ⟨rfl, rfl⟩, ?_⟩ | refine ⟨.inr ⟨rfl, vi_eq (by first | omega | (simp; done) | (simp; omega))⟩, ?_⟩ | refine ⟨.inr ⟨rfl, smE rfl (by first | omega | (simp; done) | (simp; omega))⟩, ?_⟩))) ?_
  rintro i D1 D2 D3 ⟨h0, rfl, h1, h2⟩
  simp only [List.length_append] at hN hD'
  cases hz : D2 with
  | nil =>
    subst hz
    have z : ([] : List Nat).length = 0 := rfl
    ((conv => whnf); repeat' ((first | refine vv8 ?_) <;> (conv => whnf)))
    refine LoopN.of3 (tryd_okm 5 _) (fun (k : Nat) (E1 E2 : List Nat) => [(0, .sm 4 1 0 N), (10, vi i), (13, vi k)]) (fun k E1 E2 => dH A S w t ps (P ++ E1 ++ x :: E2 ++ D3 ++ R)) (fun k E1 E2 => E2.length)
      (fun k E1 E2 => P.length + E1.length = k ∧ D1 = E1 ++ E2) P.length [] D1 ⟨rfl, rfl⟩ (dH_re (by simp) (by repeat (first | exact trivial | refine ⟨.inr ⟨rfl, rfl⟩, ?_⟩ | refine ⟨.inr ⟨rfl, vi_eq (by first | omega | (simp; done) | (simp; omega))⟩, ?_⟩ | refine ⟨.inr ⟨rfl, smE rfl (by first | omega | (simp; done) | (simp; omega))⟩, ?_⟩))) ?_
    rintro k E1 E2 ⟨g0, rfl⟩
    simp only [List.length_append] at hN h0
    cases E2 with
    | nil =>
      simp only [List.append_nil, List.length_nil] at *
      ((conv => whnf); repeat' ((first | refine vv8 ?_ | refine vv20 ?_) <;> (conv => whnf)))
      have hp := List.pairwise_append.1 sD
      refine ⟨⟨rfl, E1 ++ x :: D3, List.perm_middle, List.pairwise_append.2 ⟨hp.1, List.pairwise_cons.2 ⟨fun y hy => ?_, hp.2.1⟩, fun y hy z hz => ?_⟩, by simp⟩⟩
      · have := h2 y hy
        have := hlt y (List.mem_append_right _ hy)
        unfold bef; omega
      · rcases List.mem_cons.1 hz with rfl | hz
        · exact .inl (h1 y hy)
        · exact hp.2.2 y hy z hz
    | cons e E2 =>
      simp only [List.length_cons] at hN h0
      have e1 : P ++ E1 ++ x :: e :: E2 ++ D3 ++ R = (P ++ E1) ++ x :: e :: (E2 ++ D3 ++ R) := by simp
      have hl : (P ++ E1).length = P.length + E1.length := by simp
      simp only [e1]
      ((conv => whnf); repeat' ((first | refine RowN.row2 (by first | omega | (show _ = _ + 1; omega)) ?_ | refine RowN.row1 (by first | omega | (show _ = _ + 1; omega)) ?_ | refine RowSN.row2 (by first | omega | (show _ = _ + 1; omega)) ?_ | refine RowSN.row1 (by first | omega | (show _ = _ + 1; omega)) ?_ | refine IxN.mk _ rfl ?_ | refine vv7 ?_ | refine vv20 ?_ | refine IdxN.at0 _ rfl (by first | assumption | omega | (simp <;> omega)) ?_ | refine vv25 ?_ | refine DrawN.gen (by first | exact tryd_ok _ | exact tryd_okm _ _) (by kernel_rfl) ?_) <;> (conv => whnf)))
      exact BackN3.mk (k + 1) (E1 ++ [e]) E2 ⟨by simp; omega, by simp⟩ (by simp) (dH_re (by simp) (by repeat (first | exact trivial | refine ⟨.inr ⟨rfl, rfl⟩, ?_⟩ | refine ⟨.inr ⟨rfl, vi_eq (by first | omega | (simp; done) | (simp; omega))⟩, ?_⟩ | refine ⟨.inr ⟨rfl, smE rfl (by first | omega | (simp; done) | (simp; omega))⟩, ?_⟩)))
  | cons d0 D2' =>
    have hz' : 0 < D2.length := by rw [hz]; simp
    rw [← hz] at *
    clear hz
    obtain ⟨E1, e, E2, rfl, hE1⟩ := split_mid (l := D2) (k := (2 * i + D2.length) / 2 - i) (by omega)
    simp only [List.length_append, List.length_cons] at hN hD' hE1 hz'
    have hew : e < w.length := hw e (by simp)
    have hke := key_bd hk e
    have e1 : P ++ x :: (D1 ++ (E1 ++ e :: E2) ++ D3) ++ R = P ++ x :: ((D1 ++ E1) ++ e :: (E2 ++ D3 ++ R)) := by simp
    have hl : (D1 ++ E1).length = D1.length + E1.length := by simp
    have hl2 : (E1 ++ e :: E2).length = E1.length + (E2.length + 1) := by simp
    have hs := (List.pairwise_append.1 (List.pairwise_append.1 sD).1).2.1
    have hs1 := List.pairwise_append.1 hs
    simp only [e1]
    ((conv => whnf); repeat' ((first | refine IdxN.at0 (i + E1.length) (by omega) (by omega) ?_ | refine RowN.row1 (by first | omega | (show _ = _ + 1; omega)) ?_ | refine RowN.rowB (by first | omega | (show _ = _ + 1; omega)) ?_ | refine shr_ok rfl rfl ?_ | refine WrapN.inU ⟨by omega, by omega⟩ ?_ | refine vv7 ?_ | refine vv11 (fun hbr => ?_) (fun hbr => ?_) | refine vv20 ?_ | refine IdxN.at0 _ rfl (by first | assumption | omega | (simp <;> omega)) ?_ | refine vv25 ?_ | refine DrawN.gen (by first | exact tryd_ok _ | exact tryd_okm _ _) (by kernel_rfl) ?_ | refine GCallN.ef (cmp_ok hk hew hxw) ?_) <;> (conv => whnf)))
    case refine_1 =>
      refine BackN4.mk (i + E1.length + 1) (D1 ++ E1 ++ [e]) E2 D3 ⟨by simp; omega, by simp, fun y hy => ?_, h2⟩ (by simp; omega) (dH_re (by simp) (by repeat (first | exact trivial | refine ⟨.inr ⟨rfl, rfl⟩, ?_⟩ | refine ⟨.inr ⟨rfl, vi_eq (by first | omega | (simp; done) | (simp; omega))⟩, ?_⟩ | refine ⟨.inr ⟨rfl, smE rfl (by first | omega | (simp; done) | (simp; omega))⟩, ?_⟩)))
      rcases List.mem_append.1 hy with hy | hy
      · rcases List.mem_append.1 hy with hy | hy
        · exact h1 y hy
        · have := (hs1.2.2 y hy e (by simp)).key
          omega
      · rw [List.mem_singleton.1 hy]; omega
    case refine_2 =>
      refine BackN4.mk i D1 E1 (e :: E2 ++ D3) ⟨h0, by simp, h1, fun y hy => ?_⟩ (by simp) (dH_re (by simp) (by repeat (first | exact trivial | refine ⟨.inr ⟨rfl, rfl⟩, ?_⟩ | refine ⟨.inr ⟨rfl, vi_eq (by first | omega | (simp; done) | (simp; omega))⟩, ?_⟩ | refine ⟨.inr ⟨rfl, smE rfl (by first | omega | (simp; done) | (simp; omega))⟩, ?_⟩)))
      rcases List.mem_append.1 hy with hy | hy
      · have := keys_first hs1.2.1 y hy
        omega
      · exact h2 y hy
theorem symMerge_lone {P L R : List Nat} {x N : Nat} {a m b : Int} (hk : Keyed A S w) (hL : 2 ≤ L.length) (ha : (P.length : Int) = a) (hm : ((P.length + L.length : Nat) : Int) = m) (hb : ((P.length + L.length + 1 : Nat) : Int) = b) (sL : L.Pairwise (bef (key A S w))) (hlt : ∀ y ∈ L, y < x)
    (hxw : x < w.length) (hw : ∀ x ∈ L, x < w.length) (hN : (P ++ L ++ [x] ++ R).length = N) (hN2 : N ≤ 1000000) :
    Ef Tryz.prog G1 168 [.sm 4 1 0 N, vi a, vi m, vi b, dCl] (dH A S w t ps (P ++ L ++ [x] ++ R)) fun y' H2 => y' = .tuple [] ∧ ∃ M' : List Nat, M'.Perm (L ++ [x]) ∧ M'.Pairwise (bef (key A S w)) ∧ H2 = dH A S w t ps (P ++ M' ++ R) := by
  refine Ef.of_ev (T := Tryz.tab) (n := 220) (tryd_okm 5 _) rfl Tryz.func168 rfl rfl (by simp) ?_
  subst ha
  subst hm
  subst hb
  simp only [List.length_append, List.length_cons, List.length_nil] at hN
  have hkx := key_bd hk x
  ((conv => whnf); repeat' ((first | refine vv7 ?_ | refine vv8 ?_ | refine vv20 ?_) <;> (conv => whnf)))
  refine LoopN.of4 (tryd_okm 5 _) (fun (i : Nat) (D1 D2 D3 : List Nat) => [(0, .sm 4 1 0 N), (2, vi ((P.length + L.length : Nat) : Int)), (4, dCl), (14, vi i), (15, vi ((i + D2.length : Nat) : Int))]) (fun i D1 D2 D3 => dH A S w t ps (P ++ L ++ [x] ++ R)) (fun i D1 D2 D3 => D2.length)
    (fun i D1 D2 D3 => P.length + D1.length = i ∧ L = D1 ++ D2 ++ D3 ∧ (∀ y ∈ D1, key A S w x ≤ key A S w y) ∧ (∀ y ∈ D3, key A S w y < key A S w x)) P.length [] L [] ⟨rfl, by simp, by simp, by simp⟩ (dH_re (by simp) (by repeat (first | exact trivial | refine ⟨.inr ⟨rfl, rfl⟩, ?_⟩ | refine ⟨.inr ⟨rfl, vi_eq (by first | omega | (simp; done) | (simp; omega))⟩, ?_⟩ | refine ⟨.inr ⟨rfl, smE rfl (by first | omega | (simp; done) | (simp; omega))⟩, ?_⟩))) ?_
  rintro i D1 D2 D3 ⟨h0, rfl, h1, h2⟩
  simp only [List.length_append] at hN hL
  have hlL : (D1 ++ D2 ++ D3).length = D1.length + D2.length + D3.length := by simp only [List.length_append]
  cases hz : D2 with
  | nil =>
    subst hz
    have z : ([] : List Nat).length = 0 := rfl
    ((conv => whnf); repeat' ((first | refine vv8 ?_) <;> (conv => whnf)))
    refine LoopN.of3 (tryd_okm 5 _) (fun (k : Nat) (E1 E2 : List Nat) => [(0, .sm 4 1 0 N), (14, vi i), (17, vi k)]) (fun k E1 E2 => dH A S w t ps (P ++ D1 ++ E1 ++ x :: E2 ++ R)) (fun k E1 E2 => E1.length)
      (fun k E1 E2 => P.length + D1.length + E1.length = k ∧ D3 = E1 ++ E2) (P.length + D1.length + D3.length) D3 [] ⟨rfl, by simp⟩ (dH_re (by simp) (by repeat (first | exact trivial | refine ⟨.inr ⟨rfl, rfl⟩, ?_⟩ | refine ⟨.inr ⟨rfl, vi_eq (by first | omega | (simp; done) | (simp; omega))⟩, ?_⟩ | refine ⟨.inr ⟨rfl, smE rfl (by first | omega | (simp; done) | (simp; omega))⟩, ?_⟩))) ?_
    rintro k E1 E2 ⟨g0, rfl⟩
    simp only [List.length_append] at hN hL
    rcases List.eq_nil_or_concat E1 with rfl | ⟨E, e, rfl⟩
    · simp only [List.append_nil, List.nil_append, List.length_nil] at *
      ((conv => whnf); repeat' ((first | refine vv8 ?_) <;> (conv => whnf)))
      have hp := List.pairwise_append.1 sL
      refine ⟨⟨rfl, D1 ++ x :: E2, ?_, List.pairwise_append.2 ⟨hp.1, List.pairwise_cons.2 ⟨fun y hy => .inl (h2 y hy), hp.2.1⟩, fun y hy z hz => ?_⟩, by simp⟩⟩
      · exact List.perm_middle.trans (List.perm_append_comm (l₁ := [x]))
      · rcases List.mem_cons.1 hz with rfl | hz
        · have := h1 y hy
          have := hlt y (List.mem_append_left _ hy)
          unfold bef; omega
        · exact hp.2.2 y hy z hz
    · rw [List.concat_eq_append] at *
      simp only [List.length_append, List.length_cons, List.length_nil] at hN hL g0
      have e1 : P ++ D1 ++ (E ++ [e]) ++ x :: E2 ++ R = (P ++ D1 ++ E) ++ e :: x :: (E2 ++ R) := by simp
      have hl : (P ++ D1 ++ E).length = P.length + D1.length + E.length := by simp only [List.length_append]
      simp only [e1]
      ((conv => whnf); repeat' ((first | refine RowN.row2 (by first | omega | (show _ = _ + 1; omega)) ?_ | refine RowN.row1 (by first | omega | (show _ = _ + 1; omega)) ?_ | refine RowSN.row2 (by first | omega | (show _ = _ + 1; omega)) ?_ | refine RowSN.row1 (by first | omega | (show _ = _ + 1; omega)) ?_ | refine IxN.mk _ rfl ?_ | refine vv7 ?_ | refine vv20 ?_ | refine IdxN.at0 _ rfl (by first | assumption | omega | (simp <;> omega)) ?_ | refine vv25 ?_ | refine DrawN.gen (by first | exact tryd_ok _ | exact tryd_okm _ _) (by kernel_rfl) ?_ | refine vv26 ?_) <;> (conv => whnf)))
      exact BackN3.mk (k - 1) E (e :: E2) ⟨by omega, by simp⟩ (by simp) (dH_re (by simp) (by repeat (first | exact trivial | refine ⟨.inr ⟨rfl, rfl⟩, ?_⟩ | refine ⟨.inr ⟨rfl, vi_eq (by first | omega | (simp; done) | (simp; omega))⟩, ?_⟩ | refine ⟨.inr ⟨rfl, smE rfl (by first | omega | (simp; done) | (simp; omega))⟩, ?_⟩)))
  | cons d0 D2' =>
    have hz' : 0 < D2.length := by rw [hz]; simp
    rw [← hz] at *
    clear hz
    obtain ⟨E1, e, E2, rfl, hE1⟩ := split_mid (l := D2) (k := (2 * i + D2.length) / 2 - i) (by omega)
    simp only [List.length_append, List.length_cons] at hN hL hE1 hz'
    have hlL' : (D1 ++ (E1 ++ e :: E2) ++ D3).length = D1.length + (E1.length + (E2.length + 1)) + D3.length := by simp only [List.length_append, List.length_cons]
    have hew : e < w.length := hw e (by simp)
    have hke := key_bd hk e
    have e1 : P ++ (D1 ++ (E1 ++ e :: E2) ++ D3) ++ [x] ++ R = (P ++ D1 ++ E1) ++ e :: ((E2 ++ D3) ++ x :: R) := by simp
    have hl : (P ++ D1 ++ E1).length = P.length + D1.length + E1.length := by simp only [List.length_append]
    have hl1 : (E2 ++ D3).length = E2.length + D3.length := by simp
    have hl2 : (E1 ++ e :: E2).length = E1.length + (E2.length + 1) := by simp
    have hs := (List.pairwise_append.1 (List.pairwise_append.1 sL).1).2.1
    have hs1 := List.pairwise_append.1 hs
    simp only [e1]
    ((conv => whnf); repeat' ((first | refine IdxN.at0 (i + E1.length) (by omega) (by omega) ?_ | refine RowN.row1 (by first | omega | (show _ = _ + 1; omega)) ?_ | refine RowN.rowB (by first | omega | (show _ = _ + 1; omega)) ?_ | refine shr_ok rfl rfl ?_ | refine WrapN.inU ⟨by omega, by omega⟩ ?_ | refine vv7 ?_ | refine vv12 (fun hbr => ?_) (fun hbr => ?_) | refine vv20 ?_ | refine IdxN.at0 _ rfl (by first | assumption | omega | (simp <;> omega)) ?_ | refine vv25 ?_ | refine DrawN.gen (by first | exact tryd_ok _ | exact tryd_okm _ _) (by kernel_rfl) ?_ | refine GCallN.ef (cmp_ok hk hxw hew) ?_) <;> (conv => whnf)))
    case refine_2 =>
      refine BackN4.mk (i + E1.length + 1) (D1 ++ E1 ++ [e]) E2 D3 ⟨by simp; omega, by simp, fun y hy => ?_, h2⟩ (by simp; omega) (dH_re (by simp) (by repeat (first | exact trivial | refine ⟨.inr ⟨rfl, rfl⟩, ?_⟩ | refine ⟨.inr ⟨rfl, vi_eq (by first | omega | (simp; done) | (simp; omega))⟩, ?_⟩ | refine ⟨.inr ⟨rfl, smE rfl (by first | omega | (simp; done) | (simp; omega))⟩, ?_⟩)))
      rcases List.mem_append.1 hy with hy | hy
      · rcases List.mem_append.1 hy with hy | hy
        · exact h1 y hy
        · have := (hs1.2.2 y hy e (by simp)).key
          omega
      · rw [List.mem_singleton.1 hy]; omega
    case refine_1 =>
      refine BackN4.mk i D1 E1 (e :: E2 ++ D3) ⟨h0, by simp, h1, fun y hy => ?_⟩ (by simp) (dH_re (by simp) (by repeat (first | exact trivial | refine ⟨.inr ⟨rfl, rfl⟩, ?_⟩ | refine ⟨.inr ⟨rfl, vi_eq (by first | omega | (simp; done) | (simp; omega))⟩, ?_⟩ | refine ⟨.inr ⟨rfl, smE rfl (by first | omega | (simp; done) | (simp; omega))⟩, ?_⟩)))
      rcases List.mem_append.1 hy with hy | hy
      · have := keys_first hs1.2.1 y hy
        omega
      · exact h2 y hy
end
end Go.Proofs.Ax
