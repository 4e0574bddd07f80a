import Derived.Test.YtedekogkeamacaaGreatDoorCcAJ
import Derived.Test.YtedekogkeamacaaGreatDoorCcZY
namespace Go.Proofs.Ax
open Go Go.Proofs Go.Proofs.Cu Go.Proofs.Tx
set_option maxRecDepth 10000
set_option maxHeartbeats 4000000
section
theorem WkC.slB {k : Nat} {t : Bool} {rows rows' : List (List AV)} (h : WkB rows rows') : WkC (.sl k t rows) (.sl k false rows') := fun I w ρ v hv => by
  obtain ⟨h1, h2⟩ := h.get
  cases hv with
  | slNil => cases rows' with
    | nil => exact .slNil
    | cons r rs => cases h1
  | slMt ht => cases rows' with
    | nil => exact .slMt (fun h => by cases h)
    | cons r rs => cases h1
  | sl f hl hcap ht hk hI hc ho hv =>
    refine .sl f (h1 ▸ hl) hcap (fun h => by cases h) (fun r hr => ?_) (fun hne => hI fun he => hne ?_) (fun i j row x hr hx => ?_) (fun i j row x hr hx => ?_) (fun i j row x hr hx => ?_)
    · obtain ⟨i, hi⟩ := List.getElem?_of_mem hr; obtain ⟨row0, g1, g2⟩ := h2 i r hi; rw [← g2.get.1]; exact hk row0 (List.mem_of_getElem? g1)
    · subst he
      cases rows' with
      | nil => rfl
      | cons r rs => cases h1
    · obtain ⟨row0, g1, g2⟩ := h2 i row hr; obtain ⟨x0, g3, g4⟩ := g2.get.2 j x hx; exact hc i j row0 x0 g1 g3
    · obtain ⟨row0, g1, g2⟩ := h2 i row hr; obtain ⟨x0, g3, g4⟩ := g2.get.2 j x hx; exact ho i j row0 x0 g1 g3
    obtain ⟨row0, g1, g2⟩ := h2 i row hr; obtain ⟨x0, g3, g4⟩ := g2.get.2 j x hx; exact g4 _ _ _ _ (hv i j row0 x0 g1 g3)
def ex : Book := ⟨[⟨1, [⟨0, 1000⟩]⟩, ⟨2, [⟨500, 2000⟩]⟩], [7], [⟨1, 7, 1, 0, 1, ⟨100, 200⟩⟩, ⟨2, 7, 1, 1, 2, ⟨400, 600⟩⟩, ⟨3, 7, 2, 2, 0, ⟨300, 700⟩⟩, ⟨4, 7, 1, 2, 0, ⟨900, 900⟩⟩], 0⟩
def exw : Book := withB ex ⟨5, 7, 1, 1, 0, ⟨800, 850⟩⟩
theorem ev1 : (historyF ex 7).2 = 0 ∧ (historyF ex 7).1.length = 4 := ⟨by kernel_rfl, by kernel_rfl⟩
theorem ev2 : tellE ex 7 (historyF ex 7).1 = 0 := by kernel_rfl
theorem ev3 : holdersF ex 7 500 = ([1, 2], 0) := by kernel_rfl
theorem ev4 : copiersF ex 7 400 = ([2], 0) := by kernel_rfl
theorem ev5 : handsF ex 7 ⟨950, 990⟩ = ([2], 0) := by kernel_rfl
theorem ev6 : whenF ex 3 = (⟨400, 700⟩, 0) := by kernel_rfl
theorem ev7 : fitsG ex [⟨7, 1, 599⟩, ⟨7, 2, 600⟩] = (true, 0) := by kernel_rfl
theorem ev8 : fitsG ex [⟨7, 1, 600⟩] = (false, 0) := by kernel_rfl
theorem ev9 : menG ex [⟨7, 0, 550⟩, ⟨7, 0, 950⟩] = ([2], 0) := by kernel_rfl
theorem ev10 : withF ex ⟨5, 7, 1, 1, 0, ⟨800, 850⟩⟩ = (exw, 0) := by kernel_rfl
theorem ev11 : suspectsF exw 7 = ([5], 0) := by kernel_rfl
theorem ev12 : neededF exw 7 = (2, 0) := by kernel_rfl
theorem ev13 : checkE ex = 0 := by kernel_rfl
theorem ev14 : checkE exw = 0 := by kernel_rfl
def exA : AV := .agg [.sl 2 true [[vi 1, .sl 2 true [[vi 0, vi 1000]]], [vi 2, .sl 2 true [[vi 500, vi 2000]]]], .sl 1 true [[vi 7]], .sl 7 true (ex.entries.map encE), vi 0]
theorem ex_ok : Pu Tryz.prog G1 67 [] (bookV ex) := by
  refine Pu.wkr (y := exA) (Qf 19 Tryz.func67 rfl rfl ?_) ?_
  · repeat' ((conv => whnf); first | refine vv21 ?_ | refine vv22 ?_)
    exact Qv
  exact WkC.agg ⟨WkC.slB ⟨⟨WkC.refl _, WkC.slB (WkB.refl _), trivial⟩, ⟨WkC.refl _, WkC.slB (WkB.refl _), trivial⟩, trivial⟩, WkC.slB (WkB.refl _), WkC.slB (WkB.refl _), WkC.refl _, trivial⟩
end
section
theorem exS : BkS ex := BkS.of_ok ((check_ok ex).1 ev13)
theorem exwS : BkS exw := BkS.of_ok ((check_ok exw).1 ev14)
theorem fin_true {b : Bool} {H : AH} (h : b = true) : DoneN (fun y' H' => FinTo 0 H' y' (vb true) []) (.sc (.bool b)) H := by
  subst h; exact ⟨.val rfl⟩
theorem sanity_ok : Pu Tryz.prog G1 16 [] (vb true) := by
  have c0 := ex_ok; have c1 := history_ok exS 7; have c1b := tell_ok exS 7 (historyF ex 7).1 (by rw [ev1.2]; decide); rw [ev2] at c1b; rw [show historyF ex 7 = ((historyF ex 7).1, 0) from by rw [← ev1.1]] at c1; have hL := ev1.2; generalize (historyF ex 7).1 = L at *; have c2 := holders_ok exS 7 500; rw [ev3] at c2; have c3 := copiers_ok exS 7 400; rw [ev4] at c3; have c4 := hands_ok exS 7 ⟨950, 990⟩; rw [ev5] at c4; have c5 := when_ok exS 3; rw [ev6] at c5; have c6 := fits_ok exS [⟨7, 1, 599⟩, ⟨7, 2, 600⟩] (by decide); rw [ev7] at c6; have c6 : Pu Tryz.prog G1 38 [bookV ex, .sl 3 true [[vi 7, vi 1, vi 599], [vi 7, vi 2, vi 600]]] (fitsV (true, 0)) := c6.wk ⟨WkC.refl _, WkC.loose _ _, trivial⟩; have c7 := fits_ok exS [⟨7, 1, 600⟩] (by decide); rw [ev8] at c7; have c7 : Pu Tryz.prog G1 38 [bookV ex, .sl 3 true [[vi 7, vi 1, vi 600]]] (fitsV (false, 0)) := c7.wk ⟨WkC.refl _, WkC.loose _ _, trivial⟩; have c8 := men_ok exS [⟨7, 0, 550⟩, ⟨7, 0, 950⟩] (by decide); rw [ev9] at c8; have c8 : Pu Tryz.prog G1 56 [bookV ex, .sl 3 true [[vi 7, vi 0, vi 550], [vi 7, vi 0, vi 950]]] (listV ([2], 0)) := c8.wk ⟨WkC.refl _, WkC.loose _ _, trivial⟩; have c9 := with_ok exS ⟨5, 7, 1, 1, 0, ⟨800, 850⟩⟩; rw [ev10] at c9; have c10 := suspects_ok exwS 7; rw [ev11] at c10; have c11 := needed_ok exwS 7; rw [ev12] at c11; have c12 := print_ok exS; rw [show printF ex = (tx (bookT ex), 0) from by unfold printF; rw [ev13]; rfl] at c12; have s1 : Pu Tryz.prog G1 23 [ints [1, 2], .sl 1 true [[vi 1], [vi 2]]] (vb true) := (same_ok [1, 2] [1, 2] (by decide) (by decide)).wk ⟨WkC.refl _, WkC.loose _ _, trivial⟩
  have s2 : Pu Tryz.prog G1 23 [ints [2], .sl 1 true [[vi 2]]] (vb true) := (same_ok [2] [2] (by decide) (by decide)).wk ⟨WkC.refl _, WkC.loose _ _, trivial⟩; have s3 : Pu Tryz.prog G1 23 [ints [5], .sl 1 true [[vi 5]]] (vb true) := (same_ok [5] [5] (by decide) (by decide)).wk ⟨WkC.refl _, WkC.loose _ _, trivial⟩; unfold movesV at c1; unfold listV at c2 c3 c4 c8 c10; unfold spnV at c5; unfold fitsV at c6 c7; unfold bookEV at c9; unfold intV at c11; unfold textV at c12; have c1 : Pu Tryz.prog G1 37 [bookV ex, vi 7] (.tuple [moves L, vi 0]) := c1; have c12 : Pu Tryz.prog G1 63 [bookV ex] (.tuple [vs (tx (bookT ex)), vi 0]) := c12; refine Qf 200 Tryz.func16 rfl rfl ?_
  (conv => whnf); repeat' (first | refine Need.mk (by decide +kernel) ?_ | refine vv1 ?_ | refine vv2 ?_ | refine vv9 ?_ | refine vv21 ?_ | refine vv22 ?_ | refine vv23 ?_ | refine Qp c0 ?_ | refine Qp c1 ?_ | refine Qp c2 ?_ | refine Qp c3 ?_ | refine Qp c4 ?_ | refine Qp c5 ?_ | refine Qp c6 ?_ | refine Qp c7 ?_ | refine Qp c8 ?_ | refine Qp c1b ?_ | refine Qp s1 ?_ | refine Qp s2 ?_ | refine Qp s3 ?_ | refine Qp c9 ?_ | refine Qp c10 ?_ | refine Qp c11 ?_ | refine Qp c12 ?_) <;> conv => whnf
  exact fin_true (by kernel_rfl)
end
end Go.Proofs.Ax
