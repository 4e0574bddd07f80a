import Derived.Test.YtedekogkeamacaaGreatDoorCuC
namespace Go.Proofs.Cu
open Go.Proofs.Ax
set_option linter.unusedVariables false
section
variable {C : Chn}
theorem flat_const {α β : Type} {f : α → List β} {n : Nat} : ∀ {l : List α}, (∀ a, (f a).length = n) → (l.flatMap f).length = l.length * n
  | [], _ => by simp
  | a :: l, h => by rw [List.flatMap_cons, List.length_append, h a, flat_const h, List.length_cons, Nat.add_mul]; omega
theorem posL_len (C : Chn) : (posL C).length = (C.gaps.toNat + 1) * (2 ^ C.es.length * (C.people.length + 2)) := by
  unfold posL; rw [flat_const (n := 2 ^ C.es.length * (C.people.length + 2)), List.length_range]; intro g; rw [flat_const (n := C.people.length + 2), List.length_range]; intro d; simp [allP]
theorem posL_bd (ok : C.ok) (he : C.es.length ≤ 7) (hp : C.people.length ≤ 8) : (posL C).length ≤ 5120 := by
  rw [posL_len]; have h1 : C.gaps.toNat + 1 ≤ 4 := by have := ok.gaps; omega
  have h2 : 2 ^ C.es.length ≤ 2 ^ 7 := Nat.pow_le_pow_right (by decide) he; have h3 : C.people.length + 2 ≤ 10 := by omega
  exact Nat.le_trans (Nat.mul_le_mul h1 (Nat.mul_le_mul h2 h3)) (by decide)
theorem nodup_sub {α : Type} [DecidableEq α] {l m : List α} (hn : l.Nodup) (h : ∀ x ∈ l, x ∈ m) : l.length ≤ m.length := by
  refine nodup_code (fun x => m.idxOf x) m.length l hn (fun x hx y hy e => ?_) fun x hx => List.idxOf_lt_length_iff.2 (h x hx)
  have h1 := List.getElem_idxOf (List.idxOf_lt_length_iff.2 (h x hx)); have h2 := List.getElem_idxOf (List.idxOf_lt_length_iff.2 (h y hy)); have e : m.idxOf x = m.idxOf y := e; rw [← h1, ← h2]; congr 1
theorem get_pos (ok : C.ok) (hk : Kinds C) {s : Sta} {τ : Int} (h : Get tid (earlyW C) s00 s τ) : s ∈ posL C := by
  have hT := posL_topo ok hk
  induction h with
  | root => exact hT.root
  | step h hw ih => exact hT.clo _ ih _ _ hw
theorem lvl_s00 (C : Chn) : lvlS C s00 = 0 := by simp [lvlS, cntB]
theorem early_start (C : Chn) : Lay tid (earlyW C) (lvlS C) s00 0 [(s00, [0])] [s00] := Lay.start 0 rfl (lvl_s00 C) fun q τ hq hl => Get.zero (early_ok C) hq hl
theorem early_fuel (ok : C.ok) {q : Sta} {τ : Int} (h : Get tid (earlyW C) s00 q τ) : lvlS C q < fuelE C := by
  have h1 := early_gaps ok h; have := cntB_le C.es.length q.done; have := ok.gaps; unfold lvlS fuelE; omega
abbrev stW (now : Int) (d : List Stp) : List (Sta × Int) := d.flatMap fun x => if x.at_.hi < max now x.at_.lo then [] else [(x.to_, max now x.at_.lo)]
theorem stW_sub {s : Sta} {now : Int} {d : List Stp} (h : ∀ x ∈ d, x ∈ stepsS C s) : ∀ w ∈ stW now d, w ∈ earlyW C s now := by
  intro w hw; obtain ⟨x, hx, hw⟩ := List.mem_flatMap.1 hw; exact List.mem_flatMap.2 ⟨x, h x hx, hw⟩
abbrev MidE (C : Chn) := Mid tid (earlyW C) (lvlS C) s00
theorem midE_pos (ok : C.ok) (hk : Kinds C) {k : Nat} {gs0 gs : Fnd Sta Int} {L P N : List Sta} (hL : Lay tid (earlyW C) (lvlS C) s00 k gs0 L) (h : MidE C k gs0 P gs N) {q : Sta} {t : Int} (hq : getG q gs = some t) : q ∈ posL C ∧ 0 ≤ t := by
  have hp := h.ptrs (lvl_s00 C) hL; have hg := hp.get (early_ok C) hq; exact ⟨get_pos ok hk hg, (get_run hg).1⟩
theorem midE_len (ok : C.ok) (hk : Kinds C) (he : C.es.length ≤ 7) (hpl : C.people.length ≤ 8) {k : Nat} {gs0 gs : Fnd Sta Int} {L P N : List Sta} (hL : Lay tid (earlyW C) (lvlS C) s00 k gs0 L) (h : MidE C k gs0 P gs N) : N.length ≤ 5120 := by
  refine Nat.le_trans (nodup_sub h.ndN fun q hq => ?_) (posL_bd ok he hpl); obtain ⟨⟨t, ht⟩, -⟩ := (h.mem q).1 hq; exact (midE_pos ok hk hL h ht).1
theorem layE_len (ok : C.ok) (hk : Kinds C) (he : C.es.length ≤ 7) (hpl : C.people.length ≤ 8) {k : Nat} {gs : Fnd Sta Int} {L : List Sta} (hL : Lay tid (earlyW C) (lvlS C) s00 k gs L) (hn : L.Nodup) : L.length ≤ 5120 := by
  refine Nat.le_trans (nodup_sub hn fun q hq => ?_) (posL_bd ok he hpl); obtain ⟨⟨t, ht⟩, -⟩ := (hL.mem q).1 hq; exact get_pos ok hk (hL.ptrs.get (early_ok C) ht)
theorem time_getD (gs : Fnd Sta Int) (q : Sta) : timeOf tid gs q = (lookG q gs).getLast?.getD 0 := by
  unfold timeOf getG
  cases (lookG q gs).getLast? <;> rfl
end
section
variable {C : Chn}
def lateT (rec : Sta → Fnd Sta Int → Int × Fnd Sta Int) (acc : Int × Fnd Sta Int) (x : Stp) : Int × Fnd Sta Int :=
  (if x.at_.lo ≤ min x.at_.hi (rec x.to_ acc.2).1 then max acc.1 (min x.at_.hi (rec x.to_ acc.2).1) else acc.1, (rec x.to_ acc.2).2)
def lateM (C : Chn) : Nat → Sta → Fnd Sta Int → Int × Fnd Sta Int
  | 0, s, gs => (0, gs)
  | f + 1, s, gs => if allS C s = true then (maxTime + 1, gs) else match getG s gs with
    | some t => (t, gs)
    | none => (((stepsS C s).foldl (lateT (lateM C f)) (-1, gs)).1, addG s ((stepsS C s).foldl (lateT (lateM C f)) (-1, gs)).1 ((stepsS C s).foldl (lateT (lateM C f)) (-1, gs)).2)
theorem foldT_full {rec : Sta → Fnd Sta Int → Int × Fnd Sta Int} (hr : ∀ s gs, Full gs → Full (rec s gs).2) : ∀ (l : List Stp) (acc : Int × Fnd Sta Int), Full acc.2 → Full (l.foldl (lateT rec) acc).2
  | [], acc, h => h
  | x :: l, acc, h => foldT_full hr l _ (hr _ _ h)
theorem lateM_full : ∀ (f : Nat) (s : Sta) (gs : Fnd Sta Int), Full gs → Full (lateM C f s gs).2
  | 0, s, gs, h => h
  | f + 1, s, gs, h => by
    unfold lateM; split
    exact h; split
    exact h; exact (foldT_full (lateM_full f) _ _ h).add _ _
structure Good (C : Chn) (gs : Fnd Sta Int) : Prop where
  full : Full gs
  val : ∀ q t, getG q gs = some t → t = lateS C q
theorem Good.nil (C : Chn) : Good C [] := ⟨fun g hg => absurd hg List.not_mem_nil, fun q t h => by simp [getG, lookG] at h⟩
theorem foldT_law {rec : Sta → Fnd Sta Int → Int × Fnd Sta Int} {l : List Stp} (hr : ∀ x ∈ l, ∀ gs, Good C gs → (rec x.to_ gs).1 = lateS C x.to_ ∧ Good C (rec x.to_ gs).2) : ∀ (acc : Int × Fnd Sta Int), Good C acc.2 →
    (l.foldl (lateT rec) acc).1 = l.foldl (lateB (lateS C)) acc.1 ∧ Good C (l.foldl (lateT rec) acc).2 := by
  induction l with
  | nil => exact fun acc h => ⟨rfl, h⟩
  | cons x l ih =>
    intro acc h; obtain ⟨h1, h2⟩ := hr x List.mem_cons_self _ h; obtain ⟨g1, g2⟩ := ih (fun y hy => hr y (List.mem_cons_of_mem _ hy)) (lateT rec acc x) h2; refine ⟨?_, g2⟩; rw [List.foldl_cons, List.foldl_cons, g1]; congr 1
    unfold lateT lateB; rw [h1]
theorem lateM_law (ok : C.ok) : ∀ (f : Nat) (s : Sta) (gs : Fnd Sta Int), (s.gaps : Int) ≤ C.gaps → topL C < lvlS C s + f → Good C gs → (lateM C f s gs).1 = lateS C s ∧ Good C (lateM C f s gs).2
  | 0, s, gs, hs, hf, h => by
    have := lvl_top ok hs; omega
  | f + 1, s, gs, hs, hf, h => by
    have e := lateS_eq ok hs; unfold lateM; by_cases ha : allS C s = true
    · rw [if_pos ha] at e ⊢; exact ⟨e.symm, h⟩
    rw [if_neg ha] at e ⊢
    cases hg : getG s gs with
    | some t => exact ⟨h.val s t hg, h⟩
    | none =>
      obtain ⟨g1, g2⟩ := foldT_law (C := C) (rec := lateM C f) (l := stepsS C s) (fun x hx gs' h' => lateM_law ok f x.to_ gs' (step_gaps ok hx hs) (by have := step_lvl hx; omega) h') (-1, gs) h; have e1 : ((stepsS C s).foldl (lateT (lateM C f)) (-1, gs)).1 = lateS C s := by rw [e, g1]
      refine ⟨e1, g2.full.add _ _, fun q t hq => ?_⟩; simp only at hq; rw [getG_add] at hq; split at hq
      · rename_i he
        cases hq
        rw [← he, e1]
      exact g2.val q t hq
end
section
variable {C : Chn}
theorem step_pos (ok : C.ok) (hk : Kinds C) {s : Sta} {x : Stp} (hs : s ∈ posL C) (hx : x ∈ stepsS C s) : x.to_ ∈ posL C := by
  have hsp := step_span ok hx; have : (x.to_, max x.at_.lo x.at_.lo) ∈ earlyW C s x.at_.lo := mem_earlyW.2 ⟨x, hx, by omega, rfl⟩; exact (posL_topo ok hk).clo s hs _ _ this
theorem get_spot (ok : C.ok) (hk : Kinds C) {cs : List Cnd} {q : Spot} {τ : Int} (h : Get Trc.time (waysS C cs) q00 q τ) : q.st ∈ posL C ∧ q.seen ≤ cs.length := by
  induction h with
  | root => exact ⟨(posL_topo ok hk).root, Nat.zero_le _⟩
  | step h hw ih =>
    rcases List.mem_append.1 hw with hw | hw
    · obtain ⟨c, h1, -, h3⟩ := mem_condL.1 hw; rw [h3]; have := (List.getElem?_eq_some_iff.1 h1).1; exact ⟨ih.1, by simp only; omega⟩
    obtain ⟨x, hx, hw⟩ := List.mem_flatMap.1 hw; obtain ⟨-, h3⟩ := mem_moveL.1 hw; rw [h3]; exact ⟨step_pos ok hk ih.1 hx, ih.2⟩
def spotL (C : Chn) (n : Nat) : List Spot := (posL C).flatMap fun s => (List.range (n + 1)).map fun k => ⟨s, k⟩
theorem mem_spotL {n : Nat} {q : Spot} : q ∈ spotL C n ↔ q.st ∈ posL C ∧ q.seen ≤ n := by
  unfold spotL; rw [List.mem_flatMap]; constructor
  · rintro ⟨s, hs, hq⟩; obtain ⟨k, hk, rfl⟩ := List.mem_map.1 hq; exact ⟨hs, by have := List.mem_range.1 hk; simp only; omega⟩
  rintro ⟨h1, h2⟩; exact ⟨q.st, h1, List.mem_map.2 ⟨q.seen, List.mem_range.2 (by omega), rfl⟩⟩
theorem spotL_bd (ok : C.ok) (he : C.es.length ≤ 7) (hp : C.people.length ≤ 8) {n : Nat} (hn : n ≤ 15) : (spotL C n).length ≤ 90000 := by
  have h1 := posL_bd ok he hp
  have : (spotL C n).length = (posL C).length * (n + 1) := by
    unfold spotL; rw [flat_const (n := n + 1)]; intro s; simp
  rw [this]; exact Nat.le_trans (Nat.mul_le_mul h1 (by omega : n + 1 ≤ 16)) (by decide)
theorem search_start (C : Chn) (cs : List Cnd) : Lay Trc.time (waysS C cs) (lvlQ C) q00 0 [(q00, [trc0])] [q00] := Lay.start trc0 rfl (lvl_q00 C) fun q τ hq hl => Get.zero (ways_ok C cs) hq hl
theorem spot_fuel (ok : C.ok) {cs : List Cnd} {q : Spot} {τ : Int} (h : Get Trc.time (waysS C cs) q00 q τ) : lvlQ C q < fuelS C cs := by
  have h1 := get_bd ok h; have := cntB_le C.es.length q.st.done; unfold lvlQ lvlS fuelS; omega
abbrev MidQ (C : Chn) (cs : List Cnd) := Mid Trc.time (waysS C cs) (lvlQ C) q00
abbrev LayQ (C : Chn) (cs : List Cnd) := Lay Trc.time (waysS C cs) (lvlQ C) q00
theorem midQ_len (ok : C.ok) (hk : Kinds C) (he : C.es.length ≤ 7) (hpl : C.people.length ≤ 8) {cs : List Cnd} (hcs : cs.length ≤ 15) {k : Nat} {gs0 gs : Fnd Spot Trc} {L P N : List Spot} (hL : LayQ C cs k gs0 L) (h : MidQ C cs k gs0 P gs N) : N.length ≤ 90000 := by
  refine Nat.le_trans (nodup_sub h.ndN fun q hq => ?_) (spotL_bd ok he hpl hcs); obtain ⟨⟨t, ht⟩, -⟩ := (h.mem q).1 hq; exact mem_spotL.2 (get_spot ok hk ((h.ptrs (lvl_q00 C) hL).get (ways_ok C cs) ht))
theorem layQ_len (ok : C.ok) (hk : Kinds C) (he : C.es.length ≤ 7) (hpl : C.people.length ≤ 8) {cs : List Cnd} (hcs : cs.length ≤ 15) {k : Nat} {gs : Fnd Spot Trc} {L : List Spot} (hL : LayQ C cs k gs L) (hn : L.Nodup) : L.length ≤ 90000 := by
  refine Nat.le_trans (nodup_sub hn fun q hq => ?_) (spotL_bd ok he hpl hcs); obtain ⟨⟨t, ht⟩, -⟩ := (hL.mem q).1 hq; exact mem_spotL.2 (get_spot ok hk (hL.ptrs.get (ways_ok C cs) ht))
end
end Go.Proofs.Cu
