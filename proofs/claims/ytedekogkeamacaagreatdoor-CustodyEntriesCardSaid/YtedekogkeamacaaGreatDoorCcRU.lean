import Derived.Test.YtedekogkeamacaaGreatDoorCuB
import Derived.Test.YtedekogkeamacaaGreatDoorCcAD
import Derived.Test.YtedekogkeamacaaGreatDoorAxBO
import Derived.Test.YtedekogkeamacaaGreatDoorCcRT
import Derived.Test.YtedekogkeamacaaGreatDoorCcAL
import Derived.Test.YtedekogkeamacaaGreatDoorCuC
namespace Go.Proofs.Cu
open Go.Proofs.Ax
set_option linter.unusedVariables false
variable {C : Chn}
def candM (q : Sta) (t : Int) (i : Nat) (e : Entr) : List (Sta × Int) := if q.done.testBit i = false ∧ q.place = fromOf e ∧ max t e.at_.lo ≤ e.at_.hi then [(⟨q.done ||| 2 ^ i, placeOf e q.place, q.gaps⟩, max t e.at_.lo)] else []
def candP (C : Chn) (q : Sta) (t : Int) (n : Int) : List (Sta × Int) := if n ≠ q.place ∧ q.place ≠ -1 ∧ n ≠ -1 ∧ (q.gaps : Int) < C.gaps ∧ t ≤ maxTime then [(⟨q.done, n, q.gaps + 1⟩, t)] else []
def candsM (q : Sta) (t : Int) : Nat → List Entr → List (Sta × Int)
  | _, [] => []
  | i, e :: r => candM q t i e ++ candsM q t (i + 1) r
theorem candsM_eq (q : Sta) (t : Int) : ∀ (l : List Entr) (i : Nat), (madeL q i l).flatMap (fun x => if x.at_.hi < max t x.at_.lo then [] else [(x.to_, max t x.at_.lo)]) = candsM q t i l
  | [], i => rfl
  | e :: l, i => by
    rw [madeL, List.flatMap_append, candsM_eq q t l (i + 1), candsM]; congr 1
    unfold candM madeS; by_cases h1 : q.done.testBit i = true
    rw [if_pos (.inl h1), if_neg (by rw [h1]; simp)]; rfl; by_cases h2 : q.place = fromOf e
    · rw [if_neg (fun h => h.elim h1 fun h => h h2)]; by_cases h3 : max t e.at_.lo ≤ e.at_.hi
      · rw [if_pos ⟨by simpa using h1, h2, h3⟩]; simp [one, Int.not_lt.2 h3]
      rw [if_neg fun h => h3 h.2.2]; simp [one, Int.not_le.1 h3]
    rw [if_pos (.inr h2), if_neg fun h => h2 h.2.1]; rfl
theorem candsM_snoc (q : Sta) (t : Int) : ∀ (l : List Entr) (i : Nat) (e : Entr), candsM q t i (l ++ [e]) = candsM q t i l ++ candM q t (i + l.length) e
  | [], i, e => by simp [candsM]
  | x :: l, i, e => by rw [List.cons_append, candsM, candsM_snoc q t l (i + 1) e, candsM, List.append_assoc, List.length_cons, show i + 1 + l.length = i + (l.length + 1) by omega]
theorem earlyW_eq {q : Sta} {t : Int} (hg : (q.gaps : Int) ≤ C.gaps) (ht : 0 ≤ t) (hids : ∀ p ∈ C.people, p.id ≠ -1) : earlyW C q t = candsM q t 0 C.es ++ (allP C).flatMap (candP C q t) := by
  unfold earlyW stepsS; rw [List.flatMap_append, candsM_eq]; congr 1
  have key : ∀ l : List Int, (∀ n ∈ l, n ≠ -1 ∧ hangsP C.people n = true) → (passL C q l).flatMap (fun x => if x.at_.hi < max t x.at_.lo then [] else [(x.to_, max t x.at_.lo)]) = l.flatMap (candP C q t) := by
    intro l hl; unfold passL; rw [List.flatMap_assoc]; rw [List.flatMap_def, List.flatMap_def]; refine congrArg List.flatten (List.map_congr_left fun n hn => ?_); obtain ⟨h1, h2⟩ := hl n hn; unfold passedS candP; have hm : max t 0 = t := by omega
    by_cases h3 : q.place = -1
    rw [if_pos (.inl h3), if_neg fun h => h.2.1 h3]; rfl; by_cases h4 : q.place = n
    rw [if_pos (.inr (.inl h4)), if_neg fun h => h.1 h4.symm]; rfl; by_cases h5 : (q.gaps : Int) = C.gaps
    rw [if_pos (.inr (.inr (.inl h5))), if_neg fun h => by omega]; rfl; rw [if_neg (fun h => h.elim h3 fun h => h.elim h4 fun h => h.elim h5 fun h => by rw [h2] at h; cases h)]; by_cases h6 : t ≤ maxTime
    · rw [if_pos ⟨fun h => h4 h.symm, h3, h1, by omega, h6⟩]; simp [one, hm, Int.not_lt.2 h6]
    rw [if_neg fun h => h6 h.2.2.2.2]; simp [one, hm, Int.not_le.1 h6]
  have h1 : allP C = -1 :: spots C := rfl; rw [h1, List.flatMap_cons, show candP C q t (-1) = [] by unfold candP; rw [if_neg fun h => h.2.2.1 rfl], List.nil_append]
  refine key _ fun n hn => ?_
  unfold spots at hn
  rcases List.mem_cons.1 hn with rfl | hn
  exact ⟨by decide, rfl⟩; obtain ⟨p, hp, rfl⟩ := List.mem_map.1 hn; exact ⟨hids p hp, by unfold hangsP knownP; simp; exact .inr ⟨p, hp, rfl⟩⟩
def posP (C : Chn) (g d p : Nat) : List Sta := ((List.range g).flatMap fun g => (List.range (2 ^ C.es.length)).flatMap fun d => (allP C).map fun n => ⟨d, n, g⟩) ++ (((List.range d).flatMap fun d => (allP C).map fun n => ⟨d, n, g⟩) ++ ((allP C).take p).map fun n => ⟨d, n, g⟩)
theorem posP_0 : posP C 0 0 0 = [] := rfl
theorem posP_all : posP C (C.gaps.toNat + 1) 0 0 = posL C := by simp [posP, posL]
theorem posP_p {g d p : Nat} (h : p < (allP C).length) : posP C g d (p + 1) = posP C g d p ++ [⟨d, (allP C)[p], g⟩] := by
  unfold posP; rw [List.take_succ_eq_append_getElem h, List.map_append, ← List.append_assoc, ← List.append_assoc, ← List.append_assoc]; rfl
theorem posP_d {g d : Nat} : posP C g (d + 1) 0 = posP C g d (allP C).length := by
  unfold posP; rw [List.range_succ, List.flatMap_append, List.take_length]; simp
theorem posP_g {g : Nat} : posP C (g + 1) 0 0 = posP C g (2 ^ C.es.length) 0 := by
  unfold posP; rw [List.range_succ, List.flatMap_append]; simp
theorem spread_snoc (W : Sta → Int → List (Sta × Int)) (L : List Sta) (q : Sta) (B : Sta → Int) : spreadL W (L ++ [q]) B = spreadAt W (spreadL W L B) q := by
  unfold spreadL; rw [List.foldl_append]; rfl
def nextAt (C : Chn) (st : Stg) (B N : Sta → Int) (s : Sta) : Sta → Int := if 0 ≤ B s ∧ max (B s) st.at_.lo ≤ st.at_.hi ∧ agreesS C st s = true then lowerB N (s, max (B s) st.at_.lo + 1) else N
def nextL (C : Chn) (L : List Sta) (st : Stg) (B : Sta → Int) : Sta → Int := L.foldl (nextAt C st B) fun _ => -1
theorem nextL_eq (L : List Sta) (st : Stg) (B : Sta → Int) : nextB C L st B = nextL C L st B := rfl
theorem nextL_snoc (L : List Sta) (st : Stg) (B : Sta → Int) (q : Sta) : nextL C (L ++ [q]) st B = nextAt C st B (nextL C L st B) q := by
  unfold nextL; rw [List.foldl_append]; rfl
def Low (B : Sta → Int) : Prop := ∀ q, -1 ≤ B q ∧ B q ≤ maxTime + 1
theorem lower_low {B : Sta → Int} {w : Sta × Int} (h : Low B) (h0 : -1 ≤ w.2) (h1 : w.2 ≤ maxTime + 1) : Low (lowerB B w) := fun q => by
  rw [lower_at]; split
  exact ⟨h0, h1⟩; exact h q
theorem lowers_low : ∀ (l : List (Sta × Int)) (B : Sta → Int), Low B → (∀ w ∈ l, 0 ≤ w.2 ∧ w.2 ≤ maxTime + 1) → Low (l.foldl lowerB B)
  | [], B, h, _ => h
  | w :: l, B, h, hl => by
    rw [List.foldl_cons]; have := hl w List.mem_cons_self
    exact lowers_low l _ (lower_low h (by omega) this.2) fun v hv => hl v (List.mem_cons_of_mem _ hv)
theorem low_blank : Low fun _ => -1 := fun q => ⟨Int.le_refl _, (by decide : (-1 : Int) ≤ maxTime + 1)⟩
theorem low_B00 : Low B00 := fun q => by
  unfold B00; split
  exact ⟨by decide, by decide⟩; exact ⟨by decide, by decide⟩
theorem early_le {q : Sta} {t : Int} (ht : 0 ≤ t) (hs : ∀ e ∈ C.es, e.at_.hi ≤ maxTime) : ∀ w ∈ earlyW C q t, 0 ≤ w.2 ∧ w.2 ≤ maxTime + 1 := fun w hw => by
  obtain ⟨x, hx, h1, rfl⟩ := mem_earlyW.1 hw
  have : x.at_.hi ≤ maxTime := by
    rcases List.mem_append.1 hx with hx | hx
    · obtain ⟨j, e, t', h2, h3, rfl⟩ := mem_madeL.1 hx; exact hs e (List.mem_of_getElem? h2)
    obtain ⟨p, t', hp, h2, rfl⟩ := mem_passL.1 hx; exact Int.le_refl _
  simp only; omega
theorem spreadAt_low {B : Sta → Int} (h : Low B) (hs : ∀ e ∈ C.es, e.at_.hi ≤ maxTime) (q : Sta) : Low (spreadAt (earlyW C) B q) := by
  unfold spreadAt; split
  exact h; exact lowers_low _ _ h (early_le (by omega) hs)
theorem spread_low (hs : ∀ e ∈ C.es, e.at_.hi ≤ maxTime) : ∀ (L : List Sta) (B : Sta → Int), Low B → Low (spreadL (earlyW C) L B)
  | [], B, h => h
  | q :: L, B, h => spread_low hs L _ (spreadAt_low h hs q)
theorem next_low {st : Stg} {B N : Sta → Int} (hb : Low B) (hn : Low N) (h1 : st.at_.hi ≤ maxTime) (s : Sta) : Low (nextAt C st B N s) := by
  unfold nextAt; split
  exact lower_low hn (by simp only; omega) (by simp only; omega); exact hn
theorem nextL_low {st : Stg} {B : Sta → Int} (hb : Low B) (h1 : st.at_.hi ≤ maxTime) (L : List Sta) : Low (nextL C L st B) := by
  unfold nextL
  have : ∀ (L : List Sta) (N : Sta → Int), Low N → Low (L.foldl (nextAt C st B) N) := fun L => by
    induction L with
    | nil => exact fun N h => h
    | cons s L ih => exact fun N h => ih _ (next_low hb h h1 s)
  exact this L _ low_blank
end Go.Proofs.Cu
namespace Go.Proofs.Ax
open Go Go.Proofs Go.Proofs.Cu
set_option maxRecDepth 10000
set_option maxHeartbeats 4000000
section
def AllF (l : Fr) : Fr → Prop
  | [] => True
  | (i, x) :: r => alk i l = x ∧ AllF l r
theorem AllF.get {l : Fr} : ∀ {r : Fr}, AllF l r → ∀ i, alk i r = .any ∨ alk i l = alk i r
  | [], _, i => .inl rfl
  | (j, x) :: r, h, i => by
    by_cases he : i = j
    · subst he; exact .inr (by simpa [alk] using h.1)
    rw [alk_ne he]; exact AllF.get h.2 i
theorem Reabs.fr {C : Ctx} {l r : Fr} {N : Nat} {H : AH} (h : AllF l r) : Reabs C ⟨frm 0 l N, H⟩ ⟨frm 0 r N, H⟩ := by
  intro B I w ρ a hs; refine ⟨I, ρ, ⟨hs.heap, ?_, fun i x hi => ?_, hs.marks, hs.base⟩, Gone.refl⟩; rw [hs.size]; simp [frm_length]; simp only [frm_get] at hi; split at hi
  · rename_i hlt
    cases hi
    have h0 := hs.fr i (alk (0 + i) l) (by simp only [frm_get, if_pos hlt])
    rcases h.get (0 + i) with he | he
    rw [he]; exact .any; rw [← he]; exact h0
  cases hi
abbrev tyR : TypeId := 3
abbrev tyT : TypeId := 23
abbrev tyO : TypeId := 194
abbrev gN (C : Chn) : Nat := C.gaps.toNat + 1
abbrev sN (C : Chn) : Nat := 2 ^ C.es.length
abbrev pN (C : Chn) : Nat := (allP C).length
def rowB (C : Chn) (B : Sta → Int) (g s : Nat) : List (List AV) := (allP C).map fun n => [vi (B ⟨s, n, g⟩)]
structure Brd (C : Chn) (H : AH) (lo ob : Nat) (tb : Nat → Nat) (rw : Nat → Nat → Nat) (B : Sta → Int) : Prop where
  out : nthB H ob = some (.rows ((List.range (gN C)).map fun g => [.sm (tb g) 1 0 (sN C)]) tyO)
  tab : ∀ g, g < gN C → nthB H (tb g) = some (.rows ((List.range (sN C)).map fun s => [.sm (rw g s) 1 0 (pN C)]) tyT)
  row : ∀ g s, g < gN C → s < sN C → nthB H (rw g s) = some (.rows (rowB C B g s) tyR)
  inj : ∀ g s g' s', g < gN C → s < sN C → g' < gN C → s' < sN C → rw g s = rw g' s' → g = g' ∧ s = s'
  lo : ∀ g s, g < gN C → s < sN C → lo ≤ rw g s
def Below (lo : Nat) (H H' : AH) : Prop := lo ≤ H.length ∧ H.length ≤ H'.length ∧ ∀ i, i < lo → nthB H' i = nthB H i
theorem Below.refl {lo : Nat} {H : AH} (h : lo ≤ H.length) : Below lo H H := ⟨h, Nat.le_refl _, fun _ _ => rfl⟩
theorem Below.trans {lo : Nat} {H H' H'' : AH} (h : Below lo H H') (k : Below lo H' H'') : Below lo H H'' := ⟨h.1, Nat.le_trans h.2.1 k.2.1, fun i hi => (k.2.2 i hi).trans (h.2.2 i hi)⟩
theorem nthB_set_ne {H : AH} {i j : Nat} {b : ABlk} (h : i ≠ j) : nthB (H.set i b) j = nthB H j := by rw [nthB_eq, nthB_eq, List.getElem?_set_ne h]
theorem nthB_lt {H : AH} {i : Nat} {b : ABlk} (h : nthB H i = some b) : i < H.length := by
  rw [nthB_eq] at h; exact (List.getElem?_eq_some_iff.1 h).1
theorem nthB_set_eq {H : AH} {i : Nat} {b b' : ABlk} (h : nthB H i = some b') : nthB (H.set i b) i = some b := by rw [nthB_eq, List.getElem?_set_self (nthB_lt h)]
theorem Brd.keep {C : Chn} {H H' : AH} {lo ob n : Nat} {tb : Nat → Nat} {rw : Nat → Nat → Nat} {B : Sta → Int} (h : Brd C H lo ob tb rw B) (hb : Below n H H') (h1 : H.length ≤ n) : Brd C H' lo ob tb rw B :=
  ⟨(hb.2.2 _ (Nat.lt_of_lt_of_le (nthB_lt h.out) h1)).trans h.out, fun g hg => (hb.2.2 _ (Nat.lt_of_lt_of_le (nthB_lt (h.tab g hg)) h1)).trans (h.tab g hg), fun g s hg hs => (hb.2.2 _ (Nat.lt_of_lt_of_le (nthB_lt (h.row g s hg hs)) h1)).trans (h.row g s hg hs), h.inj, h.lo⟩
theorem nodup_get {α : Type} {l : List α} (h : l.Nodup) {i j : Nat} (hi : i < l.length) (hj : j < l.length) (e : l[i] = l[j]) : i = j := by
  have hp := List.pairwise_iff_getElem.1 h
  rcases Nat.lt_trichotomy i j with h | h | h
  exact absurd e (hp i j hi hj h); exact h; exact absurd e.symm (hp j i hj hi h)
theorem Brd.set {C : Chn} {H : AH} {lo ob : Nat} {tb : Nat → Nat} {rw : Nat → Nat → Nat} {B : Sta → Int} (h : Brd C H lo ob tb rw B) (hnd : (allP C).Nodup) {g s p : Nat} (hg : g < gN C) (hs : s < sN C) (hp : p < pN C) (t : Int) :
    Brd C (H.set (rw g s) (.rows ((rowB C B g s).set p [vi t]) tyR)) lo ob tb rw (fun q => if q = ⟨s, (allP C)[p], g⟩ then t else B q) := by
  have hr := h.row g s hg hs; refine ⟨?_, fun g' hg' => ?_, fun g' s' hg' hs' => ?_, h.inj, h.lo⟩
  · rw [nthB_set_ne]; exact h.out; intro e; rw [e, h.out] at hr; simp [tyO, tyR] at hr
  · rw [nthB_set_ne]; exact h.tab g' hg'; intro e; rw [e, h.tab g' hg'] at hr; simp [tyT, tyR] at hr
  by_cases e : rw g s = rw g' s'
  · obtain ⟨rfl, rfl⟩ := h.inj g s g' s' hg hs hg' hs' e; rw [nthB_set_eq hr]; congr 2
    unfold rowB
    refine List.ext_getElem (by simp) fun i h1 h2 => ?_
    simp only [List.length_set, List.length_map] at h1; rw [List.getElem_set]; simp only [List.getElem_map]; by_cases hi : p = i
    · subst hi; rw [if_pos rfl, if_pos rfl]
    rw [if_neg hi, if_neg]; intro e2; injection e2 with _ e3 _; exact hi (nodup_get hnd hp h1 e3.symm)
  rw [nthB_set_ne e, h.row g' s' hg' hs']; congr 2
  unfold rowB
  refine List.map_congr_left fun n _ => ?_
  have : ¬ (⟨s', n, g'⟩ : Sta) = ⟨s, (allP C)[p], g⟩ := fun e2 => by
    injection e2 with e3 _ e4; exact e (by rw [e3, e4])
  simp only [if_neg this]
def lowH (C : Chn) (H : AH) (rw : Nat → Nat → Nat) (B : Sta → Int) (g s p : Nat) (n t : Int) : AH := if B ⟨s, n, g⟩ < 0 ∨ t < B ⟨s, n, g⟩ then H.set (rw g s) (.rows ((rowB C B g s).set p [vi t]) tyR) else H
theorem lowH_brd {C : Chn} {H : AH} {lo ob : Nat} {tb : Nat → Nat} {rw : Nat → Nat → Nat} {B : Sta → Int} (h : Brd C H lo ob tb rw B) (hnd : (allP C).Nodup) {g s p : Nat} (hg : g < gN C) (hs : s < sN C) (hp : p < pN C) (t : Int) :
    Brd C (lowH C H rw B g s p (allP C)[p] t) lo ob tb rw (lowerB B (⟨s, (allP C)[p], g⟩, t)) := by
  unfold lowH lowerB; split
  exact h.set hnd hg hs hp t; exact h
theorem lowH_below {C : Chn} {H : AH} {lo ob : Nat} {tb : Nat → Nat} {rw : Nat → Nat → Nat} {B : Sta → Int} (h : Brd C H lo ob tb rw B) (hl : lo ≤ H.length) {g s p : Nat} (hg : g < gN C) (hs : s < sN C) (n t : Int) : Below lo H (lowH C H rw B g s p n t) := by
  unfold lowH; split
  · refine ⟨hl, by simp, fun i hi => nthB_set_ne ?_⟩; have := h.lo g s hg hs; omega
  exact .refl hl
theorem rowB_get {C : Chn} {B : Sta → Int} {g s p : Nat} (hp : p < pN C) : (rowB C B g s)[p]? = some [vi (B ⟨s, (allP C)[p], g⟩)] := by
  unfold rowB; rw [List.getElem?_map, List.getElem?_eq_getElem hp]; rfl
theorem rangeRow {n i : Nat} {f : Nat → List AV} (h : i < n) : ((List.range n).map f)[i]? = some (f i) := by
  rw [List.getElem?_map, List.getElem?_range h]; rfl
end
section
theorem bit_dec (d i : Nat) : decide (((d / 2 ^ i : Nat) : Int).tmod 2 = 1) = d.testBit i := by
  rw [Nat.testBit_eq_decide_div_mod_eq]
  have : ((d / 2 ^ i : Nat) : Int).tmod 2 = ((d / 2 ^ i % 2 : Nat) : Int) := by
    rw [Int.tmod_eq_emod_of_nonneg (by exact_mod_cast Nat.zero_le _)]; rfl
  rw [this]; refine decide_eq_decide.2 ?_; omega
theorem bit_ok (d i : Nat) (hi : i ≤ 40) (hd : d ≤ 1000000) : Pu Tryz.prog G1 177 [vi d, vi i] (vb (d.testBit i)) := by
  have hp0 : 0 < 2 ^ i := Nat.two_pow_pos i
  have hq : ((d : Int).tdiv ((2 ^ i : Nat) : Int)) = ((d / 2 ^ i : Nat) : Int) := by
    rw [Int.tdiv_eq_ediv_of_nonneg (by exact_mod_cast Nat.zero_le _)]; rfl
  have hle : d / 2 ^ i ≤ d := Nat.div_le_self ..
  have hw : IntKind.i64.wrap ((d : Int).tdiv ((2 ^ i : Nat) : Int)) = ((d / 2 ^ i : Nat) : Int) := by
    rw [hq]; generalize d / 2 ^ i = e at *; exact wrapI ⟨by omega, by omega⟩
  refine Qh 11 Tryz.func177 rfl rfl ?_
  repeat' ((conv => whnf); first | refine StepN.shl1 rfl rfl hi ?_ | refine Need.mk (show ((2 ^ i : Nat) : Int) ≠ 0 from Int.ne_of_gt (by exact_mod_cast hp0)) ?_ | refine WrapN.mk _ hw ?_ | refine Need.mk (show (2 : Int) ≠ 0 by decide) ?_)
  exact DoneN.pure (by rw [bit_dec])
def whereI (l : List Int) (n : Int) : Nat := if l.findIdx (· == n) < l.length then l.findIdx (· == n) else 0
theorem where_ok (l : List Int) (n : Int) (hl : l.length ≤ 1000000) : Pu Tryz.prog G1 129 [ints l, vi n] (vi (whereI l n)) := by
  refine Qh 19 Tryz.func129 rfl rfl ?_
  (conv => whnf)
  refine LoopN.of Qt (fun k : Nat => [(0, ints l), (1, vi n), (5, vi k)]) (fun _ => []) (fun k => l.length - k) (fun k => k ≤ l.length ∧ ∀ i (h : i < l.length), i < k → (l[i] == n) = false) 0 ⟨Nat.zero_le _, fun i h hi => by omega⟩ (Q0) ?_; rintro k ⟨hk, hall⟩; by_cases hlt : k < l.length
  · by_cases hp : l[k] = n
    · have e : l.findIdx (· == n) = k := (List.findIdx_eq hlt).2 ⟨beq_iff_eq.2 hp, fun j hj => hall j (by omega) hj⟩; rw [whereI, e, if_pos hlt]
      repeat' ((conv => whnf); first | refine SlIdxN.map k rfl hlt ?_ | refine vv3 ?_ | refine vv7 ?_ | refine vv23 ?_)
      exact DoneN.pure rfl
    repeat' ((conv => whnf); first | refine SlIdxN.map k rfl hlt ?_ | refine vv4 ?_ | refine vv7 ?_ | refine vv20 ?_ | refine vv23 ?_)
    refine BackN.mk (k + 1) ⟨by omega, fun i h hi => ?_⟩ (by omega) (Q0); by_cases hq : i = k
    subst hq; exact beq_eq_false_iff_ne.2 hp; exact hall i h (by omega)
  have e : l.findIdx (· == n) = l.length := List.findIdx_eq_length.2 fun x hx => by
    obtain ⟨i, hi, rfl⟩ := List.getElem_of_mem hx; exact hall i hi (by omega)
  rw [whereI, e, if_neg (by omega)]
  repeat' ((conv => whnf); first | refine vv8 ?_ | refine vv23 ?_)
  exact DoneN.pure rfl
theorem where_get {l : List Int} {n : Int} (h : n ∈ l) : ∃ hp : whereI l n < l.length, l[whereI l n] = n := by
  have hlt : l.findIdx (· == n) < l.length := List.findIdx_lt_length_of_exists ⟨n, h, by simp⟩; have e : whereI l n = l.findIdx (· == n) := by rw [whereI, if_pos hlt]
  have := List.findIdx_getElem (w := hlt); refine ⟨by rw [e]; exact hlt, ?_⟩; simp only [e]; exact beq_iff_eq.1 this
def goalF (e : Entr) : Int × Int := if e.kind = 2 then (e.src, e.src) else if e.kind = 3 then (e.src, -1) else if e.kind = 4 then (-1, e.dst) else (e.src, e.dst)
theorem goal_ok (e : Entr) : Pu Tryz.prog G1 176 [.agg (encE e)] (.tuple [vi (goalF e).1, vi (goalF e).2]) := by
  unfold goalF; by_cases h2 : e.kind = 2
  · rw [if_pos h2]; refine Qc 24 Tryz.func176 rfl rfl ?_; refine Qs ?_
    (conv => whnf)
    refine CodeN.re (Reabs.frz 0 [encE e] 68 rfl (deepAll rfl)) ?_; refine Qe ?_
    repeat' ((conv => whnf); first | refine vv3 ?_ | refine vv25 ?_ | refine Qd ?_)
    exact Qv
  rw [if_neg h2]; by_cases h3 : e.kind = 3
  · rw [if_pos h3]; refine Qc 24 Tryz.func176 rfl rfl ?_; refine Qs ?_
    (conv => whnf)
    refine CodeN.re (Reabs.frz 0 [encE e] 68 rfl (deepAll rfl)) ?_; refine Qe ?_
    repeat' ((conv => whnf); first | refine vv3 ?_ | refine vv4 ?_)
    exact Qv
  rw [if_neg h3]; by_cases h4 : e.kind = 4
  · rw [if_pos h4]; refine Qc 24 Tryz.func176 rfl rfl ?_; refine Qs ?_
    (conv => whnf)
    refine CodeN.re (Reabs.frz 0 [encE e] 68 rfl (deepAll rfl)) ?_; refine Qe ?_
    repeat' ((conv => whnf); first | refine vv3 ?_ | refine vv4 ?_ | refine vv25 ?_ | refine Qd ?_)
    exact Qv
  rw [if_neg h4]; refine Qc 24 Tryz.func176 rfl rfl ?_; refine Qs ?_
  (conv => whnf)
  refine CodeN.re (Reabs.frz 0 [encE e] 68 rfl (deepAll rfl)) ?_; refine Qe ?_
  repeat' ((conv => whnf); first | refine vv4 ?_ | refine vv25 ?_ | refine Qd ?_)
  exact Qv
def hasCopyK (es : List Entr) (d : Nat) (n : Int) (k : Nat) : Bool := (List.range k).any fun i => match es[i]? with
  | some e => e.kind == 2 && d.testBit i && e.src == n
  | none => false
theorem hasCopyK_all (es : List Entr) (d : Nat) (n : Int) : hasCopyK es d n es.length = hasCopy es d n := rfl
theorem hasCopyK_succ {es : List Entr} {d : Nat} {n : Int} {k : Nat} (h : k < es.length) : hasCopyK es d n (k + 1) = (hasCopyK es d n k || (es[k].kind == 2 && d.testBit k && es[k].src == n)) := by
  unfold hasCopyK; rw [List.range_succ, List.any_append]; simp [List.getElem?_eq_getElem h]
abbrev encW (w : Int × Int) : List AV := [vi w.1, vi w.2]
theorem keeps_ok (C : Chn) (w : Int × Int) (s : Sta) (hl : C.es.length ≤ 40) (hd : s.done ≤ 1000000) : Pu Tryz.prog G1 178 [.agg (encW w), entries C.es, vi s.done, vi s.place] (vb (keepsS C w s)) := by
  unfold keepsS; rw [← hasCopyK_all]; generalize C.es = es at *; refine Qc 59 Tryz.func178 rfl rfl ?_; refine Qs ?_
  (conv => whnf)
  refine CodeN.re (Reabs.frz 0 [encW w] 126 rfl (deepAll rfl)) ?_; refine Qe ?_
  (conv => whnf)
  refine LoopN.of Qt (fun k : Nat => [(1, entries es), (2, vi s.done), (3, vi s.place), (4, .pi (encW w)), (9, vb (hasCopyK es s.done w.2 k)), (10, vi k)]) (fun _ => []) (fun k => es.length - k) (fun k => k ≤ es.length) 0 (Nat.zero_le _) (Q0) ?_; intro k hk; by_cases hlt : k < es.length
  · have hs := hasCopyK_succ (d := s.done) (n := w.2) hlt; have hbt := bit_ok s.done k (by omega) hd
    cases hc : hasCopyK es s.done w.2 k with
    | true =>
      rw [hc, Bool.true_or] at hs
      repeat' ((conv => whnf); first | refine vv1 ?_ | refine vv7 ?_ | refine vv20 ?_ | refine vv23 ?_ | refine vv25 ?_ | refine Qd ?_)
      exact Qb (k + 1) (Reabs.frm0 rfl (by rw [hs]; exact (by repeat (first | exact sv0 | refine sv1 ?_ | refine sv2 ?_ | refine sv3 ?_))))
    | false =>
      rw [hc, Bool.false_or] at hs; by_cases h1 : es[k].kind = 2
      · by_cases h2 : es[k].src = w.2
        · rw [beq_iff_eq.2 h1, beq_iff_eq.2 h2, Bool.true_and, Bool.and_true] at hs
          repeat' ((conv => whnf); first | refine SlIdxN.map k rfl hlt ?_ | refine vv2 ?_ | refine vv3 ?_ | refine vv7 ?_ | refine vv20 ?_ | refine vv23 ?_ | refine vv25 ?_ | refine Qd ?_ | refine Qg hbt ?_)
          exact Qb (k + 1) (Reabs.frm0 rfl (by rw [hs]; exact (by repeat (first | exact sv0 | refine sv1 ?_ | refine sv2 ?_ | refine sv3 ?_))))
        rw [beq_eq_false_iff_ne.2 h2, Bool.and_false] at hs
        repeat' ((conv => whnf); first | refine SlIdxN.map k rfl hlt ?_ | refine vv2 ?_ | refine vv3 ?_ | refine vv4 ?_ | refine vv7 ?_ | refine vv20 ?_ | refine vv23 ?_ | refine vv25 ?_ | refine Qd ?_)
        exact Qb (k + 1) (Reabs.frm0 rfl (by rw [hs]; exact (by repeat (first | exact sv0 | refine sv1 ?_ | refine sv2 ?_ | refine sv3 ?_))))
      rw [beq_eq_false_iff_ne.2 h1, Bool.false_and, Bool.false_and] at hs
      repeat' ((conv => whnf); first | refine SlIdxN.map k rfl hlt ?_ | refine vv2 ?_ | refine vv4 ?_ | refine vv7 ?_ | refine vv20 ?_ | refine vv23 ?_ | refine vv25 ?_ | refine Qd ?_)
      exact Qb (k + 1) (Reabs.frm0 rfl (by rw [hs]; exact (by repeat (first | exact sv0 | refine sv1 ?_ | refine sv2 ?_ | refine sv3 ?_))))
  obtain rfl : k = es.length := by omega
  generalize hasCopyK es s.done w.2 es.length = hc; by_cases h1 : w.1 = 1
  · rw [if_pos h1]
    repeat' ((conv => whnf); first | refine vv3 ?_ | refine vv8 ?_ | refine vv23 ?_)
    exact Qv
  rw [if_neg h1]; by_cases h2 : w.1 = 2
  · rw [if_pos h2]
    repeat' ((conv => whnf); first | refine vv3 ?_ | refine vv4 ?_ | refine vv8 ?_ | refine vv23 ?_)
    exact Qv
  rw [if_neg h2]; by_cases h3 : s.place = w.2
  · rw [beq_iff_eq.2 h3, Bool.true_or]
    repeat' ((conv => whnf); first | refine vv3 ?_ | refine vv4 ?_ | refine vv8 ?_ | refine vv23 ?_)
    exact Qv
  rw [beq_eq_false_iff_ne.2 h3, Bool.false_or]
  repeat' ((conv => whnf); first | refine vv4 ?_ | refine vv8 ?_ | refine vv23 ?_)
  exact Qv
abbrev wishes (l : List (Int × Int)) : AV := .sl 2 false (l.map encW)
abbrev encSg (s : Stg) : List AV := [vi s.at_.lo, vi s.at_.hi, wishes s.ws]
abbrev stgs (l : List Stg) : AV := .sl 3 false (l.map encSg)
theorem agrees_ok (C : Chn) (st : Stg) (s : Sta) (hl : C.es.length ≤ 40) (hd : s.done ≤ 1000000) (hw : st.ws.length ≤ 1000000) : Pu Tryz.prog G1 131 [.agg (encSg st), entries C.es, vi s.done, vi s.place] (vb (agreesS C st s)) := by
  unfold agreesS; generalize hb0 : st.ws.all (fun w => keepsS C w s) = b0; refine Qc 27 Tryz.func131 rfl rfl ?_; refine Qs ?_
  (conv => whnf)
  refine CodeN.re (Reabs.frz 0 [encSg st] 129 rfl (deepAll rfl)) ?_; refine Qe ?_
  (conv => whnf)
  refine LoopN.of Qt (fun k : Nat => [(1, entries C.es), (2, vi s.done), (3, vi s.place), (4, .pi (encSg st)), (9, vi k)]) (fun _ => []) (fun k => st.ws.length - k) (fun k => k ≤ st.ws.length ∧ b0 = (st.ws.drop k).all (fun w => keepsS C w s)) 0 ⟨Nat.zero_le _, hb0.symm⟩ (Q0) ?_; clear hb0; rintro k ⟨hk, hinv⟩; by_cases hlt : k < st.ws.length
  · rw [List.drop_eq_getElem_cons hlt, List.all_cons] at hinv; have hkp := keeps_ok C st.ws[k] s hl hd
    cases hb : keepsS C st.ws[k] s with
    | true =>
      rw [hb] at hkp; rw [hb, Bool.true_and] at hinv
      repeat' ((conv => whnf); first | refine SlIdxN.map k rfl hlt ?_ | refine vv2 ?_ | refine vv7 ?_ | refine vv20 ?_ | refine vv23 ?_ | refine Qp hkp ?_)
      exact BackN.mk (k + 1) ⟨by omega, hinv⟩ (by omega) (Q0)
    | false =>
      rw [hb] at hkp; rw [hb, Bool.false_and] at hinv; subst hinv
      repeat' ((conv => whnf); first | refine SlIdxN.map k rfl hlt ?_ | refine vv1 ?_ | refine vv7 ?_ | refine vv23 ?_ | refine Qp hkp ?_)
      exact Qv
  obtain rfl : k = st.ws.length := by omega
  rw [List.drop_length] at hinv; have hinv : b0 = true := hinv; subst hinv
  repeat' ((conv => whnf); first | refine vv8 ?_ | refine vv23 ?_)
  exact Qv
end
section
theorem snoc_in {H : AH} {b : ABlk} {k : AH → Nat → Prop} (h : k (H ++ [b]) H.length) : snocK H b 0 k := by rw [snocK_eq, Nat.zero_add]; exact h
theorem set_in {H : AH} {i : Nat} {b : ABlk} {k : AH → Prop} (h : k (H.set i b)) : setK H i b k := by rw [setK_eq]; exact h
theorem nthB_last {H : AH} {b : ABlk} : nthB (H ++ [b]) H.length = some b := by rw [nthB_eq]; simp
theorem nthB_app {H : AH} {b : ABlk} {i : Nat} (h : i < H.length) : nthB (H ++ [b]) i = nthB H i := by rw [nthB_eq, nthB_eq, List.getElem?_append_left h]
theorem nthB_end {H : AH} {b : ABlk} {i : Nat} (h : i = H.length) : nthB (H ++ [b]) i = some b := by subst h; exact nthB_last
theorem set_last {H : AH} {b b' : ABlk} : (H ++ [b]).set H.length b' = H ++ [b'] := by simp
theorem sm_eq {a b k o n : Nat} (h : a = b) : AV.sm a k o n = AV.sm b k o n := by rw [h]
theorem QE {C : Ctx} {l r : Fr} {N : Nat} {H : AH} (h : AllF l r := by repeat (first | exact trivial | refine ⟨rfl, ?_⟩)) : Reabs C ⟨frm 0 l N, H⟩ ⟨frm 0 r N, H⟩ := .fr h
theorem Reabs.frE {C : Ctx} {l r : Fr} {N : Nat} {H H' : AH} (he : H = H') (h : AllF l r) : Reabs C ⟨frm 0 l N, H⟩ ⟨frm 0 r N, H'⟩ := by subst he; exact .fr h
theorem OpN.build1s {E : EC} {t : TypeId} {x : Operand} {ty : TypeId} {l : Fr} {H : AH} {k : AV → AH → Prop} (id j n : Nat) (e : TypeId) (hx : evo E l x = .sm id j 0 n) (hy : abuildR E.C.P t 1 [(0, .sm id j 0 n)] = some (e, 1)) (hk : k (.sm H.length 1 0 1) (H ++ [.rows [[.sm id j 0 n]] e])) : OpN E (.buildSlice t 1 #[(0, x)]) ty l H k := OpN.build1 _ e 1 hx hy hk
def prow (P p : Nat) : List (List AV) := (List.range P).map fun i => [vi (if i < p then -1 else 0)]
theorem prow_0 (P : Nat) : List.replicate P [vi 0] = prow P 0 := by
  unfold prow
  refine List.ext_getElem (by simp) fun i h1 h2 => ?_
  simp
theorem prow_get {P p : Nat} (h : p < P) : (prow P p)[p]? = some [vi 0] := by
  unfold prow; rw [rangeRow h, if_neg (Nat.lt_irrefl _)]
theorem prow_set {P p : Nat} : (prow P p).set p [vi (-1)] = prow P (p + 1) := by
  unfold prow
  refine List.ext_getElem (by simp) fun i h1 h2 => ?_
  rw [List.getElem_set]; simp only [List.getElem_map, List.getElem_range]; by_cases h : p = i
  subst h; rw [if_pos rfl, if_pos (by omega)]; rw [if_neg h]; by_cases h3 : i < p
  rw [if_pos h3, if_pos (by omega)]; rw [if_neg h3, if_neg (by omega)]
theorem prow_all (C : Chn) (g s : Nat) : prow (pN C) (pN C) = rowB C (fun _ => -1) g s := by
  unfold prow rowB
  refine List.ext_getElem (by simp) fun i h1 h2 => ?_
  simp only [List.length_map, List.length_range] at h1; simp [h1]
def rst (P : Nat) (H1 : AH) : Nat → AH
  | 0 => H1 ++ [ABlk.rows [] 23]
  | s + 1 => ((rst P H1 s ++ [ABlk.rows (prow P P) 3]) ++ [ABlk.rows [[.sm (rst P H1 s).length 1 0 P]] 23]).set (H1.length + 3 * s) .dead ++ [ABlk.rows ((List.range s).map (fun j => [AV.sm (H1.length + 1 + 3 * j) 1 0 P]) ++ [[.sm (rst P H1 s).length 1 0 P]]) 23]
theorem rst_len {P : Nat} {H1 : AH} : ∀ s, (rst P H1 s).length = H1.length + 1 + 3 * s
  | 0 => by simp [rst]
  | s + 1 => by simp [rst, rst_len s]; omega
theorem rst_cur {P : Nat} {H1 : AH} : ∀ s, nthB (rst P H1 s) (H1.length + 3 * s) = some (.rows ((List.range s).map fun j => [AV.sm (H1.length + 1 + 3 * j) 1 0 P]) 23)
  | 0 => nthB_last
  | s + 1 => by
    rw [rst, nthB_end (by simp [rst_len]; omega), rst_len, List.range_succ, List.map_append]; rfl
theorem rst_row {P : Nat} {H1 : AH} : ∀ s j, j < s → nthB (rst P H1 s) (H1.length + 1 + 3 * j) = some (.rows (prow P P) 3)
  | 0, j, h => absurd h (Nat.not_lt_zero _)
  | s + 1, j, h => by
    rw [rst, nthB_app (by simp [rst_len]; omega), nthB_set_ne (by omega), nthB_app (by simp [rst_len]; omega)]; by_cases e : j = s
    · subst e; exact nthB_end (by rw [rst_len])
    rw [nthB_app (by rw [rst_len]; omega)]; exact rst_row s j (by omega)
theorem rst_old {P : Nat} {H1 : AH} : ∀ s i, i < H1.length → nthB (rst P H1 s) i = nthB H1 i
  | 0, i, h => nthB_app h
  | s + 1, i, h => by
    rw [rst, nthB_app (by simp [rst_len]; omega), nthB_set_ne (by omega), nthB_app (by simp [rst_len]; omega), nthB_app (by rw [rst_len]; omega)]; exact rst_old s i h
abbrev tbI (S n j : Nat) : Nat := n + 1 + (3 * S + 3) * j + 3 * S
abbrev rwI (S n j s : Nat) : Nat := n + 1 + (3 * S + 3) * j + 1 + 3 * s
def gst (S P : Nat) (H : AH) : Nat → AH
  | 0 => H ++ [ABlk.rows [] 194]
  | g + 1 => (rst P (gst S P H g) S ++ [ABlk.rows [[.sm ((gst S P H g).length + 3 * S) 1 0 S]] 194]).set (H.length + (3 * S + 3) * g) .dead ++ [ABlk.rows ((List.range g).map (fun j => [AV.sm (tbI S H.length j) 1 0 S]) ++ [[.sm ((gst S P H g).length + 3 * S) 1 0 S]]) 194]
theorem gst_len {S P : Nat} {H : AH} : ∀ g, (gst S P H g).length = H.length + 1 + (3 * S + 3) * g
  | 0 => by simp [gst]
  | g + 1 => by simp [gst, rst_len, gst_len g, Nat.mul_succ]; omega
theorem gst_cur {S P : Nat} {H : AH} : ∀ g, nthB (gst S P H g) (H.length + (3 * S + 3) * g) = some (.rows ((List.range g).map fun j => [AV.sm (tbI S H.length j) 1 0 S]) 194)
  | 0 => nthB_last
  | g + 1 => by
    rw [gst, nthB_end (by simp [rst_len, gst_len, Nat.mul_succ]; omega), gst_len, List.range_succ, List.map_append]; rfl
theorem mul_step {S j g : Nat} (h : j < g) : (3 * S + 3) * j + (3 * S + 3) ≤ (3 * S + 3) * g := by
  rw [← Nat.mul_succ]; exact Nat.mul_le_mul_left _ h
theorem gst_tab {S P : Nat} {H : AH} : ∀ g j, j < g → nthB (gst S P H g) (tbI S H.length j) = some (.rows ((List.range S).map fun s => [AV.sm (rwI S H.length j s) 1 0 P]) 23)
  | 0, j, h => absurd h (Nat.not_lt_zero _)
  | g + 1, j, h => by
    simp only [tbI, rwI]; have hg := gst_len (S := S) (P := P) (H := H) g; by_cases e : j = g
    · subst e; rw [gst, nthB_app (by simp [rst_len]; omega), nthB_set_ne (by omega), nthB_app (by simp [rst_len]; omega)]; have := rst_cur (P := P) (H1 := gst S P H j) S; rw [hg] at this; rw [this]
    have := mul_step (S := S) (show j < g by omega); rw [gst, nthB_app (by simp [rst_len]; omega), nthB_set_ne (by omega), nthB_app (by simp [rst_len]; omega), rst_old _ _ (by omega)]; exact gst_tab g j (by omega)
theorem gst_row {S P : Nat} {H : AH} : ∀ g j s, j < g → s < S → nthB (gst S P H g) (rwI S H.length j s) = some (.rows (prow P P) 3)
  | 0, j, s, h, _ => absurd h (Nat.not_lt_zero _)
  | g + 1, j, s, h, hs => by
    simp only [rwI]; have hg := gst_len (S := S) (P := P) (H := H) g; by_cases e : j = g
    · subst e; rw [gst, nthB_app (by simp [rst_len]; omega), nthB_set_ne (by omega), nthB_app (by simp [rst_len]; omega)]; have := rst_row (P := P) (H1 := gst S P H j) S s hs; rw [hg] at this; exact this
    have := mul_step (S := S) (show j < g by omega); rw [gst, nthB_app (by simp [rst_len]; omega), nthB_set_ne (by omega), nthB_app (by simp [rst_len]; omega), rst_old _ _ (by omega)]; exact gst_row g j s (by omega) hs
theorem gst_old {S P : Nat} {H : AH} : ∀ g i, i < H.length → nthB (gst S P H g) i = nthB H i
  | 0, i, h => nthB_app h
  | g + 1, i, h => by
    have hg := gst_len (S := S) (P := P) (H := H) g; rw [gst, nthB_app (by simp [rst_len]; omega), nthB_set_ne (by omega), nthB_app (by simp [rst_len]; omega), rst_old _ _ (by omega)]; exact gst_old g i h
abbrev obI (C : Chn) (n : Nat) : Nat := n + (3 * sN C + 3) * gN C
abbrev blankH (C : Chn) (H : AH) : AH := gst (sN C) (pN C) H (gN C)
theorem blank_brd (C : Chn) (H : AH) : Brd C (blankH C H) H.length (obI C H.length) (tbI (sN C) H.length) (rwI (sN C) H.length) fun _ => -1 := by
  refine ⟨gst_cur _, fun g hg => gst_tab _ g hg, fun g s hg hs => ?_, fun g s g' s' hg hs hg' hs' e => ?_, fun g s _ _ => by simp only [rwI]; omega⟩; rw [gst_row _ g s hg hs, prow_all C g s]; simp only [rwI] at e
  rcases Nat.lt_trichotomy g g' with h | h | h
  · have := mul_step (S := sN C) h; omega
  · subst h; exact ⟨rfl, by omega⟩
  have := mul_step (S := sN C) h; omega
theorem blank_below (C : Chn) (H : AH) : Below H.length H (blankH C H) := ⟨Nat.le_refl _, by rw [gst_len]; omega, fun i hi => gst_old _ i hi⟩
theorem blank_ok (C : Chn) (h0 : 0 ≤ C.gaps) (h3 : C.gaps ≤ 3) (hS : sN C ≤ 128) (hP : pN C ≤ 10) (H : AH) : Ef Tryz.prog G1 127 [vi C.gaps, vi (sN C), vi (pN C)] H fun y H' => y = .sm (obI C H.length) 1 0 (gN C) ∧ H' = blankH C H := by
  refine Ef.of_ev (T := Tryz.tab) (n := 42) (tryd_okm H.length _) rfl Tryz.func127 rfl rfl (by simp) ?_
  (conv => whnf)
  refine LoopN.re (Reabs.virt 7 1 194 rfl) ?_; refine LoopN.of Qt (fun g : Nat => [(0, vi C.gaps), (1, vi (sN C)), (2, vi (pN C)), (7, .sm (H.length + (3 * sN C + 3) * g) 1 0 g), (8, vi g)]) (fun g => gst (sN C) (pN C) H g) (fun g => gN C - g) (fun g => g ≤ gN C) 0 (Nat.zero_le _) (QE) ?_; intro g hg; by_cases hlt : g < gN C
  · have hgl := gst_len (S := sN C) (P := pN C) (H := H) g; have hgc := gst_cur (S := sN C) (P := pN C) (H := H) g; have hnx : gst (sN C) (pN C) H (g + 1) = (rst (pN C) (gst (sN C) (pN C) H g) (sN C) ++ [ABlk.rows [[.sm ((gst (sN C) (pN C) H g).length + 3 * sN C) 1 0 (sN C)]] 194]).set (H.length + (3 * sN C + 3) * g) .dead ++ [ABlk.rows ((List.range g).map (fun j => [AV.sm (tbI (sN C) H.length j) 1 0 (sN C)]) ++ [[.sm ((gst (sN C) (pN C) H g).length + 3 * sN C) 1 0 (sN C)]]) 194] := rfl; generalize gst (sN C) (pN C) H g = Hg at *; have hgi : g ≤ 3 := by simp only [gN] at hlt; omega
    have hgl2 : (g : Int) ≤ C.gaps := by simp only [gN] at hlt; omega
    repeat' ((conv => whnf); first | refine vv3 ?_)
    refine LoopN.re (Reabs.virt 9 1 23 rfl) ?_; refine LoopN.of Qt (fun s : Nat => [(0, vi C.gaps), (1, vi (sN C)), (2, vi (pN C)), (7, .sm (H.length + (3 * sN C + 3) * g) 1 0 g), (8, vi g), (9, .sm (Hg.length + 3 * s) 1 0 s), (10, vi s)]) (fun s => rst (pN C) Hg s) (fun s => sN C - s) (fun s => s ≤ sN C) 0 (Nat.zero_le _) (QE) ?_; intro s hs; by_cases hslt : s < sN C
    · have hrl := rst_len (P := pN C) (H1 := Hg) s; have hrc := rst_cur (P := pN C) (H1 := Hg) s; have hrx : rst (pN C) Hg (s + 1) = ((rst (pN C) Hg s ++ [ABlk.rows (prow (pN C) (pN C)) 3]) ++ [ABlk.rows [[.sm (rst (pN C) Hg s).length 1 0 (pN C)]] 23]).set (Hg.length + 3 * s) .dead ++ [ABlk.rows ((List.range s).map (fun j => [AV.sm (Hg.length + 1 + 3 * j) 1 0 (pN C)]) ++ [[.sm (rst (pN C) Hg s).length 1 0 (pN C)]]) 23] := rfl; generalize rst (pN C) Hg s = Hs at *
      repeat' ((conv => whnf); first | refine snoc_in ?_ | refine vv7 ?_ | refine vv29 ?_)
      refine LoopN.of Qt (fun p : Nat => [(0, vi C.gaps), (1, vi (sN C)), (2, vi (pN C)), (7, .sm (H.length + (3 * sN C + 3) * g) 1 0 g), (8, vi g), (9, .sm (Hg.length + 3 * s) 1 0 s), (10, vi s), (11, .sm Hs.length 1 0 (pN C)), (12, vi p)]) (fun p => Hs ++ [ABlk.rows (prow (pN C) p) 3]) (fun p => pN C - p) (fun p => p ≤ pN C) 0 (Nat.zero_le _) (Reabs.frE (by rw [← prow_0]) ⟨rfl, rfl, rfl, rfl, rfl, rfl, rfl, rfl, rfl, trivial⟩) ?_; intro p hp; by_cases hplt : p < pN C
      · repeat' ((conv => whnf); first | refine IdxN.at0 p rfl hplt ?_ | rw [nthB_last] | refine RowSN.raw (prow_get hplt) ?_ | refine set_in ?_ | refine vv7 ?_ | refine vv20 ?_)
        exact Qb (p + 1) (Reabs.frE (set_last.trans (by show Hs ++ [ABlk.rows ((prow (pN C) p).set p [vi (-1)]) 3] = _; rw [prow_set])) ⟨rfl, rfl, rfl, rfl, rfl, rfl, rfl, rfl, rfl, trivial⟩)
      obtain rfl : p = pN C := by omega
      have f1 : nthB ((Hs ++ [ABlk.rows (prow (pN C) (pN C)) 3]) ++ [ABlk.rows [[.sm Hs.length 1 0 (pN C)]] 23]) (Hs ++ [ABlk.rows (prow (pN C) (pN C)) 3]).length = some (.rows [[.sm Hs.length 1 0 (pN C)]] 23) := nthB_last
      have f2 : nthB ((Hs ++ [ABlk.rows (prow (pN C) (pN C)) 3]) ++ [ABlk.rows [[.sm Hs.length 1 0 (pN C)]] 23]) (Hg.length + 3 * s) = some (.rows ((List.range s).map fun j => [AV.sm (Hg.length + 1 + 3 * j) 1 0 (pN C)]) 23) := by
        rw [nthB_app (by simp; omega), nthB_app (by omega)]; exact hrc
      repeat' ((conv => whnf); first | refine OpN.build1s Hs.length 1 (pN C) 23 rfl (by kernel_rfl) ?_ | rw [f1] | rw [f2] | refine SubN.all (by simp) ?_ | refine AppN.len (s + 1) (by simp) (by omega) (by omega) ?_ | refine snoc_in ?_ | refine set_in ?_ | refine vv8 ?_ | refine vv20 ?_)
      exact Qb (s + 1) (Reabs.frE hrx.symm ⟨rfl, rfl, rfl, rfl, rfl, sm_eq (by simp; omega), rfl, trivial⟩)
    obtain rfl : s = sN C := by omega
    have hrl := rst_len (P := pN C) (H1 := Hg) (sN C); have hro := rst_old (P := pN C) (H1 := Hg) (sN C) (H.length + (3 * sN C + 3) * g) (by omega); rw [hgc] at hro; generalize rst (pN C) Hg (sN C) = Hs at *; have f1 : nthB (Hs ++ [ABlk.rows [[.sm (Hg.length + 3 * sN C) 1 0 (sN C)]] 194]) Hs.length = some (.rows [[.sm (Hg.length + 3 * sN C) 1 0 (sN C)]] 194) := nthB_last
    have f2 : nthB (Hs ++ [ABlk.rows [[.sm (Hg.length + 3 * sN C) 1 0 (sN C)]] 194]) (H.length + (3 * sN C + 3) * g) = some (.rows ((List.range g).map fun j => [AV.sm (tbI (sN C) H.length j) 1 0 (sN C)]) 194) := by
      rw [nthB_app (by omega)]; exact hro
    repeat' ((conv => whnf); first | refine OpN.build1s (Hg.length + 3 * sN C) 1 (sN C) 194 rfl (by kernel_rfl) ?_ | rw [f1] | rw [f2] | refine SubN.all (by simp) ?_ | refine AppN.len (g + 1) (by simp) (by omega) (by omega) ?_ | refine snoc_in ?_ | refine set_in ?_ | refine vv8 ?_ | refine vv20 ?_)
    exact Qb (g + 1) (Reabs.frE hnx.symm ⟨rfl, rfl, rfl, sm_eq (by simp [Nat.mul_succ]; omega), rfl, trivial⟩)
  obtain rfl : g = gN C := by omega
  have hgl2 : ¬ ((gN C : Nat) : Int) ≤ C.gaps := by simp only [gN]; omega
  (conv => whnf); repeat' (first | refine vv4 ?_) <;> conv => whnf
  exact ⟨⟨rfl, rfl⟩⟩
end
section
theorem lower_ok {C : Chn} {H : AH} {lo ob : Nat} {tb : Nat → Nat} {rw : Nat → Nat → Nat} {B : Sta → Int} (hB : Brd C H lo ob tb rw B) {g s p : Nat} (hg : g < gN C) (hs : s < sN C) (hp : p < pN C) (t : Int) :
    Ef Tryz.prog G1 128 [.sm ob 1 0 (gN C), vi g, vi s, vi p, vi t] H fun y H' => y = .tuple [] ∧ H' = lowH C H rw B g s p (allP C)[p] t := by
  have h1 := hB.out; have h2 := hB.tab g hg; have h3 := hB.row g s hg hs; have r1 : ((List.range (gN C)).map fun g => [AV.sm (tb g) 1 0 (sN C)])[g]? = some [AV.sm (tb g) 1 0 (sN C)] := rangeRow hg; have r2 : ((List.range (sN C)).map fun s => [AV.sm (rw g s) 1 0 (pN C)])[s]? = some [AV.sm (rw g s) 1 0 (pN C)] := rangeRow hs; have r3 : (rowB C B g s)[p]? = some [vi (B ⟨s, (allP C)[p], g⟩)] := rowB_get hp; unfold lowH; generalize B ⟨s, (allP C)[p], g⟩ = b at *; by_cases c1 : b < 0
  · rw [if_pos (.inl c1)]; refine Ef.of_ev (T := Tryz.tab) (n := 45) (tryd_okm H.length _) rfl Tryz.func128 rfl rfl (by simp) ?_
    (conv => whnf); repeat' (first | refine IdxN.at0 g rfl hg ?_ | refine IdxN.at0 s rfl hs ?_ | refine IdxN.at0 p rfl hp ?_ | rw [h1] | rw [h2] | rw [h3] | refine RowN.raw r1 ?_ | refine RowN.raw r2 ?_ | refine RowN.raw r3 ?_ | refine RowSN.raw r3 ?_ | refine set_in ?_ | refine vv1 ?_ | refine vv3 ?_) <;> conv => whnf
    exact ⟨⟨rfl, rfl⟩⟩
  by_cases c2 : t < b
  · rw [if_pos (.inr c2)]; refine Ef.of_ev (T := Tryz.tab) (n := 45) (tryd_okm H.length _) rfl Tryz.func128 rfl rfl (by simp) ?_
    (conv => whnf); repeat' (first | refine IdxN.at0 g rfl hg ?_ | refine IdxN.at0 s rfl hs ?_ | refine IdxN.at0 p rfl hp ?_ | rw [h1] | rw [h2] | rw [h3] | refine RowN.raw r1 ?_ | refine RowN.raw r2 ?_ | refine RowN.raw r3 ?_ | refine RowSN.raw r3 ?_ | refine set_in ?_ | refine vv3 ?_ | refine vv4 ?_) <;> conv => whnf
    exact ⟨⟨rfl, rfl⟩⟩
  rw [if_neg (fun h => h.elim c1 c2)]; refine Ef.of_ev (T := Tryz.tab) (n := 45) (tryd_okm H.length _) rfl Tryz.func128 rfl rfl (by simp) ?_
  (conv => whnf); repeat' (first | refine IdxN.at0 g rfl hg ?_ | refine IdxN.at0 s rfl hs ?_ | refine IdxN.at0 p rfl hp ?_ | rw [h1] | rw [h2] | rw [h3] | refine RowN.raw r1 ?_ | refine RowN.raw r2 ?_ | refine RowN.raw r3 ?_ | refine vv4 ?_) <;> conv => whnf
  exact ⟨⟨rfl, rfl⟩⟩
structure TbOk (C : Chn) : Prop where
  g0 : 0 ≤ C.gaps
  g3 : C.gaps ≤ 3
  es : C.es.length ≤ 7
  pn : pN C ≤ 10
  nd : (allP C).Nodup
  knd : ∀ e ∈ C.es, 1 ≤ e.kind ∧ e.kind ≤ 4
  to : ∀ e ∈ C.es, (goalF e).2 ∈ allP C
  ids : ∀ p ∈ C.people, p.id ≠ -1
  hi : ∀ e ∈ C.es, e.at_.hi ≤ maxTime
theorem TbOk.sn {C : Chn} (h : TbOk C) : sN C ≤ 128 := Nat.pow_le_pow_right (n := 2) (by decide) h.es
theorem goal_from (e : Entr) : (goalF e).1 = fromOf e := by
  unfold goalF fromOf; by_cases h2 : e.kind = 2
  rw [if_pos h2, if_neg (by omega)]; rw [if_neg h2]; by_cases h3 : e.kind = 3
  rw [if_pos h3, if_neg (by omega)]; rw [if_neg h3]; by_cases h4 : e.kind = 4
  rw [if_pos h4, if_pos h4]; rw [if_neg h4, if_neg h4]
theorem goal_to {e : Entr} (hk : 1 ≤ e.kind ∧ e.kind ≤ 4) : (goalF e).2 = placeOf e (fromOf e) := by
  unfold goalF placeOf fromOf; have h : e.kind = 1 ∨ e.kind = 2 ∨ e.kind = 3 ∨ e.kind = 4 := by omega
  rcases h with h | h | h | h <;> simp [h]
theorem or_add {d i : Nat} (h : d.testBit i = false) : d ||| 2 ^ i = d + 2 ^ i := by
  rw [Nat.testBit_eq_decide_div_mod_eq] at h; have h := of_decide_eq_false h; have hb : d % 2 ^ i < 2 ^ i := Nat.mod_lt _ (Nat.two_pow_pos i); have hd : 2 ^ i * (d / 2 ^ i) + d % 2 ^ i = d := Nat.div_add_mod d (2 ^ i); generalize d / 2 ^ i = a at *; generalize d % 2 ^ i = b at *; have e1 := Nat.two_pow_add_eq_or_of_lt hb a; have e2 := Nat.two_pow_add_eq_or_of_lt hb (a + 1)
  have e3 : a ||| 1 = a + 1 := by
    have := Nat.two_pow_add_eq_or_of_lt (i := 1) (b := 1) (by decide) (a / 2); rw [show 2 ^ 1 * (a / 2) = a by omega] at this; exact this.symm
  have e4 : 2 ^ i * a ||| 2 ^ i = 2 ^ i * (a + 1) := by
    have := Nat.shiftLeft_or_distrib (a := a) (b := 1) (i := i); rw [Nat.shiftLeft_eq, Nat.shiftLeft_eq, Nat.shiftLeft_eq, e3, Nat.one_mul] at this; rw [Nat.mul_comm _ a, Nat.mul_comm _ (a + 1)]; exact this.symm
  rw [← hd, e1, Nat.or_assoc, Nat.or_comm b, ← Nat.or_assoc, e4, ← e2, ← e1, Nat.mul_succ]; omega
theorem take_snoc {α : Type} {l : List α} {i : Nat} (h : i < l.length) : l.take (i + 1) = l.take i ++ [l[i]] := List.take_succ_eq_append_getElem h
theorem cand_hit {q : Sta} {t : Int} {i : Nat} {e : Entr} (h1 : q.done.testBit i = false) (h2 : (goalF e).1 = q.place) (h3 : max t e.at_.lo ≤ e.at_.hi) (hk : 1 ≤ e.kind ∧ e.kind ≤ 4) : candM q t i e = [(⟨q.done ||| 2 ^ i, (goalF e).2, q.gaps⟩, max t e.at_.lo)] := by
  unfold candM; rw [goal_from] at h2; rw [if_pos ⟨h1, h2.symm, h3⟩, ← h2, goal_to hk]
theorem cand_miss {q : Sta} {t : Int} {i : Nat} {e : Entr} (h : q.done.testBit i = true ∨ (goalF e).1 ≠ q.place ∨ ¬ max t e.at_.lo ≤ e.at_.hi) : candM q t i e = [] := by
  unfold candM; rw [if_neg]; rintro ⟨h1, h2, h3⟩; rw [goal_from] at h
  rcases h with h | h | h
  rw [h1] at h; cases h; exact h h2.symm; exact h h3
theorem spread_ok {C : Chn} (hC : TbOk C) {H : AH} {lo ob : Nat} {tb : Nat → Nat} {rw : Nat → Nat → Nat} {B : Sta → Int} (hB : Brd C H lo ob tb rw B) (hlo : lo ≤ H.length) :
    Ef Tryz.prog G1 130 [.sm ob 1 0 (gN C), entries C.es, ints (allP C)] H fun y H' => y = .tuple [] ∧ Brd C H' lo ob tb rw (spreadL (earlyW C) (posL C) B) ∧ Below lo H H' := by
  have hsn := hC.sn; have hpn := hC.pn; have hpl2 : (allP C).length = pN C := rfl; have hel := hC.es; have hgn : gN C ≤ 4 := by have := hC.g3; simp only [gN]; omega
  refine Ef.of_ev (T := Tryz.tab) (n := 144) (tryd_okm H.length _) rfl Tryz.func130 rfl rfl (by simp) ?_
  (conv => whnf)
  refine LoopN.of Qt (fun x : Nat × AH => [(0, .sm ob 1 0 (gN C)), (1, entries C.es), (2, ints (allP C)), (6, vi x.1)]) (fun x => x.2) (fun x => gN C - x.1) (fun x => x.1 ≤ gN C ∧ Brd C x.2 lo ob tb rw (spreadL (earlyW C) (posP C x.1 0 0) B) ∧ Below lo H x.2) (0, H) ⟨Nat.zero_le _, by rw [posP_0]; exact hB, .refl hlo⟩ (QE) ?_; rintro ⟨g, H1⟩ ⟨hg, hB1, hb1⟩; simp only at hg hB1 hb1 ⊢; by_cases hglt : g < gN C
  · repeat' ((conv => whnf); first | refine vv7 ?_)
    refine LoopN.of Qt (fun x : Nat × AH => [(0, .sm ob 1 0 (gN C)), (1, entries C.es), (2, ints (allP C)), (6, vi g), (7, vi x.1)]) (fun x => x.2) (fun x => sN C - x.1) (fun x => x.1 ≤ sN C ∧ Brd C x.2 lo ob tb rw (spreadL (earlyW C) (posP C g x.1 0) B) ∧ Below lo H x.2) (0, H1) ⟨Nat.zero_le _, hB1, hb1⟩ (QE) ?_; clear hB1 hb1; rintro ⟨s, H2⟩ ⟨hs, hB2, hb2⟩; simp only at hs hB2 hb2 ⊢; have r1 : ((List.range (gN C)).map fun g => [AV.sm (tb g) 1 0 (sN C)])[g]? = some [AV.sm (tb g) 1 0 (sN C)] := rangeRow hglt; have o1 := hB2.out; by_cases hslt : s < sN C
    · repeat' ((conv => whnf); first | refine IdxN.at0 g rfl hglt ?_ | rw [o1] | refine RowN.raw r1 ?_ | refine vv7 ?_)
      refine LoopN.of Qt (fun x : Nat × AH => [(0, .sm ob 1 0 (gN C)), (1, entries C.es), (2, ints (allP C)), (6, vi g), (7, vi s), (8, vi x.1)]) (fun x => x.2) (fun x => pN C - x.1) (fun x => x.1 ≤ pN C ∧ Brd C x.2 lo ob tb rw (spreadL (earlyW C) (posP C g s x.1) B) ∧ Below lo H x.2) (0, H2) ⟨Nat.zero_le _, hB2, hb2⟩ (QE) ?_; clear hB2 hb2 o1; rintro ⟨p, H3⟩ ⟨hp, hB3, hb3⟩; simp only at hp hB3 hb3 ⊢; by_cases hplt : p < pN C
      · have o1 := hB3.out; have o2 := hB3.tab g hglt; have o3 := hB3.row g s hglt hslt; have r2 : ((List.range (sN C)).map fun s => [AV.sm (rw g s) 1 0 (pN C)])[s]? = some [AV.sm (rw g s) 1 0 (pN C)] := rangeRow hslt; have r3 := rowB_get (B := spreadL (earlyW C) (posP C g s p) B) (g := g) (s := s) hplt; have hnx : spreadL (earlyW C) (posP C g s (p + 1)) B = spreadAt (earlyW C) (spreadL (earlyW C) (posP C g s p) B) ⟨s, (allP C)[p], g⟩ := by rw [posP_p hplt, spread_snoc]
        unfold spreadAt at hnx; generalize spreadL (earlyW C) (posP C g s p) B = B3 at *; obtain ⟨t, ht⟩ : ∃ t, t = B3 ⟨s, (allP C)[p], g⟩ := ⟨_, rfl⟩; rw [← ht] at r3 hnx; by_cases ht0 : t < 0
        · rw [if_pos ht0] at hnx
          repeat' ((conv => whnf); first | refine IdxN.at0 g rfl hglt ?_ | refine IdxN.at0 s rfl hslt ?_ | refine IdxN.at0 p rfl hplt ?_ | rw [o1] | rw [o2] | rw [o3] | refine RowN.raw r1 ?_ | refine RowN.raw r2 ?_ | refine RowN.raw r3 ?_ | refine vv3 ?_ | refine vv7 ?_ | refine vv20 ?_ | refine vv23 ?_)
          exact BackN.mk (p + 1, H3) ⟨hplt, by simp only; rw [hnx]; exact hB3, hb3⟩ (by simp only; omega) (QE)
        rw [if_neg ht0] at hnx; have hgl : ((⟨s, (allP C)[p], g⟩ : Sta).gaps : Int) ≤ C.gaps := by simp only [gN] at hglt; simp only; have := hC.g0; omega
        rw [earlyW_eq hgl (by omega) hC.ids, List.foldl_append] at hnx
        repeat' ((conv => whnf); first | refine IdxN.at0 g rfl hglt ?_ | refine IdxN.at0 s rfl hslt ?_ | refine IdxN.at0 p rfl hplt ?_ | rw [o1] | rw [o2] | rw [o3] | refine RowN.raw r1 ?_ | refine RowN.raw r2 ?_ | refine RowN.raw r3 ?_ | refine vv4 ?_ | refine vv7 ?_ | refine vv23 ?_)
        refine LoopN.of Qt (fun x : Nat × AH => [(0, .sm ob 1 0 (gN C)), (1, entries C.es), (2, ints (allP C)), (6, vi g), (7, vi s), (8, vi p), (9, vi t), (10, vi x.1)]) (fun x => x.2) (fun x => C.es.length - x.1) (fun x => x.1 ≤ C.es.length ∧ Brd C x.2 lo ob tb rw ((candsM ⟨s, (allP C)[p], g⟩ t 0 (C.es.take x.1)).foldl lowerB B3) ∧ Below lo H x.2) (0, H3) ⟨Nat.zero_le _, by simp only [List.take_zero, candsM, List.foldl_nil]; exact hB3, hb3⟩ (QE) ?_; clear hB3 hb3 o1 o2 o3 r1 r2 r3; rintro ⟨i, H4⟩ ⟨hi, hB4, hb4⟩; simp only at hi hB4 hb4 ⊢; by_cases hilt : i < C.es.length
        · have hem := List.getElem_mem hilt; have hk := hC.knd _ hem; have hto := hC.to _ hem
          have hsu : candsM ⟨s, (allP C)[p], g⟩ t 0 (C.es.take (i + 1)) = candsM ⟨s, (allP C)[p], g⟩ t 0 (C.es.take i) ++ candM ⟨s, (allP C)[p], g⟩ t i C.es[i] := by
            rw [take_snoc hilt, candsM_snoc]; congr 2
            rw [List.length_take]; omega
          generalize candsM ⟨s, (allP C)[p], g⟩ t 0 (C.es.take i) = cs at *; generalize hB4e : cs.foldl lowerB B3 = B4 at *; have g1 := goal_ok C.es[i]; have b1 := bit_ok s i (by omega) (by omega); obtain ⟨w1, w2⟩ := where_get hto; have w3 := where_ok (allP C) (goalF C.es[i]).2 (by have := hC.pn; simp only [pN] at this; omega); have ch := cand_hit (q := ⟨s, (allP C)[p], g⟩) (t := t) (i := i) (e := C.es[i]); have cm := cand_miss (q := ⟨s, (allP C)[p], g⟩) (t := t) (i := i) (e := C.es[i]); simp only at ch cm; generalize whereI (allP C) (goalF C.es[i]).2 = wi at *; generalize goalF C.es[i] = gl at *; obtain ⟨gf, gt⟩ := gl; simp only at *
          cases htb : s.testBit i with
          | true =>
            rw [htb] at b1; rw [cm (.inl htb), List.append_nil] at hsu
            repeat' ((conv => whnf); first | refine SlIdxN.map i rfl hilt ?_ | refine vv2 ?_ | refine vv7 ?_ | refine vv20 ?_ | refine vv23 ?_ | refine Qp g1 ?_ | refine Qp b1 ?_)
            exact BackN.mk (i + 1, H4) ⟨hilt, by simp only; rw [hsu, hB4e]; exact hB4, hb4⟩ (by simp only; omega) (QE)
          | false =>
            rw [htb] at b1; by_cases hf : gf = (allP C)[p]
            · by_cases hm : max t (C.es[i]).at_.lo ≤ (C.es[i]).at_.hi
              · rw [ch htb hf hm hk] at hsu
                have hq : s ||| 2 ^ i < sN C := or_lt hslt hilt
                have hq2 := or_add htb; have hp2 : 2 ^ i ≤ 128 := Nat.le_trans (Nat.pow_le_pow_right (n := 2) (by decide) (show i ≤ 7 by omega)) (by decide); have l1 := lower_ok hB4 hglt hq w1 (max t (C.es[i]).at_.lo); have l2 := lowH_brd hB4 hC.nd hglt hq w1 (max t (C.es[i]).at_.lo); have l3 := lowH_below hB4 (Nat.le_trans hb4.1 hb4.2.1) hglt hq (p := wi) (allP C)[wi] (max t (C.es[i]).at_.lo)
                have hw : IntKind.i64.wrap ((s : Int) + ((2 ^ i : Nat) : Int)) = ((s ||| 2 ^ i : Nat) : Int) := by
                  rw [hq2]; rw [wrapI ⟨by omega, by omega⟩]; omega
                rw [w2] at l1 l2 l3
                generalize s ||| 2 ^ i = sq at *
                repeat' ((conv => whnf); first | refine SlIdxN.map i rfl hilt ?_ | refine StepN.shl1 rfl rfl (by omega) ?_ | refine WrapN.mk _ hw ?_ | refine SlIdxN.map p rfl hplt ?_ | refine vv1 ?_ | refine vv3 ?_ | refine vv7 ?_ | refine vv20 ?_ | refine vv23 ?_ | refine vv25 ?_ | refine Qd ?_ | refine Qp g1 ?_ | refine Qp b1 ?_ | refine Qg w3 ?_ | refine GCallN.ef (l1) ?_)
                exact BackN.mk (i + 1, _) ⟨hilt, by simp only; rw [hsu, List.foldl_append, hB4e]; exact l2, hb4.trans l3⟩ (by simp only; omega) (QE)
              rw [cm (.inr (.inr hm)), List.append_nil] at hsu
              repeat' ((conv => whnf); first | refine SlIdxN.map i rfl hilt ?_ | refine SlIdxN.map p rfl hplt ?_ | refine vv1 ?_ | refine vv3 ?_ | refine vv4 ?_ | refine vv7 ?_ | refine vv20 ?_ | refine vv23 ?_ | refine Qp g1 ?_ | refine Qp b1 ?_)
              exact BackN.mk (i + 1, H4) ⟨hilt, by simp only; rw [hsu, hB4e]; exact hB4, hb4⟩ (by simp only; omega) (QE)
            rw [cm (.inr (.inl hf)), List.append_nil] at hsu
            repeat' ((conv => whnf); first | refine SlIdxN.map i rfl hilt ?_ | refine SlIdxN.map p rfl hplt ?_ | refine vv1 ?_ | refine vv2 ?_ | refine vv4 ?_ | refine vv7 ?_ | refine vv20 ?_ | refine vv23 ?_ | refine Qp g1 ?_ | refine Qp b1 ?_)
            exact BackN.mk (i + 1, H4) ⟨hilt, by simp only; rw [hsu, hB4e]; exact hB4, hb4⟩ (by simp only; omega) (QE)
        obtain rfl : i = C.es.length := by omega
        rw [List.take_length] at hB4; generalize (candsM ⟨s, (allP C)[p], g⟩ t 0 C.es).foldl lowerB B3 = B4 at *
        repeat' ((conv => whnf); first | refine vv8 ?_ | refine vv23 ?_)
        refine LoopN.of Qt (fun x : Nat × AH => [(0, .sm ob 1 0 (gN C)), (1, entries C.es), (2, ints (allP C)), (6, vi g), (7, vi s), (8, vi p), (9, vi t), (14, vi x.1)]) (fun x => x.2) (fun x => pN C - x.1) (fun x => x.1 ≤ pN C ∧ Brd C x.2 lo ob tb rw ((((allP C).take x.1).flatMap (candP C ⟨s, (allP C)[p], g⟩ t)).foldl lowerB B4) ∧ Below lo H x.2) (0, H4) ⟨Nat.zero_le _, hB4, hb4⟩ (QE) ?_; clear hB4 hb4; rintro ⟨j, H5⟩ ⟨hj, hB5, hb5⟩; simp only at hj hB5 hb5 ⊢; by_cases hjlt : j < pN C
        · by_cases hgg : g + 1 < gN C
          · have hsu : (((allP C).take (j + 1)).flatMap (candP C ⟨s, (allP C)[p], g⟩ t)) = ((allP C).take j).flatMap (candP C ⟨s, (allP C)[p], g⟩ t) ++ candP C ⟨s, (allP C)[p], g⟩ t (allP C)[j] := by
              rw [take_snoc hjlt, List.flatMap_append]; simp
            have hcd : candP C ⟨s, (allP C)[p], g⟩ t (allP C)[j] = if j ≠ p ∧ (allP C)[p] ≠ -1 ∧ (allP C)[j] ≠ -1 ∧ t ≤ 1073741823 then [(⟨s, (allP C)[j], g + 1⟩, t)] else [] := by
              unfold candP; have e1 : ((allP C)[j] ≠ (allP C)[p]) ↔ j ≠ p := not_congr ⟨nodup_get hC.nd hjlt hplt, fun h => by subst h; rfl⟩; have e2 : ((g : Int) < C.gaps) := by simp only [gN] at hgg; have := hC.g0; omega
              simp only [e1, e2, true_and, maxTime]
            generalize (((allP C).take j).flatMap (candP C ⟨s, (allP C)[p], g⟩ t)) = cs at *; generalize hB5e : cs.foldl lowerB B4 = B5 at *; rw [hcd] at hsu; clear hcd; by_cases k1 : j = p
            · rw [if_neg (fun h => h.1 k1), List.append_nil] at hsu
              repeat' ((conv => whnf); first | refine vv2 ?_ | refine vv7 ?_ | refine vv9 ?_ | refine vv20 ?_ | refine vv23 ?_)
              exact BackN.mk (j + 1, H5) ⟨hjlt, by simp only; rw [hsu, hB5e]; exact hB5, hb5⟩ (by simp only; omega) (QE)
            by_cases k2 : (allP C)[p] = -1
            · rw [if_neg (fun h => h.2.1 k2), List.append_nil] at hsu
              repeat' ((conv => whnf); first | refine SlIdxN.map p rfl hplt ?_ | refine vv2 ?_ | refine vv5 ?_ | refine vv7 ?_ | refine vv10 ?_ | refine vv20 ?_ | refine vv23 ?_)
              exact BackN.mk (j + 1, H5) ⟨hjlt, by simp only; rw [hsu, hB5e]; exact hB5, hb5⟩ (by simp only; omega) (QE)
            by_cases k3 : (allP C)[j] = -1
            · rw [if_neg (fun h => h.2.2.1 k3), List.append_nil] at hsu
              repeat' ((conv => whnf); first | refine SlIdxN.map p rfl hplt ?_ | refine SlIdxN.map j rfl hjlt ?_ | refine vv2 ?_ | refine vv5 ?_ | refine vv6 ?_ | refine vv7 ?_ | refine vv10 ?_ | refine vv20 ?_ | refine vv23 ?_)
              exact BackN.mk (j + 1, H5) ⟨hjlt, by simp only; rw [hsu, hB5e]; exact hB5, hb5⟩ (by simp only; omega) (QE)
            by_cases k4 : t ≤ 1073741823
            · rw [if_pos ⟨k1, k2, k3, k4⟩] at hsu; have l1 := lower_ok hB5 hgg hslt hjlt t; have l2 := lowH_brd hB5 hC.nd hgg hslt hjlt t; have l3 := lowH_below hB5 (Nat.le_trans hb5.1 hb5.2.1) hgg hslt (p := j) (allP C)[j] t
              repeat' ((conv => whnf); first | refine SlIdxN.map p rfl hplt ?_ | refine SlIdxN.map j rfl hjlt ?_ | refine CallN.efD l1 ?_ | refine vv3 ?_ | refine vv6 ?_ | refine vv7 ?_ | refine vv10 ?_ | refine vv20 ?_ | refine vv23 ?_)
              exact BackN.mk (j + 1, _) ⟨hjlt, by simp only; rw [hsu, List.foldl_append, hB5e]; exact l2, hb5.trans l3⟩ (by simp only; omega) (QE)
            rw [if_neg (fun h => k4 h.2.2.2), List.append_nil] at hsu
            repeat' ((conv => whnf); first | refine SlIdxN.map p rfl hplt ?_ | refine SlIdxN.map j rfl hjlt ?_ | refine vv4 ?_ | refine vv6 ?_ | refine vv7 ?_ | refine vv10 ?_ | refine vv20 ?_ | refine vv23 ?_)
            exact BackN.mk (j + 1, H5) ⟨hjlt, by simp only; rw [hsu, hB5e]; exact hB5, hb5⟩ (by simp only; omega) (QE)
          have hnil : ∀ l : List Int, l.flatMap (candP C ⟨s, (allP C)[p], g⟩ t) = [] := fun l => by
            refine List.flatMap_eq_nil_iff.2 fun n _ => ?_
            unfold candP; rw [if_neg]; intro h; have := h.2.2.2.1; simp only [gN] at hgg; simp only at this; omega
          rw [hnil] at hB5 hnx
          repeat' ((conv => whnf); first | refine vv7 ?_ | refine vv8 ?_ | refine vv20 ?_ | refine vv23 ?_)
          exact BackN.mk (p + 1, H5) ⟨hplt, by simp only; rw [hnx]; exact hB5, hb5⟩ (by simp only; omega) (QE)
        obtain rfl : j = pN C := by omega
        rw [List.take_length, ← hnx] at hB5
        repeat' ((conv => whnf); first | refine vv2 ?_ | refine vv8 ?_ | refine vv20 ?_ | refine vv23 ?_)
        exact BackN.mk (p + 1, H5) ⟨hplt, hB5, hb5⟩ (by simp only; omega) (QE)
      obtain rfl : p = pN C := by omega
      rw [← posP_d] at hB3
      repeat' ((conv => whnf); first | refine vv8 ?_ | refine vv20 ?_ | refine vv23 ?_)
      exact BackN.mk (s + 1, H3) ⟨hslt, hB3, hb3⟩ (by simp only; omega) (QE)
    obtain rfl : s = sN C := by omega
    rw [← posP_g] at hB2
    repeat' ((conv => whnf); first | refine IdxN.at0 g rfl hglt ?_ | rw [o1] | refine RowN.raw r1 ?_ | refine vv8 ?_ | refine vv20 ?_)
    exact BackN.mk (g + 1, H2) ⟨hglt, hB2, hb2⟩ (by simp only; omega) (QE)
  obtain rfl : g = gN C := by omega
  rw [posP_all] at hB1
  (conv => whnf); repeat' (first | refine vv8 ?_) <;> conv => whnf
  exact ⟨⟨rfl, hB1, hb1⟩⟩
end
section
abbrev plsL (c : Book) (k : Nat) : List Int := -1 :: 0 :: (c.people.take k).map (·.id)
theorem plsL_succ {c : Book} {k : Nat} (h : k < c.people.length) : plsL c (k + 1) = plsL c k ++ [c.people[k].id] := by
  simp only [plsL, take_snoc h, List.map_append]; rfl
theorem plsL_len {c : Book} {k : Nat} (h : k ≤ c.people.length) : (plsL c k).length = k + 2 := by simp [plsL]; omega
theorem places_ok2 {c : Book} (hc : BkS c) (key : Int) : Pu Tryz.prog G1 77 [bookV c] (ints (allP (chnOf c key))) := by
  have hpl := hc.pl; have hall : allP (chnOf c key) = plsL c c.people.length := by simp [plsL, allP, chnOf]
  rw [hall]; refine Qc 23 Tryz.func77 rfl rfl ?_; refine Qs ?_
  (conv => whnf)
  refine CodeN.re (Reabs.frz 0 [bookC c] 26 rfl (deepAll rfl)) ?_; refine Qe ?_
  (conv => whnf)
  refine LoopN.of Qt (fun k : Nat => [(1, .pi (bookC c)), (3, match k with | 0 => .sl 1 true [[vi (-1)], [vi 0]] | k + 1 => .sm 0 1 0 (k + 3)), (4, vi k)]) (fun k => match k with | 0 => [] | k + 1 => [.rows ((plsL c (k + 1)).map intR) 3]) (fun k => c.people.length - k) (fun k => k ≤ c.people.length) 0 (Nat.zero_le _) (QM []) ?_; intro k hk; by_cases hlt : k < c.people.length
  · have hsu := plsL_succ hlt
    match k with
    | 0 =>
      repeat' ((conv => whnf); first | refine SlIdxN.map 0 rfl hlt ?_ | refine Need.mk (.inr (by simp)) ?_ | refine AppN.len 3 rfl (by omega) (by omega) ?_ | refine vv7 ?_ | refine vv20 ?_ | refine vv23 ?_)
      exact Qb 1 (QM [0] (hb := Ql rfl (blkDeep (by rw [hsu]; rfl) (deepMap (fun _ => rfl))) bv0))
    | k + 1 =>
      have hln : ((plsL c (k + 1)).map intR).length = k + 3 := by rw [List.length_map, plsL_len (by omega)]
      have hl4 : ((plsL c (k + 1)).map intR).length + [[vi c.people[k + 1].id]].length = k + 4 := by rw [hln]; rfl
      repeat' ((conv => whnf); first | refine SlIdxN.map (k + 1) rfl hlt ?_ | refine SubN.all hln.symm ?_ | refine AppN.len (k + 4) hl4 (by omega) (by omega) ?_ | refine vv7 ?_ | refine vv20 ?_ | refine vv23 ?_)
      exact Qb (k + 2) (QM [1] (hb := Ql rfl (blkDeep (by rw [hsu, List.map_append]; rfl) (deepMap (fun _ => rfl))) bv0))
  obtain rfl : k = c.people.length := by omega
  generalize hn : c.people.length = n at *
  match n with
  | 0 =>
    (conv => whnf); repeat' (first | refine vv8 ?_ | refine vv23 ?_) <;> conv => whnf
    refine ⟨.loose _ _ ?_⟩; have : plsL c 0 = [-1, 0] := by simp [plsL]
    rw [this]; exact .val rfl
  | k + 1 =>
    have hln : ((plsL c (k + 1)).map intR).length = k + 3 := by rw [List.length_map, plsL_len (by omega)]
    have hz : AV.frz0 0 ((plsL c (k + 1)).map intR) (.sm 0 1 0 (k + 3)) = ints (plsL c (k + 1)) := frz_all hln.symm
    (conv => whnf); repeat' (first | refine vv8 ?_ | refine vv23 ?_) <;> conv => whnf
    refine ⟨.step 0 _ _ rfl (deepR (fun _ => rfl)) ?_⟩; show FinTo 0 _ (AV.frz0 0 ((plsL c (k + 1)).map intR) (.sm 0 1 0 (k + 3))) _ _; rw [hz]; exact .val rfl
theorem tb_ok {c : Book} (hok : c.ok) (key : Int) : TbOk (chnOf c key) := by
  obtain ⟨ok, hel⟩ := chn_ok hok key; have hk := chn_kinds hok key
  have hids : ∀ x ∈ (chnOf c key).people.map (·.id), 1 ≤ x := fun x hx => by
    obtain ⟨p, hp, rfl⟩ := List.mem_map.1 hx; exact ok.ids p hp
  have hall : ∀ n, hangsP (chnOf c key).people n = true → n ∈ allP (chnOf c key) := fun n hn => by
    rw [hangs_iff] at hn; unfold allP; simp only [List.mem_cons]; exact .inr (by simpa using hn)
  refine ⟨ok.gaps.1, ok.gaps.2, hel, ?_, ?_, fun e he => ok.kind e he, fun e he => ?_, fun p hp => by have := ok.ids p hp; omega, fun e he => (ok.span e he).2.2⟩
  · have : (chnOf c key).people.length ≤ 8 := hok.lens.1; simp only [pN, allP, List.length_cons, List.length_map]; omega
  · unfold allP; refine List.nodup_cons.2 ⟨fun h => ?_, List.nodup_cons.2 ⟨fun h => ?_, ok.ndp⟩⟩
    · rcases List.mem_cons.1 h with h | h
      cases h
      have := hids _ h; omega
    have := hids _ h; omega
  have hp := kind_place (hk e he); have h4 := ok.kind e he; unfold goalF; by_cases h2 : e.kind = 2
  · rw [if_pos h2]; exact hall _ (by unfold hangsP; rw [hp.2 h2, Bool.or_true])
  rw [if_neg h2]; by_cases h3 : e.kind = 3
  · rw [if_pos h3]; simp [allP]
  rw [if_neg h3]; have : e.kind = 1 ∨ e.kind = 4 := by omega
  split <;> exact hall _ (hp.1 this)
theorem lower_B00 : lowerB (fun _ => -1) (s00, 0) = B00 := by
  funext q; rw [lower_at]; unfold B00; by_cases e : q = s00
  rw [if_pos ⟨e, .inl (by decide)⟩, if_pos e]; rw [if_neg fun h => e h.1, if_neg e]
structure TSt where
  i : Nat
  H : AH
  ob : Nat
  lo : Nat
  tb : Nat → Nat
  rw : Nat → Nat → Nat
  B : Sta → Int
def finT (C : Chn) (B : Sta → Int) : Bool := (List.range (gN C)).any fun g => (allP C).any fun p => decide (0 ≤ B ⟨sN C - 1, p, g⟩)
theorem finT_eq (C : Chn) (sts : List Stg) : possibleB C sts = finT C (possB C (posL C) B00 sts) := rfl
theorem nextAt_hit {C : Chn} {st : Stg} {B N : Sta → Int} {s : Sta} (h1 : 0 ≤ B s) (h2 : max (B s) st.at_.lo ≤ st.at_.hi) (h3 : agreesS C st s = true) : nextAt C st B N s = lowerB N (s, max (B s) st.at_.lo + 1) := if_pos ⟨h1, h2, h3⟩
theorem nextAt_miss {C : Chn} {st : Stg} {B N : Sta → Int} {s : Sta} (h : ¬ 0 ≤ B s ∨ ¬ max (B s) st.at_.lo ≤ st.at_.hi ∨ agreesS C st s = false) : nextAt C st B N s = N := if_neg fun h' => h.elim (fun h => h h'.1) fun h => h.elim (fun h => h h'.2.1) fun h => by rw [h] at h'; cases h'.2.2
theorem possible_ok {c : Book} (hok : c.ok) (key : Int) (sts : List Stg) (hlen : sts.length ≤ 1000) (hst : ∀ st ∈ sts, st.at_.hi ≤ maxTime ∧ st.ws.length ≤ 1000000) : Pu Tryz.prog G1 78 [bookV c, vi key, stgs sts] (vb (possibleB (chnOf c key) sts)) := by
  have hS := BkS.of_ok hok; have o1 := of_ok hS key; have p1 := places_ok2 hS key; have hC := tb_ok hok key; have hCp : c.gaps = (chnOf c key).gaps := rfl; rw [finT_eq]; generalize hb0 : finT (chnOf c key) (possB (chnOf c key) (posL (chnOf c key)) B00 sts) = b0; refine Qc 165 Tryz.func78 rfl rfl ?_; refine Qs ?_
  (conv => whnf)
  refine CodeN.re ((Reabs.frz 0 [bookC c] 26 rfl (deepAll rfl)).trans (Reabs.frm0 rfl (r := [(1, vi key), (2, stgs sts), (3, .pi (bookC c))]) (by repeat (first | exact sv0 | refine sv1 ?_ | refine sv2 ?_ | refine sv3 ?_)))) ?_; refine Qe ?_; generalize chnOf c key = C at *; have hsn := hC.sn; have hpn := hC.pn; have hpl2 : (allP C).length = pN C := rfl; have hel := hC.es; have hgn : gN C ≤ 4 := by have := hC.g3; simp only [gN]; omega
  have h0m : (0 : Int) ∈ allP C := by simp [allP]
  obtain ⟨w1, w2⟩ := where_get h0m; have wo := where_ok (allP C) 0 (by omega)
  have bl : ∀ H, Ef Tryz.prog G1 127 [vi c.gaps, vi (sN C), vi (pN C)] H fun y H' => y = .sm (obI C H.length) 1 0 (gN C) ∧ H' = blankH C H := fun H => by rw [hCp]; exact blank_ok C hC.g0 hC.g3 hsn hpn H
  have hb1 := blank_brd C []; have bl0 := bl []; have hg0 : 0 < gN C := Nat.succ_pos _; have hs0 : 0 < sN C := Nat.two_pow_pos _; have lw := lower_ok hb1 hg0 hs0 w1 0; have lb := lowH_brd hb1 hC.nd hg0 hs0 w1 0; rw [w2] at lw lb; rw [show (⟨0, 0, 0⟩ : Sta) = s00 from rfl, lower_B00] at lb; generalize whereI (allP C) 0 = wi at *; generalize obI C ([] : AH).length = ob0 at *; generalize blankH C [] = H0 at *; generalize tbI (sN C) ([] : AH).length = tb0 at *; generalize rwI (sN C) ([] : AH).length = rw0 at *; generalize lowH C H0 rw0 (fun _ => -1) 0 0 wi 0 0 = H1 at *
  repeat' ((conv => whnf); first | refine StepN.shl1 rfl rfl (by omega) ?_ | refine CallN.efD lw ?_ | refine vv23 ?_ | refine vv25 ?_ | refine Qd ?_ | refine Qp o1 ?_ | refine Qp p1 ?_ | refine Qp wo ?_ | refine GCallN.ef (bl0) ?_)
  refine LoopN.of Qt (fun x : TSt => [(1, vi key), (2, stgs sts), (3, .pi (bookC c)), (7, entries C.es), (8, ints (allP C)), (9, .sm x.ob 1 0 (gN C)), (10, vi x.i)]) (fun x => x.H) (fun x => sts.length - x.i) (fun x => x.i ≤ sts.length ∧ Brd C x.H x.lo x.ob x.tb x.rw x.B ∧ x.lo ≤ x.H.length ∧ Low x.B ∧ b0 = finT C (possB C (posL C) x.B (sts.drop x.i))) ⟨0, H1, ob0, _, tb0, rw0, B00⟩ ⟨Nat.zero_le _, lb, Nat.zero_le _, low_B00, hb0.symm⟩ (QE) ?_; clear hb1 bl0 lw lb hb0; rintro ⟨i, H2, ob, lo, tb, rw, B⟩ ⟨hi, hB, hlo, hlow, hinv⟩; simp only at hi hB hlo hlow hinv ⊢; have sp := spread_ok hC hB hlo
  (conv => whnf); repeat' (first | refine CallN.ef sp ?_ | refine vv7 ?_ | refine vv23 ?_) <;> conv => whnf
  rintro _ H3 ⟨rfl, hB3, hb3⟩; have hlow3 := spread_low hC.hi (posL C) B hlow; by_cases hilt : i < sts.length
  · rw [List.drop_eq_getElem_cons hilt, possB, nextL_eq] at hinv; generalize spreadL (earlyW C) (posL C) B = B3 at *; have bl3 := bl H3; have hn := blank_brd C H3; have hbl := blank_below C H3; generalize obI C H3.length = ob' at *; generalize blankH C H3 = H4 at *; generalize tbI (sN C) H3.length = tb' at *; generalize rwI (sN C) H3.length = rw' at *; obtain ⟨hst1, hst2⟩ := hst _ (List.getElem_mem hilt); have hst3 : (sts[i]).at_.hi ≤ 1073741823 := hst1; clear hb3 sp hB
    repeat' ((conv => whnf); first | refine StepN.shl1 rfl rfl (by omega) ?_ | refine vv8 ?_ | refine vv23 ?_ | refine vv25 ?_ | refine Qd ?_ | refine GCallN.ef (bl3) ?_)
    refine LoopN.of Qt (fun x : Nat × AH => [(1, vi key), (2, stgs sts), (3, .pi (bookC c)), (7, entries C.es), (8, ints (allP C)), (9, .sm ob 1 0 (gN C)), (10, vi i), (11, .sm ob' 1 0 (gN C)), (12, vi x.1)]) (fun x => x.2) (fun x => gN C - x.1) (fun x => x.1 ≤ gN C ∧ Brd C x.2 H3.length ob' tb' rw' (nextL C (posP C x.1 0 0) sts[i] B3) ∧ Below H3.length H3 x.2) (0, H4) ⟨Nat.zero_le _, hn, hbl⟩ (QE) ?_; clear hn hbl bl3; rintro ⟨g, H5⟩ ⟨hg, hN5, hb5⟩; simp only at hg hN5 hb5 ⊢; by_cases hglt : g < gN C
    · repeat' ((conv => whnf); first | refine vv7 ?_)
      refine LoopN.of Qt (fun x : Nat × AH => [(1, vi key), (2, stgs sts), (3, .pi (bookC c)), (7, entries C.es), (8, ints (allP C)), (9, .sm ob 1 0 (gN C)), (10, vi i), (11, .sm ob' 1 0 (gN C)), (12, vi g), (13, vi x.1)]) (fun x => x.2) (fun x => sN C - x.1) (fun x => x.1 ≤ sN C ∧ Brd C x.2 H3.length ob' tb' rw' (nextL C (posP C g x.1 0) sts[i] B3) ∧ Below H3.length H3 x.2) (0, H5) ⟨Nat.zero_le _, hN5, hb5⟩ (QE) ?_; clear hN5 hb5; rintro ⟨s, H6⟩ ⟨hs, hN6, hb6⟩; simp only at hs hN6 hb6 ⊢; have r1 : ((List.range (gN C)).map fun g => [AV.sm (tb g) 1 0 (sN C)])[g]? = some [AV.sm (tb g) 1 0 (sN C)] := rangeRow hglt; have o1 := (hB3.keep hb6 (Nat.le_refl _)).out; by_cases hslt : s < sN C
      · repeat' ((conv => whnf); first | refine IdxN.at0 g rfl hglt ?_ | rw [o1] | refine RowN.raw r1 ?_ | refine vv7 ?_)
        refine LoopN.of Qt (fun x : Nat × AH => [(1, vi key), (2, stgs sts), (3, .pi (bookC c)), (7, entries C.es), (8, ints (allP C)), (9, .sm ob 1 0 (gN C)), (10, vi i), (11, .sm ob' 1 0 (gN C)), (12, vi g), (13, vi s), (14, vi x.1)]) (fun x => x.2) (fun x => pN C - x.1) (fun x => x.1 ≤ pN C ∧ Brd C x.2 H3.length ob' tb' rw' (nextL C (posP C g s x.1) sts[i] B3) ∧ Below H3.length H3 x.2) (0, H6) ⟨Nat.zero_le _, hN6, hb6⟩ (QE) ?_; clear hN6 hb6 o1; rintro ⟨p, H7⟩ ⟨hp, hN7, hb7⟩; simp only at hp hN7 hb7 ⊢; by_cases hplt : p < pN C
        · have hB7 := hB3.keep hb7 (Nat.le_refl _); have o1 := hB7.out; have o2 := hB7.tab g hglt; have o3 := hB7.row g s hglt hslt; have r2 : ((List.range (sN C)).map fun s => [AV.sm (rw g s) 1 0 (pN C)])[s]? = some [AV.sm (rw g s) 1 0 (pN C)] := rangeRow hslt; have r3 := rowB_get (B := B3) (g := g) (s := s) hplt; have hnx : nextL C (posP C g s (p + 1)) sts[i] B3 = nextAt C sts[i] B3 (nextL C (posP C g s p) sts[i] B3) ⟨s, (allP C)[p], g⟩ := by rw [posP_p hplt, nextL_snoc]
          have ag := agrees_ok C sts[i] ⟨s, (allP C)[p], g⟩ (by omega) (by simp only; omega) hst2; have hit := nextAt_hit (C := C) (st := sts[i]) (B := B3) (N := nextL C (posP C g s p) sts[i] B3) (s := ⟨s, (allP C)[p], g⟩); have miss := nextAt_miss (C := C) (st := sts[i]) (B := B3) (N := nextL C (posP C g s p) sts[i] B3) (s := ⟨s, (allP C)[p], g⟩); simp only at ag; generalize nextL C (posP C g s p) sts[i] B3 = N at *; obtain ⟨t, ht⟩ : ∃ t, t = B3 ⟨s, (allP C)[p], g⟩ := ⟨_, rfl⟩; rw [← ht] at r3 hit miss; obtain ⟨w, hw⟩ : ∃ w, w = max t (sts[i]).at_.lo := ⟨_, rfl⟩; rw [← hw] at hit miss; generalize hag : agreesS C sts[i] ⟨s, (allP C)[p], g⟩ = a at *; by_cases c1 : 0 ≤ t
          · by_cases c2 : w ≤ (sts[i]).at_.hi
            · cases a with
              | true =>
                rw [hit c1 c2 rfl] at hnx; have l1 := lower_ok hN7 hglt hslt hplt (w + 1); have l2 := lowH_brd hN7 hC.nd hglt hslt hplt (w + 1); have l3 := lowH_below hN7 hb7.2.1 hglt hslt (p := p) (allP C)[p] (w + 1)
                repeat' ((conv => whnf); first | refine IdxN.at0 g rfl hglt ?_ | refine IdxN.at0 s rfl hslt ?_ | refine IdxN.at0 p rfl hplt ?_ | rw [o1] | rw [o2] | rw [o3] | refine RowN.raw r1 ?_ | refine RowN.raw r2 ?_ | refine RowN.raw r3 ?_ | refine SlIdxN.map i rfl hilt ?_ | refine SlIdxN.map p rfl hplt ?_ | rw [← hw] | refine CallN.efD l1 ?_ | refine vv1 ?_ | refine vv3 ?_ | refine vv7 ?_ | refine vv20 ?_ | refine vv23 ?_ | refine vv25 ?_ | refine Qd ?_ | refine Qg ag ?_)
                exact BackN.mk (p + 1, _) ⟨hplt, by simp only; rw [hnx]; exact l2, hb7.trans l3⟩ (by simp only; omega) (QE)
              | false =>
                rw [miss (.inr (.inr rfl))] at hnx
                repeat' ((conv => whnf); first | refine IdxN.at0 g rfl hglt ?_ | refine IdxN.at0 s rfl hslt ?_ | refine IdxN.at0 p rfl hplt ?_ | rw [o1] | rw [o2] | rw [o3] | refine RowN.raw r1 ?_ | refine RowN.raw r2 ?_ | refine RowN.raw r3 ?_ | refine SlIdxN.map i rfl hilt ?_ | refine SlIdxN.map p rfl hplt ?_ | rw [← hw] | refine vv2 ?_ | refine vv3 ?_ | refine vv7 ?_ | refine vv20 ?_ | refine vv23 ?_ | refine vv25 ?_ | refine Qd ?_ | refine Qg ag ?_)
                exact BackN.mk (p + 1, H7) ⟨hplt, by simp only; rw [hnx]; exact hN7, hb7⟩ (by simp only; omega) (QE)
            rw [miss (.inr (.inl c2))] at hnx
            repeat' ((conv => whnf); first | refine IdxN.at0 g rfl hglt ?_ | refine IdxN.at0 s rfl hslt ?_ | refine IdxN.at0 p rfl hplt ?_ | rw [o1] | rw [o2] | rw [o3] | refine RowN.raw r1 ?_ | refine RowN.raw r2 ?_ | refine RowN.raw r3 ?_ | refine SlIdxN.map i rfl hilt ?_ | rw [← hw] | refine vv2 ?_ | refine vv3 ?_ | refine vv4 ?_ | refine vv7 ?_ | refine vv20 ?_ | refine vv23 ?_ | refine vv25 ?_ | refine Qd ?_)
            exact BackN.mk (p + 1, H7) ⟨hplt, by simp only; rw [hnx]; exact hN7, hb7⟩ (by simp only; omega) (QE)
          rw [miss (.inl c1)] at hnx
          repeat' ((conv => whnf); first | refine IdxN.at0 g rfl hglt ?_ | refine IdxN.at0 s rfl hslt ?_ | refine IdxN.at0 p rfl hplt ?_ | rw [o1] | rw [o2] | rw [o3] | refine RowN.raw r1 ?_ | refine RowN.raw r2 ?_ | refine RowN.raw r3 ?_ | refine SlIdxN.map i rfl hilt ?_ | rw [← hw] | refine vv2 ?_ | refine vv4 ?_ | refine vv7 ?_ | refine vv20 ?_ | refine vv23 ?_ | refine vv25 ?_ | refine Qd ?_)
          exact BackN.mk (p + 1, H7) ⟨hplt, by simp only; rw [hnx]; exact hN7, hb7⟩ (by simp only; omega) (QE)
        obtain rfl : p = pN C := by omega
        rw [← posP_d] at hN7
        repeat' ((conv => whnf); first | refine vv8 ?_ | refine vv20 ?_ | refine vv23 ?_)
        exact BackN.mk (s + 1, H7) ⟨hslt, hN7, hb7⟩ (by simp only; omega) (QE)
      obtain rfl : s = sN C := by omega
      rw [← posP_g] at hN6
      repeat' ((conv => whnf); first | refine IdxN.at0 g rfl hglt ?_ | rw [o1] | refine RowN.raw r1 ?_ | refine vv8 ?_ | refine vv20 ?_)
      exact BackN.mk (g + 1, H6) ⟨hglt, hN6, hb6⟩ (by simp only; omega) (QE)
    obtain rfl : g = gN C := by omega
    rw [posP_all] at hN5
    repeat' ((conv => whnf); first | refine vv8 ?_ | refine vv20 ?_)
    exact BackN.mk ⟨i + 1, H5, ob', H3.length, tb', rw', nextL C (posL C) sts[i] B3⟩ ⟨hilt, hN5, hb5.2.1, nextL_low hlow3 hst1 _, hinv⟩ (by simp only; omega) (QE)
  obtain rfl : i = sts.length := by omega
  rw [List.drop_length, possB] at hinv; generalize spreadL (earlyW C) (posL C) B = B3 at *
  (conv => whnf); repeat' (first | refine vv7 ?_ | refine vv23 ?_) <;> conv => whnf
  unfold finT at hinv; refine LoopN.of Qt (fun g : Nat => [(8, ints (allP C)), (9, .sm ob 1 0 (gN C)), (16, vi g)]) (fun _ => H3) (fun g => gN C - g) (fun g => g ≤ gN C ∧ b0 = ((List.range (gN C)).drop g).any fun g => (allP C).any fun p => decide (0 ≤ B3 ⟨sN C - 1, p, g⟩)) 0 ⟨Nat.zero_le _, hinv⟩ (QE) ?_; clear hinv; rintro g ⟨hg, hinv⟩; by_cases hglt : g < gN C
  · rw [List.drop_eq_getElem_cons (by simp; omega), List.any_cons, List.getElem_range] at hinv; generalize hrest : ((List.range (gN C)).drop (g + 1)).any _ = rest at hinv
    repeat' ((conv => whnf); first | refine vv7 ?_)
    refine LoopN.of Qt (fun p : Nat => [(8, ints (allP C)), (9, .sm ob 1 0 (gN C)), (16, vi g), (17, vi p)]) (fun _ => H3) (fun p => pN C - p) (fun p => p ≤ pN C ∧ b0 = (((allP C).drop p).any (fun p => decide (0 ≤ B3 ⟨sN C - 1, p, g⟩)) || rest)) 0 ⟨Nat.zero_le _, hinv⟩ (QE) ?_; clear hinv; rintro p ⟨hp, hinv⟩; by_cases hplt : p < pN C
    · rw [List.drop_eq_getElem_cons hplt, List.any_cons] at hinv; have hsl : sN C - 1 < sN C := by omega
      have o1 := hB3.out; have o2 := hB3.tab g hglt; have o3 := hB3.row g (sN C - 1) hglt hsl; have r1 : ((List.range (gN C)).map fun g => [AV.sm (tb g) 1 0 (sN C)])[g]? = some [AV.sm (tb g) 1 0 (sN C)] := rangeRow hglt; have r2 : ((List.range (sN C)).map fun s => [AV.sm (rw g s) 1 0 (pN C)])[sN C - 1]? = some [AV.sm (rw g (sN C - 1)) 1 0 (pN C)] := rangeRow hsl; have r3 := rowB_get (B := B3) (g := g) (s := sN C - 1) hplt; obtain ⟨t, ht⟩ : ∃ t, t = B3 ⟨sN C - 1, (allP C)[p], g⟩ := ⟨_, rfl⟩; rw [← ht] at r3 hinv; by_cases c1 : 0 ≤ t
      · rw [decide_eq_true c1, Bool.true_or, Bool.true_or] at hinv; subst hinv
        repeat' ((conv => whnf); first | refine IdxN.at0 g rfl hglt ?_ | refine IdxN.at0Pred hs0 hsl ?_ | refine IdxN.at0 p rfl hplt ?_ | rw [o1] | rw [o2] | rw [o3] | refine RowN.raw r1 ?_ | refine RowN.raw r2 ?_ | refine RowN.raw r3 ?_ | refine vv3 ?_ | refine vv7 ?_ | refine vv20 ?_ | refine vv23 ?_ | refine vv25 ?_ | refine Qd ?_)
        exact Qv
      rw [decide_eq_false c1, Bool.false_or] at hinv
      repeat' ((conv => whnf); first | refine IdxN.at0 g rfl hglt ?_ | refine IdxN.at0Pred hs0 hsl ?_ | refine IdxN.at0 p rfl hplt ?_ | rw [o1] | rw [o2] | rw [o3] | refine RowN.raw r1 ?_ | refine RowN.raw r2 ?_ | refine RowN.raw r3 ?_ | refine vv4 ?_ | refine vv7 ?_ | refine vv20 ?_ | refine vv23 ?_ | refine vv25 ?_ | refine Qd ?_)
      exact BackN.mk (p + 1) ⟨hplt, hinv⟩ (by omega) (QE)
    obtain rfl : p = pN C := by omega
    rw [List.drop_length, List.any_nil, Bool.false_or] at hinv
    repeat' ((conv => whnf); first | refine vv8 ?_ | refine vv20 ?_ | refine vv23 ?_)
    exact BackN.mk (g + 1) ⟨hglt, hinv.trans hrest.symm⟩ (by omega) (QE)
  obtain rfl : g = gN C := by omega
  rw [List.drop_eq_nil_of_le (by simp), List.any_nil] at hinv; subst hinv
  repeat' ((conv => whnf); first | refine vv8 ?_)
  exact Qv
end
section
theorem consistent_ok {c : Book} (hok : c.ok) (key : Int) : Pu Tryz.prog G1 32 [bookV c, vi key] (vb (consR c key)) := by
  have h1 : Pu Tryz.prog G1 78 [bookV c, vi key, nilA] (vb (possibleB (chnOf c key) [])) := (possible_ok hok key [] (by simp) fun st hst => by cases hst).wk ⟨WkC.refl _, WkC.refl _, WkC.nilSl _ _, trivial⟩; unfold consR; generalize possibleB (chnOf c key) [] = b at *; refine Qf 8 Tryz.func32 rfl rfl ?_
  repeat' ((conv => whnf); first | refine vv21 ?_ | refine Qp h1 ?_)
  exact Qv
end
end Go.Proofs.Ax
