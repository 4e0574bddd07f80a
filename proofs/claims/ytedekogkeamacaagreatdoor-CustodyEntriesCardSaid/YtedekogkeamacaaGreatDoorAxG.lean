/- Groups of a list, in the order of their first members; names of groups that differ. -/
import Derived.Test.YtedekogkeamacaaGreatDoorAxH
import Derived.Test.YtedekogkeamacaaGreatDoorAxD
/- Groups of a list, in the order of their first members; names of groups that differ. -/
namespace Go.Proofs.Ax
variable {κ α : Type} [DecidableEq κ]
def addG (k : κ) (x : α) : List (κ × List α) → List (κ × List α)
  | [] => [(k, [x])]
  | g :: gs => if g.1 = k then (g.1, g.2 ++ [x]) :: gs else g :: addG k x gs
def groupsOf (f : α → κ) (l : List α) : List (κ × List α) := l.foldl (fun gs x => addG (f x) x gs) []
def lookG (k : κ) : List (κ × List α) → List α
  | [] => []
  | g :: gs => if g.1 = k then g.2 else lookG k gs
def idxG (k : κ) : List (κ × List α) → Option Nat
  | [] => none
  | g :: gs => if g.1 = k then some 0 else (idxG k gs).map (· + 1)
theorem groupsOf_snoc (f : α → κ) (l : List α) (x : α) : groupsOf f (l ++ [x]) = addG (f x) x (groupsOf f l) := by simp [groupsOf]
theorem addG_none {k : κ} {x : α} : ∀ {gs : List (κ × List α)}, idxG k gs = none → addG k x gs = gs ++ [(k, [x])]
  | [], _ => rfl
  | g :: gs, h => by
    unfold idxG at h; split at h
    cases h
    rename_i hk
    have : idxG k gs = none := by cases hq : idxG k gs <;> rw [hq] at h <;> first | rfl | cases h
    rw [addG, if_neg hk, addG_none this]; rfl
theorem addG_some {k : κ} {x : α} : ∀ {gs : List (κ × List α)} {i : Nat}, idxG k gs = some i → ∃ g, gs[i]? = some g ∧ g.1 = k ∧ addG k x gs = gs.set i (k, g.2 ++ [x])
  | [], i, h => by cases h
  | g :: gs, i, h => by
    unfold idxG at h; split at h
    · rename_i hk
      cases h
      exact ⟨g, rfl, hk, by rw [addG, if_pos hk, hk]; rfl⟩
    rename_i hk
    cases hq : idxG k gs with
    | none => rw [hq] at h; cases h
    | some j =>
      rw [hq] at h
      cases h
      obtain ⟨g', h1, h2, h3⟩ := addG_some (x := x) hq; exact ⟨g', by simpa using h1, h2, by rw [addG, if_neg hk, h3]; rfl⟩
theorem idxG_none {k : κ} : ∀ {gs : List (κ × List α)}, idxG k gs = none ↔ ∀ g ∈ gs, g.1 ≠ k
  | [] => ⟨fun _ g h => (by cases h), fun _ => rfl⟩
  | g :: gs => by
    have ih := idxG_none (k := k) (gs := gs); by_cases hk : g.1 = k
    · rw [idxG, if_pos hk]; exact ⟨fun h => (by cases h), fun h => absurd hk (h g (List.mem_cons_self ..))⟩
    rw [idxG, if_neg hk]; constructor
    · intro h
      have hn : idxG k gs = none := by cases hq : idxG k gs <;> rw [hq] at h <;> first | rfl | cases h
      intro a ha
      rcases List.mem_cons.1 ha with rfl | ha
      exact hk; exact ih.1 hn a ha
    intro h; rw [ih.2 fun a ha => h a (List.mem_cons_of_mem _ ha)]; rfl
theorem lookG_none {k : κ} : ∀ {gs : List (κ × List α)}, idxG k gs = none → lookG k gs = []
  | [], _ => rfl
  | g :: gs, h => by
    unfold idxG at h; split at h
    cases h
    rename_i hk
    have : idxG k gs = none := by cases hq : idxG k gs <;> rw [hq] at h <;> first | rfl | cases h
    rw [lookG, if_neg hk, lookG_none this]
theorem lookG_some {k : κ} : ∀ {gs : List (κ × List α)} {i : Nat}, idxG k gs = some i → ∃ g, gs[i]? = some g ∧ g.1 = k ∧ lookG k gs = g.2
  | [], i, h => by cases h
  | g :: gs, i, h => by
    unfold idxG at h; split at h
    · rename_i hk
      cases h
      exact ⟨g, rfl, hk, by rw [lookG, if_pos hk]⟩
    rename_i hk
    cases hq : idxG k gs with
    | none => rw [hq] at h; cases h
    | some j =>
      rw [hq] at h
      cases h
      obtain ⟨g', h1, h2, h3⟩ := lookG_some hq; exact ⟨g', by simpa using h1, h2, by rw [lookG, if_neg hk, h3]⟩
theorem lookG_addG (k q : κ) (x : α) : ∀ (gs : List (κ × List α)), lookG q (addG k x gs) = lookG q gs ++ if k = q then [x] else []
  | [] => by by_cases h : k = q <;> simp [addG, lookG, h]
  | g :: gs => by
    by_cases h : g.1 = k
    · rw [addG, if_pos h]; by_cases hq : g.1 = q
      · have hkq : k = q := by rw [← h, hq]
        rw [lookG, if_pos hq, lookG, if_pos hq, if_pos hkq]
      have hkq : k ≠ q := by rw [← h]; exact hq
      rw [lookG, if_neg hq, lookG, if_neg hq, if_neg hkq, List.append_nil]
    rw [addG, if_neg h]; by_cases hq : g.1 = q
    · have hkq : k ≠ q := fun e => h (by rw [hq, e])
      rw [lookG, if_pos hq, lookG, if_pos hq, if_neg hkq, List.append_nil]
    rw [lookG, if_neg hq, lookG, if_neg hq, lookG_addG k q x gs]
theorem keys_addG (k : κ) (x : α) : ∀ (gs : List (κ × List α)), (addG k x gs).map (·.1) = gs.map (·.1) ++ if k ∈ gs.map (·.1) then [] else [k]
  | [] => by simp [addG]
  | g :: gs => by
    by_cases h : g.1 = k
    · rw [addG, if_pos h]; simp [h]
    have ih := keys_addG k x gs
    have hk : ¬ k = g.1 := fun e => h e.symm
    rw [addG, if_neg h, List.map_cons, ih]; by_cases hm : k ∈ gs.map (·.1)
    rw [if_pos hm, if_pos (by simp only [List.map_cons, List.mem_cons]; exact .inr hm)]; rfl; rw [if_neg hm, if_neg (by simp only [List.map_cons, List.mem_cons]; exact fun e => e.elim hk hm)]; rfl
structure GOk (f : α → κ) (l : List α) (gs : List (κ × List α)) : Prop where
  nodup : (gs.map (·.1)).Nodup
  look : ∀ q, lookG q gs = l.filter fun x => decide (f x = q)
  mem : ∀ q, q ∈ gs.map (·.1) ↔ ∃ x ∈ l, f x = q
theorem groupsOf_ok (f : α → κ) : ∀ (l : List α), GOk f l (groupsOf f l) := by
  intro l
  have key : ∀ n, ∀ l : List α, l.length = n → GOk f l (groupsOf f l) := by
    intro n
    induction n with
    | zero =>
      intro l hl; have : l = [] := List.eq_nil_of_length_eq_zero hl; subst this; exact ⟨List.nodup_nil, fun q => rfl, fun q => by simp [groupsOf]⟩
    | succ n ih =>
      intro l hl
      obtain ⟨m, x, rfl⟩ : ∃ m x, l = m ++ [x] := by
        have hne : l ≠ [] := fun e => by rw [e] at hl; cases hl
        exact ⟨l.dropLast, l.getLast hne, (List.dropLast_concat_getLast hne).symm⟩
      have h := ih m (by simpa using hl); rw [groupsOf_snoc]; refine ⟨?_, fun q => ?_, fun q => ?_⟩
      · rw [keys_addG]; split
        simpa using h.nodup; rename_i hm; rw [List.nodup_append]; exact ⟨h.nodup, by simp, fun a ha b hb => by simp at hb; subst hb; exact fun e => hm (e ▸ ha)⟩
      · rw [lookG_addG, h.look, List.filter_append]; congr 1
        by_cases hq : f x = q <;> simp [hq]
      rw [keys_addG]; have := h.mem q; by_cases hm : f x ∈ (groupsOf f m).map (·.1)
      · rw [if_pos hm, List.append_nil, this]; constructor
        rintro ⟨y, hy, e⟩; exact ⟨y, List.mem_append_left _ hy, e⟩; rintro ⟨y, hy, e⟩
        rcases List.mem_append.1 hy with hy | hy
        exact ⟨y, hy, e⟩; simp at hy; subst hy; subst e; exact (h.mem _).1 hm
      rw [if_neg hm, List.mem_append, this]; constructor
      · rintro (⟨y, hy, e⟩ | hq); exact ⟨y, List.mem_append_left _ hy, e⟩; simp at hq; exact ⟨x, by simp, hq.symm⟩
      rintro ⟨y, hy, e⟩
      rcases List.mem_append.1 hy with hy | hy
      exact .inl ⟨y, hy, e⟩; simp at hy; subst hy; right; simp [e]
  exact key l.length l rfl
end Go.Proofs.Ax
namespace Go.Proofs.Ax
open Go
set_option linter.unusedVariables false
section
theorem OpN.next {E : EC} {x : Operand} {str : Bool} {ty : TypeId} {l : Fr} {H : AH} {k : AV → AH → Prop} {outs : List (AV × AH)} (h : anext E.C.P H (evo E l x) str = some outs) (hk : ∀ y H', (y, H') ∈ outs → k y H') : OpN E (.next x str) ty l H k :=
  ⟨fun dst pos af g => by
    rw [evo_eq E l H] at h
    exact AOp_next rfl h fun y H' hm => ⟨y, H', rfl, hk y H' hm⟩⟩
theorem snocK_0 {H : AH} {N : Nat} (hN : H.length = N) {b : ABlk} {k : AH → Nat → Prop} (h : k (H ++ [b]) N) : snocK H b 0 k := by rw [snocK_eq, Nat.zero_add, hN]; exact h
theorem snocK_1 {H : AH} {N : Nat} (hN : H.length = N) {a b : ABlk} {k : AH → Nat → Prop} (h : k (H ++ [a, b]) (N + 1)) : snocK (H ++ [a]) b 0 k := by rw [snocK_eq, Nat.zero_add, List.append_assoc, List.length_append, hN]; exact h
theorem nthB_0 {H : AH} {N : Nat} (hN : H.length = N) {a : ABlk} {l : AH} : nthB (H ++ a :: l) N = some a := by rw [nthB_eq, List.getElem?_append_right (by omega), hN, Nat.sub_self]; rfl
theorem nthB_1 {H : AH} {N : Nat} (hN : H.length = N) {a b : ABlk} {l : AH} : nthB (H ++ a :: b :: l) (N + 1) = some b := by rw [nthB_eq, List.getElem?_append_right (by omega), hN, Nat.add_sub_cancel_left]; rfl
theorem setK_0 {H : AH} {N : Nat} (hN : H.length = N) {a x : ABlk} {l : AH} {k : AH → Prop} (h : k (H ++ x :: l)) : setK (H ++ a :: l) N x k := by rw [setK_eq, List.set_append_right _ _ (by omega), hN, Nat.sub_self]; exact h
theorem setK_1 {H : AH} {N : Nat} (hN : H.length = N) {a b x : ABlk} {l : AH} {k : AH → Prop} (h : k (H ++ a :: x :: l)) : setK (H ++ a :: b :: l) (N + 1) x k := by rw [setK_eq, List.set_append_right _ _ (by omega), hN, Nat.add_sub_cancel_left]; exact h
section
variable {κ α : Type} (ke : κ → AV) (ve : α → List AV) (k : Nat) (te : TypeId)
variable {ke}
theorem find_none [DecidableEq κ] {P : Program} {t : TypeId} (hk : ∀ a b, aeq P 12 t (ke a) (ke b) = some (decide (a = b))) {v : Nat → κ × List α → AV} {q : κ} : ∀ {gs : List (κ × List α)} {es : List (AV × AV × Nat)} {i n : Nat},
    (∀ j, es[j]? = (gs[j]?).map fun g => (ke g.1, v (i + j) g, i + j)) → idxG q gs = none → afind P t (ke q) es n = some none
  | [], es, i, n, he, _ => by
    cases es with
    | nil => rfl
    | cons e es => have := he 0; simp at this
  | g :: gs, es, i, n, he, h => by
    cases es with
    | nil => have := he 0; simp at this
    | cons e es =>
      have h0 := he 0; simp only [List.getElem?_cons_zero, Option.map_some, Option.some.injEq] at h0; subst h0; unfold idxG at h; split at h
      cases h
      rename_i hne
      have hn : idxG q gs = none := by cases hq : idxG q gs <;> rw [hq] at h <;> first | rfl | cases h
      rw [afind]; simp only [hk]; rw [decide_eq_false (fun e => hne e.symm)]; exact find_none hk (i := i + 1) (fun j => by have := he (j + 1); simpa [Nat.add_assoc, Nat.add_comm 1] using this) hn
theorem find_some [DecidableEq κ] {P : Program} {t : TypeId} (hk : ∀ a b, aeq P 12 t (ke a) (ke b) = some (decide (a = b))) {v : Nat → κ × List α → AV} {q : κ} : ∀ {gs : List (κ × List α)} {es : List (AV × AV × Nat)} {i n m : Nat} {g : κ × List α},
    (∀ j, es[j]? = (gs[j]?).map fun g => (ke g.1, v (i + j) g, i + j)) → idxG q gs = some m → gs[m]? = some g → afind P t (ke q) es n = some (some (n + m, (ke q, v (i + m) g, i + m)))
  | [], es, i, n, m, g, he, h, hg => by cases h
  | g0 :: gs, es, i, n, m, g, he, h, hg => by
    cases es with
    | nil => have := he 0; simp at this
    | cons e es =>
      have h0 := he 0; simp only [List.getElem?_cons_zero, Option.map_some, Option.some.injEq] at h0; subst h0; unfold idxG at h; rw [afind]; simp only [hk]; split at h
      · rename_i he'
        cases h
        simp at hg; subst hg; rw [decide_eq_true he'.symm, he']; rfl
      rename_i hne
      cases hq : idxG q gs with
      | none => rw [hq] at h; cases h
      | some j =>
        rw [hq] at h
        cases h
        rw [decide_eq_false (fun e => hne e.symm)]; have := find_some hk (v := v) (i := i + 1) (n := n + 1) (es := es) (fun j => by have := he (j + 1); simpa [Nat.add_assoc, Nat.add_comm 1] using this) hq (by simpa using hg); simp only [this]; simp only [Nat.add_assoc, Nat.add_comm 1]
end
theorem acands_mem {es : List (AV × AV × Nat)} {c : Nat} {seen : List Nat} (hes : ∀ j e, es[j]? = some e → e.2.2 = 0 + j) (hlen : es.length = c) {x : Option (AV × AV × Nat)} (hx : x ∈ acands es c seen) :
    (∃ i e, es[i]? = some e ∧ i ∉ seen ∧ x = some e) ∨ ((∀ i, i < c → i ∈ seen) ∧ x = none) := by
  have hb : ∀ e ∈ es, ∃ i, es[i]? = some e ∧ e.2.2 = i ∧ i < c := by
    intro e he; obtain ⟨i, hi⟩ := List.getElem?_of_mem he; have := hes i e hi; exact ⟨i, hi, by omega, by have := (List.getElem?_eq_some_iff.1 hi).1; omega⟩
  have hleft : ∀ e, e ∈ es.filter (fun e => !seen.contains e.2.2) → ∃ i, es[i]? = some e ∧ i ∉ seen ∧ e.2.2 = i ∧ i < c := by
    intro e he; obtain ⟨h1, h2⟩ := List.mem_filter.1 he; obtain ⟨i, g1, g2, g3⟩ := hb e h1; refine ⟨i, g1, ?_, g2, g3⟩; rw [g2] at h2; simpa using h2
  unfold acands at hx; simp only [List.mem_append, List.mem_map] at hx
  rcases hx with hx | ⟨e, hx, rfl⟩
  · right; split at hx
    case isFalse => cases hx
    rename_i hemp; refine ⟨fun i hi => ?_, List.mem_singleton.1 hx⟩; apply Classical.byContradiction; intro hns; have hi' : i < es.length := by omega
    have h1 : es[i] ∈ es.filter (fun e => !seen.contains e.2.2) := by
      refine List.mem_filter.2 ⟨List.getElem_mem hi', ?_⟩; have := hes i es[i] (List.getElem?_eq_getElem hi'); rw [this, Nat.zero_add]; simpa using hns
    have h2 : es[i] ∈ (es.filter (fun e => !seen.contains e.2.2)).filter (fun e => decide (e.2.2 < c)) := by
      refine List.mem_filter.2 ⟨h1, ?_⟩; have := hes i es[i] (List.getElem?_eq_getElem hi'); rw [this]; simpa using hi
    have h3 := List.isEmpty_iff.1 hemp; rw [h3] at h2
    cases h2
  left
  have : e ∈ es.filter (fun e => !seen.contains e.2.2) := by
    rcases hx with hx | hx
    exact (List.mem_filter.1 hx).1; exact (List.mem_filter.1 hx).1
  obtain ⟨i, g1, g2, -⟩ := hleft e this; exact ⟨i, e, g1, g2, rfl⟩
theorem next_map {P : Program} {H : AH} {it m c : Nat} {es : List (AV × AV × Nat)} {seen : List Nat} (hes : ∀ j e, es[j]? = some e → e.2.2 = 0 + j) (hlen : es.length = c) (hit : H[it]? = some (.miter (some m) c seen c)) (hm : H[m]? = some (.amap es c)) :
    ∃ outs, anext P H (.it it) false = some outs ∧ ∀ y H', (y, H') ∈ outs → (∃ i e, es[i]? = some e ∧ i ∉ seen ∧ y = .tuple [.sc (.bool true), e.1, e.2.1] ∧ H' = H.set it (.miter (some m) c (seen ++ [i]) c)) ∨ ((∀ i, i < c → i ∈ seen) ∧ y = .tuple [.sc (.bool false)] ∧ H' = H) := by
  have hc : (!seen.isEmpty && !es.isEmpty && es.all (fun e => decide (e.2.2 ≥ c))) = false := by
    cases es with
    | nil => simp
    | cons e es =>
      have h0 := hes 0 e rfl; have : decide (e.2.2 ≥ c) = false := by simp at hlen ⊢; omega
      simp [this]
  refine ⟨_, by simp only [anext, hit, hm]; rw [if_neg (by rw [hc]; simp)], fun y H' hy => ?_⟩; obtain ⟨x, hx, hxy⟩ := List.mem_map.1 hy
  rcases acands_mem hes hlen hx with ⟨i, e, h1, h2, rfl⟩ | ⟨h1, rfl⟩
  · left; simp only at hxy
    cases hxy
    have := hes i e h1; rw [Nat.zero_add] at this; exact ⟨i, e, h1, h2, rfl, by rw [this]⟩
  right
  cases hxy
  exact ⟨h1, rfl, rfl⟩
theorem entry_map {H : AH} {it m c i : Nat} {es : List (AV × AV × Nat)} {seen : List Nat} {e : AV × AV × Nat} (hes : ∀ j e, es[j]? = some e → e.2.2 = 0 + j) (he : es[i]? = some e) (hit : H[it]? = some (.miter (some m) c (seen ++ [i]) c)) (hm : H[m]? = some (.amap es c)) :
    aentry H (.it it) = some (.tuple [e.1, e.2.1]) := by
  have hf : ∀ (es : List (AV × AV × Nat)) (b i : Nat) (e : AV × AV × Nat), (∀ j e, es[j]? = some e → e.2.2 = b + j) → es[i]? = some e → es.find? (fun e => e.2.2 == b + i) = some e := by
    intro es
    induction es with
    | nil => intro b i e _ h; simp at h
    | cons a es ih =>
      intro b i e h he; have h0 := h 0 a rfl; rw [List.find?_cons, h0]
      cases i with
      | zero => simp at he; subst he; simp
      | succ i =>
        rw [show (b + 0 == b + (i + 1)) = false by simp]; simp only; have := ih (b + 1) i e (fun j e hj => by have := h (j + 1) e (by simpa using hj); omega) (by simpa using he); rw [show b + 1 + i = b + (i + 1) by omega] at this; exact this
  have := hf es 0 i e hes he; rw [Nat.zero_add] at this; simp only [aentry, hit, hm, List.getLast?_append, List.getLast?_singleton, Option.some_or, if_true, this, Option.map_some]
theorem perm_range {seen : List Nat} {c : Nat} (h1 : seen.Nodup) (h2 : ∀ i ∈ seen, i < c) (h3 : ∀ i, i < c → i ∈ seen) : seen.Perm (List.range c) :=
  (List.perm_ext_iff_of_nodup h1 List.nodup_range).2 fun i => ⟨fun h => List.mem_range.2 (h2 i h), fun h => h3 i (List.mem_range.1 h)⟩
theorem len_of_nodup : ∀ {c : Nat} {seen : List Nat}, seen.Nodup → (∀ i ∈ seen, i < c) → seen.length ≤ c
  | 0, seen, h1, h2 => by
    cases seen with
    | nil => simp
    | cons a l => have := h2 a (List.mem_cons_self ..); omega
  | c + 1, seen, h1, h2 => by
    by_cases hc : c ∈ seen
    · have h3 := len_of_nodup (c := c) (seen := seen.erase c) (h1.erase c) (fun i hi => by
        have := (List.Nodup.mem_erase_iff h1).1 hi; have := h2 i this.2
        omega)
      rw [List.length_erase_of_mem hc] at h3; omega
    have := len_of_nodup (c := c) h1 (fun i hi => by
      have h4 := h2 i hi
      have : i ≠ c := fun e => hc (e ▸ hi)
      omega)
    omega
section
variable {κ α : Type} {ke : κ → AV} {ve : α → List AV} {k : Nat} {te : TypeId}
end
end
section
theorem VRel.sl_nil {I : Nat → Prop} {w : World} {ρ : Places} {v : Value} {k : Nat} {t : Bool} (h : VRel I w ρ v (.sl k t [])) : VRel I w ρ v (.sc (.slice none 0 0)) ∨ VRel I w ρ v (.sz k) := by
  cases h with
  | sl f hl hcap ht hk hI hc h1 hv =>
    simp only [List.length_nil] at hl; subst hl; exact .inr .sz
  | slNil => exact .inl .sc
  | slMt ht => exact .inr .sz
theorem set_get {xs : List AV} {i j : Nat} {z x : AV} (h : (xs.set i z)[j]? = some x) : (i = j ∧ x = z) ∨ xs[j]? = some x := by
  rw [List.getElem?_set] at h; split at h
  · split at h
    cases h; exact .inl ⟨by assumption, rfl⟩
    cases h
  exact .inr h
theorem Ef.mt {P : Program} {G : Glob} {f : FuncId} {xs : List AV} {H : AH} {Q : AV → AH → Prop} (i k : Nat) (t : Bool) (hi : xs[i]? = some (.sl k t [])) (h1 : Ef P G f (xs.set i (.sc (.slice none 0 0))) H Q) (h2 : Ef P G f (xs.set i (.sz k)) H Q) : Ef P G f xs H Q := by
  refine ⟨h1.1, fun I w ρ vs hh hl hv => ?_⟩
  rcases (hv i _ hi).sl_nil with h | h
  · refine h1.2 I w ρ vs hh (by simpa using hl) fun j x hx => ?_
    rcases set_get hx with ⟨rfl, rfl⟩ | hx
    exact h; exact hv j x hx
  refine h2.2 I w ρ vs hh (by simpa using hl) fun j x hx => ?_
  rcases set_get hx with ⟨rfl, rfl⟩ | hx
  exact h; exact hv j x hx
theorem DrawN.re {E : EC} {id : Nat} {ops : List Oper} {l l' : Fr} {H H' : AH} {k : Fr → AH → Prop} (h : Reabs E.C ⟨frm 0 l E.n, H⟩ ⟨frm 0 l' E.n, H'⟩) (hc : DrawN E id ops l' H' k) : DrawN E id ops l H k := ⟨AWp_reabs h hc.1⟩
theorem LoopN.re {E : EC} {c : Code} {l l' : Fr} {H H' : AH} {k : XK} (h : Reabs E.C ⟨frm 0 l E.n, H⟩ ⟨frm 0 l' E.n, H'⟩) (hc : LoopN E c l' H' k) : LoopN E c l H k := ⟨AWp_reabs h hc.1⟩
theorem AppN.len {olds xs : List (List AV)} {b : Nat} {k : List (List AV) → Nat → Prop} (n : Nat) (hn : olds.length + xs.length = n) (h1 : n * b ≤ 140737488355328) (h2 : n ≤ 9223372036854775807) (hk : k (olds ++ xs) n) : AppN olds xs b k := ⟨_, n, rfl, by rw [List.length_append]; exact hn, h1, h2, hk⟩
end
section
section
variable {κ α : Type} (ke : κ → AV) (v : List α → AV)
def vEnt : Nat → List (κ × List α) → List (AV × AV × Nat)
  | _, [] => []
  | i, g :: gs => (ke g.1, v g.2, i) :: vEnt (i + 1) gs
theorem vEnt_length : ∀ (i : Nat) (gs : List (κ × List α)), (vEnt ke v i gs).length = gs.length
  | _, [] => rfl
  | i, g :: gs => by simp [vEnt, vEnt_length (i + 1) gs]
theorem vEnt_get : ∀ (i : Nat) (gs : List (κ × List α)) (j : Nat), (vEnt ke v i gs)[j]? = (gs[j]?).map fun g => (ke g.1, v g.2, i + j)
  | _, [], j => by simp [vEnt]
  | i, g :: gs, 0 => by simp [vEnt]
  | i, g :: gs, j + 1 => by rw [vEnt, List.getElem?_cons_succ, vEnt_get (i + 1) gs j, List.getElem?_cons_succ, show i + 1 + j = i + (j + 1) by omega]
theorem vEnt_append : ∀ (i : Nat) (gs hs : List (κ × List α)), vEnt ke v i (gs ++ hs) = vEnt ke v i gs ++ vEnt ke v (i + gs.length) hs
  | i, [], hs => rfl
  | i, g :: gs, hs => by
    rw [List.cons_append, vEnt, vEnt_append (i + 1) gs hs, vEnt]; simp [Nat.add_assoc, Nat.add_comm 1]
theorem vEnt_set (g : κ × List α) : ∀ (i : Nat) (gs : List (κ × List α)) (j : Nat), vEnt ke v i (gs.set j g) = (vEnt ke v i gs).set j (ke g.1, v g.2, i + j)
  | i, [], j => by simp [vEnt]
  | i, a :: gs, 0 => rfl
  | i, a :: gs, j + 1 => by rw [List.set_cons_succ, vEnt, vEnt_set g (i + 1) gs j, vEnt, List.set_cons_succ, show i + 1 + j = i + (j + 1) by omega]
abbrev vB (gs : List (κ × List α)) : ABlk := .amap (vEnt ke v 0 gs) gs.length
theorem vEnt_stamp (gs : List (κ × List α)) : ∀ m e, (vEnt ke v 0 gs)[m]? = some e → e.2.2 = 0 + m := by
  intro m e h; rw [vEnt_get] at h
  cases hg : gs[m]? with
  | none => rw [hg] at h; cases h
  | some g => rw [hg] at h; cases h; rfl
variable {ke v}
theorem vB_blk (hke : ∀ q (σ : Nat → Nat) n, (ke q).ren σ = ke q ∧ (ke q).ok n = true) (hv : ∀ l (σ : Nat → Nat) n, (v l).ren σ = v l ∧ (v l).ok n = true) (gs : List (κ × List α)) {σ : Nat → Nat} {n : Nat} : Blk σ n (vB ke v gs) (vB ke v gs) := by
  refine .inr (.inr ⟨fun e he => ?_, ?_⟩)
  · obtain ⟨j, hj⟩ := List.getElem?_of_mem he; rw [vEnt_get] at hj
    cases hg : gs[j]? with
    | none => rw [hg] at hj; cases hj
    | some g => rw [hg] at hj; cases hj; exact ⟨(hke _ σ n).2, (hv _ σ n).2⟩
  have : ∀ (i : Nat) (gs : List (κ × List α)), vEnt ke v i gs = (vEnt ke v i gs).map fun e => (e.1.ren σ, e.2.1.ren σ, e.2.2) := by
    intro i gs
    induction gs generalizing i with
    | nil => rfl
    | cons g gs ih => rw [vEnt, List.map_cons, ← ih, (hke g.1 σ n).1, (hv g.2 σ n).1]
  show ABlk.amap _ _ = ABlk.amap _ _; rw [← this]
theorem vB_ren (hke : ∀ q (σ : Nat → Nat) n, (ke q).ren σ = ke q ∧ (ke q).ok n = true) (hv : ∀ l (σ : Nat → Nat) n, (v l).ren σ = v l ∧ (v l).ok n = true) (gs : List (κ × List α)) (σ : Nat → Nat) : (vB ke v gs).ren σ = vB ke v gs := by
  have : ∀ (i : Nat) (gs : List (κ × List α)), (vEnt ke v i gs).map (fun e => (e.1.ren σ, e.2.1.ren σ, e.2.2)) = vEnt ke v i gs := by
    intro i gs
    induction gs generalizing i with
    | nil => rfl
    | cons g gs ih => rw [vEnt, List.map_cons, ih, (hke g.1 σ 0).1, (hv g.2 σ 0).1]
  show ABlk.amap _ _ = ABlk.amap _ _; rw [this]
theorem vB_ok (hke : ∀ q (σ : Nat → Nat) n, (ke q).ren σ = ke q ∧ (ke q).ok n = true) (hv : ∀ l (σ : Nat → Nat) n, (v l).ren σ = v l ∧ (v l).ok n = true) (gs : List (κ × List α)) (n : Nat) : (vB ke v gs).ok n := by
  intro e he; obtain ⟨j, hj⟩ := List.getElem?_of_mem he; rw [vEnt_get] at hj
  cases hg : gs[j]? with
  | none => rw [hg] at hj; cases hj
  | some g => rw [hg] at hj; cases hj; exact ⟨(hke _ id n).2, (hv _ id n).2⟩
variable [DecidableEq κ]
structure KeyOk (P : Program) (ke : κ → AV) (v : List α → AV) (t kt et : TypeId) : Prop where
  und : P.underlying t = some (.map kt et)
  key : ∀ q, akeyOk P 12 kt (ke q) = true
  eq : ∀ a b, aeq P 12 kt (ke a) (ke b) = some (decide (a = b))
  keep : ∀ q, akeep (ke q) (ke q) = true
  zero : azero P et = some (v [])
theorem KeyOk.find {P : Program} {t kt et : TypeId} (h : KeyOk P ke v t kt et) (gs : List (κ × List α)) (q : κ) : afind P kt (ke q) (vEnt ke v 0 gs) 0 = some ((idxG q gs).map fun i => (i, (ke q, v (lookG q gs), i))) := by
  cases hi : idxG q gs with
  | none => exact find_none (ke := ke) h.eq (v := fun j g => v g.2) (i := 0) (n := 0) (q := q) (gs := gs) (fun j => vEnt_get ke v 0 gs j) hi
  | some i =>
    obtain ⟨g, h1, h2, h3⟩ := lookG_some hi; have := find_some (ke := ke) h.eq (v := fun j g => v g.2) (i := 0) (n := 0) (q := q) (gs := gs) (fun j => vEnt_get ke v 0 gs j) hi h1; rw [this, h3, Nat.zero_add]; rfl
theorem KeyOk.look {P : Program} {t kt et : TypeId} (h : KeyOk P ke v t kt et) {H : AH} {m : Nat} (gs : List (κ × List α)) (q : κ) (hm : H[m]? = some (vB ke v gs)) : (alookup P H t (.mp m) (ke q) false).map (fun y => (y, H)) = some (v (lookG q gs), H) := by
  simp only [alookup, h.und, aentries, hm, h.key, if_true, h.find]
  cases hi : idxG q gs with
  | none => simp only [Option.map_none, h.zero, lookG_none hi]; rfl
  | some i => rfl
theorem KeyOk.look2 {P : Program} {t kt et : TypeId} (h : KeyOk P ke v t kt et) {H : AH} {m : Nat} (gs : List (κ × List α)) (q : κ) (hm : H[m]? = some (vB ke v gs)) : (alookup P H t (.mp m) (ke q) true).map (fun y => (y, H)) = some (.tuple [v (lookG q gs), .sc (.bool (idxG q gs).isSome)], H) := by
  simp only [alookup, h.und, aentries, hm, h.key, if_true, h.find]
  cases hi : idxG q gs with
  | none => simp only [Option.map_none, h.zero, lookG_none hi]; rfl
  | some i => rfl
theorem KeyOk.upd {P : Program} {t kt et : TypeId} (h : KeyOk P ke v t kt et) {H : AH} {m : Nat} (gs : List (κ × List α)) (q : κ) (x : α) (hm : H[m]? = some (vB ke v gs)) {y : AV} (hy : y = v (lookG q gs ++ [x])) :
    (amapUpdate P H t (.mp m) (ke q) y).map (AV.any, ·) = some (.any, H.set m (vB ke v (addG q x gs))) := by
  subst hy; simp only [amapUpdate, h.und, hm, h.key, if_true, h.find]
  cases hi : idxG q gs with
  | none =>
    simp only [Option.map_none, Option.map_some]; rw [addG_none hi, vB, vEnt_append, List.length_append, lookG_none hi, Nat.zero_add]; rfl
  | some i =>
    obtain ⟨g, h1, h2, h3⟩ := lookG_some hi; obtain ⟨g', k1, k2, k3⟩ := addG_some (x := x) hi; rw [h1] at k1
    cases k1
    simp only [Option.map_some, h.keep, if_true]; rw [k3, vB, vEnt_set, List.length_set, h3, Nat.zero_add]
end
end
section
theorem HRel.less {G : Glob} {I : Nat → Prop} {w : World} {ρ : Places} {H : AH} (h : HRel G I w ρ H) {id : Nat} {rs : List (List AV)} {te : TypeId} (hid : H[id]? = some (.rows rs te)) (m : Nat) :
    HRel G I w ρ (H.set id (.rows (rs.take m) te)) ∧ Went I w ρ H I w ρ (H.set id (.rows (rs.take m) te)) := by
  have hget : ∀ (i : Nat) (b : ABlk), (H.set id (.rows (rs.take m) te))[i]? = some b → (i = id ∧ b = .rows (rs.take m) te) ∨ H[i]? = some b := by
    intro i b hi; rw [List.getElem?_set] at hi; split at hi
    · rename_i e; split at hi
      cases hi; exact .inl ⟨e.symm, rfl⟩
      cases hi
    exact .inr hi
  have hlive : ∀ (i : Nat) (b : ABlk), (H.set id (.rows (rs.take m) te))[i]? = some b → b.live = true → ∃ b', H[i]? = some b' ∧ b'.live = true := by
    intro i b hi hb
    rcases hget i b hi with ⟨rfl, rfl⟩ | hi
    exact ⟨_, hid, rfl⟩; exact ⟨b, hi, hb⟩
  refine ⟨⟨fun i b l hi hl hp => ?_, fun i j b b' l l' hi hj hl hl' hp hp' he => ?_, fun i l hp => by simpa using h.dom i l hp, h.old, h.glob⟩,
    ⟨fun _ h => h, fun _ _ h => h, Nat.le_refl _, rfl, rfl, rfl, fun _ _ _ => rfl, fun b ho hb => ?_, fun _ h => .inl h⟩⟩
  · rcases hget i b hi with ⟨rfl, rfl⟩ | hi
    · obtain ⟨e1, e2, ⟨cells, g1, g2, g3⟩, g4, g5⟩ := h.blk _ _ l hid rfl hp; refine ⟨e1, e2, ⟨cells, g1, g2, fun i j row x hi hj => ?_⟩, ?_, fun r hr => g5 r (List.mem_of_mem_take hr)⟩
      · rw [List.getElem?_take] at hi; split at hi
        exact g3 i j row x hi hj
        cases hi
      refine Nat.le_trans (Nat.mul_le_mul_right _ ?_) g4; rw [List.length_take]; omega
    exact h.blk i b l hi hl hp
  · obtain ⟨c, h1, h2⟩ := hlive i b hi hl; obtain ⟨c', h3, h4⟩ := hlive j b' hj hl'; exact h.inj i j c c' l l' h1 h3 h2 h4 hp hp' he
  obtain ⟨i, b', l, h1, h2, h3, rfl⟩ := ho; obtain ⟨c, h4, h5⟩ := hlive i b' h1 h2; exact ⟨i, c, l, h4, h5, h3, rfl⟩
theorem clear_sound {P : Program} {G : Glob} {I : Nat → Prop} {w : World} {ρ : Places} {H : AH} (hh : HRel G I w ρ H) {v : Value} {id k off len : Nat} {rs : List (List AV)} {te t e : TypeId} {z : Value}
    (hv : VRel I w ρ v (.sm id k off len)) (hid : H[id]? = some (.rows rs te)) (hu : P.underlying t = some (.slice e)) (hz : ∀ w, (zeroValue e).run P w = .ok z w) (hzk : z.cells.size = k) (hz1 : ∀ u ∈ z.cells.toList, u.oneCell' = true) (hk : 0 < k) (ty : TypeId) :
    ∃ w', (Builtin.clear_ #[t] ty #[v]).run P w = .ok (.tuple #[]) w' ∧ HRel G I w' ρ (H.set id (.rows (rs.take off) te)) ∧ Went I w ρ H I w' ρ (H.set id (.rows (rs.take off) te)) := by
  cases hv with
  | smNil =>
    refine ⟨w, ?_, hh.less hid _⟩; rename_i a
    cases a <;> simp [Builtin.clear_, run_underlying hu, Result.andThen]
  | sm hp hcap hn =>
    rename_i b n cap
    cases len with
    | zero => exact ⟨w, by simp [Builtin.clear_, run_underlying hu, Result.andThen], hh.less hid _⟩
    | succ len =>
      have hl0 := hp; obtain ⟨hlt, hnI, hB⟩ := hh.blk id _ _ hid rfl hp; obtain ⟨⟨cells, hg, hgs, hcell⟩, hlen, hrow⟩ := hB; simp only at hlt hnI hg hgs hcell hlen hrow; have hzl : (Builtin.zeroCells z.cells (len + 1)).toList.length = (len + 1) * k := by simp [Builtin.zeroCells, hzk]
      have hb1 : (off + (len + 1)) * k ≤ (off + cap) * k := Nat.mul_le_mul_right _ (by omega); rw [Nat.add_mul] at hb1
      obtain ⟨w', hrun, hs, hsz, ho, ht, hou, cells', hg', hgs', hcc⟩ := put_heap (b := b) (Builtin.zeroCells z.cells (len + 1)).toList (off * k) w cells te hg (by
        intro u hu; obtain ⟨j, hj, rfl⟩ := List.getElem_of_mem hu; simp only [Builtin.zeroCells, Array.getElem_toList, Array.getElem_map, Array.getElem_range]; have hjm : j % z.cells.size < z.cells.size := Nat.mod_lt _ (by omega); rw [getElem!_pos z.cells _ hjm]
        exact hz1 _ (by simp)) (by rw [hzl, hgs]; omega)
      refine ⟨w', ?_, ?_⟩
      · have := hrun P 0 (off * k) (by omega); simp [Builtin.clear_, run_underlying hu, hz, this, Result.andThen]
      refine hh.write hid rfl hl0 (fun b' hb' => hs b' hb') hsz ho ht hou (fun hkp => ?_); refine ⟨⟨cells', hg', by simp only; omega, fun i j row x hi hj => ?_⟩, ?_, fun r hr => hrow r (List.mem_of_mem_take hr)⟩
      · rw [List.getElem?_take] at hi; split at hi
        · rename_i hio; have h0 := hcell i j row x hi hj
          have hjk : j < k := by
            have h1 := (List.getElem?_eq_some_iff.1 hj).1; have h2 := hrow row (List.mem_of_getElem? hi); omega
          have hlt' : i * k + j < off * k := by
            have : (i + 1) * k ≤ off * k := Nat.mul_le_mul_right _ hio; rw [Nat.add_mul] at this; omega
          simp only; rw [hcc, if_neg (by omega)]; exact ⟨h0.1, h0.2.mono hkp (fun _ _ h => h)⟩
        cases hi
      refine Nat.le_trans (Nat.mul_le_mul_right _ ?_) hlen; rw [List.length_take]; omega
inductive ClearN (E : EC) (t : TypeId) (x : Nat) (l : Fr) (H : AH) (k : AH → Prop) : Prop
  | mk (id kk off len : Nat) (rs : List (List AV)) (te e : TypeId) (z : Value) (hx : evo E l (.tmp x) = .sm id kk off len) (hid : nthB H id = some (.rows rs te)) (hu : E.C.P.underlying t = some (.slice e)) (hz : ∀ w, (zeroValue e).run E.C.P w = .ok z w)
    (hzk : z.cells.size = kk) (hz1 : ∀ u ∈ z.cells.toList, u.oneCell' = true) (hkk : 0 < kk) (hk : k (H.set id (.rows (rs.take off) te)))
theorem ClearN.aop {E : EC} {t : TypeId} {x : Nat} {l : Fr} {H : AH} {k : Fr → AH → Prop} {dst : Option Tmp} {ty : TypeId} {pos : String} {af : Array Edge} {g : Option (Nat × Bool)} (h : ClearN E t x l H fun H' => k (putF l dst (.tuple [])) H') :
    AOp E.C ⟨dst, .call ⟨.builtin .clear, #[.tmp x], #[t]⟩, ty, pos, af, g⟩ (fun st => ∃ l' H', st = ⟨frm 0 l' E.n, H'⟩ ∧ k l' H') ⟨frm 0 l E.n, H⟩ := fun B I w ρ a rr hr hs next Q hn => by
  obtain ⟨id, kk, off, len, rs, te, e, z, hx, hid, hu, hz, hzk, hz1, hkk, hk⟩ := h; refine ⟨fun _ _ => trivial, ?_⟩; rw [Oper.semAt_eq _ _ _ (by simp)]; have hvx := hs.ev (.tmp x); rw [← evo_eq E l H, hx] at hvx; rw [nthB_eq] at hid; obtain ⟨w', hrun, hh, hw⟩ := clear_sound (P := E.C.P) hs.heap hvx hid hu hz hzk hz1 hkk ty
  have hnx := hn I ρ _ (a.put dst (.tuple #[])) w' ⟨_, _, putF_eq l E.n H (H.set id (.rows (rs.take off) te)) dst (.tuple []), hk⟩ (hs.put hw hh (.tuple rfl (fun i x hx => by simp at hx)) dst) (by
    have : ((⟨frm 0 l E.n, H⟩ : ASt).put dst (.tuple []) (H.set id (.rows (rs.take off) te))).H = H.set id (.rows (rs.take off) te) := by unfold ASt.put; split <;> rfl
    rw [this]; exact hw.gone)
  have : (execOp a.eval ⟨dst, .call ⟨.builtin .clear, #[.tmp x], #[t]⟩, ty, pos, af, g⟩).run E.C.P w = .ok (.value (.tuple #[])) w' := by
    have hb : ∀ cs, (Go.builtin .clear #[t] ty cs (#[Operand.tmp x].map a.eval)).run E.C.P w = .ok (.value (.tuple #[])) w' := fun cs => by simp [Go.builtin, hrun]
    exact hb #[]
  rw [this]; exact hnx
section
variable {E : EC} (ok : E.Ok)
include ok
theorem evops2_ok {ops : Array Oper} {k : Fr → AH → Prop} {tail : List Oper} {K : Exit → ASt → Prop} (ht : ∀ l' H', k l' H' → AOps E.C ops tail K ⟨frm 0 l' E.n, H'⟩) : ∀ (os : List Oper) (l : Fr) (H : AH), evops E ops.toList os l H k → AOps E.C ops (os ++ tail) K ⟨frm 0 l E.n, H⟩
  | [], l, H, h => ht l H h
  | ⟨dst, op, ty, pos, af, none⟩ :: os, l, H, h => by
    rw [evops_cons] at h; simp only [evopF] at h; refine AOps_cons rfl ((evo1_ok ok h).mono ?_); rintro st ⟨y, H', rfl, hk⟩; rw [putFK_eq] at hk; exact evops2_ok ht os _ _ hk
  | ⟨dst, op, ty, pos, af, some (j, b)⟩ :: os, l, H, h => by
    rw [evops_cons] at h; simp only [evopF] at h; split at h
    case h_2 => exact h.elim
    rename_i d hd; split at h
    case h_2 => exact h.elim
    rename_i hlt; rw [dstAt_eq, Array.getElem?_toList] at hd; obtain ⟨t, h1, h2, h3⟩ := guardN_ok h; refine AOps_guard rfl hd (x := alk d l) (t := t) ?_ h1 (fun ht => ?_) (fun ht => ?_)
    · have hlt' : d < E.n := by simpa [Nat.blt_eq] using hlt
      simp only [frm_get, if_pos hlt', Nat.zero_add]
    · refine (evo1_ok ok (h2 ht)).mono ?_; rintro st ⟨y, H', rfl, hk⟩; rw [putFK_eq] at hk; exact evops2_ok ‹_› os _ _ hk
    rw [putF_eq]; have h3' := h3 ht; rw [putFK_eq] at h3'; exact evops2_ok ‹_› os _ _ h3'
theorem CodeN.clear {id : Nat} {dst : Option Tmp} {t ty : TypeId} {x : Nat} {pos : String} {af : Array Edge} {ops : Array Oper} {b : Code} {l : Fr} {H : AH} {k : XK} (hops : ops.toList = ops.toList.dropLast ++ [⟨dst, .call ⟨.builtin .clear, #[.tmp x], #[t]⟩, ty, pos, af, none⟩])
    (h : evops E ops.toList ops.toList.dropLast l H fun l1 H1 => ClearN E t x l1 H1 fun H2 => CodeN E b (putF l1 dst (.tuple [])) H2 k) : CodeN E (.seq (.region id ops false) b) l H k := by
  refine ⟨AWp_seq ((AWp_region (K := fun e st => e = .normal ∧ ∃ l' H', st = ⟨frm 0 l' E.n, H'⟩ ∧ CodeN E b l' H' k) ?_).mono ?_)⟩
  · have := evops2_ok ok (ops := ops) (K := fun e st => e = .normal ∧ ∃ l' H', st = ⟨frm 0 l' E.n, H'⟩ ∧ CodeN E b l' H' k) (tail := [⟨dst, .call ⟨.builtin .clear, #[.tmp x], #[t]⟩, ty, pos, af, none⟩]) (fun l' H' hc => AOps_cons rfl ((ClearN.aop (k := fun l'' H'' => CodeN E b l'' H'' k) hc).mono fun st ⟨l'', H'', e, hk⟩ => AOps_nil ⟨rfl, l'', H'', e, hk⟩)) ops.toList.dropLast l H h; rw [← hops] at this; exact this
  rintro e st ⟨rfl, l', H', rfl, hk⟩; exact hk.1
end
end
end Go.Proofs.Ax
