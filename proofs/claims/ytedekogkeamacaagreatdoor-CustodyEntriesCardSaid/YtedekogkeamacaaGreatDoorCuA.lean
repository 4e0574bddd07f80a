import Derived.Test.YtedekogkeamacaaGreatDoorAxG
namespace Go.Proofs.Cu
open Go.Proofs.Ax
set_option linter.unusedVariables false
section
section maps
variable {κ α : Type} [DecidableEq κ]
def getG (k : κ) (gs : List (κ × List α)) : Option α := (lookG k gs).getLast?
theorem getG_add (k q : κ) (x : α) (gs : List (κ × List α)) : getG q (addG k x gs) = if k = q then some x else getG q gs := by
  unfold getG; rw [lookG_addG]; by_cases h : k = q
  rw [if_pos h, if_pos h]; simp; rw [if_neg h, if_neg h]; simp
def Full (gs : List (κ × List α)) : Prop := ∀ g ∈ gs, g.2 ≠ []
theorem Full.idx {gs : List (κ × List α)} (h : Full gs) (k : κ) : (idxG k gs).isSome = (getG k gs).isSome := by
  cases hi : idxG k gs with
  | none => simp [getG, lookG_none hi]
  | some i =>
    obtain ⟨g, h1, h2, h3⟩ := lookG_some hi; have hg := h g (List.mem_of_getElem? h1); simp [getG, h3, hg]
theorem Full.add {gs : List (κ × List α)} (h : Full gs) (k : κ) (x : α) : Full (addG k x gs) := by
  intro g hg
  cases hi : idxG k gs with
  | none =>
    rw [addG_none hi] at hg
    rcases List.mem_append.1 hg with hg | hg
    exact h g hg; rw [List.mem_singleton.1 hg]; simp
  | some i =>
    obtain ⟨g', h1, h2, h3⟩ := addG_some (x := x) hi; rw [h3] at hg
    rcases List.mem_or_eq_of_mem_set hg with hg | rfl
    exact h g hg; simp
theorem keys_add_none {gs : List (κ × List α)} {k : κ} {x : α} (h : idxG k gs = none) : (addG k x gs).map (·.1) = gs.map (·.1) ++ [k] := by rw [addG_none h]; simp
theorem keys_add_some {gs : List (κ × List α)} {k : κ} {x : α} {i : Nat} (h : idxG k gs = some i) : (addG k x gs).map (·.1) = gs.map (·.1) := by
  obtain ⟨g', h1, h2, h3⟩ := addG_some (x := x) h; rw [h3, List.map_set]; apply List.ext_getElem?; intro j; rw [List.getElem?_set]; split
  · rename_i hj; subst hj; rw [List.getElem?_map, h1]; have := (List.getElem?_eq_some_iff.1 h1).1; simp [this, h2]
  rfl
theorem mem_keys {gs : List (κ × List α)} {k : κ} : k ∈ gs.map (·.1) ↔ idxG k gs ≠ none := by
  rw [ne_eq, idxG_none, List.mem_map]; constructor
  · rintro ⟨g, hg, rfl⟩ h; exact h g hg rfl
  intro h; apply Classical.byContradiction; intro hn
  exact h fun g hg e => hn ⟨g, hg, e⟩
theorem nodup_add {gs : List (κ × List α)} {k : κ} {x : α} (h : (gs.map (·.1)).Nodup) : ((addG k x gs).map (·.1)).Nodup := by
  cases hi : idxG k gs with
  | none =>
    rw [keys_add_none hi]; refine List.nodup_append.2 ⟨h, by simp, fun a ha b hb e => ?_⟩; rw [List.mem_singleton.1 hb] at e; subst e; exact mem_keys.1 ha hi
  | some i => rw [keys_add_some hi]; exact h
end maps
theorem len_two (N : Nat) : ∀ (l : List Nat), l.length ≤ (l.filter (· ≠ N)).length + (l.filter (· = N)).length
  | [] => Nat.le_refl _
  | x :: l => by
    have := len_two N l; by_cases h : x = N
    simp [h] at this ⊢; omega; simp [h] at this ⊢; omega
theorem nodup_lt : ∀ (N : Nat) (l : List Nat), l.Nodup → (∀ x ∈ l, x < N) → l.length ≤ N
  | 0, l, _, h => by
    cases l with
    | nil => exact Nat.le_refl _
    | cons x r => exact absurd (h x List.mem_cons_self) (Nat.not_lt_zero _)
  | N + 1, l, hn, h => by
    have h1 := nodup_lt N (l.filter (· ≠ N)) (hn.filter _) fun x hx => by
      obtain ⟨a, b⟩ := List.mem_filter.1 hx; have := h x a; have b : x ≠ N := by simpa using b
      omega
    have h2 := len_two N l
    have h3 : (l.filter (· = N)).length ≤ 1 := by
      have : (l.filter (· = N)).length = l.count N := by
        rw [List.count_eq_countP, List.countP_eq_length_filter]; congr 1
      rw [this]; exact List.nodup_iff_count.1 hn N
    omega
theorem nodup_code {α : Type} (code : α → Nat) (N : Nat) (l : List α) (hn : l.Nodup) (hi : ∀ x ∈ l, ∀ y ∈ l, code x = code y → x = y) (h : ∀ x ∈ l, code x < N) : l.length ≤ N := by
  rw [← List.length_map (f := code)]
  refine nodup_lt N _ ?_ fun x hx => ?_
  · clear h
    induction l with
    | nil => exact List.nodup_nil
    | cons a r ih =>
      obtain ⟨h1, h2⟩ := List.nodup_cons.1 hn; rw [List.map_cons]; refine List.nodup_cons.2 ⟨fun hm => ?_, ih h2 fun x hx y hy => hi x (List.mem_cons_of_mem _ hx) y (List.mem_cons_of_mem _ hy)⟩; obtain ⟨b, hb, e⟩ := List.mem_map.1 hm; exact h1 (hi b (List.mem_cons_of_mem _ hb) a List.mem_cons_self e ▸ hb)
  obtain ⟨a, ha, rfl⟩ := List.mem_map.1 hx; exact h a ha
section bfs
variable {Q T : Type} [DecidableEq Q]
abbrev Fnd (Q T : Type) := List (Q × List T)
variable (time : T → Int) (ways : Q → Int → List (Q × T))
def timeOf (gs : Fnd Q T) (q : Q) : Int := match getG q gs with
  | some t => time t
  | none => 0
def relax (st : Fnd Q T × List Q) (w : Q × T) : Fnd Q T × List Q := match getG w.1 st.1 with
  | none => (addG w.1 w.2 st.1, st.2 ++ [w.1])
  | some t => if time w.2 < time t then (addG w.1 w.2 st.1, st.2) else st
def expand (st : Fnd Q T × List Q) (q : Q) : Fnd Q T × List Q := (ways q (timeOf time st.1 q)).foldl (relax time) st
def layerL (goal : Q → Bool) : List Q → Fnd Q T × List Q → Option (Q × Fnd Q T) × (Fnd Q T × List Q)
  | [], st => (none, st)
  | q :: r, st => if goal q then (some (q, st.1), st) else layerL goal r (expand time ways st q)
def searchL (goal : Q → Bool) : Nat → Fnd Q T → List Q → Option (Q × Fnd Q T) × Fnd Q T
  | 0, gs, _ => (none, gs)
  | f + 1, gs, layer => if layer = [] then (none, gs) else match layerL time ways goal layer (gs, []) with
    | (some r, st) => (some r, st.1)
    | (none, st) => searchL goal f st.1 st.2
inductive Get (q0 : Q) : Q → Int → Prop
  | root : Get q0 q0 0
  | step {q : Q} {τ : Int} {w : Q × T} (h : Get q0 q τ) (hw : w ∈ ways q τ) : Get q0 w.1 (time w.2)
inductive Trk (q0 : Q) : Q → Int → List T → Prop
  | root : Trk q0 q0 0 []
  | step {q : Q} {τ : Int} {ts : List T} {w : Q × T} (h : Trk q0 q τ ts) (hw : w ∈ ways q τ) : Trk q0 w.1 (time w.2) (ts ++ [w.2])
variable {time ways}
omit [DecidableEq Q] in
theorem Trk.get {q0 q : Q} {τ : Int} {ts : List T} (h : Trk time ways q0 q τ ts) : Get time ways q0 q τ := by
  induction h with
  | root => exact .root
  | step h hw ih => exact .step ih hw
omit [DecidableEq Q] in
theorem Get.trk {q0 q : Q} {τ : Int} (h : Get time ways q0 q τ) : ∃ ts, Trk time ways q0 q τ ts := by
  induction h with
  | root => exact ⟨[], .root⟩
  | step h hw ih => obtain ⟨ts, ih⟩ := ih; exact ⟨_, .step ih hw⟩
structure WaysOk (time : T → Int) (ways : Q → Int → List (Q × T)) (lvl : Q → Nat) : Prop where
  lvl : ∀ q τ w, w ∈ ways q τ → lvl w.1 = lvl q + 1
  mono : ∀ q τ τ' w, τ' ≤ τ → w ∈ ways q τ → ∃ w', w' ∈ ways q τ' ∧ w'.1 = w.1 ∧ time w'.2 ≤ time w.2
variable {lvl : Q → Nat} {q0 : Q}
structure Lay (time : T → Int) (ways : Q → Int → List (Q × T)) (lvl : Q → Nat) (q0 : Q) (k : Nat) (gs : Fnd Q T) (L : List Q) : Prop where
  full : Full gs
  nd : (gs.map (·.1)).Nodup
  low : ∀ q t, getG q gs = some t → lvl q ≤ k
  min : ∀ q τ, Get time ways q0 q τ → lvl q ≤ k → ∃ t, getG q gs = some t ∧ time t ≤ τ
  mem : ∀ q, q ∈ L ↔ (∃ t, getG q gs = some t) ∧ lvl q = k
  root : ∃ t, getG q0 gs = some t ∧ time t = 0
  ptr : ∀ q t, getG q gs = some t → q ≠ q0 → ∃ p tp, getG p gs = some tp ∧ (q, t) ∈ ways p (time tp)
structure Mid (time : T → Int) (ways : Q → Int → List (Q × T)) (lvl : Q → Nat) (q0 : Q) (k : Nat) (gs0 : Fnd Q T) (P : List Q) (gs : Fnd Q T) (N : List Q) : Prop where
  full : Full gs
  nd : (gs.map (·.1)).Nodup
  ndN : N.Nodup
  low : ∀ q t, getG q gs = some t → lvl q ≤ k + 1
  old : ∀ q, lvl q ≤ k → getG q gs = getG q gs0
  mem : ∀ q, q ∈ N ↔ (∃ t, getG q gs = some t) ∧ lvl q = k + 1
  done : ∀ p ∈ P, ∀ w ∈ ways p (timeOf time gs0 p), ∃ t, getG w.1 gs = some t ∧ time t ≤ time w.2
  ptr : ∀ q t, getG q gs = some t → q ≠ q0 → ∃ p tp, getG p gs = some tp ∧ (q, t) ∈ ways p (time tp)
theorem timeOf_some {gs : Fnd Q T} {q : Q} {t : T} (h : getG q gs = some t) : timeOf time gs q = time t := by unfold timeOf; rw [h]
theorem Mid.relax (ok : WaysOk time ways lvl) {k : Nat} {gs0 gs : Fnd Q T} {P N : List Q} (h : Mid time ways lvl q0 k gs0 P gs N) (h0 : lvl q0 = 0) {p : Q} {tp : T} (hp : lvl p = k) (hg : getG p gs0 = some tp) {w : Q × T} (hw : w ∈ ways p (time tp)) :
    Mid time ways lvl q0 k gs0 P (Cu.relax time (gs, N) w).1 (Cu.relax time (gs, N) w).2 ∧ (∃ t, getG w.1 (Cu.relax time (gs, N) w).1 = some t ∧ time t ≤ time w.2) ∧
      (∀ q t, getG q gs = some t → ∃ t', getG q (Cu.relax time (gs, N) w).1 = some t' ∧ time t' ≤ time t) := by
  have hl := ok.lvl _ _ _ hw; have hpg : getG p gs = some tp := by rw [h.old p (by omega), hg]
  have put : (∀ t, getG w.1 gs = some t → time w.2 < time t) → (∀ N', (∀ q, q ∈ N' ↔ (∃ t, getG q (addG w.1 w.2 gs) = some t) ∧ lvl q = k + 1) → N'.Nodup → Mid time ways lvl q0 k gs0 P (addG w.1 w.2 gs) N') ∧ (∃ t, getG w.1 (addG w.1 w.2 gs) = some t ∧ time t ≤ time w.2) ∧ (∀ q t, getG q gs = some t → ∃ t', getG q (addG w.1 w.2 gs) = some t' ∧ time t' ≤ time t) := by
    intro hlt
    have keep : ∀ q t, getG q gs = some t → ∃ t', getG q (addG w.1 w.2 gs) = some t' ∧ time t' ≤ time t := by
      intro q t hq; rw [getG_add]; by_cases e : w.1 = q
      · rw [if_pos e]; subst e; exact ⟨_, rfl, Int.le_of_lt (hlt t hq)⟩
      rw [if_neg e]; exact ⟨t, hq, Int.le_refl _⟩
    have low : ∀ q, lvl q ≤ k → getG q (addG w.1 w.2 gs) = getG q gs := by
      intro q hq; rw [getG_add, if_neg]; rintro rfl; omega
    refine ⟨fun N' hm hn => ⟨h.full.add _ _, nodup_add h.nd, hn, fun q t hq => ?_, fun q hq => by rw [low q hq]; exact h.old q hq, hm, fun p' hp' w' hw' => ?_, fun q t hq hne => ?_⟩, ⟨w.2, by rw [getG_add, if_pos rfl], Int.le_refl _⟩, keep⟩
    · rw [getG_add] at hq; split at hq
      · rename_i e; subst e; omega
      exact h.low q t hq
    · obtain ⟨t, h1, h2⟩ := h.done p' hp' w' hw'; obtain ⟨t', h3, h4⟩ := keep _ _ h1; exact ⟨t', h3, by omega⟩
    rw [getG_add] at hq; split at hq
    · rename_i e
      cases hq
      subst e; exact ⟨p, tp, by rw [low p (by omega)]; exact hpg, hw⟩
    obtain ⟨p', tp', h1, h2⟩ := h.ptr q t hq hne; refine ⟨p', tp', ?_, h2⟩; have h3 := ok.lvl _ _ _ h2; have h4 := h.low q t hq; rw [low _ (by simp only at h3; omega)]; exact h1
  unfold Cu.relax
  cases hq : getG w.1 gs with
  | none =>
    simp only; obtain ⟨h1, h2, h3⟩ := put (fun t ht => by rw [hq] at ht; cases ht); refine ⟨h1 _ (fun q => ?_) ?_, h2, h3⟩
    · rw [List.mem_append, h.mem, List.mem_singleton, getG_add]; by_cases e : w.1 = q
      · subst e; rw [if_pos rfl]; exact ⟨fun _ => ⟨⟨_, rfl⟩, by omega⟩, fun _ => .inr rfl⟩
      rw [if_neg e]; exact ⟨fun hh => hh.elim id fun hh => absurd hh.symm e, fun hh => .inl hh⟩
    refine List.nodup_append.2 ⟨h.ndN, by simp, fun a ha b hb e => ?_⟩; rw [List.mem_singleton.1 hb] at e; subst e; obtain ⟨⟨t, ht⟩, -⟩ := (h.mem _).1 ha; rw [hq] at ht
    cases ht
  | some t =>
    simp only; split
    · rename_i hlt; obtain ⟨h1, h2, h3⟩ := put (fun t' ht => by rw [hq] at ht; cases ht; exact hlt); refine ⟨h1 _ (fun q => ?_) h.ndN, h2, h3⟩; rw [h.mem, getG_add]; by_cases e : w.1 = q
      · subst e; rw [if_pos rfl, hq]; exact ⟨fun hh => ⟨⟨_, rfl⟩, hh.2⟩, fun hh => ⟨⟨_, rfl⟩, hh.2⟩⟩
      rw [if_neg e]
    rename_i hlt; exact ⟨h, ⟨t, hq, by omega⟩, fun q t' h' => ⟨t', h', Int.le_refl _⟩⟩
theorem Mid.wayz (ok : WaysOk time ways lvl) {k : Nat} {gs0 : Fnd Q T} {P : List Q} (h0 : lvl q0 = 0) {p : Q} {tp : T} (hp : lvl p = k) (hg : getG p gs0 = some tp) : ∀ (l : List (Q × T)) (gs : Fnd Q T) (N : List Q), (∀ w ∈ l, w ∈ ways p (time tp)) → Mid time ways lvl q0 k gs0 P gs N →
    Mid time ways lvl q0 k gs0 P (l.foldl (Cu.relax time) (gs, N)).1 (l.foldl (Cu.relax time) (gs, N)).2 ∧ (∀ w ∈ l, ∃ t, getG w.1 (l.foldl (Cu.relax time) (gs, N)).1 = some t ∧ time t ≤ time w.2) ∧
      (∀ q t, getG q gs = some t → ∃ t', getG q (l.foldl (Cu.relax time) (gs, N)).1 = some t' ∧ time t' ≤ time t)
  | [], gs, N, _, h => ⟨h, fun w hw => absurd hw List.not_mem_nil, fun q t hq => ⟨t, hq, Int.le_refl _⟩⟩
  | w :: l, gs, N, hl, h => by
    obtain ⟨h1, h2, h3⟩ := h.relax ok h0 hp hg (hl w List.mem_cons_self); obtain ⟨g1, g2, g3⟩ := Mid.wayz ok h0 hp hg l _ _ (fun w' hw' => hl w' (List.mem_cons_of_mem _ hw')) h1; rw [List.foldl_cons]; refine ⟨g1, fun w' hw' => ?_, fun q t hq => ?_⟩
    · rcases List.mem_cons.1 hw' with rfl | hw'
      · obtain ⟨t, a, b⟩ := h2; obtain ⟨t', c, d⟩ := g3 _ _ a; exact ⟨t', c, by omega⟩
      exact g2 w' hw'
    obtain ⟨t', a, b⟩ := h3 q t hq; obtain ⟨t'', c, d⟩ := g3 _ _ a; exact ⟨t'', c, by omega⟩
theorem Mid.expand (ok : WaysOk time ways lvl) {k : Nat} {gs0 gs : Fnd Q T} {P N : List Q} (h0 : lvl q0 = 0) {p : Q} {tp : T} (hp : lvl p = k) (hg : getG p gs0 = some tp) (h : Mid time ways lvl q0 k gs0 P gs N) :
    Mid time ways lvl q0 k gs0 (P ++ [p]) (Cu.expand time ways (gs, N) p).1 (Cu.expand time ways (gs, N) p).2 := by
  have hpg : getG p gs = some tp := by rw [h.old p (by omega), hg]
  unfold Cu.expand; rw [timeOf_some hpg]; obtain ⟨g1, g2, g3⟩ := Mid.wayz ok h0 hp hg (ways p (time tp)) gs N (fun w hw => hw) h; refine ⟨g1.full, g1.nd, g1.ndN, g1.low, g1.old, g1.mem, fun p' hp' w hw => ?_, g1.ptr⟩
  rcases List.mem_append.1 hp' with hp' | hp'
  exact g1.done p' hp' w hw; rw [List.mem_singleton.1 hp', timeOf_some hg] at hw; exact g2 w hw
theorem Mid.layer (ok : WaysOk time ways lvl) {k : Nat} {gs0 : Fnd Q T} (h0 : lvl q0 = 0) {goal : Q → Bool} : ∀ (L P : List Q) (st : Fnd Q T × List Q), (∀ p ∈ L, lvl p = k ∧ ∃ t, getG p gs0 = some t) → Mid time ways lvl q0 k gs0 P st.1 st.2 →
    (∃ r st', layerL time ways goal L st = (some r, st') ∧ r.1 ∈ L ∧ goal r.1 = true ∧ ∃ P' N', r.2 = st'.1 ∧ Mid time ways lvl q0 k gs0 P' st'.1 N') ∨
    (∃ st', layerL time ways goal L st = (none, st') ∧ (∀ p ∈ L, goal p = false) ∧ Mid time ways lvl q0 k gs0 (P ++ L) st'.1 st'.2)
  | [], P, st, _, h => .inr ⟨st, rfl, fun p hp => by (cases hp), by rw [List.append_nil]; exact h⟩
  | p :: L, P, st, hl, h => by
    obtain ⟨h1, t, h2⟩ := hl p List.mem_cons_self; by_cases hgo : goal p = true
    exact .inl ⟨(p, st.1), st, by rw [layerL, if_pos hgo], List.mem_cons_self, hgo, P, st.2, rfl, h⟩
    rcases Mid.layer ok h0 (goal := goal) L (P ++ [p]) (Cu.expand time ways st p) (fun p' hp' => hl p' (List.mem_cons_of_mem _ hp')) (h.expand ok h0 h1 h2) with ⟨r, st', e, g1, g2, g3⟩ | ⟨st', e, g1, g2⟩
    exact .inl ⟨r, st', by rw [layerL, if_neg hgo, e], List.mem_cons_of_mem _ g1, g2, g3⟩; refine .inr ⟨st', by rw [layerL, if_neg hgo, e], fun p' hp' => ?_, ?_⟩
    · rcases List.mem_cons.1 hp' with rfl | hp'
      simpa using hgo; exact g1 p' hp'
    have e2 : P ++ p :: L = P ++ [p] ++ L := by simp
    rw [e2]; exact g2
theorem Lay.mid {k : Nat} {gs : Fnd Q T} {L : List Q} (h : Lay time ways lvl q0 k gs L) : Mid time ways lvl q0 k gs [] gs [] :=
  ⟨h.full, h.nd, List.nodup_nil, fun q t hq => Nat.le_succ_of_le (h.low q t hq), fun _ _ => rfl, fun q => ⟨fun hq => absurd hq List.not_mem_nil, fun hq => by obtain ⟨⟨t, hq⟩, e⟩ := hq; have := h.low q t hq; omega⟩, fun p hp => (by cases hp), h.ptr⟩
theorem Mid.next (ok : WaysOk time ways lvl) {k : Nat} {gs0 gs : Fnd Q T} {L N : List Q} (h0 : lvl q0 = 0) (hL : Lay time ways lvl q0 k gs0 L) (h : Mid time ways lvl q0 k gs0 L gs N) : Lay time ways lvl q0 (k + 1) gs N := by
  refine ⟨h.full, h.nd, h.low, fun q τ hq hl => ?_, h.mem, ?_, h.ptr⟩
  · by_cases hk : lvl q ≤ k
    rw [h.old q hk]; exact hL.min q τ hq hk
    cases hq with
    | root => omega
    | @step p τ' w hp hw =>
      have hpl := ok.lvl _ _ _ hw; obtain ⟨t, g1, g2⟩ := hL.min p τ' hp (by omega); obtain ⟨w', k1, k2, k3⟩ := ok.mono p τ' (time t) w g2 hw; have hpL : p ∈ L := (hL.mem p).2 ⟨⟨t, g1⟩, by omega⟩; obtain ⟨t', m1, m2⟩ := h.done p hpL w' (by rw [timeOf_some g1]; exact k1); rw [k2] at m1; exact ⟨t', m1, by omega⟩
  obtain ⟨t, h1, h2⟩ := hL.root; exact ⟨t, by rw [h.old q0 (by omega)]; exact h1, h2⟩
structure Ptr (time : T → Int) (ways : Q → Int → List (Q × T)) (q0 : Q) (gs : Fnd Q T) : Prop where
  full : Full gs
  nd : (gs.map (·.1)).Nodup
  root : ∃ t, getG q0 gs = some t ∧ time t = 0
  ptr : ∀ q t, getG q gs = some t → q ≠ q0 → ∃ p tp, getG p gs = some tp ∧ (q, t) ∈ ways p (time tp)
theorem Ptr.trk (ok : WaysOk time ways lvl) {gs : Fnd Q T} (h : Ptr time ways q0 gs) : ∀ (n : Nat) (q : Q) (t : T), lvl q ≤ n → getG q gs = some t → ∃ ts, Trk time ways q0 q (time t) ts := by
  intro n
  induction n with
  | zero =>
    intro q t hn hq; by_cases e : q = q0
    · subst e; obtain ⟨t', h1, h2⟩ := h.root; rw [hq] at h1
      cases h1
      rw [h2]; exact ⟨[], .root⟩
    obtain ⟨p, tp, h1, h2⟩ := h.ptr q t hq e; have := ok.lvl _ _ _ h2; simp only at this; omega
  | succ n ih =>
    intro q t hn hq; by_cases e : q = q0
    · subst e; obtain ⟨t', h1, h2⟩ := h.root; rw [hq] at h1
      cases h1
      rw [h2]; exact ⟨[], .root⟩
    obtain ⟨p, tp, h1, h2⟩ := h.ptr q t hq e; have := ok.lvl _ _ _ h2; simp only at this; obtain ⟨ts, h3⟩ := ih p tp (by omega) h1; exact ⟨_, .step h3 h2⟩
theorem Ptr.get (ok : WaysOk time ways lvl) {gs : Fnd Q T} (h : Ptr time ways q0 gs) {q : Q} {t : T} (hq : getG q gs = some t) : Get time ways q0 q (time t) := by
  obtain ⟨ts, h1⟩ := h.trk ok _ q t (Nat.le_refl _) hq; exact h1.get
theorem Lay.ptrs {k : Nat} {gs : Fnd Q T} {L : List Q} (h : Lay time ways lvl q0 k gs L) : Ptr time ways q0 gs := ⟨h.full, h.nd, h.root, h.ptr⟩
theorem Mid.ptrs {k : Nat} {gs0 gs : Fnd Q T} {L P N : List Q} (h0 : lvl q0 = 0) (hL : Lay time ways lvl q0 k gs0 L) (h : Mid time ways lvl q0 k gs0 P gs N) : Ptr time ways q0 gs := by
  obtain ⟨t, h1, h2⟩ := hL.root; exact ⟨h.full, h.nd, ⟨t, by rw [h.old q0 (by omega)]; exact h1, h2⟩, h.ptr⟩
theorem search_ok (ok : WaysOk time ways lvl) (h0 : lvl q0 = 0) {goal : Q → Bool} : ∀ (f k : Nat) (gs : Fnd Q T) (L : List Q), Lay time ways lvl q0 k gs L → (∀ q τ, Get time ways q0 q τ → lvl q < k + f) → (∀ q τ, Get time ways q0 q τ → lvl q < k → goal q = false) →
    (∃ q gs' t, searchL time ways goal f gs L = (some (q, gs'), gs') ∧ goal q = true ∧ getG q gs' = some t ∧ Ptr time ways q0 gs') ∨
    (∃ gs', searchL time ways goal f gs L = (none, gs') ∧ (∀ q τ, Get time ways q0 q τ → goal q = false ∧ ∃ t, getG q gs' = some t ∧ time t ≤ τ) ∧ Ptr time ways q0 gs')
  | 0, k, gs, L, h, hb, hg => .inr ⟨gs, rfl, fun q τ hq => by
      have := hb q τ hq
      exact ⟨hg q τ hq (by omega), h.min q τ hq (by omega)⟩, h.ptrs⟩
  | f + 1, k, gs, L, h, hb, hg => by
    unfold searchL; by_cases hL : L = []
    · rw [if_pos hL]
      have nok : ∀ q τ, Get time ways q0 q τ → lvl q < k := by
        intro q τ hq
        induction hq with
        | root =>
          obtain ⟨t, h1, -⟩ := h.root; have := h.low q0 t h1
          rcases Nat.lt_or_ge (lvl q0) k with hk | hk
          exact hk; have := (h.mem q0).2 ⟨⟨t, h1⟩, by omega⟩; rw [hL] at this
          cases this
        | @step p τ' w hp hw ih =>
          have hl := ok.lvl _ _ _ hw
          rcases Nat.lt_or_ge (lvl w.1) k with hk | hk
          exact hk; obtain ⟨t, h1, -⟩ := h.min w.1 _ (.step hp hw) (by omega); have := (h.mem w.1).2 ⟨⟨t, h1⟩, by omega⟩; rw [hL] at this
          cases this
      exact .inr ⟨gs, rfl, fun q τ hq => ⟨hg q τ hq (nok q τ hq), h.min q τ hq (Nat.le_of_lt (nok q τ hq))⟩, h.ptrs⟩
    rw [if_neg hL]
    have hall : ∀ p ∈ L, lvl p = k ∧ ∃ t, getG p gs = some t := fun p hp => ⟨((h.mem p).1 hp).2, ((h.mem p).1 hp).1⟩
    rcases Mid.layer ok h0 (goal := goal) L [] (gs, []) hall h.mid with ⟨r, st', e, g1, g2, P', N', g3, g4⟩ | ⟨st', e, g1, g2⟩
    · rw [e]; obtain ⟨q, gs'⟩ := r; simp only at g1 g2 g3; subst g3; obtain ⟨h1, t, h2⟩ := hall q g1; exact .inl ⟨q, st'.1, t, rfl, g2, by rw [g4.old q (by omega)]; exact h2, g4.ptrs h0 h⟩
    rw [e]; have hN := g2.next ok h0 h
    refine search_ok ok h0 f (k + 1) st'.1 st'.2 hN (fun q τ hq => by have := hb q τ hq; omega) fun q τ hq hl => ?_
    by_cases hk : lvl q < k
    exact hg q τ hq hk; obtain ⟨t, h1, -⟩ := h.min q τ hq (by omega); exact g1 q ((h.mem q).2 ⟨⟨t, h1⟩, by omega⟩)
theorem Lay.start (t0 : T) (ht : time t0 = 0) (h0 : lvl q0 = 0) (hu : ∀ q τ, Get time ways q0 q τ → lvl q = 0 → q = q0 ∧ τ = 0) : Lay time ways lvl q0 0 [(q0, [t0])] [q0] := by
  have hg : ∀ q t, getG q [(q0, [t0])] = some t → q = q0 ∧ t = t0 := by
    intro q t h; unfold getG lookG at h; split at h
    · rename_i e
      cases h
      exact ⟨e.symm, rfl⟩
    cases h
  have hq : getG q0 [(q0, [t0])] = some t0 := by unfold getG lookG; rw [if_pos rfl]; rfl
  refine ⟨fun g hg => ?_, by simp, fun q t h => ?_, fun q τ h hl => ?_, fun q => ?_, ⟨t0, hq, ht⟩, fun q t h hne => absurd (hg q t h).1 hne⟩; rw [List.mem_singleton.1 hg]; simp; rw [(hg q t h).1, h0]; exact Nat.le_refl _
  · obtain ⟨rfl, rfl⟩ := hu q τ h (by omega); exact ⟨t0, hq, by omega⟩
  rw [List.mem_singleton]; constructor
  · rintro rfl; exact ⟨⟨t0, hq⟩, h0⟩
  rintro ⟨⟨t, h⟩, -⟩; exact (hg q t h).1
theorem Get.zero (ok : WaysOk time ways lvl) {q : Q} {τ : Int} (h : Get time ways q0 q τ) (hl : lvl q = 0) : q = q0 ∧ τ = 0 := by
  cases h with
  | root => exact ⟨rfl, rfl⟩
  | step h hw => have := ok.lvl _ _ _ hw; omega
end bfs
end
section
structure Spn where
  lo : Int
  hi : Int
  deriving DecidableEq
structure Pers where
  id : Int
  duty : List Spn
  deriving DecidableEq
structure Entr where
  id : Int
  key : Int
  kind : Int
  src : Int
  dst : Int
  at_ : Spn
  deriving DecidableEq
structure Book where
  people : List Pers
  keys : List Int
  entries : List Entr
  gaps : Int
  deriving DecidableEq
structure Mv where
  entry : Int
  dst : Int
  time : Int
  deriving DecidableEq
structure Sta where
  done : Nat
  place : Int
  gaps : Nat
  deriving DecidableEq
structure Stp where
  entry : Int
  dst : Int
  at_ : Spn
  to_ : Sta
  deriving DecidableEq
structure Chn where
  people : List Pers
  gaps : Int
  es : List Entr
def maxTime : Int := 1073741823
def fromOf (e : Entr) : Int := if e.kind = 4 then -1 else e.src
def placeOf (e : Entr) (p : Int) : Int := if e.kind = 1 ∨ e.kind = 4 then e.dst else if e.kind = 3 then -1 else p
def madeS (s : Sta) (i : Nat) (e : Entr) : Option Sta := if s.done.testBit i = true ∨ s.place ≠ fromOf e then none else some ⟨s.done ||| 2 ^ i, placeOf e s.place, s.gaps⟩
def knownP (ps : List Pers) (n : Int) : Bool := ps.any fun p => p.id == n
def hangsP (ps : List Pers) (n : Int) : Bool := n == 0 || knownP ps n
def passedS (C : Chn) (s : Sta) (to : Int) : Option Sta := if s.place = -1 ∨ s.place = to ∨ (s.gaps : Int) = C.gaps ∨ hangsP C.people to = false then none else some ⟨s.done, to, s.gaps + 1⟩
def one {α β : Type} (f : α → β) : Option α → List β
  | some a => [f a]
  | none => []
def madeL (s : Sta) : Nat → List Entr → List Stp
  | _, [] => []
  | i, e :: r => one (fun t => ⟨e.id, 0, e.at_, t⟩) (madeS s i e) ++ madeL s (i + 1) r
def passL (C : Chn) (s : Sta) (l : List Int) : List Stp := l.flatMap fun p => one (fun t => ⟨0, p, ⟨0, maxTime⟩, t⟩) (passedS C s p)
def spots (C : Chn) : List Int := 0 :: C.people.map (·.id)
def stepsS (C : Chn) (s : Sta) : List Stp := madeL s 0 C.es ++ passL C s (spots C)
def allS (C : Chn) (s : Sta) : Bool := s.done == 2 ^ C.es.length - 1
structure Chn.ok (C : Chn) : Prop where
  gaps : 0 ≤ C.gaps ∧ C.gaps ≤ 3
  ids : ∀ p ∈ C.people, 1 ≤ p.id
  eid : ∀ e ∈ C.es, 1 ≤ e.id
  span : ∀ e ∈ C.es, 0 ≤ e.at_.lo ∧ e.at_.lo ≤ e.at_.hi ∧ e.at_.hi ≤ maxTime
  kind : ∀ e ∈ C.es, 1 ≤ e.kind ∧ e.kind ≤ 4
  nd : (C.es.map (·.id)).Nodup
  ndp : (C.people.map (·.id)).Nodup
theorem mem_madeL {s : Sta} {x : Stp} : ∀ {l : List Entr} {i : Nat}, x ∈ madeL s i l ↔ ∃ (j : Nat) (e : Entr) (t : Sta), l[j]? = some e ∧ madeS s (i + j) e = some t ∧ x = ⟨e.id, 0, e.at_, t⟩
  | [], i => by simp [madeL]
  | e :: l, i => by
    rw [madeL, List.mem_append, mem_madeL (l := l) (i := i + 1)]; constructor
    · rintro (h | ⟨j, e', t, h1, h2, h3⟩)
      · cases hm : madeS s i e with
        | none => rw [hm] at h; cases h
        | some t =>
          rw [hm] at h; exact ⟨0, e, t, rfl, hm, List.mem_singleton.1 h⟩
      exact ⟨j + 1, e', t, by simpa using h1, by rw [show i + (j + 1) = i + 1 + j by omega]; exact h2, h3⟩
    rintro ⟨j, e', t, h1, h2, h3⟩
    cases j with
    | zero =>
      cases h1
      rw [Nat.add_zero] at h2; rw [h2]; exact .inl (List.mem_singleton.2 h3)
    | succ j => exact .inr ⟨j, e', t, by simpa using h1, by rw [show i + 1 + j = i + (j + 1) by omega]; exact h2, h3⟩
theorem mem_passL {C : Chn} {s : Sta} {x : Stp} {l : List Int} : x ∈ passL C s l ↔ ∃ p t, p ∈ l ∧ passedS C s p = some t ∧ x = ⟨0, p, ⟨0, maxTime⟩, t⟩ := by
  unfold passL; rw [List.mem_flatMap]; constructor
  · rintro ⟨p, hp, h⟩
    cases hm : passedS C s p with
    | none => rw [hm] at h; cases h
    | some t => rw [hm] at h; exact ⟨p, t, hp, hm, List.mem_singleton.1 h⟩
  rintro ⟨p, t, hp, h1, h2⟩; exact ⟨p, hp, by rw [h1]; exact List.mem_singleton.2 h2⟩
theorem nodup_idx {α : Type} {l : List α} (h : l.Nodup) {i j : Nat} {a : α} (hi : l[i]? = some a) (hj : l[j]? = some a) : i = j := by exact (List.getElem?_inj (List.getElem?_eq_some_iff.1 hi).1 h).1 (hi.trans hj.symm)
theorem steps_det {C : Chn} (ok : C.ok) {s : Sta} {x y : Stp} (hx : x ∈ stepsS C s) (hy : y ∈ stepsS C s) (he : x.entry = y.entry) (hd : x.dst = y.dst) : x = y := by
  unfold stepsS at hx hy
  rcases List.mem_append.1 hx with hx | hx <;> rcases List.mem_append.1 hy with hy | hy
  · obtain ⟨i, e, t, h1, h2, rfl⟩ := mem_madeL.1 hx; obtain ⟨j, e', t', g1, g2, rfl⟩ := mem_madeL.1 hy; simp only at he; have : i = j := nodup_idx ok.nd (a := e.id) (by rw [List.getElem?_map, h1]; rfl) (by rw [List.getElem?_map, g1, he]; rfl); subst this; rw [h1] at g1
    cases g1
    rw [h2] at g2
    cases g2
    rfl
  · obtain ⟨i, e, t, h1, h2, rfl⟩ := mem_madeL.1 hx; obtain ⟨p, t', hp, g2, rfl⟩ := mem_passL.1 hy; simp only at he; have := ok.eid e (List.mem_of_getElem? h1); omega
  · obtain ⟨i, e, t, h1, h2, rfl⟩ := mem_madeL.1 hy; obtain ⟨p, t', hp, g2, rfl⟩ := mem_passL.1 hx; simp only at he; have := ok.eid e (List.mem_of_getElem? h1); omega
  obtain ⟨p, t, hp, h2, rfl⟩ := mem_passL.1 hx; obtain ⟨p', t', hp', g2, rfl⟩ := mem_passL.1 hy; simp only at hd; subst hd; rw [h2] at g2
  cases g2
  rfl
theorem step_span {C : Chn} (ok : C.ok) {s : Sta} {x : Stp} (hx : x ∈ stepsS C s) : 0 ≤ x.at_.lo ∧ x.at_.lo ≤ x.at_.hi ∧ x.at_.hi ≤ maxTime := by
  rcases List.mem_append.1 hx with hx | hx
  · obtain ⟨i, e, t, h1, h2, rfl⟩ := mem_madeL.1 hx; exact ok.span e (List.mem_of_getElem? h1)
  obtain ⟨p, t', hp, g2, rfl⟩ := mem_passL.1 hx; simp [maxTime]
def cntB (n d : Nat) : Nat := (List.range n).countP fun i => d.testBit i
def lvlS (C : Chn) (s : Sta) : Nat := cntB C.es.length s.done + s.gaps
theorem cntB_or {d i : Nat} (h : d.testBit i = false) : ∀ {n : Nat}, cntB n (d ||| 2 ^ i) = cntB n d + if i < n then 1 else 0
  | 0 => by simp [cntB]
  | n + 1 => by
    have ih := cntB_or (d := d) (i := i) h (n := n); unfold cntB at *; rw [List.range_succ, List.countP_append, List.countP_append, ih, List.countP_singleton, List.countP_singleton, Nat.testBit_or, Nat.testBit_two_pow]; by_cases hi : i = n
    · subst hi; simp [h]
    by_cases hlt : i < n
    · have : i < n + 1 := by omega
      simp [hlt, this, hi]; omega
    have : ¬ i < n + 1 := by omega
    simp [hlt, this, hi]
theorem step_lvl {C : Chn} {s : Sta} {x : Stp} (hx : x ∈ stepsS C s) : lvlS C x.to_ = lvlS C s + 1 := by
  unfold lvlS
  rcases List.mem_append.1 hx with hx | hx
  · obtain ⟨i, e, t, h1, h2, rfl⟩ := mem_madeL.1 hx; unfold madeS at h2; split at h2
    cases h2
    rename_i hn
    cases h2
    have hb : s.done.testBit (0 + i) = false := by
      cases hq : s.done.testBit (0 + i) with
      | false => rfl
      | true => exact absurd (.inl hq) hn
    simp only; rw [cntB_or hb, if_pos (by have := (List.getElem?_eq_some_iff.1 h1).1; omega)]; omega
  obtain ⟨p, t', hp, g2, rfl⟩ := mem_passL.1 hx; unfold passedS at g2; split at g2
  cases g2
  cases g2
  simp only; omega
inductive Run (C : Chn) : Sta → Int → List Mv → Sta → Prop
  | nil {s : Sta} {now : Int} : Run C s now [] s
  | cons {s s' : Sta} {now t : Int} {x : Stp} {l : List Mv} (hx : x ∈ stepsS C s) (h0 : now ≤ t) (h1 : x.at_.lo ≤ t) (h2 : t ≤ x.at_.hi) (h : Run C x.to_ t l s') : Run C s now (⟨x.entry, x.dst, t⟩ :: l) s'
variable {C : Chn}
theorem Run.le {s s' : Sta} {now : Int} {l : List Mv} (h : Run C s now l s') : ∀ m ∈ l, now ≤ m.time := by
  induction h with
  | nil => exact fun m hm => absurd hm List.not_mem_nil
  | cons hx h0 h1 h2 h ih =>
    intro m hm
    rcases List.mem_cons.1 hm with rfl | hm
    exact h0; have := ih m hm; omega
theorem Run.now {s s' : Sta} {now now' : Int} {l : List Mv} (h : Run C s now l s') (hn : ∀ m ∈ l, now' ≤ m.time) : Run C s now' l s' := by
  cases h with
  | nil => exact .nil
  | cons hx h0 h1 h2 h => exact .cons hx (hn _ List.mem_cons_self) h1 h2 h
theorem Run.snoc {s s' : Sta} {now t : Int} {l : List Mv} {x : Stp} (h : Run C s now l s') (hx : x ∈ stepsS C s') (h0 : now ≤ t) (hl : ∀ m ∈ l, m.time ≤ t) (h1 : x.at_.lo ≤ t) (h2 : t ≤ x.at_.hi) : Run C s now (l ++ [⟨x.entry, x.dst, t⟩]) x.to_ := by
  induction h with
  | nil => exact .cons hx h0 h1 h2 .nil
  | cons hx' g0 g1 g2 h ih => exact .cons hx' g0 g1 g2 (ih hx (hl _ List.mem_cons_self) fun m hm => hl m (List.mem_cons_of_mem _ hm))
theorem Run.split {s s' : Sta} {now : Int} : ∀ {l1 l2 : List Mv}, Run C s now (l1 ++ l2) s' → ∃ sm, Run C s now l1 sm ∧ Run C sm now l2 s'
  | [], l2, h => ⟨s, .nil, h⟩
  | m :: l1, l2, h => by
    rw [List.cons_append] at h
    cases h with
    | cons hx h0 h1 h2 h =>
      obtain ⟨sm, g1, g2⟩ := Run.split h; exact ⟨sm, .cons hx h0 h1 h2 g1, g2.now fun m hm => by have := g2.le m hm; omega⟩
theorem Run.inv {s s' : Sta} {now : Int} {m : Mv} {l : List Mv} (h : Run C s now (m :: l) s') : ∃ x, x ∈ stepsS C s ∧ m.entry = x.entry ∧ m.dst = x.dst ∧ now ≤ m.time ∧ x.at_.lo ≤ m.time ∧ m.time ≤ x.at_.hi ∧ Run C x.to_ m.time l s' := by
  cases h with
  | cons hx h0 h1 h2 h => exact ⟨_, hx, rfl, rfl, h0, h1, h2, h⟩
def Tell (C : Chn) (l : List Mv) : Prop := ∃ s, Run C ⟨0, 0, 0⟩ 0 l s ∧ allS C s = true
inductive Cnd where
  | place (n t : Int)
  | copy (n t : Int)
  | hand (n t : Int)
  deriving DecidableEq
def Cnd.time : Cnd → Int
  | .place _ t => t
  | .copy _ t => t
  | .hand _ t => t
def hasCopy (es : List Entr) (d : Nat) (n : Int) : Bool := (List.range es.length).any fun i => match es[i]? with
  | some e => e.kind == 2 && d.testBit i && e.src == n
  | none => false
def dutyP (ps : List Pers) (n t : Int) : Bool := ps.any fun p => p.id == n && p.duty.any fun s => decide (s.lo ≤ t ∧ t ≤ s.hi)
def holdsS (C : Chn) (c : Cnd) (s : Sta) : Bool := match c with
  | .place n _ => s.place == n
  | .copy n _ => hasCopy C.es s.done n
  | .hand n t => dutyP C.people n t && (s.place == n || hasCopy C.es s.done n)
structure Spot where
  st : Sta
  seen : Nat
  deriving DecidableEq
structure Trc where
  time : Int
  frm : Spot
  move : Mv
  moved : Bool
  deriving DecidableEq
def lastOf (cs : List Cnd) (k : Nat) : Int := match cs[k]? with
  | some c => c.time
  | none => maxTime
def condL (C : Chn) (cs : List Cnd) (q : Spot) (now : Int) : List (Spot × Trc) := match cs[q.seen]? with
  | some c => if holdsS C c q.st then [(⟨q.st, q.seen + 1⟩, ⟨max now (c.time + 1), q, ⟨0, 0, 0⟩, false⟩)] else []
  | none => []
def moveL (q : Spot) (now last : Int) (x : Stp) : List (Spot × Trc) := if min last x.at_.hi < max now x.at_.lo then [] else [(⟨x.to_, q.seen⟩, ⟨max now x.at_.lo, q, ⟨x.entry, x.dst, max now x.at_.lo⟩, true⟩)]
def waysS (C : Chn) (cs : List Cnd) (q : Spot) (now : Int) : List (Spot × Trc) := condL C cs q now ++ (stepsS C q.st).flatMap (moveL q now (lastOf cs q.seen))
def lvlQ (C : Chn) (q : Spot) : Nat := lvlS C q.st + q.seen
theorem mem_moveL {q : Spot} {now last : Int} {x : Stp} {w : Spot × Trc} : w ∈ moveL q now last x ↔ max now x.at_.lo ≤ min last x.at_.hi ∧ w = (⟨x.to_, q.seen⟩, ⟨max now x.at_.lo, q, ⟨x.entry, x.dst, max now x.at_.lo⟩, true⟩) := by
  unfold moveL; split
  · rename_i h; exact ⟨fun h => absurd h List.not_mem_nil, fun h => by omega⟩
  rename_i h; rw [List.mem_singleton]; exact ⟨fun e => ⟨by omega, e⟩, fun e => e.2⟩
theorem mem_condL {cs : List Cnd} {q : Spot} {now : Int} {w : Spot × Trc} : w ∈ condL C cs q now ↔ ∃ c, cs[q.seen]? = some c ∧ holdsS C c q.st = true ∧ w = (⟨q.st, q.seen + 1⟩, ⟨max now (c.time + 1), q, ⟨0, 0, 0⟩, false⟩) := by
  unfold condL; split
  · rename_i c hc; rw [hc]; split
    · rename_i hh; rw [List.mem_singleton]; exact ⟨fun e => ⟨c, rfl, hh, e⟩, fun ⟨c', e1, e2, e3⟩ => by cases e1; exact e3⟩
    rename_i hh; exact ⟨fun e => absurd e List.not_mem_nil, fun ⟨c', e1, e2, e3⟩ => by cases e1; exact absurd e2 hh⟩
  rename_i hc; rw [hc]; exact ⟨fun e => absurd e List.not_mem_nil, fun ⟨c', e1, e2, e3⟩ => by cases e1⟩
theorem ways_ok (C : Chn) (cs : List Cnd) : WaysOk Trc.time (waysS C cs) (lvlQ C) := by
  refine ⟨fun q τ w hw => ?_, fun q τ τ' w hle hw => ?_⟩
  · rcases List.mem_append.1 hw with hw | hw
    · obtain ⟨c, -, -, rfl⟩ := mem_condL.1 hw; simp [lvlQ]; omega
    obtain ⟨x, hx, hw⟩ := List.mem_flatMap.1 hw; obtain ⟨-, rfl⟩ := mem_moveL.1 hw; have := step_lvl hx; simp only [lvlQ]; omega
  rcases List.mem_append.1 hw with hw | hw
  · obtain ⟨c, h1, h2, rfl⟩ := mem_condL.1 hw; exact ⟨_, List.mem_append.2 (.inl (mem_condL.2 ⟨c, h1, h2, rfl⟩)), rfl, by simp only; omega⟩
  obtain ⟨x, hx, hw⟩ := List.mem_flatMap.1 hw; obtain ⟨h1, rfl⟩ := mem_moveL.1 hw; exact ⟨_, List.mem_append.2 (.inr (List.mem_flatMap.2 ⟨x, hx, mem_moveL.2 ⟨by omega, rfl⟩⟩)), rfl, by simp only; omega⟩
theorem ways_frm {cs : List Cnd} {q : Spot} {τ : Int} {w : Spot × Trc} (hw : w ∈ waysS C cs q τ) : w.2.frm = q := by
  rcases List.mem_append.1 hw with hw | hw
  · obtain ⟨c, -, -, rfl⟩ := mem_condL.1 hw; rfl
  obtain ⟨x, hx, hw⟩ := List.mem_flatMap.1 hw; obtain ⟨-, rfl⟩ := mem_moveL.1 hw; rfl
def q00 : Spot := ⟨⟨0, 0, 0⟩, 0⟩
def Sorted (cs : List Cnd) : Prop := ∀ (i j : Nat) (a b : Cnd), i ≤ j → cs[i]? = some a → cs[j]? = some b → a.time ≤ b.time
def movesT (ts : List Trc) : List Mv := ts.flatMap fun t => if t.moved then [t.move] else []
theorem movesT_snoc (ts : List Trc) (t : Trc) : movesT (ts ++ [t]) = movesT ts ++ if t.moved then [t.move] else [] := by simp [movesT]
theorem trk_tell {cs : List Cnd} (hs : Sorted cs) (h0 : ∀ c ∈ cs, 0 ≤ c.time) {q : Spot} {τ : Int} {ts : List Trc} (h : Trk Trc.time (waysS C cs) q00 q τ ts) :
    0 ≤ τ ∧ Run C ⟨0, 0, 0⟩ 0 (movesT ts) q.st ∧ (∀ m ∈ movesT ts, m.time ≤ τ) ∧ (∀ c, cs[q.seen]? = some c → ∀ m ∈ movesT ts, m.time ≤ c.time) ∧ q.seen ≤ cs.length ∧
      ∀ (j : Nat) (c : Cnd), j < q.seen → cs[j]? = some c → c.time < τ ∧ ∃ l1 l2 s, movesT ts = l1 ++ l2 ∧ Run C ⟨0, 0, 0⟩ 0 l1 s ∧ (∀ m ∈ l1, m.time ≤ c.time) ∧ (∀ m ∈ l2, c.time < m.time) ∧ holdsS C c s = true := by
  induction h with
  | root => exact ⟨Int.le_refl _, .nil, fun m hm => absurd hm List.not_mem_nil, fun c _ m hm => absurd hm List.not_mem_nil, Nat.zero_le _, fun j c hj => absurd hj (Nat.not_lt_zero _)⟩
  | @step q τ ts w h hw ih =>
    obtain ⟨i0, i1, i2, i3, i4, i5⟩ := ih
    rcases List.mem_append.1 hw with hw | hw
    · obtain ⟨c, h1, h2, rfl⟩ := mem_condL.1 hw; rw [movesT_snoc]; simp only [Bool.false_eq_true, if_false, List.append_nil]; have hlt := (List.getElem?_eq_some_iff.1 h1).1; refine ⟨by omega, i1, fun m hm => by have := i2 m hm; omega, fun c' hc' m hm => ?_, hlt, fun j c' hj hc' => ?_⟩
      · have := i3 c h1 m hm; have := hs q.seen (q.seen + 1) c c' (by omega) h1 hc'; omega
      rcases Nat.lt_succ_iff_lt_or_eq.1 hj with hj | rfl
      · obtain ⟨g1, g2⟩ := i5 j c' hj hc'; exact ⟨by omega, g2⟩
      rw [h1] at hc'
      cases hc'
      exact ⟨by omega, movesT ts, [], q.st, by simp, i1, fun m hm => i3 c h1 m hm, fun m hm => absurd hm List.not_mem_nil, h2⟩
    obtain ⟨x, hx, hw⟩ := List.mem_flatMap.1 hw; obtain ⟨h1, rfl⟩ := mem_moveL.1 hw; rw [movesT_snoc]; simp only [if_true]; refine ⟨by omega, i1.snoc hx (by omega) (fun m hm => by have := i2 m hm; omega) (by omega) (by omega), fun m hm => ?_, fun c hc m hm => ?_, i4, fun j c hj hc => ?_⟩
    · rcases List.mem_append.1 hm with hm | hm
      have := i2 m hm; omega; rw [List.mem_singleton.1 hm]; exact Int.le_refl _
    · rcases List.mem_append.1 hm with hm | hm
      exact i3 c hc m hm; rw [List.mem_singleton.1 hm]; have : lastOf cs q.seen = c.time := by unfold lastOf; rw [hc]
      rw [this] at h1; simp only; omega
    obtain ⟨g1, l1, l2, s, e, g2, g3, g4, g5⟩ := i5 j c hj hc; refine ⟨by omega, l1, l2 ++ [⟨x.entry, x.dst, max τ x.at_.lo⟩], s, by rw [e, List.append_assoc], g2, g3, fun m hm => ?_, g5⟩
    rcases List.mem_append.1 hm with hm | hm
    exact g4 m hm; rw [List.mem_singleton.1 hm]; simp only; omega
theorem tell_get (ok : C.ok) {cs : List Cnd} (hs : Sorted cs) : ∀ (n : Nat) (l : List Mv) (k : Nat) (s sf : Sta) (τ now : Int), l.length + (cs.length - k) ≤ n → k ≤ cs.length → Get Trc.time (waysS C cs) q00 ⟨s, k⟩ τ → Run C s now l sf → (∀ m ∈ l, τ ≤ m.time) →
    (∀ (j : Nat) (c : Cnd), k ≤ j → cs[j]? = some c → ∃ l1 l2 s1 now1, l = l1 ++ l2 ∧ Run C s now1 l1 s1 ∧ (∀ m ∈ l1, m.time ≤ c.time) ∧ (∀ m ∈ l2, c.time < m.time) ∧ holdsS C c s1 = true) →
    ∃ τ', Get Trc.time (waysS C cs) q00 ⟨sf, cs.length⟩ τ' := by
  intro n
  induction n with
  | zero =>
    intro l k s sf τ now hn hk hg hr hl hc; have : l = [] := List.length_eq_zero_iff.1 (by omega); subst this
    cases hr
    have : k = cs.length := by omega
    subst this; exact ⟨τ, hg⟩
  | succ n ih =>
    intro l k s sf τ now hn hk hg hr hl hc
    have mv : ∀ m r, l = m :: r → m.time ≤ lastOf cs k → ∃ τ', Get Trc.time (waysS C cs) q00 ⟨sf, cs.length⟩ τ' := by
      rintro m r rfl hlast; obtain ⟨x, hx, e1, e2, h0, h1, h2, h3⟩ := hr.inv; have hml := hl m List.mem_cons_self; have hgx := Get.step (w := (⟨x.to_, k⟩, ⟨max τ x.at_.lo, ⟨s, k⟩, ⟨x.entry, x.dst, max τ x.at_.lo⟩, true⟩)) hg (List.mem_append.2 (.inr (List.mem_flatMap.2 ⟨x, hx, mem_moveL.2 ⟨by simp only; omega, rfl⟩⟩)))
      refine ih r k x.to_ sf _ m.time (by simp at hn; omega) hk hgx h3 (fun m' hm' => by have := h3.le m' hm'; simp only; omega) fun j c hj hcj => ?_
      obtain ⟨l1, l2, s1, now1, g1, g2, g3, g4, g5⟩ := hc j c hj hcj
      cases l1 with
      | nil =>
        rw [List.nil_append] at g1; have := g4 m (by rw [← g1]; exact List.mem_cons_self)
        have : m.time ≤ c.time := by
          have hkl : k < cs.length := by have := (List.getElem?_eq_some_iff.1 hcj).1; omega
          have hk' := List.getElem?_eq_getElem hkl; have := hs k j _ c hj hk' hcj; have e : lastOf cs k = cs[k].time := by unfold lastOf; rw [hk']
          omega
        omega
      | cons m1 l1 =>
        cases g1
        obtain ⟨y, hy, k1, k2, -, -, -, k6⟩ := g2.inv; have : x = y := steps_det ok hx hy (e1.symm.trans k1) (e2.symm.trans k2); subst this; exact ⟨l1, l2, s1, _, rfl, k6, fun m' hm' => g3 m' (List.mem_cons_of_mem _ hm'), g4, g5⟩
    by_cases hkl : k < cs.length
    · have hk' := List.getElem?_eq_getElem hkl; have hlast : lastOf cs k = cs[k].time := by unfold lastOf; rw [hk']
      have stay : (∀ m ∈ l, cs[k].time < m.time) → ∃ τ', Get Trc.time (waysS C cs) q00 ⟨sf, cs.length⟩ τ' := by
        intro hall; obtain ⟨l1, l2, s1, now1, g1, g2, g3, g4, g5⟩ := hc k _ (Nat.le_refl _) hk'
        have : l1 = [] := by
          cases l1 with
          | nil => rfl
          | cons m1 l1 =>
            have h1 := g3 m1 List.mem_cons_self; have h2 := hall m1 (by rw [g1]; exact List.mem_cons_self); omega
        subst this
        cases g2
        have hgx := Get.step (w := (⟨s, k + 1⟩, ⟨max τ (cs[k].time + 1), ⟨s, k⟩, ⟨0, 0, 0⟩, false⟩)) hg (List.mem_append.2 (.inl (mem_condL.2 ⟨_, hk', g5, rfl⟩)))
        refine ih l (k + 1) s sf _ now (by omega) hkl hgx hr (fun m hm => by have := hl m hm; have := hall m hm; simp only; omega) fun j c hj hcj => hc j c (by omega) hcj
      cases l with
      | nil => exact stay fun m hm => absurd hm List.not_mem_nil
      | cons m r =>
        by_cases hm : m.time ≤ cs[k].time
        exact mv m r rfl (by omega)
        refine stay fun m' hm' => ?_
        rcases List.mem_cons.1 hm' with rfl | hm'
        omega; obtain ⟨x, hx, e1, e2, h0, h1, h2, h3⟩ := hr.inv; have := h3.le m' hm'; omega
    have hk0 : k = cs.length := by omega
    cases l with
    | nil =>
      cases hr
      subst hk0; exact ⟨τ, hg⟩
    | cons m r =>
      refine mv m r rfl ?_; obtain ⟨x, hx, e1, e2, h0, h1, h2, h3⟩ := hr.inv; have := step_span ok hx; unfold lastOf; rw [hk0, List.getElem?_eq_none (Nat.le_refl _)]; simp only; omega
def trc0 : Trc := ⟨0, q00, ⟨0, 0, 0⟩, false⟩
def goalS (C : Chn) (cs : List Cnd) (q : Spot) : Bool := allS C q.st && q.seen == cs.length
def histS (gs : Fnd Spot Trc) : Nat → Spot → List Mv
  | 0, _ => []
  | f + 1, q => if q = q00 then [] else match getG q gs with
    | none => []
    | some t => histS gs f t.frm ++ if t.moved then [t.move] else []
def fuelS (C : Chn) (cs : List Cnd) : Nat := C.es.length + 4 + cs.length + 1
def searchS (C : Chn) (cs : List Cnd) : Option (List Mv) := match (searchL Trc.time (waysS C cs) (goalS C cs) (fuelS C cs) [(q00, [trc0])] [q00]).1 with
  | some r => some (histS r.2 (fuelS C cs) r.1)
  | none => none
theorem cntB_le (n d : Nat) : cntB n d ≤ n := by
  unfold cntB; have := List.countP_le_length (p := fun i => d.testBit i) (l := List.range n); simpa using this
theorem step_gaps (ok : C.ok) {s : Sta} {x : Stp} (hx : x ∈ stepsS C s) (h : (s.gaps : Int) ≤ C.gaps) : (x.to_.gaps : Int) ≤ C.gaps := by
  rcases List.mem_append.1 hx with hx | hx
  · obtain ⟨i, e, t, h1, h2, rfl⟩ := mem_madeL.1 hx; unfold madeS at h2; split at h2
    cases h2
    cases h2; exact h
  obtain ⟨p, t', hp, g2, rfl⟩ := mem_passL.1 hx; unfold passedS at g2; split at g2
  cases g2
  rename_i hn
  cases g2
  simp only [not_or] at hn; simp only; omega
theorem get_bd (ok : C.ok) {cs : List Cnd} {q : Spot} {τ : Int} (h : Get Trc.time (waysS C cs) q00 q τ) : q.st.gaps ≤ 3 ∧ (q.st.gaps : Int) ≤ C.gaps ∧ q.seen ≤ cs.length := by
  have hg := ok.gaps
  suffices (q.st.gaps : Int) ≤ C.gaps ∧ q.seen ≤ cs.length from ⟨by omega, this⟩
  induction h with
  | root => exact ⟨by simp [q00]; omega, Nat.zero_le _⟩
  | step h hw ih =>
    rcases List.mem_append.1 hw with hw | hw
    · obtain ⟨c, h1, -, rfl⟩ := mem_condL.1 hw; have := (List.getElem?_eq_some_iff.1 h1).1; exact ⟨ih.1, by simp only; omega⟩
    obtain ⟨x, hx, hw⟩ := List.mem_flatMap.1 hw; obtain ⟨-, rfl⟩ := mem_moveL.1 hw; exact ⟨step_gaps ok hx ih.1, ih.2⟩
theorem lvl_q00 (C : Chn) : lvlQ C q00 = 0 := by simp [lvlQ, lvlS, q00, cntB]
theorem hist_trk {cs : List Cnd} {gs : Fnd Spot Trc} (h : Ptr Trc.time (waysS C cs) q00 gs) : ∀ (f : Nat) (q : Spot) (t : Trc), lvlQ C q < f → getG q gs = some t → ∃ ts, Trk Trc.time (waysS C cs) q00 q t.time ts ∧ movesT ts = histS gs f q := by
  intro f
  induction f with
  | zero => intro q t hf; omega
  | succ f ih =>
    intro q t hf hq; unfold histS; by_cases e : q = q00
    · subst e; rw [if_pos rfl]; obtain ⟨t', h1, h2⟩ := h.root; rw [hq] at h1
      cases h1
      rw [h2]; exact ⟨[], .root, rfl⟩
    rw [if_neg e, hq]; simp only; obtain ⟨p, tp, h1, h2⟩ := h.ptr q t hq e; have hl := (ways_ok C cs).lvl _ _ _ h2; simp only at hl; obtain ⟨ts, h3, h4⟩ := ih p tp (by omega) h1; have hf := ways_frm h2; simp only at hf; rw [hf, ← h4, ← movesT_snoc]; exact ⟨_, .step h3 h2, rfl⟩
def Sat (C : Chn) (l : List Mv) (c : Cnd) : Prop := ∃ l1 l2 s, l = l1 ++ l2 ∧ Run C ⟨0, 0, 0⟩ 0 l1 s ∧ (∀ m ∈ l1, m.time ≤ c.time) ∧ (∀ m ∈ l2, c.time < m.time) ∧ holdsS C c s = true
theorem search_law (ok : C.ok) {cs : List Cnd} (hs : Sorted cs) (h0 : ∀ c ∈ cs, 0 ≤ c.time) :
    (∀ l, searchS C cs = some l → Tell C l ∧ ∀ c ∈ cs, Sat C l c) ∧ (searchS C cs = none → ∀ l, Tell C l → (∀ c ∈ cs, Sat C l c) → False) := by
  have wok := ways_ok C cs
  have hst : Lay Trc.time (waysS C cs) (lvlQ C) q00 0 [(q00, [trc0])] [q00] := Lay.start trc0 rfl (lvl_q00 C) fun q τ hq hl => Get.zero wok hq hl
  have hb : ∀ q τ, Get Trc.time (waysS C cs) q00 q τ → lvlQ C q < 0 + fuelS C cs := by
    intro q τ hq; obtain ⟨b1, -, b3⟩ := get_bd ok hq; have := cntB_le C.es.length q.st.done; unfold lvlQ lvlS fuelS; omega
  rcases search_ok wok (lvl_q00 C) (goal := goalS C cs) (fuelS C cs) 0 _ _ hst hb (fun q τ _ hl => absurd hl (Nat.not_lt_zero _)) with ⟨q, gs, t, e, hg, hq, hp⟩ | ⟨gs, e, hg, hp⟩
  · unfold searchS; rw [e]; refine ⟨fun l hl => ?_, fun h => by cases h⟩; simp only [Option.some.injEq] at hl; have hgq := hp.get wok hq; obtain ⟨ts, h1, h2⟩ := hist_trk hp (fuelS C cs) q t (by have := hb q _ hgq; omega) hq; unfold goalS at hg; simp only [Bool.and_eq_true, beq_iff_eq] at hg; obtain ⟨k0, k1, k2, k3, k4, k5⟩ := trk_tell hs h0 h1; rw [h2, hl] at k1 k5; refine ⟨⟨q.st, k1, hg.1⟩, fun c hc => ?_⟩; obtain ⟨j, hj⟩ := List.getElem?_of_mem hc; obtain ⟨-, l1, l2, s, g1, g2, g3, g4, g5⟩ := k5 j c (by have := (List.getElem?_eq_some_iff.1 hj).1; omega) hj; exact ⟨l1, l2, s, g1, g2, g3, g4, g5⟩
  unfold searchS; rw [e]; refine ⟨fun l hl => (by cases hl), fun _ l hl hc => ?_⟩; obtain ⟨sf, hr, ha⟩ := hl
  obtain ⟨τ, hget⟩ := tell_get ok hs _ l 0 ⟨0, 0, 0⟩ sf 0 0 (Nat.le_refl _) (Nat.zero_le _) .root hr (fun m hm => hr.le m hm) fun j c _ hj => by
    obtain ⟨l1, l2, s, g1, g2, g3, g4, g5⟩ := hc c (List.mem_of_getElem? hj); exact ⟨l1, l2, s, 0, g1, g2, g3, g4, g5⟩
  have := (hg _ _ hget).1; unfold goalS at this; simp [ha] at this
end
section
variable {C : Chn}
abbrev s00 : Sta := ⟨0, 0, 0⟩
def earlyW (C : Chn) (s : Sta) (now : Int) : List (Sta × Int) := (stepsS C s).flatMap fun x => if x.at_.hi < max now x.at_.lo then [] else [(x.to_, max now x.at_.lo)]
abbrev tid : Int → Int := fun t => t
def fuelE (C : Chn) : Nat := C.es.length + 5
def earlyS (C : Chn) : Fnd Sta Int := (searchL tid (earlyW C) (fun _ => false) (fuelE C) [(s00, [0])] [s00]).2
theorem mem_earlyW {s : Sta} {now : Int} {w : Sta × Int} : w ∈ earlyW C s now ↔ ∃ x ∈ stepsS C s, max now x.at_.lo ≤ x.at_.hi ∧ w = (x.to_, max now x.at_.lo) := by
  unfold earlyW; rw [List.mem_flatMap]; constructor
  · rintro ⟨x, hx, h⟩; split at h
    cases h
    exact ⟨x, hx, by omega, List.mem_singleton.1 h⟩
  rintro ⟨x, hx, h1, h2⟩; exact ⟨x, hx, by rw [if_neg (by omega)]; exact List.mem_singleton.2 h2⟩
theorem early_ok (C : Chn) : WaysOk tid (earlyW C) (lvlS C) := by
  refine ⟨fun q τ w hw => ?_, fun q τ τ' w hle hw => ?_⟩
  · obtain ⟨x, hx, -, rfl⟩ := mem_earlyW.1 hw; exact step_lvl hx
  obtain ⟨x, hx, h1, rfl⟩ := mem_earlyW.1 hw; exact ⟨_, mem_earlyW.2 ⟨x, hx, by omega, rfl⟩, rfl, by simp only [tid]; omega⟩
theorem get_run {s : Sta} {τ : Int} (h : Get tid (earlyW C) s00 s τ) : 0 ≤ τ ∧ ∃ l, Run C s00 0 l s ∧ ∀ m ∈ l, m.time ≤ τ := by
  induction h with
  | root => exact ⟨Int.le_refl _, [], .nil, fun m hm => absurd hm List.not_mem_nil⟩
  | @step q τ w h hw ih =>
    obtain ⟨i0, l, h1, h2⟩ := ih; obtain ⟨x, hx, g1, rfl⟩ := mem_earlyW.1 hw; refine ⟨by simp only [tid]; omega, l ++ [⟨x.entry, x.dst, max τ x.at_.lo⟩], h1.snoc hx (by omega) (fun m hm => by have := h2 m hm; omega) (by omega) g1, fun m hm => ?_⟩
    rcases List.mem_append.1 hm with hm | hm
    have := h2 m hm; simp only [tid]; omega; rw [List.mem_singleton.1 hm]; exact Int.le_refl _
theorem run_get {T : Int} {s s' : Sta} {now : Int} {l : List Mv} (h : Run C s now l s') : ∀ {τ : Int}, Get tid (earlyW C) s00 s τ → (∀ m ∈ l, τ ≤ m.time ∧ m.time ≤ T) → τ ≤ T → ∃ τ', τ' ≤ T ∧ Get tid (earlyW C) s00 s' τ' := by
  induction h with
  | nil => intro τ hg _ hT; exact ⟨τ, hT, hg⟩
  | @cons s s' now t x l hx h0 h1 h2 h ih =>
    intro τ hg hl hT; have hm := hl _ List.mem_cons_self; simp only at hm; refine ih (Get.step (w := (x.to_, max τ x.at_.lo)) hg (mem_earlyW.2 ⟨x, hx, by omega, rfl⟩)) (fun m hm' => ?_) (by simp only [tid]; omega); have := h.le m hm'; have := hl m (List.mem_cons_of_mem _ hm'); simp only [tid]; omega
theorem early_gaps (ok : C.ok) {s : Sta} {τ : Int} (h : Get tid (earlyW C) s00 s τ) : (s.gaps : Int) ≤ C.gaps := by
  induction h with
  | root => exact ok.gaps.1
  | step h hw ih =>
    obtain ⟨x, hx, -, rfl⟩ := mem_earlyW.1 hw; exact step_gaps ok hx ih
theorem early_law (ok : C.ok) : Ptr tid (earlyW C) s00 (earlyS C) ∧ (∀ s τ, Get tid (earlyW C) s00 s τ → ∃ t, getG s (earlyS C) = some t ∧ t ≤ τ) := by
  have wok := early_ok C; have hl0 : lvlS C s00 = 0 := by simp [lvlS, cntB]
  have hst : Lay tid (earlyW C) (lvlS C) s00 0 [(s00, [0])] [s00] := Lay.start 0 rfl hl0 fun q τ hq hl => Get.zero wok hq hl
  have hb : ∀ q τ, Get tid (earlyW C) s00 q τ → lvlS C q < 0 + fuelE C := by
    intro q τ hq; have h1 := early_gaps ok hq; have := cntB_le C.es.length q.done; have := ok.gaps; unfold lvlS fuelE; omega
  rcases search_ok wok hl0 (goal := fun _ => false) (fuelE C) 0 _ _ hst hb (fun q τ _ hl => absurd hl (Nat.not_lt_zero _)) with ⟨q, gs, t, e, hg, hq, hp⟩ | ⟨gs, e, hg, hp⟩
  cases hg
  unfold earlyS; rw [e]; exact ⟨hp, fun s τ h => (hg s τ h).2⟩
def earlyF (C : Chn) (s : Sta) : Option Int := getG s (earlyS C)
theorem earlyF_some (ok : C.ok) {s : Sta} {t : Int} (h : earlyF C s = some t) : 0 ≤ t ∧ (s.gaps : Int) ≤ C.gaps ∧ ∃ l, Run C s00 0 l s ∧ ∀ m ∈ l, m.time ≤ t := by
  have hg := (early_law ok).1.get (early_ok C) h; obtain ⟨h1, h2⟩ := get_run hg; exact ⟨h1, early_gaps ok hg, h2⟩
theorem earlyF_le (ok : C.ok) {s : Sta} {l : List Mv} {T : Int} (h : Run C s00 0 l s) (hT : 0 ≤ T) (hl : ∀ m ∈ l, m.time ≤ T) : ∃ t, earlyF C s = some t ∧ t ≤ T := by
  obtain ⟨τ, h1, h2⟩ := run_get h .root (fun m hm => ⟨h.le m hm, hl m hm⟩) hT; obtain ⟨t, h3, h4⟩ := (early_law ok).2 s τ h2; exact ⟨t, h3, by omega⟩
def lateB (late : Sta → Int) (best : Int) (x : Stp) : Int := if x.at_.lo ≤ min x.at_.hi (late x.to_) then max best (min x.at_.hi (late x.to_)) else best
def lateV (C : Chn) : Nat → Sta → Int
  | 0, s => if allS C s = true then maxTime + 1 else -1
  | f + 1, s => if allS C s = true then maxTime + 1 else (stepsS C s).foldl (lateB (lateV C f)) (-1)
def topL (C : Chn) : Nat := C.es.length + C.gaps.toNat
def lateS (C : Chn) (s : Sta) : Int := lateV C (topL C + 1 - lvlS C s) s
theorem foldl_ext {α β : Type} {f g : β → α → β} : ∀ {l : List α} {b : β}, (∀ b, ∀ a ∈ l, f b a = g b a) → l.foldl f b = l.foldl g b
  | [], b, _ => rfl
  | a :: l, b, h => by
    rw [List.foldl_cons, List.foldl_cons, h b a List.mem_cons_self]
    exact foldl_ext fun b a ha => h b a (List.mem_cons_of_mem _ ha)
theorem lvl_top (ok : C.ok) {s : Sta} (h : (s.gaps : Int) ≤ C.gaps) : lvlS C s ≤ topL C := by
  have := cntB_le C.es.length s.done; have := ok.gaps; unfold lvlS topL; omega
theorem late_fuel (ok : C.ok) : ∀ (f g : Nat) (s : Sta), (s.gaps : Int) ≤ C.gaps → topL C < lvlS C s + f → topL C < lvlS C s + g → lateV C f s = lateV C g s
  | 0, g, s, hs, hf, hg => by have := lvl_top ok hs; omega
  | f + 1, 0, s, hs, hf, hg => by have := lvl_top ok hs; omega
  | f + 1, g + 1, s, hs, hf, hg => by
    unfold lateV; split
    rfl
    refine foldl_ext fun b x hx => ?_
    have hl := step_lvl hx; unfold lateB; rw [late_fuel ok f g x.to_ (step_gaps ok hx hs) (by omega) (by omega)]
theorem lateS_eq (ok : C.ok) {s : Sta} (hs : (s.gaps : Int) ≤ C.gaps) : lateS C s = if allS C s = true then maxTime + 1 else (stepsS C s).foldl (lateB (lateS C)) (-1) := by
  have h1 := lvl_top ok hs; unfold lateS; rw [show topL C + 1 - lvlS C s = topL C - lvlS C s + 1 by omega, lateV]; split
  rfl
  refine foldl_ext fun b x hx => ?_
  have hl := step_lvl hx; have h2 := step_gaps ok hx hs; have h3 := lvl_top ok h2; unfold lateB; show _ = if _ ≤ min _ (lateV C (topL C + 1 - lvlS C x.to_) x.to_) then max b (min _ (lateV C (topL C + 1 - lvlS C x.to_) x.to_)) else b
  rw [late_fuel ok (topL C - lvlS C s) (topL C + 1 - lvlS C x.to_) x.to_ h2 (by omega) (by omega)]
theorem lateB_le {late : Sta → Int} {b : Int} {x : Stp} : b ≤ lateB late b x := by unfold lateB; split <;> omega
theorem foldB_le {late : Sta → Int} : ∀ {l : List Stp} {b : Int}, b ≤ l.foldl (lateB late) b
  | [], b => Int.le_refl _
  | x :: l, b => by
    rw [List.foldl_cons]; have h1 := lateB_le (late := late) (b := b) (x := x); have h2 := foldB_le (late := late) (l := l) (b := lateB late b x); omega
theorem foldB_mem {late : Sta → Int} : ∀ {l : List Stp} {b : Int} {x : Stp}, x ∈ l → x.at_.lo ≤ min x.at_.hi (late x.to_) → min x.at_.hi (late x.to_) ≤ l.foldl (lateB late) b
  | y :: l, b, x, hx, h => by
    rw [List.foldl_cons]
    rcases List.mem_cons.1 hx with rfl | hx
    · have h2 := foldB_le (late := late) (l := l) (b := lateB late b x); have : min x.at_.hi (late x.to_) ≤ lateB late b x := by unfold lateB; rw [if_pos h]; omega
      omega
    exact foldB_mem hx h
theorem foldB_or {late : Sta → Int} : ∀ {l : List Stp} {b : Int}, l.foldl (lateB late) b = b ∨ ∃ x ∈ l, x.at_.lo ≤ min x.at_.hi (late x.to_) ∧ l.foldl (lateB late) b = min x.at_.hi (late x.to_)
  | [], b => .inl rfl
  | y :: l, b => by
    rw [List.foldl_cons]
    rcases foldB_or (late := late) (l := l) (b := lateB late b y) with h | ⟨x, hx, h1, h2⟩
    · rw [h]; unfold lateB; split
      · rename_i hle
        rcases Int.le_total b (min y.at_.hi (late y.to_)) with hb | hb
        exact .inr ⟨y, List.mem_cons_self, hle, by omega⟩; exact .inl (by omega)
      exact .inl rfl
    exact .inr ⟨x, List.mem_cons_of_mem _ hx, h1, h2⟩
theorem late_law (ok : C.ok) : ∀ (n : Nat) (s : Sta), (s.gaps : Int) ≤ C.gaps → topL C - lvlS C s ≤ n → ∀ τ : Int, 0 ≤ τ → τ ≤ maxTime + 1 → (τ ≤ lateS C s ↔ ∃ l s', Run C s τ l s' ∧ allS C s' = true) := by
  intro n
  induction n with
  | zero =>
    intro s hs hn τ h0 h1
    have hno : ∀ x ∈ stepsS C s, False := fun x hx => by
      have := step_lvl hx; have := lvl_top ok (step_gaps ok hx hs); have := lvl_top ok hs; omega
    rw [lateS_eq ok hs]; by_cases ha : allS C s = true
    · rw [if_pos ha]; exact ⟨fun _ => ⟨[], s, .nil, ha⟩, fun _ => h1⟩
    rw [if_neg ha, List.eq_nil_iff_forall_not_mem.2 fun x hx => hno x hx]; refine ⟨fun h => by simp at h; omega, fun ⟨l, s', h, h'⟩ => ?_⟩
    cases h with
    | nil => exact absurd h' ha
    | cons hx _ _ _ _ => exact (hno _ hx).elim
  | succ n ih =>
    intro s hs hn τ h0 h1; rw [lateS_eq ok hs]; by_cases ha : allS C s = true
    · rw [if_pos ha]; exact ⟨fun _ => ⟨[], s, .nil, ha⟩, fun _ => h1⟩
    rw [if_neg ha]
    have hnx : ∀ x ∈ stepsS C s, topL C - lvlS C x.to_ ≤ n := fun x hx => by
      have := step_lvl hx; omega
    constructor
    · intro h
      rcases foldB_or (late := lateS C) (l := stepsS C s) (b := -1) with h2 | ⟨x, hx, h2, h3⟩
      rw [h2] at h; omega; rw [h3] at h; have hsp := step_span ok hx; obtain ⟨l, s', g1, g2⟩ := (ih x.to_ (step_gaps ok hx hs) (hnx x hx) (min x.at_.hi (lateS C x.to_)) (by omega) (by omega)).1 (by omega); exact ⟨_, s', .cons hx h h2 (by omega) g1, g2⟩
    rintro ⟨l, s', h, h'⟩
    cases h with
    | nil => exact absurd h' ha
    | @cons _ _ _ t x l hx g0 g1 g2 g =>
      have hsp := step_span ok hx; have := (ih x.to_ (step_gaps ok hx hs) (hnx x hx) t (by omega) (by omega)).2 ⟨l, s', g, h'⟩; have := foldB_mem (late := lateS C) (b := -1) hx (by omega); omega
theorem lateS_iff (ok : C.ok) {s : Sta} (hs : (s.gaps : Int) ≤ C.gaps) {τ : Int} (h0 : 0 ≤ τ) (h1 : τ ≤ maxTime + 1) : τ ≤ lateS C s ↔ ∃ l s', Run C s τ l s' ∧ allS C s' = true := late_law ok _ s hs (Nat.le_refl _) τ h0 h1
def stayF (C : Chn) (s : Sta) : Option Spn := match earlyF C s with
  | some t => if t < lateS C s then some ⟨t, lateS C s - 1⟩ else none
  | none => none
theorem Run.append {s s1 s2 : Sta} {now now' : Int} {l1 l2 : List Mv} (h : Run C s now l1 s1) (h' : Run C s1 now' l2 s2) (hl : ∀ m ∈ l1, m.time ≤ now') (hn : now ≤ now') : Run C s now (l1 ++ l2) s2 := by
  induction h with
  | nil => exact h'.now fun m hm => by have := h'.le m hm; omega
  | @cons s s' now t x l hx h0 h1 h2 h ih => exact .cons hx h0 h1 h2 (ih h' (fun m hm => hl m (List.mem_cons_of_mem _ hm)) (hl _ List.mem_cons_self))
end
section
variable {C : Chn}
def fitsM (m : Mv) (x : Stp) : Bool := x.entry == m.entry && x.dst == m.dst && decide (x.at_.lo ≤ m.time) && decide (m.time ≤ x.at_.hi)
def matchB (m : Mv) (acc : Option Sta) (x : Stp) : Option Sta := if fitsM m x = true then some x.to_ else acc
def matchS (C : Chn) (s : Sta) (m : Mv) : Option Sta := (stepsS C s).foldl (matchB m) none
theorem fits_iff {m : Mv} {x : Stp} : fitsM m x = true ↔ x.entry = m.entry ∧ x.dst = m.dst ∧ x.at_.lo ≤ m.time ∧ m.time ≤ x.at_.hi := by simp [fitsM, and_assoc]
theorem foldM_none {m : Mv} : ∀ {l : List Stp} {acc : Option Sta}, (∀ x ∈ l, fitsM m x = false) → l.foldl (matchB m) acc = acc
  | [], acc, _ => rfl
  | x :: l, acc, h => by
    rw [List.foldl_cons, matchB, if_neg (by rw [h x List.mem_cons_self]; simp)]
    exact foldM_none fun y hy => h y (List.mem_cons_of_mem _ hy)
theorem foldM_some {m : Mv} {s' : Sta} : ∀ {l : List Stp} {acc : Option Sta}, (∀ x ∈ l, fitsM m x = true → x.to_ = s') → (acc = some s' ∨ ∃ x ∈ l, fitsM m x = true) → l.foldl (matchB m) acc = some s'
  | [], acc, _, h => by
    rcases h with h | ⟨x, hx, _⟩
    exact h
    cases hx
  | x :: l, acc, h, h' => by
    rw [List.foldl_cons]; refine foldM_some (fun y hy => h y (List.mem_cons_of_mem _ hy)) ?_; unfold matchB; by_cases hf : fitsM m x = true
    · rw [if_pos hf]; exact .inl (by rw [h x List.mem_cons_self hf])
    rw [if_neg hf]
    rcases h' with h' | ⟨y, hy, hy'⟩
    exact .inl h'
    rcases List.mem_cons.1 hy with rfl | hy
    exact absurd hy' hf; exact .inr ⟨y, hy, hy'⟩
theorem match_some (ok : C.ok) {s s' : Sta} {m : Mv} : matchS C s m = some s' ↔ ∃ x ∈ stepsS C s, x.entry = m.entry ∧ x.dst = m.dst ∧ x.at_.lo ≤ m.time ∧ m.time ≤ x.at_.hi ∧ s' = x.to_ := by
  constructor
  · intro h; apply Classical.byContradiction; intro hn; by_cases he : ∃ x ∈ stepsS C s, fitsM m x = true
    · obtain ⟨x, hx, hf⟩ := he
      have : matchS C s m = some x.to_ := foldM_some (fun y hy hy' => by
        obtain ⟨a, b, -, -⟩ := fits_iff.1 hf; obtain ⟨a', b', -, -⟩ := fits_iff.1 hy'
        rw [steps_det ok hx hy (a.trans a'.symm) (b.trans b'.symm)]) (.inr ⟨x, hx, hf⟩)
      rw [this] at h
      cases h
      obtain ⟨a, b, c, d⟩ := fits_iff.1 hf; exact hn ⟨x, hx, a, b, c, d, rfl⟩
    have : matchS C s m = none := foldM_none fun x hx => by
      cases hf : fitsM m x with
      | false => rfl
      | true => exact absurd ⟨x, hx, hf⟩ he
    rw [this] at h
    cases h
  rintro ⟨x, hx, a, b, c, d, rfl⟩; have hf := fits_iff.2 ⟨a, b, c, d⟩
  exact foldM_some (fun y hy hy' => by
    obtain ⟨a', b', -, -⟩ := fits_iff.1 hy'
    rw [steps_det ok hx hy (a.trans a'.symm) (b.trans b'.symm)]) (.inr ⟨x, hx, hf⟩)
def playR (C : Chn) (t : Int) : Sta → Int → Sta → List Mv → Option (Sta × Sta)
  | s, _, b, [] => some (s, b)
  | s, now, b, m :: l => match matchS C s m with
    | none => none
    | some s' => if m.time < now then none else playR C t s' m.time (if m.time ≤ t then s' else b) l
def playS (C : Chn) (l : List Mv) (t : Int) : Sta × Bool := match playR C t s00 0 s00 l with
  | some (s, b) => (b, allS C s)
  | none => (s00, false)
theorem play_run (ok : C.ok) {t : Int} : ∀ {l : List Mv} {s sf : Sta} {now : Int} {b b' : Sta}, playR C t s now b l = some (sf, b') → Run C s now l sf
  | [], s, sf, now, b, b', h => by cases h; exact .nil
  | m :: l, s, sf, now, b, b', h => by
    unfold playR at h
    cases hm : matchS C s m with
    | none => rw [hm] at h; cases h
    | some s' =>
      rw [hm] at h; simp only at h; split at h
      cases h
      obtain ⟨x, hx, e1, e2, h1, h2, rfl⟩ := (match_some ok).1 hm; obtain ⟨me, md, mt⟩ := m; simp only at e1 e2 h1 h2; subst e1; subst e2; exact .cons hx (by simp only at *; omega) h1 h2 (play_run ok h)
theorem play_beh (ok : C.ok) {t : Int} : ∀ {l : List Mv} {s sf : Sta} {now : Int} {b b' : Sta}, playR C t s now b l = some (sf, b') → ∃ l1 l2 sm, l = l1 ++ l2 ∧ Run C s now l1 sm ∧ (∀ m ∈ l1, m.time ≤ t) ∧ (∀ m ∈ l2, t < m.time) ∧ b' = if l1 = [] then b else sm
  | [], s, sf, now, b, b', h => by cases h; exact ⟨[], [], s, rfl, .nil, fun m hm => absurd hm List.not_mem_nil, fun m hm => absurd hm List.not_mem_nil, by rw [if_pos rfl]⟩
  | m :: l, s, sf, now, b, b', h => by
    have hr := play_run ok h; unfold playR at h
    cases hm : matchS C s m with
    | none => rw [hm] at h; cases h
    | some s' =>
      rw [hm] at h; simp only at h; split at h
      cases h
      rename_i hlt; obtain ⟨x, hx, e1, e2, h1, h2, rfl⟩ := (match_some ok).1 hm; have hr2 := play_run ok h; by_cases ht : m.time ≤ t
      · rw [if_pos ht] at h; obtain ⟨l1, l2, sm, rfl, g1, g2, g3, g4⟩ := play_beh ok h; obtain ⟨me, md, mt⟩ := m; simp only at e1 e2 h1 h2 ht hlt; subst e1; subst e2; refine ⟨_ :: l1, l2, sm, rfl, .cons hx (by omega) h1 h2 g1, fun m' hm' => ?_, g3, ?_⟩
        · rcases List.mem_cons.1 hm' with rfl | hm'
          exact ht; exact g2 m' hm'
        rw [if_neg (by simp), g4]; split
        · rename_i e; subst e
          cases g1
          rfl
        rfl
      rw [if_neg ht] at h
      have hall : ∀ m' ∈ m :: l, t < m'.time := fun m' hm' => by
        rcases List.mem_cons.1 hm' with rfl | hm'
        omega; have := hr2.le m' hm'; omega
      refine ⟨[], m :: l, s, rfl, .nil, fun m' hm' => absurd hm' List.not_mem_nil, hall, ?_⟩; rw [if_pos rfl]; obtain ⟨l1, l2, sm, e, g1, g2, g3, g4⟩ := play_beh ok h; rw [g4]
      cases l1 with
      | nil => rw [if_pos rfl]
      | cons y l1 =>
        have h1 := g2 y List.mem_cons_self; have h2 := hall y (by rw [e]; exact List.mem_cons_of_mem _ List.mem_cons_self); omega
theorem run_play (ok : C.ok) {t : Int} {s sf : Sta} {now : Int} {l : List Mv} (h : Run C s now l sf) : ∀ (b : Sta), ∃ b', playR C t s now b l = some (sf, b') := by
  induction h with
  | nil => exact fun b => ⟨b, rfl⟩
  | @cons s s' now t' x l hx h0 h1 h2 h ih =>
    intro b; unfold playR; rw [(match_some ok).2 ⟨x, hx, rfl, rfl, h1, h2, rfl⟩]; simp only; rw [if_neg (by omega)]; exact ih _
theorem play_law (ok : C.ok) (l : List Mv) (t : Int) : ((playS C l t).2 = true ↔ Tell C l) ∧ (Tell C l → ∃ l1 l2, l = l1 ++ l2 ∧ Run C s00 0 l1 (playS C l t).1 ∧ (∀ m ∈ l1, m.time ≤ t) ∧ ∀ m ∈ l2, t < m.time) := by
  have key : Tell C l → (playS C l t).2 = true ∧ ∃ l1 l2, l = l1 ++ l2 ∧ Run C s00 0 l1 (playS C l t).1 ∧ (∀ m ∈ l1, m.time ≤ t) ∧ ∀ m ∈ l2, t < m.time := by
    rintro ⟨sf, hr, ha⟩; obtain ⟨b', hp⟩ := run_play ok (t := t) hr s00; obtain ⟨l1, l2, sm, g0, g1, g2, g3, g4⟩ := play_beh ok hp; unfold playS; rw [hp]; refine ⟨ha, l1, l2, g0, ?_, g2, g3⟩; simp only; rw [g4]; split
    · rename_i e; subst e; exact .nil
    exact g1
  refine ⟨⟨fun h => ?_, fun h => (key h).1⟩, fun h => (key h).2⟩; unfold playS at h
  cases hp : playR C t s00 0 s00 l with
  | none => rw [hp] at h; cases h
  | some r =>
    obtain ⟨sf, b⟩ := r; rw [hp] at h; exact ⟨sf, play_run ok hp, h⟩
end
section
variable {C : Chn}
def TimeOf (C : Chn) (id τ : Int) : Prop := ∃ l, Tell C l ∧ ∃ m ∈ l, m.entry = id ∧ m.time = τ
theorem Run.sorted {s s' : Sta} {now : Int} : ∀ {l1 l2 : List Mv} {m : Mv}, Run C s now (l1 ++ m :: l2) s' → ∀ m' ∈ l1, m'.time ≤ m.time
  | [], l2, m, h, m', hm' => absurd hm' List.not_mem_nil
  | y :: l1, l2, m, h, m', hm' => by
    rw [List.cons_append] at h; obtain ⟨x, hx, -, -, -, -, -, g⟩ := h.inv
    rcases List.mem_cons.1 hm' with rfl | hm'
    exact g.le m (List.mem_append.2 (.inr List.mem_cons_self)); exact Run.sorted g m' hm'
def lowOf (t : Int) (x : Stp) : Int := max t x.at_.lo
def highOf (C : Chn) (x : Stp) : Int := min x.at_.hi (lateS C x.to_)
theorem when_iff (ok : C.ok) {id τ : Int} : TimeOf C id τ ↔ ∃ s t x, earlyF C s = some t ∧ x ∈ stepsS C s ∧ x.entry = id ∧ lowOf t x ≤ τ ∧ τ ≤ highOf C x := by
  unfold lowOf highOf; constructor
  · rintro ⟨l, ⟨sf, hr, ha⟩, m, hm, h1, h2⟩; obtain ⟨l1, l2, rfl⟩ := List.append_of_mem hm; have hsr := hr.sorted; obtain ⟨s, g1, g2⟩ := hr.split; obtain ⟨x, hx, e1, e2, h3, h4, h5, g3⟩ := g2.inv; have hsp := step_span ok hx; have h0 : 0 ≤ m.time := by omega
    obtain ⟨t, k1, k2⟩ := earlyF_le ok g1 h0 hsr; obtain ⟨-, hg, -⟩ := earlyF_some ok k1; have := (lateS_iff ok (step_gaps ok hx hg) (τ := m.time) h0 (by omega)).2 ⟨l2, sf, g3, ha⟩; exact ⟨s, t, x, k1, hx, by omega, by omega, by omega⟩
  rintro ⟨s, t, x, h1, hx, rfl, h2, h3⟩; have hsp := step_span ok hx; obtain ⟨e0, hg, l1, g1, g2⟩ := earlyF_some ok h1; obtain ⟨l2, sf, g3, g4⟩ := (lateS_iff ok (step_gaps ok hx hg) (τ := τ) (by omega) (by omega)).1 (by omega); refine ⟨l1 ++ ⟨x.entry, x.dst, τ⟩ :: l2, ⟨sf, g1.append (.cons hx (Int.le_refl _) (by omega) (by omega) g3 : Run C s τ _ sf) (fun m hm => by have := g2 m hm; omega) (by omega), g4⟩, _, List.mem_append.2 (.inr List.mem_cons_self), rfl, rfl⟩
def candL (C : Chn) (id : Int) (g : Sta × Int) : List Spn := (stepsS C g.1).flatMap fun x => if x.entry = id ∧ lowOf g.2 x ≤ highOf C x then [⟨lowOf g.2 x, highOf C x⟩] else []
def wider (o c : Spn) : Spn := ⟨min o.lo c.lo, max o.hi c.hi⟩
def whenL (C : Chn) (id : Int) (gs : List (Sta × Int)) : Spn := (gs.flatMap (candL C id)).foldl wider ⟨maxTime + 1, -1⟩
theorem mem_candL {id : Int} {g : Sta × Int} {c : Spn} : c ∈ candL C id g ↔ ∃ x ∈ stepsS C g.1, x.entry = id ∧ lowOf g.2 x ≤ highOf C x ∧ c = ⟨lowOf g.2 x, highOf C x⟩ := by
  unfold candL; rw [List.mem_flatMap]; constructor
  · rintro ⟨x, hx, h⟩; split at h
    · rename_i hc; exact ⟨x, hx, hc.1, hc.2, List.mem_singleton.1 h⟩
    cases h
  rintro ⟨x, hx, h1, h2, h3⟩; exact ⟨x, hx, by rw [if_pos ⟨h1, h2⟩]; exact List.mem_singleton.2 h3⟩
theorem wide_bd : ∀ {l : List Spn} {o : Spn}, (l.foldl wider o).lo ≤ o.lo ∧ o.hi ≤ (l.foldl wider o).hi ∧ (∀ c ∈ l, (l.foldl wider o).lo ≤ c.lo ∧ c.hi ≤ (l.foldl wider o).hi)
  | [], o => ⟨Int.le_refl _, Int.le_refl _, fun c hc => absurd hc List.not_mem_nil⟩
  | c :: l, o => by
    rw [List.foldl_cons]; obtain ⟨h1, h2, h3⟩ := wide_bd (l := l) (o := wider o c); have e1 : (wider o c).lo = min o.lo c.lo := rfl; have e2 : (wider o c).hi = max o.hi c.hi := rfl; refine ⟨by omega, by omega, fun d hd => ?_⟩
    rcases List.mem_cons.1 hd with rfl | hd
    omega; exact h3 d hd
theorem wide_at : ∀ {l : List Spn} {o : Spn}, ((l.foldl wider o).lo = o.lo ∨ ∃ c ∈ l, (l.foldl wider o).lo = c.lo) ∧ ((l.foldl wider o).hi = o.hi ∨ ∃ c ∈ l, (l.foldl wider o).hi = c.hi)
  | [], o => ⟨.inl rfl, .inl rfl⟩
  | c :: l, o => by
    rw [List.foldl_cons]; obtain ⟨h1, h2⟩ := wide_at (l := l) (o := wider o c); have e1 : (wider o c).lo = min o.lo c.lo := rfl; have e2 : (wider o c).hi = max o.hi c.hi := rfl; constructor
    · rcases h1 with h1 | ⟨d, hd, h1⟩
      · rcases Int.le_total o.lo c.lo with h | h
        exact .inl (by omega); exact .inr ⟨c, List.mem_cons_self, by omega⟩
      exact .inr ⟨d, List.mem_cons_of_mem _ hd, h1⟩
    rcases h2 with h2 | ⟨d, hd, h2⟩
    · rcases Int.le_total o.hi c.hi with h | h
      exact .inr ⟨c, List.mem_cons_self, by omega⟩; exact .inl (by omega)
    exact .inr ⟨d, List.mem_cons_of_mem _ hd, h2⟩
theorem whenL_law (ok : C.ok) {id : Int} {gs : List (Sta × Int)} (hg : ∀ s t, (s, t) ∈ gs ↔ earlyF C s = some t) :
    (∀ τ, TimeOf C id τ → (whenL C id gs).lo ≤ τ ∧ τ ≤ (whenL C id gs).hi) ∧ (0 ≤ (whenL C id gs).hi → TimeOf C id (whenL C id gs).lo ∧ TimeOf C id (whenL C id gs).hi) ∧ ((∃ τ, TimeOf C id τ) → 0 ≤ (whenL C id gs).hi) := by
  have hc : ∀ c, c ∈ gs.flatMap (candL C id) ↔ ∃ s t x, earlyF C s = some t ∧ x ∈ stepsS C s ∧ x.entry = id ∧ lowOf t x ≤ highOf C x ∧ c = ⟨lowOf t x, highOf C x⟩ := by
    intro c; rw [List.mem_flatMap]; constructor
    · rintro ⟨⟨s, t⟩, h1, h2⟩; obtain ⟨x, g1, g2, g3, g4⟩ := mem_candL.1 h2; exact ⟨s, t, x, (hg s t).1 h1, g1, g2, g3, g4⟩
    rintro ⟨s, t, x, h1, g1, g2, g3, g4⟩; exact ⟨(s, t), (hg s t).2 h1, mem_candL.2 ⟨x, g1, g2, g3, g4⟩⟩
  have h1 := wide_bd (l := gs.flatMap (candL C id)) (o := ⟨maxTime + 1, -1⟩); have h2 := wide_at (l := gs.flatMap (candL C id)) (o := ⟨maxTime + 1, -1⟩)
  have a : ∀ τ, TimeOf C id τ → (whenL C id gs).lo ≤ τ ∧ τ ≤ (whenL C id gs).hi := by
    intro τ hτ; obtain ⟨s, t, x, k1, k2, k3, k4, k5⟩ := (when_iff ok).1 hτ; have := h1.2.2 _ ((hc _).2 ⟨s, t, x, k1, k2, k3, by omega, rfl⟩); unfold whenL; simp only at this; omega
  have b : ∀ τ, TimeOf C id τ → 0 ≤ τ := by
    rintro τ ⟨l, ⟨sf, hr, -⟩, m, hm, -, rfl⟩; exact hr.le m hm
  refine ⟨a, fun h0 => ⟨?_, ?_⟩, fun ⟨τ, hτ⟩ => by have := a τ hτ; have := b τ hτ; omega⟩
  · unfold whenL at h0 ⊢
    rcases h2.1 with h | ⟨c, hm, h⟩
    · rcases h2.2 with h' | ⟨c, hm, h'⟩
      simp only at h'; omega; obtain ⟨s, t, x, k1, k2, k3, k4, rfl⟩ := (hc c).1 hm; have := h1.2.2 _ hm; have hsp := step_span ok k2; simp only at this h; unfold lowOf highOf at k4 this; unfold maxTime at *; omega
    obtain ⟨s, t, x, k1, k2, k3, k4, rfl⟩ := (hc c).1 hm; rw [h]; exact (when_iff ok).2 ⟨s, t, x, k1, k2, k3, Int.le_refl _, k4⟩
  unfold whenL at h0 ⊢
  rcases h2.2 with h' | ⟨c, hm, h'⟩
  simp only at h'; omega; obtain ⟨s, t, x, k1, k2, k3, k4, rfl⟩ := (hc c).1 hm; rw [h']; exact (when_iff ok).2 ⟨s, t, x, k1, k2, k3, k4, Int.le_refl _⟩
theorem Run.lvl {s s' : Sta} {now : Int} {l : List Mv} (h : Run C s now l s') : lvlS C s' = lvlS C s + l.length := by
  induction h with
  | nil => rfl
  | cons hx _ _ _ _ ih => rw [ih, step_lvl hx]; simp; omega
theorem Run.gaps (ok : C.ok) {s s' : Sta} {now : Int} {l : List Mv} (h : Run C s now l s') (hs : (s.gaps : Int) ≤ C.gaps) : (s'.gaps : Int) ≤ C.gaps := by
  induction h with
  | nil => exact hs
  | cons hx _ _ _ _ ih => exact ih (step_gaps ok hx hs)
theorem tell_len (ok : C.ok) {l : List Mv} (h : Tell C l) : l.length ≤ C.es.length + 3 := by
  obtain ⟨sf, hr, -⟩ := h; have h1 := hr.lvl; have h2 := hr.gaps ok (by simpa using ok.gaps.1); have h3 := lvl_top ok h2; have h4 : lvlS C s00 = 0 := by simp [lvlS, cntB]
  have := ok.gaps; unfold topL at h3; omega
end
section
def idOk (n : Int) : Bool := decide (1 ≤ n ∧ n ≤ 1099511627776)
def timeOk (t : Int) : Bool := decide (0 ≤ t ∧ t ≤ maxTime)
def validS (s : Spn) : Bool := timeOk s.lo && timeOk s.hi && decide (s.lo ≤ s.hi)
def dutyOk : Option Int → List Spn → Bool
  | _, [] => true
  | h, s :: r => validS s && (match h with
    | none => true
    | some x => decide (x < s.lo)) && dutyOk (some s.hi) r
def persOk (p : Pers) : Bool := dutyOk none p.duty && idOk p.id && decide (p.duty.length ≤ 6)
def scanE {α : Type} (bad : Option α → α → Int) : Option α → List α → Int
  | _, [] => 0
  | q, x :: r => if bad q x ≠ 0 then bad q x else scanE bad (some x) r
def badPers (q : Option Pers) (p : Pers) : Int := if persOk p = false then 1 else match q with
  | some x => if p.id ≤ x.id then 6 else 0
  | none => 0
def badKey (q : Option Int) (k : Int) : Int := if idOk k = false then 1 else match q with
  | some x => if k ≤ x then 6 else 0
  | none => 0
def listsE (c : Book) : Int := if scanE badPers none c.people ≠ 0 then scanE badPers none c.people else scanE badKey none c.keys
def kindOk (ps : List Pers) (e : Entr) : Bool :=
  if e.kind = 1 then decide (e.src ≠ e.dst) && hangsP ps e.src && hangsP ps e.dst
  else if e.kind = 2 then knownP ps e.src && decide (e.dst = 0)
  else if e.kind = 3 then hangsP ps e.src && decide (e.dst = 0)
  else if e.kind = 4 then hangsP ps e.dst && decide (e.src = 0)
  else false
def entrOk (c : Book) (e : Entr) : Bool := idOk e.id && c.keys.contains e.key && validS e.at_ && kindOk c.people e
def entrsE (c : Book) : List Entr → List Entr → Int
  | _, [] => 0
  | d, e :: r => if entrOk c e = false then 1 else if d.any (fun x => x.id == e.id) = true then 6 else if (d.filter fun x => x.key == e.key).length = 7 then 2 else entrsE c (d ++ [e]) r
def checkE (c : Book) : Int := if c.gaps < 0 ∨ 3 < c.gaps then 1 else if 8 < c.people.length ∨ 8 < c.keys.length ∨ 40 < c.entries.length then 2 else if listsE c ≠ 0 then listsE c else entrsE c [] c.entries
def Inc (l : List Int) : Prop := l.Pairwise (· < ·)
structure Book.ok (c : Book) : Prop where
  gaps : 0 ≤ c.gaps ∧ c.gaps ≤ 3
  lens : c.people.length ≤ 8 ∧ c.keys.length ≤ 8 ∧ c.entries.length ≤ 40
  pers : ∀ p ∈ c.people, persOk p = true
  incp : Inc (c.people.map (·.id))
  keys : ∀ k ∈ c.keys, idOk k = true
  inck : Inc c.keys
  entr : ∀ e ∈ c.entries, entrOk c e = true
  nd : (c.entries.map (·.id)).Nodup
  few : ∀ k, (c.entries.filter fun e => e.key == k).length ≤ 7
theorem scan_inc {α : Type} {bad : Option α → α → Int} {v : α → Bool} {f : α → Int} (hb : ∀ q x, bad q x = if v x = false then 1 else match q with | some y => if f x ≤ f y then 6 else 0 | none => 0) :
    ∀ (l : List α) (q : Option α), scanE bad q l = 0 ↔ (∀ x ∈ l, v x = true) ∧ Inc (l.map f) ∧ ∀ y, q = some y → ∀ x ∈ l, f y < f x
  | [], q => by simp [scanE, Inc]
  | x :: l, q => by
    have ih := scan_inc hb l (some x); unfold scanE
    have h0 : bad q x = 0 ↔ v x = true ∧ ∀ y, q = some y → f y < f x := by
      rw [hb]
      cases hv : v x with
      | false => simp
      | true =>
        cases q with
        | none => simp
        | some y => simp
    constructor
    · intro h; by_cases hq : bad q x = 0
      · rw [if_neg (by simpa using hq)] at h; obtain ⟨g1, g2, g3⟩ := ih.1 h; obtain ⟨k1, k2⟩ := h0.1 hq; refine ⟨fun z hz => ?_, ?_, fun y hy z hz => ?_⟩
        · rcases List.mem_cons.1 hz with rfl | hz
          exact k1; exact g1 z hz
        · unfold Inc at *; rw [List.map_cons, List.pairwise_cons]; refine ⟨fun a ha => ?_, g2⟩; obtain ⟨z, hz, rfl⟩ := List.mem_map.1 ha; exact g3 x rfl z hz
        rcases List.mem_cons.1 hz with rfl | hz
        exact k2 y hy; have := k2 y hy; have := g3 x rfl z hz; omega
      rw [if_pos hq] at h; exact absurd h hq
    rintro ⟨g1, g2, g3⟩; have hq : bad q x = 0 := h0.2 ⟨g1 x List.mem_cons_self, fun y hy => g3 y hy x List.mem_cons_self⟩; rw [if_neg (by simpa using hq)]; unfold Inc at g2; rw [List.map_cons, List.pairwise_cons] at g2; refine ih.2 ⟨fun z hz => g1 z (List.mem_cons_of_mem _ hz), g2.2, fun y hy z hz => ?_⟩
    cases hy
    exact g2.1 _ (List.mem_map_of_mem hz)
theorem entrs_ok (c : Book) : ∀ (r d : List Entr), (d.map (·.id)).Nodup → (∀ k, (d.filter fun e => e.key == k).length ≤ 7) → (entrsE c d r = 0 ↔ (∀ e ∈ r, entrOk c e = true) ∧ ((d ++ r).map (·.id)).Nodup ∧ ∀ k, ((d ++ r).filter fun e => e.key == k).length ≤ 7)
  | [], d, hd, hk => by simp [entrsE, hd]; exact hk
  | e :: r, d, hd, hk => by
    unfold entrsE; have he : d ++ e :: r = d ++ [e] ++ r := by simp
    rw [he]; by_cases h1 : entrOk c e = true
    · rw [if_neg (by simp [h1])]; by_cases h2 : d.any (fun x => x.id == e.id) = true
      · rw [if_pos h2]; refine ⟨fun h => by simp at h, fun ⟨_, hn, _⟩ => ?_⟩; exfalso; obtain ⟨x, hx, hxe⟩ := List.any_eq_true.1 h2; have hxe : x.id = e.id := by simpa using hxe
        rw [List.append_assoc, List.map_append] at hn; exact (List.nodup_append.1 hn).2.2 x.id (List.mem_map_of_mem hx) e.id (by simp) hxe
      rw [if_neg h2]
      have hnd : ((d ++ [e]).map (·.id)).Nodup := by
        rw [List.map_append]; refine List.nodup_append.2 ⟨hd, by simp, fun a ha b hb hab => ?_⟩; obtain ⟨x, hx, rfl⟩ := List.mem_map.1 ha; simp at hb; subst hb; exact h2 (List.any_eq_true.2 ⟨x, hx, by simpa using hab⟩)
      by_cases h3 : (d.filter fun x => x.key == e.key).length = 7
      · rw [if_pos h3]; refine ⟨fun h => by simp at h, fun ⟨_, _, hf⟩ => ?_⟩; exfalso; have := hf e.key; rw [List.filter_append, List.filter_append, List.length_append, List.length_append, h3] at this; simp at this; omega
      rw [if_neg h3]
      have hk2 : ∀ k, ((d ++ [e]).filter fun e => e.key == k).length ≤ 7 := by
        intro k; rw [List.filter_append, List.length_append]; by_cases hek : e.key = k
        · subst hek; have := hk e.key; simp; omega
        have := hk k; simp [hek]; exact this
      rw [entrs_ok c r (d ++ [e]) hnd hk2]; constructor
      · rintro ⟨a, b, c'⟩; refine ⟨fun x hx => ?_, b, c'⟩
        rcases List.mem_cons.1 hx with rfl | hx
        exact h1; exact a x hx
      rintro ⟨a, b, c'⟩; exact ⟨fun x hx => a x (List.mem_cons_of_mem _ hx), b, c'⟩
    rw [if_pos (by simpa using h1)]; exact ⟨fun h => by simp at h, fun ⟨a, _, _⟩ => absurd (a e List.mem_cons_self) h1⟩
theorem check_ok (c : Book) : checkE c = 0 ↔ c.ok := by
  unfold checkE; have hp := scan_inc (bad := badPers) (v := persOk) (f := (·.id)) (fun q x => by cases q <;> rfl) c.people none; have hk := scan_inc (bad := badKey) (v := idOk) (f := id) (fun q x => by cases q <;> rfl) c.keys none; have he := entrs_ok c c.entries [] (by simp) (fun k => by simp); rw [List.nil_append] at he; rw [List.map_id] at hk; by_cases h1 : c.gaps < 0 ∨ 3 < c.gaps
  · rw [if_pos h1]; exact ⟨fun h => by simp at h, fun h => by have := h.gaps; omega⟩
  rw [if_neg h1]; by_cases h2 : 8 < c.people.length ∨ 8 < c.keys.length ∨ 40 < c.entries.length
  · rw [if_pos h2]; exact ⟨fun h => by simp at h, fun h => by have := h.lens; omega⟩
  rw [if_neg h2]; by_cases h3 : listsE c = 0
  · rw [if_neg (by simpa using h3)]; unfold listsE at h3; by_cases h4 : scanE badPers none c.people = 0
    · rw [if_neg (by simpa using h4)] at h3; obtain ⟨p1, p2, -⟩ := hp.1 h4; obtain ⟨k1, k2, -⟩ := hk.1 h3; rw [he]; exact ⟨fun ⟨a, b, d⟩ => ⟨by omega, by omega, p1, p2, k1, k2, a, b, d⟩, fun h => ⟨h.entr, h.nd, h.few⟩⟩
    rw [if_pos h4] at h3; exact absurd h3 h4
  rw [if_pos h3]; refine ⟨fun h => absurd h h3, fun h => absurd ?_ h3⟩; unfold listsE; rw [if_neg (by simpa using hp.2 ⟨h.pers, h.incp, fun y hy => by cases hy⟩)]; exact hk.2 ⟨h.keys, h.inck, fun y hy => by cases hy⟩
theorem Inc.nodup {l : List Int} (h : Inc l) : l.Nodup := h.imp fun h => by omega
def chnOf (c : Book) (key : Int) : Chn := ⟨c.people, c.gaps, c.entries.filter fun e => e.key == key⟩
theorem validS_iff {s : Spn} : validS s = true ↔ 0 ≤ s.lo ∧ s.lo ≤ s.hi ∧ s.hi ≤ maxTime := by
  unfold validS timeOk; simp only [Bool.and_eq_true, decide_eq_true_eq]; omega
theorem entr_parts {c : Book} {e : Entr} (h : entrOk c e = true) : (1 ≤ e.id ∧ e.id ≤ 1099511627776) ∧ e.key ∈ c.keys ∧ (0 ≤ e.at_.lo ∧ e.at_.lo ≤ e.at_.hi ∧ e.at_.hi ≤ maxTime) ∧ kindOk c.people e = true := by
  unfold entrOk at h; simp only [Bool.and_eq_true] at h; obtain ⟨⟨⟨h1, h2⟩, h3⟩, h4⟩ := h; exact ⟨by unfold idOk at h1; simpa using h1, by simpa using h2, validS_iff.1 h3, h4⟩
theorem kind_bd {ps : List Pers} {e : Entr} (h : kindOk ps e = true) : 1 ≤ e.kind ∧ e.kind ≤ 4 := by
  unfold kindOk at h
  repeat' split at h
  all_goals first | omega | cases h
theorem pers_parts {p : Pers} (h : persOk p = true) : (1 ≤ p.id ∧ p.id ≤ 1099511627776) ∧ p.duty.length ≤ 6 := by
  unfold persOk idOk at h; simp only [Bool.and_eq_true, decide_eq_true_eq] at h; omega
theorem chn_ok {c : Book} (h : c.ok) (key : Int) : (chnOf c key).ok ∧ (chnOf c key).es.length ≤ 7 := by
  have sub : ∀ e ∈ (chnOf c key).es, e ∈ c.entries := fun e he => (List.mem_filter.1 he).1
  refine ⟨⟨h.gaps, fun p hp => (pers_parts (h.pers p hp)).1.1, fun e he => (entr_parts (h.entr e (sub e he))).1.1, fun e he => (entr_parts (h.entr e (sub e he))).2.2.1, fun e he => kind_bd (entr_parts (h.entr e (sub e he))).2.2.2, ?_, h.incp.nodup⟩, h.few key⟩; exact h.nd.sublist ((List.filter_sublist).map _)
def askedE (c : Book) (key : Int) : Int := if checkE c ≠ 0 then checkE c else if c.keys.contains key = true then 0 else 5
def placesL (c : Book) : List Int := -1 :: 0 :: c.people.map (·.id)
def foundS (C : Chn) (cs : List Cnd) : Bool := (searchS C cs).isSome
def historyF (c : Book) (key : Int) : List Mv × Int := if askedE c key ≠ 0 then ([], askedE c key) else match searchS (chnOf c key) [] with
  | some l => (l, 0)
  | none => ([], 9)
def tellE (c : Book) (key : Int) (l : List Mv) : Int := if askedE c key ≠ 0 then askedE c key else if 20 < l.length then 2 else if (playS (chnOf c key) l maxTime).2 = true then 0 else 8
def amongF (c : Book) (key t : Int) (l : List Int) (mk : Int → Cnd) : List Int × Int := if askedE c key ≠ 0 then ([], askedE c key) else if timeOk t = false then ([], 1) else if foundS (chnOf c key) [] = false then ([], 9) else (l.filter fun n => foundS (chnOf c key) [mk n], 0)
def holdersF (c : Book) (key t : Int) : List Int × Int := amongF c key t (placesL c) fun n => .place n t
def copiersF (c : Book) (key t : Int) : List Int × Int := amongF c key t (c.people.map (·.id)) fun n => .copy n t
def staysL (C : Chn) : List (Sta × Spn) := (earlyS C).filterMap fun g => match stayF C g.1 with
  | some x => some (g.1, x)
  | none => none
def handsB (C : Chn) (p : Pers) (s : Spn) (st : List (Sta × Spn)) : Bool := st.any fun g => (g.1.place == p.id || hasCopy C.es g.1.done p.id) && p.duty.any fun d => decide (max d.lo (max s.lo g.2.lo) ≤ min d.hi (min s.hi g.2.hi))
def handsF (c : Book) (key : Int) (s : Spn) : List Int × Int := if askedE c key ≠ 0 then ([], askedE c key) else if validS s = false then ([], 1) else if staysL (chnOf c key) = [] then ([], 9) else ((c.people.filter fun p => handsB (chnOf c key) p s (staysL (chnOf c key))).map (·.id), 0)
def whenF (c : Book) (id : Int) : Spn × Int := if checkE c ≠ 0 then (⟨0, 0⟩, checkE c) else match c.entries.find? fun e => e.id == id with
  | none => (⟨0, 0⟩, 5)
  | some e => let w := whenL (chnOf c e.key) id ((earlyS (chnOf c e.key)).map fun g => (g.1, timeOf tid (earlyS (chnOf c e.key)) g.1))
    if 0 ≤ w.hi then (w, 0) else (⟨0, 0⟩, 9)
def neededF (c : Book) (key : Int) : Int × Int := if askedE c key ≠ 0 then (0, askedE c key) else match ([0, 1, 2, 3] : List Int).find? fun n => foundS (chnOf { c with gaps := n } key) [] with
  | some n => (n, 0)
  | none => (0, 5)
def withoutB (c : Book) (ids : List Int) : Book := { c with entries := c.entries.filter fun e => !ids.contains e.id }
end
end Go.Proofs.Cu
