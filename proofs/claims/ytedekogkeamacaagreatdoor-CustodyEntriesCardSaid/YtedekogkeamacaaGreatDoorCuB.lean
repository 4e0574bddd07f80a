import Derived.Test.YtedekogkeamacaaGreatDoorCuA
namespace Go.Proofs.Cu
open Go.Proofs.Ax
set_option linter.unusedVariables false
section
variable {C : Chn}
def Cons (C : Chn) : Prop := ∃ l, Tell C l
theorem sorted_nil : Sorted [] := fun i j a b _ h => by simp at h
theorem found_iff (ok : C.ok) {cs : List Cnd} (hs : Sorted cs) (h0 : ∀ c ∈ cs, 0 ≤ c.time) : foundS C cs = true ↔ ∃ l, Tell C l ∧ ∀ c ∈ cs, Sat C l c := by
  obtain ⟨h1, h2⟩ := search_law ok hs h0; unfold foundS
  cases hq : searchS C cs with
  | none => exact ⟨fun h => (by cases h), fun ⟨l, a, b⟩ => (h2 hq l a b).elim⟩
  | some l => exact ⟨fun _ => ⟨l, h1 l hq⟩, fun _ => rfl⟩
theorem found_nil (ok : C.ok) : foundS C [] = true ↔ Cons C := by
  rw [found_iff ok sorted_nil (fun c hc => absurd hc List.not_mem_nil)]; exact ⟨fun ⟨l, h, _⟩ => ⟨l, h⟩, fun ⟨l, h⟩ => ⟨l, h, fun c hc => absurd hc List.not_mem_nil⟩⟩
theorem key_of_get {κ α : Type} [DecidableEq κ] {k : κ} {x : α} {gs : List (κ × List α)} (h : getG k gs = some x) : ∃ g ∈ gs, g.1 = k := by
  unfold getG at h
  cases hi : idxG k gs with
  | none => rw [lookG_none hi] at h; cases h
  | some i =>
    obtain ⟨g, h1, h2, -⟩ := lookG_some hi; exact ⟨g, List.mem_of_getElem? h1, h2⟩
theorem known_mem {ps : List Pers} {n : Int} : knownP ps n = true ↔ n ∈ ps.map (·.id) := by
  unfold knownP; rw [List.any_eq_true, List.mem_map]; simp
theorem hangs_iff {ps : List Pers} {n : Int} : hangsP ps n = true ↔ n = 0 ∨ n ∈ ps.map (·.id) := by
  unfold hangsP; rw [Bool.or_eq_true, known_mem, beq_iff_eq]
def Kinds (C : Chn) : Prop := ∀ e ∈ C.es, kindOk C.people e = true
theorem chn_kinds {c : Book} (h : c.ok) (key : Int) : Kinds (chnOf c key) := fun e he => (entr_parts (h.entr e (List.mem_filter.1 he).1)).2.2.2
def PlaceOk (C : Chn) (s : Sta) : Prop := s.place = -1 ∨ hangsP C.people s.place = true
theorem kind_place {ps : List Pers} {e : Entr} (h : kindOk ps e = true) : (e.kind = 1 ∨ e.kind = 4 → hangsP ps e.dst = true) ∧ (e.kind = 2 → knownP ps e.src = true) := by
  unfold kindOk at h; constructor
  · rintro (hk | hk)
    · rw [if_pos hk] at h; simp only [Bool.and_eq_true] at h; exact h.2
    rw [if_neg (by omega), if_neg (by omega), if_neg (by omega), if_pos hk] at h; simp only [Bool.and_eq_true] at h; exact h.1
  intro hk; rw [if_neg (by omega), if_pos hk] at h; simp only [Bool.and_eq_true] at h; exact h.1
theorem step_place (hk : Kinds C) {s : Sta} {x : Stp} (hx : x ∈ stepsS C s) (h : PlaceOk C s) : PlaceOk C x.to_ := by
  rcases List.mem_append.1 hx with hx | hx
  · obtain ⟨i, e, t, h1, h2, rfl⟩ := mem_madeL.1 hx; have hke := hk e (List.mem_of_getElem? h1); unfold madeS at h2; split at h2
    cases h2
    cases h2
    unfold PlaceOk placeOf; simp only; split
    · rename_i hc; exact .inr ((kind_place hke).1 hc)
    split
    exact .inl rfl; exact h
  obtain ⟨p, t', hp, g2, rfl⟩ := mem_passL.1 hx; unfold passedS at g2; split at g2
  cases g2
  rename_i hn
  cases g2
  simp only [not_or] at hn; exact .inr (by simpa using hn.2.2.2)
end
section
variable {C : Chn}
structure Use where
  key : Int
  who : Int
  time : Int
  deriving DecidableEq
def insC (c : Cnd) : List Cnd → List Cnd
  | [] => [c]
  | x :: r => if c.time < x.time then c :: x :: r else x :: insC c r
def sortC (l : List Cnd) : List Cnd := l.foldl (fun acc c => insC c acc) []
theorem mem_insC {c d : Cnd} : ∀ {l : List Cnd}, d ∈ insC c l ↔ d = c ∨ d ∈ l
  | [] => by simp [insC]
  | x :: r => by
    unfold insC; split
    simp; simp only [List.mem_cons, mem_insC (l := r)]; constructor
    · rintro (h | h | h); exact .inr (.inl h); exact .inl h; exact .inr (.inr h)
    rintro (h | h | h); exact .inr (.inl h); exact .inl h; exact .inr (.inr h)
def SortP (l : List Cnd) : Prop := l.Pairwise fun a b => a.time ≤ b.time
theorem insC_sort {c : Cnd} : ∀ {l : List Cnd}, SortP l → SortP (insC c l)
  | [], _ => by simp [insC, SortP]
  | x :: r, h => by
    obtain ⟨h1, h2⟩ := List.pairwise_cons.1 h; unfold insC; split
    · rename_i hlt; refine List.pairwise_cons.2 ⟨fun y hy => ?_, h⟩
      rcases List.mem_cons.1 hy with rfl | hy
      omega; have := h1 y hy; omega
    rename_i hlt; refine List.pairwise_cons.2 ⟨fun y hy => ?_, insC_sort h2⟩
    rcases mem_insC.1 hy with rfl | hy
    omega; exact h1 y hy
theorem sortC_gen : ∀ (l acc : List Cnd), SortP acc → SortP (l.foldl (fun acc c => insC c acc) acc) ∧ ∀ d, d ∈ l.foldl (fun acc c => insC c acc) acc ↔ d ∈ l ∨ d ∈ acc
  | [], acc, h => ⟨h, fun d => by simp⟩
  | c :: l, acc, h => by
    rw [List.foldl_cons]; obtain ⟨h1, h2⟩ := sortC_gen l (insC c acc) (insC_sort h); refine ⟨h1, fun d => ?_⟩; rw [h2, mem_insC, List.mem_cons]; constructor
    · rintro (h | h | h); exact .inl (.inr h); exact .inl (.inl h); exact .inr h
    rintro ((h | h) | h); exact .inr (.inl h); exact .inl h; exact .inr (.inr h)
def condsOf (l : List Use) (key : Int) : List Cnd := sortC ((l.filter fun u => u.key == key).map fun u => .hand u.who u.time)
theorem mem_conds {l : List Use} {key : Int} {d : Cnd} : d ∈ condsOf l key ↔ ∃ u ∈ l, u.key = key ∧ d = .hand u.who u.time := by
  unfold condsOf sortC; rw [(sortC_gen _ [] List.Pairwise.nil).2]; simp only [List.mem_map, List.mem_filter, beq_iff_eq, List.not_mem_nil, or_false]; constructor
  · rintro ⟨u, ⟨h1, h2⟩, rfl⟩; exact ⟨u, h1, h2, rfl⟩
  rintro ⟨u, h1, h2, rfl⟩; exact ⟨u, ⟨h1, h2⟩, rfl⟩
def usedE (c : Book) (l : List Use) (any : Bool) : Int := if checkE c ≠ 0 then checkE c else if 12 < l.length then 2 else if l.all (fun u => c.keys.contains u.key && timeOk u.time && (any || knownP c.people u.who)) = true then 0 else 1
def proveL (c : Book) (l : List Use) : List Int → Option (List (List Mv))
  | [] => some []
  | k :: r => match searchS (chnOf c k) (condsOf l k) with
    | none => none
    | some h => match proveL c l r with
      | none => none
      | some hs => some (h :: hs)
def proveF (c : Book) (l : List Use) : Option (List (List Mv)) := proveL c l c.keys
def fitsB (c : Book) (l : List Use) : Bool := (proveF c l).isSome
def menF (c : Book) (l : List Use) : List Int := (c.people.filter fun p => fitsB c (l.map fun u => { u with who := p.id })).map (·.id)
end
section
structure Sim (C C' : Chn) (R : Sta → Sta → Prop) : Prop where
  root : R s00 s00
  step : ∀ s s' x, R s s' → x ∈ stepsS C s → ∃ x', x' ∈ stepsS C' s' ∧ x'.entry = x.entry ∧ x'.dst = x.dst ∧ x'.at_.lo ≤ x.at_.lo ∧ x.at_.hi ≤ x'.at_.hi ∧ R x.to_ x'.to_
  all : ∀ s s', R s s' → allS C s = true → allS C' s' = true
variable {C C' : Chn} {R : Sta → Sta → Prop}
theorem copy_iff {es : List Entr} {d : Nat} {n : Int} : hasCopy es d n = true ↔ ∃ (i : Nat) (e : Entr), es[i]? = some e ∧ e.kind = 2 ∧ d.testBit i = true ∧ e.src = n := by
  unfold hasCopy; rw [List.any_eq_true]; constructor
  · rintro ⟨i, hi, h⟩; split at h
    · rename_i e he; simp only [Bool.and_eq_true, beq_iff_eq] at h; exact ⟨i, e, he, h.1.1, h.1.2, h.2⟩
    cases h
  rintro ⟨i, e, he, h1, h2, h3⟩; refine ⟨i, List.mem_range.2 (List.getElem?_eq_some_iff.1 he).1, ?_⟩; rw [he]; simp [h1, h2, h3]
def Narrow (a b : Entr) : Prop := a.id = b.id ∧ a.kind = b.kind ∧ a.src = b.src ∧ a.dst = b.dst ∧ b.at_.lo ≤ a.at_.lo ∧ a.at_.hi ≤ b.at_.hi
end
section
section topo
variable {Q : Type} [DecidableEq Q]
def lowerB (B : Q → Int) (w : Q × Int) : Q → Int := if B w.1 < 0 ∨ w.2 < B w.1 then fun q => if q = w.1 then w.2 else B q else B
def spreadAt (W : Q → Int → List (Q × Int)) (B : Q → Int) (q : Q) : Q → Int := if B q < 0 then B else (W q (B q)).foldl lowerB B
def spreadL (W : Q → Int → List (Q × Int)) (L : List Q) (B : Q → Int) : Q → Int := L.foldl (spreadAt W) B
theorem lower_at (B : Q → Int) (w : Q × Int) (q : Q) : lowerB B w q = if q = w.1 ∧ (B w.1 < 0 ∨ w.2 < B w.1) then w.2 else B q := by
  unfold lowerB; by_cases h : B w.1 < 0 ∨ w.2 < B w.1
  · rw [if_pos h]; by_cases e : q = w.1
    rw [if_pos e, if_pos ⟨e, h⟩]; rw [if_neg e, if_neg fun h => e h.1]
  rw [if_neg h, if_neg fun h' => h h'.2]
theorem lowers : ∀ (l : List (Q × Int)) (B : Q → Int), (∀ w ∈ l, 0 ≤ w.2) →
    (∀ q, 0 ≤ B q → 0 ≤ l.foldl lowerB B q ∧ l.foldl lowerB B q ≤ B q) ∧ (∀ w ∈ l, 0 ≤ l.foldl lowerB B w.1 ∧ l.foldl lowerB B w.1 ≤ w.2) ∧ (∀ q, (∀ w ∈ l, w.1 ≠ q) → l.foldl lowerB B q = B q) ∧ (∀ q, l.foldl lowerB B q = B q ∨ ∃ w ∈ l, w.1 = q ∧ l.foldl lowerB B q = w.2)
  | [], B, _ => ⟨fun q h => ⟨h, Int.le_refl _⟩, fun w hw => absurd hw List.not_mem_nil, fun q _ => rfl, fun q => .inl rfl⟩
  | w :: l, B, h => by
    obtain ⟨h1, h2, h3, h4⟩ := lowers l (lowerB B w) fun v hv => h v (List.mem_cons_of_mem _ hv)
    have hw := h w List.mem_cons_self; rw [List.foldl_cons]; have hat := lower_at B w
    have at1 : 0 ≤ lowerB B w w.1 ∧ lowerB B w w.1 ≤ w.2 := by
      rw [hat]; by_cases hc : B w.1 < 0 ∨ w.2 < B w.1
      rw [if_pos ⟨rfl, hc⟩]; omega; rw [if_neg fun h => hc h.2]; omega
    refine ⟨fun q hq => ?_, fun v hv => ?_, fun q hq => ?_, fun q => ?_⟩
    · have : 0 ≤ lowerB B w q ∧ lowerB B w q ≤ B q := by
        rw [hat]; split
        · rename_i hc; obtain ⟨rfl, hc⟩ := hc; omega
        omega
      have := h1 q this.1; omega
    · rcases List.mem_cons.1 hv with rfl | hv
      · have := h1 v.1 at1.1; omega
      exact h2 v hv
    · rw [h3 q fun v hv => hq v (List.mem_cons_of_mem _ hv), hat, if_neg]; rintro ⟨rfl, -⟩; exact hq w List.mem_cons_self rfl
    rcases h4 q with h' | ⟨v, hv, e, h'⟩
    · rw [h', hat]; split
      · rename_i hc; exact .inr ⟨w, List.mem_cons_self, hc.1.symm, rfl⟩
      exact .inl rfl
    exact .inr ⟨v, List.mem_cons_of_mem _ hv, e, h'⟩
theorem spread_gen {W : Q → Int → List (Q × Int)} (hpos : ∀ q τ w, 0 ≤ τ → w ∈ W q τ → 0 ≤ w.2) : ∀ (R P : List Q) (B : Q → Int), (∀ p ∈ P, 0 ≤ B p → ∀ w ∈ W p (B p), 0 ≤ B w.1 ∧ B w.1 ≤ w.2) → (∀ q ∈ R, ∀ τ w, w ∈ W q τ → w.1 ∉ P) → R.Pairwise (fun a b => ∀ τ w, w ∈ W b τ → w.1 ≠ a) → (∀ q ∈ R, ∀ τ w, w ∈ W q τ → w.1 ≠ q) →
    (∀ p ∈ P ++ R, 0 ≤ spreadL W R B p → ∀ w ∈ W p (spreadL W R B p), 0 ≤ spreadL W R B w.1 ∧ spreadL W R B w.1 ≤ w.2) ∧ (∀ q, 0 ≤ B q → 0 ≤ spreadL W R B q ∧ spreadL W R B q ≤ B q) ∧ (∀ p ∈ P, spreadL W R B p = B p)
  | [], P, B, h1, _, _, _ => ⟨fun p hp => h1 p (by simpa using hp), fun q hq => ⟨hq, Int.le_refl _⟩, fun p _ => rfl⟩
  | r :: R, P, B, h1, h2, h3, h4 => by
    obtain ⟨h5, h6⟩ := List.pairwise_cons.1 h3; have hs : spreadL W (r :: R) B = spreadL W R (spreadAt W B r) := rfl; rw [hs]
    have hB : (∀ q, 0 ≤ B q → 0 ≤ spreadAt W B r q ∧ spreadAt W B r q ≤ B q) ∧ (∀ p ∈ r :: P, spreadAt W B r p = B p) ∧ (0 ≤ B r → ∀ w ∈ W r (B r), 0 ≤ spreadAt W B r w.1 ∧ spreadAt W B r w.1 ≤ w.2) := by
      unfold spreadAt; by_cases hr : B r < 0
      · rw [if_pos hr]; exact ⟨fun q hq => ⟨hq, Int.le_refl _⟩, fun p _ => rfl, fun h => by omega⟩
      rw [if_neg hr]
      obtain ⟨g1, g2, g3, g4⟩ := lowers (W r (B r)) B fun w hw => hpos r (B r) w (by omega) hw
      refine ⟨g1, fun p hp => g3 p fun w hw => ?_, fun _ => g2⟩
      rcases List.mem_cons.1 hp with rfl | hp
      exact h4 p List.mem_cons_self _ w hw; rintro rfl; exact h2 r List.mem_cons_self _ w hw hp
    obtain ⟨b1, b2, b3⟩ := hB
    have hP : ∀ p ∈ r :: P, 0 ≤ spreadAt W B r p → ∀ w ∈ W p (spreadAt W B r p), 0 ≤ spreadAt W B r w.1 ∧ spreadAt W B r w.1 ≤ w.2 := by
      intro p hp h0 w hw; rw [b2 p hp] at h0 hw
      rcases List.mem_cons.1 hp with rfl | hp
      exact b3 h0 w hw; obtain ⟨k1, k2⟩ := h1 p hp h0 w hw; have := b1 w.1 k1; omega
    obtain ⟨c1, c2, c3⟩ := spread_gen hpos R (r :: P) (spreadAt W B r) hP (fun q hq τ w hw => by
      rw [List.mem_cons]; rintro (e | e); exact h5 q hq τ w hw e
      exact h2 q (List.mem_cons_of_mem _ hq) τ w hw e) h6 fun q hq => h4 q (List.mem_cons_of_mem _ hq)
    refine ⟨fun p hp => c1 p (by simp only [List.mem_append, List.mem_cons] at *; rcases hp with h | h | h <;> simp [h]), fun q hq => ?_, fun p hp => ?_⟩
    · have := b1 q hq; have := c2 q this.1; omega
    rw [c3 p (List.mem_cons_of_mem _ hp), b2 p (List.mem_cons_of_mem _ hp)]
theorem spread_sound {W : Q → Int → List (Q × Int)} (hpos : ∀ q τ w, 0 ≤ τ → w ∈ W q τ → 0 ≤ w.2) {G : Q → Int → Prop} (hG : ∀ q τ w, G q τ → w ∈ W q τ → G w.1 w.2) : ∀ (L : List Q) (B : Q → Int), (∀ q, 0 ≤ B q → G q (B q)) → ∀ q, 0 ≤ spreadL W L B q → G q (spreadL W L B q)
  | [], B, h => h
  | r :: L, B, h => by
    have hs : spreadL W (r :: L) B = spreadL W L (spreadAt W B r) := rfl; rw [hs]
    refine spread_sound hpos hG L _ fun q hq => ?_
    unfold spreadAt at hq ⊢; by_cases hr : B r < 0
    · rw [if_pos hr] at hq ⊢; exact h q hq
    rw [if_neg hr] at hq ⊢
    obtain ⟨g1, g2, g3, g4⟩ := lowers (W r (B r)) B fun w hw => hpos r (B r) w (by omega) hw
    rcases g4 q with e | ⟨w, hw, rfl, e⟩
    · rw [e] at hq ⊢; exact h q hq
    rw [e]; exact hG r (B r) w (h r (by omega)) hw
end topo
structure Stg where
  at_ : Spn
  ws : List (Int × Int)
variable {C : Chn}
def keepsS (C : Chn) (w : Int × Int) (s : Sta) : Bool := if w.1 = 1 then s.place == w.2 else if w.1 = 2 then hasCopy C.es s.done w.2 else s.place == w.2 || hasCopy C.es s.done w.2
def agreesS (C : Chn) (st : Stg) (s : Sta) : Bool := st.ws.all fun w => keepsS C w s
inductive G2 (C : Chn) (sts : List Stg) : Nat → Sta → Int → Prop
  | root : G2 C sts 0 s00 0
  | move {k : Nat} {s : Sta} {τ : Int} {w : Sta × Int} (h : G2 C sts k s τ) (hw : w ∈ earlyW C s τ) : G2 C sts k w.1 w.2
  | stage {k : Nat} {s : Sta} {τ : Int} {st : Stg} (h : G2 C sts k s τ) (hk : sts[k]? = some st) (ha : agreesS C st s = true) (ht : max τ st.at_.lo ≤ st.at_.hi) : G2 C sts (k + 1) s (max τ st.at_.lo + 1)
def SatS (C : Chn) (l : List Mv) (st : Stg) (t : Int) : Prop := st.at_.lo ≤ t ∧ t ≤ st.at_.hi ∧ ∃ l1 l2 s, l = l1 ++ l2 ∧ Run C s00 0 l1 s ∧ (∀ m ∈ l1, m.time ≤ t) ∧ (∀ m ∈ l2, t < m.time) ∧ agreesS C st s = true
theorem g2_tell {sts : List Stg} {k : Nat} {s : Sta} {τ : Int} (h : G2 C sts k s τ) : 0 ≤ τ ∧ ∃ l, Run C s00 0 l s ∧ (∀ m ∈ l, m.time ≤ τ) ∧ ∀ (j : Nat) (st : Stg), j < k → sts[j]? = some st → ∃ t, t < τ ∧ SatS C l st t := by
  induction h with
  | root => exact ⟨Int.le_refl _, [], .nil, fun m hm => absurd hm List.not_mem_nil, fun j st hj => absurd hj (Nat.not_lt_zero _)⟩
  | @move k s τ w h hw ih =>
    obtain ⟨i0, l, i1, i2, i3⟩ := ih; obtain ⟨x, hx, g1, rfl⟩ := mem_earlyW.1 hw; refine ⟨by simp only; omega, l ++ [⟨x.entry, x.dst, max τ x.at_.lo⟩], i1.snoc hx (by omega) (fun m hm => by have := i2 m hm; omega) (by omega) g1, fun m hm => ?_, fun j st hj hst => ?_⟩
    · rcases List.mem_append.1 hm with hm | hm
      have := i2 m hm; simp only; omega; rw [List.mem_singleton.1 hm]; exact Int.le_refl _
    obtain ⟨t, h1, h2, h3, l1, l2, s', rfl, g2, g3, g4, g5⟩ := i3 j st hj hst; refine ⟨t, by simp only; omega, h2, h3, l1, l2 ++ [⟨x.entry, x.dst, max τ x.at_.lo⟩], s', by rw [List.append_assoc], g2, g3, fun m hm => ?_, g5⟩
    rcases List.mem_append.1 hm with hm | hm
    exact g4 m hm; rw [List.mem_singleton.1 hm]; simp only; omega
  | @stage k s τ st h hk ha ht ih =>
    obtain ⟨i0, l, i1, i2, i3⟩ := ih; refine ⟨by omega, l, i1, fun m hm => by have := i2 m hm; omega, fun j st' hj hst => ?_⟩
    rcases Nat.lt_succ_iff_lt_or_eq.1 hj with hj | rfl
    · obtain ⟨t, h1, h2⟩ := i3 j st' hj hst; exact ⟨t, by omega, h2⟩
    rw [hk] at hst
    cases hst
    exact ⟨max τ st.at_.lo, by omega, by omega, ht, l, [], s, by simp, i1, fun m hm => by have := i2 m hm; omega, fun m hm => absurd hm List.not_mem_nil, ha⟩
theorem tell_g2 (ok : C.ok) {sts : List Stg} {ts : List Int} (hl : ts.length = sts.length) (hinc : ∀ (j : Nat) (a b : Int), ts[j]? = some a → ts[j + 1]? = some b → a < b) : ∀ (n : Nat) (l : List Mv) (k : Nat) (s sf : Sta) (τ now : Int), l.length + (sts.length - k) ≤ n → k ≤ sts.length → G2 C sts k s τ → Run C s now l sf → (∀ m ∈ l, τ ≤ m.time) → (∀ t, ts[k]? = some t → τ ≤ t) →
    (∀ (j : Nat) (st : Stg) (t : Int), k ≤ j → sts[j]? = some st → ts[j]? = some t → st.at_.lo ≤ t ∧ t ≤ st.at_.hi ∧ ∃ l1 l2 s1 now1, l = l1 ++ l2 ∧ Run C s now1 l1 s1 ∧ (∀ m ∈ l1, m.time ≤ t) ∧ (∀ m ∈ l2, t < m.time) ∧ agreesS C st s1 = true) →
    ∃ τ', G2 C sts sts.length sf τ' := by
  have mono : ∀ (d j : Nat) (a b : Int), ts[j]? = some a → ts[j + d]? = some b → a ≤ b := by
    intro d
    induction d with
    | zero => intro j a b ha hb; rw [Nat.add_zero] at hb; rw [ha] at hb; cases hb; exact Int.le_refl _
    | succ d ih =>
      intro j a b ha hb; have hlt := (List.getElem?_eq_some_iff.1 hb).1; have hm := List.getElem?_eq_getElem (show j + d < ts.length by omega); have := ih j a _ ha hm; have := hinc (j + d) _ b hm (by rw [show j + d + 1 = j + (d + 1) by omega]; exact hb); omega
  intro n
  induction n with
  | zero =>
    intro l k s sf τ now hn hk hg hr hlt hτ hc; have : l = [] := List.length_eq_zero_iff.1 (by omega); subst this
    cases hr
    have : k = sts.length := by omega
    subst this; exact ⟨τ, hg⟩
  | succ n ih =>
    intro l k s sf τ now hn hk hg hr hlt hτ hc
    have mv : ∀ m r, l = m :: r → (∀ t, ts[k]? = some t → m.time ≤ t) → ∃ τ', G2 C sts sts.length sf τ' := by
      rintro m r rfl hlast; obtain ⟨x, hx, e1, e2, h0, h1, h2, h3⟩ := hr.inv; have hml := hlt m List.mem_cons_self; have hgx := G2.move (w := (x.to_, max τ x.at_.lo)) hg (mem_earlyW.2 ⟨x, hx, by omega, rfl⟩)
      refine ih r k x.to_ sf _ m.time (by simp at hn; omega) hk hgx h3 (fun m' hm' => by have := h3.le m' hm'; simp only; omega) (fun t ht => by have := hlast t ht; simp only; omega) fun j st t hj hst hjt => ?_
      obtain ⟨b1, b2, l1, l2, s1, now1, g1, g2, g3, g4, g5⟩ := hc j st t hj hst hjt; refine ⟨b1, b2, ?_⟩
      cases l1 with
      | nil =>
        rw [List.nil_append] at g1; have := g4 m (by rw [← g1]; exact List.mem_cons_self); have hjl := (List.getElem?_eq_some_iff.1 hjt).1; have hk' := List.getElem?_eq_getElem (show k < ts.length by omega); have h5 := hlast _ hk'; have h6 := mono (j - k) k _ t hk' (by rw [show k + (j - k) = j by omega]; exact hjt); omega
      | cons m1 l1 =>
        cases g1
        obtain ⟨y, hy, k1, k2, -, -, -, k6⟩ := g2.inv; have : x = y := steps_det ok hx hy (e1.symm.trans k1) (e2.symm.trans k2); subst this; exact ⟨l1, l2, s1, _, rfl, k6, fun m' hm' => g3 m' (List.mem_cons_of_mem _ hm'), g4, g5⟩
    by_cases hkl : k < sts.length
    · have hk' := List.getElem?_eq_getElem hkl; have ht' := List.getElem?_eq_getElem (show k < ts.length by omega)
      have stay : (∀ m ∈ l, ts[k] < m.time) → ∃ τ', G2 C sts sts.length sf τ' := by
        intro hall; obtain ⟨b1, b2, l1, l2, s1, now1, g1, g2, g3, g4, g5⟩ := hc k _ _ (Nat.le_refl _) hk' ht'
        have : l1 = [] := by
          cases l1 with
          | nil => rfl
          | cons m1 l1 =>
            have h1 := g3 m1 List.mem_cons_self; have h2 := hall m1 (by rw [g1]; exact List.mem_cons_self); omega
        subst this
        cases g2
        have hτk := hτ _ ht'; have hgx := G2.stage hg hk' g5 (by omega)
        refine ih l (k + 1) s sf _ now (by omega) hkl hgx hr (fun m hm => by have := hlt m hm; have := hall m hm; omega) (fun t ht => by have := hinc k _ t ht' ht; omega) fun j st t hj => hc j st t (by omega)
      cases l with
      | nil => exact stay fun m hm => absurd hm List.not_mem_nil
      | cons m r =>
        by_cases hm : m.time ≤ ts[k]
        exact mv m r rfl fun t ht => by rw [ht'] at ht; cases ht; exact hm
        refine stay fun m' hm' => ?_
        rcases List.mem_cons.1 hm' with rfl | hm'
        omega; obtain ⟨x, hx, e1, e2, h0, h1, h2, h3⟩ := hr.inv; have := h3.le m' hm'; omega
    have hk0 : k = sts.length := by omega
    cases l with
    | nil =>
      cases hr
      subst hk0; exact ⟨τ, hg⟩
    | cons m r => exact mv m r rfl fun t ht => by rw [List.getElem?_eq_none (by omega)] at ht; cases ht
def Rising (sts : List Stg) : Prop := ∀ (j : Nat) (a b : Stg), sts[j]? = some a → sts[j + 1]? = some b → a.at_.hi < b.at_.lo
def PossP (C : Chn) (sts : List Stg) : Prop := ∃ l, Tell C l ∧ ∀ st ∈ sts, ∃ t, SatS C l st t
theorem g2_iff (ok : C.ok) {sts : List Stg} (hr : Rising sts) (h0 : ∀ st ∈ sts, 0 ≤ st.at_.lo) : (∃ s τ, G2 C sts sts.length s τ ∧ allS C s = true) ↔ PossP C sts := by
  constructor
  · rintro ⟨s, τ, h, ha⟩; obtain ⟨-, l, h1, -, h3⟩ := g2_tell h; refine ⟨l, ⟨s, h1, ha⟩, fun st hst => ?_⟩; obtain ⟨j, hj⟩ := List.getElem?_of_mem hst; obtain ⟨t, -, h4⟩ := h3 j st (List.getElem?_eq_some_iff.1 hj).1 hj; exact ⟨t, h4⟩
  rintro ⟨l, ⟨sf, hrun, ha⟩, hs⟩
  have hch : ∃ ts : List Int, ts.length = sts.length ∧ ∀ (j : Nat) (st : Stg) (t : Int), sts[j]? = some st → ts[j]? = some t → SatS C l st t := by
    clear hr h0
    induction sts with
    | nil => exact ⟨[], rfl, fun j st t h => by simp at h⟩
    | cons st sts ih =>
      obtain ⟨ts, h1, h2⟩ := ih fun st hst => hs st (List.mem_cons_of_mem _ hst)
      obtain ⟨t, ht⟩ := hs st List.mem_cons_self; refine ⟨t :: ts, by simp [h1], fun j st' t' h3 h4 => ?_⟩
      cases j with
      | zero => cases h3; cases h4; exact ht
      | succ j => exact h2 j st' t' (by simpa using h3) (by simpa using h4)
  obtain ⟨ts, h1, h2⟩ := hch
  have get : ∀ {j : Nat} {t : Int}, ts[j]? = some t → ∃ st, sts[j]? = some st := fun h => ⟨_, List.getElem?_eq_getElem (by have := (List.getElem?_eq_some_iff.1 h).1; omega)⟩
  obtain ⟨τ, h⟩ := tell_g2 ok h1 (fun j a b ha hb => by
    obtain ⟨sa, hsa⟩ := get ha; obtain ⟨sb, hsb⟩ := get hb; have := hr j sa sb hsa hsb; have := (h2 j sa a hsa ha).2.1; have := (h2 (j + 1) sb b hsb hb).1
    omega) _ l 0 s00 sf 0 0 (Nat.le_refl _) (Nat.zero_le _) .root hrun (fun m hm => hrun.le m hm) (fun t ht => by
    obtain ⟨st, hst⟩ := get ht; have := (h2 0 st t hst ht).1; have := h0 st (List.mem_of_getElem? hst)
    omega) fun j st t _ hst ht => by
    obtain ⟨b1, b2, l1, l2, s, g1, g2, g3, g4, g5⟩ := h2 j st t hst ht; exact ⟨b1, b2, l1, l2, s, 0, g1, g2, g3, g4, g5⟩
  exact ⟨sf, τ, h, ha⟩
def nextB (C : Chn) (L : List Sta) (st : Stg) (B : Sta → Int) : Sta → Int := L.foldl (fun N s => if 0 ≤ B s ∧ max (B s) st.at_.lo ≤ st.at_.hi ∧ agreesS C st s = true then lowerB N (s, max (B s) st.at_.lo + 1) else N) fun _ => -1
def possB (C : Chn) (L : List Sta) (B : Sta → Int) : List Stg → Sta → Int
  | [] => spreadL (earlyW C) L B
  | st :: r => possB C L (nextB C L st (spreadL (earlyW C) L B)) r
structure Topo (C : Chn) (L : List Sta) : Prop where
  mem : ∀ s, s ∈ L ↔ ∃ τ, Get tid (earlyW C) s00 s τ ∨ s ∈ L
  nd : L.Nodup
  on : L.Pairwise fun a b => ∀ τ w, w ∈ earlyW C b τ → w.1 ≠ a
  root : s00 ∈ L
  clo : ∀ s ∈ L, ∀ τ w, w ∈ earlyW C s τ → w.1 ∈ L
theorem next_at {L : List Sta} (hn : L.Nodup) (st : Stg) (B : Sta → Int) (s : Sta) : nextB C L st B s = if s ∈ L ∧ 0 ≤ B s ∧ max (B s) st.at_.lo ≤ st.at_.hi ∧ agreesS C st s = true then max (B s) st.at_.lo + 1 else -1 := by
  unfold nextB
  suffices h : ∀ (L : List Sta) (N : Sta → Int), L.Nodup → (∀ s ∈ L, N s = -1) → (L.foldl (fun N s => if 0 ≤ B s ∧ max (B s) st.at_.lo ≤ st.at_.hi ∧ agreesS C st s = true then lowerB N (s, max (B s) st.at_.lo + 1) else N) N) s = if s ∈ L ∧ 0 ≤ B s ∧ max (B s) st.at_.lo ≤ st.at_.hi ∧ agreesS C st s = true then max (B s) st.at_.lo + 1 else N s from by
    have := h L (fun _ => -1) hn (fun _ _ => rfl); exact this
  intro L
  induction L with
  | nil => intro N _ _; simp
  | cons a L ih =>
    intro N hnd hN; obtain ⟨h1, h2⟩ := List.nodup_cons.1 hnd; rw [List.foldl_cons]; have hNa := hN a List.mem_cons_self; by_cases hc : 0 ≤ B a ∧ max (B a) st.at_.lo ≤ st.at_.hi ∧ agreesS C st a = true
    · rw [if_pos hc]
      have hlow : ∀ q, lowerB N (a, max (B a) st.at_.lo + 1) q = if q = a then max (B a) st.at_.lo + 1 else N q := by
        intro q; rw [lower_at]; by_cases e : q = a
        rw [if_pos e, if_pos ⟨e, .inl (by simp only; omega)⟩]; rw [if_neg e, if_neg fun h => e h.1]
      rw [ih _ h2 fun s hs => by
        rw [hlow, if_neg]; exact hN s (List.mem_cons_of_mem _ hs); rintro rfl
        exact h1 hs]
      by_cases e : s = a
      · subst e; rw [if_neg fun h => h1 h.1, hlow, if_pos rfl, if_pos ⟨List.mem_cons_self, hc⟩]
      rw [hlow, if_neg e]; simp only [List.mem_cons, e, false_or]
    rw [if_neg hc, ih N h2 fun s hs => hN s (List.mem_cons_of_mem _ hs)]; by_cases e : s = a
    · subst e; rw [if_neg fun h => h1 h.1, if_neg fun h => hc h.2]
    simp only [List.mem_cons, e, false_or]
theorem early_pos : ∀ (s : Sta) (τ : Int) (w : Sta × Int), 0 ≤ τ → w ∈ earlyW C s τ → 0 ≤ w.2 := fun s τ w h hw => by
  obtain ⟨x, hx, -, rfl⟩ := mem_earlyW.1 hw; simp only; omega
theorem poss_ok {L : List Sta} (hT : Topo C L) (sts : List Stg) : ∀ (rest : List Stg) (k : Nat) (B : Sta → Int), sts.drop k = rest → k ≤ sts.length → (∀ s, s ∉ L → B s < 0) → (∀ s, 0 ≤ B s → G2 C sts k s (B s)) → (k = 0 → B s00 = 0) → (∀ k' s τ st, k = k' + 1 → G2 C sts k' s τ → sts[k']? = some st → agreesS C st s = true → max τ st.at_.lo ≤ st.at_.hi → 0 ≤ B s ∧ B s ≤ max τ st.at_.lo + 1) →
    (∀ s, 0 ≤ possB C L B rest s → G2 C sts sts.length s (possB C L B rest s)) ∧ (∀ s τ, G2 C sts sts.length s τ → 0 ≤ possB C L B rest s ∧ possB C L B rest s ≤ τ) := by
  intro rest
  have step : ∀ (k : Nat) (B : Sta → Int), (∀ s, s ∉ L → B s < 0) → (∀ s, 0 ≤ B s → G2 C sts k s (B s)) → (k = 0 → B s00 = 0) → (∀ k' s τ st, k = k' + 1 → G2 C sts k' s τ → sts[k']? = some st → agreesS C st s = true → max τ st.at_.lo ≤ st.at_.hi → 0 ≤ B s ∧ B s ≤ max τ st.at_.lo + 1) →
      (∀ s, 0 ≤ spreadL (earlyW C) L B s → G2 C sts k s (spreadL (earlyW C) L B s)) ∧ (∀ s τ, G2 C sts k s τ → s ∈ L ∧ 0 ≤ spreadL (earlyW C) L B s ∧ spreadL (earlyW C) L B s ≤ τ) := by
    intro k B hB hs h0 hst
    obtain ⟨c1, c2, -⟩ := spread_gen (W := earlyW C) early_pos L [] B (fun p hp => absurd hp List.not_mem_nil) (fun q _ τ w _ => List.not_mem_nil) hT.on fun q _ τ w hw => by
      obtain ⟨x, hx, -, rfl⟩ := mem_earlyW.1 hw; have := step_lvl hx; rintro rfl; simp only at this; omega
    refine ⟨spread_sound early_pos (fun q τ w h hw => .move h hw) L B hs, fun s τ h => ?_⟩
    induction h with
    | root =>
      have := c2 s00 (by rw [h0 rfl]; exact Int.le_refl _); rw [h0 rfl] at this; exact ⟨hT.root, this⟩
    | @move k s τ w h hw ih =>
      obtain ⟨i1, i2, i3⟩ := ih hs h0 hst; obtain ⟨w', k1, k2, k3⟩ := (early_ok C).mono s τ _ w i3 hw; have := c1 s (by simpa using i1) i2 w' k1; rw [k2] at this; simp only [tid] at k3; exact ⟨hT.clo s i1 τ w hw, this.1, by omega⟩
    | @stage k s τ st h hk ha ht ih =>
      obtain ⟨g1, g2⟩ := hst k s τ st rfl h hk ha ht; have := c2 s g1; refine ⟨?_, this.1, by omega⟩; apply Classical.byContradiction; intro hn; have := hB s hn; omega
  induction rest with
  | nil =>
    intro k B hd hk hB hs h0 hst
    have : k = sts.length := by
      have := congrArg List.length hd; simp at this; omega
    subst this; obtain ⟨g1, g2⟩ := step _ B hB hs h0 hst; exact ⟨g1, fun s τ h => (g2 s τ h).2⟩
  | cons st rest ih =>
    intro k B hd hk hB hs h0 hst; obtain ⟨g1, g2⟩ := step _ B hB hs h0 hst
    have hkl : k < sts.length := by
      have := congrArg List.length hd; simp at this; omega
    have hk' : sts[k]? = some st := by
      have := congrArg (·[0]?) hd; simpa using this
    unfold possB
    refine ih (k + 1) _ (by rw [← List.drop_drop, hd]; rfl) hkl (fun s hs => ?_) (fun s h => ?_) (fun h => by omega) fun k' s τ st' hkk h hst' ha ht => ?_
    rw [next_at hT.nd, if_neg fun h => hs h.1]; decide
    · rw [next_at hT.nd] at h ⊢; split at h
      · rename_i hc; rw [if_pos hc]; exact .stage (g1 s hc.2.1) hk' hc.2.2.2 hc.2.2.1
      omega
    have : k' = k := by omega
    subst this; rw [hk'] at hst'
    cases hst'
    obtain ⟨m1, m2, m3⟩ := g2 s τ h; rw [next_at hT.nd, if_pos ⟨m1, m2, by omega, ha⟩]; omega
end
section
variable {C : Chn}
def allP (C : Chn) : List Int := -1 :: 0 :: C.people.map (·.id)
def posL (C : Chn) : List Sta := (List.range (C.gaps.toNat + 1)).flatMap fun g => (List.range (2 ^ C.es.length)).flatMap fun d => (allP C).map fun p => ⟨d, p, g⟩
def rank (C : Chn) (s : Sta) : Nat := s.gaps * 2 ^ C.es.length + s.done
theorem mem_posL {s : Sta} : s ∈ posL C ↔ s.gaps ≤ C.gaps.toNat ∧ s.done < 2 ^ C.es.length ∧ s.place ∈ allP C := by
  unfold posL; simp only [List.mem_flatMap, List.mem_range, List.mem_map]; constructor
  · rintro ⟨g, hg, d, hd, p, hp, rfl⟩; exact ⟨by simp only; omega, hd, hp⟩
  rintro ⟨h1, h2, h3⟩; exact ⟨s.gaps, by omega, s.done, h2, s.place, h3, rfl⟩
theorem posL_rank (C : Chn) : (posL C).Pairwise fun a b => rank C a ≤ rank C b := by
  unfold posL; rw [List.pairwise_flatMap]; refine ⟨fun g _ => ?_, ?_⟩
  · rw [List.pairwise_flatMap]; refine ⟨fun d _ => ?_, ?_⟩
    · rw [List.pairwise_map]
      exact List.pairwise_iff_forall_sublist.2 fun _ => Nat.le_refl _
    refine List.Pairwise.imp ?_ (List.pairwise_lt_range (n := 2 ^ C.es.length)); intro a b hab x hx y hy; obtain ⟨p, _, rfl⟩ := List.mem_map.1 hx; obtain ⟨q, _, rfl⟩ := List.mem_map.1 hy; simp only [rank]; omega
  refine List.Pairwise.imp ?_ (List.pairwise_lt_range (n := C.gaps.toNat + 1)); intro a b hab x hx y hy; simp only [List.mem_flatMap, List.mem_map, List.mem_range] at hx hy; obtain ⟨d, hd, p, _, rfl⟩ := hx; obtain ⟨d', hd', q, _, rfl⟩ := hy; simp only [rank]; have : (a + 1) * 2 ^ C.es.length ≤ b * 2 ^ C.es.length := Nat.mul_le_mul_right _ hab; rw [Nat.add_mul] at this; omega
theorem posL_nd (ok : C.ok) : (posL C).Nodup := by
  have hal : (allP C).Nodup := by
    unfold allP; have h1 := ok.ids
    have : ∀ x ∈ C.people.map (·.id), 1 ≤ x := fun x hx => by
      obtain ⟨p, hp, rfl⟩ := List.mem_map.1 hx; exact h1 p hp
    refine List.nodup_cons.2 ⟨fun h => ?_, List.nodup_cons.2 ⟨fun h => ?_, ok.ndp⟩⟩
    · rcases List.mem_cons.1 h with h | h
      cases h
      have := this _ h; omega
    have := this _ h; omega
  unfold posL List.Nodup; rw [List.pairwise_flatMap]; refine ⟨fun g _ => ?_, ?_⟩
  · rw [List.pairwise_flatMap]; refine ⟨fun d _ => ?_, ?_⟩
    · rw [List.pairwise_map]
      exact hal.imp fun h e => h (by injection e)
    refine List.Pairwise.imp ?_ (List.nodup_range (n := 2 ^ C.es.length)); intro a b hab x hx y hy e; obtain ⟨p, _, rfl⟩ := List.mem_map.1 hx; obtain ⟨q, _, rfl⟩ := List.mem_map.1 hy; injection e with e1; exact hab e1
  refine List.Pairwise.imp ?_ (List.nodup_range (n := C.gaps.toNat + 1)); intro a b hab x hx y hy e; simp only [List.mem_flatMap, List.mem_map] at hx hy; obtain ⟨d, _, p, _, rfl⟩ := hx; obtain ⟨d', _, q, _, rfl⟩ := hy; injection e with e1 e2 e3; exact hab e3
theorem or_lt {d i n : Nat} (hd : d < 2 ^ n) (hi : i < n) : d ||| 2 ^ i < 2 ^ n := Nat.or_lt_two_pow hd (Nat.pow_lt_pow_right (by decide) hi)
theorem or_gt {d i : Nat} (h : d.testBit i = false) : d < d ||| 2 ^ i := by
  have h1 : d ≤ d ||| 2 ^ i := Nat.left_le_or
  rcases Nat.lt_or_eq_of_le h1 with h2 | h2
  exact h2; have h3 : (d ||| 2 ^ i).testBit i = true := by rw [Nat.testBit_or, Nat.testBit_two_pow]; simp
  rw [← h2, h] at h3
  cases h3
theorem posL_topo (ok : C.ok) (hk : Kinds C) : Topo C (posL C) := by
  have hroot : s00 ∈ posL C := mem_posL.2 ⟨Nat.zero_le _, Nat.two_pow_pos _, by simp [allP]⟩; refine ⟨fun s => ⟨fun h => ⟨0, .inr h⟩, fun ⟨τ, h⟩ => ?_⟩, posL_nd ok, ?_, hroot, fun s hs τ w hw => ?_⟩
  · rcases h with h | h
    · suffices hc : ∀ s τ, Get tid (earlyW C) s00 s τ → s ∈ posL C from hc s τ h
      intro s τ h
      induction h with
      | root => exact hroot
      | @step q τ w h hw ih =>
        obtain ⟨x, hx, -, rfl⟩ := mem_earlyW.1 hw; obtain ⟨i1, i2, i3⟩ := mem_posL.1 ih; have hg := step_gaps ok hx (by have := ok.gaps; omega)
        have hp : x.to_.place ∈ allP C := by
          have := step_place hk hx (by unfold PlaceOk allP at *; rw [hangs_iff]; simpa using i3); unfold PlaceOk at this; rw [hangs_iff] at this; unfold allP; simpa using this
        refine mem_posL.2 ⟨by simp only; have := ok.gaps; omega, ?_, hp⟩
        rcases List.mem_append.1 hx with hx | hx
        · obtain ⟨i, e, t, h1, h2, rfl⟩ := mem_madeL.1 hx; unfold madeS at h2; split at h2
          cases h2
          cases h2
          have := (List.getElem?_eq_some_iff.1 h1).1; exact or_lt i2 (by omega)
        obtain ⟨p, t, hpm, g2, rfl⟩ := mem_passL.1 hx; unfold passedS at g2; split at g2
        cases g2
        cases g2; exact i2
    exact h
  · have hr := posL_rank C; refine List.Pairwise.imp_of_mem ?_ hr; intro a b ha hb hab τ w hw e; obtain ⟨x, hx, -, rfl⟩ := mem_earlyW.1 hw; simp only at e; subst e
    have h2 : rank C b < rank C x.to_ := by
      obtain ⟨b1, b2, b3⟩ := mem_posL.1 hb; unfold rank
      rcases List.mem_append.1 hx with hx | hx
      · obtain ⟨i, e, t, h1, h2, rfl⟩ := mem_madeL.1 hx; unfold madeS at h2; split at h2
        cases h2
        rename_i hn
        cases h2
        have : b.done.testBit (0 + i) = false := by
          cases hq : b.done.testBit (0 + i) with
          | false => rfl
          | true => exact absurd (.inl hq) hn
        have := or_gt this; simp only; omega
      obtain ⟨p, t, hpm, g2, rfl⟩ := mem_passL.1 hx; unfold passedS at g2; split at g2
      cases g2
      cases g2
      simp only [Nat.add_mul]; omega
    omega
  obtain ⟨x, hx, -, rfl⟩ := mem_earlyW.1 hw; obtain ⟨i1, i2, i3⟩ := mem_posL.1 hs; have hg := step_gaps ok hx (by have := ok.gaps; omega)
  have hp : x.to_.place ∈ allP C := by
    have := step_place hk hx (by unfold PlaceOk allP at *; rw [hangs_iff]; simpa using i3); unfold PlaceOk at this; rw [hangs_iff] at this; unfold allP; simpa using this
  refine mem_posL.2 ⟨by simp only; have := ok.gaps; omega, ?_, hp⟩
  rcases List.mem_append.1 hx with hx | hx
  · obtain ⟨i, e, t, h1, h2, rfl⟩ := mem_madeL.1 hx; unfold madeS at h2; split at h2
    cases h2
    cases h2
    have := (List.getElem?_eq_some_iff.1 h1).1; exact or_lt i2 (by omega)
  obtain ⟨p, t, hpm, g2, rfl⟩ := mem_passL.1 hx; unfold passedS at g2; split at g2
  cases g2
  cases g2; exact i2
def B00 : Sta → Int := fun s => if s = s00 then 0 else -1
def possibleB (C : Chn) (sts : List Stg) : Bool := (List.range (C.gaps.toNat + 1)).any fun g => (allP C).any fun p => decide (0 ≤ possB C (posL C) B00 sts ⟨2 ^ C.es.length - 1, p, g⟩)
theorem possible_iff (ok : C.ok) (hk : Kinds C) {sts : List Stg} (hr : Rising sts) (h0 : ∀ st ∈ sts, 0 ≤ st.at_.lo) : possibleB C sts = true ↔ PossP C sts := by
  have hT := posL_topo ok hk
  obtain ⟨h1, h2⟩ := poss_ok hT sts sts 0 B00 rfl (Nat.zero_le _) (fun s hs => by
    unfold B00; rw [if_neg]; decide
    · rintro rfl; exact hs hT.root) (fun s h => by
    unfold B00 at h ⊢; split at h
    · rename_i e; subst e; rw [if_pos rfl]; exact .root
    omega) (fun _ => by unfold B00; rw [if_pos rfl]) fun k' s τ st h => by omega
  rw [← g2_iff ok hr h0]; unfold possibleB; simp only [List.any_eq_true, List.mem_range, decide_eq_true_eq]; constructor
  · rintro ⟨g, hg, p, hp, h⟩; exact ⟨_, _, h1 _ h, by simp [allS]⟩
  rintro ⟨s, τ, hg, ha⟩; have hB := (h2 s τ hg).1
  have hm : s ∈ posL C := by
    suffices hc : ∀ k s τ, G2 C sts k s τ → s ∈ posL C from hc _ s τ hg
    intro k s τ h
    induction h with
    | root => exact hT.root
    | move h hw ih => exact hT.clo _ ih _ _ hw
    | stage h hk ha ht ih => exact ih
  obtain ⟨m1, m2, m3⟩ := mem_posL.1 hm; unfold allS at ha; have ha : s.done = 2 ^ C.es.length - 1 := by simpa using ha
  refine ⟨s.gaps, by omega, s.place, m3, ?_⟩; rw [← ha]; exact hB
end
section
variable {C : Chn}
theorem poss_nil : PossP C [] ↔ Cons C := ⟨fun ⟨l, h, _⟩ => ⟨l, h⟩, fun ⟨l, h⟩ => ⟨l, h, fun st hst => absurd hst List.not_mem_nil⟩⟩
theorem rising_nil : Rising [] := fun j a b h => by simp at h
theorem consistent_iff (ok : C.ok) (hk : Kinds C) : possibleB C [] = foundS C [] := by rw [Bool.eq_iff_iff, possible_iff ok hk rising_nil fun st hst => absurd hst List.not_mem_nil, poss_nil, found_nil ok]
def insI (n : Int) : List Int → List Int
  | [] => [n]
  | x :: r => if x < n then x :: insI n r else if x = n then x :: r else n :: x :: r
theorem mem_insI {n m : Int} : ∀ {l : List Int}, m ∈ insI n l ↔ m = n ∨ m ∈ l
  | [] => by simp [insI]
  | x :: r => by
    unfold insI; split
    · simp only [List.mem_cons, mem_insI (l := r)]; constructor
      · rintro (h | h | h); exact .inr (.inl h); exact .inl h; exact .inr (.inr h)
      rintro (h | h | h); exact .inr (.inl h); exact .inl h; exact .inr (.inr h)
    split
    · rename_i e; subst e; simp
    simp
theorem insI_inc {n : Int} : ∀ {l : List Int}, Inc l → Inc (insI n l)
  | [], _ => by simp [insI, Inc]
  | x :: r, h => by
    obtain ⟨h1, h2⟩ := List.pairwise_cons.1 h; unfold insI; split
    · rename_i hlt; refine List.pairwise_cons.2 ⟨fun y hy => ?_, insI_inc h2⟩
      rcases mem_insI.1 hy with rfl | hy
      exact hlt; exact h1 y hy
    split
    exact h; rename_i h3 h4; refine List.pairwise_cons.2 ⟨fun y hy => ?_, h⟩
    rcases List.mem_cons.1 hy with rfl | hy
    omega; have := h1 y hy; omega
end
section
variable {C : Chn}
theorem inc_ext : ∀ {a b : List Int}, Inc a → Inc b → (∀ x, x ∈ a ↔ x ∈ b) → a = b
  | [], [], _, _, _ => rfl
  | [], y :: b, _, _, h => absurd ((h y).2 List.mem_cons_self) List.not_mem_nil
  | x :: a, [], _, _, h => absurd ((h x).1 List.mem_cons_self) List.not_mem_nil
  | x :: a, y :: b, ha, hb, h => by
    obtain ⟨a1, a2⟩ := List.pairwise_cons.1 ha; obtain ⟨b1, b2⟩ := List.pairwise_cons.1 hb
    have hxy : x = y := by
      have h1 := (h x).1 List.mem_cons_self; have h2 := (h y).2 List.mem_cons_self
      rcases List.mem_cons.1 h1 with e | e
      exact e
      rcases List.mem_cons.1 h2 with e' | e'
      exact e'.symm; have := b1 x e; have := a1 y e'; omega
    subst hxy; rw [inc_ext a2 b2 fun z => ?_]; constructor
    · intro hz
      rcases List.mem_cons.1 ((h z).1 (List.mem_cons_of_mem _ hz)) with e | e
      subst e; have := a1 z hz; omega; exact e
    intro hz
    rcases List.mem_cons.1 ((h z).2 (List.mem_cons_of_mem _ hz)) with e | e
    subst e; have := b1 z hz; omega; exact e
def copiesL (es : List Entr) (d : Nat) : List Int := ((List.range es.length).filterMap fun i => match es[i]? with
  | some e => if e.kind = 2 ∧ d.testBit i = true then some e.src else none
  | none => none).foldl (fun acc n => insI n acc) []
theorem ins_gen : ∀ (l acc : List Int), Inc acc → Inc (l.foldl (fun acc n => insI n acc) acc) ∧ ∀ x, x ∈ l.foldl (fun acc n => insI n acc) acc ↔ x ∈ acc ∨ x ∈ l
  | [], acc, h => ⟨h, fun x => by simp⟩
  | n :: l, acc, h => by
    rw [List.foldl_cons]; obtain ⟨h1, h2⟩ := ins_gen l (insI n acc) (insI_inc h); refine ⟨h1, fun x => ?_⟩; rw [h2, mem_insI, List.mem_cons]; constructor
    · rintro ((h | h) | h); exact .inr (.inl h); exact .inl h; exact .inr (.inr h)
    rintro (h | h | h); exact .inl (.inr h); exact .inl (.inl h); exact .inr h
theorem mem_copies {es : List Entr} {d : Nat} {n : Int} : n ∈ copiesL es d ↔ hasCopy es d n = true := by
  unfold copiesL; rw [(ins_gen _ [] List.Pairwise.nil).2, copy_iff]; simp only [List.not_mem_nil, false_or, List.mem_filterMap, List.mem_range]; constructor
  · rintro ⟨i, hi, h⟩; split at h
    · rename_i e he; split at h
      · rename_i hc
        cases h
        exact ⟨i, e, he, hc.1, hc.2, rfl⟩
      cases h
    cases h
  rintro ⟨i, e, he, h1, h2, rfl⟩; exact ⟨i, (List.getElem?_eq_some_iff.1 he).1, by rw [he]; simp [h1, h2]⟩
structure Std where
  place : Int
  copies : List Int
  deriving DecidableEq
structure RelB (C : Chn) (s : Sta) (st : Std) (done : List Int) (gaps : Nat) : Prop where
  place : st.place = s.place
  gaps : gaps = s.gaps
  inc : Inc done
  bit : ∀ (i : Nat) (e : Entr), C.es[i]? = some e → (s.done.testBit i = true ↔ e.id ∈ done)
  sub : ∀ x ∈ done, ∃ e ∈ C.es, e.id = x
  copies : st.copies = copiesL C.es s.done
  high : ∀ i, C.es.length ≤ i → s.done.testBit i = false
theorem find_id {es : List Entr} (hn : (es.map (·.id)).Nodup) {i : Nat} {e : Entr} (h : es[i]? = some e) : (es.find? fun x => x.id == e.id) = some e := by
  cases hf : es.find? fun x => x.id == e.id with
  | none =>
    have := List.find?_eq_none.1 hf e (List.mem_of_getElem? h); simp at this
  | some x =>
    have h1 := List.find?_some hf; have h2 := List.mem_of_find?_eq_some hf; obtain ⟨j, hj⟩ := List.getElem?_of_mem h2; have : i = j := nodup_idx hn (a := e.id) (by rw [List.getElem?_map, h]; rfl) (by rw [List.getElem?_map, hj]; simpa using h1); subst this; rw [h] at hj; exact hj.symm
end
section
variable {C : Chn}
def nar (id : Int) (s : Spn) (e : Entr) : Entr := if e.id = id then { e with at_ := s } else e
def narC (C : Chn) (id : Int) (s : Spn) : Chn := { C with es := C.es.map (nar id s) }
theorem nar_made {id : Int} {s : Spn} {st : Sta} {i : Nat} {e : Entr} : madeS st i (nar id s e) = madeS st i e := by
  unfold nar; split
  rfl; rfl
theorem nar_id {id : Int} {s : Spn} {e : Entr} : (nar id s e).id = e.id := by unfold nar; split <;> rfl
theorem nar_steps {id : Int} {s : Spn} (ok : C.ok) (hid : 1 ≤ id) {st : Sta} {x' : Stp} : x' ∈ stepsS (narC C id s) st ↔ ∃ x ∈ stepsS C st, x' = if x.entry = id then { x with at_ := s } else x := by
  unfold stepsS; simp only [List.mem_append, mem_madeL, mem_passL]; constructor
  · rintro (⟨i, e', t, h1, h2, rfl⟩ | ⟨p, t, h1, h2, rfl⟩)
    · unfold narC at h1; simp only [List.getElem?_map] at h1; obtain ⟨e, he, rfl⟩ := Option.map_eq_some_iff.1 h1; rw [nar_made] at h2; refine ⟨⟨e.id, 0, e.at_, t⟩, .inl ⟨i, e, t, he, h2, rfl⟩, ?_⟩; simp only [nar_id]; unfold nar; split <;> rfl
    refine ⟨⟨0, p, ⟨0, maxTime⟩, t⟩, .inr ⟨p, t, h1, h2, rfl⟩, ?_⟩; simp only; rw [if_neg (by omega)]
  rintro ⟨x, ⟨i, e, t, h1, h2, rfl⟩ | ⟨p, t, h1, h2, rfl⟩, rfl⟩
  · refine .inl ⟨i, nar id s e, t, by unfold narC; simp only [List.getElem?_map, h1]; rfl, by rw [nar_made]; exact h2, ?_⟩; simp only [nar_id]; unfold nar; split <;> rfl
  refine .inr ⟨p, t, h1, h2, ?_⟩; simp only; rw [if_neg (by omega)]
def Within (id : Int) (s : Spn) (l : List Mv) : Prop := ∀ m ∈ l, m.entry = id → s.lo ≤ m.time ∧ m.time ≤ s.hi
theorem nar_run {id : Int} {s : Spn} (ok : C.ok) (hid : 1 ≤ id) (hs : ∀ e ∈ C.es, e.id = id → e.at_.lo ≤ s.lo ∧ s.hi ≤ e.at_.hi) {st sf : Sta} {now : Int} {l : List Mv} : Run (narC C id s) st now l sf ↔ Run C st now l sf ∧ Within id s l := by
  have wide : ∀ {st : Sta} {x : Stp}, x ∈ stepsS C st → x.entry = id → x.at_.lo ≤ s.lo ∧ s.hi ≤ x.at_.hi := by
    intro st x hx he
    rcases List.mem_append.1 hx with hx | hx
    · obtain ⟨i, e, t, h1, -, rfl⟩ := mem_madeL.1 hx; exact hs e (List.mem_of_getElem? h1) he
    obtain ⟨p, t, -, -, rfl⟩ := mem_passL.1 hx; simp only at he; omega
  constructor
  · intro h
    induction h with
    | nil => exact ⟨.nil, fun m hm => absurd hm List.not_mem_nil⟩
    | cons hx0 h0 h1 h2 _ ih =>
      obtain ⟨x, hx, rfl⟩ := (nar_steps ok hid).1 hx0; clear hx0; obtain ⟨i1, i2⟩ := ih; by_cases he : x.entry = id
      · rw [if_pos he] at *; simp only at h1 h2 i1; obtain ⟨w1, w2⟩ := wide hx he; refine ⟨Run.cons (x := x) hx h0 (by omega) (by omega) i1, fun m hm hme => ?_⟩
        rcases List.mem_cons.1 hm with rfl | hm
        exact ⟨h1, h2⟩; exact i2 m hm hme
      rw [if_neg he] at *; refine ⟨.cons hx h0 h1 h2 i1, fun m hm hme => ?_⟩
      rcases List.mem_cons.1 hm with rfl | hm
      exact absurd hme he; exact i2 m hm hme
  rintro ⟨h, hw⟩
  induction h with
  | nil => exact .nil
  | @cons st sf now t x l hx h0 h1 h2 _ ih =>
    have ih := ih fun m hm => hw m (List.mem_cons_of_mem _ hm)
    have hx' := (nar_steps (s := s) ok hid).2 ⟨x, hx, rfl⟩; by_cases he : x.entry = id
    · rw [if_pos he] at hx'; have := hw _ List.mem_cons_self he; exact Run.cons (x := { x with at_ := s }) hx' h0 this.1 this.2 ih
    rw [if_neg he] at hx'; exact .cons hx' h0 h1 h2 ih
theorem nar_tell {id : Int} {s : Spn} (ok : C.ok) (hid : 1 ≤ id) (hs : ∀ e ∈ C.es, e.id = id → e.at_.lo ≤ s.lo ∧ s.hi ≤ e.at_.hi) {l : List Mv} : Tell (narC C id s) l ↔ Tell C l ∧ Within id s l := by
  unfold Tell
  have ha : ∀ sf, allS (narC C id s) sf = allS C sf := fun sf => by unfold allS narC; simp
  constructor
  · rintro ⟨sf, h1, h2⟩; obtain ⟨h1, h3⟩ := (nar_run ok hid hs).1 h1; exact ⟨⟨sf, h1, by rw [← ha]; exact h2⟩, h3⟩
  rintro ⟨⟨sf, h1, h2⟩, h3⟩; exact ⟨sf, (nar_run ok hid hs).2 ⟨h1, h3⟩, by rw [ha]; exact h2⟩
theorem step_bit {st : Sta} {x : Stp} (ok : C.ok) (hx : x ∈ stepsS C st) {i : Nat} {e : Entr} (he : C.es[i]? = some e) : (st.done.testBit i = true → x.entry ≠ e.id ∧ x.to_.done.testBit i = true) ∧ (st.done.testBit i = false → x.to_.done.testBit i = true → x.entry = e.id) ∧ (x.entry = e.id → x.to_.done.testBit i = true) := by
  have hei := ok.eid e (List.mem_of_getElem? he)
  rcases List.mem_append.1 hx with hx | hx
  · obtain ⟨j, e', t, h1, h2, rfl⟩ := mem_madeL.1 hx; rw [Nat.zero_add] at h2; unfold madeS at h2; split at h2
    cases h2
    rename_i hn
    cases h2
    simp only [not_or] at hn; simp only; rw [Nat.testBit_or, Nat.testBit_two_pow]
    have hji : e'.id = e.id → j = i := fun h => nodup_idx ok.nd (a := e.id) (by rw [List.getElem?_map, h1]; simp [h]) (by rw [List.getElem?_map, he]; rfl)
    refine ⟨fun hb => ⟨fun h => ?_, by rw [hb]; rfl⟩, fun hb h => ?_, fun h => ?_⟩
    · rw [hji h] at hn; exact hn.1 hb
    · rw [hb] at h; have : j = i := by simpa using h
      subst this; rw [h1] at he
      cases he
      rfl
    rw [hji h]; simp
  obtain ⟨p, t, hp, g2, rfl⟩ := mem_passL.1 hx; unfold passedS at g2; split at g2
  cases g2
  cases g2
  simp only; exact ⟨fun hb => ⟨by omega, hb⟩, fun hb h => (by rw [hb] at h; cases h), fun h => (by omega)⟩
theorem run_once (ok : C.ok) {st sf : Sta} {now : Int} {l : List Mv} (h : Run C st now l sf) {i : Nat} {e : Entr} (he : C.es[i]? = some e) : (st.done.testBit i = true → ∀ m ∈ l, m.entry ≠ e.id) ∧ (st.done.testBit i = false → sf.done.testBit i = true → ∃ m ∈ l, m.entry = e.id) ∧ (∀ m ∈ l, ∀ m' ∈ l, m.entry = e.id → m'.entry = e.id → m = m') := by
  induction h with
  | nil => exact ⟨fun _ m hm => absurd hm List.not_mem_nil, fun h h' => (by rw [h] at h'; cases h'), fun m hm => absurd hm List.not_mem_nil⟩
  | @cons st sf now t x l hx h0 h1 h2 _ ih =>
    obtain ⟨i1, i2, i3⟩ := ih; obtain ⟨b1, b2, b3⟩ := step_bit ok hx he; refine ⟨fun hb m hm => ?_, fun hb hf => ?_, fun m hm m' hm' e1 e2 => ?_⟩
    · rcases List.mem_cons.1 hm with rfl | hm
      exact (b1 hb).1; exact i1 (b1 hb).2 m hm
    · cases hq : x.to_.done.testBit i with
      | true => exact ⟨_, List.mem_cons_self, b2 hb hq⟩
      | false =>
        obtain ⟨m, hm, h⟩ := i2 hq hf; exact ⟨m, List.mem_cons_of_mem _ hm, h⟩
    rcases List.mem_cons.1 hm with rfl | hm <;> rcases List.mem_cons.1 hm' with rfl | hm'
    rfl; exact absurd e2 (i1 (b3 e1) m' hm'); exact absurd e1 (i1 (b3 e2) m hm); exact i3 m hm m' hm' e1 e2
theorem nar_cons {id : Int} {s : Spn} (ok : C.ok) {e : Entr} (he : e ∈ C.es) (hid : e.id = id) (hs : e.at_.lo ≤ s.lo ∧ s.hi ≤ e.at_.hi) : Cons (narC C id s) ↔ ∃ τ, TimeOf C id τ ∧ s.lo ≤ τ ∧ τ ≤ s.hi := by
  have h1 : 1 ≤ id := hid ▸ ok.eid e he; obtain ⟨i, hi⟩ := List.getElem?_of_mem he
  have hw : ∀ e' ∈ C.es, e'.id = id → e'.at_.lo ≤ s.lo ∧ s.hi ≤ e'.at_.hi := by
    intro e' he' hid'; obtain ⟨j, hj⟩ := List.getElem?_of_mem he'; have : i = j := nodup_idx ok.nd (a := id) (by rw [List.getElem?_map, hi]; simp [hid]) (by rw [List.getElem?_map, hj]; simp [hid']); subst this; rw [hi] at hj
    cases hj
    exact hs
  constructor
  · rintro ⟨l, hl⟩; obtain ⟨hl, hwi⟩ := (nar_tell ok h1 hw).1 hl; have hl' := hl; obtain ⟨sf, hr, ha⟩ := hl'
    have hbits : sf.done.testBit i = true := by
      unfold allS at ha; have ha : sf.done = 2 ^ C.es.length - 1 := by simpa using ha
      rw [ha, Nat.testBit_two_pow_sub_one]; simpa using (List.getElem?_eq_some_iff.1 hi).1
    obtain ⟨m, hm, hme⟩ := (run_once ok hr hi).2.1 (by simp) hbits; exact ⟨m.time, ⟨l, hl, m, hm, hme.trans hid, rfl⟩, hwi m hm (hme.trans hid)⟩
  rintro ⟨τ, ⟨l, hl, m, hm, hme, rfl⟩, h2, h3⟩; refine ⟨l, (nar_tell ok h1 hw).2 ⟨hl, fun m' hm' hme' => ?_⟩⟩; obtain ⟨sf, hr, -⟩ := hl; have := (run_once ok hr hi).2.2 m hm m' hm' (hme.trans hid.symm) (hme'.trans hid.symm); subst this; exact ⟨h2, h3⟩
def bsLo (P : Int → Bool) : Nat → Int → Int → Int
  | 0, _, b => b
  | f + 1, a, b => if 1 < b - a then (if P ((a + b) / 2) = true then bsLo P f a ((a + b) / 2) else bsLo P f ((a + b) / 2) b) else b
def bsHi (P : Int → Bool) : Nat → Int → Int → Int
  | 0, a, _ => a
  | f + 1, a, b => if 1 < b - a then (if P ((a + b) / 2) = true then bsHi P f ((a + b) / 2) b else bsHi P f a ((a + b) / 2)) else a
theorem bsLo_ok {P : Int → Bool} (hm : ∀ x y, x ≤ y → P x = true → P y = true) : ∀ (f : Nat) (a b : Int), (b - a).toNat ≤ f → a < b → P b = true → P a = false → P (bsLo P f a b) = true ∧ P (bsLo P f a b - 1) = false
  | 0, a, b, hf, hab, _, _ => by omega
  | f + 1, a, b, hf, hab, hb, ha => by
    unfold bsLo; by_cases h : 1 < b - a
    · rw [if_pos h]; have h1 : a < (a + b) / 2 := by omega
      have h2 : (a + b) / 2 < b := by omega
      by_cases hp : P ((a + b) / 2) = true
      · rw [if_pos hp]; exact bsLo_ok hm f a _ (by omega) h1 hp ha
      rw [if_neg hp]; exact bsLo_ok hm f _ b (by omega) h2 hb (by simpa using hp)
    rw [if_neg h]; have : b - 1 = a := by omega
    rw [this]; exact ⟨hb, ha⟩
theorem bsHi_ok {P : Int → Bool} (hm : ∀ x y, y ≤ x → P x = true → P y = true) : ∀ (f : Nat) (a b : Int), (b - a).toNat ≤ f → a < b → P a = true → P b = false → P (bsHi P f a b) = true ∧ P (bsHi P f a b + 1) = false
  | 0, a, b, hf, hab, _, _ => by omega
  | f + 1, a, b, hf, hab, ha, hb => by
    unfold bsHi; by_cases h : 1 < b - a
    · rw [if_pos h]; have h1 : a < (a + b) / 2 := by omega
      have h2 : (a + b) / 2 < b := by omega
      by_cases hp : P ((a + b) / 2) = true
      · rw [if_pos hp]; exact bsHi_ok hm f _ b (by omega) h2 hp hb
      rw [if_neg hp]; exact bsHi_ok hm f a _ (by omega) h1 ha (by simpa using hp)
    rw [if_neg h]; have : a + 1 = b := by omega
    rw [this]; exact ⟨ha, hb⟩
def whenR (C : Chn) (e : Entr) : Spn :=
  ⟨bsLo (fun m => possibleB (narC C e.id ⟨e.at_.lo, m⟩) []) (e.at_.hi - e.at_.lo + 1).toNat (e.at_.lo - 1) e.at_.hi, bsHi (fun m => possibleB (narC C e.id ⟨m, e.at_.hi⟩) []) (e.at_.hi - e.at_.lo + 1).toNat e.at_.lo (e.at_.hi + 1)⟩
theorem whenR_eq (ok : C.ok) (hk : Kinds C) {e : Entr} (he : e ∈ C.es) (hc : Cons C) {gs : List (Sta × Int)} (hg : ∀ s t, (s, t) ∈ gs ↔ earlyF C s = some t) : whenR C e = whenL C e.id gs := by
  have hsp := ok.span e he
  have nok : ∀ s : Spn, 0 ≤ s.lo → s.lo ≤ s.hi → s.hi ≤ maxTime → (narC C e.id s).ok ∧ Kinds (narC C e.id s) := by
    intro s h0 h1 h2
    have mem : ∀ x ∈ (narC C e.id s).es, ∃ y ∈ C.es, x = nar e.id s y := fun x hx => by
      obtain ⟨y, hy, rfl⟩ := List.mem_map.1 hx; exact ⟨y, hy, rfl⟩
    have hkd : ∀ y, (nar e.id s y).kind = y.kind := fun y => by unfold nar; split <;> rfl
    refine ⟨⟨ok.gaps, ok.ids, fun x hx => ?_, fun x hx => ?_, fun x hx => ?_, ?_, ok.ndp⟩, fun x hx => ?_⟩
    · obtain ⟨y, hy, rfl⟩ := mem x hx; rw [nar_id]; exact ok.eid y hy
    · obtain ⟨y, hy, rfl⟩ := mem x hx; unfold nar; split
      exact ⟨h0, h1, h2⟩; exact ok.span y hy
    · obtain ⟨y, hy, rfl⟩ := mem x hx; rw [hkd]; exact ok.kind y hy
    · have : (narC C e.id s).es.map (·.id) = C.es.map (·.id) := by
        unfold narC; simp only [List.map_map]
        exact List.map_congr_left fun y _ => nar_id
      rw [this]; exact ok.nd
    obtain ⟨y, hy, rfl⟩ := mem x hx; have := hk y hy; unfold nar; split
    unfold kindOk at *; exact this; exact this
  have hP : ∀ s : Spn, e.at_.lo ≤ s.lo → s.lo ≤ s.hi → s.hi ≤ e.at_.hi → (possibleB (narC C e.id s) [] = true ↔ ∃ τ, TimeOf C e.id τ ∧ s.lo ≤ τ ∧ τ ≤ s.hi) := by
    intro s h1 h2 h3; obtain ⟨a, b⟩ := nok s (by omega) h2 (by omega); rw [consistent_iff a b, found_nil a, nar_cons ok he rfl ⟨h1, h3⟩]
  obtain ⟨w1, w2, w3⟩ := whenL_law ok (id := e.id) hg
  have hex : ∃ τ, TimeOf C e.id τ := by
    obtain ⟨i, hi⟩ := List.getElem?_of_mem he; obtain ⟨l, hl⟩ := hc; have hl' := hl; obtain ⟨sf, hr, ha⟩ := hl'
    have hbits : sf.done.testBit i = true := by
      unfold allS at ha; have ha : sf.done = 2 ^ C.es.length - 1 := by simpa using ha
      rw [ha, Nat.testBit_two_pow_sub_one]; simpa using (List.getElem?_eq_some_iff.1 hi).1
    obtain ⟨m, hm, hme⟩ := (run_once ok hr hi).2.1 (by simp) hbits; exact ⟨m.time, l, hl, m, hm, hme, rfl⟩
  obtain ⟨t1, t2⟩ := w2 (w3 hex)
  have inside : ∀ τ, TimeOf C e.id τ → e.at_.lo ≤ τ ∧ τ ≤ e.at_.hi := by
    rintro τ ⟨l, ⟨sf, hr, -⟩, m, hm, hme, rfl⟩; obtain ⟨l1, l2, rfl⟩ := List.append_of_mem hm; obtain ⟨s, -, g⟩ := hr.split; obtain ⟨x, hx, e1, -, -, h4, h5, -⟩ := g.inv; obtain ⟨i, hi⟩ := List.getElem?_of_mem he
    rcases List.mem_append.1 hx with hx | hx
    · obtain ⟨j, e', t, k1, -, rfl⟩ := mem_madeL.1 hx; simp only at e1 h4 h5; have : j = i := nodup_idx ok.nd (a := e.id) (by rw [List.getElem?_map, k1]; simp [← e1, hme]) (by rw [List.getElem?_map, hi]; rfl); subst this; rw [hi] at k1
      cases k1
      exact ⟨h4, h5⟩
    obtain ⟨p, t, -, -, rfl⟩ := mem_passL.1 hx; have := ok.eid e he; simp only at e1; omega
  have i1 := inside _ t1; have i2 := inside _ t2; generalize hw : whenL C e.id gs = w at *
  have L : ∀ m, possibleB (narC C e.id ⟨e.at_.lo, m⟩) [] = true → e.at_.lo ≤ m → w.lo ≤ m ∨ e.at_.hi < m := by
    intro m h1 h2; by_cases h3 : m ≤ e.at_.hi
    · obtain ⟨τ, k1, k2, k3⟩ := (hP ⟨e.at_.lo, m⟩ (Int.le_refl _) h2 h3).1 h1; have := w1 τ k1; simp only at k3; omega
    omega
  have lo : whenR C e = ⟨w.lo, w.hi⟩ := by
    unfold whenR
    have bl : bsLo (fun m => possibleB (narC C e.id ⟨e.at_.lo, m⟩) []) (e.at_.hi - e.at_.lo + 1).toNat (e.at_.lo - 1) e.at_.hi = bsLo (fun m => decide (w.lo ≤ m)) (e.at_.hi - e.at_.lo + 1).toNat (e.at_.lo - 1) e.at_.hi := by
      suffices hgen : ∀ (f : Nat) (a b : Int), e.at_.lo - 1 ≤ a → b ≤ e.at_.hi → bsLo (fun m => possibleB (narC C e.id ⟨e.at_.lo, m⟩) []) f a b = bsLo (fun m => decide (w.lo ≤ m)) f a b from hgen _ _ _ (Int.le_refl _) (Int.le_refl _)
      intro f
      induction f with
      | zero => intro a b _ _; rfl
      | succ f ih =>
        intro a b ha hb; unfold bsLo; by_cases h : 1 < b - a
        · rw [if_pos h, if_pos h]; have h1 : a < (a + b) / 2 := by omega
          have h2 : (a + b) / 2 < b := by omega
          have he : possibleB (narC C e.id ⟨e.at_.lo, (a + b) / 2⟩) [] = decide (w.lo ≤ (a + b) / 2) := by
            rw [Bool.eq_iff_iff, hP ⟨e.at_.lo, (a + b) / 2⟩ (Int.le_refl _) (by show e.at_.lo ≤ (a + b) / 2; omega) (by show (a + b) / 2 ≤ e.at_.hi; omega), decide_eq_true_eq]; exact ⟨fun ⟨τ, k1, k2, k3⟩ => by have := w1 τ k1; simp only at k3; omega, fun hle => ⟨w.lo, t1, i1.1, hle⟩⟩
          simp only [he]; rw [ih _ _ ha (by omega), ih _ _ (by omega) hb]
        rw [if_neg h, if_neg h]
    have bh : bsHi (fun m => possibleB (narC C e.id ⟨m, e.at_.hi⟩) []) (e.at_.hi - e.at_.lo + 1).toNat e.at_.lo (e.at_.hi + 1) = bsHi (fun m => decide (m ≤ w.hi)) (e.at_.hi - e.at_.lo + 1).toNat e.at_.lo (e.at_.hi + 1) := by
      suffices hgen : ∀ (f : Nat) (a b : Int), e.at_.lo ≤ a → b ≤ e.at_.hi + 1 → bsHi (fun m => possibleB (narC C e.id ⟨m, e.at_.hi⟩) []) f a b = bsHi (fun m => decide (m ≤ w.hi)) f a b from hgen _ _ _ (Int.le_refl _) (Int.le_refl _)
      intro f
      induction f with
      | zero => intro a b _ _; rfl
      | succ f ih =>
        intro a b ha hb; unfold bsHi; by_cases h : 1 < b - a
        · rw [if_pos h, if_pos h]; have h1 : a < (a + b) / 2 := by omega
          have h2 : (a + b) / 2 < b := by omega
          have he : possibleB (narC C e.id ⟨(a + b) / 2, e.at_.hi⟩) [] = decide ((a + b) / 2 ≤ w.hi) := by
            rw [Bool.eq_iff_iff, hP ⟨(a + b) / 2, e.at_.hi⟩ (by show e.at_.lo ≤ (a + b) / 2; omega) (by show (a + b) / 2 ≤ e.at_.hi; omega) (Int.le_refl _), decide_eq_true_eq]; exact ⟨fun ⟨τ, k1, k2, k3⟩ => by have := w1 τ k1; simp only at k2; omega, fun hle => ⟨w.hi, t2, hle, i2.2⟩⟩
          simp only [he]; rw [ih _ _ (by omega) hb, ih _ _ ha (by omega)]
        rw [if_neg h, if_neg h]
    rw [bl, bh]; have a := bsLo_ok (P := fun m => decide (w.lo ≤ m)) (fun x y hxy hx => by simp at hx ⊢; omega) (e.at_.hi - e.at_.lo + 1).toNat (e.at_.lo - 1) e.at_.hi (by omega) (by omega) (by have := w1 _ t2; simp; omega) (by simp; omega); have b := bsHi_ok (P := fun m => decide (m ≤ w.hi)) (fun x y hxy hx => by simp at hx ⊢; omega) (e.at_.hi - e.at_.lo + 1).toNat e.at_.lo (e.at_.hi + 1) (by omega) (by omega) (by have := w1 _ t1; simp; omega) (by simp; omega); simp only [decide_eq_true_eq, decide_eq_false_iff_not] at a b; congr 1
    omega; omega
  exact lo
end
end Go.Proofs.Cu
