import Derived.Test.YtedekogkeamacaaGreatDoorCuA
namespace Go.Proofs.Cu
open Go.Proofs.Ax
set_option linter.unusedVariables false
variable {C : Chn}
def Cons (C : Chn) : Prop := ∃ l, Tell C l
theorem sorted_nil : Sorted [] := fun i j a b _ h => by simp at h
theorem sorted_one (c : Cnd) : Sorted [c] := fun i j a b _ h h' => by
  have hi : i = 0 := by rcases i with _ | i; rfl; simp at h
  have hj : j = 0 := by rcases j with _ | j; rfl; simp at h'
  subst hi; subst hj
  cases h; cases h'
  exact Int.le_refl _
theorem found_iff (ok : C.ok) {cs : List Cnd} (hs : Sorted cs) (h0 : ∀ c ∈ cs, 0 ≤ c.time) : foundS C cs = true ↔ ∃ l, Tell C l ∧ ∀ c ∈ cs, Sat C l c := by
  obtain ⟨h1, h2⟩ := search_law ok hs h0
  unfold foundS
  cases hq : searchS C cs with
  | none => exact ⟨fun h => (by cases h), fun ⟨l, a, b⟩ => (h2 hq l a b).elim⟩
  | some l => exact ⟨fun _ => ⟨l, h1 l hq⟩, fun _ => rfl⟩
theorem found_nil (ok : C.ok) : foundS C [] = true ↔ Cons C := by
  rw [found_iff ok sorted_nil (fun c hc => absurd hc List.not_mem_nil)]
  exact ⟨fun ⟨l, h, _⟩ => ⟨l, h⟩, fun ⟨l, h⟩ => ⟨l, h, fun c hc => absurd hc List.not_mem_nil⟩⟩
theorem found_one (ok : C.ok) {c : Cnd} (h0 : 0 ≤ c.time) : foundS C [c] = true ↔ ∃ s, Stands C s c.time ∧ holdsS C c s = true := by
  rw [found_iff ok (sorted_one c) (fun d hd => by rw [List.mem_singleton.1 hd]; exact h0), ← sat_stands ok h0]
  exact ⟨fun ⟨l, h, h'⟩ => ⟨l, h, h' c (List.mem_singleton.2 rfl)⟩, fun ⟨l, h, h'⟩ => ⟨l, h, fun d hd => by rw [List.mem_singleton.1 hd]; exact h'⟩⟩
theorem key_of_get {κ α : Type} [DecidableEq κ] {k : κ} {x : α} {gs : List (κ × List α)} (h : getG k gs = some x) : ∃ g ∈ gs, g.1 = k := by
  unfold getG at h
  cases hi : idxG k gs with
  | none => rw [lookG_none hi] at h; cases h
  | some i =>
    obtain ⟨g, h1, h2, -⟩ := lookG_some hi
    exact ⟨g, List.mem_of_getElem? h1, h2⟩
theorem mem_stays {s : Sta} {x : Spn} : (s, x) ∈ staysL C ↔ stayF C s = some x := by
  unfold staysL
  rw [List.mem_filterMap]
  constructor
  · rintro ⟨g, hg, h⟩
    split at h
    · rename_i y hy
      cases h
      exact hy
    · cases h
  · intro h
    have he : ∃ t, earlyF C s = some t := by
      unfold stayF at h
      split at h
      · rename_i t ht; exact ⟨t, ht⟩
      · cases h
    obtain ⟨t, ht⟩ := he
    obtain ⟨g, hg, rfl⟩ := key_of_get ht
    exact ⟨g, hg, by rw [h]⟩
theorem stays_nil (ok : C.ok) : staysL C = [] ↔ ¬ Cons C := by
  constructor
  · rintro h ⟨l, sf, hr, ha⟩
    have hm : ∀ m ∈ l, m.time ≤ maxTime := by
      intro m hm
      obtain ⟨l1, l2, rfl⟩ := List.append_of_mem hm
      obtain ⟨s, -, g⟩ := hr.split
      obtain ⟨x, hx, -, -, -, -, h5, -⟩ := g.inv
      have := step_span ok hx
      omega
    have : Stands C sf maxTime := ⟨l, [], sf, hr, hm, .nil, ha⟩
    obtain ⟨x, hx, -⟩ := (stay_law ok (by decide) (Int.le_refl _)).1 this
    have := mem_stays.2 hx
    rw [h] at this
    cases this
  · intro h
    apply List.eq_nil_iff_forall_not_mem.2
    rintro ⟨s, x⟩ hx
    have hx := mem_stays.1 hx
    have hb : 0 ≤ x.lo ∧ x.lo ≤ x.hi ∧ x.hi ≤ maxTime := by
      unfold stayF at hx
      split at hx
      · rename_i t ht
        obtain ⟨t0, hg, -⟩ := earlyF_some ok ht
        split at hx
        · rename_i hlt
          cases hx
          refine ⟨t0, by simp only; omega, ?_⟩
          have : lateS C s ≤ maxTime + 1 := by
            rw [lateS_eq ok hg]
            split
            · exact Int.le_refl _
            · rcases foldB_or (late := lateS C) (l := stepsS C s) (b := -1) with h2 | ⟨y, hy, -, h2⟩
              · rw [h2]; decide
              · rw [h2]
                have := step_span ok hy
                omega
          simp only
          omega
        · cases hx
      · cases hx
    obtain ⟨l, hl, -⟩ := (stands_tell ok (by omega)).1 ((stay_law ok (t := x.lo) (by omega) (by omega)).2 ⟨x, hx, by omega, by omega⟩)
    exact h ⟨l, hl⟩
theorem hands_iff (ok : C.ok) {p : Pers} {s : Spn} (hs : 0 ≤ s.lo ∧ s.lo ≤ s.hi ∧ s.hi ≤ maxTime) : handsB C p s (staysL C) = true ↔ ∃ t, s.lo ≤ t ∧ t ≤ s.hi ∧ (∃ d ∈ p.duty, d.lo ≤ t ∧ t ≤ d.hi) ∧ ∃ st, Stands C st t ∧ (st.place = p.id ∨ hasCopy C.es st.done p.id = true) := by
  unfold handsB
  rw [List.any_eq_true]
  constructor
  · rintro ⟨⟨st, x⟩, hx, h⟩
    simp only [Bool.and_eq_true, Bool.or_eq_true, beq_iff_eq, List.any_eq_true, decide_eq_true_eq] at h
    obtain ⟨h1, d, hd, h2⟩ := h
    have hx := mem_stays.1 hx
    exact ⟨max d.lo (max s.lo x.lo), by omega, by omega, ⟨d, hd, by omega, by omega⟩, st, (stay_law ok (by omega) (by omega)).2 ⟨x, hx, by omega, by omega⟩, h1⟩
  · rintro ⟨t, h1, h2, ⟨d, hd, h3, h4⟩, st, h5, h6⟩
    obtain ⟨x, hx, h7, h8⟩ := (stay_law ok (by omega) (by omega)).1 h5
    refine ⟨(st, x), mem_stays.2 hx, ?_⟩
    simp only [Bool.and_eq_true, Bool.or_eq_true, beq_iff_eq, List.any_eq_true, decide_eq_true_eq]
    exact ⟨h6, d, hd, by omega⟩
theorem duty_iff {ps : List Pers} (hn : (ps.map (·.id)).Nodup) {p : Pers} (hp : p ∈ ps) {t : Int} : dutyP ps p.id t = true ↔ ∃ d ∈ p.duty, d.lo ≤ t ∧ t ≤ d.hi := by
  unfold dutyP
  simp only [List.any_eq_true, Bool.and_eq_true, beq_iff_eq, decide_eq_true_eq]
  constructor
  · rintro ⟨q, hq, e, d, hd, h⟩
    have : q = p := by
      obtain ⟨i, hi⟩ := List.getElem?_of_mem hq
      obtain ⟨j, hj⟩ := List.getElem?_of_mem hp
      have : i = j := nodup_idx hn (a := p.id) (by rw [List.getElem?_map, hi]; simp [e]) (by rw [List.getElem?_map, hj]; rfl)
      subst this
      rw [hi] at hj
      exact Option.some.inj hj
    subst this
    exact ⟨d, hd, h⟩
  · rintro ⟨d, hd, h⟩
    exact ⟨p, hp, rfl, d, hd, h⟩
theorem known_mem {ps : List Pers} {n : Int} : knownP ps n = true ↔ n ∈ ps.map (·.id) := by
  unfold knownP
  rw [List.any_eq_true, List.mem_map]
  simp
theorem hangs_iff {ps : List Pers} {n : Int} : hangsP ps n = true ↔ n = 0 ∨ n ∈ ps.map (·.id) := by
  unfold hangsP
  rw [Bool.or_eq_true, known_mem, beq_iff_eq]
def Kinds (C : Chn) : Prop := ∀ e ∈ C.es, kindOk C.people e = true
theorem chn_kinds {c : Book} (h : c.ok) (key : Int) : Kinds (chnOf c key) := fun e he => (entr_parts (h.entr e (List.mem_filter.1 he).1)).2.2.2
def PlaceOk (C : Chn) (s : Sta) : Prop := s.place = -1 ∨ hangsP C.people s.place = true
theorem kind_place {ps : List Pers} {e : Entr} (h : kindOk ps e = true) : (e.kind = 1 ∨ e.kind = 4 → hangsP ps e.dst = true) ∧ (e.kind = 2 → knownP ps e.src = true) := by
  unfold kindOk at h
  constructor
  · rintro (hk | hk)
    · rw [if_pos hk] at h
      simp only [Bool.and_eq_true] at h
      exact h.2
    · rw [if_neg (by omega), if_neg (by omega), if_neg (by omega), if_pos hk] at h
      simp only [Bool.and_eq_true] at h
      exact h.1
  · intro hk
    rw [if_neg (by omega), if_pos hk] at h
    simp only [Bool.and_eq_true] at h
    exact h.1
theorem step_place (hk : Kinds C) {s : Sta} {x : Stp} (hx : x ∈ stepsS C s) (h : PlaceOk C s) : PlaceOk C x.to_ := by
  rcases List.mem_append.1 hx with hx | hx
  · obtain ⟨i, e, t, h1, h2, rfl⟩ := mem_madeL.1 hx
    have hke := hk e (List.mem_of_getElem? h1)
    unfold madeS at h2
    split at h2
    · cases h2
    · cases h2
      unfold PlaceOk placeOf
      simp only
      split
      · rename_i hc
        exact .inr ((kind_place hke).1 hc)
      · split
        · exact .inl rfl
        · exact h
  · obtain ⟨p, t', hp, g2, rfl⟩ := mem_passL.1 hx
    unfold passedS at g2
    split at g2
    · cases g2
    · rename_i hn
      cases g2
      simp only [not_or] at hn
      exact .inr (by simpa using hn.2.2.2)
theorem Run.place (hk : Kinds C) {s s' : Sta} {now : Int} {l : List Mv} (h : Run C s now l s') (hs : PlaceOk C s) : PlaceOk C s' := by
  induction h with
  | nil => exact hs
  | cons hx _ _ _ _ ih => exact ih (step_place hk hx hs)
theorem stands_place (hk : Kinds C) {s : Sta} {t : Int} (h : Stands C s t) : s.place = -1 ∨ s.place = 0 ∨ s.place ∈ C.people.map (·.id) := by
  obtain ⟨l1, l2, sf, g, -⟩ := h
  rcases g.place hk (.inr (by simp [hangsP])) with h | h
  · exact .inl h
  · exact .inr (hangs_iff.1 h)
theorem copy_known (hk : Kinds C) {d : Nat} {n : Int} (h : hasCopy C.es d n = true) : n ∈ C.people.map (·.id) := by
  unfold hasCopy at h
  obtain ⟨i, hi, h⟩ := List.any_eq_true.1 h
  split at h
  · rename_i e he
    simp only [Bool.and_eq_true, beq_iff_eq] at h
    have := (kind_place (hk e (List.mem_of_getElem? he))).2 h.1.1
    rw [h.2] at this
    exact known_mem.1 this
  · cases h
def solvedE (c : Book) (key : Int) (right : Bool) : Int := if askedE c key ≠ 0 then askedE c key else if right = false then 1 else if foundS (chnOf c key) [] = false then 9 else 0
theorem asked_0 {c : Book} {key : Int} (h : askedE c key = 0) : c.ok ∧ key ∈ c.keys := by
  unfold askedE at h
  split at h
  · rename_i h'; exact absurd h h'
  · rename_i h'
    split at h
    · rename_i hk
      exact ⟨(check_ok c).1 (by simpa using h'), by simpa using hk⟩
    · cases h
theorem among_err (c : Book) (key t : Int) (l : List Int) (mk : Int → Cnd) : (amongF c key t l mk).2 = solvedE c key (timeOk t) := by
  unfold amongF solvedE
  split
  · rfl
  · split
    · rfl
    · split <;> rfl
theorem hands_err {c : Book} {key : Int} {s : Spn} : (handsF c key s).2 = solvedE c key (validS s) := by
  unfold handsF solvedE
  split
  · rfl
  · rename_i h0
    obtain ⟨hok, -⟩ := asked_0 (c := c) (key := key) (by simpa using h0)
    have ok := (chn_ok hok key).1
    split
    · rfl
    · by_cases h : staysL (chnOf c key) = []
      · rw [if_pos h, if_pos]
        have := (stays_nil ok).1 h
        rw [← found_nil ok] at this
        simpa using this
      · rw [if_neg h, if_neg]
        intro hf
        refine h ((stays_nil ok).2 ?_)
        rw [← found_nil ok, hf]
        simp
theorem solved_0 {c : Book} {key : Int} {r : Bool} (h : solvedE c key r = 0) : askedE c key = 0 ∧ r = true ∧ foundS (chnOf c key) [] = true := by
  unfold solvedE at h
  split at h
  · rename_i h'; exact absurd h h'
  · rename_i h'
    split at h
    · cases h
    · rename_i hr
      split at h
      · cases h
      · rename_i hf
        exact ⟨by simpa using h', by simpa using hr, by simpa using hf⟩
theorem mem_holders {c : Book} {key t n : Int} (h : solvedE c key (timeOk t) = 0) : n ∈ (holdersF c key t).1 ↔ ∃ s, Stands (chnOf c key) s t ∧ s.place = n := by
  obtain ⟨h1, h2, h3⟩ := solved_0 h
  obtain ⟨hok, -⟩ := asked_0 h1
  have ok := (chn_ok hok key).1
  have h0 : 0 ≤ t := by unfold timeOk at h2; simp at h2; omega
  unfold holdersF amongF
  rw [if_neg (by simpa using h1), if_neg (by simp [h2]), if_neg (by simp [h3])]
  simp only
  rw [List.mem_filter, found_one (c := .place n t) ok h0]
  constructor
  · rintro ⟨-, s, hs, hh⟩
    exact ⟨s, hs, by simpa [holdsS] using hh⟩
  · rintro ⟨s, hs, rfl⟩
    refine ⟨?_, s, hs, by simp [holdsS]⟩
    have : s.place = -1 ∨ s.place = 0 ∨ s.place ∈ c.people.map (·.id) := stands_place (chn_kinds hok key) hs
    unfold placesL
    simpa using this
theorem mem_copiers {c : Book} {key t n : Int} (h : solvedE c key (timeOk t) = 0) : n ∈ (copiersF c key t).1 ↔ ∃ s, Stands (chnOf c key) s t ∧ hasCopy (chnOf c key).es s.done n = true := by
  obtain ⟨h1, h2, h3⟩ := solved_0 h
  obtain ⟨hok, -⟩ := asked_0 h1
  have ok := (chn_ok hok key).1
  have h0 : 0 ≤ t := by unfold timeOk at h2; simp at h2; omega
  unfold copiersF amongF
  rw [if_neg (by simpa using h1), if_neg (by simp [h2]), if_neg (by simp [h3])]
  simp only
  rw [List.mem_filter, found_one (c := .copy n t) ok h0]
  constructor
  · rintro ⟨-, s, hs, hh⟩
    exact ⟨s, hs, by simpa [holdsS] using hh⟩
  · rintro ⟨s, hs, hh⟩
    exact ⟨copy_known (chn_kinds hok key) hh, s, hs, by simpa [holdsS] using hh⟩
theorem mem_hands {c : Book} {key n : Int} {s : Spn} (h : solvedE c key (validS s) = 0) : n ∈ (handsF c key s).1 ↔ n ∈ c.people.map (·.id) ∧ ∃ t, s.lo ≤ t ∧ t ≤ s.hi ∧ dutyP c.people n t = true ∧ ∃ st, Stands (chnOf c key) st t ∧ (st.place = n ∨ hasCopy (chnOf c key).es st.done n = true) := by
  obtain ⟨h1, h2, h3⟩ := solved_0 h
  obtain ⟨hok, -⟩ := asked_0 h1
  have ok := (chn_ok hok key).1
  have hs := validS_iff.1 h2
  unfold handsF
  rw [if_neg (by simpa using h1), if_neg (by simp [h2]), if_neg (by rw [stays_nil ok, ← found_nil ok, h3]; simp)]
  simp only
  rw [List.mem_map]
  constructor
  · rintro ⟨p, hp, rfl⟩
    obtain ⟨hp, hh⟩ := List.mem_filter.1 hp
    obtain ⟨t, g1, g2, g3, g4⟩ := (hands_iff ok hs).1 hh
    exact ⟨List.mem_map_of_mem hp, t, g1, g2, (duty_iff hok.incp.nodup hp).2 g3, g4⟩
  · rintro ⟨hn, t, g1, g2, g3, g4⟩
    obtain ⟨p, hp, rfl⟩ := List.mem_map.1 hn
    exact ⟨p, List.mem_filter.2 ⟨hp, (hands_iff ok hs).2 ⟨t, g1, g2, (duty_iff hok.incp.nodup hp).1 g3, g4⟩⟩, rfl⟩
end Go.Proofs.Cu
namespace Go.Proofs.Cu
open Go.Proofs.Ax
set_option linter.unusedVariables false
variable {C : Chn}
structure Use where
  key : Int
  who : Int
  time : Int
  deriving DecidableEq
def insC (c : Cnd) : List Cnd → List Cnd
  | [] => [c]
  | x :: r => if c.time < x.time then c :: x :: r else x :: insC c r
def sortC (l : List Cnd) : List Cnd := l.foldl (fun acc c => insC c acc) []
theorem mem_insC {c d : Cnd} : ∀ {l : List Cnd}, d ∈ insC c l ↔ d = c ∨ d ∈ l
  | [] => by simp [insC]
  | x :: r => by
    unfold insC
    split
    · simp
    · simp only [List.mem_cons, mem_insC (l := r)]
      constructor
      · rintro (h | h | h)
        · exact .inr (.inl h)
        · exact .inl h
        · exact .inr (.inr h)
      · rintro (h | h | h)
        · exact .inr (.inl h)
        · exact .inl h
        · exact .inr (.inr h)
def SortP (l : List Cnd) : Prop := l.Pairwise fun a b => a.time ≤ b.time
theorem insC_sort {c : Cnd} : ∀ {l : List Cnd}, SortP l → SortP (insC c l)
  | [], _ => by simp [insC, SortP]
  | x :: r, h => by
    obtain ⟨h1, h2⟩ := List.pairwise_cons.1 h
    unfold insC
    split
    · rename_i hlt
      refine List.pairwise_cons.2 ⟨fun y hy => ?_, h⟩
      rcases List.mem_cons.1 hy with rfl | hy
      · omega
      · have := h1 y hy; omega
    · rename_i hlt
      refine List.pairwise_cons.2 ⟨fun y hy => ?_, insC_sort h2⟩
      rcases mem_insC.1 hy with rfl | hy
      · omega
      · exact h1 y hy
theorem sortC_gen : ∀ (l acc : List Cnd), SortP acc → SortP (l.foldl (fun acc c => insC c acc) acc) ∧ ∀ d, d ∈ l.foldl (fun acc c => insC c acc) acc ↔ d ∈ l ∨ d ∈ acc
  | [], acc, h => ⟨h, fun d => by simp⟩
  | c :: l, acc, h => by
    rw [List.foldl_cons]
    obtain ⟨h1, h2⟩ := sortC_gen l (insC c acc) (insC_sort h)
    refine ⟨h1, fun d => ?_⟩
    rw [h2, mem_insC, List.mem_cons]
    constructor
    · rintro (h | h | h)
      · exact .inl (.inr h)
      · exact .inl (.inl h)
      · exact .inr h
    · rintro ((h | h) | h)
      · exact .inr (.inl h)
      · exact .inl h
      · exact .inr (.inr h)
theorem sortP_sorted {l : List Cnd} (h : SortP l) : Sorted l := by
  intro i j a b hij ha hb
  obtain ⟨hi, rfl⟩ := List.getElem?_eq_some_iff.1 ha
  obtain ⟨hj, rfl⟩ := List.getElem?_eq_some_iff.1 hb
  rcases Nat.lt_or_ge i j with hlt | hge
  · exact List.pairwise_iff_getElem.1 h i j hi hj hlt
  · obtain rfl : i = j := by omega
    exact Int.le_refl _
def condsOf (l : List Use) (key : Int) : List Cnd := sortC ((l.filter fun u => u.key == key).map fun u => .hand u.who u.time)
theorem conds_sorted (l : List Use) (key : Int) : Sorted (condsOf l key) := sortP_sorted (sortC_gen _ [] List.Pairwise.nil).1
theorem mem_conds {l : List Use} {key : Int} {d : Cnd} : d ∈ condsOf l key ↔ ∃ u ∈ l, u.key = key ∧ d = .hand u.who u.time := by
  unfold condsOf sortC
  rw [(sortC_gen _ [] List.Pairwise.nil).2]
  simp only [List.mem_map, List.mem_filter, beq_iff_eq, List.not_mem_nil, or_false]
  constructor
  · rintro ⟨u, ⟨h1, h2⟩, rfl⟩
    exact ⟨u, h1, h2, rfl⟩
  · rintro ⟨u, h1, h2, rfl⟩
    exact ⟨u, ⟨h1, h2⟩, rfl⟩
def usedE (c : Book) (l : List Use) (any : Bool) : Int := if checkE c ≠ 0 then checkE c else if 12 < l.length then 2 else if l.all (fun u => c.keys.contains u.key && timeOk u.time && (any || knownP c.people u.who)) = true then 0 else 1
def proveL (c : Book) (l : List Use) : List Int → Option (List (List Mv))
  | [] => some []
  | k :: r => match searchS (chnOf c k) (condsOf l k) with
    | none => none
    | some h => match proveL c l r with
      | none => none
      | some hs => some (h :: hs)
def proveF (c : Book) (l : List Use) : Option (List (List Mv)) := proveL c l c.keys
def fitsB (c : Book) (l : List Use) : Bool := (proveF c l).isSome
def FitsP (c : Book) (l : List Use) : Prop := ∀ k ∈ c.keys, ∃ h, Tell (chnOf c k) h ∧ ∀ u ∈ l, u.key = k → Sat (chnOf c k) h (.hand u.who u.time)
theorem time_ok {t : Int} : timeOk t = true ↔ 0 ≤ t ∧ t ≤ maxTime := by unfold timeOk; simp
theorem conds_0 {l : List Use} {key : Int} (h : ∀ u ∈ l, timeOk u.time = true) : ∀ c ∈ condsOf l key, 0 ≤ c.time := fun c hc => by
  obtain ⟨u, hu, -, rfl⟩ := mem_conds.1 hc
  exact (time_ok.1 (h u hu)).1
theorem found_conds {c : Book} (hok : c.ok) {l : List Use} (ht : ∀ u ∈ l, timeOk u.time = true) (k : Int) : foundS (chnOf c k) (condsOf l k) = true ↔ ∃ h, Tell (chnOf c k) h ∧ ∀ u ∈ l, u.key = k → Sat (chnOf c k) h (.hand u.who u.time) := by
  rw [found_iff (chn_ok hok k).1 (conds_sorted l k) (conds_0 ht)]
  constructor
  · rintro ⟨h, h1, h2⟩
    exact ⟨h, h1, fun u hu hk => h2 _ (mem_conds.2 ⟨u, hu, hk, rfl⟩)⟩
  · rintro ⟨h, h1, h2⟩
    refine ⟨h, h1, fun d hd => ?_⟩
    obtain ⟨u, hu, hk, rfl⟩ := mem_conds.1 hd
    exact h2 u hu hk
theorem proveL_some {c : Book} {l : List Use} : ∀ {ks : List Int}, (proveL c l ks).isSome = true ↔ ∀ k ∈ ks, foundS (chnOf c k) (condsOf l k) = true
  | [] => by simp [proveL]
  | k :: r => by
    have ih := proveL_some (c := c) (l := l) (ks := r)
    unfold foundS at *
    rw [proveL]
    cases hq : searchS (chnOf c k) (condsOf l k) with
    | none => simp [hq]
    | some h =>
      simp only [List.mem_cons, forall_eq_or_imp, hq, Option.isSome_some, true_and]
      rw [← ih]
      cases proveL c l r <;> simp
theorem fits_law {c : Book} (hok : c.ok) {l : List Use} (ht : ∀ u ∈ l, timeOk u.time = true) : fitsB c l = true ↔ FitsP c l := by
  unfold fitsB proveF FitsP
  rw [proveL_some]
  exact ⟨fun h k hk => (found_conds hok ht k).1 (h k hk), fun h k hk => (found_conds hok ht k).2 (h k hk)⟩
def menF (c : Book) (l : List Use) : List Int := (c.people.filter fun p => fitsB c (l.map fun u => { u with who := p.id })).map (·.id)
end Go.Proofs.Cu
namespace Go.Proofs.Cu
open Go.Proofs.Ax
set_option linter.unusedVariables false
structure Sim (C C' : Chn) (R : Sta → Sta → Prop) : Prop where
  root : R s00 s00
  step : ∀ s s' x, R s s' → x ∈ stepsS C s → ∃ x', x' ∈ stepsS C' s' ∧ x'.entry = x.entry ∧ x'.dst = x.dst ∧ x'.at_.lo ≤ x.at_.lo ∧ x.at_.hi ≤ x'.at_.hi ∧ R x.to_ x'.to_
  all : ∀ s s', R s s' → allS C s = true → allS C' s' = true
variable {C C' : Chn} {R : Sta → Sta → Prop}
theorem Sim.run (h : Sim C C' R) {s sf : Sta} {now : Int} {l : List Mv} (hr : Run C s now l sf) : ∀ {s' : Sta}, R s s' → ∃ sf', Run C' s' now l sf' ∧ R sf sf' := by
  induction hr with
  | nil => exact fun hR => ⟨_, .nil, hR⟩
  | cons hx h0 h1 h2 hr ih =>
    intro s' hR
    obtain ⟨x', g1, g2, g3, g4, g5, g6⟩ := h.step _ _ _ hR hx
    obtain ⟨sf', k1, k2⟩ := ih g6
    refine ⟨sf', ?_, k2⟩
    rw [← g2, ← g3]
    exact .cons g1 h0 (by omega) (by omega) k1
theorem Sim.tell (h : Sim C C' R) {l : List Mv} (ht : Tell C l) : Tell C' l := by
  obtain ⟨sf, hr, ha⟩ := ht
  obtain ⟨sf', g1, g2⟩ := h.run hr h.root
  exact ⟨sf', g1, h.all _ _ g2 ha⟩
theorem Sim.stands (h : Sim C C' R) {s : Sta} {t : Int} (hs : Stands C s t) : ∃ s', Stands C' s' t ∧ R s s' := by
  obtain ⟨l1, l2, sf, g1, g2, g3, g4⟩ := hs
  obtain ⟨s', k1, k2⟩ := h.run g1 h.root
  obtain ⟨sf', k3, k4⟩ := h.run g3 k2
  exact ⟨s', ⟨l1, l2, sf', k1, g2, k3, h.all _ _ k4 g4⟩, k2⟩
theorem copy_iff {es : List Entr} {d : Nat} {n : Int} : hasCopy es d n = true ↔ ∃ (i : Nat) (e : Entr), es[i]? = some e ∧ e.kind = 2 ∧ d.testBit i = true ∧ e.src = n := by
  unfold hasCopy
  rw [List.any_eq_true]
  constructor
  · rintro ⟨i, hi, h⟩
    split at h
    · rename_i e he
      simp only [Bool.and_eq_true, beq_iff_eq] at h
      exact ⟨i, e, he, h.1.1, h.1.2, h.2⟩
    · cases h
  · rintro ⟨i, e, he, h1, h2, h3⟩
    refine ⟨i, List.mem_range.2 (List.getElem?_eq_some_iff.1 he).1, ?_⟩
    rw [he]
    simp [h1, h2, h3]
def Narrow (a b : Entr) : Prop := a.id = b.id ∧ a.kind = b.kind ∧ a.src = b.src ∧ a.dst = b.dst ∧ b.at_.lo ≤ a.at_.lo ∧ a.at_.hi ≤ b.at_.hi
theorem sim_narrow (hg : C.gaps ≤ C'.gaps) (h0 : 0 ≤ C.gaps) (hp : C'.people = C.people) (hl : C.es.length = C'.es.length) (hn : ∀ (i : Nat) (a b : Entr), C.es[i]? = some a → C'.es[i]? = some b → Narrow a b) : Sim C C' fun s s' => s = s' ∧ (s.gaps : Int) ≤ C.gaps := by
  refine ⟨⟨rfl, by simpa using h0⟩, ?_, ?_⟩
  · rintro s _ x ⟨rfl, hsg⟩ hx
    rcases List.mem_append.1 hx with hx | hx
    · obtain ⟨i, e, t, h1, h2, rfl⟩ := mem_madeL.1 hx
      have hli := (List.getElem?_eq_some_iff.1 h1).1
      have hj := List.getElem?_eq_getElem (show i < C'.es.length by omega)
      obtain ⟨n1, n2, n3, n4, n5, n6⟩ := hn i e _ h1 hj
      have e1 : fromOf e = fromOf C'.es[i] := by unfold fromOf; rw [n2, n3]
      have e2 : placeOf e s.place = placeOf C'.es[i] s.place := by unfold placeOf; rw [n2, n4]
      have hm : madeS s (0 + i) C'.es[i] = some t := by
        rw [← h2]
        unfold madeS
        rw [e1, e2]
      refine ⟨⟨_, 0, _, t⟩, List.mem_append.2 (.inl (mem_madeL.2 ⟨i, _, t, hj, hm, rfl⟩)), n1.symm, rfl, n5, n6, rfl, ?_⟩
      unfold madeS at h2
      split at h2
      · cases h2
      · cases h2; exact hsg
    · obtain ⟨p, t, hpm, g2, rfl⟩ := mem_passL.1 hx
      unfold passedS at g2
      split at g2
      · cases g2
      · rename_i hne
        cases g2
        simp only [not_or] at hne
        refine ⟨⟨0, p, ⟨0, maxTime⟩, ⟨s.done, p, s.gaps + 1⟩⟩, List.mem_append.2 (.inr (mem_passL.2 ⟨p, _, ?_, ?_, rfl⟩)), rfl, rfl, Int.le_refl _, Int.le_refl _, rfl, ?_⟩
        · unfold spots at *; rw [hp]; exact hpm
        · unfold passedS
          rw [if_neg]
          rw [hp]
          simp only [not_or]
          exact ⟨hne.1, hne.2.1, by omega, hne.2.2.2⟩
        · simp only; omega
  · rintro s _ ⟨rfl, -⟩ ha
    unfold allS at *
    rw [← hl]
    exact ha
end Go.Proofs.Cu
namespace Go.Proofs.Cu
open Go.Proofs.Ax
set_option linter.unusedVariables false
section topo
variable {Q : Type} [DecidableEq Q]
end topo
structure Stg where
  at_ : Spn
  ws : List (Int × Int)
variable {C : Chn}
def keepsS (C : Chn) (w : Int × Int) (s : Sta) : Bool := if w.1 = 1 then s.place == w.2 else if w.1 = 2 then hasCopy C.es s.done w.2 else s.place == w.2 || hasCopy C.es s.done w.2
def agreesS (C : Chn) (st : Stg) (s : Sta) : Bool := st.ws.all fun w => keepsS C w s
inductive G2 (C : Chn) (sts : List Stg) : Nat → Sta → Int → Prop
  | root : G2 C sts 0 s00 0
  | move {k : Nat} {s : Sta} {τ : Int} {w : Sta × Int} (h : G2 C sts k s τ) (hw : w ∈ earlyW C s τ) : G2 C sts k w.1 w.2
  | stage {k : Nat} {s : Sta} {τ : Int} {st : Stg} (h : G2 C sts k s τ) (hk : sts[k]? = some st) (ha : agreesS C st s = true) (ht : max τ st.at_.lo ≤ st.at_.hi) : G2 C sts (k + 1) s (max τ st.at_.lo + 1)
structure Topo (C : Chn) (L : List Sta) : Prop where
  mem : ∀ s, s ∈ L ↔ ∃ τ, Get tid (earlyW C) s00 s τ ∨ s ∈ L
  nd : L.Nodup
  on : L.Pairwise fun a b => ∀ τ w, w ∈ earlyW C b τ → w.1 ≠ a
  root : s00 ∈ L
  clo : ∀ s ∈ L, ∀ τ w, w ∈ earlyW C s τ → w.1 ∈ L
end Go.Proofs.Cu
namespace Go.Proofs.Cu
open Go.Proofs.Ax
set_option linter.unusedVariables false
variable {C : Chn}
def allP (C : Chn) : List Int := -1 :: 0 :: C.people.map (·.id)
def posL (C : Chn) : List Sta := (List.range (C.gaps.toNat + 1)).flatMap fun g => (List.range (2 ^ C.es.length)).flatMap fun d => (allP C).map fun p => ⟨d, p, g⟩
def rank (C : Chn) (s : Sta) : Nat := s.gaps * 2 ^ C.es.length + s.done
theorem mem_posL {s : Sta} : s ∈ posL C ↔ s.gaps ≤ C.gaps.toNat ∧ s.done < 2 ^ C.es.length ∧ s.place ∈ allP C := by
  unfold posL
  simp only [List.mem_flatMap, List.mem_range, List.mem_map]
  constructor
  · rintro ⟨g, hg, d, hd, p, hp, rfl⟩
    exact ⟨by simp only; omega, hd, hp⟩
  · rintro ⟨h1, h2, h3⟩
    exact ⟨s.gaps, by omega, s.done, h2, s.place, h3, rfl⟩
theorem posL_rank (C : Chn) : (posL C).Pairwise fun a b => rank C a ≤ rank C b := by
  unfold posL
  rw [List.pairwise_flatMap]
  refine ⟨fun g _ => ?_, ?_⟩
  · rw [List.pairwise_flatMap]
    refine ⟨fun d _ => ?_, ?_⟩
    · rw [List.pairwise_map]
      exact List.pairwise_iff_forall_sublist.2 fun _ => Nat.le_refl _
    · refine List.Pairwise.imp ?_ (List.pairwise_lt_range (n := 2 ^ C.es.length))
      intro a b hab x hx y hy
      obtain ⟨p, _, rfl⟩ := List.mem_map.1 hx
      obtain ⟨q, _, rfl⟩ := List.mem_map.1 hy
      simp only [rank]
      omega
  · refine List.Pairwise.imp ?_ (List.pairwise_lt_range (n := C.gaps.toNat + 1))
    intro a b hab x hx y hy
    simp only [List.mem_flatMap, List.mem_map, List.mem_range] at hx hy
    obtain ⟨d, hd, p, _, rfl⟩ := hx
    obtain ⟨d', hd', q, _, rfl⟩ := hy
    simp only [rank]
    have : (a + 1) * 2 ^ C.es.length ≤ b * 2 ^ C.es.length := Nat.mul_le_mul_right _ hab
    rw [Nat.add_mul] at this
    omega
theorem posL_nd (ok : C.ok) : (posL C).Nodup := by
  have hal : (allP C).Nodup := by
    unfold allP
    have h1 := ok.ids
    have : ∀ x ∈ C.people.map (·.id), 1 ≤ x := fun x hx => by
      obtain ⟨p, hp, rfl⟩ := List.mem_map.1 hx
      exact h1 p hp
    refine List.nodup_cons.2 ⟨fun h => ?_, List.nodup_cons.2 ⟨fun h => ?_, ok.ndp⟩⟩
    · rcases List.mem_cons.1 h with h | h
      · cases h
      · have := this _ h; omega
    · have := this _ h; omega
  unfold posL List.Nodup
  rw [List.pairwise_flatMap]
  refine ⟨fun g _ => ?_, ?_⟩
  · rw [List.pairwise_flatMap]
    refine ⟨fun d _ => ?_, ?_⟩
    · rw [List.pairwise_map]
      exact hal.imp fun h e => h (by injection e)
    · refine List.Pairwise.imp ?_ (List.nodup_range (n := 2 ^ C.es.length))
      intro a b hab x hx y hy e
      obtain ⟨p, _, rfl⟩ := List.mem_map.1 hx
      obtain ⟨q, _, rfl⟩ := List.mem_map.1 hy
      injection e with e1
      exact hab e1
  · refine List.Pairwise.imp ?_ (List.nodup_range (n := C.gaps.toNat + 1))
    intro a b hab x hx y hy e
    simp only [List.mem_flatMap, List.mem_map] at hx hy
    obtain ⟨d, _, p, _, rfl⟩ := hx
    obtain ⟨d', _, q, _, rfl⟩ := hy
    injection e with e1 e2 e3
    exact hab e3
theorem or_lt {d i n : Nat} (hd : d < 2 ^ n) (hi : i < n) : d ||| 2 ^ i < 2 ^ n := Nat.or_lt_two_pow hd (Nat.pow_lt_pow_right (by decide) hi)
theorem or_gt {d i : Nat} (h : d.testBit i = false) : d < d ||| 2 ^ i := by
  have h1 : d ≤ d ||| 2 ^ i := Nat.left_le_or
  rcases Nat.lt_or_eq_of_le h1 with h2 | h2
  · exact h2
  · have h3 : (d ||| 2 ^ i).testBit i = true := by rw [Nat.testBit_or, Nat.testBit_two_pow]; simp
    rw [← h2, h] at h3
    cases h3
theorem posL_topo (ok : C.ok) (hk : Kinds C) : Topo C (posL C) := by
  have hroot : s00 ∈ posL C := mem_posL.2 ⟨Nat.zero_le _, Nat.two_pow_pos _, by simp [allP]⟩
  refine ⟨fun s => ⟨fun h => ⟨0, .inr h⟩, fun ⟨τ, h⟩ => ?_⟩, posL_nd ok, ?_, hroot, fun s hs τ w hw => ?_⟩
  · rcases h with h | h
    · suffices hc : ∀ s τ, Get tid (earlyW C) s00 s τ → s ∈ posL C from hc s τ h
      intro s τ h
      induction h with
      | root => exact hroot
      | @step q τ w h hw ih =>
        obtain ⟨x, hx, -, rfl⟩ := mem_earlyW.1 hw
        obtain ⟨i1, i2, i3⟩ := mem_posL.1 ih
        have hg := step_gaps ok hx (by have := ok.gaps; omega)
        have hp : x.to_.place ∈ allP C := by
          have := step_place hk hx (by unfold PlaceOk allP at *; rw [hangs_iff]; simpa using i3)
          unfold PlaceOk at this
          rw [hangs_iff] at this
          unfold allP
          simpa using this
        refine mem_posL.2 ⟨by simp only; have := ok.gaps; omega, ?_, hp⟩
        rcases List.mem_append.1 hx with hx | hx
        · obtain ⟨i, e, t, h1, h2, rfl⟩ := mem_madeL.1 hx
          unfold madeS at h2
          split at h2
          · cases h2
          · cases h2
            have := (List.getElem?_eq_some_iff.1 h1).1
            exact or_lt i2 (by omega)
        · obtain ⟨p, t, hpm, g2, rfl⟩ := mem_passL.1 hx
          unfold passedS at g2
          split at g2
          · cases g2
          · cases g2; exact i2
    · exact h
  · have hr := posL_rank C
    refine List.Pairwise.imp_of_mem ?_ hr
    intro a b ha hb hab τ w hw e
    obtain ⟨x, hx, -, rfl⟩ := mem_earlyW.1 hw
    simp only at e
    subst e
    have h2 : rank C b < rank C x.to_ := by
      obtain ⟨b1, b2, b3⟩ := mem_posL.1 hb
      unfold rank
      rcases List.mem_append.1 hx with hx | hx
      · obtain ⟨i, e, t, h1, h2, rfl⟩ := mem_madeL.1 hx
        unfold madeS at h2
        split at h2
        · cases h2
        · rename_i hn
          cases h2
          have : b.done.testBit (0 + i) = false := by
            cases hq : b.done.testBit (0 + i) with
            | false => rfl
            | true => exact absurd (.inl hq) hn
          have := or_gt this
          simp only
          omega
      · obtain ⟨p, t, hpm, g2, rfl⟩ := mem_passL.1 hx
        unfold passedS at g2
        split at g2
        · cases g2
        · cases g2
          simp only [Nat.add_mul]
          omega
    omega
  · obtain ⟨x, hx, -, rfl⟩ := mem_earlyW.1 hw
    obtain ⟨i1, i2, i3⟩ := mem_posL.1 hs
    have hg := step_gaps ok hx (by have := ok.gaps; omega)
    have hp : x.to_.place ∈ allP C := by
      have := step_place hk hx (by unfold PlaceOk allP at *; rw [hangs_iff]; simpa using i3)
      unfold PlaceOk at this
      rw [hangs_iff] at this
      unfold allP
      simpa using this
    refine mem_posL.2 ⟨by simp only; have := ok.gaps; omega, ?_, hp⟩
    rcases List.mem_append.1 hx with hx | hx
    · obtain ⟨i, e, t, h1, h2, rfl⟩ := mem_madeL.1 hx
      unfold madeS at h2
      split at h2
      · cases h2
      · cases h2
        have := (List.getElem?_eq_some_iff.1 h1).1
        exact or_lt i2 (by omega)
    · obtain ⟨p, t, hpm, g2, rfl⟩ := mem_passL.1 hx
      unfold passedS at g2
      split at g2
      · cases g2
      · cases g2; exact i2
end Go.Proofs.Cu
namespace Go.Proofs.Cu
open Go.Proofs.Ax
set_option linter.unusedVariables false
variable {C : Chn}
def insI (n : Int) : List Int → List Int
  | [] => [n]
  | x :: r => if x < n then x :: insI n r else if x = n then x :: r else n :: x :: r
theorem mem_insI {n m : Int} : ∀ {l : List Int}, m ∈ insI n l ↔ m = n ∨ m ∈ l
  | [] => by simp [insI]
  | x :: r => by
    unfold insI
    split
    · simp only [List.mem_cons, mem_insI (l := r)]
      constructor
      · rintro (h | h | h)
        · exact .inr (.inl h)
        · exact .inl h
        · exact .inr (.inr h)
      · rintro (h | h | h)
        · exact .inr (.inl h)
        · exact .inl h
        · exact .inr (.inr h)
    · split
      · rename_i e
        subst e
        simp
      · simp
theorem insI_inc {n : Int} : ∀ {l : List Int}, Inc l → Inc (insI n l)
  | [], _ => by simp [insI, Inc]
  | x :: r, h => by
    obtain ⟨h1, h2⟩ := List.pairwise_cons.1 h
    unfold insI
    split
    · rename_i hlt
      refine List.pairwise_cons.2 ⟨fun y hy => ?_, insI_inc h2⟩
      rcases mem_insI.1 hy with rfl | hy
      · exact hlt
      · exact h1 y hy
    · split
      · exact h
      · rename_i h3 h4
        refine List.pairwise_cons.2 ⟨fun y hy => ?_, h⟩
        rcases List.mem_cons.1 hy with rfl | hy
        · omega
        · have := h1 y hy; omega
end Go.Proofs.Cu
namespace Go.Proofs.Cu
open Go.Proofs.Ax
set_option linter.unusedVariables false
variable {C : Chn}
theorem inc_ext : ∀ {a b : List Int}, Inc a → Inc b → (∀ x, x ∈ a ↔ x ∈ b) → a = b
  | [], [], _, _, _ => rfl
  | [], y :: b, _, _, h => absurd ((h y).2 List.mem_cons_self) List.not_mem_nil
  | x :: a, [], _, _, h => absurd ((h x).1 List.mem_cons_self) List.not_mem_nil
  | x :: a, y :: b, ha, hb, h => by
    obtain ⟨a1, a2⟩ := List.pairwise_cons.1 ha
    obtain ⟨b1, b2⟩ := List.pairwise_cons.1 hb
    have hxy : x = y := by
      have h1 := (h x).1 List.mem_cons_self
      have h2 := (h y).2 List.mem_cons_self
      rcases List.mem_cons.1 h1 with e | e
      · exact e
      · rcases List.mem_cons.1 h2 with e' | e'
        · exact e'.symm
        · have := b1 x e; have := a1 y e'; omega
    subst hxy
    rw [inc_ext a2 b2 fun z => ?_]
    constructor
    · intro hz
      rcases List.mem_cons.1 ((h z).1 (List.mem_cons_of_mem _ hz)) with e | e
      · subst e; have := a1 z hz; omega
      · exact e
    · intro hz
      rcases List.mem_cons.1 ((h z).2 (List.mem_cons_of_mem _ hz)) with e | e
      · subst e; have := b1 z hz; omega
      · exact e
def copiesL (es : List Entr) (d : Nat) : List Int := ((List.range es.length).filterMap fun i => match es[i]? with
  | some e => if e.kind = 2 ∧ d.testBit i = true then some e.src else none
  | none => none).foldl (fun acc n => insI n acc) []
theorem ins_gen : ∀ (l acc : List Int), Inc acc → Inc (l.foldl (fun acc n => insI n acc) acc) ∧ ∀ x, x ∈ l.foldl (fun acc n => insI n acc) acc ↔ x ∈ acc ∨ x ∈ l
  | [], acc, h => ⟨h, fun x => by simp⟩
  | n :: l, acc, h => by
    rw [List.foldl_cons]
    obtain ⟨h1, h2⟩ := ins_gen l (insI n acc) (insI_inc h)
    refine ⟨h1, fun x => ?_⟩
    rw [h2, mem_insI, List.mem_cons]
    constructor
    · rintro ((h | h) | h)
      · exact .inr (.inl h)
      · exact .inl h
      · exact .inr (.inr h)
    · rintro (h | h | h)
      · exact .inl (.inr h)
      · exact .inl (.inl h)
      · exact .inr h
theorem mem_copies {es : List Entr} {d : Nat} {n : Int} : n ∈ copiesL es d ↔ hasCopy es d n = true := by
  unfold copiesL
  rw [(ins_gen _ [] List.Pairwise.nil).2, copy_iff]
  simp only [List.not_mem_nil, false_or, List.mem_filterMap, List.mem_range]
  constructor
  · rintro ⟨i, hi, h⟩
    split at h
    · rename_i e he
      split at h
      · rename_i hc
        cases h
        exact ⟨i, e, he, hc.1, hc.2, rfl⟩
      · cases h
    · cases h
  · rintro ⟨i, e, he, h1, h2, rfl⟩
    exact ⟨i, (List.getElem?_eq_some_iff.1 he).1, by rw [he]; simp [h1, h2]⟩
structure Std where
  place : Int
  copies : List Int
  deriving DecidableEq
structure RelB (C : Chn) (s : Sta) (st : Std) (done : List Int) (gaps : Nat) : Prop where
  place : st.place = s.place
  gaps : gaps = s.gaps
  inc : Inc done
  bit : ∀ (i : Nat) (e : Entr), C.es[i]? = some e → (s.done.testBit i = true ↔ e.id ∈ done)
  sub : ∀ x ∈ done, ∃ e ∈ C.es, e.id = x
  copies : st.copies = copiesL C.es s.done
  high : ∀ i, C.es.length ≤ i → s.done.testBit i = false
end Go.Proofs.Cu
namespace Go.Proofs.Cu
open Go.Proofs.Ax
set_option linter.unusedVariables false
variable {C : Chn}
end Go.Proofs.Cu
