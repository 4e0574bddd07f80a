import Derived.Test.YtedekogkeamacaaGreatDoorCuA
namespace Go.Proofs.Cu
open Go.Proofs.Ax
set_option linter.unusedVariables false
variable {C : Chn}
theorem found_iff (ok : C.ok) {cs : List Cnd} (hs : Sorted cs) (h0 : ∀ c ∈ cs, 0 ≤ c.time) : foundS C cs = true ↔ ∃ l, Tell C l ∧ ∀ c ∈ cs, Sat C l c := by
  obtain ⟨h1, h2⟩ := search_law ok hs h0
  unfold foundS
  cases hq : searchS C cs with
  | none => exact ⟨fun h => (by cases h), fun ⟨l, a, b⟩ => (h2 hq l a b).elim⟩
  | some l => exact ⟨fun _ => ⟨l, h1 l hq⟩, fun _ => rfl⟩
theorem key_of_get {κ α : Type} [DecidableEq κ] {k : κ} {x : α} {gs : List (κ × List α)} (h : getG k gs = some x) : ∃ g ∈ gs, g.1 = k := by
  unfold getG at h
  cases hi : idxG k gs with
  | none => rw [lookG_none hi] at h; cases h
  | some i =>
    obtain ⟨g, h1, h2, -⟩ := lookG_some hi
    exact ⟨g, List.mem_of_getElem? h1, h2⟩
theorem known_mem {ps : List Pers} {n : Int} : knownP ps n = true ↔ n ∈ ps.map (·.id) := by
  unfold knownP
  rw [List.any_eq_true, List.mem_map]
  simp
theorem hangs_iff {ps : List Pers} {n : Int} : hangsP ps n = true ↔ n = 0 ∨ n ∈ ps.map (·.id) := by
  unfold hangsP
  rw [Bool.or_eq_true, known_mem, beq_iff_eq]
def Kinds (C : Chn) : Prop := ∀ e ∈ C.es, kindOk C.people e = true
theorem chn_kinds {c : Book} (h : c.ok) (key : Int) : Kinds (chnOf c key) := fun e he => (entr_parts (h.entr e (List.mem_filter.1 he).1)).2.2.2
def PlaceOk (C : Chn) (s : Sta) : Prop := s.place = -1 ∨ hangsP C.people s.place = true
theorem kind_place {ps : List Pers} {e : Entr} (h : kindOk ps e = true) : (e.kind = 1 ∨ e.kind = 4 → hangsP ps e.dst = true) ∧ (e.kind = 2 → knownP ps e.src = true) := by
  unfold kindOk at h
  constructor
  · rintro (hk | hk)
    · rw [if_pos hk] at h
      simp only [Bool.and_eq_true] at h
      exact h.2
    · rw [if_neg (by omega), if_neg (by omega), if_neg (by omega), if_pos hk] at h
      simp only [Bool.and_eq_true] at h
      exact h.1
  · intro hk
    rw [if_neg (by omega), if_pos hk] at h
    simp only [Bool.and_eq_true] at h
    exact h.1
theorem step_place (hk : Kinds C) {s : Sta} {x : Stp} (hx : x ∈ stepsS C s) (h : PlaceOk C s) : PlaceOk C x.to_ := by
  rcases List.mem_append.1 hx with hx | hx
  · obtain ⟨i, e, t, h1, h2, rfl⟩ := mem_madeL.1 hx
    have hke := hk e (List.mem_of_getElem? h1)
    unfold madeS at h2
    split at h2
    · cases h2
    · cases h2
      unfold PlaceOk placeOf
      simp only
      split
      · rename_i hc
        exact .inr ((kind_place hke).1 hc)
      · split
        · exact .inl rfl
        · exact h
  · obtain ⟨p, t', hp, g2, rfl⟩ := mem_passL.1 hx
    unfold passedS at g2
    split at g2
    · cases g2
    · rename_i hn
      cases g2
      simp only [not_or] at hn
      exact .inr (by simpa using hn.2.2.2)
end Go.Proofs.Cu
namespace Go.Proofs.Cu
open Go.Proofs.Ax
set_option linter.unusedVariables false
variable {C : Chn}
structure Use where
  key : Int
  who : Int
  time : Int
  deriving DecidableEq
def insC (c : Cnd) : List Cnd → List Cnd
  | [] => [c]
  | x :: r => if c.time < x.time then c :: x :: r else x :: insC c r
def sortC (l : List Cnd) : List Cnd := l.foldl (fun acc c => insC c acc) []
theorem mem_insC {c d : Cnd} : ∀ {l : List Cnd}, d ∈ insC c l ↔ d = c ∨ d ∈ l
  | [] => by simp [insC]
  | x :: r => by
    unfold insC
    split
    · simp
    · simp only [List.mem_cons, mem_insC (l := r)]
      constructor
      · rintro (h | h | h)
        · exact .inr (.inl h)
        · exact .inl h
        · exact .inr (.inr h)
      · rintro (h | h | h)
        · exact .inr (.inl h)
        · exact .inl h
        · exact .inr (.inr h)
def SortP (l : List Cnd) : Prop := l.Pairwise fun a b => a.time ≤ b.time
theorem insC_sort {c : Cnd} : ∀ {l : List Cnd}, SortP l → SortP (insC c l)
  | [], _ => by simp [insC, SortP]
  | x :: r, h => by
    obtain ⟨h1, h2⟩ := List.pairwise_cons.1 h
    unfold insC
    split
    · rename_i hlt
      refine List.pairwise_cons.2 ⟨fun y hy => ?_, h⟩
      rcases List.mem_cons.1 hy with rfl | hy
      · omega
      · have := h1 y hy; omega
    · rename_i hlt
      refine List.pairwise_cons.2 ⟨fun y hy => ?_, insC_sort h2⟩
      rcases mem_insC.1 hy with rfl | hy
      · omega
      · exact h1 y hy
theorem sortC_gen : ∀ (l acc : List Cnd), SortP acc → SortP (l.foldl (fun acc c => insC c acc) acc) ∧ ∀ d, d ∈ l.foldl (fun acc c => insC c acc) acc ↔ d ∈ l ∨ d ∈ acc
  | [], acc, h => ⟨h, fun d => by simp⟩
  | c :: l, acc, h => by
    rw [List.foldl_cons]
    obtain ⟨h1, h2⟩ := sortC_gen l (insC c acc) (insC_sort h)
    refine ⟨h1, fun d => ?_⟩
    rw [h2, mem_insC, List.mem_cons]
    constructor
    · rintro (h | h | h)
      · exact .inl (.inr h)
      · exact .inl (.inl h)
      · exact .inr h
    · rintro ((h | h) | h)
      · exact .inr (.inl h)
      · exact .inl h
      · exact .inr (.inr h)
theorem sortP_sorted {l : List Cnd} (h : SortP l) : Sorted l := by
  intro i j a b hij ha hb
  obtain ⟨hi, rfl⟩ := List.getElem?_eq_some_iff.1 ha
  obtain ⟨hj, rfl⟩ := List.getElem?_eq_some_iff.1 hb
  rcases Nat.lt_or_ge i j with hlt | hge
  · exact List.pairwise_iff_getElem.1 h i j hi hj hlt
  · obtain rfl : i = j := by omega
    exact Int.le_refl _
def condsOf (l : List Use) (key : Int) : List Cnd := sortC ((l.filter fun u => u.key == key).map fun u => .hand u.who u.time)
theorem conds_sorted (l : List Use) (key : Int) : Sorted (condsOf l key) := sortP_sorted (sortC_gen _ [] List.Pairwise.nil).1
theorem mem_conds {l : List Use} {key : Int} {d : Cnd} : d ∈ condsOf l key ↔ ∃ u ∈ l, u.key = key ∧ d = .hand u.who u.time := by
  unfold condsOf sortC
  rw [(sortC_gen _ [] List.Pairwise.nil).2]
  simp only [List.mem_map, List.mem_filter, beq_iff_eq, List.not_mem_nil, or_false]
  constructor
  · rintro ⟨u, ⟨h1, h2⟩, rfl⟩
    exact ⟨u, h1, h2, rfl⟩
  · rintro ⟨u, h1, h2, rfl⟩
    exact ⟨u, ⟨h1, h2⟩, rfl⟩
def usedE (c : Book) (l : List Use) (any : Bool) : Int := if checkE c ≠ 0 then checkE c else if 12 < l.length then 2 else if l.all (fun u => c.keys.contains u.key && timeOk u.time && (any || knownP c.people u.who)) = true then 0 else 1
def proveL (c : Book) (l : List Use) : List Int → Option (List (List Mv))
  | [] => some []
  | k :: r => match searchS (chnOf c k) (condsOf l k) with
    | none => none
    | some h => match proveL c l r with
      | none => none
      | some hs => some (h :: hs)
def proveF (c : Book) (l : List Use) : Option (List (List Mv)) := proveL c l c.keys
def fitsB (c : Book) (l : List Use) : Bool := (proveF c l).isSome
def FitsP (c : Book) (l : List Use) : Prop := ∀ k ∈ c.keys, ∃ h, Tell (chnOf c k) h ∧ ∀ u ∈ l, u.key = k → Sat (chnOf c k) h (.hand u.who u.time)
theorem time_ok {t : Int} : timeOk t = true ↔ 0 ≤ t ∧ t ≤ maxTime := by unfold timeOk; simp
theorem conds_0 {l : List Use} {key : Int} (h : ∀ u ∈ l, timeOk u.time = true) : ∀ c ∈ condsOf l key, 0 ≤ c.time := fun c hc => by
  obtain ⟨u, hu, -, rfl⟩ := mem_conds.1 hc
  exact (time_ok.1 (h u hu)).1
theorem found_conds {c : Book} (hok : c.ok) {l : List Use} (ht : ∀ u ∈ l, timeOk u.time = true) (k : Int) : foundS (chnOf c k) (condsOf l k) = true ↔ ∃ h, Tell (chnOf c k) h ∧ ∀ u ∈ l, u.key = k → Sat (chnOf c k) h (.hand u.who u.time) := by
  rw [found_iff (chn_ok hok k).1 (conds_sorted l k) (conds_0 ht)]
  constructor
  · rintro ⟨h, h1, h2⟩
    exact ⟨h, h1, fun u hu hk => h2 _ (mem_conds.2 ⟨u, hu, hk, rfl⟩)⟩
  · rintro ⟨h, h1, h2⟩
    refine ⟨h, h1, fun d hd => ?_⟩
    obtain ⟨u, hu, hk, rfl⟩ := mem_conds.1 hd
    exact h2 u hu hk
theorem proveL_some {c : Book} {l : List Use} : ∀ {ks : List Int}, (proveL c l ks).isSome = true ↔ ∀ k ∈ ks, foundS (chnOf c k) (condsOf l k) = true
  | [] => by simp [proveL]
  | k :: r => by
    have ih := proveL_some (c := c) (l := l) (ks := r)
    unfold foundS at *
    rw [proveL]
    cases hq : searchS (chnOf c k) (condsOf l k) with
    | none => simp [hq]
    | some h =>
      simp only [List.mem_cons, forall_eq_or_imp, hq, Option.isSome_some, true_and]
      rw [← ih]
      cases proveL c l r <;> simp
theorem fits_law {c : Book} (hok : c.ok) {l : List Use} (ht : ∀ u ∈ l, timeOk u.time = true) : fitsB c l = true ↔ FitsP c l := by
  unfold fitsB proveF FitsP
  rw [proveL_some]
  exact ⟨fun h k hk => (found_conds hok ht k).1 (h k hk), fun h k hk => (found_conds hok ht k).2 (h k hk)⟩
theorem FitsP.sub {c : Book} {l m : List Use} (h : FitsP c l) (hm : ∀ u ∈ m, u ∈ l) : FitsP c m := fun k hk => by
  obtain ⟨h1, h2, h3⟩ := h k hk
  exact ⟨h1, h2, fun u hu => h3 u (hm u hu)⟩
theorem used_0 {c : Book} {l : List Use} {any : Bool} (h : usedE c l any = 0) : c.ok ∧ l.length ≤ 12 ∧ ∀ u ∈ l, u.key ∈ c.keys ∧ timeOk u.time = true ∧ (any = true ∨ knownP c.people u.who = true) := by
  unfold usedE at h
  split at h
  · rename_i h'; exact absurd h h'
  · rename_i h'
    split at h
    · cases h
    · split at h
      · rename_i h1 h2
        refine ⟨(check_ok c).1 (by simpa using h'), by omega, fun u hu => ?_⟩
        have := List.all_eq_true.1 h2 u hu
        simp only [Bool.and_eq_true, Bool.or_eq_true] at this
        exact ⟨by simpa using this.1.1, this.1.2, this.2⟩
      · cases h
def provesB (c : Book) (l : List Use) (key : Int) (h : List Mv) : Bool := (playS (chnOf c key) h maxTime).2 && (condsOf l key).all fun x => holdsS (chnOf c key) x (playS (chnOf c key) h x.time).1
theorem proves_law {c : Book} (hok : c.ok) {l : List Use} {key : Int} {h : List Mv} : provesB c l key h = true ↔ Tell (chnOf c key) h ∧ ∀ u ∈ l, u.key = key → Sat (chnOf c key) h (.hand u.who u.time) := by
  have ok := (chn_ok hok key).1
  unfold provesB
  rw [Bool.and_eq_true, (play_law ok h maxTime).1, List.all_eq_true]
  constructor
  · rintro ⟨h1, h2⟩
    exact ⟨h1, fun u hu hk => (play_sat ok h1 _).2 (h2 _ (mem_conds.2 ⟨u, hu, hk, rfl⟩))⟩
  · rintro ⟨h1, h2⟩
    refine ⟨h1, fun d hd => ?_⟩
    obtain ⟨u, hu, hk, rfl⟩ := mem_conds.1 hd
    exact (play_sat ok h1 _).1 (h2 u hu hk)
def proofE (c : Book) (l : List Use) (p : List (List Mv)) : Int := if usedE c l false ≠ 0 then usedE c l false else if p.any (fun h => decide (20 < h.length)) = true then 2 else if p.length ≠ c.keys.length then 8 else if (c.keys.zip p).all (fun g => provesB c l g.1 g.2) = true then 0 else 8
theorem prove_zip {c : Book} {l : List Use} : ∀ {ks : List Int} {hs : List (List Mv)}, proveL c l ks = some hs → hs.length = ks.length ∧ ∀ g ∈ ks.zip hs, searchS (chnOf c g.1) (condsOf l g.1) = some g.2
  | [], hs, h => by cases h; exact ⟨rfl, fun g hg => by simp at hg⟩
  | k :: r, hs, h => by
    unfold proveL at h
    cases hq : searchS (chnOf c k) (condsOf l k) with
    | none => rw [hq] at h; cases h
    | some h1 =>
      rw [hq] at h
      cases hp : proveL c l r with
      | none => rw [hp] at h; cases h
      | some hs' =>
        rw [hp] at h
        cases h
        obtain ⟨a, b⟩ := prove_zip hp
        refine ⟨by simp [a], fun g hg => ?_⟩
        rw [List.zip_cons_cons] at hg
        rcases List.mem_cons.1 hg with rfl | hg
        · exact hq
        · exact b g hg
theorem zip_right {α β : Type} {b : β} : ∀ {l : List α} {m : List β}, m.length ≤ l.length → b ∈ m → ∃ a, (a, b) ∈ l.zip m
  | l, [], _, h => absurd h List.not_mem_nil
  | [], y :: m, hl, _ => by simp at hl
  | x :: l, y :: m, hl, h => by
    rw [List.zip_cons_cons]
    rcases List.mem_cons.1 h with rfl | h
    · exact ⟨x, List.mem_cons_self⟩
    · obtain ⟨a, ha⟩ := zip_right (l := l) (m := m) (by simpa using hl) h
      exact ⟨a, List.mem_cons_of_mem _ ha⟩
theorem prove_ok {c : Book} {l : List Use} (hu : usedE c l false = 0) {p : List (List Mv)} (hp : proveF c l = some p) : proofE c l p = 0 := by
  obtain ⟨hok, -, hl⟩ := used_0 hu
  obtain ⟨h1, h2⟩ := prove_zip hp
  have key : ∀ g ∈ c.keys.zip p, Tell (chnOf c g.1) g.2 ∧ ∀ u ∈ l, u.key = g.1 → Sat (chnOf c g.1) g.2 (.hand u.who u.time) := by
    intro g hg
    obtain ⟨a, b⟩ := (search_law (chn_ok hok g.1).1 (conds_sorted l g.1) (conds_0 fun u hu => (hl u hu).2.1)).1 _ (h2 g hg)
    exact ⟨a, fun u hu hk => b _ (mem_conds.2 ⟨u, hu, hk, rfl⟩)⟩
  unfold proofE
  rw [if_neg (by simpa using hu), if_neg, if_neg (by omega), if_pos]
  · rw [List.all_eq_true]
    intro g hg
    exact (proves_law hok).2 (key g hg)
  · rw [List.any_eq_true]
    rintro ⟨h, hh, hlen⟩
    obtain ⟨k, hk⟩ := zip_right (l := c.keys) (m := p) (by omega) hh
    have ht := (key _ hk).1
    have h3 : h.length ≤ _ := tell_len (chn_ok hok k).1 ht
    have h4 := (chn_ok hok k).2
    have hlen : 20 < h.length := by simpa using hlen
    omega
def pickU (l : List Use) (ix : List Nat) : List Use := ix.filterMap fun i => l[i]?
def coreStep (c : Book) (l : List Use) (left : List Nat) (i : Nat) : List Nat := if fitsB c (pickU l (left.filter fun n => n != i)) = true then left else left.filter fun n => n != i
def coreL (c : Book) (l : List Use) : List Nat := (List.range l.length).reverse.foldl (coreStep c l) (List.range l.length)
theorem core_gen {c : Book} (hok : c.ok) {l : List Use} (ht : ∀ u ∈ l, timeOk u.time = true) : ∀ (is : List Nat) (left : List Nat), left.Pairwise (· < ·) → (∀ n ∈ left, n < l.length) → ¬ FitsP c (pickU l left) → (∀ i ∈ left, i ∉ is → FitsP c (pickU l (left.filter fun n => n != i))) →
    (is.foldl (coreStep c l) left).Pairwise (· < ·) ∧ (∀ n ∈ is.foldl (coreStep c l) left, n < l.length) ∧ ¬ FitsP c (pickU l (is.foldl (coreStep c l) left)) ∧ ∀ i ∈ is.foldl (coreStep c l) left, FitsP c (pickU l ((is.foldl (coreStep c l) left).filter fun n => n != i))
  | [], left, h1, h2, h3, h4 => ⟨h1, h2, h3, fun i hi => h4 i hi List.not_mem_nil⟩
  | i :: is, left, h1, h2, h3, h4 => by
    rw [List.foldl_cons]
    have pt : ∀ ix : List Nat, ∀ u ∈ pickU l ix, timeOk u.time = true := fun ix u hu => by
      obtain ⟨n, -, hn⟩ := List.mem_filterMap.1 hu
      exact ht u (List.mem_of_getElem? hn)
    unfold coreStep
    by_cases hf : fitsB c (pickU l (left.filter fun n => n != i)) = true
    · rw [if_pos hf]
      refine core_gen hok ht is left h1 h2 h3 fun j hj hn => ?_
      by_cases e : j = i
      · subst e
        exact (fits_law hok (pt _)).1 hf
      · exact h4 j hj fun hm => (List.mem_cons.1 hm).elim e hn
    · rw [if_neg hf]
      refine core_gen hok ht is _ (h1.filter _) (fun n hn => h2 n (List.mem_filter.1 hn).1) (fun h => hf ((fits_law hok (pt _)).2 h)) fun j hj hn => ?_
      obtain ⟨hj1, hj2⟩ := List.mem_filter.1 hj
      have e : j ≠ i := by simpa using hj2
      refine (h4 j hj1 fun hm => (List.mem_cons.1 hm).elim e hn).sub fun u hu => ?_
      obtain ⟨n, hn, hu⟩ := List.mem_filterMap.1 hu
      refine List.mem_filterMap.2 ⟨n, ?_, hu⟩
      rw [List.mem_filter] at hn ⊢
      exact ⟨(List.mem_filter.1 hn.1).1, hn.2⟩
theorem pick_all (l : List Use) : pickU l (List.range l.length) = l := by
  unfold pickU
  apply List.ext_getElem?
  intro i
  have : ∀ n, (List.range n).filterMap (fun i => l[i]?) = l.take n := by
    intro n
    induction n with
    | zero => simp
    | succ n ih =>
      rw [List.range_succ, List.filterMap_append, ih, List.take_add_one]
      refine congrArg (List.take n l ++ ·) ?_
      simp only [List.filterMap_cons, List.filterMap_nil]
      cases l[n]? <;> rfl
  rw [this, List.take_length]
theorem core_law {c : Book} (hok : c.ok) {l : List Use} (ht : ∀ u ∈ l, timeOk u.time = true) (h : ¬ FitsP c l) :
    (coreL c l).Pairwise (· < ·) ∧ (∀ n ∈ coreL c l, n < l.length) ∧ ¬ FitsP c (pickU l (coreL c l)) ∧ ∀ i ∈ coreL c l, FitsP c (pickU l ((coreL c l).filter fun n => n != i)) :=
  core_gen hok ht _ _ (List.pairwise_lt_range) (fun n hn => List.mem_range.1 hn) (by rw [pick_all]; exact h) fun i hi hn => absurd (List.mem_reverse.2 hi) hn
def menF (c : Book) (l : List Use) : List Int := (c.people.filter fun p => fitsB c (l.map fun u => { u with who := p.id })).map (·.id)
end Go.Proofs.Cu
namespace Go.Proofs.Cu
open Go.Proofs.Ax
set_option linter.unusedVariables false
structure Sim (C C' : Chn) (R : Sta → Sta → Prop) : Prop where
  root : R s00 s00
  step : ∀ s s' x, R s s' → x ∈ stepsS C s → ∃ x', x' ∈ stepsS C' s' ∧ x'.entry = x.entry ∧ x'.dst = x.dst ∧ x'.at_.lo ≤ x.at_.lo ∧ x.at_.hi ≤ x'.at_.hi ∧ R x.to_ x'.to_
  all : ∀ s s', R s s' → allS C s = true → allS C' s' = true
variable {C C' : Chn} {R : Sta → Sta → Prop}
theorem copy_iff {es : List Entr} {d : Nat} {n : Int} : hasCopy es d n = true ↔ ∃ (i : Nat) (e : Entr), es[i]? = some e ∧ e.kind = 2 ∧ d.testBit i = true ∧ e.src = n := by
  unfold hasCopy
  rw [List.any_eq_true]
  constructor
  · rintro ⟨i, hi, h⟩
    split at h
    · rename_i e he
      simp only [Bool.and_eq_true, beq_iff_eq] at h
      exact ⟨i, e, he, h.1.1, h.1.2, h.2⟩
    · cases h
  · rintro ⟨i, e, he, h1, h2, h3⟩
    refine ⟨i, List.mem_range.2 (List.getElem?_eq_some_iff.1 he).1, ?_⟩
    rw [he]
    simp [h1, h2, h3]
def Narrow (a b : Entr) : Prop := a.id = b.id ∧ a.kind = b.kind ∧ a.src = b.src ∧ a.dst = b.dst ∧ b.at_.lo ≤ a.at_.lo ∧ a.at_.hi ≤ b.at_.hi
end Go.Proofs.Cu
namespace Go.Proofs.Cu
open Go.Proofs.Ax
set_option linter.unusedVariables false
section topo
variable {Q : Type} [DecidableEq Q]
end topo
structure Stg where
  at_ : Spn
  ws : List (Int × Int)
variable {C : Chn}
def keepsS (C : Chn) (w : Int × Int) (s : Sta) : Bool := if w.1 = 1 then s.place == w.2 else if w.1 = 2 then hasCopy C.es s.done w.2 else s.place == w.2 || hasCopy C.es s.done w.2
def agreesS (C : Chn) (st : Stg) (s : Sta) : Bool := st.ws.all fun w => keepsS C w s
inductive G2 (C : Chn) (sts : List Stg) : Nat → Sta → Int → Prop
  | root : G2 C sts 0 s00 0
  | move {k : Nat} {s : Sta} {τ : Int} {w : Sta × Int} (h : G2 C sts k s τ) (hw : w ∈ earlyW C s τ) : G2 C sts k w.1 w.2
  | stage {k : Nat} {s : Sta} {τ : Int} {st : Stg} (h : G2 C sts k s τ) (hk : sts[k]? = some st) (ha : agreesS C st s = true) (ht : max τ st.at_.lo ≤ st.at_.hi) : G2 C sts (k + 1) s (max τ st.at_.lo + 1)
structure Topo (C : Chn) (L : List Sta) : Prop where
  mem : ∀ s, s ∈ L ↔ ∃ τ, Get tid (earlyW C) s00 s τ ∨ s ∈ L
  nd : L.Nodup
  on : L.Pairwise fun a b => ∀ τ w, w ∈ earlyW C b τ → w.1 ≠ a
  root : s00 ∈ L
  clo : ∀ s ∈ L, ∀ τ w, w ∈ earlyW C s τ → w.1 ∈ L
end Go.Proofs.Cu
namespace Go.Proofs.Cu
open Go.Proofs.Ax
set_option linter.unusedVariables false
variable {C : Chn}
def allP (C : Chn) : List Int := -1 :: 0 :: C.people.map (·.id)
def posL (C : Chn) : List Sta := (List.range (C.gaps.toNat + 1)).flatMap fun g => (List.range (2 ^ C.es.length)).flatMap fun d => (allP C).map fun p => ⟨d, p, g⟩
def rank (C : Chn) (s : Sta) : Nat := s.gaps * 2 ^ C.es.length + s.done
theorem mem_posL {s : Sta} : s ∈ posL C ↔ s.gaps ≤ C.gaps.toNat ∧ s.done < 2 ^ C.es.length ∧ s.place ∈ allP C := by
  unfold posL
  simp only [List.mem_flatMap, List.mem_range, List.mem_map]
  constructor
  · rintro ⟨g, hg, d, hd, p, hp, rfl⟩
    exact ⟨by simp only; omega, hd, hp⟩
  · rintro ⟨h1, h2, h3⟩
    exact ⟨s.gaps, by omega, s.done, h2, s.place, h3, rfl⟩
theorem posL_rank (C : Chn) : (posL C).Pairwise fun a b => rank C a ≤ rank C b := by
  unfold posL
  rw [List.pairwise_flatMap]
  refine ⟨fun g _ => ?_, ?_⟩
  · rw [List.pairwise_flatMap]
    refine ⟨fun d _ => ?_, ?_⟩
    · rw [List.pairwise_map]
      exact List.pairwise_iff_forall_sublist.2 fun _ => Nat.le_refl _
    · refine List.Pairwise.imp ?_ (List.pairwise_lt_range (n := 2 ^ C.es.length))
      intro a b hab x hx y hy
      obtain ⟨p, _, rfl⟩ := List.mem_map.1 hx
      obtain ⟨q, _, rfl⟩ := List.mem_map.1 hy
      simp only [rank]
      omega
  · refine List.Pairwise.imp ?_ (List.pairwise_lt_range (n := C.gaps.toNat + 1))
    intro a b hab x hx y hy
    simp only [List.mem_flatMap, List.mem_map, List.mem_range] at hx hy
    obtain ⟨d, hd, p, _, rfl⟩ := hx
    obtain ⟨d', hd', q, _, rfl⟩ := hy
    simp only [rank]
    have : (a + 1) * 2 ^ C.es.length ≤ b * 2 ^ C.es.length := Nat.mul_le_mul_right _ hab
    rw [Nat.add_mul] at this
    omega
theorem posL_nd (ok : C.ok) : (posL C).Nodup := by
  have hal : (allP C).Nodup := by
    unfold allP
    have h1 := ok.ids
    have : ∀ x ∈ C.people.map (·.id), 1 ≤ x := fun x hx => by
      obtain ⟨p, hp, rfl⟩ := List.mem_map.1 hx
      exact h1 p hp
    refine List.nodup_cons.2 ⟨fun h => ?_, List.nodup_cons.2 ⟨fun h => ?_, ok.ndp⟩⟩
    · rcases List.mem_cons.1 h with h | h
      · cases h
      · have := this _ h; omega
    · have := this _ h; omega
  unfold posL List.Nodup
  rw [List.pairwise_flatMap]
  refine ⟨fun g _ => ?_, ?_⟩
  · rw [List.pairwise_flatMap]
    refine ⟨fun d _ => ?_, ?_⟩
    · rw [List.pairwise_map]
      exact hal.imp fun h e => h (by injection e)
    · refine List.Pairwise.imp ?_ (List.nodup_range (n := 2 ^ C.es.length))
      intro a b hab x hx y hy e
      obtain ⟨p, _, rfl⟩ := List.mem_map.1 hx
      obtain ⟨q, _, rfl⟩ := List.mem_map.1 hy
      injection e with e1
      exact hab e1
  · refine List.Pairwise.imp ?_ (List.nodup_range (n := C.gaps.toNat + 1))
    intro a b hab x hx y hy e
    simp only [List.mem_flatMap, List.mem_map] at hx hy
    obtain ⟨d, _, p, _, rfl⟩ := hx
    obtain ⟨d', _, q, _, rfl⟩ := hy
    injection e with e1 e2 e3
    exact hab e3
theorem or_lt {d i n : Nat} (hd : d < 2 ^ n) (hi : i < n) : d ||| 2 ^ i < 2 ^ n := Nat.or_lt_two_pow hd (Nat.pow_lt_pow_right (by decide) hi)
theorem or_gt {d i : Nat} (h : d.testBit i = false) : d < d ||| 2 ^ i := by
  have h1 : d ≤ d ||| 2 ^ i := Nat.left_le_or
  rcases Nat.lt_or_eq_of_le h1 with h2 | h2
  · exact h2
  · have h3 : (d ||| 2 ^ i).testBit i = true := by rw [Nat.testBit_or, Nat.testBit_two_pow]; simp
    rw [← h2, h] at h3
    cases h3
theorem posL_topo (ok : C.ok) (hk : Kinds C) : Topo C (posL C) := by
  have hroot : s00 ∈ posL C := mem_posL.2 ⟨Nat.zero_le _, Nat.two_pow_pos _, by simp [allP]⟩
  refine ⟨fun s => ⟨fun h => ⟨0, .inr h⟩, fun ⟨τ, h⟩ => ?_⟩, posL_nd ok, ?_, hroot, fun s hs τ w hw => ?_⟩
  · rcases h with h | h
    · suffices hc : ∀ s τ, Get tid (earlyW C) s00 s τ → s ∈ posL C from hc s τ h
      intro s τ h
      induction h with
      | root => exact hroot
      | @step q τ w h hw ih =>
        obtain ⟨x, hx, -, rfl⟩ := mem_earlyW.1 hw
        obtain ⟨i1, i2, i3⟩ := mem_posL.1 ih
        have hg := step_gaps ok hx (by have := ok.gaps; omega)
        have hp : x.to_.place ∈ allP C := by
          have := step_place hk hx (by unfold PlaceOk allP at *; rw [hangs_iff]; simpa using i3)
          unfold PlaceOk at this
          rw [hangs_iff] at this
          unfold allP
          simpa using this
        refine mem_posL.2 ⟨by simp only; have := ok.gaps; omega, ?_, hp⟩
        rcases List.mem_append.1 hx with hx | hx
        · obtain ⟨i, e, t, h1, h2, rfl⟩ := mem_madeL.1 hx
          unfold madeS at h2
          split at h2
          · cases h2
          · cases h2
            have := (List.getElem?_eq_some_iff.1 h1).1
            exact or_lt i2 (by omega)
        · obtain ⟨p, t, hpm, g2, rfl⟩ := mem_passL.1 hx
          unfold passedS at g2
          split at g2
          · cases g2
          · cases g2; exact i2
    · exact h
  · have hr := posL_rank C
    refine List.Pairwise.imp_of_mem ?_ hr
    intro a b ha hb hab τ w hw e
    obtain ⟨x, hx, -, rfl⟩ := mem_earlyW.1 hw
    simp only at e
    subst e
    have h2 : rank C b < rank C x.to_ := by
      obtain ⟨b1, b2, b3⟩ := mem_posL.1 hb
      unfold rank
      rcases List.mem_append.1 hx with hx | hx
      · obtain ⟨i, e, t, h1, h2, rfl⟩ := mem_madeL.1 hx
        unfold madeS at h2
        split at h2
        · cases h2
        · rename_i hn
          cases h2
          have : b.done.testBit (0 + i) = false := by
            cases hq : b.done.testBit (0 + i) with
            | false => rfl
            | true => exact absurd (.inl hq) hn
          have := or_gt this
          simp only
          omega
      · obtain ⟨p, t, hpm, g2, rfl⟩ := mem_passL.1 hx
        unfold passedS at g2
        split at g2
        · cases g2
        · cases g2
          simp only [Nat.add_mul]
          omega
    omega
  · obtain ⟨x, hx, -, rfl⟩ := mem_earlyW.1 hw
    obtain ⟨i1, i2, i3⟩ := mem_posL.1 hs
    have hg := step_gaps ok hx (by have := ok.gaps; omega)
    have hp : x.to_.place ∈ allP C := by
      have := step_place hk hx (by unfold PlaceOk allP at *; rw [hangs_iff]; simpa using i3)
      unfold PlaceOk at this
      rw [hangs_iff] at this
      unfold allP
      simpa using this
    refine mem_posL.2 ⟨by simp only; have := ok.gaps; omega, ?_, hp⟩
    rcases List.mem_append.1 hx with hx | hx
    · obtain ⟨i, e, t, h1, h2, rfl⟩ := mem_madeL.1 hx
      unfold madeS at h2
      split at h2
      · cases h2
      · cases h2
        have := (List.getElem?_eq_some_iff.1 h1).1
        exact or_lt i2 (by omega)
    · obtain ⟨p, t, hpm, g2, rfl⟩ := mem_passL.1 hx
      unfold passedS at g2
      split at g2
      · cases g2
      · cases g2; exact i2
end Go.Proofs.Cu
namespace Go.Proofs.Cu
open Go.Proofs.Ax
set_option linter.unusedVariables false
variable {C : Chn}
def insI (n : Int) : List Int → List Int
  | [] => [n]
  | x :: r => if x < n then x :: insI n r else if x = n then x :: r else n :: x :: r
theorem mem_insI {n m : Int} : ∀ {l : List Int}, m ∈ insI n l ↔ m = n ∨ m ∈ l
  | [] => by simp [insI]
  | x :: r => by
    unfold insI
    split
    · simp only [List.mem_cons, mem_insI (l := r)]
      constructor
      · rintro (h | h | h)
        · exact .inr (.inl h)
        · exact .inl h
        · exact .inr (.inr h)
      · rintro (h | h | h)
        · exact .inr (.inl h)
        · exact .inl h
        · exact .inr (.inr h)
    · split
      · rename_i e
        subst e
        simp
      · simp
theorem insI_inc {n : Int} : ∀ {l : List Int}, Inc l → Inc (insI n l)
  | [], _ => by simp [insI, Inc]
  | x :: r, h => by
    obtain ⟨h1, h2⟩ := List.pairwise_cons.1 h
    unfold insI
    split
    · rename_i hlt
      refine List.pairwise_cons.2 ⟨fun y hy => ?_, insI_inc h2⟩
      rcases mem_insI.1 hy with rfl | hy
      · exact hlt
      · exact h1 y hy
    · split
      · exact h
      · rename_i h3 h4
        refine List.pairwise_cons.2 ⟨fun y hy => ?_, h⟩
        rcases List.mem_cons.1 hy with rfl | hy
        · omega
        · have := h1 y hy; omega
end Go.Proofs.Cu
namespace Go.Proofs.Cu
open Go.Proofs.Ax
set_option linter.unusedVariables false
variable {C : Chn}
theorem inc_ext : ∀ {a b : List Int}, Inc a → Inc b → (∀ x, x ∈ a ↔ x ∈ b) → a = b
  | [], [], _, _, _ => rfl
  | [], y :: b, _, _, h => absurd ((h y).2 List.mem_cons_self) List.not_mem_nil
  | x :: a, [], _, _, h => absurd ((h x).1 List.mem_cons_self) List.not_mem_nil
  | x :: a, y :: b, ha, hb, h => by
    obtain ⟨a1, a2⟩ := List.pairwise_cons.1 ha
    obtain ⟨b1, b2⟩ := List.pairwise_cons.1 hb
    have hxy : x = y := by
      have h1 := (h x).1 List.mem_cons_self
      have h2 := (h y).2 List.mem_cons_self
      rcases List.mem_cons.1 h1 with e | e
      · exact e
      · rcases List.mem_cons.1 h2 with e' | e'
        · exact e'.symm
        · have := b1 x e; have := a1 y e'; omega
    subst hxy
    rw [inc_ext a2 b2 fun z => ?_]
    constructor
    · intro hz
      rcases List.mem_cons.1 ((h z).1 (List.mem_cons_of_mem _ hz)) with e | e
      · subst e; have := a1 z hz; omega
      · exact e
    · intro hz
      rcases List.mem_cons.1 ((h z).2 (List.mem_cons_of_mem _ hz)) with e | e
      · subst e; have := b1 z hz; omega
      · exact e
def copiesL (es : List Entr) (d : Nat) : List Int := ((List.range es.length).filterMap fun i => match es[i]? with
  | some e => if e.kind = 2 ∧ d.testBit i = true then some e.src else none
  | none => none).foldl (fun acc n => insI n acc) []
theorem ins_gen : ∀ (l acc : List Int), Inc acc → Inc (l.foldl (fun acc n => insI n acc) acc) ∧ ∀ x, x ∈ l.foldl (fun acc n => insI n acc) acc ↔ x ∈ acc ∨ x ∈ l
  | [], acc, h => ⟨h, fun x => by simp⟩
  | n :: l, acc, h => by
    rw [List.foldl_cons]
    obtain ⟨h1, h2⟩ := ins_gen l (insI n acc) (insI_inc h)
    refine ⟨h1, fun x => ?_⟩
    rw [h2, mem_insI, List.mem_cons]
    constructor
    · rintro ((h | h) | h)
      · exact .inr (.inl h)
      · exact .inl h
      · exact .inr (.inr h)
    · rintro (h | h | h)
      · exact .inl (.inr h)
      · exact .inl (.inl h)
      · exact .inr h
theorem mem_copies {es : List Entr} {d : Nat} {n : Int} : n ∈ copiesL es d ↔ hasCopy es d n = true := by
  unfold copiesL
  rw [(ins_gen _ [] List.Pairwise.nil).2, copy_iff]
  simp only [List.not_mem_nil, false_or, List.mem_filterMap, List.mem_range]
  constructor
  · rintro ⟨i, hi, h⟩
    split at h
    · rename_i e he
      split at h
      · rename_i hc
        cases h
        exact ⟨i, e, he, hc.1, hc.2, rfl⟩
      · cases h
    · cases h
  · rintro ⟨i, e, he, h1, h2, rfl⟩
    exact ⟨i, (List.getElem?_eq_some_iff.1 he).1, by rw [he]; simp [h1, h2]⟩
structure Std where
  place : Int
  copies : List Int
  deriving DecidableEq
structure RelB (C : Chn) (s : Sta) (st : Std) (done : List Int) (gaps : Nat) : Prop where
  place : st.place = s.place
  gaps : gaps = s.gaps
  inc : Inc done
  bit : ∀ (i : Nat) (e : Entr), C.es[i]? = some e → (s.done.testBit i = true ↔ e.id ∈ done)
  sub : ∀ x ∈ done, ∃ e ∈ C.es, e.id = x
  copies : st.copies = copiesL C.es s.done
  high : ∀ i, C.es.length ≤ i → s.done.testBit i = false
end Go.Proofs.Cu
namespace Go.Proofs.Cu
open Go.Proofs.Ax
set_option linter.unusedVariables false
variable {C : Chn}
end Go.Proofs.Cu
