import Derived.Lib.Split
import Derived.Lib.SplitLaws
import Derived.Lib.AtoiAll
import Derived.Lib.ItoaNum
import Derived.Lib.Strings
import Derived.Test.YtedekogkeamacaaGreatDoorCuB
namespace Go.Proofs.Tx
open Go
set_option linter.unusedVariables false
def tx (l : List UInt8) : ByteArray := ⟨l.toArray⟩
theorem tx_append (a b : List UInt8) : tx a ++ tx b = tx (a ++ b) := by
  apply ByteArray.ext
  rw [ByteArray.data_append]
  simp [tx]
theorem tx_size (a : List UInt8) : (tx a).size = a.length := by simp [tx, ByteArray.size]
theorem data_tx (a : List UInt8) : (tx a).data.toList = a := by simp [tx]
def joinAt (c : UInt8) : List (List UInt8) → List UInt8
  | [] => []
  | [w] => w
  | w :: r => w ++ c :: joinAt c r
end Go.Proofs.Tx
namespace Go.Proofs.Cu
open Go.Proofs.Ax Go.Proofs.Tx Go
set_option linter.unusedVariables false
abbrev Bs := List UInt8
def wCu : Bs := [99, 117, 115, 116, 111, 100, 121]
def wPe : Bs := [112, 101, 114, 115, 111, 110]
def wKe : Bs := [107, 101, 121]
def wPa : Bs := [112, 97, 115, 115]
def wCo : Bs := [99, 111, 112, 121]
def wLo : Bs := [108, 111, 115, 101]
def wFi : Bs := [102, 105, 110, 100]
def spanW (s : Spn) : Bs := Lib.itoa s.lo ++ 45 :: Lib.itoa s.hi
def persW (p : Pers) : List Bs := wPe :: Lib.itoa p.id :: p.duty.map spanW
def keyW (k : Int) : List Bs := [wKe, Lib.itoa k]
def entrW (e : Entr) : List Bs :=
  if e.kind = 1 then [wPa, Lib.itoa e.id, Lib.itoa e.key, Lib.itoa e.src, Lib.itoa e.dst, spanW e.at_]
  else if e.kind = 2 then [wCo, Lib.itoa e.id, Lib.itoa e.key, Lib.itoa e.src, spanW e.at_]
  else if e.kind = 3 then [wLo, Lib.itoa e.id, Lib.itoa e.key, Lib.itoa e.src, spanW e.at_]
  else [wFi, Lib.itoa e.id, Lib.itoa e.key, Lib.itoa e.dst, spanW e.at_]
def bookW (c : Book) : List (List Bs) := [[wCu, Lib.itoa c.gaps]] ++ c.people.map persW ++ c.keys.map keyW ++ c.entries.map entrW
def textOf (L : List (List Bs)) : Bs := L.flatMap fun ws => joinAt 32 ws ++ [10]
def bookT (c : Book) : Bs := textOf (bookW c)
end Go.Proofs.Cu
namespace Go.Proofs.Cu
open Go.Proofs.Ax Go.Proofs.Tx Go
set_option linter.unusedVariables false
end Go.Proofs.Cu
namespace Go.Proofs.Cu
open Go.Proofs.Ax
set_option linter.unusedVariables false
variable {C : Chn}
def earlyP (C : Chn) : List (Sta × Int) := (earlyS C).map fun g => (g.1, timeOf tid (earlyS C) g.1)
theorem mem_earlyP (ok : C.ok) {s : Sta} {t : Int} : (s, t) ∈ earlyP C ↔ earlyF C s = some t := by
  have hp := (early_law ok).1
  unfold earlyP
  rw [List.mem_map]
  constructor
  · rintro ⟨g, hg, e⟩
    cases e
    have hi : idxG g.1 (earlyS C) ≠ none := mem_keys.1 (List.mem_map_of_mem hg)
    have hs := hp.full.idx g.1
    cases hq : idxG g.1 (earlyS C) with
    | none => exact absurd hq hi
    | some i =>
      rw [hq] at hs
      cases hgq : getG g.1 (earlyS C) with
      | none => rw [hgq] at hs; cases hs
      | some t =>
        unfold earlyF timeOf
        rw [hgq]
  · intro h
    obtain ⟨g, hg, rfl⟩ := key_of_get h
    refine ⟨g, hg, ?_⟩
    unfold earlyF at h
    unfold timeOf
    rw [h]
theorem tell_1 {c : Book} {key : Int} {l : List Mv} (ha : askedE c key = 0) (ht : Tell (chnOf c key) l) : tellE c key l = 0 := by
  obtain ⟨hok, -⟩ := asked_0 ha
  have h1 := tell_len (chn_ok hok key).1 ht
  have h2 := (chn_ok hok key).2
  unfold tellE
  rw [if_neg (by simpa using ha), if_neg (by omega), if_pos ((play_law (chn_ok hok key).1 l maxTime).1.2 ht)]
theorem history_law {c : Book} {key : Int} (ha : askedE c key = 0) : ((historyF c key).2 = 0 ↔ Cons (chnOf c key)) ∧ ((historyF c key).2 = 0 ∨ historyF c key = ([], 9)) ∧ ((historyF c key).2 = 0 → tellE c key (historyF c key).1 = 0 ∧ Tell (chnOf c key) (historyF c key).1) := by
  obtain ⟨hok, -⟩ := asked_0 ha
  have ok := (chn_ok hok key).1
  obtain ⟨h1, h2⟩ := search_law ok sorted_nil (fun c hc => absurd hc List.not_mem_nil)
  unfold historyF
  rw [if_neg (by simpa using ha)]
  cases hq : searchS (chnOf c key) [] with
  | none => exact ⟨⟨fun h => (by cases h), fun ⟨l, hl⟩ => (h2 hq l hl fun c hc => absurd hc List.not_mem_nil).elim⟩, .inr rfl, fun h => (by cases h)⟩
  | some l => exact ⟨⟨fun _ => ⟨l, (h1 l hq).1⟩, fun _ => rfl⟩, .inl rfl, fun _ => ⟨tell_1 ha (h1 l hq).1, (h1 l hq).1⟩⟩
theorem attained_fits {c : Book} {key t id : Int} (hall : ∀ k ∈ c.keys, (historyF c k).2 = 0) (h : solvedE c key (timeOk t) = 0) (hp : id ∈ c.people.map (·.id)) :
    usedE c [⟨key, id, t⟩] false = 0 ∧ (fitsB c [⟨key, id, t⟩] = true ↔ dutyP c.people id t = true ∧ (id ∈ (holdersF c key t).1 ∨ id ∈ (copiersF c key t).1)) := by
  obtain ⟨ha, ht, hf⟩ := solved_0 h
  obtain ⟨hok, hk⟩ := asked_0 ha
  have hu : usedE c [⟨key, id, t⟩] false = 0 := by
    unfold usedE
    rw [if_neg (by simpa using (check_ok c).2 hok), if_neg (by simp), if_pos]
    simp only [List.all_cons, List.all_nil, Bool.and_true, Bool.false_or, Bool.and_eq_true]
    exact ⟨⟨by simpa using hk, ht⟩, known_mem.2 hp⟩
  refine ⟨hu, ?_⟩
  have h0 := (time_ok.1 ht).1
  rw [fits_law hok fun u hu => by rw [List.mem_singleton.1 hu]; exact ht, mem_holders h, mem_copiers h]
  have ok := (chn_ok hok key).1
  have one : (∃ hs, Tell (chnOf c key) hs ∧ Sat (chnOf c key) hs (.hand id t)) ↔ ∃ s, Stands (chnOf c key) s t ∧ holdsS (chnOf c key) (.hand id t) s = true := sat_stands (c := .hand id t) ok h0
  constructor
  · intro hfit
    obtain ⟨hs, h1, h2⟩ := hfit key hk
    obtain ⟨s, h3, h4⟩ := one.1 ⟨hs, h1, h2 _ (List.mem_singleton.2 rfl) rfl⟩
    unfold holdsS at h4
    simp only [Bool.and_eq_true, Bool.or_eq_true, beq_iff_eq] at h4
    refine ⟨h4.1, ?_⟩
    rcases h4.2 with h5 | h5
    · exact .inl ⟨s, h3, h5⟩
    · exact .inr ⟨s, h3, h5⟩
  · rintro ⟨hd, hh⟩ k hkk
    by_cases e : k = key
    · subst e
      have : ∃ s, Stands (chnOf c k) s t ∧ holdsS (chnOf c k) (.hand id t) s = true := by
        rcases hh with ⟨s, h1, h2⟩ | ⟨s, h1, h2⟩
        · exact ⟨s, h1, by unfold holdsS; simp only [Bool.and_eq_true, Bool.or_eq_true, beq_iff_eq]; exact ⟨hd, .inl h2⟩⟩
        · exact ⟨s, h1, by unfold holdsS; simp only [Bool.and_eq_true, Bool.or_eq_true, beq_iff_eq]; exact ⟨hd, .inr h2⟩⟩
      obtain ⟨hs, h1, h2⟩ := one.2 this
      exact ⟨hs, h1, fun u hu huk => by rw [List.mem_singleton.1 hu]; exact h2⟩
    · have hak : askedE c k = 0 := by
        unfold askedE
        rw [if_neg (by simpa using (check_ok c).2 hok), if_pos (by simpa using hkk)]
      obtain ⟨l, hl⟩ := (history_law hak).1.1 (hall k hkk)
      exact ⟨l, hl, fun u hu huk => absurd (by rw [List.mem_singleton.1 hu] at huk; exact huk.symm) e⟩
theorem hands_split {c : Book} {key at_ : Int} {s : Spn} (hs : validS s = true) (h1 : s.lo < at_) (h2 : at_ ≤ s.hi) : validS ⟨s.lo, at_ - 1⟩ = true ∧ validS ⟨at_, s.hi⟩ = true ∧ (solvedE c key (validS s) = 0 → ∀ n, n ∈ (handsF c key s).1 ↔ n ∈ (handsF c key ⟨s.lo, at_ - 1⟩).1 ∨ n ∈ (handsF c key ⟨at_, s.hi⟩).1) := by
  have hv := validS_iff.1 hs
  have v1 : validS ⟨s.lo, at_ - 1⟩ = true := validS_iff.2 ⟨by simp only; omega, by simp only; omega, by simp only; omega⟩
  have v2 : validS ⟨at_, s.hi⟩ = true := validS_iff.2 ⟨by simp only; omega, by simp only; omega, by simp only; omega⟩
  refine ⟨v1, v2, fun h n => ?_⟩
  have hs1 : solvedE c key (validS ⟨s.lo, at_ - 1⟩) = 0 := by rw [v1]; rw [hs] at h; exact h
  have hs2 : solvedE c key (validS ⟨at_, s.hi⟩) = 0 := by rw [v2]; rw [hs] at h; exact h
  rw [mem_hands h, mem_hands hs1, mem_hands hs2]
  constructor
  · rintro ⟨hn, t, a, b, r⟩
    by_cases ht : t < at_
    · exact .inl ⟨hn, t, a, by simp only; omega, r⟩
    · exact .inr ⟨hn, t, by simp only; omega, b, r⟩
  · rintro (⟨hn, t, a, b, r⟩ | ⟨hn, t, a, b, r⟩)
    · exact ⟨hn, t, a, by simp only at b; omega, r⟩
    · exact ⟨hn, t, by simp only at a; omega, b, r⟩
end Go.Proofs.Cu
namespace Go.Proofs.Cu
open Go.Proofs.Ax
set_option linter.unusedVariables false
variable {C : Chn}
theorem asked_eq {c x : Book} (h : c.ok) (hx : x.ok) (hk : x.keys = c.keys) (key : Int) : askedE x key = askedE c key := by
  unfold askedE
  rw [(check_ok c).2 h, (check_ok x).2 hx, hk]
structure Turned (c x : Book) : Prop where
  people : x.people = c.people
  keys : x.keys = c.keys
  gaps : x.gaps = c.gaps
  perm : x.entries.Perm c.entries
def suspL (c : Book) (key : Int) : List Int := ((c.entries.filter fun e => e.key == key && foundS (chnOf (withoutB c [e.id]) key) []).map (·.id)).foldl (fun acc n => insI n acc) []
def suspectsF (c : Book) (key : Int) : List Int × Int := if askedE c key ≠ 0 then ([], askedE c key) else if foundS (chnOf c key) [] = true then ([], 0) else (suspL c key, 0)
theorem without_ok {c : Book} (h : c.ok) (ids : List Int) : (withoutB c ids).ok := by
  have hsub : (withoutB c ids).entries.Sublist c.entries := List.filter_sublist
  refine ⟨h.gaps, ⟨h.lens.1, h.lens.2.1, Nat.le_trans hsub.length_le h.lens.2.2⟩, h.pers, h.incp, h.keys, h.inck, fun e he => ?_, h.nd.sublist (hsub.map _), fun k => Nat.le_trans (hsub.filter _).length_le (h.few k)⟩
  have := h.entr e (List.mem_filter.1 he).1
  exact this
theorem other_chn {c : Book} {x : Entr} {key : Int} (h : x.key ≠ key) : chnOf { c with entries := c.entries ++ [x] } key = chnOf c key := by
  unfold chnOf
  simp only [List.filter_append]
  have : ([x].filter fun e => e.key == key) = [] := by simp [h]
  rw [this, List.append_nil]
structure Less (y c : Book) : Prop where
  people : y.people = c.people
  keys : y.keys = c.keys
  gaps : y.gaps ≤ c.gaps
  len : y.entries.length = c.entries.length
  nar : ∀ (i : Nat) (a b : Entr), y.entries[i]? = some a → c.entries[i]? = some b → Narrow a b ∧ a.key = b.key
theorem less_filter {p : Entr → Bool} : ∀ {l m : List Entr}, l.length = m.length → (∀ (i : Nat) (a b : Entr), l[i]? = some a → m[i]? = some b → Narrow a b ∧ p a = p b) → (l.filter p).length = (m.filter p).length ∧ ∀ (i : Nat) (a b : Entr), (l.filter p)[i]? = some a → (m.filter p)[i]? = some b → Narrow a b
  | [], [], _, _ => ⟨rfl, fun i a b h => by simp at h⟩
  | [], _ :: _, h, _ => by simp at h
  | _ :: _, [], h, _ => by simp at h
  | a :: l, b :: m, h, hn => by
    obtain ⟨h1, h2⟩ := less_filter (p := p) (l := l) (m := m) (by simpa using h) fun i x y hx hy => hn (i + 1) x y (by simpa using hx) (by simpa using hy)
    obtain ⟨n1, n2⟩ := hn 0 a b rfl rfl
    rw [List.filter_cons, List.filter_cons, ← n2]
    split
    · refine ⟨by simp [h1], fun i x y hx hy => ?_⟩
      cases i with
      | zero => cases hx; cases hy; exact n1
      | succ i => exact h2 i x y (by simpa using hx) (by simpa using hy)
    · exact ⟨h1, h2⟩
theorem less_sim {y c : Book} (hl : Less y c) (h0 : 0 ≤ y.gaps) (key : Int) : Sim (chnOf y key) (chnOf c key) fun s s' => s = s' ∧ (s.gaps : Int) ≤ y.gaps := by
  obtain ⟨h1, h2⟩ := less_filter (p := fun e => e.key == key) hl.len fun i a b ha hb => by
    obtain ⟨n1, n2⟩ := hl.nar i a b ha hb
    exact ⟨n1, by simp only [n2]⟩
  exact sim_narrow hl.gaps h0 hl.people.symm h1 h2
theorem less_copy {y c : Book} (hl : Less y c) (key : Int) (d : Nat) (n : Int) : hasCopy (chnOf y key).es d n = hasCopy (chnOf c key).es d n := by
  obtain ⟨h1, h2⟩ := less_filter (p := fun e => e.key == key) hl.len fun i a b ha hb => by
    obtain ⟨n1, n2⟩ := hl.nar i a b ha hb
    exact ⟨n1, by simp only [n2]⟩
  rw [Bool.eq_iff_iff, copy_iff, copy_iff]
  have e1 : (chnOf y key).es = y.entries.filter fun e => e.key == key := rfl
  have e2 : (chnOf c key).es = c.entries.filter fun e => e.key == key := rfl
  rw [e1, e2]
  constructor
  · rintro ⟨i, e, g1, g2, g3, g4⟩
    have hi := (List.getElem?_eq_some_iff.1 g1).1
    have hj := List.getElem?_eq_getElem (show i < (c.entries.filter fun e => e.key == key).length by omega)
    obtain ⟨n1, n2, n3, -⟩ := h2 i e _ g1 hj
    exact ⟨i, _, hj, by omega, g3, by omega⟩
  · rintro ⟨i, e, g1, g2, g3, g4⟩
    have hi := (List.getElem?_eq_some_iff.1 g1).1
    have hj := List.getElem?_eq_getElem (show i < (y.entries.filter fun e => e.key == key).length by omega)
    obtain ⟨n1, n2, n3, -⟩ := h2 i _ e hj g1
    exact ⟨i, _, hj, by omega, g3, by omega⟩
theorem less_solved {y c : Book} (hl : Less y c) (hy : y.ok) (hc : c.ok) {key : Int} {r : Bool} (h : solvedE y key r = 0) : solvedE c key r = 0 := by
  obtain ⟨h1, h2, h3⟩ := solved_0 h
  have ha : askedE c key = 0 := by rw [← asked_eq hc hy hl.keys]; exact h1
  obtain ⟨l, hl'⟩ := (found_nil (chn_ok hy key).1).1 h3
  have hf : foundS (chnOf c key) [] = true := (found_nil (chn_ok hc key).1).2 ⟨l, (less_sim hl hy.gaps.1 key).tell hl'⟩
  unfold solvedE
  rw [if_neg (by simpa using ha), if_neg (by simp [h2]), if_neg (by simp [hf])]
theorem less_stands {y c : Book} (hl : Less y c) (hy : y.ok) {key t : Int} {s : Sta} (h : Stands (chnOf y key) s t) : Stands (chnOf c key) s t := by
  obtain ⟨s', h1, rfl, -⟩ := (less_sim hl hy.gaps.1 key).stands h
  exact h1
theorem less_holders {y c : Book} (hl : Less y c) (hy : y.ok) (hc : c.ok) {key t : Int} (h : solvedE y key (timeOk t) = 0) : (∀ n ∈ (holdersF y key t).1, n ∈ (holdersF c key t).1) ∧ ∀ n ∈ (copiersF y key t).1, n ∈ (copiersF c key t).1 := by
  have h' := less_solved hl hy hc h
  constructor
  · intro n hn
    obtain ⟨s, a, b⟩ := (mem_holders h).1 hn
    exact (mem_holders h').2 ⟨s, less_stands hl hy a, b⟩
  · intro n hn
    obtain ⟨s, a, b⟩ := (mem_copiers h).1 hn
    exact (mem_copiers h').2 ⟨s, less_stands hl hy a, by rw [← less_copy hl]; exact b⟩
theorem less_hands {y c : Book} (hl : Less y c) (hy : y.ok) (hc : c.ok) {key : Int} {s : Spn} (h : solvedE y key (validS s) = 0) : ∀ n ∈ (handsF y key s).1, n ∈ (handsF c key s).1 := by
  have h' := less_solved hl hy hc h
  intro n hn
  obtain ⟨hn, t, a, b, d, st, e, f⟩ := (mem_hands h).1 hn
  rw [hl.people] at hn d
  exact (mem_hands h').2 ⟨hn, t, a, b, d, st, less_stands hl hy e, by rw [← less_copy hl]; exact f⟩
theorem gaps_less (c : Book) {g g' : Int} (h : g ≤ g') : Less { c with gaps := g } { c with gaps := g' } := ⟨rfl, rfl, h, rfl, fun i a b ha hb => by
  simp only at ha hb
  rw [ha] at hb
  cases hb
  exact ⟨⟨rfl, rfl, rfl, rfl, Int.le_refl _, Int.le_refl _⟩, rfl⟩⟩
theorem gaps_ok {c : Book} (h : c.ok) {g : Int} (hg : 0 ≤ g ∧ g ≤ 3) : Book.ok { c with gaps := g } := ⟨hg, h.lens, h.pers, h.incp, h.keys, h.inck, fun e he => h.entr e he, h.nd, h.few⟩
theorem gaps_found {c : Book} (h : c.ok) {key g g' : Int} (hg : 0 ≤ g ∧ g ≤ g' ∧ g' ≤ 3) (hf : foundS (chnOf { c with gaps := g } key) [] = true) : foundS (chnOf { c with gaps := g' } key) [] = true := by
  obtain ⟨l, hl⟩ := (found_nil (chn_ok (gaps_ok h ⟨hg.1, by omega⟩) key).1).1 hf
  exact (found_nil (chn_ok (gaps_ok h ⟨by omega, hg.2.2⟩) key).1).2 ⟨l, (less_sim (gaps_less c hg.2.1) hg.1 key).tell hl⟩
theorem needed_law {c : Book} {key : Int} (h : (neededF c key).2 = 0) : ∃ n, (neededF c key).1 = n ∧ 0 ≤ n ∧ n ≤ 3 ∧ c.ok ∧ askedE c key = 0 ∧ foundS (chnOf { c with gaps := n } key) [] = true ∧ (∀ g, 0 ≤ g → g < n → foundS (chnOf { c with gaps := g } key) [] = false) ∧ (n ≤ c.gaps ↔ foundS (chnOf c key) [] = true) := by
  unfold neededF at h ⊢
  split at h
  · rename_i h'; exact absurd h h'
  · rename_i h'
    have ha : askedE c key = 0 := by simpa using h'
    obtain ⟨hok, -⟩ := asked_0 ha
    rw [if_neg h']
    cases hq : ([0, 1, 2, 3] : List Int).find? fun n => foundS (chnOf { c with gaps := n } key) [] with
    | none => rw [hq] at h; cases h
    | some n =>
      have h1 := List.find?_some hq
      have h1 : foundS (chnOf { c with gaps := n } key) [] = true := by simpa using h1
      have h2 := List.mem_of_find?_eq_some hq
      have hn : n = 0 ∨ n = 1 ∨ n = 2 ∨ n = 3 := by simpa using h2
      have hlow : ∀ g, 0 ≤ g → g < n → foundS (chnOf { c with gaps := g } key) [] = false := by
        intro g hg hlt
        obtain ⟨-, as, bs, hab, hall⟩ := List.find?_eq_some_iff_append.1 hq
        have hmem : g ∈ as := by
          have hg4 : g ∈ ([0, 1, 2, 3] : List Int) := by simp; omega
          rw [hab] at hg4
          rcases List.mem_append.1 hg4 with hm | hm
          · exact hm
          · rcases List.mem_cons.1 hm with rfl | hm
            · omega
            · exfalso
              have hs : ([0, 1, 2, 3] : List Int).Pairwise (· < ·) := by decide
              rw [hab] at hs
              have := (List.pairwise_cons.1 (List.pairwise_append.1 hs).2.1).1 g hm
              omega
        simpa using hall g hmem
      refine ⟨n, rfl, by omega, by omega, hok, ha, h1, hlow, ?_⟩
      have hcg := hok.gaps
      constructor
      · intro hle
        exact gaps_found (g := n) (g' := c.gaps) hok ⟨by omega, hle, hcg.2⟩ h1
      · intro hf
        apply Classical.byContradiction
        intro hgt
        have := hlow c.gaps hcg.1 (by omega)
        rw [show ({ c with gaps := c.gaps } : Book) = c from rfl, hf] at this
        cases this
end Go.Proofs.Cu
namespace Go.Proofs.Cu
open Go.Proofs.Ax
set_option linter.unusedVariables false
end Go.Proofs.Cu
