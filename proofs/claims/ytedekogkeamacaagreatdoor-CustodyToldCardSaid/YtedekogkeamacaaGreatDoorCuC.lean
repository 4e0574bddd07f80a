import Derived.Lib.Split
import Derived.Lib.SplitLaws
import Derived.Lib.AtoiAll
import Derived.Lib.ItoaNum
import Derived.Lib.Strings
import Derived.Test.YtedekogkeamacaaGreatDoorCuB
namespace Go.Proofs.Tx
open Go
set_option linter.unusedVariables false
def tx (l : List UInt8) : ByteArray := ⟨l.toArray⟩
theorem tx_append (a b : List UInt8) : tx a ++ tx b = tx (a ++ b) := by
  apply ByteArray.ext
  rw [ByteArray.data_append]
  simp [tx]
theorem tx_size (a : List UInt8) : (tx a).size = a.length := by simp [tx, ByteArray.size]
theorem data_tx (a : List UInt8) : (tx a).data.toList = a := by simp [tx]
def joinAt (c : UInt8) : List (List UInt8) → List UInt8
  | [] => []
  | [w] => w
  | w :: r => w ++ c :: joinAt c r
end Go.Proofs.Tx
namespace Go.Proofs.Cu
open Go.Proofs.Ax Go.Proofs.Tx Go
set_option linter.unusedVariables false
abbrev Bs := List UInt8
def wCu : Bs := [99, 117, 115, 116, 111, 100, 121]
def wPe : Bs := [112, 101, 114, 115, 111, 110]
def wKe : Bs := [107, 101, 121]
def wPa : Bs := [112, 97, 115, 115]
def wCo : Bs := [99, 111, 112, 121]
def wLo : Bs := [108, 111, 115, 101]
def wFi : Bs := [102, 105, 110, 100]
def spanW (s : Spn) : Bs := Lib.itoa s.lo ++ 45 :: Lib.itoa s.hi
def persW (p : Pers) : List Bs := wPe :: Lib.itoa p.id :: p.duty.map spanW
def keyW (k : Int) : List Bs := [wKe, Lib.itoa k]
def entrW (e : Entr) : List Bs :=
  if e.kind = 1 then [wPa, Lib.itoa e.id, Lib.itoa e.key, Lib.itoa e.src, Lib.itoa e.dst, spanW e.at_]
  else if e.kind = 2 then [wCo, Lib.itoa e.id, Lib.itoa e.key, Lib.itoa e.src, spanW e.at_]
  else if e.kind = 3 then [wLo, Lib.itoa e.id, Lib.itoa e.key, Lib.itoa e.src, spanW e.at_]
  else [wFi, Lib.itoa e.id, Lib.itoa e.key, Lib.itoa e.dst, spanW e.at_]
def bookW (c : Book) : List (List Bs) := [[wCu, Lib.itoa c.gaps]] ++ c.people.map persW ++ c.keys.map keyW ++ c.entries.map entrW
def textOf (L : List (List Bs)) : Bs := L.flatMap fun ws => joinAt 32 ws ++ [10]
def bookT (c : Book) : Bs := textOf (bookW c)
end Go.Proofs.Cu
namespace Go.Proofs.Cu
open Go.Proofs.Ax Go.Proofs.Tx Go
set_option linter.unusedVariables false
end Go.Proofs.Cu
namespace Go.Proofs.Cu
open Go.Proofs.Ax
set_option linter.unusedVariables false
variable {C : Chn}
def earlyP (C : Chn) : List (Sta × Int) := (earlyS C).map fun g => (g.1, timeOf tid (earlyS C) g.1)
theorem mem_earlyP (ok : C.ok) {s : Sta} {t : Int} : (s, t) ∈ earlyP C ↔ earlyF C s = some t := by
  have hp := (early_law ok).1
  unfold earlyP
  rw [List.mem_map]
  constructor
  · rintro ⟨g, hg, e⟩
    cases e
    have hi : idxG g.1 (earlyS C) ≠ none := mem_keys.1 (List.mem_map_of_mem hg)
    have hs := hp.full.idx g.1
    cases hq : idxG g.1 (earlyS C) with
    | none => exact absurd hq hi
    | some i =>
      rw [hq] at hs
      cases hgq : getG g.1 (earlyS C) with
      | none => rw [hgq] at hs; cases hs
      | some t =>
        unfold earlyF timeOf
        rw [hgq]
  · intro h
    obtain ⟨g, hg, rfl⟩ := key_of_get h
    refine ⟨g, hg, ?_⟩
    unfold earlyF at h
    unfold timeOf
    rw [h]
theorem cons_time (ok : C.ok) {e : Entr} (he : e ∈ C.es) (hc : Cons C) : ∃ τ, TimeOf C e.id τ := by
  obtain ⟨i, hi⟩ := List.getElem?_of_mem he
  obtain ⟨l, hl⟩ := hc
  have hl' := hl
  obtain ⟨sf, hr, ha⟩ := hl'
  have hbits : sf.done.testBit i = true := by
    unfold allS at ha
    have ha : sf.done = 2 ^ C.es.length - 1 := by simpa using ha
    rw [ha, Nat.testBit_two_pow_sub_one]
    simpa using (List.getElem?_eq_some_iff.1 hi).1
  obtain ⟨m, hm, hme⟩ := (run_once ok hr hi).2.1 (by simp) hbits
  exact ⟨m.time, l, hl, m, hm, hme, rfl⟩
theorem time_cons {id τ : Int} (h : TimeOf C id τ) : Cons C := by
  obtain ⟨l, hl, -⟩ := h
  exact ⟨l, hl⟩
theorem find_entry {c : Book} (hok : c.ok) {e : Entr} (he : e ∈ c.entries) : (c.entries.find? fun x => x.id == e.id) = some e := by
  obtain ⟨i, hi⟩ := List.getElem?_of_mem he
  exact find_id hok.nd hi
theorem when_law {c : Book} (hok : c.ok) {e : Entr} (he : e ∈ c.entries) : ((whenF c e.id).2 = 0 ↔ Cons (chnOf c e.key)) ∧ ((whenF c e.id).2 = 0 ∨ (whenF c e.id).2 = 9) ∧ ((whenF c e.id).2 = 0 → (whenF c e.id).1 = whenL (chnOf c e.key) e.id (earlyP (chnOf c e.key))) ∧ ∀ τ, TimeOf (chnOf c e.key) e.id τ → (whenF c e.id).2 = 0 ∧ (whenF c e.id).1.lo ≤ τ ∧ τ ≤ (whenF c e.id).1.hi := by
  have ok := (chn_ok hok e.key).1
  have hem : e ∈ (chnOf c e.key).es := List.mem_filter.2 ⟨he, by simp⟩
  obtain ⟨w1, w2, w3⟩ := whenL_law ok (id := e.id) fun s t => mem_earlyP ok
  have hw : whenF c e.id = if 0 ≤ (whenL (chnOf c e.key) e.id (earlyP (chnOf c e.key))).hi then (whenL (chnOf c e.key) e.id (earlyP (chnOf c e.key)), 0) else (⟨0, 0⟩, 9) := by
    unfold whenF
    rw [if_neg (by simpa using (check_ok c).2 hok), find_entry hok he]
    rfl
  rw [hw]
  have hcons : 0 ≤ (whenL (chnOf c e.key) e.id (earlyP (chnOf c e.key))).hi ↔ Cons (chnOf c e.key) := ⟨fun h => time_cons (w2 h).1, fun h => w3 (cons_time ok hem h)⟩
  by_cases h : 0 ≤ (whenL (chnOf c e.key) e.id (earlyP (chnOf c e.key))).hi
  · rw [if_pos h]
    exact ⟨⟨fun _ => hcons.1 h, fun _ => rfl⟩, .inl rfl, fun _ => rfl, fun τ hτ => ⟨rfl, w1 τ hτ⟩⟩
  · rw [if_neg h]
    exact ⟨⟨fun h' => (by cases h'), fun h' => absurd (hcons.2 h') h⟩, .inr rfl, fun h' => (by cases h'), fun τ hτ => absurd (w3 ⟨τ, hτ⟩) h⟩
theorem tell_0 {c : Book} {key : Int} {l : List Mv} (h : tellE c key l = 0) : askedE c key = 0 ∧ c.ok ∧ key ∈ c.keys ∧ l.length ≤ 20 ∧ Tell (chnOf c key) l := by
  unfold tellE at h
  split at h
  · rename_i h'; exact absurd h h'
  · rename_i h'
    have ha : askedE c key = 0 := by simpa using h'
    obtain ⟨hok, hk⟩ := asked_0 ha
    split at h
    · cases h
    · split at h
      · rename_i h1 h2
        exact ⟨ha, hok, hk, by omega, (play_law (chn_ok hok key).1 l maxTime).1.1 h2⟩
      · cases h
theorem tell_1 {c : Book} {key : Int} {l : List Mv} (ha : askedE c key = 0) (ht : Tell (chnOf c key) l) : tellE c key l = 0 := by
  obtain ⟨hok, -⟩ := asked_0 ha
  have h1 := tell_len (chn_ok hok key).1 ht
  have h2 := (chn_ok hok key).2
  unfold tellE
  rw [if_neg (by simpa using ha), if_neg (by omega), if_pos ((play_law (chn_ok hok key).1 l maxTime).1.2 ht)]
theorem history_law {c : Book} {key : Int} (ha : askedE c key = 0) : ((historyF c key).2 = 0 ↔ Cons (chnOf c key)) ∧ ((historyF c key).2 = 0 ∨ historyF c key = ([], 9)) ∧ ((historyF c key).2 = 0 → tellE c key (historyF c key).1 = 0 ∧ Tell (chnOf c key) (historyF c key).1) := by
  obtain ⟨hok, -⟩ := asked_0 ha
  have ok := (chn_ok hok key).1
  obtain ⟨h1, h2⟩ := search_law ok sorted_nil (fun c hc => absurd hc List.not_mem_nil)
  unfold historyF
  rw [if_neg (by simpa using ha)]
  cases hq : searchS (chnOf c key) [] with
  | none => exact ⟨⟨fun h => (by cases h), fun ⟨l, hl⟩ => (h2 hq l hl fun c hc => absurd hc List.not_mem_nil).elim⟩, .inr rfl, fun h => (by cases h)⟩
  | some l => exact ⟨⟨fun _ => ⟨l, (h1 l hq).1⟩, fun _ => rfl⟩, .inl rfl, fun _ => ⟨tell_1 ha (h1 l hq).1, (h1 l hq).1⟩⟩
def heldF (c : Book) (key : Int) (l : List Mv) (t : Int) : Int × List Int × Int := if askedE c key ≠ 0 then (0, [], askedE c key) else if timeOk t = false then (0, [], 1) else if tellE c key l ≠ 0 then (0, [], tellE c key l) else ((playS (chnOf c key) l t).1.place, copiesL (chnOf c key).es (playS (chnOf c key) l t).1.done, 0)
theorem told_history {c : Book} {key : Int} {l : List Mv} (h : tellE c key l = 0) : (historyF c key).2 = 0 ∧ tellE c key (historyF c key).1 = 0 := by
  obtain ⟨ha, hok, hk, hl, ht⟩ := tell_0 h
  obtain ⟨h1, -, h3⟩ := history_law ha
  have := h1.2 ⟨l, ht⟩
  exact ⟨this, (h3 this).1⟩
theorem told_when {c : Book} {key : Int} {l : List Mv} (h : tellE c key l = 0) {m : Mv} (hm : m ∈ l) (hne : m.entry ≠ 0) : (whenF c m.entry).2 = 0 ∧ (whenF c m.entry).1.lo ≤ m.time ∧ m.time ≤ (whenF c m.entry).1.hi := by
  obtain ⟨ha, hok, hk, hl, ht⟩ := tell_0 h
  have ht' := ht
  obtain ⟨sf, hr, -⟩ := ht'
  obtain ⟨l1, l2, rfl⟩ := List.append_of_mem hm
  obtain ⟨s, -, g⟩ := hr.split
  obtain ⟨x, hx, e1, -⟩ := g.inv
  rcases List.mem_append.1 hx with hx | hx
  · obtain ⟨i, e, t, k1, -, rfl⟩ := mem_madeL.1 hx
    have he := List.mem_of_getElem? k1
    obtain ⟨he1, he2⟩ := List.mem_filter.1 he
    have hkey : e.key = key := by simpa using he2
    simp only at e1
    have := (when_law hok he1).2.2.2 m.time (by rw [hkey]; exact ⟨_, ht, m, hm, e1, rfl⟩)
    rw [e1]
    exact this
  · obtain ⟨p, t, -, -, rfl⟩ := mem_passL.1 hx
    exact absurd e1 hne
theorem told_held {c : Book} {key t : Int} {l : List Mv} (h : tellE c key l = 0) (ht : timeOk t = true) {s : Spn} (hs : validS s = true) (hst : s.lo ≤ t ∧ t ≤ s.hi) :
    (heldF c key l t).2.2 = 0 ∧ solvedE c key (timeOk t) = 0 ∧ solvedE c key (validS s) = 0 ∧ (heldF c key l t).1 ∈ (holdersF c key t).1 ∧ (dutyP c.people (heldF c key l t).1 t = true → (heldF c key l t).1 ∈ (handsF c key s).1) ∧ ∀ n ∈ (heldF c key l t).2.1, n ∈ (copiersF c key t).1 ∧ (dutyP c.people n t = true → n ∈ (handsF c key s).1) := by
  obtain ⟨ha, hok, hk, hl, htl⟩ := tell_0 h
  have ok := (chn_ok hok key).1
  have hh : heldF c key l t = ((playS (chnOf c key) l t).1.place, copiesL (chnOf c key).es (playS (chnOf c key) l t).1.done, 0) := by
    unfold heldF
    rw [if_neg (by simpa using ha), if_neg (by simp [ht]), if_neg (by simpa using h)]
  have hf : foundS (chnOf c key) [] = true := (found_nil ok).2 ⟨l, htl⟩
  have hsol : ∀ r, r = true → solvedE c key r = 0 := fun r hr => by
    unfold solvedE
    rw [if_neg (by simpa using ha), if_neg (by simp [hr]), if_neg (by simp [hf])]
  have h0 := (time_ok.1 ht).1
  obtain ⟨l1, l2, g0, g1, g2, g3⟩ := (play_law ok l t).2 htl
  have hstand : Stands (chnOf c key) (playS (chnOf c key) l t).1 t := (stands_tell ok h0).2 ⟨l, htl, l1, l2, g0, g1, g2, g3⟩
  rw [hh]
  simp only
  have kn : ∀ n, dutyP c.people n t = true → n ∈ c.people.map (·.id) := fun n hn => by
    unfold dutyP at hn
    obtain ⟨p, hp, hn⟩ := List.any_eq_true.1 hn
    simp only [Bool.and_eq_true, beq_iff_eq] at hn
    rw [← hn.1]
    exact List.mem_map_of_mem hp
  refine ⟨trivial, hsol _ ht, hsol _ hs, (mem_holders (hsol _ ht)).2 ⟨_, hstand, rfl⟩, fun hd => (mem_hands (hsol _ hs)).2 ⟨kn _ hd, t, hst.1, hst.2, hd, _, hstand, .inl rfl⟩, fun n hn => ?_⟩
  have hc := mem_copies.1 hn
  exact ⟨(mem_copiers (hsol _ ht)).2 ⟨_, hstand, hc⟩, fun hd => (mem_hands (hsol _ hs)).2 ⟨kn _ hd, t, hst.1, hst.2, hd, _, hstand, .inr hc⟩⟩
end Go.Proofs.Cu
namespace Go.Proofs.Cu
open Go.Proofs.Ax
set_option linter.unusedVariables false
variable {C : Chn}
structure Turned (c x : Book) : Prop where
  people : x.people = c.people
  keys : x.keys = c.keys
  gaps : x.gaps = c.gaps
  perm : x.entries.Perm c.entries
def suspL (c : Book) (key : Int) : List Int := ((c.entries.filter fun e => e.key == key && foundS (chnOf (withoutB c [e.id]) key) []).map (·.id)).foldl (fun acc n => insI n acc) []
def suspectsF (c : Book) (key : Int) : List Int × Int := if askedE c key ≠ 0 then ([], askedE c key) else if foundS (chnOf c key) [] = true then ([], 0) else (suspL c key, 0)
theorem without_ok {c : Book} (h : c.ok) (ids : List Int) : (withoutB c ids).ok := by
  have hsub : (withoutB c ids).entries.Sublist c.entries := List.filter_sublist
  refine ⟨h.gaps, ⟨h.lens.1, h.lens.2.1, Nat.le_trans hsub.length_le h.lens.2.2⟩, h.pers, h.incp, h.keys, h.inck, fun e he => ?_, h.nd.sublist (hsub.map _), fun k => Nat.le_trans (hsub.filter _).length_le (h.few k)⟩
  have := h.entr e (List.mem_filter.1 he).1
  exact this
structure Less (y c : Book) : Prop where
  people : y.people = c.people
  keys : y.keys = c.keys
  gaps : y.gaps ≤ c.gaps
  len : y.entries.length = c.entries.length
  nar : ∀ (i : Nat) (a b : Entr), y.entries[i]? = some a → c.entries[i]? = some b → Narrow a b ∧ a.key = b.key
end Go.Proofs.Cu
namespace Go.Proofs.Cu
open Go.Proofs.Ax
set_option linter.unusedVariables false
end Go.Proofs.Cu
