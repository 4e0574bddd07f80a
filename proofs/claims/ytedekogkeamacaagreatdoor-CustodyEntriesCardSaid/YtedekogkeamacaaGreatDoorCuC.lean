import Derived.Lib.Split
import Derived.Lib.SplitLaws
import Derived.Lib.AtoiAll
import Derived.Lib.ItoaNum
import Derived.Lib.Strings
import Derived.Test.YtedekogkeamacaaGreatDoorCuB
namespace Go.Proofs.Tx
open Go
set_option linter.unusedVariables false
def tx (l : List UInt8) : ByteArray := ⟨l.toArray⟩
theorem tx_append (a b : List UInt8) : tx a ++ tx b = tx (a ++ b) := by
  apply ByteArray.ext; rw [ByteArray.data_append]; simp [tx]
theorem tx_size (a : List UInt8) : (tx a).size = a.length := by simp [tx, ByteArray.size]
theorem data_tx (a : List UInt8) : (tx a).data.toList = a := by simp [tx]
def joinAt (c : UInt8) : List (List UInt8) → List UInt8
  | [] => []
  | [w] => w
  | w :: r => w ++ c :: joinAt c r
end Go.Proofs.Tx
namespace Go.Proofs.Cu
open Go.Proofs.Ax Go.Proofs.Tx Go
set_option linter.unusedVariables false
section
abbrev Bs := List UInt8
def wCu : Bs := [99, 117, 115, 116, 111, 100, 121]
def wPe : Bs := [112, 101, 114, 115, 111, 110]
def wKe : Bs := [107, 101, 121]
def wPa : Bs := [112, 97, 115, 115]
def wCo : Bs := [99, 111, 112, 121]
def wLo : Bs := [108, 111, 115, 101]
def wFi : Bs := [102, 105, 110, 100]
def spanW (s : Spn) : Bs := Lib.itoa s.lo ++ 45 :: Lib.itoa s.hi
def persW (p : Pers) : List Bs := wPe :: Lib.itoa p.id :: p.duty.map spanW
def keyW (k : Int) : List Bs := [wKe, Lib.itoa k]
def entrW (e : Entr) : List Bs :=
  if e.kind = 1 then [wPa, Lib.itoa e.id, Lib.itoa e.key, Lib.itoa e.src, Lib.itoa e.dst, spanW e.at_]
  else if e.kind = 2 then [wCo, Lib.itoa e.id, Lib.itoa e.key, Lib.itoa e.src, spanW e.at_]
  else if e.kind = 3 then [wLo, Lib.itoa e.id, Lib.itoa e.key, Lib.itoa e.src, spanW e.at_]
  else [wFi, Lib.itoa e.id, Lib.itoa e.key, Lib.itoa e.dst, spanW e.at_]
def bookW (c : Book) : List (List Bs) := [[wCu, Lib.itoa c.gaps]] ++ c.people.map persW ++ c.keys.map keyW ++ c.entries.map entrW
def textOf (L : List (List Bs)) : Bs := L.flatMap fun ws => joinAt 32 ws ++ [10]
def bookT (c : Book) : Bs := textOf (bookW c)
end
section
end
end Go.Proofs.Cu
namespace Go.Proofs.Cu
open Go.Proofs.Ax
set_option linter.unusedVariables false
section
variable {C : Chn}
def earlyP (C : Chn) : List (Sta × Int) := (earlyS C).map fun g => (g.1, timeOf tid (earlyS C) g.1)
theorem mem_earlyP (ok : C.ok) {s : Sta} {t : Int} : (s, t) ∈ earlyP C ↔ earlyF C s = some t := by
  have hp := (early_law ok).1; unfold earlyP; rw [List.mem_map]; constructor
  · rintro ⟨g, hg, e⟩
    cases e
    have hi : idxG g.1 (earlyS C) ≠ none := mem_keys.1 (List.mem_map_of_mem hg); have hs := hp.full.idx g.1
    cases hq : idxG g.1 (earlyS C) with
    | none => exact absurd hq hi
    | some i =>
      rw [hq] at hs
      cases hgq : getG g.1 (earlyS C) with
      | none => rw [hgq] at hs; cases hs
      | some t =>
        unfold earlyF timeOf; rw [hgq]
  intro h; obtain ⟨g, hg, rfl⟩ := key_of_get h; refine ⟨g, hg, ?_⟩; unfold earlyF at h; unfold timeOf; rw [h]
theorem cons_time (ok : C.ok) {e : Entr} (he : e ∈ C.es) (hc : Cons C) : ∃ τ, TimeOf C e.id τ := by
  obtain ⟨i, hi⟩ := List.getElem?_of_mem he; obtain ⟨l, hl⟩ := hc; have hl' := hl; obtain ⟨sf, hr, ha⟩ := hl'
  have hbits : sf.done.testBit i = true := by
    unfold allS at ha; have ha : sf.done = 2 ^ C.es.length - 1 := by simpa using ha
    rw [ha, Nat.testBit_two_pow_sub_one]; simpa using (List.getElem?_eq_some_iff.1 hi).1
  obtain ⟨m, hm, hme⟩ := (run_once ok hr hi).2.1 (by simp) hbits; exact ⟨m.time, l, hl, m, hm, hme, rfl⟩
theorem time_cons {id τ : Int} (h : TimeOf C id τ) : Cons C := by
  obtain ⟨l, hl, -⟩ := h; exact ⟨l, hl⟩
theorem find_entry {c : Book} (hok : c.ok) {e : Entr} (he : e ∈ c.entries) : (c.entries.find? fun x => x.id == e.id) = some e := by
  obtain ⟨i, hi⟩ := List.getElem?_of_mem he; exact find_id hok.nd hi
theorem when_law {c : Book} (hok : c.ok) {e : Entr} (he : e ∈ c.entries) : ((whenF c e.id).2 = 0 ↔ Cons (chnOf c e.key)) ∧ ((whenF c e.id).2 = 0 ∨ (whenF c e.id).2 = 9) ∧ ((whenF c e.id).2 = 0 → (whenF c e.id).1 = whenL (chnOf c e.key) e.id (earlyP (chnOf c e.key))) ∧ ∀ τ, TimeOf (chnOf c e.key) e.id τ → (whenF c e.id).2 = 0 ∧ (whenF c e.id).1.lo ≤ τ ∧ τ ≤ (whenF c e.id).1.hi := by
  have ok := (chn_ok hok e.key).1; have hem : e ∈ (chnOf c e.key).es := List.mem_filter.2 ⟨he, by simp⟩
  obtain ⟨w1, w2, w3⟩ := whenL_law ok (id := e.id) fun s t => mem_earlyP ok
  have hw : whenF c e.id = if 0 ≤ (whenL (chnOf c e.key) e.id (earlyP (chnOf c e.key))).hi then (whenL (chnOf c e.key) e.id (earlyP (chnOf c e.key)), 0) else (⟨0, 0⟩, 9) := by
    unfold whenF; rw [if_neg (by simpa using (check_ok c).2 hok), find_entry hok he]; rfl
  rw [hw]; have hcons : 0 ≤ (whenL (chnOf c e.key) e.id (earlyP (chnOf c e.key))).hi ↔ Cons (chnOf c e.key) := ⟨fun h => time_cons (w2 h).1, fun h => w3 (cons_time ok hem h)⟩; by_cases h : 0 ≤ (whenL (chnOf c e.key) e.id (earlyP (chnOf c e.key))).hi
  · rw [if_pos h]; exact ⟨⟨fun _ => hcons.1 h, fun _ => rfl⟩, .inl rfl, fun _ => rfl, fun τ hτ => ⟨rfl, w1 τ hτ⟩⟩
  rw [if_neg h]; exact ⟨⟨fun h' => (by cases h'), fun h' => absurd (hcons.2 h') h⟩, .inr rfl, fun h' => (by cases h'), fun τ hτ => absurd (w3 ⟨τ, hτ⟩) h⟩
end
section
variable {C : Chn}
structure Turned (c x : Book) : Prop where
  people : x.people = c.people
  keys : x.keys = c.keys
  gaps : x.gaps = c.gaps
  perm : x.entries.Perm c.entries
def suspL (c : Book) (key : Int) : List Int := ((c.entries.filter fun e => e.key == key && foundS (chnOf (withoutB c [e.id]) key) []).map (·.id)).foldl (fun acc n => insI n acc) []
def suspectsF (c : Book) (key : Int) : List Int × Int := if askedE c key ≠ 0 then ([], askedE c key) else if foundS (chnOf c key) [] = true then ([], 0) else (suspL c key, 0)
theorem without_ok {c : Book} (h : c.ok) (ids : List Int) : (withoutB c ids).ok := by
  have hsub : (withoutB c ids).entries.Sublist c.entries := List.filter_sublist; refine ⟨h.gaps, ⟨h.lens.1, h.lens.2.1, Nat.le_trans hsub.length_le h.lens.2.2⟩, h.pers, h.incp, h.keys, h.inck, fun e he => ?_, h.nd.sublist (hsub.map _), fun k => Nat.le_trans (hsub.filter _).length_le (h.few k)⟩; have := h.entr e (List.mem_filter.1 he).1; exact this
structure Less (y c : Book) : Prop where
  people : y.people = c.people
  keys : y.keys = c.keys
  gaps : y.gaps ≤ c.gaps
  len : y.entries.length = c.entries.length
  nar : ∀ (i : Nat) (a b : Entr), y.entries[i]? = some a → c.entries[i]? = some b → Narrow a b ∧ a.key = b.key
theorem gaps_ok {c : Book} (h : c.ok) {g : Int} (hg : 0 ≤ g ∧ g ≤ 3) : Book.ok { c with gaps := g } := ⟨hg, h.lens, h.pers, h.incp, h.keys, h.inck, fun e he => h.entr e he, h.nd, h.few⟩
end
section
def consR (c : Book) (key : Int) : Bool := possibleB (chnOf c key) []
theorem consR_eq {c : Book} (h : c.ok) (key : Int) : consR c key = foundS (chnOf c key) [] := consistent_iff (chn_ok h key).1 (chn_kinds h key)
def neededR (c : Book) (key : Int) : Option Int := ([0, 1, 2, 3] : List Int).find? fun n => consR { c with gaps := n } key
theorem neededR_eq {c : Book} (h : c.ok) (key : Int) : neededR c key = ([0, 1, 2, 3] : List Int).find? fun n => foundS (chnOf { c with gaps := n } key) [] := by
  have e : ∀ n : Int, 0 ≤ n ∧ n ≤ 3 → consR { c with gaps := n } key = foundS (chnOf { c with gaps := n } key) [] := fun n hn => consR_eq (gaps_ok h hn) key
  unfold neededR; simp only [List.find?_cons, List.find?_nil]; rw [e 0 (by omega), e 1 (by omega), e 2 (by omega), e 3 (by omega)]
def suspR (c : Book) (key : Int) : List Int := ((c.entries.filter fun e => e.key == key && consR (withoutB c [e.id]) key).map (·.id)).foldl (fun acc n => insI n acc) []
theorem suspR_eq {c : Book} (h : c.ok) (key : Int) : suspR c key = suspL c key := by
  unfold suspR suspL; rw [List.filter_congr fun e _ => congrArg (e.key == key && ·) (consR_eq (without_ok h [e.id]) key)]
end
end Go.Proofs.Cu
