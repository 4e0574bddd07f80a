import Derived.Lib.Split
import Derived.Lib.SplitLaws
import Derived.Lib.AtoiAll
import Derived.Lib.ItoaNum
import Derived.Lib.Strings
import Derived.Test.YtedekogkeamacaaGreatDoorCuB
namespace Go.Proofs.Tx
open Go
set_option linter.unusedVariables false
def tx (l : List UInt8) : ByteArray := ⟨l.toArray⟩
theorem tx_append (a b : List UInt8) : tx a ++ tx b = tx (a ++ b) := by
  apply ByteArray.ext; rw [ByteArray.data_append]; simp [tx]
theorem tx_size (a : List UInt8) : (tx a).size = a.length := by simp [tx, ByteArray.size]
theorem data_tx (a : List UInt8) : (tx a).data.toList = a := by simp [tx]
def joinAt (c : UInt8) : List (List UInt8) → List UInt8
  | [] => []
  | [w] => w
  | w :: r => w ++ c :: joinAt c r
end Go.Proofs.Tx
namespace Go.Proofs.Cu
open Go.Proofs.Ax Go.Proofs.Tx Go
set_option linter.unusedVariables false
section
abbrev Bs := List UInt8
def wCu : Bs := [99, 117, 115, 116, 111, 100, 121]
def wPe : Bs := [112, 101, 114, 115, 111, 110]
def wKe : Bs := [107, 101, 121]
def wPa : Bs := [112, 97, 115, 115]
def wCo : Bs := [99, 111, 112, 121]
def wLo : Bs := [108, 111, 115, 101]
def wFi : Bs := [102, 105, 110, 100]
def spanW (s : Spn) : Bs := Lib.itoa s.lo ++ 45 :: Lib.itoa s.hi
def persW (p : Pers) : List Bs := wPe :: Lib.itoa p.id :: p.duty.map spanW
def keyW (k : Int) : List Bs := [wKe, Lib.itoa k]
def entrW (e : Entr) : List Bs :=
  if e.kind = 1 then [wPa, Lib.itoa e.id, Lib.itoa e.key, Lib.itoa e.src, Lib.itoa e.dst, spanW e.at_]
  else if e.kind = 2 then [wCo, Lib.itoa e.id, Lib.itoa e.key, Lib.itoa e.src, spanW e.at_]
  else if e.kind = 3 then [wLo, Lib.itoa e.id, Lib.itoa e.key, Lib.itoa e.src, spanW e.at_]
  else [wFi, Lib.itoa e.id, Lib.itoa e.key, Lib.itoa e.dst, spanW e.at_]
def bookW (c : Book) : List (List Bs) := [[wCu, Lib.itoa c.gaps]] ++ c.people.map persW ++ c.keys.map keyW ++ c.entries.map entrW
def textOf (L : List (List Bs)) : Bs := L.flatMap fun ws => joinAt 32 ws ++ [10]
def bookT (c : Book) : Bs := textOf (bookW c)
end
section
end
end Go.Proofs.Cu
namespace Go.Proofs.Cu
open Go.Proofs.Ax
set_option linter.unusedVariables false
section
variable {C : Chn}
def earlyP (C : Chn) : List (Sta × Int) := (earlyS C).map fun g => (g.1, timeOf tid (earlyS C) g.1)
theorem mem_earlyP (ok : C.ok) {s : Sta} {t : Int} : (s, t) ∈ earlyP C ↔ earlyF C s = some t := by
  have hp := (early_law ok).1; unfold earlyP; rw [List.mem_map]; constructor
  · rintro ⟨g, hg, e⟩
    cases e
    have hi : idxG g.1 (earlyS C) ≠ none := mem_keys.1 (List.mem_map_of_mem hg); have hs := hp.full.idx g.1
    cases hq : idxG g.1 (earlyS C) with
    | none => exact absurd hq hi
    | some i =>
      rw [hq] at hs
      cases hgq : getG g.1 (earlyS C) with
      | none => rw [hgq] at hs; cases hs
      | some t =>
        unfold earlyF timeOf; rw [hgq]
  intro h; obtain ⟨g, hg, rfl⟩ := key_of_get h; refine ⟨g, hg, ?_⟩; unfold earlyF at h; unfold timeOf; rw [h]
theorem tell_0 {c : Book} {key : Int} {l : List Mv} (h : tellE c key l = 0) : askedE c key = 0 ∧ c.ok ∧ key ∈ c.keys ∧ l.length ≤ 20 ∧ Tell (chnOf c key) l := by
  unfold tellE at h; split at h
  rename_i h'; exact absurd h h'; rename_i h'; have ha : askedE c key = 0 := by simpa using h'
  obtain ⟨hok, hk⟩ := asked_0 ha; split at h
  cases h
  split at h
  · rename_i h1 h2; exact ⟨ha, hok, hk, by omega, (play_law (chn_ok hok key).1 l maxTime).1.1 h2⟩
  cases h
theorem tell_1 {c : Book} {key : Int} {l : List Mv} (ha : askedE c key = 0) (ht : Tell (chnOf c key) l) : tellE c key l = 0 := by
  obtain ⟨hok, -⟩ := asked_0 ha; have h1 := tell_len (chn_ok hok key).1 ht; have h2 := (chn_ok hok key).2; unfold tellE; rw [if_neg (by simpa using ha), if_neg (by omega), if_pos ((play_law (chn_ok hok key).1 l maxTime).1.2 ht)]
theorem history_law {c : Book} {key : Int} (ha : askedE c key = 0) : ((historyF c key).2 = 0 ↔ Cons (chnOf c key)) ∧ ((historyF c key).2 = 0 ∨ historyF c key = ([], 9)) ∧ ((historyF c key).2 = 0 → tellE c key (historyF c key).1 = 0 ∧ Tell (chnOf c key) (historyF c key).1) := by
  obtain ⟨hok, -⟩ := asked_0 ha; have ok := (chn_ok hok key).1; obtain ⟨h1, h2⟩ := search_law ok sorted_nil (fun c hc => absurd hc List.not_mem_nil); unfold historyF; rw [if_neg (by simpa using ha)]
  cases hq : searchS (chnOf c key) [] with
  | none => exact ⟨⟨fun h => (by cases h), fun ⟨l, hl⟩ => (h2 hq l hl fun c hc => absurd hc List.not_mem_nil).elim⟩, .inr rfl, fun h => (by cases h)⟩
  | some l => exact ⟨⟨fun _ => ⟨l, (h1 l hq).1⟩, fun _ => rfl⟩, .inl rfl, fun _ => ⟨tell_1 ha (h1 l hq).1, (h1 l hq).1⟩⟩
def heldF (c : Book) (key : Int) (l : List Mv) (t : Int) : Int × List Int × Int := if askedE c key ≠ 0 then (0, [], askedE c key) else if timeOk t = false then (0, [], 1) else if tellE c key l ≠ 0 then (0, [], tellE c key l) else ((playS (chnOf c key) l t).1.place, copiesL (chnOf c key).es (playS (chnOf c key) l t).1.done, 0)
end
section
variable {C : Chn}
structure Turned (c x : Book) : Prop where
  people : x.people = c.people
  keys : x.keys = c.keys
  gaps : x.gaps = c.gaps
  perm : x.entries.Perm c.entries
def suspL (c : Book) (key : Int) : List Int := ((c.entries.filter fun e => e.key == key && foundS (chnOf (withoutB c [e.id]) key) []).map (·.id)).foldl (fun acc n => insI n acc) []
def suspectsF (c : Book) (key : Int) : List Int × Int := if askedE c key ≠ 0 then ([], askedE c key) else if foundS (chnOf c key) [] = true then ([], 0) else (suspL c key, 0)
theorem without_ok {c : Book} (h : c.ok) (ids : List Int) : (withoutB c ids).ok := by
  have hsub : (withoutB c ids).entries.Sublist c.entries := List.filter_sublist; refine ⟨h.gaps, ⟨h.lens.1, h.lens.2.1, Nat.le_trans hsub.length_le h.lens.2.2⟩, h.pers, h.incp, h.keys, h.inck, fun e he => ?_, h.nd.sublist (hsub.map _), fun k => Nat.le_trans (hsub.filter _).length_le (h.few k)⟩; have := h.entr e (List.mem_filter.1 he).1; exact this
structure Less (y c : Book) : Prop where
  people : y.people = c.people
  keys : y.keys = c.keys
  gaps : y.gaps ≤ c.gaps
  len : y.entries.length = c.entries.length
  nar : ∀ (i : Nat) (a b : Entr), y.entries[i]? = some a → c.entries[i]? = some b → Narrow a b ∧ a.key = b.key
end
section
def consR (c : Book) (key : Int) : Bool := possibleB (chnOf c key) []
theorem consR_eq {c : Book} (h : c.ok) (key : Int) : consR c key = foundS (chnOf c key) [] := consistent_iff (chn_ok h key).1 (chn_kinds h key)
def toldR (C : Chn) (l : List Mv) : Bool := (behR C l 0).2
theorem toldR_eq {C : Chn} (ok : C.ok) (l : List Mv) : toldR C l = (playS C l maxTime).2 := by
  rw [Bool.eq_iff_iff]; exact (beh_law ok l 0).1.trans (play_law ok l maxTime).1.symm
end
end Go.Proofs.Cu
