import Derived.Lib.Split
import Derived.Lib.SplitLaws
import Derived.Lib.AtoiAll
import Derived.Lib.ItoaNum
import Derived.Lib.Strings
import Derived.Test.YtedekogkeamacaaGreatDoorCuB
namespace Go.Proofs.Tx
open Go
set_option linter.unusedVariables false
def tx (l : List UInt8) : ByteArray := ⟨l.toArray⟩
theorem tx_append (a b : List UInt8) : tx a ++ tx b = tx (a ++ b) := by
  apply ByteArray.ext; rw [ByteArray.data_append]; simp [tx]
theorem tx_size (a : List UInt8) : (tx a).size = a.length := by simp [tx, ByteArray.size]
theorem data_tx (a : List UInt8) : (tx a).data.toList = a := by simp [tx]
def joinAt (c : UInt8) : List (List UInt8) → List UInt8
  | [] => []
  | [w] => w
  | w :: r => w ++ c :: joinAt c r
end Go.Proofs.Tx
namespace Go.Proofs.Cu
open Go.Proofs.Ax Go.Proofs.Tx Go
set_option linter.unusedVariables false
abbrev Bs := List UInt8
def wCu : Bs := [99, 117, 115, 116, 111, 100, 121]
def wPe : Bs := [112, 101, 114, 115, 111, 110]
def wKe : Bs := [107, 101, 121]
def wPa : Bs := [112, 97, 115, 115]
def wCo : Bs := [99, 111, 112, 121]
def wLo : Bs := [108, 111, 115, 101]
def wFi : Bs := [102, 105, 110, 100]
def spanW (s : Spn) : Bs := Lib.itoa s.lo ++ 45 :: Lib.itoa s.hi
def persW (p : Pers) : List Bs := wPe :: Lib.itoa p.id :: p.duty.map spanW
def keyW (k : Int) : List Bs := [wKe, Lib.itoa k]
def entrW (e : Entr) : List Bs :=
  if e.kind = 1 then [wPa, Lib.itoa e.id, Lib.itoa e.key, Lib.itoa e.src, Lib.itoa e.dst, spanW e.at_]
  else if e.kind = 2 then [wCo, Lib.itoa e.id, Lib.itoa e.key, Lib.itoa e.src, spanW e.at_]
  else if e.kind = 3 then [wLo, Lib.itoa e.id, Lib.itoa e.key, Lib.itoa e.src, spanW e.at_]
  else [wFi, Lib.itoa e.id, Lib.itoa e.key, Lib.itoa e.dst, spanW e.at_]
def bookW (c : Book) : List (List Bs) := [[wCu, Lib.itoa c.gaps]] ++ c.people.map persW ++ c.keys.map keyW ++ c.entries.map entrW
def textOf (L : List (List Bs)) : Bs := L.flatMap fun ws => joinAt 32 ws ++ [10]
def bookT (c : Book) : Bs := textOf (bookW c)
end Go.Proofs.Cu
namespace Go.Proofs.Cu
open Go.Proofs.Ax Go.Proofs.Tx Go
set_option linter.unusedVariables false
end Go.Proofs.Cu
namespace Go.Proofs.Cu
open Go.Proofs.Ax
set_option linter.unusedVariables false
variable {C : Chn}
def earlyP (C : Chn) : List (Sta × Int) := (earlyS C).map fun g => (g.1, timeOf tid (earlyS C) g.1)
theorem mem_earlyP (ok : C.ok) {s : Sta} {t : Int} : (s, t) ∈ earlyP C ↔ earlyF C s = some t := by
  have hp := (early_law ok).1; unfold earlyP; rw [List.mem_map]; constructor
  · rintro ⟨g, hg, e⟩
    cases e
    have hi : idxG g.1 (earlyS C) ≠ none := mem_keys.1 (List.mem_map_of_mem hg); have hs := hp.full.idx g.1
    cases hq : idxG g.1 (earlyS C) with
    | none => exact absurd hq hi
    | some i =>
      rw [hq] at hs
      cases hgq : getG g.1 (earlyS C) with
      | none => rw [hgq] at hs; cases hs
      | some t =>
        unfold earlyF timeOf; rw [hgq]
  · intro h; obtain ⟨g, hg, rfl⟩ := key_of_get h; refine ⟨g, hg, ?_⟩; unfold earlyF at h; unfold timeOf; rw [h]
end Go.Proofs.Cu
namespace Go.Proofs.Cu
open Go.Proofs.Ax
set_option linter.unusedVariables false
variable {C : Chn}
structure Turned (c x : Book) : Prop where
  people : x.people = c.people
  keys : x.keys = c.keys
  gaps : x.gaps = c.gaps
  perm : x.entries.Perm c.entries
def suspL (c : Book) (key : Int) : List Int := ((c.entries.filter fun e => e.key == key && foundS (chnOf (withoutB c [e.id]) key) []).map (·.id)).foldl (fun acc n => insI n acc) []
def suspectsF (c : Book) (key : Int) : List Int × Int := if askedE c key ≠ 0 then ([], askedE c key) else if foundS (chnOf c key) [] = true then ([], 0) else (suspL c key, 0)
theorem without_ok {c : Book} (h : c.ok) (ids : List Int) : (withoutB c ids).ok := by
  have hsub : (withoutB c ids).entries.Sublist c.entries := List.filter_sublist; refine ⟨h.gaps, ⟨h.lens.1, h.lens.2.1, Nat.le_trans hsub.length_le h.lens.2.2⟩, h.pers, h.incp, h.keys, h.inck, fun e he => ?_, h.nd.sublist (hsub.map _), fun k => Nat.le_trans (hsub.filter _).length_le (h.few k)⟩; have := h.entr e (List.mem_filter.1 he).1; exact this
structure Less (y c : Book) : Prop where
  people : y.people = c.people
  keys : y.keys = c.keys
  gaps : y.gaps ≤ c.gaps
  len : y.entries.length = c.entries.length
  nar : ∀ (i : Nat) (a b : Entr), y.entries[i]? = some a → c.entries[i]? = some b → Narrow a b ∧ a.key = b.key
end Go.Proofs.Cu
namespace Go.Proofs.Cu
open Go.Proofs.Ax
set_option linter.unusedVariables false
def consR (c : Book) (key : Int) : Bool := possibleB (chnOf c key) []
theorem consR_eq {c : Book} (h : c.ok) (key : Int) : consR c key = foundS (chnOf c key) [] := consistent_iff (chn_ok h key).1 (chn_kinds h key)
def holdersR (c : Book) (key t : Int) : List Int := (placesL c).filter fun n => possibleB (chnOf c key) [⟨⟨t, t⟩, [(1, n)]⟩]
theorem holdersR_eq {c : Book} (h : c.ok) {key t : Int} (h0 : 0 ≤ t) : holdersR c key t = (placesL c).filter fun n => foundS (chnOf c key) [.place n t] :=
  List.filter_congr fun n _ => poss_place (chn_ok h key).1 (chn_kinds h key) h0
def copiersR (c : Book) (key t : Int) : List Int := (c.people.map (·.id)).filter fun n => possibleB (chnOf c key) [⟨⟨t, t⟩, [(2, n)]⟩]
theorem copiersR_eq {c : Book} (h : c.ok) {key t : Int} (h0 : 0 ≤ t) : copiersR c key t = (c.people.map (·.id)).filter fun n => foundS (chnOf c key) [.copy n t] :=
  List.filter_congr fun n _ => poss_copy (chn_ok h key).1 (chn_kinds h key) h0
def handsR (c : Book) (key : Int) (s : Spn) : List Int := (c.people.filter fun p => rhandsB (chnOf c key) p s).map (·.id)
theorem handsR_eq {c : Book} (h : c.ok) {key : Int} {s : Spn} (hs : validS s = true) : handsR c key s = (c.people.filter fun p => handsB (chnOf c key) p s (staysL (chnOf c key))).map (·.id) := by
  unfold handsR; refine congrArg (List.map _) (List.filter_congr fun p _ => rhands_iff (chn_ok h key).1 (chn_kinds h key) ?_); unfold validS timeOk at hs; simp only [Bool.and_eq_true, decide_eq_true_eq] at hs; exact ⟨hs.1.1.1, hs.2, hs.1.2.2⟩
end Go.Proofs.Cu
