import Derived.Lib.Split
import Derived.Lib.SplitLaws
import Derived.Lib.AtoiAll
import Derived.Lib.ItoaNum
import Derived.Lib.Strings
import Derived.Test.YtedekogkeamacaaGreatDoorCuB
namespace Go.Proofs.Tx
open Go
set_option linter.unusedVariables false
def tx (l : List UInt8) : ByteArray := ⟨l.toArray⟩
theorem tx_append (a b : List UInt8) : tx a ++ tx b = tx (a ++ b) := by
  apply ByteArray.ext
  rw [ByteArray.data_append]
  simp [tx]
theorem tx_size (a : List UInt8) : (tx a).size = a.length := by simp [tx, ByteArray.size]
theorem data_tx (a : List UInt8) : (tx a).data.toList = a := by simp [tx]
def joinAt (c : UInt8) : List (List UInt8) → List UInt8
  | [] => []
  | [w] => w
  | w :: r => w ++ c :: joinAt c r
end Go.Proofs.Tx
namespace Go.Proofs.Cu
open Go.Proofs.Ax Go.Proofs.Tx Go
set_option linter.unusedVariables false
abbrev Bs := List UInt8
def wCu : Bs := [99, 117, 115, 116, 111, 100, 121]
def wPe : Bs := [112, 101, 114, 115, 111, 110]
def wKe : Bs := [107, 101, 121]
def wPa : Bs := [112, 97, 115, 115]
def wCo : Bs := [99, 111, 112, 121]
def wLo : Bs := [108, 111, 115, 101]
def wFi : Bs := [102, 105, 110, 100]
def spanW (s : Spn) : Bs := Lib.itoa s.lo ++ 45 :: Lib.itoa s.hi
def persW (p : Pers) : List Bs := wPe :: Lib.itoa p.id :: p.duty.map spanW
def keyW (k : Int) : List Bs := [wKe, Lib.itoa k]
def entrW (e : Entr) : List Bs :=
  if e.kind = 1 then [wPa, Lib.itoa e.id, Lib.itoa e.key, Lib.itoa e.src, Lib.itoa e.dst, spanW e.at_]
  else if e.kind = 2 then [wCo, Lib.itoa e.id, Lib.itoa e.key, Lib.itoa e.src, spanW e.at_]
  else if e.kind = 3 then [wLo, Lib.itoa e.id, Lib.itoa e.key, Lib.itoa e.src, spanW e.at_]
  else [wFi, Lib.itoa e.id, Lib.itoa e.key, Lib.itoa e.dst, spanW e.at_]
def bookW (c : Book) : List (List Bs) := [[wCu, Lib.itoa c.gaps]] ++ c.people.map persW ++ c.keys.map keyW ++ c.entries.map entrW
def textOf (L : List (List Bs)) : Bs := L.flatMap fun ws => joinAt 32 ws ++ [10]
def bookT (c : Book) : Bs := textOf (bookW c)
end Go.Proofs.Cu
namespace Go.Proofs.Cu
open Go.Proofs.Ax Go.Proofs.Tx Go
set_option linter.unusedVariables false
end Go.Proofs.Cu
namespace Go.Proofs.Cu
open Go.Proofs.Ax
set_option linter.unusedVariables false
variable {C : Chn}
def earlyP (C : Chn) : List (Sta × Int) := (earlyS C).map fun g => (g.1, timeOf tid (earlyS C) g.1)
theorem mem_earlyP (ok : C.ok) {s : Sta} {t : Int} : (s, t) ∈ earlyP C ↔ earlyF C s = some t := by
  have hp := (early_law ok).1
  unfold earlyP
  rw [List.mem_map]
  constructor
  · rintro ⟨g, hg, e⟩
    cases e
    have hi : idxG g.1 (earlyS C) ≠ none := mem_keys.1 (List.mem_map_of_mem hg)
    have hs := hp.full.idx g.1
    cases hq : idxG g.1 (earlyS C) with
    | none => exact absurd hq hi
    | some i =>
      rw [hq] at hs
      cases hgq : getG g.1 (earlyS C) with
      | none => rw [hgq] at hs; cases hs
      | some t =>
        unfold earlyF timeOf
        rw [hgq]
  · intro h
    obtain ⟨g, hg, rfl⟩ := key_of_get h
    refine ⟨g, hg, ?_⟩
    unfold earlyF at h
    unfold timeOf
    rw [h]
end Go.Proofs.Cu
namespace Go.Proofs.Cu
open Go.Proofs.Ax
set_option linter.unusedVariables false
variable {C : Chn}
theorem perm_ok {c x : Book} (h : c.ok) (hp : x.people = c.people) (hk : x.keys = c.keys) (hg : x.gaps = c.gaps) (he : x.entries.Perm c.entries) : x.ok := by
  refine ⟨by rw [hg]; exact h.gaps, ?_, by rw [hp]; exact h.pers, by rw [hp]; exact h.incp, by rw [hk]; exact h.keys, by rw [hk]; exact h.inck, fun e hm => ?_, ?_, fun k => ?_⟩
  · rw [hp, hk, he.length_eq]; exact h.lens
  · have := h.entr e (he.mem_iff.1 hm)
    unfold entrOk at *
    rw [hk, hp]
    exact this
  · exact (he.map _).nodup_iff.2 h.nd
  · rw [(he.filter _).length_eq]; exact h.few k
theorem asked_eq {c x : Book} (h : c.ok) (hx : x.ok) (hk : x.keys = c.keys) (key : Int) : askedE x key = askedE c key := by
  unfold askedE
  rw [(check_ok c).2 h, (check_ok x).2 hx, hk]
structure Turned (c x : Book) : Prop where
  people : x.people = c.people
  keys : x.keys = c.keys
  gaps : x.gaps = c.gaps
  perm : x.entries.Perm c.entries
theorem turned_found {c x : Book} (h : c.ok) (ht : Turned c x) (key : Int) {cs : List Cnd} (hs : Sorted cs) (h0 : ∀ c ∈ cs, 0 ≤ c.time) : foundS (chnOf x key) cs = foundS (chnOf c key) cs := by
  have hx := perm_ok h ht.people ht.keys ht.gaps ht.perm
  refine (found_perm (chn_ok h key).1 (chn_ok hx key).1 ht.people ht.gaps (fun e => ?_) ?_ hs h0).symm
  · exact (ht.perm.filter _).mem_iff.symm
  · exact (ht.perm.filter _).length_eq.symm
theorem turned_among {c x : Book} (h : c.ok) (ht : Turned c x) (key t : Int) (l : List Int) (mk : Int → Cnd) (hm : ∀ n, (mk n).time = t) : amongF x key t l mk = amongF c key t l mk := by
  have hx := perm_ok h ht.people ht.keys ht.gaps ht.perm
  unfold amongF
  rw [asked_eq h hx ht.keys, turned_found h ht key sorted_nil fun c hc => absurd hc List.not_mem_nil]
  by_cases h2 : timeOk t = true
  · have h0 := (time_ok.1 h2).1
    have e : (fun n => foundS (chnOf x key) [mk n]) = fun n => foundS (chnOf c key) [mk n] := by
      funext n
      exact turned_found h ht key (sorted_one _) fun d hd => by rw [List.mem_singleton.1 hd, hm]; exact h0
    rw [e]
  · rw [if_pos (c := timeOk t = false) (by simpa using h2), if_pos (c := timeOk t = false) (by simpa using h2)]
theorem turned_holders {c x : Book} (h : c.ok) (ht : Turned c x) (key t : Int) : holdersF x key t = holdersF c key t := by
  unfold holdersF
  have : placesL x = placesL c := by unfold placesL; rw [ht.people]
  rw [this]
  exact turned_among h ht key t _ _ fun n => rfl
theorem turned_copiers {c x : Book} (h : c.ok) (ht : Turned c x) (key t : Int) : copiersF x key t = copiersF c key t := by
  unfold copiersF
  rw [ht.people]
  exact turned_among h ht key t _ _ fun n => rfl
theorem filter_map_congr {l : List Pers} {f g : Pers → Bool} (h : ∀ p ∈ l, f p = g p) : (l.filter f).map (·.id) = (l.filter g).map (·.id) := by rw [List.filter_congr h]
theorem turned_hands {c x : Book} (h : c.ok) (ht : Turned c x) (key : Int) (s : Spn) : handsF x key s = handsF c key s := by
  have hx := perm_ok h ht.people ht.keys ht.gaps ht.perm
  have ok := (chn_ok h key).1
  have okx := (chn_ok hx key).1
  unfold handsF
  rw [asked_eq h hx ht.keys]
  by_cases hv : validS s = true
  · have hs := validS_iff.1 hv
    have e1 : staysL (chnOf x key) = [] ↔ staysL (chnOf c key) = [] := by
      rw [stays_nil ok, stays_nil okx, ← found_nil ok, ← found_nil okx, turned_found h ht key sorted_nil fun c hc => absurd hc List.not_mem_nil]
    have e2 : (x.people.filter fun p => handsB (chnOf x key) p s (staysL (chnOf x key))).map (·.id) = (c.people.filter fun p => handsB (chnOf c key) p s (staysL (chnOf c key))).map (·.id) := by
      rw [ht.people]
      refine filter_map_congr fun p hp => ?_
      rw [Bool.eq_iff_iff, hands_found ok hp hs, hands_found okx (by show p ∈ x.people; rw [ht.people]; exact hp) hs]
      constructor
      · rintro ⟨t, a, b, r⟩
        exact ⟨t, a, b, by rw [← turned_found h ht key (sorted_one _) fun d hd => by rw [List.mem_singleton.1 hd]; simp only [Cnd.time]; omega]; exact r⟩
      · rintro ⟨t, a, b, r⟩
        exact ⟨t, a, b, by rw [turned_found h ht key (sorted_one _) fun d hd => by rw [List.mem_singleton.1 hd]; simp only [Cnd.time]; omega]; exact r⟩
    rw [e2]
    by_cases he : staysL (chnOf c key) = []
    · rw [if_pos he, if_pos (e1.2 he)]
    · rw [if_neg he, if_neg fun hh => he (e1.1 hh)]
  · rw [if_pos (c := validS s = false) (by simpa using hv), if_pos (c := validS s = false) (by simpa using hv)]
def suspL (c : Book) (key : Int) : List Int := ((c.entries.filter fun e => e.key == key && foundS (chnOf (withoutB c [e.id]) key) []).map (·.id)).foldl (fun acc n => insI n acc) []
def suspectsF (c : Book) (key : Int) : List Int × Int := if askedE c key ≠ 0 then ([], askedE c key) else if foundS (chnOf c key) [] = true then ([], 0) else (suspL c key, 0)
theorem susp_inc (c : Book) (key : Int) : Inc (suspL c key) := (ins_gen _ [] List.Pairwise.nil).1
theorem mem_susp {c : Book} {key n : Int} : n ∈ suspL c key ↔ ∃ e ∈ c.entries, e.key = key ∧ foundS (chnOf (withoutB c [e.id]) key) [] = true ∧ e.id = n := by
  unfold suspL
  rw [(ins_gen _ [] List.Pairwise.nil).2]
  simp only [List.not_mem_nil, false_or, List.mem_map, List.mem_filter, Bool.and_eq_true, beq_iff_eq]
  exact ⟨fun ⟨e, ⟨a, b, d⟩, r⟩ => ⟨e, a, b, d, r⟩, fun ⟨e, a, b, d, r⟩ => ⟨e, ⟨a, b, d⟩, r⟩⟩
theorem without_ok {c : Book} (h : c.ok) (ids : List Int) : (withoutB c ids).ok := by
  have hsub : (withoutB c ids).entries.Sublist c.entries := List.filter_sublist
  refine ⟨h.gaps, ⟨h.lens.1, h.lens.2.1, Nat.le_trans hsub.length_le h.lens.2.2⟩, h.pers, h.incp, h.keys, h.inck, fun e he => ?_, h.nd.sublist (hsub.map _), fun k => Nat.le_trans (hsub.filter _).length_le (h.few k)⟩
  have := h.entr e (List.mem_filter.1 he).1
  exact this
theorem turned_without {c x : Book} (ht : Turned c x) (ids : List Int) : Turned (withoutB c ids) (withoutB x ids) := ⟨ht.people, ht.keys, ht.gaps, ht.perm.filter _⟩
theorem turned_suspects {c x : Book} (h : c.ok) (ht : Turned c x) (key : Int) : suspectsF x key = suspectsF c key := by
  have hx := perm_ok h ht.people ht.keys ht.gaps ht.perm
  unfold suspectsF
  rw [asked_eq h hx ht.keys, turned_found h ht key sorted_nil fun c hc => absurd hc List.not_mem_nil]
  have : suspL x key = suspL c key := by
    refine inc_ext (susp_inc _ _) (susp_inc _ _) fun n => ?_
    rw [mem_susp, mem_susp]
    constructor
    · rintro ⟨e, a, b, d, r⟩
      exact ⟨e, ht.perm.mem_iff.1 a, b, by rw [← turned_found (without_ok h _) (turned_without ht _) key sorted_nil fun c hc => absurd hc List.not_mem_nil]; exact d, r⟩
    · rintro ⟨e, a, b, d, r⟩
      exact ⟨e, ht.perm.mem_iff.2 a, b, by rw [turned_found (without_ok h _) (turned_without ht _) key sorted_nil fun c hc => absurd hc List.not_mem_nil]; exact d, r⟩
  rw [this]
structure Less (y c : Book) : Prop where
  people : y.people = c.people
  keys : y.keys = c.keys
  gaps : y.gaps ≤ c.gaps
  len : y.entries.length = c.entries.length
  nar : ∀ (i : Nat) (a b : Entr), y.entries[i]? = some a → c.entries[i]? = some b → Narrow a b ∧ a.key = b.key
end Go.Proofs.Cu
namespace Go.Proofs.Cu
open Go.Proofs.Ax
set_option linter.unusedVariables false
end Go.Proofs.Cu
