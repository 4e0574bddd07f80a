import Derived.Test.YtedekogkeamacaaGreatDoorCcTold
import Derived.Test.YtedekogkeamacaaGreatDoorCuLaws3
namespace Go.Proofs.Ax
open Go Go.Proofs Go.Proofs.Cu Go.Proofs.Tx
set_option maxRecDepth 10000
set_option maxHeartbeats 4000000
theorem handsV {c : Book} (hS : BkS c) (key : Int) (s : Spn) {e : Int} (h : (handsF c key s).2 = e) : Pu Tryz.prog G1 19 [bookV c, vi key, .agg (encS s)] (.tuple [ints (handsF c key s).1, vi e]) := by
  subst h; exact hands_ok hS key s
theorem holdersV {c : Book} (hS : BkS c) (key t : Int) {e : Int} (h : (holdersF c key t).2 = e) : Pu Tryz.prog G1 17 [bookV c, vi key, vi t] (.tuple [ints (holdersF c key t).1, vi e]) := by
  subst h; exact holders_ok hS key t
theorem copiersV {c : Book} (hS : BkS c) (key t : Int) {e : Int} (h : (copiersF c key t).2 = e) : Pu Tryz.prog G1 18 [bookV c, vi key, vi t] (.tuple [ints (copiersF c key t).1, vi e]) := by
  subst h; exact copiers_ok hS key t
theorem handsF_len2 {c : Book} (hS : BkS c) (key : Int) (s : Spn) : (handsF c key s).1.length ≤ 1000000 := by
  have h1 := handsF_len c key s
  have h2 := hS.pl
  omega
theorem among_len2 {c : Book} (key t : Int) (l : List Int) (mk : Int → Cnd) (hl : c.ok → l.length ≤ 1000000) : (amongF c key t l mk).1.length ≤ 1000000 := by
  unfold amongF
  split
  · exact Nat.zero_le _
  · rename_i h
    split
    · exact Nat.zero_le _
    · split
      · exact Nat.zero_le _
      · exact Nat.le_trans (List.length_filter_le ..) (hl (asked_0 (by simpa using h)).1)
theorem holdersF_len2 {c : Book} (key t : Int) : (holdersF c key t).1.length ≤ 1000000 := among_len2 key t (placesL c) _ fun h => by
  have := h.lens.1
  have e : (placesL c).length = c.people.length + 2 := by simp [placesL]
  omega
theorem copiersF_len2 {c : Book} (key t : Int) : (copiersF c key t).1.length ≤ 1000000 := by
  have h : ∀ l : List Int, (c.ok → l.length ≤ 1000000) → (amongF c key t l fun n => Cnd.copy n t).1.length ≤ 1000000 := fun l => among_len2 key t l _
  refine h _ fun h => ?_
  have := h.lens.1
  rw [List.length_map]
  omega
end Go.Proofs.Ax
