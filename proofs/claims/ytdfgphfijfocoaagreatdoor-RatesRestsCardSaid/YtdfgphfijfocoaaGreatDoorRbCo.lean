import Derived.Test.YtdfgphfijfocoaaGreatDoorRbDf
namespace Go.Proofs.Ax
open Go Go.Proofs
set_option maxRecDepth 10000
set_option maxHeartbeats 4000000
def bothErr (a b : List Posting) : Int := if (checkPost a).1 ≠ 0 then (checkPost a).1 else (checkPost b).1
def corrErr (a b : List Posting) : Int := if bothErr a b ≠ 0 then bothErr a b else if 4000 < (correct a b).length then 2 else 0
abbrev cfr (c : List Posting) (k : Nat) (n : Nat) (a b : List Posting) : Fr := [(7, .mp 0), (8, .mp 1), (9, .sm 2 5 0 c.length), (26, names false (differ a b)), (27, vi n), (28, vi k)]
abbrev cH (a b : List Posting) (c : List Posting) : AH := [mB (gsOf a), mB (gsOf b), .rows (c.map Posting.enc) 61]
abbrev cHb (a b : List Posting) (c : List Posting) (q : Int × Int) : AH := [mB (gsOf a), mB (gsOf b), .rows (c.map Posting.enc) 61, .rows [nmRow q] 100]
theorem AppN.none {α : Type} {f : α → List AV} {l : List α} {b : Nat} {k : List (List AV) → Nat → Prop} (h1 : l.length * b ≤ 140737488355328) (h2 : l.length ≤ 9223372036854775807) (hk : k (l.map f) l.length) : AppN (l.map f) [] b k := ⟨_, _, List.append_nil _, by simp, h1, h2, hk⟩
theorem differ_len (a b : List Posting) : (differ a b).length ≤ a.length + b.length := by
  have h1 := gsOf_length a
  have h2 := gsOf_length b
  have h3 := flat_len (oneP_len a b) (List.range (gsOf a).length)
  have h4 := flat_len (twoP_len a b) (List.range (gsOf b).length)
  rw [List.length_range] at h3 h4
  rw [differ, sortN, List.length_mergeSort, List.length_append]; omega
end Go.Proofs.Ax
