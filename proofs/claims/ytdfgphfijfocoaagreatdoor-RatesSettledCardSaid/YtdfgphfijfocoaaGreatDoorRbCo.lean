import Derived.Test.YtdfgphfijfocoaaGreatDoorRbDf
namespace Go.Proofs.Ax
open Go Go.Proofs
set_option maxRecDepth 10000
set_option maxHeartbeats 4000000
def bothErr (a b : List Posting) : Int := if (checkPost a).1 ≠ 0 then (checkPost a).1 else (checkPost b).1
theorem AppN.nilm {α : Type} {f : α → List AV} {m : List α} {b : Nat} {k : List (List AV) → Nat → Prop} (h1 : m.length * b ≤ 140737488355328) (h2 : m.length ≤ 9223372036854775807) (hk : k (m.map f) m.length) : AppN [] (m.map f) b k := ⟨_, _, rfl, by simp, h1, h2, hk⟩
theorem joined_ok (t u : Bool) (a b : List Posting) (hmax : a.length ≤ 1000000) (hmax' : b.length ≤ 1000000) : Pu Tryz.prog G1 37 [postings t a, postings u b] (postings false (a ++ b)) := by
  refine Pu.of_ev (T := Tryz.tab) (n := 10) (tryd_ok _) Tryz.func37 rfl rfl rfl (by first | rfl | (split <;> rfl)) (by simp) ?_
  ((conv => whnf); repeat' ((first | refine Need.mk (.inl rfl) ?_ | refine AppN.nilm (by omega) (by omega) ?_ | refine AppN.maps (by omega) (by omega) ?_ | refine vv31 ?_) <;> (conv => whnf)))
  refine DoneN.frz 1 ((a ++ b).map Posting.enc) 61 rfl (deepR (fun _ => rfl)) ?_
  show DoneN _ ((AV.sm 1 5 0 (a.length + b.length)).frz0 1 _) _
  rw [frz_all (by simp)]
  exact DoneN.pure rfl
def corrErr (a b : List Posting) : Int := if bothErr a b ≠ 0 then bothErr a b else if 4000 < (correct a b).length then 2 else 0
abbrev cfr (c : List Posting) (k : Nat) (n : Nat) (a b : List Posting) : Fr := [(7, .mp 0), (8, .mp 1), (9, .sm 2 5 0 c.length), (26, names false (differ a b)), (27, vi n), (28, vi k)]
abbrev cH (a b : List Posting) (c : List Posting) : AH := [mB (gsOf a), mB (gsOf b), .rows (c.map Posting.enc) 61]
abbrev cHb (a b : List Posting) (c : List Posting) (q : Int × Int) : AH := [mB (gsOf a), mB (gsOf b), .rows (c.map Posting.enc) 61, .rows [nmRow q] 100]
theorem AppN.none {α : Type} {f : α → List AV} {l : List α} {b : Nat} {k : List (List AV) → Nat → Prop} (h1 : l.length * b ≤ 140737488355328) (h2 : l.length ≤ 9223372036854775807) (hk : k (l.map f) l.length) : AppN (l.map f) [] b k := ⟨_, _, List.append_nil _, by simp, h1, h2, hk⟩
end Go.Proofs.Ax
