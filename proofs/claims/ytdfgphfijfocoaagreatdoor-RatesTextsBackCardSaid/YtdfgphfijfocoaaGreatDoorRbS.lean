import Derived.Test.YtdfgphfijfocoaaGreatDoorRbPE
import Derived.Test.YtdfgphfijfocoaaGreatDoorAxH
import Derived.Test.YtdfgphfijfocoaaGreatDoorDivA
namespace Go.Proofs.Ax
open Go Go.Proofs
set_option maxRecDepth 10000
set_option maxHeartbeats 2000000
theorem tryd_okm (m n : Nat) : EC.Ok ⟨⟨Tryz.prog, G1, m, none⟩, n, Tryz.tab⟩ := ⟨fun t i h => TT.get_ok Tryz.tabOk t i h, enters, mixed⟩
structure Keyed (A S : Int) (w : List Int) : Prop where
  pos : 0 < S
  top : S ≤ 1099511627776
  lo : ∀ x ∈ w, 0 ≤ A * x
  hi : ∀ x ∈ w, A * x ≤ 4611686018427387904
/-- The blocks of a division. -/
def ix (n : Nat) : List AV := [vi n]
abbrev dH (A S : Int) (w : List Int) (t : Bool) (ps : List Int) (o : List Nat) : AH := [.rows [[vi A]] 3, .rows [[ints t w]] 85, .rows [[vi S]] 3, .rows (ps.map intRow) 3, .rows (o.map ix) 3]
abbrev dCl : AV := .fn (.func 124) [] [.pm 0 0 0, .pm 1 0 0, .pm 2 0 0]
theorem WrapN.inU {a : Int} {k : Int → Prop} (h : 0 ≤ a ∧ a ≤ 9223372036854775807) (hk : k a) : WrapN .u64 a k := ⟨a, by
  show a % (2 ^ 64) = a
  omega, hk⟩
theorem shr_ok {E : EC} {t u : TypeId} {x y : Operand} {ty : TypeId} {l : Fr} {H : AH} {k : AV → AH → Prop} {a : Int} (hx : evo E l x = .sc (.int .u64 a)) (hy : evo E l y = .sc (.int .u64 1)) (hk : k (.sc (.int .u64 (a / 2))) H) : StepN E (.binOp .shr t x y u) ty l H k := by
  refine ⟨_, _, ?_, hk⟩
  rw [evo_eq E l H] at hx hy
  have h : val? (binOp BinOp.shr t (Value.int IntKind.u64 a) (Value.int IntKind.u64 1)) = some (.int .u64 (a / 2)) := by
    simp only [binOp, Op.shift]
    rw [if_neg (by omega)]
    show some (Value.int .u64 (a.fdiv (2 ^ 1))) = _
    rw [Int.fdiv_eq_ediv_of_nonneg a (by decide)]
    rfl
  simp only [astep, hx, hy, abin, h, Option.map_some]
/-! Rows of numbers, met where they lie. -/
inductive IxN (x : List AV) (K : Nat → Prop) : Prop
  | mk (n : Nat) (h : x = ix n) (hk : K n)
theorem RowN.row1 {A B : List Nat} {x j : Nat} {k : List AV → Prop} (h : A.length = j) (hk : k (ix x)) : RowN ((A ++ x :: B).map ix) j k := .raw (by subst h; simp) hk
theorem RowN.row2 {A B : List Nat} {y x j : Nat} {k : List AV → Prop} (h : A.length + 1 = j) (hk : k (ix x)) : RowN ((A ++ y :: x :: B).map ix) j k := .raw (by subst h; simp) hk
theorem rowB_get (A B C : List Nat) (y x : Nat) : (A ++ y :: (B ++ x :: C))[A.length + 1 + B.length]? = some x := by
  rw [show A ++ y :: (B ++ x :: C) = (A ++ y :: B) ++ x :: C by simp, List.getElem?_append_right (by simp; omega)]
  simp [show A.length + 1 + B.length - (A.length + (B.length + 1)) = 0 by omega]
theorem rowB_set (A B C : List Nat) (y x z : Nat) : (A ++ y :: (B ++ x :: C)).set (A.length + 1 + B.length) z = A ++ y :: (B ++ z :: C) := by
  rw [show A ++ y :: (B ++ x :: C) = (A ++ y :: B) ++ x :: C by simp, List.set_append_right _ _ (by simp; omega)]
  simp [show A.length + 1 + B.length - (A.length + (B.length + 1)) = 0 by omega]
theorem RowN.rowB {A B C : List Nat} {y x j : Nat} {k : List AV → Prop} (h : A.length + 1 + B.length = j) (hk : k (ix x)) : RowN ((A ++ y :: (B ++ x :: C)).map ix) j k := .raw (by subst h; rw [List.getElem?_map, rowB_get]; rfl) hk
theorem RowSN.rowX {o : List Nat} {x j : Nat} {k : List AV → (List AV → (List (List AV) → Prop) → Prop) → Prop} (o' : Nat → List Nat) (h : o[j]? = some x) (h' : ∀ z, o.set j z = o' z) (hk : k (ix x) fun r K => IxN r fun n => K ((o' n).map ix)) : RowSN (o.map ix) j k :=
  ⟨_, _, by rw [List.getElem?_map, h]; rfl, fun r K hh => by
    obtain ⟨n, rfl, hK⟩ := hh
    rw [← List.map_set, h']
    exact hK, hk⟩
theorem RowSN.row1 {A B : List Nat} {x j : Nat} {k : List AV → (List AV → (List (List AV) → Prop) → Prop) → Prop} (h : A.length = j) (hk : k (ix x) fun r K => IxN r fun n => K ((A ++ n :: B).map ix)) : RowSN ((A ++ x :: B).map ix) j k :=
  .rowX (fun n => A ++ n :: B) (by subst h; simp) (fun z => by subst h; simp) hk
theorem RowSN.row2 {A B : List Nat} {y x j : Nat} {k : List AV → (List AV → (List (List AV) → Prop) → Prop) → Prop} (h : A.length + 1 = j) (hk : k (ix x) fun r K => IxN r fun n => K ((A ++ y :: n :: B).map ix)) : RowSN ((A ++ y :: x :: B).map ix) j k :=
  .rowX (fun n => A ++ y :: n :: B) (by subst h; simp) (fun z => by subst h; rw [List.set_append_right _ _ (by omega)]; simp [show A.length + 1 - A.length = 1 by omega]) hk
theorem RowSN.rowB {A B C : List Nat} {y x j : Nat} {k : List AV → (List AV → (List (List AV) → Prop) → Prop) → Prop} (h : A.length + 1 + B.length = j) (hk : k (ix x) fun r K => IxN r fun n => K ((A ++ y :: (B ++ n :: C)).map ix)) : RowSN ((A ++ y :: (B ++ x :: C)).map ix) j k :=
  .rowX (fun n => A ++ y :: (B ++ n :: C)) (by subst h; exact rowB_get ..) (fun z => by subst h; exact rowB_set ..) hk
section
variable {A S : Int} {w : List Int} {t : Bool} {ps : List Int}
end
end Go.Proofs.Ax
