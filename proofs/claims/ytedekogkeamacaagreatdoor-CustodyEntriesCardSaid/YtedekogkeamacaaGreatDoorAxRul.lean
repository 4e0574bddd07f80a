import Derived.Test.YtedekogkeamacaaGreatDoorAxH
namespace Go.Proofs.Ax
open Go
theorem vv1 {A B : Prop} (h : A) : Br true A B := Br.tt h
theorem vv2 {A B : Prop} (h : B) : Br false A B := Br.ff h
theorem vv3 {p A B : Prop} [Decidable p] (h1 : A) (h : p := by assumption) : Br (decide p) A B := Br.decT h h1
theorem vv4 {p A B : Prop} [Decidable p] (h1 : B) (h : ¬ p := by assumption) : Br (decide p) A B := Br.decF h h1
theorem vv5 {p A B : Prop} [Decidable p] (h1 : B) (h : p := by assumption) : Br (!decide p) A B := Br.ndecT h h1
theorem vv6 {p A B : Prop} [Decidable p] (h1 : A) (h : ¬ p := by assumption) : Br (!decide p) A B := Br.ndecF h h1
theorem vv7 {p A B : Prop} [Decidable p] (h1 : A) (h : p := by omega) : Br (decide p) A B := Br.decT h h1
theorem vv8 {p A B : Prop} [Decidable p] (h1 : B) (h : ¬ p := by omega) : Br (decide p) A B := Br.decF h h1
theorem vv9 {p A B : Prop} [Decidable p] (h1 : B) (h : p := by omega) : Br (!decide p) A B := Br.ndecT h h1
theorem vv10 {p A B : Prop} [Decidable p] (h1 : A) (h : ¬ p := by omega) : Br (!decide p) A B := Br.ndecF h h1
theorem vv11 {p A B : Prop} [Decidable p] (h1 : p → A) (h2 : ¬ p → B) : Br (decide p) A B := Br.dec h1 h2
theorem vv12 {p A B : Prop} [Decidable p] (h1 : p → B) (h2 : ¬ p → A) : Br (!decide p) A B := Br.ndec h1 h2
theorem vv13 {b : Bool} {A B : Prop} (h1 : A) (h : b = true := by assumption) : Br b A B := Br.bT h h1
theorem vv14 {b : Bool} {A B : Prop} (h1 : B) (h : b = false := by assumption) : Br b A B := Br.bF h h1
theorem vv15 {b : Bool} {A B : Prop} (h1 : B) (h : b = true := by assumption) : Br (!b) A B := Br.nbT h h1
theorem vv16 {b : Bool} {A B : Prop} (h1 : A) (h : b = false := by assumption) : Br (!b) A B := Br.nbF h h1
theorem vv17 {b : Bool} {A B : Prop} (h1 : b = true → B) (h2 : b = false → A) : Br (!b) A B := Br.nb h1 h2
theorem vv19 {b : Bool} {A B : Prop} (h1 : b = true → A) (h2 : b = false → B) : Br b A B := Br.any h1 h2
theorem vv20 {a : Int} {k : Int → Prop} (hk : k a) (h : InI a := by exact ⟨by omega, by omega⟩) : WrapN .i64 a k := WrapN.inI h hk
theorem vv21 {row : List AV} {k : List AV → Prop} (hk : k row) : RowN [row] 0 k := RowN.one hk
theorem vv22 {row : List AV} {k : List AV → (List AV → (List (List AV) → Prop) → Prop) → Prop} (hk : k row fun x K => K [x]) : RowSN [row] 0 k := RowSN.one hk
theorem vv23 {α : Type} {f : α → List AV} {l : List α} {k : Nat → Prop} (hk : k l.length) : LenN (l.map f).length k := LenN.map hk
theorem vv25 {b : Bool} {p : Prop} (k : p) (h : b = true := by kernel_rfl) : Need (b = true) p := Need.chk h k
theorem vv26 {j n : Nat} {k : Nat → Prop} (hk : k (j - 1)) (h0 : 0 < j := by omega) (hn : j - 1 < n := by first | omega | (simp <;> omega)) : IdxN 0 ((j : Int) - 1) n k := IdxN.at0Pred h0 hn hk
theorem vv29 {n b : Nat} {k : Nat → Nat → Prop} (hk : k n n) (h1 : b * n ≤ 281474976710656 := by omega) (h2 : n ≤ 9223372036854775807 := by omega) : MkN (n : Int) (n : Int) b k := MkN.nat h1 h2 hk
theorem vv31 {rs : List (List AV)} {len : Nat} {k : List (List AV) → Prop} (hk : k rs) (h : len = rs.length := by first | rfl | omega | (simp; done) | (simp; omega)) : SubN rs 0 len k := SubN.all h hk
theorem vv33 {α : Type} {f : α → List AV} {l : List α} {x : List AV} {b : Nat} {k : List (List AV) → Nat → Prop} (hk : k (l.map f ++ [x]) (l.length + 1)) (h1 : (l.length + 1) * b ≤ 140737488355328 := by omega) (h2 : l.length + 1 ≤ 9223372036854775807 := by omega) : AppN (l.map f) [x] b k := AppN.map1 h1 h2 hk
end Go.Proofs.Ax
