import Derived.Test.YtedekogkeamacaaGreatDoorAxShort
import Derived.Test.YtedekogkeamacaaGreatDoorAxH
import Derived.Test.YtedekogkeamacaaGreatDoorAxG
namespace Go.Proofs.Ax
open Go
set_option linter.unusedVariables false
theorem QM {C : Ctx} {l r : Fr} {N : Nat} {H H' : AH} (ids : List Nat) (hs : AllS (sigma ids) H'.length l r := by repeat (first | exact sv0 | refine sv1 ?_ | refine sv2 ?_ | refine sv3 ?_)) (hb : AllB (sigma ids) H'.length H ids H' := by repeat (first | exact bv0 | refine bv1 ?_)) (hnd : ndL ids H' [] = true := by rfl) (hm : preL C.m ids H'.length = true := by rfl) : Reabs C ⟨frm 0 l N, H⟩ ⟨frm 0 r N, H'⟩ := Reabs.frmM ids hs hb hnd hm
theorem Q0 {C : Ctx} {l r : Fr} {N : Nat} {H : AH} (hs : AllS id 0 l r := by repeat (first | exact sv0 | refine sv1 ?_ | refine sv2 ?_ | refine sv3 ?_)) (hm : C.m = 0 := by rfl) : Reabs C ⟨frm 0 l N, H⟩ ⟨frm 0 r N, []⟩ := Reabs.frm0 hm hs
theorem Qp {E : EC} {f : FuncId} {xs : List AV} {y : AV} {H : AH} {k : AV → AH → Prop} (h : Pu E.C.P E.C.G f xs y) (hk : k y H) : CallN E f xs H k := CallN.pure h hk
theorem Qg {E : EC} {f : FuncId} {xs : List AV} {y : AV} {H : AH} {kq : Bool → AV → Prop} {ke : AV → AH → Prop} (h : Pu E.C.P E.C.G f xs y) (hk : kq true y) : GCallN E f xs H kq ke := GCallN.pure y h hk
theorem Qb {σ : Type} {E : EC} {fr : σ → Fr} {hp : σ → AH} {μ : σ → Nat} {inv : σ → Prop} {m : Nat} {l : Fr} {H : AH} (s : σ) (hre : Reabs E.C ⟨frm 0 l E.n, H⟩ ⟨frm 0 (fr s) E.n, hp s⟩) (hi : inv s := by omega) (hm : μ s < m := by omega) : BackN E fr hp μ inv m l H := BackN.mk s hi hm hre
theorem Ql {σ : Nat → Nat} {n : Nat} {H bs : AH} {i : Nat} {is : List Nat} {b b' : ABlk} (h1 : nthB H i = some b) (h2 : Blk σ n b b') (hr : AllB σ n H is bs) (h3 : b'.live = true → b.live = true := by first | exact fun _ => rfl | exact fun h => (by cases h)) : AllB σ n H (i :: is) (b' :: bs) := ⟨⟨b, h1, h2, h3⟩, hr⟩
theorem Qn {olds xs : List (List AV)} {b : Nat} {k : List (List AV) → Nat → Prop} (n : Nat) (hk : k (olds ++ xs) n) (hn : olds.length + xs.length = n := by first | omega | (simp; done) | (simp; omega)) (h1 : n * b ≤ 140737488355328 := by first | omega | (simp; done) | (simp; omega)) (h2 : n ≤ 9223372036854775807 := by first | omega | (simp; done) | (simp; omega)) : AppN olds xs b k := AppN.len n hn h1 h2 hk
end Go.Proofs.Ax
