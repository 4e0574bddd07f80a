import Derived.Test.YtedekogkeamacaaGreatDoorAxShort
import Derived.Test.YtedekogkeamacaaGreatDoorAxH
namespace Go.Proofs.Ax
open Go
set_option linter.unusedVariables false
theorem rM {C : Ctx} {l r : Fr} {N : Nat} {H H' : AH} (ids : List Nat) (hs : AllS (sigma ids) H'.length l r := by repeat (first | exact sv0 | refine sv1 ?_ | refine sv2 ?_ | refine sv3 ?_)) (hb : AllB (sigma ids) H'.length H ids H' := by repeat (first | exact bv0 | refine bv1 ?_)) (hnd : ndL ids H' [] = true := by rfl) (hm : preL C.m ids H'.length = true := by rfl) : Reabs C ⟨frm 0 l N, H⟩ ⟨frm 0 r N, H'⟩ := Reabs.frmM ids hs hb hnd hm
theorem r0 {C : Ctx} {l r : Fr} {N : Nat} {H : AH} (hs : AllS id 0 l r := by repeat (first | exact sv0 | refine sv1 ?_ | refine sv2 ?_ | refine sv3 ?_)) (hm : C.m = 0 := by rfl) : Reabs C ⟨frm 0 l N, H⟩ ⟨frm 0 r N, []⟩ := Reabs.frm0 hm hs
theorem cp {E : EC} {f : FuncId} {xs : List AV} {y : AV} {H : AH} {k : AV → AH → Prop} (h : Pu E.C.P E.C.G f xs y) (hk : k y H) : CallN E f xs H k := CallN.pure h hk
theorem gp {E : EC} {f : FuncId} {xs : List AV} {y : AV} {H : AH} {kq : Bool → AV → Prop} {ke : AV → AH → Prop} (h : Pu E.C.P E.C.G f xs y) (hk : kq true y) : GCallN E f xs H kq ke := GCallN.pure y h hk
theorem bk {σ : Type} {E : EC} {fr : σ → Fr} {hp : σ → AH} {μ : σ → Nat} {inv : σ → Prop} {m : Nat} {l : Fr} {H : AH} (s : σ) (hre : Reabs E.C ⟨frm 0 l E.n, H⟩ ⟨frm 0 (fr s) E.n, hp s⟩) (hi : inv s := by omega) (hm : μ s < m := by omega) : BackN E fr hp μ inv m l H := BackN.mk s hi hm hre
end Go.Proofs.Ax
