import Derived.Test.YtedekogkeamacaaGreatDoorAxE
import Derived.Test.YtedekogkeamacaaGreatDoorAxInv
namespace Go.Proofs.Ax
open Go
set_option linter.unusedVariables false
section
variable {E : EC}
theorem OpN.inv (ok : E.Ok) {ro : Operand} {name : String} {args : Array Operand} {ats : Array TypeId} {ty : TypeId} {l : Fr} {H : AH} {k : AV → AH → Prop} {t : TypeId} {x : AV} {f : FuncId}
    (hro : evo E l ro = .iface t x) (hm : imeth E.C.P t name = some f) (h : CallN E f (x :: args.toList.map (evo E l)) H k) : OpN E (.call ⟨.invoke ro name, args, ats⟩) ty l H k := by
  obtain ⟨Q, ⟨fn, c, hf, hb⟩, hq, hk⟩ := h; refine ⟨fun dst pos af g => AOp_invoke (Q := Q) rfl (by rw [← evo_eq]; exact hro) hm ok.ent hf hb ?_ fun y H' hy => ⟨y, H', rfl, hk _ _ hy⟩⟩; rw [← show evo E l = (⟨frm 0 l E.n, H⟩ : ASt).ev E.C.G from funext (evo_eq E l H)]; exact hq
theorem OpN.assert {xo : Operand} {xt t : TypeId} {okb : Bool} {ty : TypeId} {l : Fr} {H : AH} {k : AV → AH → Prop} (y : AV) (hy : aassert E.C.P (evo E l xo) t okb = some y) (hk : k y H) : OpN E (.typeAssert xo xt t okb) ty l H k :=
  ⟨fun dst pos af g => AOp_assert rfl (by rw [← evo_eq]; exact hy) ⟨y, H, rfl, hk⟩⟩
end
end Go.Proofs.Ax
