import Derived.Test.YtdfgphfijfocoaaGreatDoorRbM2
import Derived.Test.YtdfgphfijfocoaaGreatDoorRbO
namespace Go.Proofs.Ax
open Go Go.Proofs
set_option maxRecDepth 10000
set_option maxHeartbeats 4000000
theorem Pu.of_ef {P : Program} {G : Glob} {f : FuncId} {args : List AV} {z : AV} {Q : AV → AH → Prop} (h : Ef P G f args [] Q) (hQ : ∀ y H, Q y H → y = z) (hd : (args.all (·.deep2)) = true) (hz : z.deep2 = true) : Pu P G f args z := ⟨h.1, AFnH.pure (h.2.mono hQ) (fun x hx => List.all_eq_true.1 hd x hx) hz⟩
end Go.Proofs.Ax
