import Derived.Test.YtedekogkeamacaaGreatDoorAxH
import Derived.Test.YtedekogkeamacaaGreatDoorAxD
import Derived.Laws.BytesArg
namespace Go.Proofs.Ax
open Go
set_option linter.unusedVariables false
section
def RoundN (P : Program) (G : Glob) (T : TypeId → Option TI) (id : Nat) (xs : List AV) (H : AH) (k : AV → AH → Prop) : Prop :=
  ∃ pe fl n ps as bd, nthB H id = some (.loop .ready pe (frm 0 fl n) ps as bd) ∧ xs.length = ps.size ∧ setsF fl ps.toList xs fun fl1 => ev ⟨⟨P, G, H.length, some id⟩, n, T⟩ as fl1 H (bodyE ⟨⟨P, G, H.length, some id⟩, n, T⟩ id bd k)
theorem OpN.round0 {E : EC} (ok : E.Ok) {fo : Operand} {args : Array Operand} {ats : Array TypeId} {ty : TypeId} {l : Fr} {H : AH} {k : AV → AH → Prop} {id : Nat}
    (hfo : evo E l fo = .yl id) (h : RoundN E.C.P E.C.G E.T id (args.toList.map (evo E l)) H k) : OpN E (.call ⟨.value fo, args, ats⟩) ty l H k := by
  obtain ⟨pe, fl, n, ps, as, bd, h1, h2, h3⟩ := h; exact OpN.yl ok hfo h1 (by simpa using h2) (by rw [mapE_eq]; exact h3)
theorem OpN.mono {E : EC} {op : Op} {ty : TypeId} {l : Fr} {H : AH} {k k' : AV → AH → Prop} (h : OpN E op ty l H k) (hk : ∀ y H', k y H' → k' y H') : OpN E op ty l H k' :=
  ⟨fun dst pos af g => (h.1 dst pos af g).mono fun st ⟨y, H', e, hy⟩ => ⟨y, H', e, hk _ _ hy⟩⟩
theorem OpN.round {E : EC} (ok : E.Ok) {fo : Operand} {args : Array Operand} {ats : Array TypeId} {ty : TypeId} {l : Fr} {H : AH} {k k0 : AV → AH → Prop} {id : Nat}
    (hfo : evo E l fo = .yl id) (h : RoundN E.C.P E.C.G E.T id (args.toList.map (evo E l)) H k0) (hk : ∀ y H', k0 y H' → k y H') : OpN E (.call ⟨.value fo, args, ats⟩) ty l H k := (OpN.round0 ok hfo h).mono hk
theorem StepN.keep {E : EC} {op : Op} {ty : TypeId} {l : Fr} {H : AH} {k : AV → AH → Prop} (y : AV) (h : astep E.C.P E.C.G ⟨frm 0 l E.n, H⟩ op ty = some (y, H)) (hk : k y H) : StepN E op ty l H k := .mk y H h hk
end
section
theorem set_some {α : Type} {l : List α} {i j : Nat} {z x : α} (h : (l.set i z)[j]? = some x) : (i = j ∧ x = z ∧ i < l.length) ∨ (i ≠ j ∧ l[j]? = some x) := by
  rw [List.getElem?_set] at h; split at h
  · split at h
    cases h; exact .inl ⟨by assumption, rfl, by omega⟩
    cases h
  exact .inr ⟨by assumption, h⟩
theorem Reabs.more {C : Ctx} {l : Fr} {N : Nat} {H : AH} (te : TypeId) : Reabs C ⟨frm 0 l N, H⟩ ⟨frm 0 l N, H ++ [.rows [] te]⟩ := by
  intro B I w ρ a hs; obtain ⟨h1, h2⟩ := hs.heap.virtual (.rows [] te); exact ⟨I, ρ, ⟨h1, hs.size, hs.fr, hs.marks.went h2, hs.base⟩, h2.gone⟩
end
section
section
variable {E : EC} (ok : E.Ok)
include ok
omit ok
end
end
section
end
end Go.Proofs.Ax
