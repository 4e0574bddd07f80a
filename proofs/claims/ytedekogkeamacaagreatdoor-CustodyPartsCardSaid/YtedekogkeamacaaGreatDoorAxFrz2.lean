import Derived.Test.YtedekogkeamacaaGreatDoorAxH
namespace Go.Proofs.Ax
open Go
set_option linter.unusedVariables false
theorem Ef.frz {P : Program} {G : Glob} {f : FuncId} {args : List AV} {H : AH} {Q : AV → AH → Prop} (id : Nat) (rs : List (List AV)) (te : TypeId) (hid : nthB H id = some (.rows rs te)) (hd : AllDeep rs)
    (h : Ef P G f (args.map (AV.frz2 id rs)) (frzH id rs H) Q) : Ef P G f args H Q := by
  obtain ⟨hb, hq⟩ := h
  rw [nthB_eq] at hid
  refine ⟨hb, fun I w ρ vs hh hl hv => ?_⟩
  obtain ⟨I2, h1, h2, h3, h4⟩ := hh.frz hid hd
  refine (hq I2 w ρ vs h3 (by simpa using hl) (fun i x hx => ?_)).mono ?_
  · rw [List.getElem?_map] at hx
    cases ha : args[i]? with
    | none => rw [ha] at hx; cases hx
    | some y => rw [ha] at hx; cases hx; exact (hv i y ha).frz2 hh hid hd h1 h2
  · rintro e w' ⟨v, e1, I', ρ', H', y, g1, g2, g3, g4⟩
    have hlen : (frzH id rs H).length = H.length := by simp [frzH]
    rw [hlen] at g4
    exact ⟨v, e1, I', ρ', H', y, g1, g2, g3, h4.gone.trans g4⟩
theorem GCallN.frz {E : EC} {f : FuncId} {args : List AV} {H : AH} {y : AV} {kq : Bool → AV → Prop} {ke : AV → AH → Prop} (id : Nat) (rs : List (List AV)) (te : TypeId) (hid : nthB H id = some (.rows rs te)) (hd : AllDeep rs)
    (h : Pu E.C.P E.C.G f (args.map (AV.frz2 id rs)) y) (hk : ke y (frzH id rs H)) : GCallN E f args H kq ke :=
  .eff y _ h.1 (Ef.frz id rs te hid hd ⟨h.1, h.2 _⟩).2 hk
end Go.Proofs.Ax
