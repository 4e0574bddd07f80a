import Derived.Test.YtdfgphfijfocoaaDoorAxVirt
namespace Go.Proofs.Ax
open Go
set_option linter.unusedVariables false
/-! Functions among their caller's blocks. -/
theorem AFnH.of_ev {P : Program} {G : Glob} {m : Nat} {T : TypeId → Option TI} {n : Nat} {f : FuncId} {fn : Func} {c : Code} {args : List AV} {H : AH} {Q : AV → AH → Prop} (ok : EC.Ok ⟨⟨P, G, m, none⟩, n, T⟩) (hm : H.length = m) (hf : P.funcs[f]? = some fn) (hb : fn.body = some c) (hn : fn.ntmps = n)
    (ha : args.length ≤ n) (h : forceFr (enumF 0 args) fun l => ev ⟨⟨P, G, m, none⟩, n, T⟩ c l H (retE ⟨⟨P, G, m, none⟩, n, T⟩ fn.results.toList Q)) : AFnH P G f args H Q := by
  rw [forceFr_eq] at h
  subst hm
  refine AFnH_of_wp hf hb ?_
  subst hn
  have hs : AStartH fn args H = ⟨frm 0 (enumF 0 args) fn.ntmps, H⟩ := by
    simp only [AStartH]
    rw [start_frm args _ ha]
  rw [hs]
  refine (ev_ok ok _ _ _ _ h).mono ?_
  rintro e st ⟨l', H', rfl, hk⟩
  unfold retE at hk
  have fin : (resK ⟨⟨P, G, H.length, none⟩, fn.ntmps, T⟩ l' H' fn.results.toList fun xs => tupK xs fun y' => DoneN Q y' H') → ∃ xs, ares P ⟨frm 0 l' fn.ntmps, H'⟩ fn.results.toList = some xs ∧ Q (atuple xs) H' := by
    intro h
    obtain ⟨xs, h1, h2⟩ := resK_ok ok _ _ h
    rw [tupK_eq] at h2
    exact ⟨xs, h1, h2.1⟩
  split at hk
  · exact fin hk
  · exact fin hk
  · exact hk.elim
/-- A function that turns blocks of its caller's. -/
def Ef (P : Program) (G : Glob) (f : FuncId) (args : List AV) (H : AH) (Q : AV → AH → Prop) : Prop := HasBody P f ∧ AFnH P G f args H Q
theorem Ef.of_ev {P : Program} {G : Glob} {m : Nat} {T : TypeId → Option TI} {n : Nat} {f : FuncId} {fn : Func} {c : Code} {args : List AV} {H : AH} {Q : AV → AH → Prop} (ok : EC.Ok ⟨⟨P, G, m, none⟩, n, T⟩) (hm : H.length = m) (hf : P.funcs[f]? = some fn) (hb : fn.body = some c) (hn : fn.ntmps = n)
    (ha : args.length ≤ n) (h : forceFr (enumF 0 args) fun l => ev ⟨⟨P, G, m, none⟩, n, T⟩ c l H (retE ⟨⟨P, G, m, none⟩, n, T⟩ fn.results.toList Q)) : Ef P G f args H Q := ⟨⟨fn, c, hf, hb⟩, .of_ev ok hm hf hb hn ha h⟩
theorem CallN.ef {E : EC} {f : FuncId} {args : List AV} {H : AH} {Q : AV → AH → Prop} {k : AV → AH → Prop} (h : Ef E.C.P E.C.G f args H Q) (hk : ∀ y H', Q y H' → k y H') : CallN E f args H k := ⟨Q, h.1, h.2, hk⟩
theorem GCallN.ef {E : EC} {f : FuncId} {args : List AV} {H H' : AH} {y : AV} {kq : Bool → AV → Prop} {ke : AV → AH → Prop} (h : Ef E.C.P E.C.G f args H fun y' H2 => y' = y ∧ H2 = H') (hk : ke y H') : GCallN E f args H kq ke := .eff y H' h.1 h.2 hk
theorem Reabs.same {C : Ctx} {l r : Fr} {N : Nat} {H : AH} (h : AllS id H.length l r) (hH : ∀ b ∈ H, b.ok H.length) (hm : C.m ≤ H.length) : Reabs C ⟨frm 0 l N, H⟩ ⟨frm 0 r N, H⟩ := Reabs.weak (slots_frm h N 0) hH hm
theorem RowSN.raw {rs : List (List AV)} {j : Nat} {row : List AV} {k : List AV → (List AV → (List (List AV) → Prop) → Prop) → Prop} (h : rs[j]? = some row) (hk : k row fun x K => K (rs.set j x)) : RowSN rs j k := ⟨row, _, h, fun _ _ h => h, hk⟩
theorem RowN.raw {rs : List (List AV)} {j : Nat} {row : List AV} {k : List AV → Prop} (h : rs[j]? = some row) (hk : k row) : RowN rs j k := ⟨row, h, hk⟩
end Go.Proofs.Ax
