import Derived.Test.YtdfgphfijfocoaaDoorAxEvH
namespace Go.Proofs.Ax
open Go
set_option linter.unusedVariables false
/-! A body, statement by statement, and joins of its ways. -/
inductive JoinN {σ : Type} (E : EC) (fr : σ → Fr) (hp : σ → AH) (inv : σ → Prop) (l : Fr) (H : AH) : Prop
  | mk (s : σ) (hi : inv s) (hre : Reabs E.C ⟨frm 0 l E.n, H⟩ ⟨frm 0 (fr s) E.n, hp s⟩)
theorem CodeN.of_ev {E : EC} (ok : E.Ok) {c : Code} {l : Fr} {H : AH} {k : XK} (h : ev E c l H k) : CodeN E c l H k := ⟨ev_ok ok _ _ _ _ h⟩
theorem CodeN.re {E : EC} {c : Code} {l l' : Fr} {H H' : AH} {k : XK} (h : Reabs E.C ⟨frm 0 l E.n, H⟩ ⟨frm 0 l' E.n, H'⟩) (hc : CodeN E c l' H' k) : CodeN E c l H k := ⟨AWp_reabs h hc.1⟩
theorem CodeN.seqE {E : EC} (ok : E.Ok) {a b : Code} {l : Fr} {H : AH} {k : XK} (h : ev E a l H fun e l' H' => match e with
    | .normal => CodeN E b l' H' k
    | e => k e l' H') : CodeN E (.seq a b) l H k := by
  refine ⟨AWp_seq ((ev_ok ok _ _ _ _ h).mono ?_)⟩
  rintro e st ⟨l', H', rfl, hk⟩
  cases e <;> first | exact hk.1 | exact ⟨l', H', rfl, hk⟩
theorem CodeN.cut {σ : Type} {E : EC} (ok : E.Ok) {a b : Code} {l : Fr} {H : AH} {k : XK} (fr : σ → Fr) (hp : σ → AH) (inv : σ → Prop) (h1 : ev E a l H fun e l' H' => match e with
    | .normal => JoinN E fr hp inv l' H'
    | e => k e l' H') (h2 : ∀ s, inv s → CodeN E b (fr s) (hp s) k) : CodeN E (.seq a b) l H k := by
  refine ⟨AWp_seq ((ev_ok ok _ _ _ _ h1).mono ?_)⟩
  rintro e st ⟨l', H', rfl, hk⟩
  cases e <;> first | exact ⟨l', H', rfl, hk⟩ | skip
  obtain ⟨s, hi, hre⟩ := hk
  exact AWp_reabs hre (h2 s hi).1
theorem Ef.of_code {P : Program} {G : Glob} {m : Nat} {T : TypeId → Option TI} {n : Nat} {f : FuncId} {fn : Func} {c : Code} {args : List AV} {H : AH} {Q : AV → AH → Prop} (ok : EC.Ok ⟨⟨P, G, m, none⟩, n, T⟩) (hm : H.length = m) (hf : P.funcs[f]? = some fn) (hb : fn.body = some c) (hn : fn.ntmps = n)
    (ha : args.length ≤ n) (h : CodeN ⟨⟨P, G, m, none⟩, n, T⟩ c (enumF 0 args) H (retE ⟨⟨P, G, m, none⟩, n, T⟩ fn.results.toList Q)) : Ef P G f args H Q := by
  subst hm
  refine ⟨⟨fn, c, hf, hb⟩, AFnH_of_wp hf hb ?_⟩
  subst hn
  have hs : AStartH fn args H = ⟨frm 0 (enumF 0 args) fn.ntmps, H⟩ := by
    simp only [AStartH]
    rw [start_frm args _ ha]
  rw [hs]
  refine AWp.mono h.1 ?_
  rintro e st ⟨l', H', rfl, hk⟩
  unfold retE at hk
  have fin : (resK ⟨⟨P, G, H.length, none⟩, fn.ntmps, T⟩ l' H' fn.results.toList fun xs => tupK xs fun y' => DoneN Q y' H') → ∃ xs, ares P ⟨frm 0 l' fn.ntmps, H'⟩ fn.results.toList = some xs ∧ Q (atuple xs) H' := by
    intro h
    obtain ⟨xs, h1, h2⟩ := resK_ok ok _ _ h
    rw [tupK_eq] at h2
    exact ⟨xs, h1, h2.1⟩
  split at hk
  · exact fin hk
  · exact fin hk
  · exact hk.elim
end Go.Proofs.Ax
