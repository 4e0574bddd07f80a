import Derived.Test.YtedekogkeamacaaGreatDoorAxC
namespace Go.Proofs.Ax
open Go
set_option linter.unusedVariables false
def imeth (P : Program) (t : TypeId) (name : String) : Option FuncId :=
  match P.info? t with
  | none => none
  | some i => match i.methods.find? (·.name == name) with
    | none => none
    | some m => match m.path.toList, m.func, P.underlying t with
      | [], some (f, pr), some (.pointer _) => if pr then some f else none
      | [], some (f, pr), some _ => if pr then none else some f
      | _, _, _ => none
theorem imeth_run {P : Program} {t : TypeId} {name : String} {f : FuncId} (h : imeth P t name = some f) (n : Nat) (v : Value) (w : World) : (method (n + 1) t v name).run P w = .ok (f, v) w := by
  unfold imeth at h; split at h
  cases h
  rename_i i hi; split at h
  cases h
  rename_i m hm; have ht := run_typeInfo (w := w) hi; split at h
  · rename_i g pr e hp hf hu
    cases pr
    cases h
    cases h
    simp only [method, Sem.run_bind, ht, Result.andThen_ok, hm, hp, follow, Sem.run_pure, hf, receiverAt, run_underlying hu, Place.get]
  · rename_i g pr d hd hp hf hu
    cases pr
    · cases h
      simp only [method, Sem.run_bind, ht, Result.andThen_ok, hm, hp, follow, Sem.run_pure, hf, receiverAt, run_underlying hu]
      cases d <;> first | rfl | exact absurd rfl (hd _)
    cases h
  cases h
theorem AOp_invoke {C : Ctx} {o : Oper} {N : ASt → Prop} {st : ASt} {ro : Operand} {name : String} {args : Array Operand} {ats : Array TypeId} {t : TypeId} {x : AV} {f : FuncId} {fn : Func} {c : Code} {Q : AV → AH → Prop}
    (hop : o.op = .call { callee := .invoke ro name, args := args, argTypes := ats }) (hro : st.ev C.G ro = .iface t x) (hm : imeth C.P t name = some f) (hE : Enters C.P) (hf : C.P.funcs[f]? = some fn) (hb : fn.body = some c)
    (h : AFnH C.P C.G f (x :: args.toList.map (st.ev C.G)) st.H Q) (hn : ∀ y H', Q y H' → N (st.put o.dst y H')) : AOp C o N st := fun B I w ρ a rr hr hs next R hnx => by
  have hnd : ∀ c, o.op ≠ .defer c := by intro c hc; rw [hc] at hop; cases hop
  have hv := hs.ev ro; rw [hro] at hv
  obtain ⟨v, he, hvx⟩ : ∃ v, a.eval ro = .iface t v ∧ VRel I w ρ v x := by
    cases hev : a.eval ro <;> rw [hev] at hv <;> cases hv
    exact ⟨_, rfl, by assumption⟩
  obtain ⟨l2, v2⟩ := evs_sound hs args
  have hrun : (execOp a.eval o).run C.P w = .ok (.enter f (#[v] ++ args.map a.eval)) w := by
    unfold execOp; rw [hop]
    have hx : (#[Value.iface t v] ++ args.map a.eval).extract 1 (#[Value.iface t v] ++ args.map a.eval).size = args.map a.eval := by
      generalize args.map a.eval = as; obtain ⟨as⟩ := as
      first | (simp; done) | rfl | (apply Array.ext' ; simp [List.extract])
    have h0 : (#[Value.iface t v] ++ args.map a.eval)[0]? = some (Value.iface t v) := by rw [Array.getElem?_append_left (Nat.zero_lt_one)]; rfl
    simp only [resolve, Sem.run_bind, Sem.run_pure, Result.andThen, invoke, he]; rw [h0]; simp only [hx, callMethod, Sem.run_bind, run_program, Result.andThen]; rw [show C.P.types.size + Made.depth = (C.P.types.size + 99) + 1 from rfl, imeth_run hm]; exact run_callFunc_body hE hf hb _ _
  refine ⟨fun _ _ => trivial, ?_⟩; rw [Oper.semAt_eq _ _ _ hnd, hrun]; refine ⟨(fun h => by cases h), ?_⟩
  obtain ⟨l5, v5⟩ := list_rel (I := I) (w := w) (ρ := ρ) (us := #[v]) (xs := [x]) rfl (fun i y hy => by
    cases i with
    | zero => cases hy; exact hvx
    | succ i => simp at hy) l2 v2
  have hc := (callsIn_wide (n := 0)).2 (h I w ρ _ hs.heap l5 v5); have hc' : CallsIn (C.fence rr) (0 - 1) C.P f (#[v] ++ args.map a.eval) w _ := hc
  refine hc'.mono fun e w' hp => ?_
  obtain ⟨u, rfl, I', ρ', H', y, g1, g2, g3, g4⟩ := hp; have hw := g4.all hs.heap.dom
  exact hnx I' ρ' _ (a.put o.dst u) w' (hn y H' g1) (hs.put hw g2 g3 o.dst) (by
    have : (st.put o.dst y H').H = H' := by unfold ASt.put; split <;> rfl
    rw [this]; exact hw.gone)
def aassert (P : Program) (x : AV) (t : TypeId) (ok : Bool) : Option AV :=
  match P.underlying t, x with
  | some (.interface _), _ => none
  | some _, .iface u v => if u = t then some (if ok then .tuple [v, .sc (.bool true)] else v) else if ok then (azero P t).map fun z => .tuple [z, .sc (.bool false)] else none
  | _, _ => none
theorem aassert_sound {P : Program} {I : Nat → Prop} {w w' : World} {ρ : Places} {v : Value} {x y : AV} {xt t : TypeId} {ok : Bool} (hv : VRel I w ρ v x) (h : aassert P x t ok = some y) :
    ∃ u, (Instr.typeAssert v xt t ok).run P w' = .ok u w' ∧ VRel I w ρ u y := by
  unfold aassert at h; split at h
  cases h
  · rename_i d s z hni hu
    obtain ⟨u, rfl, hz⟩ : ∃ u, v = .iface s u ∧ VRel I w ρ u z := by
      cases hv
      exact ⟨_, rfl, by assumption⟩
    have run : (Instr.typeAssert (.iface s u) xt t ok).run P w' = ((if s = t then pure (if ok then .tuple #[u, .bool true] else u) else if ok then (do pure (.tuple #[← zeroValue t, .bool false])) else runtimePanic (.typeAssertion (some xt) (some s) t "")) : Sem Value).run P w' := by
      unfold Instr.typeAssert; simp only [Sem.run_bind, run_underlying hu, Result.andThen_ok]
    rw [run]; split at h
    · rename_i e; rw [if_pos e]
      cases h
      cases ok
      exact ⟨u, rfl, hz⟩; exact ⟨_, rfl, pair_rel hz .sc⟩
    rename_i e; rw [if_neg e]
    cases ok
    cases h
    cases hz0 : azero P t with
    | none => rw [hz0] at h; cases h
    | some q =>
      rw [hz0] at h
      cases h
      obtain ⟨qv, h1, h2⟩ := azero_sound (I := I) (w := w) (w' := w') (ρ := ρ) hz0; exact ⟨.tuple #[qv, .bool false], by simp [h1, Result.andThen], pair_rel h2 .sc⟩
  cases h
theorem AOp_assert {C : Ctx} {o : Oper} {N : ASt → Prop} {st : ASt} {xo : Operand} {xt t : TypeId} {ok : Bool} {y : AV} (hop : o.op = .typeAssert xo xt t ok) (hy : aassert C.P (st.ev C.G xo) t ok = some y) (h : N (st.put o.dst y st.H)) : AOp C o N st := fun B I w ρ a rr hr hs next R hnx => by
  have hnd : ∀ c, o.op ≠ .defer c := by intro c hc; rw [hc] at hop; cases hop
  obtain ⟨u, h1, h2⟩ := aassert_sound (w' := w) (xt := xt) (hs.ev xo) hy
  have hrun : (execOp a.eval o).run C.P w = .ok (.value u) w := by
    unfold execOp; rw [hop]; simp only [Sem.run_bind, h1, Result.andThen_ok, Sem.run_pure]
  refine ⟨fun _ _ => trivial, ?_⟩; rw [Oper.semAt_eq _ _ _ hnd, hrun]
  exact hnx I ρ _ (a.put o.dst u) w h (hs.put Went.refl hs.heap h2 o.dst) (by
    have : (st.put o.dst y st.H).H = st.H := by unfold ASt.put; split <;> rfl
    rw [this]; exact Gone.refl)
end Go.Proofs.Ax
