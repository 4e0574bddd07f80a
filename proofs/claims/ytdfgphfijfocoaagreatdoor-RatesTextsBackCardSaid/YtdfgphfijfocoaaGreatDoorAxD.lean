import Derived.Test.YtdfgphfijfocoaaGreatDoorAxC
namespace Go.Proofs.Ax
open Go
set_option linter.unusedVariables false

theorem collect_mem {α β : Type} {f : α → Option (List β)} : ∀ {xs : List α} {zs : List β}, collect f xs = some zs → ∀ x ∈ xs, ∃ ys, f x = some ys ∧ ∀ y ∈ ys, y ∈ zs
  | [], zs, _, x, hx => by cases hx
  | x0 :: xs, zs, h, x, hx => by
    unfold collect at h
    split at h
    · rename_i ys hys
      split at h
      · rename_i zs' hzs
        cases h
        rcases List.mem_cons.1 hx with rfl | hx
        · exact ⟨ys, hys, fun y hy => List.mem_append_left _ hy⟩
        · obtain ⟨ys', h1, h2⟩ := collect_mem hzs x hx
          exact ⟨ys', h1, fun y hy => List.mem_append_right _ (h2 y hy)⟩
      · cases h
    · cases h

/-- The state of the interpreter. -/
noncomputable def sOf (n : Nat) (T : FT) (H : AH) : ASt := ⟨T.toL n, H⟩

/-- What is asked of that which runs code. -/
def SelfOk (P : Program) (G : Glob) (self : Runs) : Prop :=
  ∀ (rd : Option Nat) (n m : Nat) (c : Code) (T : FT) (H : AH) (outs : List (Exit × FT × AH)), self rd n m c T H = some outs → Full T n →
    (∀ e ∈ outs, Full e.2.1 n) ∧ ∀ (M : Nat) (K : Exit → ASt → Prop), M ≤ m → (∀ e ∈ outs, K e.1 (sOf n e.2.1 e.2.2)) → AWp ⟨P, G, M, rd⟩ c K (sOf n T H)

/-- What is asked of that which is known of one call. -/
def OrcAt (P : Program) (G : Glob) (f : FuncId) (args : List AV) (H : AH) (outs : List (AV × AH)) : Prop :=
  ∀ (I : Nat → Prop) (w : World) (ρ : Places) (vs : Array Value), HRel G I w ρ H → vs.size = args.length → (∀ (i : Nat) (x : AV), args[i]? = some x → VRel I w ρ (vs.getD i undef) x) →
    (∃ v w' I' ρ' y H', (y, H') ∈ outs ∧ (callFunc f vs).run P w = .ok (.value v) w' ∧ HRel G I' w' ρ' H' ∧ Gone H.length I w ρ H I' w' ρ' H' ∧ VRel I' w' ρ' v y) ∨
    ((∀ w, (callFunc f vs).run P w = .ok (.enter f vs) w) ∧ Calls P f vs w fun e w' => ∃ v, e = .returned v ∧ ∃ I' ρ' H' y, (y, H') ∈ outs ∧ HRel G I' w' ρ' H' ∧ VRel I' w' ρ' v y ∧ Gone H.length I w ρ H I' w' ρ' H')

/-- What is asked of that which is known of functions. -/
def OrcOk (P : Program) (G : Glob) (orc : Orc) : Prop :=
  ∀ (f : FuncId) (args : List AV) (H : AH) (outs : List (AV × AH)), orc f args H = some outs → OrcAt P G f args H outs

theorem aresT_eq {P : Program} {T : FT} {n : Nat} {H : AH} (h : Full T n) : ∀ {rs : List ResultVar} {xs : List AV}, (rs.all fun r => match r with | .tmp t => decide (t < n) | .cell a _ => decide (a < n)) = true → aresT P T H rs = some xs → ares P (sOf n T H) rs = some xs
  | [], xs, _, hx => by simpa [aresT, ares] using hx
  | r :: rs, xs, hall, hx => by
    simp only [List.all_cons, Bool.and_eq_true] at hall
    unfold aresT at hx
    split at hx
    · rename_i x ys hr hrs
      cases hx
      have ih := aresT_eq h hall.2 hrs
      have hr' : ares1 P (sOf n T H) r = some x := by
        cases r with
        | tmp t =>
          have ht : t < n := by simpa using hall.1
          simp only [ares1, sOf]
          rw [FT.toL_get, if_pos ht]
          exact hr
        | cell a t =>
          have ha : a < n := by simpa using hall.1
          simp only [ares1, sOf]
          rw [FT.toL_get, if_pos ha]
          exact hr
      simp only [ares, hr', ih]
    · cases hx

/-- What a call comes to. -/
def COut (P : Program) (G : Glob) (f : FuncId) (args : List AV) (H : AH) (outs : List (AV × AH)) : Prop :=
  AFnH P G f args H fun y H' => (y, H') ∈ outs

theorem AFnH.gc {P : Program} {G : Glob} {f : FuncId} {args : List AV} {H : AH} {Q : AV → AH → Prop} (h : AFnH P G f args H Q) : AFnH P G f args H fun y H' => ∃ y0 H0, Q y0 H0 ∧ gcD H.length (y0, H0) = (y, H') := fun I w ρ vs h1 h2 h3 =>
  (h I w ρ vs h1 h2 h3).mono fun e w' ⟨v, e1, I', ρ', H', y, g1, g2, g3, g4⟩ => by
    refine ⟨v, e1, ?_⟩
    cases hq : gcD H.length (y, H') with
    | mk y' H'' =>
      unfold gcD at hq
      split at hq
      · cases hq
        exact ⟨I', ρ', H', y, ⟨y, H', g1, by unfold gcD; rw [if_pos (by assumption)]⟩, g2, g3, g4⟩
      · rename_i hne
        cases hg : Ax.gc H.length y H' with
        | none =>
          rw [hg] at hq
          cases hq
          exact ⟨I', ρ', H', y, ⟨y, H', g1, by unfold gcD; rw [if_neg hne, hg]; rfl⟩, g2, g3, g4⟩
        | some r =>
          obtain ⟨y1, H1⟩ := r
          rw [hg] at hq
          cases hq
          obtain ⟨ρ'', q1, q2, q3⟩ := gc_sound hg g2 g3
          exact ⟨I', ρ'', H'', y', ⟨y, H', g1, by unfold gcD; rw [if_neg hne, hg]; rfl⟩, q1, q2, g4.trans q3⟩

theorem sets_start {n : Nat} {args : List AV} (hl : args.length ≤ n) {β : Type} (k : FT → β) : ∃ T, FT.sets args 0 (FT.mk n n) k = k T ∧ Full T n ∧ T.toL n = args ++ List.replicate (n - args.length) .any := by
  obtain ⟨T, h1, h2, h3⟩ := FT.sets_spec args 0 (FT.mk n n) k (Full.mk n)
  refine ⟨T, h1, h2, ?_⟩
  rw [h3, toL_mk]
  have := foldl_set_app args [] (List.replicate n .any) (by simpa using hl)
  simpa using this

theorem rcall_sound {P : Program} {G : Glob} {self : Runs} (hs : SelfOk P G self) {f : FuncId} {args : List AV} {H : AH} {outs : List (AV × AH)} (h : rcall P (fun _ _ _ => none) self f args H = some outs) :
    (∃ fn c, P.funcs[f]? = some fn ∧ fn.body = some c) ∧ COut P G f args H outs := by
  unfold rcall at h
  simp only at h
  split at h
  case h_2 => cases h
  rename_i fn hf
  split at h
  case h_2 => cases h
  rename_i c hb
  split at h
  case isFalse => cases h
  rename_i hcond
  simp only [Bool.and_eq_true, decide_eq_true_eq] at hcond
  obtain ⟨hres, hlen⟩ := hcond
  obtain ⟨T, hT, hfull, hTl⟩ := sets_start hlen (fun T => self none fn.ntmps H.length c T H)
  rw [hT] at h
  split at h
  case h_2 => cases h
  rename_i outs0 hself
  obtain ⟨l, hl, rfl⟩ := map_some h
  refine ⟨⟨fn, c, hf, hb⟩, ?_⟩
  obtain ⟨hfo, hw⟩ := hs _ _ _ _ _ _ _ hself hfull
  have hst : sOf fn.ntmps T H = AStartH fn args H := by simp only [sOf, hTl, AStartH]
  have base : AFnH P G f args H fun y H' => (y, H') ∈ l := by
    refine AFnH_of_wp hf hb ?_
    rw [← hst]
    refine hw H.length _ (Nat.le_refl _) fun e he => ?_
    obtain ⟨ys, hy1, hy2⟩ := collect_mem hl e he
    have hfe := hfo e he
    unfold retAll at hy1
    obtain ⟨ex, T1, H1⟩ := e
    simp only at hy1 hfe ⊢
    split at hy1
    · split at hy1
      · rename_i xs hxs
        cases hy1
        exact ⟨xs, aresT_eq hfe hres hxs, hy2 _ (List.mem_singleton.2 rfl)⟩
      · cases hy1
    · split at hy1
      · rename_i xs hxs
        cases hy1
        exact ⟨xs, aresT_eq hfe hres hxs, hy2 _ (List.mem_singleton.2 rfl)⟩
      · cases hy1
    · cases hy1
  exact base.gc.mono fun y H' ⟨y0, H0, h1, h2⟩ => dedup_mem (List.mem_map.2 ⟨_, h1, h2⟩)

/-- A call by the rule of what is known. -/
theorem AOp_orc {C : Ctx} {o : Oper} {N : ASt → Prop} {st : ASt} {fo : Operand} {args : Array Operand} {ats : Array TypeId} {f : FuncId} {fs cs : List AV} {outs : List (AV × AH)}
    (hop : o.op = .call { callee := .value fo, args := args, argTypes := ats }) (hfo : afunc (st.ev C.G fo) = some (f, fs, cs)) (h : OrcAt C.P C.G f (fs ++ args.toList.map (st.ev C.G) ++ cs) st.H outs) (hn : ∀ y H', (y, H') ∈ outs → N (st.put o.dst y H')) : AOp C o N st := fun B I w ρ a rr hr hs next R hnx => by
  have hnd : ∀ c, o.op ≠ .defer c := by intro c hc; rw [hc] at hop; cases hop
  obtain ⟨us, ks, he, ⟨l1, v1⟩, ⟨l3, v3⟩⟩ := afunc_sound (hs.ev fo) hfo
  obtain ⟨l2, v2⟩ := evs_sound hs args
  obtain ⟨l4, v4⟩ := list_rel l1 v1 l2 v2
  obtain ⟨l5, v5⟩ := list_rel l4 v4 l3 v3
  have hex : (execOp a.eval o).run C.P w = (callFunc f (us ++ args.map a.eval ++ ks)).run C.P w := by
    unfold execOp
    rw [hop]
    simp only [resolve, he, Deferred.ofValue, Sem.run_bind, Sem.run_pure, Result.andThen, invoke]
  have hH : ∀ y H', (st.put o.dst y H').H = H' := by intro y H'; unfold ASt.put; split <;> rfl
  have fin : ∀ {v : Value} {w' : World} {I' : Nat → Prop} {ρ' : Places} {y : AV} {H' : AH}, (y, H') ∈ outs → HRel C.G I' w' ρ' H' → Gone st.H.length I w ρ st.H I' w' ρ' H' → VRel I' w' ρ' v y → next (a.put o.dst v) w' := by
    intro v w' I' ρ' y H' hm h2 h3 h4
    have hw := h3.all hs.heap.dom
    exact hnx I' ρ' _ (a.put o.dst v) w' (hn y H' hm) (hs.put hw h2 h4 o.dst) (by rw [hH]; exact hw.gone)
  refine ⟨fun _ _ => trivial, ?_⟩
  rw [Oper.semAt_eq _ _ _ hnd, hex]
  rcases h I w ρ _ hs.heap l5 v5 with ⟨v, w', I', ρ', y, H', hm, h1, h2, h3, h4⟩ | ⟨h1, h2⟩
  · rw [h1]
    exact fin hm h2 h3 h4
  · rw [h1]
    refine ⟨(fun h => by cases h), ?_⟩
    have hc := (callsIn_wide (n := 0)).2 h2
    have hc' : CallsIn (C.fence rr) (0 - 1) C.P f (us ++ args.map a.eval ++ ks) w _ := hc
    refine hc'.mono fun e w' hp => ?_
    obtain ⟨v, rfl, I', ρ', H', y, hm, g1, g2, g3⟩ := hp
    exact fin hm g1 g3 g2

/-- The next step of a range. -/
theorem AOp_next {C : Ctx} {o : Oper} {N : ASt → Prop} {st : ASt} {x : Operand} {str : Bool} {outs : List (AV × AH)} (hop : o.op = .next x str) (h : anext C.P st.H (st.ev C.G x) str = some outs)
    (hn : ∀ y H', (y, H') ∈ outs → N (st.put o.dst y H')) : AOp C o N st := fun B I w ρ a rr hr hs next R hnx => by
  have hnd : ∀ c, o.op ≠ .defer c := by intro c hc; rw [hc] at hop; cases hop
  obtain ⟨u, w', y, H', h1, h2, h3, h4, h5⟩ := anext_sound (P := C.P) (ty := o.type) hs.heap (hs.ev x) h
  have hex : (execOp a.eval o).run C.P w = .ok (.value u) w' := by
    unfold execOp
    rw [hop]
    simp [h2]
  refine ⟨fun _ _ => trivial, ?_⟩
  rw [Oper.semAt_eq _ _ _ hnd, hex]
  have hH : (st.put o.dst y H').H = H' := by unfold ASt.put; split <;> rfl
  exact hnx I ρ _ (a.put o.dst u) w' (hn y H' h1) (hs.put h4 h3 h5 o.dst) (by rw [hH]; exact h4.gone)

end Go.Proofs.Ax
namespace Go.Proofs.Ax
open Go
set_option linter.unusedVariables false

theorem putT_full {T : FT} {n : Nat} (h : Full T n) (dst : Option Tmp) (y : AV) : Full (putT T dst y) n := by
  cases dst with
  | none => exact h
  | some d => exact h.set d y

theorem putT_st {T : FT} {n : Nat} (h : Full T n) (dst : Option Tmp) (y : AV) (H H' : AH) : sOf n (putT T dst y) H' = (sOf n T H).put dst y H' := by
  cases dst with
  | none => rfl
  | some d =>
    simp only [putT, sOf, ASt.put]
    rw [FT.toL_set h]

theorem evT_st {G : Glob} {T : FT} {n : Nat} (h : Full T n) (H : AH) : evT G T = (sOf n T H).ev G := evT_eq h H

theorem asets_length : ∀ (ps : List (Tmp × AV)) (fr : List AV), (asets fr ps).length = fr.length
  | [], fr => rfl
  | (t, x) :: ps, fr => by rw [asets, asets_length ps]; simp

theorem ryield_sound {C : Ctx} {self : Runs} (hs : SelfOk C.P C.G self) {o : Oper} {N : ASt → Prop} {st : ASt} {fo : Operand} {args : Array Operand} {ats : Array TypeId} {id : Nat} {outs : List (AV × AH)}
    (hop : o.op = .call { callee := .value fo, args := args, argTypes := ats }) (hfo : st.ev C.G fo = .yl id) (h : ryield self id (args.toList.map (st.ev C.G)) st.H = some outs) (hn : ∀ r ∈ outs, N (st.put o.dst r.1 r.2)) : AOp C o N st := by
  unfold ryield at h
  split at h
  case h_2 => cases h
  rename_i pe fr ps as bd hid
  split at h
  case isFalse => cases h
  rename_i hlen
  have hal : (asets fr (ps.toList.zip (args.toList.map (st.ev C.G)))).length = fr.length := asets_length _ _
  obtain ⟨T, hT, hfull, hTl⟩ := sets_start (n := fr.length) (args := asets fr (ps.toList.zip (args.toList.map (st.ev C.G)))) (by rw [hal]; exact Nat.le_refl _) (fun T => self (some id) fr.length st.H.length as T st.H)
  rw [hT] at h
  rw [hal, Nat.sub_self, List.replicate_zero, List.append_nil] at hTl
  split at h
  case h_2 => cases h
  rename_i outs1 h1
  split at h
  case h_2 => cases h
  rename_i outs2 h2
  obtain ⟨hf1, hw1⟩ := hs _ _ _ _ _ _ _ h1 hfull
  refine AOp_yield (id := id) hop hfo hid (by simpa using hlen) ?_
  have hst : (⟨asets fr (ps.toList.zip (args.toList.map (st.ev C.G))), st.H⟩ : ASt) = sOf fr.length T st.H := by simp only [sOf, hTl]
  rw [hst]
  refine hw1 st.H.length _ (Nat.le_refl _) fun e he => ?_
  obtain ⟨ys, hy1, hy2⟩ := collect_mem h2 e he
  have hfe := hf1 e he
  obtain ⟨ex, T1, H1⟩ := e
  unfold rbody at hy1
  simp only at hy1 hfe ⊢
  split at hy1
  · rename_i pe' fr' ps' as' bd' hid'
    refine ⟨rfl, pe', fr', ps', as', bd', hid', ?_⟩
    obtain ⟨hf2, hw2⟩ := hs _ _ _ _ _ _ _ hy1 hfe
    refine hw2 st.H.length _ (Nat.le_refl _) fun e2 he2 => ?_
    obtain ⟨zs, hz1, hz2⟩ := collect_mem h e2 (hy2 e2 he2)
    obtain ⟨ex2, T2, H2⟩ := e2
    unfold rround at hz1
    simp only at hz1 ⊢
    split at hz1
    · rename_i jump s2 pe2 fr2 ps2 as2 bd2 hj hid2
      cases hz1
      exact ⟨jump, s2, pe2, fr2, ps2, as2, bd2, hj, hid2, hn _ (hz2 _ (List.mem_singleton.2 rfl))⟩
    · cases hz1
  · cases hy1

theorem rop_sound {C : Ctx} {orc : Orc} {self : Runs} (hE : Enters C.P) (ho : OrcOk C.P C.G orc) (hs : SelfOk C.P C.G self) {o : Oper} {N : ASt → Prop} {n : Nat} {T : FT} {H : AH} {outs : List (AV × AH)} (hT : Full T n)
    (h : rop C.P C.G orc self o.op o.type T H = some outs) (hn : ∀ r ∈ outs, N ((sOf n T H).put o.dst r.1 r.2)) : AOp C o N (sOf n T H) := by
  have hev := evT_st (G := C.G) hT H
  unfold rop at h
  split at h
  · rename_i x str hop
    rw [hev] at h
    exact AOp_next hop h (fun y H' hm => hn _ hm)
  · rename_i fo args ats hop
    rw [hev] at h
    unfold rcallee at h
    split at h
    · rename_i id hid
      rw [fL_eq (fA_eq 8)] at h
      exact ryield_sound hs hop hid h hn
    · unfold rfn at h
      split at h
      · rename_i f fs cs hf
        rw [fL_eq (fA_eq 8)] at h
        cases hor : orc f (fs ++ args.toList.map ((sOf n T H).ev C.G) ++ cs) H with
        | some outs' =>
          have h' := h
          unfold rcall at h'
          rw [hor] at h'
          cases h'
          exact AOp_orc hop hf (ho _ _ _ _ hor) (fun y H' hm => hn _ hm)
        | none =>
          have h' : rcall C.P (fun _ _ _ => none) self f (fs ++ args.toList.map ((sOf n T H).ev C.G) ++ cs) H = some outs := by
            unfold rcall at h ⊢
            rw [hor] at h
            exact h
          obtain ⟨⟨fn, c, hf1, hb⟩, hc⟩ := rcall_sound hs h'
          exact AOp_call hop hf hE hf1 hb hc (fun y H' hm => hn _ hm)
      · cases h
  · rename_i hnx hnc
    split at h
    · rename_i r hr
      cases h
      have hr' : astepE C.P ((sOf n T H).ev C.G) (sOf n T H).H o.op o.type = some r := by rw [← hev]; exact hr
      rw [astepE_eq] at hr'
      exact AOp_step (y := r.1) (H' := r.2) hr' (hn _ (List.mem_singleton.2 rfl))
    · cases h

theorem aguard_sound {n : Nat} {ops : List Oper} {T : FT} {H : AH} {o : Oper} {t : Bool} (hT : Full T n) (h : aguard n ops T o.guard = some t) :
    (o.guard = none ∧ t = true) ∨ ∃ j b d x, o.guard = some (j, b) ∧ (ops[j]?).bind (·.dst) = some d ∧ (sOf n T H).fr[d]? = some x ∧ wantedV x b = some t := by
  unfold aguard at h
  split at h
  · rename_i hg
    cases h
    exact .inl ⟨hg, rfl⟩
  · rename_i j b hg
    split at h
    · rename_i d hd
      split at h
      · rename_i hlt
        exact .inr ⟨j, b, d, T.get d, hg, hd, by simp only [sOf]; rw [FT.toL_get, if_pos hlt], h⟩
      · cases h
    · cases h

theorem quiet_same {P : Program} {G : Glob} {st : ASt} {op : Op} {ty : TypeId} {r : AV × AH} (hq : quietK op = true) (h : astep P G st op ty = some r) : r.2 = st.H := by
  cases op <;> first
    | (cases hq; done)
    | (simp only [astep] at h; first
        | (cases h; rfl)
        | (obtain ⟨u, h1, h2⟩ := map_some h; rw [← h2])
        | ((repeat' split at h) <;> first | (cases h; rfl) | (obtain ⟨u, h1, h2⟩ := map_some h; rw [← h2]) | (cases h; done)))
    | skip
  case call c =>
    obtain ⟨callee, args, ats⟩ := c
    cases callee <;> try (cases hq; done)
    rename_i b
    cases b <;> first
      | (cases hq; done)
      | (simp only [astep] at h; unfold abuiltin at h; split at h <;> first
        | contradiction
        | (obtain ⟨u, h1, h2⟩ := map_some h; rw [← h2])
        | (split at h <;> first | (obtain ⟨u, h1, h2⟩ := map_some h; rw [← h2]) | (cases h; done))
        | (cases h; done))

theorem rops_sound {C : Ctx} {orc : Orc} {self : Runs} (hE : Enters C.P) (ho : OrcOk C.P C.G orc) (hs : SelfOk C.P C.G self) {ops : Array Oper} {n : Nat} {K : Exit → ASt → Prop} :
    ∀ (l : List Oper) (T : FT) (H : AH) (outs : List (Exit × FT × AH)), rops C.P C.G orc self n ops.toList l T H = some outs → Full T n →
      (∀ e ∈ outs, Full e.2.1 n) ∧ ((∀ e ∈ outs, K e.1 (sOf n e.2.1 e.2.2)) → AOps C ops l K (sOf n T H))
  | [], T, H, outs, h, hT => by
    simp only [rops, Option.some.injEq] at h
    subst h
    exact ⟨fun e he => by rw [List.mem_singleton.1 he]; exact hT, fun hk => AOps_nil (hk _ (List.mem_singleton.2 rfl))⟩
  | o :: l, T, H, outs, h, hT => by
    have ih := rops_sound hE ho hs (ops := ops) (n := n) (K := K) l
    unfold rops at h
    have key : ∀ (N : Prop), (∀ t, aguard n ops.toList T o.guard = some t → (t = true → AOp C o (AOps C ops l K) (sOf n T H)) → (t = false → AOps C ops l K ((sOf n T H).put o.dst (.sc undef) H)) → AOps C ops (o :: l) K (sOf n T H)) := by
      intro _ t ht h1 h2
      rcases aguard_sound (H := H) hT ht with ⟨hg, rfl⟩ | ⟨j, b, d, x, hg, hd, hv, hx⟩
      · exact AOps_cons hg (h1 rfl)
      · exact AOps_guard hg (by rw [Array.getElem?_toList] at hd; exact hd) hv hx h1 h2
    split at h
    · rename_i hgd
      split at h
      · rename_i hq
        split at h
        · rename_i r hr
          rw [fA_eq, putK_eq] at h
          have hr' : astep C.P C.G (sOf n T H) o.op o.type = some r := by rw [← astepE_eq, ← evT_st (G := C.G) hT H]; exact hr
          have hrH := quiet_same hq hr'
          obtain ⟨g1, g2⟩ := ih _ _ _ h (putT_full hT o.dst r.1)
          refine ⟨g1, fun hk => key True true hgd (fun _ => AOp_step (y := r.1) (H' := r.2) hr' ?_) (fun h => by cases h)⟩
          rw [hrH]
          have := g2 hk
          rwa [putT_st hT o.dst r.1 H H] at this
        · cases h
      · split at h
        · rename_i outs1 h1
          have hall : ∀ r ∈ outs1, ∃ ys, rops C.P C.G orc self n ops.toList l (putT T o.dst r.1) r.2 = some ys ∧ ∀ y ∈ ys, y ∈ outs := by
            intro r hr
            obtain ⟨ys, hy1, hy2⟩ := collect_mem h r hr
            rw [fA_eq, putK_eq, fHo_eq] at hy1
            exact ⟨ys, hy1, hy2⟩
          refine ⟨?_, fun hk => key True true hgd (fun _ => rop_sound hE ho hs hT h1 fun r hr => ?_) (fun h => by cases h)⟩
          · clear key
            have hmem : ∀ {xs : List (AV × AH)} {zs : List (Exit × FT × AH)}, collect (fun r => fA 8 r.1 fun y => putK T o.dst y fun T' => fHo (target (evT C.G T) o.op) H r.2 fun H => rops C.P C.G orc self n ops.toList l T' H) xs = some zs → ∀ e ∈ zs, Full e.2.1 n := by
              intro xs
              induction xs with
              | nil => intro zs hz e he; simp [collect] at hz; subst hz; cases he
              | cons x xs ihx =>
                intro zs hz e he
                unfold collect at hz
                split at hz
                · rename_i ys hys
                  split at hz
                  · rename_i zs' hzs
                    cases hz
                    rw [fA_eq, putK_eq, fHo_eq] at hys
                    rcases List.mem_append.1 he with he | he
                    · exact (ih _ _ _ hys (putT_full hT o.dst x.1)).1 e he
                    · exact ihx hzs e he
                  · cases hz
                · cases hz
            exact hmem h
          · obtain ⟨ys, hy1, hy2⟩ := hall r hr
            have := (ih _ _ _ hy1 (putT_full hT o.dst r.1)).2 (fun e he => hk e (hy2 e he))
            rwa [putT_st hT o.dst r.1 H r.2] at this
        · cases h
    · rename_i hgd
      rw [putK_eq] at h
      obtain ⟨g1, g2⟩ := ih _ _ _ h (putT_full hT o.dst _)
      refine ⟨g1, fun hk => key True false hgd (fun h => by cases h) (fun _ => ?_)⟩
      have := g2 hk
      rwa [putT_st hT o.dst _ H H] at this
    · cases h

end Go.Proofs.Ax
namespace Go.Proofs.Ax
open Go
set_option linter.unusedVariables false

abbrev Rec := DK × AV × AH

/-- What the records say was yielded. -/
def yOf (recs : List Rec) (i : Nat) : AV :=
  match recs[i]? with
  | some r => r.2.1
  | none => .any
def hAt (H : AH) : List Rec → Nat → AH
  | r :: rs, i + 1 => hAt r.2.2 rs i
  | _, _ => H
def cntE : List Rec → Nat → Nat
  | r :: rs, i + 1 => (if r.1 = .eff then 1 else 0) + cntE rs i
  | _, _ => 0

theorem effs_get : ∀ (recs : List Rec) (s k j : Nat), (effs recs s)[k]? = some j → s ≤ j ∧ (∃ r, recs[j - s]? = some r ∧ r.1 = .eff) ∧ k = cntE recs (j - s)
  | [], s, k, j, h => by simp [effs] at h
  | r :: rs, s, k, j, h => by
    unfold effs at h
    split at h
    · rename_i he
      cases k with
      | zero =>
        simp at h
        subst h
        exact ⟨Nat.le_refl _, ⟨r, by simp, he⟩, by rw [Nat.sub_self]; rfl⟩
      | succ k =>
        obtain ⟨h1, ⟨r', h2, h3⟩, h4⟩ := effs_get rs (s + 1) k j (by simpa using h)
        refine ⟨by omega, ⟨r', ?_, h3⟩, ?_⟩
        · rw [show j - s = (j - (s + 1)) + 1 by omega]; simpa using h2
        · rw [show j - s = (j - (s + 1)) + 1 by omega, cntE, if_pos he, ← h4, Nat.add_comm]
    · rename_i he
      obtain ⟨h1, ⟨r', h2, h3⟩, h4⟩ := effs_get rs (s + 1) k j h
      refine ⟨by omega, ⟨r', ?_, h3⟩, ?_⟩
      · rw [show j - s = (j - (s + 1)) + 1 by omega]; simpa using h2
      · rw [show j - s = (j - (s + 1)) + 1 by omega, cntE, if_neg he, ← h4, Nat.zero_add]

theorem effs_of : ∀ (recs : List Rec) (s i : Nat) (r : Rec), recs[i]? = some r → r.1 = .eff → (effs recs s)[cntE recs i]? = some (s + i)
  | [], s, i, r, h, _ => by simp at h
  | r0 :: rs, s, 0, r, h, he => by
    simp at h; subst h
    simp [effs, he, cntE]
  | r0 :: rs, s, i + 1, r, h, he => by
    have ih := effs_of rs (s + 1) i r (by simpa using h) he
    rw [show s + (i + 1) = s + 1 + i by omega]
    unfold effs cntE
    split
    · rw [Nat.add_comm 1, List.getElem?_cons_succ]; exact ih
    · rw [Nat.zero_add]; exact ih

theorem effs_nodup : ∀ (recs : List Rec) (s : Nat), (effs recs s).Nodup
  | [], s => List.nodup_nil
  | r :: rs, s => by
    unfold effs
    split
    · refine List.nodup_cons.2 ⟨fun hm => ?_, effs_nodup rs (s + 1)⟩
      obtain ⟨k, hk⟩ := List.getElem?_of_mem hm
      have := (effs_get _ _ _ _ hk).1
      omega
    · exact effs_nodup rs (s + 1)

theorem cntE_mono : ∀ (recs : List Rec) (i j : Nat), i ≤ j → cntE recs i ≤ cntE recs j
  | [], i, j, h => by cases i <;> cases j <;> simp [cntE]
  | r :: rs, 0, j, h => by simp [cntE]
  | r :: rs, i + 1, 0, h => by omega
  | r :: rs, i + 1, j + 1, h => by
    have := cntE_mono rs i j (by omega)
    unfold cntE
    omega

theorem cntE_succ : ∀ (recs : List Rec) (i : Nat) (r : Rec), recs[i]? = some r → cntE recs (i + 1) = cntE recs i + (if r.1 = .eff then 1 else 0)
  | [], i, r, h => by simp at h
  | r0 :: rs, 0, r, h => by simp at h; subst h; simp [cntE]
  | r0 :: rs, i + 1, r, h => by
    have := cntE_succ rs i r (by simpa using h)
    rw [cntE, this, cntE]; omega

theorem cntE_all : ∀ (recs : List Rec), cntE recs recs.length = (effs recs 0).length := by
  have : ∀ (recs : List Rec) (s : Nat), cntE recs recs.length = (effs recs s).length := by
    intro recs
    induction recs with
    | nil => intro s; rfl
    | cons r rs ih =>
      intro s
      simp only [List.length_cons, cntE, effs]
      split <;> simp [ih (s + 1)]; omega
  exact fun recs => this recs 0

theorem hAt_succ : ∀ (recs : List Rec) (H : AH) (i : Nat) (r : Rec), recs[i]? = some r → hAt H recs (i + 1) = r.2.2
  | [], H, i, r, h => by simp at h
  | r0 :: rs, H, 0, r, h => by simp at h; subst h; simp [hAt]
  | r0 :: rs, H, i + 1, r, h => by
    have := hAt_succ rs r0.2.2 i r (by simpa using h)
    simpa [hAt] using this

/-- What was found out of one operation. -/
structure Fact (P : Program) (G : Glob) (orc : Orc) (sf : Runs) (n : Nat) (ops : List Oper) (o : Oper) (T : FT) (H : AH) (r : Rec) : Prop where
  skip : r.1 = .skip → aguard n ops T o.guard = some false ∧ r.2 = (.sc undef, H)
  quiet : r.1 = .quiet → aguard n ops T o.guard = some true ∧ quietK o.op = true ∧ r.2.2 = H ∧ ∃ H', astepE P (evT G T) H o.op o.type = some (r.2.1, H')
  eff : r.1 = .eff → aguard n ops T o.guard = some true ∧ rop P G orc sf o.op o.type T H = some [(r.2.1, r.2.2)]

theorem dr_facts {P : Program} {G : Glob} {orc : Orc} {self : Runs} {n : Nat} {ops : List Oper} : ∀ (l : List Oper) (T : FT) (H : AH) (recs : List Rec), dr P G orc self n ops l T H = some recs → recs.length = l.length ∧
    ∀ (i : Nat) (o : Oper) (r : Rec), l[i]? = some o → recs[i]? = some r → Fact P G orc self n ops o (frAt T l recs i) (hAt H recs i) r
  | [], T, H, recs, h => by
    simp [dr] at h; subst h
    exact ⟨rfl, fun i o r ho => by simp at ho⟩
  | o :: l, T, H, recs, h => by
    have ih := dr_facts (P := P) (G := G) (orc := orc) (self := self) (n := n) (ops := ops) l
    have fin : ∀ (r : Rec) (rs : List Rec), dr P G orc self n ops l (putT T o.dst r.2.1) r.2.2 = some rs → recs = r :: rs → Fact P G orc self n ops o T H r → recs.length = (o :: l).length ∧
        ∀ (i : Nat) (o' : Oper) (r' : Rec), (o :: l)[i]? = some o' → recs[i]? = some r' → Fact P G orc self n ops o' (frAt T (o :: l) recs i) (hAt H recs i) r' := by
      intro r rs hrs hrec hfact
      subst hrec
      obtain ⟨h1, h2⟩ := ih _ _ _ hrs
      refine ⟨by simp [h1], fun i o' r' ho hr => ?_⟩
      cases i with
      | zero => simp at ho hr; subst ho; subst hr; exact hfact
      | succ i => exact h2 i o' r' (by simpa using ho) (by simpa using hr)
    unfold dr at h
    split at h
    · rename_i hg
      split at h
      · rename_i hq
        split at h
        · rename_i r hr
          rw [fA_eq, putK_eq] at h
          obtain ⟨rs, h1, h2⟩ := map_some h
          exact fin (.quiet, r.1, H) rs h1 h2.symm ⟨fun h => (by cases h), fun _ => ⟨hg, hq, rfl, r.2, hr⟩, fun h => (by cases h)⟩
        · cases h
      · split at h
        · rename_i r hr
          rw [fA_eq, putK_eq, fHo_eq] at h
          obtain ⟨rs, h1, h2⟩ := map_some h
          exact fin (.eff, r.1, r.2) rs h1 h2.symm ⟨fun h => (by cases h), fun h => (by cases h), fun _ => ⟨hg, hr⟩⟩
        · cases h
    · rename_i hg
      rw [putK_eq] at h
      obtain ⟨rs, h1, h2⟩ := map_some h
      exact fin (.skip, .sc undef, H) rs h1 h2.symm ⟨fun _ => ⟨hg, rfl⟩, fun h => (by cases h), fun h => (by cases h)⟩
    · cases h

/-- The heap between two operations, by the number of those that have turned it. -/
theorem HsOf_cnt {recs : List Rec} {H : AH} (hk : ∀ i r, recs[i]? = some r → r.1 ≠ .eff → r.2.2 = hAt H recs i) : ∀ i, i ≤ recs.length → HsOf H recs (effs recs 0) (cntE recs i) = hAt H recs i
  | 0, _ => by cases recs <;> rfl
  | i + 1, hi => by
    have ih := HsOf_cnt hk i (by omega)
    have hr : recs[i]? = some recs[i] := List.getElem?_eq_getElem (by omega)
    rw [cntE_succ recs i _ hr, hAt_succ recs H i _ hr]
    by_cases he : recs[i].1 = .eff
    · rw [if_pos he]
      have := effs_of recs 0 i _ hr he
      simp only [HsOf, List.getD_eq_getElem?_getD, this, Option.getD_some, Nat.zero_add, hr]
    · rw [if_neg he, Nat.add_zero, ih, hk i _ hr he]

/-- The trees between the operations. -/
theorem frAt_spec {n : Nat} {ops : Array Oper} {recs : List Rec} (hl : recs.length = ops.size) {T : FT} (hT : Full T n) : ∀ i, i ≤ ops.size → Full (frAt T ops.toList recs i) n ∧ (frAt T ops.toList recs i).toL n = frT ops (yOf recs) (T.toL n) i := by
  have step : ∀ (l : List Oper) (rs : List Rec) (T : FT) (i : Nat), i < l.length → i < rs.length → frAt T l rs (i + 1) = (match l[i]?, rs[i]? with | some o, some r => putT (frAt T l rs i) o.dst r.2.1 | _, _ => frAt T l rs i) := by
    intro l
    induction l with
    | nil => intro rs T i h; simp at h
    | cons o l ih =>
      intro rs T i h1 h2
      cases rs with
      | nil => simp at h2
      | cons r rs =>
        cases i with
        | zero => simp only [frAt, List.getElem?_cons_zero]
        | succ i =>
          have := ih rs (putT T o.dst r.2.1) i (by simpa using h1) (by simpa using h2)
          simpa [frAt] using this
  intro i
  induction i with
  | zero =>
    intro _
    have : frAt T ops.toList recs 0 = T := by cases ops.toList <;> cases recs <;> rfl
    rw [this]
    exact ⟨hT, rfl⟩
  | succ i ih =>
    intro hi
    obtain ⟨h1, h2⟩ := ih (by omega)
    have ho : ops.toList[i]? = some ops[i] := by rw [Array.getElem?_toList]; exact Array.getElem?_eq_getElem (by omega)
    have hr : recs[i]? = some recs[i] := List.getElem?_eq_getElem (by omega)
    rw [step ops.toList recs T i (by simp; omega) (by omega), ho, hr]
    simp only
    have ho' : ops[i]? = some ops[i] := Array.getElem?_eq_getElem (by omega)
    refine ⟨putT_full h1 _ _, ?_⟩
    simp only [frT, ho']
    cases hd : ops[i].dst with
    | none => exact h2
    | some d =>
      simp only [putT]
      rw [FT.toL_set h1, h2]
      simp only [yOf, hr]

theorem hLast_eq : ∀ (recs : List Rec) (H : AH), hLast H recs = hAt H recs recs.length
  | [], H => rfl
  | r :: rs, H => by simp only [hLast, hAt, List.length_cons]; exact hLast_eq rs r.2.2

theorem frLast_eq {β : Type} : ∀ (l : List Oper) (recs : List Rec) (T : FT) (k : FT → β), recs.length = l.length → frLast T l recs k = k (frAt T l recs l.length)
  | [], [], T, k, _ => rfl
  | [], _ :: _, T, k, h => by simp at h
  | _ :: _, [], T, k, h => by simp at h
  | o :: l, r :: rs, T, k, h => by
    simp only [frLast, putK_eq]
    rw [frLast_eq l rs _ k (by simpa using h)]
    rfl

theorem lead_cnt : ∀ (recs : List Rec) (i : Nat), lead (fun j => decide (j < i)) (effs recs 0) = cntE recs i := by
  have : ∀ (recs : List Rec) (s i : Nat), lead (fun j => decide (j < s + i)) (effs recs s) = cntE recs i := by
    intro recs
    induction recs with
    | nil => intro s i; cases i <;> rfl
    | cons r rs ih =>
      intro s i
      cases i with
      | zero =>
        have hz : ∀ (l : List Nat), (∀ x ∈ l, s ≤ x) → lead (fun j => decide (j < s + 0)) l = 0 := by
          intro l hl
          cases l with
          | nil => rfl
          | cons x xs =>
            have := hl x (List.mem_cons_self ..)
            simp [lead]; omega
        rw [hz]
        · rfl
        · intro x hx
          obtain ⟨k, hk⟩ := List.getElem?_of_mem hx
          exact (effs_get _ _ _ _ hk).1
      | succ i =>
        have := ih (s + 1) i
        rw [show s + 1 + i = s + (i + 1) by omega] at this
        unfold effs cntE
        split
        · simp only [lead]
          rw [if_pos (by simp), this, Nat.add_comm]
        · rw [this, Nat.zero_add]
  intro recs i
  have := this recs 0 i
  simpa using this

theorem lead_spec (p : Nat → Bool) : ∀ (l : List Nat), lead p l ≤ l.length ∧ ∀ (k j : Nat), k < lead p l → l[k]? = some j → p j = true
  | [] => ⟨Nat.le_refl _, fun k j h => by simp [lead] at h⟩
  | x :: xs => by
    obtain ⟨h1, h2⟩ := lead_spec p xs
    unfold lead
    split
    · rename_i hp
      refine ⟨by simpa using h1, fun k j hk hj => ?_⟩
      cases k with
      | zero => simp at hj; subst hj; exact hp
      | succ k => exact h2 k j (by omega) (by simpa using hj)
    · exact ⟨by simp, fun k j hk => by omega⟩

theorem tail_spec (p : Nat → Bool) : ∀ (l : List Nat), tailAll p l = true → ∀ (k j : Nat), lead (fun j => !p j) l ≤ k → l[k]? = some j → p j = true
  | [], _, k, j, _, hj => by simp at hj
  | x :: xs, h, k, j, hk, hj => by
    unfold tailAll at h
    unfold lead at hk
    split at h
    · rename_i hp
      cases k with
      | zero => simp at hj; subst hj; exact hp
      | succ k => exact List.all_eq_true.1 h j (List.mem_of_getElem? (by simpa using hj))
    · rename_i hp
      rw [if_pos (by simpa using hp)] at hk
      cases k with
      | zero => omega
      | succ k => exact tail_spec p xs h k j (by omega) (by simpa using hj)

/-- The bits of what lies before. -/
theorem fold_bits {acc : List Nat} : ∀ (es : List Edge) (s j : Nat), (es.foldl (fun s e => if Region.binds .any e then s ||| (2 ^ e.on ||| acc.getD e.on 0) else s) s).testBit j = true → s.testBit j = true ∨ ∃ e ∈ es, Region.binds .any e = true ∧ (e.on = j ∨ (acc.getD e.on 0).testBit j = true)
  | [], s, j, h => .inl h
  | e :: es, s, j, h => by
    rw [List.foldl_cons] at h
    rcases fold_bits es _ j h with h | ⟨e', he, hb⟩
    · split at h
      · rename_i hb
        rw [Nat.testBit_or, Nat.testBit_or, Bool.or_eq_true, Bool.or_eq_true] at h
        rcases h with h | h | h
        · exact .inl h
        · refine .inr ⟨e, List.mem_cons_self .., hb, .inl ?_⟩
          rw [Nat.testBit_two_pow] at h
          simpa using h
        · exact .inr ⟨e, List.mem_cons_self .., hb, .inr h⟩
      · exact .inl h
    · exact .inr ⟨e', List.mem_cons_of_mem _ he, hb⟩

theorem ancs_pre : ∀ (l : List Oper) (acc : List Nat), (ancs l acc).take acc.length = acc ∧ (ancs l acc).length = acc.length + l.length
  | [], acc => by simp [ancs]
  | o :: l, acc => by
    obtain ⟨h1, h2⟩ := ancs_pre l (acc ++ [o.after.toList.foldl (fun s e => if Region.binds .any e then s ||| (2 ^ e.on ||| acc.getD e.on 0) else s) 0])
    unfold ancs
    refine ⟨?_, by rw [h2]; simp; omega⟩
    have := congrArg (List.take acc.length) h1
    rw [List.take_take] at this
    simpa using this

theorem ancs_get : ∀ (l : List Oper) (acc : List Nat) (i : Nat) (o : Oper), l[i]? = some o → (ancs l acc)[acc.length + i]? = some (o.after.toList.foldl (fun s e => if Region.binds .any e then s ||| (2 ^ e.on ||| ((ancs l acc).take (acc.length + i)).getD e.on 0) else s) 0)
  | [], acc, i, o, h => by simp at h
  | o' :: l, acc, 0, o, h => by
    simp at h; subst h
    obtain ⟨h1, h2⟩ := ancs_pre l (acc ++ [o'.after.toList.foldl (fun s e => if Region.binds .any e then s ||| (2 ^ e.on ||| acc.getD e.on 0) else s) 0])
    obtain ⟨h3, _⟩ := ancs_pre (o' :: l) acc
    rw [Nat.add_zero, h3]
    unfold ancs
    have : (ancs l (acc ++ [o'.after.toList.foldl (fun s e => if Region.binds .any e then s ||| (2 ^ e.on ||| acc.getD e.on 0) else s) 0]))[acc.length]? = (List.take (acc ++ [o'.after.toList.foldl (fun s e => if Region.binds .any e then s ||| (2 ^ e.on ||| acc.getD e.on 0) else s) 0]).length (ancs l (acc ++ [o'.after.toList.foldl (fun s e => if Region.binds .any e then s ||| (2 ^ e.on ||| acc.getD e.on 0) else s) 0])))[acc.length]? := by
      rw [List.getElem?_take, if_pos (by simp)]
    rw [this, h1]
    simp
  | o' :: l, acc, i + 1, o, h => by
    have := ancs_get l (acc ++ [o'.after.toList.foldl (fun s e => if Region.binds .any e then s ||| (2 ^ e.on ||| acc.getD e.on 0) else s) 0]) i o (by simpa using h)
    unfold ancs
    simp only [List.length_append, List.length_cons, List.length_nil, Nat.zero_add] at this
    rw [show acc.length + (i + 1) = acc.length + 1 + i by omega]
    exact this

theorem ancs_closed {ops : List Oper} {i : Nat} {o : Oper} {j : Nat} (ho : ops[i]? = some o) (h : bits (ancs ops []) i j = true) : ∃ e ∈ o.after, Region.binds .any e = true ∧ (e.on = j ∨ bits (ancs ops []) e.on j = true) := by
  have hg := ancs_get ops [] i o ho
  simp only [List.length_nil, Nat.zero_add] at hg
  unfold bits at h
  rw [List.getD_eq_getElem?_getD, hg, Option.getD_some] at h
  rcases fold_bits _ _ _ h with h | ⟨e, he, hb, hor⟩
  · simp at h
  · refine ⟨e, by simpa using he, hb, hor.imp id fun h => ?_⟩
    unfold bits
    rw [List.getD_eq_getElem?_getD, List.getElem?_take] at h
    split at h
    · rw [List.getD_eq_getElem?_getD]; exact h
    · simp at h

end Go.Proofs.Ax
namespace Go.Proofs.Ax
open Go
set_option linter.unusedVariables false

theorem chkS_get {nfr : Nat} {ops : List Oper} {anc : Nat → Nat → Bool} : ∀ (l : List Oper) (s i : Nat) (o : Oper), chkS nfr ops anc l s = true → l[i]? = some o →
    (∀ e ∈ o.after, Region.binds .any e = true → e.on < s + i) ∧
    (∀ t, t ∈ tmpsOf o.op → ∀ j, wIdx t ops 0 = some j → (j < s + i → anc (s + i) j = true) ∧ (s + i < j → anc j (s + i) = true)) ∧
    (∀ d, o.dst = some d → wIdx d ops 0 = some (s + i)) ∧
    (∀ j b, o.guard = some (j, b) → j < s + i ∧ anc (s + i) j = true ∧ ∃ o' d, ops[j]? = some o' ∧ o'.dst = some d ∧ d < nfr)
  | [], s, i, o, _, ho => by simp at ho
  | o' :: l, s, 0, o, h, ho => by
    simp at ho; subst ho
    rw [Nat.add_zero]
    simp only [chkS, Bool.and_eq_true, List.all_eq_true] at h
    obtain ⟨⟨⟨⟨h1, h2⟩, h3⟩, h4⟩, _⟩ := h
    refine ⟨fun e he hb => ?_, fun t ht j hj => ?_, fun d hd => ?_, fun j b hg => ?_⟩
    · have := h1 e (by simpa using he)
      simpa [hb] using this
    · have := h2 t ht
      rw [hj] at this
      simp only [Bool.and_eq_true, Bool.or_eq_true, Bool.not_eq_true', decide_eq_false_iff_not] at this
      exact ⟨fun hlt => this.1.resolve_left (fun h => h hlt), fun hlt => this.2.resolve_left (fun h => h hlt)⟩
    · rw [hd] at h3
      simpa using h3
    · rw [hg] at h4
      simp only [Bool.and_eq_true, decide_eq_true_eq] at h4
      obtain ⟨⟨q1, q2⟩, q3⟩ := h4
      refine ⟨q1, q2, ?_⟩
      split at q3
      · rename_i o1 ho1
        split at q3
        · rename_i d hd
          exact ⟨o1, d, ho1, hd, by simpa using q3⟩
        · cases q3
      · cases q3
  | o' :: l, s, i + 1, o, h, ho => by
    simp only [chkS, Bool.and_eq_true] at h
    have := chkS_get l (s + 1) i o h.2 (by simpa using ho)
    rwa [show s + 1 + i = s + (i + 1) by omega] at this

theorem chkD_get {P : Program} {G : Glob} {T0 : FT} {ops : List Oper} {recs : List Rec} {anc : Nat → Nat → Bool} {E : List Nat} {Hs : Nat → AH} : ∀ (l : List Oper) (s i : Nat) (o : Oper), chkD P G T0 ops recs anc E Hs l s = true → l[i]? = some o → chk1 P G T0 ops recs anc E Hs (s + i) o = true
  | [], s, i, o, _, ho => by simp at ho
  | o' :: l, s, 0, o, h, ho => by
    simp at ho; subst ho
    simp only [chkD, Bool.and_eq_true] at h
    exact h.1
  | o' :: l, s, i + 1, o, h, ho => by
    simp only [chkD, Bool.and_eq_true] at h
    have := chkD_get l (s + 1) i o h.2 (by simpa using ho)
    rwa [show s + 1 + i = s + (i + 1) by omega] at this

theorem mem_tmpsOf {o : Op} {t : Tmp} (h : Operand.tmp t ∈ o.operands) : t ∈ tmpsOf o := by
  unfold tmpsOf
  exact List.mem_filterMap.2 ⟨.tmp t, by simpa using h, rfl⟩

/-- What an operation comes to hangs on its operands alone. -/
theorem astepE_congr {P : Program} {ev ev' : Operand → AV} {H : AH} {op : Op} {ty : TypeId} (h : ∀ x ∈ op.operands, ev x = ev' x) : astepE P ev H op ty = astepE P ev' H op ty := by
  have harr : ∀ (xs : Array Operand), (∀ x ∈ xs, ev x = ev' x) → xs.toList.map ev = xs.toList.map ev' := fun xs hx => List.map_congr_left fun x hm => hx x (by simpa using hm)
  have hopt : ∀ (o : Option Operand), (∀ x, o = some x → ev x = ev' x) → o.map ev = o.map ev' := fun o ho => by
    cases o with
    | none => rfl
    | some x => simp [ho x rfl]
  have hpar : ∀ (ps : Array (Nat × Operand)), (∀ x ∈ (ps.toList.map (·.2)).toArray, ev x = ev' x) → ps.toList.map (hParts ev) = ps.toList.map (hParts ev') := fun ps hx => List.map_congr_left fun p hm => by
    simp only [hParts]
    rw [hx p.2 (by simp; exact ⟨p.1, by simpa using hm⟩)]
  cases op <;> simp only [astepE] <;> try rfl
  case move x => rw [h x (by simp [Op.operands])]
  case assign x => rw [h x (by simp [Op.operands])]
  case pick c a b => rw [h c (by simp [Op.operands]), h a (by simp [Op.operands]), h b (by simp [Op.operands])]
  case box e x => rw [h x (by simp [Op.operands])]
  case build t ps => rw [hpar ps (fun x hx => h x (by simpa [Op.operands] using hx))]
  case buildSlice t n ps => rw [hpar ps (fun x hx => h x (by simpa [Op.operands] using hx))]
  case load t a => rw [h a (by simp [Op.operands])]
  case store t a x => rw [h a (by simp [Op.operands]), h x (by simp [Op.operands])]
  case nilCheck x => rw [h x (by simp [Op.operands])]
  case binOp op t x y u => rw [h x (by simp [Op.operands]), h y (by simp [Op.operands])]
  case unOp op t x => rw [h x (by simp [Op.operands])]
  case convert s d x => rw [h x (by simp [Op.operands])]
  case makeInterface t x => rw [h x (by simp [Op.operands])]
  case makeFunc fn fs cs => rw [harr fs (fun x hx => h x (by simp [Op.operands, hx])), harr cs (fun x hx => h x (by simp [Op.operands, hx]))]
  case slice t x lo hi mx => rw [h x (by simp [Op.operands]), hopt lo (fun y hy => h y (by simp [Op.operands, hy])), hopt hi (fun y hy => h y (by simp [Op.operands, hy])), hopt mx (fun y hy => h y (by simp [Op.operands, hy]))]
  case fieldAddr s x f => rw [h x (by simp [Op.operands])]
  case field s x f => rw [h x (by simp [Op.operands])]
  case indexAddr t x i => rw [h x (by simp [Op.operands]), h i (by simp [Op.operands])]
  case index t x i => rw [h x (by simp [Op.operands]), h i (by simp [Op.operands])]
  case makeMap t r => rw [hopt r (fun y hy => h y (by simp [Op.operands, hy]))]
  case makeSlice t l c => rw [h l (by simp [Op.operands]), h c (by simp [Op.operands])]
  case lookup t x i ok => rw [h x (by simp [Op.operands]), h i (by simp [Op.operands])]
  case mapUpdate t m k x => rw [h m (by simp [Op.operands]), h k (by simp [Op.operands]), h x (by simp [Op.operands])]
  case insert t m k x => rw [h m (by simp [Op.operands]), h k (by simp [Op.operands]), h x (by simp [Op.operands])]
  case mapEntry t m k => rw [h m (by simp [Op.operands]), h k (by simp [Op.operands])]
  case entryStore t m s x => rw [h m (by simp [Op.operands]), h s (by simp [Op.operands]), h x (by simp [Op.operands])]
  case range t x => rw [h x (by simp [Op.operands])]
  case entry x => rw [h x (by simp [Op.operands])]
  case extract x i => rw [h x (by simp [Op.operands])]
  case call c =>
    obtain ⟨callee, args, ats⟩ := c
    cases callee <;> simp only [hCall]
    rw [harr args (fun x hx => h x (by simp [Op.operands, Call.operands, hx]))]

/-- An operation that reads nothing of the heap. -/
theorem astepE_blind {P : Program} {ev : Operand → AV} {H H' : AH} {op : Op} {ty : TypeId} {r : AV × AH} (hb : blindK op = true) (h : astepE P ev H op ty = some r) : astepE P ev H' op ty = some (r.1, H') := by
  have hw : ∀ {x : Option AV}, hWith x H = some r → hWith x H' = some (r.1, H') := by
    intro x hx
    cases x with
    | none => cases hx
    | some y => cases hx; rfl
  cases op <;> first | (cases hb; done) | skip
  all_goals simp only [astepE] at h ⊢
  all_goals first
    | exact hw h
    | (cases h; rfl)
    | skip
  case pick c a b =>
    generalize ev c = x at h ⊢
    cases x <;> try (cases h; done)
    rename_i v
    cases v <;> try (cases h; done)
    rename_i t
    cases t <;> (cases h; rfl)
  case unOp op t x =>
    generalize ev x = y at h ⊢
    cases y <;> try (cases h; done)
    rename_i v
    simp only [hUn] at h ⊢
    split at h
    · cases h; rfl
    · cases h
  case makeInterface t x =>
    simp only [hIface] at h ⊢
    split at h
    · cases h
    · cases h
    · cases h; rfl
  case extract x i =>
    generalize ev x = y at h ⊢
    cases y <;> try (cases h; done)
    exact hw h
  case call c =>
    obtain ⟨callee, args, ats⟩ := c
    cases callee <;> first | (cases hb; done) | skip
    rename_i b
    simp only [hCall] at h ⊢
    cases b <;> first | (cases hb; done) | skip
    all_goals
      unfold abuiltin at h ⊢
      split at h <;> first
        | contradiction
        | (split at h
           · rename_i vs hvs
             obtain ⟨u, h1, h2⟩ := map_some h
             simp only [h1, ← h2, Option.map_some]
           · cases h)
        | (cases h; done)

end Go.Proofs.Ax
namespace Go.Proofs.Ax
open Go
set_option linter.unusedVariables false

theorem rop_congr {P : Program} {G : Glob} {orc : Orc} {self : Runs} {op : Op} {ty : TypeId} {T T' : FT} {H : AH} (h : ∀ x ∈ op.operands, evT G T x = evT G T' x) : rop P G orc self op ty T H = rop P G orc self op ty T' H := by
  unfold rop
  split
  · rw [h _ (by simp [Op.operands])]
  · rename_i fo args ats
    rw [h fo (by simp [Op.operands, Call.operands]), List.map_congr_left (fun x hx => h x (by simp [Op.operands, Call.operands]; right; simpa using hx))]
  · rw [astepE_congr h]

theorem does_rop {C : Ctx} {orc : Orc} {self : Runs} (hE : Enters C.P) (ho : OrcOk C.P C.G orc) (hs : SelfOk C.P C.G self) {o : Oper} {n : Nat} {T : FT} {H : AH} {r : AV × AH} (hT : Full T n)
    (h : rop C.P C.G orc self o.op o.type T H = some [r]) : Does C o (T.toL n) H r.1 r.2 := by
  intro fr' hfr
  obtain ⟨T', _, hT', hTl⟩ := sets_start (n := fr'.length) (args := fr') (Nat.le_refl _) (fun T : FT => T)
  rw [Nat.sub_self, List.replicate_zero, List.append_nil] at hTl
  have hst : (⟨fr', H⟩ : ASt) = sOf fr'.length T' H := by simp only [sOf, hTl]
  have h' : rop C.P C.G orc self o.op o.type T' H = some [r] := by
    rw [← h]
    refine rop_congr fun x hx => ?_
    rw [evT_st (G := C.G) hT' H, evT_st (G := C.G) hT H, ← hst]
    exact hfr x hx
  rw [hst]
  exact rop_sound hE ho hs hT' h' fun r' hr' => by rw [List.mem_singleton.1 hr']

theorem does_step {C : Ctx} {o : Oper} {n : Nat} {T : FT} {H : AH} {r : AV × AH} (hT : Full T n) (h : astepE C.P (evT C.G T) H o.op o.type = some r) : Does C o (T.toL n) H r.1 r.2 := by
  intro fr' hfr
  refine AOp_step ?_ rfl
  rw [← astepE_eq]
  rw [← h]
  refine astepE_congr fun x hx => ?_
  rw [evT_st (G := C.G) hT H]
  exact hfr x hx

/-- With the edges leading back, some operation is always ready. -/
theorem all_listed {ops : Array Oper} (he : ∀ (i : Nat) (o : Oper), ops[i]? = some o → ∀ e ∈ o.after, Region.binds .any e = true → e.on < i) {listed : Array Bool} (hsz : listed.size = ops.size) (hr : Region.ready .any ops listed = []) :
    ∀ j, j < ops.size → Lst listed j := by
  intro j
  induction j using Nat.strongRecOn with
  | _ j ih =>
    intro hj
    refine Classical.byContradiction fun hn => ?_
    have hmem : j ∈ Region.ready .any ops listed := by
      simp only [Region.ready, List.mem_filter, List.mem_range, Bool.and_eq_true, Bool.not_eq_true']
      refine ⟨hj, ?_, ?_⟩
      · unfold Lst at hn
        rw [Array.getD_eq_getD_getElem?, Array.getElem?_eq_getElem (by omega)] at hn ⊢
        simpa using hn
      · have ho : ops[j]? = some ops[j] := Array.getElem?_eq_getElem hj
        rw [ho]
        simp only [Option.map_some, Option.getD_some, Array.all_eq_true_iff_forall_mem]
        intro e hem
        by_cases hb : Region.binds .any e = true
        · have hlt := he j _ ho e hem hb
          have := ih e.on hlt (by omega)
          unfold Lst at this
          simp [this]
        · simp [hb]
    rw [hr] at hmem
    cases hmem

theorem rdraw_sound {P : Program} {G : Glob} {orc : Orc} {self : Runs} (hE : Enters P) (ho : OrcOk P G orc) (hs : SelfOk P G self) (hm : P.follows .mixedOrders = true) {rd : Option Nat} {rid n : Nat} {ops : Array Oper} {T : FT} {H : AH} {outs : List (Exit × FT × AH)}
    (h : rdraw P G orc self n ops.toList T H = some outs) (hT : Full T n) :
    (∀ e ∈ outs, Full e.2.1 n) ∧ ∀ (M : Nat) (K : Exit → ASt → Prop), (∀ e ∈ outs, K e.1 (sOf n e.2.1 e.2.2)) → AWp ⟨P, G, M, rd⟩ (.region rid ops true) K (sOf n T H) := by
  unfold rdraw at h
  split at h
  case h_2 => cases h
  rename_i recs hdr
  rw [fL_eq fN_eq, fL_eq fN_eq] at h
  split at h
  case isFalse => cases h
  rename_i hchk
  simp only [Bool.and_eq_true] at hchk
  obtain ⟨hS, hDk⟩ := hchk
  obtain ⟨hlen, hfacts⟩ := dr_facts _ _ _ _ hdr
  have hl : recs.length = ops.size := by simpa using hlen
  rw [frLast_eq _ _ _ _ hlen] at h
  cases h
  have hsp := frAt_spec (ops := ops) hl hT
  have hn : ops.toList.length = ops.size := by simp
  rw [hn]
  obtain ⟨hfull, hfr⟩ := hsp ops.size (Nat.le_refl _)
  refine ⟨fun e he => by rw [List.mem_singleton.1 he]; exact hfull, fun M K hK => ?_⟩
  have hget : ∀ (i : Nat) (o : Oper), ops[i]? = some o → ops.toList[i]? = some o := fun i o h => by rw [Array.getElem?_toList]; exact h
  have hrec : ∀ (i : Nat) (o : Oper), ops[i]? = some o → ∃ r, recs[i]? = some r ∧ Fact P G orc self n ops.toList o (frAt T ops.toList recs i) (hAt H recs i) r := by
    intro i o hi
    have hlt : i < recs.length := by rw [hl]; exact (Array.getElem?_eq_some_iff.1 hi).1
    exact ⟨recs[i], List.getElem?_eq_getElem hlt, hfacts i o _ (hget i o hi) (List.getElem?_eq_getElem hlt)⟩
  have hkeep : ∀ i r, recs[i]? = some r → r.1 ≠ .eff → r.2.2 = hAt H recs i := by
    intro i r hr hne
    have hlt : i < ops.size := by rw [← hl]; exact (List.getElem?_eq_some_iff.1 hr).1
    obtain ⟨r', hr', hf⟩ := hrec i _ (Array.getElem?_eq_getElem hlt)
    rw [hr] at hr'
    cases hr'
    obtain ⟨dk, y, H'⟩ := r
    cases dk with
    | skip => have := (hf.skip rfl).2; simp only at this ⊢; exact congrArg Prod.snd this
    | quiet => exact (hf.quiet rfl).2.2.1
    | eff => exact absurd rfl hne
  have hHs : ∀ i, i ≤ ops.size → HsOf H recs (effs recs 0) (cntE recs i) = hAt H recs i := fun i hi => HsOf_cnt hkeep i (by omega)
  have hwi : ∀ {j : Nat} {o' : Oper} {t : Tmp}, ops[j]? = some o' → o'.dst = some t → wIdx t ops.toList 0 = some j := by
    intro j o' t hj hd
    have := (chkS_get ops.toList 0 j o' hS (hget j o' hj)).2.2.1 t hd
    simpa using this
  have hD : Drawn ⟨P, G, M, rd⟩ ops (T.toL n) (yOf recs) (HsOf H recs (effs recs 0)) (effs recs 0) (bits (ancs ops.toList [])) := by
    refine ⟨fun i j o o' t hi hj hd hd' => ?_, fun i o j hi hb => ancs_closed (hget i o hi) hb, fun i j o o' t hi hj hx hd => ?_, effs_nodup _ _, fun i o hi => ?_⟩
    · have h1 := hwi hi hd
      rw [hwi hj hd'] at h1
      cases h1; rfl
    · have := (chkS_get ops.toList 0 i o hS (hget i o hi)).2.1 t (mem_tmpsOf hx) j (hwi hj hd)
      simpa using this
    · obtain ⟨r, hr, hf⟩ := hrec i o hi
      have hyi : yOf recs i = r.2.1 := by simp only [yOf, hr]
      have hilt : i < ops.size := (Array.getElem?_eq_some_iff.1 hi).1
      obtain ⟨hfi, hfri⟩ := hsp i (by omega)
      have hg := (chkS_get ops.toList 0 i o hS (hget i o hi)).2.2.2
      rw [Nat.zero_add] at hg
      have hgd : ∀ t, aguard n ops.toList (frAt T ops.toList recs i) o.guard = some t → (o.guard = none ∧ t = true) ∨ ∃ j b o' d, o.guard = some (j, b) ∧ ops[j]? = some o' ∧ o'.dst = some d ∧ d < (T.toL n).length ∧ bits (ancs ops.toList []) i j = true ∧ wantedV (yOf recs j) b = some t := by
        intro t ht
        rcases aguard_sound (H := []) hfi ht with ⟨h1, h2⟩ | ⟨j, b, d, x, h1, h2, h3, h4⟩
        · exact .inl ⟨h1, h2⟩
        · right
          obtain ⟨q1, q2, o', d', q3, q4, q5⟩ := hg j b h1
          rw [Array.getElem?_toList] at q3
          rw [Array.getElem?_toList, q3] at h2
          simp only [Option.bind_some, q4, Option.some.injEq] at h2
          subst h2
          refine ⟨j, b, o', d', h1, q3, q4, by simpa [FT.toL] using q5, q2, ?_⟩
          have hx : (sOf n (frAt T ops.toList recs i) []).fr[d']? = some (yOf recs j) := by
            simp only [sOf]
            rw [hfri]
            have hdist : Dist ops := fun i j o o' t hi hj hd hd' => by
              have h1 := hwi hi hd
              rw [hwi hj hd'] at h1
              cases h1; rfl
            exact (frT_is (y := yOf recs) (fr0 := T.toL n) hdist i).set j o' d' q3 q1 q4 (by simpa [FT.toL] using q5)
          rw [hx] at h3
          cases h3
          exact h4
      have hck := chkD_get ops.toList 0 i o hDk (hget i o hi)
      rw [Nat.zero_add] at hck
      unfold chk1 at hck
      rw [hr] at hck
      have hnE : r.1 ≠ .eff → i ∉ effs recs 0 := by
        intro hne hmem
        obtain ⟨k, hk⟩ := List.getElem?_of_mem hmem
        obtain ⟨_, ⟨r', h1, h2⟩, _⟩ := effs_get _ _ _ _ hk
        rw [Nat.sub_zero, hr] at h1
        cases h1
        exact hne h2
      obtain ⟨dk, y, H'⟩ := r
      cases dk with
      | skip =>
        left
        obtain ⟨h1, h2⟩ := hf.skip rfl
        rcases hgd false h1 with ⟨_, h3⟩ | ⟨j, b, o', d, q1, q2, q3, q4, q5, q6⟩
        · cases h3
        · refine ⟨j, b, o', d, q1, q2, q3, q4, q5, q6, ?_, hnE (by simp)⟩
          rw [hyi]; exact congrArg Prod.fst h2
      | quiet =>
        right
        obtain ⟨h1, hq, h2, H2, h3⟩ := hf.quiet rfl
        refine ⟨(hgd true h1).imp (·.1) id, .inr ⟨hnE (by simp), ?_⟩⟩
        rw [hyi]
        have own := does_step (C := ⟨P, G, M, rd⟩) hfi h3
        simp only at own
        rw [hfri] at own
        have hown : Does ⟨P, G, M, rd⟩ o (frT ops (yOf recs) (T.toL n) i) (hAt H recs i) y (hAt H recs i) := by
          have hq' := quiet_same (P := P) (G := G) (st := sOf n (frAt T ops.toList recs i) (hAt H recs i)) hq (by rw [← astepE_eq, ← evT_st (G := G) hfi]; exact h3)
          have hq' : H2 = hAt H recs i := hq'
          rw [hq'] at own
          exact own
        simp only [Bool.or_eq_true] at hck
        rcases hck with hb | hck
        · refine ⟨0, (effs recs 0).length, fun k j hk => by omega, Nat.zero_le _, fun k j hk hj => ?_, fun c _ _ => ?_⟩
          · have := (List.getElem?_eq_some_iff.1 hj).1; omega
          · have hb' := astepE_blind (H' := HsOf H recs (effs recs 0) c) hb h3
            have := does_step (C := ⟨P, G, M, rd⟩) hfi hb'
            simp only at this
            rwa [hfri] at this
        · simp only [Bool.and_eq_true] at hck
          obtain ⟨ht, hw⟩ := hck
          refine ⟨lead (fun j => bits (ancs ops.toList []) i j) (effs recs 0), lead (fun j => !bits (ancs ops.toList []) j i) (effs recs 0), (lead_spec _ _).2, (lead_spec _ _).1, fun k j hk hj => tail_spec _ _ ht k j hk hj, fun c hc1 hc2 => ?_⟩
          have hmem : c ∈ List.range' (lead (fun j => bits (ancs ops.toList []) i j) (effs recs 0)) (lead (fun j => !bits (ancs ops.toList []) j i) (effs recs 0) + 1 - lead (fun j => bits (ancs ops.toList []) i j) (effs recs 0)) := by
            rw [List.mem_range'_1]; omega
          have := List.all_eq_true.1 hw c hmem
          simp only [Bool.or_eq_true, beq_iff_eq] at this
          rcases this with hcl | hre
          · rw [hcl, lead_cnt, hHs i (by omega)]
            exact hown
          · split at hre
            · rename_i r2 hr2
              have hy2 := abeq_eq _ _ _ hre
              have hq2 := quiet_same (P := P) (G := G) (st := sOf n (frAt T ops.toList recs i) (HsOf H recs (effs recs 0) c)) hq (by rw [← astepE_eq, ← evT_st (G := G) hfi]; exact hr2)
              have := does_step (C := ⟨P, G, M, rd⟩) hfi hr2
              rw [hq2, hy2, hfri] at this
              exact this
            · cases hre
      | eff =>
        right
        obtain ⟨h1, h2⟩ := hf.eff rfl
        refine ⟨(hgd true h1).imp (·.1) id, .inl ⟨cntE recs i, ?_, fun k' j hk hj => ?_, ?_⟩⟩
        · have := effs_of recs 0 i _ hr rfl
          simpa using this
        · obtain ⟨_, ⟨r', q1, q2⟩, q3⟩ := effs_get _ _ _ _ hj
          rw [Nat.sub_zero] at q1 q3
          have hji : j < i := by
            rcases Nat.lt_or_ge j i with h | h
            · exact h
            · have := cntE_mono recs i j h; omega
          have hall := List.all_eq_true.1 hck j (List.mem_of_getElem? hj)
          simp only [Bool.or_eq_true, Bool.not_eq_true', decide_eq_false_iff_not] at hall
          exact hall.resolve_left (fun h => h hji)
        · have := does_rop (C := ⟨P, G, M, rd⟩) hE ho hs hfi h2
          simp only at this
          rw [hfri] at this
          rw [hyi, hHs i (by omega)]
          have hnext : HsOf H recs (effs recs 0) (cntE recs i + 1) = H' := by
            have e1 := cntE_succ recs i _ hr
            simp only [if_true] at e1
            rw [← e1, hHs (i + 1) (by omega), hAt_succ recs H i _ hr]
          rw [hnext]
          exact this
  have hedge : ∀ (i : Nat) (o : Oper), ops[i]? = some o → ∀ e ∈ o.after, Region.binds .any e = true → e.on < i := fun i o hi e he hb => by
    have := (chkS_get ops.toList 0 i o hS (hget i o hi)).1 e he hb
    simpa using this
  have := AWp_draw (C := ⟨P, G, M, rd⟩) (K := K) (id := rid) (fr0 := T.toL n) hm hD (fun i hi => by
    obtain ⟨k, hk⟩ := List.getElem?_of_mem hi
    obtain ⟨_, ⟨r', h1, _⟩, _⟩ := effs_get _ _ _ _ hk
    rw [Nat.sub_zero] at h1
    rw [← hl]; exact (List.getElem?_eq_some_iff.1 h1).1) (fun listed hsz hr => all_listed hedge hsz hr) (by
    have := hK _ (List.mem_singleton.2 rfl)
    simp only [sOf] at this
    rw [hfr, hLast_eq, hl] at this
    have e2 := hHs ops.size (Nat.le_refl _)
    have e3 : cntE recs ops.size = (effs recs 0).length := by rw [← hl]; exact cntE_all recs
    rw [e3] at e2
    rw [e2]
    exact this)
  exact this

end Go.Proofs.Ax
namespace Go.Proofs.Ax
open Go
set_option linter.unusedVariables false

section
variable {C : Ctx} {K : Exit → ASt → Prop} {st : ASt}

def downK (Inv : Nat → ASt → Prop) (n : Nat) (K : Exit → ASt → Prop) : Exit → ASt → Prop
  | .normal, st => ∃ k, k < n ∧ Inv k st
  | e, st => K e st

/-- A loop with a count that sinks. -/
theorem AWp_loopN {c : Code} (Inv : Nat → ASt → Prop) {n : Nat} (h0 : Inv n st) (hround : ∀ n st', Inv n st' → AWp C c (downK Inv n K) st') : AWp C (.loop c) K st := by
  classical
  let mu : ASt → Nat := fun st => if h : ∃ n, Inv n st then Classical.choose (exists_least h) else 0
  refine AWp_loop (fun st => ∃ n, Inv n st) mu ⟨n, h0⟩ fun st' hst => ?_
  have hmu : mu st' = Classical.choose (exists_least hst) := by simp only [mu]; rw [dif_pos hst]
  refine (hround _ st' (Classical.choose_spec (exists_least hst)).1).mono fun e st'' h => ?_
  cases e with
  | normal =>
    obtain ⟨k, hk, hi⟩ := h
    refine ⟨st'', Reabs.refl, ⟨k, hi⟩, ?_⟩
    have hex : ∃ n, Inv n st'' := ⟨k, hi⟩
    have : mu st'' ≤ k := by
      simp only [mu]
      rw [dif_pos hex]
      exact (Classical.choose_spec (exists_least hex)).2 _ hi
    rw [hmu]
    omega
  | exit id => exact h
  | goto l => exact h
  | ret => exact h
  | panic c => exact h
  | outgrown => exact h
end

/-- Ends of a run, each with what is asked of it. -/
def Ends (n : Nat) (outs : List (Exit × FT × AH)) (e : Exit) (st : ASt) : Prop := ∃ T H, (e, T, H) ∈ outs ∧ Full T n ∧ st = sOf n T H

theorem rthen_out {K : FT → AH → Option (List (Exit × FT × AH))} {e : Exit × FT × AH} {ys : List (Exit × FT × AH)} (h : rthen K e = some ys) : (e.1 = .normal ∧ K e.2.1 e.2.2 = some ys) ∨ (e.1 ≠ .normal ∧ ys = [e]) := by
  obtain ⟨x, T, H⟩ := e
  unfold rthen at h
  split at h
  · rename_i hx; exact .inl ⟨hx, h⟩
  · rename_i hx
    cases h
    exact .inr ⟨hx, rfl⟩

theorem collect_from {α β : Type} {f : α → Option (List β)} : ∀ {xs : List α} {zs : List β}, collect f xs = some zs → ∀ z ∈ zs, ∃ x ∈ xs, ∃ ys, f x = some ys ∧ z ∈ ys
  | [], zs, h, z, hz => by
    simp only [collect, Option.some.injEq] at h
    subst h
    cases hz
  | x0 :: xs, zs, h, z, hz => by
    unfold collect at h
    split at h
    · rename_i ys hys
      split at h
      · rename_i zs' hzs
        cases h
        rcases List.mem_append.1 hz with hz | hz
        · exact ⟨x0, List.mem_cons_self .., ys, hys, hz⟩
        · obtain ⟨x, h1, ys', h2, h3⟩ := collect_from hzs z hz
          exact ⟨x, List.mem_cons_of_mem _ h1, ys', h2, h3⟩
      · cases h
    · cases h

/-- What is asked of one run. -/
abbrev RunOk (P : Program) (G : Glob) (rd : Option Nat) (n m : Nat) (c : Code) (T : FT) (H : AH) (outs : List (Exit × FT × AH)) : Prop :=
  (∀ e ∈ outs, Full e.2.1 n) ∧ ∀ (M : Nat) (K : Exit → ASt → Prop), M ≤ m → (∀ e ∈ outs, K e.1 (sOf n e.2.1 e.2.2)) → AWp ⟨P, G, M, rd⟩ c K (sOf n T H)

theorem thenK_of {C : Ctx} {b : Code} {K : Exit → ASt → Prop} {e : Exit} {st : ASt} (h1 : e = .normal → AWp C b K st) (h2 : e ≠ .normal → K e st) : thenK C b K e st := by
  cases e with
  | normal => exact h1 rfl
  | exit id => exact h2 (by simp)
  | goto l => exact h2 (by simp)
  | ret => exact h2 (by simp)
  | panic c => exact h2 (by simp)
  | outgrown => exact h2 (by simp)

theorem rseq_ok {P : Program} {G : Glob} {self : Runs} (hs : SelfOk P G self) {rd : Option Nat} {n m : Nat} {a b : Code} {T : FT} {H : AH} {outs : List (Exit × FT × AH)} (h : rseq self rd n m a b T H = some outs) (hT : Full T n) : RunOk P G rd n m (.seq a b) T H outs := by
  unfold rseq at h
  split at h
  case h_2 => cases h
  rename_i outs0 h0
  obtain ⟨hf0, hw0⟩ := hs _ _ _ _ _ _ _ h0 hT
  refine ⟨fun e he => ?_, fun M K hM hK => ?_⟩
  · obtain ⟨x, hx, ys, h1, h2⟩ := collect_from h e he
    rcases rthen_out h1 with ⟨_, h3⟩ | ⟨_, h3⟩
    · exact (hs _ _ _ _ _ _ _ h3 (hf0 x hx)).1 e h2
    · subst h3
      rw [List.mem_singleton.1 h2]
      exact hf0 x hx
  · refine AWp_seq (hw0 M _ hM fun e he => thenK_of (fun hn => ?_) (fun hn => ?_))
    all_goals obtain ⟨ys, h1, h2⟩ := collect_mem h e he
    · rcases rthen_out h1 with ⟨_, h3⟩ | ⟨h3, _⟩
      · exact (hs _ _ _ _ _ _ _ h3 (hf0 e he)).2 M K hM fun e' he' => hK e' (h2 e' he')
      · exact absurd hn h3
    · rcases rthen_out h1 with ⟨h3, _⟩ | ⟨_, h3⟩
      · exact absurd h3 hn
      · subst h3
        exact hK e (h2 e (List.mem_singleton.2 rfl))

theorem downK_of {Inv : Nat → ASt → Prop} {n : Nat} {K : Exit → ASt → Prop} {e : Exit} {st : ASt} (h1 : e = .normal → ∃ k, k < n ∧ Inv k st) (h2 : e ≠ .normal → K e st) : downK Inv n K e st := by
  cases e with
  | normal => exact h1 rfl
  | exit id => exact h2 (by simp)
  | goto l => exact h2 (by simp)
  | ret => exact h2 (by simp)
  | panic c => exact h2 (by simp)
  | outgrown => exact h2 (by simp)

theorem rloop_succ (self : Runs) (rd : Option Nat) (n m : Nat) (b : Code) (k : Nat) (T : FT) (H : AH) : rloop self rd n m b (k + 1) T H = (match self rd n m b T H with
      | some outs => collect (rthen (rloop self rd n m b k)) outs
      | none => none) := rfl

theorem rloop_full {P : Program} {G : Glob} {self : Runs} (hs : SelfOk P G self) {rd : Option Nat} {n m : Nat} {b : Code} : ∀ (k : Nat) {T : FT} {H : AH} {outs : List (Exit × FT × AH)}, rloop self rd n m b k T H = some outs → Full T n → ∀ e ∈ outs, Full e.2.1 n
  | 0, T, H, outs, h, hT => by cases h
  | k + 1, T, H, outs, h, hT => by
    rw [rloop_succ] at h
    split at h
    case h_2 => cases h
    rename_i outs0 h0
    obtain ⟨hf0, _⟩ := hs _ _ _ _ _ _ _ h0 hT
    intro e he
    obtain ⟨x, hx, ys, h1, h2⟩ := collect_from h e he
    rcases rthen_out h1 with ⟨_, h3⟩ | ⟨_, h3⟩
    · exact rloop_full hs k h3 (hf0 x hx) e h2
    · subst h3
      rw [List.mem_singleton.1 h2]
      exact hf0 x hx

theorem rloop_ok {P : Program} {G : Glob} {self : Runs} (hs : SelfOk P G self) {rd : Option Nat} {n m : Nat} {b : Code} {k : Nat} {T : FT} {H : AH} {outs : List (Exit × FT × AH)} (h : rloop self rd n m b k T H = some outs) (hT : Full T n) : RunOk P G rd n m (.loop b) T H outs := by
  refine ⟨rloop_full hs k h hT, fun M K hM hK => ?_⟩
  refine AWp_loopN (fun k st => ∃ T H outs', rloop self rd n m b k T H = some outs' ∧ Full T n ∧ (∀ e ∈ outs', e ∈ outs) ∧ st = sOf n T H) ⟨T, H, outs, h, hT, fun e he => he, rfl⟩ ?_
  rintro k' st ⟨T', H', outs', h1, h2, h3, rfl⟩
  cases k' with
  | zero => cases h1
  | succ k =>
    rw [rloop_succ] at h1
    split at h1
    case h_2 => cases h1
    rename_i outs0 h0
    obtain ⟨hf0, hw0⟩ := hs _ _ _ _ _ _ _ h0 h2
    refine hw0 M _ hM fun e he => ?_
    obtain ⟨ys, q1, q2⟩ := collect_mem h1 e he
    refine downK_of (fun hn => ?_) (fun hn => ?_)
    · rcases rthen_out q1 with ⟨_, q3⟩ | ⟨q3, _⟩
      · exact ⟨k, Nat.lt_succ_self k, e.2.1, e.2.2, ys, q3, hf0 e he, fun e' he' => h3 e' (q2 e' he'), rfl⟩
      · exact absurd hn q3
    · rcases rthen_out q1 with ⟨q3, _⟩ | ⟨_, q3⟩
      · exact absurd q3 hn
      · subst q3
        exact hK e (h3 e (q2 e (List.mem_singleton.2 rfl)))

theorem rcond_ok {P : Program} {G : Glob} {self : Runs} (hs : SelfOk P G self) {rd : Option Nat} {n m : Nat} {c : Operand} {a b : Code} {T : FT} {H : AH} {outs : List (Exit × FT × AH)} (h : rcond self rd n m (evT G T c) a b T H = some outs) (hT : Full T n) : RunOk P G rd n m (.cond c a b) T H outs := by
  have hev : (sOf n T H).ev G c = evT G T c := by rw [evT_st (G := G) hT H]
  unfold rcond at h
  split at h
  · rename_i he
    obtain ⟨hf, hw⟩ := hs _ _ _ _ _ _ _ h hT
    exact ⟨hf, fun M K hM hK => AWp_cond (C := ⟨P, G, M, rd⟩) (t := true) (by rw [← he]; exact hev) (fun _ => hw M K hM hK) (fun h => by cases h)⟩
  · rename_i he
    obtain ⟨hf, hw⟩ := hs _ _ _ _ _ _ _ h hT
    exact ⟨hf, fun M K hM hK => AWp_cond (C := ⟨P, G, M, rd⟩) (t := false) (by rw [← he]; exact hev) (fun h => by cases h) (fun _ => hw M K hM hK)⟩
  · cases h

end Go.Proofs.Ax
namespace Go.Proofs.Ax
open Go
set_option linter.unusedVariables false

theorem Gone.less {m M : Nat} {I I' : Nat → Prop} {w w' : World} {ρ ρ' : Places} {H H' : AH} (h : Gone m I w ρ H I' w' ρ' H') (hM : M ≤ m) : Gone M I w ρ H I' w' ρ' H' :=
  ⟨h.sub, fun id l hi hl => h.place id l (Nat.lt_of_lt_of_le hi hM) hl, h.size, h.os, h.tape, h.output, h.frame, h.own, h.new⟩

theorem AWp_post {C : Ctx} {K : Exit → ASt → Prop} {st : ASt} {c : Code} (h : AWp C c (fun e st => ∃ st', Reabs C st st' ∧ K e st') st) : AWp C c K st := fun B I w ρ a rr hr hs =>
  wpIn_mono (h B I w ρ a rr hr hs) fun e a' w' ⟨I', ρ', st', ⟨st2, h1, h2⟩, h3, h4⟩ =>
    let ⟨I2, ρ2, g1, g2⟩ := h1 B I' w' ρ' a' h3
    ⟨I2, ρ2, st2, h2, g1, h4.trans g2⟩

theorem setsAt_spec {β : Type} {n : Nat} : ∀ (ts : List Tmp) (xs : List AV) (T : FT) (k : FT → β), Full T n → ∃ T', setsAt ts xs T k = k T' ∧ Full T' n ∧ ∀ i, T'.get i = T.get i ∨ ∃ (j : Nat) (x : AV), ts[j]? = some i ∧ xs[j]? = some x ∧ T'.get i = x ∧ i < n
  | [], xs, T, k, h => ⟨T, rfl, h, fun i => .inl rfl⟩
  | t :: ts, [], T, k, h => ⟨T, rfl, h, fun i => .inl rfl⟩
  | t :: ts, x :: xs, T, k, h => by
    obtain ⟨T', h1, h2, h3⟩ := setsAt_spec ts xs (T.set t x) k (h.set t x)
    refine ⟨T', by rw [setsAt, FT.setK_eq]; exact h1, h2, fun i => ?_⟩
    rcases h3 i with h4 | ⟨j, y, q1, q2, q3, q4⟩
    · rw [FT.get_set] at h4
      split at h4
      · rename_i hc
        have hi : t < n := by
          have := hc.2
          rw [h t] at this
          simpa using this
        exact .inr ⟨0, x, by simp [hc.1], rfl, h4, by rw [← hc.1]; exact hi⟩
      · exact .inl h4
    · exact .inr ⟨j + 1, y, by simpa using q1, by simpa using q2, q3, q4⟩

theorem mk_get (n i : Nat) : (FT.mk n n).get i = .any := by
  have h := FT.toL_getD (Full.mk n) i
  rw [toL_mk] at h
  rw [← h, List.getD_eq_getElem?_getD, List.getElem?_replicate]
  split <;> rfl

theorem canon_reabs {P : Program} {G : Glob} {rd : Option Nat} {n m M : Nat} {keep : List Tmp} {T : FT} {H H' : AH} {l : List AV} {T' : FT} (hM : M ≤ m) (hT : Full T n) (h : gc m (.tuple (keep.map T.get)) H = some (.tuple l, H'))
    (hT' : Full T' n) (hg : ∀ i, T'.get i = .any ∨ ∃ (j : Nat) (x : AV), keep[j]? = some i ∧ l[j]? = some x ∧ T'.get i = x ∧ i < n) : Reabs ⟨P, G, M, rd⟩ (sOf n T H) (sOf n T' H') := fun B I w ρ a hs => by
  have hfr : ∀ i, VRel I w ρ (a.tmps.getD i undef) (T.get i) := fun i => by
    by_cases hi : i < n
    · refine hs.fr i _ ?_
      simp only [sOf]
      rw [FT.toL_get, if_pos hi]
    · rw [FT.get_of_not T i (by rw [hT i]; simp [hi])]
      exact .any
  have hv : VRel I w ρ (.tuple (keep.map fun t => a.tmps.getD t undef).toArray) (.tuple (keep.map T.get)) := by
    refine .tuple (by simp) (fun i x hx => ?_)
    rw [List.getElem?_map] at hx
    cases hk : keep[i]? with
    | none => rw [hk] at hx; cases hx
    | some t =>
      rw [hk] at hx
      cases hx
      have : (keep.map fun t => a.tmps.getD t undef).toArray.getD i undef = a.tmps.getD t undef := by
        rw [Array.getD_eq_getD_getElem?, List.getElem?_toArray, List.getElem?_map, hk]; rfl
      rw [this]
      exact hfr t
  obtain ⟨ρ', h1, h2, h3⟩ := gc_sound h hs.heap hv
  have hmk : Marks B I ρ' H' a.defers w := by
    obtain ⟨rs, e1, e2, e3⟩ := hs.marks
    exact ⟨rs, e1, e2, fun r hr => by
      obtain ⟨g1, g2, g3, g4⟩ := e3 r hr
      exact ⟨g1, g2, fun hown => g3 (h3.own r hown (heap_lt g2)), g4⟩⟩
  refine ⟨I, ρ', ⟨h1, ?_, fun i x hx => ?_, hmk, hs.base⟩, h3.less hM⟩
  · have := hs.size
    simp only [sOf, FT.toL, List.length_map, List.length_range] at this ⊢
    exact this
  · simp only [sOf] at hx
    rw [FT.toL_get] at hx
    split at hx
    case isFalse => cases hx
    cases hx
    rcases hg i with hi | ⟨j, x, q1, q2, q3, q4⟩
    · rw [hi]; exact .any
    · rw [q3]
      cases h2 with
      | tuple hl hv' =>
        have := hv' j x q2
        have e : (keep.map fun t => a.tmps.getD t undef).toArray.getD j undef = a.tmps.getD i undef := by
          rw [Array.getD_eq_getD_getElem?, List.getElem?_toArray, List.getElem?_map, q1]; rfl
        rwa [e] at this

theorem blockK_of {id : Nat} {K : Exit → ASt → Prop} {n : Nat} {e : Exit × FT × AH} (h : K (rblock id e).1 (sOf n (rblock id e).2.1 (rblock id e).2.2)) : blockK id K e.1 (sOf n e.2.1 e.2.2) := by
  obtain ⟨x, T, H⟩ := e
  cases x with
  | exit id' =>
    simp only [rblock, blockK] at h ⊢
    split <;> rename_i hc
    · rw [if_pos hc] at h; exact h
    · rw [if_neg hc] at h; exact h
  | normal => exact h
  | goto l => exact h
  | ret => exact h
  | panic c => exact h
  | outgrown => exact h

theorem rblock_T (id : Nat) (e : Exit × FT × AH) : (rblock id e).2 = e.2 := by
  obtain ⟨x, T, H⟩ := e
  cases x <;> try rfl
  simp only [rblock]
  split <;> rfl

theorem rblk_ok {P : Program} {G : Glob} {hint : Hint} {self : Runs} (hs : SelfOk P G self) {rd : Option Nat} {n m id : Nat} {b : Code} {T : FT} {H : AH} {outs : List (Exit × FT × AH)} (h : rblk hint self rd n m id b T H = some outs) (hT : Full T n) : RunOk P G rd n m (.block id b) T H outs := by
  unfold rblk at h
  split at h
  case h_2 => cases h
  rename_i outs0 h0
  obtain ⟨hf0, hw0⟩ := hs _ _ _ _ _ _ _ h0 hT
  split at h
  case h_2 =>
    cases h
    refine ⟨fun e he => ?_, fun M K hM hK => AWp_block (hw0 M _ hM fun e he => blockK_of (hK _ (List.mem_map.2 ⟨e, he, rfl⟩)))⟩
    obtain ⟨e0, he0, rfl⟩ := List.mem_map.1 he
    rw [rblock_T]
    exact hf0 e0 he0
  rename_i keep hkeep
  split at h
  case h_2 => cases h
  rename_i l hl
  -- what comes of one way
  have key : ∀ r ys, canon2 n keep r = some ys → ∃ xs H' T', r = (.tuple xs, H') ∧ ys = [(.normal, T', H')] ∧ Full T' n ∧ ∀ i, T'.get i = .any ∨ ∃ (j : Nat) (x : AV), keep[j]? = some i ∧ xs[j]? = some x ∧ T'.get i = x ∧ i < n := by
    rintro ⟨y, H'⟩ ys hc
    unfold canon2 at hc
    rw [fA_eq, fH_eq] at hc
    simp only at hc
    split at hc
    case h_2 => cases hc
    rename_i xs
    obtain ⟨T', h1, h2, h3⟩ := setsAt_spec (n := n) keep xs (FT.mk n n) (fun T => some [(Exit.normal, T, H')]) (Full.mk n)
    rw [h1] at hc
    cases hc
    exact ⟨xs, H', T', rfl, rfl, h2, fun i => (h3 i).imp (fun h => by rw [h, mk_get]) (fun h => h)⟩
  refine ⟨fun e he => ?_, fun M K hM hK => AWp_block ?_⟩
  · obtain ⟨r, hr, ys, h1, h2⟩ := collect_from h e he
    obtain ⟨xs, H', T', rfl, rfl, h3, h4⟩ := key _ _ h1
    rw [List.mem_singleton.1 h2]
    exact h3
  · refine AWp_post (hw0 M _ hM fun e he => ?_)
    obtain ⟨i, hi⟩ := List.getElem?_of_mem he
    have hlen := (lmap_get hl).1
    have hilt : i < l.length := by rw [hlen]; simp; exact (List.getElem?_eq_some_iff.1 hi).1
    obtain ⟨x, g1, g2⟩ := (lmap_get hl).2 i _ (List.getElem?_eq_getElem hilt)
    rw [List.getElem?_map, hi] at g1
    cases g1
    obtain ⟨ys, q1, q2⟩ := collect_mem h _ (dedup_mem (List.getElem_mem hilt))
    obtain ⟨xs, H', T', hr, rfl, h3, h4⟩ := key _ _ q1
    rw [hr] at g2
    unfold canon1 at g2
    split at g2
    case h_2 => cases g2
    rename_i hn
    rw [rblock_T] at g2
    refine ⟨sOf n T' H', canon_reabs hM (hf0 e he) g2 h3 h4, ?_⟩
    have hout := hK _ (q2 _ (List.mem_singleton.2 rfl))
    refine blockK_normal hn hout
where
  blockK_normal {id : Nat} {K : Exit → ASt → Prop} {st : ASt} {e : Exit × FT × AH} (hn : (rblock id e).1 = .normal) (h : K .normal st) : blockK id K e.1 st := by
    obtain ⟨x, T, H⟩ := e
    cases x with
    | exit id' =>
      simp only [rblock, blockK] at hn ⊢
      split at hn
      · rename_i hc; rw [if_pos hc]; exact h
      · cases hn
    | normal => exact h
    | goto l => cases hn
    | ret => cases hn
    | panic c => cases hn
    | outgrown => cases hn

theorem rjump_ok {P : Program} {G : Glob} {self : Runs} (hs : SelfOk P G self) {rd : Option Nat} {n m M id : Nat} {T : FT} (hT : Full T n) {r : AV × AH} {ys : List (Exit × FT × AH)} (h : rjump id T (self rd n m) r = some ys) :
    (∀ e ∈ ys, Full e.2.1 n) ∧ ∀ (K : Exit → ASt → Prop), M ≤ m → (∀ e ∈ ys, K e.1 (sOf n e.2.1 e.2.2)) →
      ∃ s pe fr' ps' as' bd', r.2[id]? = some (.loop s pe fr' ps' as' bd') ∧ s ≠ .busy ∧ (match pe with | none => K .normal (sOf n T (r.2.set id .dead)) | some c => AWp ⟨P, G, M, rd⟩ c K (sOf n T (r.2.set id .dead))) := by
  unfold rjump at h
  split at h
  · cases h
  · rename_i s fr ps as' bd hne heq
    cases h
    refine ⟨fun e he => by rw [List.mem_singleton.1 he]; exact hT, fun K _ hK => ⟨_, _, _, _, _, _, heq, fun h => ?_, hK _ (List.mem_singleton.2 rfl)⟩⟩
    subst h
    exact hne rfl
  · rename_i s c fr ps as' bd hne heq
    obtain ⟨hf, hw⟩ := hs _ _ _ _ _ _ _ h hT
    refine ⟨hf, fun K hM hK => ⟨_, _, _, _, _, _, heq, fun h => ?_, hw M K hM hK⟩⟩
    subst h
    exact hne rfl
  · cases h

theorem rrng_ok {P : Program} {G : Glob} {self : Runs} (hE : Enters P) (hs : SelfOk P G self) {rd : Option Nat} {n m : Nat} {f : Operand} {ps : Array Tmp} {as bd : Code} {T : FT} {H : AH} {outs : List (Exit × FT × AH)} (h : rrng P self rd n m (evT G T f) ps as bd T H = some outs) (hT : Full T n) : RunOk P G rd n m (.rangeFunc f ps as bd) T H outs := by
  unfold rrng at h
  split at h
  case h_2 => cases h
  rename_i g fs cs hf
  unfold rrange at h
  split at h
  case isFalse => cases h
  rename_i hrd
  split at h
  case h_2 => cases h
  rename_i fn hfn
  split at h
  case isFalse => cases h
  rename_i hbody
  rw [fL_eq (fA_eq 8), fS_eq] at h
  split at h
  case h_2 => cases h
  rename_i outs0 hcall
  obtain ⟨c, hb⟩ := Option.isSome_iff_exists.1 hbody
  obtain ⟨_, hco⟩ := rcall_sound hs hcall
  refine ⟨fun e he => ?_, fun M K hM hK => ?_⟩
  · obtain ⟨r, hr, ys, h1, h2⟩ := collect_from h e he
    exact (rjump_ok (M := 0) hs hT h1).1 e h2
  · have hev : (sOf n T H).ev G f = evT G T f := by rw [evT_st (G := G) hT H]
    refine AWp_rangeFunc (C := ⟨P, G, M, rd⟩) (Q := fun y H' => (y, H') ∈ outs0) (by simp only [hev]; exact hf) hE hfn hb ?_ hco ?_
    · intro id hid
      simp only at hid
      subst hid
      simp only [rdOk] at hrd
      split at hrd
      · rename_i heq; exact ⟨_, _, _, _, _, _, heq⟩
      · cases hrd
    · intro y H' hq
      obtain ⟨ys, h1, h2⟩ := collect_mem h _ hq
      exact (rjump_ok (M := M) hs hT h1).2 K hM fun e he => hK e (h2 e he)

theorem rcodeF_ok {P : Program} {G : Glob} {orc : Orc} {hint : Hint} {self : Runs} (hE : Enters P) (hm : P.follows .mixedOrders = true) (ho : OrcOk P G orc) (hs : SelfOk P G self) : SelfOk P G (rcodeF P G orc hint self) := by
  intro rd n m c T H outs h hT
  unfold rcodeF at h
  split at h
  · cases h
    exact ⟨fun e he => by rw [List.mem_singleton.1 he]; exact hT, fun M K hM hK => AWp_skip (hK _ (List.mem_singleton.2 rfl))⟩
  · cases h
    exact ⟨fun e he => by rw [List.mem_singleton.1 he]; exact hT, fun M K hM hK => AWp_ret (hK _ (List.mem_singleton.2 rfl))⟩
  · cases h
    exact ⟨fun e he => by rw [List.mem_singleton.1 he]; exact hT, fun M K hM hK => AWp_exit (hK _ (List.mem_singleton.2 rfl))⟩
  · have hro := fun M K => rops_sound (C := ⟨P, G, M, rd⟩) (K := K) hE ho hs _ T H outs h hT
    exact ⟨(hro 0 (fun _ _ => True)).1, fun M K hM hK => AWp_region ((hro M K).2 hK)⟩
  · obtain ⟨h1, h2⟩ := rdraw_sound (rd := rd) (rid := _) hE ho hs hm h hT
    exact ⟨h1, fun M K hM hK => h2 M K hK⟩
  · exact rseq_ok hs h hT
  · exact rcond_ok hs h hT
  · exact rblk_ok hs h hT
  · exact rloop_ok hs h hT
  · exact rrng_ok hE hs h hT
  · cases h

theorem rcode_ok {P : Program} {G : Glob} {orc : Orc} {hint : Hint} (hE : Enters P) (hm : P.follows .mixedOrders = true) (ho : OrcOk P G orc) : ∀ n, SelfOk P G (rcode P G orc hint n)
  | 0 => fun rd n m c T H outs h hT => by cases h
  | n + 1 => rcodeF_ok hE hm ho (rcode_ok hE hm ho n)

theorem memo_ok {P : Program} {G : Glob} {orc : Orc} {hint : Hint} (hE : Enters P) (hm : P.follows .mixedOrders = true) (ho : OrcOk P G orc) {n : Nat} {f : FuncId} {args : List AV} {H : AH} {outs : List (AV × AH)} (h : rcall P orc (rcode P G orc hint n) f args H = some outs) : OrcAt P G f args H outs := by
  cases hor : orc f args H with
  | some outs' =>
    unfold rcall at h
    rw [hor] at h
    cases h
    exact ho _ _ _ _ hor
  | none =>
    have h' : rcall P (fun _ _ _ => none) (rcode P G orc hint n) f args H = some outs := by
      unfold rcall at h ⊢
      rw [hor] at h
      exact h
    obtain ⟨⟨fn, c, hf, hb⟩, hc⟩ := rcall_sound (rcode_ok hE hm ho n) h'
    exact fun I w ρ vs h1 h2 h3 => .inr ⟨run_callFunc_body hE hf hb vs, hc I w ρ vs h1 h2 h3⟩

/-- A function run through by the interpreter. -/
theorem rfun_sound {P : Program} {G : Glob} {orc : Orc} {hint : Hint} (hE : Enters P) (hm : P.follows .mixedOrders = true) (ho : OrcOk P G orc) {n : Nat} {f : FuncId} {args : List AV} {outs : List (AV × AH)} (h : rfun P G orc hint n f args = some outs) :
    AFnH P G f args [] fun y H => (y, H) ∈ outs := (rcall_sound (rcode_ok hE hm ho n) h).2

end Go.Proofs.Ax
namespace Go.Proofs.Ax
open Go
set_option linter.unusedVariables false

/-- The same, of what is made of such. -/
def AV.deep1 : AV → Bool
  | .agg cs => cs.all AV.deep
  | x => x.deep
def AV.deep2 : AV → Bool
  | .tuple cs => cs.all AV.deep1
  | x => x.deep1
theorem VRel.deep1 {I : Nat → Prop} {w : World} {ρ : Places} {v : Value} {x : AV} (h : VRel I w ρ v x) (hd : x.deep1 = true) (ρ' : Places) : VRel I w ρ' v x := by
  cases x <;> try exact h.deep hd ρ'
  rename_i cs
  cases h with
  | agg hl hc hv => exact .agg hl hc fun i x hx => (hv i x hx).deep (List.all_eq_true.1 hd x (List.mem_of_getElem? hx)) ρ'
theorem VRel.deep2 {I : Nat → Prop} {w : World} {ρ : Places} {v : Value} {x : AV} (h : VRel I w ρ v x) (hd : x.deep2 = true) (ρ' : Places) : VRel I w ρ' v x := by
  cases x <;> try exact h.deep1 hd ρ'
  rename_i cs
  cases h with
  | tuple hl hv => exact .tuple hl fun i x hx => (hv i x hx).deep1 (List.all_eq_true.1 hd x (List.mem_of_getElem? hx)) ρ'

/-- A function that turns nothing and hands back y, whatever the caller's blocks. -/
def APure (P : Program) (G : Glob) (f : FuncId) (args : List AV) (y : AV) : Prop := ∀ H, AFnH P G f args H fun y' H' => y' = y ∧ H' = H

theorem AFnH.pure {P : Program} {G : Glob} {f : FuncId} {args : List AV} {y : AV} (h : AFnH P G f args [] fun y' H' => y' = y) (hd : ∀ x ∈ args, x.deep2 = true) (hy : y.deep2 = true) : APure P G f args y := by
  intro H I w ρ vs hh hl hv
  have h0 : HRel G I w Places.nil [] := ⟨(fun id b l hi => by simp at hi), (fun id id' b b' l l' hi => by simp at hi), (fun id l hl => by cases hl), hh.old, hh.glob⟩
  refine (h I w Places.nil vs h0 hl (fun i x hx => (hv i x hx).deep2 (hd x (List.mem_of_getElem? hx)) _)).mono ?_
  rintro e w' ⟨v, rfl, I', ρ', H', y', rfl, g1, g2, g3⟩
  have hfr : ∀ b, b < w.heap.size → w'.heap[b]? = w.heap[b]? := fun b hb => g3.frame b hb (by rintro ⟨id, blk, l, q1, q2, q3, q4⟩; simp at q1)
  have hk : Keeps I I' w w' := ⟨g3.sub, fun b hb => hfr b (hh.old b hb)⟩
  have hnew : ∀ b, b < w.heap.size → ¬ I b → ¬ I' b := fun b hb hn hi => by
    rcases g3.new b hi with h | h | ⟨id, blk, l, q1, q2, q3, q4⟩
    · exact hn h
    · omega
    · simp at q1
  refine ⟨v, rfl, I', ρ, H, y', ⟨rfl, rfl⟩, ⟨fun id blk l hi hb hp => ?_, hh.inj, hh.dom, fun b hb => g1.old b hb, fun g cells hg => g1.glob g cells hg⟩, g2.deep2 hy _,
    ⟨g3.sub, fun id l _ hl => hl, g3.size, g3.os, g3.tape, g3.output, fun b hb _ => hfr b hb, fun b ho _ => ho, fun b hb => ?_⟩⟩
  · obtain ⟨q1, q2, q3⟩ := hh.blk id blk l hi hb hp
    exact ⟨Nat.lt_of_lt_of_le q1 g3.size, hnew _ q1 q2, q3.mono hk (fun _ _ h => h) (hfr _ q1)⟩
  · rcases g3.new b hb with h | h | ⟨id, blk, l, q1, q2, q3, q4⟩
    · exact .inl h
    · exact .inr (.inl h)
    · simp at q1

/-- A call of a function that turns nothing. -/
theorem AOp_pure {C : Ctx} {dst : Option Tmp} {g : FuncId} {args : Array Operand} {ats : Array TypeId} {ty : TypeId} {pos : String} {af : Array Edge} {gu : Option (Nat × Bool)} {N : ASt → Prop} {st : ASt} {y : AV} {xs : List AV} {fn : Func} {c : Code}
    (h : APure C.P C.G g xs y) (hE : Enters C.P) (hf : C.P.funcs[g]? = some fn) (hb : fn.body = some c) (hx : args.toList.map (st.ev C.G) = xs) (hn : N (st.put dst y st.H)) :
    AOp C ⟨dst, .call { callee := .value (.func g), args := args, argTypes := ats }, ty, pos, af, gu⟩ N st := by
  refine AOp_call (Q := fun y' H' => y' = y ∧ H' = st.H) (fs := []) (cs := []) rfl (by simp [ASt.ev, afunc]) hE hf hb ?_ ?_
  · simp only [List.nil_append, List.append_nil, hx]
    exact h st.H
  · rintro y' H' ⟨rfl, rfl⟩
    exact hn

end Go.Proofs.Ax
namespace Go.Proofs.Ax
open Go
set_option linter.unusedVariables false

/-- A region of quiet operations, as far as it is reckoned. -/
def qops (C : Ctx) : List (Option Tmp) → List Oper → ASt → Option ASt
  | _, [], st => some st
  | ds, o :: l, st => match (match o.guard with
      | none => some true
      | some (j, b) => match (ds.getD j none).bind fun d => st.fr[d]? with
        | some x => wantedV x b
        | none => none) with
    | some true => match astep C.P C.G st o.op o.type with
      | some r => qops C (ds ++ [o.dst]) l (st.put o.dst r.1 st.H)
      | none => none
    | some false => qops C (ds ++ [o.dst]) l (st.put o.dst (.sc undef) st.H)
    | none => none

def qfin (K : Exit → ASt → Prop) : Option ASt → Prop
  | some st => K .normal st
  | none => False

theorem Full.putT {n : Nat} {T : FT} (hT : Full T n) (d : Option Tmp) (y : AV) : Full (putT T d y) n := by
  cases d with
  | none => exact hT
  | some d => exact hT.set d y

section
variable {C : Ctx} {ds : List (Option Tmp)} {dst : Option Tmp} {op : Op} {ty : TypeId} {pos : String} {af : Array Edge} {j : Nat} {b : Bool} {l : List Oper} {K : Exit → ASt → Prop} {st : ASt}
end

/-! The same, stage by stage. -/
def qstep (C : Ctx) (ds : List (Option Tmp)) (dst : Option Tmp) (l : List Oper) (st : ASt) (r : Option (AV × AH)) : Option ASt :=
  match r with
  | some r => qops C (ds ++ [dst]) l (st.put dst r.1 st.H)
  | none => none
def qguard (C : Ctx) (ds : List (Option Tmp)) (dst : Option Tmp) (op : Op) (ty : TypeId) (l : List Oper) (b : Bool) (st : ASt) (x : Option AV) : Option ASt :=
  match x with
  | some x => match wantedV x b with
    | some true => qstep C ds dst l st (astep C.P C.G st op ty)
    | some false => qops C (ds ++ [dst]) l (st.put dst (.sc undef) st.H)
    | none => none
  | none => none
section
variable (C : Ctx) (ds : List (Option Tmp)) (dst : Option Tmp) (op : Op) (ty : TypeId) (pos : String) (af : Array Edge) (j : Nat) (b : Bool) (l : List Oper) (K : Exit → ASt → Prop) (st : ASt) (y : AV) (H' : AH)
theorem qops_nil : qops C ds [] st = some st := rfl
theorem qops_cons : qops C ds (⟨dst, op, ty, pos, af, none⟩ :: l) st = qstep C ds dst l st (astep C.P C.G st op ty) := rfl
theorem qops_guard : qops C ds (⟨dst, op, ty, pos, af, some (j, b)⟩ :: l) st = qguard C ds dst op ty l b st ((ds.getD j none).bind fun d => st.fr[d]?) := by
  unfold qops qguard
  simp only
  generalize ((ds.getD j none).bind fun d => st.fr[d]?) = x
  cases x <;> rfl
theorem qstep_some : qstep C ds dst l st (some (y, H')) = qops C (ds ++ [dst]) l (st.put dst y st.H) := rfl
theorem qguard_tt : qguard C ds dst op ty l true st (some (.sc (.bool true))) = qstep C ds dst l st (astep C.P C.G st op ty) := rfl
theorem qguard_ff : qguard C ds dst op ty l false st (some (.sc (.bool false))) = qstep C ds dst l st (astep C.P C.G st op ty) := rfl
theorem qguard_tf : qguard C ds dst op ty l false st (some (.sc (.bool true))) = qops C (ds ++ [dst]) l (st.put dst (.sc undef) st.H) := rfl
theorem qguard_ft : qguard C ds dst op ty l true st (some (.sc (.bool false))) = qops C (ds ++ [dst]) l (st.put dst (.sc undef) st.H) := rfl
theorem qguard_undef : qguard C ds dst op ty l b st (some (.sc undef)) = qops C (ds ++ [dst]) l (st.put dst (.sc undef) st.H) := rfl
theorem qfin_some : qfin K (some st) = K .normal st := rfl
end

attribute [go_sem] astore List.all_cons List.all_nil Bool.and_true Bool.true_and Bool.and_self beq_self_eq_true Bool.false_eq_true Bool.true_eq_false and_true true_and and_false false_and and_self decide_true decide_false Bool.not_true Bool.not_false if_true if_false qops_nil qops_cons qops_guard qstep_some qguard_tt qguard_ff qguard_tf qguard_ft qguard_undef qfin_some
/-- Behind a round of a loop with a count that sinks. -/
structure DownCont (C : Ctx) (Inv : Nat → ASt → Prop) (n : Nat) (K K' : Exit → ASt → Prop) : Prop where
  go : ∀ m st st', Reabs C st st' → m < n → Inv m st' → K' .normal st
  out : ∀ e st, e ≠ .normal → K e st → K' e st

theorem AWp_loop_d {C : Ctx} {K : Exit → ASt → Prop} {st : ASt} {c : Code} (Inv : Nat → ASt → Prop) (n : Nat) (st0 : ASt) (hre : Reabs C st st0) (h0 : Inv n st0) (hr : ∀ K' n st', Inv n st' → DownCont C Inv n K K' → AWp C c K' st') : AWp C (.loop c) K st := by
  refine AWp_reabs hre (AWp_loopN Inv h0 fun n st' hi => AWp_post ?_)
  refine hr _ n st' hi ⟨fun m st1 st2 h1 h2 h3 => ⟨st2, h1, m, h2, h3⟩, fun e st1 he hk => ⟨st1, Reabs.refl, ?_⟩⟩
  cases e <;> first | exact absurd rfl he | exact hk

theorem DownCont.ret {C : Ctx} {Inv : Nat → ASt → Prop} {n : Nat} {K K' : Exit → ASt → Prop} (h : DownCont C Inv n K K') {st : ASt} (k : K .ret st) : K' .ret st := h.out _ _ (by nofun) k
theorem DownCont.exit {C : Ctx} {Inv : Nat → ASt → Prop} {n : Nat} {K K' : Exit → ASt → Prop} (h : DownCont C Inv n K K') {id : Nat} {st : ASt} (k : K (.exit id) st) : K' (.exit id) st := h.out _ _ (by nofun) k
theorem Cont.ret {C : Ctx} {y : Code} {K K' : Exit → ASt → Prop} (h : Cont C y K K') {st : ASt} (k : K .ret st) : K' .ret st := h.out _ _ (by nofun) k
theorem Cont.exit {C : Ctx} {y : Code} {K K' : Exit → ASt → Prop} (h : Cont C y K K') {id : Nat} {st : ASt} (k : K (.exit id) st) : K' (.exit id) st := h.out _ _ (by nofun) k

/-- All blocks forgotten. -/
theorem Reabs.drop {C : Ctx} {fr fr' : List AV} {H : AH} (hm : C.m = 0) (h : Slots id 0 fr fr') : Reabs C ⟨fr, H⟩ ⟨fr', []⟩ :=
  Reabs.ren id h (fun i hi => absurd hi (Nat.not_lt_zero i)) (fun _ _ _ _ h => h) (fun i hi => by rw [hm] at hi; exact absurd hi (Nat.not_lt_zero i))

/-- A list, looked through for the first that is bad. -/
def scan {α : Type} (bad : Option α → α → Option Int) : Nat → Option α → List α → Int × Int
  | _, _, [] => (0, -1)
  | i, prev, x :: xs => match bad prev x with
    | some e => (e, i)
    | none => scan bad (i + 1) (some x) xs
/-- What stands prevOf of place k. -/
def prevOf {α : Type} (l : List α) (k : Nat) : Option α := if k = 0 then none else l[k - 1]?
theorem scan_bad {α : Type} {bad : Option α → α → Option Int} {l : List α} {k : Nat} {e : Int} (h : k < l.length) (hb : bad (prevOf l k) l[k] = some e) : scan bad k (prevOf l k) (l.drop k) = (e, (k : Int)) := by
  rw [List.drop_eq_getElem_cons h, scan, hb]
theorem scan_good {α : Type} {bad : Option α → α → Option Int} {l : List α} {k : Nat} (h : k < l.length) (hb : bad (prevOf l k) l[k] = none) : scan bad k (prevOf l k) (l.drop k) = scan bad (k + 1) (prevOf l (k + 1)) (l.drop (k + 1)) := by
  rw [List.drop_eq_getElem_cons h, scan, hb]
  simp only [prevOf, Nat.add_sub_cancel, List.getElem?_eq_getElem h]
  rfl
theorem scan_end {α : Type} {bad : Option α → α → Option Int} {l : List α} {k : Nat} (h : l.length ≤ k) : scan bad k (prevOf l k) (l.drop k) = (0, -1) := by
  rw [List.drop_eq_nil_iff.2 h, scan]
end Go.Proofs.Ax
namespace Go.Proofs.Ax
open Go
set_option linter.unusedVariables false

theorem does_pure {C : Ctx} {dst : Option Tmp} {g : FuncId} {args : Array Operand} {ats : Array TypeId} {ty : TypeId} {pos : String} {af : Array Edge} {gu : Option (Nat × Bool)} {fr : List AV} {H : AH} {y : AV} {xs : List AV} {fn : Func} {c : Code}
    (h : APure C.P C.G g xs y) (hE : Enters C.P) (hf : C.P.funcs[g]? = some fn) (hb : fn.body = some c) (hx : args.toList.map ((⟨fr, H⟩ : ASt).ev C.G) = xs) :
    Does C ⟨dst, .call { callee := .value (.func g), args := args, argTypes := ats }, ty, pos, af, gu⟩ fr H y H := fun fr' hfr => by
  refine AOp_pure h hE hf hb ?_ rfl
  rw [← hx]
  exact List.map_congr_left fun x hx => hfr x (by simp [Op.operands, Call.operands]; right; simpa using hx)

mutual
/-- A region that leaves the heap as it is, as far as it is reckoned. -/
def qrun (C : Ctx) (ds : List (Option Tmp)) (l : List Oper) (st : ASt) (N : ASt → Prop) : Prop :=
  match l with
  | [] => N st
  | ⟨dst, op, ty, pos, af, none⟩ :: l => qgo C ds dst op ty pos af none l st N (astep C.P C.G st op ty)
  | ⟨dst, op, ty, pos, af, some (j, b)⟩ :: l => qif C ds dst op ty pos af j b l st N ((ds.getD j none).bind fun d => st.fr[d]?)
termination_by (l.length, 0)
def qgo (C : Ctx) (ds : List (Option Tmp)) (dst : Option Tmp) (op : Op) (ty : TypeId) (pos : String) (af : Array Edge) (g : Option (Nat × Bool)) (l : List Oper) (st : ASt) (N : ASt → Prop) (r : Option (AV × AH)) : Prop :=
  match r with
  | some (y, H') => qrun C (ds ++ [dst]) l (st.put dst y st.H) N
  | none => ∃ y, Does C ⟨dst, op, ty, pos, af, g⟩ st.fr st.H y st.H ∧ qrun C (ds ++ [dst]) l (st.put dst y st.H) N
termination_by (l.length, 1)
def qif (C : Ctx) (ds : List (Option Tmp)) (dst : Option Tmp) (op : Op) (ty : TypeId) (pos : String) (af : Array Edge) (j : Nat) (b : Bool) (l : List Oper) (st : ASt) (N : ASt → Prop) (r : Option AV) : Prop :=
  match r with
  | some x => match wantedV x b with
    | some true => qgo C ds dst op ty pos af (some (j, b)) l st N (astep C.P C.G st op ty)
    | some false => qrun C (ds ++ [dst]) l (st.put dst (.sc undef) st.H) N
    | none => False
  | none => False
termination_by (l.length, 2)
end

section
variable (C : Ctx) (ds : List (Option Tmp)) (dst : Option Tmp) (op : Op) (ty : TypeId) (pos : String) (af : Array Edge) (g : Option (Nat × Bool)) (j : Nat) (b : Bool) (l : List Oper) (N : ASt → Prop) (st : ASt)
theorem qrun_nil : qrun C ds [] st N = N st := by rw [qrun]
theorem qrun_cons : qrun C ds (⟨dst, op, ty, pos, af, none⟩ :: l) st N = qgo C ds dst op ty pos af none l st N (astep C.P C.G st op ty) := by rw [qrun]
theorem qrun_guard : qrun C ds (⟨dst, op, ty, pos, af, some (j, b)⟩ :: l) st N = qif C ds dst op ty pos af j b l st N ((ds.getD j none).bind fun d => st.fr[d]?) := by rw [qrun]
theorem qgo_some (y : AV) (H' : AH) : qgo C ds dst op ty pos af g l st N (some (y, H')) = qrun C (ds ++ [dst]) l (st.put dst y st.H) N := by rw [qgo]
theorem qif_tt : qif C ds dst op ty pos af j true l st N (some (.sc (.bool true))) = qgo C ds dst op ty pos af (some (j, true)) l st N (astep C.P C.G st op ty) := by rw [qif]; rfl
theorem qif_ff : qif C ds dst op ty pos af j false l st N (some (.sc (.bool false))) = qgo C ds dst op ty pos af (some (j, false)) l st N (astep C.P C.G st op ty) := by rw [qif]; rfl
theorem qif_ft : qif C ds dst op ty pos af j true l st N (some (.sc (.bool false))) = qrun C (ds ++ [dst]) l (st.put dst (.sc undef) st.H) N := by rw [qif]; rfl
theorem qif_tf : qif C ds dst op ty pos af j false l st N (some (.sc (.bool true))) = qrun C (ds ++ [dst]) l (st.put dst (.sc undef) st.H) N := by rw [qif]; rfl
theorem qif_undef : qif C ds dst op ty pos af j b l st N (some (.sc undef)) = qrun C (ds ++ [dst]) l (st.put dst (.sc undef) st.H) N := by rw [qif]; rfl
end
section
variable {C : Ctx} {ds : List (Option Tmp)} {dst : Option Tmp} {op : Op} {ty : TypeId} {pos : String} {af : Array Edge} {g : Option (Nat × Bool)} {j : Nat} {b : Bool} {l : List Oper} {N : ASt → Prop} {st : ASt}
end

/-- What is known of operation i. -/
def QFact (C : Ctx) (ops : Array Oper) (fr0 : List AV) (H : AH) (y : Nat → AV) (i : Nat) (o : Oper) : Prop :=
  let G := fun t => ∃ j b o' d x, o.guard = some (j, b) ∧ j < i ∧ ops[j]? = some o' ∧ o'.dst = some d ∧ (frT ops y fr0 i)[d]? = some x ∧ wantedV x b = some t
  (G false ∧ y i = .sc undef) ∨ ((o.guard = none ∨ G true) ∧ Does C o (frT ops y fr0 i) H (y i) H)

theorem frT_congr {ops : Array Oper} {y y' : Nat → AV} {fr0 : List AV} : ∀ n, (∀ j, j < n → y j = y' j) → frT ops y fr0 n = frT ops y' fr0 n
  | 0, _ => rfl
  | n + 1, h => by
    have ih := frT_congr (ops := ops) (fr0 := fr0) n fun j hj => h j (by omega)
    simp only [frT, ih, h n (by omega)]

theorem put_frT {ops : Array Oper} {y : Nat → AV} {fr0 : List AV} {k : Nat} {o : Oper} {H H' : AH} (ho : ops[k]? = some o) : ((⟨frT ops y fr0 k, H⟩ : ASt).put o.dst (y k) H') = ⟨frT ops y fr0 (k + 1), H'⟩ := by
  simp only [frT, ho, ASt.put]
  cases o.dst <;> rfl

def callK : Op → Bool
  | .call { callee := .value _, .. } => true
  | _ => false
/-- The first blocks kept, the others forgotten. -/
theorem Reabs.keep {C : Ctx} {fr fr' : List AV} {H H' rest : AH} (he : H = H' ++ rest) (h : Slots id H'.length fr fr') (hH : ∀ b ∈ H', b.ok H'.length) (hm : C.m ≤ H'.length) : Reabs C ⟨fr, H⟩ ⟨fr', H'⟩ := by
  subst he
  have e : ∀ x : AV, x.ren id = x := by
    have e0 : ∀ x : AV, x.ren0 id = x := by intro x; cases x <;> rfl
    have e1 : AV.ren0 id = id := funext e0
    intro x
    cases x <;> first | rfl | simp [AV.ren, e1]
  refine Reabs.ren id h (fun i hi => ?_) (fun _ _ _ _ h => h) (fun i hi => ⟨Nat.lt_of_lt_of_le hi hm, rfl⟩)
  have hg : H'[i]? = some (H'[i]'hi) := List.getElem?_eq_getElem hi
  have hg' : (H' ++ rest)[i]? = some (H'[i]'hi) := by rw [List.getElem?_append_left hi, hg]
  refine ⟨_, _, hg', hg, .inr (.inr ⟨hH _ (List.getElem_mem hi), ?_⟩), fun h => h⟩
  have e2 : AV.ren id = id := funext e
  generalize H'[i]'hi = b
  cases b with
  | dead => rfl
  | rows rs te => simp [ABlk.ren, e2]
  | amap es clock =>
    have : (fun (x : AV × AV × Nat) => (AV.ren id x.1, AV.ren id x.2.1, x.2.2)) = id := by funext x; simp [e]
    simp [ABlk.ren, this]
  | loop st pe fr ps as bd => simp [ABlk.ren, e2]
  | miter mid since seen last => simp [ABlk.ren]
  | siter s p => rfl
section
variable {C : Ctx} {ds : List (Option Tmp)} {dst : Option Tmp} {op : Op} {ty : TypeId} {pos : String} {af : Array Edge} {j : Nat} {b : Bool} {l : List Oper} {K : Exit → ASt → Prop} {N : ASt → Prop} {st : ASt} {p : Prop} [Decidable p]
end
attribute [go_sem] eq_self qrun_nil qrun_cons qrun_guard qgo_some qif_tt qif_ff qif_ft qif_tf qif_undef
end Go.Proofs.Ax
