import Derived.Test.YtedekogkeamacaaGreatDoorAxE
namespace Go.Proofs.Ax
open Go
set_option linter.unusedVariables false
section
theorem Reabs.virt {C : Ctx} {l : Fr} {N : Nat} {H : AH} (j k : Nat) (te : TypeId) (hj : alk j l = .sc (.slice none 0 0)) : Reabs C ⟨frm 0 l N, H⟩ ⟨frm 0 ((j, .sm H.length k 0 0) :: l) N, H ++ [.rows [] te]⟩ := by
  intro B I w ρ a hs; obtain ⟨h1, h2⟩ := hs.heap.virtual (.rows [] te); refine ⟨I, ρ, ⟨h1, ?_, fun i x hi => ?_, hs.marks.went h2, hs.base⟩, h2.gone⟩; rw [hs.size]; simp [frm_length]; simp only [frm_get] at hi; split at hi
  · rename_i hlt
    cases hi
    have h0 := hs.fr i (alk (0 + i) l) (by simp only [frm_get, if_pos hlt]); by_cases he : 0 + i = j
    · rw [he] at h0 ⊢; rw [hj] at h0; have : alk j ((j, AV.sm H.length k 0 0) :: l) = .sm H.length k 0 0 := by simp [alk]
      rw [this]; generalize a.tmps.getD i undef = v at h0
      cases h0
      exact .smNil
    rw [alk_ne he]; exact h0
  cases hi
theorem deepR {α : Type} {f : α → List AV} {l : List α} (h : ∀ a, (f a).all AV.deep = true) : AllDeep (l.map f) := by
  intro row hr x hx; obtain ⟨a, _, rfl⟩ := List.mem_map.1 hr; exact List.all_eq_true.1 (h a) x hx
theorem take_succ_snoc {α : Type} {l : List α} {k : Nat} (h : k < l.length) : l.take (k + 1) = l.take k ++ [l[k]] := by rw [List.take_succ_eq_append_getElem h]
theorem frz_all {id k : Nat} {rs : List (List AV)} {n : Nat} (h : n = rs.length) : (AV.sm id k 0 n).frz0 id rs = .sl k false rs := by
  subst h; simp [AV.frz0]
end
section
theorem AFnH.of_ev {P : Program} {G : Glob} {m : Nat} {T : TypeId → Option TI} {n : Nat} {f : FuncId} {fn : Func} {c : Code} {args : List AV} {H : AH} {Q : AV → AH → Prop} (ok : EC.Ok ⟨⟨P, G, m, none⟩, n, T⟩) (hm : H.length = m) (hf : P.funcs[f]? = some fn) (hb : fn.body = some c) (hn : fn.ntmps = n)
    (ha : args.length ≤ n) (h : forceFr (enumF 0 args) fun l => ev ⟨⟨P, G, m, none⟩, n, T⟩ c l H (retE ⟨⟨P, G, m, none⟩, n, T⟩ fn.results.toList Q)) : AFnH P G f args H Q := by
  rw [forceFr_eq] at h; subst hm; refine AFnH_of_wp hf hb ?_; subst hn
  have hs : AStartH fn args H = ⟨frm 0 (enumF 0 args) fn.ntmps, H⟩ := by
    simp only [AStartH]; rw [start_frm args _ ha]
  rw [hs]; refine (ev_ok ok _ _ _ _ h).mono ?_; rintro e st ⟨l', H', rfl, hk⟩; unfold retE at hk
  have fin : (resK ⟨⟨P, G, H.length, none⟩, fn.ntmps, T⟩ l' H' fn.results.toList fun xs => tupK xs fun y' => DoneN Q y' H') → ∃ xs, ares P ⟨frm 0 l' fn.ntmps, H'⟩ fn.results.toList = some xs ∧ Q (atuple xs) H' := by
    intro h; obtain ⟨xs, h1, h2⟩ := resK_ok ok _ _ h; rw [tupK_eq] at h2; exact ⟨xs, h1, h2.1⟩
  split at hk
  exact fin hk; exact fin hk; exact hk.elim
def Ef (P : Program) (G : Glob) (f : FuncId) (args : List AV) (H : AH) (Q : AV → AH → Prop) : Prop := HasBody P f ∧ AFnH P G f args H Q
theorem Ef.of_ev {P : Program} {G : Glob} {m : Nat} {T : TypeId → Option TI} {n : Nat} {f : FuncId} {fn : Func} {c : Code} {args : List AV} {H : AH} {Q : AV → AH → Prop} (ok : EC.Ok ⟨⟨P, G, m, none⟩, n, T⟩) (hm : H.length = m) (hf : P.funcs[f]? = some fn) (hb : fn.body = some c) (hn : fn.ntmps = n)
    (ha : args.length ≤ n) (h : forceFr (enumF 0 args) fun l => ev ⟨⟨P, G, m, none⟩, n, T⟩ c l H (retE ⟨⟨P, G, m, none⟩, n, T⟩ fn.results.toList Q)) : Ef P G f args H Q := ⟨⟨fn, c, hf, hb⟩, .of_ev ok hm hf hb hn ha h⟩
theorem CallN.ef {E : EC} {f : FuncId} {args : List AV} {H : AH} {Q : AV → AH → Prop} {k : AV → AH → Prop} (h : Ef E.C.P E.C.G f args H Q) (hk : ∀ y H', Q y H' → k y H') : CallN E f args H k := ⟨Q, h.1, h.2, hk⟩
theorem GCallN.ef {E : EC} {f : FuncId} {args : List AV} {H H' : AH} {y : AV} {kq : Bool → AV → Prop} {ke : AV → AH → Prop} (h : Ef E.C.P E.C.G f args H fun y' H2 => y' = y ∧ H2 = H') (hk : ke y H') : GCallN E f args H kq ke := .eff y H' h.1 h.2 hk
theorem RowSN.raw {rs : List (List AV)} {j : Nat} {row : List AV} {k : List AV → (List AV → (List (List AV) → Prop) → Prop) → Prop} (h : rs[j]? = some row) (hk : k row fun x K => K (rs.set j x)) : RowSN rs j k := ⟨row, _, h, fun _ _ h => h, hk⟩
theorem RowN.raw {rs : List (List AV)} {j : Nat} {row : List AV} {k : List AV → Prop} (h : rs[j]? = some row) (hk : k row) : RowN rs j k := ⟨row, h, hk⟩
end
section
inductive JoinN {σ : Type} (E : EC) (fr : σ → Fr) (hp : σ → AH) (inv : σ → Prop) (l : Fr) (H : AH) : Prop
  | mk (s : σ) (hi : inv s) (hre : Reabs E.C ⟨frm 0 l E.n, H⟩ ⟨frm 0 (fr s) E.n, hp s⟩)
theorem CodeN.of_ev {E : EC} (ok : E.Ok) {c : Code} {l : Fr} {H : AH} {k : XK} (h : ev E c l H k) : CodeN E c l H k := ⟨ev_ok ok _ _ _ _ h⟩
theorem CodeN.re {E : EC} {c : Code} {l l' : Fr} {H H' : AH} {k : XK} (h : Reabs E.C ⟨frm 0 l E.n, H⟩ ⟨frm 0 l' E.n, H'⟩) (hc : CodeN E c l' H' k) : CodeN E c l H k := ⟨AWp_reabs h hc.1⟩
theorem CodeN.seqE {E : EC} (ok : E.Ok) {a b : Code} {l : Fr} {H : AH} {k : XK} (h : ev E a l H fun e l' H' => match e with
    | .normal => CodeN E b l' H' k
    | e => k e l' H') : CodeN E (.seq a b) l H k := by
  refine ⟨AWp_seq ((ev_ok ok _ _ _ _ h).mono ?_)⟩; rintro e st ⟨l', H', rfl, hk⟩
  cases e <;> first | exact hk.1 | exact ⟨l', H', rfl, hk⟩
theorem CodeN.cut {σ : Type} {E : EC} (ok : E.Ok) {a b : Code} {l : Fr} {H : AH} {k : XK} (fr : σ → Fr) (hp : σ → AH) (inv : σ → Prop) (h1 : ev E a l H fun e l' H' => match e with
    | .normal => JoinN E fr hp inv l' H'
    | e => k e l' H') (h2 : ∀ s, inv s → CodeN E b (fr s) (hp s) k) : CodeN E (.seq a b) l H k := by
  refine ⟨AWp_seq ((ev_ok ok _ _ _ _ h1).mono ?_)⟩; rintro e st ⟨l', H', rfl, hk⟩
  cases e <;> first | exact ⟨l', H', rfl, hk⟩ | skip
  obtain ⟨s, hi, hre⟩ := hk; exact AWp_reabs hre (h2 s hi).1
theorem Ef.of_code {P : Program} {G : Glob} {m : Nat} {T : TypeId → Option TI} {n : Nat} {f : FuncId} {fn : Func} {c : Code} {args : List AV} {H : AH} {Q : AV → AH → Prop} (ok : EC.Ok ⟨⟨P, G, m, none⟩, n, T⟩) (hm : H.length = m) (hf : P.funcs[f]? = some fn) (hb : fn.body = some c) (hn : fn.ntmps = n)
    (ha : args.length ≤ n) (h : CodeN ⟨⟨P, G, m, none⟩, n, T⟩ c (enumF 0 args) H (retE ⟨⟨P, G, m, none⟩, n, T⟩ fn.results.toList Q)) : Ef P G f args H Q := by
  subst hm; refine ⟨⟨fn, c, hf, hb⟩, AFnH_of_wp hf hb ?_⟩; subst hn
  have hs : AStartH fn args H = ⟨frm 0 (enumF 0 args) fn.ntmps, H⟩ := by
    simp only [AStartH]; rw [start_frm args _ ha]
  rw [hs]; refine AWp.mono h.1 ?_; rintro e st ⟨l', H', rfl, hk⟩; unfold retE at hk
  have fin : (resK ⟨⟨P, G, H.length, none⟩, fn.ntmps, T⟩ l' H' fn.results.toList fun xs => tupK xs fun y' => DoneN Q y' H') → ∃ xs, ares P ⟨frm 0 l' fn.ntmps, H'⟩ fn.results.toList = some xs ∧ Q (atuple xs) H' := by
    intro h; obtain ⟨xs, h1, h2⟩ := resK_ok ok _ _ h; rw [tupK_eq] at h2; exact ⟨xs, h1, h2.1⟩
  split at hk
  exact fin hk; exact fin hk; exact hk.elim
end
section
theorem VRel.ren0F {I : Nat → Prop} {w : World} {ρ ρ2 : Places} {τ : Nat → Nat} (hρ : ∀ i l, ρ i = some l → ρ2 (τ i) = some l) {v : Value} {x : AV} {n : Nat} (h : VRel I w ρ v x) (hok : x.ok0 n = true) : VRel I w ρ2 v (x.ren0 τ) := by
  cases x with
  | sm id k o l =>
    cases h with
    | sm hp hcap hn => exact .sm (hρ _ _ hp) hcap hn
    | smNil => exact .smNil
  | pm id r c => cases h with | pm hp => exact .pm (hρ _ _ hp)
  | mp id => cases h with | mp hp => exact .mp (hρ _ _ hp)
  | yl id => cases h with | yl hp => exact .yl (hρ _ _ hp)
  | it id => cases h with | it hp => exact .it (hρ _ _ hp)
  | any => exact .any
  | sc u => exact VRel.deep h rfl _
  | sl k t rows => exact VRel.deep h rfl _
  | sz k => exact VRel.deep h rfl _
  | pi cells => exact VRel.deep h rfl _
  | agg cs => cases hok
  | tuple cs => cases hok
  | fn f fs cs => exact VRel.deep h hok _
  | iface t y => exact VRel.deep h hok _
theorem VRel.renF {I : Nat → Prop} {w : World} {ρ ρ2 : Places} {τ : Nat → Nat} (hρ : ∀ i l, ρ i = some l → ρ2 (τ i) = some l) {v : Value} {x : AV} {n : Nat} (h : VRel I w ρ v x) (hok : x.ok n = true) : VRel I w ρ2 v (x.ren τ) := by
  have back : ∀ {f : AV → AV} {l : List AV} {i : Nat} {x : AV}, (l.map f)[i]? = some x → ∃ y, l[i]? = some y ∧ x = f y := by
    intro f l i x h; rw [List.getElem?_map] at h
    cases hy : l[i]? with
    | none => rw [hy] at h; cases h
    | some y => rw [hy] at h; cases h; exact ⟨y, rfl, rfl⟩
  cases x with
  | agg cs =>
    simp only [AV.ok, List.all_eq_true] at hok
    cases h with
    | agg hl h1 hv =>
      refine .agg (by simpa using hl) (fun i x hx => ?_) (fun i x hx => ?_); obtain ⟨y, hy, -⟩ := back hx; exact h1 i y hy; obtain ⟨y, hy, rfl⟩ := back hx; exact (hv i y hy).ren0F hρ (hok y (List.mem_of_getElem? hy))
  | tuple cs =>
    simp only [AV.ok, List.all_eq_true] at hok
    cases h with
    | tuple hl hv =>
      refine .tuple (by simpa using hl) (fun i x hx => ?_); obtain ⟨y, hy, rfl⟩ := back hx; exact (hv i y hy).ren0F hρ (hok y (List.mem_of_getElem? hy))
  | fn f fs cs =>
    simp only [AV.ok, Bool.and_eq_true, List.all_eq_true] at hok
    cases h with
    | fn hl hl' hv hv' =>
      refine .fn (by simpa using hl) (by simpa using hl') (fun i x hx => ?_) (fun i x hx => ?_); obtain ⟨y, hy, rfl⟩ := back hx; exact (hv i y hy).ren0F hρ (hok.1 y (List.mem_of_getElem? hy)); obtain ⟨y, hy, rfl⟩ := back hx; exact (hv' i y hy).ren0F hρ (hok.2 y (List.mem_of_getElem? hy))
  | any => exact .any
  | sc u => exact VRel.ren0F (n := n) hρ h hok
  | sl k t rows => exact VRel.ren0F (n := n) hρ h hok
  | sz k => exact VRel.ren0F (n := n) hρ h hok
  | pi cells => exact VRel.ren0F (n := n) hρ h hok
  | sm id k o l => exact VRel.ren0F (n := n) hρ h hok
  | pm id r c => exact VRel.ren0F (n := n) hρ h hok
  | mp id => exact VRel.ren0F (n := n) hρ h hok
  | yl id => exact VRel.ren0F (n := n) hρ h hok
  | it id => exact VRel.ren0F (n := n) hρ h hok
  | iface t y => exact VRel.ren0F (n := n) hρ h hok
theorem mapBack {α β : Type} {f : α → β} {l : List α} {i : Nat} {x : β} (h : (l.map f)[i]? = some x) : ∃ y, l[i]? = some y ∧ x = f y := by
  rw [List.getElem?_map] at h
  cases hy : l[i]? with
  | none => rw [hy] at h; cases h
  | some y => rw [hy] at h; cases h; exact ⟨y, rfl, rfl⟩
theorem BRel.renF {I : Nat → Prop} {w : World} {ρ ρ2 : Places} {τ : Nat → Nat} (hρ : ∀ i l, ρ i = some l → ρ2 (τ i) = some l) {l : Loc} {b : ABlk} {n : Nat} (h : BRel I w ρ l b) (hok : b.ok n) : BRel I w ρ2 l (b.ren τ) := by
  cases b with
  | dead => exact trivial
  | rows rs te =>
    obtain ⟨⟨cells, hg, hsz, hc⟩, h2, h3⟩ := h; refine ⟨⟨cells, hg, hsz, fun i j row x hi hj => ?_⟩, by simpa using h2, fun r hr => ?_⟩
    · obtain ⟨row0, hi', rfl⟩ := mapBack hi; obtain ⟨x0, hj', rfl⟩ := mapBack hj; exact ⟨(hc i j _ _ hi' hj').1, (hc i j _ _ hi' hj').2.renF hρ (hok _ (List.mem_of_getElem? hi') _ (List.mem_of_getElem? hj'))⟩
    obtain ⟨r0, hr0, rfl⟩ := List.mem_map.1 hr; simpa using h3 r0 hr0
  | amap es clock =>
    obtain ⟨ms, hg, hsz, hr⟩ := h; refine ⟨ms, hg, by simpa using hsz, fun i m e hm he => ?_⟩; obtain ⟨e0, he', rfl⟩ := mapBack he; exact ⟨(hr i m _ hm he').1.renF hρ (hok _ (List.mem_of_getElem? he')).1, (hr i m _ hm he').2.1.renF hρ (hok _ (List.mem_of_getElem? he')).2, (hr i m _ hm he').2.2⟩
  | loop st pe fr ps as bd =>
    obtain ⟨r, hg, h1, h2, h3, h4, h5, h6, h7⟩ := h; refine ⟨r, hg, h1, h2, h3, h4, h5, by simpa using h6, fun i x hi => ?_⟩; obtain ⟨x0, hi', rfl⟩ := mapBack hi; exact (h7 i _ hi').renF hρ (hok _ (List.mem_of_getElem? hi'))
  | miter mid since seen last =>
    obtain ⟨mb, hg, hm⟩ := h; refine ⟨mb, hg, ?_⟩
    cases mid with
    | none => exact hm
    | some m =>
      obtain ⟨l', h1, h2⟩ := hm; exact ⟨l', hρ _ _ h1, h2⟩
  | siter s p => exact h
theorem ren_live {τ : Nat → Nat} {b : ABlk} : (b.ren τ).live = b.live := by cases b <;> rfl
def tau (ids : List Nat) (m : Nat) (i : Nat) : Nat := if i < ids.length then ids.getD i 0 else m + (i - ids.length)
def setIds (τ : Nat → Nat) : List Nat → AH → AH → AH
  | [], _, H => H
  | _ :: _, [], H => H
  | i :: is, b :: bs, H => setIds τ is bs (H.set i (b.ren τ))
theorem setIds_len (τ : Nat → Nat) : ∀ (ids : List Nat) (bs H : AH), (setIds τ ids bs H).length = H.length
  | [], bs, H => rfl
  | i :: is, [], H => rfl
  | i :: is, b :: bs, H => by rw [setIds, setIds_len τ is bs]; simp
theorem setIds_get (τ : Nat → Nat) : ∀ (ids : List Nat) (bs H : AH) (j : Nat), ids.Nodup → ids.length ≤ bs.length → (∀ i ∈ ids, i < H.length) → (setIds τ ids bs H)[j]? = match ids.idxOf? j with
    | some i => (bs[i]?).map (ABlk.ren τ)
    | none => H[j]?
  | [], bs, H, j, _, _, _ => rfl
  | i :: is, [], H, j, _, h, _ => by simp at h
  | i :: is, b :: bs, H, j, hn, h, hi => by
    have hn' := List.nodup_cons.1 hn; rw [setIds, setIds_get τ is bs _ j hn'.2 (by simpa using h) (fun k hk => by simpa using hi k (List.mem_cons_of_mem _ hk))]; rw [List.idxOf?_cons]; by_cases he : i = j
    · subst he; have : is.idxOf? i = none := by rw [List.idxOf?_eq_none_iff]; exact hn'.1
      rw [this]; simp [hi i (List.mem_cons_self ..)]
    have hb : (i == j) = false := by simpa using he
    rw [hb]
    cases hq : is.idxOf? j with
    | none => simp [he]
    | some q => simp
theorem tau_lt {ids : List Nat} {m i : Nat} (h : i < ids.length) : tau ids m i = ids[i] := by simp [tau, h, List.getD_eq_getElem?_getD]
theorem tau_ge {ids : List Nat} {m i : Nat} (h : ids.length ≤ i) : tau ids m i = m + (i - ids.length) := by simp [tau, Nat.not_lt.2 h]
theorem idx_of {ids : List Nat} (hn : ids.Nodup) {i : Nat} (h : i < ids.length) : ids.idxOf? ids[i] = some i := by
  rw [List.idxOf?_eq_some_iff]
  exact ⟨h, rfl, fun j hj he => by
    have := (List.getElem_inj hn).1 he
    omega⟩
theorem AFnH.sub {P : Program} {G : Glob} {f : FuncId} {args0 : List AV} {H0 : AH} {Q : AV → AH → Prop} (h : AFnH P G f args0 H0 Q) (hQ : ∀ y H', Q y H' → y.ok H'.length = true ∧ H0.length ≤ H'.length ∧ ∀ b ∈ H', b.ok H'.length)
    {H : AH} (ids : List Nat) (hnd : ids.Nodup) (hb : AllB (sigma ids) H0.length H ids H0) {args : List AV} (ha : args = args0.map (AV.ren (sigma ids))) (hok : ∀ x ∈ args0, x.ok H0.length = true) :
    AFnH P G f args H fun y' H2 => ∃ y H', Q y H' ∧ y' = y.ren (tau ids H.length) ∧ H2 = setIds (tau ids H.length) ids H' H ++ (H'.drop ids.length).map (ABlk.ren (tau ids H.length)) := by
  intro I w ρ vs hh hl hv; obtain ⟨g1, g2⟩ := hb.get
  have hlt0 : ∀ {i : Nat} {b : ABlk}, H0[i]? = some b → i < H0.length := fun h => (List.getElem?_eq_some_iff.1 h).1
  have hin : ∀ j ∈ ids, j < H.length := fun j hj => by
    obtain ⟨i, hi, rfl⟩ := List.getElem_of_mem hj; obtain ⟨j, b, b', e1, e2, -⟩ := g2 i (by omega); rw [List.getElem?_eq_getElem hi] at e1
    cases e1
    exact (List.getElem?_eq_some_iff.1 e2).1
  have hsig : ∀ i (hi : i < ids.length), sigma ids i = ids[i] := fun i hi => by simp [sigma, List.getD_eq_getElem?_getD, hi]
  have hpl : ∀ {i : Nat} {l : Loc}, (ρ.sub (sigma ids) H0.length) i = some l → ∃ hi : i < ids.length, ρ ids[i] = some l := by
    intro i l h; simp only [Places.sub] at h; split at h
    · rename_i hi; exact ⟨by omega, by rw [← hsig i (by omega)]; exact h⟩
    cases h
  have hlive : ∀ {i : Nat} {b' : ABlk}, H0[i]? = some b' → b'.live = true → ∃ (hi : i < ids.length) (b : ABlk), H[ids[i]]? = some b ∧ b.live = true ∧ Blk (sigma ids) H0.length b b' := by
    intro i b' hi hb; obtain ⟨j, b, b'', e1, e2, e3, e4, e5⟩ := g2 i (hlt0 hi); rw [hi] at e3
    cases e3
    have hi' : i < ids.length := by have := hlt0 hi; omega
    rw [List.getElem?_eq_getElem hi'] at e1
    cases e1
    exact ⟨hi', b, e2, e5 hb, e4⟩
  have hown : ∀ b, Owned (ρ.sub (sigma ids) H0.length) H0 b → ∃ i, ∃ (hi : i < ids.length) (b0 : ABlk) (l : Loc), H[ids[i]]? = some b0 ∧ b0.live = true ∧ ρ ids[i] = some l ∧ l.blk = b := by
    rintro b ⟨i, b', l, hi, hbl, hp, rfl⟩; obtain ⟨hi', b0, e1, e2, -⟩ := hlive hi hbl; obtain ⟨_, hp'⟩ := hpl hp; exact ⟨i, hi', b0, l, e1, e2, hp', rfl⟩
  have h0 : HRel G I w (ρ.sub (sigma ids) H0.length) H0 := by
    refine ⟨fun i b' l hi hbl hp => ?_, fun i j b b' l l' hi hj hbi hbj hp hp' he => ?_, fun i l hp => ?_, hh.old, hh.glob⟩
    · obtain ⟨hi', b0, e1, e2, e3⟩ := hlive hi hbl; obtain ⟨_, hp'⟩ := hpl hp; obtain ⟨k1, k2, k3⟩ := hh.blk _ _ _ e1 e2 hp'; exact ⟨k1, k2, k3.blk e3⟩
    · obtain ⟨hi', b0, e1, e2, -⟩ := hlive hi hbi; obtain ⟨hj', b1, e3, e4, -⟩ := hlive hj hbj; obtain ⟨_, p1⟩ := hpl hp; obtain ⟨_, p2⟩ := hpl hp'; exact (List.getElem_inj hnd).1 (hh.inj _ _ _ _ _ _ e1 e3 e2 e4 p1 p2 he)
    obtain ⟨hi, -⟩ := hpl hp; omega
  subst ha; refine (h I w _ vs h0 (by simpa using hl) (fun i x hx => (hv i _ (getElem?_map_some hx)).ren (hok x (List.mem_of_getElem? hx)))).mono ?_; rintro e w' ⟨v, rfl, I', ρ1, H1, y, q, k1, k2, k3⟩; obtain ⟨oky, hle, okb⟩ := hQ y H1 q; generalize hτ : tau ids H.length = τ
  let ρ2 : Places := fun j => match ids.idxOf? j with
    | some i => ρ1 i
    | none => if j < H.length then ρ j else ρ1 (j - H.length + ids.length)
  have hidn : ∀ {j : Nat}, j ∉ ids → ids.idxOf? j = none := fun h => List.idxOf?_eq_none_iff.2 h
  have hτ1 : ∀ i (hi : i < ids.length), τ i = ids[i] := fun i hi => by rw [← hτ]; exact tau_lt hi
  have hτ2 : ∀ i, ids.length ≤ i → τ i = H.length + (i - ids.length) := fun i hi => by rw [← hτ]; exact tau_ge hi
  have hρτ : ∀ i, ρ2 (τ i) = ρ1 i := fun i => by
    by_cases hi : i < ids.length
    simp only [ρ2, hτ1 i hi, idx_of hnd hi]; have e := hτ2 i (by omega)
    have hni : τ i ∉ ids := fun hm => by have := hin _ hm; omega
    simp only [ρ2, hidn hni]; rw [if_neg (by omega), e, show H.length + (i - ids.length) - H.length + ids.length = i by omega]
  have hρ2n : ∀ {j : Nat}, j ∉ ids → j < H.length → ρ2 j = ρ j := fun h1 h2 => by simp only [ρ2, hidn h1, if_pos h2]
  have hρ2 : ∀ j l, ρ j = some l → ρ2 j = some l := fun j l hp => by
    by_cases hj : j ∈ ids
    · obtain ⟨i, hi, rfl⟩ := List.getElem_of_mem hj; rw [← hτ1 i hi, hρτ]; refine k3.place i l (by omega) ?_; simp only [Places.sub, if_pos (show i < H0.length by omega), hsig i hi]; exact hp
    rw [hρ2n hj (hh.dom _ _ hp)]; exact hp
  have hρF : ∀ i l, ρ1 i = some l → ρ2 (τ i) = some l := fun i l h => by rw [hρτ]; exact h
  have hcls : ∀ {j : Nat} {b2 : ABlk}, (setIds τ ids H1 H ++ (H1.drop ids.length).map (ABlk.ren τ))[j]? = some b2 → (∃ i b1, H1[i]? = some b1 ∧ j = τ i ∧ b2 = b1.ren τ) ∨ (j ∉ ids ∧ j < H.length ∧ H[j]? = some b2) := by
    intro j b2 hj; by_cases hjl : j < H.length
    · rw [List.getElem?_append_left (by rw [setIds_len]; exact hjl), setIds_get τ ids H1 H j hnd (by omega) hin] at hj; by_cases hm : j ∈ ids
      · obtain ⟨i, hi, rfl⟩ := List.getElem_of_mem hm; rw [idx_of hnd hi] at hj; simp only at hj
        cases h1 : H1[i]? with
        | none => rw [h1] at hj; cases hj
        | some b1 => rw [h1] at hj; cases hj; exact .inl ⟨i, b1, h1, (hτ1 i hi).symm, rfl⟩
      rw [hidn hm] at hj; exact .inr ⟨hm, hjl, hj⟩
    rw [List.getElem?_append_right (by rw [setIds_len]; omega), setIds_len] at hj; obtain ⟨b1, h1, rfl⟩ := mapBack hj; rw [List.getElem?_drop] at h1; exact .inl ⟨_, b1, h1, by rw [hτ2 _ (by omega)]; omega, rfl⟩
  have hsep : ∀ {j : Nat} {b : ABlk} {l : Loc}, j ∉ ids → H[j]? = some b → b.live = true → ρ j = some l → ¬ Owned (ρ.sub (sigma ids) H0.length) H0 l.blk := by
    intro j b l hj hb hl hp ho; obtain ⟨i, hi, b0, l0, e1, e2, e3, e4⟩ := hown _ ho; exact hj (by rw [← hh.inj _ _ _ _ _ _ e1 hb e2 hl e3 hp e4]; exact List.getElem_mem hi)
  have hownH : ∀ b, Owned (ρ.sub (sigma ids) H0.length) H0 b → Owned ρ H b := fun b ho => by
    obtain ⟨i, hi, b0, l0, e1, e2, e3, e4⟩ := hown _ ho; exact ⟨_, b0, l0, e1, e2, e3, e4⟩
  have hkeep : Keeps I I' w w' := ⟨k3.sub, fun b hb => k3.frame b (hh.old b hb) (fun ho => by
    obtain ⟨i, hi, b0, l0, e1, e2, e3, rfl⟩ := hown _ ho
    exact (hh.blk _ _ _ e1 e2 e3).2.1 hb)⟩
  refine ⟨v, rfl, I', ρ2, _, _, ⟨y, H1, q, rfl, rfl⟩, ⟨fun j b2 l hj hl2 hp => ?_, fun j j' b b' l l' hj hj' hl1 hl2 hp hp' he => ?_, fun j l hp => ?_, k1.old, k1.glob⟩, k2.renF hρF oky, ⟨k3.sub, fun id l _ hp => hρ2 id l hp, k3.size, k3.os, k3.tape, k3.output, fun b hb ho => k3.frame b hb (fun h => ho (hownH b h)), ?_, fun b hb => ?_⟩⟩
  · rcases hcls hj with ⟨i, b1, h1, rfl, rfl⟩ | ⟨hm, hjl, hjb⟩
    · rw [hρτ] at hp; obtain ⟨e1, e2, e3⟩ := k1.blk i b1 l h1 (by rw [← ren_live]; exact hl2) hp; exact ⟨e1, e2, e3.renF hρF (okb _ (List.mem_of_getElem? h1))⟩
    rw [hρ2n hm hjl] at hp; obtain ⟨e1, e2, e3⟩ := hh.blk j b2 l hjb hl2 hp; have hns := hsep hm hjb hl2 hp; refine ⟨Nat.lt_of_lt_of_le e1 k3.size, fun hI => ?_, e3.mono hkeep hρ2 (k3.frame _ e1 hns)⟩
    rcases k3.new _ hI with g | g | g
    exact e2 g; omega; exact hns g
  · have cross : ∀ {i j' : Nat} {b1 b' : ABlk} {l l' : Loc}, H1[i]? = some b1 → b1.live = true → ρ1 i = some l → j' ∉ ids → H[j']? = some b' → b'.live = true → ρ j' = some l' → l.blk = l'.blk → False := by
      intro i j' b1 b' l l' h1 hl1 hp hm hb' hl' hp' he; have hlt := (hh.blk _ _ _ hb' hl' hp').1; exact hsep hm hb' hl' hp' (by rw [← he]; exact k3.own _ ⟨i, b1, l, h1, hl1, hp, rfl⟩ (by omega))
    rcases hcls hj with ⟨i, b1, h1, rfl, rfl⟩ | ⟨hm, hjl, hjb⟩ <;> rcases hcls hj' with ⟨i', b1', h1', rfl, rfl⟩ | ⟨hm', hjl', hjb'⟩
    · rw [hρτ] at hp hp'; rw [ren_live] at hl1 hl2; rw [k1.inj i i' _ _ _ _ h1 h1' hl1 hl2 hp hp' he]
    · rw [hρτ] at hp; rw [hρ2n hm' hjl'] at hp'; exact (cross h1 (by rw [← ren_live]; exact hl1) hp hm' hjb' hl2 hp' he).elim
    · rw [hρτ] at hp'; rw [hρ2n hm hjl] at hp; exact (cross h1' (by rw [← ren_live]; exact hl2) hp' hm hjb hl1 hp he.symm).elim
    rw [hρ2n hm hjl] at hp; rw [hρ2n hm' hjl'] at hp'; exact hh.inj _ _ _ _ _ _ hjb hjb' hl1 hl2 hp hp' he
  · simp only [List.length_append, setIds_len, List.length_map, List.length_drop]; by_cases hm : j ∈ ids
    have := hin j hm; omega; by_cases hjl : j < H.length
    omega; simp only [ρ2, hidn hm, if_neg hjl] at hp; have := k1.dom _ _ hp; omega
  · rintro b ⟨j, b2, l, hj, hl2, hp, rfl⟩ hlt
    rcases hcls hj with ⟨i, b1, h1, rfl, rfl⟩ | ⟨hm, hjl, hjb⟩
    · rw [hρτ] at hp; exact hownH _ (k3.own _ ⟨i, b1, l, h1, by rw [← ren_live]; exact hl2, hp, rfl⟩ hlt)
    rw [hρ2n hm hjl] at hp; exact ⟨j, b2, l, hjb, hl2, hp, rfl⟩
  rcases k3.new _ hb with g | g | g
  exact .inl g; exact .inr (.inl g); exact .inr (.inr (hownH _ g))
end
section
theorem ren_id (x : AV) : x.ren id = x := by
  have e0 : ∀ x : AV, x.ren0 id = x := by intro x; cases x <;> rfl
  have e1 : AV.ren0 id = id := funext e0
  cases x <;> first | rfl | simp [AV.ren, e1]
theorem blk_ren_id (b : ABlk) : b.ren id = b := by
  have e : AV.ren id = id := funext ren_id
  cases b with
  | rows rs te => simp [ABlk.ren, e]
  | amap es c => simp [ABlk.ren, e]
  | loop st pe fr ps as bd => simp [ABlk.ren, e]
  | miter mid since seen last => simp [ABlk.ren]
  | siter s p => rfl
  | dead => rfl
theorem HRel.keep {G : Glob} {I : Nat → Prop} {w : World} {ρ : Places} {H : AH} {m : Nat} (h : HRel G I w ρ H) (hm : m ≤ H.length) (hok : ∀ b ∈ H.take m, b.ok m) : HRel G I w (ρ.sub id m) (H.take m) := by
  have hget : ∀ {i : Nat} {b : ABlk}, (H.take m)[i]? = some b → i < m ∧ H[i]? = some b := by
    intro i b hi; rw [List.getElem?_take] at hi; split at hi
    exact ⟨by assumption, hi⟩
    cases hi
  have hpl : ∀ {i : Nat} {l : Loc}, (ρ.sub id m) i = some l → i < m ∧ ρ i = some l := by
    intro i l h; simp only [Places.sub] at h; split at h
    exact ⟨by assumption, h⟩
    cases h
  refine ⟨fun i b l hi hl hp => ?_, fun i j b b' l l' hi hj hl hl' hp hp' he => ?_, fun i l hp => ?_, h.old, h.glob⟩
  · obtain ⟨e1, e2, e3⟩ := h.blk i b l (hget hi).2 hl (hpl hp).2; exact ⟨e1, e2, e3.blk (.inr (.inr ⟨hok b (List.mem_of_getElem? hi), (blk_ren_id b).symm⟩))⟩
  exact h.inj i j b b' l l' (hget hi).2 (hget hj).2 hl hl' (hpl hp).2 (hpl hp').2 he; have := (hpl hp).1; simp; omega
inductive FinTo (m : Nat) : AH → AV → AV → AH → Prop
  | done (H : AH) (y : AV) (Hz : AH) (hm : m ≤ H.length) (he : H.take m = Hz) (hok : ∀ b ∈ Hz, b.ok m) (hy : y.deep2 = true) : FinTo m H y y Hz
  | step {H : AH} {y z : AV} {Hz : AH} (id : Nat) (rs : List (List AV)) (te : TypeId) (hid : H[id]? = some (.rows rs te)) (hd : AllDeep rs) (h : FinTo m (frzH id rs H) (y.frz2 id rs) z Hz) : FinTo m H y z Hz
  | loose {H : AH} {z : AV} {Hz : AH} (k : Nat) (rows : List (List AV)) (h : FinTo m H (.sl k false rows) z Hz) : FinTo m H (.sl k true rows) z Hz
  | nil {H : AH} {z : AV} {Hz : AH} (k : Nat) (t : Bool) (h : FinTo m H (.sl k t []) z Hz) : FinTo m H (.sc (.slice none 0 0)) z Hz
theorem FinTo.rel {G : Glob} {w : World} {ρ : Places} {v : Value} {m : Nat} {y z : AV} {H Hz : AH} (h : FinTo m H y z Hz) : ∀ {I : Nat → Prop}, HRel G I w ρ H → VRel I w ρ v y → ∃ I2 ρ2, HRel G I2 w ρ2 Hz ∧ VRel I2 w ρ2 v z ∧ Gone m I w ρ H I2 w ρ2 Hz := by
  induction h with
  | done H y Hz hm he hok hy =>
    intro I hh hv; subst he; refine ⟨I, _, hh.keep hm hok, hv.deep2 hy _, ⟨fun _ h => h, fun i l hi hp => by simp only [Places.sub, if_pos hi]; exact hp, Nat.le_refl _, rfl, rfl, rfl, fun _ _ _ => rfl, fun b ho _ => ?_, fun b hb => .inl hb⟩⟩; obtain ⟨i, b', l, h1, h2, h3, rfl⟩ := ho; rw [List.getElem?_take] at h1; split at h1
    · rename_i hi; simp only [Places.sub, if_pos hi] at h3; exact ⟨i, b', l, h1, h2, h3, rfl⟩
    cases h1
  | step id rs te hid hd h ih =>
    intro I hh hv; obtain ⟨I2, h1, h2, h3, h4⟩ := hh.frz hid hd; obtain ⟨I3, ρ3, g1, g2, g3⟩ := ih h3 (hv.frz2 hh hid hd h1 h2); exact ⟨I3, ρ3, g1, g2, h4.gone.trans g3⟩
  | loose k rows h ih =>
    intro I hh hv; exact ih hh (hv.weaker .sl)
  | nil k t h ih =>
    intro I hh hv
    cases hv
    exact ih hh .slNil
theorem AFnH.fin {P : Program} {G : Glob} {f : FuncId} {args : List AV} {H : AH} {z : AV} {Hz : AH} (h : AFnH P G f args H fun y H' => FinTo H.length H' y z Hz) : AFnH P G f args H fun y H' => y = z ∧ H' = Hz := fun I w ρ vs h1 h2 h3 =>
  (h I w ρ vs h1 h2 h3).mono fun e w' ⟨v, e1, I', ρ', H', y, g1, g2, g3, g4⟩ => by
    obtain ⟨I2, ρ2, k1, k2, k3⟩ := g1.rel g2 g3; exact ⟨v, e1, I2, ρ2, Hz, z, ⟨rfl, rfl⟩, k1, k2, g4.trans k3⟩
theorem Ef.fin {P : Program} {G : Glob} {f : FuncId} {args : List AV} {H : AH} {z : AV} {Hz : AH} (h : Ef P G f args H fun y H' => FinTo H.length H' y z Hz) : Ef P G f args H fun y H' => y = z ∧ H' = Hz := ⟨h.1, h.2.fin⟩
end
section
def setsF : Fr → List Tmp → List AV → (Fr → Prop) → Prop
  | l, [], _, k => k l
  | l, _ :: _, [], k => k l
  | l, t :: ts, x :: xs, k => setsF ((t, x) :: l) ts xs k
theorem setsF_ok {n : Nat} {H : AH} : ∀ (ts : List Tmp) (xs : List AV) (l : Fr) (k : Fr → Prop), setsF l ts xs k → ∃ l', asets (frm 0 l n) (ts.zip xs) = frm 0 l' n ∧ k l'
  | [], xs, l, k, h => ⟨l, by simp [asets], h⟩
  | t :: ts, [], l, k, h => ⟨l, by simp [asets], h⟩
  | t :: ts, x :: xs, l, k, h => by
    obtain ⟨l', h1, h2⟩ := setsF_ok (n := n) (H := H) ts xs _ k h; refine ⟨l', ?_, h2⟩; simp only [List.zip_cons_cons, asets]; have := (frm_set l t x n 0).1 (Nat.zero_le _); rw [Nat.sub_zero] at this; rw [this]; exact h1
def loopAt (H : AH) (id : Nat) (k : LoopState → Option Code → List AV → Array Tmp → Code → Code → Prop) : Prop :=
  match nthB H id with
  | some (.loop s pe fr ps as bd) => k s pe fr ps as bd
  | _ => False
theorem loopAt_ok {H : AH} {id : Nat} {k : LoopState → Option Code → List AV → Array Tmp → Code → Code → Prop} (h : loopAt H id k) : ∃ s pe fr ps as bd, H[id]? = some (.loop s pe fr ps as bd) ∧ k s pe fr ps as bd := by
  unfold loopAt at h; split at h
  · rename_i s pe fr ps as bd hb; rw [nthB_eq] at hb; exact ⟨s, pe, fr, ps, as, bd, hb, h⟩
  exact h.elim
def roundE (id : Nat) (k : AV → AH → Prop) : XK := fun e l H => match e with
  | .normal => loopAt H id fun s pe fr ps as bd => setK H id (.loop .ready none fr ps as bd) fun H' => k (.sc (.bool true)) H'
  | .ret => loopAt H id fun s pe fr ps as bd => setK H id (.loop .done (some .ret) fr ps as bd) fun H' => k (.sc (.bool false)) H'
  | .exit i => loopAt H id fun s pe fr ps as bd => setK H id (.loop .done (some (.exit i)) fr ps as bd) fun H' => k (.sc (.bool false)) H'
  | _ => False
def inRound (E : EC) (H : AH) (id n : Nat) : EC := ⟨⟨E.C.P, E.C.G, H.length, some id⟩, n, E.T⟩
def bodyE (E : EC) (id : Nat) (bd : Code) (k : AV → AH → Prop) : XK := fun e l H => match e with
  | .normal => loopAt H id fun s pe fr ps as bd' => match s with
    | .ready => setK H id (.loop .busy pe fr ps as bd') fun H' => ev E bd l H' (roundE id k)
    | _ => False
  | _ => False
theorem inRound_ok {E : EC} (ok : E.Ok) (H : AH) (id n : Nat) : (inRound E H id n).Ok := ⟨ok.tab, ok.ent, ok.mix⟩
theorem OpN.yl {E : EC} (ok : E.Ok) {fo : Operand} {args : Array Operand} {ats : Array TypeId} {ty : TypeId} {l : Fr} {H : AH} {k : AV → AH → Prop} {id n : Nat} {pe : Option Code} {fl : Fr} {ps : Array Tmp} {as bd : Code}
    (hfo : evo E l fo = .yl id) (hid : nthB H id = some (.loop .ready pe (frm 0 fl n) ps as bd)) (hlen : args.size = ps.size)
    (h : mapE E l args.toList fun xs => setsF fl ps.toList xs fun fl1 => ev (inRound E H id n) as fl1 H (bodyE (inRound E H id n) id bd k)) : OpN E (.call ⟨.value fo, args, ats⟩) ty l H k := by
  have ok' := inRound_ok ok H id n; rw [mapE_eq] at h; obtain ⟨fl1, e1, h⟩ := setsF_ok (n := n) (H := H) _ _ _ _ h; refine ⟨fun dst pos af g => AOp_yield rfl (by rw [← evo_eq E l H]; exact hfo) (by rw [← nthB_eq]; exact hid) hlen ?_⟩; rw [← show evo E l = (⟨frm 0 l E.n, H⟩ : ASt).ev E.C.G from funext (evo_eq E l H), e1]; refine (ev_ok ok' _ _ _ _ h).mono ?_; rintro e st ⟨l1, H1, rfl, hk⟩
  cases e <;> simp only [bodyE] at hk
  case normal =>
    obtain ⟨s, pe', fr', ps', as', bd', h1, h2⟩ := loopAt_ok hk
    cases s <;> simp only at h2
    rw [setK_eq] at h2; refine ⟨rfl, pe', fr', ps', as', bd', h1, (ev_ok ok' _ _ _ _ h2).mono ?_⟩; rintro e st ⟨l2, H2, rfl, hk⟩
    cases e <;> simp only [roundE] at hk
    all_goals
      obtain ⟨s, pe', fr', ps', as', bd', h1, h2⟩ := loopAt_ok hk; rw [setK_eq] at h2; exact ⟨_, s, pe', fr', ps', as', bd', rfl, h1, _, _, rfl, h2⟩
def rangedE (l : Fr) (m : Nat) (E : EC) (k : XK) (H : AH) : Prop :=
  loopAt H m fun s pe fr ps as bd => s ≠ .busy ∧ match pe with
    | none => setK H m .dead fun H' => k .normal l H'
    | some c => setK H m .dead fun H' => CodeN E c l H' k
theorem RangeN.of {E : EC} (ok : E.Ok) (hr : E.C.r = none) {f : Operand} {ps : Array Tmp} {as bd : Code} {l : Fr} {H : AH} {k : XK} {g : FuncId} {fs cs : List AV} {Q : AV → AH → Prop} (hf : afunc (evo E l f) = some (g, fs, cs))
    (h : Ef E.C.P E.C.G g (fs ++ [.yl H.length] ++ cs) (H ++ [.loop .ready none (frm 0 l E.n) ps as bd]) Q) (hQ : ∀ y H', Q y H' → rangedE l H.length E k H') : RangeN E f ps as bd l H k := by
  obtain ⟨⟨fn, c, hfn, hb⟩, hq⟩ := h; rw [evo_eq E l H] at hf; refine ⟨AWp_rangeFunc hf ok.ent hfn hb (fun id hid => by rw [hr] at hid; cases hid) hq fun y H' hy => ?_⟩; obtain ⟨s, pe, fr, ps, as, bd, h1, h2, h3⟩ := loopAt_ok (hQ y H' hy); refine ⟨s, pe, fr, ps, as, bd, h1, h2, ?_⟩
  cases pe with
  | none =>
    simp only [setK_eq] at h3; exact ⟨l, _, rfl, h3⟩
  | some c =>
    simp only [setK_eq] at h3; exact h3.1
def OkBs (n : Nat) : AH → Prop
  | [] => True
  | b :: bs => b.ok n ∧ OkBs n bs
theorem OkBs.all {n : Nat} : ∀ {bs : AH}, OkBs n bs → ∀ b ∈ bs, b.ok n
  | [], _, b, h => by cases h
  | c :: bs, ⟨h1, h2⟩, b, h => by
    rcases List.mem_cons.1 h with rfl | h
    exact h1; exact OkBs.all h2 b h
theorem deep0_ok {x : AV} (h : x.deep0 = true) (n : Nat) : x.ok0 n = true := by cases x <;> first | rfl | cases h
theorem deep0_ren {x : AV} (h : x.deep0 = true) (τ : Nat → Nat) : x.ren0 τ = x := by cases x <;> first | rfl | cases h
theorem deep_ok0 {x : AV} (h : x.deep = true) (n : Nat) : x.ok n = true := by
  cases x <;> first | exact h | (cases h; done) | skip
  simp only [AV.deep, Bool.and_eq_true, List.all_eq_true] at h; simp only [AV.ok, Bool.and_eq_true, List.all_eq_true]; exact ⟨fun x hx => deep0_ok (h.1 x hx) n, fun x hx => deep0_ok (h.2 x hx) n⟩
theorem deep_ren {x : AV} (h : x.deep = true) (τ : Nat → Nat) : x.ren τ = x := by
  cases x <;> first | rfl | (cases h; done) | skip
  simp only [AV.deep, Bool.and_eq_true, List.all_eq_true] at h
  have key : ∀ l : List AV, (∀ x ∈ l, x.deep0 = true) → l.map (AV.ren0 τ) = l := fun l hl => by
    conv => rhs; rw [← List.map_id l]
    exact List.map_congr_left fun x hx => deep0_ren (hl x hx) τ
  simp only [AV.ren, key _ h.1, key _ h.2]
theorem okDeep {rs : List (List AV)} {te : TypeId} (h : AllDeep rs) (n : Nat) : (ABlk.rows rs te).ok n := fun row hr x hx => deep_ok0 (h row hr x hx) n
theorem ren_deepB {rs : List (List AV)} {te : TypeId} (h : AllDeep rs) (τ : Nat → Nat) : (ABlk.rows rs te).ren τ = .rows rs te := by
  simp only [ABlk.ren]; congr 1
  conv => rhs; rw [← List.map_id rs]
  refine List.map_congr_left fun row hr => ?_
  conv => rhs; rw [id, ← List.map_id row]
  refine List.map_congr_left fun x hx => ?_
  exact deep_ren (h row hr x hx) τ
theorem AFnH.subD {P : Program} {G : Glob} {f : FuncId} {args : List AV} {H : AH} {args0 : List AV} {H0 HY H2 : AH} {Y y2 : AV} (h : AFnH P G f args0 H0 fun y H' => y = Y ∧ H' = HY) (okY : Y.ok HY.length = true) (hl : H0.length ≤ HY.length) (okB : OkBs HY.length HY)
    (ids : List Nat) (hnd : ids.Nodup) (hb : AllB (sigma ids) H0.length H ids H0) (ha : args = args0.map (AV.ren (sigma ids))) (hok : ∀ x ∈ args0, x.ok H0.length = true) (hy : Y.ren (tau ids H.length) = y2)
    (hH : setIds (tau ids H.length) ids HY H ++ (HY.drop ids.length).map (ABlk.ren (tau ids H.length)) = H2) : AFnH P G f args H fun y H' => y = y2 ∧ H' = H2 := by
  refine (AFnH.sub h (by rintro y H' ⟨rfl, rfl⟩; exact ⟨okY, hl, okB.all⟩) ids hnd hb ha hok).mono ?_; rintro y H' ⟨y', H1, ⟨rfl, rfl⟩, rfl, rfl⟩; exact ⟨hy, hH⟩
theorem Ef.subD {P : Program} {G : Glob} {f : FuncId} {args : List AV} {H : AH} {args0 : List AV} {H0 HY H2 : AH} {Y y2 : AV} (h : Ef P G f args0 H0 fun y H' => y = Y ∧ H' = HY) (okY : Y.ok HY.length = true) (hl : H0.length ≤ HY.length) (okB : OkBs HY.length HY)
    (ids : List Nat) (hnd : ids.Nodup) (hb : AllB (sigma ids) H0.length H ids H0) (ha : args = args0.map (AV.ren (sigma ids))) (hok : ∀ x ∈ args0, x.ok H0.length = true) (hy : Y.ren (tau ids H.length) = y2)
    (hH : setIds (tau ids H.length) ids HY H ++ (HY.drop ids.length).map (ABlk.ren (tau ids H.length)) = H2) : Ef P G f args H fun y H' => y = y2 ∧ H' = H2 := ⟨h.1, h.2.subD okY hl okB ids hnd hb ha hok hy hH⟩
theorem CallN.efD {E : EC} {f : FuncId} {args : List AV} {H H' : AH} {y : AV} {k : AV → AH → Prop} (h : Ef E.C.P E.C.G f args H fun y' H2 => y' = y ∧ H2 = H') (hk : k y H') : CallN E f args H k := .ef h (by rintro _ _ ⟨rfl, rfl⟩; exact hk)
theorem Reabs.ren2 {C : Ctx} {st st' : ASt} (σ : Nat → Nat) (hfr : Slots σ st'.H.length st.fr st'.fr) (hH : ∀ i, i < st'.H.length → ∃ b b', st.H[σ i]? = some b ∧ st'.H[i]? = some b' ∧ Blk σ st'.H.length b b' ∧ (b'.live = true → b.live = true))
    (hinj : ∀ i j b b', st'.H[i]? = some b → st'.H[j]? = some b' → b.live = true → b'.live = true → σ i = σ j → i = j) (hm : ∀ i, i < C.m → i < st'.H.length ∧ σ i = i) : Reabs C st st' := by
  intro B I w ρ a hs
  have hlt : ∀ {i : Nat} {b : ABlk}, st'.H[i]? = some b → i < st'.H.length := fun h => (List.getElem?_eq_some_iff.1 h).1
  have hpl : ∀ {i : Nat} {l : Loc}, (ρ.sub σ st'.H.length) i = some l → i < st'.H.length ∧ ρ (σ i) = some l := by
    intro i l h; simp only [Places.sub] at h; split at h
    exact ⟨by assumption, h⟩
    cases h
  have hlive : ∀ {i : Nat} {b' : ABlk}, st'.H[i]? = some b' → b'.live = true → ∃ b, st.H[σ i]? = some b ∧ b.live = true ∧ Blk σ st'.H.length b b' := by
    intro i b' hi hb; obtain ⟨b, b'', h1, h2, h3, h4⟩ := hH i (hlt hi); rw [hi] at h2
    cases h2
    exact ⟨b, h1, h4 hb, h3⟩
  have hown : ∀ b, Owned (ρ.sub σ st'.H.length) st'.H b → Owned ρ st.H b := by
    rintro b ⟨i, b', l, hi, hb, hl, rfl⟩; obtain ⟨b0, h1, h2, _⟩ := hlive hi hb; exact ⟨σ i, b0, l, h1, h2, (hpl hl).2, rfl⟩
  refine ⟨I, ρ.sub σ st'.H.length, ⟨⟨fun i b' l hi hb hl => ?_, fun i j b b' l l' hi hj hb hb' hl hl' e => ?_, fun i l hl => (hpl hl).1, hs.heap.old, hs.heap.glob⟩, ?_, fun i x' hx' => ?_, ?_, hs.base⟩,
    ⟨fun _ h => h, fun i l hi hl => ?_, Nat.le_refl _, rfl, rfl, rfl, fun _ _ _ => rfl, fun b hb _ => hown b hb, fun _ h => .inl h⟩⟩
  · obtain ⟨b, h1, h2, h3⟩ := hlive hi hb; obtain ⟨g1, g2, g3⟩ := hs.heap.blk (σ i) b l h1 h2 (hpl hl).2; exact ⟨g1, g2, g3.blk h3⟩
  · obtain ⟨b0, h1, h2, _⟩ := hlive hi hb; obtain ⟨b1, h3, h4, _⟩ := hlive hj hb'; exact hinj i j _ _ hi hj hb hb' (hs.heap.inj (σ i) (σ j) b0 b1 l l' h1 h3 h2 h4 (hpl hl).2 (hpl hl').2 e)
  rw [hs.size, slots_length hfr]
  · obtain ⟨x, h1, h2⟩ := slots_get hfr hx'
    rcases h2 with rfl | ⟨hok, rfl⟩
    exact .any; exact (hs.fr i _ h1).ren hok
  · obtain ⟨rs, h1, h2, h3⟩ := hs.marks; exact ⟨rs, h1, h2, fun r hr => ⟨(h3 r hr).1, (h3 r hr).2.1, fun ho => (h3 r hr).2.2.1 (hown r ho), (h3 r hr).2.2.2⟩⟩
  obtain ⟨h1, h2⟩ := hm i hi; simp only [Places.sub, h1, if_true, h2, hl]
def ndL : List Nat → AH → List Nat → Bool
  | i :: is, b :: bs, seen => match b.live with
    | true => !(seen.contains i) && ndL is bs (i :: seen)
    | false => ndL is bs seen
  | _, _, _ => true
theorem ndL_ok : ∀ {is : List Nat} {bs : AH} {seen : List Nat}, ndL is bs seen = true → (∀ (i a : Nat) (b : ABlk), is[i]? = some a → bs[i]? = some b → b.live = true → a ∉ seen) ∧ ∀ (i j a : Nat) (b b' : ABlk), is[i]? = some a → is[j]? = some a → bs[i]? = some b → bs[j]? = some b' → b.live = true → b'.live = true → i = j
  | [], bs, seen, _ => ⟨fun i a b h => by simp at h, fun i j a b b' h => by simp at h⟩
  | i :: is, [], seen, _ => ⟨fun i a b _ h => by simp at h, fun i j a b b' _ _ h => by simp at h⟩
  | x :: is, y :: bs, seen, h => by
    unfold ndL at h
    cases hl : y.live with
    | true =>
      rw [hl] at h; simp only [Bool.and_eq_true, Bool.not_eq_true'] at h; obtain ⟨g1, g2⟩ := ndL_ok h.2; have hx : x ∉ seen := by simpa using h.1
      refine ⟨fun i a b h1 h2 h3 => ?_, fun i j a b b' h1 h2 h3 h4 h5 h6 => ?_⟩
      · cases i with
        | zero => simp at h1; subst h1; exact hx
        | succ i => exact fun hm => g1 i a b (by simpa using h1) (by simpa using h2) h3 (List.mem_cons_of_mem _ hm)
      cases i with
      | zero => cases j with
        | zero => rfl
        | succ j => simp at h1; subst h1; exact absurd (List.mem_cons_self ..) (g1 j _ _ (by simpa using h2) (by simpa using h4) h6)
      | succ i => cases j with
        | zero => simp at h2; subst h2; exact absurd (List.mem_cons_self ..) (g1 i _ _ (by simpa using h1) (by simpa using h3) h5)
        | succ j => rw [g2 i j a b b' (by simpa using h1) (by simpa using h2) (by simpa using h3) (by simpa using h4) h5 h6]
    | false =>
      rw [hl] at h; obtain ⟨g1, g2⟩ := ndL_ok h; refine ⟨fun i a b h1 h2 h3 => ?_, fun i j a b b' h1 h2 h3 h4 h5 h6 => ?_⟩
      · cases i with
        | zero => simp at h2; subst h2; rw [hl] at h3; cases h3
        | succ i => exact g1 i a b (by simpa using h1) (by simpa using h2) h3
      cases i with
      | zero => simp at h3; subst h3; rw [hl] at h5; cases h5
      | succ i => cases j with
        | zero => simp at h4; subst h4; rw [hl] at h6; cases h6
        | succ j => rw [g2 i j a b b' (by simpa using h1) (by simpa using h2) (by simpa using h3) (by simpa using h4) h5 h6]
def preL (m : Nat) (ids : List Nat) (n : Nat) : Bool := decide (m ≤ n) && (List.range m).all fun i => ids.getD i i == i
theorem Reabs.frmM {C : Ctx} {l r : Fr} {N : Nat} {H H' : AH} (ids : List Nat) (hs : AllS (sigma ids) H'.length l r) (hb : AllB (sigma ids) H'.length H ids H') (hnd : ndL ids H' [] = true)
    (hm : preL C.m ids H'.length = true) : Reabs C ⟨frm 0 l N, H⟩ ⟨frm 0 r N, H'⟩ := by
  obtain ⟨g1, g2⟩ := hb.get
  have hsig : ∀ i j, ids[i]? = some j → sigma ids i = j := fun i j h => by simp [sigma, List.getD_eq_getElem?_getD, h]
  simp only [preL, Bool.and_eq_true, decide_eq_true_eq, List.all_eq_true, List.mem_range, beq_iff_eq] at hm; refine Reabs.ren2 (sigma ids) (slots_frm hs N 0) (fun i hi => ?_) (fun i j b b' hi hj hl hl' he => ?_) (fun i hi => ⟨Nat.lt_of_lt_of_le hi hm.1, hm.2 i hi⟩)
  · obtain ⟨j, b, b', e1, e2, e3, e4, e5⟩ := g2 i hi; exact ⟨b, b', by rw [hsig i j e1]; exact e2, e3, e4, e5⟩
  have hi' : i < ids.length := by have : i < H'.length := (List.getElem?_eq_some_iff.1 hi).1; omega
  have hj' : j < ids.length := by have : j < H'.length := (List.getElem?_eq_some_iff.1 hj).1; omega
  have e1 := List.getElem?_eq_getElem hi'; have e2 := List.getElem?_eq_getElem hj'; rw [hsig i _ e1, hsig j _ e2] at he; rw [← he] at e2; exact (ndL_ok hnd).2 i j _ _ _ e1 e2 hi hj hl hl'
def okL (n : Nat) (rs : List (List AV)) : Bool := rs.all fun r => r.all (AV.ok n)
theorem blkOk {σ : Nat → Nat} {n : Nat} {b : ABlk} {rs : List (List AV)} {te : TypeId} (h : okL n rs = true) (hb : b = (ABlk.rows rs te).ren σ) : Blk σ n b (.rows rs te) :=
  .inr (.inr ⟨fun row hr x hx => List.all_eq_true.1 (List.all_eq_true.1 h row hr) x hx, hb⟩)
theorem blkLoop {σ : Nat → Nat} {n : Nat} {b : ABlk} {st : LoopState} {pe : Option Code} {fr : List AV} {ps : Array Tmp} {as bd : Code} (h : fr.all (AV.ok n) = true) (hb : b = (ABlk.loop st pe fr ps as bd).ren σ) : Blk σ n b (.loop st pe fr ps as bd) :=
  .inr (.inr ⟨fun x hx => List.all_eq_true.1 h x hx, hb⟩)
theorem blkDead {σ : Nat → Nat} {n : Nat} {b : ABlk} : Blk σ n b .dead := .inl rfl
theorem smE {i j k o n m : Nat} {σ : Nat → Nat} (h1 : i = σ j) (h2 : n = m) : AV.sm i k o n = (AV.sm j k o m).ren σ := by subst h1; subst h2; rfl
theorem AFnH.reabs {P : Program} {G : Glob} {f : FuncId} {args : List AV} {H : AH} {Q : AV → AH → Prop} (h : AFnH P G f args H fun y H' => ∃ y2 H2, Reabs ⟨P, G, H.length, none⟩ ⟨frm 0 [(0, y)] 1, H'⟩ ⟨frm 0 [(0, y2)] 1, H2⟩ ∧ Q y2 H2) : AFnH P G f args H Q := fun I w ρ vs h1 h2 h3 =>
  (h I w ρ vs h1 h2 h3).mono fun e w' ⟨v, e1, I', ρ', H', y, ⟨y2, H2, hre, hq⟩, g2, g3, g4⟩ => by
    obtain ⟨I2, ρ2, k1, k2⟩ := hre w'.heap.size I' w' ρ' { tmps := #[v], defers := [] } ⟨g2, rfl, fun i x hx => by
      cases i with
      | zero => simp [frm, alook] at hx; subst hx; exact g3
      | succ i => simp [frm] at hx, ⟨[], rfl, List.nodup_nil, fun r hr => by cases hr⟩, Nat.le_refl _⟩
    exact ⟨v, e1, I2, ρ2, H2, y2, hq, k1.heap, k1.fr 0 y2 rfl, g4.trans k2⟩
theorem Ef.reabs {P : Program} {G : Glob} {f : FuncId} {args : List AV} {H : AH} {Q : AV → AH → Prop} (h : Ef P G f args H fun y H' => ∃ y2 H2, Reabs ⟨P, G, H.length, none⟩ ⟨frm 0 [(0, y)] 1, H'⟩ ⟨frm 0 [(0, y2)] 1, H2⟩ ∧ Q y2 H2) : Ef P G f args H Q := ⟨h.1, h.2.reabs⟩
theorem GCallN.same {E : EC} {f : FuncId} {args : List AV} {H : AH} {y : AV} {kq : Bool → AV → Prop} {ke : AV → AH → Prop} (h : Ef E.C.P E.C.G f args H fun y' H2 => y' = y ∧ H2 = H) (hk : kq false y) : GCallN E f args H kq ke := .still y h.1 h.2 hk
end
end Go.Proofs.Ax
