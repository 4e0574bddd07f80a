import Derived.Test.YtedekogkeamacaaGreatDoorAxC
namespace Go.Proofs.Ax
open Go
set_option linter.unusedVariables false
section
theorem AOp_next {C : Ctx} {o : Oper} {N : ASt → Prop} {st : ASt} {x : Operand} {str : Bool} {outs : List (AV × AH)} (hop : o.op = .next x str) (h : anext C.P st.H (st.ev C.G x) str = some outs)
    (hn : ∀ y H', (y, H') ∈ outs → N (st.put o.dst y H')) : AOp C o N st := fun B I w ρ a rr hr hs next R hnx => by
  have hnd : ∀ c, o.op ≠ .defer c := by intro c hc; rw [hc] at hop; cases hop
  obtain ⟨u, w', y, H', h1, h2, h3, h4, h5⟩ := anext_sound (P := C.P) (ty := o.type) hs.heap (hs.ev x) h
  have hex : (execOp a.eval o).run C.P w = .ok (.value u) w' := by
    unfold execOp; rw [hop]; simp [h2]
  refine ⟨fun _ _ => trivial, ?_⟩; rw [Oper.semAt_eq _ _ _ hnd, hex]; have hH : (st.put o.dst y H').H = H' := by unfold ASt.put; split <;> rfl
  exact hnx I ρ _ (a.put o.dst u) w' (hn y H' h1) (hs.put h4 h3 h5 o.dst) (by rw [hH]; exact h4.gone)
end
section
theorem quiet_same {P : Program} {G : Glob} {st : ASt} {op : Op} {ty : TypeId} {r : AV × AH} (hq : quietK op = true) (h : astep P G st op ty = some r) : r.2 = st.H := by
  cases op <;> first
    | (cases hq; done)
    | (simp only [astep] at h; first
        | (cases h; rfl)
        | (obtain ⟨u, h1, h2⟩ := map_some h; rw [← h2])
        | ((repeat' split at h) <;> first | (cases h; rfl) | (obtain ⟨u, h1, h2⟩ := map_some h; rw [← h2]) | (cases h; done)))
    | skip
  case call c =>
    obtain ⟨callee, args, ats⟩ := c
    cases callee <;> try (cases hq; done)
    rename_i b
    cases b <;> first
      | (cases hq; done)
      | (simp only [astep] at h; unfold abuiltin at h; split at h <;> first
        | contradiction
        | (obtain ⟨u, h1, h2⟩ := map_some h; rw [← h2])
        | (split at h <;> first | (obtain ⟨u, h1, h2⟩ := map_some h; rw [← h2]) | (cases h; done))
        | (cases h; done))
end
section
abbrev Rec := DK × AV × AH
structure Fact (P : Program) (G : Glob) (orc : Orc) (sf : Runs) (n : Nat) (ops : List Oper) (o : Oper) (T : FT) (H : AH) (r : Rec) : Prop where
  skip : r.1 = .skip → aguard n ops T o.guard = some false ∧ r.2 = (.sc undef, H)
  quiet : r.1 = .quiet → aguard n ops T o.guard = some true ∧ quietK o.op = true ∧ r.2.2 = H ∧ ∃ H', astepE P (evT G T) H o.op o.type = some (r.2.1, H')
  eff : r.1 = .eff → aguard n ops T o.guard = some true ∧ rop P G orc sf o.op o.type T H = some [(r.2.1, r.2.2)]
theorem fold_bits {acc : List Nat} : ∀ (es : List Edge) (s j : Nat), (es.foldl (fun s e => if Region.binds .any e then s ||| (2 ^ e.on ||| acc.getD e.on 0) else s) s).testBit j = true → s.testBit j = true ∨ ∃ e ∈ es, Region.binds .any e = true ∧ (e.on = j ∨ (acc.getD e.on 0).testBit j = true)
  | [], s, j, h => .inl h
  | e :: es, s, j, h => by
    rw [List.foldl_cons] at h
    rcases fold_bits es _ j h with h | ⟨e', he, hb⟩
    · split at h
      · rename_i hb; rw [Nat.testBit_or, Nat.testBit_or, Bool.or_eq_true, Bool.or_eq_true] at h
        rcases h with h | h | h
        exact .inl h
        · refine .inr ⟨e, List.mem_cons_self .., hb, .inl ?_⟩; rw [Nat.testBit_two_pow] at h; simpa using h
        exact .inr ⟨e, List.mem_cons_self .., hb, .inr h⟩
      exact .inl h
    exact .inr ⟨e', List.mem_cons_of_mem _ he, hb⟩
theorem ancs_pre : ∀ (l : List Oper) (acc : List Nat), (ancs l acc).take acc.length = acc ∧ (ancs l acc).length = acc.length + l.length
  | [], acc => by simp [ancs]
  | o :: l, acc => by
    obtain ⟨h1, h2⟩ := ancs_pre l (acc ++ [o.after.toList.foldl (fun s e => if Region.binds .any e then s ||| (2 ^ e.on ||| acc.getD e.on 0) else s) 0]); unfold ancs; refine ⟨?_, by rw [h2]; simp; omega⟩; have := congrArg (List.take acc.length) h1; rw [List.take_take] at this; simpa using this
theorem ancs_get : ∀ (l : List Oper) (acc : List Nat) (i : Nat) (o : Oper), l[i]? = some o → (ancs l acc)[acc.length + i]? = some (o.after.toList.foldl (fun s e => if Region.binds .any e then s ||| (2 ^ e.on ||| ((ancs l acc).take (acc.length + i)).getD e.on 0) else s) 0)
  | [], acc, i, o, h => by simp at h
  | o' :: l, acc, 0, o, h => by
    simp at h; subst h; obtain ⟨h1, h2⟩ := ancs_pre l (acc ++ [o'.after.toList.foldl (fun s e => if Region.binds .any e then s ||| (2 ^ e.on ||| acc.getD e.on 0) else s) 0]); obtain ⟨h3, _⟩ := ancs_pre (o' :: l) acc; rw [Nat.add_zero, h3]; unfold ancs; have : (ancs l (acc ++ [o'.after.toList.foldl (fun s e => if Region.binds .any e then s ||| (2 ^ e.on ||| acc.getD e.on 0) else s) 0]))[acc.length]? = (List.take (acc ++ [o'.after.toList.foldl (fun s e => if Region.binds .any e then s ||| (2 ^ e.on ||| acc.getD e.on 0) else s) 0]).length (ancs l (acc ++ [o'.after.toList.foldl (fun s e => if Region.binds .any e then s ||| (2 ^ e.on ||| acc.getD e.on 0) else s) 0])))[acc.length]? := by rw [List.getElem?_take, if_pos (by simp)]
    rw [this, h1]; simp
  | o' :: l, acc, i + 1, o, h => by
    have := ancs_get l (acc ++ [o'.after.toList.foldl (fun s e => if Region.binds .any e then s ||| (2 ^ e.on ||| acc.getD e.on 0) else s) 0]) i o (by simpa using h); unfold ancs; simp only [List.length_append, List.length_cons, List.length_nil, Nat.zero_add] at this; rw [show acc.length + (i + 1) = acc.length + 1 + i by omega]; exact this
theorem ancs_closed {ops : List Oper} {i : Nat} {o : Oper} {j : Nat} (ho : ops[i]? = some o) (h : bits (ancs ops []) i j = true) : ∃ e ∈ o.after, Region.binds .any e = true ∧ (e.on = j ∨ bits (ancs ops []) e.on j = true) := by
  have hg := ancs_get ops [] i o ho; simp only [List.length_nil, Nat.zero_add] at hg; unfold bits at h; rw [List.getD_eq_getElem?_getD, hg, Option.getD_some] at h
  rcases fold_bits _ _ _ h with h | ⟨e, he, hb, hor⟩
  simp at h; refine ⟨e, by simpa using he, hb, hor.imp id fun h => ?_⟩; unfold bits; rw [List.getD_eq_getElem?_getD, List.getElem?_take] at h; split at h
  rw [List.getD_eq_getElem?_getD]; exact h; simp at h
end
section
theorem chkS_get {nfr : Nat} {ops : List Oper} {anc : Nat → Nat → Bool} : ∀ (l : List Oper) (s i : Nat) (o : Oper), chkS nfr ops anc l s = true → l[i]? = some o →
    (∀ e ∈ o.after, Region.binds .any e = true → e.on < s + i) ∧
    (∀ t, t ∈ tmpsOf o.op → ∀ j, wIdx t ops 0 = some j → (j < s + i → anc (s + i) j = true) ∧ (s + i < j → anc j (s + i) = true)) ∧
    (∀ d, o.dst = some d → wIdx d ops 0 = some (s + i)) ∧
    (∀ j b, o.guard = some (j, b) → j < s + i ∧ anc (s + i) j = true ∧ ∃ o' d, ops[j]? = some o' ∧ o'.dst = some d ∧ d < nfr)
  | [], s, i, o, _, ho => by simp at ho
  | o' :: l, s, 0, o, h, ho => by
    simp at ho; subst ho; rw [Nat.add_zero]; simp only [chkS, Bool.and_eq_true, List.all_eq_true] at h; obtain ⟨⟨⟨⟨h1, h2⟩, h3⟩, h4⟩, _⟩ := h; refine ⟨fun e he hb => ?_, fun t ht j hj => ?_, fun d hd => ?_, fun j b hg => ?_⟩
    · have := h1 e (by simpa using he); simpa [hb] using this
    · have := h2 t ht; rw [hj] at this; simp only [Bool.and_eq_true, Bool.or_eq_true, Bool.not_eq_true', decide_eq_false_iff_not] at this; exact ⟨fun hlt => this.1.resolve_left (fun h => h hlt), fun hlt => this.2.resolve_left (fun h => h hlt)⟩
    · rw [hd] at h3; simpa using h3
    rw [hg] at h4; simp only [Bool.and_eq_true, decide_eq_true_eq] at h4; obtain ⟨⟨q1, q2⟩, q3⟩ := h4; refine ⟨q1, q2, ?_⟩; split at q3
    · rename_i o1 ho1; split at q3
      · rename_i d hd; exact ⟨o1, d, ho1, hd, by simpa using q3⟩
      cases q3
    cases q3
  | o' :: l, s, i + 1, o, h, ho => by
    simp only [chkS, Bool.and_eq_true] at h; have := chkS_get l (s + 1) i o h.2 (by simpa using ho)
    rwa [show s + 1 + i = s + (i + 1) by omega] at this
theorem mem_tmpsOf {o : Op} {t : Tmp} (h : Operand.tmp t ∈ o.operands) : t ∈ tmpsOf o := by
  unfold tmpsOf; exact List.mem_filterMap.2 ⟨.tmp t, by simpa using h, rfl⟩
theorem astepE_congr {P : Program} {ev ev' : Operand → AV} {H : AH} {op : Op} {ty : TypeId} (h : ∀ x ∈ op.operands, ev x = ev' x) : astepE P ev H op ty = astepE P ev' H op ty := by
  have harr : ∀ (xs : Array Operand), (∀ x ∈ xs, ev x = ev' x) → xs.toList.map ev = xs.toList.map ev' := fun xs hx => List.map_congr_left fun x hm => hx x (by simpa using hm)
  have hopt : ∀ (o : Option Operand), (∀ x, o = some x → ev x = ev' x) → o.map ev = o.map ev' := fun o ho => by
    cases o with
    | none => rfl
    | some x => simp [ho x rfl]
  have hpar : ∀ (ps : Array (Nat × Operand)), (∀ x ∈ (ps.toList.map (·.2)).toArray, ev x = ev' x) → ps.toList.map (hParts ev) = ps.toList.map (hParts ev') := fun ps hx => List.map_congr_left fun p hm => by
    simp only [hParts]; rw [hx p.2 (by simp; exact ⟨p.1, by simpa using hm⟩)]
  cases op <;> simp only [astepE] <;> try rfl
  case move x => rw [h x (by simp [Op.operands])]
  case assign x => rw [h x (by simp [Op.operands])]
  case pick c a b => rw [h c (by simp [Op.operands]), h a (by simp [Op.operands]), h b (by simp [Op.operands])]
  case box e x => rw [h x (by simp [Op.operands])]
  case build t ps => rw [hpar ps (fun x hx => h x (by simpa [Op.operands] using hx))]
  case buildSlice t n ps => rw [hpar ps (fun x hx => h x (by simpa [Op.operands] using hx))]
  case load t a => rw [h a (by simp [Op.operands])]
  case store t a x => rw [h a (by simp [Op.operands]), h x (by simp [Op.operands])]
  case nilCheck x => rw [h x (by simp [Op.operands])]
  case binOp op t x y u => rw [h x (by simp [Op.operands]), h y (by simp [Op.operands])]
  case unOp op t x => rw [h x (by simp [Op.operands])]
  case convert s d x => rw [h x (by simp [Op.operands])]
  case makeInterface t x => rw [h x (by simp [Op.operands])]
  case makeFunc fn fs cs => rw [harr fs (fun x hx => h x (by simp [Op.operands, hx])), harr cs (fun x hx => h x (by simp [Op.operands, hx]))]
  case slice t x lo hi mx => rw [h x (by simp [Op.operands]), hopt lo (fun y hy => h y (by simp [Op.operands, hy])), hopt hi (fun y hy => h y (by simp [Op.operands, hy])), hopt mx (fun y hy => h y (by simp [Op.operands, hy]))]
  case fieldAddr s x f => rw [h x (by simp [Op.operands])]
  case field s x f => rw [h x (by simp [Op.operands])]
  case indexAddr t x i => rw [h x (by simp [Op.operands]), h i (by simp [Op.operands])]
  case index t x i => rw [h x (by simp [Op.operands]), h i (by simp [Op.operands])]
  case makeMap t r => rw [hopt r (fun y hy => h y (by simp [Op.operands, hy]))]
  case makeSlice t l c => rw [h l (by simp [Op.operands]), h c (by simp [Op.operands])]
  case lookup t x i ok => rw [h x (by simp [Op.operands]), h i (by simp [Op.operands])]
  case mapUpdate t m k x => rw [h m (by simp [Op.operands]), h k (by simp [Op.operands]), h x (by simp [Op.operands])]
  case insert t m k x => rw [h m (by simp [Op.operands]), h k (by simp [Op.operands]), h x (by simp [Op.operands])]
  case mapEntry t m k => rw [h m (by simp [Op.operands]), h k (by simp [Op.operands])]
  case entryStore t m s x => rw [h m (by simp [Op.operands]), h s (by simp [Op.operands]), h x (by simp [Op.operands])]
  case range t x => rw [h x (by simp [Op.operands])]
  case entry x => rw [h x (by simp [Op.operands])]
  case extract x i => rw [h x (by simp [Op.operands])]
  case call c =>
    obtain ⟨callee, args, ats⟩ := c
    cases callee <;> simp only [hCall]
    rw [harr args (fun x hx => h x (by simp [Op.operands, Call.operands, hx]))]
theorem astepE_blind {P : Program} {ev : Operand → AV} {H H' : AH} {op : Op} {ty : TypeId} {r : AV × AH} (hb : blindK op = true) (h : astepE P ev H op ty = some r) : astepE P ev H' op ty = some (r.1, H') := by
  have hw : ∀ {x : Option AV}, hWith x H = some r → hWith x H' = some (r.1, H') := by
    intro x hx
    cases x with
    | none => cases hx
    | some y => cases hx; rfl
  cases op <;> first | (cases hb; done) | skip
  all_goals simp only [astepE] at h ⊢
  all_goals first
    | exact hw h
    | (cases h; rfl)
    | skip
  case pick c a b =>
    generalize ev c = x at h ⊢
    cases x <;> try (cases h; done)
    rename_i v
    cases v <;> try (cases h; done)
    rename_i t
    cases t <;> (cases h; rfl)
  case unOp op t x =>
    generalize ev x = y at h ⊢
    cases y <;> try (cases h; done)
    rename_i v; simp only [hUn] at h ⊢; split at h
    cases h; rfl
    cases h
  case makeInterface t x =>
    simp only [hIface] at h ⊢; split at h
    cases h
    cases h
    cases h; rfl
  case extract x i =>
    generalize ev x = y at h ⊢
    cases y <;> try (cases h; done)
    exact hw h
  case call c =>
    obtain ⟨callee, args, ats⟩ := c
    cases callee <;> first | (cases hb; done) | skip
    rename_i b; simp only [hCall] at h ⊢
    cases b <;> first | (cases hb; done) | skip
    all_goals
      unfold abuiltin at h ⊢
      split at h <;> first
        | contradiction
        | (split at h
           · rename_i vs hvs; obtain ⟨u, h1, h2⟩ := map_some h; simp only [h1, ← h2, Option.map_some]
           cases h)
        | (cases h; done)
end
section
theorem all_listed {ops : Array Oper} (he : ∀ (i : Nat) (o : Oper), ops[i]? = some o → ∀ e ∈ o.after, Region.binds .any e = true → e.on < i) {listed : Array Bool} (hsz : listed.size = ops.size) (hr : Region.ready .any ops listed = []) :
    ∀ j, j < ops.size → Lst listed j := by
  intro j
  induction j using Nat.strongRecOn with
  | _ j ih =>
    intro hj
    refine Classical.byContradiction fun hn => ?_
    have hmem : j ∈ Region.ready .any ops listed := by
      simp only [Region.ready, List.mem_filter, List.mem_range, Bool.and_eq_true, Bool.not_eq_true']; refine ⟨hj, ?_, ?_⟩
      · unfold Lst at hn; rw [Array.getD_eq_getD_getElem?, Array.getElem?_eq_getElem (by omega)] at hn ⊢; simpa using hn
      have ho : ops[j]? = some ops[j] := Array.getElem?_eq_getElem hj; rw [ho]; simp only [Option.map_some, Option.getD_some, Array.all_eq_true_iff_forall_mem]; intro e hem; by_cases hb : Region.binds .any e = true
      · have hlt := he j _ ho e hem hb; have := ih e.on hlt (by omega); unfold Lst at this; simp [this]
      simp [hb]
    rw [hr] at hmem
    cases hmem
end
section
section
variable {C : Ctx} {K : Exit → ASt → Prop} {st : ASt}
def downK (Inv : Nat → ASt → Prop) (n : Nat) (K : Exit → ASt → Prop) : Exit → ASt → Prop
  | .normal, st => ∃ k, k < n ∧ Inv k st
  | e, st => K e st
theorem AWp_loopN {c : Code} (Inv : Nat → ASt → Prop) {n : Nat} (h0 : Inv n st) (hround : ∀ n st', Inv n st' → AWp C c (downK Inv n K) st') : AWp C (.loop c) K st := by
  classical
  let mu : ASt → Nat := fun st => if h : ∃ n, Inv n st then Classical.choose (exists_least h) else 0
  refine AWp_loop (fun st => ∃ n, Inv n st) mu ⟨n, h0⟩ fun st' hst => ?_
  have hmu : mu st' = Classical.choose (exists_least hst) := by simp only [mu]; rw [dif_pos hst]
  refine (hround _ st' (Classical.choose_spec (exists_least hst)).1).mono fun e st'' h => ?_
  cases e with
  | normal =>
    obtain ⟨k, hk, hi⟩ := h; refine ⟨st'', Reabs.refl, ⟨k, hi⟩, ?_⟩; have hex : ∃ n, Inv n st'' := ⟨k, hi⟩
    have : mu st'' ≤ k := by
      simp only [mu]; rw [dif_pos hex]; exact (Classical.choose_spec (exists_least hex)).2 _ hi
    rw [hmu]; omega
  | exit id => exact h
  | goto l => exact h
  | ret => exact h
  | panic c => exact h
  | outgrown => exact h
end
end
section
theorem AWp_post {C : Ctx} {K : Exit → ASt → Prop} {st : ASt} {c : Code} (h : AWp C c (fun e st => ∃ st', Reabs C st st' ∧ K e st') st) : AWp C c K st := fun B I w ρ a rr hr hs =>
  wpIn_mono (h B I w ρ a rr hr hs) fun e a' w' ⟨I', ρ', st', ⟨st2, h1, h2⟩, h3, h4⟩ =>
    let ⟨I2, ρ2, g1, g2⟩ := h1 B I' w' ρ' a' h3
    ⟨I2, ρ2, st2, h2, g1, h4.trans g2⟩
end
section
def AV.deep1 : AV → Bool
  | .agg cs => cs.all AV.deep
  | x => x.deep
def AV.deep2 : AV → Bool
  | .tuple cs => cs.all AV.deep1
  | x => x.deep1
theorem VRel.deep1 {I : Nat → Prop} {w : World} {ρ : Places} {v : Value} {x : AV} (h : VRel I w ρ v x) (hd : x.deep1 = true) (ρ' : Places) : VRel I w ρ' v x := by
  cases x <;> try exact h.deep hd ρ'
  rename_i cs
  cases h with
  | agg hl hc hv => exact .agg hl hc fun i x hx => (hv i x hx).deep (List.all_eq_true.1 hd x (List.mem_of_getElem? hx)) ρ'
theorem VRel.deep2 {I : Nat → Prop} {w : World} {ρ : Places} {v : Value} {x : AV} (h : VRel I w ρ v x) (hd : x.deep2 = true) (ρ' : Places) : VRel I w ρ' v x := by
  cases x <;> try exact h.deep1 hd ρ'
  rename_i cs
  cases h with
  | tuple hl hv => exact .tuple hl fun i x hx => (hv i x hx).deep1 (List.all_eq_true.1 hd x (List.mem_of_getElem? hx)) ρ'
def APure (P : Program) (G : Glob) (f : FuncId) (args : List AV) (y : AV) : Prop := ∀ H, AFnH P G f args H fun y' H' => y' = y ∧ H' = H
theorem AFnH.pure {P : Program} {G : Glob} {f : FuncId} {args : List AV} {y : AV} (h : AFnH P G f args [] fun y' H' => y' = y) (hd : ∀ x ∈ args, x.deep2 = true) (hy : y.deep2 = true) : APure P G f args y := by
  intro H I w ρ vs hh hl hv; have h0 : HRel G I w Places.nil [] := ⟨(fun id b l hi => by simp at hi), (fun id id' b b' l l' hi => by simp at hi), (fun id l hl => by cases hl), hh.old, hh.glob⟩; refine (h I w Places.nil vs h0 hl (fun i x hx => (hv i x hx).deep2 (hd x (List.mem_of_getElem? hx)) _)).mono ?_; rintro e w' ⟨v, rfl, I', ρ', H', y', rfl, g1, g2, g3⟩
  have hfr : ∀ b, b < w.heap.size → w'.heap[b]? = w.heap[b]? := fun b hb => g3.frame b hb (by rintro ⟨id, blk, l, q1, q2, q3, q4⟩; simp at q1)
  have hk : Keeps I I' w w' := ⟨g3.sub, fun b hb => hfr b (hh.old b hb)⟩
  have hnew : ∀ b, b < w.heap.size → ¬ I b → ¬ I' b := fun b hb hn hi => by
    rcases g3.new b hi with h | h | ⟨id, blk, l, q1, q2, q3, q4⟩
    exact hn h; omega; simp at q1
  refine ⟨v, rfl, I', ρ, H, y', ⟨rfl, rfl⟩, ⟨fun id blk l hi hb hp => ?_, hh.inj, hh.dom, fun b hb => g1.old b hb, fun g cells hg => g1.glob g cells hg⟩, g2.deep2 hy _,
    ⟨g3.sub, fun id l _ hl => hl, g3.size, g3.os, g3.tape, g3.output, fun b hb _ => hfr b hb, fun b ho _ => ho, fun b hb => ?_⟩⟩
  · obtain ⟨q1, q2, q3⟩ := hh.blk id blk l hi hb hp; exact ⟨Nat.lt_of_lt_of_le q1 g3.size, hnew _ q1 q2, q3.mono hk (fun _ _ h => h) (hfr _ q1)⟩
  rcases g3.new b hb with h | h | ⟨id, blk, l, q1, q2, q3, q4⟩
  exact .inl h; exact .inr (.inl h); simp at q1
theorem AOp_pure {C : Ctx} {dst : Option Tmp} {g : FuncId} {args : Array Operand} {ats : Array TypeId} {ty : TypeId} {pos : String} {af : Array Edge} {gu : Option (Nat × Bool)} {N : ASt → Prop} {st : ASt} {y : AV} {xs : List AV} {fn : Func} {c : Code}
    (h : APure C.P C.G g xs y) (hE : Enters C.P) (hf : C.P.funcs[g]? = some fn) (hb : fn.body = some c) (hx : args.toList.map (st.ev C.G) = xs) (hn : N (st.put dst y st.H)) :
    AOp C ⟨dst, .call { callee := .value (.func g), args := args, argTypes := ats }, ty, pos, af, gu⟩ N st := by
  refine AOp_call (Q := fun y' H' => y' = y ∧ H' = st.H) (fs := []) (cs := []) rfl (by simp [ASt.ev, afunc]) hE hf hb ?_ ?_
  · simp only [List.nil_append, List.append_nil, hx]; exact h st.H
  rintro y' H' ⟨rfl, rfl⟩; exact hn
end
section
section
variable {C : Ctx} {ds : List (Option Tmp)} {dst : Option Tmp} {op : Op} {ty : TypeId} {pos : String} {af : Array Edge} {j : Nat} {b : Bool} {l : List Oper} {K : Exit → ASt → Prop} {st : ASt}
end
section
variable (C : Ctx) (ds : List (Option Tmp)) (dst : Option Tmp) (op : Op) (ty : TypeId) (pos : String) (af : Array Edge) (j : Nat) (b : Bool) (l : List Oper) (K : Exit → ASt → Prop) (st : ASt) (y : AV) (H' : AH)
end
structure DownCont (C : Ctx) (Inv : Nat → ASt → Prop) (n : Nat) (K K' : Exit → ASt → Prop) : Prop where
  go : ∀ m st st', Reabs C st st' → m < n → Inv m st' → K' .normal st
  out : ∀ e st, e ≠ .normal → K e st → K' e st
theorem AWp_loop_d {C : Ctx} {K : Exit → ASt → Prop} {st : ASt} {c : Code} (Inv : Nat → ASt → Prop) (n : Nat) (st0 : ASt) (hre : Reabs C st st0) (h0 : Inv n st0) (hr : ∀ K' n st', Inv n st' → DownCont C Inv n K K' → AWp C c K' st') : AWp C (.loop c) K st := by
  refine AWp_reabs hre (AWp_loopN Inv h0 fun n st' hi => AWp_post ?_); refine hr _ n st' hi ⟨fun m st1 st2 h1 h2 h3 => ⟨st2, h1, m, h2, h3⟩, fun e st1 he hk => ⟨st1, Reabs.refl, ?_⟩⟩
  cases e <;> first | exact absurd rfl he | exact hk
theorem Reabs.drop {C : Ctx} {fr fr' : List AV} {H : AH} (hm : C.m = 0) (h : Slots id 0 fr fr') : Reabs C ⟨fr, H⟩ ⟨fr', []⟩ :=
  Reabs.ren id h (fun i hi => absurd hi (Nat.not_lt_zero i)) (fun _ _ _ _ h => h) (fun i hi => by rw [hm] at hi; exact absurd hi (Nat.not_lt_zero i))
end
section
theorem does_pure {C : Ctx} {dst : Option Tmp} {g : FuncId} {args : Array Operand} {ats : Array TypeId} {ty : TypeId} {pos : String} {af : Array Edge} {gu : Option (Nat × Bool)} {fr : List AV} {H : AH} {y : AV} {xs : List AV} {fn : Func} {c : Code}
    (h : APure C.P C.G g xs y) (hE : Enters C.P) (hf : C.P.funcs[g]? = some fn) (hb : fn.body = some c) (hx : args.toList.map ((⟨fr, H⟩ : ASt).ev C.G) = xs) :
    Does C ⟨dst, .call { callee := .value (.func g), args := args, argTypes := ats }, ty, pos, af, gu⟩ fr H y H := fun fr' hfr => by
  refine AOp_pure h hE hf hb ?_ rfl; rw [← hx]
  exact List.map_congr_left fun x hx => hfr x (by simp [Op.operands, Call.operands]; right; simpa using hx)
mutual
def qrun (C : Ctx) (ds : List (Option Tmp)) (l : List Oper) (st : ASt) (N : ASt → Prop) : Prop :=
  match l with
  | [] => N st
  | ⟨dst, op, ty, pos, af, none⟩ :: l => qgo C ds dst op ty pos af none l st N (astep C.P C.G st op ty)
  | ⟨dst, op, ty, pos, af, some (j, b)⟩ :: l => qif C ds dst op ty pos af j b l st N ((ds.getD j none).bind fun d => st.fr[d]?)
termination_by (l.length, 0)
def qgo (C : Ctx) (ds : List (Option Tmp)) (dst : Option Tmp) (op : Op) (ty : TypeId) (pos : String) (af : Array Edge) (g : Option (Nat × Bool)) (l : List Oper) (st : ASt) (N : ASt → Prop) (r : Option (AV × AH)) : Prop :=
  match r with
  | some (y, H') => qrun C (ds ++ [dst]) l (st.put dst y st.H) N
  | none => ∃ y, Does C ⟨dst, op, ty, pos, af, g⟩ st.fr st.H y st.H ∧ qrun C (ds ++ [dst]) l (st.put dst y st.H) N
termination_by (l.length, 1)
def qif (C : Ctx) (ds : List (Option Tmp)) (dst : Option Tmp) (op : Op) (ty : TypeId) (pos : String) (af : Array Edge) (j : Nat) (b : Bool) (l : List Oper) (st : ASt) (N : ASt → Prop) (r : Option AV) : Prop :=
  match r with
  | some x => match wantedV x b with
    | some true => qgo C ds dst op ty pos af (some (j, b)) l st N (astep C.P C.G st op ty)
    | some false => qrun C (ds ++ [dst]) l (st.put dst (.sc undef) st.H) N
    | none => False
  | none => False
termination_by (l.length, 2)
end
section
variable (C : Ctx) (ds : List (Option Tmp)) (dst : Option Tmp) (op : Op) (ty : TypeId) (pos : String) (af : Array Edge) (g : Option (Nat × Bool)) (j : Nat) (b : Bool) (l : List Oper) (N : ASt → Prop) (st : ASt)
end
section
variable {C : Ctx} {ds : List (Option Tmp)} {dst : Option Tmp} {op : Op} {ty : TypeId} {pos : String} {af : Array Edge} {g : Option (Nat × Bool)} {j : Nat} {b : Bool} {l : List Oper} {N : ASt → Prop} {st : ASt}
end
theorem frT_congr {ops : Array Oper} {y y' : Nat → AV} {fr0 : List AV} : ∀ n, (∀ j, j < n → y j = y' j) → frT ops y fr0 n = frT ops y' fr0 n
  | 0, _ => rfl
  | n + 1, h => by
    have ih := frT_congr (ops := ops) (fr0 := fr0) n fun j hj => h j (by omega)
    simp only [frT, ih, h n (by omega)]
theorem put_frT {ops : Array Oper} {y : Nat → AV} {fr0 : List AV} {k : Nat} {o : Oper} {H H' : AH} (ho : ops[k]? = some o) : ((⟨frT ops y fr0 k, H⟩ : ASt).put o.dst (y k) H') = ⟨frT ops y fr0 (k + 1), H'⟩ := by
  simp only [frT, ho, ASt.put]
  cases o.dst <;> rfl
section
variable {C : Ctx} {ds : List (Option Tmp)} {dst : Option Tmp} {op : Op} {ty : TypeId} {pos : String} {af : Array Edge} {j : Nat} {b : Bool} {l : List Oper} {K : Exit → ASt → Prop} {N : ASt → Prop} {st : ASt} {p : Prop} [Decidable p]
end
end
end Go.Proofs.Ax
