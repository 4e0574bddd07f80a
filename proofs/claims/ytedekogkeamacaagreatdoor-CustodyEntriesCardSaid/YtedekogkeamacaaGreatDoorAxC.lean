import Derived.Test.YtedekogkeamacaaGreatDoorAxB
import Derived.TacticsIn
import Derived.OrdersIn
namespace Go.Proofs.Ax
open Go
set_option linter.unusedVariables false
section
structure Gone (m : Nat) (I : Nat → Prop) (w : World) (ρ : Places) (H : AH) (I' : Nat → Prop) (w' : World) (ρ' : Places) (H' : AH) : Prop where
  sub : ∀ b, I b → I' b
  place : ∀ id l, id < m → ρ id = some l → ρ' id = some l
  size : w.heap.size ≤ w'.heap.size
  os : w'.os = w.os
  tape : w'.tape = w.tape
  output : w'.output = w.output
  frame : ∀ b, b < w.heap.size → ¬ Owned ρ H b → w'.heap[b]? = w.heap[b]?
  own : ∀ b, Owned ρ' H' b → b < w.heap.size → Owned ρ H b
  new : ∀ b, I' b → I b ∨ w.heap.size ≤ b ∨ Owned ρ H b
theorem Went.gone {m : Nat} {I I' : Nat → Prop} {w w' : World} {ρ ρ' : Places} {H H' : AH} (h : Went I w ρ H I' w' ρ' H') : Gone m I w ρ H I' w' ρ' H' :=
  ⟨h.sub, fun id l _ hl => h.place id l hl, h.size, h.os, h.tape, h.output, h.frame, h.own, h.new⟩
theorem Gone.refl {m : Nat} {I : Nat → Prop} {w : World} {ρ : Places} {H : AH} : Gone m I w ρ H I w ρ H := Went.refl.gone
theorem Gone.trans {m : Nat} {I I' I'' : Nat → Prop} {w w' w'' : World} {ρ ρ' ρ'' : Places} {H H' H'' : AH} (h : Gone m I w ρ H I' w' ρ' H') (k : Gone m I' w' ρ' H' I'' w'' ρ'' H'') :
    Gone m I w ρ H I'' w'' ρ'' H'' :=
  ⟨fun b hb => k.sub b (h.sub b hb), fun id l hm hl => k.place id l hm (h.place id l hm hl), Nat.le_trans h.size k.size, k.os.trans h.os, k.tape.trans h.tape, k.output.trans h.output,
    fun b hb ho => (k.frame b (Nat.lt_of_lt_of_le hb h.size) (fun ho' => ho (h.own b ho' hb))).trans (h.frame b hb ho),
    fun b ho hb => h.own b (k.own b ho (Nat.lt_of_lt_of_le hb h.size)) hb,
    fun b hb => (k.new b hb).elim (h.new b) fun hb => hb.elim (fun hb => .inr (.inl (Nat.le_trans h.size hb))) fun hb => (Nat.lt_or_ge b w.heap.size).elim (fun hlt => .inr (.inr (h.own b hb hlt))) fun hge => .inr (.inl hge)⟩
structure Ctx where
  P : Program
  G : Glob
  m : Nat
  r : Option Nat
def Ctx.fence (_C : Ctx) (rr : Option Nat) : Fence := { Fence.wide with round := rr }
def Ctx.at (C : Ctx) (ρ : Places) (rr : Option Nat) : Prop :=
  match C.r with
  | none => rr = none
  | some id => ∃ l, id < C.m ∧ ρ id = some l ∧ rr = some l.blk
theorem Ctx.at.gone {C : Ctx} {I I' : Nat → Prop} {w w' : World} {ρ ρ' : Places} {H H' : AH} {rr : Option Nat} (h : C.at ρ rr) (g : Gone C.m I w ρ H I' w' ρ' H') : C.at ρ' rr := by
  unfold Ctx.at at *
  cases hc : C.r with
  | none => rw [hc] at h; exact h
  | some id =>
    rw [hc] at h; obtain ⟨l, h1, h2, h3⟩ := h; exact ⟨l, h1, g.place _ _ h1 h2, h3⟩
def Post (C : Ctx) (B : Nat) (K : Exit → ASt → Prop) (I : Nat → Prop) (w : World) (ρ : Places) (H : AH) (e : Exit) (a' : Act) (w' : World) : Prop :=
  ∃ I' ρ' st', K e st' ∧ SRel C.G B I' w' ρ' st' a' ∧ Gone C.m I w ρ H I' w' ρ' st'.H
def AWp (C : Ctx) (c : Code) (K : Exit → ASt → Prop) (st : ASt) : Prop :=
  ∀ (B : Nat) (I : Nat → Prop) (w : World) (ρ : Places) (a : Act) (rr : Option Nat), C.at ρ rr → SRel C.G B I w ρ st a → c.wpIn (C.fence rr) 0 C.P (Post C B K I w ρ st.H) a w
def AOps (C : Ctx) (ops : Array Oper) (l : List Oper) (K : Exit → ASt → Prop) (st : ASt) : Prop :=
  ∀ (B : Nat) (I : Nat → Prop) (w : World) (ρ : Places) (a : Act) (rr : Option Nat), C.at ρ rr → SRel C.G B I w ρ st a → wpListIn (C.fence rr) 0 C.P ops (Post C B K I w ρ st.H) l a w
def AOp (C : Ctx) (o : Oper) (K : ASt → Prop) (st : ASt) : Prop :=
  ∀ (B : Nat) (I : Nat → Prop) (w : World) (ρ : Places) (a : Act) (rr : Option Nat), C.at ρ rr → SRel C.G B I w ρ st a → ∀ (next : Act → World → Prop) (Q : Exit → Act → World → Prop),
    (∀ I' ρ' st' a' w', K st' → SRel C.G B I' w' ρ' st' a' → Gone C.m I w ρ st.H I' w' ρ' st'.H → next a' w') → o.wpIn (C.fence rr) 0 C.P a w next Q
theorem Post.trans {C : Ctx} {B : Nat} {K : Exit → ASt → Prop} {I I' : Nat → Prop} {w w' : World} {ρ ρ' : Places} {H H' : AH} (g : Gone C.m I w ρ H I' w' ρ' H') {e : Exit} {a : Act} {u : World} (h : Post C B K I' w' ρ' H' e a u) : Post C B K I w ρ H e a u :=
  let ⟨I'', ρ'', st'', h1, h2, h3⟩ := h
  ⟨I'', ρ'', st'', h1, h2, g.trans h3⟩
def thenK (C : Ctx) (b : Code) (K : Exit → ASt → Prop) : Exit → ASt → Prop
  | .normal, st => AWp C b K st
  | e, st => K e st
section
variable {C : Ctx} {K : Exit → ASt → Prop} {st : ASt}
theorem AWp.mono {c : Code} {K' : Exit → ASt → Prop} (h : AWp C c K st) (hk : ∀ e st, K e st → K' e st) : AWp C c K' st := fun B I w ρ a rr hr hs => wpIn_mono (h B I w ρ a rr hr hs) fun e a' w' ⟨I', ρ', st', h1, h2, h3⟩ => ⟨I', ρ', st', hk _ _ h1, h2, h3⟩
theorem AWp_skip (h : K .normal st) : AWp C .skip K st := fun B I w ρ a rr hr hs => wpIn_skip ⟨I, ρ, st, h, hs, Gone.refl⟩
theorem AWp_ret (h : K .ret st) : AWp C .ret K st := fun B I w ρ a rr hr hs => wpIn_ret ⟨I, ρ, st, h, hs, Gone.refl⟩
theorem AWp_exit {id : Nat} (h : K (.exit id) st) : AWp C (.exit id) K st := fun B I w ρ a rr hr hs => wpIn_exit ⟨I, ρ, st, h, hs, Gone.refl⟩
theorem AWp_seq {x y : Code} (h : AWp C x (thenK C y K) st) : AWp C (.seq x y) K st := fun B I w ρ a rr hr hs => by
  refine wpIn_seq (wpIn_mono (h B I w ρ a rr hr hs) fun e a' w' hp => ?_); obtain ⟨I', ρ', st', h1, h2, h3⟩ := hp
  cases e with
  | normal => exact wpIn_mono (h1 B I' w' ρ' a' rr (hr.gone h3) h2) fun e a'' w'' hp => hp.trans h3
  | exit id => exact ⟨I', ρ', st', h1, h2, h3⟩
  | goto l => exact ⟨I', ρ', st', h1, h2, h3⟩
  | ret => exact ⟨I', ρ', st', h1, h2, h3⟩
  | panic c => exact ⟨I', ρ', st', h1, h2, h3⟩
  | outgrown => exact ⟨I', ρ', st', h1, h2, h3⟩
theorem AWp_cond {c : Operand} {x y : Code} {t : Bool} (hc : st.ev C.G c = .sc (.bool t)) (h1 : t = true → AWp C x K st) (h2 : t = false → AWp C y K st) : AWp C (.cond c x y) K st := fun B I w ρ a rr hr hs => by
  have hv := hs.ev c; rw [hc] at hv; generalize he : a.eval c = v at hv
  cases hv
  exact wpIn_cond_split he (fun h => h1 h B I w ρ a rr hr hs) (fun h => h2 h B I w ρ a rr hr hs)
def blockK (id : Nat) (K : Exit → ASt → Prop) : Exit → ASt → Prop
  | .exit id', st => if id' = id then K .normal st else K (.exit id') st
  | e, st => K e st
theorem AWp_block {id : Nat} {c : Code} (h : AWp C c (blockK id K) st) : AWp C (.block id c) K st := fun B I w ρ a rr hr hs => by
  refine wpIn_block (wpIn_mono (h B I w ρ a rr hr hs) fun e a' w' hp => ?_); obtain ⟨I', ρ', st', h1, h2, h3⟩ := hp
  cases e with
  | exit id' =>
    simp only [Exit.inBlock]; simp only [blockK] at h1; split
    rename_i e; rw [if_pos e] at h1; exact ⟨I', ρ', st', h1, h2, h3⟩; rename_i e; rw [if_neg e] at h1; exact ⟨I', ρ', st', h1, h2, h3⟩
  | normal => exact ⟨I', ρ', st', h1, h2, h3⟩
  | goto l => exact ⟨I', ρ', st', h1, h2, h3⟩
  | ret => exact ⟨I', ρ', st', h1, h2, h3⟩
  | panic c => exact ⟨I', ρ', st', h1, h2, h3⟩
  | outgrown => exact ⟨I', ρ', st', h1, h2, h3⟩
theorem AWp_region {id : Nat} {ops : Array Oper} (h : AOps C ops ops.toList K st) : AWp C (.region id ops false) K st := fun B I w ρ a rr hr hs => wpIn_region_list (h B I w ρ a rr hr hs)
theorem AOps_nil {ops : Array Oper} (h : K .normal st) : AOps C ops [] K st := fun B I w ρ a rr hr hs => ⟨I, ρ, st, h, hs, Gone.refl⟩
theorem Oper.wpIn_mono2 {F : Fence} {n : Nat} {P : Program} {Q Q' : Exit → Act → World → Prop} {o : Oper} {a : Act} {w : World} {N N' : Act → World → Prop} (h : ∀ a w, N a w → N' a w) (hQ : ∀ e a w, Q e a w → Q' e a w)
    (hh : o.wpIn F n P a w N Q) : o.wpIn F n P a w N' Q' := by
  unfold Oper.wpIn at *; refine ⟨hh.1, ?_⟩; have hh := hh.2
  have hL : LetsOut Q → LetsOut Q' := fun ⟨a, w, q⟩ => ⟨a, w, hQ _ _ _ q⟩
  generalize (o.semAt F.round a.eval).run P w = r at *
  cases r with
  | ok x w' =>
    cases x <;> simp only [Oper.uponIn] at hh ⊢ <;>
      first
        | exact h _ _ hh
        | exact ⟨hh.1, CallsIn.mono hh.2 (fun e w'' he => by cases e <;> first | exact h _ _ he | exact hQ _ _ _ he | exact hL he)⟩
        | exact ⟨hh.1, RowsIn.mono hh.2 (fun _ _ he => h _ _ he)⟩
        | exact ⟨hh.1, RoundIn.mono hh.2 (fun e w'' he => by cases e <;> first | exact h _ _ he | exact hQ _ _ _ he | exact hL he)⟩
  | halt x w' => cases x <;> simp only [Oper.uponIn] at hh ⊢ <;> first | exact hQ _ _ _ hh | exact hh
theorem wpListIn_mono {F : Fence} {n : Nat} {P : Program} {ops : Array Oper} {Q Q' : Exit → Act → World → Prop} (hQ : ∀ e a w, Q e a w → Q' e a w) :
    ∀ (l : List Oper) (a : Act) (w : World), wpListIn F n P ops Q l a w → wpListIn F n P ops Q' l a w
  | [], a, w, h => hQ _ _ _ h
  | o :: l, a, w, h => by
    simp only [wpListIn] at h ⊢; split
    · rename_i hw; rw [if_pos hw] at h; exact Oper.wpIn_mono2 (fun a w h => wpListIn_mono hQ l a w h) hQ h
    rename_i hw; rw [if_neg hw] at h; exact ⟨h.1, wpListIn_mono hQ l _ _ h.2⟩
theorem AOps_cons {ops : Array Oper} {o : Oper} {l : List Oper} (hg : o.guard = none) (h : AOp C o (AOps C ops l K) st) : AOps C ops (o :: l) K st := fun B I w ρ a rr hr hs => by
  refine wpListIn_plain hg fun K' hK' => h B I w ρ a rr hr hs K' _ fun I' ρ' st' a' w' hk hs' hg' => hK' _ _ ?_
  exact wpListIn_mono (fun e a'' w'' hp => hp.trans hg') l a' w' (hk B I' w' ρ' a' rr (hr.gone hg') hs')
def wantedV : AV → Bool → Option Bool
  | .sc (.bool t), b => some (t == b)
  | .sc _, _ => some false
  | _, _ => none
def boolV : Value → Option Bool
  | .bool b => some b
  | _ => none
theorem wantedV_rel {I : Nat → Prop} {w : World} {ρ : Places} {v : Value} {x : AV} {b t : Bool} (hf : VRel I w ρ v x) (hx : wantedV x b = some t) : (boolV v == some b) = t := by
  cases x <;> try (simp [wantedV] at hx; done)
  cases hf
  cases v <;> simp only [wantedV, Option.some.injEq] at hx <;> subst hx <;> first | rfl | (rename_i q; cases q <;> cases b <;> rfl)
theorem wanted_sound {G : Glob} {B : Nat} {I : Nat → Prop} {w : World} {ρ : Places} {st : ASt} {a : Act} (hs : SRel G B I w ρ st a) {ops : Array Oper} {o : Oper} {j : Nat} {b t : Bool} {d : Tmp} {x : AV} (hg : o.guard = some (j, b)) (hd : (ops[j]?).bind (·.dst) = some d)
    (hv : st.fr[d]? = some x) (hx : wantedV x b = some t) : Region.wanted o (yielded ops a.tmps) = t := by
  have hf := hs.fr d _ hv; have hlt : d < a.tmps.size := by rw [hs.size]; exact (List.getElem?_eq_some_iff.1 hv).1
  have e1 : a.tmps[d]? = some (a.tmps.getD d undef) := by simp [Array.getD, hlt]
  generalize hq : a.tmps.getD d undef = v at hf e1; simp only [Region.wanted, hg]
  have hyd : yielded ops a.tmps j = boolV v := by
    clear hf; simp only [yielded, hd, Option.bind_some, e1]
    cases v <;> rfl
  rw [hyd]; exact wantedV_rel hf hx
theorem AOps_guard {ops : Array Oper} {o : Oper} {l : List Oper} {j : Nat} {b t : Bool} {d : Tmp} {x : AV} (hg : o.guard = some (j, b)) (hd : (ops[j]?).bind (·.dst) = some d) (hv : st.fr[d]? = some x) (hx : wantedV x b = some t)
    (h1 : t = true → AOp C o (AOps C ops l K) st) (h2 : t = false → AOps C ops l K (st.put o.dst (.sc undef) st.H)) : AOps C ops (o :: l) K st := fun B I w ρ a rr hr hs => by
  have hy := wanted_sound hs hg hd hv hx; simp only [wpListIn, hy]
  cases t with
  | true =>
    simp only [if_true]
    exact h1 rfl B I w ρ a rr hr hs _ _ fun I' ρ' st' a' w' hk hs' hg' => wpListIn_mono (fun e a'' w'' hp => hp.trans hg') l a' w' (hk B I' w' ρ' a' rr (hr.gone hg') hs')
  | false =>
    rw [if_neg (by simp)]; refine ⟨fun _ _ => trivial, ?_⟩; have e : (st.put o.dst (.sc undef) st.H).H = st.H := by unfold ASt.put; split <;> rfl
    have := h2 rfl B I w ρ (a.put o.dst undef) rr hr (hs.put Went.refl hs.heap .sc o.dst)
    rwa [e] at this
def Reabs (C : Ctx) (st st' : ASt) : Prop :=
  ∀ (B : Nat) (I : Nat → Prop) (w : World) (ρ : Places) (a : Act), SRel C.G B I w ρ st a → ∃ I' ρ', SRel C.G B I' w ρ' st' a ∧ Gone C.m I w ρ st.H I' w ρ' st'.H
theorem Reabs.refl : Reabs C st st := fun B I w ρ a h => ⟨I, ρ, h, Gone.refl⟩
theorem Reabs.trans {st' st'' : ASt} (h : Reabs C st st') (k : Reabs C st' st'') : Reabs C st st'' := fun B I w ρ a hs =>
  let ⟨I', ρ', h1, h2⟩ := h B I w ρ a hs
  let ⟨I'', ρ'', h3, h4⟩ := k B I' w ρ' a h1
  ⟨I'', ρ'', h3, h2.trans h4⟩
theorem AWp_reabs {c : Code} {st' : ASt} (h : Reabs C st st') (k : AWp C c K st') : AWp C c K st := fun B I w ρ a rr hr hs =>
  let ⟨I', ρ', h1, h2⟩ := h B I w ρ a hs
  wpIn_mono (k B I' w ρ' a rr (hr.gone h2) h1) fun e a' w' hp => hp.trans h2
def loopK (C : Ctx) (Inv : ASt → Prop) (μ : ASt → Nat) (n : Nat) (K : Exit → ASt → Prop) : Exit → ASt → Prop
  | .normal, st => ∃ st', Reabs C st st' ∧ Inv st' ∧ μ st' < n
  | e, st => K e st
theorem exists_least {M : Nat → Prop} (h : ∃ n, M n) : ∃ n, M n ∧ ∀ m, M m → n ≤ m := by
  obtain ⟨n, hn⟩ := h
  induction n using Nat.strongRecOn with
  | _ n ih =>
    by_cases hl : ∃ m, m < n ∧ M m
    · obtain ⟨m, hm, hM⟩ := hl; exact ih m hm hM
    exact ⟨n, hn, fun m hM => by
      rcases Nat.lt_or_ge m n with h | h
      exact absurd ⟨m, h, hM⟩ hl
      exact h⟩
theorem AWp_loop {c : Code} (Inv : ASt → Prop) (μ : ASt → Nat) (h0 : Inv st) (hround : ∀ st', Inv st' → AWp C c (loopK C Inv μ (μ st') K) st') : AWp C (.loop c) K st := fun B I w ρ a rr hr hs => by
  classical
  let R : Act → World → ASt → Prop := fun a' w' st' => ∃ I' ρ', Inv st' ∧ SRel C.G B I' w' ρ' st' a' ∧ Gone C.m I w ρ st.H I' w' ρ' st'.H
  let M : Act → World → Nat → Prop := fun a' w' n => ∃ st', R a' w' st' ∧ μ st' = n
  let mu : Act → World → Nat := fun a' w' => if h : ∃ n, M a' w' n then Classical.choose (exists_least h) else 0
  refine wpIn_loop (fun a' w' => ∃ st', R a' w' st') mu ⟨st, I, ρ, h0, hs, Gone.refl⟩ ?_; rintro a' w' ⟨st0, hst0⟩; have hex : ∃ n, M a' w' n := ⟨_, st0, hst0, rfl⟩; have hmu : mu a' w' = Classical.choose (exists_least hex) := by simp only [mu]; rw [dif_pos hex]
  obtain ⟨st1, ⟨I1, ρ1, hinv, hs1, hg1⟩, hμ⟩ := (Classical.choose_spec (exists_least hex)).1
  refine wpIn_mono (hround st1 hinv B I1 w' ρ1 a' rr (hr.gone hg1) hs1) fun e a'' w'' hp => ?_
  obtain ⟨I2, ρ2, st2, h1, h2, h3⟩ := hp
  cases e with
  | normal =>
    obtain ⟨st3, hre, hinv3, hlt⟩ := h1; obtain ⟨I3, ρ3, hs3, hg3⟩ := hre B I2 w'' ρ2 a'' h2; have hR : R a'' w'' st3 := ⟨I3, ρ3, hinv3, hs3, (hg1.trans h3).trans hg3⟩; refine ⟨⟨st3, hR⟩, ?_⟩; have hex' : ∃ n, M a'' w'' n := ⟨_, st3, hR, rfl⟩
    have : mu a'' w'' ≤ μ st3 := by
      simp only [mu]; rw [dif_pos hex']; exact (Classical.choose_spec (exists_least hex')).2 _ ⟨st3, hR, rfl⟩
    rw [hmu, ← hμ]; omega
  | exit id => exact ⟨I2, ρ2, st2, h1, h2, hg1.trans h3⟩
  | goto l => exact ⟨I2, ρ2, st2, h1, h2, hg1.trans h3⟩
  | ret => exact ⟨I2, ρ2, st2, h1, h2, hg1.trans h3⟩
  | panic c => exact ⟨I2, ρ2, st2, h1, h2, hg1.trans h3⟩
  | outgrown => exact ⟨I2, ρ2, st2, h1, h2, hg1.trans h3⟩
end
end
section
def Places.nil : Places := fun _ => none
def ares1 (P : Program) (st : ASt) : ResultVar → Option AV
  | .tmp t => st.fr[t]?
  | .cell a t => match st.fr[a]? with
    | some p => aload P st.H t p
    | none => none
def ares (P : Program) (st : ASt) : List ResultVar → Option (List AV)
  | [] => some []
  | r :: rs => match ares1 P st r, ares P st rs with
    | some x, some xs => some (x :: xs)
    | _, _ => none
def atuple : List AV → AV
  | [x] => x
  | xs => .tuple xs
def resOf (tmps : Array Value) : ResultVar → Sem Value
  | .tmp t => pure (tmps.getD t undef)
  | .cell c t => do loadVar t (← asAddr (tmps.getD c undef))
theorem results_eq (fn : Func) (tmps : Array Value) : results fn tmps = (do let vs ← fn.results.mapM (resOf tmps); pure (if h : vs.size = 1 then vs[0] else .tuple vs)) := by
  have : (resOf tmps) = (fun
    | .tmp t => pure (tmps.getD t undef)
    | .cell a t => do loadVar t (← asAddr (tmps.getD a undef))) := by
    funext r; cases r <;> rfl
  unfold results; rw [this]; rfl
theorem ares1_sound {P : Program} {G : Glob} {B : Nat} {I : Nat → Prop} {w : World} {ρ : Places} {st : ASt} {a : Act} (h : SRel G B I w ρ st a) {r : ResultVar} {x : AV} (hx : ares1 P st r = some x) :
    ∃ v, (resOf a.tmps r).run P w = .ok v w ∧ VRel I w ρ v x := by
  cases r with
  | tmp t => exact ⟨_, rfl, h.fr t x hx⟩
  | cell c t =>
    simp only [ares1] at hx; split at hx
    · rename_i p hp; have hv := h.fr c p hp; obtain ⟨v, h1, h2⟩ := aload_sound (P := P) h.heap hv hx; refine ⟨v, ?_, h2⟩; simp only [resOf]; generalize a.tmps.getD c undef = u at hv h1 ⊢
      cases hv <;> first
        | (simp [aload] at hx; done)
        | (simp only [Instr.loadAt, Instr.sureAddr, Sem.run_bind, Sem.run_pure, Result.andThen] at h1; simp only [asAddr, Sem.run_bind, Sem.run_pure, Result.andThen]; exact h1)
    cases hx
theorem ares_sound {P : Program} {G : Glob} {B : Nat} {I : Nat → Prop} {w : World} {ρ : Places} {st : ASt} {a : Act} (h : SRel G B I w ρ st a) : ∀ (rs : List ResultVar) (xs : List AV), ares P st rs = some xs →
    ∃ vs, (rs.mapM (resOf a.tmps)).run P w = .ok vs w ∧ vs.length = xs.length ∧ ∀ (i : Nat) (x : AV), xs[i]? = some x → VRel I w ρ (vs.getD i undef) x
  | [], xs, hx => by
    simp [ares] at hx; subst hx; exact ⟨[], by simp, rfl, fun i x h => by simp at h⟩
  | r :: rs, xs, hx => by
    simp only [ares] at hx; split at hx
    · rename_i y ys h1 h2
      cases hx
      obtain ⟨v, g1, g2⟩ := ares1_sound (P := P) h h1; obtain ⟨vs, g3, g4, g5⟩ := ares_sound h rs ys h2; refine ⟨v :: vs, ?_, by simp [g4], fun i x hi => ?_⟩; simp only [List.mapM_cons, Sem.run_bind, g1, g3, Result.andThen, Sem.run_pure]
      cases i with
      | zero => simp at hi; subst hi; exact g2
      | succ i => simpa using g5 i x (by simpa using hi)
    cases hx
theorem results_sound {P : Program} {G : Glob} {B : Nat} {I : Nat → Prop} {w : World} {ρ : Places} {st : ASt} {a : Act} (h : SRel G B I w ρ st a) {fn : Func} {xs : List AV} (hx : ares P st fn.results.toList = some xs) :
    ∃ v, (results fn a.tmps).run P w = .ok v w ∧ VRel I w ρ v (atuple xs) := by
  obtain ⟨vs, h1, h2, h3⟩ := ares_sound h fn.results.toList xs hx
  have hm : (results fn a.tmps).run P w = .ok (if h : vs.toArray.size = 1 then vs.toArray[0] else .tuple vs.toArray) w := by
    rw [results_eq, Array.mapM_eq_mapM_toList]; show (((fn.results.toList.mapM (resOf a.tmps) : Sem (List Value)) >>= fun l => pure l.toArray) >>= fun vs => pure (if h : vs.size = 1 then vs[0] else .tuple vs)).run P w = _; simp only [Sem.run_bind]; rw [h1]; rfl
  refine ⟨_, hm, ?_⟩
  match xs, vs, h2, h3 with
  | [x], [v], _, h3 => simpa [atuple] using h3 0 x rfl
  | [], [], _, h3 => exact .tuple rfl (fun i x hi => by simp at hi)
  | x :: y :: xs, v :: u :: vs, h2, h3 =>
    have : ¬ (v :: u :: vs).toArray.size = 1 := by simp
    rw [dif_neg this]; exact .tuple (by simpa using h2) (fun i x hi => by simpa using h3 i x hi)
def retK (P : Program) (fn : Func) (Q : AV → AH → Prop) : Exit → ASt → Prop
  | .normal, st | .ret, st => ∃ xs, ares P st fn.results.toList = some xs ∧ Q (atuple xs) st.H
  | _, _ => False
theorem leaves {P : Program} {fn : Func} {tmps : Array Value} {R : Ending → World → Prop} : ∀ (rs : List Nat) (ds : List Deferred) (w : World), ds.map (·.target) = rs.map .collected → rs.Nodup → (∀ r ∈ rs, w.heap[r]? = some (.deferred (some []))) →
    (∀ w', w'.heap.size = w.heap.size → w'.os = w.os → w'.tape = w.tape → w'.output = w.output → (∀ b, b ∉ rs → w'.heap[b]? = w.heap[b]?) → ∃ v, (results fn tmps).run P w' = .ok v w' ∧ R (.returned v) w') →
    LeavesInM Fence.wide 0 P fn tmps R ds .returning w
  | [], [], w, _, _, _, h => by
    obtain ⟨v, h1, h2⟩ := h w rfl rfl rfl rfl (fun _ _ => rfl); exact ⟨v, h1, h2⟩
  | [], d :: ds, w, e, _, _, _ => by simp at e
  | r :: rs, [], w, e, _, _, _ => by simp at e
  | r :: rs, d :: ds, w, e, hn, hr, h => by
    simp only [List.map_cons, List.cons.injEq] at e; have hr0 := hr r (List.mem_cons_self ..); have hn' := List.nodup_cons.1 hn; refine ⟨by simp, .inl ⟨r, _, e.1, run_takeDeferred hr0, ?_⟩⟩; refine leaves rs ds _ e.2 hn'.2 (fun r' hr' => ?_) (fun w' h1 h2 h3 h4 h5 => ?_)
    · rw [World.putObj_heap_other (fun e => hn'.1 (by rw [← e]; exact hr'))]; exact hr r' (List.mem_cons_of_mem _ hr')
    refine h w' (by rw [h1]; simp) (by rw [h2]; rfl) (by rw [h3]; rfl) (by rw [h4]; rfl) (fun b hb => ?_); rw [h5 b (fun h => hb (List.mem_cons_of_mem _ h)), World.putObj_heap_other (fun e => hb (by rw [e]; exact List.mem_cons_self ..))]
end
section
def ARest (C : Ctx) (ds : List (Option Tmp)) (l : List Oper) (K : Exit → ASt → Prop) (st : ASt) : Prop :=
  ∀ (ops : Array Oper) (done : List Oper), ops.toList = done ++ l → done.map (·.dst) = ds → AOps C ops l K st
mutual
def aops (C : Ctx) (ds : List (Option Tmp)) (l : List Oper) (K : Exit → ASt → Prop) (st : ASt) : Prop :=
  match l with
  | [] => K .normal st
  | ⟨dst, op, ty, pos, af, none⟩ :: l => stepG C ds dst op ty pos af none l K st (astep C.P C.G st op ty)
  | ⟨dst, op, ty, pos, af, some (j, b)⟩ :: l => guardG C ds dst op ty pos af j b l K st ((ds.getD j none).bind fun d => st.fr[d]?)
termination_by (l.length, 0)
def stepG (C : Ctx) (ds : List (Option Tmp)) (dst : Option Tmp) (op : Op) (ty : TypeId) (pos : String) (af : Array Edge) (g : Option (Nat × Bool)) (l : List Oper) (K : Exit → ASt → Prop) (st : ASt) (r : Option (AV × AH)) : Prop :=
  match r with
  | some (y, H') => aops C (ds ++ [dst]) l K (st.put dst y H')
  | none => AOp C ⟨dst, op, ty, pos, af, g⟩ (ARest C (ds ++ [dst]) l K) st
termination_by (l.length, 1)
def guardG (C : Ctx) (ds : List (Option Tmp)) (dst : Option Tmp) (op : Op) (ty : TypeId) (pos : String) (af : Array Edge) (j : Nat) (b : Bool) (l : List Oper) (K : Exit → ASt → Prop) (st : ASt) (r : Option AV) : Prop :=
  match r with
  | some x => match wantedV x b with
    | some true => stepG C ds dst op ty pos af (some (j, b)) l K st (astep C.P C.G st op ty)
    | some false => aops C (ds ++ [dst]) l K (st.put dst (.sc undef) st.H)
    | none => False
  | none => False
termination_by (l.length, 2)
end
section
variable (C : Ctx) (ds : List (Option Tmp)) (dst : Option Tmp) (op : Op) (ty : TypeId) (pos : String) (af : Array Edge) (g : Option (Nat × Bool)) (j : Nat) (b : Bool) (l : List Oper) (K : Exit → ASt → Prop) (st : ASt)
end
theorem AOp.mono {C : Ctx} {o : Oper} {N N' : ASt → Prop} {st : ASt} (h : AOp C o N st) (hn : ∀ st, N st → N' st) : AOp C o N' st := fun B I w ρ a rr hr hs next Q hq => h B I w ρ a rr hr hs next Q fun I' ρ' st' a' w' hk => hq I' ρ' st' a' w' (hn _ hk)
structure Cont (C : Ctx) (y : Code) (K K' : Exit → ASt → Prop) : Prop where
  go : ∀ st, AWp C y K st → K' .normal st
  out : ∀ e st, e ≠ .normal → K e st → K' e st
structure BlkCont (id : Nat) (K K' : Exit → ASt → Prop) : Prop where
  go : ∀ st, K .normal st → K' .normal st
  exit : ∀ st, K .normal st → K' (.exit id) st
  out : ∀ id' st, id' ≠ id → K (.exit id') st → K' (.exit id') st
  ret : ∀ st, K .ret st → K' .ret st
structure LoopCont (C : Ctx) (Inv : ASt → Prop) (μ : ASt → Nat) (n : Nat) (K K' : Exit → ASt → Prop) : Prop where
  go : ∀ st st', Reabs C st st' → Inv st' → μ st' < n → K' .normal st
  out : ∀ e st, e ≠ .normal → K e st → K' e st
theorem val_pure {α : Type} (a : α) : val? (Pure.pure a : Sem α) = some a := rfl
end
end Go.Proofs.Ax
namespace Go.Proofs.Ax
open Go
theorem eval_lss (t : TypeId) (k : IntKind) (a b : Int) : val? (binOp .lss t (.int k a) (.int k b)) = some (.bool (decide (a < b))) := by cases k <;> rfl
theorem eval_leq (t : TypeId) (k : IntKind) (a b : Int) : val? (binOp .leq t (.int k a) (.int k b)) = some (.bool (decide (a ≤ b))) := by cases k <;> rfl
theorem eval_gtr (t : TypeId) (k : IntKind) (a b : Int) : val? (binOp .gtr t (.int k a) (.int k b)) = some (.bool (decide (b < a))) := by cases k <;> rfl
theorem eval_geq (t : TypeId) (k : IntKind) (a b : Int) : val? (binOp .geq t (.int k a) (.int k b)) = some (.bool (decide (b ≤ a))) := by cases k <;> rfl
theorem eval_eql (t : TypeId) (k : IntKind) (a b : Int) : val? (binOp .eql t (.int k a) (.int k b)) = some (.bool (decide (a = b))) := by
  have : (a == b) = decide (a = b) := by by_cases h : a = b <;> simp [h]
  rw [← this]; cases k <;> rfl
theorem eval_neq (t : TypeId) (k : IntKind) (a b : Int) : val? (binOp .neq t (.int k a) (.int k b)) = some (.bool (!decide (a = b))) := by
  have : (a != b) = !decide (a = b) := by by_cases h : a = b <;> simp [h]
  rw [← this]; cases k <;> rfl
theorem eval_add (t : TypeId) (k : IntKind) (a b : Int) : val? (binOp .add t (.int k a) (.int k b)) = some (.int k (k.wrap (a + b))) := by cases k <;> rfl
theorem eval_sub (t : TypeId) (k : IntKind) (a b : Int) : val? (binOp .sub t (.int k a) (.int k b)) = some (.int k (k.wrap (a - b))) := by cases k <;> rfl
theorem eval_mul (t : TypeId) (k : IntKind) (a b : Int) : val? (binOp .mul t (.int k a) (.int k b)) = some (.int k (k.wrap (a * b))) := by cases k <;> rfl
theorem eval_quo (t : TypeId) (k : IntKind) (a b : Int) (h : b ≠ 0) : val? (binOp .quo t (.int k a) (.int k b)) = some (.int k (k.wrap (a.tdiv b))) := by cases k <;> simp [binOp, Op.intDiv, h, val?] <;> rfl
theorem eval_rem (t : TypeId) (k : IntKind) (a b : Int) (h : b ≠ 0) : val? (binOp .rem t (.int k a) (.int k b)) = some (.int k (a.tmod b)) := by cases k <;> simp [binOp, Op.intDiv, h, val?] <;> rfl
theorem eval_neg (k : IntKind) (a : Int) : val? (Op.unary .neg (.int k a)) = some (.int k (k.wrap (0 - a))) := rfl
theorem eval_not (a : Bool) : val? (Op.unary .not (.bool a)) = some (.bool (!a)) := rfl
def InI (a : Int) : Prop := -9223372036854775808 ≤ a ∧ a ≤ 9223372036854775807
theorem wrapI {a : Int} (h : InI a) : IntKind.i64.wrap a = a := by
  obtain ⟨h1, h2⟩ := h; exact IntWalk.i64_in a ⟨h1, by omega⟩
end Go.Proofs.Ax
namespace Go.Proofs.Ax
open Go
set_option linter.unusedVariables false
def AV.ren0 (σ : Nat → Nat) : AV → AV
  | .sm id k o l => .sm (σ id) k o l
  | .pm id r c => .pm (σ id) r c
  | .mp id => .mp (σ id)
  | .yl id => .yl (σ id)
  | .it id => .it (σ id)
  | x => x
def AV.ren (σ : Nat → Nat) : AV → AV
  | .agg cs => .agg (cs.map (AV.ren0 σ))
  | .tuple cs => .tuple (cs.map (AV.ren0 σ))
  | .fn f fs cs => .fn f (fs.map (AV.ren0 σ)) (cs.map (AV.ren0 σ))
  | x => x.ren0 σ
def AV.ok0 (n : Nat) : AV → Bool
  | .sm id _ _ _ => decide (id < n)
  | .pm id _ _ => decide (id < n)
  | .mp id => decide (id < n)
  | .yl id => decide (id < n)
  | .it id => decide (id < n)
  | x => x.deep
def AV.ok (n : Nat) : AV → Bool
  | .agg cs | .tuple cs => cs.all (AV.ok0 n)
  | .fn _ fs cs => fs.all (AV.ok0 n) && cs.all (AV.ok0 n)
  | x => x.ok0 n
def Places.sub (ρ : Places) (σ : Nat → Nat) (n : Nat) : Places := fun i => if i < n then ρ (σ i) else none
theorem VRel.ren0 {I : Nat → Prop} {w : World} {ρ : Places} {v : Value} {x : AV} {σ : Nat → Nat} {n : Nat} (h : VRel I w ρ v (x.ren0 σ)) (hok : x.ok0 n = true) : VRel I w (ρ.sub σ n) v x := by
  cases x with
  | sm id k o l =>
    simp only [AV.ok0, decide_eq_true_eq] at hok; simp only [AV.ren0] at h
    cases h with
    | sm hp hcap hn => exact .sm (by simp [Places.sub, hok, hp]) hcap hn
    | smNil => exact .smNil
  | pm id r c =>
    simp only [AV.ok0, decide_eq_true_eq] at hok; simp only [AV.ren0] at h
    cases h with
    | pm hp => exact .pm (by simp only [Places.sub, hok, if_true]; exact hp)
  | mp id =>
    simp only [AV.ok0, decide_eq_true_eq] at hok; simp only [AV.ren0] at h
    cases h with
    | mp hp => exact .mp (by simp only [Places.sub, hok, if_true]; exact hp)
  | yl id =>
    simp only [AV.ok0, decide_eq_true_eq] at hok; simp only [AV.ren0] at h
    cases h with
    | yl hp => exact .yl (by simp only [Places.sub, hok, if_true]; exact hp)
  | it id =>
    simp only [AV.ok0, decide_eq_true_eq] at hok; simp only [AV.ren0] at h
    cases h with
    | it hp => exact .it (by simp only [Places.sub, hok, if_true]; exact hp)
  | any => exact .any
  | sc u => exact VRel.deep h rfl _
  | sl k t rows => exact VRel.deep h rfl _
  | sz k => exact VRel.deep h rfl _
  | pi cells => exact VRel.deep h rfl _
  | agg cs => cases hok
  | tuple cs => cases hok
  | fn f fs cs => exact VRel.deep h hok _
  | iface t y => exact VRel.deep h hok _
theorem getElem?_map_some {α β : Type} {f : α → β} {l : List α} {i : Nat} {x : α} (h : l[i]? = some x) : (l.map f)[i]? = some (f x) := by rw [List.getElem?_map, h]; rfl
theorem VRel.ren {I : Nat → Prop} {w : World} {ρ : Places} {v : Value} {x : AV} {σ : Nat → Nat} {n : Nat} (h : VRel I w ρ v (x.ren σ)) (hok : x.ok n = true) : VRel I w (ρ.sub σ n) v x := by
  cases x with
  | agg cs =>
    simp only [AV.ok, List.all_eq_true] at hok; simp only [AV.ren] at h
    cases h with
    | agg hl h1 hv => exact .agg (by simpa using hl) (fun i x hx => h1 i _ (getElem?_map_some hx)) (fun i x hx => (hv i _ (getElem?_map_some hx)).ren0 (hok x (List.mem_of_getElem? hx)))
  | tuple cs =>
    simp only [AV.ok, List.all_eq_true] at hok; simp only [AV.ren] at h
    cases h with
    | tuple hl hv => exact .tuple (by simpa using hl) (fun i x hx => (hv i _ (getElem?_map_some hx)).ren0 (hok x (List.mem_of_getElem? hx)))
  | fn f fs cs =>
    simp only [AV.ok, Bool.and_eq_true, List.all_eq_true] at hok; simp only [AV.ren] at h
    cases h with
    | fn hl hl' hv hv' => exact .fn (by simpa using hl) (by simpa using hl') (fun i x hx => (hv i _ (getElem?_map_some hx)).ren0 (hok.1 x (List.mem_of_getElem? hx))) (fun i x hx => (hv' i _ (getElem?_map_some hx)).ren0 (hok.2 x (List.mem_of_getElem? hx)))
  | any => exact .any
  | sc u => exact VRel.ren0 h hok
  | sl k t rows => exact VRel.ren0 h hok
  | sz k => exact VRel.ren0 h hok
  | pi cells => exact VRel.ren0 h hok
  | sm id k o l => exact VRel.ren0 h hok
  | pm id r c => exact VRel.ren0 h hok
  | mp id => exact VRel.ren0 h hok
  | yl id => exact VRel.ren0 h hok
  | it id => exact VRel.ren0 h hok
  | iface t y => exact VRel.ren0 h hok
def Slot (σ : Nat → Nat) (n : Nat) (x x' : AV) : Prop := x' = .any ∨ (x'.ok n = true ∧ x = x'.ren σ)
def Slots (σ : Nat → Nat) (n : Nat) : List AV → List AV → Prop
  | [], [] => True
  | x :: xs, x' :: xs' => Slot σ n x x' ∧ Slots σ n xs xs'
  | _, _ => False
def ABlk.allDeep : ABlk → Prop
  | .rows rs _ => ∀ row ∈ rs, ∀ x ∈ row, AV.deep x = true
  | .amap es _ => ∀ e ∈ es, AV.deep e.1 = true ∧ AV.deep e.2.1 = true
  | .loop _ _ fr _ _ _ => ∀ x ∈ fr, AV.deep x = true
  | .miter mid _ _ _ => mid = none
  | .siter _ _ => True
  | .dead => True
def ABlk.ren (σ : Nat → Nat) : ABlk → ABlk
  | .rows rs te => .rows (rs.map (·.map (AV.ren σ))) te
  | .amap es c => .amap (es.map fun e => (e.1.ren σ, e.2.1.ren σ, e.2.2)) c
  | .loop st pe fr ps as bd => .loop st pe (fr.map (AV.ren σ)) ps as bd
  | .miter mid since seen last => .miter (mid.map σ) since seen last
  | .siter s p => .siter s p
  | .dead => .dead
def ABlk.ok (n : Nat) : ABlk → Prop
  | .rows rs _ => ∀ row ∈ rs, ∀ x ∈ row, AV.ok n x = true
  | .amap es _ => ∀ e ∈ es, AV.ok n e.1 = true ∧ AV.ok n e.2.1 = true
  | .loop _ _ fr _ _ _ => ∀ x ∈ fr, AV.ok n x = true
  | .miter mid _ _ _ => ∀ m, mid = some m → m < n
  | .siter _ _ => True
  | .dead => True
def Blk (σ : Nat → Nat) (n : Nat) (b b' : ABlk) : Prop := b' = .dead ∨ (b = b' ∧ b'.allDeep) ∨ (b'.ok n ∧ b = b'.ren σ)
theorem slots_length {σ : Nat → Nat} {n : Nat} : ∀ {xs xs' : List AV}, Slots σ n xs xs' → xs.length = xs'.length
  | [], [], _ => rfl
  | _ :: _, _ :: _, h => by simp [slots_length h.2]
  | [], _ :: _, h => h.elim
  | _ :: _, [], h => h.elim
theorem slots_get {σ : Nat → Nat} {n : Nat} : ∀ {xs xs' : List AV} {i : Nat} {x' : AV}, Slots σ n xs xs' → xs'[i]? = some x' → ∃ x, xs[i]? = some x ∧ Slot σ n x x'
  | [], [], i, x', _, h => by simp at h
  | x :: xs, y :: xs', 0, x', h, h' => by simp at h'; subst h'; exact ⟨x, rfl, h.1⟩
  | x :: xs, y :: xs', i + 1, x', h, h' => by
    obtain ⟨z, h1, h2⟩ := slots_get h.2 (by simpa using h'); exact ⟨z, by simpa using h1, h2⟩
  | [], _ :: _, _, _, h, _ => h.elim
  | _ :: _, [], _, _, h, _ => h.elim
theorem BRel.blk {I : Nat → Prop} {w : World} {ρ : Places} {l : Loc} {σ : Nat → Nat} {n : Nat} {b b' : ABlk} (h : BRel I w ρ l b) (hb : Blk σ n b b') : BRel I w (ρ.sub σ n) l b' := by
  rcases hb with rfl | ⟨rfl, hd⟩ | ⟨hok, rfl⟩
  exact trivial
  · cases b with
    | dead => exact trivial
    | rows rs te =>
      obtain ⟨⟨cells, hg, hsz, hc⟩, h2, h3⟩ := h; exact ⟨⟨cells, hg, hsz, fun i j row x hi hj => ⟨(hc i j row x hi hj).1, (hc i j row x hi hj).2.deep (hd row (List.mem_of_getElem? hi) x (List.mem_of_getElem? hj)) _⟩⟩, h2, h3⟩
    | amap es clock =>
      obtain ⟨ms, hg, hsz, hr⟩ := h; exact ⟨ms, hg, hsz, fun i m e hm he => ⟨(hr i m e hm he).1.deep (hd e (List.mem_of_getElem? he)).1 _, (hr i m e hm he).2.1.deep (hd e (List.mem_of_getElem? he)).2 _, (hr i m e hm he).2.2⟩⟩
    | loop st pe fr ps as bd =>
      obtain ⟨r, hg, h1, h2, h3, h4, h5, h6, h7⟩ := h; exact ⟨r, hg, h1, h2, h3, h4, h5, h6, fun i x hi => (h7 i x hi).deep (hd x (List.mem_of_getElem? hi)) _⟩
    | miter mid since seen last =>
      obtain ⟨mb, hg, hm⟩ := h; have hd : mid = none := hd; subst hd; exact ⟨mb, hg, hm⟩
    | siter s p => exact h
  cases b' with
  | dead => exact trivial
  | rows rs te =>
    obtain ⟨⟨cells, hg, hsz, hc⟩, h2, h3⟩ := h; refine ⟨⟨cells, hg, hsz, fun i j row x hi hj => ?_⟩, by simpa using h2, fun r hr => ?_⟩
    · have := hc i j _ _ (getElem?_map_some hi) (getElem?_map_some hj); exact ⟨this.1, this.2.ren (hok row (List.mem_of_getElem? hi) x (List.mem_of_getElem? hj))⟩
    have := h3 (r.map (AV.ren σ)) (List.mem_map.2 ⟨r, hr, rfl⟩); simpa using this
  | amap es clock =>
    obtain ⟨ms, hg, hsz, hr⟩ := h; exact ⟨ms, hg, by simpa using hsz, fun i m e hm he => ⟨(hr i m _ hm (getElem?_map_some he)).1.ren (hok e (List.mem_of_getElem? he)).1, (hr i m _ hm (getElem?_map_some he)).2.1.ren (hok e (List.mem_of_getElem? he)).2, (hr i m _ hm (getElem?_map_some he)).2.2⟩⟩
  | loop st pe fr ps as bd =>
    obtain ⟨r, hg, h1, h2, h3, h4, h5, h6, h7⟩ := h; exact ⟨r, hg, h1, h2, h3, h4, h5, by simpa using h6, fun i x hi => (h7 i _ (getElem?_map_some hi)).ren (hok x (List.mem_of_getElem? hi))⟩
  | miter mid since seen last =>
    obtain ⟨mb, hg, hm⟩ := h; refine ⟨mb, hg, ?_⟩
    cases mid with
    | none => exact hm
    | some m =>
      obtain ⟨l', h1, h2⟩ := hm; have hlt : m < n := hok m rfl; exact ⟨l', by simp only [Places.sub, hlt, if_true]; exact h1, h2⟩
  | siter s p => exact h
theorem Reabs.ren {C : Ctx} {st st' : ASt} (σ : Nat → Nat) (hfr : Slots σ st'.H.length st.fr st'.fr) (hH : ∀ i, i < st'.H.length → ∃ b b', st.H[σ i]? = some b ∧ st'.H[i]? = some b' ∧ Blk σ st'.H.length b b' ∧ (b'.live = true → b.live = true))
    (hinj : ∀ i j, i < st'.H.length → j < st'.H.length → σ i = σ j → i = j) (hm : ∀ i, i < C.m → i < st'.H.length ∧ σ i = i) : Reabs C st st' := by
  intro B I w ρ a hs
  have hlt : ∀ {i : Nat} {b : ABlk}, st'.H[i]? = some b → i < st'.H.length := fun h => (List.getElem?_eq_some_iff.1 h).1
  have hpl : ∀ {i : Nat} {l : Loc}, (ρ.sub σ st'.H.length) i = some l → i < st'.H.length ∧ ρ (σ i) = some l := by
    intro i l h; simp only [Places.sub] at h; split at h
    exact ⟨by assumption, h⟩
    cases h
  have hlive : ∀ {i : Nat} {b' : ABlk}, st'.H[i]? = some b' → b'.live = true → ∃ b, st.H[σ i]? = some b ∧ b.live = true ∧ Blk σ st'.H.length b b' := by
    intro i b' hi hb; obtain ⟨b, b'', h1, h2, h3, h4⟩ := hH i (hlt hi); rw [hi] at h2
    cases h2
    exact ⟨b, h1, h4 hb, h3⟩
  have hown : ∀ b, Owned (ρ.sub σ st'.H.length) st'.H b → Owned ρ st.H b := by
    rintro b ⟨i, b', l, hi, hb, hl, rfl⟩; obtain ⟨b0, h1, h2, _⟩ := hlive hi hb; exact ⟨σ i, b0, l, h1, h2, (hpl hl).2, rfl⟩
  refine ⟨I, ρ.sub σ st'.H.length, ⟨⟨fun i b' l hi hb hl => ?_, fun i j b b' l l' hi hj hb hb' hl hl' e => ?_, fun i l hl => (hpl hl).1, hs.heap.old, hs.heap.glob⟩, ?_, fun i x' hx' => ?_, ?_, hs.base⟩,
    ⟨fun _ h => h, fun i l hi hl => ?_, Nat.le_refl _, rfl, rfl, rfl, fun _ _ _ => rfl, fun b hb _ => hown b hb, fun _ h => .inl h⟩⟩
  · obtain ⟨b, h1, h2, h3⟩ := hlive hi hb; obtain ⟨g1, g2, g3⟩ := hs.heap.blk (σ i) b l h1 h2 (hpl hl).2; exact ⟨g1, g2, g3.blk h3⟩
  · obtain ⟨b0, h1, h2, _⟩ := hlive hi hb; obtain ⟨b1, h3, h4, _⟩ := hlive hj hb'; exact hinj i j (hlt hi) (hlt hj) (hs.heap.inj (σ i) (σ j) b0 b1 l l' h1 h3 h2 h4 (hpl hl).2 (hpl hl').2 e)
  rw [hs.size, slots_length hfr]
  · obtain ⟨x, h1, h2⟩ := slots_get hfr hx'
    rcases h2 with rfl | ⟨hok, rfl⟩
    exact .any; exact (hs.fr i _ h1).ren hok
  · obtain ⟨rs, h1, h2, h3⟩ := hs.marks; exact ⟨rs, h1, h2, fun r hr => ⟨(h3 r hr).1, (h3 r hr).2.1, fun ho => (h3 r hr).2.2.1 (hown r ho), (h3 r hr).2.2.2⟩⟩
  obtain ⟨h1, h2⟩ := hm i hi; simp only [Places.sub, h1, if_true, h2, hl]
def alook (i : Nat) : List (Nat × AV) → AV
  | [] => .any
  | (j, x) :: l => if i == j then x else alook i l
def frm (i : Nat) (l : List (Nat × AV)) : Nat → List AV
  | 0 => []
  | n + 1 => alook i l :: frm (i + 1) l n
end Go.Proofs.Ax
namespace Go.Proofs.Ax
open Go
end Go.Proofs.Ax
namespace Go.Proofs.Ax
open Go
set_option linter.unusedVariables false
section
def Enters (P : Program) : Prop := ∀ (f : FuncId) (fn : Func) (c : Code), P.funcs[f]? = some fn → fn.body = some c → (fn.name == "runtime.NumGoroutine") = false
theorem run_callFunc_body {P : Program} (hE : Enters P) {f : FuncId} {fn : Func} {c : Code} (hf : P.funcs[f]? = some fn) (hb : fn.body = some c) (args : Array Value) (w : World) :
    (callFunc f args).run P w = .ok (.enter f args) w := by
  have hn := hE f fn c hf hb; simp only [beq_eq_false_iff_ne, ne_eq] at hn; simp [callFunc, hf, hn, hb]
def AFnH (P : Program) (G : Glob) (f : FuncId) (args : List AV) (H : AH) (Q : AV → AH → Prop) : Prop :=
  ∀ (I : Nat → Prop) (w : World) (ρ : Places) (vs : Array Value), HRel G I w ρ H → vs.size = args.length → (∀ (i : Nat) (x : AV), args[i]? = some x → VRel I w ρ (vs.getD i undef) x) →
    Calls P f vs w fun e w' => ∃ v, e = .returned v ∧ ∃ I' ρ' H' y, Q y H' ∧ HRel G I' w' ρ' H' ∧ VRel I' w' ρ' v y ∧ Gone H.length I w ρ H I' w' ρ' H'
theorem AFnH.mono {P : Program} {G : Glob} {f : FuncId} {args : List AV} {H : AH} {Q Q' : AV → AH → Prop} (h : AFnH P G f args H Q) (hq : ∀ y H, Q y H → Q' y H) : AFnH P G f args H Q' := fun I w ρ vs h1 h2 h3 => (h I w ρ vs h1 h2 h3).mono fun e w' ⟨v, e1, I', ρ', H', y, g1, g2, g3, g4⟩ => ⟨v, e1, I', ρ', H', y, hq _ _ g1, g2, g3, g4⟩
def AStartH (fn : Func) (args : List AV) (H : AH) : ASt := ⟨args ++ List.replicate (fn.ntmps - args.length) .any, H⟩
theorem start_relH {G : Glob} {I : Nat → Prop} {w : World} {ρ : Places} {H : AH} {fn : Func} {args : List AV} {vs : Array Value} (hh : HRel G I w ρ H)
    (hl : vs.size = args.length) (hv : ∀ (i : Nat) (x : AV), args[i]? = some x → VRel I w ρ (vs.getD i undef) x) :
    SRel G w.heap.size I w ρ (AStartH fn args H) { tmps := vs ++ Array.replicate (fn.ntmps - vs.size) undef, defers := [] } := by
  refine ⟨hh, by simp [AStartH, hl], fun i x hi => ?_, ⟨[], rfl, List.nodup_nil, fun r hr => by cases hr⟩, Nat.le_refl _⟩; simp only [AStartH] at hi; rw [List.getElem?_append] at hi; split at hi
  · rename_i hlt; have := hv i x hi
    rwa [show (vs ++ Array.replicate (fn.ntmps - vs.size) undef).getD i undef = vs.getD i undef by rw [Array.getD_eq_getD_getElem?, Array.getElem?_append_left (by omega), ← Array.getD_eq_getD_getElem?]]
  rw [List.getElem?_replicate] at hi; split at hi
  cases hi; exact .any
  cases hi
theorem AFnH_of_wp {P : Program} {G : Glob} {f : FuncId} {fn : Func} {c : Code} {args : List AV} {H : AH} {Q : AV → AH → Prop} (hf : P.funcs[f]? = some fn) (hb : fn.body = some c)
    (h : AWp ⟨P, G, H.length, none⟩ c (retK P fn Q) (AStartH fn args H)) : AFnH P G f args H Q := by
  intro I w ρ vs hh0 hl hv; refine (callsIn_wide (n := 0)).1 (callsIn_of_wp_marks hf hb trivial ?_)
  refine wpIn_mono (h w.heap.size I w ρ _ none rfl (start_relH hh0 hl hv)) fun e a' w' hp => ?_
  obtain ⟨I', ρ', st', hk, hs, hg⟩ := hp
  have fin : (∃ xs, ares P st' fn.results.toList = some xs ∧ Q (atuple xs) st'.H) → LeavesInM Fence.wide 0 P fn a'.tmps (fun e w' => ∃ v, e = .returned v ∧ ∃ I' ρ' H' y, Q y H' ∧ HRel G I' w' ρ' H' ∧ VRel I' w' ρ' v y ∧ Gone H.length I w ρ H I' w' ρ' H') a'.defers .returning w' := by
    rintro ⟨xs, hx, hq⟩; obtain ⟨rs, e1, e2, e3⟩ := hs.marks
    refine leaves rs a'.defers w' e1 e2 (fun r hr => (e3 r hr).2.1) fun w'' h1 h2 h3 h4 h5 => ?_
    have hkp : Keeps I' I' w' w'' := ⟨fun _ h => h, fun b hb => h5 b (fun hr => (e3 b hr).2.2.2 hb)⟩
    have hh : HRel G I' w'' ρ' st'.H := by
      refine ⟨fun id b l hi hb hl => ?_, hs.heap.inj, hs.heap.dom, fun b hb => by rw [h1]; exact hs.heap.old b hb, hs.heap.glob' hkp⟩; obtain ⟨g1, g2, g3⟩ := hs.heap.blk id b l hi hb hl; exact ⟨by rw [h1]; exact g1, g2, g3.mono hkp (fun _ _ h => h) (h5 _ (fun hr => (e3 _ hr).2.2.1 ⟨id, b, l, hi, hb, hl, rfl⟩))⟩
    have hs' : SRel G w''.heap.size I' w'' ρ' st' { a' with defers := [] } := ⟨hh, hs.size, fun i x hi => (hs.fr i x hi).mono hkp (fun _ _ h => h), ⟨[], rfl, List.nodup_nil, fun r hr => by cases hr⟩, Nat.le_refl _⟩; obtain ⟨v, g1, g2⟩ := results_sound (P := P) hs' hx; refine ⟨v, g1, v, rfl, I', ρ', st'.H, atuple xs, hq, hh, g2, ?_⟩
    exact ⟨hg.sub, hg.place, by rw [h1]; exact hg.size, h2.trans hg.os, h3.trans hg.tape, h4.trans hg.output,
      fun b hb ho => (h5 b (fun hr => by have := (e3 b hr).1; omega)).trans (hg.frame b hb ho), hg.own, hg.new⟩
  cases e with
  | normal => exact fin hk
  | ret => exact fin hk
  | exit id => exact hk.elim
  | goto l => exact hk.elim
  | panic ch => exact hk.elim
  | outgrown => exact hk.elim
theorem Gone.all {I I' : Nat → Prop} {w w' : World} {ρ ρ' : Places} {H H' : AH} (h : Gone H.length I w ρ H I' w' ρ' H') (hd : ∀ id l, ρ id = some l → id < H.length) : Went I w ρ H I' w' ρ' H' :=
  ⟨h.sub, fun id l hl => h.place id l (hd id l hl) hl, h.size, h.os, h.tape, h.output, h.frame, h.own, h.new⟩
def afunc : AV → Option (FuncId × List AV × List AV)
  | .fn (.func f) fs cs => some (f, fs, cs)
  | .sc (.func (.func f) fs cs) => some (f, fs.toList.map .sc, cs.toList.map .sc)
  | _ => none
theorem list_rel {I : Nat → Prop} {w : World} {ρ : Places} {us : Array Value} {xs : List AV} (hl : us.size = xs.length) (hv : ∀ (i : Nat) (x : AV), xs[i]? = some x → VRel I w ρ (us.getD i undef) x)
    {us' : Array Value} {xs' : List AV} (hl' : us'.size = xs'.length) (hv' : ∀ (i : Nat) (x : AV), xs'[i]? = some x → VRel I w ρ (us'.getD i undef) x) :
    (us ++ us').size = (xs ++ xs').length ∧ ∀ (i : Nat) (x : AV), (xs ++ xs')[i]? = some x → VRel I w ρ ((us ++ us').getD i undef) x := by
  refine ⟨by simp [hl, hl'], fun i x hx => ?_⟩; rw [List.getElem?_append] at hx; rw [Array.getD_eq_getD_getElem?, Array.getElem?_append]; split at hx
  · rename_i h; rw [if_pos (by omega), ← Array.getD_eq_getD_getElem?]; exact hv i x hx
  rename_i h; rw [if_neg (by omega), ← Array.getD_eq_getD_getElem?, hl]; exact hv' _ x hx
theorem sc_rel {I : Nat → Prop} {w : World} {ρ : Places} (us : Array Value) : us.size = (us.toList.map AV.sc).length ∧ ∀ (i : Nat) (x : AV), (us.toList.map AV.sc)[i]? = some x → VRel I w ρ (us.getD i undef) x := by
  refine ⟨by simp, fun i x hx => ?_⟩; rw [List.getElem?_map] at hx
  cases hu : us.toList[i]? with
  | none => rw [hu] at hx; cases hx
  | some u =>
    rw [hu] at hx
    cases hx
    rw [Array.getElem?_toList] at hu; rw [Array.getD_eq_getD_getElem?, hu]; exact .sc
theorem afunc_sound {I : Nat → Prop} {w : World} {ρ : Places} {v : Value} {x : AV} {f : FuncId} {fs cs : List AV} (h : VRel I w ρ v x) (hx : afunc x = some (f, fs, cs)) :
    ∃ us vs, v = .func (.func f) us vs ∧ (us.size = fs.length ∧ ∀ (i : Nat) (x : AV), fs[i]? = some x → VRel I w ρ (us.getD i undef) x) ∧ (vs.size = cs.length ∧ ∀ (i : Nat) (x : AV), cs[i]? = some x → VRel I w ρ (vs.getD i undef) x) := by
  unfold afunc at hx; split at hx
  · cases hx
    cases h with
    | fn hl hl' hv hv' => exact ⟨_, _, rfl, ⟨hl, hv⟩, ⟨hl', hv'⟩⟩
  · cases hx
    cases h
    exact ⟨_, _, rfl, sc_rel _, sc_rel _⟩
  cases hx
theorem AOp_call {C : Ctx} {o : Oper} {N : ASt → Prop} {st : ASt} {fo : Operand} {args : Array Operand} {ats : Array TypeId} {f : FuncId} {fs cs : List AV} {fn : Func} {c : Code} {Q : AV → AH → Prop}
    (hop : o.op = .call { callee := .value fo, args := args, argTypes := ats }) (hfo : afunc (st.ev C.G fo) = some (f, fs, cs)) (hE : Enters C.P) (hf : C.P.funcs[f]? = some fn) (hb : fn.body = some c)
    (h : AFnH C.P C.G f (fs ++ args.toList.map (st.ev C.G) ++ cs) st.H Q) (hn : ∀ y H', Q y H' → N (st.put o.dst y H')) : AOp C o N st := fun B I w ρ a rr hr hs next R hnx => by
  have hnd : ∀ c, o.op ≠ .defer c := by intro c hc; rw [hc] at hop; cases hop
  obtain ⟨us, ks, he, ⟨l1, v1⟩, ⟨l3, v3⟩⟩ := afunc_sound (hs.ev fo) hfo; obtain ⟨l2, v2⟩ := evs_sound hs args; obtain ⟨l4, v4⟩ := list_rel l1 v1 l2 v2; obtain ⟨l5, v5⟩ := list_rel l4 v4 l3 v3
  have hrun : (execOp a.eval o).run C.P w = .ok (.enter f (us ++ args.map a.eval ++ ks)) w := by
    unfold execOp; rw [hop]; simp only [resolve, he, Deferred.ofValue, Sem.run_bind, Sem.run_pure, Result.andThen, invoke]; exact run_callFunc_body hE hf hb _ _
  refine ⟨fun _ _ => trivial, ?_⟩; rw [Oper.semAt_eq _ _ _ hnd, hrun]; refine ⟨(fun h => by cases h), ?_⟩; have hc := (callsIn_wide (n := 0)).2 (h I w ρ _ hs.heap l5 v5); have hc' : CallsIn (C.fence rr) (0 - 1) C.P f (us ++ args.map a.eval ++ ks) w _ := hc
  refine hc'.mono fun e w' hp => ?_
  obtain ⟨v, rfl, I', ρ', H', y, g1, g2, g3, g4⟩ := hp; have hw := g4.all hs.heap.dom
  exact hnx I' ρ' _ (a.put o.dst v) w' (hn y H' g1) (hs.put hw g2 g3 o.dst) (by
    have : (st.put o.dst y H').H = H' := by unfold ASt.put; split <;> rfl
    rw [this]; exact hw.gone)
end
section
theorem HRel.alloc_free {G : Glob} {I : Nat → Prop} {w : World} {ρ : Places} {H : AH} (h : HRel G I w ρ H) (o : Obj) : HRel G I (w.alloc o) ρ H ∧ Went I w ρ H I (w.alloc o) ρ H := by
  have hk : Keeps I I w (w.alloc o) := ⟨fun _ h => h, fun b hb => heap_alloc (h.old b hb)⟩
  refine ⟨⟨fun id blk l hi hl h1 => ?_, h.inj, h.dom, fun b hb => by have := h.old b hb; simp; omega, h.glob' hk⟩,
    ⟨fun _ h => h, fun _ _ h => h, by simp, rfl, rfl, rfl, fun b hb _ => heap_alloc hb, fun b hb _ => hb, fun b hb => .inl hb⟩⟩
  obtain ⟨h2, h3, h4⟩ := h.blk id blk l hi hl h1; exact ⟨by simp; omega, h3, h4.mono hk (fun _ _ h => h) (heap_alloc h2)⟩
def asets : List AV → List (Tmp × AV) → List AV
  | fr, [] => fr
  | fr, (t, x) :: ps => asets (fr.set t x) ps
theorem asets_rel {I : Nat → Prop} {w : World} {ρ : Places} : ∀ (ps : List Tmp) (xs : List AV) (us : List Value) (fr : List AV) (tmps : Array Value), us.length = xs.length → (∀ (i : Nat) (x : AV), xs[i]? = some x → VRel I w ρ (us.getD i undef) x) →
    tmps.size = fr.length → (∀ (i : Nat) (x : AV), fr[i]? = some x → VRel I w ρ (tmps.getD i undef) x) →
    ((ps.zip us).foldl (fun (t : Array Value) (p : Tmp × Value) => t.setIfInBounds p.1 p.2) tmps).size = (asets fr (ps.zip xs)).length ∧ ∀ (i : Nat) (x : AV), (asets fr (ps.zip xs))[i]? = some x → VRel I w ρ (((ps.zip us).foldl (fun (t : Array Value) (p : Tmp × Value) => t.setIfInBounds p.1 p.2) tmps).getD i undef) x
  | [], xs, us, fr, tmps, _, _, hs, hf => ⟨hs, hf⟩
  | p :: ps, [], us, fr, tmps, hl, _, hs, hf => by
    have : us = [] := by simpa using hl
    subst this; exact ⟨hs, hf⟩
  | p :: ps, x :: xs, [], fr, tmps, hl, _, hs, hf => by simp at hl
  | p :: ps, x :: xs, u :: us, fr, tmps, hl, hv, hs, hf => by
    simp only [List.zip_cons_cons, List.foldl_cons, asets]; refine asets_rel ps xs us (fr.set p x) (tmps.setIfInBounds p u) (by simpa using hl) (fun i y hy => hv (i + 1) y (by simpa using hy)) (by simpa using hs) (fun i y hy => ?_); rw [List.getElem?_set] at hy; by_cases hd : p = i
    · subst hd; simp only [if_true] at hy; split at hy
      · cases hy
        have : p < tmps.size := by rw [hs]; assumption
        rw [Array.getD_eq_getD_getElem?, Array.getElem?_setIfInBounds_self_of_lt this]; exact hv 0 x rfl
      cases hy
    rw [if_neg hd] at hy; rw [Array.getD_eq_getD_getElem?, Array.getElem?_setIfInBounds_ne hd, ← Array.getD_eq_getD_getElem?]; exact hf i y hy
def jumpOf : Exit → Option (Option Code)
  | .normal => some none
  | .ret => some (some .ret)
  | .exit id => some (some (.exit id))
  | .goto l => some (some (.goto l))
  | _ => none
def roundK (N : ASt → Prop) (st : ASt) (dst : Option Tmp) (id : Nat) : Exit → ASt → Prop := fun e st2 => ∃ jump s pe' fr' ps' as' bd', jumpOf e = some jump ∧ st2.H[id]? = some (.loop s pe' fr' ps' as' bd') ∧ N (st.put dst (.sc (.bool jump.isNone)) (st2.H.set id (.loop (if jump.isNone then .ready else .done) jump fr' ps' as' bd')))
theorem AOp_yield {C : Ctx} {o : Oper} {N : ASt → Prop} {st : ASt} {fo : Operand} {args : Array Operand} {ats : Array TypeId} {id : Nat} {pe : Option Code} {fr : List AV} {ps : Array Tmp} {as bd : Code}
    (hop : o.op = .call { callee := .value fo, args := args, argTypes := ats }) (hfo : st.ev C.G fo = .yl id) (hid : st.H[id]? = some (.loop .ready pe fr ps as bd)) (hlen : args.size = ps.size)
    (h : AWp ⟨C.P, C.G, st.H.length, some id⟩ as (fun e st1 => e = .normal ∧ ∃ pe' fr' ps' as' bd', st1.H[id]? = some (.loop .ready pe' fr' ps' as' bd') ∧ AWp ⟨C.P, C.G, st.H.length, some id⟩ bd (roundK N st o.dst id) ⟨st1.fr, st1.H.set id (.loop .busy pe' fr' ps' as' bd')⟩)
      ⟨asets fr (ps.toList.zip (args.toList.map (st.ev C.G))), st.H⟩) : AOp C o N st := fun B I w ρ a rr hr hs next R hnx => by
  have hnd : ∀ c, o.op ≠ .defer c := by intro c hc; rw [hc] at hop; cases hop
  have hev := hs.ev fo; rw [hfo] at hev; generalize hq : a.eval fo = v at hev
  cases hev with
  | yl hp =>
  rename_i b n k; obtain ⟨hlt, hnI, r, hg, hst, hpe, hps, has, hbd, hsz, hfr⟩ := hs.heap.blk id _ _ hid rfl hp; simp only at hg hlt hnI; obtain ⟨l2, v2⟩ := evs_sound hs args
  have hrun : (execOp a.eval o).run C.P w = .ok (.round b r.fn ((r.params.zip (args.map a.eval)).foldl (fun tmps (t, a) => tmps.setIfInBounds t a) r.tmps) r.assign r.body) w := by
    unfold execOp; rw [hop]; simp only [resolve, hq, Deferred.ofValue, Sem.run_bind, Sem.run_pure, Result.andThen, invoke]; have := run_yield (P := C.P) (args := args.map a.eval) hg (by simp [hps, hlen]); simpa using this
  refine ⟨fun _ _ => trivial, ?_⟩; rw [Oper.semAt_eq _ _ _ hnd, hrun]; refine ⟨(fun h => by cases h), ?_⟩; have htm : ((r.params.zip (args.map a.eval)).foldl (fun tmps (t, a) => tmps.setIfInBounds t a) r.tmps) = ((ps.toList.zip (args.map a.eval).toList).foldl (fun (t : Array Value) (p : Tmp × Value) => t.setIfInBounds p.1 p.2) r.tmps) := by rw [← Array.foldl_toList, Array.toList_zip, hps]
  rw [htm, has, hbd]
  have hfrel := asets_rel (I := I) (w := w) (ρ := ρ) ps.toList (args.toList.map (st.ev C.G)) (args.map a.eval).toList fr r.tmps (by simp) (fun i x hx => by
    have := v2 i x hx
    rwa [show (args.map a.eval).toList.getD i undef = (args.map a.eval).getD i undef by rw [List.getD_eq_getElem?_getD, Array.getElem?_toList, ← Array.getD_eq_getD_getElem?]]) hsz hfr
  have hs0 : SRel C.G w.heap.size I w ρ ⟨asets fr (ps.toList.zip (args.toList.map (st.ev C.G))), st.H⟩ { tmps := (ps.toList.zip (args.map a.eval).toList).foldl (fun (t : Array Value) (p : Tmp × Value) => t.setIfInBounds p.1 p.2) r.tmps, defers := [] } :=
    ⟨hs.heap, hfrel.1, hfrel.2, ⟨[], rfl, List.nodup_nil, fun r hr => by cases hr⟩, Nat.le_refl _⟩
  have hidlt : id < st.H.length := (List.getElem?_eq_some_iff.1 hid).1; have hat : (⟨C.P, C.G, st.H.length, some id⟩ : Ctx).at ρ (some b) := ⟨_, hidlt, hp, rfl⟩; refine roundIn_of_wpIn (F := C.fence rr) trivial ?_
  refine wpIn_mono (h w.heap.size I w ρ _ (some b) hat hs0) fun e a1 w1 hp1 => ?_
  obtain ⟨I1, ρ1, st1, ⟨rfl, pe1, fr1, ps1, as1, bd1, hid1, hbody⟩, hs1, hg1⟩ := hp1; have hp1 : ρ1 id = some ⟨b, n, k⟩ := hg1.place id _ hidlt hp; obtain ⟨hlt1, hnI1, r1, hgg1, q1, q2, q3, q4, q5, q6, q7⟩ := hs1.heap.blk id _ _ hid1 rfl hp1; simp only at hgg1 hlt1; have hbusy := hs1.heap.put hid1 rfl hp1 (.loop { r1 with state := .busy }) (blk := .loop .busy pe1 fr1 ps1 as1 bd1) (fun w' hw' hkk => ⟨_, hw', rfl, q2, q3, q4, q5, q6, fun i x hx => (q7 i x hx).mono hkk (fun _ _ h => h)⟩); refine ⟨_, run_beginRound hgg1 q1, ?_⟩
  have hs2 : SRel C.G w.heap.size I1 (w1.putObj b (.loop { r1 with state := .busy })) ρ1 ⟨st1.fr, st1.H.set id (.loop .busy pe1 fr1 ps1 as1 bd1)⟩ a1 :=
    ⟨hbusy.1, hs1.size, fun i x hx => (hs1.fr i x hx).mono (hbusy.2.keeps hs1.heap) (fun _ _ h => h), hs1.marks.went hbusy.2, Nat.le_trans hs1.base hbusy.2.size⟩
  refine wpIn_mono (hbody w.heap.size I1 _ ρ1 a1 (some b) (hat.gone hg1) hs2) fun e a2 w2 hp2 => ?_
  obtain ⟨I2, ρ2, st2, ⟨jump, s2, pe2, fr2, ps2, as2, bd2, hj, hid2, hN⟩, hs3, hg3⟩ := hp2; have hp2 : ρ2 id = some ⟨b, n, k⟩ := hg3.place id _ hidlt hp1; obtain ⟨hlt2, hnI2, r2, hgg2, p1, p2, p3, p4, p5, p6, p7⟩ := hs3.heap.blk id _ _ hid2 rfl hp2; simp only at hgg2 hlt2; have hend := run_endRound (P := C.P) jump hgg2
  have hput := hs3.heap.put hid2 rfl hp2 (.loop { r2 with state := if jump.isNone then .ready else .done, pending := jump }) (blk := .loop (if jump.isNone then .ready else .done) jump fr2 ps2 as2 bd2)
    (fun w' hw' hkk => ⟨_, hw', rfl, rfl, p3, p4, p5, p6, fun i x hx => (p7 i x hx).mono hkk (fun _ _ h => h)⟩)
  have hgone : Gone st.H.length I w ρ st.H I2 (w2.putObj b (.loop { r2 with state := if jump.isNone then .ready else .done, pending := jump })) ρ2 (st2.H.set id (.loop (if jump.isNone then .ready else .done) jump fr2 ps2 as2 bd2)) :=
    ((hg1.trans hbusy.2.gone).trans hg3).trans hput.2.gone
  have hw := hgone.all hs.heap.dom
  have fin : next (a.put o.dst (.bool jump.isNone)) (w2.putObj b (.loop { r2 with state := if jump.isNone then .ready else .done, pending := jump })) :=
    hnx I2 ρ2 _ _ _ hN (hs.put hw hput.1 .sc o.dst) (by
      have : (st.put o.dst (.sc (.bool jump.isNone)) (st2.H.set id (.loop (if jump.isNone then .ready else .done) jump fr2 ps2 as2 bd2))).H = (st2.H.set id (.loop (if jump.isNone then .ready else .done) jump fr2 ps2 as2 bd2)) := by unfold ASt.put; split <;> rfl
      rw [this]; exact hw.gone)
  cases e with
  | normal => cases hj; exact ⟨_, _, hend, fin⟩
  | ret => cases hj; exact ⟨_, _, hend, fin⟩
  | exit i => cases hj; exact ⟨_, _, hend, fin⟩
  | goto l => cases hj; exact ⟨_, _, hend, fin⟩
  | panic ch => cases hj
  | outgrown => cases hj
theorem one_rel {I : Nat → Prop} {w : World} {ρ : Places} {v : Value} {x : AV} (h : VRel I w ρ v x) : (#[v] : Array Value).size = [x].length ∧ ∀ (i : Nat) (y : AV), [x][i]? = some y → VRel I w ρ ((#[v] : Array Value).getD i undef) y :=
  ⟨rfl, fun i y hy => by
    match i with
    | 0 => simp at hy; subst hy; exact h
    | i + 1 => simp at hy⟩
theorem AWp_rangeFunc {C : Ctx} {K : Exit → ASt → Prop} {st : ASt} {f : Operand} {ps : Array Tmp} {as bd : Code} {g : FuncId} {fs cs : List AV} {fn : Func} {c : Code} {Q : AV → AH → Prop}
    (hf : afunc (st.ev C.G f) = some (g, fs, cs)) (hE : Enters C.P) (hfn : C.P.funcs[g]? = some fn) (hb : fn.body = some c)
    (hr : ∀ id, C.r = some id → ∃ s pe fr' ps' as' bd', st.H[id]? = some (.loop s pe fr' ps' as' bd'))
    (h : AFnH C.P C.G g (fs ++ [.yl st.H.length] ++ cs) (st.H ++ [.loop .ready none st.fr ps as bd]) Q)
    (hQ : ∀ y H', Q y H' → ∃ s pe fr' ps' as' bd', H'[st.H.length]? = some (.loop s pe fr' ps' as' bd') ∧ s ≠ .busy ∧
      (match pe with | none => K .normal ⟨st.fr, H'.set st.H.length .dead⟩ | some c => AWp C c K ⟨st.fr, H'.set st.H.length .dead⟩)) :
    AWp C (.rangeFunc f ps as bd) K st := fun B I w ρ a rr hrr hs => by
  obtain ⟨us, ks, he, ⟨l1, v1⟩, ⟨l3, v3⟩⟩ := afunc_sound (hs.ev f) hf
  refine wpIn_rangeFunc fun fnid _ => ?_
  -- the record is laid
  have hlay : ∃ (mark : List Deferred) (w0 : World) (D : Nat), (Instr.enterLoop fnid a.tmps ps as bd rr).run C.P w = .ok (w0.heap.size, mark) (w0.alloc (.loop { state := .ready, pending := none, fn := fnid, tmps := a.tmps, params := ps, assign := as, body := bd, defers := D })) ∧
      HRel C.G I w0 ρ st.H ∧ Went I w ρ st.H I w0 ρ st.H ∧ Marks B I ρ st.H (mark ++ a.defers) w0 := by
    cases hcr : C.r with
    | none =>
      have : rr = none := by unfold Ctx.at at hrr; rw [hcr] at hrr; exact hrr
      subst this; have ha := hs.heap.alloc_free (.deferred (some [])); refine ⟨[{ target := .collected w.heap.size, args := #[] }], w.alloc (.deferred (some [])), w.heap.size, ?_, ha.1, ha.2, ?_⟩; rw [run_enterLoop_outer]; simp; obtain ⟨rs, h1, h2, h3⟩ := hs.marks.went ha.2; obtain ⟨rs', h1', h2', h3'⟩ := hs.marks
      have hrs : rs = rs' := by
        have := h1.symm.trans h1'
        have inj : ∀ (xs ys : List Nat), xs.map Target.collected = ys.map Target.collected → xs = ys := by
          intro xs
          induction xs with
          | nil => intro ys h; cases ys with
            | nil => rfl
            | cons y ys => simp at h
          | cons x xs ih => intro ys h; cases ys with
            | nil => simp at h
            | cons y ys => simp at h; rw [h.1, ih ys (by simpa using h.2)]
        exact inj _ _ this
      subst hrs; refine ⟨w.heap.size :: rs, by simp [h1], List.nodup_cons.2 ⟨fun hm => ?_, h2⟩, fun r hm => ?_⟩; exact Nat.lt_irrefl _ (heap_lt (h3' _ hm).2.1)
      rcases List.mem_cons.1 hm with rfl | hm
      · refine ⟨hs.base, World.alloc_heap_new w _, ?_, fun hI => Nat.lt_irrefl _ (hs.heap.old _ hI)⟩; rintro ⟨id, blk, l, q1, q2, q3, q4⟩; have := (hs.heap.blk id blk l q1 q2 q3).1; omega
      exact h3 r hm
    | some id =>
      obtain ⟨loc, hidm, hp, rfl⟩ : ∃ l, id < C.m ∧ ρ id = some l ∧ rr = some l.blk := by unfold Ctx.at at hrr; rw [hcr] at hrr; exact hrr
      obtain ⟨s, pe, fr', ps', as', bd', hid⟩ := hr id hcr; obtain ⟨hlt, hnI, r, hg, _⟩ := hs.heap.blk id _ _ hid rfl hp; refine ⟨[], w, r.defers, ?_, hs.heap, Went.refl, by simpa using hs.marks⟩; unfold Instr.enterLoop; simp [Sem.run_bind, run_getLoop hg, Result.andThen]
  obtain ⟨mark, w0, D, hent, hh0, hw0, hmk⟩ := hlay; have hk0 := hw0.keeps hs.heap; have hl := hh0.alloc_own (.loop { state := .ready, pending := none, fn := fnid, tmps := a.tmps, params := ps, assign := as, body := bd, defers := D }) (.loop .ready none st.fr ps as bd) 0 0 (fun ρ' hp hkk => ⟨_, heap_alloc_new, rfl, rfl, rfl, rfl, rfl, hs.size, fun i x hx => (hs.fr i x hx).mono (hk0.trans hkk) hp⟩); generalize hw1 : w0.alloc (.loop { state := .ready, pending := none, fn := fnid, tmps := a.tmps, params := ps, assign := as, body := bd, defers := D }) = w1 at *; have hwent := hw0.trans hl.2; have hkp := hwent.keeps hs.heap; have hyl : VRel I w1 (ρ.new st.H.length ⟨w0.heap.size, 0, 0⟩) (.func (.yield w0.heap.size) #[] #[]) (.yl st.H.length) := .yl (n := 0) (k := 0) (by simp [Places.new]); obtain ⟨l4, v4⟩ := list_rel l1 (fun i x hx => (v1 i x hx).mono hkp hwent.place) (one_rel hyl).1 (one_rel hyl).2; obtain ⟨l5, v5⟩ := list_rel l4 v4 l3 (fun i x hx => (v3 i x hx).mono hkp hwent.place); refine ⟨w0.heap.size, mark, w1, { target := .fn (.func g) ks, args := us ++ #[.func (.yield w0.heap.size) #[] #[]] }, w1, g, us ++ #[.func (.yield w0.heap.size) #[] #[]] ++ ks, w1, hent, ?_, fun _ _ => trivial, ?_, (fun h => by cases h), ?_⟩
  · show (Deferred.ofValue (a.eval f) (#[Operand.const (.func (.yield w0.heap.size) #[] #[])].map a.eval)).run C.P w1 = _; rw [he]; simp [Deferred.ofValue, Act.eval]
  · simp only [invoke]; exact run_callFunc_body hE hfn hb _ _
  have hcall := (callsIn_wide (n := 0)).2 (h I w1 _ _ hl.1 l5 v5); have hcall' : CallsIn (C.fence rr) (0 - 1) C.P g (us ++ #[.func (.yield w0.heap.size) #[] #[]] ++ ks) w1 _ := hcall
  refine hcall'.mono fun e w2 hp2 => ?_
  obtain ⟨v, rfl, I2, ρ2, H2, y, g1, g2, g3, g4⟩ := hp2; obtain ⟨s, pe, fr', ps', as', bd', hid, hsb, hK⟩ := hQ y H2 g1; have hg4 := g4.all hl.1.dom; have hall := hwent.trans hg4; have hpl : ρ2 st.H.length = some ⟨w0.heap.size, 0, 0⟩ := hg4.place _ _ (by simp [Places.new]); obtain ⟨hlt2, hnI2, r2, hgg2, p1, p2, p3, p4, p5, p6, p7⟩ := g2.blk _ _ _ hid rfl hpl; simp only at hgg2 hlt2; have hend := run_endLoop (P := C.P) hgg2 (by rw [p1]; exact hsb)
  have hput := g2.put hid rfl hpl (.loop { r2 with state := .exhausted }) (blk := .loop .exhausted pe fr' ps' as' bd')
    (fun w' hw' hkk => ⟨_, hw', rfl, p2, p3, p4, p5, p6, fun i x hx => (p7 i x hx).mono hkk (fun _ _ h => h)⟩)
  have hkill := hput.1.kill st.H.length; rw [List.set_set] at hkill; have hfin := (hall.trans hput.2).trans hkill.2
  have hs' : SRel C.G B I2 (w2.putObj w0.heap.size (.loop { r2 with state := .exhausted })) ρ2 ⟨st.fr, H2.set st.H.length .dead⟩ { a with defers := mark ++ a.defers } := by
    refine ⟨hkill.1, hs.size, fun i x hx => (hs.fr i x hx).mono (hfin.keeps hs.heap) hfin.place, ?_, Nat.le_trans hs.base hfin.size⟩; have hfin0 : Went I w0 ρ st.H I2 (w2.putObj w0.heap.size (.loop { r2 with state := .exhausted })) ρ2 (H2.set st.H.length .dead) := ((hl.2.trans hg4).trans hput.2).trans hkill.2; exact hmk.went hfin0
  refine ⟨r2.pending, _, hend, ?_⟩; rw [← p2] at hK; split
  · rename_i hq; rw [hq] at hK; exact ⟨I2, ρ2, _, hK, hs', hfin.gone⟩
  rename_i c hq; rw [hq] at hK
  exact wpIn_mono (hK B I2 _ ρ2 _ rr (hrr.gone (w := w) (H := st.H) (I := I) hfin.gone) hs') fun e a3 w3 hp3 => hp3.trans hfin.gone
end
section
def Does (C : Ctx) (o : Oper) (fr : List AV) (H : AH) (y : AV) (H' : AH) : Prop :=
  ∀ fr' : List AV, (∀ x ∈ o.op.operands, (⟨fr', H⟩ : ASt).ev C.G x = (⟨fr, H⟩ : ASt).ev C.G x) → AOp C o (fun s => s = (⟨fr', H⟩ : ASt).put o.dst y H') ⟨fr', H⟩
def frT (ops : Array Oper) (y : Nat → AV) (fr0 : List AV) : Nat → List AV
  | 0 => fr0
  | i + 1 => match ops[i]? with
    | some o => match o.dst with
      | some d => (frT ops y fr0 i).set d (y i)
      | none => frT ops y fr0 i
    | none => frT ops y fr0 i
structure FrIs (ops : Array Oper) (y : Nat → AV) (fr0 : List AV) (L : Nat → Prop) (fr : List AV) : Prop where
  len : fr.length = fr0.length
  set : ∀ (j : Nat) (o : Oper) (t : Tmp), ops[j]? = some o → L j → o.dst = some t → t < fr0.length → fr[t]? = some (y j)
  old : ∀ t, (∀ (j : Nat) (o : Oper), ops[j]? = some o → L j → o.dst ≠ some t) → fr[t]? = fr0[t]?
def Dist (ops : Array Oper) : Prop := ∀ (i j : Nat) (o o' : Oper) (t : Tmp), ops[i]? = some o → ops[j]? = some o' → o.dst = some t → o'.dst = some t → i = j
theorem FrIs.step {ops : Array Oper} {y : Nat → AV} {fr0 fr : List AV} {L L' : Nat → Prop} (hd : Dist ops) (h : FrIs ops y fr0 L fr) {i : Nat} {o : Oper} (hi : ops[i]? = some o) (hL : ∀ j, L' j ↔ L j ∨ j = i) (H : AH) (x : AH) :
    FrIs ops y fr0 L' ((⟨fr, H⟩ : ASt).put o.dst (y i) x).fr := by
  cases hdst : o.dst with
  | none =>
    refine ⟨h.len, fun j o' t hj hl hd' ht => ?_, fun t ht => h.old t fun j o' hj hl => ht j o' hj ((hL j).2 (.inl hl))⟩
    rcases (hL j).1 hl with hl | rfl
    exact h.set j o' t hj hl hd' ht; rw [hi] at hj; cases hj; rw [hdst] at hd'; cases hd'
  | some d =>
    simp only [ASt.put]; refine ⟨by simpa using h.len, fun j o' t hj hl hd' ht => ?_, fun t ht => ?_⟩
    · rw [List.getElem?_set]; by_cases hdt : d = t
      · subst hdt; have : j = i := hd j i o' o d hj hi hd' hdst; subst this; rw [if_pos rfl, if_pos (by rw [h.len]; exact ht)]
      rw [if_neg hdt]
      rcases (hL j).1 hl with hl | rfl
      exact h.set j o' t hj hl hd' ht; rw [hi] at hj; cases hj; rw [hdst] at hd'; cases hd'; exact absurd rfl hdt
    rw [List.getElem?_set, if_neg (fun hdt => ht i o hi ((hL i).2 (.inr rfl)) (by rw [hdst, hdt]))]
    exact h.old t fun j o' hj hl => ht j o' hj ((hL j).2 (.inl hl))
theorem frT_is {ops : Array Oper} {y : Nat → AV} {fr0 : List AV} (hd : Dist ops) : ∀ n, FrIs ops y fr0 (fun j => j < n) (frT ops y fr0 n)
  | 0 => ⟨rfl, fun j o t _ hl => absurd hl (Nat.not_lt_zero _), fun t _ => rfl⟩
  | n + 1 => by
    have ih := frT_is (y := y) (fr0 := fr0) hd n
    cases ho : ops[n]? with
    | none =>
      simp only [frT, ho]; refine ⟨ih.len, fun j o t hj hl => ih.set j o t hj ?_, fun t ht => ih.old t fun j o hj hl => ht j o hj (show j < n + 1 from Nat.lt_succ_of_lt hl)⟩
      rcases Nat.lt_or_ge j n with h | h
      exact h; have hl : j < n + 1 := hl; have : j = n := by omega
      subst this; rw [ho] at hj; cases hj
    | some o =>
      have := ih.step (L' := fun j => j < n + 1) hd ho (fun j => ⟨fun h => by have h : j < n + 1 := h; by_cases hjn : j = n; exact .inr hjn; exact .inl (show j < n by omega), fun h => h.elim (fun h => Nat.lt_succ_of_lt h) (fun h => by subst h; exact Nat.lt_succ_self _)⟩) [] []; simp only [frT, ho]
      cases hdst : o.dst with
      | none => rw [hdst] at this; exact this
      | some d => rw [hdst] at this; exact this
theorem FrIs.unique {ops : Array Oper} {y : Nat → AV} {fr0 fr fr' : List AV} {L : Nat → Prop} (h : FrIs ops y fr0 L fr) (h' : FrIs ops y fr0 L fr') : fr = fr' := by
  apply List.ext_getElem?; intro t; by_cases ht : t < fr0.length
  · by_cases hex : ∃ (j : Nat) (o : Oper), ops[j]? = some o ∧ L j ∧ o.dst = some t
    · obtain ⟨j, o, h1, h2, h3⟩ := hex; rw [h.set j o t h1 h2 h3 ht, h'.set j o t h1 h2 h3 ht]
    rw [h.old t fun j o h1 h2 h3 => hex ⟨j, o, h1, h2, h3⟩, h'.old t fun j o h1 h2 h3 => hex ⟨j, o, h1, h2, h3⟩]
  rw [List.getElem?_eq_none (by rw [h.len]; omega), List.getElem?_eq_none (by rw [h'.len]; omega)]
structure Drawn (C : Ctx) (ops : Array Oper) (fr0 : List AV) (y : Nat → AV) (Hs : Nat → AH) (E : List Nat) (anc : Nat → Nat → Bool) : Prop where
  dist : Dist ops
  closed : ∀ (i : Nat) (o : Oper) (j : Nat), ops[i]? = some o → anc i j = true → ∃ e ∈ o.after, Region.binds .any e = true ∧ (e.on = j ∨ anc e.on j = true)
  reads : ∀ (i j : Nat) (o o' : Oper) (t : Tmp), ops[i]? = some o → ops[j]? = some o' → Operand.tmp t ∈ o.op.operands → o'.dst = some t → (j < i → anc i j = true) ∧ (i < j → anc j i = true)
  nodup : E.Nodup
  act : ∀ (i : Nat) (o : Oper), ops[i]? = some o →
    (∃ j b o' d, o.guard = some (j, b) ∧ ops[j]? = some o' ∧ o'.dst = some d ∧ d < fr0.length ∧ anc i j = true ∧ wantedV (y j) b = some false ∧ y i = .sc undef ∧ i ∉ E) ∨
    ((o.guard = none ∨ ∃ j b o' d, o.guard = some (j, b) ∧ ops[j]? = some o' ∧ o'.dst = some d ∧ d < fr0.length ∧ anc i j = true ∧ wantedV (y j) b = some true) ∧
      ((∃ k, E[k]? = some i ∧ (∀ k' j, k' < k → E[k']? = some j → anc i j = true) ∧ Does C o (frT ops y fr0 i) (Hs k) (y i) (Hs (k + 1))) ∨
       (i ∉ E ∧ ∃ lo hi, (∀ k j, k < lo → E[k]? = some j → anc i j = true) ∧ lo ≤ E.length ∧ (∀ k j, hi ≤ k → E[k]? = some j → anc j i = true) ∧ ∀ c, lo ≤ c → c ≤ hi → Does C o (frT ops y fr0 i) (Hs c) (y i) (Hs c))))
def Lst (listed : Array Bool) (j : Nat) : Prop := listed.getD j false = true
theorem ready_spec {ops : Array Oper} {listed : Array Bool} {i : Nat} (h : i ∈ Region.ready .any ops listed) : i < ops.size ∧ listed.getD i true = false ∧ ∀ o, ops[i]? = some o → ∀ e ∈ o.after, Region.binds .any e = true → listed.getD e.on false = true := by
  simp only [Region.ready, List.mem_filter, List.mem_range, Bool.and_eq_true, Bool.not_eq_true'] at h; refine ⟨h.1, h.2.1, fun o ho e he hb => ?_⟩; have := h.2.2; rw [ho] at this; simp only [Option.map_some, Option.getD_some, Array.all_eq_true_iff_forall_mem] at this; have := this e he; simpa [hb] using this
theorem filter_set_lt : ∀ (l : List Bool) (i : Nat), l[i]? = some false → ((l.set i true).filter (!·)).length + 1 = (l.filter (!·)).length
  | [], i, h => by simp at h
  | x :: l, 0, h => by simp at h; subst h; simp
  | x :: l, i + 1, h => by
    have := filter_set_lt l i (by simpa using h); rw [List.set_cons_succ, List.filter_cons, List.filter_cons]
    cases x <;> simp at this ⊢ <;> omega
theorem AWp_draw {C : Ctx} {K : Exit → ASt → Prop} {id : Nat} {ops : Array Oper} {fr0 : List AV} {y : Nat → AV} {Hs : Nat → AH} {E : List Nat} {anc : Nat → Nat → Bool} (hm : C.P.follows .mixedOrders = true)
    (hD : Drawn C ops fr0 y Hs E anc) (hE : ∀ i ∈ E, i < ops.size) (hall : ∀ listed : Array Bool, listed.size = ops.size → Region.ready .any ops listed = [] → ∀ j, j < ops.size → Lst listed j) (hK : K .normal ⟨frT ops y fr0 ops.size, Hs E.length⟩) : AWp C (.region id ops true) K ⟨fr0, Hs 0⟩ := fun B I w ρ a rr hr hs => by
  refine wpIn_region_any hm ?_
  have key : ∀ (fuel : Nat) (listed : Array Bool) (fr : List AV) (c : Nat) (I' : Nat → Prop) (w' : World) (ρ' : Places) (a' : Act), listed.size = ops.size → (fuel = 0 → ∀ j, j < ops.size → Lst listed j) → (listed.toList.filter (!·)).length ≤ fuel →
      FrIs ops y fr0 (Lst listed) fr → (∀ i j, Lst listed i → i < ops.size → anc i j = true → Lst listed j) → c ≤ E.length → (∀ k j, E[k]? = some j → (Lst listed j ↔ k < c)) → C.at ρ' rr → SRel C.G B I' w' ρ' ⟨fr, Hs c⟩ a' → Gone C.m I w ρ (Hs 0) I' w' ρ' (Hs c) →
      wpAnyIn (C.fence rr) 0 C.P .any ops (Post C B K I w ρ (Hs 0)) fuel listed a' w' := by
    intro fuel
    induction fuel with
    | zero =>
      intro listed fr c I' w' ρ' a' hsz h0 hcnt hfr hdown hc hpre hat hs' hg; have hl := h0 rfl
      have hcE : c = E.length := by
        rcases Nat.lt_or_ge c E.length with h | h
        · have := (hpre c E[c] (List.getElem?_eq_getElem h)).1 (hl _ (hE _ (List.getElem_mem h))); omega
        omega
      have hfin : fr = frT ops y fr0 ops.size := by
        refine FrIs.unique (L := Lst listed) hfr ?_; have := frT_is (y := y) (fr0 := fr0) hD.dist ops.size; exact ⟨this.len, fun j o t hj _ => this.set j o t hj (Array.getElem?_eq_some_iff.1 hj).1, fun t ht => this.old t fun j o hj hlt => ht j o hj (hl j hlt)⟩
      subst hcE hfin; refine ⟨?_, I', ρ', _, hK, hs', hg⟩; rw [List.eq_nil_iff_forall_not_mem]; intro i hi; obtain ⟨h1, h2, _⟩ := ready_spec hi; have := hl i h1; unfold Lst at this; rw [Array.getD_eq_getD_getElem?, Array.getElem?_eq_getElem (by omega)] at this h2; simp at this h2; rw [this] at h2
      cases h2
    | succ fuel ih =>
      intro listed fr c I' w' ρ' a' hsz h0 hcnt hfr hdown hc hpre hat hs' hg; refine ⟨fun hnil => ?_, fun i hi => ?_⟩
      · have hl := hall listed hsz hnil
        have hcE : c = E.length := by
          rcases Nat.lt_or_ge c E.length with h | h
          · have := (hpre c E[c] (List.getElem?_eq_getElem h)).1 (hl _ (hE _ (List.getElem_mem h))); omega
          omega
        have hfin : fr = frT ops y fr0 ops.size := by
          refine FrIs.unique (L := Lst listed) hfr ?_; have := frT_is (y := y) (fr0 := fr0) hD.dist ops.size; exact ⟨this.len, fun j o t hj _ => this.set j o t hj (Array.getElem?_eq_some_iff.1 hj).1, fun t ht => this.old t fun j o hj hlt => ht j o hj (hl j hlt)⟩
        subst hcE hfin; exact ⟨I', ρ', _, hK, hs', hg⟩
      obtain ⟨h1, h2, h3⟩ := ready_spec hi; have ho : ops[i]? = some ops[i] := Array.getElem?_eq_getElem h1; generalize hoq : ops[i] = o at ho
      have hnl : ¬ Lst listed i := by
        unfold Lst; rw [Array.getD_eq_getD_getElem?, Array.getElem?_eq_getElem (by omega)] at h2 ⊢; simp at h2 ⊢; exact h2
      have hanc : ∀ j, anc i j = true → Lst listed j := by
        intro j hj; obtain ⟨e, he, hb, hor⟩ := hD.closed i o j ho hj; have hl := h3 o ho e he hb
        rcases hor with rfl | hor
        exact hl; refine hdown e.on j hl ?_ hor; have hl' := hl
        rcases Nat.lt_or_ge e.on ops.size with h | h
        exact h; rw [Array.getD_eq_getD_getElem?, Array.getElem?_eq_none (by omega)] at hl'
        cases hl'
      have hL : ∀ j, Lst (listed.setIfInBounds i true) j ↔ Lst listed j ∨ j = i := by
        intro j; unfold Lst; by_cases hji : j = i
        · subst hji; rw [Array.getD_eq_getD_getElem?, Array.getElem?_setIfInBounds_self_of_lt (by omega)]; simp
        rw [Array.getD_eq_getD_getElem?, Array.getElem?_setIfInBounds_ne (Ne.symm hji), ← Array.getD_eq_getD_getElem?]; simp [hji]
      have hdown' : ∀ i' j, Lst (listed.setIfInBounds i true) i' → i' < ops.size → anc i' j = true → Lst (listed.setIfInBounds i true) j := by
        intro i' j hl hlt hj
        rcases (hL i').1 hl with hl | rfl
        exact (hL j).2 (.inl (hdown i' j hl hlt hj)); exact (hL j).2 (.inl (hanc j hj))
      have hsz' : (listed.setIfInBounds i true).size = ops.size := by simpa using hsz
      have hcnt' : ((listed.setIfInBounds i true).toList.filter (!·)).length ≤ fuel := by
        have e3 : listed.toList[i]? = some false := by
          unfold Lst at hnl; rw [Array.getD_eq_getD_getElem?, Array.getElem?_eq_getElem (by omega)] at hnl; rw [Array.getElem?_toList, Array.getElem?_eq_getElem (by omega)]; simpa using hnl
        have := filter_set_lt listed.toList i e3; rw [Array.toList_setIfInBounds]; omega
      have h0' : fuel = 0 → ∀ j, j < ops.size → Lst (listed.setIfInBounds i true) j := by
        intro hf j hj; subst hf; have : ((listed.setIfInBounds i true).toList.filter (!·)) = [] := List.eq_nil_of_length_eq_zero (by omega); rw [List.filter_eq_nil_iff] at this; unfold Lst; rw [Array.getD_eq_getD_getElem?, Array.getElem?_eq_getElem (by omega)]; have := this ((listed.setIfInBounds i true)[j]'(by omega)) (Array.getElem_mem_toList (by omega)); simpa using this
      have hopnd : ∀ (H : AH), ∀ x ∈ o.op.operands, (⟨fr, H⟩ : ASt).ev C.G x = (⟨frT ops y fr0 i, H⟩ : ASt).ev C.G x := by
        intro H x hx
        cases x with
        | tmp t =>
          have hT := frT_is (y := y) (fr0 := fr0) hD.dist i
          have : fr[t]? = (frT ops y fr0 i)[t]? := by
            by_cases htl : t < fr0.length
            · by_cases hex : ∃ (j : Nat) (o' : Oper), ops[j]? = some o' ∧ o'.dst = some t
              · obtain ⟨j, o', hj, hdj⟩ := hex; obtain ⟨r1, r2⟩ := hD.reads i j o o' t ho hj hx hdj
                rcases Nat.lt_trichotomy j i with hlt | hji | hgt
                rw [hfr.set j o' t hj (hanc j (r1 hlt)) hdj htl, hT.set j o' t hj hlt hdj htl]
                · rw [hfr.old t, hT.old t]
                  · intro j' o'' hj' hl' hd'; have : j' = j := hD.dist j' j o'' o' t hj' hj hd' hdj; have hl' : j' < i := hl'; omega
                  intro j' o'' hj' hl' hd'; have : j' = j := hD.dist j' j o'' o' t hj' hj hd' hdj; rw [this, hji] at hl'; exact hnl hl'
                rw [hfr.old t, hT.old t]
                · intro j' o'' hj' hl' hd'; have : j' = j := hD.dist j' j o'' o' t hj' hj hd' hdj; have hl' : j' < i := hl'; omega
                intro j' o'' hj' hl' hd'; have : j' = j := hD.dist j' j o'' o' t hj' hj hd' hdj; subst this; exact hnl (hdown j' i hl' (Array.getElem?_eq_some_iff.1 hj').1 (r2 hgt))
              rw [hfr.old t fun j o' h1 h2 h3 => hex ⟨j, o', h1, h3⟩, hT.old t fun j o' h1 h2 h3 => hex ⟨j, o', h1, h3⟩]
            rw [List.getElem?_eq_none (by rw [hfr.len]; exact Nat.le_of_not_lt htl), List.getElem?_eq_none (by rw [hT.len]; exact Nat.le_of_not_lt htl)]
          simp only [ASt.ev, List.getD_eq_getElem?_getD, this]
        | const v => rfl
        | global g => rfl
        | func f => rfl
      have hguard : ∀ (j : Nat) (b : Bool) (o' : Oper) (d : Tmp) (t : Bool), o.guard = some (j, b) → ops[j]? = some o' → o'.dst = some d → d < fr0.length → anc i j = true → wantedV (y j) b = some t → Region.wanted o (yielded ops a'.tmps) = t := by
        intro j b o' d t hgd hj hd hdl haj hyj; have hv := hfr.set j o' d hj (hanc j haj) hd hdl; exact wanted_sound hs' hgd (by rw [hj]; exact hd) hv hyj
      -- on behind this operation
      have goOn : ∀ (c' : Nat) (I2 : Nat → Prop) (ρ2 : Places) (a2 : Act) (w2 : World), c' ≤ E.length → (∀ k j, E[k]? = some j → (Lst (listed.setIfInBounds i true) j ↔ k < c')) → SRel C.G B I2 w2 ρ2 ((⟨fr, Hs c⟩ : ASt).put o.dst (y i) (Hs c')) a2 → Gone C.m I' w' ρ' (Hs c) I2 w2 ρ2 (Hs c') →
          wpAnyIn (C.fence rr) 0 C.P .any ops (Post C B K I w ρ (Hs 0)) fuel (listed.setIfInBounds i true) a2 w2 := by
        intro c' I2 ρ2 a2 w2 hc' hpre' hs2 hg2; have hst : ((⟨fr, Hs c⟩ : ASt).put o.dst (y i) (Hs c')) = ⟨((⟨fr, Hs c⟩ : ASt).put o.dst (y i) (Hs c')).fr, Hs c'⟩ := by unfold ASt.put; split <;> rfl
        rw [hst] at hs2; exact ih _ _ c' I2 w2 ρ2 a2 hsz' h0' hcnt' (hfr.step hD.dist ho hL (Hs c) (Hs c')) hdown' hc' hpre' (hat.gone hg2) hs2 (hg.trans hg2)
      unfold wpOpIn; rw [ho]; simp only
      rcases hD.act i o ho with ⟨j, b, o', d, hgd, hj, hdj, hdl, haj, hyj, hyi, hnE⟩ | ⟨hgd, hact⟩
      · -- the guard says no
        have hw : Region.wanted o (yielded ops a'.tmps) = false := hguard j b o' d false hgd hj hdj hdl haj hyj; rw [if_neg (by rw [hw]; simp)]; refine ⟨fun _ _ => trivial, ?_⟩; refine goOn c I' ρ' _ w' hc (fun k j' hk => ?_) ?_ Gone.refl
        · rw [hL, ← hpre k j' hk]; refine ⟨fun h => h.elim (fun h => h) fun h => ?_, .inl⟩; subst h; exact absurd (List.mem_of_getElem? hk) hnE
        rw [hyi]; exact hs'.put Went.refl hs'.heap .sc o.dst
      have hw : Region.wanted o (yielded ops a'.tmps) = true := by
        rcases hgd with hgd | ⟨j, b, o', d, hgd, hj, hdj, hdl, haj, hyj⟩
        simp [Region.wanted, hgd]; exact hguard j b o' d true hgd hj hdj hdl haj hyj
      rw [if_pos hw]
      rcases hact with ⟨k, hk, hkanc, hdo⟩ | ⟨hnE, lo, hi', hlo, hlole, hhi, hdo⟩
      · -- it turns the heap
        have hck : c = k := by
          have h1 : ¬ k < c := fun h => hnl ((hpre k i hk).2 h)
          rcases Nat.lt_or_ge c k with h | h
          · have hcl : c < E.length := by have := (List.getElem?_eq_some_iff.1 hk).1; omega
            have := (hpre c E[c] (List.getElem?_eq_getElem hcl)).1 (hanc _ (hkanc c _ h (List.getElem?_eq_getElem hcl))); omega
          omega
        subst hck; have hop := hdo fr (hopnd (Hs c)) B I' w' ρ' a' rr hat hs'
        refine hop _ _ fun I2 ρ2 st2 a2 w2 hst2 hs2 hg2 => ?_
        subst hst2; have hH2 : ((⟨fr, Hs c⟩ : ASt).put o.dst (y i) (Hs (c + 1))).H = Hs (c + 1) := by unfold ASt.put; split <;> rfl
        rw [hH2] at hg2; refine goOn (c + 1) I2 ρ2 a2 w2 (List.getElem?_eq_some_iff.1 hk).1 (fun k' j' hk' => ?_) hs2 hg2; rw [hL, hpre k' j' hk']; constructor
        · rintro (h | rfl); omega; have := (List.getElem?_inj (i := k') (j := c) (List.getElem?_eq_some_iff.1 hk').1 hD.nodup).1 (by rw [hk', hk]); omega
        intro h
        rcases Nat.lt_or_ge k' c with h' | h'
        exact .inl h'; have : k' = c := by omega
        subst this; rw [hk] at hk'
        cases hk'
        exact .inr rfl
      -- it leaves the heap as it is
      have h1 : lo ≤ c := by
        rcases Nat.lt_or_ge c lo with h | h
        · have hcl : c < E.length := by omega
          have := (hpre c E[c] (List.getElem?_eq_getElem hcl)).1 (hanc _ (hlo c _ h (List.getElem?_eq_getElem hcl))); omega
        exact h
      have h2 : c ≤ hi' := by
        rcases Nat.lt_or_ge hi' c with h | h
        · have hcl : hi' < E.length := by omega
          have hl := (hpre hi' E[hi'] (List.getElem?_eq_getElem hcl)).2 h; exact absurd (hdown _ i hl (hE _ (List.getElem_mem hcl)) (hhi hi' _ (Nat.le_refl _) (List.getElem?_eq_getElem hcl))) hnl
        exact h
      have hop := hdo c h1 h2 fr (hopnd (Hs c)) B I' w' ρ' a' rr hat hs'
      refine hop _ _ fun I2 ρ2 st2 a2 w2 hst2 hs2 hg2 => ?_
      subst hst2; have hH2 : ((⟨fr, Hs c⟩ : ASt).put o.dst (y i) (Hs c)).H = Hs c := by unfold ASt.put; split <;> rfl
      rw [hH2] at hg2; refine goOn c I2 ρ2 a2 w2 hc (fun k' j' hk' => ?_) hs2 hg2; rw [hL, hpre k' j' hk']; refine ⟨fun h => h.elim (fun h => h) fun h => ?_, .inl⟩; subst h; exact absurd (List.mem_of_getElem? hk') hnE
  have hdr := hs.heap.same (w' := { w with drawn := w.drawn + 1 }) rfl rfl rfl rfl
  have hnone : ∀ j, ¬ Lst (Array.replicate ops.size false) j := by
    intro j; unfold Lst; rw [Array.getD_eq_getD_getElem?, Array.getElem?_replicate]; split <;> simp
  refine key ops.size _ fr0 0 I _ ρ a (by simp) (fun h0 j hj => by omega) (by simp) ⟨rfl, fun j o t _ hl => absurd hl (hnone j), fun t _ => rfl⟩ (fun i j hl => absurd hl (hnone i)) (Nat.zero_le _) (fun k j hk => ⟨fun h => absurd h (hnone j), fun h => by omega⟩) hr
    ⟨hdr.1, hs.size, fun i x hx => (hs.fr i x hx).mono (hdr.2.keeps hs.heap) (fun _ _ h => h), hs.marks.went hdr.2, Nat.le_trans hs.base hdr.2.size⟩ hdr.2.gone
end
section
def lmap {α β : Type} (g : α → Option β) : List α → Option (List β)
  | [] => some []
  | x :: xs => match g x with
    | some y => match lmap g xs with
      | some ys => some (y :: ys)
      | none => none
    | none => none
def mv (f : Nat → Option Nat) : Nat → AV → Option AV
  | 0, _ => none
  | d + 1, x => match x with
    | .sm id k o l => (f id).map (.sm · k o l)
    | .pm id r c => (f id).map (.pm · r c)
    | .mp id => (f id).map .mp
    | .yl id => (f id).map .yl
    | .it id => (f id).map .it
    | .agg cs => (lmap (mv f d) cs).map .agg
    | .tuple cs => (lmap (mv f d) cs).map .tuple
    | .fn g a b => match lmap (mv f d) a, lmap (mv f d) b with
      | some a', some b' => some (.fn g a' b')
      | _, _ => none
    | .iface t x => (mv f d x).map (.iface t)
    | x => some x
def bmv (f : Nat → Option Nat) (d : Nat) : ABlk → Option ABlk
  | .dead => some .dead
  | .rows rs te => (lmap (lmap (mv f d)) rs).map (.rows · te)
  | .amap es c => (lmap (fun e => match mv f d e.1, mv f d e.2.1 with | some a, some b => some (a, b, e.2.2) | _, _ => none) es).map (.amap · c)
  | .loop st pe fr ps as bd => (lmap (mv f d) fr).map (.loop st pe · ps as bd)
  | .miter none a b c => some (.miter none a b c)
  | .miter (some m) a b c => (f m).map fun m' => .miter (some m') a b c
  | .siter s p => some (.siter s p)
def posIn (x : Nat) : List Nat → Nat → Option Nat
  | [], _ => none
  | y :: ys, i => if x = y then some i else posIn x ys (i + 1)
def idsV : Nat → AV → List Nat
  | 0, _ => []
  | d + 1, x => match x with
    | .sm id _ _ _ | .pm id _ _ | .mp id | .yl id | .it id => [id]
    | .agg cs | .tuple cs => cs.flatMap (idsV d)
    | .fn _ a b => a.flatMap (idsV d) ++ b.flatMap (idsV d)
    | .iface _ x => idsV d x
    | _ => []
def idsB (d : Nat) : ABlk → List Nat
  | .rows rs _ => rs.flatMap fun r => r.flatMap (idsV d)
  | .amap es _ => es.flatMap fun e => idsV d e.1 ++ idsV d e.2.1
  | .loop _ _ fr _ _ _ => fr.flatMap (idsV d)
  | .miter (some m) _ _ _ => [m]
  | _ => []
def reach (H : AH) (m : Nat) : Nat → List Nat → List Nat → List Nat
  | 0, _, seen => seen
  | _ + 1, [], seen => seen
  | n + 1, id :: todo, seen => if decide (id < m) || seen.contains id then reach H m n todo seen else reach H m n (idsB 6 (H.getD id .dead) ++ todo) (seen ++ [id])
def gcF (m : Nat) (keep : List Nat) (id : Nat) : Option Nat := if id < m then some id else posIn id keep m
def gc (m : Nat) (y : AV) (H : AH) : Option (AV × AH) :=
  let old := H.take m
  let keep := reach H m 400 (idsV 6 y ++ old.flatMap (idsB 6)) []
  match mv (gcF m keep) 6 y, lmap (bmv (gcF m keep) 6) (old ++ keep.map fun id => H.getD id .dead) with
  | some y', some H' => if decide (m ≤ H.length) && decide keep.Nodup && keep.all (fun id => decide (m ≤ id)) then some (y', H') else none
  | _, _ => none
def vbeq : Value → Value → Bool
  | .bool a, .bool b => a == b
  | .int k a, .int k' b => decide (k = k') && a == b
  | .string a, .string b => a.data.toList == b.data.toList
  | .pointer none, .pointer none => true
  | .slice none a b, .slice none c d => a == c && b == d
  | .map none, .map none => true
  | .nilFunc, .nilFunc => true
  | .nilIface, .nilIface => true
  | _, _ => false
def lbeq {α : Type} (f : α → α → Bool) : List α → List α → Bool
  | [], [] => true
  | x :: xs, y :: ys => f x y && lbeq f xs ys
  | _, _ => false
def abeq : Nat → AV → AV → Bool
  | 0, _, _ => false
  | n + 1, x, y => match x, y with
    | .any, .any => true
    | .sc v, .sc u => vbeq v u
    | .sl k t r, .sl k' t' r' => k == k' && t == t' && lbeq (lbeq (abeq n)) r r'
    | .pi c, .pi c' => lbeq (abeq n) c c'
    | .sm a b c d, .sm a' b' c' d' => a == a' && b == b' && c == c' && d == d'
    | .pm a b c, .pm a' b' c' => a == a' && b == b' && c == c'
    | .mp a, .mp b => a == b
    | .sz a, .sz b => a == b
    | .yl a, .yl b => a == b
    | .it a, .it b => a == b
    | .agg c, .agg c' => lbeq (abeq n) c c'
    | .tuple c, .tuple c' => lbeq (abeq n) c c'
    | .iface t x, .iface t' x' => t == t' && abeq n x x'
    | _, _ => false
def bbeq : ABlk → ABlk → Bool
  | .dead, .dead => true
  | .rows r t, .rows r' t' => lbeq (lbeq (abeq 12)) r r' && t == t'
  | .amap es c, .amap es' c' => lbeq (fun e e' => abeq 12 e.1 e'.1 && abeq 12 e.2.1 e'.2.1 && e.2.2 == e'.2.2) es es' && c == c'
  | _, _ => false
def obeq (a b : AV × AH) : Bool := abeq 12 a.1 b.1 && lbeq bbeq a.2 b.2
def dedup : List (AV × AH) → List (AV × AH)
  | [] => []
  | [x] => [x]
  | x :: xs => if (dedup xs).any (obeq x) then dedup xs else x :: dedup xs
def gcD (m : Nat) (r : AV × AH) : AV × AH := if r.2.length = m then r else (gc m r.1 r.2).getD r
end
section
section
variable {β : Type}
def fN (n : Nat) (k : Nat → β) : β := match n with
  | 0 => k 0
  | m + 1 => k (Nat.succ m)
def fI (i : Int) (k : Int → β) : β := match i with
  | .ofNat n => fN n fun n => k (.ofNat n)
  | .negSucc n => fN n fun n => k (.negSucc n)
def fB (b : Bool) (k : Bool → β) : β := match b with
  | true => k true
  | false => k false
noncomputable def fL {α : Type} (f : α → (α → β) → β) (l : List α) : (List α → β) → β :=
  List.rec (motive := fun _ => (List α → β) → β) (fun k => k []) (fun x _ ih k => f x fun x => ih fun xs => k (x :: xs)) l
def fU (b : UInt8) (k : UInt8 → β) : β := fN b.toNat fun n => k (UInt8.ofNat n)
noncomputable def fV (v : Value) (k : Value → β) : β := match v with
  | .int q n => fI n fun n => k (.int q n)
  | .bool b => fB b fun b => k (.bool b)
  | .string s => match s with
    | ⟨⟨l⟩⟩ => fL fU l fun l => k (.string ⟨⟨l⟩⟩)
  | v => k v
noncomputable def fA : Nat → AV → (AV → β) → β
  | 0, x, k => k x
  | d + 1, x, k => match x with
    | .any => k .any
    | .sc v => fV v fun v => k (.sc v)
    | .sl n t rows => fN n fun n => fB t fun t => fL (fL (fA d)) rows fun rows => k (.sl n t rows)
    | .pi cs => fL (fA d) cs fun cs => k (.pi cs)
    | .sm id n o l => fN id fun id => fN n fun n => fN o fun o => fN l fun l => k (.sm id n o l)
    | .pm id r c => fN id fun id => fN r fun r => fN c fun c => k (.pm id r c)
    | .mp id => fN id fun id => k (.mp id)
    | .agg cs => fL (fA d) cs fun cs => k (.agg cs)
    | .tuple cs => fL (fA d) cs fun cs => k (.tuple cs)
    | .fn f a b => fL (fA d) a fun a => fL (fA d) b fun b => k (.fn f a b)
    | .iface t x => fA d x fun x => k (.iface t x)
    | .yl id => fN id fun id => k (.yl id)
    | .it id => fN id fun id => k (.it id)
    | .sz n => fN n fun n => k (.sz n)
end
end
section
inductive FT where
  | leaf
  | node (v : AV) (l r : FT)
noncomputable def FT.get (T : FT) : Nat → AV :=
  FT.rec (motive := fun _ => Nat → AV) (fun _ => .any) (fun v _ _ ihl ihr i => Nat.rec (motive := fun _ => AV) v (fun j _ => Bool.rec (motive := fun _ => AV) (ihr (Nat.div j 2)) (ihl (Nat.div j 2)) (Nat.beq (Nat.mod j 2) 0)) i) T
noncomputable def FT.setK {β : Type} (T : FT) : Nat → AV → (FT → β) → β :=
  FT.rec (motive := fun _ => Nat → AV → (FT → β) → β) (fun _ _ k => k .leaf)
    (fun v l r ihl ihr i y k => Nat.rec (motive := fun _ => β) (k (.node y l r)) (fun j _ => Bool.rec (motive := fun _ => β) (ihr (Nat.div j 2) y fun r => k (.node v l r)) (ihl (Nat.div j 2) y fun l => k (.node v l r)) (Nat.beq (Nat.mod j 2) 0)) i) T
theorem FT.setK_succ {β : Type} (v : AV) (l r : FT) (j : Nat) (y : AV) (k : FT → β) : (FT.node v l r).setK (j + 1) y k = (match Nat.beq (Nat.mod j 2) 0 with | true => l.setK (Nat.div j 2) y fun l => k (.node v l r) | false => r.setK (Nat.div j 2) y fun r => k (.node v l r)) := by
  show Bool.rec (motive := fun _ => β) (r.setK (Nat.div j 2) y fun r => k (.node v l r)) (l.setK (Nat.div j 2) y fun l => k (.node v l r)) (Nat.beq (Nat.mod j 2) 0) = _
  cases Nat.beq (Nat.mod j 2) 0 <;> rfl
noncomputable def FT.set (T : FT) (i : Nat) (y : AV) : FT := T.setK i y id
theorem FT.setK_eq {β : Type} : ∀ (T : FT) (i : Nat) (y : AV) (k : FT → β), T.setK i y k = k (T.set i y)
  | .leaf, i, y, k => rfl
  | .node v l r, 0, y, k => rfl
  | .node v l r, j + 1, y, k => by
    simp only [FT.set, FT.setK_succ]
    cases Nat.beq (Nat.mod j 2) 0
    simp only; rw [r.setK_eq, r.setK_eq]; rfl; simp only; rw [l.setK_eq, l.setK_eq]; rfl
def FT.mk : Nat → Nat → FT
  | 0, _ => .leaf
  | f + 1, n => match n with
    | 0 => .leaf
    | m + 1 => .node .any (FT.mk f (Nat.div (m + 1) 2)) (FT.mk f (Nat.div m 2))
noncomputable def FT.sets {β : Type} : List AV → Nat → FT → (FT → β) → β
  | [], _, T, k => k T
  | x :: xs, i, T, k => T.setK i x fun T => FT.sets xs (Nat.succ i) T k
end
section
noncomputable section
def hPick : AV → AV → AV → AH → Option (AV × AH)
  | .sc (.bool true), a, _, H => some (a, H)
  | .sc (.bool false), _, b, H => some (b, H)
  | _, _, _, _ => none
def hAlloc (P : Program) (e : TypeId) (H : AH) : Option (AV × AH) :=
  match azero P e with
  | some z => if z.cellsOk then some (.pm H.length 0 0, H ++ [.rows [z.cells] e]) else none
  | none => none
def hBox (e : TypeId) (x : AV) (H : AH) : Option (AV × AH) := if x.cellsOk then some (.pm H.length 0 0, H ++ [.rows [x.cells] e]) else none
def hWith (x : Option AV) (H : AH) : Option (AV × AH) :=
  match x with
  | some y => some (y, H)
  | none => none
def hAny (H : Option AH) : Option (AV × AH) :=
  match H with
  | some H => some (.any, H)
  | none => none
def hUn (op : UnOp) (x : AV) (H : AH) : Option (AV × AH) :=
  match x with
  | .sc v => match val? (Op.unary op v) with
    | some v => some (.sc v, H)
    | none => none
  | _ => none
def hConv (P : Program) (s d : TypeId) (x : AV) (H : AH) : Option (AV × AH) :=
  hWith (match aconvert P s d x with | some y => some y | none => match abytesString P H s d x with | some y => some y | none => aptr P H s d x) H
def hIface (P : Program) (t : TypeId) (x : AV) (H : AH) : Option (AV × AH) :=
  match P.underlying t with
  | some (.interface _) | none => none
  | _ => some (.iface t x, H)
def hExt (x : AV) (i : Nat) (H : AH) : Option (AV × AH) :=
  match x with
  | .tuple vs => hWith vs[i]? H
  | _ => none
def hCall (P : Program) (ev : Operand → AV) (H : AH) (ty : TypeId) (c : Call) : Option (AV × AH) :=
  match c with
  | { callee := .builtin b, args := args, argTypes := ats } => abuiltin P H b ats.toList ty (args.toList.map ev)
  | _ => none
def hParts (ev : Operand → AV) (p : Nat × Operand) : Nat × AV := (p.1, ev p.2)
def astepE (P : Program) (ev : Operand → AV) (H : AH) (op : Op) (ty : TypeId) : Option (AV × AH) :=
  match op with
  | .move x => some (ev x, H)
  | .assign x => some (ev x, H)
  | .pick c a b => hPick (ev c) (ev a) (ev b) H
  | .alloc e => hAlloc P e H
  | .box e x => hBox e (ev x) H
  | .build t parts => hWith (abuild P t (parts.toList.map (hParts ev))) H
  | .buildSlice t n parts => hWith (abuildSlice P t n (parts.toList.map (hParts ev))) H
  | .load t a => hWith (aload P H t (ev a)) H
  | .store t a x => hAny (astore P H t (ev a) (ev x))
  | .nilCheck x => hWith (anil (ev x)) H
  | .binOp op t x y _ => hWith (abin P op t x y (ev x) (ev y)) H
  | .unOp op _ x => hUn op (ev x) H
  | .convert s d x => hConv P s d (ev x) H
  | .makeInterface t x => hIface P t (ev x) H
  | .makeFunc fn fs cs => some (.fn fn (fs.toList.map ev) (cs.toList.map ev), H)
  | .slice t x lo hi mx => hWith (aslice P t (ev x) (lo.map ev) (hi.map ev) (mx.map ev)) H
  | .fieldAddr s x f => hWith (afieldAddr P s f (ev x)) H
  | .field s x f => hWith (afield P s f (ev x)) H
  | .indexAddr t x i => hWith (aindexAddr P t (ev x) (ev i)) H
  | .index t x i => hWith (aindex P t (ev x) (ev i)) H
  | .makeMap t r => amakeMap P H t (r.map ev)
  | .makeSlice t l c => amakeSlice P H t (ev l) (ev c)
  | .lookup t x i ok => hWith (alookup P H t (ev x) (ev i) ok) H
  | .mapUpdate t m k x => hAny (amapUpdate P H t (ev m) (ev k) (ev x))
  | .insert t m k x => hAny (amapUpdate P H t (ev m) (ev k) (ev x))
  | .mapEntry t m k => amapEntry P H t (ev m) (ev k)
  | .entryStore _ m s x => hAny (aentryStore P H (ev m) (ev s) (ev x))
  | .range t x => arange P H t (ev x)
  | .entry x => hWith (aentry H (ev x)) H
  | .extract x i => hExt (ev x) i H
  | .call c => hCall P ev H ty c
  | _ => none
theorem hWith_eq (x : Option AV) (H : AH) : hWith x H = x.map (·, H) := by cases x <;> rfl
theorem hAny_eq (x : Option AH) : hAny x = x.map (.any, ·) := by cases x <;> rfl
theorem astepE_eq (P : Program) (G : Glob) (st : ASt) (op : Op) (ty : TypeId) : astepE P (st.ev G) st.H op ty = astep P G st op ty := by
  cases op <;> simp only [astepE, astep, hWith_eq, hAny_eq, hAlloc, hBox, hConv, hIface, hExt] <;> try rfl
  case pick c a b =>
    generalize st.ev G c = x
    cases x <;> try rfl
    rename_i v
    cases v <;> try rfl
    rename_i t
    cases t <;> rfl
  case unOp op t x =>
    generalize st.ev G x = y
    cases y <;> try rfl
    rename_i v; simp only [hUn]
    cases val? (Op.unary op v) <;> rfl
  case call c =>
    obtain ⟨callee, args, ats⟩ := c
    cases callee <;> rfl
def evT (G : Glob) (T : FT) : Operand → AV
  | .tmp t => T.get t
  | .const v => .sc v
  | .global g => match G g with
    | some cells => .pi cells
    | none => .sc (.pointer (some ⟨g, 0, none⟩))
  | .func f => .sc (.func (.func f) #[] #[])
def collect {α β : Type} (f : α → Option (List β)) : List α → Option (List β)
  | [] => some []
  | x :: xs => match f x with
    | some ys => match collect f xs with
      | some zs => some (ys ++ zs)
      | none => none
    | none => none
abbrev Runs := Option Nat → Nat → Nat → Code → FT → AH → Option (List (Exit × FT × AH))
abbrev Orc := FuncId → List AV → AH → Option (List (AV × AH))
def aresT (P : Program) (T : FT) (H : AH) : List ResultVar → Option (List AV)
  | [] => some []
  | r :: rs => match (match r with | .tmp t => some (T.get t) | .cell a t => aload P H t (T.get a)), aresT P T H rs with
    | some x, some xs => some (x :: xs)
    | _, _ => none
def retAll (P : Program) (fn : Func) (e : Exit × FT × AH) : Option (List (AV × AH)) :=
  match e.1 with
  | .normal | .ret => match aresT P e.2.1 e.2.2 fn.results.toList with
    | some xs => some [(atuple xs, e.2.2)]
    | none => none
  | _ => none
def rcall (P : Program) (orc : Orc) (self : Runs) (f : FuncId) (args : List AV) (H : AH) : Option (List (AV × AH)) :=
  match orc f args H with
  | some outs => some outs
  | none => match P.funcs[f]? with
    | some fn => match fn.body with
      | some c => if fn.results.toList.all (fun r => match r with | .tmp t => decide (t < fn.ntmps) | .cell a _ => decide (a < fn.ntmps)) && decide (args.length ≤ fn.ntmps) then
          match FT.sets args 0 (FT.mk fn.ntmps fn.ntmps) fun T => self none fn.ntmps H.length c T H with
          | some outs => (collect (retAll P fn) outs).map fun l => dedup (l.map (gcD H.length))
          | none => none
        else none
      | none => none
    | none => none
def rround (id : Nat) (e : Exit × FT × AH) : Option (List (AV × AH)) :=
  match jumpOf e.1, e.2.2[id]? with
  | some jump, some (.loop _ _ fr ps as bd) => some [(.sc (.bool jump.isNone), e.2.2.set id (.loop (if jump.isNone then .ready else .done) jump fr ps as bd))]
  | _, _ => none
def rbody (self : Runs) (n m : Nat) (id : Nat) (bd : Code) (e : Exit × FT × AH) : Option (List (Exit × FT × AH)) :=
  match e.1, e.2.2[id]? with
  | .normal, some (.loop .ready pe fr ps as bd') => self (some id) n m bd e.2.1 (e.2.2.set id (.loop .busy pe fr ps as bd'))
  | _, _ => none
def ryield (self : Runs) (id : Nat) (args : List AV) (H : AH) : Option (List (AV × AH)) :=
  match H[id]? with
  | some (.loop .ready pe fr ps as bd) => if args.length = ps.size then
      match FT.sets (asets fr (ps.toList.zip args)) 0 (FT.mk fr.length fr.length) fun T => self (some id) fr.length H.length as T H with
      | some outs => match collect (rbody self fr.length H.length id bd) outs with
        | some outs => collect (rround id) outs
        | none => none
      | none => none
    else none
  | _ => none
def rfn (P : Program) (orc : Orc) (self : Runs) (v : AV) (args : List AV) (H : AH) : Option (List (AV × AH)) :=
  match afunc v with
  | some (f, fs, cs) => fL (fA 8) (fs ++ args ++ cs) fun args => rcall P orc self f args H
  | none => none
def rcallee (P : Program) (orc : Orc) (self : Runs) (v : AV) (args : List AV) (H : AH) : Option (List (AV × AH)) :=
  match v with
  | .yl id => fL (fA 8) args fun args => ryield self id args H
  | v => rfn P orc self v args H
def rop (P : Program) (G : Glob) (orc : Orc) (self : Runs) (op : Op) (ty : TypeId) (T : FT) (H : AH) : Option (List (AV × AH)) :=
  match op with
  | .next x str => anext P H (evT G T x) str
  | .call { callee := .value fo, args := args, argTypes := _ } => rcallee P orc self (evT G T fo) (args.toList.map (evT G T)) H
  | op => match astepE P (evT G T) H op ty with
    | some r => some [r]
    | none => none
def aguard (n : Nat) (ops : List Oper) (T : FT) : Option (Nat × Bool) → Option Bool
  | none => some true
  | some (j, b) => match (ops[j]?).bind (·.dst) with
    | some d => if d < n then wantedV (T.get d) b else none
    | none => none
inductive DK where
  | skip | quiet | eff
  deriving DecidableEq
def quietK : Op → Bool
  | .move _ | .assign _ | .pick .. | .nilCheck _ | .binOp .. | .unOp .. | .convert .. | .makeInterface .. | .makeFunc .. | .slice .. | .fieldAddr .. | .field .. | .indexAddr .. | .index .. | .extract .. | .build .. | .buildSlice .. | .load .. | .lookup .. => true
  | .call { callee := .builtin .len, .. } | .call { callee := .builtin .min, .. } | .call { callee := .builtin .max, .. } | .call { callee := .builtin .unsafeSliceData, .. } => true
  | _ => false
def blindK : Op → Bool
  | .move _ | .assign _ | .pick .. | .nilCheck _ | .binOp .. | .unOp .. | .makeInterface .. | .makeFunc .. | .slice .. | .fieldAddr .. | .field .. | .indexAddr .. | .index .. | .extract .. | .build .. | .buildSlice .. => true
  | .call { callee := .builtin .min, .. } | .call { callee := .builtin .max, .. } => true
  | _ => false
def ancs : List Oper → List Nat → List Nat
  | [], acc => acc
  | o :: l, acc => ancs l (acc ++ [o.after.toList.foldl (fun s e => if Region.binds .any e then s ||| (2 ^ e.on ||| acc.getD e.on 0) else s) 0])
end
end
section
noncomputable section
def tmpsOf (o : Op) : List Tmp := o.operands.toList.filterMap fun | .tmp t => some t | _ => none
def wIdx (t : Tmp) : List Oper → Nat → Option Nat
  | [], _ => none
  | o :: l, i => if o.dst == some t then some i else wIdx t l (i + 1)
def chkS (nfr : Nat) (ops : List Oper) (anc : Nat → Nat → Bool) : List Oper → Nat → Bool
  | [], _ => true
  | o :: l, i =>
    (o.after.toList.all fun e => !Region.binds .any e || decide (e.on < i)) &&
    ((tmpsOf o.op).all fun t => match wIdx t ops 0 with
      | some j => (!decide (j < i) || anc i j) && (!decide (i < j) || anc j i)
      | none => true) &&
    (match o.dst with
      | none => true
      | some d => (wIdx d ops 0 == some i)) &&
    (match o.guard with
      | none => true
      | some (j, _) => decide (j < i) && anc i j && (match ops[j]? with | some o' => (match o'.dst with | some d => decide (d < nfr) | none => false) | none => false)) &&
    chkS nfr ops anc l (i + 1)
def bits (masks : List Nat) (i j : Nat) : Bool := (masks.getD i 0).testBit j
end
end
end Go.Proofs.Ax
