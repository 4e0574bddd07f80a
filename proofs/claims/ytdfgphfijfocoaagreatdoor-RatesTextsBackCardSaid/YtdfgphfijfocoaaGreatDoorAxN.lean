import Derived.Test.YtdfgphfijfocoaaGreatDoorAxH
import Derived.Test.YtdfgphfijfocoaaGreatDoorAxD
import Derived.Laws.BytesArg
namespace Go.Proofs.Ax
open Go
set_option linter.unusedVariables false
/-! A round of a range over a function, as a contract of its own. -/
def RoundN (P : Program) (G : Glob) (T : TypeId → Option TI) (id : Nat) (xs : List AV) (H : AH) (k : AV → AH → Prop) : Prop :=
  ∃ pe fl n ps as bd, nthB H id = some (.loop .ready pe (frm 0 fl n) ps as bd) ∧ xs.length = ps.size ∧ setsF fl ps.toList xs fun fl1 => ev ⟨⟨P, G, H.length, some id⟩, n, T⟩ as fl1 H (bodyE ⟨⟨P, G, H.length, some id⟩, n, T⟩ id bd k)
theorem OpN.round0 {E : EC} (ok : E.Ok) {fo : Operand} {args : Array Operand} {ats : Array TypeId} {ty : TypeId} {l : Fr} {H : AH} {k : AV → AH → Prop} {id : Nat}
    (hfo : evo E l fo = .yl id) (h : RoundN E.C.P E.C.G E.T id (args.toList.map (evo E l)) H k) : OpN E (.call ⟨.value fo, args, ats⟩) ty l H k := by
  obtain ⟨pe, fl, n, ps, as, bd, h1, h2, h3⟩ := h
  exact OpN.yl ok hfo h1 (by simpa using h2) (by rw [mapE_eq]; exact h3)
theorem OpN.mono {E : EC} {op : Op} {ty : TypeId} {l : Fr} {H : AH} {k k' : AV → AH → Prop} (h : OpN E op ty l H k) (hk : ∀ y H', k y H' → k' y H') : OpN E op ty l H k' :=
  ⟨fun dst pos af g => (h.1 dst pos af g).mono fun st ⟨y, H', e, hy⟩ => ⟨y, H', e, hk _ _ hy⟩⟩
/-- A yield, by the contract of its round. -/
theorem OpN.round {E : EC} (ok : E.Ok) {fo : Operand} {args : Array Operand} {ats : Array TypeId} {ty : TypeId} {l : Fr} {H : AH} {k k0 : AV → AH → Prop} {id : Nat}
    (hfo : evo E l fo = .yl id) (h : RoundN E.C.P E.C.G E.T id (args.toList.map (evo E l)) H k0) (hk : ∀ y H', k0 y H' → k y H') : OpN E (.call ⟨.value fo, args, ats⟩) ty l H k := (OpN.round0 ok hfo h).mono hk
/-- A step that leaves the blocks as they are. -/
theorem StepN.keep {E : EC} {op : Op} {ty : TypeId} {l : Fr} {H : AH} {k : AV → AH → Prop} (y : AV) (h : astep E.C.P E.C.G ⟨frm 0 l E.n, H⟩ op ty = some (y, H)) (hk : k y H) : StepN E op ty l H k := .mk y H h hk
end Go.Proofs.Ax
namespace Go.Proofs.Ax
open Go
set_option linter.unusedVariables false
/-! A nil slice in a cell, as an empty one of the code's own. -/
theorem set_some {α : Type} {l : List α} {i j : Nat} {z x : α} (h : (l.set i z)[j]? = some x) : (i = j ∧ x = z ∧ i < l.length) ∨ (i ≠ j ∧ l[j]? = some x) := by
  rw [List.getElem?_set] at h
  split at h
  · split at h
    · cases h; exact .inl ⟨by assumption, rfl, by omega⟩
    · cases h
  · exact .inr ⟨by assumption, h⟩
theorem Reabs.nilC {C : Ctx} {l : Fr} {N : Nat} {H : AH} (i k j : Nat) (te : TypeId) (hi : H[i]? = some (.rows [[.sc (.slice none 0 0)]] te)) : Reabs C ⟨frm 0 l N, H⟩ ⟨frm 0 l N, H.set i (.rows [[.sm j k 0 0]] te)⟩ := by
  intro B I w ρ a hs
  have hlt : i < H.length := (List.getElem?_eq_some_iff.1 hi).1
  have to : ∀ {id : Nat} {b : ABlk}, (H.set i (.rows [[.sm j k 0 0]] te))[id]? = some b → b.live = true → ∃ b0, H[id]? = some b0 ∧ b0.live = true ∧ ∀ {l : Loc}, BRel I w ρ l b0 → BRel I w ρ l b := by
    intro id b hb hl
    rcases set_some hb with ⟨rfl, rfl, _⟩ | ⟨_, hb⟩
    · refine ⟨_, hi, rfl, ?_⟩
      rintro l ⟨⟨cells, h1, h2, h3⟩, h4, h5⟩
      refine ⟨⟨cells, h1, h2, fun i' j' row x hr hx => ?_⟩, h4, fun r hr => ?_⟩
      · have hi0 : i' = 0 := by
          rcases i' with _ | i'
          · rfl
          · simp at hr
        subst hi0
        cases hr
        have hj0 : j' = 0 := by
          rcases j' with _ | j'
          · rfl
          · simp at hx
        subst hj0
        cases hx
        obtain ⟨g1, g2⟩ := h3 0 0 _ _ rfl rfl
        refine ⟨g1, ?_⟩
        generalize cells.getD (0 * l.k + 0) undef = v at g2
        cases g2
        exact .smNil
      · rw [List.mem_singleton.1 hr]
        exact h5 [.sc (.slice none 0 0)] (List.mem_singleton.2 rfl)
    · exact ⟨b, hb, hl, fun h => h⟩
  have back : ∀ {id : Nat} {b : ABlk}, H[id]? = some b → b.live = true → ∃ b', (H.set i (.rows [[.sm j k 0 0]] te))[id]? = some b' ∧ b'.live = true := by
    intro id b hb hl
    by_cases he : i = id
    · subst he
      exact ⟨_, by rw [List.getElem?_set, if_pos rfl, if_pos hlt], rfl⟩
    · exact ⟨b, by rw [List.getElem?_set, if_neg he]; exact hb, hl⟩
  have own1 : ∀ b, Owned ρ (H.set i (.rows [[.sm j k 0 0]] te)) b → Owned ρ H b := by
    rintro b ⟨id, b', l, h1, h2, h3, h4⟩
    obtain ⟨b0, g1, g2, -⟩ := to h1 h2
    exact ⟨id, b0, l, g1, g2, h3, h4⟩
  have own2 : ∀ b, Owned ρ H b → Owned ρ (H.set i (.rows [[.sm j k 0 0]] te)) b := by
    rintro b ⟨id, b', l, h1, h2, h3, h4⟩
    obtain ⟨b0, g1, g2⟩ := back h1 h2
    exact ⟨id, b0, l, g1, g2, h3, h4⟩
  have hh := hs.heap
  refine ⟨I, ρ, ⟨⟨fun id b l h1 h2 h3 => ?_, fun id id' b b' l l' h1 h2 h3 h4 h5 h6 h7 => ?_, fun id l h => by rw [List.length_set]; exact hh.dom id l h, hh.old, hh.glob⟩, hs.size, hs.fr, ?_, hs.base⟩,
    ⟨fun _ h => h, fun _ _ _ h => h, Nat.le_refl _, rfl, rfl, rfl, fun _ _ _ => rfl, fun b ho _ => own1 b ho, fun _ h => .inl h⟩⟩
  · obtain ⟨b0, g1, g2, g3⟩ := to h1 h2
    obtain ⟨k1, k2, k3⟩ := hh.blk id b0 l g1 g2 h3
    exact ⟨k1, k2, g3 k3⟩
  · obtain ⟨b0, g1, g2, -⟩ := to h1 h3
    obtain ⟨b1, k1, k2, -⟩ := to h2 h4
    exact hh.inj id id' b0 b1 l l' g1 k1 g2 k2 h5 h6 h7
  · obtain ⟨rs, h1, h2, h3⟩ := hs.marks
    exact ⟨rs, h1, h2, fun r hr => ⟨(h3 r hr).1, (h3 r hr).2.1, fun ho => (h3 r hr).2.2.1 (own1 r ho), (h3 r hr).2.2.2⟩⟩
/-- A block more, that nothing shows yet. -/
theorem Reabs.more {C : Ctx} {l : Fr} {N : Nat} {H : AH} (te : TypeId) : Reabs C ⟨frm 0 l N, H⟩ ⟨frm 0 l N, H ++ [.rows [] te]⟩ := by
  intro B I w ρ a hs
  obtain ⟨h1, h2⟩ := hs.heap.virtual (.rows [] te)
  exact ⟨I, ρ, ⟨h1, hs.size, hs.fr, hs.marks.went h2, hs.base⟩, h2.gone⟩
/-- A nil slice in a cell of its own: an empty slice in a new block. -/
theorem Reabs.virtC {C : Ctx} {l : Fr} {N : Nat} {H : AH} (i k : Nat) (te tr : TypeId) (hi : H[i]? = some (.rows [[.sc (.slice none 0 0)]] te)) : Reabs C ⟨frm 0 l N, H⟩ ⟨frm 0 l N, List.set (H ++ [ABlk.rows [] tr]) i (ABlk.rows [[.sm H.length k 0 0]] te)⟩ := by
  refine (Reabs.more tr).trans (Reabs.nilC i k H.length te ?_)
  rw [List.getElem?_append_left (List.getElem?_eq_some_iff.1 hi).1]
  exact hi
end Go.Proofs.Ax
namespace Go.Proofs.Ax
open Go
set_option linter.unusedVariables false
/-! One operation of a statement by a rule of its own. -/
theorem CodeN.seqC {E : EC} {a b : Code} {l : Fr} {H : AH} {k : XK} (h : CodeN E a l H fun e l' H' => match e with
    | .normal => CodeN E b l' H' k
    | e => k e l' H') : CodeN E (.seq a b) l H k := by
  refine ⟨AWp_seq (h.1.mono ?_)⟩
  rintro e st ⟨l', H', rfl, hk⟩
  cases e <;> first | exact hk.1 | exact ⟨l', H', rfl, hk⟩
theorem CodeN.condT {E : EC} {c : Operand} {x y : Code} {l : Fr} {H : AH} {k : XK} (hc : evo E l c = .sc (.bool true)) (h : CodeN E x l H k) : CodeN E (.cond c x y) l H k :=
  ⟨AWp_cond (by rw [evo_eq E l H] at hc; exact hc) (fun _ => h.1) (fun h => by cases h)⟩
section
variable {E : EC} (ok : E.Ok)
include ok
theorem evops_okK {ops : Array Oper} {k : Fr → AH → Prop} {K : Exit → ASt → Prop} {tail : List Oper} (ht : ∀ l' H', k l' H' → AOps E.C ops tail K ⟨frm 0 l' E.n, H'⟩) : ∀ (os : List Oper) (l : Fr) (H : AH), evops E ops.toList os l H k →
    AOps E.C ops (os ++ tail) K ⟨frm 0 l E.n, H⟩
  | [], l, H, h => ht _ _ h
  | ⟨dst, op, ty, pos, af, none⟩ :: os, l, H, h => by
    rw [evops_cons] at h
    simp only [evopF] at h
    refine AOps_cons rfl ((evo1_ok ok h).mono ?_)
    rintro st ⟨y, H', rfl, hk⟩
    rw [putFK_eq] at hk
    exact evops_okK ht os _ _ hk
  | ⟨dst, op, ty, pos, af, some (j, b)⟩ :: os, l, H, h => by
    rw [evops_cons] at h
    simp only [evopF] at h
    split at h
    case h_2 => exact h.elim
    rename_i d hd
    split at h
    case h_2 => exact h.elim
    rename_i hlt
    rw [dstAt_eq, Array.getElem?_toList] at hd
    obtain ⟨t, h1, h2, h3⟩ := guardN_ok h
    refine AOps_guard rfl hd (x := alk d l) (t := t) ?_ h1 (fun ht' => ?_) (fun ht' => ?_)
    · have hlt' : d < E.n := by simpa [Nat.blt_eq] using hlt
      simp only [frm_get, if_pos hlt', Nat.zero_add]
    · refine (evo1_ok ok (h2 ht')).mono ?_
      rintro st ⟨y, H', rfl, hk⟩
      rw [putFK_eq] at hk
      exact evops_okK ht os _ _ hk
    · rw [putF_eq]
      have h3' := h3 ht'
      rw [putFK_eq] at h3'
      exact evops_okK ht os _ _ h3'
/-- A statement whose n-th operation has a rule of its own. -/
theorem CodeN.one {id : Nat} {ops : Array Oper} {l : Fr} {H : AH} {k : XK} (n : Nat) {dst : Option Tmp} {op : Op} {ty : TypeId} {pos : String} {af : Array Edge} (ho : ops.toList[n]? = some ⟨dst, op, ty, pos, af, none⟩)
    (h : evops E ops.toList (ops.toList.take n) l H fun l1 H1 => OpN E op ty l1 H1 fun y H2 => putFK l1 dst y fun l2 => evops E ops.toList (ops.toList.drop (n + 1)) l2 H2 fun l3 H3 => k .normal l3 H3) : CodeN E (.region id ops false) l H k := by
  refine ⟨(AWp_region (K := fun e st => e = .normal ∧ ∃ l' H', st = ⟨frm 0 l' E.n, H'⟩ ∧ k .normal l' H') ?_).mono ?_⟩
  · have hsplit : ops.toList = ops.toList.take n ++ ⟨dst, op, ty, pos, af, none⟩ :: ops.toList.drop (n + 1) := by
      obtain ⟨hn, he⟩ := List.getElem?_eq_some_iff.1 ho
      rw [← he, ← List.drop_eq_getElem_cons hn, List.take_append_drop]
    have := evops_okK ok (ops := ops) (K := fun e st => e = .normal ∧ ∃ l' H', st = ⟨frm 0 l' E.n, H'⟩ ∧ k .normal l' H') (tail := ⟨dst, op, ty, pos, af, none⟩ :: ops.toList.drop (n + 1)) (fun l1 H1 hc => AOps_cons rfl ((hc.1 dst pos af none).mono fun st ⟨y, H2, e, hk⟩ => by
      subst e
      rw [putFK_eq] at hk
      rw [putF_eq]
      exact evops_ok ok _ _ _ hk)) (ops.toList.take n) l H h
    rw [← hsplit] at this
    exact this
  · rintro e st ⟨rfl, l', H', rfl, hk⟩
    exact ⟨l', H', rfl, hk⟩
omit ok
/-- A call of what the machine does by itself. -/
theorem OpN.orc {args : Array Operand} {ats : Array TypeId} {ty : TypeId} {l : Fr} {H : AH} {k : AV → AH → Prop} {fo : Operand} {f : FuncId} {fs cs : List AV} {outs : List (AV × AH)} (hfo : afunc (evo E l fo) = some (f, fs, cs))
    (h : OrcAt E.C.P E.C.G f (fs ++ args.toList.map (evo E l) ++ cs) H outs) (hk : ∀ y H', (y, H') ∈ outs → k y H') : OpN E (.call ⟨.value fo, args, ats⟩) ty l H k := ⟨fun dst pos af g => by
  refine AOp_orc rfl (by rw [← evo_eq]; exact hfo) (by rw [← show evo E l = (⟨frm 0 l E.n, H⟩ : ASt).ev E.C.G from funext (evo_eq E l H)]; exact h) fun y H' hy => ⟨y, H', rfl, hk _ _ hy⟩⟩
/-- Bytes turned to a string. -/
theorem OpN.bytes {s d e : TypeId} {x : Operand} {ty : TypeId} {l : Fr} {H : AH} {k : AV → AH → Prop} {t : Bool} {ns : List Int} (hs : E.C.P.underlying s = some (.slice e)) (he : E.C.P.underlying e = some (.int .u8)) (hd : E.C.P.underlying d = some .string) (hn : ns ≠ [])
    (hx : evo E l x = .sl 1 t (ns.map fun n => [.sc (.int .u8 n)])) (hk : k (.sc (.string (strOfNums ns))) H) : OpN E (.convert s d x) ty l H k := ⟨fun dst pos af g => fun B I w ρ a rr hr hsr next Q hnx => by
  rw [evo_eq E l H] at hx
  have hv := hsr.ev x
  rw [hx] at hv
  refine ⟨fun _ _ => trivial, ?_⟩
  rw [Oper.semAt_eq _ _ _ (by intro c h; cases h)]
  have hrun : (convert s d (a.eval x)).run E.C.P w = .ok (.string (strOfNums ns)) w := by
    generalize a.eval x = v at hv
    generalize hrw : (ns.map fun n => ([.sc (.int .u8 n)] : List AV)) = rws at hv
    cases hv with
    | @sl ρ b o len cap k tight rows f hl hcap ht hkk hI hc h1 hv =>
      have hlen : ns.length = len := by rw [← hl, ← hrw]; simp
      refine run_convert_bytes_arg (P := E.C.P) w s e hs he b o len cap ns hlen (fun i hi => ?_) d hd
      have hi' : i < ns.length := by omega
      have hr : (ns.map fun n => ([.sc (.int .u8 n)] : List AV))[i]? = some [.sc (.int .u8 ns[i])] := by simp [hi']
      rw [hrw] at hr
      have h2 := hc i 0 _ _ hr rfl
      have h3 := hv i 0 _ _ hr rfl
      generalize f i 0 = u at h2 h3
      cases h3
      rw [List.getD_eq_getElem?_getD, List.getElem?_eq_getElem hi']
      simpa using h2
    | slNil => exact absurd (List.map_eq_nil_iff.1 hrw) hn
    | slMt => exact absurd (List.map_eq_nil_iff.1 hrw) hn
  have hex : (execOp a.eval ⟨dst, .convert s d x, ty, pos, af, g⟩).run E.C.P w = .ok (.value (.string (strOfNums ns))) w := by
    simp only [execOp, Sem.run_bind, hrun, Result.andThen]
    rfl
  rw [hex]
  exact hnx I ρ _ _ w ⟨_, H, rfl, hk⟩ (hsr.put Went.refl hsr.heap .sc dst) (by
    have : ((⟨frm 0 l E.n, H⟩ : ASt).put dst (.sc (.string (strOfNums ns))) H).H = H := by unfold ASt.put; split <;> rfl
    rw [this]; exact Gone.refl)⟩
end
end Go.Proofs.Ax
namespace Go.Proofs.Ax
open Go
set_option linter.unusedVariables false
/-! What is true among some package variables is true among more. -/
theorem AFnH.glob {P : Program} {G G' : Glob} {f : FuncId} {args : List AV} {H : AH} {Q : AV → AH → Prop} (hs : ∀ (g : Nat) (c : List AV), G g = some c → G' g = some c) (h : AFnH P G f args H Q) : AFnH P G' f args H Q := by
  intro I w ρ vs hh hl hv
  have hh1 : HRel G I w ρ H := ⟨hh.blk, hh.inj, hh.dom, hh.old, fun g c hg => hh.glob g c (hs g c hg)⟩
  refine (h I w ρ vs hh1 hl hv).mono ?_
  rintro e w' ⟨v, rfl, I', ρ', H', y, g1, g2, g3, g4⟩
  have hk : Keeps I I' w w' := ⟨g4.sub, fun b hb => g4.frame b (hh.old b hb) (by
    rintro ⟨id, blk, l, q1, q2, q3, q4⟩
    exact (hh.blk id blk l q1 q2 q3).2.1 (by rw [q4]; exact hb))⟩
  exact ⟨v, rfl, I', ρ', H', y, g1, ⟨g2.blk, g2.inj, g2.dom, g2.old, hh.glob' hk⟩, g3, g4⟩
theorem Pu.glob {P : Program} {G G' : Glob} {f : FuncId} {args : List AV} {y : AV} (hs : ∀ (g : Nat) (c : List AV), G g = some c → G' g = some c) (h : Pu P G f args y) : Pu P G' f args y := ⟨h.1, fun H => (h.2 H).glob hs⟩
theorem Ef.glob {P : Program} {G G' : Glob} {f : FuncId} {args : List AV} {H : AH} {Q : AV → AH → Prop} (hs : ∀ (g : Nat) (c : List AV), G g = some c → G' g = some c) (h : Ef P G f args H Q) : Ef P G' f args H Q := ⟨h.1, h.2.glob hs⟩
end Go.Proofs.Ax
