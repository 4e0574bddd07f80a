import Derived.Test.YtedekogkeamacaaGreatDoorAxH
import Derived.Test.YtedekogkeamacaaGreatDoorAxD
import Derived.Laws.BytesArg
namespace Go.Proofs.Ax
open Go
set_option linter.unusedVariables false
def RoundN (P : Program) (G : Glob) (T : TypeId → Option TI) (id : Nat) (xs : List AV) (H : AH) (k : AV → AH → Prop) : Prop :=
  ∃ pe fl n ps as bd, nthB H id = some (.loop .ready pe (frm 0 fl n) ps as bd) ∧ xs.length = ps.size ∧ setsF fl ps.toList xs fun fl1 => ev ⟨⟨P, G, H.length, some id⟩, n, T⟩ as fl1 H (bodyE ⟨⟨P, G, H.length, some id⟩, n, T⟩ id bd k)
theorem OpN.round0 {E : EC} (ok : E.Ok) {fo : Operand} {args : Array Operand} {ats : Array TypeId} {ty : TypeId} {l : Fr} {H : AH} {k : AV → AH → Prop} {id : Nat}
    (hfo : evo E l fo = .yl id) (h : RoundN E.C.P E.C.G E.T id (args.toList.map (evo E l)) H k) : OpN E (.call ⟨.value fo, args, ats⟩) ty l H k := by
  obtain ⟨pe, fl, n, ps, as, bd, h1, h2, h3⟩ := h
  exact OpN.yl ok hfo h1 (by simpa using h2) (by rw [mapE_eq]; exact h3)
theorem OpN.mono {E : EC} {op : Op} {ty : TypeId} {l : Fr} {H : AH} {k k' : AV → AH → Prop} (h : OpN E op ty l H k) (hk : ∀ y H', k y H' → k' y H') : OpN E op ty l H k' :=
  ⟨fun dst pos af g => (h.1 dst pos af g).mono fun st ⟨y, H', e, hy⟩ => ⟨y, H', e, hk _ _ hy⟩⟩
theorem OpN.round {E : EC} (ok : E.Ok) {fo : Operand} {args : Array Operand} {ats : Array TypeId} {ty : TypeId} {l : Fr} {H : AH} {k k0 : AV → AH → Prop} {id : Nat}
    (hfo : evo E l fo = .yl id) (h : RoundN E.C.P E.C.G E.T id (args.toList.map (evo E l)) H k0) (hk : ∀ y H', k0 y H' → k y H') : OpN E (.call ⟨.value fo, args, ats⟩) ty l H k := (OpN.round0 ok hfo h).mono hk
theorem StepN.keep {E : EC} {op : Op} {ty : TypeId} {l : Fr} {H : AH} {k : AV → AH → Prop} (y : AV) (h : astep E.C.P E.C.G ⟨frm 0 l E.n, H⟩ op ty = some (y, H)) (hk : k y H) : StepN E op ty l H k := .mk y H h hk
end Go.Proofs.Ax
namespace Go.Proofs.Ax
open Go
set_option linter.unusedVariables false
theorem set_some {α : Type} {l : List α} {i j : Nat} {z x : α} (h : (l.set i z)[j]? = some x) : (i = j ∧ x = z ∧ i < l.length) ∨ (i ≠ j ∧ l[j]? = some x) := by
  rw [List.getElem?_set] at h
  split at h
  · split at h
    · cases h; exact .inl ⟨by assumption, rfl, by omega⟩
    · cases h
  · exact .inr ⟨by assumption, h⟩
theorem Reabs.more {C : Ctx} {l : Fr} {N : Nat} {H : AH} (te : TypeId) : Reabs C ⟨frm 0 l N, H⟩ ⟨frm 0 l N, H ++ [.rows [] te]⟩ := by
  intro B I w ρ a hs
  obtain ⟨h1, h2⟩ := hs.heap.virtual (.rows [] te)
  exact ⟨I, ρ, ⟨h1, hs.size, hs.fr, hs.marks.went h2, hs.base⟩, h2.gone⟩
end Go.Proofs.Ax
namespace Go.Proofs.Ax
open Go
set_option linter.unusedVariables false
section
variable {E : EC} (ok : E.Ok)
include ok
theorem CodeN.one {id : Nat} {ops : Array Oper} {l : Fr} {H : AH} {k : XK} (n : Nat) {dst : Option Tmp} {op : Op} {ty : TypeId} {pos : String} {af : Array Edge} (ho : ops.toList[n]? = some ⟨dst, op, ty, pos, af, none⟩)
    (h : evops E ops.toList (ops.toList.take n) l H fun l1 H1 => OpN E op ty l1 H1 fun y H2 => putFK l1 dst y fun l2 => evops E ops.toList (ops.toList.drop (n + 1)) l2 H2 fun l3 H3 => k .normal l3 H3) : CodeN E (.region id ops false) l H k := by
  refine ⟨(AWp_region (K := fun e st => e = .normal ∧ ∃ l' H', st = ⟨frm 0 l' E.n, H'⟩ ∧ k .normal l' H') ?_).mono ?_⟩
  · have hsplit : ops.toList = ops.toList.take n ++ ⟨dst, op, ty, pos, af, none⟩ :: ops.toList.drop (n + 1) := by
      obtain ⟨hn, he⟩ := List.getElem?_eq_some_iff.1 ho
      rw [← he, ← List.drop_eq_getElem_cons hn, List.take_append_drop]
    have := evops_okK ok (ops := ops) (K := fun e st => e = .normal ∧ ∃ l' H', st = ⟨frm 0 l' E.n, H'⟩ ∧ k .normal l' H') (tail := ⟨dst, op, ty, pos, af, none⟩ :: ops.toList.drop (n + 1)) (fun l1 H1 hc => AOps_cons rfl ((hc.1 dst pos af none).mono fun st ⟨y, H2, e, hk⟩ => by
      subst e
      rw [putFK_eq] at hk
      rw [putF_eq]
      exact evops_ok ok _ _ _ hk)) (ops.toList.take n) l H h
    rw [← hsplit] at this
    exact this
  · rintro e st ⟨rfl, l', H', rfl, hk⟩
    exact ⟨l', H', rfl, hk⟩
omit ok
theorem OpN.orc {args : Array Operand} {ats : Array TypeId} {ty : TypeId} {l : Fr} {H : AH} {k : AV → AH → Prop} {fo : Operand} {f : FuncId} {fs cs : List AV} {outs : List (AV × AH)} (hfo : afunc (evo E l fo) = some (f, fs, cs))
    (h : OrcAt E.C.P E.C.G f (fs ++ args.toList.map (evo E l) ++ cs) H outs) (hk : ∀ y H', (y, H') ∈ outs → k y H') : OpN E (.call ⟨.value fo, args, ats⟩) ty l H k := ⟨fun dst pos af g => by
  refine AOp_orc rfl (by rw [← evo_eq]; exact hfo) (by rw [← show evo E l = (⟨frm 0 l E.n, H⟩ : ASt).ev E.C.G from funext (evo_eq E l H)]; exact h) fun y H' hy => ⟨y, H', rfl, hk _ _ hy⟩⟩
theorem OpN.bytes {s d e : TypeId} {x : Operand} {ty : TypeId} {l : Fr} {H : AH} {k : AV → AH → Prop} {t : Bool} {ns : List Int} (hs : E.C.P.underlying s = some (.slice e)) (he : E.C.P.underlying e = some (.int .u8)) (hd : E.C.P.underlying d = some .string) (hn : ns ≠ [])
    (hx : evo E l x = .sl 1 t (ns.map fun n => [.sc (.int .u8 n)])) (hk : k (.sc (.string (strOfNums ns))) H) : OpN E (.convert s d x) ty l H k := ⟨fun dst pos af g => fun B I w ρ a rr hr hsr next Q hnx => by
  rw [evo_eq E l H] at hx
  have hv := hsr.ev x
  rw [hx] at hv
  refine ⟨fun _ _ => trivial, ?_⟩
  rw [Oper.semAt_eq _ _ _ (by intro c h; cases h)]
  have hrun : (convert s d (a.eval x)).run E.C.P w = .ok (.string (strOfNums ns)) w := by
    generalize a.eval x = v at hv
    generalize hrw : (ns.map fun n => ([.sc (.int .u8 n)] : List AV)) = rws at hv
    cases hv with
    | @sl ρ b o len cap k tight rows f hl hcap ht hkk hI hc h1 hv =>
      have hlen : ns.length = len := by rw [← hl, ← hrw]; simp
      refine run_convert_bytes_arg (P := E.C.P) w s e hs he b o len cap ns hlen (fun i hi => ?_) d hd
      have hi' : i < ns.length := by omega
      have hr : (ns.map fun n => ([.sc (.int .u8 n)] : List AV))[i]? = some [.sc (.int .u8 ns[i])] := by simp [hi']
      rw [hrw] at hr
      have h2 := hc i 0 _ _ hr rfl
      have h3 := hv i 0 _ _ hr rfl
      generalize f i 0 = u at h2 h3
      cases h3
      rw [List.getD_eq_getElem?_getD, List.getElem?_eq_getElem hi']
      simpa using h2
    | slNil => exact absurd (List.map_eq_nil_iff.1 hrw) hn
    | slMt => exact absurd (List.map_eq_nil_iff.1 hrw) hn
  have hex : (execOp a.eval ⟨dst, .convert s d x, ty, pos, af, g⟩).run E.C.P w = .ok (.value (.string (strOfNums ns))) w := by
    simp only [execOp, Sem.run_bind, hrun, Result.andThen]
    rfl
  rw [hex]
  exact hnx I ρ _ _ w ⟨_, H, rfl, hk⟩ (hsr.put Went.refl hsr.heap .sc dst) (by
    have : ((⟨frm 0 l E.n, H⟩ : ASt).put dst (.sc (.string (strOfNums ns))) H).H = H := by unfold ASt.put; split <;> rfl
    rw [this]; exact Gone.refl)⟩
end
end Go.Proofs.Ax
namespace Go.Proofs.Ax
open Go
set_option linter.unusedVariables false
theorem AFnH.glob {P : Program} {G G' : Glob} {f : FuncId} {args : List AV} {H : AH} {Q : AV → AH → Prop} (hs : ∀ (g : Nat) (c : List AV), G g = some c → G' g = some c) (h : AFnH P G f args H Q) : AFnH P G' f args H Q := by
  intro I w ρ vs hh hl hv
  have hh1 : HRel G I w ρ H := ⟨hh.blk, hh.inj, hh.dom, hh.old, fun g c hg => hh.glob g c (hs g c hg)⟩
  refine (h I w ρ vs hh1 hl hv).mono ?_
  rintro e w' ⟨v, rfl, I', ρ', H', y, g1, g2, g3, g4⟩
  have hk : Keeps I I' w w' := ⟨g4.sub, fun b hb => g4.frame b (hh.old b hb) (by
    rintro ⟨id, blk, l, q1, q2, q3, q4⟩
    exact (hh.blk id blk l q1 q2 q3).2.1 (by rw [q4]; exact hb))⟩
  exact ⟨v, rfl, I', ρ', H', y, g1, ⟨g2.blk, g2.inj, g2.dom, g2.old, hh.glob' hk⟩, g3, g4⟩
theorem Pu.glob {P : Program} {G G' : Glob} {f : FuncId} {args : List AV} {y : AV} (hs : ∀ (g : Nat) (c : List AV), G g = some c → G' g = some c) (h : Pu P G f args y) : Pu P G' f args y := ⟨h.1, fun H => (h.2 H).glob hs⟩
theorem Ef.glob {P : Program} {G G' : Glob} {f : FuncId} {args : List AV} {H : AH} {Q : AV → AH → Prop} (hs : ∀ (g : Nat) (c : List AV), G g = some c → G' g = some c) (h : Ef P G f args H Q) : Ef P G' f args H Q := ⟨h.1, h.2.glob hs⟩
end Go.Proofs.Ax
