import Derived.Test.YtedekogkeamacaaGreatDoorAxD
import Derived.Laws.Strings
import Derived.Test.YtedekogkeamacaaGreatDoorAxInv
namespace Go.Proofs.Ax
open Go
set_option linter.unusedVariables false
section
abbrev Fr := List (Nat × AV)
abbrev XK := Exit → Fr → AH → Prop
inductive TK where
  | int (k : IntKind)
  | str
  | slice (e : TypeId)
  | struct (fs : List (Nat × TypeId))
  | array (n : Nat) (e : TypeId)
  | iface
  | bool
  | map (k e : TypeId)
  | other
structure TI where
  k : TK
  c : Nat
  agg : Bool
  z : Option AV
  ap : Option Nat
  eq : Bool
  b : Nat
def tkOf : TypeDesc → TK
  | .int k => .int k
  | .string => .str
  | .slice e => .slice e
  | .struct fs => .struct (fs.toList.map fun f => (f.offset, f.type))
  | .array n e => .array n e
  | .interface _ => .iface
  | .bool => .bool
  | .map k e => .map k e
  | _ => .other
def noBlank : TypeDesc → Bool
  | .struct fs => fs.toList.all fun f => !(f.name == "_")
  | _ => true
def tiOf (P : Program) (t : TypeId) : Option TI :=
  match P.info? t, P.underlying t with
  | some i, some d => some ⟨tkOf d, P.cellsOf t, isAggD (some d), azero P t, (match i.zero with | some z => if z.cells.size == i.size && decide (0 < i.size) then some i.bytes else none | none => none),
      noBlank d && !P.stoodInHeld t && !P.eqGuardType P.depth t, i.bytes⟩
  | _, _ => none
structure EC where
  C : Ctx
  n : Nat
  T : TypeId → Option TI
structure EC.Ok (E : EC) : Prop where
  tab : ∀ t i, E.T t = some i → tiOf E.C.P t = some i
  ent : Enters E.C.P
  mix : E.C.P.follows .mixedOrders = true
structure Br (b : Bool) (p q : Prop) : Prop where
  t : b = true → p
  f : b = false → q
inductive Need (c p : Prop) : Prop
  | mk (h : c) (k : p)
inductive IdxN (off : Nat) (i : Int) (n : Nat) (k : Nat → Prop) : Prop
  | mk (j q : Nat) (h : i = (j : Int)) (hn : j < n) (hq : off + j = q) (hk : k q)
inductive SlIdxN (rows : List (List AV)) (i : Int) (k : List AV → Prop) : Prop
  | mk (j : Nat) (row : List AV) (h : i = (j : Int)) (hr : rows[j]? = some row) (hk : k row)
inductive RowN (rs : List (List AV)) (j : Nat) (k : List AV → Prop) : Prop
  | mk (row : List AV) (h : rs[j]? = some row) (hk : k row)
inductive RowSN (rs : List (List AV)) (j : Nat) (k : List AV → (List AV → (List (List AV) → Prop) → Prop) → Prop) : Prop
  | mk (row : List AV) (f : List AV → (List (List AV) → Prop) → Prop) (h : rs[j]? = some row) (hf : ∀ x K, f x K → K (rs.set j x)) (hk : k row f)
inductive WrapN (kd : IntKind) (a : Int) (k : Int → Prop) : Prop
  | mk (b : Int) (h : kd.wrap a = b) (hk : k b)
inductive LenN (n : Nat) (k : Nat → Prop) : Prop
  | mk (m : Nat) (h : n = m) (hk : k m)
inductive StepN (E : EC) (op : Op) (ty : TypeId) (l : Fr) (H : AH) (k : AV → AH → Prop) : Prop
  | mk (y : AV) (H' : AH) (h : astep E.C.P E.C.G ⟨frm 0 l E.n, H⟩ op ty = some (y, H')) (hk : k y H')
def HasBody (P : Program) (f : FuncId) : Prop := ∃ fn c, P.funcs[f]? = some fn ∧ fn.body = some c
inductive CallN (E : EC) (f : FuncId) (args : List AV) (H : AH) (k : AV → AH → Prop) : Prop
  | mk (Q : AV → AH → Prop) (hb : HasBody E.C.P f) (h : AFnH E.C.P E.C.G f args H Q) (hk : ∀ y H', Q y H' → k y H')
inductive OpN (E : EC) (op : Op) (ty : TypeId) (l : Fr) (H : AH) (k : AV → AH → Prop) : Prop
  | mk (h : ∀ dst pos af g, AOp E.C ⟨dst, op, ty, pos, af, g⟩ (fun st => ∃ y H', st = (⟨frm 0 l E.n, H⟩ : ASt).put dst y H' ∧ k y H') ⟨frm 0 l E.n, H⟩)
inductive CodeN (E : EC) (c : Code) (l : Fr) (H : AH) (k : XK) : Prop
  | mk (h : AWp E.C c (fun e st => ∃ l' H', st = ⟨frm 0 l' E.n, H'⟩ ∧ k e l' H') ⟨frm 0 l E.n, H⟩)
inductive LoopN (E : EC) (c : Code) (l : Fr) (H : AH) (k : XK) : Prop
  | mk (h : AWp E.C (.loop c) (fun e st => ∃ l' H', st = ⟨frm 0 l' E.n, H'⟩ ∧ k e l' H') ⟨frm 0 l E.n, H⟩)
inductive DrawN (E : EC) (id : Nat) (ops : List Oper) (l : Fr) (H : AH) (k : Fr → AH → Prop) : Prop
  | mk (h : AWp E.C (.region id ops.toArray true) (fun e st => e = .normal ∧ ∃ l' H', st = ⟨frm 0 l' E.n, H'⟩ ∧ k l' H') ⟨frm 0 l E.n, H⟩)
inductive RangeN (E : EC) (f : Operand) (ps : Array Tmp) (as bd : Code) (l : Fr) (H : AH) (k : XK) : Prop
  | mk (h : AWp E.C (.rangeFunc f ps as bd) (fun e st => ∃ l' H', st = ⟨frm 0 l' E.n, H'⟩ ∧ k e l' H') ⟨frm 0 l E.n, H⟩)
inductive DoneN (Q : AV → AH → Prop) (y : AV) (H : AH) : Prop
  | mk (h : Q y H)
theorem beqN {i j : Nat} (h : i ≠ j) : Nat.beq i j = false := by
  cases hb : Nat.beq i j with
  | false => rfl
  | true => exact absurd (Nat.eq_of_beq_eq_true hb) h
def alk (i : Nat) : Fr → AV
  | [] => .any
  | (j, x) :: l => match Nat.beq i j with
    | true => x
    | false => alk i l
theorem alk_eq (i : Nat) : ∀ l : Fr, alk i l = alook i l
  | [] => rfl
  | (j, x) :: l => by
    simp only [alk, alook, alk_eq i l]; by_cases h : i = j
    · subst h; simp
    simp [beqN h, h]
theorem frm_length (l : Fr) : ∀ (n i : Nat), (frm i l n).length = n
  | 0, _ => rfl
  | n + 1, i => by simp [frm, frm_length l n (i + 1)]
theorem frm_get (l : Fr) : ∀ (n i j : Nat), (frm i l n)[j]? = if j < n then some (alk (i + j) l) else none
  | 0, i, j => by simp [frm]
  | n + 1, i, 0 => by simp [frm, alk_eq]
  | n + 1, i, j + 1 => by
    simp only [frm, List.getElem?_cons_succ, frm_get l n (i + 1) j, show i + 1 + j = i + (j + 1) by omega]; simp
def evo (E : EC) (l : Fr) : Operand → AV
  | .tmp t => match Nat.blt t E.n with
    | true => alk t l
    | false => .any
  | .const v => .sc v
  | .global g => match E.C.G g with
    | some cells => .pi cells
    | none => .sc (.pointer (some ⟨g, 0, none⟩))
  | .func f => .sc (.func (.func f) #[] #[])
theorem evo_eq (E : EC) (l : Fr) (H : AH) (x : Operand) : evo E l x = (⟨frm 0 l E.n, H⟩ : ASt).ev E.C.G x := by
  cases x
  case const => rfl
  case func => rfl
  case global g => simp only [evo, ASt.ev]; cases E.C.G g <;> rfl
  rename_i t; simp only [evo, ASt.ev]; rw [List.getD_eq_getElem?_getD, frm_get]; by_cases h : t < E.n
  · have : Nat.blt t E.n = true := by simpa [Nat.blt_eq] using h
    rw [this, if_pos h]; simp
  have : Nat.blt t E.n = false := by
    cases hb : Nat.blt t E.n with
    | false => rfl
    | true => exact absurd (by simpa [Nat.blt_eq] using hb) h
  rw [this, if_neg h]; rfl
def putF (l : Fr) (dst : Option Tmp) (y : AV) : Fr :=
  match dst with
  | some d => (d, y) :: l
  | none => l
theorem alk_ne {d i : Nat} {y : AV} {l : Fr} (h : i ≠ d) : alk i ((d, y) :: l) = alk i l := by simp only [alk, beqN h]
theorem frm_set (l : Fr) (d : Nat) (y : AV) : ∀ (n i : Nat), (i ≤ d → (frm i l n).set (d - i) y = frm i ((d, y) :: l) n) ∧ (d < i → frm i l n = frm i ((d, y) :: l) n)
  | 0, i => ⟨fun _ => rfl, fun _ => rfl⟩
  | n + 1, i => by
    have ih := frm_set l d y n (i + 1); refine ⟨fun h => ?_, fun h => ?_⟩
    · by_cases he : i = d
      · subst he; simp only [Nat.sub_self, frm, List.set_cons_zero]; rw [ih.2 (by omega)]; congr 1
        rw [← alk_eq]; simp [alk]
      have : d - i = (d - (i + 1)) + 1 := by omega
      rw [this]; simp only [frm, List.set_cons_succ]; rw [ih.1 (by omega), ← alk_eq, ← alk_eq, alk_ne he]
    simp only [frm]; rw [ih.2 (by omega), ← alk_eq, ← alk_eq, alk_ne (by omega)]
theorem putF_eq (l : Fr) (n : Nat) (H H' : AH) (dst : Option Tmp) (y : AV) : (⟨frm 0 l n, H⟩ : ASt).put dst y H' = ⟨frm 0 (putF l dst y) n, H'⟩ := by
  cases dst with
  | none => rfl
  | some d =>
    have := (frm_set l d y n 0).1 (Nat.zero_le _); simp only [ASt.put, putF]; rw [← this]; rfl
def forceL : List AV → (List AV → Prop) → Prop
  | [], k => k []
  | x :: xs, k => forceL xs fun ys => k (x :: ys)
theorem forceL_eq : ∀ (xs : List AV) (k : List AV → Prop), forceL xs k = k xs
  | [], k => rfl
  | x :: xs, k => by rw [forceL, forceL_eq xs]
def litK (n : Nat) (k : Nat → Prop) : Prop :=
  match n with
  | 0 => k 0 | 1 => k 1 | 2 => k 2 | 3 => k 3 | 4 => k 4 | 5 => k 5 | 6 => k 6 | 7 => k 7 | 8 => k 8 | 9 => k 9 | 10 => k 10 | 11 => k 11 | 12 => k 12
  | n => k n
theorem litK_eq (n : Nat) (k : Nat → Prop) : litK n k = k n := by
  unfold litK; split <;> rfl
def dropK (c : Nat) (row : List AV) (k : List AV → Prop) : Prop :=
  match c with
  | 0 => k row
  | c + 1 => k (row.drop (c + 1))
theorem dropK_eq (c : Nat) (row : List AV) (k : List AV → Prop) : dropK c row k = k (row.drop c) := by cases c <;> rfl
def snocK : AH → ABlk → Nat → (AH → Nat → Prop) → Prop
  | [], b, n, k => litK n fun n => k [b] n
  | x :: H, b, n, k => snocK H b (n + 1) fun H' m => k (x :: H') m
theorem snocK_eq : ∀ (H : AH) (b : ABlk) (n : Nat) (k : AH → Nat → Prop), snocK H b n k = k (H ++ [b]) (n + H.length)
  | [], b, n, k => by rw [snocK, litK_eq]; rfl
  | x :: H, b, n, k => by rw [snocK, snocK_eq H]; simp [Nat.add_assoc, Nat.add_comm 1]
def setK : AH → Nat → ABlk → (AH → Prop) → Prop
  | [], _, _, k => k []
  | _ :: H, 0, b, k => k (b :: H)
  | x :: H, n + 1, b, k => setK H n b fun H' => k (x :: H')
theorem setK_eq : ∀ (H : AH) (n : Nat) (b : ABlk) (k : AH → Prop), setK H n b k = k (H.set n b)
  | [], n, b, k => by simp [setK]
  | x :: H, 0, b, k => rfl
  | x :: H, n + 1, b, k => by rw [setK, setK_eq H]; rfl
def nthB : AH → Nat → Option ABlk
  | [], _ => none
  | x :: _, 0 => some x
  | _ :: H, n + 1 => nthB H n
theorem nthB_eq : ∀ (H : AH) (n : Nat), nthB H n = H[n]?
  | [], n => by simp [nthB]
  | x :: H, 0 => rfl
  | x :: H, n + 1 => by rw [nthB, nthB_eq H]; rfl
def forceV (y : AV) (k : AV → Prop) : Prop :=
  match y with
  | .any => k .any
  | .sc v => k (.sc v)
  | .sl a b c => k (.sl a b c)
  | .pi c => k (.pi c)
  | .sm a b c d => k (.sm a b c d)
  | .pm a b c => k (.pm a b c)
  | .mp a => k (.mp a)
  | .agg a => k (.agg a)
  | .tuple a => k (.tuple a)
  | .fn a b c => k (.fn a b c)
  | .iface a b => k (.iface a b)
  | .yl a => k (.yl a)
  | .it a => k (.it a)
  | .sz a => k (.sz a)
theorem forceV_eq (y : AV) (k : AV → Prop) : forceV y k = k y := by cases y <;> rfl
def putFK (l : Fr) (dst : Option Tmp) (y : AV) (k : Fr → Prop) : Prop :=
  match dst with
  | some d => forceV y fun y => k ((d, y) :: l)
  | none => k l
theorem putFK_eq (l : Fr) (dst : Option Tmp) (y : AV) (k : Fr → Prop) : putFK l dst y k = k (putF l dst y) := by
  cases dst
  rfl; simp only [putFK, forceV_eq, putF]
def forceFr : Fr → (Fr → Prop) → Prop
  | [], k => k []
  | (i, x) :: l, k => forceV x fun x => forceFr l fun l' => k ((i, x) :: l')
theorem forceFr_eq : ∀ (l : Fr) (k : Fr → Prop), forceFr l k = k l
  | [], k => rfl
  | (i, x) :: l, k => by rw [forceFr, forceV_eq, forceFr_eq l]
def mapE (E : EC) (l : Fr) : List Operand → (List AV → Prop) → Prop
  | [], k => k []
  | x :: xs, k => forceV (evo E l x) fun y => mapE E l xs fun ys => k (y :: ys)
theorem mapE_eq (E : EC) (l : Fr) : ∀ (xs : List Operand) (k : List AV → Prop), mapE E l xs k = k (xs.map (evo E l))
  | [], k => rfl
  | x :: xs, k => by rw [mapE, forceV_eq, mapE_eq E l xs]; rfl
def mapP (E : EC) (l : Fr) : List (Nat × Operand) → (List (Nat × AV) → Prop) → Prop
  | [], k => k []
  | (i, x) :: xs, k => forceV (evo E l x) fun y => mapP E l xs fun ys => k ((i, y) :: ys)
theorem mapP_eq (E : EC) (l : Fr) : ∀ (xs : List (Nat × Operand)) (k : List (Nat × AV) → Prop), mapP E l xs k = k (xs.map fun p => (p.1, evo E l p.2))
  | [], k => rfl
  | (i, x) :: xs, k => by rw [mapP, forceV_eq, mapP_eq E l xs]; rfl
section
variable (E : EC)
def partT (t : TypeId) (xs : List AV) (off : Nat) : Option AV :=
  match E.T t with
  | some i => match i.agg with
    | true => match Nat.beq off 0 && Nat.beq i.c xs.length with
      | true => some (.agg xs)
      | false => match Nat.ble (off + i.c) xs.length with
        | true => some (.agg ((xs.drop off).take i.c))
        | false => none
    | false => xs[off]?
  | none => none
def fieldOf (s : TypeId) (f : Nat) : Option (Nat × TypeId) :=
  match E.T s with
  | some i => match i.k with
    | .struct fs => fs[f]?
    | _ => none
  | none => none
def elemOf (t : TypeId) : Option TypeId :=
  match E.T t with
  | some i => match i.k with
    | .slice e => some e
    | _ => none
  | none => none
def cellsT (t : TypeId) : Option Nat :=
  match E.T t with
  | some i => some i.c
  | none => none
end
section
variable {E : EC} (ok : E.Ok)
include ok
theorem ti_some {t : TypeId} {i : TI} (h : E.T t = some i) : ∃ fi d, E.C.P.info? t = some fi ∧ E.C.P.underlying t = some d ∧ i.k = tkOf d ∧ i.c = E.C.P.cellsOf t ∧ i.agg = isAggD (some d) ∧ i.z = azero E.C.P t ∧
    i.ap = (match fi.zero with | some z => if z.cells.size == fi.size && decide (0 < fi.size) then some fi.bytes else none | none => none) ∧ i.eq = (noBlank d && !E.C.P.stoodInHeld t && !E.C.P.eqGuardType E.C.P.depth t) ∧ i.b = fi.bytes := by
  have := ok.tab t i h; unfold tiOf at this; split at this
  · rename_i fi d h1 h2
    cases this
    exact ⟨fi, d, h1, h2, rfl, rfl, rfl, rfl, rfl, rfl, rfl⟩
  cases this
theorem partT_ok {t : TypeId} {xs : List AV} {off : Nat} {y : AV} (h : partT E t xs off = some y) : apart E.C.P t xs off = some y := by
  unfold partT at h; split at h
  case h_2 => cases h
  rename_i i hi; obtain ⟨fi, d, h1, h2, h3, h4, h5, -⟩ := ti_some ok hi; unfold apart; rw [h2]; split at h
  · rename_i ha; rw [h5] at ha
    have : (if off + E.C.P.cellsOf t ≤ xs.length then some (AV.agg ((xs.drop off).take (E.C.P.cellsOf t))) else none) = some y := by
      split at h
      · rename_i hq
        cases h
        simp only [Bool.and_eq_true] at hq; have q1 : off = 0 := by simpa using hq.1
        have q2 : i.c = xs.length := by simpa using hq.2
        subst q1; rw [← h4, q2]; simp
      split at h
      · rename_i hb
        cases h
        rw [← h4, if_pos (by simpa using hb)]
      cases h
    cases d <;> simp [isAggD] at ha <;> exact this
  rename_i ha; rw [h5] at ha
  cases d <;> simp [isAggD] at ha <;> exact h
theorem fieldOf_ok {s : TypeId} {f o : Nat} {t : TypeId} (h : fieldOf E s f = some (o, t)) : ∃ fields fl, E.C.P.underlying s = some (.struct fields) ∧ fields[f]? = some fl ∧ fl.offset = o ∧ fl.type = t := by
  unfold fieldOf at h; split at h
  case h_2 => cases h
  rename_i i hi; obtain ⟨fi, d, h1, h2, h3, -⟩ := ti_some ok hi; split at h
  · rename_i fs hk; rw [h3] at hk
    cases d <;> simp [tkOf] at hk
    rename_i fields; subst hk; rw [List.getElem?_map] at h
    cases hf : fields.toList[f]? with
    | none => rw [hf] at h; cases h
    | some fl =>
      rw [hf] at h
      cases h
      exact ⟨fields, fl, h2, by rw [← Array.getElem?_toList]; exact hf, rfl, rfl⟩
  cases h
theorem elemOf_ok {t e : TypeId} (h : elemOf E t = some e) : E.C.P.underlying t = some (.slice e) := by
  unfold elemOf at h; split at h
  case h_2 => cases h
  rename_i i hi; obtain ⟨fi, d, h1, h2, h3, -⟩ := ti_some ok hi; split at h
  · rename_i fs hk
    cases h
    rw [h3] at hk
    cases d <;> simp [tkOf] at hk
    subst hk; exact h2
  cases h
theorem cellsT_ok {t : TypeId} {n : Nat} (h : cellsT E t = some n) : (E.C.P.info? t).isNone = false ∧ E.C.P.cellsOf t = n ∧ E.C.P.underlying t ≠ none := by
  unfold cellsT at h; split at h
  case h_2 => cases h
  rename_i i hi
  cases h
  obtain ⟨fi, d, h1, h2, h3, h4, -⟩ := ti_some ok hi; exact ⟨by rw [h1]; rfl, h4.symm, by rw [h2]; simp⟩
end
end
section
inductive Weaker : AV → AV → Prop
  | refl {x} : Weaker x x
  | sz {k k'} : Weaker (.sz k) (.sl k' false [])
  | sl {k t rows} : Weaker (.sl k t rows) (.sl k false rows)
  | sm {id k off k'} : Weaker (.sm id k off 0) (.sl k' false [])
theorem VRel.weaker {I : Nat → Prop} {w : World} {ρ : Places} {v : Value} {x y : AV} (h : VRel I w ρ v x) (hw : Weaker x y) : VRel I w ρ v y := by
  cases hw with
  | refl => exact h
  | sz => cases h; exact .slMt (fun h => by cases h)
  | sl =>
    cases h with
    | sl f hl hcap ht hk hI hc h1 hv => exact .sl f hl hcap (fun h => by cases h) hk hI hc h1 hv
    | slNil => exact .slNil
    | slMt ht => exact .slMt (fun h => by cases h)
  | sm =>
    cases h with
    | smNil =>
      rename_i a
      cases a with
      | none => exact .slNil
      | some a => exact .slMt (fun h => by cases h)
    | sm hp hcap hn => exact .slMt (fun h => by cases h)
theorem AOp_stepW {C : Ctx} {st : ASt} {o : Oper} {N : ASt → Prop} {y y' : AV} {H' : AH} (hy : astep C.P C.G st o.op o.type = some (y, H')) (hw' : Weaker y y') (h : N (st.put o.dst y' H')) : AOp C o N st := fun B I w ρ a rr hr hs next Q hn => by
  have hnd : ∀ c, o.op ≠ .defer c := by
    intro c hc; rw [hc] at hy; simp [astep] at hy
  refine ⟨fun _ _ => trivial, ?_⟩; rw [Oper.semAt_eq _ _ _ hnd]; obtain ⟨v, w', ρ', I', hrn, hh, hw, hv⟩ := astep_sound hs hy
  have hnx := hn I' ρ' _ (a.put o.dst v) w' h (hs.put hw hh (hv.weaker hw') o.dst) (by
    have : (st.put o.dst y' H').H = H' := by unfold ASt.put; split <;> rfl
    rw [this]; exact hw.gone)
  rcases hrn with hrn | ⟨hrn, rfl⟩
  rw [hrn]; exact hnx; rw [hrn]; exact hnx
def Stp (E : EC) (l : Fr) (H : AH) (op : Op) (ty : TypeId) (k : AV → AH → Prop) : Prop :=
  ∃ y y' H', astep E.C.P E.C.G ⟨frm 0 l E.n, H⟩ op ty = some (y, H') ∧ Weaker y y' ∧ k y' H'
theorem StepN.stp {E : EC} {l : Fr} {H : AH} {op : Op} {ty : TypeId} {k : AV → AH → Prop} (h : StepN E op ty l H k) : Stp E l H op ty k := by
  obtain ⟨y, H', h1, h2⟩ := h; exact ⟨y, y, H', h1, .refl, h2⟩
def intK (op : BinOp) (kd : IntKind) (a b : Int) (k : AV → Prop) (alt : Prop) : Prop :=
  match op with
  | .add => WrapN kd (a + b) fun n => k (.sc (.int kd n))
  | .sub => WrapN kd (a - b) fun n => k (.sc (.int kd n))
  | .mul => WrapN kd (a * b) fun n => k (.sc (.int kd n))
  | .quo => Need (b ≠ 0) (WrapN kd (a.tdiv b) fun n => k (.sc (.int kd n)))
  | .rem => Need (b ≠ 0) (k (.sc (.int kd (a.tmod b))))
  | .lss => k (.sc (.bool (decide (a < b))))
  | .leq => k (.sc (.bool (decide (a ≤ b))))
  | .gtr => k (.sc (.bool (decide (b < a))))
  | .geq => k (.sc (.bool (decide (b ≤ a))))
  | .eql => k (.sc (.bool (decide (a = b))))
  | .neq => k (.sc (.bool (!decide (a = b))))
  | _ => alt
theorem intK_ok {t : TypeId} {op : BinOp} {kd : IntKind} {a b : Int} {k : AV → Prop} {alt : Prop} (h : intK op kd a b k alt) : (∃ v, val? (binOp op t (.int kd a) (.int kd b)) = some v ∧ k (.sc v)) ∨ alt := by
  cases op <;> simp only [intK] at h
  case add => obtain ⟨n, h1, h2⟩ := h; subst h1; exact .inl ⟨_, eval_add .., h2⟩
  case sub => obtain ⟨n, h1, h2⟩ := h; subst h1; exact .inl ⟨_, eval_sub .., h2⟩
  case mul => obtain ⟨n, h1, h2⟩ := h; subst h1; exact .inl ⟨_, eval_mul .., h2⟩
  case quo => obtain ⟨h0, n, h1, h2⟩ := h; subst h1; exact .inl ⟨_, eval_quo _ _ _ _ h0, h2⟩
  case rem => obtain ⟨h0, h2⟩ := h; exact .inl ⟨_, eval_rem _ _ _ _ h0, h2⟩
  case lss => exact .inl ⟨_, eval_lss .., h⟩
  case leq => exact .inl ⟨_, eval_leq .., h⟩
  case gtr => exact .inl ⟨_, eval_gtr .., h⟩
  case geq => exact .inl ⟨_, eval_geq .., h⟩
  case eql => exact .inl ⟨_, eval_eql .., h⟩
  case neq => exact .inl ⟨_, eval_neq .., h⟩
  all_goals exact .inr h
def strK (op : BinOp) (a b : ByteArray) (k : AV → Prop) (alt : Prop) : Prop :=
  match op with
  | .add => Need (a.size + b.size ≤ 2 ^ 62) (k (.sc (.string (a ++ b))))
  | .eql => Need (a.size + b.size ≤ 2 ^ 62) (k (.sc (.bool (decide (a = b)))))
  | .neq => Need (a.size + b.size ≤ 2 ^ 62) (k (.sc (.bool (!decide (a = b)))))
  | _ => alt
theorem toList_beq (a b : ByteArray) : (a.toList == b.toList) = decide (a = b) := by
  by_cases h : a = b
  subst h; simp
  have : a.toList ≠ b.toList := fun he => h (by
    have h1 : ∀ x : ByteArray, x.toList = x.data.toList := fun x => ByteArray.toList_eq x
    rw [h1, h1] at he
    cases a; cases b
    simp only [ByteArray.mk.injEq]
    exact Array.toList_inj.1 he)
  simp [h, this]
theorem strK_ok {t : TypeId} {op : BinOp} {a b : ByteArray} {k : AV → Prop} {alt : Prop} (h : strK op a b k alt) : (a.size + b.size ≤ 2 ^ 62 ∧ ∃ v, val? (binOp op t (.string a) (.string b)) = some v ∧ k (.sc v)) ∨ alt := by
  cases op <;> simp only [strK] at h
  all_goals first
    | exact .inr h
    | skip
  · obtain ⟨h0, h2⟩ := h; refine .inl ⟨h0, _, ?_, h2⟩; show val? (Op.stringOp .add a b) = _
    have : ¬ ((a.size + b.size : Nat) : Int) > IntKind.i64.max := by
      have e : IntKind.i64.max = 9223372036854775807 := rfl; rw [e]; omega
    simp only [Op.stringOp]; rw [if_neg this]; rfl
  · obtain ⟨h0, h2⟩ := h; refine .inl ⟨h0, _, ?_, h2⟩; show val? (Op.stringOp .eql a b) = _; simp only [Op.stringOp, toList_beq]; rfl
  obtain ⟨h0, h2⟩ := h; refine .inl ⟨h0, _, ?_, h2⟩; show val? (Op.stringOp .neq a b) = _; simp only [Op.stringOp, toList_beq]; rfl
end
section
section
variable (E : EC)
def aeqFsT (eq : TypeId → AV → AV → Option Bool) (xs ys : List AV) : List (Nat × TypeId) → Option Bool
  | [] => some true
  | (o, t) :: fs => match partT E t xs o, partT E t ys o with
    | some a, some b => match eq t a b with
      | some r => match fs with
        | [] => some r
        | f :: fs => match aeqFsT eq xs ys (f :: fs) with
          | some r' => some (r && r')
          | none => none
      | none => none
    | _, _ => none
def aeqEsT (e : TypeId) (c : Nat) (eq : TypeId → AV → AV → Option Bool) (xs ys : List AV) : Nat → Nat → Option Bool
  | _, 0 => some true
  | i, m + 1 => match partT E e xs (i * c), partT E e ys (i * c) with
    | some a, some b => match eq e a b with
      | some r => match aeqEsT e c eq xs ys (i + 1) m with
        | some r' => some (r && r')
        | none => none
      | none => none
    | _, _ => none
def aeqT : Nat → TypeId → AV → AV → Option Bool
  | 0, _, _, _ => none
  | d + 1, t, x, y =>
    match E.T t with
    | some i => match i.k, x, y with
      | .int _, .sc (.int k a), .sc (.int k' b) => if k = k' then some (decide (a = b)) else none
      | .str, .sc (.string a), .sc (.string b) => some (a == b)
      | .bool, .sc (.bool a), .sc (.bool b) => some (a == b)
      | .struct fs, .agg xs, .agg ys => match i.eq with
        | true => aeqFsT E (aeqT d) xs ys fs
        | false => none
      | .array n e, .agg xs, .agg ys => match i.eq with
        | true => match cellsT E e with
          | some c => aeqEsT E e c (aeqT d) xs ys 0 n
          | none => none
        | false => none
      | _, _, _ => none
    | none => none
end
section
variable {E : EC} (ok : E.Ok)
include ok
theorem aeqFsT_ok {eq eq' : TypeId → AV → AV → Option Bool} (he : ∀ t x y r, eq t x y = some r → eq' t x y = some r) {xs ys : List AV} : ∀ (fs : List Field) (r : Bool), (fs.all fun f => !(f.name == "_")) = true →
    aeqFsT E eq xs ys (fs.map fun f => (f.offset, f.type)) = some r → aeqFields E.C.P eq' xs ys fs = some r
  | [], r, _, h => by simp [aeqFsT] at h; subst h; rfl
  | f :: fs, r, hn, h => by
    simp only [List.all_cons, Bool.and_eq_true] at hn; have hne : f.name ≠ "_" := by simpa using hn.1
    simp only [List.map_cons, aeqFsT] at h; simp only [aeqFields, if_neg hne]; split at h
    case h_2 => cases h
    rename_i a b ha hb; rw [partT_ok ok ha, partT_ok ok hb]; simp only; split at h
    case h_2 => cases h
    rename_i r1 hr; rw [he _ _ _ _ hr]
    cases fs with
    | nil =>
      simp only [List.map_nil] at h
      cases h
      cases r <;> rfl
    | cons g gs =>
      simp only [List.map_cons] at h; split at h
      case h_2 => cases h
      rename_i r2 hr2
      cases h
      have := aeqFsT_ok he (g :: gs) r2 hn.2 (by simpa using hr2)
      cases r1
      rfl; simp only [Bool.true_and]; exact this
theorem aeqEsT_ok {eq eq' : TypeId → AV → AV → Option Bool} (he : ∀ t x y r, eq t x y = some r → eq' t x y = some r) {xs ys : List AV} {e : TypeId} {c : Nat} (hc : E.C.P.cellsOf e = c) : ∀ (m i : Nat) (r : Bool),
    aeqEsT E e c eq xs ys i m = some r → aeqElems E.C.P e eq' xs ys i m = some r
  | 0, i, r, h => by simp [aeqEsT] at h; subst h; rfl
  | m + 1, i, r, h => by
    simp only [aeqEsT] at h; simp only [aeqElems, hc]; split at h
    case h_2 => cases h
    rename_i a b ha hb; rw [partT_ok ok ha, partT_ok ok hb]; simp only; split at h
    case h_2 => cases h
    rename_i r1 hr; rw [he _ _ _ _ hr]; split at h
    case h_2 => cases h
    rename_i r2 hr2
    cases h
    have := aeqEsT_ok he hc m (i + 1) r2 hr2
    cases r1
    rfl; simp only [Bool.true_and]; exact this
theorem aeqT_ok : ∀ (d : Nat) (t : TypeId) (x y : AV) (r : Bool), aeqT E d t x y = some r → aeq E.C.P d t x y = some r
  | 0, t, x, y, r, h => by simp [aeqT] at h
  | d + 1, t, x, y, r, h => by
    have ih := aeqT_ok d; unfold aeqT at h; split at h
    case h_2 => cases h
    rename_i i hi; obtain ⟨fi, ds, h1, h2, h3, h4, h5, h6, h7, h8, h9⟩ := ti_some ok hi; unfold aeq; rw [h2]; split at h
    · rename_i q k a k' b hk; rw [h3] at hk
      cases ds <;> simp [tkOf] at hk
      split at h
      · rename_i e; subst e
        cases h
        simp only [if_true, Option.some.injEq]; by_cases hab : a = b <;> simp [hab]
      cases h
    · rename_i a b hk; rw [h3] at hk
      cases ds <;> simp [tkOf] at hk
      cases h
      rfl
    · rename_i a b hk; rw [h3] at hk
      cases ds <;> simp [tkOf] at hk
      cases h
      rfl
    · rename_i fs xs ys hk; rw [h3] at hk
      cases ds <;> simp [tkOf] at hk
      rename_i fields; subst hk; split at h
      case h_2 => cases h
      rename_i he; rw [h8] at he; simp only [Bool.and_eq_true, Bool.not_eq_true'] at he; obtain ⟨⟨e1, e2⟩, e3⟩ := he; simp only [e2]; exact aeqFsT_ok ok ih fields.toList r e1 h
    · rename_i n e xs ys hk; rw [h3] at hk
      cases ds <;> simp [tkOf] at hk
      obtain ⟨rfl, rfl⟩ := hk; split at h
      case h_2 => cases h
      split at h
      case h_2 => cases h
      rename_i c hc; obtain ⟨c1, c2, -⟩ := cellsT_ok ok hc; simp only [c1]; exact aeqEsT_ok ok ih c2 _ _ _ h
    cases h
end
def eqK (op : BinOp) (r : Bool) (k : AV → Prop) (alt : Prop) : Prop :=
  match op with
  | .eql => k (.sc (.bool r))
  | .neq => k (.sc (.bool !r))
  | _ => alt
def evBin (E : EC) (op : BinOp) (t : TypeId) (x y : AV) (k : AV → Prop) (alt : Prop) : Prop :=
  match x with
  | .sc (.int kd a) => match y with
    | .sc (.int kd' b) => match decEq kd kd' with
      | isTrue _ => intK op kd a b k alt
      | isFalse _ => alt
    | _ => alt
  | .sc (.string a) => match y with
    | .sc (.string b) => strK op a b k alt
    | _ => alt
  | .sc (.bool a) => match y with
    | .sc (.bool b) => match aeqT E 12 t (.sc (.bool a)) (.sc (.bool b)) with
      | some r => eqK op r k alt
      | none => alt
    | _ => alt
  | .agg xs => match y with
    | .agg ys => match E.T t with
      | some i => match i.eq with
        | true => match aeqT E 12 t (.agg xs) (.agg ys) with
          | some r => eqK op r k alt
          | none => alt
        | false => alt
      | none => alt
    | _ => alt
  | _ => alt
theorem eqK_ok {op : BinOp} {r : Bool} {k : AV → Prop} {alt : Prop} (h : eqK op r k alt) : (op = .eql ∧ k (.sc (.bool r))) ∨ (op = .neq ∧ k (.sc (.bool !r))) ∨ alt := by cases op <;> simp only [eqK] at h <;> first | exact .inl ⟨rfl, h⟩ | exact .inr (.inl ⟨rfl, h⟩) | exact .inr (.inr h)
theorem evBin_ok {E : EC} (ok : E.Ok) {op : BinOp} {t : TypeId} {x y : AV} {k : AV → Prop} {alt : Prop} (h : evBin E op t x y k alt) (xo yo : Operand) : (∃ z, abin E.C.P op t xo yo x y = some z ∧ k z) ∨ alt := by
  unfold evBin at h; split at h
  · rename_i kd a; split at h
    case h_2 => exact .inr h
    rename_i kd' b; split at h
    case h_2 => exact .inr h
    rename_i e _; subst e
    rcases intK_ok (t := t) h with ⟨v, h1, h2⟩ | h
    exact .inl ⟨_, by simp only [abin, h1, Option.map_some], h2⟩; exact .inr h
  · rename_i a; split at h
    case h_2 => exact .inr h
    rcases strK_ok (t := t) h with ⟨h0, v, h1, h2⟩ | h
    · refine .inl ⟨_, ?_, h2⟩; simp only [abin]; rw [if_pos h0, h1]; rfl
    exact .inr h
  · rename_i a; split at h
    case h_2 => exact .inr h
    rename_i b; split at h
    case h_2 => exact .inr h
    rename_i r hr; have := aeqT_ok ok _ _ _ _ _ hr
    rcases eqK_ok h with ⟨rfl, h⟩ | ⟨rfl, h⟩ | h
    exact .inl ⟨_, by simp [abin, AV.plainEq, Value.plainEq, eqOk, this], h⟩; exact .inl ⟨_, by simp [abin, AV.plainEq, Value.plainEq, eqOk, this], h⟩; exact .inr h
  · rename_i xs; split at h
    case h_2 => exact .inr h
    rename_i ys; split at h
    case h_2 => exact .inr h
    rename_i i hi; split at h
    case h_2 => exact .inr h
    rename_i he; split at h
    case h_2 => exact .inr h
    rename_i r hr; have := aeqT_ok ok _ _ _ _ _ hr; obtain ⟨fi, ds, h1, h2, h3, h4, h5, h6, h7, h8, h9⟩ := ti_some ok hi; rw [h8] at he; simp only [Bool.and_eq_true, Bool.not_eq_true'] at he; have hg : eqOk E.C.P t xo yo (.agg xs) (.agg ys) = true := by simp [eqOk, he.2]
    rcases eqK_ok h with ⟨rfl, h⟩ | ⟨rfl, h⟩ | h
    exact .inl ⟨_, by simp [abin, AV.plainEq, hg, this], h⟩; exact .inl ⟨_, by simp [abin, AV.plainEq, hg, this], h⟩; exact .inr h
  exact .inr h
end
section
inductive SubN (rs : List (List AV)) (off len : Nat) (k : List (List AV) → Prop) : Prop
  | mk (rows : List (List AV)) (h : off + len ≤ rs.length) (he : (rs.drop off).take len = rows) (hk : k rows)
inductive AppN (olds xs : List (List AV)) (b : Nat) (k : List (List AV) → Nat → Prop) : Prop
  | mk (rows : List (List AV)) (n : Nat) (he : olds ++ xs = rows) (hn : rows.length = n) (h1 : n * b ≤ 140737488355328) (h2 : n ≤ 9223372036854775807) (hk : k rows n)
inductive MkN (ln cp : Int) (b : Nat) (k : Nat → Nat → Prop) : Prop
  | mk (n m : Nat) (h : ln = (n : Int)) (h' : cp = (m : Int)) (hn : n ≤ m) (h1 : b * m ≤ 281474976710656) (h2 : m ≤ 9223372036854775807) (hk : k n m)
def cellsK (x : AV) (k : List AV → Prop) : Prop :=
  match x with
  | .agg cs => k cs
  | x => k [x]
theorem cellsK_eq (x : AV) (k : List AV → Prop) : cellsK x k = k x.cells := by cases x <;> rfl
section
variable (E : EC)
def evLen (H : AH) (t : TypeId) (x : AV) (k : AV → Prop) (alt : Prop) : Prop :=
  match E.T t with
  | some i => match i.k with
    | .str => match x with
      | .sc (.string s) => LenN s.size fun m => k (.sc (.int .i64 (m : Int)))
      | _ => alt
    | .slice _ => match x with
      | .sl _ _ rows => LenN rows.length fun m => k (.sc (.int .i64 (m : Int)))
      | .sm _ _ _ len => k (.sc (.int .i64 (len : Int)))
      | .sc (.slice _ n _) => k (.sc (.int .i64 (n : Int)))
      | .sz _ => k (.sc (.int .i64 ((0 : Nat) : Int)))
      | _ => alt
    | .map _ _ => match x with
      | .mp id => match nthB H id with
        | some (.amap es _) => LenN es.length fun m => k (.sc (.int .i64 (m : Int)))
        | _ => alt
      | _ => alt
    | .array n _ => k (.sc (.int .i64 (n : Int)))
    | _ => alt
  | none => alt
def evLoad (H : AH) (t : TypeId) (a : AV) (k : AV → Prop) (alt : Prop) : Prop :=
  match a with
  | .pi cells => match partT E t cells 0 with
    | some y => k y
    | none => alt
  | .pm id r c => match nthB H id with
    | some (.rows rs _) => RowN rs r fun row => dropK c row fun row => match partT E t row 0 with
      | some y => k y
      | none => False
    | _ => alt
  | _ => alt
def evStore (H : AH) (t : TypeId) (a x : AV) (k : AH → Prop) (alt : Prop) : Prop :=
  match a with
  | .pm id r c => match nthB H id with
    | some (.rows rs te) => match cellsT E t with
      | some n => match x.cellsOk && Nat.beq x.cells.length n with
        | true => RowSN rs r fun row f => match Nat.beq c 0 && Nat.beq n row.length with
          | true => cellsK x fun cs => f cs fun rs' => setK H id (.rows rs' te) k
          | false => match Nat.ble (c + n) row.length with
            | true => forceL (asplice row c x.cells) fun row' => f row' fun rs' => setK H id (.rows rs' te) k
            | false => False
        | false => alt
      | none => alt
    | _ => alt
  | _ => alt
def evBox (H : AH) (e : TypeId) (x : AV) (k : AV → AH → Prop) (alt : Prop) : Prop :=
  match x.cellsOk with
  | true => cellsK x fun cs => snocK H (.rows [cs] e) 0 fun H' n => k (.pm n 0 0) H'
  | false => alt
def fillK (place : Nat → Option (Nat × Nat)) : List AV → List (Nat × AV) → (List AV → Prop) → Prop
  | cells, [], k => k cells
  | cells, (i, x) :: rest, k => match place i with
    | some (off, size) => match x.cellsOk && Nat.beq x.cells.length size && Nat.ble (off + size) cells.length with
      | true => forceL (asplice cells off x.cells) fun cs => fillK place cs rest k
      | false => False
    | none => False
def evBuild (t : TypeId) (parts : List (Nat × AV)) (k : AV → Prop) (alt : Prop) : Prop :=
  match E.T t with
  | some i => match i.z with
    | some (.agg zs) => match i.k with
      | .struct fs => match fs.all fun p => (cellsT E p.2).isSome with
        | true => fillK (fun j => match fs[j]? with | some (off, t) => (match cellsT E t with | some c => some (off, c) | none => none) | none => none) zs parts fun cs => k (.agg cs)
        | false => alt
      | .array _ e => match cellsT E e with
        | some c => fillK (fun j => some (j * c, c)) zs parts fun cs => k (.agg cs)
        | none => alt
      | _ => alt
    | _ => alt
  | none => alt
def bsOk (c : Nat) : Nat → Nat → List (Nat × AV) → Bool
  | i, n, [] => Nat.beq i n
  | i, n, (j, x) :: ps => Nat.beq i j && x.cellsOk && Nat.beq x.cells.length c && x.cells.all AV.deep && bsOk c (i + 1) n ps
def rowsK : List (Nat × AV) → (List (List AV) → Prop) → Prop
  | [], k => k []
  | (_, x) :: ps, k => cellsK x fun cs => rowsK ps fun rows => k (cs :: rows)
def evBuildSlice (t : TypeId) (n : Nat) (parts : List (Nat × AV)) (k : AV → Prop) (alt : Prop) : Prop :=
  match elemOf E t with
  | some e => match E.T e with
    | some i => match i.z with
      | some z => match !Nat.beq i.c 0 && Nat.ble (n * i.c) 16777216 && z.cellsOk && Nat.beq z.cells.length i.c && bsOk i.c 0 n parts with
        | true => rowsK parts fun rows => litK i.c fun ic => k (.sl ic true rows)
        | false => alt
      | none => alt
    | none => alt
  | none => alt
def evSrc (H : AH) (x : AV) (k : List (List AV) → Prop) (alt : Prop) : Prop :=
  match x with
  | .sl _ _ rows => k rows
  | .sm id _ off len => match nthB H id with
    | some (.rows rs _) => SubN rs off len k
    | _ => alt
  | .sz _ => k []
  | .sc (.slice none 0 0) => k []
  | _ => alt
def evBase (te : TypeId) (H : AH) (xs : List (List AV)) (s : AV) (k : List (List AV) → AH → Prop) (alt : Prop) : Prop :=
  match s with
  | .sc (.slice none 0 0) => k [] H
  | .sl _ true rows => Need (rows = [] ∨ xs ≠ []) (k rows H)
  | .sm id _ 0 len => match nthB H id with
    | some (.rows rs te') => match Nat.beq te' te with
      | true => SubN rs 0 len fun olds => setK H id .dead fun H1 => k olds H1
      | false => alt
    | _ => alt
  | _ => alt
def strideOk (x : AV) (c : Nat) : Bool :=
  match x with
  | .sl k _ _ => Nat.beq k c
  | .sm _ k _ _ => Nat.beq k c
  | _ => true
def evApp (H : AH) (t xt : TypeId) (s x : AV) (k : AV → AH → Prop) (alt : Prop) : Prop :=
  match elemOf E t with
  | some e => match elemOf E xt with
    | some _ => match E.T e with
      | some i => match i.ap with
        | some b => match strideOk s i.c && strideOk x i.c with
          | true => evSrc H x (fun xs => evBase e H xs s (fun olds H1 => AppN olds xs b fun rows n => snocK H1 (.rows rows e) 0 fun H2 id => litK i.c fun ic => k (.sm id ic 0 n) H2) alt) alt
          | false => alt
        | none => alt
      | none => alt
    | none => alt
  | none => alt
def evMk (H : AH) (t : TypeId) (l c : AV) (k : AV → AH → Prop) (alt : Prop) : Prop :=
  match elemOf E t with
  | some e => match E.T e with
    | some i => match i.z with
      | some z => match Nat.ble 1 i.c && z.cellsOk && Nat.beq z.cells.length i.c with
        | true => match i.ap with
          | some b => match l, c with
            | .sc (.int .i64 ln), .sc (.int .i64 cp) => MkN ln cp b fun n m => cellsK z fun cs => snocK H (.rows (List.replicate m cs) e) 0 fun H' id => litK i.c fun ic => k (.sm id ic 0 n) H'
            | _, _ => alt
          | none => alt
        | false => alt
      | none => alt
    | none => alt
  | none => alt
def evConv (s d : TypeId) (x : AV) (k : AV → Prop) (alt : Prop) : Prop :=
  match E.T s with
  | some _ => match E.T d with
    | some i => match i.k with
      | .int kd => match x with
        | .sc (.int _ n) => WrapN kd n fun m => k (.sc (.int kd m))
        | _ => alt
      | .str => match x with
        | .sc (.string b) => k (.sc (.string b))
        | _ => alt
      | _ => alt
    | none => alt
  | none => alt
def foldI (g : Int → Int → Int) : List AV → Int → Option Int
  | [], a => some a
  | .sc (.int _ b) :: l, a => foldI g l (g a b)
  | _ :: _, _ => none
def evFold (g : Int → Int → Int) (args : List AV) (k : AV → Prop) (alt : Prop) : Prop :=
  match args with
  | .sc (.int kd a) :: rest => match foldI g rest a with
    | some n => k (.sc (.int kd n))
    | none => alt
  | _ => alt
def bndK (d len : Nat) (o : Option AV) (k : Nat → Prop) (alt : Prop) : Prop :=
  match o with
  | none => k d
  | some (.sc (.int _ i)) => IdxN 0 i (len + 1) k
  | _ => alt
def evSlice (t : TypeId) (x : AV) (lo hi mx : Option AV) (k : AV → Prop) (alt : Prop) : Prop :=
  match mx with
  | some _ => alt
  | none => match E.T t with
    | some ti => match ti.k with
      | .str => match x with
        | .sc (.string s) => bndK 0 s.size lo (fun l => bndK s.size s.size hi (fun h => Need (l ≤ h) (k (.sc (.string (s.extract l h))))) alt) alt
        | _ => alt
      | .slice e => match cellsT E e with
        | some c => match x with
          | .sl kk tight rows => match Nat.beq c kk with
            | true => match hi with
              | none => match lo with
                | none => k (.sl kk tight rows)
                | some o => bndK 0 rows.length (some o) (fun l => k (.sl kk tight (rows.drop l))) alt
              | some ho => bndK 0 rows.length (some ho) (fun h => match lo with
                | none => k (.sl kk false (rows.take h))
                | some o => bndK 0 rows.length (some o) (fun l => Need (l ≤ h) (k (.sl kk false ((rows.take h).drop l)))) alt) alt
            | false => alt
          | .sm id kk off len => match Nat.beq c kk with
            | true => bndK len len hi (fun h => match lo with
              | none => k (.sm id kk off h)
              | some o => bndK 0 len (some o) (fun l => Need (l ≤ h) (Br (decide (l < len)) (k (.sm id kk (off + l) (h - l))) (k (.sl kk false [])))) alt) alt
            | false => alt
          | _ => alt
        | none => alt
      | _ => alt
    | none => alt
end
end
section
section
variable {E : EC} (ok : E.Ok)
include ok
theorem evLen_ok {H : AH} {t : TypeId} {x : AV} {k : AV → Prop} {alt : Prop} (h : evLen E H t x k alt) : (∃ n : Nat, alen E.C.P H t x = some n ∧ k (.sc (.int .i64 (n : Int)))) ∨ alt := by
  unfold evLen at h; split at h
  case h_2 => exact .inr h
  rename_i i hi; obtain ⟨fi, d, h1, h2, h3, -⟩ := ti_some ok hi; split at h
  · rename_i hk; rw [h3] at hk
    cases d <;> simp [tkOf] at hk
    split at h
    · obtain ⟨m, rfl, hm⟩ := h; exact .inl ⟨_, by simp only [alen, h2], hm⟩
    exact .inr h
  · rename_i e hk; rw [h3] at hk
    cases d <;> simp [tkOf] at hk
    split at h
    · obtain ⟨m, rfl, hm⟩ := h; exact .inl ⟨_, by simp only [alen, h2], hm⟩
    exact .inl ⟨_, by simp only [alen, h2], h⟩; exact .inl ⟨_, by simp only [alen, h2], h⟩; exact .inl ⟨_, by simp only [alen, h2], h⟩; exact .inr h
  · rename_i a b hk; rw [h3] at hk
    cases d <;> simp [tkOf] at hk
    split at h
    · split at h
      · rename_i es c hb; rw [nthB_eq] at hb; obtain ⟨m, rfl, hm⟩ := h; exact .inl ⟨_, by simp only [alen, h2, hb], hm⟩
      exact .inr h
    exact .inr h
  · rename_i n e hk; rw [h3] at hk
    cases d <;> simp [tkOf] at hk
    obtain ⟨rfl, rfl⟩ := hk; exact .inl ⟨_, by simp only [alen, h2], h⟩
  exact .inr h
theorem evLoad_ok {H : AH} {t : TypeId} {a : AV} {k : AV → Prop} {alt : Prop} (h : evLoad E H t a k alt) : (∃ y, aload E.C.P H t a = some y ∧ k y) ∨ alt := by
  unfold evLoad at h; split at h
  · split at h
    · rename_i y hy; exact .inl ⟨y, partT_ok ok hy, h⟩
    exact .inr h
  · split at h
    · rename_i rs te hb; rw [nthB_eq] at hb; obtain ⟨row, h1, h2⟩ := h; rw [dropK_eq] at h2; split at h2
      · rename_i y hy; exact .inl ⟨y, by simp only [aload, hb, h1]; exact partT_ok ok hy, h2⟩
      exact h2.elim
    exact .inr h
  exact .inr h
theorem evStore_ok {H : AH} {t : TypeId} {a x : AV} {k : AH → Prop} {alt : Prop} (h : evStore E H t a x k alt) : (∃ H', astore E.C.P H t a x = some H' ∧ k H') ∨ alt := by
  unfold evStore at h; split at h
  case h_2 => exact .inr h
  rename_i id r c; split at h
  case h_2 => exact .inr h
  rename_i rs te hb; rw [nthB_eq] at hb; split at h
  case h_2 => exact .inr h
  rename_i n hn; obtain ⟨c1, c2, -⟩ := cellsT_ok ok hn; split at h
  case h_2 => exact .inr h
  rename_i hx; simp only [Bool.and_eq_true] at hx; have hxl : x.cells.length = n := by simpa using hx.2
  obtain ⟨row, f, g1, g2, g3⟩ := h
  have key : ∀ row', row' = asplice row c x.cells → c + n ≤ row.length → (f row' fun rs' => k (H.set id (.rows rs' te))) → ∃ H', astore E.C.P H t (.pm id r c) x = some H' ∧ k H' := by
    rintro row' rfl hle hk; refine ⟨_, ?_, g2 _ _ hk⟩; simp only [astore, hb, g1, hx.1, c1, c2, hxl]; rw [if_pos (by simpa using hle)]
  split at g3
  · rename_i hq; simp only [Bool.and_eq_true] at hq; have q1 : c = 0 := by simpa using hq.1
    have q2 : n = row.length := by simpa using hq.2
    rw [cellsK_eq] at g3; simp only [setK_eq] at g3; refine .inl (key _ ?_ (by omega) g3); subst q1; simp [asplice, hxl, q2]
  split at g3
  · rename_i hle; rw [forceL_eq] at g3; simp only [setK_eq] at g3; exact .inl (key _ rfl (by simpa using hle) g3)
  exact g3.elim
omit ok in
theorem evBox_ok {H : AH} {e : TypeId} {x : AV} {k : AV → AH → Prop} {alt : Prop} (h : evBox H e x k alt) : (x.cellsOk = true ∧ k (.pm H.length 0 0) (H ++ [.rows [x.cells] e])) ∨ alt := by
  unfold evBox at h; split at h
  · rename_i hx; rw [cellsK_eq, snocK_eq, Nat.zero_add] at h; exact .inl ⟨hx, h⟩
  exact .inr h
omit ok in
theorem fillK_ok {place place' : Nat → Option (Nat × Nat)} (hp : ∀ i p, place i = some p → place' i = some p) {k : List AV → Prop} : ∀ (parts : List (Nat × AV)) (cells : List AV), fillK place cells parts k → ∃ ys, afill place' cells parts = some ys ∧ k ys
  | [], cells, h => ⟨cells, rfl, h⟩
  | (i, x) :: rest, cells, h => by
    simp only [fillK] at h; split at h
    case h_2 => exact h.elim
    rename_i off size hi; split at h
    case h_2 => exact h.elim
    rename_i hc; rw [forceL_eq] at h; obtain ⟨ys, h1, h2⟩ := fillK_ok hp rest _ h; refine ⟨ys, ?_, h2⟩; simp only [afill, hp _ _ hi]; simp only [Bool.and_eq_true] at hc; have q1 : x.cells.length = size := by simpa using hc.1.2
    rw [if_pos (by
      simp only [hc.1.1, q1, Bool.true_and, Bool.and_eq_true, decide_eq_true_eq]; refine ⟨by simp, ?_⟩
      simpa using hc.2)]
    exact h1
theorem evBuild_ok {t : TypeId} {parts : List (Nat × AV)} {k : AV → Prop} {alt : Prop} (h : evBuild E t parts k alt) : (∃ y, abuild E.C.P t parts = some y ∧ k y) ∨ alt := by
  unfold evBuild at h; split at h
  case h_2 => exact .inr h
  rename_i i hi; obtain ⟨fi, d, h1, h2, h3, h4, h5, h6, -⟩ := ti_some ok hi; split at h
  case h_2 => exact .inr h
  rename_i zs hz; rw [h6] at hz; split at h
  · rename_i fs hk; rw [h3] at hk
    cases d <;> simp [tkOf] at hk
    rename_i fields; subst hk; split at h
    case h_2 => exact .inr h
    rename_i hall
    obtain ⟨ys, g1, g2⟩ := fillK_ok (place' := fun i => (fields[i]?).map fun f => (f.offset, E.C.P.cellsOf f.type)) (fun j p hp => by
      rw [List.getElem?_map, Array.getElem?_toList] at hp
      cases hf : fields[j]? with
      | none => rw [hf] at hp; cases hp
      | some fl =>
        rw [hf] at hp; simp only [Option.map_some] at hp ⊢; split at hp
        · rename_i c hc; obtain ⟨c1, c2, -⟩ := cellsT_ok ok hc
          cases hp
          rw [c2]
        cases hp) _ _ h
    refine .inl ⟨.agg ys, ?_, g2⟩; simp only [abuild, hz, h2, g1, Option.map_some]; rw [if_neg]; intro hq; rw [List.any_eq_true] at hq; obtain ⟨fl, hm, hn⟩ := hq; rw [List.all_eq_true] at hall; have := hall _ (List.mem_map_of_mem hm)
    cases hc : cellsT E fl.type with
    | none => simp [hc] at this
    | some c =>
      obtain ⟨c1, c2, -⟩ := cellsT_ok ok hc; rw [c1] at hn; cases hn
  · rename_i n e hk; rw [h3] at hk
    cases d <;> simp [tkOf] at hk
    obtain ⟨rfl, rfl⟩ := hk; split at h
    case h_2 => exact .inr h
    rename_i c hc; obtain ⟨c1, c2, -⟩ := cellsT_ok ok hc; obtain ⟨ys, g1, g2⟩ := fillK_ok (place' := fun i => some (i * E.C.P.cellsOf _, E.C.P.cellsOf _)) (fun j p hp => by rw [c2]; exact hp) _ _ h; refine .inl ⟨.agg ys, ?_, g2⟩; simp only [abuild, hz, h2, c1, g1, Option.map_some]; rfl
  exact .inr h
omit ok in
theorem bsOk_ok {c : Nat} : ∀ (parts : List (Nat × AV)) (i n : Nat), bsOk c i n parts = true → i + parts.length = n ∧ parts.map (·.1) = List.range' i parts.length ∧ ∀ p ∈ parts, p.2.cellsOk = true ∧ p.2.cells.length = c ∧ p.2.cells.all AV.deep = true
  | [], i, n, h => by
    simp only [bsOk] at h; exact ⟨by simpa using h, rfl, fun p hp => by cases hp⟩
  | (j, x) :: ps, i, n, h => by
    simp only [bsOk, Bool.and_eq_true] at h; obtain ⟨⟨⟨⟨e1, e2⟩, e3⟩, e4⟩, e5⟩ := h; obtain ⟨q1, q2, q3⟩ := bsOk_ok ps (i + 1) n e5; have e1' : i = j := by simpa using e1
    have e3' : x.cells.length = c := by simpa using e3
    subst e1'; refine ⟨by simp only [List.length_cons]; omega, by simp only [List.map_cons, List.length_cons, List.range'_succ, q2], fun p hp => ?_⟩
    rcases List.mem_cons.1 hp with rfl | hp
    exact ⟨e2, e3', e4⟩; exact q3 p hp
omit ok in
theorem rowsK_eq : ∀ (ps : List (Nat × AV)) (k : List (List AV) → Prop), rowsK ps k = k (ps.map (·.2.cells))
  | [], k => rfl
  | (_, x) :: ps, k => by rw [rowsK, cellsK_eq, rowsK_eq ps]; rfl
theorem evBuildSlice_ok {t : TypeId} {n : Nat} {parts : List (Nat × AV)} {k : AV → Prop} {alt : Prop} (h : evBuildSlice E t n parts k alt) : (∃ y, abuildSlice E.C.P t n parts = some y ∧ k y) ∨ alt := by
  unfold evBuildSlice at h; split at h
  case h_2 => exact .inr h
  rename_i e he; have hu := elemOf_ok ok he; split at h
  case h_2 => exact .inr h
  rename_i i hi; obtain ⟨fi, d, h1, h2, h3, h4, h5, h6, -⟩ := ti_some ok hi; split at h
  case h_2 => exact .inr h
  rename_i z hz; rw [h6] at hz; split at h
  case h_2 => exact .inr h
  rename_i hc; simp only [Bool.and_eq_true, Bool.not_eq_true'] at hc; obtain ⟨⟨⟨⟨a1, a2⟩, a3⟩, a4⟩, a5⟩ := hc; obtain ⟨b1, b2, b3⟩ := bsOk_ok parts 0 n a5
  have a1' : i.c ≠ 0 := fun he => by rw [he] at a1; cases a1
  have a2' : n * i.c ≤ 16777216 := by simpa using a2
  have a4' : z.cells.length = i.c := by simpa using a4
  rw [rowsK_eq, litK_eq] at h; refine .inl ⟨_, ?_, h⟩; have e1 : parts.map (·.1) = List.range n := by rw [b2, List.range_eq_range', show n = parts.length by omega]
  have e2 : parts.any (fun p => !p.2.cellsOk || decide (p.2.cells.length ≠ E.C.P.cellsOf e) || !p.2.cells.all AV.deep) = false := by
    rw [List.any_eq_false]; intro p hp; obtain ⟨q1, q2, q3⟩ := b3 p hp; simp [q1, q2, h4]; simpa using q3
  simp only [abuildSlice, hu]
  rw [if_neg (by
    simp only [h1, Option.isNone_some, e1, Bool.or_false, Bool.false_or, Bool.or_eq_true, decide_eq_true_eq, ne_eq, not_true_eq_false, decide_false, ← h4]; rintro ((h | h) | h); exact a1' h
    · have : (2 : Nat) ^ 24 = 16777216 := by decide
      omega
    rw [h4] at h
    exact absurd (e2.symm.trans h) (by simp))]
  simp only [hz, a3, a4', ← h4]; simp
end
end
section
section
variable {E : EC}
theorem evSrc_ok {H : AH} {x : AV} {k : List (List AV) → Prop} {alt : Prop} (h : evSrc H x k alt) : (∃ rows, arows H x = some rows ∧ (∀ s, x ≠ .sc (.string s)) ∧ k rows) ∨ alt := by
  unfold evSrc at h; split at h
  exact .inl ⟨_, rfl, (fun s h => by cases h), h⟩
  · split at h
    · rename_i rs te hb; rw [nthB_eq] at hb; obtain ⟨rows, h1, h2, h3⟩ := h; refine .inl ⟨rows, ?_, (fun s h => by cases h), h3⟩; simp only [arows, hb]; rw [if_pos h1, h2]
    exact .inr h
  exact .inl ⟨_, rfl, (fun s h => by cases h), h⟩; exact .inl ⟨_, rfl, (fun s h => by cases h), h⟩; exact .inr h
theorem evBase_ok {te : TypeId} {H : AH} {xs : List (List AV)} {s : AV} {k : List (List AV) → AH → Prop} {alt : Prop} (h : evBase te H xs s k alt) : (∃ olds H1, abase te H xs s = some (olds, H1) ∧ k olds H1) ∨ alt := by
  unfold evBase at h; split at h
  exact .inl ⟨_, _, rfl, h⟩
  · obtain ⟨h1, h2⟩ := h; exact .inl ⟨_, _, by simp only [abase, if_pos h1], h2⟩
  · split at h
    · rename_i rs te' hb; rw [nthB_eq] at hb; split at h
      · rename_i ht; have ht' : te' = te := by simpa using ht
        obtain ⟨olds, h1, h2, h3⟩ := h; rw [setK_eq] at h3; refine .inl ⟨olds, _, ?_, h3⟩; simp only [abase, hb]; rw [if_pos (by simp [ht']; omega), ← h2, List.drop_zero]
      exact .inr h
    exact .inr h
  exact .inr h
theorem strideOk_ok {x : AV} {c : Nat} (h : strideOk x c = true) : ((astride x).getD c == c) = true := by
  cases x <;> simp [strideOk, astride] at h ⊢
  exact h; exact h
section
variable (ok : E.Ok)
include ok
theorem evApp_ok {H : AH} {t xt : TypeId} {s x : AV} {k : AV → AH → Prop} {alt : Prop} (h : evApp E H t xt s x k alt) : (∃ y H', aappend E.C.P H t xt s x = some (y, H') ∧ k y H') ∨ alt := by
  unfold evApp at h; split at h
  case h_2 => exact .inr h
  rename_i e he; split at h
  case h_2 => exact .inr h
  rename_i e' he'; split at h
  case h_2 => exact .inr h
  rename_i i hi; obtain ⟨fi, d, h1, h2, h3, h4, h5, h6, h7, -⟩ := ti_some ok hi; split at h
  case h_2 => exact .inr h
  rename_i b hb; rw [h7] at hb; split at hb
  case h_2 => cases hb
  rename_i z hz; split at hb
  case isFalse => cases hb
  rename_i hzc
  cases hb
  split at h
  case h_2 => exact .inr h
  rename_i hs; simp only [Bool.and_eq_true] at hs hzc; have hci : i.c = fi.size := by rw [h4]; simp [Program.cellsOf, h1]
  have s1 := strideOk_ok hs.1; have s2 := strideOk_ok hs.2; rw [hci] at s1 s2
  rcases evSrc_ok h with ⟨xs, g1, g2, g3⟩ | h
  case inr => exact .inr h
  rcases evBase_ok g3 with ⟨olds, H1, q1, q2⟩ | h
  case inr => exact .inr h
  obtain ⟨rows, n, rfl, rfl, b1, b2, hk⟩ := q2; rw [snocK_eq, Nat.zero_add, litK_eq] at hk; rw [List.length_append] at b1 b2
  have hsrc : asrc H fi.size x = some xs := by
    unfold asrc; split
    rename_i s; exact absurd rfl (g2 s); exact g1
  refine .inl ⟨_, _, ?_, hk⟩; simp only [aappend, elemOf_ok ok he, h1, hz, elemOf_ok ok he', notInt, hzc.1, hzc.2, s1, s2, hsrc, q1, Bool.and_self, if_true]; rw [if_pos ⟨b1, b2⟩, hci, List.length_append]
theorem evMk_ok {H : AH} {t : TypeId} {l c : AV} {k : AV → AH → Prop} {alt : Prop} (h : evMk E H t l c k alt) : (∃ y H', amakeSlice E.C.P H t l c = some (y, H') ∧ k y H') ∨ alt := by
  unfold evMk at h; split at h
  case h_2 => exact .inr h
  rename_i e he; split at h
  case h_2 => exact .inr h
  rename_i i hi; obtain ⟨fi, d, h1, h2, h3, h4, h5, h6, h7, h8, h9⟩ := ti_some ok hi; split at h
  case h_2 => exact .inr h
  rename_i z hz; rw [h6] at hz; split at h
  case h_2 => exact .inr h
  rename_i hc; simp only [Bool.and_eq_true] at hc; split at h
  case h_2 => exact .inr h
  rename_i bb hb; rw [h7] at hb
  have hb9 : bb = fi.bytes := by
    split at hb
    · split at hb
      cases hb; rfl
      cases hb
    cases hb
  subst hb9; split at h
  case h_2 => exact .inr h
  obtain ⟨n, m, rfl, rfl, hn, b1, b2, hk⟩ := h; rw [cellsK_eq, snocK_eq, Nat.zero_add, litK_eq] at hk; have c1 : 1 ≤ i.c := by simpa using hc.1.1
  have c2 : z.cells.length = i.c := by simpa using hc.2
  refine .inl ⟨_, _, ?_, hk⟩; simp only [amakeSlice, elemOf_ok ok he, h1, hz]
  rw [if_pos (by
    simp only [Bool.and_eq_true, decide_eq_true_eq, ← h4, c2, hc.1.2]; refine ⟨⟨⟨⟨⟨⟨?_, trivial⟩, ?_⟩, ?_⟩, ?_⟩, ?_⟩, ?_⟩; omega; simp; omega; omega; omega
    rw [← Int.natCast_mul]; omega)]
  simp [h4]
theorem evConv_ok {H : AH} {s d : TypeId} {x : AV} {k : AV → Prop} {alt : Prop} (h : evConv E s d x k alt) : (∃ y, aconvert E.C.P s d x = some y ∧ k y) ∨ alt := by
  unfold evConv at h; split at h
  case h_2 => exact .inr h
  rename_i si hsi; obtain ⟨_, sd, -, hs, -⟩ := ti_some ok hsi; split at h
  case h_2 => exact .inr h
  rename_i i hi; obtain ⟨fi, dd, h1, h2, h3, -⟩ := ti_some ok hi; split at h
  · rename_i kd hk; rw [h3] at hk
    cases dd <;> simp [tkOf] at hk
    subst hk; split at h
    · obtain ⟨m, rfl, hm⟩ := h; exact .inl ⟨_, by simp only [aconvert, hs, h2], hm⟩
    exact .inr h
  · rename_i hk; rw [h3] at hk
    cases dd <;> simp [tkOf] at hk
    split at h
    exact .inl ⟨_, by simp only [aconvert, hs, h2], h⟩; exact .inr h
  exact .inr h
end
theorem foldI_ok {g : Int → Int → Int} {g2 : Value → Value → Sem Value} (hg : ∀ k k' a b, g2 (.int k a) (.int k' b) = pure (.int k (g a b))) (kd : IntKind) : ∀ (l : List AV) (a n : Int), foldI g l a = some n → ∃ vs, scs l = some vs ∧ vs.foldlM g2 (Value.int kd a) = (pure (Value.int kd n) : Sem Value)
  | [], a, n, h => by simp [foldI] at h; subst h; exact ⟨[], rfl, rfl⟩
  | x :: l, a, n, h => by
    unfold foldI at h; split at h
    rename_i he; cases he
    · rename_i k b l' he
      cases he
      obtain ⟨vs, h1, h2⟩ := foldI_ok hg kd l _ _ h; refine ⟨.int k b :: vs, by simp [scs, h1], ?_⟩; simp only [List.foldlM_cons, hg]; exact h2
    cases h
theorem evFold_ok {g : Int → Int → Int} {args : List AV} {k : AV → Prop} {alt : Prop} (h : evFold g args k alt) {g2 : Value → Value → Sem Value} (hg : ∀ k k' a b, g2 (.int k a) (.int k' b) = pure (.int k (g a b))) :
    (∃ vs v r, scs args = some (v :: vs) ∧ vs.foldlM g2 v = pure r ∧ k (.sc r)) ∨ alt := by
  unfold evFold at h; split at h
  · rename_i kd a rest; split at h
    · rename_i n hn; obtain ⟨vs, h1, h2⟩ := foldI_ok hg kd rest a n hn; exact .inl ⟨vs, _, _, by simp [scs, h1], h2, h⟩
    exact .inr h
  exact .inr h
theorem min2_int (k k' : IntKind) (a b : Int) : Builtin.min2 (.int k a) (.int k' b) = pure (.int k (min a b)) := by
  simp only [Builtin.min2]; congr 2
  simp only [Int.min_def]; split <;> split <;> omega
theorem max2_int (k k' : IntKind) (a b : Int) : Builtin.max2 (.int k a) (.int k' b) = pure (.int k (max a b)) := by
  simp only [Builtin.max2]; congr 2
  simp only [Int.max_def]; split <;> split <;> omega
theorem bndK_ok {d len : Nat} {o : Option AV} {k : Nat → Prop} {alt : Prop} (h : bndK d len o k alt) (hd : d ≤ len) : (∃ n, abound d o = some n ∧ n ≤ len ∧ k n) ∨ alt := by
  unfold bndK at h; split at h
  exact .inl ⟨d, rfl, hd, h⟩
  · obtain ⟨j, q, rfl, hn, rfl, hk⟩ := h; refine .inl ⟨j, ?_, by omega, by simpa using hk⟩; simp [abound]
  exact .inr h
theorem abound_some (d d' : Nat) (x : AV) : abound d (some x) = abound d' (some x) := by
  cases x with
  | sc v => cases v <;> rfl
  | _ => rfl
theorem weak_sl {kk h : Nat} {tight : Bool} {rows : List (List AV)} (b : Bool) (l : Nat) (hb : b = true → ((rows.take h).drop l) = []) : ∀ y, (if b then AV.sz kk else .sl kk tight ((rows.take h).drop l)) = y → Weaker y (.sl kk false ((rows.take h).drop l)) := by
  intro y hy; subst hy
  cases b
  exact .sl; rw [hb rfl]; exact .sz
theorem evSlice_ok (ok : E.Ok) {t : TypeId} {x : AV} {lo hi mx : Option AV} {k : AV → Prop} {alt : Prop} (h : evSlice E t x lo hi mx k alt) : (∃ y y', aslice E.C.P t x lo hi mx = some y ∧ Weaker y y' ∧ k y') ∨ alt := by
  unfold evSlice at h; split at h
  exact .inr h; split at h
  case h_2 => exact .inr h
  rename_i ti hti; obtain ⟨fi, d, h1, h2, h3, -⟩ := ti_some ok hti; split at h
  · rename_i hk; rw [h3] at hk
    cases d <;> simp [tkOf] at hk
    split at h
    case h_2 => exact .inr h
    rename_i s
    rcases bndK_ok h (Nat.zero_le _) with ⟨l, e1, e2, h⟩ | h
    case inr => exact .inr h
    rcases bndK_ok h (Nat.le_refl _) with ⟨hh, e3, e4, h⟩ | h
    case inr => exact .inr h
    obtain ⟨hle, hk⟩ := h; refine .inl ⟨_, _, ?_, .refl, hk⟩; simp [aslice, h2, e1, e3, hle, e4]
  · rename_i e hk; rw [h3] at hk
    cases d <;> simp [tkOf] at hk
    subst hk; split at h
    case h_2 => exact .inr h
    rename_i c hc; obtain ⟨c1, c2, -⟩ := cellsT_ok ok hc; split at h
    · rename_i kk tight rows; split at h
      case h_2 => exact .inr h
      rename_i hck; have hck' : c = kk := by simpa using hck
      subst hck'
      have base : ∀ lo hi, aslice E.C.P t (.sl c tight rows) lo hi none = (match abound 0 lo, abound rows.length hi with
          | some l, some h => if l ≤ h ∧ h ≤ rows.length then (if l == h && !rows.isEmpty && !(tight && h == rows.length) then some (.sz c) else some (.sl c (tight && h == rows.length) ((rows.take h).drop l))) else none
          | _, _ => none) := by
        intro lo hi; simp only [aslice, h2, c1, c2]
        cases abound 0 lo <;> cases abound rows.length hi <;> simp
      split at h
      · split at h
        · refine .inl ⟨_, _, ?_, .refl, h⟩; rw [base]; simp only [abound]; rw [if_pos ⟨Nat.zero_le _, Nat.le_refl _⟩]; rw [if_neg (by cases rows <;> simp)]; simp
        rename_i o
        rcases bndK_ok h (Nat.zero_le _) with ⟨l, e1, e2, h⟩ | h
        case inr => exact .inr h
        have hr : aslice E.C.P t (.sl c tight rows) (some o) none none = if l == rows.length && !rows.isEmpty && !tight then some (.sz c) else some (.sl c tight (rows.drop l)) := by
          rw [base, e1]; simp only [abound]; rw [if_pos ⟨e2, Nat.le_refl _⟩]; simp
        rw [hr]; by_cases hq : (l == rows.length && !rows.isEmpty && !tight) = true
        · rw [if_pos hq]; simp only [Bool.and_eq_true, beq_iff_eq, Bool.not_eq_true'] at hq; have : rows.drop l = [] := by rw [hq.1.1]; simp
          refine .inl ⟨_, _, rfl, ?_, h⟩; rw [this, hq.2]; exact .sz
        rw [if_neg hq]; exact .inl ⟨_, _, rfl, .refl, h⟩
      rename_i ho
      rcases bndK_ok h (Nat.zero_le _) with ⟨hh, e1, e2, h⟩ | h
      case inr => exact .inr h
      have e1' : abound rows.length (some ho) = some hh := by
        rw [← e1]; exact abound_some _ _ _
      split at h
      · refine .inl ⟨if (0 == hh && !rows.isEmpty && !(tight && hh == rows.length)) = true then .sz c else .sl c (tight && hh == rows.length) ((rows.take hh).drop 0), .sl c false (rows.take hh), ?_, ?_, h⟩
        · rw [base, e1']; simp only [abound]; rw [if_pos ⟨Nat.zero_le _, e2⟩]; exact (apply_ite some _ _ _).symm
        refine weak_sl (h := hh) _ 0 (fun hb => ?_) _ rfl; simp only [Bool.and_eq_true, beq_iff_eq] at hb; rw [← hb.1.1]; simp
      rename_i o
      rcases bndK_ok h (Nat.zero_le _) with ⟨l, f1, f2, h⟩ | h
      case inr => exact .inr h
      obtain ⟨hle, h⟩ := h; refine .inl ⟨if (l == hh && !rows.isEmpty && !(tight && hh == rows.length)) = true then .sz c else .sl c (tight && hh == rows.length) ((rows.take hh).drop l), .sl c false ((rows.take hh).drop l), ?_, ?_, h⟩
      · rw [base, e1', f1]; simp only; rw [if_pos ⟨hle, e2⟩]; exact (apply_ite some _ _ _).symm
      refine weak_sl _ l (fun hb => ?_) _ rfl; simp only [Bool.and_eq_true, beq_iff_eq] at hb; rw [← hb.1.1, List.drop_eq_nil_iff]; simp; omega
    · rename_i id kk off len; split at h
      case h_2 => exact .inr h
      rename_i hck; have hck' : c = kk := by simpa using hck
      subst hck'
      rcases bndK_ok h (Nat.le_refl _) with ⟨hh, e1, e2, h⟩ | h
      case inr => exact .inr h
      have base : ∀ lo l, abound 0 lo = some l → l ≤ hh → aslice E.C.P t (.sm id c off len) lo hi none = if l = 0 then some (.sm id c off hh) else if l < len then some (.sm id c (off + l) (hh - l)) else some (.sl c false []) := by
        intro lo l hl hle; simp only [aslice, h2, c1, c2, hl, e1]; simp [hle, e2]
      split at h
      · refine .inl ⟨_, _, ?_, .refl, h⟩; rw [base none 0 rfl (Nat.zero_le _)]; rfl
      rename_i o
      rcases bndK_ok h (Nat.zero_le _) with ⟨l, f1, f2, h⟩ | h
      case inr => exact .inr h
      obtain ⟨hle, hb⟩ := h; rw [base _ l f1 hle]; by_cases h0 : l = 0
      · subst h0; by_cases hl : 0 < len
        exact .inl ⟨_, _, by rw [if_pos rfl], .refl, by simpa using hb.t (by simpa using hl)⟩; have : hh = 0 := by omega
        subst this; exact .inl ⟨_, _, by rw [if_pos rfl], .sm, hb.f (by simpa using hl)⟩
      rw [if_neg h0]; by_cases hl : l < len
      exact .inl ⟨_, _, by rw [if_pos hl], .refl, hb.t (by simpa using hl)⟩; exact .inl ⟨_, _, by rw [if_neg hl], .refl, hb.f (by simpa using hl)⟩
    exact .inr h
  exact .inr h
end
end
section
inductive StrIxN (s : ByteArray) (i : Int) (k : UInt8 → Prop) : Prop
  | mk (j : Nat) (b : UInt8) (h : i = (j : Int)) (hb : s[j]? = some b) (hk : k b)
section
variable (E : EC)
def evUn (op : UnOp) (x : AV) (k : AV → Prop) (alt : Prop) : Prop :=
  match x with
  | .sc (.int kd a) => match op with
    | .neg => WrapN kd (0 - a) fun n => k (.sc (.int kd n))
    | _ => alt
  | .sc (.bool b) => match op with
    | .not => k (.sc (.bool (!b)))
    | _ => alt
  | _ => alt
def evFieldAddr (s : TypeId) (x : AV) (f : Nat) (k : AV → Prop) (alt : Prop) : Prop :=
  match fieldOf E s f with
  | some (o, t) => match cellsT E t with
    | some c => match Nat.beq c 0 with
      | true => alt
      | false => match x with
        | .pi cells => dropK o cells fun cells => k (.pi cells)
        | .pm id r c => litK (c + o) fun c => k (.pm id r c)
        | _ => alt
    | none => alt
  | none => alt
def evField (s : TypeId) (x : AV) (f : Nat) (k : AV → Prop) (alt : Prop) : Prop :=
  match x with
  | .agg xs => match fieldOf E s f with
    | some (o, t) => match partT E t xs o with
      | some y => k y
      | none => alt
    | none => alt
  | _ => alt
def evIdxAddr (t : TypeId) (x i : AV) (k : AV → Prop) (alt : Prop) : Prop :=
  match i with
  | .sc (.int _ n) => match E.T t with
    | some ti => match ti.k with
      | .slice e => match cellsT E e with
        | some c => match x with
          | .sl kk _ rows => match Nat.beq c kk with
            | true => SlIdxN rows n fun row => k (.pi row)
            | false => alt
          | .sm id kk off len => match Nat.beq c kk with
            | true => IdxN off n len fun q => k (.pm id q 0)
            | false => alt
          | _ => alt
        | none => alt
      | .array m e => match cellsT E e with
        | some c => match x with
          | .pi cells => IdxN 0 n m fun j => k (.pi (cells.drop (j * c)))
          | .pm id r col => IdxN 0 n m fun j => k (.pm id r (col + j * c))
          | _ => alt
        | none => alt
      | _ => alt
    | none => alt
  | _ => alt
def evIdx (t : TypeId) (x i : AV) (k : AV → Prop) (alt : Prop) : Prop :=
  match i with
  | .sc (.int _ n) => match E.T t with
    | some ti => match ti.k with
      | .str => match x with
        | .sc (.string s) => StrIxN s n fun b => k (.sc (.int .u8 (b.toNat : Int)))
        | _ => alt
      | .array m e => match cellsT E e with
        | some c => match x with
          | .agg xs => IdxN 0 n m fun j => match partT E e xs (j * c) with
            | some y => k y
            | none => False
          | _ => alt
        | none => alt
      | _ => alt
    | none => alt
  | _ => alt
def evCallB (H : AH) (b : Builtin) (ats : List TypeId) (xs : List AV) (k : AV → AH → Prop) (alt : Prop) : Prop :=
  match b with
  | .len => match ats, xs with
    | [t], [x] => evLen E H t x (fun y => k y H) alt
    | _, _ => alt
  | .append => match ats, xs with
    | [t, xt], [s, x] => evApp E H t xt s x k alt
    | _, _ => alt
  | .min => evFold min xs (fun y => k y H) alt
  | .max => evFold max xs (fun y => k y H) alt
  | _ => alt
def evop (l : Fr) (H : AH) (op : Op) (ty : TypeId) (k : AV → AH → Prop) : Prop :=
  match op with
  | .move x => k (evo E l x) H
  | .assign x => k (evo E l x) H
  | .pick c a b => match evo E l c with
    | .sc (.bool t) => Br t (k (evo E l a) H) (k (evo E l b) H)
    | _ => StepN E (.pick c a b) ty l H k
  | .alloc e => match E.T e with
    | some i => match i.z with
      | some z => evBox H e z k (StepN E (.alloc e) ty l H k)
      | none => StepN E (.alloc e) ty l H k
    | none => StepN E (.alloc e) ty l H k
  | .box e x => evBox H e (evo E l x) k (StepN E (.box e x) ty l H k)
  | .build t parts => mapP E l parts.toList fun ps => evBuild E t ps (fun y => k y H) (StepN E (.build t parts) ty l H k)
  | .buildSlice t n parts => mapP E l parts.toList fun ps => evBuildSlice E t n ps (fun y => k y H) (StepN E (.buildSlice t n parts) ty l H k)
  | .load t a => evLoad E H t (evo E l a) (fun y => k y H) (StepN E (.load t a) ty l H k)
  | .store t a x => evStore E H t (evo E l a) (evo E l x) (fun H' => k .any H') (StepN E (.store t a x) ty l H k)
  | .nilCheck x => match anil (evo E l x) with
    | some y => k y H
    | none => StepN E (.nilCheck x) ty l H k
  | .binOp op t x y u => evBin E op t (evo E l x) (evo E l y) (fun y => k y H) (StepN E (.binOp op t x y u) ty l H k)
  | .unOp op t x => evUn op (evo E l x) (fun y => k y H) (StepN E (.unOp op t x) ty l H k)
  | .convert s d x => evConv E s d (evo E l x) (fun y => k y H) (StepN E (.convert s d x) ty l H k)
  | .makeInterface t x => match E.T t with
    | some i => match i.k with
      | .iface => StepN E (.makeInterface t x) ty l H k
      | _ => k (.iface t (evo E l x)) H
    | none => StepN E (.makeInterface t x) ty l H k
  | .makeFunc fn fs cs => mapE E l fs.toList fun a => mapE E l cs.toList fun b => k (.fn fn a b) H
  | .slice t x lo hi mx => evSlice E t (evo E l x) (lo.map (evo E l)) (hi.map (evo E l)) (mx.map (evo E l)) (fun y => k y H) (StepN E (.slice t x lo hi mx) ty l H k)
  | .fieldAddr s x f => evFieldAddr E s (evo E l x) f (fun y => k y H) (StepN E (.fieldAddr s x f) ty l H k)
  | .field s x f => evField E s (evo E l x) f (fun y => k y H) (StepN E (.field s x f) ty l H k)
  | .indexAddr t x i => evIdxAddr E t (evo E l x) (evo E l i) (fun y => k y H) (StepN E (.indexAddr t x i) ty l H k)
  | .index t x i => evIdx E t (evo E l x) (evo E l i) (fun y => k y H) (StepN E (.index t x i) ty l H k)
  | .extract x i => match evo E l x with
    | .tuple vs => match vs[i]? with
      | some y => k y H
      | none => StepN E (.extract x i) ty l H k
    | _ => StepN E (.extract x i) ty l H k
  | .makeSlice t a c => evMk E H t (evo E l a) (evo E l c) k (StepN E (.makeSlice t a c) ty l H k)
  | .call c => match c.callee with
    | .builtin b => mapE E l c.args.toList fun xs => evCallB E H b c.argTypes.toList xs k (StepN E (.call c) ty l H k)
    | _ => StepN E (.call c) ty l H k
  | op => StepN E op ty l H k
end
section
variable {E : EC} (ok : E.Ok)
theorem stp_of {l : Fr} {H : AH} {op : Op} {ty : TypeId} {k : AV → AH → Prop} {r : Option AV} (hr : astep E.C.P E.C.G ⟨frm 0 l E.n, H⟩ op ty = r.map (·, H)) (h : (∃ y, r = some y ∧ k y H) ∨ StepN E op ty l H k) : Stp E l H op ty k := by
  rcases h with ⟨y, rfl, hk⟩ | h
  exact ⟨y, y, H, hr, .refl, hk⟩; exact h.stp
include ok
theorem evop_ok {l : Fr} {H : AH} {op : Op} {ty : TypeId} {k : AV → AH → Prop} (h : evop E l H op ty k) : Stp E l H op ty k := by
  have ev : ∀ x, evo E l x = (⟨frm 0 l E.n, H⟩ : ASt).ev E.C.G x := evo_eq E l H; have evf : evo E l = (⟨frm 0 l E.n, H⟩ : ASt).ev E.C.G := funext ev
  cases op <;> simp only [evop] at h
  case move x => exact ⟨_, _, _, by simp only [astep, ← ev], .refl, h⟩
  case assign x => exact ⟨_, _, _, by simp only [astep, ← ev], .refl, h⟩
  case pick c a b =>
    split at h
    case h_2 => exact h.stp
    rename_i t ht
    cases t with
    | true => exact ⟨_, _, _, by simp only [astep, ← ev, ht]; rfl, .refl, h.t rfl⟩
    | false => exact ⟨_, _, _, by simp only [astep, ← ev, ht]; rfl, .refl, h.f rfl⟩
  case alloc e =>
    split at h
    case h_2 => exact h.stp
    rename_i i hi; obtain ⟨fi, d, h1, h2, h3, h4, h5, h6, -⟩ := ti_some ok hi; split at h
    case h_2 => exact h.stp
    rename_i z hz; rw [h6] at hz
    rcases evBox_ok h with ⟨hc, hk⟩ | h
    exact ⟨_, _, _, by simp only [astep, hz, hc, if_true], .refl, hk⟩; exact h.stp
  case box e x =>
    rcases evBox_ok h with ⟨hc, hk⟩ | h
    · rw [ev] at hc hk; exact ⟨_, _, _, by simp only [astep, hc, if_true], .refl, hk⟩
    exact h.stp
  case build t parts =>
    rw [mapP_eq] at h; refine stp_of (r := abuild E.C.P t (parts.toList.map fun p => (p.1, evo E l p.2))) (by simp only [astep, evf]) (evBuild_ok ok h)
  case buildSlice t n parts =>
    rw [mapP_eq] at h; refine stp_of (r := abuildSlice E.C.P t n (parts.toList.map fun p => (p.1, evo E l p.2))) (by simp only [astep, evf]) (evBuildSlice_ok ok h)
  case load t a => exact stp_of (by simp only [astep, ← ev]) (evLoad_ok ok h)
  case store t a x =>
    rcases evStore_ok ok h with ⟨H', h1, h2⟩ | h
    exact ⟨_, _, _, by simp only [astep, ← ev, h1, Option.map_some], .refl, h2⟩; exact h.stp
  case nilCheck x =>
    split at h
    · rename_i y hy; exact ⟨_, _, _, by simp only [astep, ← ev, hy, Option.map_some], .refl, h⟩
    exact h.stp
  case binOp op t x y u => exact stp_of (by simp only [astep, ← ev]) (evBin_ok ok h x y)
  case unOp op t x =>
    unfold evUn at h; split at h
    · rename_i kd a hx; split at h
      · obtain ⟨n, rfl, hk⟩ := h; exact ⟨_, _, _, by simp only [astep, ← ev, hx, eval_neg, Option.map_some], .refl, hk⟩
      exact h.stp
    · rename_i b hx; split at h
      exact ⟨_, _, _, by simp only [astep, ← ev, hx, eval_not, Option.map_some], .refl, h⟩; exact h.stp
    exact h.stp
  case convert s d x =>
    rcases evConv_ok (H := H) ok h with ⟨y, h1, h2⟩ | h
    exact ⟨_, _, _, by simp only [astep, ← ev, h1, Option.map_some], .refl, h2⟩; exact h.stp
  case makeInterface t x =>
    split at h
    case h_2 => exact h.stp
    rename_i i hi; obtain ⟨fi, d, h1, h2, h3, -⟩ := ti_some ok hi; split at h
    exact h.stp; rename_i hne; refine ⟨_, _, _, ?_, .refl, h⟩; simp only [astep, h2, ← ev]
    cases d <;> first | rfl | exact absurd h3 hne
  case makeFunc fn fs cs =>
    rw [mapE_eq, mapE_eq] at h; exact ⟨_, _, _, by simp only [astep, ← evf], .refl, h⟩
  case slice t x lo hi mx =>
    rcases evSlice_ok ok h with ⟨y, y', h1, h2, h3⟩ | h
    exact ⟨_, _, _, by simp only [astep, ← evf, h1, Option.map_some], h2, h3⟩; exact h.stp
  case fieldAddr s x f =>
    unfold evFieldAddr at h; split at h
    case h_2 => exact h.stp
    rename_i o t hf; obtain ⟨fields, fl, e1, e2, rfl, rfl⟩ := fieldOf_ok ok hf; split at h
    case h_2 => exact h.stp
    rename_i c hc; obtain ⟨c1, c2, -⟩ := cellsT_ok ok hc; split at h
    exact h.stp; rename_i hc0
    have hc0' : c ≠ 0 := fun he => by rw [he] at hc0; cases hc0
    have base : afieldAddr E.C.P s f (evo E l x) = (match evo E l x with
      | .pi cells => some (.pi (cells.drop fl.offset))
      | .pm id r c => some (.pm id r (c + fl.offset))
      | _ => none) := by
      simp only [afieldAddr, e1, e2, c1, c2, if_neg hc0']; simp only [Bool.false_eq_true, if_false]
      cases evo E l x <;> rfl
    split at h
    · rename_i cells hx; rw [dropK_eq] at h; exact ⟨_, _, _, by simp only [astep, ← ev]; rw [base, hx]; rfl, .refl, h⟩
    · rename_i id r c' hx; rw [litK_eq] at h; exact ⟨_, _, _, by simp only [astep, ← ev]; rw [base, hx]; rfl, .refl, h⟩
    exact h.stp
  case field s x f =>
    unfold evField at h; split at h
    case h_2 => exact h.stp
    rename_i xs hx; split at h
    case h_2 => exact h.stp
    rename_i o t hf; obtain ⟨fields, fl, e1, e2, rfl, rfl⟩ := fieldOf_ok ok hf; split at h
    case h_2 => exact h.stp
    rename_i y hy; refine ⟨_, _, _, ?_, .refl, h⟩; simp only [astep, ← ev, hx, afield, e1, e2, partT_ok ok hy, Option.map_some]
  case indexAddr t x i =>
    unfold evIdxAddr at h; split at h
    case h_2 => exact h.stp
    rename_i kd n hn; split at h
    case h_2 => exact h.stp
    rename_i ti hti; obtain ⟨fi, d, h1, h2, h3, -⟩ := ti_some ok hti; split at h
    · rename_i e hk; rw [h3] at hk
      cases d <;> simp [tkOf] at hk
      subst hk; split at h
      case h_2 => exact h.stp
      rename_i c hc; obtain ⟨c1, c2, -⟩ := cellsT_ok ok hc; split at h
      · rename_i kk tt rows hx; split at h
        case h_2 => exact h.stp
        rename_i hck; have hck' : c = kk := by simpa using hck
        subst hck'; obtain ⟨j, row, rfl, hr, hk⟩ := h; have hlt := (List.getElem?_eq_some_iff.1 hr).1; refine ⟨_, _, _, ?_, .refl, hk⟩; simp only [astep, ← ev, hx, hn, aindexAddr, h2, c1]; simp [c2, hlt]; exact (List.getElem?_eq_some_iff.1 hr).2
      · rename_i id kk off len hx; split at h
        case h_2 => exact h.stp
        rename_i hck; have hck' : c = kk := by simpa using hck
        subst hck'; obtain ⟨j, q, rfl, hlt, rfl, hk⟩ := h; refine ⟨_, _, _, ?_, .refl, hk⟩; simp only [astep, ← ev, hx, hn, aindexAddr, h2, c1]; simp [c2, hlt]
      exact h.stp
    · rename_i m e hk; rw [h3] at hk
      cases d <;> simp [tkOf] at hk
      obtain ⟨rfl, rfl⟩ := hk; split at h
      case h_2 => exact h.stp
      rename_i c hc; obtain ⟨c1, c2, -⟩ := cellsT_ok ok hc; split at h
      · rename_i cells hx; obtain ⟨j, q, rfl, hlt, rfl, hk⟩ := h; refine ⟨_, _, _, ?_, .refl, hk⟩; simp only [astep, ← ev, hx, hn, aindexAddr, h2, c1]; simp [c2, hlt]
      · rename_i id r col hx; obtain ⟨j, q, rfl, hlt, rfl, hk⟩ := h; refine ⟨_, _, _, ?_, .refl, hk⟩; simp only [astep, ← ev, hx, hn, aindexAddr, h2, c1]; simp [c2, hlt]
      exact h.stp
    exact h.stp
  case index t x i =>
    unfold evIdx at h; split at h
    case h_2 => exact h.stp
    rename_i kd n hn; split at h
    case h_2 => exact h.stp
    rename_i ti hti; obtain ⟨fi, d, h1, h2, h3, -⟩ := ti_some ok hti; split at h
    · rename_i hk; rw [h3] at hk
      cases d <;> simp [tkOf] at hk
      split at h
      case h_2 => exact h.stp
      rename_i s hx; obtain ⟨j, b, rfl, hb, hk⟩ := h; refine ⟨_, _, _, ?_, .refl, hk⟩; simp only [astep, ← ev, hx, hn, aindex, h2]; simp [hb]
    · rename_i m e hk; rw [h3] at hk
      cases d <;> simp [tkOf] at hk
      obtain ⟨rfl, rfl⟩ := hk; split at h
      case h_2 => exact h.stp
      rename_i c hc; obtain ⟨c1, c2, -⟩ := cellsT_ok ok hc; split at h
      case h_2 => exact h.stp
      rename_i xs hx; obtain ⟨j, q, rfl, hlt, rfl, hk⟩ := h; rw [Nat.zero_add] at hk; split at hk
      case h_2 => exact hk.elim
      rename_i y hy; refine ⟨_, _, _, ?_, .refl, hk⟩; simp only [astep, ← ev, hx, hn, aindex, h2, c1]; simp [c2, hlt, partT_ok ok hy]
    exact h.stp
  case extract x i =>
    split at h
    case h_2 => exact h.stp
    rename_i vs hx; split at h
    · rename_i y hy; exact ⟨_, _, _, by simp only [astep, ← ev, hx, hy, Option.map_some], .refl, h⟩
    exact h.stp
  case makeSlice t a c =>
    rcases evMk_ok ok h with ⟨y, H', h1, h2⟩ | h
    exact ⟨_, _, _, by simp only [astep, ← ev, h1], .refl, h2⟩; exact h.stp
  case call c =>
    split at h
    case h_2 => exact h.stp
    rename_i b hb; obtain ⟨cal, args, ats⟩ := c; simp only at hb; subst hb; rw [mapE_eq] at h; simp only at h
    have hst : ∀ r, abuiltin E.C.P H b ats.toList ty (args.toList.map (evo E l)) = some r → astep E.C.P E.C.G ⟨frm 0 l E.n, H⟩ (.call ⟨.builtin b, args, ats⟩) ty = some r := by
      intro r hr; simp only [astep, ← evf]; exact hr
    unfold evCallB at h; split at h
    · split at h
      case h_2 => exact h.stp
      rename_i t x ht hx
      rcases evLen_ok ok h with ⟨n, h1, h2⟩ | h
      · refine ⟨_, _, _, hst _ ?_, .refl, h2⟩; rw [ht, hx]; simp only [abuiltin, h1, Option.map_some]; rfl
      exact h.stp
    · split at h
      case h_2 => exact h.stp
      rename_i t xt s x ht hx
      rcases evApp_ok ok h with ⟨y, H', h1, h2⟩ | h
      · refine ⟨_, _, _, hst _ ?_, .refl, h2⟩; rw [ht, hx]; simp only [abuiltin, h1]
      exact h.stp
    · rcases evFold_ok h min2_int with ⟨vs, v, r, h1, h2, h3⟩ | h
      · refine ⟨_, _, _, hst _ ?_, .refl, h3⟩; simp only [abuiltin, h1, Builtin.min_, h2, val_pure, Option.map_some]
      exact h.stp
    · rcases evFold_ok h max2_int with ⟨vs, v, r, h1, h2, h3⟩ | h
      · refine ⟨_, _, _, hst _ ?_, .refl, h3⟩; simp only [abuiltin, h1, Builtin.max_, h2, val_pure, Option.map_some]
      exact h.stp
    exact h.stp
  all_goals exact h.stp
end
end
section
def dstAt : List Oper → Nat → Option Tmp
  | [], _ => none
  | o :: _, 0 => o.dst
  | _ :: l, j + 1 => dstAt l j
theorem dstAt_eq : ∀ (l : List Oper) (j : Nat), dstAt l j = (l[j]?).bind (·.dst)
  | [], j => by simp [dstAt]
  | o :: l, 0 => rfl
  | o :: l, j + 1 => by rw [dstAt, dstAt_eq l j]; rfl
def guardN (x : AV) (b : Bool) (p q : Prop) : Prop :=
  match x with
  | .sc (.bool t) => match b with
    | true => Br t p q
    | false => Br t q p
  | .sc _ => q
  | _ => False
theorem guardN_ok {x : AV} {b : Bool} {p q : Prop} (h : guardN x b p q) : ∃ t, wantedV x b = some t ∧ (t = true → p) ∧ (t = false → q) := by
  unfold guardN at h; split at h
  · rename_i t; split at h
    exact ⟨_, rfl, by cases t <;> simp <;> exact h.t rfl, by cases t <;> simp <;> exact h.f rfl⟩; exact ⟨_, rfl, by cases t <;> simp <;> exact h.f rfl, by cases t <;> simp <;> exact h.t rfl⟩
  · rename_i v hv; refine ⟨false, ?_, by simp, fun _ => h⟩
    cases v <;> first | rfl | exact absurd rfl (hv _)
  exact h.elim
section
variable (E : EC)
def ownP (l : Fr) : List (Nat × Operand) → Bool
  | [] => false
  | p :: ps => match evo E l p.2 with
    | .sm .. => true
    | _ => ownP l ps
def evo1 (l : Fr) (H : AH) (op : Op) (ty : TypeId) (k : AV → AH → Prop) : Prop :=
  match op with
  | .call c => match c.callee with
    | .value fo => match evo E l fo with
      | .fn (.func f) fs cs => mapE E l c.args.toList fun xs => forceL (fs ++ xs ++ cs) fun zs => CallN E f zs H k
      | .sc (.func (.func f) fs cs) => mapE E l c.args.toList fun xs => forceL (fs.toList.map .sc ++ xs ++ cs.toList.map .sc) fun zs => CallN E f zs H k
      | _ => OpN E op ty l H k
    | .invoke _ _ => OpN E op ty l H k
    | .builtin .clear => OpN E op ty l H k
    | _ => evop E l H op ty k
  | .buildSlice _ _ parts => match ownP E l parts.toList with
    | true => OpN E op ty l H k
    | false => evop E l H op ty k
  | .next _ _ => OpN E op ty l H k
  | .typeAssert _ _ _ _ => OpN E op ty l H k
  | _ => evop E l H op ty k
def evopF (all : List Oper) (o : Oper) (self : Fr → AH → (Fr → AH → Prop) → Prop) (l : Fr) (H : AH) (k : Fr → AH → Prop) : Prop :=
  match o with
  | ⟨dst, op, ty, _, _, none⟩ => evo1 E l H op ty fun y H' => putFK l dst y fun l' => self l' H' k
  | ⟨dst, op, ty, _, _, some (j, b)⟩ => match dstAt all j with
    | some d => match Nat.blt d E.n with
      | true => guardN (alk d l) b (evo1 E l H op ty fun y H' => putFK l dst y fun l' => self l' H' k) (putFK l dst (.sc undef) fun l' => self l' H k)
      | false => False
    | none => False
def evops (all os : List Oper) : Fr → AH → (Fr → AH → Prop) → Prop :=
  List.rec (motive := fun _ => Fr → AH → (Fr → AH → Prop) → Prop) (fun l H k => k l H) (fun o _ self => evopF E all o self) os
theorem evops_cons (all : List Oper) (o : Oper) (os : List Oper) (l : Fr) (H : AH) (k : Fr → AH → Prop) : evops E all (o :: os) l H k = evopF E all o (evops E all os) l H k := rfl
def regN (id : Nat) (ops : Array Oper) (draw : Bool) (l : Fr) (H : AH) (k : XK) : Prop :=
  match draw with
  | false => evops E ops.toList ops.toList l H fun l' H' => k .normal l' H'
  | true => DrawN E id ops.toList l H fun l' H' => k .normal l' H'
def thenE (self : Fr → AH → XK → Prop) (k : XK) : XK := fun e l H => match e with
  | .normal => self l H k
  | e => k e l H
def blockE (id : Nat) (k : XK) : XK := fun e l H => match e with
  | .exit i => match Nat.beq i id with
    | true => k .normal l H
    | false => k (.exit i) l H
  | e => k e l H
def condE (c : Operand) (x y : Fr → AH → XK → Prop) (l : Fr) (H : AH) (k : XK) : Prop :=
  match evo E l c with
  | .sc (.bool t) => Br t (x l H k) (y l H k)
  | _ => False
def ev (c : Code) : Fr → AH → XK → Prop :=
  Code.rec (motive := fun _ => Fr → AH → XK → Prop)
    (fun l H k => k .normal l H)
    (fun id ops draw l H k => regN E id ops draw l H k)
    (fun _ _ x y l H k => x l H (thenE y k))
    (fun c _ _ x y l H k => condE E c x y l H k)
    (fun id _ x l H k => x l H (blockE id k))
    (fun c _ l H k => LoopN E c l H k)
    (fun f ps as bd _ _ l H k => RangeN E f ps as bd l H k)
    (fun id l H k => k (.exit id) l H)
    (fun c _ l H k => CodeN E (.scope c) l H k)
    (fun n l H k => CodeN E (.label n) l H k)
    (fun n l H k => CodeN E (.goto n) l H k)
    (fun l H k => k .ret l H)
    (fun w l H k => CodeN E (.refuse w) l H k)
    c
end
section
variable {E : EC} (ok : E.Ok)
include ok
theorem CallN.aop {l : Fr} {H : AH} {dst : Option Tmp} {ty : TypeId} {pos : String} {af : Array Edge} {g : Option (Nat × Bool)} {k : AV → AH → Prop} {fo : Operand} {args : Array Operand} {ats : Array TypeId} {f : FuncId} {fs cs : List AV}
    (hfo : afunc ((⟨frm 0 l E.n, H⟩ : ASt).ev E.C.G fo) = some (f, fs, cs)) (h : CallN E f (fs ++ args.toList.map (evo E l) ++ cs) H k) :
    AOp E.C ⟨dst, .call ⟨.value fo, args, ats⟩, ty, pos, af, g⟩ (fun st => ∃ y H', st = ⟨frm 0 (putF l dst y) E.n, H'⟩ ∧ k y H') ⟨frm 0 l E.n, H⟩ := by
  obtain ⟨Q, ⟨fn, c, hf, hb⟩, hq, hk⟩ := h
  refine AOp_call (Q := Q) rfl hfo ok.ent hf hb ?_ fun y H' hy => ⟨y, H', putF_eq .., hk _ _ hy⟩
  rw [← show evo E l = (⟨frm 0 l E.n, H⟩ : ASt).ev E.C.G from funext (evo_eq E l H)]; exact hq
theorem evop_aop {l : Fr} {H : AH} {dst : Option Tmp} {op : Op} {ty : TypeId} {pos : String} {af : Array Edge} {g : Option (Nat × Bool)} {k : AV → AH → Prop} (h : evop E l H op ty k) :
    AOp E.C ⟨dst, op, ty, pos, af, g⟩ (fun st => ∃ y H', st = ⟨frm 0 (putF l dst y) E.n, H'⟩ ∧ k y H') ⟨frm 0 l E.n, H⟩ := by
  obtain ⟨y, y', H', h1, h2, h3⟩ := evop_ok ok h; exact AOp_stepW (o := ⟨dst, op, ty, pos, af, g⟩) h1 h2 ⟨y', H', putF_eq .., h3⟩
theorem evo1_ok {l : Fr} {H : AH} {dst : Option Tmp} {op : Op} {ty : TypeId} {pos : String} {af : Array Edge} {g : Option (Nat × Bool)} {k : AV → AH → Prop} (h : evo1 E l H op ty k) :
    AOp E.C ⟨dst, op, ty, pos, af, g⟩ (fun st => ∃ y H', st = ⟨frm 0 (putF l dst y) E.n, H'⟩ ∧ k y H') ⟨frm 0 l E.n, H⟩ := by
  unfold evo1 at h; split at h
  · rename_i c; obtain ⟨cal, args, ats⟩ := c; simp only at h; split at h
    · rename_i fo; split at h
      · rename_i f fs cs hf; rw [mapE_eq, forceL_eq] at h; exact CallN.aop ok (by rw [← evo_eq, hf]; rfl) h
      · rename_i f fs cs hf; rw [mapE_eq, forceL_eq] at h; exact CallN.aop ok (by rw [← evo_eq, hf]; rfl) h
      exact (h.1 dst pos af g).mono fun st ⟨y, H', h1, h2⟩ => ⟨y, H', h1.trans (putF_eq ..), h2⟩
    exact (h.1 dst pos af g).mono fun st ⟨y, H', h1, h2⟩ => ⟨y, H', h1.trans (putF_eq ..), h2⟩
    exact (h.1 dst pos af g).mono fun st ⟨y, H', h1, h2⟩ => ⟨y, H', h1.trans (putF_eq ..), h2⟩
    exact evop_aop ok h
  · split at h
    exact (h.1 dst pos af g).mono fun st ⟨y, H', h1, h2⟩ => ⟨y, H', h1.trans (putF_eq ..), h2⟩
    exact evop_aop ok h
  exact (h.1 dst pos af g).mono fun st ⟨y, H', h1, h2⟩ => ⟨y, H', h1.trans (putF_eq ..), h2⟩
  exact (h.1 dst pos af g).mono fun st ⟨y, H', h1, h2⟩ => ⟨y, H', h1.trans (putF_eq ..), h2⟩
  exact evop_aop ok h
theorem evops_ok {ops : Array Oper} {k : Fr → AH → Prop} : ∀ (os : List Oper) (l : Fr) (H : AH), evops E ops.toList os l H k →
    AOps E.C ops os (fun e st => e = .normal ∧ ∃ l' H', st = ⟨frm 0 l' E.n, H'⟩ ∧ k l' H') ⟨frm 0 l E.n, H⟩
  | [], l, H, h => AOps_nil ⟨rfl, l, H, rfl, h⟩
  | ⟨dst, op, ty, pos, af, none⟩ :: os, l, H, h => by
    rw [evops_cons] at h; simp only [evopF] at h; refine AOps_cons rfl ((evo1_ok ok h).mono ?_); rintro st ⟨y, H', rfl, hk⟩; rw [putFK_eq] at hk; exact evops_ok os _ _ hk
  | ⟨dst, op, ty, pos, af, some (j, b)⟩ :: os, l, H, h => by
    rw [evops_cons] at h; simp only [evopF] at h; split at h
    case h_2 => exact h.elim
    rename_i d hd; split at h
    case h_2 => exact h.elim
    rename_i hlt; rw [dstAt_eq, Array.getElem?_toList] at hd; obtain ⟨t, h1, h2, h3⟩ := guardN_ok h; refine AOps_guard rfl hd (x := alk d l) (t := t) ?_ h1 (fun ht => ?_) (fun ht => ?_)
    · have hlt' : d < E.n := by simpa [Nat.blt_eq] using hlt
      simp only [frm_get, if_pos hlt', Nat.zero_add]
    · refine (evo1_ok ok (h2 ht)).mono ?_; rintro st ⟨y, H', rfl, hk⟩; rw [putFK_eq] at hk; exact evops_ok os _ _ hk
    rw [putF_eq]; have h3' := h3 ht; rw [putFK_eq] at h3'; exact evops_ok os _ _ h3'
theorem ev_ok : ∀ (c : Code) (l : Fr) (H : AH) (k : XK), ev E c l H k → AWp E.C c (fun e st => ∃ l' H', st = ⟨frm 0 l' E.n, H'⟩ ∧ k e l' H') ⟨frm 0 l E.n, H⟩ := by
  intro c
  induction c with
  | skip => exact fun l H k h => AWp_skip ⟨l, H, rfl, h⟩
  | region id ops draw =>
    intro l H k h; have h : regN E id ops draw l H k := h; unfold regN at h; split at h
    · refine (AWp_region (evops_ok ok _ _ _ h)).mono ?_; rintro e st ⟨rfl, l', H', rfl, hk⟩; exact ⟨l', H', rfl, hk⟩
    obtain ⟨h⟩ := h; refine AWp.mono h ?_; rintro e st ⟨rfl, l', H', rfl, hk⟩; exact ⟨l', H', rfl, hk⟩
  | seq a b iha ihb =>
    intro l H k h; have h : ev E a l H (thenE (ev E b) k) := h; refine AWp_seq ((iha _ _ _ h).mono ?_); rintro e st ⟨l', H', rfl, hk⟩
    cases e <;> first | exact ihb _ _ _ hk | exact ⟨l', H', rfl, hk⟩
  | cond c x y ihx ihy =>
    intro l H k h; have h : condE E c (ev E x) (ev E y) l H k := h; unfold condE at h; split at h
    case h_2 => exact h.elim
    rename_i t ht; rw [evo_eq E l H] at ht; exact AWp_cond ht (fun he => ihx _ _ _ (h.t he)) (fun he => ihy _ _ _ (h.f he))
  | block id c ih =>
    intro l H k h; have h : ev E c l H (blockE id k) := h; refine AWp_block ((ih _ _ _ h).mono ?_); rintro e st ⟨l', H', rfl, hk⟩
    cases e with
    | exit i =>
      simp only [blockK]; simp only [blockE] at hk; split at hk
      · rename_i hi; have hi' : i = id := by simpa using hi
        rw [if_pos hi']; exact ⟨l', H', rfl, hk⟩
      rename_i hi; rw [if_neg (fun he => by subst he; simp at hi)]; exact ⟨l', H', rfl, hk⟩
    | _ => exact ⟨l', H', rfl, hk⟩
  | loop c ih => exact fun l H k h => h.1
  | rangeFunc f ps as bd => exact fun l H k h => h.1
  | exit id => exact fun l H k h => AWp_exit ⟨l, H, rfl, h⟩
  | ret => exact fun l H k h => AWp_ret ⟨l, H, rfl, h⟩
  | _ => exact fun l H k h => h.1
end
inductive BackN {σ : Type} (E : EC) (fr : σ → Fr) (hp : σ → AH) (μ : σ → Nat) (inv : σ → Prop) (m : Nat) (l : Fr) (H : AH) : Prop
  | mk (s : σ) (hi : inv s) (hm : μ s < m) (hre : Reabs E.C ⟨frm 0 l E.n, H⟩ ⟨frm 0 (fr s) E.n, hp s⟩)
theorem LoopN.of {σ : Type} {E : EC} (ok : E.Ok) {c : Code} {l : Fr} {H : AH} {k : XK} (fr : σ → Fr) (hp : σ → AH) (μ : σ → Nat) (inv : σ → Prop) (s0 : σ) (h0 : inv s0)
    (hre : Reabs E.C ⟨frm 0 l E.n, H⟩ ⟨frm 0 (fr s0) E.n, hp s0⟩)
    (hr : ∀ s, inv s → ev E c (fr s) (hp s) fun e l' H' => match e with
      | .normal => BackN E fr hp μ inv (μ s) l' H'
      | e => k e l' H') : LoopN E c l H k := by
  refine ⟨AWp_loop_d (fun n st => ∃ s, n = μ s ∧ inv s ∧ st = ⟨frm 0 (fr s) E.n, hp s⟩) (μ s0) _ hre ⟨s0, rfl, h0, rfl⟩ ?_⟩; rintro K' n st ⟨s, rfl, hi, rfl⟩ hL; refine (ev_ok ok _ _ _ _ (hr s hi)).mono ?_; rintro e st ⟨l', H', rfl, hk⟩
  cases e with
  | normal =>
    obtain ⟨s', h1, h2, h3⟩ := hk; exact hL.go _ _ _ h3 h2 ⟨s', rfl, h1, rfl⟩
  | _ => exact hL.out _ _ (by nofun) ⟨l', H', rfl, hk⟩
def AllS (σ : Nat → Nat) (n : Nat) (l : Fr) : Fr → Prop
  | [] => True
  | (i, x) :: r => Slot σ n (alk i l) x ∧ AllS σ n l r
theorem AllS.get {σ : Nat → Nat} {n : Nat} {l : Fr} : ∀ {r : Fr}, AllS σ n l r → ∀ i, Slot σ n (alk i l) (alk i r)
  | [], _, i => .inl rfl
  | (j, x) :: r, h, i => by
    by_cases he : i = j
    · subst he; simpa [alk] using h.1
    rw [alk_ne he]; exact AllS.get h.2 i
theorem slots_frm {σ : Nat → Nat} {n : Nat} {l r : Fr} (h : AllS σ n l r) : ∀ (N i : Nat), Slots σ n (frm i l N) (frm i r N)
  | 0, i => trivial
  | N + 1, i => ⟨by rw [← alk_eq, ← alk_eq]; exact h.get i, slots_frm h N (i + 1)⟩
theorem Reabs.frm0 {C : Ctx} {l r : Fr} {N : Nat} {H : AH} (hm : C.m = 0) (h : AllS id 0 l r) : Reabs C ⟨frm 0 l N, H⟩ ⟨frm 0 r N, []⟩ := Reabs.drop hm (slots_frm h N 0)
section
variable (E : EC)
def resK (l : Fr) (H : AH) : List ResultVar → (List AV → Prop) → Prop
  | [], k => k []
  | .tmp t :: rs, k => match Nat.blt t E.n with
    | true => forceV (alk t l) fun y => resK l H rs fun xs => k (y :: xs)
    | false => False
  | .cell a t :: rs, k => match Nat.blt a E.n with
    | true => evLoad E H t (alk a l) (fun y => forceV y fun y => resK l H rs fun xs => k (y :: xs)) False
    | false => False
def tupK (xs : List AV) (k : AV → Prop) : Prop :=
  match xs with
  | [x] => k x
  | xs => k (.tuple xs)
theorem tupK_eq (xs : List AV) (k : AV → Prop) : tupK xs k = k (atuple xs) := by
  match xs with
  | [] => rfl
  | [x] => rfl
  | x :: y :: xs => rfl
def retE (rs : List ResultVar) (Q : AV → AH → Prop) : XK := fun e l H => match e with
  | .normal => resK E l H rs fun xs => tupK xs fun y => DoneN Q y H
  | .ret => resK E l H rs fun xs => tupK xs fun y => DoneN Q y H
  | _ => False
end
theorem resK_ok {E : EC} (ok : E.Ok) {l : Fr} {H : AH} : ∀ (rs : List ResultVar) (k : List AV → Prop), resK E l H rs k → ∃ xs, ares E.C.P ⟨frm 0 l E.n, H⟩ rs = some xs ∧ k xs
  | [], k, h => ⟨[], rfl, h⟩
  | .tmp t :: rs, k, h => by
    rw [resK] at h; split at h
    case h_2 => exact h.elim
    rename_i hlt; have hlt' : t < E.n := by simpa [Nat.blt_eq] using hlt
    rw [forceV_eq] at h; obtain ⟨xs, h1, h2⟩ := resK_ok ok rs _ h; exact ⟨_, by simp only [ares, ares1, frm_get, if_pos hlt', h1, Nat.zero_add], h2⟩
  | .cell a t :: rs, k, h => by
    rw [resK] at h; split at h
    case h_2 => exact h.elim
    rename_i hlt; have hlt' : a < E.n := by simpa [Nat.blt_eq] using hlt
    rcases evLoad_ok ok h with ⟨y, h1, h2⟩ | h
    case inr => exact h.elim
    rw [forceV_eq] at h2; obtain ⟨xs, h3, h4⟩ := resK_ok ok rs _ h2; exact ⟨_, by simp only [ares, ares1, frm_get, if_pos hlt', h1, h3, Nat.zero_add], h4⟩
def enumF : Nat → List AV → Fr
  | _, [] => []
  | i, x :: xs => (i, x) :: enumF (i + 1) xs
theorem alk_enumF : ∀ (xs : List AV) (i j : Nat), i ≤ j → alk j (enumF i xs) = xs.getD (j - i) .any
  | [], i, j, h => by simp [enumF, alk]
  | x :: xs, i, j, h => by
    by_cases he : j = i
    subst he; simp [enumF, alk]; rw [enumF, alk_ne he, alk_enumF xs (i + 1) j (by omega), show j - i = (j - (i + 1)) + 1 by omega]; rfl
theorem start_frm (args : List AV) (n : Nat) (h : args.length ≤ n) : args ++ List.replicate (n - args.length) .any = frm 0 (enumF 0 args) n := by
  refine List.ext_getElem? fun j => ?_
  rw [frm_get, Nat.zero_add, alk_enumF args 0 j (Nat.zero_le _), Nat.sub_zero, List.getD_eq_getElem?_getD]; by_cases hj : j < args.length
  rw [List.getElem?_append_left hj, if_pos (by omega), List.getElem?_eq_getElem hj]; rfl; rw [List.getElem?_append_right (by omega), List.getElem?_replicate, List.getElem?_eq_none (by omega : args.length ≤ j)]; by_cases hn : j < n
  rw [if_pos (by omega), if_pos hn]; rfl; rw [if_neg (by omega), if_neg hn]
def Pu (P : Program) (G : Glob) (f : FuncId) (args : List AV) (y : AV) : Prop := HasBody P f ∧ APure P G f args y
theorem CallN.pure {E : EC} {f : FuncId} {args : List AV} {y : AV} {H : AH} {k : AV → AH → Prop} (h : Pu E.C.P E.C.G f args y) (hk : k y H) : CallN E f args H k :=
  ⟨fun y' H' => y' = y ∧ H' = H, h.1, h.2 H, by rintro y' H' ⟨rfl, rfl⟩; exact hk⟩
end
section
theorem does_weak {C : Ctx} {o : Oper} {fr : List AV} {H : AH} {y y' : AV} {H' : AH} (hq : quietK o.op = true) (h : astep C.P C.G ⟨fr, H⟩ o.op o.type = some (y, H')) (hw : Weaker y y') : Does C o fr H y' H := by
  have hH : H' = H := quiet_same hq h; subst hH; intro fr' hfr; refine AOp_stepW (y := y) ?_ hw rfl; rw [← h, ← astepE_eq, ← astepE_eq]
  exact astepE_congr fun x hx => hfr x hx
mutual
def dops (C : Ctx) (ds : List (Option Tmp)) (l : List Oper) (st : ASt) (N : ASt → Prop) : Prop :=
  match l with
  | [] => N st
  | ⟨dst, op, ty, pos, af, none⟩ :: l => dgo C ds ⟨dst, op, ty, pos, af, none⟩ l st N
  | ⟨dst, op, ty, pos, af, some (j, b)⟩ :: l => dif C ds ⟨dst, op, ty, pos, af, some (j, b)⟩ b l st N ((ds.getD j none).bind fun d => st.fr[d]?)
termination_by (l.length, 0)
def dgo (C : Ctx) (ds : List (Option Tmp)) (o : Oper) (l : List Oper) (st : ASt) (N : ASt → Prop) : Prop :=
  ∃ y, Does C o st.fr st.H y st.H ∧ dops C (ds ++ [o.dst]) l (st.put o.dst y st.H) N
termination_by (l.length, 1)
def dif (C : Ctx) (ds : List (Option Tmp)) (o : Oper) (b : Bool) (l : List Oper) (st : ASt) (N : ASt → Prop) (r : Option AV) : Prop :=
  match r with
  | some x => match wantedV x b with
    | some true => dgo C ds o l st N
    | some false => dops C (ds ++ [o.dst]) l (st.put o.dst (.sc undef) st.H) N
    | none => False
  | none => False
termination_by (l.length, 2)
end
inductive PuN (E : EC) (f : FuncId) (args : List AV) (k : AV → Prop) : Prop
  | mk (y : AV) (h : Pu E.C.P E.C.G f args y) (hk : k y)
section
variable (E : EC)
end
section
variable {E : EC} (ok : E.Ok)
include ok
end
end
end Go.Proofs.Ax
namespace Go.Proofs.Ax
open Go
inductive TT where
  | nil
  | node (l : TT) (k : Nat) (v : TI) (r : TT)
def TT.get : TT → Nat → Option TI
  | .nil, _ => none
  | .node l k v r, t => match Nat.beq t k with
    | true => some v
    | false => match Nat.blt t k with
      | true => l.get t
      | false => r.get t
def TT.Ok (P : Program) : TT → Prop
  | .nil => True
  | .node l k v r => tiOf P k = some v ∧ l.Ok P ∧ r.Ok P
theorem TT.get_ok {P : Program} : ∀ {T : TT}, T.Ok P → ∀ t i, T.get t = some i → tiOf P t = some i
  | .nil, _, t, i, h => by cases h
  | .node l k v r, ok, t, i, h => by
    rw [TT.get] at h; split at h
    · rename_i hb; have : t = k := by simpa using hb
      subst this
      cases h
      exact ok.1
    split at h
    exact TT.get_ok ok.2.1 t i h; exact TT.get_ok ok.2.2 t i h
def TT.list : TT → List (Nat × TI)
  | .nil => []
  | .node l k v r => l.list ++ (k, v) :: r.list
theorem TT.ok_list {P : Program} : ∀ {T : TT}, (∀ p ∈ T.list, tiOf P p.1 = some p.2) → T.Ok P
  | .nil, _ => trivial
  | .node l k v r, h => ⟨h (k, v) (by simp [TT.list]), TT.ok_list fun p hp => h p (by simp [TT.list, hp]), TT.ok_list fun p hp => h p (by simp [TT.list, hp])⟩
theorem TT.ok_of {P : Program} {T : TT} (h : T.list.map (fun p => tiOf P p.1) = T.list.map fun p => some p.2) : T.Ok P :=
  TT.ok_list fun p hp => by
    obtain ⟨i, hi, rfl⟩ := List.getElem_of_mem hp; have h1 := congrArg (fun l => l[i]?) h; simpa [hi] using h1
end Go.Proofs.Ax
namespace Go.Proofs.Ax
open Go
set_option linter.unusedVariables false
section
theorem Br.tt {A B : Prop} (h : A) : Br true A B := ⟨fun _ => h, fun h => Bool.noConfusion h⟩
theorem Br.ff {A B : Prop} (h : B) : Br false A B := ⟨fun h => Bool.noConfusion h, fun _ => h⟩
theorem Br.dec {p A B : Prop} [Decidable p] (h1 : p → A) (h2 : ¬ p → B) : Br (decide p) A B := ⟨fun h => h1 (of_decide_eq_true h), fun h => h2 (of_decide_eq_false h)⟩
theorem Br.ndec {p A B : Prop} [Decidable p] (h1 : p → B) (h2 : ¬ p → A) : Br (!decide p) A B := by
  refine ⟨fun h => h2 ?_, fun h => h1 ?_⟩; simpa using h; simpa using h
theorem Br.decT {p A B : Prop} [Decidable p] (h : p) (h1 : A) : Br (decide p) A B := .dec (fun _ => h1) (fun hn => absurd h hn)
theorem Br.decF {p A B : Prop} [Decidable p] (h : ¬ p) (h1 : B) : Br (decide p) A B := .dec (fun hp => absurd hp h) (fun _ => h1)
theorem Br.ndecT {p A B : Prop} [Decidable p] (h : p) (h1 : B) : Br (!decide p) A B := .ndec (fun _ => h1) (fun hn => absurd h hn)
theorem Br.ndecF {p A B : Prop} [Decidable p] (h : ¬ p) (h1 : A) : Br (!decide p) A B := .ndec (fun hp => absurd hp h) (fun _ => h1)
theorem Br.bT {b : Bool} {A B : Prop} (h : b = true) (h1 : A) : Br b A B := ⟨fun _ => h1, fun hn => absurd (h.symm.trans hn) (by simp)⟩
theorem Br.bF {b : Bool} {A B : Prop} (h : b = false) (h1 : B) : Br b A B := ⟨fun hn => absurd (h.symm.trans hn) (by simp), fun _ => h1⟩
theorem Br.nbT {b : Bool} {A B : Prop} (h : b = true) (h1 : B) : Br (!b) A B := .bF (by simp [h]) h1
theorem Br.nbF {b : Bool} {A B : Prop} (h : b = false) (h1 : A) : Br (!b) A B := .bT (by simp [h]) h1
theorem Br.nb {b : Bool} {A B : Prop} (h1 : b = true → B) (h2 : b = false → A) : Br (!b) A B := ⟨fun h => h2 (by simpa using h), fun h => h1 (by simpa using h)⟩
theorem Br.any {b : Bool} {A B : Prop} (h1 : b = true → A) (h2 : b = false → B) : Br b A B := ⟨h1, h2⟩
theorem WrapN.inI {a : Int} {k : Int → Prop} (h : InI a) (hk : k a) : WrapN .i64 a k := ⟨a, wrapI h, hk⟩
theorem LenN.map {α : Type} {f : α → List AV} {l : List α} {k : Nat → Prop} (hk : k l.length) : LenN (l.map f).length k := ⟨_, by simp, hk⟩
theorem LenN.raw {n : Nat} {k : Nat → Prop} (hk : k n) : LenN n k := ⟨n, rfl, hk⟩
theorem SlIdxN.map {α : Type} {f : α → List AV} {l : List α} {i : Int} {k : List AV → Prop} (j : Nat) (h : i = (j : Int)) (hj : j < l.length) (hk : k (f (l[j]'hj))) : SlIdxN (l.map f) i k := ⟨j, _, h, by simp [hj], hk⟩
theorem SlIdxN.mapPred {α : Type} {f : α → List AV} {l : List α} {k : Nat} {K : List AV → Prop} (h0 : 0 < k) (hj : k - 1 < l.length) (hk : K (f (l[k - 1]'hj))) : SlIdxN (l.map f) ((k : Int) - 1) K := .map (k - 1) (by omega) hj hk
theorem IdxN.at0 {i : Int} {n : Nat} {k : Nat → Prop} (j : Nat) (h : i = (j : Int)) (hn : j < n) (hk : k j) : IdxN 0 i n k := ⟨j, j, h, hn, Nat.zero_add _, hk⟩
theorem RowN.one {row : List AV} {k : List AV → Prop} (hk : k row) : RowN [row] 0 k := ⟨row, rfl, hk⟩
theorem RowN.map {α : Type} {f : α → List AV} {l : List α} {j : Nat} {k : List AV → Prop} (hj : j < l.length) (hk : k (f (l[j]'hj))) : RowN (l.map f) j k := ⟨_, by simp [hj], hk⟩
theorem RowSN.one {row : List AV} {k : List AV → (List AV → (List (List AV) → Prop) → Prop) → Prop} (hk : k row fun x K => K [x]) : RowSN [row] 0 k := ⟨row, _, rfl, fun _ _ h => h, hk⟩
theorem RowSN.map {α : Type} {f : α → List AV} {l : List α} {j : Nat} {k : List AV → (List AV → (List (List AV) → Prop) → Prop) → Prop} (hj : j < l.length) (hk : k (f (l[j]'hj)) fun x K => K ((l.map f).set j x)) : RowSN (l.map f) j k := ⟨_, _, by simp [hj], fun _ _ h => h, hk⟩
theorem LoopN.base {E : EC} (ok : E.Ok) {c : Code} {l : Fr} {H : AH} {k : XK} (Inv : Nat → ASt → Prop) (n0 : Nat) (st0 : ASt) (hre : Reabs E.C ⟨frm 0 l E.n, H⟩ st0) (h0 : Inv n0 st0)
    (hr : ∀ n st, Inv n st → ∃ (l1 : Fr) (H1 : AH) (k' : XK), st = ⟨frm 0 l1 E.n, H1⟩ ∧ ev E c l1 H1 k' ∧ (∀ l' H', k' .normal l' H' → ∃ m st', m < n ∧ Inv m st' ∧ Reabs E.C ⟨frm 0 l' E.n, H'⟩ st') ∧ ∀ e l' H', e ≠ .normal → k' e l' H' → k e l' H') : LoopN E c l H k := by
  refine ⟨AWp_loop_d Inv n0 st0 hre h0 ?_⟩; rintro K' n st hi hL; obtain ⟨l1, H1, k', rfl, h1, h2, h3⟩ := hr n st hi; refine (ev_ok ok _ _ _ _ h1).mono ?_; rintro e st ⟨l', H', rfl, hk⟩; by_cases he : e = .normal
  · subst he; obtain ⟨m, st', g1, g2, g3⟩ := h2 l' H' hk; exact hL.go _ _ _ g3 g1 g2
  exact hL.out _ _ he ⟨l', H', rfl, h3 e l' H' he hk⟩
inductive BackN2 {α β : Type} (E : EC) (fr : α → β → Fr) (hp : α → β → AH) (μ : α → β → Nat) (inv : α → β → Prop) (m : Nat) (l : Fr) (H : AH) : Prop
  | mk (a : α) (b : β) (hi : inv a b) (hm : μ a b < m) (hre : Reabs E.C ⟨frm 0 l E.n, H⟩ ⟨frm 0 (fr a b) E.n, hp a b⟩)
theorem LoopN.of2 {α β : Type} {E : EC} (ok : E.Ok) {c : Code} {l : Fr} {H : AH} {k : XK} (fr : α → β → Fr) (hp : α → β → AH) (μ : α → β → Nat) (inv : α → β → Prop) (a0 : α) (b0 : β) (h0 : inv a0 b0)
    (hre : Reabs E.C ⟨frm 0 l E.n, H⟩ ⟨frm 0 (fr a0 b0) E.n, hp a0 b0⟩)
    (hr : ∀ a b, inv a b → ev E c (fr a b) (hp a b) fun e l' H' => match e with
      | .normal => BackN2 E fr hp μ inv (μ a b) l' H'
      | e => k e l' H') : LoopN E c l H k :=
  .base ok (fun n st => ∃ a b, n = μ a b ∧ inv a b ∧ st = ⟨frm 0 (fr a b) E.n, hp a b⟩) (μ a0 b0) _ hre ⟨a0, b0, rfl, h0, rfl⟩ (by
    rintro n st ⟨a, b, rfl, hi, rfl⟩; refine ⟨_, _, _, rfl, hr a b hi, ?_, ?_⟩
    · rintro l' H' ⟨a', b', h1, h2, h3⟩; exact ⟨_, _, h2, ⟨a', b', rfl, h1, rfl⟩, h3⟩
    intro e l' H' he h
    cases e <;> first | exact absurd rfl he | exact h)
inductive BackN3 {α β γ : Type} (E : EC) (fr : α → β → γ → Fr) (hp : α → β → γ → AH) (μ : α → β → γ → Nat) (inv : α → β → γ → Prop) (m : Nat) (l : Fr) (H : AH) : Prop
  | mk (a : α) (b : β) (c : γ) (hi : inv a b c) (hm : μ a b c < m) (hre : Reabs E.C ⟨frm 0 l E.n, H⟩ ⟨frm 0 (fr a b c) E.n, hp a b c⟩)
theorem LoopN.of3 {α β γ : Type} {E : EC} (ok : E.Ok) {c : Code} {l : Fr} {H : AH} {k : XK} (fr : α → β → γ → Fr) (hp : α → β → γ → AH) (μ : α → β → γ → Nat) (inv : α → β → γ → Prop) (a0 : α) (b0 : β) (c0 : γ) (h0 : inv a0 b0 c0)
    (hre : Reabs E.C ⟨frm 0 l E.n, H⟩ ⟨frm 0 (fr a0 b0 c0) E.n, hp a0 b0 c0⟩)
    (hr : ∀ a b g, inv a b g → ev E c (fr a b g) (hp a b g) fun e l' H' => match e with
      | .normal => BackN3 E fr hp μ inv (μ a b g) l' H'
      | e => k e l' H') : LoopN E c l H k :=
  .base ok (fun n st => ∃ a b g, n = μ a b g ∧ inv a b g ∧ st = ⟨frm 0 (fr a b g) E.n, hp a b g⟩) (μ a0 b0 c0) _ hre ⟨a0, b0, c0, rfl, h0, rfl⟩ (by
    rintro n st ⟨a, b, g, rfl, hi, rfl⟩; refine ⟨_, _, _, rfl, hr a b g hi, ?_, ?_⟩
    · rintro l' H' ⟨a', b', g', h1, h2, h3⟩; exact ⟨_, _, h2, ⟨a', b', g', rfl, h1, rfl⟩, h3⟩
    intro e l' H' he h
    cases e <;> first | exact absurd rfl he | exact h)
inductive BackN4 {α β γ δ : Type} (E : EC) (fr : α → β → γ → δ → Fr) (hp : α → β → γ → δ → AH) (μ : α → β → γ → δ → Nat) (inv : α → β → γ → δ → Prop) (m : Nat) (l : Fr) (H : AH) : Prop
  | mk (a : α) (b : β) (c : γ) (d : δ) (hi : inv a b c d) (hm : μ a b c d < m) (hre : Reabs E.C ⟨frm 0 l E.n, H⟩ ⟨frm 0 (fr a b c d) E.n, hp a b c d⟩)
theorem LoopN.of4 {α β γ δ : Type} {E : EC} (ok : E.Ok) {c : Code} {l : Fr} {H : AH} {k : XK} (fr : α → β → γ → δ → Fr) (hp : α → β → γ → δ → AH) (μ : α → β → γ → δ → Nat) (inv : α → β → γ → δ → Prop) (a0 : α) (b0 : β) (c0 : γ) (d0 : δ) (h0 : inv a0 b0 c0 d0)
    (hre : Reabs E.C ⟨frm 0 l E.n, H⟩ ⟨frm 0 (fr a0 b0 c0 d0) E.n, hp a0 b0 c0 d0⟩)
    (hr : ∀ a b g d, inv a b g d → ev E c (fr a b g d) (hp a b g d) fun e l' H' => match e with
      | .normal => BackN4 E fr hp μ inv (μ a b g d) l' H'
      | e => k e l' H') : LoopN E c l H k :=
  .base ok (fun n st => ∃ a b g d, n = μ a b g d ∧ inv a b g d ∧ st = ⟨frm 0 (fr a b g d) E.n, hp a b g d⟩) (μ a0 b0 c0 d0) _ hre ⟨a0, b0, c0, d0, rfl, h0, rfl⟩ (by
    rintro n st ⟨a, b, g, d, rfl, hi, rfl⟩; refine ⟨_, _, _, rfl, hr a b g d hi, ?_, ?_⟩
    · rintro l' H' ⟨a', b', g', d', h1, h2, h3⟩; exact ⟨_, _, h2, ⟨a', b', g', d', rfl, h1, rfl⟩, h3⟩
    intro e l' H' he h
    cases e <;> first | exact absurd rfl he | exact h)
def sigma (ids : List Nat) (i : Nat) : Nat := ids.getD i i
def AllB (σ : Nat → Nat) (n : Nat) (H : AH) : List Nat → AH → Prop
  | [], [] => True
  | i :: is, b' :: bs => (∃ b, nthB H i = some b ∧ Blk σ n b b' ∧ (b'.live = true → b.live = true)) ∧ AllB σ n H is bs
  | _, _ => False
theorem AllB.get {σ : Nat → Nat} {n : Nat} {H : AH} : ∀ {ids : List Nat} {bs : AH}, AllB σ n H ids bs → ids.length = bs.length ∧ ∀ i, i < bs.length → ∃ j b b', ids[i]? = some j ∧ H[j]? = some b ∧ bs[i]? = some b' ∧ Blk σ n b b' ∧ (b'.live = true → b.live = true)
  | [], [], _ => ⟨rfl, fun i hi => by simp at hi⟩
  | j :: is, b' :: bs, h => by
    obtain ⟨h1, h2⟩ := h; obtain ⟨g1, g2⟩ := AllB.get h2; refine ⟨by simp [g1], fun i hi => ?_⟩
    cases i with
    | zero =>
      obtain ⟨b, e1, e2, e3⟩ := h1; exact ⟨j, b, b', rfl, by rw [← nthB_eq]; exact e1, rfl, e2, e3⟩
    | succ i => simpa using g2 i (by simpa using hi)
  | [], _ :: _, h => h.elim
  | _ :: _, [], h => h.elim
theorem Reabs.frmN {C : Ctx} {l r : Fr} {N : Nat} {H H' : AH} (ids : List Nat) (hs : AllS (sigma ids) H'.length l r) (hb : AllB (sigma ids) H'.length H ids H') (hnd : ids.Nodup)
    (hm : C.m ≤ H'.length ∧ ∀ i, i < C.m → sigma ids i = i) : Reabs C ⟨frm 0 l N, H⟩ ⟨frm 0 r N, H'⟩ := by
  obtain ⟨g1, g2⟩ := hb.get
  have hsig : ∀ i j, ids[i]? = some j → sigma ids i = j := fun i j h => by simp [sigma, List.getD_eq_getElem?_getD, h]
  refine Reabs.ren (sigma ids) (slots_frm hs N 0) (fun i hi => ?_) (fun i j hi hj he => ?_) (fun i hi => ⟨Nat.lt_of_lt_of_le hi hm.1, hm.2 i hi⟩)
  · obtain ⟨j, b, b', e1, e2, e3, e4, e5⟩ := g2 i hi; exact ⟨b, b', by rw [hsig i j e1]; exact e2, e3, e4, e5⟩
  simp only at hi hj; have hi' : i < ids.length := by omega
  have hj' : j < ids.length := by omega
  rw [hsig i _ (List.getElem?_eq_getElem hi'), hsig j _ (List.getElem?_eq_getElem hj')] at he; exact (List.getElem_inj hnd).1 he
theorem deepMap {α : Type} {f : α → List AV} {l : List α} {te : TypeId} (h : ∀ a, (f a).all AV.deep = true) : ABlk.allDeep (.rows (l.map f) te) := by
  intro row hr x hx; obtain ⟨a, _, rfl⟩ := List.mem_map.1 hr; exact List.all_eq_true.1 (h a) x hx
theorem deepLit {rs : List (List AV)} {te : TypeId} (h : (rs.all fun r => r.all AV.deep) = true) : ABlk.allDeep (.rows rs te) := by
  intro row hr x hx; exact List.all_eq_true.1 (List.all_eq_true.1 h row hr) x hx
theorem blkDeep {σ : Nat → Nat} {n : Nat} {b b' : ABlk} (h : b = b') (hd : b'.allDeep) : Blk σ n b b' := .inr (.inl ⟨h, hd⟩)
end
section
inductive GCallN (E : EC) (f : FuncId) (args : List AV) (H : AH) (kq : Bool → AV → Prop) (ke : AV → AH → Prop) : Prop
  | pure (y : AV) (h : Pu E.C.P E.C.G f args y) (hk : kq true y)
  | eff (y : AV) (H' : AH) (hb : HasBody E.C.P f) (h : AFnH E.C.P E.C.G f args H fun y' H2 => y' = y ∧ H2 = H') (hk : ke y H')
  | still (y : AV) (hb : HasBody E.C.P f) (h : AFnH E.C.P E.C.G f args H fun y' H2 => y' = y ∧ H2 = H) (hk : kq false y)
inductive InvN (E : EC) (r : AV) (name : String) (xs : List AV) (H : AH) (kq : Bool → AV → Prop) (ke : AV → AH → Prop) : Prop
  | mk (t : TypeId) (x : AV) (f : FuncId) (hr : r = .iface t x) (hm : imeth E.C.P t name = some f) (h : GCallN E f (x :: xs) H kq ke)
inductive Grow (H0 H' : AH) (k : Prop) : Prop
  | mk (t : AH) (h : H' = H0 ++ t) (hk : k)
def growK : Option AH → AH → Prop → Prop
  | none, _, k => k
  | some H0, H', k => Grow H0 H' k
def Good : Option AH → AH → Prop
  | none, _ => True
  | some H0, H => ∃ t, H = H0 ++ t
theorem growK_ok {g : Option AH} {H' : AH} {k : Prop} (h : growK g H' k) : Good g H' ∧ k := by
  cases g with
  | none => exact ⟨trivial, h⟩
  | some H0 => obtain ⟨t, h1, h2⟩ := h; exact ⟨⟨t, h1⟩, h2⟩
section
variable (E : EC) (g : Option AH)
def pureK (l : Fr) (op : Op) : Bool :=
  match op with
  | .load _ a => match evo E l a with
    | .pi _ => true
    | .pm id _ _ => match g with
      | some H0 => Nat.blt id H0.length
      | none => false
    | _ => false
  | _ => false
def seenK (l : Fr) (op : Op) : Bool :=
  match blindK op with
  | true => true
  | false => pureK E g l op
def gev1 (l : Fr) (H : AH) (op : Op) (ty : TypeId) (kq : Bool → AV → Prop) (ke : AV → AH → Prop) : Prop :=
  match op with
  | .call c => match c.callee with
    | .value fo => match fo with
      | .func f => mapE E l c.args.toList fun xs => GCallN E f xs H kq ke
      | fo => match evo E l fo with
        | .fn (.func f) fs cs => mapE E l c.args.toList fun xs => forceL (fs ++ xs ++ cs) fun zs => GCallN E f zs H kq ke
        | _ => False
    | .invoke ro name => mapE E l c.args.toList fun xs => InvN E (evo E l ro) name xs H kq ke
    | _ => match quietK op with
      | true => evop E l H op ty fun y _ => kq (seenK E g l op) y
      | false => evop E l H op ty ke
  | _ => match quietK op with
    | true => evop E l H op ty fun y _ => kq (seenK E g l op) y
    | false => evop E l H op ty ke
abbrev GK := Fr → AH → List Nat → List Nat → Prop
def snocQ (free : Bool) (Q : List Nat) (i : Nat) : List Nat :=
  match free with
  | true => Q
  | false => Q ++ [i]
def gevF (all : List Oper) (o : Oper) (self : Fr → AH → Nat → List Nat → List Nat → GK → Prop) (l : Fr) (H : AH) (i : Nat) (Ef Q : List Nat) (k : GK) : Prop :=
  match o with
  | ⟨dst, op, ty, _, _, none⟩ => gev1 E g l H op ty (fun free y => putFK l dst y fun l' => self l' H (i + 1) Ef (snocQ free Q i) k) (fun y H' => growK g H' (putFK l dst y fun l' => self l' H' (i + 1) (Ef ++ [i]) Q k))
  | ⟨dst, op, ty, _, _, some (j, b)⟩ => match dstAt all j with
    | some d => match Nat.blt d E.n with
      | true => guardN (alk d l) b (gev1 E g l H op ty (fun free y => putFK l dst y fun l' => self l' H (i + 1) Ef (snocQ free Q i) k) (fun y H' => growK g H' (putFK l dst y fun l' => self l' H' (i + 1) (Ef ++ [i]) Q k)))
          (putFK l dst (.sc undef) fun l' => self l' H (i + 1) Ef Q k)
      | false => False
    | none => False
def gev (all os : List Oper) : Fr → AH → Nat → List Nat → List Nat → GK → Prop :=
  List.rec (motive := fun _ => Fr → AH → Nat → List Nat → List Nat → GK → Prop) (fun l H _ Ef Q k => k l H Ef Q) (fun o _ self => gevF E g all o self) os
theorem gev_cons (all : List Oper) (o : Oper) (os : List Oper) (l : Fr) (H : AH) (i : Nat) (Ef Q : List Nat) (k : GK) : gev E g all (o :: os) l H i Ef Q k = gevF E g all o (gev E g all os) l H i Ef Q k := rfl
end
def GFact (g : Option AH) (C : Ctx) (ops : Array Oper) (fr0 : List AV) (y : Nat → AV) (Hs : Nat → AH) (Eff Qf : List Nat) (i : Nat) (o : Oper) : Prop :=
  let G := fun t => ∃ j b o' d x, o.guard = some (j, b) ∧ j < i ∧ ops[j]? = some o' ∧ o'.dst = some d ∧ (frT ops y fr0 i)[d]? = some x ∧ wantedV x b = some t
  ∃ Ef Ex : List Nat, (∀ e ∈ Ef, e < i) ∧ (∀ e ∈ Ex, i < e) ∧
    ((Eff = Ef ++ Ex ∧ G false ∧ y i = .sc undef) ∨
     ((o.guard = none ∨ G true) ∧ ((Eff = Ef ++ i :: Ex ∧ Does C o (frT ops y fr0 i) (Hs Ef.length) (y i) (Hs (Ef.length + 1))) ∨
        (Eff = Ef ++ Ex ∧ Does C o (frT ops y fr0 i) (Hs Ef.length) (y i) (Hs Ef.length) ∧ (i ∈ Qf ∨ ∀ H, Good g H → Does C o (frT ops y fr0 i) H (y i) H)))))
theorem does_eff {C : Ctx} {o : Oper} {fr : List AV} {H : AH} {y y' : AV} {H' : AH} (h : astep C.P C.G ⟨fr, H⟩ o.op o.type = some (y, H')) (hw : Weaker y y') : Does C o fr H y' H' := by
  intro fr' hfr; refine AOp_stepW (y := y) ?_ hw rfl; rw [← h, ← astepE_eq, ← astepE_eq]
  exact astepE_congr fun x hx => hfr x hx
theorem does_callF {C : Ctx} {dst : Option Tmp} {g : FuncId} {fo : Operand} {args : Array Operand} {ats : Array TypeId} {ty : TypeId} {pos : String} {af : Array Edge} {gu : Option (Nat × Bool)} {fr : List AV} {H H' : AH} {y : AV} {xs fs cs : List AV}
    (hfo : (⟨fr, H⟩ : ASt).ev C.G fo = .fn (.func g) fs cs) (hb : HasBody C.P g) (h : AFnH C.P C.G g (fs ++ xs ++ cs) H fun y' H2 => y' = y ∧ H2 = H') (hE : Enters C.P) (hx : args.toList.map ((⟨fr, H⟩ : ASt).ev C.G) = xs) :
    Does C ⟨dst, .call { callee := .value fo, args := args, argTypes := ats }, ty, pos, af, gu⟩ fr H y H' := fun fr' hfr => by
  obtain ⟨fn, c, hf, hbd⟩ := hb; refine AOp_call (Q := fun y' H2 => y' = y ∧ H2 = H') (fs := fs) (cs := cs) rfl (by rw [hfr fo (by simp [Op.operands, Call.operands]), hfo]; rfl) hE hf hbd ?_ ?_
  · have e : args.toList.map ((⟨fr', H⟩ : ASt).ev C.G) = xs := by
      rw [← hx]
      exact List.map_congr_left fun x hx => hfr x (by simp [Op.operands, Call.operands]; right; simpa using hx)
    rw [e]; exact h
  rintro y' H2 ⟨rfl, rfl⟩; rfl
theorem does_callE {C : Ctx} {dst : Option Tmp} {g : FuncId} {args : Array Operand} {ats : Array TypeId} {ty : TypeId} {pos : String} {af : Array Edge} {gu : Option (Nat × Bool)} {fr : List AV} {H H' : AH} {y : AV} {xs : List AV}
    (hb : HasBody C.P g) (h : AFnH C.P C.G g xs H fun y' H2 => y' = y ∧ H2 = H') (hE : Enters C.P) (hx : args.toList.map ((⟨fr, H⟩ : ASt).ev C.G) = xs) :
    Does C ⟨dst, .call { callee := .value (.func g), args := args, argTypes := ats }, ty, pos, af, gu⟩ fr H y H' := fun fr' hfr => by
  obtain ⟨fn, c, hf, hbd⟩ := hb; refine AOp_call (Q := fun y' H2 => y' = y ∧ H2 = H') (fs := []) (cs := []) rfl (by simp [ASt.ev, afunc]) hE hf hbd ?_ ?_
  · simp only [List.nil_append, List.append_nil]
    have e : args.toList.map ((⟨fr', H⟩ : ASt).ev C.G) = xs := by
      rw [← hx]
      exact List.map_congr_left fun x hx => hfr x (by simp [Op.operands, Call.operands]; right; simpa using hx)
    rw [e]; exact h
  rintro y' H2 ⟨rfl, rfl⟩; rfl
theorem does_inv {C : Ctx} {dst : Option Tmp} {g : FuncId} {ro : Operand} {name : String} {t : TypeId} {x : AV} {args : Array Operand} {ats : Array TypeId} {ty : TypeId} {pos : String} {af : Array Edge} {gu : Option (Nat × Bool)} {fr : List AV} {H H' : AH} {y : AV} {xs : List AV}
    (hro : (⟨fr, H⟩ : ASt).ev C.G ro = .iface t x) (hm : imeth C.P t name = some g) (hb : HasBody C.P g) (h : AFnH C.P C.G g (x :: xs) H fun y' H2 => y' = y ∧ H2 = H') (hE : Enters C.P) (hx : args.toList.map ((⟨fr, H⟩ : ASt).ev C.G) = xs) :
    Does C ⟨dst, .call { callee := .invoke ro name, args := args, argTypes := ats }, ty, pos, af, gu⟩ fr H y H' := fun fr' hfr => by
  obtain ⟨fn, c, hf, hbd⟩ := hb; refine AOp_invoke (Q := fun y' H2 => y' = y ∧ H2 = H') (t := t) (x := x) rfl (by rw [hfr ro (by simp [Op.operands, Call.operands]), hro]) hm hE hf hbd ?_ ?_
  · have e : args.toList.map ((⟨fr', H⟩ : ASt).ev C.G) = xs := by
      rw [← hx]
      exact List.map_congr_left fun x hx => hfr x (by simp [Op.operands, Call.operands]; right; simpa using hx)
    rw [e]; exact h
  rintro y' H2 ⟨rfl, rfl⟩; rfl
section
variable {E : EC} {G0 : Option AH} (ok : E.Ok)
include ok
theorem gev1_ok {l : Fr} {H : AH} {dst : Option Tmp} {op : Op} {ty : TypeId} {pos : String} {af : Array Edge} {g : Option (Nat × Bool)} {kq : Bool → AV → Prop} {ke : AV → AH → Prop} (hG : Good G0 H) (h : gev1 E G0 l H op ty kq ke) :
    (∃ free y, Does E.C ⟨dst, op, ty, pos, af, g⟩ (frm 0 l E.n) H y H ∧ (free = true → ∀ H', Good G0 H' → Does E.C ⟨dst, op, ty, pos, af, g⟩ (frm 0 l E.n) H' y H') ∧ kq free y) ∨
    (∃ y H', Does E.C ⟨dst, op, ty, pos, af, g⟩ (frm 0 l E.n) H y H' ∧ ke y H') := by
  have quiet : quietK op = true → evop E l H op ty (fun y _ => kq (seenK E G0 l op) y) →
      (∃ free y, Does E.C ⟨dst, op, ty, pos, af, g⟩ (frm 0 l E.n) H y H ∧ (free = true → ∀ H', Good G0 H' → Does E.C ⟨dst, op, ty, pos, af, g⟩ (frm 0 l E.n) H' y H') ∧ kq free y) := by
    intro hq h; obtain ⟨y, y', H', h1, h2, h3⟩ := evop_ok ok h; refine ⟨_, y', does_weak (o := ⟨dst, op, ty, pos, af, g⟩) hq h1 h2, fun hb H2 hG2 => ?_, h3⟩; refine does_weak (o := ⟨dst, op, ty, pos, af, g⟩) (y := y) (H' := H2) hq ?_ h2; have e1 := astepE_eq E.C.P E.C.G ⟨frm 0 l E.n, H⟩ op ty; have e2 := astepE_eq E.C.P E.C.G ⟨frm 0 l E.n, H2⟩ op ty; simp only at e1 e2 ⊢
    have hb : blindK op = true ∨ pureK E G0 l op = true := by
      unfold seenK at hb; split at hb
      rename_i hbl; exact .inl hbl; exact .inr hb
    rcases hb with hb | hb
    case inr =>
      obtain ⟨t, a, rfl, hc⟩ : ∃ t a, op = .load t a ∧ ((∃ cells, evo E l a = .pi cells) ∨ ∃ id r c H0, evo E l a = .pm id r c ∧ G0 = some H0 ∧ id < H0.length) := by
        clear e1 e2 h1 h; unfold pureK at hb
        cases op with
        | load t a =>
          simp only at hb; split at hb
          · rename_i cells hc; exact ⟨t, a, rfl, .inl ⟨cells, hc⟩⟩
          · rename_i id r c hc
            cases G0 with
            | none => cases hb
            | some H0 => exact ⟨t, a, rfl, .inr ⟨id, r, c, H0, hc, rfl, by simpa [Nat.blt_eq] using hb⟩⟩
          cases hb
        | _ => cases hb
      rcases hc with ⟨cells, hc⟩ | ⟨id, r, c, H0, hc, rfl, hid⟩
      · have ha : ∀ H3 : AH, (⟨frm 0 l E.n, H3⟩ : ASt).ev E.C.G a = .pi cells := fun H3 => by rw [← evo_eq, hc]
        simp only [astep, ha, aload] at h1 ⊢
        cases hp : apart E.C.P t cells 0 with
        | none => rw [hp] at h1; cases h1
        | some z =>
          rw [hp] at h1
          cases h1
          rfl
      have ha : ∀ H3 : AH, (⟨frm 0 l E.n, H3⟩ : ASt).ev E.C.G a = .pm id r c := fun H3 => by rw [← evo_eq, hc]
      obtain ⟨t1, rfl⟩ := hG; obtain ⟨t2, rfl⟩ := hG2; have hg : (H0 ++ t2)[id]? = (H0 ++ t1)[id]? := by rw [List.getElem?_append_left hid, List.getElem?_append_left hid]
      simp only [astep, ha, aload, hg] at h1 ⊢; generalize (H0 ++ t1)[id]? = bb at h1 ⊢; clear e1 e2 h hg
      cases bb with
      | none => cases h1
      | some b =>
        cases b with
        | rows rs te =>
          simp only at h1 ⊢
          cases hr : rs[r]? with
          | none => rw [hr] at h1; cases h1
          | some row =>
            rw [hr] at h1; simp only at h1 ⊢
            cases hp : apart E.C.P t (row.drop c) 0 with
            | none => rw [hp] at h1; cases h1
            | some z =>
              rw [hp] at h1
              cases h1
              rfl
        | _ => cases h1
    rw [← e2]; rw [← e1] at h1; have := astepE_blind (H' := H2) hb h1; have hev : (⟨frm 0 l E.n, H2⟩ : ASt).ev E.C.G = (⟨frm 0 l E.n, H⟩ : ASt).ev E.C.G := by funext x; cases x <;> rfl
    rw [hev]; exact this
  have eff : evop E l H op ty ke → (∃ y H', Does E.C ⟨dst, op, ty, pos, af, g⟩ (frm 0 l E.n) H y H' ∧ ke y H') := by
    intro h; obtain ⟨y, y', H', h1, h2, h3⟩ := evop_ok ok h; exact ⟨y', H', does_eff (o := ⟨dst, op, ty, pos, af, g⟩) h1 h2, h3⟩
  unfold gev1 at h; split at h
  · rename_i c; obtain ⟨cal, args, ats⟩ := c; simp only at h; split at h
    · rename_i fo; split at h
      · rename_i f; rw [mapE_eq] at h
        have hev : ∀ H2, args.toList.map ((⟨frm 0 l E.n, H2⟩ : ASt).ev E.C.G) = args.toList.map (evo E l) := fun H2 => by rw [← show evo E l = (⟨frm 0 l E.n, H2⟩ : ASt).ev E.C.G from funext (evo_eq E l H2)]
        cases h with
        | pure y h hk =>
          obtain ⟨⟨fn, c, hf, hb⟩, hp⟩ := h; exact .inl ⟨true, y, does_pure hp ok.ent hf hb (hev H), fun _ H2 _ => does_pure hp ok.ent hf hb (hev H2), hk⟩
        | eff y H' hb h hk => exact .inr ⟨y, H', does_callE hb h ok.ent (hev H), hk⟩
        | still y hb h hk => exact .inl ⟨false, y, does_callE hb h ok.ent (hev H), fun h => (by cases h), hk⟩
      split at h
      · rename_i f fs cs hfo; rw [mapE_eq, forceL_eq] at h
        have hev : ∀ H2, args.toList.map ((⟨frm 0 l E.n, H2⟩ : ASt).ev E.C.G) = args.toList.map (evo E l) := fun H2 => by rw [← show evo E l = (⟨frm 0 l E.n, H2⟩ : ASt).ev E.C.G from funext (evo_eq E l H2)]
        have hfe : ∀ H2, (⟨frm 0 l E.n, H2⟩ : ASt).ev E.C.G fo = .fn (.func f) fs cs := fun H2 => by rw [← evo_eq, hfo]
        cases h with
        | pure y h hk => exact .inl ⟨true, y, does_callF (hfe H) h.1 (h.2 H) ok.ent (hev H), fun _ H2 _ => does_callF (hfe H2) h.1 (h.2 H2) ok.ent (hev H2), hk⟩
        | eff y H' hb h hk => exact .inr ⟨y, H', does_callF (hfe H) hb h ok.ent (hev H), hk⟩
        | still y hb h hk => exact .inl ⟨false, y, does_callF (hfe H) hb h ok.ent (hev H), fun h => (by cases h), hk⟩
      exact h.elim
    · rename_i ro name; rw [mapE_eq] at h; obtain ⟨t, x, f, hr, hm, h⟩ := h
      have hev : ∀ H2, args.toList.map ((⟨frm 0 l E.n, H2⟩ : ASt).ev E.C.G) = args.toList.map (evo E l) := fun H2 => by rw [← show evo E l = (⟨frm 0 l E.n, H2⟩ : ASt).ev E.C.G from funext (evo_eq E l H2)]
      have hre : ∀ H2, (⟨frm 0 l E.n, H2⟩ : ASt).ev E.C.G ro = .iface t x := fun H2 => by rw [← evo_eq, hr]
      cases h with
      | pure y h hk => exact .inl ⟨true, y, does_inv (hre H) hm h.1 (h.2 H) ok.ent (hev H), fun _ H2 _ => does_inv (hre H2) hm h.1 (h.2 H2) ok.ent (hev H2), hk⟩
      | eff y H' hb h hk => exact .inr ⟨y, H', does_inv (hre H) hm hb h ok.ent (hev H), hk⟩
      | still y hb h hk => exact .inl ⟨false, y, does_inv (hre H) hm hb h ok.ent (hev H), fun h => (by cases h), hk⟩
    split at h
    exact .inl (quiet (by assumption) h); exact .inr (eff h)
  split at h
  exact .inl (quiet (by assumption) h); exact .inr (eff h)
omit ok in
theorem mem_snocQ {free : Bool} {Q : List Nat} {i q : Nat} (h : q ∈ Q) : q ∈ snocQ free Q i := by
  cases free
  exact List.mem_append_left _ h; exact h
set_option maxHeartbeats 1000000 in
theorem gev_ok {ops : Array Oper} {fr0 : List AV} {k : GK} : ∀ (l done : List Oper) (y0 : Nat → AV) (Hs0 : Nat → AH) (Ef Q : List Nat) (lf : Fr), ops.toList = done ++ l → frm 0 lf E.n = frT ops y0 fr0 done.length → (∀ e ∈ Ef, e < done.length) →
    (∀ (i : Nat) (o : Oper) j b, ops[i]? = some o → o.guard = some (j, b) → j < i) → (∀ c, c ≤ Ef.length → Good G0 (Hs0 c)) → gev E G0 ops.toList l lf (Hs0 Ef.length) done.length Ef Q k →
    ∃ (y : Nat → AV) (Hs : Nat → AH) (Ex Qf : List Nat) (lf' : Fr), (∀ j, j < done.length → y j = y0 j) ∧ (∀ c, c ≤ Ef.length → Hs c = Hs0 c) ∧ (∀ e ∈ Ex, done.length ≤ e ∧ e < ops.size) ∧ (∀ q ∈ Q, q ∈ Qf) ∧
      frm 0 lf' E.n = frT ops y fr0 ops.size ∧ k lf' (Hs (Ef ++ Ex).length) (Ef ++ Ex) Qf ∧ (∀ c, c ≤ (Ef ++ Ex).length → Good G0 (Hs c)) ∧ ∀ i o, done.length ≤ i → ops[i]? = some o → GFact G0 E.C ops fr0 y Hs (Ef ++ Ex) Qf i o
  | [], done, y0, Hs0, Ef, Q, lf, ho, hfr, hEf, hg, hgood, h => by
    have hs : ops.size = done.length := by rw [← Array.length_toList, ho]; simp
    refine ⟨y0, Hs0, [], Q, lf, fun _ _ => rfl, fun _ _ => rfl, (fun e he => by cases he), fun q hq => hq, (by rw [hs]; exact hfr), (by rw [List.append_nil]; exact h), (by rw [List.append_nil]; exact hgood), fun i o hi hio => ?_⟩; have := (Array.getElem?_eq_some_iff.1 hio).1; omega
  | o :: l, done, y0, Hs0, Ef, Q, lf, ho, hfr, hEf, hg, hgood, h => by
    have hoi : ops[done.length]? = some o := by rw [← Array.getElem?_toList, ho, List.getElem?_append_right (Nat.le_refl _)]; simp
    have hlt : done.length < ops.size := (Array.getElem?_eq_some_iff.1 hoi).1; have ho' : ops.toList = (done ++ [o]) ++ l := by rw [ho]; simp
    have hlen : (done ++ [o]).length = done.length + 1 := by simp
    have step : ∀ (v : AV) (H1 : AH) (Ef1 Q1 : List Nat) (eff : Bool), Ef1 = (if eff then Ef ++ [done.length] else Ef) → (eff = false → H1 = Hs0 Ef.length) → Good G0 H1 → (∀ q ∈ Q, q ∈ Q1) →
        gev E G0 ops.toList l (putF lf o.dst v) H1 (done.length + 1) Ef1 Q1 k →
        (∀ (y : Nat → AV) (Hs : Nat → AH) (Ex Qf : List Nat), (∀ j, j < done.length → y j = y0 j) → y done.length = v → (∀ c, c ≤ Ef.length → Hs c = Hs0 c) → (eff = true → Hs (Ef.length + 1) = H1) → (∀ e ∈ Ex, done.length < e) → (∀ q ∈ Q1, q ∈ Qf) → GFact G0 E.C ops fr0 y Hs (Ef1 ++ Ex) Qf done.length o) →
        ∃ (y : Nat → AV) (Hs : Nat → AH) (Ex Qf : List Nat) (lf' : Fr), (∀ j, j < done.length → y j = y0 j) ∧ (∀ c, c ≤ Ef.length → Hs c = Hs0 c) ∧ (∀ e ∈ Ex, done.length ≤ e ∧ e < ops.size) ∧ (∀ q ∈ Q, q ∈ Qf) ∧
          frm 0 lf' E.n = frT ops y fr0 ops.size ∧ k lf' (Hs (Ef ++ Ex).length) (Ef ++ Ex) Qf ∧ (∀ c, c ≤ (Ef ++ Ex).length → Good G0 (Hs c)) ∧ ∀ i o, done.length ≤ i → ops[i]? = some o → GFact G0 E.C ops fr0 y Hs (Ef ++ Ex) Qf i o := by
      intro v H1 Ef1 Q1 eff hEf1 hH1 hG1 hQ1 h1 h2
      let y1 : Nat → AV := fun j => if j = done.length then v else y0 j
      let Hs1 : Nat → AH := fun c => if c ≤ Ef.length then Hs0 c else H1
      have e1 : frT ops y1 fr0 done.length = frT ops y0 fr0 done.length := frT_congr _ fun j hj => by simp only [y1]; rw [if_neg (by omega)]
      have e2 : y1 done.length = v := by simp [y1]
      have e3 : Hs1 Ef1.length = H1 := by
        cases eff with
        | true =>
          simp only [if_true] at hEf1; subst hEf1; simp only [List.length_append, List.length_singleton, Hs1]; rw [if_neg (by omega)]
        | false => simp only [Bool.false_eq_true, if_false] at hEf1; subst hEf1; simp only [Hs1, Nat.le_refl, if_true]; exact (hH1 rfl).symm
      have hfr1 : frm 0 (putF lf o.dst v) E.n = frT ops y1 fr0 (done ++ [o]).length := by
        rw [hlen]; have p1 := put_frT (y := y1) (fr0 := fr0) (H := H1) (H' := H1) hoi; rw [e1, e2, ← hfr, putF_eq] at p1; exact (ASt.mk.inj p1).1
      have hEf1' : ∀ e ∈ Ef1, e < (done ++ [o]).length := by
        intro e he; rw [hlen]
        cases eff with
        | true =>
          simp only [if_true] at hEf1; subst hEf1
          rcases List.mem_append.1 he with he | he
          have := hEf e he; omega; rw [List.mem_singleton.1 he]; omega
        | false =>
          simp only [Bool.false_eq_true, if_false] at hEf1; subst hEf1; have := hEf e he; omega
      have hgood1 : ∀ c, c ≤ Ef1.length → Good G0 (Hs1 c) := fun c hc => by
        simp only [Hs1]; split
        exact hgood c (by assumption); exact hG1
      obtain ⟨y, Hs, Ex, Qf, lf', g1, g2, g3, g4, g5, g6, g8, g7⟩ := gev_ok l (done ++ [o]) y1 Hs1 Ef1 Q1 (putF lf o.dst v) ho' hfr1 hEf1' hg hgood1 (by rw [e3, hlen]; exact h1)
      have hy0 : ∀ j, j < done.length → y j = y0 j := fun j hj => by
        rw [g1 j (by rw [hlen]; omega)]; simp only [y1]; rw [if_neg (by omega)]
      have hyv : y done.length = v := by rw [g1 _ (by rw [hlen]; omega), e2]
      have hEfle : Ef.length ≤ Ef1.length := by
        cases eff with
        | true => simp only [if_true] at hEf1; subst hEf1; simp
        | false => simp only [Bool.false_eq_true, if_false] at hEf1; subst hEf1; exact Nat.le_refl _
      have hHs : ∀ c, c ≤ Ef.length → Hs c = Hs0 c := fun c hc => by
        rw [g2 c (by omega)]; simp only [Hs1]; rw [if_pos hc]
      have hHs1 : eff = true → Hs (Ef.length + 1) = H1 := fun he => by
        subst he; simp only [if_true] at hEf1; subst hEf1; rw [g2 _ (by simp)]; simp only [Hs1]; rw [if_neg (by omega)]
      obtain ⟨Ex', hEx', hEx2⟩ : ∃ Ex', Ef1 ++ Ex = Ef ++ Ex' ∧ ∀ e ∈ Ex', done.length ≤ e ∧ e < ops.size := by
        cases eff with
        | true =>
          simp only [if_true] at hEf1; subst hEf1; refine ⟨done.length :: Ex, by simp, fun e he => ?_⟩
          rcases List.mem_cons.1 he with rfl | he
          exact ⟨Nat.le_refl _, hlt⟩; have := g3 e he; rw [hlen] at this; omega
        | false =>
          simp only [Bool.false_eq_true, if_false] at hEf1; subst hEf1; exact ⟨Ex, rfl, fun e he => by have := g3 e he; rw [hlen] at this; omega⟩
      refine ⟨y, Hs, Ex', Qf, lf', hy0, hHs, hEx2, fun q hq => g4 q (hQ1 q hq), g5, by rw [← hEx']; exact g6, by rw [← hEx']; exact g8, fun i o' hi hio => ?_⟩; rw [← hEx']
      rcases Nat.lt_or_ge done.length i with hlt' | hge
      exact g7 i o' (by rw [hlen]; omega) hio; have : i = done.length := by omega
      subst this; rw [hoi] at hio
      cases hio
      exact h2 y Hs Ex Qf hy0 hyv hHs hHs1 (fun e he => by have := g3 e he; rw [hlen] at this; omega) g4
    have go : ∀ (hgd : ∀ y : Nat → AV, (∀ j, j < done.length → y j = y0 j) → (o.guard = none ∨ ∃ j b o' d x, o.guard = some (j, b) ∧ j < done.length ∧ ops[j]? = some o' ∧ o'.dst = some d ∧ (frT ops y fr0 done.length)[d]? = some x ∧ wantedV x b = some true)),
        gev1 E G0 lf (Hs0 Ef.length) o.op o.type (fun free y => putFK lf o.dst y fun l' => gev E G0 ops.toList l l' (Hs0 Ef.length) (done.length + 1) Ef (snocQ free Q done.length) k) (fun y H' => growK G0 H' (putFK lf o.dst y fun l' => gev E G0 ops.toList l l' H' (done.length + 1) (Ef ++ [done.length]) Q k)) →
        ∃ (y : Nat → AV) (Hs : Nat → AH) (Ex Qf : List Nat) (lf' : Fr), (∀ j, j < done.length → y j = y0 j) ∧ (∀ c, c ≤ Ef.length → Hs c = Hs0 c) ∧ (∀ e ∈ Ex, done.length ≤ e ∧ e < ops.size) ∧ (∀ q ∈ Q, q ∈ Qf) ∧
          frm 0 lf' E.n = frT ops y fr0 ops.size ∧ k lf' (Hs (Ef ++ Ex).length) (Ef ++ Ex) Qf ∧ (∀ c, c ≤ (Ef ++ Ex).length → Good G0 (Hs c)) ∧ ∀ i o, done.length ≤ i → ops[i]? = some o → GFact G0 E.C ops fr0 y Hs (Ef ++ Ex) Qf i o := by
      intro hgd h
      rcases gev1_ok ok (dst := o.dst) (pos := o.pos) (af := o.after) (g := o.guard) (hgood _ (Nat.le_refl _)) h with ⟨free, v, d1, d2, h1⟩ | ⟨v, H1, d1, h1⟩
      · rw [putFK_eq] at h1
        refine step v (Hs0 Ef.length) Ef (snocQ free Q done.length) false rfl (fun _ => rfl) (hgood _ (Nat.le_refl _)) (fun q hq => mem_snocQ hq) h1 fun y Hs Ex Qf hy hv hH hH1 hEx hQ => ?_
        refine ⟨Ef, Ex, hEf, hEx, .inr ⟨hgd y hy, .inr ⟨rfl, ?_, ?_⟩⟩⟩
        · rw [hv, frT_congr _ hy, hH _ (Nat.le_refl _), ← hfr]; exact d1
        cases free with
        | true => exact .inr fun H2 hG2 => by rw [hv, frT_congr _ hy, ← hfr]; exact d2 rfl H2 hG2
        | false => exact .inl (hQ _ (List.mem_append_right _ (List.mem_singleton.2 rfl)))
      obtain ⟨hG1, h1⟩ := growK_ok h1; rw [putFK_eq] at h1
      refine step v H1 (Ef ++ [done.length]) Q true rfl (fun h => by cases h) hG1 (fun q hq => hq) h1 fun y Hs Ex Qf hy hv hH hH1 hEx hQ => ?_
      refine ⟨Ef, Ex, hEf, hEx, .inr ⟨hgd y hy, .inl ⟨by simp, ?_⟩⟩⟩; rw [hv, frT_congr _ hy, hH _ (Nat.le_refl _), hH1 rfl, ← hfr]; exact d1
    cases hgd : o.guard with
    | none =>
      refine go (fun y hy => .inl hgd) ?_; obtain ⟨dst, op, ty, pos, af, g⟩ := o; simp only at hgd; subst hgd; rw [gev_cons] at h; exact h
    | some jb =>
      obtain ⟨j, b⟩ := jb; have hji := hg _ _ _ _ hoi hgd; obtain ⟨dst, op, ty, pos, af, g⟩ := o; simp only at hgd; subst hgd; rw [gev_cons] at h; simp only [gevF] at h; split at h
      case h_2 => exact h.elim
      rename_i d hd; split at h
      case h_2 => exact h.elim
      rename_i hdl; have hdl' : d < E.n := by simpa [Nat.blt_eq] using hdl
      obtain ⟨t, h1, h2, h3⟩ := guardN_ok h; rw [dstAt_eq, Array.getElem?_toList] at hd
      obtain ⟨o', ho1, ho2⟩ : ∃ o', ops[j]? = some o' ∧ o'.dst = some d := by
        cases hq : ops[j]? with
        | none => rw [hq] at hd; cases hd
        | some o' => rw [hq] at hd; exact ⟨o', rfl, hd⟩
      have hx : ∀ y : Nat → AV, (∀ j, j < done.length → y j = y0 j) → (frT ops y fr0 done.length)[d]? = some (alk d lf) := fun y hy => by rw [frT_congr _ hy, ← hfr, frm_get, if_pos hdl', Nat.zero_add]
      cases t with
      | true => exact go (fun y hy => .inr ⟨j, b, o', d, _, rfl, hji, ho1, ho2, hx y hy, h1⟩) (h2 rfl)
      | false =>
        have h3' := h3 rfl; rw [putFK_eq] at h3'
        refine step (.sc undef) (Hs0 Ef.length) Ef Q false rfl (fun _ => rfl) (hgood _ (Nat.le_refl _)) (fun q hq => hq) h3' fun y Hs Ex Qf hy hv hH hH1 hEx hQ => ?_
        exact ⟨Ef, Ex, hEf, hEx, .inl ⟨rfl, ⟨j, b, o', d, _, rfl, hji, ho1, ho2, hx y hy, h1⟩, hv⟩⟩
end
def chkG (anc : Nat → Nat → Bool) (Ef Q : List Nat) : Bool :=
  (Ef.all fun a => Ef.all fun b => !decide (a < b) || anc b a) && Q.all fun q => Ef.all fun e => (!decide (e < q) || anc q e) && (!decide (q < e) || anc e q)
theorem place_not {Ex Ef Ex2 : List Nat} {z : Nat} (f1 : ∀ e ∈ Ef, e < z) (f2 : ∀ e ∈ Ex2, z < e) (he : Ex = Ef ++ Ex2) (h : z ∈ Ex) : False := by
  rw [he] at h
  rcases List.mem_append.1 h with h | h
  exact absurd (f1 _ h) (Nat.lt_irrefl _); exact absurd (f2 _ h) (Nat.lt_irrefl _)
theorem place_one {Ex Ef Ex2 : List Nat} {z p : Nat} (f1 : ∀ e ∈ Ef, e < z) (f2 : ∀ e ∈ Ex2, z < e) (he : Ex = Ef ++ z :: Ex2) (hp : Ex[p]? = some z) : p = Ef.length := by
  rw [he] at hp
  rcases Nat.lt_trichotomy p Ef.length with h | h | h
  · rw [List.getElem?_append_left h] at hp; exact absurd (f1 _ (List.mem_of_getElem? hp)) (Nat.lt_irrefl _)
  exact h; rw [List.getElem?_append_right (by omega), show p - Ef.length = (p - Ef.length - 1) + 1 by omega, List.getElem?_cons_succ] at hp; exact absurd (f2 _ (List.mem_of_getElem? hp)) (Nat.lt_irrefl _)
theorem DrawN.genG {E : EC} (ok : E.Ok) (G0 : Option AH) {id : Nat} {ops : List Oper} {l : Fr} {H : AH} {k : Fr → AH → Prop} (hG0 : Good G0 H) (hS : chkS E.n ops (bits (ancs ops [])) ops 0 = true)
    (h : gev E G0 ops ops l H 0 [] [] fun l' H' Ef Q => Need (chkG (bits (ancs ops [])) Ef Q = true) (k l' H')) : DrawN E id ops l H k := by
  refine ⟨?_⟩
  have hget : ∀ (i : Nat) (o : Oper), ops.toArray[i]? = some o → ops[i]? = some o := fun i o h => by simpa using h
  have hguard : ∀ (i : Nat) (o : Oper) j b, ops.toArray[i]? = some o → o.guard = some (j, b) → j < i := fun i o j b hi hgd => by
    have := (chkS_get ops 0 i o hS (hget i o hi)).2.2.2 j b hgd; omega
  obtain ⟨y, Hs, Ex, Qf, lf', -, g2, g3, -, g5, g6, g8, g7⟩ := gev_ok (G0 := G0) ok (ops := ops.toArray) (fr0 := frm 0 l E.n) (k := fun l' H' Ef Q => Need (chkG (bits (ancs ops [])) Ef Q = true) (k l' H')) ops [] (fun _ => .any) (fun _ => H) [] [] l (by simp) rfl (fun e he => by cases he) hguard (fun _ _ => hG0) (by simpa using h); simp only [List.nil_append] at g6 g7 g8; obtain ⟨hchk, hk⟩ := g6; simp only [chkG, Bool.and_eq_true, List.all_eq_true] at hchk
  have hEE : ∀ a ∈ Ex, ∀ b ∈ Ex, a < b → bits (ancs ops []) b a = true := fun a ha b hb hab => by simpa [hab] using hchk.1 a ha b hb
  have hQE : ∀ q ∈ Qf, ∀ e ∈ Ex, (e < q → bits (ancs ops []) q e = true) ∧ (q < e → bits (ancs ops []) e q = true) := fun q hq e he => by
    have := hchk.2 q hq e he; exact ⟨fun h => by simpa [h] using this.1, fun h => by simpa [h] using this.2⟩
  have h0 : Hs 0 = H := g2 0 (Nat.le_refl _)
  have hwi : ∀ {j : Nat} {o' : Oper} {t : Tmp}, ops.toArray[j]? = some o' → o'.dst = some t → wIdx t ops 0 = some j := by
    intro j o' t hj hd; have := (chkS_get ops 0 j o' hS (hget j o' hj)).2.2.1 t hd; simpa using this
  have hdist : Dist ops.toArray := fun i j o o' t hi hj hd hd' => by
    have h1 := hwi hi hd; rw [hwi hj hd'] at h1
    cases h1; rfl
  have hnd : Ex.Nodup := by
    -- each effect's place in the list is fixed by the fact of its operation
    refine List.pairwise_iff_getElem.2 fun a b ha hb hab he => ?_
    have hb' : Ex[b]? = some Ex[b] := List.getElem?_eq_getElem hb; have he : Ex[a]? = some Ex[b] := by rw [List.getElem?_eq_getElem ha, he]
    generalize Ex[b] = z at hb' he; have hmem : z ∈ Ex := List.mem_of_getElem? hb'; have hlt := (g3 z hmem).2; obtain ⟨Ef, Ex2, f1, f2, hf⟩ := g7 z _ (Nat.zero_le _) (Array.getElem?_eq_getElem hlt)
    rcases hf with ⟨e, -⟩ | ⟨-, ⟨e, -⟩ | ⟨e, -⟩⟩
    exact place_not f1 f2 e hmem
    · have h1 := place_one f1 f2 e hb'; have h2 := place_one f1 f2 e he; omega
    exact place_not f1 f2 e hmem
  have hD : Drawn E.C ops.toArray (frm 0 l E.n) y Hs Ex (bits (ancs ops [])) := by
    refine ⟨hdist, fun i o j hi hb => ancs_closed (hget i o hi) hb, fun i j o o' t hi hj hx hd => ?_, hnd, fun i o hi => ?_⟩
    · have := (chkS_get ops 0 i o hS (hget i o hi)).2.1 t (mem_tmpsOf hx) j (hwi hj hd); simpa using this
    have hg := (chkS_get ops 0 i o hS (hget i o hi)).2.2.2
    have conv : ∀ {t : Bool}, (∃ j b o' d x, o.guard = some (j, b) ∧ j < i ∧ ops.toArray[j]? = some o' ∧ o'.dst = some d ∧ (frT ops.toArray y (frm 0 l E.n) i)[d]? = some x ∧ wantedV x b = some t) →
        ∃ j b o' d, o.guard = some (j, b) ∧ ops.toArray[j]? = some o' ∧ o'.dst = some d ∧ d < (frm 0 l E.n).length ∧ bits (ancs ops []) i j = true ∧ wantedV (y j) b = some t := by
      rintro t ⟨j, b, o', d, x, e1, e2, e3, e4, e5, e6⟩; obtain ⟨q1, q2, o1, d1, q3, q4, q5⟩ := hg j b e1; rw [hget j o' e3] at q3
      cases q3
      rw [e4] at q4
      cases q4
      rw [Nat.zero_add] at q2; have q5' : d < (frm 0 l E.n).length := by rw [frm_length]; exact q5
      have hset := (frT_is (y := y) (fr0 := frm 0 l E.n) hdist i).set j o' d e3 e2 e4 q5'; rw [hset] at e5
      cases e5
      exact ⟨j, b, o', d, e1, e3, e4, q5', q2, e6⟩
    obtain ⟨Ef, Ex2, f1, f2, hf⟩ := g7 i o (Nat.zero_le _) hi
    have notin : Ex = Ef ++ Ex2 → i ∉ Ex := fun e hin => by
      rw [e] at hin
      rcases List.mem_append.1 hin with h | h
      exact absurd (f1 _ h) (Nat.lt_irrefl _); exact absurd (f2 _ h) (Nat.lt_irrefl _)
    rcases hf with ⟨e, hgf, hyi⟩ | ⟨hgt, ⟨e, hdo⟩ | ⟨e, hdo, hfree⟩⟩
    · obtain ⟨j, b, o', d, e1, e2, e3, e4, e5, e6⟩ := conv hgf; exact .inl ⟨j, b, o', d, e1, e2, e3, e4, e5, e6, hyi, notin e⟩
    · refine .inr ⟨hgt.imp (fun h => h) conv, .inl ⟨Ef.length, ?_, fun k' j hk' hj => ?_, hdo⟩⟩; rw [e, List.getElem?_append_right (Nat.le_refl _)]; simp; have hjE : j ∈ Ex := List.mem_of_getElem? hj; have hiE : i ∈ Ex := by rw [e]; simp
      rw [e, List.getElem?_append_left hk'] at hj; exact hEE j hjE i hiE (f1 _ (List.mem_of_getElem? hj))
    refine .inr ⟨hgt.imp (fun h => h) conv, .inr ⟨notin e, ?_⟩⟩
    rcases hfree with hq | hall
    · refine ⟨Ef.length, Ef.length, fun k' j hk' hj => ?_, ?_, fun k' j hk' hj => ?_, fun c h1 h2 => ?_⟩
      · have hjE : j ∈ Ex := List.mem_of_getElem? hj; rw [e, List.getElem?_append_left hk'] at hj; exact (hQE i hq j hjE).1 (f1 _ (List.mem_of_getElem? hj))
      rw [e]; simp
      · have hjE : j ∈ Ex := List.mem_of_getElem? hj; rw [e, List.getElem?_append_right hk'] at hj; exact (hQE i hq j hjE).2 (f2 _ (List.mem_of_getElem? hj))
      have : c = Ef.length := by omega
      subst this; exact hdo
    exact ⟨0, Ex.length, (fun k' j hk' => by omega), Nat.zero_le _, (fun k' j hk' hj => by rw [List.getElem?_eq_none hk'] at hj; cases hj), fun c _ hc => hall _ (g8 c hc)⟩
  have hedge : ∀ (i : Nat) (o : Oper), ops.toArray[i]? = some o → ∀ e ∈ o.after, Region.binds .any e = true → e.on < i := fun i o hi e he hb => by
    have := (chkS_get ops 0 i o hS (hget i o hi)).1 e he hb; simpa using this
  have := AWp_draw (K := fun e st => e = .normal ∧ ∃ l' H', st = ⟨frm 0 l' E.n, H'⟩ ∧ k l' H') (id := id) ok.mix hD (fun i hi => by have := (g3 i hi).2; simpa using this) (fun listed hsz hr => all_listed hedge hsz hr) ⟨rfl, lf', _, by rw [g5], hk⟩; rw [h0] at this; exact this
theorem DrawN.gen {E : EC} (ok : E.Ok) {id : Nat} {ops : List Oper} {l : Fr} {H : AH} {k : Fr → AH → Prop} (hS : chkS E.n ops (bits (ancs ops [])) ops 0 = true)
    (h : gev E none ops ops l H 0 [] [] fun l' H' Ef Q => Need (chkG (bits (ancs ops [])) Ef Q = true) (k l' H')) : DrawN E id ops l H k := DrawN.genG ok none trivial hS h
theorem DrawN.grow {E : EC} (ok : E.Ok) {id : Nat} {ops : List Oper} {l : Fr} {H : AH} {k : Fr → AH → Prop} (hS : chkS E.n ops (bits (ancs ops [])) ops 0 = true)
    (h : gev E (some H) ops ops l H 0 [] [] fun l' H' Ef Q => Need (chkG (bits (ancs ops [])) Ef Q = true) (k l' H')) : DrawN E id ops l H k := DrawN.genG ok (some H) ⟨[], by simp⟩ hS h
end
section
def AV.frz0 (id : Nat) (rs : List (List AV)) : AV → AV
  | .sm i k off len => if i = id then (if off + len ≤ rs.length then .sl k false ((rs.drop off).take len) else .any) else .sm i k off len
  | .pm i r c => if i = id then (match rs[r]? with
    | some row => .pi (row.drop c)
    | none => .any) else .pm i r c
  | x => x
def AV.frz1 (id : Nat) (rs : List (List AV)) : AV → AV
  | .agg cs => .agg (cs.map (AV.frz0 id rs))
  | .fn f fs cs => .fn f (fs.map (AV.frz0 id rs)) (cs.map (AV.frz0 id rs))
  | x => x.frz0 id rs
def AV.frz2 (id : Nat) (rs : List (List AV)) : AV → AV
  | .tuple cs => .tuple (cs.map (AV.frz1 id rs))
  | x => x.frz1 id rs
def ABlk.frz (id : Nat) (rs : List (List AV)) : ABlk → ABlk
  | .rows qs te => .rows (qs.map (·.map (AV.frz0 id rs))) te
  | .amap es c => .amap (es.map fun e => (e.1.frz0 id rs, e.2.1.frz0 id rs, e.2.2)) c
  | b => b
def AllDeep (rs : List (List AV)) : Prop := ∀ row ∈ rs, ∀ x ∈ row, AV.deep x = true
section
variable {G : Glob} {I : Nat → Prop} {w : World} {ρ : Places} {H : AH} {id : Nat} {rs : List (List AV)} {te : TypeId}
theorem VRel.frz0 (hh : HRel G I w ρ H) (hid : H[id]? = some (.rows rs te)) (hd : AllDeep rs) {I2 : Nat → Prop} (hI : ∀ b, I b → I2 b) (hI2 : ∀ l, ρ id = some l → I2 l.blk) {v : Value} {x : AV} (h : VRel I w ρ v x) : VRel I2 w ρ v (x.frz0 id rs) := by
  have hk : Keeps I I2 w w := ⟨hI, fun _ _ => rfl⟩
  cases x <;> try exact h.mono hk (fun _ _ h => h)
  case pm i r c =>
    simp only [AV.frz0]; split
    case isFalse => exact h.mono hk (fun _ _ h => h)
    rename_i he; subst he; split
    case h_2 => exact .any
    rename_i row hr
    cases h with
    | pm hp =>
      rename_i b n k; obtain ⟨hlt, hnI, hB⟩ := hh.blk i _ _ hid rfl hp; obtain ⟨⟨cells, hg, hsz, hcell⟩, hlen, hrow⟩ := hB; simp only at hg hsz hlen hrow hlt hcell
      have hget : ∀ (j : Nat) (x : AV), (row.drop c)[j]? = some x → row[c + j]? = some x := fun j x hj => by rwa [List.getElem?_drop] at hj
      have hfc : ∀ (j : Nat) (x : AV), (row.drop c)[j]? = some x → (cells.getD (r * k + c + j) undef).oneCell' = true ∧ VRel I w ρ (cells.getD (r * k + c + j) undef) x := fun j x hj => by
        have := hcell r (c + j) row x hr (hget j x hj)
        rwa [← Nat.add_assoc] at this
      refine .pi (fun j => cells.getD (r * k + c + j) undef) (fun _ => hI2 _ hp) (fun j x hj => ?_) (fun j x hj => (hfc j x hj).1) (fun j x hj => ?_)
      · have h1 := (List.getElem?_eq_some_iff.1 (hget j x hj)).1; have hkr := hrow row (List.mem_of_getElem? hr); have h2 := (List.getElem?_eq_some_iff.1 hr).1; have : (r + 1) * k ≤ rs.length * k := Nat.mul_le_mul_right _ (by omega); rw [Nat.add_mul] at this; have hlt2 : r * k + c + j < cells.size := by rw [hsz]; omega
        simp only [World.cell?, hg]; simp [Array.getD, hlt2]
      have hx : x.deep = true := hd row (List.mem_of_getElem? hr) x (List.mem_of_getElem? (hget j x hj)); exact ((hfc j x hj).2.mono hk (fun _ _ h => h)).deep hx _
  rename_i i k off len; simp only [AV.frz0]; split
  case isFalse => exact h.mono hk (fun _ _ h => h)
  rename_i he; subst he; split
  case isFalse => exact .any
  rename_i hle
  cases h with
  | smNil =>
    rename_i a; simp only [List.take_zero]
    cases a with
    | none => exact .slNil
    | some a => exact .slMt (fun h => by cases h)
  | sm hp hcap hn =>
    rename_i b n cap; obtain ⟨hlt, hnI, hB⟩ := hh.blk i _ _ hid rfl hp; obtain ⟨⟨cells, hg, hsz, hcell⟩, hlen, hrow⟩ := hB; simp only at hg hsz hlen hrow hlt hcell; by_cases h0 : len = 0
    · subst h0; simp only [List.take_zero]; exact .slMt (fun h => by cases h)
    have hrl : ((rs.drop off).take len).length = len := by simp; omega
    have hget : ∀ (q : Nat) (row : List AV), ((rs.drop off).take len)[q]? = some row → rs[off + q]? = some row ∧ q < len := by
      intro q row hq; rw [List.getElem?_take] at hq; split at hq
      rw [List.getElem?_drop] at hq; exact ⟨hq, by assumption⟩
      cases hq
    have hin : ∀ (q j : Nat) (row : List AV) (x : AV), ((rs.drop off).take len)[q]? = some row → row[j]? = some x → off * k + q * k + j < cells.size := by
      intro q j row x hq hj; obtain ⟨h1, h2⟩ := hget q row hq; have hjl := (List.getElem?_eq_some_iff.1 hj).1; have hkr := hrow row (List.mem_of_getElem? h1); have hq1 := (List.getElem?_eq_some_iff.1 h1).1; have : (off + q + 1) * k ≤ rs.length * k := Nat.mul_le_mul_right _ (by omega); rw [Nat.add_mul, Nat.add_mul] at this; rw [hsz]; omega
    have hfc : ∀ (q j : Nat) (row : List AV) (x : AV), ((rs.drop off).take len)[q]? = some row → row[j]? = some x → (cells.getD (off * k + q * k + j) undef).oneCell' = true ∧ VRel I w ρ (cells.getD (off * k + q * k + j) undef) x := by
      intro q j row x hq hj; have := hcell (off + q) j row x (hget q row hq).1 hj
      rwa [Nat.add_mul] at this
    refine .sl (fun q j => cells.getD (off * k + q * k + j) undef) hrl hcap (fun h => by cases h) (fun r hr => ?_) (fun _ => hI2 _ hp) (fun q j row x hq hj => ?_) (fun q j row x hq hj => (hfc q j row x hq hj).1) (fun q j row x hq hj => ?_)
    · obtain ⟨q, hq⟩ := List.getElem?_of_mem hr; exact hrow r (List.mem_of_getElem? (hget q r hq).1)
    · have hlt2 := hin q j row x hq hj; simp only [World.cell?, hg]; simp [Array.getD, hlt2]
    have hx : x.deep = true := hd row (List.mem_of_getElem? (hget q row hq).1) x (List.mem_of_getElem? hj); exact ((hfc q j row x hq hj).2.mono hk (fun _ _ h => h)).deep hx _
theorem VRel.frz1 (hh : HRel G I w ρ H) (hid : H[id]? = some (.rows rs te)) (hd : AllDeep rs) {I2 : Nat → Prop} (hI : ∀ b, I b → I2 b) (hI2 : ∀ l, ρ id = some l → I2 l.blk) {v : Value} {x : AV} (h : VRel I w ρ v x) : VRel I2 w ρ v (x.frz1 id rs) := by
  cases x <;> try exact h.frz0 hh hid hd hI hI2
  case fn f fs cs =>
    cases h with
    | fn hl hl' hv hv' =>
      have key : ∀ {us : Array Value} {xs : List AV}, (∀ (i : Nat) (x : AV), xs[i]? = some x → VRel I w ρ (us.getD i undef) x) → ∀ (i : Nat) (x : AV), (xs.map (AV.frz0 id rs))[i]? = some x → VRel I2 w ρ (us.getD i undef) x := by
        intro us xs hv i x hx; rw [List.getElem?_map] at hx
        cases hc : xs[i]? with
        | none => rw [hc] at hx; cases hx
        | some y =>
          rw [hc] at hx
          cases hx
          exact (hv i y hc).frz0 hh hid hd hI hI2
      exact .fn (by simpa using hl) (by simpa using hl') (key hv) (key hv')
  rename_i cs
  cases h with
  | agg hl h1 hv =>
    refine .agg (by simpa using hl) (fun i x hx => ?_) (fun i x hx => ?_)
    · rw [List.getElem?_map] at hx
      cases hc : cs[i]? with
      | none => rw [hc] at hx; cases hx
      | some y => exact h1 i y hc
    rw [List.getElem?_map] at hx
    cases hc : cs[i]? with
    | none => rw [hc] at hx; cases hx
    | some y => rw [hc] at hx; cases hx; exact (hv i y hc).frz0 hh hid hd hI hI2
theorem VRel.frz2 (hh : HRel G I w ρ H) (hid : H[id]? = some (.rows rs te)) (hd : AllDeep rs) {I2 : Nat → Prop} (hI : ∀ b, I b → I2 b) (hI2 : ∀ l, ρ id = some l → I2 l.blk) {v : Value} {x : AV} (h : VRel I w ρ v x) : VRel I2 w ρ v (x.frz2 id rs) := by
  cases x <;> try exact h.frz1 hh hid hd hI hI2
  rename_i cs
  cases h with
  | tuple hl hv =>
    refine .tuple (by simpa using hl) (fun i x hx => ?_); rw [List.getElem?_map] at hx
    cases hc : cs[i]? with
    | none => rw [hc] at hx; cases hx
    | some y => rw [hc] at hx; cases hx; exact (hv i y hc).frz1 hh hid hd hI hI2
def frzH (id : Nat) (rs : List (List AV)) (H : AH) : AH := (H.map (ABlk.frz id rs)).set id .dead
theorem frzH_get {i : Nat} {b : ABlk} (h : (frzH id rs H)[i]? = some b) (hl : b.live = true) : i ≠ id ∧ ∃ b0, H[i]? = some b0 ∧ b = b0.frz id rs ∧ b0.live = true := by
  unfold frzH at h; rw [List.getElem?_set] at h; split at h
  · split at h
    cases h; cases hl
    cases h
  rename_i hne; rw [List.getElem?_map] at h
  cases hb : H[i]? with
  | none => rw [hb] at h; cases h
  | some b0 =>
    rw [hb] at h
    cases h
    exact ⟨fun e => hne e.symm, b0, rfl, rfl, by cases b0 <;> first | rfl | cases hl⟩
theorem HRel.frz (hh : HRel G I w ρ H) (hid : H[id]? = some (.rows rs te)) (hd : AllDeep rs) : ∃ I2 : Nat → Prop, (∀ b, I b → I2 b) ∧ (∀ l, ρ id = some l → I2 l.blk) ∧ HRel G I2 w ρ (frzH id rs H) ∧ Went I w ρ H I2 w ρ (frzH id rs H) := by
  let I2 : Nat → Prop := fun b => I b ∨ ∃ l, ρ id = some l ∧ l.blk = b
  have hI : ∀ b, I b → I2 b := fun b h => .inl h
  have hI2 : ∀ l, ρ id = some l → I2 l.blk := fun l h => .inr ⟨l, h, rfl⟩
  have hk : Keeps I I2 w w := ⟨hI, fun _ _ => rfl⟩; refine ⟨I2, hI, hI2, ⟨fun i b l hi hl hp => ?_, fun i j b b' l l' hi hj hl hl' hp hp' he => ?_, fun i l hp => ?_, fun b hb => ?_, fun g cells hg => ?_⟩, ⟨hI, fun _ _ h => h, Nat.le_refl _, rfl, rfl, rfl, fun _ _ _ => rfl, fun b ho _ => ?_, fun b hb => ?_⟩⟩
  · obtain ⟨hne, b0, h0, rfl, hl0⟩ := frzH_get hi hl; obtain ⟨g1, g2, g3⟩ := hh.blk i b0 l h0 hl0 hp; refine ⟨g1, ?_, ?_⟩
    · rintro (h | ⟨l', h, he⟩); exact g2 h; exact hne (hh.inj i id b0 _ l l' h0 hid hl0 rfl hp h he.symm)
    cases b0 with
    | rows qs te' =>
      obtain ⟨⟨cells, e1, e2, e3⟩, e4, e5⟩ := g3; refine ⟨⟨cells, e1, e2, fun a j row x ha hj => ?_⟩, by simpa using e4, fun r hr => ?_⟩
      · rw [List.getElem?_map] at ha
        cases hq : qs[a]? with
        | none => rw [hq] at ha; cases ha
        | some row0 =>
          rw [hq] at ha
          cases ha
          rw [List.getElem?_map] at hj
          cases hx : row0[j]? with
          | none => rw [hx] at hj; cases hj
          | some x0 =>
            rw [hx] at hj
            cases hj
            obtain ⟨f1, f2⟩ := e3 a j row0 x0 hq hx; exact ⟨f1, f2.frz0 hh hid hd hI hI2⟩
      obtain ⟨r0, hr0, rfl⟩ := List.mem_map.1 hr; simpa using e5 r0 hr0
    | dead => cases hl0
    | amap es c =>
      obtain ⟨ms, e1, e2, e3⟩ := g3; refine ⟨ms, e1, by simpa using e2, fun i m e hm he => ?_⟩; rw [List.getElem?_map] at he
      cases hq : es[i]? with
      | none => rw [hq] at he; cases he
      | some e0 =>
        rw [hq] at he
        cases he
        obtain ⟨f1, f2, f3⟩ := e3 i m e0 hm hq; exact ⟨f1.frz0 hh hid hd hI hI2, f2.frz0 hh hid hd hI hI2, f3⟩
    | loop st pe fr ps as bd => exact BRel.mono g3 hk (fun _ _ h => h) rfl
    | miter m s seen la => exact BRel.mono g3 hk (fun _ _ h => h) rfl
    | siter s p => exact BRel.mono g3 hk (fun _ _ h => h) rfl
  · obtain ⟨-, b0, h0, -, hl0⟩ := frzH_get hi hl; obtain ⟨-, b1, h1, -, hl1⟩ := frzH_get hj hl'; exact hh.inj i j b0 b1 l l' h0 h1 hl0 hl1 hp hp' he
  · have := hh.dom i l hp; simpa [frzH] using this
  · rcases hb with hb | ⟨l, hp, rfl⟩
    exact hh.old b hb; exact (hh.blk id _ l hid rfl hp).1
  exact hh.glob' hk g cells hg
  · obtain ⟨i, b', l, h1, h2, h3, rfl⟩ := ho; obtain ⟨-, b0, h0, -, hl0⟩ := frzH_get h1 h2; exact ⟨i, b0, l, h0, hl0, h3, rfl⟩
  rcases hb with hb | ⟨l, hp, rfl⟩
  exact .inl hb; exact .inr (.inr ⟨id, _, l, hid, rfl, hp, rfl⟩)
end
inductive FrzTo : AH → AV → AV → Prop
  | done (H : AH) (y : AV) : FrzTo H y y
  | step {H : AH} {y z : AV} (id : Nat) (rs : List (List AV)) (te : TypeId) (hid : H[id]? = some (.rows rs te)) (hd : AllDeep rs) (h : FrzTo (frzH id rs H) (y.frz2 id rs) z) : FrzTo H y z
theorem FrzTo.rel {G : Glob} {w : World} {ρ : Places} {v : Value} {y z : AV} {H : AH} (h : FrzTo H y z) : ∀ {I : Nat → Prop}, HRel G I w ρ H → VRel I w ρ v y → ∃ I2 H2, HRel G I2 w ρ H2 ∧ VRel I2 w ρ v z ∧ Went I w ρ H I2 w ρ H2 := by
  induction h with
  | done H y => exact fun hh hv => ⟨_, _, hh, hv, Went.refl⟩
  | step id rs te hid hd h ih =>
    intro I hh hv; obtain ⟨I2, h1, h2, h3, h4⟩ := hh.frz hid hd; obtain ⟨I3, H3, g1, g2, g3⟩ := ih h3 (hv.frz2 hh hid hd h1 h2); exact ⟨I3, H3, g1, g2, h4.trans g3⟩
theorem AFnH.frz {P : Program} {G : Glob} {f : FuncId} {args : List AV} {H : AH} {z : AV} (h : AFnH P G f args H fun y H' => FrzTo H' y z) : AFnH P G f args H fun y _ => y = z := fun I w ρ vs h1 h2 h3 =>
  (h I w ρ vs h1 h2 h3).mono fun e w' ⟨v, e1, I', ρ', H', y, g1, g2, g3, g4⟩ => by
    obtain ⟨I2, H2, k1, k2, k3⟩ := g1.rel g2 g3; exact ⟨v, e1, I2, ρ', H2, z, rfl, k1, k2, g4.trans k3.gone⟩
theorem Pu.of_ev {P : Program} {G : Glob} {T : TypeId → Option TI} {n : Nat} {f : FuncId} {fn : Func} {c : Code} {args : List AV} {y : AV} (ok : EC.Ok ⟨⟨P, G, 0, none⟩, n, T⟩) (hf : P.funcs[f]? = some fn) (hb : fn.body = some c) (hn : fn.ntmps = n)
    (hd : (args.all (·.deep2)) = true) (hy : y.deep2 = true) (ha : args.length ≤ n)
    (h : forceFr (enumF 0 args) fun l => ev ⟨⟨P, G, 0, none⟩, n, T⟩ c l [] (retE ⟨⟨P, G, 0, none⟩, n, T⟩ fn.results.toList fun y' H' => FrzTo H' y' y)) : Pu P G f args y := by
  rw [forceFr_eq] at h; refine ⟨⟨fn, c, hf, hb⟩, AFnH.pure (AFnH.frz (AFnH_of_wp hf hb ?_)) (fun x hx => List.all_eq_true.1 hd x hx) hy⟩; subst hn
  have hs : AStartH fn args [] = ⟨frm 0 (enumF 0 args) fn.ntmps, []⟩ := by
    simp only [AStartH]; rw [start_frm args _ ha]
  rw [hs]; refine (ev_ok ok _ _ _ _ h).mono ?_; rintro e st ⟨l', H', rfl, hk⟩; unfold retE at hk
  have fin : (resK ⟨⟨P, G, 0, none⟩, fn.ntmps, T⟩ l' H' fn.results.toList fun xs => tupK xs fun y' => DoneN (fun y' H' => FrzTo H' y' y) y' H') → ∃ xs, ares P ⟨frm 0 l' fn.ntmps, H'⟩ fn.results.toList = some xs ∧ FrzTo H' (atuple xs) y := by
    intro h; obtain ⟨xs, h1, h2⟩ := resK_ok ok _ _ h; rw [tupK_eq] at h2; exact ⟨xs, h1, h2.1⟩
  split at hk
  exact fin hk; exact fin hk; exact hk.elim
theorem DoneN.pure {y y' : AV} {H : AH} (h : y' = y) : DoneN (fun y' H' => FrzTo H' y' y) y' H := ⟨h ▸ .done _ _⟩
theorem CallN.frz {E : EC} {f : FuncId} {args : List AV} {H : AH} {k : AV → AH → Prop} (id : Nat) (rs : List (List AV)) (te : TypeId) (hid : nthB H id = some (.rows rs te)) (hd : AllDeep rs)
    (h : CallN E f (args.map (AV.frz2 id rs)) (frzH id rs H) k) : CallN E f args H k := by
  obtain ⟨Q, hb, hq, hk⟩ := h; rw [nthB_eq] at hid; refine ⟨Q, hb, fun I w ρ vs hh hl hv => ?_, hk⟩; obtain ⟨I2, h1, h2, h3, h4⟩ := hh.frz hid hd; refine (hq I2 w ρ vs h3 (by simpa using hl) (fun i x hx => ?_)).mono ?_
  · rw [List.getElem?_map] at hx
    cases ha : args[i]? with
    | none => rw [ha] at hx; cases hx
    | some y => rw [ha] at hx; cases hx; exact (hv i y ha).frz2 hh hid hd h1 h2
  rintro e w' ⟨v, e1, I', ρ', H', y, g1, g2, g3, g4⟩; have hlen : (frzH id rs H).length = H.length := by simp [frzH]
  rw [hlen] at g4; exact ⟨v, e1, I', ρ', H', y, g1, g2, g3, h4.gone.trans g4⟩
theorem Reabs.frz {C : Ctx} {l : Fr} {N : Nat} {H : AH} (id : Nat) (rs : List (List AV)) (te : TypeId) (hid : nthB H id = some (.rows rs te)) (hd : AllDeep rs) :
    Reabs C ⟨frm 0 l N, H⟩ ⟨frm 0 (l.map fun p => (p.1, p.2.frz2 id rs)) N, frzH id rs H⟩ := by
  rw [nthB_eq] at hid; intro B I w ρ a hs; obtain ⟨I2, h1, h2, h3, h4⟩ := hs.heap.frz hid hd; refine ⟨I2, ρ, ⟨h3, ?_, fun i x hi => ?_, hs.marks.went h4, hs.base⟩, h4.gone⟩; rw [hs.size]; simp [frm_length]
  have hal : ∀ (l : Fr) (i : Nat), alk i (l.map fun p => (p.1, p.2.frz2 id rs)) = (alk i l).frz2 id rs := by
    clear hs hi; intro l i
    induction l with
    | nil => rfl
    | cons p l ih =>
      obtain ⟨j, y⟩ := p; by_cases he : i = j
      subst he; simp [alk]; simp only [List.map_cons]; rw [alk_ne he, alk_ne he]; exact ih
  simp only [frm_get] at hi; split at hi
  · rename_i hlt
    cases hi
    rw [hal]; exact (hs.fr i _ (by simp only [frm_get, if_pos hlt])).frz2 hs.heap hid hd h1 h2
  cases hi
theorem Need.chk {b : Bool} {p : Prop} (h : b = true) (k : p) : Need (b = true) p := ⟨h, k⟩
theorem IdxN.at0Pred {j n : Nat} {k : Nat → Prop} (h0 : 0 < j) (hn : j - 1 < n) (hk : k (j - 1)) : IdxN 0 ((j : Int) - 1) n k := .at0 (j - 1) (by omega) hn hk
theorem MkN.nat {n b : Nat} {k : Nat → Nat → Prop} (h1 : b * n ≤ 281474976710656) (h2 : n ≤ 9223372036854775807) (hk : k n n) : MkN (n : Int) (n : Int) b k := ⟨n, n, rfl, rfl, Nat.le_refl _, h1, h2, hk⟩
theorem AppN.map1 {α : Type} {f : α → List AV} {l : List α} {x : List AV} {b : Nat} {k : List (List AV) → Nat → Prop} (h1 : (l.length + 1) * b ≤ 140737488355328) (h2 : l.length + 1 ≤ 9223372036854775807) (hk : k (l.map f ++ [x]) (l.length + 1)) : AppN (l.map f) [x] b k := ⟨_, _, rfl, by simp, h1, h2, hk⟩
theorem SubN.all {rs : List (List AV)} {len : Nat} {k : List (List AV) → Prop} (h : len = rs.length) (hk : k rs) : SubN rs 0 len k := ⟨rs, by omega, by subst h; simp, hk⟩
end
end Go.Proofs.Ax
