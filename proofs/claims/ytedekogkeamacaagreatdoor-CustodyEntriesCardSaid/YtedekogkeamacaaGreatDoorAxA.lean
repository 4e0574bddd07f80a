import Derived.WalkKit
import Derived.RangeFuncLeaves
import Derived.RangeFuncCalls
namespace Go.Proofs.Ax
open Go
inductive AV where
  | any
  | sc (v : Value)
  | sl (k : Nat) (tight : Bool) (rows : List (List AV))
  | pi (cells : List AV)
  | sm (id k off len : Nat)
  | pm (id row col : Nat)
  | mp (id : Nat)
  | agg (cs : List AV)
  | tuple (vs : List AV)
  | fn (f : Fn) (first captured : List AV)
  | iface (t : TypeId) (v : AV)
  | yl (id : Nat)
  | it (id : Nat)
  | sz (k : Nat)
  deriving Inhabited
def AV.cells : AV → List AV
  | .agg cs => cs
  | x => [x]
def AV.cell1 : AV → Bool
  | .sc v => v.oneCell'
  | .sl .. | .pi .. | .sm .. | .pm .. | .mp .. | .fn .. | .iface .. | .yl _ | .it _ | .sz _ => true
  | _ => false
structure Loc where
  blk : Nat
  n : Nat
  k : Nat
abbrev Places := Nat → Option Loc
inductive VRel (I : Nat → Prop) (w : World) : Places → Value → AV → Prop
  | any {ρ v} : VRel I w ρ v .any
  | sc {ρ v} : VRel I w ρ v (.sc v)
  | sl {ρ b o len cap k tight rows} (f : Nat → Nat → Value) (hl : rows.length = len) (hcap : len ≤ cap) (ht : tight = true → cap = len) (hk : ∀ r ∈ rows, r.length = k)
      (hI : rows ≠ [] → I b) (hc : ∀ (i j : Nat) (row : List AV) (x : AV), rows[i]? = some row → row[j]? = some x → w.cell? ⟨b, o + i * k + j, none⟩ = some (f i j))
      (h1 : ∀ (i j : Nat) (row : List AV) (x : AV), rows[i]? = some row → row[j]? = some x → (f i j).oneCell' = true)
      (hv : ∀ (i j : Nat) (row : List AV) (x : AV), rows[i]? = some row → row[j]? = some x → VRel I w (fun _ => none) (f i j) x) :
      VRel I w ρ (.slice (some ⟨b, o, none⟩) len cap) (.sl k tight rows)
  | slNil {ρ k tight} : VRel I w ρ (.slice none 0 0) (.sl k tight [])
  | slMt {ρ k tight cap} {a : Addr} (ht : tight = true → cap = 0) : VRel I w ρ (.slice (some a) 0 cap) (.sl k tight [])
  | smNil {ρ id k} {a : Option Addr} : VRel I w ρ (.slice a 0 0) (.sm id k 0 0)
  | pi {ρ b o cells} (f : Nat → Value) (hI : cells ≠ [] → I b) (hc : ∀ (j : Nat) (x : AV), cells[j]? = some x → w.cell? ⟨b, o + j, none⟩ = some (f j))
      (h1 : ∀ (j : Nat) (x : AV), cells[j]? = some x → (f j).oneCell' = true)
      (hv : ∀ (j : Nat) (x : AV), cells[j]? = some x → VRel I w (fun _ => none) (f j) x) :
      VRel I w ρ (.pointer (some ⟨b, o, none⟩)) (.pi cells)
  | sm {ρ b n k id off len cap} (hp : ρ id = some ⟨b, n, k⟩) (hcap : len ≤ cap) (hn : (off + cap) * k ≤ n) :
      VRel I w ρ (.slice (some ⟨b, off * k, none⟩) len cap) (.sm id k off len)
  | pm {ρ b n k id row col} (hp : ρ id = some ⟨b, n, k⟩) : VRel I w ρ (.pointer (some ⟨b, row * k + col, none⟩)) (.pm id row col)
  | mp {ρ b n k id} (hp : ρ id = some ⟨b, n, k⟩) : VRel I w ρ (.map (some b)) (.mp id)
  | agg {ρ} {cs : Array Value} {as : List AV} (hl : cs.size = as.length) (h1 : ∀ (i : Nat) (x : AV), as[i]? = some x → (cs.getD i undef).oneCell' = true)
      (hv : ∀ (i : Nat) (x : AV), as[i]? = some x → VRel I w ρ (cs.getD i undef) x) : VRel I w ρ (.agg cs) (.agg as)
  | tuple {ρ} {cs : Array Value} {as : List AV} (hl : cs.size = as.length) (hv : ∀ (i : Nat) (x : AV), as[i]? = some x → VRel I w ρ (cs.getD i undef) x) :
      VRel I w ρ (.tuple cs) (.tuple as)
  | fn {ρ} {f : Fn} {fs cs : Array Value} {fa ca : List AV} (hl : fs.size = fa.length) (hl' : cs.size = ca.length)
      (hv : ∀ (i : Nat) (x : AV), fa[i]? = some x → VRel I w ρ (fs.getD i undef) x) (hv' : ∀ (i : Nat) (x : AV), ca[i]? = some x → VRel I w ρ (cs.getD i undef) x) :
      VRel I w ρ (.func f fs cs) (.fn f fa ca)
  | iface {ρ t v x} (hv : VRel I w ρ v x) : VRel I w ρ (.iface t v) (.iface t x)
  | yl {ρ b n k id} (hp : ρ id = some ⟨b, n, k⟩) : VRel I w ρ (.func (.yield b) #[] #[]) (.yl id)
  | it {ρ b n k id} (hp : ρ id = some ⟨b, n, k⟩) : VRel I w ρ (.pointer (some ⟨b, 0, none⟩)) (.it id)
  | sz {ρ k cap} {a : Addr} : VRel I w ρ (.slice (some a) 0 cap) (.sz k)
structure Keeps (I I' : Nat → Prop) (w w' : World) : Prop where
  sub : ∀ b, I b → I' b
  same : ∀ b, I b → w'.heap[b]? = w.heap[b]?
theorem Keeps.refl (I : Nat → Prop) (w : World) : Keeps I I w w := ⟨fun _ h => h, fun _ _ => rfl⟩
theorem Keeps.trans {I I' I'' : Nat → Prop} {w w' w'' : World} (h : Keeps I I' w w') (k : Keeps I' I'' w' w'') : Keeps I I'' w w'' :=
  ⟨fun b hb => k.sub b (h.sub b hb), fun b hb => (k.same b (h.sub b hb)).trans (h.same b hb)⟩
theorem cell?_of_heap {w w' : World} {b o : Nat} (h : w'.heap[b]? = w.heap[b]?) : w'.cell? ⟨b, o, none⟩ = w.cell? ⟨b, o, none⟩ := by simp only [World.cell?, h]
theorem VRel.mono {I I' : Nat → Prop} {w w' : World} {ρ : Places} {v : Value} {x : AV} (h : VRel I w ρ v x) (hk : Keeps I I' w w') :
    ∀ {ρ' : Places}, (∀ id l, ρ id = some l → ρ' id = some l) → VRel I' w' ρ' v x := by
  induction h with
  | any => exact fun _ => .any
  | sc => exact fun _ => .sc
  | @sl ρ b o len cap k tight rows f hl hcap ht hkk hI hc h1 hv ih =>
    intro ρ' _
    have hb : ∀ (i j : Nat) (row : List AV) (x : AV), rows[i]? = some row → row[j]? = some x → I b := fun i j row x hi _ => hI (fun h => by rw [h] at hi; cases hi)
    exact .sl f hl hcap ht hkk (fun h => hk.sub _ (hI h)) (fun i j row x hi hj => (cell?_of_heap (hk.same b (hb i j row x hi hj))).trans (hc i j row x hi hj)) h1
      (fun i j row x hi hj => ih i j row x hi hj (fun _ _ h => h))
  | @pi ρ b o cells f hI hc h1 hv ih =>
    intro ρ' _
    have hb : ∀ (j : Nat) (x : AV), cells[j]? = some x → I b := fun j x hi => hI (fun h => by rw [h] at hi; cases hi)
    exact .pi f (fun h => hk.sub _ (hI h)) (fun j x hj => (cell?_of_heap (hk.same b (hb j x hj))).trans (hc j x hj)) h1 (fun j x hj => ih j x hj (fun _ _ h => h))
  | slNil => exact fun _ => .slNil
  | slMt ht => exact fun _ => .slMt ht
  | smNil => exact fun _ => .smNil
  | sm hp hcap hn => exact fun hr => .sm (hr _ _ hp) hcap hn
  | pm hp => exact fun hr => .pm (hr _ _ hp)
  | mp hp => exact fun hr => .mp (hr _ _ hp)
  | agg hl h1 hv ih => exact fun hr => .agg hl h1 (fun i x hx => ih i x hx hr)
  | tuple hl hv ih => exact fun hr => .tuple hl (fun i x hx => ih i x hx hr)
  | fn hl hl' hv hv' ih ih' => exact fun hr => .fn hl hl' (fun i x hx => ih i x hx hr) (fun i x hx => ih' i x hx hr)
  | iface hv ih => exact fun hr => .iface (ih hr)
  | yl hp => exact fun hr => .yl (hr _ _ hp)
  | it hp => exact fun hr => .it (hr _ _ hp)
  | sz => exact fun _ => .sz
inductive ABlk where
  | dead
  | rows (rs : List (List AV)) (te : TypeId)
  | amap (es : List (AV × AV × Nat)) (clock : Nat)
  | loop (st : LoopState) (pe : Option Code) (fr : List AV) (ps : Array Tmp) (as bd : Code)
  | miter (mid : Option Nat) (since : Nat) (seen : List Nat) (last : Nat)
  | siter (s : ByteArray) (pos : Nat)
  deriving Inhabited
def ABlk.live : ABlk → Bool
  | .dead => false
  | _ => true
def BRel (I : Nat → Prop) (w : World) (ρ : Places) (l : Loc) : ABlk → Prop
  | .dead => True
  | .rows rs te => (∃ cells, w.heap[l.blk]? = some (.cells cells te (0, 0)) ∧ cells.size = l.n ∧
      ∀ (i j : Nat) (row : List AV) (x : AV), rs[i]? = some row → row[j]? = some x → (cells.getD (i * l.k + j) undef).oneCell' = true ∧ VRel I w ρ (cells.getD (i * l.k + j) undef) x) ∧
      rs.length * l.k ≤ l.n ∧ ∀ r ∈ rs, r.length = l.k
  | .amap es clock => ∃ ms, w.heap[l.blk]? = some (.map ms clock) ∧ ms.size = es.length ∧
      ∀ (i : Nat) (m : MapEntry) (e : AV × AV × Nat), ms[i]? = some m → es[i]? = some e → VRel I w ρ m.key e.1 ∧ VRel I w ρ m.val e.2.1 ∧ m.born = e.2.2
  | .loop st pe fr ps as bd => ∃ r : Loop, w.heap[l.blk]? = some (.loop r) ∧ r.state = st ∧ r.pending = pe ∧ r.params = ps ∧ r.assign = as ∧ r.body = bd ∧ r.tmps.size = fr.length ∧
      ∀ (i : Nat) (x : AV), fr[i]? = some x → VRel I w ρ (r.tmps.getD i undef) x
  | .miter mid since seen last => ∃ mb, w.heap[l.blk]? = some (.mapIter mb since seen.toArray last) ∧ (match mid with | none => mb = none | some m => ∃ l', ρ m = some l' ∧ mb = some l'.blk)
  | .siter s pos => w.heap[l.blk]? = some (.stringIter s pos)
abbrev AH := List ABlk
abbrev Glob := Nat → Option (List AV)
def GlobAt (I : Nat → Prop) (w : World) (g : Nat) (cells : List AV) : Prop :=
  VRel I w (fun _ => none) (.pointer (some ⟨g, 0, none⟩)) (.pi cells) ∧ I g ∧ ∃ arr t fz, w.heap[g]? = some (.cells arr t fz) ∧ arr.size = cells.length
structure HRel (G : Glob) (I : Nat → Prop) (w : World) (ρ : Places) (H : AH) : Prop where
  blk : ∀ (id : Nat) (b : ABlk) (l : Loc), H[id]? = some b → b.live = true → ρ id = some l → l.blk < w.heap.size ∧ ¬ I l.blk ∧ BRel I w ρ l b
  inj : ∀ (id id' : Nat) (b b' : ABlk) (l l' : Loc), H[id]? = some b → H[id']? = some b' → b.live = true → b'.live = true → ρ id = some l → ρ id' = some l' → l.blk = l'.blk → id = id'
  dom : ∀ id l, ρ id = some l → id < H.length
  old : ∀ b, I b → b < w.heap.size
  glob : ∀ (g : Nat) (cells : List AV), G g = some cells → GlobAt I w g cells
def Owned (ρ : Places) (H : AH) (b : Nat) : Prop := ∃ id blk l, H[id]? = some blk ∧ blk.live = true ∧ ρ id = some l ∧ l.blk = b
structure Went (I : Nat → Prop) (w : World) (ρ : Places) (H : AH) (I' : Nat → Prop) (w' : World) (ρ' : Places) (H' : AH) : Prop where
  sub : ∀ b, I b → I' b
  place : ∀ id l, ρ id = some l → ρ' id = some l
  size : w.heap.size ≤ w'.heap.size
  os : w'.os = w.os
  tape : w'.tape = w.tape
  output : w'.output = w.output
  frame : ∀ b, b < w.heap.size → ¬ Owned ρ H b → w'.heap[b]? = w.heap[b]?
  own : ∀ b, Owned ρ' H' b → b < w.heap.size → Owned ρ H b
  new : ∀ b, I' b → I b ∨ w.heap.size ≤ b ∨ Owned ρ H b
theorem Went.refl {I : Nat → Prop} {w : World} {ρ : Places} {H : AH} : Went I w ρ H I w ρ H :=
  ⟨fun _ h => h, fun _ _ h => h, Nat.le_refl _, rfl, rfl, rfl, fun _ _ _ => rfl, fun _ h _ => h, fun _ h => .inl h⟩
theorem Went.trans {I I' I'' : Nat → Prop} {w w' w'' : World} {ρ ρ' ρ'' : Places} {H H' H'' : AH} (h : Went I w ρ H I' w' ρ' H') (k : Went I' w' ρ' H' I'' w'' ρ'' H'') :
    Went I w ρ H I'' w'' ρ'' H'' :=
  ⟨fun b hb => k.sub b (h.sub b hb), fun id l hl => k.place id l (h.place id l hl), Nat.le_trans h.size k.size, k.os.trans h.os, k.tape.trans h.tape, k.output.trans h.output,
    fun b hb ho => (k.frame b (Nat.lt_of_lt_of_le hb h.size) (fun ho' => ho (h.own b ho' hb))).trans (h.frame b hb ho),
    fun b ho hb => h.own b (k.own b ho (Nat.lt_of_lt_of_le hb h.size)) hb,
    fun b hb => (k.new b hb).elim (h.new b) fun hb => hb.elim (fun hb => .inr (.inl (Nat.le_trans h.size hb))) fun hb => (Nat.lt_or_ge b w.heap.size).elim (fun hlt => .inr (.inr (h.own b hb hlt))) fun hge => .inr (.inl hge)⟩
theorem HRel.not_owned {G : Glob} {I : Nat → Prop} {w : World} {ρ : Places} {H : AH} (h : HRel G I w ρ H) {b : Nat} (hb : I b) : ¬ Owned ρ H b := by
  rintro ⟨id, blk, l, hi, hl, hp, rfl⟩; exact (h.blk id blk l hi hl hp).2.1 hb
theorem Went.keeps {G : Glob} {I I' : Nat → Prop} {w w' : World} {ρ ρ' : Places} {H H' : AH} (h : Went I w ρ H I' w' ρ' H') (hr : HRel G I w ρ H) : Keeps I I' w w' :=
  ⟨h.sub, fun b hb => h.frame b (hr.old b hb) (hr.not_owned hb)⟩
structure ASt where
  fr : List AV
  H : AH
@[simp] def ASt.ev (G : Glob) (st : ASt) : Operand → AV
  | .tmp t => st.fr.getD t .any
  | .const v => .sc v
  | .global g => match G g with
    | some cells => .pi cells
    | none => .sc (.pointer (some ⟨g, 0, none⟩))
  | .func f => .sc (.func (.func f) #[] #[])
@[simp] def ASt.put (st : ASt) (dst : Option Tmp) (v : AV) (H : AH) : ASt :=
  match dst with
  | some d => ⟨st.fr.set d v, H⟩
  | none => ⟨st.fr, H⟩
def Marks (B : Nat) (I : Nat → Prop) (ρ : Places) (H : AH) (ds : List Deferred) (w : World) : Prop :=
  ∃ rs : List Nat, ds.map (·.target) = rs.map .collected ∧ rs.Nodup ∧ ∀ r ∈ rs, B ≤ r ∧ w.heap[r]? = some (.deferred (some [])) ∧ ¬ Owned ρ H r ∧ ¬ I r
structure SRel (G : Glob) (B : Nat) (I : Nat → Prop) (w : World) (ρ : Places) (st : ASt) (a : Act) : Prop where
  heap : HRel G I w ρ st.H
  size : a.tmps.size = st.fr.length
  fr : ∀ (i : Nat) (x : AV), st.fr[i]? = some x → VRel I w ρ (a.tmps.getD i undef) x
  marks : Marks B I ρ st.H a.defers w
  base : B ≤ w.heap.size
theorem SRel.ev {G : Glob} {B : Nat} {I : Nat → Prop} {w : World} {ρ : Places} {st : ASt} {a : Act} (h : SRel G B I w ρ st a) (x : Operand) : VRel I w ρ (a.eval x) (st.ev G x) := by
  cases x with
  | tmp t =>
    simp only [ASt.ev, Act.eval]
    cases hx : st.fr[t]? with
    | none => rw [List.getD_eq_getElem?_getD, hx]; exact .any
    | some x => rw [List.getD_eq_getElem?_getD, hx]; exact h.fr t x hx
  | const v => exact .sc
  | global g =>
    simp only [ASt.ev, Act.eval]; split
    · rename_i cells hg; exact (h.heap.glob g cells hg).1.mono (Keeps.refl _ _) (fun _ _ h => by cases h)
    exact .sc
  | func f => exact .sc
theorem heap_lt {w : World} {r : Nat} {o : Obj} (h : w.heap[r]? = some o) : r < w.heap.size := by
  rcases Nat.lt_or_ge r w.heap.size with h' | h'
  exact h'; rw [Array.getElem?_eq_none h'] at h; cases h
theorem Marks.went {B : Nat} {I I' : Nat → Prop} {w w' : World} {ρ ρ' : Places} {H H' : AH} {ds : List Deferred} (h : Marks B I ρ H ds w) (hw : Went I w ρ H I' w' ρ' H') : Marks B I' ρ' H' ds w' := by
  obtain ⟨rs, h0, h1, h2⟩ := h; refine ⟨rs, h0, h1, fun r hr => ?_⟩; obtain ⟨g1, g2, g3, g4⟩ := h2 r hr; have hlt := heap_lt g2; exact ⟨g1, (hw.frame r hlt g3).trans g2, fun ho => g3 (hw.own r ho hlt), fun hI => (hw.new r hI).elim g4 fun h => h.elim (fun h => by omega) g3⟩
theorem SRel.put {G : Glob} {B : Nat} {I I' : Nat → Prop} {w w' : World} {ρ ρ' : Places} {st : ASt} {a : Act} {H' : AH} {v : Value} {x : AV} (h : SRel G B I w ρ st a) (hw : Went I w ρ st.H I' w' ρ' H')
    (hh : HRel G I' w' ρ' H') (hv : VRel I' w' ρ' v x) (dst : Option Tmp) : SRel G B I' w' ρ' (st.put dst x H') (a.put dst v) := by
  have hk := hw.keeps h.heap
  cases dst with
  | none => exact ⟨hh, h.size, fun i y hy => (h.fr i y hy).mono hk hw.place, h.marks.went hw, Nat.le_trans h.base hw.size⟩
  | some d =>
    refine ⟨hh, by simp [Act.put, h.size], fun i y hy => ?_, h.marks.went hw, Nat.le_trans h.base hw.size⟩; simp only [ASt.put, List.getElem?_set] at hy; simp only [Act.put]; by_cases hd : d = i
    · subst hd; simp only [if_true] at hy; split at hy
      · cases hy
        have : d < a.tmps.size := by rw [h.size]; assumption
        rw [Array.getD_eq_getD_getElem?, Array.getElem?_setIfInBounds_self_of_lt this]; exact hv
      cases hy
    rw [if_neg hd] at hy; rw [Array.getD_eq_getD_getElem?, Array.getElem?_setIfInBounds_ne hd, ← Array.getD_eq_getD_getElem?]; exact (h.fr i y hy).mono hk hw.place
end Go.Proofs.Ax
namespace Go.Proofs.Ax
open Go
set_option linter.unusedVariables false
section
@[simp] def val? {α : Type} : Sem α → Option α
  | .pure v => some v
  | _ => none
theorem run_val {α : Type} {P : Program} {w : World} {s : Sem α} {v : α} (h : val? s = some v) : s.run P w = .ok v w := by
  cases s <;> simp [val?] at h
  subst h; rfl
def isAggD : Option TypeDesc → Bool
  | some (.struct _) | some (.array _ _) => true
  | _ => false
def apart (P : Program) (t : TypeId) (xs : List AV) (off : Nat) : Option AV :=
  match P.underlying t with
  | none => none
  | some (.struct _) | some (.array _ _) => if off + P.cellsOf t ≤ xs.length then some (.agg ((xs.drop off).take (P.cellsOf t))) else none
  | some _ => xs[off]?
theorem apart_eq {P : Program} {t : TypeId} {xs : List AV} {off : Nat} {x : AV} (h : apart P t xs off = some x) : P.underlying t ≠ none ∧
    (if isAggD (P.underlying t) then (if off + P.cellsOf t ≤ xs.length then some (AV.agg ((xs.drop off).take (P.cellsOf t))) else none) else xs[off]?) = some x := by
  unfold apart at h; split at h <;> simp_all [isAggD]
def aeqFields (P : Program) (eq : TypeId → AV → AV → Option Bool) (xs ys : List AV) : List Field → Option Bool
  | [] => some true
  | f :: fs => if f.name = "_" then aeqFields P eq xs ys fs else
    match apart P f.type xs f.offset, apart P f.type ys f.offset with
    | some a, some b => match eq f.type a b with
      | some true => aeqFields P eq xs ys fs
      | some false => some false
      | none => none
    | _, _ => none
def aeqElems (P : Program) (e : TypeId) (eq : TypeId → AV → AV → Option Bool) (xs ys : List AV) : Nat → Nat → Option Bool
  | _, 0 => some true
  | i, m + 1 =>
    match apart P e xs (i * P.cellsOf e), apart P e ys (i * P.cellsOf e) with
    | some a, some b => match eq e a b with
      | some true => aeqElems P e eq xs ys (i + 1) m
      | some false => some false
      | none => none
    | _, _ => none
def aeq (P : Program) : Nat → TypeId → AV → AV → Option Bool
  | 0, _, _, _ => none
  | d + 1, t, x, y =>
    match P.underlying t, x, y with
    | some .bool, .sc (.bool a), .sc (.bool b) => some (a == b)
    | some (.int _), .sc (.int k a), .sc (.int k' b) => if k = k' then some (a == b) else none
    | some .string, .sc (.string a), .sc (.string b) => some (a == b)
    | some (.slice _), .sc (.slice none _ _), .sc (.slice none _ _) => some true
    | some (.slice _), .sl _ _ (_ :: _), .sc (.slice none _ _) | some (.slice _), .sc (.slice none _ _), .sl _ _ (_ :: _) => some false
    | some (.slice _), .sm _ _ _ (_ + 1), .sc (.slice none _ _) | some (.slice _), .sc (.slice none _ _), .sm _ _ _ (_ + 1) => some false
    | some (.slice _), .sz _, .sc (.slice none _ _) | some (.slice _), .sc (.slice none _ _), .sz _ => some false
    | some (.map _ _), .sc (.map none), .sc (.map none) => some true
    | some (.map _ _), .mp _, .sc (.map none) | some (.map _ _), .sc (.map none), .mp _ => some false
    | some (.pointer _), .sc (.pointer none), .sc (.pointer none) => some true
    | some (.pointer _), .pi _, .sc (.pointer none) | some (.pointer _), .pm .., .sc (.pointer none)
    | some (.pointer _), .sc (.pointer none), .pi _ | some (.pointer _), .sc (.pointer none), .pm .. => some false
    | some (.interface _), .sc .nilIface, .sc .nilIface => some true
    | some (.interface _), .iface .., .sc .nilIface | some (.interface _), .sc .nilIface, .iface .. => some false
    | some (.func ..), .sc .nilFunc, .sc .nilFunc => some true
    | some (.func ..), .fn .., .sc .nilFunc | some (.func ..), .sc .nilFunc, .fn .. => some false
    | some (.struct fields), .agg xs, .agg ys => if P.stoodInHeld t then none else aeqFields P (aeq P d) xs ys fields.toList
    | some (.array n e), .agg xs, .agg ys => if (P.info? e).isNone then none else aeqElems P e (aeq P d) xs ys 0 n
    | some (.pointer e), .pm i r c, .pm i' r' c' => if i = i' ∧ r = r' ∧ c = c' ∧ (P.info? e).isSome = true then some true else none
    | _, _, _ => none
theorem run_isAgg {P : Program} {w : World} {t : TypeId} (h : P.underlying t ≠ none) : (isAgg t).run P w = .ok (isAggD (P.underlying t)) w := by
  cases hu : P.underlying t with
  | none => exact absurd hu h
  | some d => simp only [isAgg, Sem.run_bind, run_underlying hu, Result.andThen]; cases d <;> rfl
theorem info_of_underlying {P : Program} {t : TypeId} (h : P.underlying t ≠ none) : ∃ i, P.info? t = some i := by
  unfold Program.underlying at h
  cases hi : P.info? t with
  | none => rw [hi] at h; exact absurd rfl h
  | some i => exact ⟨i, rfl⟩
theorem run_sizeOf' {P : Program} {w : World} {t : TypeId} (h : P.info? t ≠ none) : (sizeOf t).run P w = .ok (P.cellsOf t) w := by
  cases hi : P.info? t with
  | none => exact absurd hi h
  | some i => simp [sizeOf, typeInfo, hi, Program.cellsOf]
theorem part_rel {P : Program} {I : Nat → Prop} {w : World} {ρ : Places} {cs : Array Value} {xs : List AV} (h : VRel I w ρ (.agg cs) (.agg xs)) {t : TypeId} {off : Nat} {x : AV} {w' : World}
    (hx : apart P t xs off = some x) : ∃ v, (part t cs off).run P w' = .ok v w' ∧ VRel I w ρ v x := by
  obtain ⟨hu, hx⟩ := apart_eq hx; obtain ⟨i, hi⟩ := info_of_underlying hu
  cases h with
  | agg hl h1 hv =>
    simp only [part, Sem.run_bind, run_isAgg hu, Result.andThen]
    cases ha : isAggD (P.underlying t) with
    | true =>
      simp only [ha, if_true] at hx ⊢; split at hx
      · rename_i hle
        cases hx
        have hs : (sizeOf t).run P w' = .ok (P.cellsOf t) w' := run_sizeOf' (by rw [hi]; simp); refine ⟨_, by simp only [Sem.run_bind, hs, Result.andThen, Sem.run_pure]; rfl, ?_⟩
        have hg : ∀ (j : Nat), j < P.cellsOf t → (cs.extract off (off + P.cellsOf t)).getD j undef = cs.getD (off + j) undef := by
          intro j hj; have h2 : off + j < cs.size := by omega
          have h3 : j < (cs.extract off (off + P.cellsOf t)).size := by simp; omega
          simp only [Array.getD, h2, h3, dif_pos]; simp
        refine .agg (by simp; omega) (fun j y hy => ?_) (fun j y hy => ?_)
        all_goals
          rw [List.getElem?_take] at hy; split at hy
          · rename_i hj; rw [List.getElem?_drop] at hy; rw [hg j hj]
            first | exact h1 _ _ hy | exact hv _ _ hy
          cases hy
      cases hx
    | false =>
      simp only [ha] at hx ⊢
      have hlt : off < cs.size := by
        rw [hl]; exact (List.getElem?_eq_some_iff.1 hx).1
      have hv' := hv _ _ hx; refine ⟨cs.getD off undef, ?_, hv'⟩; simp only [Bool.false_eq_true, if_false]; have : cs[off]? = some (cs.getD off undef) := by simp [Array.getD, hlt]
      rw [this]; rfl
theorem eqFields_sound {P : Program} {I : Nat → Prop} {w : World} {ρ : Places} {cs cs' : Array Value} {xs ys : List AV} {D : Nat} {eq : TypeId → AV → AV → Option Bool}
    (heq : ∀ t x y r v v', eq t x y = some r → VRel I w ρ v x → VRel I w ρ v' y → (Op.equalIn D t v v').run P w = .ok r w)
    (hx : VRel I w ρ (.agg cs) (.agg xs)) (hy : VRel I w ρ (.agg cs') (.agg ys)) : ∀ (fs : List Field) (r : Bool), aeqFields P eq xs ys fs = some r →
    ((do
      for f in fs do
        if f.name ≠ "_" then
          if !(← Op.equalIn D f.type (← part f.type cs f.offset) (← part f.type cs' f.offset)) then return false
      pure true : Sem Bool)).run P w = .ok r w
  | [], r, h => by
    simp [aeqFields] at h; subst h; rfl
  | f :: fs, r, h => by
    have ih := eqFields_sound heq hx hy fs; unfold aeqFields at h; by_cases hn : f.name = "_"
    · rw [if_pos hn] at h; have := ih r h; simp only [List.forIn_cons] at this ⊢; simpa [hn] using this
    rw [if_neg hn] at h; split at h
    · rename_i a b ha hb; obtain ⟨v, hv1, hv2⟩ := part_rel (w' := w) hx ha; obtain ⟨v', hv1', hv2'⟩ := part_rel (w' := w) hy hb; split at h
      · rename_i he; have h1 := heq _ _ _ _ _ _ he hv2 hv2'; have := ih r h; simp only [List.forIn_cons] at this ⊢; simpa [hn, Sem.run_bind, hv1, hv1', h1, Result.andThen] using this
      · rename_i he; have h1 := heq _ _ _ _ _ _ he hv2 hv2'
        cases h
        simp [List.forIn_cons, hn, Sem.run_bind, hv1, hv1', h1, Result.andThen]
      cases h
    cases h
theorem eqElems_sound {P : Program} {I : Nat → Prop} {w : World} {ρ : Places} {cs cs' : Array Value} {xs ys : List AV} {D : Nat} {eq : TypeId → AV → AV → Option Bool} {e : TypeId}
    (heq : ∀ t x y r v v', eq t x y = some r → VRel I w ρ v x → VRel I w ρ v' y → (Op.equalIn D t v v').run P w = .ok r w)
    (hx : VRel I w ρ (.agg cs) (.agg xs)) (hy : VRel I w ρ (.agg cs') (.agg ys)) : ∀ (m i : Nat) (r : Bool), aeqElems P e eq xs ys i m = some r →
    ((do
      for j in List.range' i m do
        if !(← Op.equalIn D e (← part e cs (j * P.cellsOf e)) (← part e cs' (j * P.cellsOf e))) then return false
      pure true : Sem Bool)).run P w = .ok r w
  | 0, i, r, h => by
    simp [aeqElems] at h; subst h; rfl
  | m + 1, i, r, h => by
    have ih := eqElems_sound (e := e) heq hx hy m (i + 1); unfold aeqElems at h; split at h
    · rename_i a b ha hb; obtain ⟨v, hv1, hv2⟩ := part_rel (w' := w) hx ha; obtain ⟨v', hv1', hv2'⟩ := part_rel (w' := w) hy hb; split at h
      · rename_i he; have h1 := heq _ _ _ _ _ _ he hv2 hv2'; have := ih r h; simp only [List.range'_succ, List.forIn_cons] at this ⊢; simpa [Sem.run_bind, hv1, hv1', h1, Result.andThen] using this
      · rename_i he; have h1 := heq _ _ _ _ _ _ he hv2 hv2'
        cases h
        simp [List.range'_succ, List.forIn_cons, Sem.run_bind, hv1, hv1', h1, Result.andThen]
      cases h
    cases h
theorem VRel.agg_inv {I : Nat → Prop} {w : World} {ρ : Places} {v : Value} {xs : List AV} (h : VRel I w ρ v (.agg xs)) : ∃ cs, v = .agg cs := by cases h; exact ⟨_, rfl⟩
set_option maxHeartbeats 1000000 in
theorem aeq_sound {P : Program} {I : Nat → Prop} {w : World} {ρ : Places} : ∀ (d D : Nat) (t : TypeId) (x y : AV) (r : Bool) (v v' : Value), d ≤ D → aeq P d t x y = some r → VRel I w ρ v x → VRel I w ρ v' y →
    (Op.equalIn D t v v').run P w = .ok r w
  | 0, D, t, x, y, r, v, v', _, h, _, _ => by simp [aeq] at h
  | d + 1, D, t, x, y, r, v, v', hd, h, hx, hy => by
    obtain ⟨D, rfl⟩ : ∃ D', D = D' + 1 := ⟨D - 1, by omega⟩
    have ih := fun t x y r v v' => aeq_sound (P := P) (I := I) (w := w) (ρ := ρ) d D t x y r v v' (by omega)
    unfold aeq at h; split at h
    case h_25 fields xs ys hu =>
      split at h
      cases h
      rename_i hst; obtain ⟨cs, rfl⟩ := hx.agg_inv; obtain ⟨cs', rfl⟩ := hy.agg_inv; have := eqFields_sound (P := P) (D := D) ih hx hy fields.toList r h; simp only [Op.equalIn, Sem.run_bind, run_underlying hu, Result.andThen, run_program, hst]; simpa using this
    case h_26 n e xs ys hu =>
      obtain ⟨cs, rfl⟩ := hx.agg_inv; obtain ⟨cs', rfl⟩ := hy.agg_inv; split at h
      cases h
      rename_i hi; have := eqElems_sound (P := P) (D := D) (e := e) ih hx hy n 0 r h; have hs : (sizeOf e).run P w = .ok (P.cellsOf e) w := run_sizeOf' (by intro h; rw [h] at hi; exact hi rfl); simp only [Op.equalIn, Sem.run_bind, run_underlying hu, Result.andThen, hs]; simpa [Sem.run_bind, Result.andThen, Std.Legacy.Range.forIn_eq_forIn_range', Std.Legacy.Range.size] using this
    case h_27 e i r c i' r' c' hu =>
      split at h
      · rename_i hq; obtain ⟨rfl, rfl, rfl, hi⟩ := hq
        cases h
        cases hx with
        | pm hp =>
        cases hy with
        | pm hp' =>
        rw [hp] at hp'
        cases hp'
        have hs : (sizeOf e).run P w = .ok (P.cellsOf e) w := run_sizeOf' (by intro h; rw [h] at hi; cases hi); by_cases hz : P.cellsOf e = 0 <;> simp [Op.equalIn, run_underlying hu, Sem.run_bind, Result.andThen, hs, hz, sameAddr]
      cases h
    case h_2 hu =>
      split at h
      · rename_i hk; subst hk
        cases h; cases hx; cases hy
        simp [Op.equalIn, run_underlying hu, Sem.run_bind, Result.andThen]
      cases h
    all_goals first
      | (cases h; done)
      | (rename_i hu; cases h; cases hx; cases hy; simp [Op.equalIn, run_underlying hu, Sem.run_bind, Result.andThen]; done)
      | skip
end
section
def AV.ofV : Value → AV
  | .agg cs => if cs.all (·.oneCell') then .agg (cs.toList.map .sc) else .any
  | v => .sc v
theorem VRel.ofV {I : Nat → Prop} {w : World} {ρ : Places} (v : Value) : VRel I w ρ v (.ofV v) := by
  unfold AV.ofV; split
  · split
    · rename_i cs h
      have h' : ∀ (i : Nat) (x : AV), (cs.toList.map AV.sc)[i]? = some x → x = .sc (cs.getD i undef) ∧ (cs.getD i undef).oneCell' = true := by
        intro i x hx; rw [List.getElem?_map] at hx
        cases hc : cs.toList[i]? with
        | none => rw [hc] at hx; cases hx
        | some v =>
          rw [hc] at hx
          cases hx
          have hlt : i < cs.size := by
            have := (List.getElem?_eq_some_iff.1 hc).1; simpa using this
          have e : cs.getD i undef = v := by
            simp only [Array.getD, hlt, dif_pos]; have := (List.getElem?_eq_some_iff.1 hc).2; simpa using this
          refine ⟨by rw [e], ?_⟩; rw [e]
          have hm : v ∈ cs := by
            rw [← Array.mem_toList_iff]; exact List.mem_of_getElem? hc
          exact (Array.all_eq_true_iff_forall_mem.1 h) v hm
      exact .agg (by simp) (fun i x hx => (h' i x hx).2) (fun i x hx => by rw [(h' i x hx).1]; exact .sc)
    exact .any
  exact .sc
theorem add_addr (b o n : Nat) : (⟨b, o, none⟩ : Addr).add n = ⟨b, o + n, none⟩ := by
  unfold Addr.add; split
  rename_i h; subst h; rfl; rfl
theorem loadVar_sound {P : Program} {I : Nat → Prop} {w : World} {ρ : Places} {t : TypeId} {b o : Nat} {xs : List AV} {y : AV} (f : Nat → Value)
    (hf : ∀ (j : Nat) (x : AV), xs[j]? = some x → w.cell? ⟨b, o + j, none⟩ = some (f j) ∧ (f j).oneCell' = true ∧ VRel I w ρ (f j) x)
    (hy : apart P t xs 0 = some y) : ∃ v, (loadVar t ⟨b, o, none⟩).run P w = .ok v w ∧ VRel I w ρ v y := by
  obtain ⟨hu, hy⟩ := apart_eq hy; obtain ⟨i, hi⟩ := info_of_underlying hu; simp only [loadVar, Sem.run_bind, run_isAgg hu, Result.andThen]
  cases ha : isAggD (P.underlying t) with
  | true =>
    simp only [ha, if_true] at hy ⊢; split at hy
    · rename_i hle
      cases hy
      have hs : (sizeOf t).run P w = .ok (P.cellsOf t) w := run_sizeOf' (by rw [hi]; simp)
      have hl : (loadCells ⟨b, o, none⟩ (P.cellsOf t)).run P w = .ok ((List.range (P.cellsOf t)).map f).toArray w := by
        refine run_loadCells w ⟨b, o, none⟩ (P.cellsOf t) f (fun j hj => ?_); have hj' : j < xs.length := by omega
        rw [add_addr]; exact (hf j xs[j] (List.getElem?_eq_getElem hj')).1
      refine ⟨_, by simp only [Sem.run_bind, hs, hl, Result.andThen, Sem.run_pure]; rfl, ?_⟩
      have hg : ∀ (j : Nat) (x : AV), (List.take (P.cellsOf t) (List.drop 0 xs))[j]? = some x → (((List.range (P.cellsOf t)).map f).toArray.getD j undef) = f j ∧ xs[j]? = some x := by
        intro j x hx; rw [List.getElem?_take] at hx; split at hx
        · rename_i hj; rw [List.drop_zero] at hx; refine ⟨?_, hx⟩; simp [Array.getD, hj]
        cases hx
      refine .agg (by simp; omega) (fun j x hx => ?_) (fun j x hx => ?_); rw [(hg j x hx).1]; exact (hf j x (hg j x hx).2).2.1; rw [(hg j x hx).1]; exact (hf j x (hg j x hx).2).2.2
    cases hy
  | false =>
    simp only [ha, Bool.false_eq_true, if_false] at hy ⊢; have := hf 0 y hy; simp only [Nat.add_zero] at this; exact ⟨f 0, by rw [run_load, this.1], this.2.2⟩
def aload (P : Program) (H : AH) (t : TypeId) : AV → Option AV
  | .pi cells => apart P t cells 0
  | .pm id r c => match H[id]? with
    | some (.rows rs _) => match rs[r]? with
      | some row => apart P t (row.drop c) 0
      | none => none
    | _ => none
  | _ => none
theorem aload_sound {P : Program} {G : Glob} {I : Nat → Prop} {w : World} {ρ : Places} {H : AH} (hh : HRel G I w ρ H) {t : TypeId} {x y : AV} {v : Value} (hx : VRel I w ρ v x) (hy : aload P H t x = some y) :
    ∃ u, (Instr.loadAt t v).run P w = .ok u w ∧ VRel I w ρ u y := by
  cases hx <;> simp only [aload] at hy <;> try (cases hy; done)
  case pi b o cells f hI hc h1 hv => refine loadVar_sound (P := P) (b := b) (o := o) (xs := cells) f (fun j x hj => ⟨hc j x hj, h1 j x hj, (hv j x hj).mono (Keeps.refl _ _) (fun _ _ h => by cases h)⟩) hy
  case pm b n k id row col hp =>
    split at hy
    · rename_i rs te hr; split at hy
      · rename_i rw_ hrow; obtain ⟨hlt, hnI, hB⟩ := hh.blk id _ _ hr rfl hp; obtain ⟨⟨cells, hg, hsz, hcell⟩, hlen, hk⟩ := hB; refine loadVar_sound (P := P) (b := b) (o := row * k + col) (xs := rw_.drop col) (fun j => cells.getD (row * k + col + j) undef) (fun j x hj => ?_) hy; rw [List.getElem?_drop] at hj; have hc := hcell row (col + j) rw_ x hrow hj; have e1 : row * k + (col + j) = row * k + col + j := by omega
        rw [e1] at hc; refine ⟨?_, hc.1, hc.2⟩
        have hlt' : row * k + col + j < cells.size := by
          have h1 := hk rw_ (List.mem_of_getElem? hrow); have h2 := (List.getElem?_eq_some_iff.1 hj).1; have h3 := (List.getElem?_eq_some_iff.1 hrow).1; rw [hsz]; have h4 : (row + 1) * k ≤ rs.length * k := Nat.mul_le_mul_right _ (by omega); rw [Nat.add_mul] at h4; simp only at h1 h4 hlen ⊢; omega
        simp only [World.cell?, hg, Option.isSome, Bool.false_eq_true, if_false]; simp [Array.getD, hlt']
      cases hy
    cases hy
end
section
def afieldAddr (P : Program) (s : TypeId) (f : Nat) (x : AV) : Option AV :=
  match P.underlying s with
  | some (.struct fields) => match fields[f]? with
    | some fl => if (P.info? fl.type).isNone then none else if P.cellsOf fl.type = 0 then none else
      match x with
      | .pi cells => some (.pi (cells.drop fl.offset))
      | .pm id r c => some (.pm id r (c + fl.offset))
      | _ => none
    | none => none
  | _ => none
theorem VRel.pi_drop {I : Nat → Prop} {w : World} {ρ : Places} {b o d : Nat} {cells : List AV} (h : VRel I w ρ (.pointer (some ⟨b, o, none⟩)) (.pi cells)) :
    VRel I w ρ (.pointer (some ⟨b, o + d, none⟩)) (.pi (cells.drop d)) := by
  cases h with
  | pi f hI hc h1 hv =>
    refine .pi (fun j => f (d + j)) (fun hne => hI (fun h => hne (by rw [h]; simp))) (fun j x hj => ?_) (fun j x hj => ?_) (fun j x hj => ?_)
    all_goals rw [List.getElem?_drop] at hj
    · have := hc _ _ hj
      rwa [show o + (d + j) = o + d + j by omega] at this
    exact h1 _ _ hj; exact hv _ _ hj
theorem afieldAddr_sound {P : Program} {I : Nat → Prop} {w : World} {ρ : Places} {s : TypeId} {f : Nat} {x y : AV} {v : Value} (hx : VRel I w ρ v x) (hy : afieldAddr P s f x = some y) :
    ∃ u, (Instr.fieldAt s v f).run P w = .ok u w ∧ VRel I w ρ u y := by
  unfold afieldAddr at hy; split at hy
  · rename_i fields hu; split at hy
    · rename_i fl hf; split at hy
      cases hy
      rename_i hi; split at hy
      cases hy
      rename_i hz; have hs : (sizeOf fl.type).run P w = .ok (P.cellsOf fl.type) w := run_sizeOf' (fun h => hi (by rw [h]; rfl)); split at hy
      · cases hy
        cases hx with
        | pi f' hI hc h1 hv =>
        rename_i b o; refine ⟨.pointer (some ⟨b, o + fl.offset, none⟩), ?_, (VRel.pi f' hI hc h1 hv).pi_drop⟩; simp [Instr.fieldAt, run_underlying hu, hf, Instr.sureAddr, fieldPlace, hs, hz, add_addr]
      · cases hy
        cases hx with
        | pm hp =>
        rename_i id r c b n k; refine ⟨.pointer (some ⟨b, r * k + (c + fl.offset), none⟩), ?_, .pm hp⟩; simp [Instr.fieldAt, run_underlying hu, hf, Instr.sureAddr, fieldPlace, hs, hz, add_addr, Nat.add_assoc]
      cases hy
    cases hy
  cases hy
def afield (P : Program) (s : TypeId) (f : Nat) (x : AV) : Option AV :=
  match P.underlying s, x with
  | some (.struct fields), .agg xs => match fields[f]? with
    | some fl => apart P fl.type xs fl.offset
    | none => none
  | _, _ => none
theorem afield_sound {P : Program} {I : Nat → Prop} {w : World} {ρ : Places} {s : TypeId} {f : Nat} {x y : AV} {v : Value} (hx : VRel I w ρ v x) (hy : afield P s f x = some y) :
    ∃ u, (Instr.field s v f).run P w = .ok u w ∧ VRel I w ρ u y := by
  unfold afield at hy; split at hy
  · rename_i fields xs hu; split at hy
    · rename_i fl hf; obtain ⟨cs, rfl⟩ := hx.agg_inv; obtain ⟨u, h1, h2⟩ := part_rel (w' := w) hx hy; exact ⟨u, by simp [Instr.field, run_underlying hu, hf, asAgg, h1], h2⟩
    cases hy
  cases hy
def aindex (P : Program) (t : TypeId) (x i : AV) : Option AV :=
  match P.underlying t, x, i with
  | some (.array n e), .agg xs, .sc (.int _ i) => if (P.info? e).isNone then none else if 0 ≤ i ∧ i < n then apart P e xs (i.toNat * P.cellsOf e) else none
  | some .string, .sc (.string s), .sc (.int _ i) => if 0 ≤ i then (s[i.toNat]?).map fun b => .sc (.int .u8 b.toNat) else none
  | _, _, _ => none
theorem aindex_sound {P : Program} {I : Nat → Prop} {w : World} {ρ : Places} {t : TypeId} {x i y : AV} {v vi : Value} (hx : VRel I w ρ v x) (hi : VRel I w ρ vi i) (hy : aindex P t x i = some y) :
    ∃ u, (Instr.index t v vi).run P w = .ok u w ∧ VRel I w ρ u y := by
  unfold aindex at hy; split at hy
  · rename_i n e xs k i hu; split at hy
    cases hy
    rename_i hin; split at hy
    · rename_i hr; obtain ⟨cs, rfl⟩ := hx.agg_inv
      cases hi
      obtain ⟨u, h1, h2⟩ := part_rel (w' := w) hx hy; have hs : (sizeOf e).run P w = .ok (P.cellsOf e) w := run_sizeOf' (fun h => hin (by rw [h]; rfl)); exact ⟨u, by simp [Instr.index, run_underlying hu, asIntOf, hr, hs, h1], h2⟩
    cases hy
  · rename_i s k i hu; split at hy
    · rename_i h0
      cases hx
      cases hi
      cases hs : s[i.toNat]? with
      | none => rw [hs] at hy; cases hy
      | some b =>
        rw [hs] at hy
        cases hy
        exact ⟨_, by simp [Instr.index, run_underlying hu, asIntOf, h0, hs], .sc⟩
    cases hy
  cases hy
def aindexAddr (P : Program) (t : TypeId) (x i : AV) : Option AV :=
  match P.underlying t, x, i with
  | some (.slice e), .sl k _ rows, .sc (.int _ i) => if (P.info? e).isNone then none else if P.cellsOf e = k ∧ 0 ≤ i ∧ i < rows.length then some (.pi (rows.getD i.toNat [])) else none
  | some (.slice e), .sm id k off len, .sc (.int _ i) => if (P.info? e).isNone then none else if P.cellsOf e = k ∧ 0 ≤ i ∧ i < len then some (.pm id (off + i.toNat) 0) else none
  | some (.array n e), .pi cells, .sc (.int _ i) => if (P.info? e).isNone then none else if 0 ≤ i ∧ i < n then some (.pi (cells.drop (i.toNat * P.cellsOf e))) else none
  | some (.array n e), .pm id r c, .sc (.int _ i) => if (P.info? e).isNone then none else if 0 ≤ i ∧ i < n then some (.pm id r (c + i.toNat * P.cellsOf e)) else none
  | _, _, _ => none
theorem aindexAddr_sound {P : Program} {I : Nat → Prop} {w : World} {ρ : Places} {t : TypeId} {x i y : AV} {v vi : Value} (hx : VRel I w ρ v x) (hi : VRel I w ρ vi i) (hy : aindexAddr P t x i = some y) :
    ∃ u, (Instr.indexAt t v vi).run P w = .ok u w ∧ VRel I w ρ u y := by
  unfold aindexAddr at hy; split at hy
  · rename_i e k tight rows _ i hu; split at hy
    cases hy
    rename_i hin; split at hy
    · rename_i hr
      cases hy
      cases hi
      have hs : (sizeOf e).run P w = .ok (P.cellsOf e) w := run_sizeOf' (fun h => hin (by rw [h]; rfl)); obtain ⟨rfl, h0, hlt⟩ := hr
      cases hx with
      | slNil => simp at hlt; omega
      | slMt ht => simp at hlt; omega
      | sl f hl hcap ht hkk hI hc h1 hv =>
      rename_i b o len cap; have hlt' : i.toNat < rows.length := by omega
      refine ⟨.pointer (some ⟨b, o + i.toNat * P.cellsOf e, none⟩), ?_, ?_⟩; simp [Instr.indexAt, run_underlying hu, asIntOf, h0, hs, hl ▸ hlt, add_addr]; rw [List.getD_eq_getElem?_getD, List.getElem?_eq_getElem hlt', Option.getD_some]; have hg : rows[i.toNat]? = some rows[i.toNat] := List.getElem?_eq_getElem hlt'; exact .pi (f i.toNat) (fun _ => hI (fun h => by simp [h] at hlt')) (fun j x hj => hc _ _ _ _ hg hj) (fun j x hj => h1 _ _ _ _ hg hj) (fun j x hj => hv _ _ _ _ hg hj)
    cases hy
  · rename_i e id k off len _ i hu; split at hy
    cases hy
    rename_i hin; split at hy
    · rename_i hr
      cases hy
      cases hi
      have hs : (sizeOf e).run P w = .ok (P.cellsOf e) w := run_sizeOf' (fun h => hin (by rw [h]; rfl)); obtain ⟨rfl, h0, hlt⟩ := hr
      cases hx with
      | smNil => omega
      | sm hp hcap hn =>
      rename_i b n cap; refine ⟨.pointer (some ⟨b, (off + i.toNat) * P.cellsOf e + 0, none⟩), ?_, .pm hp⟩; simp [Instr.indexAt, run_underlying hu, asIntOf, h0, hs, hlt, add_addr, Nat.add_mul]
    cases hy
  · rename_i n e cells _ i hu; split at hy
    cases hy
    rename_i hin; split at hy
    · rename_i hr
      cases hy
      cases hi
      have hs : (sizeOf e).run P w = .ok (P.cellsOf e) w := run_sizeOf' (fun h => hin (by rw [h]; rfl))
      cases hx with
      | pi f hI hc h1 hv =>
      rename_i b o; refine ⟨.pointer (some ⟨b, o + i.toNat * P.cellsOf e, none⟩), ?_, (VRel.pi f hI hc h1 hv).pi_drop⟩; simp [Instr.indexAt, run_underlying hu, asIntOf, hr, hs, add_addr, Instr.sureAddr]
    cases hy
  · rename_i n e id r c _ i hu; split at hy
    cases hy
    rename_i hin; split at hy
    · rename_i hr
      cases hy
      cases hi
      have hs : (sizeOf e).run P w = .ok (P.cellsOf e) w := run_sizeOf' (fun h => hin (by rw [h]; rfl))
      cases hx with
      | pm hp =>
      rename_i b n' k; refine ⟨.pointer (some ⟨b, r * k + (c + i.toNat * P.cellsOf e), none⟩), ?_, .pm hp⟩; simp [Instr.indexAt, run_underlying hu, asIntOf, hr, hs, add_addr, Instr.sureAddr, Nat.add_assoc]
    cases hy
  cases hy
end
section
def abound (d : Nat) : Option AV → Option Nat
  | none => some d
  | some (.sc (.int _ i)) => if 0 ≤ i then some i.toNat else none
  | _ => none
def aslice (P : Program) (t : TypeId) (x : AV) (lo hi mx : Option AV) : Option AV :=
  match P.underlying t, x with
  | some .string, .sc (.string s) => if mx.isSome then none else
    match abound 0 lo, abound s.size hi with
    | some l, some h => if l ≤ h ∧ h ≤ s.size then some (.sc (.string (s.extract l h))) else none
    | _, _ => none
  | some (.slice e), .sl k tight rows => if (P.info? e).isNone then none else if P.cellsOf e ≠ k then none else
    match abound 0 lo, abound rows.length hi, mx with
    | some l, some h, none => if l ≤ h ∧ h ≤ rows.length then (if l == h && !rows.isEmpty && !(tight && h == rows.length) then some (.sz k) else some (.sl k (tight && h == rows.length) ((rows.take h).drop l))) else none
    | some l, some h, some m => match hi, abound 0 (some m) with
      | some _, some m => if l ≤ h ∧ h ≤ m ∧ m ≤ rows.length then some (.sl k (h == m) ((rows.take h).drop l)) else none
      | _, _ => none
    | _, _, _ => none
  | some (.slice e), .sm id k off len => if (P.info? e).isNone then none else if P.cellsOf e ≠ k then none else
    match abound 0 lo, abound len hi, mx with
    | some l, some h, none => if l ≤ h ∧ h ≤ len then (if l = 0 then some (.sm id k off h) else if l < len then some (.sm id k (off + l) (h - l)) else some (.sl k false [])) else none
    | _, _, _ => none
  | some (.slice e), .sc (.slice none 0 0) => if (P.info? e).isNone then none else
    match abound 0 lo, abound 0 hi, mx with
    | some 0, some 0, none => some (.sc (.slice none 0 0))
    | some 0, some 0, some m => match hi, abound 0 (some m) with
      | some _, some 0 => some (.sc (.slice none 0 0))
      | _, _ => none
    | _, _, _ => none
  | _, _ => none
theorem sliceBound_sound {P : Program} {I : Nat → Prop} {w : World} {ρ : Places} {x : AV} {v : Value} {d l y : Nat} {c : BoundsCode} (hx : VRel I w ρ v x) (h : abound d (some x) = some l) (hl : l ≤ y) :
    (Instr.sliceBound v y c).run P w = .ok l w := by
  unfold abound at h; split at h
  cases ‹some x = none›
  · rename_i k i he
    cases he
    cases hx
    split at h
    · rename_i h0
      cases h
      have : (0 ≤ i ∧ i ≤ (y : Int)) := ⟨h0, by omega⟩; simp [Instr.sliceBound, asIntOf, this]
    cases h
  cases h
theorem sliceBounds_sound {P : Program} {I : Nat → Prop} {w : World} {ρ : Places} {lo hi : Option AV} {vlo vhi : Option Value} {len cap l h : Nat} {b : Bool}
    (hlo : ∀ x, lo = some x → ∃ v, vlo = some v ∧ VRel I w ρ v x) (hlo' : lo = none → vlo = none) (hhi : ∀ x, hi = some x → ∃ v, vhi = some v ∧ VRel I w ρ v x) (hhi' : hi = none → vhi = none)
    (h1 : abound 0 lo = some l) (h2 : abound len hi = some h) (hlh : l ≤ h) (hc : h ≤ cap) :
    (Instr.sliceBounds b len cap vlo vhi none).run P w = .ok (l, h, cap) w := by
  unfold Instr.sliceBounds
  cases hi with
  | none =>
    rw [hhi' rfl]; simp only [abound, Option.some.injEq] at h2; subst h2
    cases lo with
    | none =>
      rw [hlo' rfl]; simp only [abound, Option.some.injEq] at h1; subst h1; simp
    | some x =>
      obtain ⟨v, rfl, hv⟩ := hlo x rfl; have := sliceBound_sound (P := P) (c := .sliceB) hv h1 hlh; simp [this]
  | some y =>
    obtain ⟨u, rfl, hu⟩ := hhi y rfl
    cases lo with
    | none =>
      rw [hlo' rfl]; simp only [abound, Option.some.injEq] at h1; subst h1
      cases b with
      | true => have := sliceBound_sound (P := P) (c := .sliceAcap) hu h2 hc; simp [this]
      | false => have := sliceBound_sound (P := P) (c := .sliceAlen) hu h2 hc; simp [this]
    | some x =>
      obtain ⟨v, rfl, hv⟩ := hlo x rfl; have h3 := sliceBound_sound (P := P) (c := .sliceB) hv h1 hlh
      cases b with
      | true => have := sliceBound_sound (P := P) (c := .sliceAcap) hu h2 hc; simp [this, h3]
      | false => have := sliceBound_sound (P := P) (c := .sliceAlen) hu h2 hc; simp [this, h3]
theorem sliceBounds3_sound {P : Program} {I : Nat → Prop} {w : World} {ρ : Places} {lo : Option AV} {y z : AV} {vlo : Option Value} {vy vz : Value} {len cap l h m : Nat}
    (hlo : ∀ x, lo = some x → ∃ v, vlo = some v ∧ VRel I w ρ v x) (hlo' : lo = none → vlo = none) (hy : VRel I w ρ vy y) (hz : VRel I w ρ vz z)
    (h1 : abound 0 lo = some l) (h2 : abound len (some y) = some h) (h3 : abound 0 (some z) = some m) (hlh : l ≤ h) (hhm : h ≤ m) (hc : m ≤ cap) :
    (Instr.sliceBounds true len cap vlo (some vy) (some vz)).run P w = .ok (l, h, m) w := by
  unfold Instr.sliceBounds; have e1 := sliceBound_sound (P := P) (c := .slice3Acap) hz h3 hc; have e2 := sliceBound_sound (P := P) (c := .slice3B) hy h2 hhm
  cases lo with
  | none =>
    rw [hlo' rfl]; simp only [abound, Option.some.injEq] at h1; subst h1; simp [e1, e2]
  | some x =>
    obtain ⟨v, rfl, hv⟩ := hlo x rfl; have e3 := sliceBound_sound (P := P) (c := .slice3C) hv h1 hlh; simp [e1, e2, e3]
theorem VRel.sl_slice {I : Nat → Prop} {w : World} {ρ : Places} {b o len cap k l h m : Nat} {tight t' : Bool} {rows : List (List AV)} (hx : VRel I w ρ (.slice (some ⟨b, o, none⟩) len cap) (.sl k tight rows))
    (hlh : l ≤ h) (hhr : h ≤ rows.length) (hhm : h ≤ m) (ht : t' = true → m = h) :
    VRel I w ρ (.slice (some ⟨b, (if m = l then o else o + l * k), none⟩) (h - l) (m - l)) (.sl k t' ((rows.take h).drop l)) := by
  cases hx with
  | slMt htt =>
    have hh0 : h = 0 := by simpa using hhr
    subst hh0; obtain rfl : l = 0 := by omega
    have := VRel.slMt (I := I) (w := w) (ρ := ρ) (k := k) (a := ⟨b, (if m = 0 then o else o + 0 * k), none⟩) ht; simpa using this
  | sl f hl hcap htt hk hI hc h1 hv =>
    have hg : ∀ (i : Nat) (row : List AV), ((rows.take h).drop l)[i]? = some row → rows[l + i]? = some row ∧ l + i < h := by
      intro i row hi; rw [List.getElem?_drop, List.getElem?_take] at hi; split at hi
      exact ⟨hi, by assumption⟩
      cases hi
    refine .sl (fun i j => f (l + i) j) (by simp; omega) (by omega) (fun h => by have := ht h; omega) (fun r hr => ?_) (fun hne => hI (fun h => hne (by rw [h]; simp))) (fun i j row x hi hj => ?_)
      (fun i j row x hi hj => ?_) (fun i j row x hi hj => ?_)
    exact hk r (List.mem_of_mem_take (List.mem_of_mem_drop hr))
    · obtain ⟨h2, h3⟩ := hg i row hi; have := hc _ _ _ _ h2 hj; rw [if_neg (by omega)]
      rwa [show o + (l + i) * k + j = o + l * k + i * k + j by rw [Nat.add_mul]; omega] at this
    exact h1 _ _ _ _ (hg i row hi).1 hj; exact hv _ _ _ _ (hg i row hi).1 hj
theorem aslice_sound {P : Program} {I : Nat → Prop} {w : World} {ρ : Places} {t : TypeId} {x y : AV} {v : Value} {lo hi mx : Option AV} {vlo vhi vmx : Option Value} (hx : VRel I w ρ v x)
    (hlo : ∀ x, lo = some x → ∃ v, vlo = some v ∧ VRel I w ρ v x) (hlo' : lo = none → vlo = none) (hhi : ∀ x, hi = some x → ∃ v, vhi = some v ∧ VRel I w ρ v x) (hhi' : hi = none → vhi = none)
    (hmx : ∀ x, mx = some x → ∃ v, vmx = some v ∧ VRel I w ρ v x) (hmx' : mx = none → vmx = none)
    (hy : aslice P t x lo hi mx = some y) : ∃ u, (Instr.sliceAt t v vlo vhi vmx).run P w = .ok u w ∧ VRel I w ρ u y := by
  unfold aslice at hy; split at hy
  · rename_i s hu; split at hy
    cases hy
    rename_i hm
    cases mx with
    | some m => simp at hm
    | none =>
    rw [hmx' rfl]; split at hy
    · rename_i l h h1 h2; split at hy
      · rename_i hr
        cases hy
        cases hx
        have := sliceBounds_sound (P := P) (b := false) (cap := s.size) hlo hlo' hhi hhi' h1 h2 hr.1 hr.2; exact ⟨.string (s.extract l h), by simp [Instr.sliceAt, Instr.slice, run_underlying hu, this], .sc⟩
      cases hy
    cases hy
  · rename_i e k tight rows hu; split at hy
    cases hy
    rename_i hin; split at hy
    cases hy
    rename_i hk; have hk : P.cellsOf e = k := by simpa using hk
    have hs : (sizeOf e).run P w = .ok (P.cellsOf e) w := run_sizeOf' (fun h => hin (by rw [h]; rfl))
    cases hx with
    | slNil =>
      cases e1 : abound 0 lo with
      | none => simp [e1] at hy
      | some l =>
      cases e2 : abound ([] : List (List AV)).length hi with
      | none => simp only [e1, e2] at hy; cases hy
      | some h =>
      cases mx with
      | none =>
        simp only [e1, e2] at hy; rw [hmx' rfl]; split at hy
        · rename_i hr; simp only [List.isEmpty_nil, Bool.not_true, Bool.and_false, Bool.false_and, Bool.false_eq_true, if_false] at hy
          cases hy
          obtain ⟨h1, h2⟩ := hr; simp only [List.length_nil, Nat.le_zero] at h2; subst h2; obtain rfl : l = 0 := by omega
          have hb := sliceBounds_sound (P := P) (b := true) (cap := 0) (len := 0) hlo hlo' hhi hhi' e1 e2 (Nat.le_refl _) (Nat.le_refl _); exact ⟨.slice none 0 0, by simp [Instr.sliceAt, Instr.slice, run_underlying hu, hb, hs], by simpa using .slNil⟩
        cases hy
      | some mm =>
        simp only [e1, e2] at hy
        cases hi with
        | none => simp at hy
        | some yy =>
        cases e5 : abound 0 (some mm) with
        | none => simp [e5] at hy
        | some m =>
        simp only [e5] at hy; split at hy
        · rename_i hr
          cases hy
          obtain ⟨h1, h2, h3⟩ := hr; simp only [List.length_nil, Nat.le_zero] at h3; subst h3; obtain rfl : h = 0 := by omega
          obtain rfl : l = 0 := by omega
          obtain ⟨vy, rfl, hvy⟩ := hhi _ rfl; obtain ⟨vz, rfl, hvz⟩ := hmx _ rfl; have hb := sliceBounds3_sound (P := P) (cap := 0) (len := 0) hlo hlo' hvy hvz e1 e2 e5 (Nat.le_refl _) (Nat.le_refl _) (Nat.le_refl _); exact ⟨.slice none 0 0, by simp [Instr.sliceAt, Instr.slice, run_underlying hu, hb, hs], by simpa using .slNil⟩
        cases hy
    | slMt ht =>
      rename_i cap a
      cases e1 : abound 0 lo with
      | none => simp [e1] at hy
      | some l =>
      cases e2 : abound ([] : List (List AV)).length hi with
      | none => simp only [e1, e2] at hy; cases hy
      | some h =>
      cases mx with
      | none =>
        simp only [e1, e2] at hy; rw [hmx' rfl]; split at hy
        · rename_i hr; simp only [List.isEmpty_nil, Bool.not_true, Bool.and_false, Bool.false_and, Bool.false_eq_true, if_false] at hy
          cases hy
          obtain ⟨h1, h2⟩ := hr; simp only [List.length_nil, Nat.le_zero] at h2; subst h2; obtain rfl : l = 0 := by omega
          have hb := sliceBounds_sound (P := P) (b := true) (cap := cap) (len := 0) hlo hlo' hhi hhi' e1 e2 (Nat.le_refl _) (Nat.zero_le _); refine ⟨.slice (some (if cap = 0 then a else a.add (0 * k))) 0 cap, ?_, ?_⟩
          · simp [Instr.sliceAt, Instr.slice, run_underlying hu, hb, hs, hk]
            try (split <;> rfl)
          exact .slMt (fun h => ht (by simpa using h))
        cases hy
      | some mm =>
        simp only [e1, e2] at hy
        cases hi with
        | none => simp at hy
        | some yy =>
        cases e5 : abound 0 (some mm) with
        | none => simp [e5] at hy
        | some m =>
        simp only [e5] at hy; split at hy
        · rename_i hr
          cases hy
          obtain ⟨h1, h2, h3⟩ := hr; simp only [List.length_nil, Nat.le_zero] at h3; subst h3; obtain rfl : h = 0 := by omega
          obtain rfl : l = 0 := by omega
          obtain ⟨vy, rfl, hvy⟩ := hhi _ rfl; obtain ⟨vz, rfl, hvz⟩ := hmx _ rfl; have hb := sliceBounds3_sound (P := P) (cap := cap) (len := 0) hlo hlo' hvy hvz e1 e2 e5 (Nat.le_refl _) (Nat.le_refl _) (Nat.zero_le _); refine ⟨.slice (some (if 0 = 0 then a else a.add (0 * k))) 0 0, ?_, ?_⟩
          · simp [Instr.sliceAt, Instr.slice, run_underlying hu, hb, hs, hk]
            try (split <;> rfl)
          exact .slMt (fun _ => rfl)
        cases hy
    | sl f hl hcap ht hkk hI hc h1 hv =>
    rename_i b o len cap; have hx : VRel I w ρ (.slice (some ⟨b, o, none⟩) len cap) (.sl k tight rows) := .sl f hl hcap ht hkk hI hc h1 hv
    cases e1 : abound 0 lo with
    | none => simp [e1] at hy
    | some l =>
    cases e2 : abound rows.length hi with
    | none => simp [e1, e2] at hy
    | some h =>
    cases mx with
    | none =>
      simp only [e1, e2] at hy; rw [hmx' rfl]; split at hy
      · rename_i hr; have hb := sliceBounds_sound (P := P) (b := true) (cap := cap) (len := len) hlo hlo' hhi hhi' e1 (by rw [← hl]; exact e2) hr.1 (by omega); refine ⟨.slice (some (if cap = l then ⟨b, o, none⟩ else ⟨b, o + l * k, none⟩)) (h - l) (cap - l), ?_, ?_⟩
        · simp [Instr.sliceAt, Instr.slice, run_underlying hu, hb, hs, hk, add_addr]; split <;> rfl
        split at hy
        · rename_i hlh
          cases hy
          simp only [Bool.and_eq_true, beq_iff_eq] at hlh; rw [hlh.1.1, Nat.sub_self]; exact .sz
        cases hy
        have := hx.sl_slice (t' := tight && h == rows.length) hr.1 hr.2 (show h ≤ cap by omega) (fun h => by
          simp at h; have := ht h.1
          omega)
        split
        · rename_i hcl; rw [if_pos hcl] at this; exact this
        rename_i hcl; rw [if_neg hcl] at this; exact this
      cases hy
    | some mm =>
      simp only [e1, e2] at hy
      cases hi with
      | none => simp at hy
      | some yy =>
      cases e5 : abound 0 (some mm) with
      | none => simp [e5] at hy
      | some m =>
      simp only [e5] at hy; split at hy
      · rename_i hr
        cases hy
        obtain ⟨vy, rfl, hvy⟩ := hhi _ rfl; obtain ⟨vz, rfl, hvz⟩ := hmx _ rfl; have hb := sliceBounds3_sound (P := P) (cap := cap) (len := len) hlo hlo' hvy hvz e1 (by rw [← hl]; exact e2) e5 hr.1 hr.2.1 (by omega); refine ⟨.slice (some (if m = l then ⟨b, o, none⟩ else ⟨b, o + l * k, none⟩)) (h - l) (m - l), ?_, ?_⟩
        · simp [Instr.sliceAt, Instr.slice, run_underlying hu, hb, hs, hk, add_addr]; split <;> rfl
        have := hx.sl_slice (t' := h == m) hr.1 (show h ≤ rows.length by omega) hr.2.1 (fun h => by simp at h; omega); split
        · rename_i hcl; rw [if_pos hcl] at this; exact this
        rename_i hcl; rw [if_neg hcl] at this; exact this
      cases hy
  · rename_i e id k off len hu; split at hy
    cases hy
    rename_i hin; split at hy
    cases hy
    rename_i hk; have hk : P.cellsOf e = k := by simpa using hk
    have hs : (sizeOf e).run P w = .ok (P.cellsOf e) w := run_sizeOf' (fun h => hin (by rw [h]; rfl))
    cases hx with
    | smNil =>
      cases e1 : abound 0 lo with
      | none => simp [e1] at hy
      | some l =>
      cases e2 : abound 0 hi with
      | none => simp [e1, e2] at hy
      | some h =>
      cases mx with
      | some mm => simp [e1, e2] at hy
      | none =>
        simp only [e1, e2] at hy; rw [hmx' rfl]; split at hy
        · rename_i hr; obtain ⟨h1, h2⟩ := hr; obtain rfl : h = 0 := by omega
          obtain rfl : l = 0 := by omega
          simp only [if_true] at hy
          cases hy
          have hb := sliceBounds_sound (P := P) (b := true) (cap := 0) (len := 0) hlo hlo' hhi hhi' e1 e2 (Nat.le_refl _) (Nat.le_refl _); exact ⟨_, by simp [Instr.sliceAt, Instr.slice, run_underlying hu, hb, hs]; rfl, .smNil⟩
        cases hy
    | sm hp hcap hn =>
    rename_i b n cap
    cases e1 : abound 0 lo with
    | none => simp [e1] at hy
    | some l =>
    cases e2 : abound len hi with
    | none => simp [e1, e2] at hy
    | some h =>
    cases mx with
    | some mm => simp [e1, e2] at hy
    | none =>
      simp only [e1, e2] at hy; rw [hmx' rfl]; split at hy
      · rename_i hr; have hb := sliceBounds_sound (P := P) (b := true) (cap := cap) (len := len) hlo hlo' hhi hhi' e1 e2 hr.1 (by omega); refine ⟨.slice (some (if cap = l then ⟨b, off * k, none⟩ else ⟨b, off * k + l * k, none⟩)) (h - l) (cap - l), ?_, ?_⟩
        · simp [Instr.sliceAt, Instr.slice, run_underlying hu, hb, hs, hk, add_addr]; split <;> rfl
        split at hy
        · rename_i h0
          cases hy
          subst h0; simpa using VRel.sm (I := I) (w := w) hp (show h ≤ cap by omega) hn
        split at hy
        · rename_i h0 hlt
          cases hy
          rw [if_neg (by omega), ← Nat.add_mul]; exact .sm hp (by omega) (by rw [show off + l + (cap - l) = off + cap by omega]; exact hn)
        cases hy
        have : h - l = 0 := by omega
        rw [this]; split
        exact .sl (fun _ _ => undef) rfl (by omega) (fun h => by cases h) (fun r hr => by cases hr) (fun h => absurd rfl h) (fun i j row x hi => by simp at hi) (fun i j row x hi => by simp at hi) (fun i j row x hi => by simp at hi); exact .sl (fun _ _ => undef) rfl (by omega) (fun h => by cases h) (fun r hr => by cases hr) (fun h => absurd rfl h) (fun i j row x hi => by simp at hi) (fun i j row x hi => by simp at hi) (fun i j row x hi => by simp at hi)
      cases hy
  · rename_i e hu; split at hy
    cases hy
    rename_i hin; have hs : (sizeOf e).run P w = .ok (P.cellsOf e) w := run_sizeOf' (fun h => hin (by rw [h]; rfl))
    cases hx
    cases e1 : abound 0 lo with
    | none => simp [e1] at hy
    | some l =>
    cases l with
    | succ l => simp [e1] at hy
    | zero =>
    cases e2 : abound 0 hi with
    | none => simp [e1, e2] at hy
    | some h =>
    cases h with
    | succ h => simp [e1, e2] at hy
    | zero =>
    cases mx with
    | none =>
      simp only [e1, e2] at hy; rw [hmx' rfl]
      cases hy
      have hb := sliceBounds_sound (P := P) (b := true) (cap := 0) (len := 0) hlo hlo' hhi hhi' e1 e2 (Nat.le_refl _) (Nat.le_refl _); exact ⟨.slice none 0 0, by simp [Instr.sliceAt, Instr.slice, run_underlying hu, hb, hs], .sc⟩
    | some mm =>
      simp only [e1, e2] at hy
      cases hi with
      | none => simp at hy
      | some yy =>
      cases e5 : abound 0 (some mm) with
      | none => simp [e5] at hy
      | some m =>
      cases m with
      | succ m => simp [e5] at hy
      | zero =>
      simp only [e5] at hy
      cases hy
      obtain ⟨vy, rfl, hvy⟩ := hhi _ rfl; obtain ⟨vz, rfl, hvz⟩ := hmx _ rfl; have hb := sliceBounds3_sound (P := P) (cap := 0) (len := 0) hlo hlo' hvy hvz e1 e2 e5 (Nat.le_refl _) (Nat.le_refl _) (Nat.le_refl _); exact ⟨.slice none 0 0, by simp [Instr.sliceAt, Instr.slice, run_underlying hu, hb, hs], .sc⟩
  cases hy
end
section
def Value.plainEq : Value → Bool
  | .int .. | .float .. | .complex .. | .string .. => false
  | _ => true
theorem binOp_eql {t : TypeId} {v v' : Value} (h : Value.plainEq v = true) : binOp .eql t v v' = (do pure (.bool (← Op.equal t v v'))) := by cases v <;> first | (simp [Value.plainEq] at h; done) | (cases v' <;> rfl) | rfl
theorem binOp_neq {t : TypeId} {v v' : Value} (h : Value.plainEq v = true) : binOp .neq t v v' = (do pure (.bool (!(← Op.equal t v v')))) := by cases v <;> first | (simp [Value.plainEq] at h; done) | (cases v' <;> rfl) | rfl
def AV.plainEq : AV → Bool
  | .sc v => Value.plainEq v
  | .any => false
  | _ => true
theorem VRel.plainEq {I : Nat → Prop} {w : World} {ρ : Places} {v : Value} {x : AV} (h : VRel I w ρ v x) (hx : x.plainEq = true) : Value.plainEq v = true := by cases h <;> first | rfl | exact hx | (simp [AV.plainEq] at hx; done)
def eqOk (P : Program) (t : TypeId) (xo yo : Operand) (x y : AV) : Bool :=
  match x, y with
  | .sc .nilIface, .sc .nilIface => (match xo with | .const _ => true | _ => false) || (match yo with | .const _ => true | _ => false)
  | .sc (.agg _), _ | _, .sc (.agg _) => false
  | .agg _, .agg _ => !P.eqGuardType P.depth t
  | _, _ => true
theorem eqGuard_sound {P : Program} {I : Nat → Prop} {w : World} {ρ : Places} {op : BinOp} {t : TypeId} {xo yo : Operand} {x y : AV} {a b : Value} (ha : VRel I w ρ a x) (hb : VRel I w ρ b y) (hne : x ≠ .any) (hne' : y ≠ .any)
    (h : eqOk P t xo yo x y = true) : (eqGuard op t xo yo a b).run P w = .ok () w := by
  have key : (match a, b with
      | .nilIface, .nilIface => do
        if (xo matches .const _) || (yo matches .const _) then return
        if ← Op.eqGuardIn Op.maxDepth t a b then unsupported (.noEntry "binop/eql: two nil values of an interface type with methods, neither of them the literal nil")
      | .agg _, .agg _ => do
        if !(← program).eqGuardType (← program).depth t then return
        if ← Op.eqGuardIn Op.maxDepth t a b then unsupported (.noEntry "binop/eql: two nil values of an interface type with methods, in a part of a struct or an array")
      | _, _ => (pure () : Sem Unit)).run P w = .ok () w := by
    split
    · cases ha <;> first | (exact absurd rfl hne) | skip
      cases hb <;> first | (exact absurd rfl hne') | skip
      simp only [eqOk, Bool.or_eq_true] at h
      rcases h with h | h
      cases xo <;> first | (cases h; done) | rfl
      cases yo <;> first | (cases h; done) | (cases xo <;> rfl)
    · cases ha with
      | any => exact absurd rfl hne
      | sc => simp [eqOk] at h
      | agg hl h1 hv =>
      cases hb with
      | any => exact absurd rfl hne'
      | sc => simp [eqOk] at h
      | agg hl' h1' hv' =>
      simp only [eqOk, Bool.not_eq_true'] at h; simp [h]
    simp
  cases op <;> first | rfl | exact key
def abin (P : Program) (op : BinOp) (t : TypeId) (xo yo : Operand) (x y : AV) : Option AV :=
  match x, y with
  | .sc (.int k a), .sc (.int k' b) => (val? (binOp op t (.int k a) (.int k' b))).map .sc
  | .sc (.string a), .sc (.string b) => if a.size + b.size ≤ 2 ^ 62 then (val? (binOp op t (.string a) (.string b))).map .sc else none
  | x, y => if x.plainEq && y.plainEq && eqOk P t xo yo x y then
      match op with
      | .eql => (aeq P 12 t x y).map fun r => .sc (.bool r)
      | .neq => (aeq P 12 t x y).map fun r => .sc (.bool !r)
      | _ => none
    else none
theorem eqGuard_int {P : Program} {w : World} {op : BinOp} {t : TypeId} {xo yo : Operand} {k k' : IntKind} {a b : Int} : (eqGuard op t xo yo (.int k a) (.int k' b)).run P w = .ok () w := by cases op <;> rfl
theorem eqGuard_string {P : Program} {w : World} {op : BinOp} {t : TypeId} {xo yo : Operand} {a b : ByteArray} : (eqGuard op t xo yo (.string a) (.string b)).run P w = .ok () w := by cases op <;> rfl
theorem abin_sound {P : Program} {I : Nat → Prop} {w : World} {ρ : Places} {op : BinOp} {t : TypeId} {xo yo : Operand} {x y z : AV} {a b : Value} (ha : VRel I w ρ a x) (hb : VRel I w ρ b y)
    (h : abin P op t xo yo x y = some z) : ∃ u, (do eqGuard op t xo yo a b; binOp op t a b : Sem Value).run P w = .ok u w ∧ VRel I w ρ u z := by
  unfold abin at h; split at h
  · cases ha; cases hb
    cases hv : val? (binOp op t (.int _ _) (.int _ _)) with
    | none => rw [hv] at h; cases h
    | some v =>
      rw [hv] at h
      cases h
      exact ⟨v, by simp [Sem.run_bind, eqGuard_int, run_val hv], .sc⟩
  · split at h
    · cases ha; cases hb
      cases hv : val? (binOp op t (.string _) (.string _)) with
      | none => rw [hv] at h; cases h
      | some v =>
        rw [hv] at h
        cases h
        exact ⟨v, by simp [Sem.run_bind, eqGuard_string, run_val hv], .sc⟩
    cases h
  split at h
  · rename_i hp; simp only [Bool.and_eq_true] at hp; obtain ⟨⟨hx, hy⟩, he⟩ := hp; have hg := eqGuard_sound (P := P) (op := op) (t := t) ha hb (by rintro rfl; simp [AV.plainEq] at hx) (by rintro rfl; simp [AV.plainEq] at hy) he; have ex : Value.plainEq a = true := ha.plainEq hx; split at h
    · cases hr : aeq P 12 t x y with
      | none => rw [hr] at h; cases h
      | some r =>
        rw [hr] at h
        cases h
        have := aeq_sound (P := P) 12 Op.maxDepth t x y r a b (by simp [Op.maxDepth]) hr ha hb; exact ⟨.bool r, by simp only [Sem.run_bind, hg, Result.andThen, binOp_eql ex, Op.equal, this]; rfl, .sc⟩
    · cases hr : aeq P 12 t x y with
      | none => rw [hr] at h; cases h
      | some r =>
        rw [hr] at h
        cases h
        have := aeq_sound (P := P) 12 Op.maxDepth t x y r a b (by simp [Op.maxDepth]) hr ha hb; exact ⟨.bool !r, by simp only [Sem.run_bind, hg, Result.andThen, binOp_neq ex, Op.equal, this]; rfl, .sc⟩
    cases h
  cases h
def alen (P : Program) (H : AH) (t : TypeId) (x : AV) : Option Nat :=
  match P.underlying t, x with
  | some .string, .sc (.string s) => some s.size
  | some (.slice _), .sl _ _ rows => some rows.length
  | some (.slice _), .sm _ _ _ len => some len
  | some (.slice _), .sc (.slice _ n _) => some n
  | some (.slice _), .sz _ => some 0
  | some (.map _ _), .sc (.map none) => some 0
  | some (.map _ _), .mp id => match H[id]? with
    | some (.amap es _) => some es.length
    | _ => none
  | some (.array n _), _ => some n
  | _, _ => none
theorem alen_sound {P : Program} {G : Glob} {I : Nat → Prop} {w : World} {ρ : Places} {H : AH} (hh : HRel G I w ρ H) {t ty : TypeId} {x : AV} {v : Value} {n : Nat} (hx : VRel I w ρ v x) (hy : alen P H t x = some n) :
    (Builtin.len_ #[t] ty #[v]).run P w = .ok (goInt n) w := by
  unfold alen at hy; split at hy
  · rename_i s hu
    cases hy; cases hx
    simp [Builtin.len_, run_underlying hu]
  · rename_i hu
    cases hy
    cases hx with
    | slNil => simp [Builtin.len_, run_underlying hu]
    | slMt ht => simp [Builtin.len_, run_underlying hu]
    | sl f hl hcap ht hk hI hc h1 hv => simp [Builtin.len_, run_underlying hu, hl]
  · rename_i hu
    cases hy
    cases hx with
    | smNil => simp [Builtin.len_, run_underlying hu]
    | sm hp hcap hn => simp [Builtin.len_, run_underlying hu]
  · rename_i hu
    cases hy; cases hx
    simp [Builtin.len_, run_underlying hu]
  · rename_i hu
    cases hy; cases hx
    simp [Builtin.len_, run_underlying hu]
  · rename_i hu
    cases hy; cases hx
    simp [Builtin.len_, run_underlying hu]
  · rename_i id hu; split at hy
    · rename_i es clk he
      cases hy
      cases hx with
      | mp hp =>
      rename_i b nn kk; obtain ⟨hlt, hnI, ms, hg, hsz, hB⟩ := hh.blk id _ _ he rfl hp; simp only at hg; have : (getObj b).run P w = .ok (.map ms clk) w := by simp [getObj, Sem.run, hg]
      simp [Builtin.len_, run_underlying hu, this, hsz]
    cases hy
  · rename_i n' e hu
    cases hy
    simp [Builtin.len_, run_underlying hu]
  cases hy
def scs : List AV → Option (List Value)
  | [] => some []
  | .sc v :: xs => (scs xs).map (v :: ·)
  | _ => none
theorem scs_sound {I : Nat → Prop} {w : World} {ρ : Places} : ∀ (xs : List AV) (vs us : List Value), scs xs = some us → vs.length = xs.length → (∀ (i : Nat) (x : AV), xs[i]? = some x → VRel I w ρ (vs.getD i undef) x) → vs = us
  | [], [], us, h, _, _ => by simp [scs] at h; exact h.symm
  | [], _ :: _, us, h, hl, _ => by simp at hl
  | _ :: _, [], us, h, hl, _ => by simp at hl
  | x :: xs, v :: vs, us, h, hl, hv => by
    have h0 := hv 0 x rfl; unfold scs at h; split at h
    cases ‹_ = []›
    · rename_i u xs' he
      cases he
      cases hs : scs xs with
      | none => rw [hs] at h; cases h
      | some us' =>
        rw [hs] at h
        cases h
        cases h0
        have := scs_sound xs vs us' hs (by simpa using hl) (fun i y hy => hv (i + 1) y (by simpa using hy)); rw [this]; rfl
    cases h
def aconvert (P : Program) (src dst : TypeId) (x : AV) : Option AV :=
  match P.underlying src, P.underlying dst, x with
  | some _, some (.int k), .sc (.int _ n) => some (.sc (.int k (k.wrap n)))
  | some _, some .string, .sc (.string s) => some (.sc (.string s))
  | _, _, _ => none
theorem aconvert_sound {P : Program} {I : Nat → Prop} {w : World} {ρ : Places} {src dst : TypeId} {x y : AV} {v : Value} (hx : VRel I w ρ v x) (hy : aconvert P src dst x = some y) :
    ∃ u, (convert src dst v).run P w = .ok u w ∧ VRel I w ρ u y := by
  unfold aconvert at hy; split at hy
  · rename_i d k _ n hs hd
    cases hy; cases hx
    exact ⟨.int k (k.wrap n), by cases d <;> simp [convert, run_underlying hs, run_underlying hd, Conv.intToInt], .sc⟩
  · rename_i d s hs hd
    cases hy; cases hx
    exact ⟨.string s, by cases d <;> simp [convert, run_underlying hs, run_underlying hd], .sc⟩
  cases hy
end
section
theorem BRel.mono {I I' : Nat → Prop} {w w' : World} {ρ ρ' : Places} {l : Loc} {blk : ABlk} (h : BRel I w ρ l blk) (hk : Keeps I I' w w') (hp : ∀ id l, ρ id = some l → ρ' id = some l)
    (hs : w'.heap[l.blk]? = w.heap[l.blk]?) : BRel I' w' ρ' l blk := by
  cases blk with
  | dead => exact trivial
  | rows rs te =>
    obtain ⟨⟨cells, hg, hsz, hc⟩, h2, h3⟩ := h; exact ⟨⟨cells, hs.trans hg, hsz, fun i j row x hi hj => ⟨(hc i j row x hi hj).1, (hc i j row x hi hj).2.mono hk hp⟩⟩, h2, h3⟩
  | amap es clock =>
    obtain ⟨ms, hg, hsz, hr⟩ := h; exact ⟨ms, hs.trans hg, hsz, fun i m e hm he => ⟨(hr i m e hm he).1.mono hk hp, (hr i m e hm he).2.1.mono hk hp, (hr i m e hm he).2.2⟩⟩
  | loop st pe fr ps as bd =>
    obtain ⟨r, hg, h1, h2, h3, h4, h5, h6, h7⟩ := h; exact ⟨r, hs.trans hg, h1, h2, h3, h4, h5, h6, fun i x hi => (h7 i x hi).mono hk hp⟩
  | miter mid since seen last =>
    obtain ⟨mb, hg, hm⟩ := h; refine ⟨mb, hs.trans hg, ?_⟩
    cases mid with
    | none => exact hm
    | some m =>
      obtain ⟨l', h1, h2⟩ := hm; exact ⟨l', hp _ _ h1, h2⟩
  | siter s pos => exact hs.trans h
theorem HRel.glob' {G : Glob} {I I' : Nat → Prop} {w w' : World} {ρ : Places} {H : AH} (h : HRel G I w ρ H) (hk : Keeps I I' w w') :
    ∀ (g : Nat) (cells : List AV), G g = some cells → GlobAt I' w' g cells :=
  fun g cells hg =>
    let ⟨h1, h2, arr, t, fz, h3, h4⟩ := h.glob g cells hg
    ⟨h1.mono hk (fun _ _ h => by cases h), hk.sub g h2, arr, t, fz, (hk.same g h2).trans h3, h4⟩
theorem HRel.same {G : Glob} {I : Nat → Prop} {w w' : World} {ρ : Places} {H : AH} (h : HRel G I w ρ H) (hs : w'.heap = w.heap) (ho : w'.os = w.os) (ht : w'.tape = w.tape) (hu : w'.output = w.output) :
    HRel G I w' ρ H ∧ Went I w ρ H I w' ρ H := by
  have hk : Keeps I I w w' := ⟨fun _ h => h, fun b _ => by rw [hs]⟩; refine ⟨⟨fun id blk l hi hl h1 => ?_, h.inj, h.dom, fun b hb => by rw [hs]; exact h.old b hb, h.glob' hk⟩, ⟨fun _ h => h, fun _ _ h => h, by rw [hs]; exact Nat.le_refl _, ho, ht, hu, fun b _ _ => by rw [hs], fun b hb _ => hb, fun _ h => .inl h⟩⟩; obtain ⟨h2, h3, h4⟩ := h.blk id blk l hi hl h1; exact ⟨by rw [hs]; exact h2, h3, h4.mono hk (fun _ _ h => h) (by rw [hs])⟩
theorem heap_alloc {w : World} {o : Obj} {b : Nat} (hb : b < w.heap.size) : (w.alloc o).heap[b]? = w.heap[b]? := Go.RowKit.Below.heap_alloc w o b hb
theorem heap_alloc_new {w : World} {o : Obj} : (w.alloc o).heap[w.heap.size]? = some o := by
  show (w.heap.push o)[w.heap.size]? = _; simp
theorem HRel.alloc_imm {G : Glob} {I : Nat → Prop} {w : World} {ρ : Places} {H : AH} (h : HRel G I w ρ H) (o : Obj) :
    HRel G (fun b => I b ∨ b = w.heap.size) (w.alloc o) ρ H ∧ Went I w ρ H (fun b => I b ∨ b = w.heap.size) (w.alloc o) ρ H := by
  have hk : Keeps I (fun b => I b ∨ b = w.heap.size) w (w.alloc o) := ⟨fun _ h => .inl h, fun b hb => heap_alloc (h.old b hb)⟩
  refine ⟨⟨fun id blk l hi hl h1 => ?_, h.inj, h.dom, fun b hb => ?_, h.glob' hk⟩,
    ⟨fun _ h => .inl h, fun _ _ h => h, by simp, rfl, rfl, rfl, fun b hb _ => heap_alloc hb, fun b hb _ => hb, fun b hb => hb.elim .inl fun h => .inr (.inl (by omega))⟩⟩
  · obtain ⟨h2, h3, h4⟩ := h.blk id blk l hi hl h1; exact ⟨by simp; omega, fun hc => hc.elim h3 (fun e => by omega), h4.mono hk (fun _ _ h => h) (heap_alloc h2)⟩
  rcases hb with hb | rfl
  have := h.old b hb; simp; omega; simp
def Places.new (ρ : Places) (id : Nat) (l : Loc) : Places := fun i => if i = id then some l else ρ i
theorem Places.new_old {ρ : Places} {n : Nat} {l : Loc} (h : ∀ id l, ρ id = some l → id < n) : ∀ id l', ρ id = some l' → ρ.new n l id = some l' := by
  intro id l' hl; have := h id l' hl; simp only [Places.new]; rw [if_neg (by omega)]; exact hl
theorem getElem?_snoc {α : Type} {H : List α} {x y : α} {id : Nat} (h : (H ++ [x])[id]? = some y) : (id < H.length ∧ H[id]? = some y) ∨ (id = H.length ∧ y = x) := by
  rw [List.getElem?_append] at h; split at h
  exact .inl ⟨by assumption, h⟩; rename_i hge; right
  have : id - H.length = 0 := by
    rcases Nat.eq_zero_or_pos (id - H.length) with h0 | h0
    exact h0; rw [List.getElem?_eq_none (by simp; omega)] at h; cases h
  rw [this] at h; simp at h; exact ⟨by omega, h.symm⟩
theorem HRel.alloc_own {G : Glob} {I : Nat → Prop} {w : World} {ρ : Places} {H : AH} (h : HRel G I w ρ H) (o : Obj) (blk : ABlk) (n k : Nat)
    (hB : ∀ ρ', (∀ id l, ρ id = some l → ρ' id = some l) → Keeps I I w (w.alloc o) → BRel I (w.alloc o) ρ' ⟨w.heap.size, n, k⟩ blk) :
    HRel G I (w.alloc o) (ρ.new H.length ⟨w.heap.size, n, k⟩) (H ++ [blk]) ∧ Went I w ρ H I (w.alloc o) (ρ.new H.length ⟨w.heap.size, n, k⟩) (H ++ [blk]) := by
  have hk : Keeps I I w (w.alloc o) := ⟨fun _ h => h, fun b hb => heap_alloc (h.old b hb)⟩; have hp := Places.new_old (l := ⟨w.heap.size, n, k⟩) h.dom; have hnew : (ρ.new H.length ⟨w.heap.size, n, k⟩) H.length = some ⟨w.heap.size, n, k⟩ := by simp [Places.new]
  have hnI : ¬ I w.heap.size := fun hc => Nat.lt_irrefl _ (h.old _ hc)
  refine ⟨⟨fun id blk' l hi hl h1 => ?_, fun id id' b b' l l' hi hi' hb hb' hl hl' e => ?_, fun id l hl => ?_, fun b hb => ?_, h.glob' hk⟩,
    ⟨fun _ h => h, hp, by simp, rfl, rfl, rfl, fun b hb _ => heap_alloc hb, ?_, fun _ h => .inl h⟩⟩
  · rcases getElem?_snoc hi with ⟨hlt, hi⟩ | ⟨rfl, rfl⟩
    · have e1 : ρ id = some l := by simpa [Places.new, show id ≠ H.length by omega] using h1
      obtain ⟨h2, h3, h4⟩ := h.blk id blk' l hi hl e1; exact ⟨by simp; omega, h3, h4.mono hk hp (heap_alloc h2)⟩
    rw [hnew] at h1
    cases h1
    exact ⟨by simp, hnI, hB _ hp hk⟩
  · rcases getElem?_snoc hi with ⟨hlt, hj⟩ | ⟨rfl, rfl⟩ <;> rcases getElem?_snoc hi' with ⟨hlt', hj'⟩ | ⟨rfl, rfl⟩
    · have e1 : ρ id = some l := by simpa [Places.new, show id ≠ H.length by omega] using hl
      have e2 : ρ id' = some l' := by simpa [Places.new, show id' ≠ H.length by omega] using hl'
      exact h.inj id id' b b' l l' hj hj' hb hb' e1 e2 e
    · have e1 : ρ id = some l := by simpa [Places.new, show id ≠ H.length by omega] using hl
      obtain ⟨h2, h3, h4⟩ := h.blk id b l hj hb e1; rw [hnew] at hl'
      cases hl'
      simp only at e; omega
    · have e1 : ρ id' = some l' := by simpa [Places.new, show id' ≠ H.length by omega] using hl'
      obtain ⟨h2, h3, h4⟩ := h.blk id' b' l' hj' hb' e1; rw [hnew] at hl
      cases hl
      simp only at e; omega
    rfl
  · simp only [Places.new] at hl; split at hl
    simp; omega; have := h.dom id l hl; simp; omega
  have := h.old b hb; simp; omega; rintro b ⟨id, blk', l, hi, hl, hpl, rfl⟩ hlt
  rcases getElem?_snoc hi with ⟨hlt', hi⟩ | ⟨rfl, rfl⟩
  · have e1 : ρ id = some l := by simpa [Places.new, show id ≠ H.length by omega] using hpl
    exact ⟨id, blk', _, hi, hl, e1, rfl⟩
  rw [hnew] at hpl
  cases hpl
  exact absurd hlt (Nat.lt_irrefl _)
theorem HRel.write {G : Glob} {I : Nat → Prop} {w w' : World} {ρ : Places} {H : AH} (h : HRel G I w ρ H) {id : Nat} {old blk : ABlk} {l : Loc} (hid : H[id]? = some old) (hlv : old.live = true) (hl : ρ id = some l)
    (hs : ∀ b, b ≠ l.blk → w'.heap[b]? = w.heap[b]?) (hsz : w'.heap.size = w.heap.size) (ho : w'.os = w.os) (ht : w'.tape = w.tape) (hu : w'.output = w.output)
    (hB : Keeps I I w w' → BRel I w' ρ l blk) : HRel G I w' ρ (H.set id blk) ∧ Went I w ρ H I w' ρ (H.set id blk) := by
  obtain ⟨h2, h3, h4⟩ := h.blk id old l hid hlv hl; have hk : Keeps I I w w' := ⟨fun _ h => h, fun b hb => hs b (fun e => h3 (e ▸ hb))⟩
  have hget : ∀ (i : Nat) (b : ABlk), (H.set id blk)[i]? = some b → (i = id ∧ b = blk) ∨ (i ≠ id ∧ H[i]? = some b) := by
    intro i b hi; rw [List.getElem?_set] at hi; split at hi
    · rename_i e; split at hi
      cases hi; exact .inl ⟨e.symm, rfl⟩
      cases hi
    rename_i e; exact .inr ⟨fun h => e h.symm, hi⟩
  refine ⟨⟨fun i b m hi hb g1 => ?_, fun i i' b b' m m' hi hi' hb hb' hm hm' e => ?_, fun i m hm => by simpa using h.dom i m hm, fun b hb => by rw [hsz]; exact h.old b hb, h.glob' hk⟩,
    ⟨fun _ h => h, fun _ _ h => h, by omega, ho, ht, hu, fun b hb hno => hs b (fun e => hno ⟨id, old, l, hid, hlv, hl, e.symm⟩), ?_, fun _ h => .inl h⟩⟩
  · rcases hget i b hi with ⟨rfl, rfl⟩ | ⟨hne, hi⟩
    · rw [hl] at g1
      cases g1
      exact ⟨by omega, h3, hB hk⟩
    obtain ⟨g2, g3, g4⟩ := h.blk i b m hi hb g1; exact ⟨by omega, g3, g4.mono hk (fun _ _ h => h) (hs _ (fun e => hne (h.inj i id b old m l hi hid hb hlv g1 hl e)))⟩
  · have live : ∀ (i : Nat) (b : ABlk), (H.set id blk)[i]? = some b → b.live = true → ∃ b0, H[i]? = some b0 ∧ b0.live = true := by
      intro i b hi hb
      rcases hget i b hi with ⟨rfl, rfl⟩ | ⟨hne, hi⟩
      exact ⟨old, hid, hlv⟩; exact ⟨b, hi, hb⟩
    obtain ⟨b0, g1, g2⟩ := live i b hi hb; obtain ⟨b1, g3, g4⟩ := live i' b' hi' hb'; exact h.inj i i' b0 b1 m m' g1 g3 g2 g4 hm hm' e
  rintro b ⟨i, b', m, hi, hb', hm, rfl⟩ hlt
  rcases hget i b' hi with ⟨rfl, rfl⟩ | ⟨hne, hi⟩
  · rw [hl] at hm; cases hm; exact ⟨i, old, l, hid, hlv, hl, rfl⟩
  exact ⟨i, b', m, hi, hb', hm, rfl⟩
theorem HRel.kill {G : Glob} {I : Nat → Prop} {w : World} {ρ : Places} {H : AH} (h : HRel G I w ρ H) (id : Nat) : HRel G I w ρ (H.set id .dead) ∧ Went I w ρ H I w ρ (H.set id .dead) := by
  have hget : ∀ (i : Nat) (b : ABlk), (H.set id .dead)[i]? = some b → b.live = true → H[i]? = some b := by
    intro i b hi hb; rw [List.getElem?_set] at hi; split at hi
    · split at hi
      cases hi; cases hb
      cases hi
    exact hi
  refine ⟨⟨fun i b m hi hb => h.blk i b m (hget i b hi hb) hb, fun i i' b b' m m' hi hi' hb hb' => h.inj i i' b b' m m' (hget i b hi hb) (hget i' b' hi' hb') hb hb', fun i m hm => by simpa using h.dom i m hm, h.old, h.glob⟩,
    ⟨fun _ h => h, fun _ _ h => h, Nat.le_refl _, rfl, rfl, rfl, fun _ _ _ => rfl, ?_, fun _ h => .inl h⟩⟩
  rintro b ⟨i, b', m, hi, hb', hm, rfl⟩ hlt; exact ⟨i, b', m, hget i b' hi hb', hb', hm, rfl⟩
end
section
def AV.cellsOk : AV → Bool
  | .agg _ => true
  | x => x.cell1
theorem VRel.cell1 {I : Nat → Prop} {w : World} {ρ : Places} {v : Value} {x : AV} (h : VRel I w ρ v x) (hx : x.cell1 = true) : v.oneCell' = true := by cases h <;> first | rfl | exact hx | (simp [AV.cell1] at hx; done)
theorem cells_of_oneCell {v : Value} (h : v.oneCell' = true) : v.cells = #[v] := by cases v <;> first | rfl | (simp [Value.oneCell'] at h; done)
theorem VRel.cells {I : Nat → Prop} {w : World} {ρ : Places} {v : Value} {x : AV} (h : VRel I w ρ v x) (hx : x.cellsOk = true) :
    v.cells.size = x.cells.length ∧ ∀ (j : Nat) (y : AV), x.cells[j]? = some y → (v.cells.getD j undef).oneCell' = true ∧ VRel I w ρ (v.cells.getD j undef) y := by
  by_cases ha : ∃ xs, x = .agg xs
  · obtain ⟨xs, rfl⟩ := ha
    cases h with
    | agg hl h1 hv => exact ⟨hl, fun j y hy => ⟨h1 j y hy, hv j y hy⟩⟩
  have hc : x.cell1 = true := by cases x <;> first | exact hx | exact absurd ⟨_, rfl⟩ ha
  have hcs : x.cells = [x] := by cases x <;> first | rfl | exact absurd ⟨_, rfl⟩ ha
  have h1 := h.cell1 hc; rw [cells_of_oneCell h1, hcs]; refine ⟨rfl, fun j y hy => ?_⟩
  cases j with
  | zero => simp at hy; subst hy; exact ⟨h1, h⟩
  | succ j => simp at hy
theorem BRel.one {I : Nat → Prop} {w w' : World} {ρ ρ' : Places} {b : Nat} {e : TypeId} {cells : Array Value} {xs : List AV} (hg : w'.heap[b]? = some (.cells cells e (0, 0))) (hs : cells.size = xs.length)
    (hc : ∀ (j : Nat) (y : AV), xs[j]? = some y → (cells.getD j undef).oneCell' = true ∧ VRel I w ρ (cells.getD j undef) y) (hk : Keeps I I w w') (hp : ∀ id l, ρ id = some l → ρ' id = some l) :
    BRel I w' ρ' ⟨b, xs.length, xs.length⟩ (.rows [xs] e) := by
  refine ⟨⟨cells, hg, hs, fun i j row x hi hj => ?_⟩, by simp, fun r hr => by simp at hr; rw [hr]⟩
  cases i with
  | zero =>
    simp at hi; subst hi; simp only [Nat.zero_mul, Nat.zero_add]; exact ⟨(hc j x hj).1, (hc j x hj).2.mono hk hp⟩
  | succ i => simp at hi
def Done (G : Glob) (I : Nat → Prop) (w : World) (ρ : Places) (H : AH) (r : Result Next) (x : AV) (H' : AH) : Prop :=
  ∃ v w' ρ' I', (r = .ok (.value v) w' ∨ (r = .ok .skip w' ∧ v = undef)) ∧ HRel G I' w' ρ' H' ∧ Went I w ρ H I' w' ρ' H' ∧ VRel I' w' ρ' v x
theorem newVar_done {G : Glob} {I : Nat → Prop} {w : World} {ρ : Places} {H : AH} {P : Program} (hh : HRel G I w ρ H) {e : TypeId} {v : Value} {x : AV} (hv : VRel I w ρ v x) (hx : x.cellsOk = true) :
    ∃ u w' ρ' I', (do pure (.pointer (some (← newVar e v))) : Sem Value).run P w = .ok u w' ∧ HRel G I' w' ρ' (H ++ [.rows [x.cells] e]) ∧ Went I w ρ H I' w' ρ' (H ++ [.rows [x.cells] e]) ∧ VRel I' w' ρ' u (.pm H.length 0 0) := by
  obtain ⟨hs, hc⟩ := hv.cells hx; have := hh.alloc_own (.cells v.cells e) (.rows [x.cells] e) x.cells.length x.cells.length (fun ρ' hp hk => BRel.one heap_alloc_new hs hc hk hp); refine ⟨.pointer (some ⟨w.heap.size, 0, none⟩), _, _, _, ?_, this.1, this.2, ?_⟩; simp [newVar, newRow]; have h := VRel.pm (I := I) (w := w.alloc (.cells v.cells e)) (ρ := ρ.new H.length ⟨w.heap.size, x.cells.length, x.cells.length⟩) (id := H.length) (row := 0) (col := 0) (b := w.heap.size) (n := x.cells.length) (k := x.cells.length) (by simp [Places.new]); simpa using h
def azero (P : Program) (t : TypeId) : Option AV :=
  match P.info? t with
  | some i => i.zero.map .ofV
  | none => none
theorem azero_sound {P : Program} {I : Nat → Prop} {w w' : World} {ρ : Places} {t : TypeId} {x : AV} (h : azero P t = some x) : ∃ v, (zeroValue t).run P w' = .ok v w' ∧ VRel I w ρ v x := by
  unfold azero at h; split at h
  · rename_i i hi
    cases hz : i.zero with
    | none => rw [hz] at h; cases h
    | some z =>
      rw [hz] at h
      cases h
      exact ⟨z, by simp [zeroValue, typeInfo, hi, hz], .ofV z⟩
  cases h
def asplice (row : List AV) (c : Nat) (xs : List AV) : List AV := row.take c ++ xs ++ row.drop (c + xs.length)
def astore (P : Program) (H : AH) (t : TypeId) (a x : AV) : Option AH :=
  match a with
  | .pm id r c => match H[id]? with
    | some (.rows rs te) => match rs[r]? with
      | some row => if x.cellsOk && !(P.info? t).isNone && x.cells.length == P.cellsOf t && decide (c + x.cells.length ≤ row.length) then some (H.set id (.rows (rs.set r (asplice row c x.cells)) te)) else none
      | none => none
    | _ => none
  | _ => none
theorem asplice_get {row xs : List AV} {c j : Nat} {y : AV} (hc : c + xs.length ≤ row.length) (h : (asplice row c xs)[j]? = some y) :
    (c ≤ j ∧ j < c + xs.length ∧ xs[j - c]? = some y) ∨ ((j < c ∨ c + xs.length ≤ j) ∧ row[j]? = some y) := by
  unfold asplice at h; have h1 : (row.take c).length = c := by simp; omega
  rw [List.append_assoc, List.getElem?_append] at h; split at h
  · rename_i hlt; rw [h1] at hlt; rw [List.getElem?_take, if_pos hlt] at h; exact .inr ⟨.inl hlt, h⟩
  rename_i hge; rw [h1] at hge h; rw [List.getElem?_append] at h; split at h
  exact .inl ⟨by omega, by omega, h⟩; rename_i hge'; rw [List.getElem?_drop] at h; rw [show c + xs.length + (j - c - xs.length) = j by omega] at h; exact .inr ⟨.inr (by omega), h⟩
theorem asplice_length {row xs : List AV} {c : Nat} (hc : c + xs.length ≤ row.length) : (asplice row c xs).length = row.length := by simp [asplice]; omega
theorem put_heap {b : Nat} : ∀ (vs : List Value) (o : Nat) (w : World) (cells : Array Value) (e : TypeId), w.heap[b]? = some (.cells cells e (0, 0)) → (∀ v ∈ vs, v.oneCell' = true) → o + vs.length ≤ cells.size →
    ∃ w', (∀ (P : Program) (i : Nat) (o' : Nat), o' + i = o → (storeCells ⟨b, o', none⟩ vs i).run P w = .ok () w') ∧ (∀ b', b' ≠ b → w'.heap[b']? = w.heap[b']?) ∧ w'.heap.size = w.heap.size ∧ w'.os = w.os ∧ w'.tape = w.tape ∧ w'.output = w.output ∧
      ∃ cells', w'.heap[b]? = some (.cells cells' e (0, 0)) ∧ cells'.size = cells.size ∧ ∀ j, cells'.getD j undef = if o ≤ j ∧ j < o + vs.length then vs.getD (j - o) undef else cells.getD j undef
  | [], o, w, cells, e, hg, _, hl => by
    refine ⟨w, fun P i o' _ => rfl, fun _ _ => rfl, rfl, rfl, rfl, rfl, cells, hg, rfl, fun j => ?_⟩; rw [if_neg (by simp)]
  | v :: vs, o, w, cells, e, hg, h1, hl => by
    simp only [List.length_cons] at hl; have hlt : o < cells.size := by omega
    have hg' : (w.setCell ⟨b, o, none⟩ v).heap[b]? = some (.cells (cells.setIfInBounds o v) e (0, 0)) := by simp [World.setCell, Array.getElem?_modify, hg]
    obtain ⟨w', hr, hs, hz, ho, ht, hu, cells', hc, hcs, hcc⟩ := put_heap vs (o + 1) (w.setCell ⟨b, o, none⟩ v) (cells.setIfInBounds o v) e hg' (fun u hu => h1 u (List.mem_cons_of_mem _ hu)) (by simp; omega); refine ⟨w', fun P i o' he => ?_, fun b' hb => (hs b' hb).trans (Go.RowKit.Below.heap_setCell _ _ _ _ hb), by rw [hz]; simp, by rw [ho]; rfl, by rw [ht]; rfl, by rw [hu]; rfl, cells', hc, by rw [hcs]; simp, fun j => ?_⟩
    · have hcell : w.cell? ⟨b, o, none⟩ = some cells[o] := by simp [World.cell?, hg, hlt]
      have hfr : w.frozen? ⟨b, o, none⟩ = false := by simp [World.frozen?, hg]
      have hst : (store ⟨b, o, none⟩ v).run P w = .ok () (w.setCell ⟨b, o, none⟩ v) := by
        rw [run_store P w _ v .plain (h1 v (List.mem_cons_self ..)), hcell, hfr]; rfl
      simp only [storeCells, Sem.run_bind, add_addr, he, hst, Result.andThen]; exact hr P (i + 1) o' (by omega)
    rw [hcc j]; by_cases h2 : o + 1 ≤ j ∧ j < o + 1 + vs.length
    · rw [if_pos h2, if_pos (by simp; omega)]; have : j - o = (j - (o + 1)) + 1 := by omega
      rw [this]; rfl
    rw [if_neg h2]; by_cases h3 : j = o
    · subst h3; rw [if_pos (by simp)]; simp [Array.getD, hlt]
    rw [if_neg (by simp; omega)]; simp only [Array.getD_eq_getD_getElem?, Array.getElem?_setIfInBounds_ne (show o ≠ j by omega)]
theorem astore_sound {P : Program} {G : Glob} {I : Nat → Prop} {w : World} {ρ : Places} {H H' : AH} (hh : HRel G I w ρ H) {t : TypeId} {a x : AV} {va v : Value} (ha : VRel I w ρ va a) (hv : VRel I w ρ v x) (hy : astore P H t a x = some H') :
    ∃ w', (Instr.storeAt t va v).run P w = .ok () w' ∧ HRel G I w' ρ H' ∧ Went I w ρ H I w' ρ H' := by
  unfold astore at hy; split at hy
  · rename_i id r c; split at hy
    · rename_i rs te hr; split at hy
      · rename_i row hrow; split at hy
        · rename_i hcond
          cases hy
          simp only [Bool.and_eq_true, Bool.not_eq_true', beq_iff_eq, decide_eq_true_eq] at hcond; obtain ⟨⟨⟨hok, hin⟩, hsz⟩, hfit⟩ := hcond; obtain ⟨hcs, hc⟩ := hv.cells hok
          cases ha with
          | pm hp =>
          rename_i b n k; have hl0 := hp; obtain ⟨hlt, hnI, hB⟩ := hh.blk id _ _ hr rfl hp; obtain ⟨⟨cells, hg, hgs, hcell⟩, hlen, hk⟩ := hB; have hrl : row.length = k := hk row (List.mem_of_getElem? hrow); have hrlt : r < rs.length := (List.getElem?_eq_some_iff.1 hrow).1; have h4 : (r + 1) * k ≤ rs.length * k := Nat.mul_le_mul_right _ (by omega); rw [Nat.add_mul] at h4; simp only at hlen hgs hg hlt hnI
          have h1c : ∀ u ∈ v.cells.toList, u.oneCell' = true := by
            intro u hu; obtain ⟨j, hj⟩ := List.getElem?_of_mem hu; have hjl := (List.getElem?_eq_some_iff.1 hj).1; simp only [Array.length_toList] at hjl; have hx : x.cells[j]? = some x.cells[j] := List.getElem?_eq_getElem (by omega); have := (hc j _ hx).1
            have e : v.cells.getD j undef = u := by
              simp only [Array.getD, hjl, dif_pos]; have := (List.getElem?_eq_some_iff.1 hj).2; simpa using this
            rwa [e] at this
          have hlv : v.cells.toList.length = x.cells.length := by simpa using hcs
          obtain ⟨w', hrun, hs, hz, ho, ht, hu, cells', hg', hgs', hcc⟩ := put_heap v.cells.toList (r * k + c) w cells te hg h1c (by rw [hlv, hgs]; omega); have hsize : (sizeOf t).run P w = .ok (P.cellsOf t) w := run_sizeOf' (fun h => by rw [h] at hin; cases hin); refine ⟨w', ?_, ?_⟩
          · have := hrun P 0 (r * k + c) (by omega); simp [Instr.storeAt, Instr.sureAddr, storeVar, hsize, hcs, hsz, this]
          refine hh.write hr rfl hl0 (fun b' hb' => hs b' hb') hz ho ht hu (fun hkp => ?_); refine ⟨⟨cells', hg', by rw [hgs', hgs], fun i j row' y hi hj => ?_⟩, by simp; omega, fun r' hr' => ?_⟩
          · rw [hcc]; simp only; rw [List.getElem?_set] at hi; split at hi
            · rename_i hir; subst hir
              cases hi
              rcases asplice_get (by omega) hj with ⟨h1, h2, h3⟩ | ⟨h1, h2⟩
              · rw [if_pos (by rw [hlv]; omega)]; have := hc _ _ h3; rw [show r * k + j - (r * k + c) = j - c by omega]; have e1 : v.cells.toList.getD (j - c) undef = v.cells.getD (j - c) undef := by rw [List.getD_eq_getElem?_getD, Array.getElem?_toList, ← Array.getD_eq_getD_getElem?]
                rw [e1]; exact ⟨this.1, this.2.mono hkp (fun _ _ h => h)⟩
              rw [if_neg (by rw [hlv]; omega)]; have := hcell r j row y hrow h2; exact ⟨this.1, this.2.mono hkp (fun _ _ h => h)⟩
            rename_i hir; have hrl' : row'.length = k := hk row' (List.mem_of_getElem? hi); have hjk : j < k := by have := (List.getElem?_eq_some_iff.1 hj).1; omega
            have hne : ¬ (r * k + c ≤ i * k + j ∧ i * k + j < r * k + c + v.cells.toList.length) := by
              rw [hlv]; rintro ⟨g1, g2⟩
              rcases Nat.lt_or_gt_of_ne hir with hlt' | hlt'
              · have : (r + 1) * k ≤ i * k := Nat.mul_le_mul_right _ (by omega); rw [Nat.add_mul] at this; omega
              have : (i + 1) * k ≤ r * k := Nat.mul_le_mul_right _ (by omega); rw [Nat.add_mul] at this; omega
            rw [if_neg hne]; have := hcell i j row' y hi hj; exact ⟨this.1, this.2.mono hkp (fun _ _ h => h)⟩
          rcases List.mem_or_eq_of_mem_set hr' with h | rfl
          exact hk r' h; rw [asplice_length (by omega)]; exact hrl
        cases hy
      cases hy
    cases hy
  cases hy
end
section
def anil : AV → Option AV
  | .pi cells => some (.pi cells)
  | .pm id r c => some (.pm id r c)
  | .fn (.func f) fs cs => some (.fn (.func f) fs cs)
  | .sc (.func (.func f) fs cs) => some (.sc (.func (.func f) fs cs))
  | _ => none
def afill (place : Nat → Option (Nat × Nat)) : List AV → List (Nat × AV) → Option (List AV)
  | cells, [] => some cells
  | cells, (i, x) :: rest => match place i with
    | some (off, size) => if x.cellsOk && x.cells.length == size && decide (off + size ≤ cells.length) then afill place (asplice cells off x.cells) rest else none
    | none => none
theorem fold_set (off : Nat) : ∀ (vs : List Value) (n : Nat) (cs : Array Value), off + n + vs.length ≤ cs.size →
    ((vs.zipIdx n).foldl (fun cs (p : Value × Nat) => cs.setIfInBounds (off + p.2) p.1) cs).size = cs.size ∧
    ∀ j, ((vs.zipIdx n).foldl (fun cs (p : Value × Nat) => cs.setIfInBounds (off + p.2) p.1) cs).getD j undef = if off + n ≤ j ∧ j < off + n + vs.length then vs.getD (j - (off + n)) undef else cs.getD j undef
  | [], n, cs, h => ⟨rfl, fun j => by simp only [List.zipIdx_nil, List.foldl_nil]; rw [if_neg (by simp)]⟩
  | v :: vs, n, cs, h => by
    simp only [List.length_cons] at h; have ih := fold_set off vs (n + 1) (cs.setIfInBounds (off + n) v) (by simp; omega); simp only [List.zipIdx_cons, List.foldl_cons]; refine ⟨by rw [ih.1]; simp, fun j => ?_⟩; rw [ih.2 j]; by_cases h2 : off + (n + 1) ≤ j ∧ j < off + (n + 1) + vs.length
    · rw [if_pos h2, if_pos (by simp; omega)]; rw [show j - (off + n) = (j - (off + (n + 1))) + 1 by omega]; rfl
    rw [if_neg h2]; by_cases h3 : j = off + n
    · subst h3; rw [if_pos (by simp)]; have : off + n < cs.size := by omega
      simp [Array.getD, this]
    rw [if_neg (by simp; omega)]; simp only [Array.getD_eq_getD_getElem?, Array.getElem?_setIfInBounds_ne (show off + n ≠ j by omega)]
def CRel (I : Nat → Prop) (w : World) (ρ : Places) (cs : Array Value) (xs : List AV) : Prop :=
  cs.size = xs.length ∧ ∀ (j : Nat) (y : AV), xs[j]? = some y → (cs.getD j undef).oneCell' = true ∧ VRel I w ρ (cs.getD j undef) y
theorem fill_sound {I : Nat → Prop} {w : World} {ρ : Places} {place : Nat → Option (Nat × Nat)} : ∀ (ps : List (Nat × AV)) (us : List (Nat × Value)) (cs : Array Value) (xs ys : List AV), CRel I w ρ cs xs → afill place xs ps = some ys →
    us.length = ps.length → (∀ (i : Nat) (p : Nat × AV) (u : Nat × Value), ps[i]? = some p → us[i]? = some u → u.1 = p.1 ∧ VRel I w ρ u.2 p.2) → ∃ cs', Instr.fill place cs us = some cs' ∧ CRel I w ρ cs' ys
  | [], us, cs, xs, ys, hc, h, hl, _ => by
    cases us with
    | nil => simp [afill] at h; subst h; exact ⟨cs, rfl, hc⟩
    | cons u us => simp at hl
  | (i, x) :: ps, us, cs, xs, ys, hc, h, hl, hv => by
    cases us with
    | nil => simp at hl
    | cons u us =>
    obtain ⟨e1, hx⟩ := hv 0 _ _ rfl rfl; simp only at e1 hx; simp only [afill] at h; split at h
    · rename_i off size hp; split at h
      · rename_i hcond; simp only [Bool.and_eq_true, beq_iff_eq, decide_eq_true_eq] at hcond; obtain ⟨⟨hok, hsz⟩, hfit⟩ := hcond; obtain ⟨hcs, hcc⟩ := hx.cells hok; have hf := fold_set off u.2.cells.toList 0 cs (by simp only [Array.length_toList, hcs]; rw [hc.1]; omega)
        have hstep : CRel I w ρ (u.2.cells.zipIdx.foldl (fun cs (c, j) => cs.setIfInBounds (off + j) c) cs) (asplice xs off x.cells) := by
          have e : u.2.cells.zipIdx.foldl (fun cs (c, j) => cs.setIfInBounds (off + j) c) cs = (u.2.cells.toList.zipIdx 0).foldl (fun cs (p : Value × Nat) => cs.setIfInBounds (off + p.2) p.1) cs := by rw [← Array.foldl_toList, Array.toList_zipIdx]
          rw [e]; refine ⟨by rw [hf.1, hc.1, asplice_length (by omega)], fun j y hy => ?_⟩; rw [hf.2 j]; simp only [Nat.add_zero, Array.length_toList, hcs]
          rcases asplice_get (by omega) hy with ⟨h1, h2, h3⟩ | ⟨h1, h2⟩
          · rw [if_pos ⟨h1, h2⟩]; have := hcc _ _ h3; rw [List.getD_eq_getElem?_getD, Array.getElem?_toList, ← Array.getD_eq_getD_getElem?]; exact this
          rw [if_neg (by omega)]; exact hc.2 j y h2
        obtain ⟨cs', h1, h2⟩ := fill_sound ps us _ _ ys hstep h (by simpa using hl) (fun i p q hp hq => hv (i + 1) p q (by simpa using hp) (by simpa using hq)); refine ⟨cs', ?_, h2⟩; obtain ⟨ui, uv⟩ := u; simp only at e1 hcs h1; subst e1; unfold Instr.fill; simp only [hp]; rw [if_neg]; exact h1; simp only [Bool.or_eq_true, decide_eq_true_eq]; have := hc.1; omega
      cases h
    cases h
def abuild (P : Program) (t : TypeId) (parts : List (Nat × AV)) : Option AV :=
  match azero P t, P.underlying t with
  | some (.agg zs), some (.struct fields) => if fields.toList.any (fun f => (P.info? f.type).isNone) then none else
    (afill (fun i => (fields[i]?).map fun f => (f.offset, P.cellsOf f.type)) zs parts).map .agg
  | some (.agg zs), some (.array _ e) => if (P.info? e).isNone then none else (afill (fun i => some (i * P.cellsOf e, P.cellsOf e)) zs parts).map .agg
  | _, _ => none
theorem mapM_run {P : Program} {w : World} {α β : Type} (g : α → Sem β) (f : α → β) : ∀ (l : List α), (∀ x ∈ l, (g x).run P w = .ok (f x) w) → (l.mapM g).run P w = .ok (l.map f) w
  | [], _ => by simp
  | x :: l, h => by
    have := mapM_run g f l (fun y hy => h y (List.mem_cons_of_mem _ hy)); simp [List.mapM_cons, h x (List.mem_cons_self ..), this]
theorem CRel.agg {I : Nat → Prop} {w : World} {ρ : Places} {cs : Array Value} {xs : List AV} (h : CRel I w ρ cs xs) : VRel I w ρ (.agg cs) (.agg xs) :=
  .agg h.1 (fun i x hx => (h.2 i x hx).1) (fun i x hx => (h.2 i x hx).2)
theorem VRel.crel {I : Nat → Prop} {w : World} {ρ : Places} {v : Value} {xs : List AV} (h : VRel I w ρ v (.agg xs)) : CRel I w ρ v.cells xs := by
  cases h with
  | agg hl h1 hv => exact ⟨hl, fun j y hy => ⟨h1 j y hy, hv j y hy⟩⟩
theorem abuild_sound {P : Program} {I : Nat → Prop} {w : World} {ρ : Places} {t : TypeId} {parts : List (Nat × AV)} {us : Array (Nat × Value)} {y : AV} (hy : abuild P t parts = some y)
    (hl : us.size = parts.length) (hv : ∀ (i : Nat) (p : Nat × AV) (u : Nat × Value), parts[i]? = some p → us.toList[i]? = some u → u.1 = p.1 ∧ VRel I w ρ u.2 p.2) :
    ∃ u, (Instr.build t us).run P w = .ok u w ∧ VRel I w ρ u y := by
  unfold abuild at hy; split at hy
  · rename_i zs fields hz hu; split at hy
    cases hy
    rename_i hany; obtain ⟨z, hz1, hz2⟩ := azero_sound (P := P) (I := I) (w := w) (w' := w) (ρ := ρ) hz
    cases hf : afill (fun i => (fields[i]?).map fun f => (f.offset, P.cellsOf f.type)) zs parts with
    | none => rw [hf] at hy; cases hy
    | some ys =>
      rw [hf] at hy
      cases hy
      obtain ⟨cs', h1, h2⟩ := fill_sound parts us.toList z.cells zs ys hz2.crel hf (by simpa using hl) hv
      have hm : (fields.mapM fun f => do pure (f.offset, ← sizeOf f.type) : Sem _).run P w = .ok (fields.map fun f => (f.offset, P.cellsOf f.type)) w := by
        rw [Array.mapM_eq_mapM_toList]
        have := mapM_run (P := P) (w := w) (fun f : Field => do pure (f.offset, ← sizeOf f.type)) (fun f => (f.offset, P.cellsOf f.type)) fields.toList (fun f hf => by
          have : (sizeOf f.type).run P w = .ok (P.cellsOf f.type) w := run_sizeOf' (fun h => hany (List.any_eq_true.2 ⟨f, hf, by rw [h]; rfl⟩))
          simp [this])
        show ((fields.toList.mapM (fun f : Field => do pure (f.offset, ← sizeOf f.type)) : Sem _) >>= fun l => pure l.toArray).run P w = _; rw [Sem.run_bind, this]; simp only [Result.andThen, Sem.run_pure]; congr 1
        apply Array.ext'; simp
      have e : (fun (i : Nat) => (fields.map fun (f : Field) => (f.offset, P.cellsOf f.type))[i]?) = (fun (i : Nat) => (fields[i]?).map fun (f : Field) => (f.offset, P.cellsOf f.type)) := by funext i; simp
      refine ⟨.agg cs', ?_, h2.agg⟩; simp only [Instr.build, Sem.run_bind, hz1, Result.andThen, run_underlying hu, hm, e, h1]; rfl
  · rename_i zs n e hz hu; split at hy
    cases hy
    rename_i hin; obtain ⟨z, hz1, hz2⟩ := azero_sound (P := P) (I := I) (w := w) (w' := w) (ρ := ρ) hz
    cases hf : afill (fun i => some (i * P.cellsOf e, P.cellsOf e)) zs parts with
    | none => rw [hf] at hy; cases hy
    | some ys =>
      rw [hf] at hy
      cases hy
      obtain ⟨cs', h1, h2⟩ := fill_sound parts us.toList z.cells zs ys hz2.crel hf (by simpa using hl) hv; have hs : (sizeOf e).run P w = .ok (P.cellsOf e) w := run_sizeOf' (fun h => hin (by rw [h]; rfl)); refine ⟨.agg cs', ?_, h2.agg⟩; simp only [Instr.build, Sem.run_bind, hz1, Result.andThen, run_underlying hu, hs, h1]; rfl
  cases hy
end
section
structure RowsAt (I : Nat → Prop) (w : World) (ρ : Places) (b o k : Nat) (rows : List (List AV)) (g : Nat → Value) : Prop where
  cell : ∀ q, q < rows.length * k → w.cell? ⟨b, o + q, none⟩ = some (g q) ∧ (g q).oneCell' = true
  rel : ∀ (i j : Nat) (row : List AV) (x : AV), rows[i]? = some row → row[j]? = some x → VRel I w ρ (g (i * k + j)) x
  len : ∀ r ∈ rows, r.length = k
theorem RowsAt.of_sl {I : Nat → Prop} {w : World} {ρ : Places} {b o len cap k : Nat} {tight : Bool} {rows : List (List AV)} (h : VRel I w ρ (.slice (some ⟨b, o, none⟩) len cap) (.sl k tight rows)) (hk0 : 0 < k) :
    ∃ g, RowsAt I w ρ b o k rows g := by
  cases h with
  | slMt ht => exact ⟨fun _ => undef, ⟨fun q hq => by simp at hq, fun i j row x hi hj => by simp at hi, fun r hr => by cases hr⟩⟩
  | sl f hl hcap ht hk hI hc h1 hv =>
    refine ⟨fun q => f (q / k) (q % k), ⟨fun q hq => ?_, fun i j row x hi hj => ?_, hk⟩⟩
    · have hd : q / k < rows.length := Nat.div_lt_of_lt_mul (by rw [Nat.mul_comm]; exact hq); have hm : q % k < k := Nat.mod_lt _ hk0; have hi : rows[q / k]? = some rows[q / k] := List.getElem?_eq_getElem hd; have hr : rows[q / k].length = k := hk _ (List.getElem_mem hd); have hj : rows[q / k][q % k]? = some (rows[q / k][q % k]'(by omega)) := List.getElem?_eq_getElem (by omega); have := hc _ _ _ _ hi hj; rw [show o + q / k * k + q % k = o + q by have := Nat.div_add_mod q k; rw [Nat.mul_comm] at this; omega] at this; exact ⟨this, h1 _ _ _ _ hi hj⟩
    have hjk : j < k := by
      have := hk row (List.mem_of_getElem? hi); have := (List.getElem?_eq_some_iff.1 hj).1; omega
    have e1 : (i * k + j) / k = i := by rw [Nat.mul_comm, Nat.mul_add_div hk0, Nat.div_eq_of_lt hjk]; rfl
    have e2 : (i * k + j) % k = j := by rw [Nat.mul_comm, Nat.mul_add_mod, Nat.mod_eq_of_lt hjk]
    simp only [e1, e2]; exact (hv _ _ _ _ hi hj).mono (Keeps.refl _ _) (fun _ _ h => by cases h)
theorem RowsAt.of_sm {G : Glob} {I : Nat → Prop} {w : World} {ρ : Places} {H : AH} (hh : HRel G I w ρ H) {b n k id off len : Nat} {rs : List (List AV)} {te : TypeId} (hp : ρ id = some ⟨b, n, k⟩) (hr : H[id]? = some (.rows rs te)) (hle : off + len ≤ rs.length) :
    ∃ g, RowsAt I w ρ b (off * k) k ((rs.drop off).take len) g ∧ ∃ cells e, w.heap[b]? = some (.cells cells e (0, 0)) ∧ cells.size = n ∧ g = fun q => cells.getD (off * k + q) undef := by
  obtain ⟨hlt, hnI, ⟨cells, hg, hsz, hcell⟩, hlen, hk⟩ := hh.blk id _ _ hr rfl hp; simp only at hg hsz hlen hk hcell
  have hget : ∀ (i : Nat) (row : List AV), ((rs.drop off).take len)[i]? = some row → rs[off + i]? = some row := by
    intro i row hi; rw [List.getElem?_take] at hi; split at hi
    rw [List.getElem?_drop] at hi; exact hi
    cases hi
  have hmul : ∀ i, off * k + i * k = (off + i) * k := fun i => (Nat.add_mul _ _ _).symm
  refine ⟨fun q => cells.getD (off * k + q) undef, ⟨fun q hq => ?_, fun i j row x hi hj => ?_, fun r hr' => hk r (List.mem_of_mem_drop (List.mem_of_mem_take hr'))⟩, cells, _, hg, hsz, rfl⟩
  · have hq' : q < len * k := by
      have : ((rs.drop off).take len).length ≤ len := List.length_take_le _ _; exact Nat.lt_of_lt_of_le hq (Nat.mul_le_mul_right _ this)
    have h1 : (off + len) * k ≤ rs.length * k := Nat.mul_le_mul_right _ hle; rw [Nat.add_mul] at h1; have hlt' : off * k + q < cells.size := by omega
    refine ⟨by simp [World.cell?, hg, Array.getD, hlt'], ?_⟩
    rcases Nat.eq_zero_or_pos k with rfl | hk0
    simp at hq'; have hd : q / k < len := Nat.div_lt_of_lt_mul (by rw [Nat.mul_comm]; exact hq'); have hm : q % k < k := Nat.mod_lt _ hk0; have hi : rs[off + q / k]? = some (rs[off + q / k]'(by omega)) := List.getElem?_eq_getElem (by omega); have hrl := hk _ (List.mem_of_getElem? hi); have hj : (rs[off + q / k]'(by omega))[q % k]? = some ((rs[off + q / k]'(by omega))[q % k]'(by omega)) := List.getElem?_eq_getElem (by omega); have := (hcell _ _ _ _ hi hj).1; rw [← hmul, show off * k + q / k * k + q % k = off * k + q by have := Nat.div_add_mod q k; rw [Nat.mul_comm] at this; omega] at this; exact this
  have := (hcell _ _ _ _ (hget i row hi) hj).2; rw [← hmul, Nat.add_assoc] at this; exact this
def arows (H : AH) : AV → Option (List (List AV))
  | .sl _ _ rows => some rows
  | .sm id _ off len => match H[id]? with
    | some (.rows rs _) => if off + len ≤ rs.length then some ((rs.drop off).take len) else none
    | _ => none
  | .sc (.slice none 0 0) => some []
  | .sz _ => some []
  | _ => none
def astride : AV → Option Nat
  | .sl k _ _ => some k
  | .sm _ k _ _ => some k
  | _ => none
theorem arows_sound {G : Glob} {I : Nat → Prop} {w : World} {ρ : Places} {H : AH} (hh : HRel G I w ρ H) {x : AV} {v : Value} {rows : List (List AV)} (hx : VRel I w ρ v x) (hy : arows H x = some rows) (k : Nat) (hk0 : 0 < k) (hst : ∀ k', astride x = some k' → k' = k) :
    ∃ a cap, v = .slice a rows.length cap ∧ (rows = [] ∨ ∃ b o g, a = some ⟨b, o, none⟩ ∧ RowsAt I w ρ b o k rows g) := by
  unfold arows at hy; split at hy
  · rename_i k' tight rows'
    cases hy
    obtain rfl := hst k' rfl
    cases hx with
    | slNil => exact ⟨none, 0, rfl, .inl rfl⟩
    | slMt ht => exact ⟨_, _, rfl, .inl rfl⟩
    | sl f hl hcap ht hk hI hc h1 hv =>
      rename_i b o len cap; obtain ⟨g, hg⟩ := RowsAt.of_sl (VRel.sl (ρ := ρ) f hl hcap ht hk hI hc h1 hv) hk0; exact ⟨_, cap, by rw [hl], .inr ⟨b, o, g, rfl, hg⟩⟩
  · rename_i id k' off len; obtain rfl := hst k' rfl; split at hy
    · rename_i rs te hr; split at hy
      · rename_i hle
        cases hy
        cases hx with
        | smNil =>
          rename_i a; exact ⟨a, 0, by simp, .inl (by simp)⟩
        | sm hp hcap hn =>
          rename_i b n cap; obtain ⟨g, hg, _⟩ := RowsAt.of_sm hh hp hr hle; have hlen : ((rs.drop off).take len).length = len := by simp; omega
          exact ⟨_, cap, by rw [hlen], .inr ⟨b, _, g, rfl, hg⟩⟩
      cases hy
    cases hy
  · cases hy
    cases hx
    exact ⟨none, 0, rfl, .inl rfl⟩
  · cases hy
    cases hx
    exact ⟨_, _, rfl, .inl rfl⟩
  cases hy
theorem BRel.rows_of {I : Nat → Prop} {w w' : World} {ρ ρ' : Places} {b n k : Nat} {e : TypeId} {cells : Array Value} {rs : List (List AV)} (hg : w'.heap[b]? = some (.cells cells e (0, 0))) (hn : cells.size = n) (hle : rs.length * k ≤ n)
    (hk : ∀ r ∈ rs, r.length = k) (hc : ∀ (i j : Nat) (row : List AV) (x : AV), rs[i]? = some row → row[j]? = some x → (cells.getD (i * k + j) undef).oneCell' = true ∧ VRel I w ρ (cells.getD (i * k + j) undef) x)
    (hkp : Keeps I I w w') (hp : ∀ id l, ρ id = some l → ρ' id = some l) : BRel I w' ρ' ⟨b, n, k⟩ (.rows rs e) :=
  ⟨⟨cells, hg, hn, fun i j row x hi hj => ⟨(hc i j row x hi hj).1, (hc i j row x hi hj).2.mono hkp hp⟩⟩, hle, hk⟩
theorem HRel.moved {G : Glob} {I : Nat → Prop} {w w' : World} {ρ : Places} {H : AH} (h : HRel G I w ρ H) {id : Nat} {old blk : ABlk} {l : Loc} (hid : H[id]? = some old) (hlv : old.live = true) (hl : ρ id = some l)
    (hs : ∀ b, b ≠ l.blk → w'.heap[b]? = w.heap[b]?) (hsz : w'.heap.size = w.heap.size) (ho : w'.os = w.os) (ht : w'.tape = w.tape) (hu : w'.output = w.output)
    (hB : Keeps I I w w' → ∀ ρ', (∀ id l, ρ id = some l → ρ' id = some l) → BRel I w' ρ' l blk) :
    HRel G I w' (ρ.new H.length l) (H.set id .dead ++ [blk]) ∧ Went I w ρ H I w' (ρ.new H.length l) (H.set id .dead ++ [blk]) := by
  obtain ⟨h2, h3, h4⟩ := h.blk id old l hid hlv hl; have hk : Keeps I I w w' := ⟨fun _ h => h, fun b hb => hs b (fun e => h3 (e ▸ hb))⟩; have hp := Places.new_old (l := l) h.dom; have hnew : (ρ.new H.length l) H.length = some l := by simp [Places.new]
  have hget : ∀ (i : Nat) (b : ABlk), (H.set id .dead ++ [blk])[i]? = some b → b.live = true → (i = H.length ∧ b = blk) ∨ (i < H.length ∧ i ≠ id ∧ H[i]? = some b) := by
    intro i b hi hb
    rcases getElem?_snoc hi with ⟨hlt, hi⟩ | ⟨rfl, rfl⟩
    · rw [List.getElem?_set] at hi; split at hi
      · split at hi
        cases hi; cases hb
        cases hi
      rename_i e; exact .inr ⟨by simpa using hlt, fun h => e h.symm, hi⟩
    exact .inl ⟨by simp, rfl⟩
  have hold : ∀ (i : Nat) (m : Loc), i < H.length → (ρ.new H.length l) i = some m → ρ i = some m := by
    intro i m hlt hm; simpa [Places.new, show i ≠ H.length by omega] using hm
  refine ⟨⟨fun i b m hi hb g1 => ?_, fun i i' b b' m m' hi hi' hb hb' hm hm' e => ?_, fun i m hm => ?_, fun b hb => by rw [hsz]; exact h.old b hb, h.glob' hk⟩,
    ⟨fun _ h => h, hp, by omega, ho, ht, hu, fun b hb hno => hs b (fun e => hno ⟨id, old, l, hid, hlv, hl, e.symm⟩), ?_, fun _ h => .inl h⟩⟩
  · rcases hget i b hi hb with ⟨rfl, rfl⟩ | ⟨hlt, hne, hi⟩
    · rw [hnew] at g1
      cases g1
      exact ⟨by omega, h3, hB hk _ hp⟩
    have g1 := hold i m hlt g1; obtain ⟨g2, g3, g4⟩ := h.blk i b m hi hb g1; exact ⟨by omega, g3, g4.mono hk hp (hs _ (fun e => hne (h.inj i id b old m l hi hid hb hlv g1 hl e)))⟩
  · rcases hget i b hi hb with ⟨rfl, rfl⟩ | ⟨hlt, hne, hj⟩ <;> rcases hget i' b' hi' hb' with ⟨rfl, rfl⟩ | ⟨hlt', hne', hj'⟩
    rfl
    · rw [hnew] at hm
      cases hm
      exact absurd (h.inj i' id b' old m' _ hj' hid hb' hlv (hold _ _ hlt' hm') hl e.symm) hne'
    · rw [hnew] at hm'
      cases hm'
      exact absurd (h.inj i id b old m _ hj hid hb hlv (hold _ _ hlt hm) hl e) hne
    exact h.inj i i' b b' m m' hj hj' hb hb' (hold _ _ hlt hm) (hold _ _ hlt' hm') e
  · simp only [Places.new] at hm; split at hm
    simp; omega; have := h.dom i m hm; simp; omega
  rintro b ⟨i, b', m, hi, hb', hm, rfl⟩ hlt
  rcases hget i b' hi hb' with ⟨rfl, rfl⟩ | ⟨hlt', hne, hi⟩
  · rw [hnew] at hm
    cases hm
    exact ⟨id, old, _, hid, hlv, hl, rfl⟩
  exact ⟨i, b', m, hi, hb', hold _ _ hlt' hm, rfl⟩
theorem HRel.virtual {G : Glob} {I : Nat → Prop} {w : World} {ρ : Places} {H : AH} (h : HRel G I w ρ H) (blk : ABlk) : HRel G I w ρ (H ++ [blk]) ∧ Went I w ρ H I w ρ (H ++ [blk]) := by
  have hget : ∀ (i : Nat) (b : ABlk) (l : Loc), (H ++ [blk])[i]? = some b → ρ i = some l → H[i]? = some b := by
    intro i b l hi hl; have := h.dom i l hl
    rcases getElem?_snoc hi with ⟨_, hi⟩ | ⟨rfl, _⟩
    exact hi; omega
  refine ⟨⟨fun i b l hi hb hl => h.blk i b l (hget i b l hi hl) hb hl, fun i i' b b' m m' hi hi' hb hb' hm hm' => h.inj i i' b b' m m' (hget i b m hi hm) (hget i' b' m' hi' hm') hb hb' hm hm', fun i m hm => by have := h.dom i m hm; simp; omega, h.old, h.glob⟩,
    ⟨fun _ h => h, fun _ _ h => h, Nat.le_refl _, rfl, rfl, rfl, fun _ _ _ => rfl, ?_, fun _ h => .inl h⟩⟩
  rintro b ⟨i, b', m, hi, hb', hm, rfl⟩ hlt; exact ⟨i, b', m, hget i b' m hi hm, hb', hm, rfl⟩
end
end Go.Proofs.Ax
