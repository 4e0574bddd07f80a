import Derived.Test.YtedekogkeamacaaGreatDoorAxD
import Derived.ProofKit
import Derived.Carry
import Derived.OpenShut
import Derived.Test.YtedekogkeamacaaGreatDoorAxE
namespace Go.Proofs.Ax
open Go Go.ChangeShapes Go.WideShapes Go.RowKit
set_option linter.unusedVariables false
section
section
variable {H : Type} {enc : TypeId × Value → H} {P : Program}
theorem trodAll_below (hl : laidOutB P = true) {W W' : World} (hb : Below W.heap.size W W') : ∀ {ts : List TypeId} {vs : List Value} {ds : List (DataW H)} {ps : List MemPlace}, (∀ t ∈ ts, P.readableRec t = true ∧ t < P.types.size) →
    DataW.TrodAll enc P W 0 (fun _ => true) true ts vs ds ps → (∀ x ∈ ps, x.block < W.heap.size) → DataW.TrodAll enc P W' 0 (fun b => decide (b < W.heap.size)) true ts vs ds ps
  | [], vs, ds, ps, _, h, _ => by
    obtain ⟨rfl, rfl, rfl⟩ := trodAll_nil h; exact rfl
  | t :: ts, vs, ds, ps, ht, h, hlt => by
    obtain ⟨v, vs', d, ds', p, q, rfl, rfl, rfl, h1, h2⟩ := trodAll_cons h; refine ⟨p, q, Below.trod hl (ht t (List.mem_cons_self ..)).1 (ht t (List.mem_cons_self ..)).2 h1 hb (fun x hx => hlt x (List.mem_append_left _ hx)), ?_, rfl⟩; exact trodAll_below hl hb (fun t ht' => ht t (List.mem_cons_of_mem _ ht')) h2 (fun x hx => hlt x (List.mem_append_right _ hx))
theorem law_post {f : Func} {s : ChangeSpec} {apart fresh handsOn : Bool} {W W' : World} {args : Array Value} {ds gs : List (DataW H)} {before : List MemPlace} (hl : laidOutB P = true)
    (ht : ∀ t ∈ f.params.toList, P.readableRec t = true ∧ t < P.types.size) (hv : s.vars = []) (hr : f.resultTypes = #[4]) (h4 : P.underlying 4 = some .bool)
    (hW : DataW.Whole enc P f.params.toList s.vars apart W args.toList ds gs before) (hfn : s.fn H (ds ++ gs) = { results := [.lit (.bool true)], args := ds }) (hb : Below W.heap.size W W') (hk : W.keptBut W' (fun _ => False)) :
    s.post enc P f apart fresh handsOn false W args (.bool true) W' := by
  have hlt := hW.lt; have hW' := hW; obtain ⟨p, q, h1, h2, rfl, _, _⟩ := hW; rw [hv] at h2; obtain ⟨rfl, rfl⟩ := trodVars_none h2; refine ⟨ds, [], p ++ [], [], p, [], hW', ?_, ?_, ?_, World.keptBut_mono (fun _ hf => hf.elim) hk, fun h => by cases h⟩
  · rw [hr, hfn]; exact trodAll_cons_mk (shut_bool h4 true) rfl
  · rw [hfn]; exact trodAll_below hl hb ht h1 (fun x hx => hlt x (List.mem_append_left _ hx))
  rw [hfn, hv]; exact rfl
end
theorem keptBut_of {W W' : World} (ho : W'.os = W.os) (hu : W'.output = W.output) (hf : ∀ b, b < W.heap.size → W'.heap[b]? = W.heap[b]?) : W.keptBut W' (fun _ => False) := by
  refine ⟨ho, hu, fun i hi => ?_⟩; have h := hf i hi; have hr := (World.keptBut_refl W (fun _ => False)).2.2 i hi; rw [h]; exact hr
theorem law_calls {P : Program} {G : Glob} {f : FuncId} {args : List AV} {y : AV} {W : World} {vs : Array Value} (h : APure P G f args y) (hg : ∀ (g : Nat) (cells : List AV), G g = some cells → GlobAt (· < W.heap.size) W g cells)
    (hl : vs.size = args.length) (hv : ∀ (i : Nat) (x : AV), args[i]? = some x → VRel (· < W.heap.size) W Places.nil (vs.getD i undef) x) :
    Calls P f vs W fun e W' => ∃ v I' ρ', e = .returned v ∧ VRel I' W' ρ' v y ∧ Below W.heap.size W W' ∧ W.keptBut W' (fun _ => False) := by
  have h0 : HRel G (· < W.heap.size) W Places.nil [] := ⟨(fun id b l hi => by simp at hi), (fun id id' b b' l l' hi => by simp at hi), (fun id l hl => by cases hl), (fun b hb => hb), hg⟩; refine (h [] (· < W.heap.size) W Places.nil vs h0 hl hv).mono ?_; rintro e W' ⟨v, rfl, I', ρ', H', y', ⟨rfl, rfl⟩, g1, g2, g3⟩
  have hf : ∀ b, b < W.heap.size → W'.heap[b]? = W.heap[b]? := fun b hb => g3.frame b hb (by rintro ⟨id, blk, l, q1, q2, q3, q4⟩; simp at q1)
  exact ⟨v, I', ρ', rfl, g2, ⟨g3.os, g3.tape, g3.output, g3.size, hf⟩, keptBut_of g3.os g3.output hf⟩
end
section
inductive Sh where
  | int (k : IntKind)
  | bool
  | str
  | slice (e : Sh)
  | struct (fs : List Sh)
  | none
inductive Dt where
  | int (n : Int)
  | bool (b : Bool)
  | str (s : ByteArray)
  | list (l : List Dt)
  | recd (l : List Dt)
mutual
def Sh.size : Sh → Nat
  | .struct fs => Sh.sizes fs
  | _ => 1
def Sh.sizes : List Sh → Nat
  | [] => 0
  | s :: ss => s.size + Sh.sizes ss
end
mutual
def Sh.fits (P : Program) : Sh → TypeId → Prop
  | .int k, t => P.underlying t = some (.int k)
  | .bool, t => P.underlying t = some .bool
  | .str, t => P.underlying t = some .string
  | .slice e, t => ∃ e', P.underlying t = some (.slice e') ∧ Sh.fits P e e' ∧ P.cellsOf e' = e.size ∧ 0 < e.size
  | .none, _ => True
  | .struct fs, t => ∃ fields, P.underlying t = some (.struct fields) ∧ Sh.fitsAll P fs fields.toList 0 ∧ P.cellsOf t = Sh.sizes fs
def Sh.fitsAll (P : Program) : List Sh → List Field → Nat → Prop
  | [], [], _ => True
  | s :: ss, f :: fs, o => f.offset = o ∧ Sh.fits P s f.type ∧ P.cellsOf f.type = s.size ∧ Sh.fitsAll P ss fs (o + s.size)
  | _, _, _ => False
end
mutual
def Dt.enc : Sh → Dt → List AV
  | .int k, .int n => [.sc (.int k n)]
  | .bool, .bool b => [.sc (.bool b)]
  | .str, .str s => [.sc (.string s)]
  | .slice e, .list l => [.sl e.size false (Dt.encs e l)]
  | .struct fs, .recd l => Dt.encR fs l
  | _, _ => []
def Dt.encs (e : Sh) : List Dt → List (List AV)
  | [] => []
  | d :: ds => Dt.enc e d :: Dt.encs e ds
def Dt.encR : List Sh → List Dt → List AV
  | s :: ss, d :: ds => Dt.enc s d ++ Dt.encR ss ds
  | _, _ => []
end
mutual
def Dt.wf : Sh → Dt → Prop
  | .int k, .int n => (Lit.int k n).wf = true
  | .bool, .bool _ => True
  | .str, .str s => s.size ≤ maxLen
  | .slice e, .list l => l.length ≤ maxLen ∧ Dt.wfs e l
  | .struct fs, .recd l => Dt.wfR fs l
  | _, _ => False
def Dt.wfs (e : Sh) : List Dt → Prop
  | [] => True
  | d :: ds => Dt.wf e d ∧ Dt.wfs e ds
def Dt.wfR : List Sh → List Dt → Prop
  | [], [] => True
  | s :: ss, d :: ds => Dt.wf s d ∧ Dt.wfR ss ds
  | _, _ => False
end
mutual
def Sh.deep : Nat → Sh → Bool
  | n, .none => n == 0
  | n, .slice e => Sh.deep (n - 1) e
  | n, .struct fs => Sh.deeps (n - 1) fs
  | _, _ => true
def Sh.deeps : Nat → List Sh → Bool
  | _, [] => true
  | n, s :: ss => Sh.deep n s && Sh.deeps n ss
end
mutual
def Sh.plain : Sh → Bool
  | .none => false
  | .slice e => Sh.plain e
  | .struct fs => Sh.plains fs
  | _ => true
def Sh.plains : List Sh → Bool
  | [] => true
  | s :: ss => Sh.plain s && Sh.plains ss
end
mutual
theorem Sh.plain_deep : ∀ (s : Sh) (n : Nat), s.plain = true → s.deep n = true
  | .none, n, h => by simp [Sh.plain] at h
  | .slice e, n, h => by rw [Sh.deep]; exact Sh.plain_deep e _ (by simpa [Sh.plain] using h)
  | .struct fs, n, h => by rw [Sh.deep]; exact Sh.plains_deep fs _ (by simpa [Sh.plain] using h)
  | .int k, n, h => by rw [Sh.deep] <;> simp
  | .bool, n, h => by rw [Sh.deep] <;> simp
  | .str, n, h => by rw [Sh.deep] <;> simp
theorem Sh.plains_deep : ∀ (ss : List Sh) (n : Nat), Sh.plains ss = true → Sh.deeps n ss = true
  | [], n, h => by rw [Sh.deeps]
  | s :: ss, n, h => by
    simp only [Sh.plains, Bool.and_eq_true] at h; rw [Sh.deeps, Sh.plain_deep s n h.1, Sh.plains_deep ss n h.2]; rfl
end
theorem cell_none {W : World} {a : Addr} {i : Nat} {v : Value} (h : W.cell? (a.add i) = some v) (hs : i = 0 ∨ a.spot = none) : a.spot = none ∧ a.block < W.heap.size := by
  have key : ∀ b : Addr, W.cell? b = some v → b.spot = none ∧ b.block < W.heap.size := by
    intro b hb; unfold World.cell? at hb; split at hb
    · rename_i c x y hh; split at hb
      cases hb
      rename_i hsp; refine ⟨?_, (Array.getElem?_eq_some_iff.1 hh).1⟩
      cases hb' : b.spot with
      | none => rfl
      | some q => rw [hb'] at hsp; exact absurd rfl hsp
    cases hb
  obtain ⟨h1, h2⟩ := key _ h; unfold Addr.add at h1 h2
  rcases hs with rfl | hs
  simp only [if_true] at h1 h2; exact ⟨h1, h2⟩; refine ⟨hs, ?_⟩; split at h2 <;> exact h2
theorem encs_length (e : Sh) : ∀ l : List Dt, (Dt.encs e l).length = l.length
  | [] => rfl
  | d :: ds => by simp [Dt.encs, encs_length e ds]
theorem encs_get (e : Sh) : ∀ (l : List Dt) (i : Nat), (Dt.encs e l)[i]? = (l[i]?).map (Dt.enc e)
  | [], i => by simp [Dt.encs]
  | d :: ds, 0 => by simp [Dt.encs]
  | d :: ds, i + 1 => by simp [Dt.encs, encs_get e ds i]
theorem wfs_of (e : Sh) : ∀ l : List Dt, (∀ d ∈ l, Dt.wf e d) → Dt.wfs e l
  | [], _ => trivial
  | d :: ds, h => ⟨h d (List.mem_cons_self ..), wfs_of e ds fun d hd => h d (List.mem_cons_of_mem _ hd)⟩
def Cells (W : World) (s : Sh) (cs : List Value) (d : Dt) : Prop :=
  Dt.wf s d ∧ (Dt.enc s d).length = s.size ∧ ∀ (i : Nat) (a : AV), (Dt.enc s d)[i]? = some a → ∃ v, cs[i]? = some v ∧ v.oneCell' = true ∧ VRel (· < W.heap.size) W Places.nil v a
section
variable {H : Type} {enc : TypeId × Value → H} {P : Program} {W : World} {spare : Nat → Bool} {held : Bool}
set_option maxHeartbeats 1000000 in
mutual
theorem trod_read : ∀ (s : Sh) (t : TypeId) (fuel : Nat) (cs : List Value) (x : DataW H × List MemPlace), s.deep fuel = true → s.fits P t → DataW.trod enc P W 0 spare held fuel t cs = some x → ∃ d : Dt, Cells W s cs d
  | .none, t, fuel, cs, x, hd, hf, h => by
    have : fuel = 0 := by simpa [Sh.deep] using hd
    subst this; simp [DataW.trod] at h
  | .int k, t, fuel, cs, x, hd, hf, h => by
    obtain ⟨n, rfl, -, hw⟩ := DataW.trod_int hf h; refine ⟨.int n, hw, rfl, fun i a hi => ?_⟩
    match i with
    | 0 => simp [Dt.enc] at hi; subst hi; exact ⟨_, rfl, rfl, .sc⟩
    | i + 1 => simp [Dt.enc] at hi
  | .bool, t, fuel, cs, x, hd, hf, h => by
    obtain ⟨n, rfl, -⟩ := DataW.trod_bool hf h; refine ⟨.bool n, trivial, rfl, fun i a hi => ?_⟩
    match i with
    | 0 => simp [Dt.enc] at hi; subst hi; exact ⟨_, rfl, rfl, .sc⟩
    | i + 1 => simp [Dt.enc] at hi
  | .str, t, fuel, cs, x, hd, hf, h => by
    obtain ⟨n, rfl, -, hw⟩ := DataW.trod_string hf h; refine ⟨.str n, hw, rfl, fun i a hi => ?_⟩
    match i with
    | 0 => simp [Dt.enc] at hi; subst hi; exact ⟨_, rfl, rfl, .sc⟩
    | i + 1 => simp [Dt.enc] at hi
  | .slice e, t, fuel, cs, x, hd, hf, h => by
    obtain ⟨e', hu, hfe, hc, hpos⟩ := hf
    rcases DataW.trod_slice hu h with ⟨rfl, -⟩ | ⟨a, len, cap, elems, rest, n, rfl, rfl, -, -, hlc, hcap, hel, hread, -⟩
    · refine ⟨.list [], ⟨by simp, trivial⟩, rfl, fun i a hi => ?_⟩
      match i with
      | 0 => simp [Dt.enc, Dt.encs] at hi; subst hi; exact ⟨_, rfl, rfl, .slNil⟩
      | i + 1 => simp [Dt.enc] at hi
    have one : ∀ i, i < len → ∃ d : Dt, ∃ cs' : List Value, W.cells? 0 (a.add (i * e.size)) e.size = some cs' ∧ Cells W e cs' d := by
      intro i hi; have hr := hread i hi; rw [hc] at hr; have hlt : i < elems.length := by omega
      rw [List.getElem?_eq_getElem hlt] at hr
      cases hcs : W.cells? 0 (a.add (i * e.size)) e.size with
      | none => rw [hcs] at hr; cases hr
      | some cs' =>
        rw [hcs] at hr; obtain ⟨d, hd'⟩ := trod_read e e' n cs' _ (by simpa [Sh.deep] using hd) hfe hr; exact ⟨d, cs', rfl, hd'⟩
    let D : Nat → Dt := fun i => if hi : i < len then Classical.choose (one i hi) else .int 0
    have hD : ∀ i, i < len → ∃ cs' : List Value, W.cells? 0 (a.add (i * e.size)) e.size = some cs' ∧ Cells W e cs' (D i) := by
      intro i hi; have := Classical.choose_spec (one i hi); simp only [D, dif_pos hi]; exact this
    have hlen : ((List.range len).map D).length = len := by simp
    refine ⟨.list ((List.range len).map D), ⟨by rw [hlen]; omega, wfs_of _ _ fun d hd => ?_⟩, rfl, fun i x hi => ?_⟩
    · obtain ⟨i, hi, rfl⟩ := List.mem_map.1 hd; obtain ⟨cs', -, hcl⟩ := hD i (List.mem_range.1 hi); exact hcl.1
    match i with
    | i + 1 => simp [Dt.enc] at hi
    | 0 =>
      simp only [Dt.enc, List.getElem?_cons_zero, Option.some.injEq] at hi; subst hi; refine ⟨_, rfl, rfl, ?_⟩; by_cases h0 : len = 0
      · subst h0; exact .slMt (fun h => by cases h)
      have hrow : ∀ (i : Nat) (row : List AV), (Dt.encs e ((List.range len).map D))[i]? = some row → i < len ∧ row = Dt.enc e (D i) := by
        intro i row hi; rw [encs_get, List.getElem?_map] at hi; by_cases hil : i < len
        · rw [List.getElem?_range hil] at hi
          cases hi
          exact ⟨hil, rfl⟩
        rw [List.getElem?_eq_none (by simp; omega)] at hi
        cases hi
      have hcell : ∀ (i j : Nat), i < len → j < e.size → ∃ v, W.cell? ((a.add (i * e.size)).add j) = some v := by
        intro i j hi hj; obtain ⟨cs', hcs, -⟩ := hD i hi; obtain ⟨-, hl, hg⟩ := World.cells?_some hcs; rw [hg j hj, List.getElem?_eq_getElem (by omega)]; exact ⟨_, rfl⟩
      have h00 := hcell 0 0 (by omega) hpos; obtain ⟨v00, hv00⟩ := h00; rw [Nat.zero_mul] at hv00; have ha0 : (a.add 0).add 0 = a.add 0 := by simp [Addr.add]
      rw [ha0] at hv00; obtain ⟨hsp, hblk⟩ := cell_none hv00 (.inl rfl); obtain ⟨b, o, sp⟩ := a; simp only at hsp hblk; subst hsp
      have hadd : ∀ i j, ((⟨b, o, none⟩ : Addr).add (i * e.size)).add j = ⟨b, o + i * e.size + j, none⟩ := by
        intro i j; rw [add_addr, add_addr]
      have F : ∀ (i j : Nat), ∃ v, i < len → j < e.size → W.cell? ⟨b, o + i * e.size + j, none⟩ = some v := by
        intro i j; by_cases hi : i < len
        · by_cases hj : j < e.size
          · obtain ⟨v, hv⟩ := hcell i j hi hj; rw [hadd] at hv; exact ⟨v, fun _ _ => hv⟩
          exact ⟨undef, fun _ h => absurd h hj⟩
        exact ⟨undef, fun h => absurd h hi⟩
      let f : Nat → Nat → Value := fun i j => Classical.choose (F i j)
      have hfv : ∀ i j, i < len → j < e.size → W.cell? ⟨b, o + i * e.size + j, none⟩ = some (f i j) := fun i j hi hj => Classical.choose_spec (F i j) hi hj
      have all : ∀ (i j : Nat) (row : List AV) (x : AV), (Dt.encs e ((List.range len).map D))[i]? = some row → row[j]? = some x → W.cell? ⟨b, o + i * e.size + j, none⟩ = some (f i j) ∧ (f i j).oneCell' = true ∧ VRel (· < W.heap.size) W Places.nil (f i j) x := by
        intro i j row x hi hj; obtain ⟨hil, rfl⟩ := hrow i row hi; obtain ⟨cs', hcs, -, hsz, hcl⟩ := hD i hil; have hjl : j < e.size := by rw [← hsz]; exact (List.getElem?_eq_some_iff.1 hj).1
        obtain ⟨v, hv, h1, h2⟩ := hcl j x hj; obtain ⟨-, hl, hg⟩ := World.cells?_some hcs; have hc2 := hfv i j hil hjl; have : W.cell? ⟨b, o + i * e.size + j, none⟩ = some v := by rw [← hadd, hg j hjl]; exact hv
        rw [hc2] at this
        cases this
        exact ⟨hc2, h1, h2⟩
      exact .sl f (by rw [encs_length, hlen]) hlc (fun h => by cases h) (fun r hr => by
        obtain ⟨i, hi, rfl⟩ := List.getElem_of_mem hr; obtain ⟨hil, he⟩ := hrow i _ (List.getElem?_eq_getElem hi); rw [he]; obtain ⟨cs', -, -, hsz, -⟩ := hD i hil
        exact hsz) (fun _ => hblk) (fun i j row x hi hj => (all i j row x hi hj).1) (fun i j row x hi hj => (all i j row x hi hj).2.1) (fun i j row x hi hj => (all i j row x hi hj).2.2)
  | .struct fs, t, fuel, cs, x, hd, hf, h => by
    obtain ⟨fields, hu, hfa, hc⟩ := hf; obtain ⟨xs, n, rfl, -, hl, hxl, hread⟩ := DataW.trod_struct hu h
    obtain ⟨ds, h1, h2, h3⟩ := trods_read fs fields.toList 0 n cs (by simpa [Sh.deep] using hd) hfa (fun i f hi => by
      rw [Array.getElem?_toList] at hi; have hr := hread i f hi; have hlt : i < xs.length := by rw [hxl]; exact (Array.getElem?_eq_some_iff.1 hi).1
      rw [List.getElem?_eq_getElem hlt] at hr
      exact ⟨_, hr⟩)
    refine ⟨.recd ds, h1, ?_, fun i a hi => ?_⟩; simp only [Dt.enc, Sh.size]; exact h2; have := h3 i a (by simpa [Dt.enc] using hi)
    rwa [Nat.zero_add] at this
theorem trods_read : ∀ (ss : List Sh) (fl : List Field) (o : Nat) (n : Nat) (cs : List Value), Sh.deeps n ss = true → Sh.fitsAll P ss fl o → (∀ (i : Nat) (f : Field), fl[i]? = some f → ∃ y, DataW.trod enc P W 0 spare held n f.type ((cs.drop f.offset).take (P.cellsOf f.type)) = some y) →
    ∃ ds : List Dt, Dt.wfR ss ds ∧ (Dt.encR ss ds).length = Sh.sizes ss ∧ ∀ (i : Nat) (a : AV), (Dt.encR ss ds)[i]? = some a → ∃ v, cs[o + i]? = some v ∧ v.oneCell' = true ∧ VRel (· < W.heap.size) W Places.nil v a
  | [], [], o, n, cs, _, hf, h => ⟨[], trivial, rfl, fun i a hi => by simp [Dt.encR] at hi⟩
  | s :: ss, f :: fs, o, n, cs, hd, hf, h => by
    rw [Sh.deeps, Bool.and_eq_true] at hd; obtain ⟨h1, h2, h3, h4⟩ := hf; obtain ⟨y, hy⟩ := h 0 f rfl; obtain ⟨d, hd1, hd2, hd3⟩ := trod_read s f.type n _ y hd.1 h2 hy; obtain ⟨ds, g1, g2, g3⟩ := trods_read ss fs (o + s.size) n cs hd.2 h4 (fun i f' hi => h (i + 1) f' (by simpa using hi)); refine ⟨d :: ds, ⟨hd1, g1⟩, by simp only [Dt.encR, List.length_append, hd2, g2, Sh.sizes], fun i a hi => ?_⟩; simp only [Dt.encR] at hi; rw [List.getElem?_append] at hi; split at hi
    · rename_i hlt; obtain ⟨v, e1, e2⟩ := hd3 i a hi; refine ⟨v, ?_, e2⟩; rw [List.getElem?_take] at e1; split at e1
      rw [List.getElem?_drop, h1] at e1; exact e1
      cases e1
    rename_i hge; obtain ⟨v, e1, e2⟩ := g3 (i - (Dt.enc s d).length) a hi; refine ⟨v, ?_, e2⟩; rw [← e1]; congr 1
    omega
  | [], _ :: _, o, n, cs, _, hf, h => hf.elim
  | _ :: _, [], o, n, cs, _, hf, h => hf.elim
end
end
end
section
def Sh.av (s : Sh) (d : Dt) : AV :=
  match s with
  | .struct _ => .agg (Dt.enc s d)
  | _ => (Dt.enc s d).headD .any
def argsAV : List Sh → List Dt → List AV
  | s :: ss, d :: ds => s.av d :: argsAV ss ds
  | _, _ => []
def wfArgs : List Sh → List Dt → Prop
  | [], [] => True
  | s :: ss, d :: ds => Dt.wf s d ∧ wfArgs ss ds
  | _, _ => False
def fitsArgs (P : Program) : List Sh → List TypeId → Prop
  | [], [] => True
  | s :: ss, t :: ts => s.fits P t ∧ fitsArgs P ss ts
  | _, _ => False
section
variable {H : Type} {enc : TypeId × Value → H} {P : Program} {W : World} {spare : Nat → Bool} {held : Bool}
theorem arg_readF {S : Nat → Sh} {t : TypeId} {v : Value} {d : DataW H} {ps : List MemPlace} {r : Reach} {base : Nat} (hf : ∀ n, (S n).fits P t) (hd : ∀ n, (S n).deep n = true) (hok : Value.okWide P W r base t v) (h : DataW.Trod enc P W 0 spare held t v d ps) :
    ∃ (n : Nat) (x : Dt), Dt.wf (S n) x ∧ VRel (· < W.heap.size) W Places.nil v ((S n).av x) := by
  obtain ⟨fuel, h⟩ := h; have hf := hf fuel; obtain ⟨x, h1, h2, h3⟩ := trod_read (S fuel) t fuel _ _ (hd fuel) hf h; refine ⟨fuel, x, h1, ?_⟩; have hd := hd fuel; generalize S fuel = s at *
  have one : s.size = 1 → v.cells = #[v] → VRel (· < W.heap.size) W Places.nil v ((Dt.enc s x).headD .any) := by
    intro hs hc; rw [hs] at h2
    match he : Dt.enc s x, h2 with
    | [a], _ =>
      obtain ⟨u, e1, e2, e3⟩ := h3 0 a (by rw [he]; rfl); rw [hc] at e1; simp at e1; subst e1; exact e3
  cases s with
  | none =>
    have : fuel = 0 := by simpa [Sh.deep] using hd
    subst this; simp [DataW.trod] at h
  | struct fs =>
    obtain ⟨fields, hu, -, hc⟩ := hf; unfold Value.okWide at hok; rw [hu] at hok; obtain ⟨cs, rfl, hsz, -⟩ := hok
    have hat : ∀ (i : Nat) (a : AV), (Dt.enc (.struct fs) x)[i]? = some a → (cs.getD i undef).oneCell' = true ∧ VRel (· < W.heap.size) W Places.nil (cs.getD i undef) a := by
      intro i a hi; obtain ⟨u, e1, e2, e3⟩ := h3 i a hi; rw [Array.getElem?_toList] at e1
      have : cs.getD i undef = u := by
        rw [Array.getD_eq_getD_getElem?]; have e1' : cs[i]? = some u := e1; rw [e1']; rfl
      rw [this]; exact ⟨e2, e3⟩
    exact .agg (by rw [h2, hsz, hc]; rfl) (fun i a hi => (hat i a hi).1) (fun i a hi => (hat i a hi).2)
  | int k =>
    refine one rfl ?_; have hu : P.underlying t = some (.int k) := hf; unfold Value.okWide Cell.okWide Cell.ok at hok; rw [hu] at hok
    cases v <;> first | rfl | exact hok.elim
  | bool =>
    refine one rfl ?_; have hu : P.underlying t = some .bool := hf; unfold Value.okWide Cell.okWide Cell.ok at hok; rw [hu] at hok
    cases v <;> first | rfl | exact hok.elim
  | str =>
    refine one rfl ?_; have hu : P.underlying t = some .string := hf; unfold Value.okWide Cell.okWide Cell.ok at hok; rw [hu] at hok
    cases v <;> first | rfl | exact hok.elim
  | slice e =>
    refine one rfl ?_; obtain ⟨e', hu, -⟩ := hf; unfold Value.okWide Cell.okWide Cell.ok at hok; rw [hu] at hok
    cases v <;> first | rfl | exact hok.elim
theorem arg_read {s : Sh} {t : TypeId} {v : Value} {d : DataW H} {ps : List MemPlace} {r : Reach} {base : Nat} (hp : s.plain = true) (hf : s.fits P t) (hok : Value.okWide P W r base t v) (h : DataW.Trod enc P W 0 spare held t v d ps) :
    ∃ x : Dt, Dt.wf s x ∧ VRel (· < W.heap.size) W Places.nil v (s.av x) := by
  obtain ⟨n, x, h1, h2⟩ := arg_readF (S := fun _ => s) (fun _ => hf) (fun n => Sh.plain_deep s n hp) hok h; exact ⟨x, h1, h2⟩
theorem args_read {r : Reach} {base : Nat} : ∀ {ss : List Sh} {ts : List TypeId} {vs : List Value} {ds : List (DataW H)} {ps : List MemPlace}, Sh.plains ss = true → fitsArgs P ss ts → (∀ (j : Nat) t v, ts[j]? = some t → vs[j]? = some v → Value.okWide P W r base t v) →
    DataW.TrodAll enc P W 0 spare held ts vs ds ps → vs.length = ss.length ∧ ds.length = ss.length ∧ ∃ xs, wfArgs ss xs ∧ (argsAV ss xs).length = ss.length ∧ ∀ (i : Nat) (a : AV), (argsAV ss xs)[i]? = some a → ∃ v, vs[i]? = some v ∧ VRel (· < W.heap.size) W Places.nil v a
  | [], [], vs, ds, ps, _, _, _, h => by
    obtain ⟨rfl, rfl, rfl⟩ := trodAll_nil h; exact ⟨rfl, rfl, [], trivial, rfl, fun i a hi => by simp [argsAV] at hi⟩
  | s :: ss, t :: ts, vs, ds, ps, hp, hf, hok, h => by
    rw [Sh.plains, Bool.and_eq_true] at hp; obtain ⟨v, vs', d, ds', p, q, rfl, rfl, rfl, h1, h2⟩ := trodAll_cons h; obtain ⟨x, e1, e2⟩ := arg_read hp.1 hf.1 (hok 0 t v rfl rfl) h1; obtain ⟨l1, l2, xs, g1, g2, g3⟩ := args_read hp.2 hf.2 (fun j t v ht hv => hok (j + 1) t v (by simpa using ht) (by simpa using hv)) h2; refine ⟨by simp [l1], by simp [l2], x :: xs, ⟨e1, g1⟩, by simp [argsAV, g2], fun i a hi => ?_⟩
    cases i with
    | zero => simp [argsAV] at hi; subst hi; exact ⟨v, rfl, e2⟩
    | succ i => simpa using g3 i a (by simpa [argsAV] using hi)
  | [], _ :: _, vs, ds, ps, _, hf, _, _ => hf.elim
  | _ :: _, [], vs, ds, ps, _, hf, _, _ => hf.elim
end
theorem law_done {H : Type} {enc : TypeId × Value → H} {P : Program} {G : Glob} {f : FuncId} {fn : Func} {s : ChangeSpec} {W : World} {base : Nat} {args : Array Value} {ds gs : List (DataW H)} {before : List MemPlace} (ss : List Sh)
    (hl : laidOutB P = true) (hf : fitsArgs P ss fn.params.toList) (ht : ∀ t ∈ fn.params.toList, P.readableRec t = true ∧ t < P.types.size) (hv : s.vars = []) (hr : fn.resultTypes = #[4]) (h4 : P.underlying 4 = some .bool)
    (hfn : ∀ ds : List (DataW H), ds.length = ss.length → s.fn H ds = { results := [.lit (.bool true)], args := ds })
    (law : ∀ xs, wfArgs ss xs → APure P G f (argsAV ss xs) (.sc (.bool true)))
    (hg : ∀ (g : Nat) (cells : List AV), G g = some cells → GlobAt (· < W.heap.size) W g cells)
    (hval : ∀ (j : Nat) t v, fn.params[j]? = some t → args[j]? = some v → Value.okWide P W .any base t v)
    (hW : DataW.Whole enc P fn.params.toList s.vars false W args.toList ds gs before) (hpl : Sh.plains ss = true := by rfl) :
    Calls P f args W fun e W' => ∃ v, e = .returned v ∧ s.post enc P fn false true false false W args v W' := by
  have hW' := hW; obtain ⟨p, q, hA, hV, hbef, hfz, hnd⟩ := hW; obtain ⟨l1, l2, xs, h1, h2, h3⟩ := args_read hpl hf (fun j t v ht hv => hval j t v (by rw [← Array.getElem?_toList]; exact ht) (by rw [← Array.getElem?_toList]; exact hv)) hA
  have hgs : gs = [] := by
    rw [hv] at hV; exact (trodVars_none hV).1
  have hsz : args.size = (argsAV ss xs).length := by rw [h2, ← l1]; simp
  refine (law_calls (law xs h1) hg hsz (fun i x hi => ?_)).mono ?_
  · obtain ⟨v, e1, e2⟩ := h3 i x hi; rw [Array.getElem?_toList] at e1; have : args.getD i undef = v := by rw [Array.getD_eq_getD_getElem?, e1]; rfl
    rw [this]; exact e2
  rintro e W' ⟨v, I', ρ', rfl, hr', hb, hk⟩
  cases hr'
  refine ⟨_, rfl, law_post hl ht hv hr h4 hW' ?_ hb hk⟩; rw [hgs, List.append_nil]; exact hfn ds l2
end
end Go.Proofs.Ax
