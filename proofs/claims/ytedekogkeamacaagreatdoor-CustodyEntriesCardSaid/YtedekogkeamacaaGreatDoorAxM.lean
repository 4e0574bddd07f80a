import Derived.Test.YtedekogkeamacaaGreatDoorAxG
import Derived.Test.YtedekogkeamacaaGreatDoorAxN
namespace Go.Proofs.Ax
open Go
set_option linter.unusedVariables false
section
theorem StepN.shl1 {E : EC} {t u : TypeId} {x y : Operand} {ty : TypeId} {l : Fr} {H : AH} {k : AV → AH → Prop} {d : Nat} (hx : evo E l x = .sc (.int .i64 1)) (hy : evo E l y = .sc (.int .i64 (d : Int))) (hd : d ≤ 40) (hk : k (.sc (.int .i64 ((2 ^ d : Nat) : Int))) H) : StepN E (.binOp .shl t x y u) ty l H k := by
  refine ⟨_, _, ?_, hk⟩; rw [evo_eq E l H] at hx hy; have hp : 2 ^ d ≤ 2 ^ 40 := Nat.pow_le_pow_right (by decide) hd; have hp0 : 0 < 2 ^ d := Nat.two_pow_pos d
  have h : val? (binOp BinOp.shl t (Value.int IntKind.i64 1) (Value.int IntKind.i64 (d : Int))) = some (.int .i64 ((2 ^ d : Nat) : Int)) := by
    simp only [binOp, Op.shift]; rw [if_neg (by omega)]; show some (Value.int .i64 (IntKind.i64.wrap (1 * 2 ^ (min (d : Int).toNat 64)))) = _; rw [show min (d : Int).toNat 64 = d by omega, Int.one_mul, show (2 : Int) ^ d = ((2 ^ d : Nat) : Int) by simp, wrapI ⟨by omega, by omega⟩]
  simp only [astep, hx, hy, abin, h, Option.map_some]
theorem StepN.shrN {E : EC} {t u : TypeId} {x y : Operand} {ty : TypeId} {l : Fr} {H : AH} {k : AV → AH → Prop} {b d : Nat} (hx : evo E l x = .sc (.int .i64 (b : Int))) (hy : evo E l y = .sc (.int .i64 (d : Int))) (hd : d ≤ 60) (hk : k (.sc (.int .i64 ((b / 2 ^ d : Nat) : Int))) H) : StepN E (.binOp .shr t x y u) ty l H k := by
  refine ⟨_, _, ?_, hk⟩; rw [evo_eq E l H] at hx hy
  have h : val? (binOp BinOp.shr t (Value.int IntKind.i64 (b : Int)) (Value.int IntKind.i64 (d : Int))) = some (.int .i64 ((b / 2 ^ d : Nat) : Int)) := by
    simp only [binOp, Op.shift]; rw [if_neg (by omega)]; show some (Value.int .i64 ((b : Int).fdiv (2 ^ (min (d : Int).toNat 64)))) = _; rw [show min (d : Int).toNat 64 = d by omega, Int.fdiv_eq_ediv_of_nonneg _ (by exact_mod_cast Nat.zero_le _)]; simp
  simp only [astep, hx, hy, abin, h, Option.map_some]
theorem StepN.and1 {E : EC} {t u : TypeId} {x y : Operand} {ty : TypeId} {l : Fr} {H : AH} {k : AV → AH → Prop} {a : Int} (hx : evo E l x = .sc (.int .i64 a)) (hy : evo E l y = .sc (.int .i64 1)) (hk : k (.sc (.int .i64 (a % 2))) H) : StepN E (.binOp .and t x y u) ty l H k := by
  refine ⟨_, _, ?_, hk⟩; rw [evo_eq E l H] at hx hy
  have h : val? (binOp BinOp.and t (Value.int IntKind.i64 a) (Value.int IntKind.i64 1)) = some (.int .i64 (a % 2)) := by
    simp only [binOp]; rw [if_neg (by simp)]; simp only [Op.intBits]; show some (Value.int .i64 (IntKind.i64.wrap (((BitVec.ofInt 64 a) &&& (BitVec.ofInt 64 1)).toNat : Int))) = _
    have e : (((BitVec.ofInt 64 a) &&& (BitVec.ofInt 64 1)).toNat : Int) = a % 2 := by
      rw [BitVec.toNat_and, BitVec.toNat_ofInt, BitVec.toNat_ofInt]; rw [show (1 % ((2 ^ 64 : Nat) : Int)).toNat = 1 by decide, Nat.and_one_is_mod]; omega
    rw [e, wrapI ⟨by omega, by omega⟩]
  simp only [astep, hx, hy, abin, h, Option.map_some]
theorem StepN.orN {E : EC} {t u : TypeId} {x y : Operand} {ty : TypeId} {l : Fr} {H : AH} {k : AV → AH → Prop} {a b : Nat} (hx : evo E l x = .sc (.int .i64 (a : Int))) (hy : evo E l y = .sc (.int .i64 (b : Int))) (ha : a < 2 ^ 40) (hb : b < 2 ^ 40) (hk : k (.sc (.int .i64 ((a ||| b : Nat) : Int))) H) : StepN E (.binOp .or t x y u) ty l H k := by
  refine ⟨_, _, ?_, hk⟩; rw [evo_eq E l H] at hx hy
  have h : val? (binOp BinOp.or t (Value.int IntKind.i64 a) (Value.int IntKind.i64 b)) = some (.int .i64 ((a ||| b : Nat) : Int)) := by
    simp only [binOp]; rw [if_neg (by simp)]; simp only [Op.intBits]; show some (Value.int .i64 (IntKind.i64.wrap (((BitVec.ofInt 64 a) ||| (BitVec.ofInt 64 b)).toNat : Int))) = _
    have e : (((BitVec.ofInt 64 (a : Int)) ||| (BitVec.ofInt 64 (b : Int))).toNat) = a ||| b := by
      rw [BitVec.toNat_or, BitVec.toNat_ofInt, BitVec.toNat_ofInt]; rw [show ((a : Int) % ((2 ^ 64 : Nat) : Int)).toNat = a by omega, show ((b : Int) % ((2 ^ 64 : Nat) : Int)).toNat = b by omega]
    have hlt : a ||| b < 2 ^ 40 := Nat.or_lt_two_pow ha hb
    rw [e, wrapI ⟨by omega, by omega⟩]
  simp only [astep, hx, hy, abin, h, Option.map_some]
theorem bit_mod (d i : Nat) : ((d / 2 ^ i : Nat) : Int) % 2 = if d.testBit i = true then 1 else 0 := by
  rw [Nat.testBit_eq_decide_div_mod_eq]; split
  · rename_i h; have := of_decide_eq_true h; omega
  rename_i h
  have : ¬ (d / 2 ^ i % 2 = 1) := fun h' => h (decide_eq_true h')
  omega
theorem bit_t {d i : Nat} (h : d.testBit i = true) : ((d / 2 ^ i : Nat) : Int) % 2 = 1 := by rw [bit_mod, if_pos h]
theorem bit_f {d i : Nat} (h : d.testBit i = false) : ¬ ((d / 2 ^ i : Nat) : Int) % 2 = 1 := by rw [bit_mod, h]; decide
theorem StepN.mkMap {E : EC} {t ty : TypeId} {l : Fr} {H : AH} {k : AV → AH → Prop} {kt et : TypeId} (N : Nat) (hN : H.length = N) (hu : E.C.P.underlying t = some (.map kt et)) (hk : k (.mp N) (H ++ [.amap [] 0])) : StepN E (.makeMap t none) ty l H k := by
  refine .mk (.mp N) (H ++ [.amap [] 0]) ?_ hk; subst hN; simp only [astep, Option.map_none, amakeMap, hu]
theorem vB_frz {κ α : Type} {ke : κ → AV} {v : List α → AV} (hke : ∀ q id rs, (ke q).frz0 id rs = ke q) (hv : ∀ l id rs, (v l).frz0 id rs = v l) (gs : List (κ × List α)) (id : Nat) (rs : List (List AV)) : (vB ke v gs).frz id rs = vB ke v gs := by
  have : ∀ (i : Nat) (gs : List (κ × List α)), (vEnt ke v i gs).map (fun e => (e.1.frz0 id rs, e.2.1.frz0 id rs, e.2.2)) = vEnt ke v i gs := by
    intro i gs
    induction gs generalizing i with
    | nil => rfl
    | cons g gs ih => rw [vEnt, List.map_cons, ih, hke g.1 id rs, hv g.2 id rs]
  show ABlk.amap _ _ = ABlk.amap _ _; rw [this]
def WkC (x x' : AV) : Prop := (∀ (I : Nat → Prop) (w : World) (ρ : Places) (v : Value), VRel I w ρ v x → VRel I w ρ v x')
theorem WkC.refl (x : AV) : WkC x x := fun _ _ _ _ h => h
theorem WkC.nilSm (j k : Nat) : WkC (.sc (.slice none 0 0)) (.sm j k 0 0) := fun _ _ _ _ h => by cases h; exact .smNil
theorem WkC.nilSl (k : Nat) (t : Bool) : WkC (.sc (.slice none 0 0)) (.sl k t []) := fun _ _ _ _ h => by cases h; exact .slNil
theorem WkC.loose (k : Nat) (rows : List (List AV)) : WkC (.sl k true rows) (.sl k false rows) := fun _ _ _ _ h => h.weaker .sl
def WkR : List AV → List AV → Prop
  | [], [] => True
  | x :: xs, y :: ys => WkC x y ∧ WkR xs ys
  | _, _ => False
def WkB : List (List AV) → List (List AV) → Prop
  | [], [] => True
  | x :: xs, y :: ys => WkR x y ∧ WkB xs ys
  | _, _ => False
theorem WkR.get : ∀ {xs ys : List AV}, WkR xs ys → xs.length = ys.length ∧ ∀ (i : Nat) (y : AV), ys[i]? = some y → ∃ x, xs[i]? = some x ∧ WkC x y
  | [], [], _ => ⟨rfl, fun i y h => by simp at h⟩
  | x :: xs, y :: ys, h => by
    obtain ⟨h1, h2⟩ := WkR.get h.2; refine ⟨by simp [h1], fun i z hz => ?_⟩
    cases i with
    | zero => cases hz; exact ⟨x, rfl, h.1⟩
    | succ i => exact h2 i z hz
theorem WkB.get : ∀ {xs ys : List (List AV)}, WkB xs ys → xs.length = ys.length ∧ ∀ (i : Nat) (y : List AV), ys[i]? = some y → ∃ x, xs[i]? = some x ∧ WkR x y
  | [], [], _ => ⟨rfl, fun i y h => by simp at h⟩
  | x :: xs, y :: ys, h => by
    obtain ⟨h1, h2⟩ := WkB.get h.2; refine ⟨by simp [h1], fun i z hz => ?_⟩
    cases i with
    | zero => cases hz; exact ⟨x, rfl, h.1⟩
    | succ i => exact h2 i z hz
theorem WkR.refl : ∀ xs : List AV, WkR xs xs
  | [] => trivial
  | x :: xs => ⟨WkC.refl x, WkR.refl xs⟩
theorem WkB.refl : ∀ xs : List (List AV), WkB xs xs
  | [] => trivial
  | x :: xs => ⟨WkR.refl x, WkB.refl xs⟩
theorem Reabs.cells {C : Ctx} {l : Fr} {N : Nat} {H : AH} (i : Nat) (rs rs' : List (List AV)) (te : TypeId) (hi : H[i]? = some (.rows rs te)) (hw : WkB rs rs') : Reabs C ⟨frm 0 l N, H⟩ ⟨frm 0 l N, H.set i (.rows rs' te)⟩ := by
  intro B I w ρ a hs; have hlt : i < H.length := (List.getElem?_eq_some_iff.1 hi).1
  have to : ∀ {id : Nat} {b : ABlk}, (H.set i (.rows rs' te))[id]? = some b → b.live = true → ∃ b0, H[id]? = some b0 ∧ b0.live = true ∧ ∀ {l : Loc}, BRel I w ρ l b0 → BRel I w ρ l b := by
    intro id b hb hl
    rcases set_some hb with ⟨rfl, rfl, _⟩ | ⟨_, hb⟩
    · refine ⟨_, hi, rfl, ?_⟩; rintro l ⟨⟨cells, h1, h2, h3⟩, h4, h5⟩; obtain ⟨e1, e2⟩ := hw.get; refine ⟨⟨cells, h1, h2, fun i' j' row x hr hx => ?_⟩, by rw [← e1]; exact h4, fun r hr => ?_⟩
      · obtain ⟨row0, hr0, hwr⟩ := e2 i' row hr; obtain ⟨x0, hx0, hc⟩ := hwr.get.2 j' x hx; obtain ⟨g1, g2⟩ := h3 i' j' _ _ hr0 hx0; exact ⟨g1, hc _ _ _ _ g2⟩
      obtain ⟨j, hj⟩ := List.getElem?_of_mem hr; obtain ⟨row0, hr0, hwr⟩ := e2 j r hj; rw [← hwr.get.1]; exact h5 row0 (List.mem_of_getElem? hr0)
    exact ⟨b, hb, hl, fun h => h⟩
  have back : ∀ {id : Nat} {b : ABlk}, H[id]? = some b → b.live = true → ∃ b', (H.set i (.rows rs' te))[id]? = some b' ∧ b'.live = true := by
    intro id b hb hl; by_cases he : i = id
    · subst he; exact ⟨_, by rw [List.getElem?_set, if_pos rfl, if_pos hlt], rfl⟩
    exact ⟨b, by rw [List.getElem?_set, if_neg he]; exact hb, hl⟩
  have own1 : ∀ b, Owned ρ (H.set i (.rows rs' te)) b → Owned ρ H b := by
    rintro b ⟨id, b', l, h1, h2, h3, h4⟩; obtain ⟨b0, g1, g2, -⟩ := to h1 h2; exact ⟨id, b0, l, g1, g2, h3, h4⟩
  have hh := hs.heap
  refine ⟨I, ρ, ⟨⟨fun id b l h1 h2 h3 => ?_, fun id id' b b' l l' h1 h2 h3 h4 h5 h6 h7 => ?_, fun id l h => by rw [List.length_set]; exact hh.dom id l h, hh.old, hh.glob⟩, hs.size, hs.fr, ?_, hs.base⟩,
    ⟨fun _ h => h, fun _ _ _ h => h, Nat.le_refl _, rfl, rfl, rfl, fun _ _ _ => rfl, fun b ho _ => own1 b ho, fun _ h => .inl h⟩⟩
  · obtain ⟨b0, g1, g2, g3⟩ := to h1 h2; obtain ⟨k1, k2, k3⟩ := hh.blk id b0 l g1 g2 h3; exact ⟨k1, k2, g3 k3⟩
  · obtain ⟨b0, g1, g2, -⟩ := to h1 h3; obtain ⟨b1, k1, k2, -⟩ := to h2 h4; exact hh.inj id id' b0 b1 l l' g1 k1 g2 k2 h5 h6 h7
  obtain ⟨rs, h1, h2, h3⟩ := hs.marks; exact ⟨rs, h1, h2, fun r hr => ⟨(h3 r hr).1, (h3 r hr).2.1, fun ho => (h3 r hr).2.2.1 (own1 r ho), (h3 r hr).2.2.2⟩⟩
theorem Reabs.slot {C : Ctx} {l : Fr} {N : Nat} {H : AH} (j : Nat) (x' : AV) (hj : WkC (alk j l) x') : Reabs C ⟨frm 0 l N, H⟩ ⟨frm 0 ((j, x') :: l) N, H⟩ := by
  intro B I w ρ a hs; refine ⟨I, ρ, ⟨hs.heap, ?_, fun i x hi => ?_, hs.marks, hs.base⟩, Went.refl.gone⟩; rw [hs.size]; simp [frm_length]; simp only [frm_get] at hi; split at hi
  · rename_i hlt
    cases hi
    have h0 := hs.fr i (alk (0 + i) l) (by simp only [frm_get, if_pos hlt]); by_cases he : 0 + i = j
    · rw [he] at h0 ⊢; have : alk j ((j, x') :: l) = x' := by simp [alk]
      rw [this]; exact hj _ _ _ _ h0
    rw [alk_ne he]; exact h0
  cases hi
end
section
def ReH (m : Nat) (H H2 : AH) : Prop := ∀ (P : Program) (G : Glob) (r : Option Nat) (l : Fr) (N : Nat), (∀ p ∈ l, p.2.ok m = true) → Reabs ⟨P, G, m, r⟩ ⟨frm 0 l N, H⟩ ⟨frm 0 l N, H2⟩
theorem ren_fix {σ : Nat → Nat} {m : Nat} (hσ : ∀ i, i < m → σ i = i) : ∀ {x : AV}, x.ok m = true → x.ren σ = x := by
  have h0 : ∀ {x : AV}, x.ok0 m = true → x.ren0 σ = x := by
    intro x h
    cases x <;> first | rfl | (simp only [AV.ren0, hσ _ (by simpa [AV.ok0] using h)])
  have hl : ∀ {l : List AV}, (∀ x ∈ l, x.ok0 m = true) → l.map (AV.ren0 σ) = l := fun {l} h => by
    conv => rhs; rw [← List.map_id l]
    exact List.map_congr_left fun x hx => h0 (h x hx)
  intro x h
  cases x with
  | agg cs => simp only [AV.ok, List.all_eq_true] at h; simp only [AV.ren, hl h]
  | tuple cs => simp only [AV.ok, List.all_eq_true] at h; simp only [AV.ren, hl h]
  | fn f fs cs => simp only [AV.ok, Bool.and_eq_true, List.all_eq_true] at h; simp only [AV.ren, hl h.1, hl h.2]
  | any => exact h0 (x := .any) h
  | sc v => exact h0 (x := .sc v) h
  | sl k t r => exact h0 (x := .sl k t r) h
  | pi c => exact h0 (x := .pi c) h
  | sm a b c d => exact h0 (x := .sm a b c d) h
  | pm a b c => exact h0 (x := .pm a b c) h
  | mp a => exact h0 (x := .mp a) h
  | iface t v => exact h0 (x := .iface t v) h
  | yl a => exact h0 (x := .yl a) h
  | it a => exact h0 (x := .it a) h
  | sz k => exact h0 (x := .sz k) h
theorem ok_mono {m n : Nat} (hmn : m ≤ n) : ∀ {x : AV}, x.ok m = true → x.ok n = true := by
  have h0 : ∀ {x : AV}, x.ok0 m = true → x.ok0 n = true := by
    intro x h
    cases x <;> first | exact h | (simp only [AV.ok0, decide_eq_true_eq] at h ⊢; omega)
  intro x h
  cases x with
  | agg cs => simp only [AV.ok, List.all_eq_true] at h ⊢; exact fun x hx => h0 (h x hx)
  | tuple cs => simp only [AV.ok, List.all_eq_true] at h ⊢; exact fun x hx => h0 (h x hx)
  | fn f fs cs => simp only [AV.ok, Bool.and_eq_true, List.all_eq_true] at h ⊢; exact ⟨fun x hx => h0 (h.1 x hx), fun x hx => h0 (h.2 x hx)⟩
  | any => exact h0 (x := .any) h
  | sc v => exact h0 (x := .sc v) h
  | sl k t r => exact h0 (x := .sl k t r) h
  | pi c => exact h0 (x := .pi c) h
  | sm a b c d => exact h0 (x := .sm a b c d) h
  | pm a b c => exact h0 (x := .pm a b c) h
  | mp a => exact h0 (x := .mp a) h
  | iface t v => exact h0 (x := .iface t v) h
  | yl a => exact h0 (x := .yl a) h
  | it a => exact h0 (x := .it a) h
  | sz k => exact h0 (x := .sz k) h
theorem slots_self {σ : Nat → Nat} {n m : Nat} (hmn : m ≤ n) (hσ : ∀ i, i < m → σ i = i) {l : Fr} (hl : ∀ p ∈ l, p.2.ok m = true) : ∀ (N i : Nat), Slots σ n (frm i l N) (frm i l N)
  | 0, _ => trivial
  | N + 1, i => by
    refine ⟨?_, slots_self hmn hσ hl N (i + 1)⟩; rw [← alk_eq]
    have : alk i l = .any ∨ ∃ p ∈ l, alk i l = p.2 := by
      clear hl
      induction l with
      | nil => exact .inl rfl
      | cons p l ih =>
        obtain ⟨j, y⟩ := p; by_cases he : i = j
        subst he; exact .inr ⟨_, List.mem_cons_self .., by simp [alk]⟩; rw [alk_ne he]
        rcases ih with h | ⟨q, hq, h⟩
        exact .inl h; exact .inr ⟨q, List.mem_cons_of_mem _ hq, h⟩
    rcases this with h | ⟨p, hp, h⟩
    exact .inl h; rw [h]; exact .inr ⟨ok_mono hmn (hl p hp), (ren_fix hσ (hl p hp)).symm⟩
theorem ReH.ids {m : Nat} {H H2 : AH} (ids : List Nat) (hb : AllB (sigma ids) H2.length H ids H2) (hnd : ndL ids H2 [] = true) (hm : preL m ids H2.length = true) : ReH m H H2 := by
  intro P G r l N hl; have hm' := hm; simp only [preL, Bool.and_eq_true, decide_eq_true_eq, List.all_eq_true, List.mem_range, beq_iff_eq] at hm'; obtain ⟨g1, g2⟩ := hb.get
  have hsig : ∀ i j, ids[i]? = some j → sigma ids i = j := fun i j h => by simp [sigma, List.getD_eq_getElem?_getD, h]
  refine Reabs.ren2 (sigma ids) (slots_self hm'.1 hm'.2 hl N 0) (fun i hi => ?_) (fun i j b b' hi hj hl hl' he => ?_) (fun i hi => ⟨Nat.lt_of_lt_of_le hi hm'.1, hm'.2 i hi⟩)
  · obtain ⟨j, b, b', e1, e2, e3, e4, e5⟩ := g2 i hi; exact ⟨b, b', by rw [hsig i j e1]; exact e2, e3, e4, e5⟩
  have hi' : i < ids.length := by have : i < H2.length := (List.getElem?_eq_some_iff.1 hi).1; omega
  have hj' : j < ids.length := by have : j < H2.length := (List.getElem?_eq_some_iff.1 hj).1; omega
  have e1 := List.getElem?_eq_getElem hi'; have e2 := List.getElem?_eq_getElem hj'; rw [hsig i _ e1, hsig j _ e2] at he; rw [← he] at e2; exact (ndL_ok hnd).2 i j _ _ _ e1 e2 hi hj hl hl'
theorem ReH.drop {m : Nat} {H z : AH} (hm : m ≤ H.length) (hok : ∀ b ∈ H, b.ok H.length) : ReH m (H ++ z) H := by
  intro P G r l N hl; refine Reabs.ren2 id (slots_self hm (fun _ _ => rfl) hl N 0) (fun i hi => ?_) (fun i j b b' _ _ _ _ he => he) (fun i hi => ⟨Nat.lt_of_lt_of_le hi hm, rfl⟩); have hi : i < H.length := hi; have hg : H[i]? = some H[i] := List.getElem?_eq_getElem hi; refine ⟨H[i], H[i], by rw [id, List.getElem?_append_left hi, hg], hg, .inr (.inr ⟨hok _ (List.getElem_mem hi), (blk_ren_id _).symm⟩), fun h => h⟩
theorem ReH.refl {m : Nat} {H : AH} : ReH m H H := fun P G r l N _ => Reabs.refl
theorem RangeN.re {E : EC} {f : Operand} {ps : Array Tmp} {az bd : Code} {l l' : Fr} {H H' : AH} {k : XK} (h : Reabs E.C ⟨frm 0 l E.n, H⟩ ⟨frm 0 l' E.n, H'⟩) (hc : RangeN E f ps az bd l' H' k) : RangeN E f ps az bd l H k := ⟨AWp_reabs h hc.1⟩
noncomputable def rfOf (c : Code) : Option (Code × Code) :=
  Code.rec (motive := fun _ => Option (Code × Code)) none (fun _ _ _ => none) (fun _ _ x y => match x with | some z => some z | none => y) (fun _ _ _ x y => match x with | some z => some z | none => y) (fun _ _ x => x) (fun _ x => x) (fun _ _ az bd _ _ => some (az, bd)) (fun _ => none) (fun _ x => x) (fun _ => none) (fun _ => none) none (fun _ => none) c
noncomputable def asF (f : Func) : Code := match f.body with
  | some c => match rfOf c with
    | some (a, _) => a
    | none => .skip
  | none => .skip
noncomputable def bdF (f : Func) : Code := match f.body with
  | some c => match rfOf c with
    | some (_, b) => b
    | none => .skip
  | none => .skip
theorem okRows {rs : List (List AV)} {te : TypeId} {n : Nat} (h : okL n rs = true) : (ABlk.rows rs te).ok n := fun row hr x hx => List.all_eq_true.1 (List.all_eq_true.1 h row hr) x hx
theorem okLoop {st : LoopState} {pe : Option Code} {fr : List AV} {ps : Array Tmp} {as bd : Code} {n : Nat} (h : fr.all (AV.ok n) = true) : (ABlk.loop st pe fr ps as bd).ok n := fun x hx => List.all_eq_true.1 h x hx
theorem Br.and {a b : Bool} {p q : Prop} (h : Br a (Br b p q) q) : Br (a && b) p q := by
  cases a with
  | true => exact h.t rfl
  | false => exact ⟨(fun e => by cases e), (fun _ => h.f rfl)⟩
theorem smB {i k n m : Nat} {te : TypeId} (h : n = m) : ABlk.rows [[.sm i k 0 n]] te = ABlk.rows [[.sm i k 0 m]] te := by rw [h]
def SubF (l : Fr) : Fr → Prop
  | [] => True
  | (i, x) :: r => alk i l = x ∧ SubF l r
theorem SubF.get {l : Fr} : ∀ {r : Fr}, SubF l r → ∀ i, alk i r = .any ∨ alk i r = alk i l
  | [], _, i => .inl rfl
  | (j, x) :: r, h, i => by
    by_cases he : i = j
    subst he; right; rw [h.1]; simp [alk]; rw [alk_ne he]; exact SubF.get h.2 i
theorem Reabs.less {C : Ctx} {l r : Fr} {N : Nat} {H : AH} (h : SubF l r) : Reabs C ⟨frm 0 l N, H⟩ ⟨frm 0 r N, H⟩ := by
  intro B I w ρ a hs; refine ⟨I, ρ, ⟨hs.heap, ?_, fun i x hi => ?_, hs.marks, hs.base⟩, Went.refl.gone⟩; rw [hs.size]; simp [frm_length]; simp only [frm_get] at hi; split at hi
  · rename_i hlt
    cases hi
    rcases h.get (0 + i) with e | e
    rw [e]; exact .any; rw [e]; exact hs.fr i _ (by simp only [frm_get, if_pos hlt])
  cases hi
def OkF (m : Nat) : Fr → Prop
  | [] => True
  | (_, x) :: r => x.ok m = true ∧ OkF m r
theorem OkF.all {m : Nat} : ∀ {l : Fr}, OkF m l → ∀ p ∈ l, p.2.ok m = true
  | [], _, p, h => by cases h
  | (i, x) :: r, h, p, hp => by
    rcases List.mem_cons.1 hp with rfl | hp
    exact h.1; exact OkF.all h.2 p hp
theorem ReH.re {P : Program} {G : Glob} {m : Nat} {r : Option Nat} {l l' : Fr} {N : Nat} {H H2 : AH} (h : ReH m H H2) (hs : SubF l l') (hl : OkF m l') : Reabs ⟨P, G, m, r⟩ ⟨frm 0 l N, H⟩ ⟨frm 0 l' N, H2⟩ := (Reabs.less hs).trans (h P G r l' N hl.all)
end
section
theorem OpN.clear {E : EC} {t ty : TypeId} {x : Nat} {l : Fr} {H : AH} {k : AV → AH → Prop} (h : ClearN E t x l H fun H' => k (.tuple []) H') : OpN E (.call ⟨.builtin .clear, #[.tmp x], #[t]⟩) ty l H k := by
  refine ⟨fun dst pos af g => ?_⟩; obtain ⟨id, kk, off, len, rs, te, e, z, hx, hid, hu, hz, hzk, hz1, hkk, hk⟩ := h; refine (ClearN.aop (k := fun l' H' => l' = putF l dst (.tuple []) ∧ k (.tuple []) H') ⟨id, kk, off, len, rs, te, e, z, hx, hid, hu, hz, hzk, hz1, hkk, rfl, hk⟩).mono ?_; rintro st ⟨l', H', rfl, rfl, hk⟩; exact ⟨_, _, (putF_eq ..).symm, hk⟩
end
section
theorem seen_snocV {β : Type} {gs : List β} {i : Nat} {g : β} {seen : List Nat} (hg : gs[i]? = some g) (hnd : seen.Nodup) (hin : ∀ i ∈ seen, i < gs.length) (hni : i ∉ seen) :
    ((seen ++ [i]).Nodup ∧ ∀ j ∈ seen ++ [i], j < gs.length) ∧ gs.length - (seen ++ [i]).length < gs.length - seen.length := by
  have hlt := (List.getElem?_eq_some_iff.1 hg).1
  have h1 : (seen ++ [i]).Nodup := by
    rw [List.nodup_append]; exact ⟨hnd, by simp, fun a ha b hb e => hni (by rw [List.mem_singleton.1 hb] at e; rw [← e]; exact ha)⟩
  have h2 : ∀ j ∈ seen ++ [i], j < gs.length := by
    intro j hj
    rcases List.mem_append.1 hj with hj | hj
    exact hin j hj; rw [List.mem_singleton.1 hj]; exact hlt
  have h3 := len_of_nodup h1 h2; rw [List.length_append, List.length_singleton] at h3 ⊢; exact ⟨⟨h1, h2⟩, by omega⟩
section
variable {κ α : Type} {ke : κ → AV} {v : List α → AV} {P : Program} {H : AH} {it m : Nat} {gs : List (κ × List α)} {seen : List Nat}
theorem next_V (hit : H[it]? = some (.miter (some m) gs.length seen gs.length)) (hm : H[m]? = some (vB ke v gs)) :
    ∃ outs, anext P H (.it it) false = some outs ∧ ∀ y H', (y, H') ∈ outs → (∃ i g, gs[i]? = some g ∧ i ∉ seen ∧ y = .tuple [.sc (.bool true), ke g.1, v g.2] ∧ H' = H.set it (.miter (some m) gs.length (seen ++ [i]) gs.length)) ∨ ((∀ i, i < gs.length → i ∈ seen) ∧ y = .tuple [.sc (.bool false)] ∧ H' = H) := by
  obtain ⟨outs, h1, h2⟩ := next_map (P := P) (vEnt_stamp ke v gs) (vEnt_length ..) hit hm; refine ⟨outs, h1, fun y H' hy => ?_⟩
  rcases h2 y H' hy with ⟨i, e, g1, g2, rfl, rfl⟩ | h
  · rw [vEnt_get] at g1
    cases hg : gs[i]? with
    | none => rw [hg] at g1; cases g1
    | some g =>
      rw [hg] at g1
      cases g1
      exact .inl ⟨i, g, hg, g2, rfl, rfl⟩
  exact .inr h
theorem entry_V {i : Nat} {g : κ × List α} (hg : gs[i]? = some g) (hit : H[it]? = some (.miter (some m) gs.length (seen ++ [i]) gs.length)) (hm : H[m]? = some (vB ke v gs)) :
    (aentry H (.it it)).map (fun y => (y, H)) = some (.tuple [ke g.1, v g.2], H) := by
  rw [entry_map (e := (ke g.1, v g.2, i)) (vEnt_stamp ke v gs) (by rw [vEnt_get, hg, Option.map_some, Nat.zero_add]) hit hm]; rfl
theorem range_V {t : TypeId} {kt et : TypeId} (hu : P.underlying t = some (.map kt et)) (hm : H[m]? = some (vB ke v gs)) (N : Nat) (hN : H.length = N) : arange P H t (.mp m) = some (.it N, H ++ [.miter (some m) gs.length [] gs.length]) := by
  subst hN; simp only [arange, hu, hm]
end
theorem miter_blk {σ : Nat → Nat} {n m c la : Nat} {seen : List Nat} (hm : m < n) (h : σ m = m) : Blk σ n (.miter (some m) c seen la) (.miter (some m) c seen la) :=
  .inr (.inr ⟨fun k hk => by cases hk; exact hm, by simp only [ABlk.ren, Option.map_some, h]⟩)
theorem lookG_mem {κ α : Type} [DecidableEq κ] : ∀ {gs : List (κ × List α)} {i : Nat} {g : κ × List α}, (gs.map (·.1)).Nodup → gs[i]? = some g → lookG g.1 gs = g.2
  | [], i, g, _, h => by simp at h
  | a :: gs, 0, g, hn, h => by
    cases h
    simp [lookG]
  | a :: gs, i + 1, g, hn, h => by
    rw [List.map_cons, List.nodup_cons] at hn; have h' : gs[i]? = some g := by simpa using h
    have hne : a.1 ≠ g.1 := fun e => hn.1 (by rw [e]; exact List.mem_map_of_mem (List.mem_of_getElem? h'))
    have ih := lookG_mem hn.2 h'; rw [← ih]
    conv => lhs; unfold lookG
    rw [if_neg (fun e => hne (by first | exact e | exact e.symm))]
end
end Go.Proofs.Ax
