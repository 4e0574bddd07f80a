/- Groups of a list, in the order of their first members; names of groups that differ. -/
import Derived.Test.YtdfgphfijfocoaaGreatDoorAxH
import Derived.Test.YtdfgphfijfocoaaGreatDoorAxD
/- Groups of a list, in the order of their first members; names of groups that differ. -/
namespace Go.Proofs.Ax
variable {κ α : Type} [DecidableEq κ]
def addG (k : κ) (x : α) : List (κ × List α) → List (κ × List α)
  | [] => [(k, [x])]
  | g :: gs => if g.1 = k then (g.1, g.2 ++ [x]) :: gs else g :: addG k x gs
def groupsOf (f : α → κ) (l : List α) : List (κ × List α) := l.foldl (fun gs x => addG (f x) x gs) []
def lookG (k : κ) : List (κ × List α) → List α
  | [] => []
  | g :: gs => if g.1 = k then g.2 else lookG k gs
def idxG (k : κ) : List (κ × List α) → Option Nat
  | [] => none
  | g :: gs => if g.1 = k then some 0 else (idxG k gs).map (· + 1)
theorem lookG_none {k : κ} : ∀ {gs : List (κ × List α)}, idxG k gs = none → lookG k gs = []
  | [], _ => rfl
  | g :: gs, h => by
    unfold idxG at h
    split at h
    · cases h
    · rename_i hk
      have : idxG k gs = none := by cases hq : idxG k gs <;> rw [hq] at h <;> first | rfl | cases h
      rw [lookG, if_neg hk, lookG_none this]
theorem lookG_some {k : κ} : ∀ {gs : List (κ × List α)} {i : Nat}, idxG k gs = some i → ∃ g, gs[i]? = some g ∧ g.1 = k ∧ lookG k gs = g.2
  | [], i, h => by cases h
  | g :: gs, i, h => by
    unfold idxG at h
    split at h
    · rename_i hk
      cases h
      exact ⟨g, rfl, hk, by rw [lookG, if_pos hk]⟩
    · rename_i hk
      cases hq : idxG k gs with
      | none => rw [hq] at h; cases h
      | some j =>
        rw [hq] at h
        cases h
        obtain ⟨g', h1, h2, h3⟩ := lookG_some hq
        exact ⟨g', by simpa using h1, h2, by rw [lookG, if_neg hk, h3]⟩
/-- What is known of groups. -/
structure GOk (f : α → κ) (l : List α) (gs : List (κ × List α)) : Prop where
  nodup : (gs.map (·.1)).Nodup
  look : ∀ q, lookG q gs = l.filter fun x => decide (f x = q)
  mem : ∀ q, q ∈ gs.map (·.1) ↔ ∃ x ∈ l, f x = q
theorem GOk.get {f : α → κ} {l : List α} {gs : List (κ × List α)} (h : GOk f l gs) {g : κ × List α} (hg : g ∈ gs) : g.2 = l.filter (fun x => decide (f x = g.1)) := by
  rw [← h.look g.1]
  have := h.nodup
  clear h
  induction gs with
  | nil => cases hg
  | cons a gs ih =>
    rw [lookG]
    rcases List.mem_cons.1 hg with rfl | hg'
    · rw [if_pos rfl]
    · simp only [List.map_cons, List.nodup_cons] at this
      rw [if_neg (fun e => this.1 (by rw [e]; exact List.mem_map_of_mem hg'))]
      exact ih hg' this.2
end Go.Proofs.Ax
namespace Go.Proofs.Ax
open Go
set_option linter.unusedVariables false
/-! Ranges over maps. -/
theorem OpN.next {E : EC} {x : Operand} {str : Bool} {ty : TypeId} {l : Fr} {H : AH} {k : AV → AH → Prop} {outs : List (AV × AH)} (h : anext E.C.P H (evo E l x) str = some outs) (hk : ∀ y H', (y, H') ∈ outs → k y H') : OpN E (.next x str) ty l H k :=
  ⟨fun dst pos af g => by
    rw [evo_eq E l H] at h
    exact AOp_next rfl h fun y H' hm => ⟨y, H', rfl, hk y H' hm⟩⟩
/-! Heaps of unknown length, with known blocks behind. -/
/-! A map of slices, each in a block of its own. -/
section
variable {κ α : Type} (ke : κ → AV) (ve : α → List AV) (k : Nat) (te : TypeId)
/-- Its entries: the n-th group lies in the block f n. -/
def gEnt (f : Nat → Nat) : Nat → List (κ × List α) → List (AV × AV × Nat)
  | _, [] => []
  | i, g :: gs => (ke g.1, .sm (f i) k 0 g.2.length, i) :: gEnt f (i + 1) gs
/-- Its entries as they stand once nothing is written any more. -/
def fEnt : Nat → List (κ × List α) → List (AV × AV × Nat)
  | _, [] => []
  | i, g :: gs => (ke g.1, .sl k false (g.2.map ve), i) :: fEnt (i + 1) gs
def gBlk (gs : List (κ × List α)) : AH := gs.map fun g => .rows (g.2.map ve) te
theorem gEnt_get (f : Nat → Nat) : ∀ (i : Nat) (gs : List (κ × List α)) (j : Nat), (gEnt ke k f i gs)[j]? = (gs[j]?).map fun g => (ke g.1, .sm (f (i + j)) k 0 g.2.length, i + j)
  | _, [], j => by simp [gEnt]
  | i, g :: gs, 0 => by simp [gEnt]
  | i, g :: gs, j + 1 => by
    rw [gEnt, List.getElem?_cons_succ, gEnt_get f (i + 1) gs j, List.getElem?_cons_succ, show i + 1 + j = i + (j + 1) by omega]
variable {ke}
/-- The search for a key. -/
theorem find_none [DecidableEq κ] {P : Program} {t : TypeId} (hk : ∀ a b, aeq P 12 t (ke a) (ke b) = some (decide (a = b))) {v : Nat → κ × List α → AV} {q : κ} : ∀ {gs : List (κ × List α)} {es : List (AV × AV × Nat)} {i n : Nat},
    (∀ j, es[j]? = (gs[j]?).map fun g => (ke g.1, v (i + j) g, i + j)) → idxG q gs = none → afind P t (ke q) es n = some none
  | [], es, i, n, he, _ => by
    cases es with
    | nil => rfl
    | cons e es => have := he 0; simp at this
  | g :: gs, es, i, n, he, h => by
    cases es with
    | nil => have := he 0; simp at this
    | cons e es =>
      have h0 := he 0
      simp only [List.getElem?_cons_zero, Option.map_some, Option.some.injEq] at h0
      subst h0
      unfold idxG at h
      split at h
      · cases h
      rename_i hne
      have hn : idxG q gs = none := by cases hq : idxG q gs <;> rw [hq] at h <;> first | rfl | cases h
      rw [afind]
      simp only [hk]
      rw [decide_eq_false (fun e => hne e.symm)]
      exact find_none hk (i := i + 1) (fun j => by have := he (j + 1); simpa [Nat.add_assoc, Nat.add_comm 1] using this) hn
theorem find_some [DecidableEq κ] {P : Program} {t : TypeId} (hk : ∀ a b, aeq P 12 t (ke a) (ke b) = some (decide (a = b))) {v : Nat → κ × List α → AV} {q : κ} : ∀ {gs : List (κ × List α)} {es : List (AV × AV × Nat)} {i n m : Nat} {g : κ × List α},
    (∀ j, es[j]? = (gs[j]?).map fun g => (ke g.1, v (i + j) g, i + j)) → idxG q gs = some m → gs[m]? = some g → afind P t (ke q) es n = some (some (n + m, (ke q, v (i + m) g, i + m)))
  | [], es, i, n, m, g, he, h, hg => by cases h
  | g0 :: gs, es, i, n, m, g, he, h, hg => by
    cases es with
    | nil => have := he 0; simp at this
    | cons e es =>
      have h0 := he 0
      simp only [List.getElem?_cons_zero, Option.map_some, Option.some.injEq] at h0
      subst h0
      unfold idxG at h
      rw [afind]
      simp only [hk]
      split at h
      · rename_i he'
        cases h
        simp at hg
        subst hg
        rw [decide_eq_true he'.symm, he']
        rfl
      rename_i hne
      cases hq : idxG q gs with
      | none => rw [hq] at h; cases h
      | some j =>
        rw [hq] at h
        cases h
        rw [decide_eq_false (fun e => hne e.symm)]
        have := find_some hk (v := v) (i := i + 1) (n := n + 1) (es := es) (fun j => by have := he (j + 1); simpa [Nat.add_assoc, Nat.add_comm 1] using this) hq (by simpa using hg)
        simp only [this]
        simp only [Nat.add_assoc, Nat.add_comm 1]
end
/-! Rounds of a range over a map of which no entry goes. -/
/-! Their blocks, read anew. -/
section
variable {κ α : Type} {ke : κ → AV} {ve : α → List AV} {k : Nat} {te : TypeId}
theorem gBlk_get (gs : List (κ × List α)) (j : Nat) : (gBlk ve te gs)[j]? = (gs[j]?).map fun g => .rows (g.2.map ve) te := by simp [gBlk]
abbrev gH (ke : κ → AV) (ve : α → List AV) (k : Nat) (te : TypeId) (gs : List (κ × List α)) : AH := .amap (gEnt ke k (· + 1) 0 gs) gs.length :: gBlk ve te gs
theorem gH_length (gs : List (κ × List α)) : (gH ke ve k te gs).length = gs.length + 1 := by simp [gH, gBlk]
/-- A heap that holds the groups at other places. -/
theorem Reabs.grp {C : Ctx} {l r : Fr} {N : Nat} {H : AH} (hm : C.m = 0) (hd : ∀ a, (ve a).all AV.deep = true) (hke : ∀ q (σ : Nat → Nat) n, (ke q).ren σ = ke q ∧ (ke q).ok n = true) (gs : List (κ × List α)) (f : Nat → Nat) (h0 : H[0]? = some (.amap (gEnt ke k f 0 gs) gs.length))
    (hb : ∀ j g, gs[j]? = some g → H[f j]? = some (.rows (g.2.map ve) te)) (hinj : ∀ i j, i < gs.length → j < gs.length → f i = f j → i = j) (hpos : ∀ i, i < gs.length → f i ≠ 0)
    (hs : AllS (fun i => match i with | 0 => 0 | i + 1 => f i) (gs.length + 1) l r) : Reabs C ⟨frm 0 l N, H⟩ ⟨frm 0 r N, gH ke ve k te gs⟩ := by
  let σ : Nat → Nat := fun i => match i with | 0 => 0 | i + 1 => f i
  refine Reabs.ren σ (by show Slots σ (gH ke ve k te gs).length _ _; rw [gH_length]; exact slots_frm hs N 0) (fun i hi => ?_) (fun i j hi hj he => ?_) (fun i hi => by rw [hm] at hi; omega)
  · have hi : i < gs.length + 1 := by rw [← gH_length (ke := ke) (ve := ve) (k := k) (te := te) gs]; exact hi
    cases i with
    | zero =>
      refine ⟨_, _, h0, rfl, .inr (.inr ⟨fun e he => ?_, ?_⟩), fun _ => rfl⟩
      · obtain ⟨j, hj⟩ := List.getElem?_of_mem he
        rw [gEnt_get] at hj
        cases hg : gs[j]? with
        | none => rw [hg] at hj; cases hj
        | some g =>
          rw [hg] at hj
          cases hj
          refine ⟨(hke g.1 id _).2, ?_⟩
          have : j < gs.length := (List.getElem?_eq_some_iff.1 hg).1
          simp only [AV.ok, AV.ok0, gH_length, decide_eq_true_eq]
          omega
      · have : ∀ (i : Nat) (gs : List (κ × List α)), gEnt ke k f i gs = (gEnt ke k (· + 1) i gs).map fun e => (e.1.ren σ, e.2.1.ren σ, e.2.2) := by
          intro i gs
          induction gs generalizing i with
          | nil => rfl
          | cons g gs ih => rw [gEnt, gEnt, List.map_cons, ih, (hke g.1 σ 0).1]; rfl
        show ABlk.amap _ _ = ABlk.amap _ _
        rw [this]
    | succ i =>
      have hlt : i < gs.length := by omega
      have hg : gs[i]? = some gs[i] := List.getElem?_eq_getElem hlt
      refine ⟨_, _, hb i _ hg, by show (gBlk ve te gs)[i]? = _; rw [gBlk_get, hg]; rfl, .inr (.inl ⟨rfl, ?_⟩), fun _ => rfl⟩
      exact deepR hd
  · have hl : (gH ke ve k te gs).length = gs.length + 1 := gH_length gs
    have hi : i < gs.length + 1 := by rw [← hl]; exact hi
    have hj : j < gs.length + 1 := by rw [← hl]; exact hj
    cases i with
    | zero => cases j with
      | zero => rfl
      | succ j => exact absurd he.symm (hpos j (by omega))
    | succ i => cases j with
      | zero => exact absurd he (hpos i (by omega))
      | succ j => rw [hinj i j (by omega) (by omega) he]
/-- The first t groups frozen. -/
def hEnt (ke : κ → AV) (ve : α → List AV) (k t : Nat) : Nat → List (κ × List α) → List (AV × AV × Nat)
  | _, [] => []
  | i, g :: gs => (ke g.1, if i < t then .sl k false (g.2.map ve) else .sm (i + 1) k 0 g.2.length, i) :: hEnt ke ve k t (i + 1) gs
def hBlk (ve : α → List AV) (te : TypeId) (t : Nat) : Nat → List (κ × List α) → AH
  | _, [] => []
  | i, g :: gs => (if i < t then .dead else .rows (g.2.map ve) te) :: hBlk ve te t (i + 1) gs
abbrev hH (ke : κ → AV) (ve : α → List AV) (k : Nat) (te : TypeId) (t : Nat) (gs : List (κ × List α)) : AH := .amap (hEnt ke ve k t 0 gs) gs.length :: hBlk ve te t 0 gs
end
end Go.Proofs.Ax
namespace Go.Proofs.Ax
open Go
set_option linter.unusedVariables false
/-! Empty slices: nil, or of some address. -/
theorem VRel.sl_nil {I : Nat → Prop} {w : World} {ρ : Places} {v : Value} {k : Nat} {t : Bool} (h : VRel I w ρ v (.sl k t [])) : VRel I w ρ v (.sc (.slice none 0 0)) ∨ VRel I w ρ v (.sz k) := by
  cases h with
  | sl f hl hcap ht hk hI hc h1 hv =>
    simp only [List.length_nil] at hl
    subst hl
    exact .inr .sz
  | slNil => exact .inl .sc
  | slMt ht => exact .inr .sz
theorem set_get {xs : List AV} {i j : Nat} {z x : AV} (h : (xs.set i z)[j]? = some x) : (i = j ∧ x = z) ∨ xs[j]? = some x := by
  rw [List.getElem?_set] at h
  split at h
  · split at h
    · cases h; exact .inl ⟨by assumption, rfl⟩
    · cases h
  · exact .inr h
/-- A function of an empty slice: of nil, and of an empty one that is not nil. -/
theorem Pu.mt {P : Program} {G : Glob} {f : FuncId} {xs : List AV} {y : AV} (i k : Nat) (t : Bool) (hi : xs[i]? = some (.sl k t [])) (h1 : Pu P G f (xs.set i (.sc (.slice none 0 0))) y) (h2 : Pu P G f (xs.set i (.sz k)) y) : Pu P G f xs y := by
  refine ⟨h1.1, fun H I w ρ vs hh hl hv => ?_⟩
  rcases (hv i _ hi).sl_nil with h | h
  · refine h1.2 H I w ρ vs hh (by simpa using hl) fun j x hx => ?_
    rcases set_get hx with ⟨rfl, rfl⟩ | hx
    · exact h
    · exact hv j x hx
  · refine h2.2 H I w ρ vs hh (by simpa using hl) fun j x hx => ?_
    rcases set_get hx with ⟨rfl, rfl⟩ | hx
    · exact h
    · exact hv j x hx
theorem Ef.mt {P : Program} {G : Glob} {f : FuncId} {xs : List AV} {H : AH} {Q : AV → AH → Prop} (i k : Nat) (t : Bool) (hi : xs[i]? = some (.sl k t [])) (h1 : Ef P G f (xs.set i (.sc (.slice none 0 0))) H Q) (h2 : Ef P G f (xs.set i (.sz k)) H Q) : Ef P G f xs H Q := by
  refine ⟨h1.1, fun I w ρ vs hh hl hv => ?_⟩
  rcases (hv i _ hi).sl_nil with h | h
  · refine h1.2 I w ρ vs hh (by simpa using hl) fun j x hx => ?_
    rcases set_get hx with ⟨rfl, rfl⟩ | hx
    · exact h
    · exact hv j x hx
  · refine h2.2 I w ρ vs hh (by simpa using hl) fun j x hx => ?_
    rcases set_get hx with ⟨rfl, rfl⟩ | hx
    · exact h
    · exact hv j x hx
/-- A nil slice as an empty one. -/
theorem Reabs.nilS {C : Ctx} {l : Fr} {N : Nat} {H : AH} (j k : Nat) (t : Bool) (hj : alk j l = .sc (.slice none 0 0)) : Reabs C ⟨frm 0 l N, H⟩ ⟨frm 0 ((j, .sl k t []) :: l) N, H⟩ := by
  intro B I w ρ a hs
  refine ⟨I, ρ, ⟨hs.heap, ?_, fun i x hi => ?_, hs.marks, hs.base⟩, Went.refl.gone⟩
  · rw [hs.size]; simp [frm_length]
  · simp only [frm_get] at hi
    split at hi
    · rename_i hlt
      cases hi
      have h0 := hs.fr i (alk (0 + i) l) (by simp only [frm_get, if_pos hlt])
      by_cases he : 0 + i = j
      · rw [he] at h0 ⊢
        rw [hj] at h0
        have : alk j ((j, AV.sl k t []) :: l) = .sl k t [] := by simp [alk]
        rw [this]
        generalize a.tmps.getD i undef = v at h0
        cases h0
        exact .slNil
      · rw [alk_ne he]
        exact h0
    · cases hi
theorem DrawN.re {E : EC} {id : Nat} {ops : List Oper} {l l' : Fr} {H H' : AH} {k : Fr → AH → Prop} (h : Reabs E.C ⟨frm 0 l E.n, H⟩ ⟨frm 0 l' E.n, H'⟩) (hc : DrawN E id ops l' H' k) : DrawN E id ops l H k := ⟨AWp_reabs h hc.1⟩
theorem LoopN.re {E : EC} {c : Code} {l l' : Fr} {H H' : AH} {k : XK} (h : Reabs E.C ⟨frm 0 l E.n, H⟩ ⟨frm 0 l' E.n, H'⟩) (hc : LoopN E c l' H' k) : LoopN E c l H k := ⟨AWp_reabs h hc.1⟩
theorem AppN.len {olds xs : List (List AV)} {b : Nat} {k : List (List AV) → Nat → Prop} (n : Nat) (hn : olds.length + xs.length = n) (h1 : n * b ≤ 140737488355328) (h2 : n ≤ 9223372036854775807) (hk : k (olds ++ xs) n) : AppN olds xs b k := ⟨_, n, rfl, by rw [List.length_append]; exact hn, h1, h2, hk⟩
end Go.Proofs.Ax
namespace Go.Proofs.Ax
open Go
set_option linter.unusedVariables false
/-! Maps whose values hang on what was put at their keys. -/
section
variable {κ α : Type} (ke : κ → AV) (v : List α → AV)
def vEnt : Nat → List (κ × List α) → List (AV × AV × Nat)
  | _, [] => []
  | i, g :: gs => (ke g.1, v g.2, i) :: vEnt (i + 1) gs
theorem vEnt_get : ∀ (i : Nat) (gs : List (κ × List α)) (j : Nat), (vEnt ke v i gs)[j]? = (gs[j]?).map fun g => (ke g.1, v g.2, i + j)
  | _, [], j => by simp [vEnt]
  | i, g :: gs, 0 => by simp [vEnt]
  | i, g :: gs, j + 1 => by
    rw [vEnt, List.getElem?_cons_succ, vEnt_get (i + 1) gs j, List.getElem?_cons_succ, show i + 1 + j = i + (j + 1) by omega]
abbrev vB (gs : List (κ × List α)) : ABlk := .amap (vEnt ke v 0 gs) gs.length
variable {ke v}
variable [DecidableEq κ]
/-- What is known of a map's type. -/
structure KeyOk (P : Program) (ke : κ → AV) (v : List α → AV) (t kt et : TypeId) : Prop where
  und : P.underlying t = some (.map kt et)
  key : ∀ q, akeyOk P 12 kt (ke q) = true
  eq : ∀ a b, aeq P 12 kt (ke a) (ke b) = some (decide (a = b))
  keep : ∀ q, akeep (ke q) (ke q) = true
  zero : azero P et = some (v [])
theorem KeyOk.find {P : Program} {t kt et : TypeId} (h : KeyOk P ke v t kt et) (gs : List (κ × List α)) (q : κ) : afind P kt (ke q) (vEnt ke v 0 gs) 0 = some ((idxG q gs).map fun i => (i, (ke q, v (lookG q gs), i))) := by
  cases hi : idxG q gs with
  | none => exact find_none (ke := ke) h.eq (v := fun j g => v g.2) (i := 0) (n := 0) (q := q) (gs := gs) (fun j => vEnt_get ke v 0 gs j) hi
  | some i =>
    obtain ⟨g, h1, h2, h3⟩ := lookG_some hi
    have := find_some (ke := ke) h.eq (v := fun j g => v g.2) (i := 0) (n := 0) (q := q) (gs := gs) (fun j => vEnt_get ke v 0 gs j) hi h1
    rw [this, h3, Nat.zero_add]; rfl
theorem KeyOk.look {P : Program} {t kt et : TypeId} (h : KeyOk P ke v t kt et) {H : AH} {m : Nat} (gs : List (κ × List α)) (q : κ) (hm : H[m]? = some (vB ke v gs)) : (alookup P H t (.mp m) (ke q) false).map (fun y => (y, H)) = some (v (lookG q gs), H) := by
  simp only [alookup, h.und, aentries, hm, h.key, if_true, h.find]
  cases hi : idxG q gs with
  | none => simp only [Option.map_none, h.zero, lookG_none hi]; rfl
  | some i => rfl
end
end Go.Proofs.Ax
namespace Go.Proofs.Ax
open Go
set_option linter.unusedVariables false
/-! The built-in clear, at the end of a region. -/
theorem HRel.less {G : Glob} {I : Nat → Prop} {w : World} {ρ : Places} {H : AH} (h : HRel G I w ρ H) {id : Nat} {rs : List (List AV)} {te : TypeId} (hid : H[id]? = some (.rows rs te)) (m : Nat) :
    HRel G I w ρ (H.set id (.rows (rs.take m) te)) ∧ Went I w ρ H I w ρ (H.set id (.rows (rs.take m) te)) := by
  have hget : ∀ (i : Nat) (b : ABlk), (H.set id (.rows (rs.take m) te))[i]? = some b → (i = id ∧ b = .rows (rs.take m) te) ∨ H[i]? = some b := by
    intro i b hi
    rw [List.getElem?_set] at hi
    split at hi
    · rename_i e
      split at hi
      · cases hi; exact .inl ⟨e.symm, rfl⟩
      · cases hi
    · exact .inr hi
  have hlive : ∀ (i : Nat) (b : ABlk), (H.set id (.rows (rs.take m) te))[i]? = some b → b.live = true → ∃ b', H[i]? = some b' ∧ b'.live = true := by
    intro i b hi hb
    rcases hget i b hi with ⟨rfl, rfl⟩ | hi
    · exact ⟨_, hid, rfl⟩
    · exact ⟨b, hi, hb⟩
  refine ⟨⟨fun i b l hi hl hp => ?_, fun i j b b' l l' hi hj hl hl' hp hp' he => ?_, fun i l hp => by simpa using h.dom i l hp, h.old, h.glob⟩,
    ⟨fun _ h => h, fun _ _ h => h, Nat.le_refl _, rfl, rfl, rfl, fun _ _ _ => rfl, fun b ho hb => ?_, fun _ h => .inl h⟩⟩
  · rcases hget i b hi with ⟨rfl, rfl⟩ | hi
    · obtain ⟨e1, e2, ⟨cells, g1, g2, g3⟩, g4, g5⟩ := h.blk _ _ l hid rfl hp
      refine ⟨e1, e2, ⟨cells, g1, g2, fun i j row x hi hj => ?_⟩, ?_, fun r hr => g5 r (List.mem_of_mem_take hr)⟩
      · rw [List.getElem?_take] at hi
        split at hi
        · exact g3 i j row x hi hj
        · cases hi
      · refine Nat.le_trans (Nat.mul_le_mul_right _ ?_) g4
        rw [List.length_take]; omega
    · exact h.blk i b l hi hl hp
  · obtain ⟨c, h1, h2⟩ := hlive i b hi hl
    obtain ⟨c', h3, h4⟩ := hlive j b' hj hl'
    exact h.inj i j c c' l l' h1 h3 h2 h4 hp hp' he
  · obtain ⟨i, b', l, h1, h2, h3, rfl⟩ := ho
    obtain ⟨c, h4, h5⟩ := hlive i b' h1 h2
    exact ⟨i, c, l, h4, h5, h3, rfl⟩
theorem clear_sound {P : Program} {G : Glob} {I : Nat → Prop} {w : World} {ρ : Places} {H : AH} (hh : HRel G I w ρ H) {v : Value} {id k off len : Nat} {rs : List (List AV)} {te t e : TypeId} {z : Value}
    (hv : VRel I w ρ v (.sm id k off len)) (hid : H[id]? = some (.rows rs te)) (hu : P.underlying t = some (.slice e)) (hz : ∀ w, (zeroValue e).run P w = .ok z w) (hzk : z.cells.size = k) (hz1 : ∀ u ∈ z.cells.toList, u.oneCell' = true) (hk : 0 < k) (ty : TypeId) :
    ∃ w', (Builtin.clear_ #[t] ty #[v]).run P w = .ok (.tuple #[]) w' ∧ HRel G I w' ρ (H.set id (.rows (rs.take off) te)) ∧ Went I w ρ H I w' ρ (H.set id (.rows (rs.take off) te)) := by
  cases hv with
  | smNil =>
    refine ⟨w, ?_, hh.less hid _⟩
    rename_i a
    cases a <;> simp [Builtin.clear_, run_underlying hu, Result.andThen]
  | sm hp hcap hn =>
    rename_i b n cap
    cases len with
    | zero => exact ⟨w, by simp [Builtin.clear_, run_underlying hu, Result.andThen], hh.less hid _⟩
    | succ len =>
      have hl0 := hp
      obtain ⟨hlt, hnI, hB⟩ := hh.blk id _ _ hid rfl hp
      obtain ⟨⟨cells, hg, hgs, hcell⟩, hlen, hrow⟩ := hB
      simp only at hlt hnI hg hgs hcell hlen hrow
      have hzl : (Builtin.zeroCells z.cells (len + 1)).toList.length = (len + 1) * k := by simp [Builtin.zeroCells, hzk]
      have hb1 : (off + (len + 1)) * k ≤ (off + cap) * k := Nat.mul_le_mul_right _ (by omega)
      rw [Nat.add_mul] at hb1
      obtain ⟨w', hrun, hs, hsz, ho, ht, hou, cells', hg', hgs', hcc⟩ := put_heap (b := b) (Builtin.zeroCells z.cells (len + 1)).toList (off * k) w cells te hg (by
        intro u hu
        obtain ⟨j, hj, rfl⟩ := List.getElem_of_mem hu
        simp only [Builtin.zeroCells, Array.getElem_toList, Array.getElem_map, Array.getElem_range]
        have hjm : j % z.cells.size < z.cells.size := Nat.mod_lt _ (by omega)
        rw [getElem!_pos z.cells _ hjm]
        exact hz1 _ (by simp)) (by rw [hzl, hgs]; omega)
      refine ⟨w', ?_, ?_⟩
      · have := hrun P 0 (off * k) (by omega)
        simp [Builtin.clear_, run_underlying hu, hz, this, Result.andThen]
      · refine hh.write hid rfl hl0 (fun b' hb' => hs b' hb') hsz ho ht hou (fun hkp => ?_)
        refine ⟨⟨cells', hg', by simp only; omega, fun i j row x hi hj => ?_⟩, ?_, fun r hr => hrow r (List.mem_of_mem_take hr)⟩
        · rw [List.getElem?_take] at hi
          split at hi
          · rename_i hio
            have h0 := hcell i j row x hi hj
            have hjk : j < k := by
              have h1 := (List.getElem?_eq_some_iff.1 hj).1
              have h2 := hrow row (List.mem_of_getElem? hi)
              omega
            have hlt' : i * k + j < off * k := by
              have : (i + 1) * k ≤ off * k := Nat.mul_le_mul_right _ hio
              rw [Nat.add_mul] at this
              omega
            simp only
            rw [hcc, if_neg (by omega)]
            exact ⟨h0.1, h0.2.mono hkp (fun _ _ h => h)⟩
          · cases hi
        · refine Nat.le_trans (Nat.mul_le_mul_right _ ?_) hlen
          rw [List.length_take]; omega
inductive ClearN (E : EC) (t : TypeId) (x : Nat) (l : Fr) (H : AH) (k : AH → Prop) : Prop
  | mk (id kk off len : Nat) (rs : List (List AV)) (te e : TypeId) (z : Value) (hx : evo E l (.tmp x) = .sm id kk off len) (hid : nthB H id = some (.rows rs te)) (hu : E.C.P.underlying t = some (.slice e)) (hz : ∀ w, (zeroValue e).run E.C.P w = .ok z w)
    (hzk : z.cells.size = kk) (hz1 : ∀ u ∈ z.cells.toList, u.oneCell' = true) (hkk : 0 < kk) (hk : k (H.set id (.rows (rs.take off) te)))
theorem ClearN.aop {E : EC} {t : TypeId} {x : Nat} {l : Fr} {H : AH} {k : Fr → AH → Prop} {dst : Option Tmp} {ty : TypeId} {pos : String} {af : Array Edge} (h : ClearN E t x l H fun H' => k (putF l dst (.tuple [])) H') :
    AOp E.C ⟨dst, .call ⟨.builtin .clear, #[.tmp x], #[t]⟩, ty, pos, af, none⟩ (fun st => ∃ l' H', st = ⟨frm 0 l' E.n, H'⟩ ∧ k l' H') ⟨frm 0 l E.n, H⟩ := fun B I w ρ a rr hr hs next Q hn => by
  obtain ⟨id, kk, off, len, rs, te, e, z, hx, hid, hu, hz, hzk, hz1, hkk, hk⟩ := h
  refine ⟨fun _ _ => trivial, ?_⟩
  rw [Oper.semAt_eq _ _ _ (by simp)]
  have hvx := hs.ev (.tmp x)
  rw [← evo_eq E l H, hx] at hvx
  rw [nthB_eq] at hid
  obtain ⟨w', hrun, hh, hw⟩ := clear_sound (P := E.C.P) hs.heap hvx hid hu hz hzk hz1 hkk ty
  have hnx := hn I ρ _ (a.put dst (.tuple #[])) w' ⟨_, _, putF_eq l E.n H (H.set id (.rows (rs.take off) te)) dst (.tuple []), hk⟩ (hs.put hw hh (.tuple rfl (fun i x hx => by simp at hx)) dst) (by
    have : ((⟨frm 0 l E.n, H⟩ : ASt).put dst (.tuple []) (H.set id (.rows (rs.take off) te))).H = H.set id (.rows (rs.take off) te) := by unfold ASt.put; split <;> rfl
    rw [this]; exact hw.gone)
  have : (execOp a.eval ⟨dst, .call ⟨.builtin .clear, #[.tmp x], #[t]⟩, ty, pos, af, none⟩).run E.C.P w = .ok (.value (.tuple #[])) w' := by
    have hb : ∀ cs, (Go.builtin .clear #[t] ty cs (#[Operand.tmp x].map a.eval)).run E.C.P w = .ok (.value (.tuple #[])) w' := fun cs => by simp [Go.builtin, hrun]
    exact hb #[]
  rw [this]
  exact hnx
section
variable {E : EC} (ok : E.Ok)
include ok
theorem evops2_ok {ops : Array Oper} {k : Fr → AH → Prop} {tail : List Oper} {K : Exit → ASt → Prop} (ht : ∀ l' H', k l' H' → AOps E.C ops tail K ⟨frm 0 l' E.n, H'⟩) : ∀ (os : List Oper) (l : Fr) (H : AH), evops E ops.toList os l H k → AOps E.C ops (os ++ tail) K ⟨frm 0 l E.n, H⟩
  | [], l, H, h => ht l H h
  | ⟨dst, op, ty, pos, af, none⟩ :: os, l, H, h => by
    rw [evops_cons] at h
    simp only [evopF] at h
    refine AOps_cons rfl ((evo1_ok ok h).mono ?_)
    rintro st ⟨y, H', rfl, hk⟩
    rw [putFK_eq] at hk
    exact evops2_ok ht os _ _ hk
  | ⟨dst, op, ty, pos, af, some (j, b)⟩ :: os, l, H, h => by
    rw [evops_cons] at h
    simp only [evopF] at h
    split at h
    case h_2 => exact h.elim
    rename_i d hd
    split at h
    case h_2 => exact h.elim
    rename_i hlt
    rw [dstAt_eq, Array.getElem?_toList] at hd
    obtain ⟨t, h1, h2, h3⟩ := guardN_ok h
    refine AOps_guard rfl hd (x := alk d l) (t := t) ?_ h1 (fun ht => ?_) (fun ht => ?_)
    · have hlt' : d < E.n := by simpa [Nat.blt_eq] using hlt
      simp only [frm_get, if_pos hlt', Nat.zero_add]
    · refine (evo1_ok ok (h2 ht)).mono ?_
      rintro st ⟨y, H', rfl, hk⟩
      rw [putFK_eq] at hk
      exact evops2_ok ‹_› os _ _ hk
    · rw [putF_eq]
      have h3' := h3 ht
      rw [putFK_eq] at h3'
      exact evops2_ok ‹_› os _ _ h3'
theorem CodeN.clear {id : Nat} {dst : Option Tmp} {t ty : TypeId} {x : Nat} {pos : String} {af : Array Edge} {ops : Array Oper} {b : Code} {l : Fr} {H : AH} {k : XK} (hops : ops.toList = ops.toList.dropLast ++ [⟨dst, .call ⟨.builtin .clear, #[.tmp x], #[t]⟩, ty, pos, af, none⟩])
    (h : evops E ops.toList ops.toList.dropLast l H fun l1 H1 => ClearN E t x l1 H1 fun H2 => CodeN E b (putF l1 dst (.tuple [])) H2 k) : CodeN E (.seq (.region id ops false) b) l H k := by
  refine ⟨AWp_seq ((AWp_region (K := fun e st => e = .normal ∧ ∃ l' H', st = ⟨frm 0 l' E.n, H'⟩ ∧ CodeN E b l' H' k) ?_).mono ?_)⟩
  · have := evops2_ok ok (ops := ops) (K := fun e st => e = .normal ∧ ∃ l' H', st = ⟨frm 0 l' E.n, H'⟩ ∧ CodeN E b l' H' k) (tail := [⟨dst, .call ⟨.builtin .clear, #[.tmp x], #[t]⟩, ty, pos, af, none⟩]) (fun l' H' hc => AOps_cons rfl ((ClearN.aop (k := fun l'' H'' => CodeN E b l'' H'' k) hc).mono fun st ⟨l'', H'', e, hk⟩ => AOps_nil ⟨rfl, l'', H'', e, hk⟩)) ops.toList.dropLast l H h
    rw [← hops] at this
    exact this
  · rintro e st ⟨rfl, l', H', rfl, hk⟩
    exact hk.1
end
end Go.Proofs.Ax
