import Derived.Test.YtdfgphfijfocoaaGreatDoorAxH
import Derived.Shelf.GgSortFunc.InsertionK
namespace Go.Proofs.Ax
open Go Go.Sort Go.Shelf Go.RowKit Go.Lib Go.Proofs
set_option linter.unusedVariables false
/-! The shelf's sorts among a caller's blocks. -/
theorem HRel.grown {G : Glob} {I : Nat → Prop} {w w' : World} {ρ : Places} {H : AH} (h : HRel G I w ρ H) (hs : w.heap.size ≤ w'.heap.size) (hf : ∀ b, b < w.heap.size → w'.heap[b]? = w.heap[b]?)
    (ho : w'.os = w.os) (ht : w'.tape = w.tape) (hu : w'.output = w.output) : HRel G I w' ρ H ∧ Went I w ρ H I w' ρ H := by
  have hk : Keeps I I w w' := ⟨fun _ h => h, fun b hb => hf b (h.old b hb)⟩
  refine ⟨⟨fun id blk l hi hl h1 => ?_, h.inj, h.dom, fun b hb => Nat.lt_of_lt_of_le (h.old b hb) hs, h.glob' hk⟩,
    ⟨fun _ h => h, fun _ _ h => h, hs, ho, ht, hu, fun b hb _ => hf b hb, fun b hb _ => hb, fun b hb => .inl hb⟩⟩
  obtain ⟨h2, h3, h4⟩ := h.blk id blk l hi hl h1
  exact ⟨Nat.lt_of_lt_of_le h2 hs, h3, h4.mono hk (fun _ _ h => h) (hf _ h2)⟩
section
variable {α : Type} [Inhabited α]
structure EncOk (enc : α → List Value) (k : Nat) : Prop where
  len : ∀ x, (enc x).length = k
  one : ∀ x, ∀ v ∈ enc x, v.oneCell' = true
  pos : 0 < k
abbrev vrow (enc : α → List Value) (x : α) : List AV := (enc x).map .sc
theorem flat_at {enc : α → List Value} {k : Nat} (he : EncOk enc k) (d : List α) {i j : Nat} (hi : i < d.length) (hj : j < k) : (flatK enc k d.toArray)[i * k + j]! = (enc d[i])[j]'(by rw [he.len]; exact hj) := by
  have hlt : i * k + j < d.toArray.size * k := by
    have : (i + 1) * k ≤ d.length * k := Nat.mul_le_mul_right _ hi
    rw [Nat.add_mul, Nat.one_mul] at this
    simp only [List.size_toArray]
    omega
  rw [get_flatK _ _ _ _ hlt]
  have h1 : (i * k + j) / k = i := by rw [Nat.mul_comm, Nat.mul_add_div he.pos, Nat.div_eq_of_lt hj, Nat.add_zero]
  have h2 : (i * k + j) % k = j := by rw [Nat.mul_comm, Nat.mul_add_mod, Nat.mod_eq_of_lt hj]
  rw [h1, h2, getElem!_pos d.toArray i (by simpa using hi), getElem!_pos _ j (by rw [he.len]; exact hj)]
  rfl
theorem holds_of {I : Nat → Prop} {w : World} {ρ : Places} {l : Loc} {te : TypeId} {enc : α → List Value} {k : Nat} (he : EncOk enc k) (d : List α) (hk : l.k = k) (hB : BRel I w ρ l (.rows (d.map (vrow enc)) te)) : HoldsK enc k w l.blk 0 d.toArray := by
  obtain ⟨⟨cells, hg, hsz, hc⟩, hlen, hrow⟩ := hB
  intro t ht
  have ht' : t < d.length * k := by simpa using ht
  have hi : t / k < d.length := Nat.div_lt_of_lt_mul (by rw [Nat.mul_comm]; exact ht')
  have hj : t % k < k := Nat.mod_lt _ he.pos
  have htt : t / k * k + t % k = t := Nat.div_add_mod' t k
  have := hc (t / k) (t % k) (vrow enc d[t / k]) (.sc ((enc d[t / k])[t % k]'(by rw [he.len]; exact hj))) (by rw [List.getElem?_map, List.getElem?_eq_getElem hi]; rfl) (by rw [List.getElem?_map, List.getElem?_eq_getElem (by rw [he.len]; exact hj)]; rfl)
  rw [hk, htt] at this
  have hlt : t < cells.size := by rw [hsz]; rw [List.length_map, hk] at hlen; omega
  have hv := this.2
  have hf := flat_at he d hi hj
  rw [htt] at hf
  rw [hf]
  constructor
  · simp only [World.cell?, hg, Nat.zero_add, id]
    rw [Array.getD_eq_getD_getElem?, Array.getElem?_eq_getElem hlt, Option.getD_some] at hv
    generalize hq : cells[t] = q at hv
    have : cells[t]? = some q := by rw [Array.getElem?_eq_getElem hlt, hq]
    cases hv
    simpa using this
  · simp [World.frozen?, hg]
theorem HRel.sorted {G : Glob} {I : Nat → Prop} {w : World} {ρ : Places} {H : AH} (h : HRel G I w ρ H) {id : Nat} {te : TypeId} {l : Loc} {enc : α → List Value} {k : Nat} (he : EncOk enc k) (d d' : List α) (hid : H[id]? = some (.rows (d.map (vrow enc)) te))
    (hl : ρ id = some l) (hk : l.k = k) (hlen : d'.length = d.length) (n : Nat) (os : Array Obj) :
    HRel G I (sortWorldK enc k w l.blk 0 n d'.toArray os) ρ (H.set id (.rows (d'.map (vrow enc)) te)) ∧ Went I w ρ H I (sortWorldK enc k w l.blk 0 n d'.toArray os) ρ (H.set id (.rows (d'.map (vrow enc)) te)) := by
  obtain ⟨hlt, hnI, hB⟩ := h.blk id _ l hid rfl hl
  obtain ⟨⟨cells, hg, hsz, hc⟩, hlen2, hrow⟩ := hB
  have hw := h.write (w' := putRowK enc k (Sort.ahead w n) l.blk 0 d'.toArray) (blk := .rows (d'.map (vrow enc)) te) hid rfl hl (fun b hb => by
      simp only [putRowK, putRow, mapBlock, heap_ahead]
      rw [Array.getElem?_modify, if_neg (fun e => hb e.symm)]) (by simp [putRowK]) rfl rfl rfl (fun hkp => by
      refine ⟨⟨putCells (fun v : Value => v) 0 (flatK enc k d'.toArray) cells, ?_, ?_, fun i j row x hi hj => ?_⟩, ?_, ?_⟩
      · simp only [putRowK, putRow, mapBlock, heap_ahead]
        rw [Array.getElem?_modify, if_pos rfl, hg]; rfl
      · simpa [putCells] using hsz
      · rw [List.getElem?_map] at hi
        cases hd : d'[i]? with
        | none => rw [hd] at hi; cases hi
        | some a =>
          rw [hd] at hi
          cases hi
          obtain ⟨hil, rfl⟩ := List.getElem?_eq_some_iff.1 hd
          rw [List.getElem?_map] at hj
          cases hv : (enc d'[i])[j]? with
          | none => rw [hv] at hj; cases hj
          | some v =>
            rw [hv] at hj
            cases hj
            obtain ⟨hjl, rfl⟩ := List.getElem?_eq_some_iff.1 hv
            rw [he.len] at hjl
            have hf := flat_at he d' hil hjl
            have hb1 : i * k + j < d'.length * k := by
              have : (i + 1) * k ≤ d'.length * k := Nat.mul_le_mul_right _ hil
              rw [Nat.add_mul, Nat.one_mul] at this
              omega
            have hb2 : i * k + j < cells.size := by
              rw [hsz]; rw [List.length_map, hk] at hlen2; rw [hlen] at hb1; omega
            have hcell : (putCells (fun v : Value => v) 0 (flatK enc k d'.toArray) cells).getD (i * l.k + j) undef = (enc d'[i])[j]'(by rw [he.len]; exact hjl) := by
              rw [hk, Array.getD_eq_getD_getElem?]
              simp only [putCells, Array.getElem?_mapIdx, Array.getElem?_eq_getElem hb2, Option.map_some, Option.getD_some]
              rw [if_pos ⟨Nat.zero_le _, by simpa using hb1⟩, Nat.sub_zero]
              exact hf
            rw [hcell]
            exact ⟨he.one _ _ (List.getElem_mem _), .sc⟩
      · rw [List.length_map] at hlen2 ⊢
        rw [hlen]; exact hlen2
      · intro r hr
        obtain ⟨a, -, rfl⟩ := List.mem_map.1 hr
        rw [List.length_map, he.len, hk])
  have hg2 := hw.1.grown (w' := sortWorldK enc k w l.blk 0 n d'.toArray os) (by simp [sortWorldK, grow]) (fun b hb => by
    simp only [sortWorldK, grow]
    rw [Array.getElem?_append_left hb]) rfl rfl rfl
  exact ⟨hg2.1, hw.2.trans hg2.2⟩
/-- What a sort of the shelf's does. -/
structure SortAt (P : Program) (f : FuncId) (fvs : List Value) (enc : α → List Value) (k : Nat) (S : List α → List α) : Prop where
  body : HasBody P f
  encOk : EncOk enc k
  len : ∀ d, (S d).length = d.length
  nil : S [] = []
  atNone : ∀ p cap w, Calls P f (#[.slice p 0 cap] ++ fvs.toArray) w fun e w' => e = .returned (.tuple #[]) ∧ w' = w
  atSome : ∀ blk cap (d : List α) w, HoldsK enc k w blk 0 d.toArray → blk < w.heap.size → d.length < 4611686018427387904 →
    Calls P f (#[.slice (some ⟨blk, 0, none⟩) d.length cap] ++ fvs.toArray) w fun e w' => e = .returned (.tuple #[]) ∧ ∃ n os, w' = sortWorldK enc k w blk 0 n (S d).toArray os
theorem SortAt.ef {P : Program} {G : Glob} {f : FuncId} {fvs : List Value} {enc : α → List Value} {k : Nat} {S : List α → List α} (h : SortAt P f fvs enc k S) (d : List α) (H : AH) (id : Nat) (te : TypeId) (hid : nthB H id = .some (.rows (d.map (vrow enc)) te)) (hmax : d.length < 4611686018427387904) :
    Ef P G f (.sm id k 0 d.length :: fvs.map .sc) H fun y H' => y = .tuple [] ∧ H' = H.set id (.rows ((S d).map (vrow enc)) te) := by
  rw [nthB_eq] at hid
  refine ⟨h.body, fun I w ρ vs hh hl hv => ?_⟩
  have h0 := hv 0 _ rfl
  have hvs : vs = #[vs.getD 0 undef] ++ fvs.toArray := by
    refine Array.ext (by simp [hl, Nat.add_comm]) fun i h1 h2 => ?_
    cases i with
    | zero => simp [Array.getD, h1]
    | succ i =>
      have hif : i < fvs.length := by simp [hl] at h1; omega
      have := hv (i + 1) (.sc fvs[i]) (by simp [List.getElem?_eq_getElem hif])
      rw [Array.getD_eq_getD_getElem?, Array.getElem?_eq_getElem h1, Option.getD_some] at this
      generalize hq : vs[i + 1] = q at this
      cases this
      rw [Array.getElem_append_right (by simp)]
      simp
  rw [hvs]
  generalize vs.getD 0 undef = u at h0
  have fin : ∀ (w' : World) (d' : List α), HRel G I w' ρ (H.set id (.rows (d'.map (vrow enc)) te)) ∧ Went I w ρ H I w' ρ (H.set id (.rows (d'.map (vrow enc)) te)) → d' = S d →
      ∃ v, Ending.returned (.tuple #[]) = Ending.returned v ∧ ∃ I' ρ' H' y, (y = AV.tuple [] ∧ H' = H.set id (.rows ((S d).map (vrow enc)) te)) ∧ HRel G I' w' ρ' H' ∧ VRel I' w' ρ' v y ∧ Gone H.length I w ρ H I' w' ρ' H' := by
    rintro w' d' ⟨g1, g2⟩ rfl
    exact ⟨_, rfl, I, ρ, _, _, ⟨rfl, rfl⟩, g1, .tuple rfl (fun i x hx => by simp at hx), g2.gone⟩
  have hempty : d = [] → ∀ p cap, Calls P f (#[.slice p 0 cap] ++ fvs.toArray) w fun e w' => ∃ v, e = .returned v ∧ ∃ I' ρ' H' y, (y = AV.tuple [] ∧ H' = H.set id (.rows ((S d).map (vrow enc)) te)) ∧ HRel G I' w' ρ' H' ∧ VRel I' w' ρ' v y ∧ Gone H.length I w ρ H I' w' ρ' H' := by
    intro hd p cap
    subst hd
    refine (h.atNone p cap w).mono ?_
    rintro e w' ⟨rfl, rfl⟩
    refine fin _ [] ?_ h.nil.symm
    have : H.set id (.rows (([] : List α).map (vrow enc)) te) = H := by
      refine List.ext_getElem? fun j => ?_
      rw [List.getElem?_set]
      split
      · rename_i e
        subst e
        rw [if_pos (List.getElem?_eq_some_iff.1 hid).1, hid]
      · rfl
    rw [this]
    exact ⟨hh, Went.refl⟩
  generalize hdl : d.length = dl at h0
  cases h0 with
  | smNil => exact hempty (List.eq_nil_of_length_eq_zero hdl) _ _
  | sm hp hcap hn =>
    rename_i b n cap
    by_cases hd : d = []
    · subst hd
      cases hdl
      exact hempty rfl _ _
    rw [Nat.zero_mul]
    subst hdl
    obtain ⟨hlt, hnI, hB⟩ := hh.blk id _ _ hid rfl hp
    refine (h.atSome b cap d w (holds_of h.encOk d rfl hB) hlt hmax).mono ?_
    rintro e w' ⟨rfl, n', os, rfl⟩
    exact fin _ _ (hh.sorted h.encOk d (S d) hid hp rfl (h.len d) n' os) rfl
end
end Go.Proofs.Ax
namespace Go.Proofs.Ax
open Go Go.Sort Go.Shelf Go.RowKit Go.Lib Go.Proofs
set_option linter.unusedVariables false
/-! Rows of one cell an element. -/
section
variable {α : Type} [Inhabited α]
end
def encI (x : Int) : List Value := [.int .i64 x]
def sortI (d : List Int) : List Int := d.mergeSort fun x y => decide (x ≤ y)
end Go.Proofs.Ax
namespace Go.Proofs.Ax
/-! Numbers in increasing order without repetitions. -/
def putL (n : Int) : List Int → List Int
  | [] => [n]
  | x :: l => if x < n then x :: putL n l else if x = n then x :: l else n :: x :: l
/-- How many are less: where a number goes. -/
def lessK (n : Int) : List Int → Nat
  | [] => 0
  | x :: l => if x < n then lessK n l + 1 else 0
abbrev Inc (l : List Int) : Prop := l.Pairwise (· < ·)
theorem Inc.ext {l m : List Int} (hl : Inc l) (hm : Inc m) (h : ∀ x, x ∈ l ↔ x ∈ m) : l = m := by
  have nd : ∀ {l : List Int}, Inc l → l.Nodup := fun h => h.imp (fun h => by omega)
  exact List.Perm.eq_of_pairwise (le := fun x y => x < y) (fun a b _ _ h1 h2 => by omega) hl hm ((List.perm_ext_iff_of_nodup (nd hl) (nd hm)).2 h)
def putAll (l : List Int) (ns : List Int) : List Int := ns.foldl (fun l n => putL n l) l
end Go.Proofs.Ax
