import Derived.Test.YtedekogkeamacaaGreatDoorAxE
import Derived.Test.YtedekogkeamacaaGreatDoorAxB
namespace Go.Proofs.Ax
open Go
set_option linter.unusedVariables false
def abuildR (P : Program) (t : TypeId) (len : Nat) (parts : List (Nat × AV)) : Option (TypeId × Nat) :=
  match P.underlying t with
  | some (.slice e) =>
    if (P.info? e).isNone || decide (P.cellsOf e = 0) || decide (parts.map (·.1) ≠ List.range len) || decide (len * P.cellsOf e > 2 ^ 24) || parts.any (fun p => !p.2.cellsOk || decide (p.2.cells.length ≠ P.cellsOf e)) then none else
    match azero P e with
    | some z => if z.cellsOk && z.cells.length == P.cellsOf e then some (e, P.cellsOf e) else none
    | none => none
  | _ => none
theorem abuildR_sound {P : Program} {G : Glob} {I : Nat → Prop} {w : World} {ρ : Places} {H : AH} (hh : HRel G I w ρ H) {t : TypeId} {len : Nat} {parts : List (Nat × AV)} {us : Array (Nat × Value)} {e : TypeId} {k : Nat}
    (hy : abuildR P t len parts = some (e, k)) (hl : us.size = parts.length) (hv : ∀ (i : Nat) (p : Nat × AV) (u : Nat × Value), parts[i]? = some p → us.toList[i]? = some u → u.1 = p.1 ∧ VRel I w ρ u.2 p.2):
    ∃ u w' ρ', (Instr.buildSlice t len us).run P w = .ok u w' ∧ HRel G I w' ρ' (H ++ [.rows (parts.map (·.2.cells)) e]) ∧ Went I w ρ H I w' ρ' (H ++ [.rows (parts.map (·.2.cells)) e]) ∧ VRel I w' ρ' u (.sm H.length k 0 len) := by
  unfold abuildR at hy; split at hy
  case h_2 => cases hy
  rename_i e' ht; split at hy
  cases hy
  rename_i hcond; simp only [Bool.or_eq_true, decide_eq_true_eq, not_or, Bool.not_eq_true, List.any_eq_true, not_exists, not_and, Bool.not_eq_true', ne_eq, Decidable.not_not] at hcond; obtain ⟨⟨⟨⟨hin, hk⟩, hseq⟩, hbig⟩, hparts⟩ := hcond; split at hy
  case h_2 => cases hy
  rename_i z hz; split at hy
  case isFalse => cases hy
  rename_i hzc
  cases hy
  simp only [Bool.and_eq_true, beq_iff_eq] at hzc; have hs : (sizeOf e).run P w = .ok (P.cellsOf e) w := run_sizeOf' (fun h => by rw [h] at hin; cases hin); obtain ⟨zv, hz1, hz2⟩ := azero_sound (P := P) (I := I) (w := w) (w' := w) (ρ := ρ) hz; obtain ⟨hzl, hzcells⟩ := hz2.cells hzc.1; have hplen : parts.length = len := by have := congrArg List.length hseq; simpa using this
  have hpk : ∀ p ∈ parts, p.2.cellsOk = true ∧ p.2.cells.length = P.cellsOf e := by
    intro p hp; have := hparts p hp; simp only [Bool.not_eq_false] at this
    cases hok : p.2.cellsOk <;> simp_all
  have hz1len : zv.cells.size = P.cellsOf e := by rw [hzl, hzc.2]
  obtain ⟨ys, hf, hyl, _, hyg⟩ := afill_seq (P.cellsOf e) parts 0 (List.replicate (len * P.cellsOf e) .any) (by rw [hseq, hplen, List.range_eq_range']) hpk (by simp [hplen])
  have hcs0 : CRel I w ρ ((Array.range (len * P.cellsOf e)).map (zv.cells[· % zv.cells.size]!)) (List.replicate (len * P.cellsOf e) .any) := by
    refine ⟨by simp, fun j y hy => ?_⟩; rw [List.getElem?_replicate] at hy; split at hy
    · rename_i hj
      cases hy
      refine ⟨?_, .any⟩; have hm : j % zv.cells.size < zv.cells.size := Nat.mod_lt _ (by omega); have e1 : ((Array.range (len * P.cellsOf e)).map (zv.cells[· % zv.cells.size]!)).getD j undef = zv.cells.getD (j % zv.cells.size) undef := by simp [Array.getD, hj, hm]
      rw [e1]; exact (hzcells _ (z.cells[j % zv.cells.size]'(by omega)) (List.getElem?_eq_getElem (by omega))).1
    cases hy
  obtain ⟨cs', h1, h2⟩ := fill_sound parts us.toList _ _ ys hcs0 hf (by simpa using hl) hv; have hcsz : cs'.size = len * P.cellsOf e := by rw [h2.1, hyl]; simp
  have hrl : ∀ r ∈ parts.map (·.2.cells), r.length = P.cellsOf e := by
    intro r hr; obtain ⟨p, hp, rfl⟩ := List.mem_map.1 hr; exact (hpk p hp).2
  have hrow : ∀ (i j : Nat) (row : List AV) (x : AV), (parts.map (·.2.cells))[i]? = some row → row[j]? = some x → (cs'.getD (i * P.cellsOf e + j) undef).oneCell' = true ∧ VRel I w ρ (cs'.getD (i * P.cellsOf e + j) undef) x := by
    intro i j row x hi hj; rw [List.getElem?_map] at hi
    cases hp : parts[i]? with
    | none => rw [hp] at hi; cases hi
    | some p =>
      rw [hp] at hi
      cases hi
      have := hyg i j p x hp hj; rw [Nat.zero_add] at this; exact h2.2 _ _ this
  have ha := hh.alloc_own (.cells cs' e) (.rows (parts.map (·.2.cells)) e) (len * P.cellsOf e) (P.cellsOf e) (fun ρ' hp hk => BRel.rows_of (w := w) heap_alloc_new hcsz (by simp [hplen]) hrl hrow hk hp); refine ⟨.slice (some ⟨w.heap.size, 0, none⟩) len len, w.alloc (.cells cs' e), _, ?_, ha.1, ha.2, ?_⟩
  · simp only [Instr.buildSlice, Sem.run_bind, run_underlying ht, Result.andThen, hs]; rw [if_neg hbig]; by_cases h0 : len * P.cellsOf e = 0
    · have e1 : ∀ f : Nat → Value, ((Array.range (len * P.cellsOf e)).map f) = ((Array.range (len * P.cellsOf e)).map (zv.cells[· % zv.cells.size]!)) := by
        intro f; rw [h0]; simp
      rw [if_pos h0]; simp only [Sem.run_bind, Sem.run_pure, Result.andThen, e1, h1, newRow, run_newObj]; rfl
    rw [if_neg h0]; simp only [Sem.run_bind, Sem.run_pure, Result.andThen, hz1, h1, newRow, run_newObj]; rfl
  have := VRel.sm (I := I) (w := w.alloc (.cells cs' e)) (ρ := ρ.new H.length ⟨w.heap.size, len * P.cellsOf e, P.cellsOf e⟩) (id := H.length) (b := w.heap.size) (n := len * P.cellsOf e) (k := P.cellsOf e) (off := 0) (len := len) (cap := len) (by simp [Places.new]) (by omega) (by simp); simpa using this
theorem AOp_buildR {C : Ctx} {o : Oper} {N : ASt → Prop} {st : ASt} {t : TypeId} {n : Nat} {parts : Array (Nat × Operand)} {e : TypeId} {k : Nat} (hop : o.op = .buildSlice t n parts) (hy : abuildR C.P t n (parts.toList.map fun p => (p.1, st.ev C.G p.2)) = some (e, k))
    (h : N (st.put o.dst (.sm st.H.length k 0 n) (st.H ++ [.rows ((parts.toList.map fun p => (p.1, st.ev C.G p.2)).map (·.2.cells)) e]))) : AOp C o N st := fun B I w ρ a rr hr hs next R hnx => by
  have hnd : ∀ c, o.op ≠ .defer c := by intro c hc; rw [hc] at hop; cases hop
  obtain ⟨hl, hp⟩ := parts_sound hs parts; obtain ⟨u, w', ρ', h1, h2, h3, h4⟩ := abuildR_sound (P := C.P) hs.heap hy hl hp
  have hrun : (execOp a.eval o).run C.P w = .ok (.value u) w' := by
    unfold execOp; rw [hop]; simp only [Sem.run_bind, h1, Result.andThen_ok, Sem.run_pure]
  refine ⟨fun _ _ => trivial, ?_⟩; rw [Oper.semAt_eq _ _ _ hnd, hrun]
  exact hnx I ρ' _ (a.put o.dst u) w' h (hs.put h3 h2 h4 o.dst) (by
    have : (st.put o.dst (.sm st.H.length k 0 n) (st.H ++ [.rows ((parts.toList.map fun p => (p.1, st.ev C.G p.2)).map (·.2.cells)) e])).H = st.H ++ [.rows ((parts.toList.map fun p => (p.1, st.ev C.G p.2)).map (·.2.cells)) e] := by unfold ASt.put; split <;> rfl
    rw [this]; exact h3.gone)
theorem OpN.build1 {E : EC} {t : TypeId} {x : Operand} {ty : TypeId} {l : Fr} {H : AH} {k : AV → AH → Prop} (y : AV) (e : TypeId) (c : Nat) (hx : evo E l x = y) (hy : abuildR E.C.P t 1 [(0, y)] = some (e, c)) (hk : k (.sm H.length c 0 1) (H ++ [.rows [y.cells] e])) : OpN E (.buildSlice t 1 #[(0, x)]) ty l H k :=
  ⟨fun dst pos af g => AOp_buildR rfl (e := e) (k := c) (by simp only [List.map_cons, List.map_nil, ← evo_eq]; rw [hx]; exact hy) ⟨_, _, rfl, by simp only [List.map_cons, List.map_nil, ← evo_eq]; rw [hx]; exact hk⟩⟩
end Go.Proofs.Ax
