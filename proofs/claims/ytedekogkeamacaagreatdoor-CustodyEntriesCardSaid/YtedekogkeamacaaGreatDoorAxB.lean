import Derived.Test.YtedekogkeamacaaGreatDoorAxA
import Derived.Laws.BytesArg
import Derived.Laws.MakeOwn
import Derived.Lib.UnsafeStr
namespace Go.Proofs.Ax
open Go
set_option linter.unusedVariables false
section
def fc (g : Nat → Value) (n : Nat) : Array Value := ((List.range n).map g).toArray
theorem fc_size (g : Nat → Value) (n : Nat) : (fc g n).size = n := by simp [fc]
theorem fc_getD (g : Nat → Value) (n j : Nat) (h : j < n) : (fc g n).getD j undef = g j := by simp [fc, Array.getD, h]
theorem firstCells_run {P : Program} {I : Nat → Prop} {w : World} {ρ : Places} {b o k cap : Nat} {rows : List (List AV)} {g : Nat → Value} (h : RowsAt I w ρ b o k rows g) :
    (Builtin.firstCells k rows.length (.slice (some ⟨b, o, none⟩) rows.length cap)).run P w = .ok (fc g (rows.length * k)) w := by
  simp only [Builtin.firstCells]; exact run_loadCells w ⟨b, o, none⟩ (rows.length * k) g (fun j hj => by rw [add_addr]; exact (h.cell j hj).1)
theorem firstCells_nil {P : Program} {w : World} {k cap : Nat} {a : Option Addr} : (Builtin.firstCells k 0 (.slice a 0 cap)).run P w = .ok #[] w := by
  cases a with
  | none => simp [Builtin.firstCells]
  | some a => simp [Builtin.firstCells, loadCells, loadCellsFrom]
def notInt : Option TypeDesc → Bool
  | some (.int _) | none => false
  | _ => true
set_option maxHeartbeats 4000000 in
theorem append_grow {P : Program} {w : World} {t xt ty e : TypeId} {i : TypeInfo} {z : Value} (ht : P.underlying t = some (.slice e)) (hxt : notInt (P.underlying xt) = true) (hi : P.info? e = some i) (hz : i.zero = some z)
    {a : Option Addr} {sv : Value} {m n cap : Nat} {olds news : Array Value} (hsv : Builtin.lenOf sv = pure n) (ho : (Builtin.firstCells i.size m (.slice a m cap)).run P w.drew = .ok olds w.drew) (hn : (Builtin.firstCells i.size n sv).run P w.drew = .ok news w.drew)
    (hg : cap < m + n) (hb : (m + n) * i.bytes ≤ 140737488355328) (hs : m + n ≤ 9223372036854775807) :
    ∃ nc, (Builtin.append_ #[t, xt] ty #[.slice a m cap, sv]).run P w = .ok (.slice (some ⟨w.heap.size, 0, none⟩) (m + n) nc) (w.drew.alloc (.cells (olds ++ news ++ Builtin.zeroCells z.cells (nc - (m + n))) e)) ∧ m + n ≤ nc := by
  have hxt' : ∃ d, P.underlying xt = some d ∧ (d matches .int _) = false := by
    cases hd : P.underlying xt with
    | none => rw [hd] at hxt; cases hxt
    | some d => exact ⟨d, rfl, by rw [hd] at hxt; cases d <;> first | (cases hxt; done) | rfl⟩
  obtain ⟨d, hd, hdi⟩ := hxt'; have hnle : ¬ (m + n ≤ cap) := by omega
  have h63 : ¬ (9223372036854775807 < ((m : Int) + (n : Int))) := by omega
  have h48 : ¬ (281474976710656 < Builtin.nextslicecap (m + n) cap * i.bytes) := by
    have := growslice_fits (bytes := i.bytes) hg hb; omega
  refine ⟨grownCap w (m + n) cap e, ?_, ?_⟩
  · simp only [Builtin.append_, Sem.run_bind, run_underlying ht, run_underlying hd, Result.andThen, sizeOf, typeInfo, run_program, hi, Sem.run_pure, List.getElem?_toArray, List.getElem?_cons_zero, List.getElem?_cons_succ, hsv]
    cases d <;> first
      | (cases hdi; done)
      | simp [typeInfo, zeroValue, hi, hz, hnle, h63, h48, Question.forced, ho, hn, newRow, grownCap]
  simp only [grownCap, Question.cut]; omega
set_option maxHeartbeats 4000000 in
theorem append_room {P : Program} {w : World} {t xt ty e : TypeId} {i : TypeInfo} (ht : P.underlying t = some (.slice e)) (hxt : notInt (P.underlying xt) = true) (hi : P.info? e = some i)
    {a : Option Addr} {sv : Value} {m n cap : Nat} {news : Array Value} (hsv : Builtin.lenOf sv = pure n) (hn : (Builtin.firstCells i.size n sv).run P w = .ok news w) (hg : m + n ≤ cap) :
    (Builtin.append_ #[t, xt] ty #[.slice a m cap, sv]).run P w = (match a with
      | some a' => (do storeCells (a'.add (m * i.size)) news.toList; pure (.slice a (m + n) cap) : Sem Value).run P w
      | none => .ok (.slice a (m + n) cap) w) := by
  have hxt' : ∃ d, P.underlying xt = some d ∧ (d matches .int _) = false := by
    cases hd : P.underlying xt with
    | none => rw [hd] at hxt; cases hxt
    | some d => exact ⟨d, rfl, by rw [hd] at hxt; cases d <;> first | (cases hxt; done) | rfl⟩
  obtain ⟨d, hd, hdi⟩ := hxt'; simp only [Builtin.append_, Sem.run_bind, run_underlying ht, run_underlying hd, Result.andThen, sizeOf, typeInfo, run_program, hi, Sem.run_pure, List.getElem?_toArray, List.getElem?_cons_zero, List.getElem?_cons_succ, hsv]
  cases d <;> first
    | (cases hdi; done)
    | (cases a with
      | none => simp [hn, hg]
      | some a' => simp [hn, hg]; generalize Sem.run P (storeCells _ _) w = r; cases r <;> rfl)
def abase (te : TypeId) (H : AH) (xs : List (List AV)) : AV → Option (List (List AV) × AH)
  | .sc (.slice none 0 0) => some ([], H)
  | .sl _ true rows => if rows = [] ∨ xs ≠ [] then some (rows, H) else none
  | .sm id _ 0 len => match H[id]? with
    | some (.rows rs te') => if len ≤ rs.length && te' == te then some (rs.take len, H.set id .dead) else none
    | _ => none
  | _ => none
def asrc (H : AH) (k : Nat) : AV → Option (List (List AV))
  | .sc (.string s) => if k = 1 then some (s.data.toList.map fun b => [.sc (.int .u8 b.toNat)]) else none
  | x => arows H x
def aappend (P : Program) (H : AH) (t xt : TypeId) (s x : AV) : Option (AV × AH) :=
  match P.underlying t with
  | some (.slice e) => match P.info? e with
    | some i => match i.zero with
      | some z =>
        if notInt (P.underlying xt) && (z.cells.size == i.size) && decide (0 < i.size) && ((astride s).getD i.size == i.size) && ((astride x).getD i.size == i.size) then
          match asrc H i.size x with
          | some xs => match abase e H xs s with
            | some (olds, H1) => if (olds.length + xs.length) * i.bytes ≤ 140737488355328 ∧ olds.length + xs.length ≤ 9223372036854775807 then
                some (.sm H1.length i.size 0 (olds.length + xs.length), H1 ++ [.rows (olds ++ xs) e]) else none
            | none => none
          | none => none
        else none
      | none => none
    | none => none
  | _ => none
theorem fc_append (f g : Nat → Value) (m n : Nat) (zs : Array Value) (j : Nat) (hj : j < m + n) : (fc f m ++ fc g n ++ zs).getD j undef = if j < m then f j else g (j - m) := by
  simp only [Array.getD_eq_getD_getElem?]; by_cases h : j < m
  rw [if_pos h, Array.getElem?_append_left (by simp [fc_size]; omega), Array.getElem?_append_left (by simp [fc_size]; omega), ← Array.getD_eq_getD_getElem?, fc_getD _ _ _ h]; rw [if_neg h, Array.getElem?_append_left (by simp [fc_size]; omega), Array.getElem?_append_right (by simp [fc_size]; omega), fc_size, ← Array.getD_eq_getD_getElem?, fc_getD _ _ _ (by omega)]
theorem grown_rows {I : Nat → Prop} {w : World} {ρ : Places} {k : Nat} {olds xs : List (List AV)} {f g : Nat → Value} {zs : Array Value}
    (hf : ∀ (i j : Nat) (row : List AV) (x : AV), olds[i]? = some row → row[j]? = some x → (f (i * k + j)).oneCell' = true ∧ VRel I w ρ (f (i * k + j)) x) (hfl : ∀ r ∈ olds, r.length = k)
    (hg : ∀ (i j : Nat) (row : List AV) (x : AV), xs[i]? = some row → row[j]? = some x → (g (i * k + j)).oneCell' = true ∧ VRel I w ρ (g (i * k + j)) x) (hgl : ∀ r ∈ xs, r.length = k) :
    ∀ (i j : Nat) (row : List AV) (x : AV), (olds ++ xs)[i]? = some row → row[j]? = some x →
      ((fc f (olds.length * k) ++ fc g (xs.length * k) ++ zs).getD (i * k + j) undef).oneCell' = true ∧ VRel I w ρ ((fc f (olds.length * k) ++ fc g (xs.length * k) ++ zs).getD (i * k + j) undef) x := by
  intro i j row x hi hj
  have hr : row.length = k := by
    rcases List.mem_append.1 (List.mem_of_getElem? hi) with h | h
    exact hfl _ h; exact hgl _ h
  have hjk : j < k := by have := (List.getElem?_eq_some_iff.1 hj).1; omega
  have hil : i < olds.length + xs.length := by have := (List.getElem?_eq_some_iff.1 hi).1; simpa using this
  have hm : (i + 1) * k ≤ (olds.length + xs.length) * k := Nat.mul_le_mul_right _ hil; rw [Nat.add_mul, Nat.add_mul] at hm; rw [fc_append _ _ _ _ _ _ (by omega)]; rw [List.getElem?_append] at hi; split at hi
  · rename_i hlt; have h1 : (i + 1) * k ≤ olds.length * k := Nat.mul_le_mul_right _ hlt; rw [Nat.add_mul] at h1; rw [if_pos (by omega)]; exact hf i j row x hi hj
  rename_i hge; have h1 : olds.length * k ≤ i * k := Nat.mul_le_mul_right _ (by omega); rw [if_neg (by omega)]; have := hg (i - olds.length) j row x hi hj
  rwa [show (i - olds.length) * k + j = i * k + j - olds.length * k by rw [Nat.sub_mul]; omega] at this
theorem RowsAt.vals {I : Nat → Prop} {w : World} {ρ : Places} {b o k : Nat} {rows : List (List AV)} {g : Nat → Value} (h : RowsAt I w ρ b o k rows g) :
    ∀ (i j : Nat) (row : List AV) (x : AV), rows[i]? = some row → row[j]? = some x → (g (i * k + j)).oneCell' = true ∧ VRel I w ρ (g (i * k + j)) x := by
  intro i j row x hi hj
  have hjk : j < k := by
    have := h.len row (List.mem_of_getElem? hi); have := (List.getElem?_eq_some_iff.1 hj).1; omega
  have hm : (i + 1) * k ≤ rows.length * k := Nat.mul_le_mul_right _ (List.getElem?_eq_some_iff.1 hi).1; rw [Nat.add_mul] at hm; exact ⟨(h.cell _ (by omega)).2, h.rel i j row x hi hj⟩
theorem source {P : Program} {G : Glob} {I : Nat → Prop} {w : World} {ρ : Places} {H : AH} (hh : HRel G I w ρ H) {x : AV} {v : Value} {rows : List (List AV)} (hx : VRel I w ρ v x) (hy : arows H x = some rows) {k : Nat} (hk0 : 0 < k) (hst : ((astride x).getD k == k) = true) :
    ∃ a cap g, v = .slice a rows.length cap ∧ (∀ P : Program, (Builtin.firstCells k rows.length (.slice a rows.length cap)).run P w = .ok (fc g (rows.length * k)) w) ∧
      (∀ P : Program, (Builtin.firstCells k rows.length (.slice a rows.length cap)).run P w.drew = .ok (fc g (rows.length * k)) w.drew) ∧
      (∀ (i j : Nat) (row : List AV) (x : AV), rows[i]? = some row → row[j]? = some x → (g (i * k + j)).oneCell' = true ∧ VRel I w ρ (g (i * k + j)) x) ∧ ∀ r ∈ rows, r.length = k := by
  obtain ⟨a, cap, rfl, hr⟩ := arows_sound hh hx hy k hk0 (fun k' h => by rw [h] at hst; simpa using hst)
  rcases hr with rfl | ⟨b, o, g, rfl, hg⟩
  · refine ⟨a, cap, fun _ => undef, rfl, fun P => ?_, fun P => ?_, fun i j row x hi => by simp at hi, fun r hr => by cases hr⟩; rw [List.length_nil, firstCells_nil]; simp [fc]; rw [List.length_nil, firstCells_nil]; simp [fc]
  have hd : RowsAt I w.drew ρ b o k rows g := ⟨hg.cell, fun i j row x hi hj => (hg.rel i j row x hi hj).mono (Keeps.mk (w' := w.drew) (fun _ h => h) (fun _ _ => rfl)) (fun _ _ h => h), hg.len⟩; exact ⟨_, cap, g, rfl, fun P => firstCells_run hg, fun P => firstCells_run hd, hg.vals, hg.len⟩
theorem source2 {P : Program} {G : Glob} {I : Nat → Prop} {w : World} {ρ : Places} {H : AH} (hh : HRel G I w ρ H) {x : AV} {v : Value} {rows : List (List AV)} (hx : VRel I w ρ v x) {k : Nat} (hy : asrc H k x = some rows) (hk0 : 0 < k) (hst : ((astride x).getD k == k) = true) :
    ∃ g, Builtin.lenOf v = pure rows.length ∧ (∀ P : Program, (Builtin.firstCells k rows.length v).run P w = .ok (fc g (rows.length * k)) w) ∧
      (∀ P : Program, (Builtin.firstCells k rows.length v).run P w.drew = .ok (fc g (rows.length * k)) w.drew) ∧
      (∀ (i j : Nat) (row : List AV) (x : AV), rows[i]? = some row → row[j]? = some x → (g (i * k + j)).oneCell' = true ∧ VRel I w ρ (g (i * k + j)) x) ∧ ∀ r ∈ rows, r.length = k := by
  unfold asrc at hy; split at hy
  · rename_i s; split at hy
    · rename_i hk1; subst hk1
      cases hy
      cases hx
      have e1 : ((s.extract 0 (s.data.toList.map fun b => [AV.sc (.int .u8 b.toNat)]).length).data.map fun b => Value.int .u8 b.toNat) = fc (fun q => ((s.data.toList.map fun b => Value.int .u8 b.toNat).getD q undef)) ((s.data.toList.map fun b => [AV.sc (.int .u8 b.toNat)]).length * 1) := by
        apply Array.ext'; simp only [List.length_map, Array.length_toList, Nat.mul_one, fc]
        have : (s.extract 0 s.data.size).data = s.data := by
          rw [ByteArray.data_extract]; simp
        rw [this]; apply List.ext_getElem?; intro q; by_cases hq : q < s.size
        · have hq' : s.data[q]? = some (s.data[q]'hq) := Array.getElem?_eq_getElem hq; simp [hq]
        have hq' : s.data[q]? = none := Array.getElem?_eq_none (by simp; omega); simp [hq]
      refine ⟨_, by simp [Builtin.lenOf], fun P => by rw [← e1]; rfl, fun P => by rw [← e1]; rfl, fun i j row x hi hj => ?_, fun r hr => ?_⟩
      · rw [List.getElem?_map] at hi
        cases hb : s.data.toList[i]? with
        | none => rw [hb] at hi; cases hi
        | some b =>
          rw [hb] at hi
          cases hi
          match j with
          | 0 =>
            simp at hj; subst hj; have e2 : (s.data.toList.map fun b => Value.int .u8 b.toNat).getD (i * 1 + 0) undef = .int .u8 b.toNat := by rw [List.getD_eq_getElem?_getD, List.getElem?_map, Nat.mul_one, Nat.add_zero, hb]; rfl
            rw [e2]; exact ⟨rfl, .sc⟩
          | j + 1 => simp at hj
      obtain ⟨b, _, rfl⟩ := List.mem_map.1 hr; rfl
    cases hy
  obtain ⟨a, cap, g, rfl, h1, h2, h3, h4⟩ := source (P := P) hh hx hy hk0 hst; exact ⟨g, rfl, h1, h2, h3, h4⟩
end
section
theorem VRel.tight {I : Nat → Prop} {w : World} {ρ : Places} {v : Value} {k : Nat} {rows : List (List AV)} (h : VRel I w ρ v (.sl k true rows)) : ∀ a n c, v = .slice a n c → c = n := by
  cases h with
  | slNil => intro a n c e; cases e; rfl
  | slMt ht => intro a n c e; cases e; exact ht rfl
  | sl f hl hcap ht hk hI hc h1 hv => intro a n c e; cases e; exact ht rfl
theorem aappend_sound {P : Program} {G : Glob} {I : Nat → Prop} {w : World} {ρ : Places} {H H' : AH} (hh : HRel G I w ρ H) {t xt ty : TypeId} {s x y : AV} {vs vx : Value} (hs : VRel I w ρ vs s) (hx : VRel I w ρ vx x)
    (hy : aappend P H t xt s x = some (y, H')) :
    ∃ u w' ρ', (Builtin.append_ #[t, xt] ty #[vs, vx]).run P w = .ok u w' ∧ HRel G I w' ρ' H' ∧ Went I w ρ H I w' ρ' H' ∧ VRel I w' ρ' u y := by
  unfold aappend at hy; split at hy
  case h_2 => cases hy
  rename_i e ht; split at hy
  case h_2 => cases hy
  rename_i i hi; split at hy
  case h_2 => cases hy
  rename_i z hz; split at hy
  case isFalse => cases hy
  rename_i hcond; simp only [Bool.and_eq_true, decide_eq_true_eq] at hcond; obtain ⟨⟨⟨⟨hxt, hzs⟩, hk0⟩, hss⟩, hsx⟩ := hcond; have hzs : z.cells.size = i.size := by simpa using hzs
  split at hy
  case h_2 => cases hy
  rename_i xs hxs; split at hy
  case h_2 => cases hy
  rename_i olds H1 hb; split at hy
  case isFalse => cases hy
  rename_i hbound
  cases hy
  obtain ⟨g, hsv, hn1, hn2, hgv, hgl⟩ := source2 (P := P) hh hx hxs hk0 hsx
  -- the block is made anew
  have grow : ∀ (a : Option Addr) (cap m : Nat) (olds : List (List AV)) (f : Nat → Value), m = olds.length → (Builtin.firstCells i.size m (.slice a m cap)).run P w.drew = .ok (fc f (olds.length * i.size)) w.drew →
      (∀ (i' j : Nat) (row : List AV) (x : AV), olds[i']? = some row → row[j]? = some x → (f (i' * i.size + j)).oneCell' = true ∧ VRel I w ρ (f (i' * i.size + j)) x) → (∀ r ∈ olds, r.length = i.size) →
      cap < m + xs.length → (olds.length + xs.length) * i.bytes ≤ 140737488355328 → olds.length + xs.length ≤ 9223372036854775807 →
      ∃ u w' ρ', (Builtin.append_ #[t, xt] ty #[.slice a m cap, vx]).run P w = .ok u w' ∧ HRel G I w' ρ' (H ++ [.rows (olds ++ xs) e]) ∧ Went I w ρ H I w' ρ' (H ++ [.rows (olds ++ xs) e]) ∧
        VRel I w' ρ' u (.sm H.length i.size 0 (olds.length + xs.length)) := by
    rintro a cap m olds f rfl hf hfv hfl hlt hb1 hb2; obtain ⟨nc, hrun, hnc⟩ := append_grow (ty := ty) ht hxt hi hz hsv hf (hn2 P) hlt hb1 hb2; obtain ⟨hd, hd'⟩ := hh.same (w' := w.drew) rfl rfl rfl rfl
    have hsz : (fc f (olds.length * i.size) ++ fc g (xs.length * i.size) ++ Builtin.zeroCells z.cells (nc - (olds.length + xs.length))).size = nc * i.size := by
      simp only [Array.size_append, fc_size, Builtin.zeroCells, Array.size_map, Array.size_range, hzs]; rw [← Nat.add_mul, ← Nat.add_mul, Nat.add_sub_cancel' hnc]
    have hle : (olds ++ xs).length * i.size ≤ nc * i.size := Nat.mul_le_mul_right _ (by simpa using hnc)
    have ha := hd.alloc_own (.cells (fc f (olds.length * i.size) ++ fc g (xs.length * i.size) ++ Builtin.zeroCells z.cells (nc - (olds.length + xs.length))) e) (.rows (olds ++ xs) e) (nc * i.size) i.size
      (fun ρ' hp hk => BRel.rows_of (w := w) heap_alloc_new hsz hle (fun r hr => by
        rcases List.mem_append.1 hr with h | h
        exact hfl r h
        exact hgl r h) (grown_rows hfv hfl hgv hgl) ⟨hk.sub, hk.same⟩ hp)
    refine ⟨_, _, _, hrun, ha.1, hd'.trans ha.2, ?_⟩
    have := VRel.sm (I := I) (w := w.drew.alloc (.cells (fc f (olds.length * i.size) ++ fc g (xs.length * i.size) ++ Builtin.zeroCells z.cells (nc - (olds.length + xs.length))) e))
      (ρ := ρ.new H.length ⟨w.drew.heap.size, nc * i.size, i.size⟩) (id := H.length) (b := w.drew.heap.size) (n := nc * i.size) (k := i.size) (off := 0) (len := olds.length + xs.length) (cap := nc) (by simp [Places.new]) hnc (by simp)
    simpa using this
  unfold abase at hb; split at hb
  · -- a nil slice
    cases hb
    cases hs
    simp only [List.length_nil, Nat.zero_add, List.nil_append]
    rcases Nat.eq_zero_or_pos xs.length with h0 | h0
    · have hx0 : xs = [] := List.eq_nil_of_length_eq_zero h0; subst hx0; have hr := append_room (P := P) (w := w) (ty := ty) (a := none) (m := 0) (cap := 0) ht hxt hi hsv (hn1 P) (by simp); have hv := hh.virtual (.rows [] e); exact ⟨_, w, ρ, hr, hv.1, hv.2, .smNil⟩
    have := grow none 0 0 [] (fun _ => undef) rfl (by rw [firstCells_nil]; simp [fc]) (fun i j row x hi => by simp at hi) (fun r hr => by cases hr) (by omega) (by simpa using hbound.1) (by simpa using hbound.2); simpa using this
  · -- a tight one
    rename_i k' rows; split at hb
    · rename_i hne
      cases hb
      have hk' : k' = i.size := by simpa [astride] using hss
      subst hk'; by_cases hxs0 : xs = []
      · have hr0 : olds = [] := by
          rcases hne with h | h
          exact h; exact absurd hxs0 h
        subst hr0 hxs0; have hv := hh.virtual (.rows [] e)
        cases hs with
        | slNil =>
          have hr := append_room (P := P) (w := w) (ty := ty) (a := none) (m := 0) (cap := 0) ht hxt hi hsv (hn1 P) (by simp); exact ⟨_, w, ρ, hr, hv.1, hv.2, .smNil⟩
        | slMt htt =>
          rename_i cap a; obtain rfl : cap = 0 := htt rfl; have hr := append_room (P := P) (w := w) (ty := ty) (a := some a) (m := 0) (cap := 0) ht hxt hi hsv (hn1 P) (by simp); refine ⟨_, w, ρ, ?_, hv.1, hv.2, .smNil (a := some a)⟩; rw [hr]; simp [fc, storeCells]
        | sl f hl hcap htt hk hI hc h1 hv' =>
          rename_i b o len cap; have hl0 : len = 0 := by simpa using hl.symm
          subst hl0; have hc0 : cap = 0 := htt rfl; subst hc0; have hr := append_room (P := P) (w := w) (ty := ty) (a := some ⟨b, o, none⟩) (m := 0) (cap := 0) ht hxt hi hsv (hn1 P) (by simp); refine ⟨_, w, ρ, ?_, hv.1, hv.2, .smNil (a := some ⟨b, o, none⟩)⟩; rw [hr]; simp [fc, storeCells]
      have hpos : 0 < xs.length := List.length_pos_iff.2 hxs0; obtain ⟨a, cap, f, rfl, hf1, hf2, hfv, hfl⟩ := source (P := P) hh hs (rows := olds) rfl hk0 hss; have hcap : cap = olds.length := hs.tight _ _ _ rfl; subst hcap; exact grow a _ _ olds f rfl (hf2 P) hfv hfl (by omega) hbound.1 hbound.2
    cases hb
  · -- one's own
    rename_i id k' len; split at hb
    · rename_i rs te hr; split at hb
      · rename_i hle
        cases hb
        simp only [Bool.and_eq_true, decide_eq_true_eq, beq_iff_eq] at hle; obtain ⟨hle, rfl⟩ := hle; have hk' : k' = i.size := by simpa [astride] using hss
        subst hk'; have holen : (rs.take len).length = len := by simp; omega
        rw [holen] at hbound ⊢; obtain ⟨a, cap, f, hveq, hf1, hf2, hfv, hfl⟩ := source (P := P) hh hs (rows := rs.take len) (by simp [arows, hr, hle]) hk0 hss; rw [holen] at hveq hf1 hf2; subst hveq; by_cases hroom : len + xs.length ≤ cap
        · cases hs with
          | smNil =>
            have hx0 : xs = [] := List.eq_nil_of_length_eq_zero (by omega); subst hx0; have hr1 := append_room (P := P) (w := w) (ty := ty) (a := a) (m := 0) (cap := 0) ht hxt hi hsv (hn1 P) (by simp); have hkill := hh.kill id; have hv := hkill.1.virtual (.rows [] te); refine ⟨_, w, ρ, ?_, by simpa using hv.1, by simpa using hkill.2.trans hv.2, by simpa using VRel.smNil (a := a)⟩; rw [hr1]
            cases a <;> simp [fc, storeCells]
          | sm hp hcap hn =>
            rename_i b n; simp only [Nat.zero_add, Nat.zero_mul] at hn ⊢; obtain ⟨hlt, hnI, ⟨cells, hg, hgs, hcell⟩, hlen, hk⟩ := hh.blk id _ _ hr rfl hp; simp only at hg hgs hcell hlen hk hlt; have hmul : (len + xs.length) * i.size ≤ cap * i.size := Nat.mul_le_mul_right _ hroom; rw [Nat.add_mul] at hmul
            have h1c : ∀ u ∈ (fc g (xs.length * i.size)).toList, u.oneCell' = true := by
              intro u hu; simp only [fc, List.mem_map, List.mem_range] at hu; obtain ⟨q, hq, rfl⟩ := hu; have hd : q / i.size < xs.length := Nat.div_lt_of_lt_mul (by rw [Nat.mul_comm]; exact hq); have hm : q % i.size < i.size := Nat.mod_lt _ hk0; have hi' : xs[q / i.size]? = some xs[q / i.size] := List.getElem?_eq_getElem hd; have hrl := hgl _ (List.getElem_mem hd); have hj : xs[q / i.size][q % i.size]? = some (xs[q / i.size][q % i.size]'(by omega)) := List.getElem?_eq_getElem (by omega); have := (hgv _ _ _ _ hi' hj).1
              rwa [show q / i.size * i.size + q % i.size = q by have := Nat.div_add_mod q i.size; rw [Nat.mul_comm] at this; omega] at this
            have hfl' : (fc g (xs.length * i.size)).toList.length = xs.length * i.size := by simp [fc]
            obtain ⟨w', hrun, hs', hz', ho', ht', hu', cells', hg', hgs', hcc⟩ := put_heap (fc g (xs.length * i.size)).toList (len * i.size) w cells te hg h1c (by rw [hfl', hgs]; omega); have hr1 := append_room (P := P) (w := w) (ty := ty) (a := some ⟨b, 0, none⟩) (m := len) (cap := cap) ht hxt hi hsv (hn1 P) hroom
            have hmv := hh.moved (w' := w') (blk := .rows (rs.take len ++ xs) te) hr rfl hp (fun b' hb' => hs' b' hb') hz' ho' ht' hu' (fun hkp ρ' hρ => by
              refine BRel.rows_of (w := w) (k := i.size) hg' (by rw [hgs', hgs]) (by simp only [List.length_append, holen]; rw [Nat.add_mul]; omega) (fun r hr' => ?_) (fun i' j row x hi' hj => ?_) hkp hρ
              · rcases List.mem_append.1 hr' with h | h
                exact hk r (List.mem_of_mem_take h); exact hgl r h
              rw [hcc, hfl']
              have hrl : row.length = i.size := by
                rcases List.mem_append.1 (List.mem_of_getElem? hi') with h | h
                exact hk _ (List.mem_of_mem_take h); exact hgl _ h
              have hjk : j < i.size := by have := (List.getElem?_eq_some_iff.1 hj).1; omega
              have hil : i' < len + xs.length := by have := (List.getElem?_eq_some_iff.1 hi').1; simp only [List.length_append, holen] at this; exact this
              have hm1 : (i' + 1) * i.size ≤ (len + xs.length) * i.size := Nat.mul_le_mul_right _ hil; rw [Nat.add_mul, Nat.add_mul] at hm1; rw [List.getElem?_append, holen] at hi'; split at hi'
              · rename_i hlt'; have hm2 : (i' + 1) * i.size ≤ len * i.size := Nat.mul_le_mul_right _ hlt'; rw [Nat.add_mul] at hm2; rw [if_neg (by omega)]; rw [List.getElem?_take, if_pos hlt'] at hi'; exact hcell i' j row x hi' hj
              rename_i hge; have hm2 : len * i.size ≤ i' * i.size := Nat.mul_le_mul_right _ (by omega); rw [if_pos (by omega)]; have := hgv (i' - len) j row x hi' hj; have e1 : (fc g (xs.length * i.size)).toList.getD (i' * i.size + j - len * i.size) undef = g (i' * i.size + j - len * i.size) := by rw [List.getD_eq_getElem?_getD, Array.getElem?_toList, ← Array.getD_eq_getD_getElem?, fc_getD _ _ _ (by omega)]
              rw [e1]
              rwa [show (i' - len) * i.size + j = i' * i.size + j - len * i.size by rw [Nat.sub_mul]; omega] at this)
            refine ⟨.slice (some ⟨b, 0, none⟩) (len + xs.length) cap, w', _, ?_, by simpa using hmv.1, by simpa using hmv.2, ?_⟩
            · rw [hr1]; have := hrun P (len * i.size) 0 (by omega); have hrun0 := hrun P 0 (len * i.size) (by omega); simp [add_addr, hrun0]
            have := VRel.sm (I := I) (w := w') (ρ := ρ.new H.length ⟨b, n, i.size⟩) (id := H.length) (b := b) (n := n) (k := i.size) (off := 0) (len := len + xs.length) (cap := cap) (by simp [Places.new]) hroom (by simpa using hn); simpa using this
        obtain ⟨u, w', ρ', h1, h2, h3, h4⟩ := grow a cap len (rs.take len) f holen.symm (by rw [holen]; exact hf2 P) hfv hfl (by omega) (by rw [holen]; exact hbound.1) (by rw [holen]; exact hbound.2); have hkill := h2.kill id; have hidlt : id < H.length := (List.getElem?_eq_some_iff.1 hr).1; refine ⟨u, w', ρ', h1, ?_, ?_, ?_⟩
        · rw [← List.set_append_left _ _ hidlt]; exact hkill.1
        · rw [← List.set_append_left _ _ hidlt]; exact h3.trans hkill.2
        simpa [holen] using h4
      cases hb
    cases hb
  cases hb
end
section
theorem afill_seq (k : Nat) : ∀ (parts : List (Nat × AV)) (s : Nat) (cells : List AV), parts.map (·.1) = List.range' s parts.length → (∀ p ∈ parts, p.2.cellsOk = true ∧ p.2.cells.length = k) → (s + parts.length) * k ≤ cells.length →
    ∃ ys, afill (fun i => some (i * k, k)) cells parts = some ys ∧ ys.length = cells.length ∧ (∀ q, q < s * k → ys[q]? = cells[q]?) ∧
      ∀ (i j : Nat) (p : Nat × AV) (x : AV), parts[i]? = some p → p.2.cells[j]? = some x → ys[(s + i) * k + j]? = some x
  | [], s, cells, _, _, _ => ⟨cells, rfl, rfl, fun _ _ => rfl, fun i j p x hi => by simp at hi⟩
  | (n, x) :: parts, s, cells, hm, hp, hl => by
    simp only [List.map_cons, List.length_cons, List.range'_succ, List.cons.injEq] at hm; obtain ⟨rfl, hm⟩ := hm; have h0 := hp _ (List.mem_cons_self ..); simp only at h0; simp only [List.length_cons] at hl; have hl1 : (n + 1) * k ≤ (n + (parts.length + 1)) * k := Nat.mul_le_mul_right _ (by omega); rw [Nat.add_mul] at hl1; have hfit : n * k + x.cells.length ≤ cells.length := by omega
    have hspl := asplice_length hfit; obtain ⟨ys, h1, h2, h3, h4⟩ := afill_seq k parts (n + 1) (asplice cells (n * k) x.cells) hm (fun p hp' => hp p (List.mem_cons_of_mem _ hp')) (by rw [hspl, show n + 1 + parts.length = n + (parts.length + 1) by omega]; exact hl); have hget : ∀ q, q < (n + 1) * k → ys[q]? = (asplice cells (n * k) x.cells)[q]? := h3; refine ⟨ys, ?_, by rw [h2, hspl], fun q hq => ?_, fun i j p y hi hj => ?_⟩
    · simp only [afill, h0.1, h0.2, Bool.true_and, beq_self_eq_true, h1]; rw [if_pos (by simp; omega)]
    · rw [hget q (by rw [Nat.add_mul]; omega)]; unfold asplice; rw [List.append_assoc, List.getElem?_append_left (by simp; omega), List.getElem?_take, if_pos hq]
    cases i with
    | zero =>
      simp at hi; subst hi; simp only at hj; have hjl := (List.getElem?_eq_some_iff.1 hj).1; rw [Nat.add_zero, hget _ (by rw [Nat.add_mul]; omega)]; unfold asplice; rw [List.append_assoc, List.getElem?_append_right (by simp; omega)]; rw [show n * k + j - (cells.take (n * k)).length = j by simp; omega]; rw [List.getElem?_append_left hjl]; exact hj
    | succ i =>
      have := h4 i j p y (by simpa using hi) hj
      rwa [show n + 1 + i = n + (i + 1) by omega] at this
def AV.deep0 : AV → Bool
  | .any | .sc _ | .sl .. | .pi _ | .sz _ => true
  | _ => false
def AV.deepI : AV → Bool
  | .any | .sc _ | .sl .. | .pi _ | .sz _ => true
  | .agg cs => cs.all AV.deep0
  | _ => false
def AV.deep : AV → Bool
  | .any | .sc _ | .sl .. | .pi _ | .sz _ => true
  | .iface _ x => AV.deepI x
  | .fn _ fs cs => fs.all AV.deep0 && cs.all AV.deep0
  | _ => false
theorem VRel.deep0 {I : Nat → Prop} {w : World} {ρ : Places} {v : Value} {x : AV} (h : VRel I w ρ v x) (hd : x.deep0 = true) (ρ' : Places) : VRel I w ρ' v x := by
  cases h with
  | any => exact .any
  | sc => exact .sc
  | sl f hl hcap ht hk hI hc h1 hv => exact .sl f hl hcap ht hk hI hc h1 hv
  | slNil => exact .slNil
  | slMt ht => exact .slMt ht
  | pi f hI hc h1 hv => exact .pi f hI hc h1 hv
  | sz => exact .sz
  | _ => cases hd
theorem VRel.deep {I : Nat → Prop} {w : World} {ρ : Places} {v : Value} {x : AV} (h : VRel I w ρ v x) : x.deep = true → ∀ ρ', VRel I w ρ' v x := by
  induction h with
  | any => exact fun _ _ => .any
  | sc => exact fun _ _ => .sc
  | sl f hl hcap ht hk hI hc h1 hv ih => exact fun _ _ => .sl f hl hcap ht hk hI hc h1 hv
  | slNil => exact fun _ _ => .slNil
  | slMt ht => exact fun _ _ => .slMt ht
  | smNil => intro h; cases h
  | pi f hI hc h1 hv ih => exact fun _ _ => .pi f hI hc h1 hv
  | sm hp hcap hn => intro h; cases h
  | pm hp => intro h; cases h
  | mp hp => intro h; cases h
  | agg hl h1 hv ih => intro h; cases h
  | tuple hl hv ih => intro h; cases h
  | fn hl hl' hv hv' ih ih' =>
    intro h ρ'; simp only [AV.deep, Bool.and_eq_true, List.all_eq_true] at h; exact .fn hl hl' (fun i x hx => (hv i x hx).deep0 (h.1 x (List.mem_of_getElem? hx)) ρ') (fun i x hx => (hv' i x hx).deep0 (h.2 x (List.mem_of_getElem? hx)) ρ')
  | iface hv ih =>
    intro h ρ'; refine .iface ?_; have h : AV.deepI _ = true := h
    cases hv with
    | agg hl h1 hv =>
      simp only [AV.deepI, List.all_eq_true] at h
      exact .agg hl h1 fun i x hx => (hv i x hx).deep0 (h x (List.mem_of_getElem? hx)) ρ'
    | any => exact .any
    | sc => exact .sc
    | sl f hl hcap ht hk hI hc h1 hv => exact .sl f hl hcap ht hk hI hc h1 hv
    | slNil => exact .slNil
    | slMt ht => exact .slMt ht
    | pi f hI hc h1 hv => exact .pi f hI hc h1 hv
    | sz => exact .sz
    | _ => cases h
  | yl hp => intro h; cases h
  | it hp => intro h; cases h
  | sz => exact fun _ _ => .sz
def abuildSlice (P : Program) (t : TypeId) (len : Nat) (parts : List (Nat × AV)) : Option AV :=
  match P.underlying t with
  | some (.slice e) =>
    if (P.info? e).isNone || decide (P.cellsOf e = 0) || decide (parts.map (·.1) ≠ List.range len) || decide (len * P.cellsOf e > 2 ^ 24) || parts.any (fun p => !p.2.cellsOk || decide (p.2.cells.length ≠ P.cellsOf e) || !p.2.cells.all AV.deep) then none else
    match azero P e with
    | some z => if z.cellsOk && z.cells.length == P.cellsOf e then some (.sl (P.cellsOf e) true (parts.map (·.2.cells))) else none
    | none => none
  | _ => none
theorem abuildSlice_sound {P : Program} {G : Glob} {I : Nat → Prop} {w : World} {ρ : Places} {H : AH} (hh : HRel G I w ρ H) {t : TypeId} {len : Nat} {parts : List (Nat × AV)} {us : Array (Nat × Value)} {y : AV}
    (hy : abuildSlice P t len parts = some y) (hl : us.size = parts.length) (hv : ∀ (i : Nat) (p : Nat × AV) (u : Nat × Value), parts[i]? = some p → us.toList[i]? = some u → u.1 = p.1 ∧ VRel I w ρ u.2 p.2):
    ∃ u w' I', (Instr.buildSlice t len us).run P w = .ok u w' ∧ HRel G I' w' ρ H ∧ Went I w ρ H I' w' ρ H ∧ VRel I' w' ρ u y := by
  unfold abuildSlice at hy; split at hy
  case h_2 => cases hy
  rename_i e ht; split at hy
  cases hy
  rename_i hcond; simp only [Bool.or_eq_true, decide_eq_true_eq, not_or, Bool.not_eq_true, List.any_eq_true, not_exists, not_and, Bool.not_eq_true', ne_eq, Decidable.not_not] at hcond; obtain ⟨⟨⟨⟨hin, hk⟩, hseq⟩, hbig⟩, hparts⟩ := hcond; split at hy
  case h_2 => cases hy
  rename_i z hz; split at hy
  case isFalse => cases hy
  rename_i hzc
  cases hy
  simp only [Bool.and_eq_true, beq_iff_eq] at hzc; have hs : (sizeOf e).run P w = .ok (P.cellsOf e) w := run_sizeOf' (fun h => by rw [h] at hin; cases hin); obtain ⟨zv, hz1, hz2⟩ := azero_sound (P := P) (I := I) (w := w) (w' := w) (ρ := ρ) hz; obtain ⟨hzl, hzcells⟩ := hz2.cells hzc.1; have hplen : parts.length = len := by have := congrArg List.length hseq; simpa using this
  have hpk : ∀ p ∈ parts, p.2.cellsOk = true ∧ p.2.cells.length = P.cellsOf e := by
    intro p hp; have := hparts p hp; simp only [Bool.not_eq_false] at this
    cases hok : p.2.cellsOk <;> simp_all
  have hpure : ∀ p ∈ parts, ∀ (j : Nat) (x : AV) (v : Value), p.2.cells[j]? = some x → VRel I w ρ v x → VRel I w (fun _ => none) v x := by
    intro p hp j x v hj hx; refine hx.deep ?_ _; have := hparts p hp; have hall : p.2.cells.all AV.deep = true := by cases hd : p.2.cells.all AV.deep <;> simp_all
    exact List.all_eq_true.1 hall x (List.mem_of_getElem? hj)
  have hz1len : zv.cells.size = P.cellsOf e := by rw [hzl, hzc.2]
  obtain ⟨ys, hf, hyl, _, hyg⟩ := afill_seq (P.cellsOf e) parts 0 (List.replicate (len * P.cellsOf e) .any) (by rw [hseq, hplen, List.range_eq_range']) hpk (by simp [hplen])
  have hcs0 : CRel I w ρ ((Array.range (len * P.cellsOf e)).map (zv.cells[· % zv.cells.size]!)) (List.replicate (len * P.cellsOf e) .any) := by
    refine ⟨by simp, fun j y hy => ?_⟩; rw [List.getElem?_replicate] at hy; split at hy
    · rename_i hj
      cases hy
      refine ⟨?_, .any⟩; have hm : j % zv.cells.size < zv.cells.size := Nat.mod_lt _ (by omega); have e1 : ((Array.range (len * P.cellsOf e)).map (zv.cells[· % zv.cells.size]!)).getD j undef = zv.cells.getD (j % zv.cells.size) undef := by simp [Array.getD, hj, hm]
      rw [e1]; exact (hzcells _ (z.cells[j % zv.cells.size]'(by omega)) (List.getElem?_eq_getElem (by omega))).1
    cases hy
  obtain ⟨cs', h1, h2⟩ := fill_sound parts us.toList _ _ ys hcs0 hf (by simpa using hl) hv; have hai := hh.alloc_imm (.cells cs' e); have hkp := hai.2.keeps hh; refine ⟨.slice (some ⟨w.heap.size, 0, none⟩) len len, w.alloc (.cells cs' e), _, ?_, hai.1, hai.2, ?_⟩
  · simp only [Instr.buildSlice, Sem.run_bind, run_underlying ht, Result.andThen, hs]; rw [if_neg hbig]; by_cases h0 : len * P.cellsOf e = 0
    · have e1 : ∀ f : Nat → Value, ((Array.range (len * P.cellsOf e)).map f) = ((Array.range (len * P.cellsOf e)).map (zv.cells[· % zv.cells.size]!)) := by
        intro f; rw [h0]; simp
      rw [if_pos h0]; simp only [Sem.run_bind, Sem.run_pure, Result.andThen, e1, h1, newRow, run_newObj]; rfl
    rw [if_neg h0]; simp only [Sem.run_bind, Sem.run_pure, Result.andThen, hz1, h1, newRow, run_newObj]; rfl
  have hrow : ∀ (i j : Nat) (row : List AV) (x : AV), (parts.map (·.2.cells))[i]? = some row → row[j]? = some x → (cs'.getD (i * P.cellsOf e + j) undef).oneCell' = true ∧ VRel I w (fun _ => none) (cs'.getD (i * P.cellsOf e + j) undef) x := by
    intro i j row x hi hj; rw [List.getElem?_map] at hi
    cases hp : parts[i]? with
    | none => rw [hp] at hi; cases hi
    | some p =>
      rw [hp] at hi
      cases hi
      have := hyg i j p x hp hj; rw [Nat.zero_add] at this; have := h2.2 _ _ this; exact ⟨this.1, hpure p (List.mem_of_getElem? hp) j x _ hj this.2⟩
  have hcell : ∀ (q : Nat), q < cs'.size → (w.alloc (.cells cs' e)).cell? ⟨w.heap.size, q, none⟩ = some (cs'.getD q undef) := by
    intro q hq; rw [World.cell?_alloc_new]; simp [Array.getD, hq]
  have hcsz : cs'.size = len * P.cellsOf e := by rw [h2.1, hyl]; simp
  have hrl : ∀ r ∈ parts.map (·.2.cells), r.length = P.cellsOf e := by
    intro r hr; obtain ⟨p, hp, rfl⟩ := List.mem_map.1 hr; exact (hpk p hp).2
  refine .sl (fun i j => cs'.getD (i * P.cellsOf e + j) undef) (by simp [hplen]) (Nat.le_refl _) (fun _ => rfl) hrl (fun _ => .inr rfl) (fun i j row x hi hj => ?_) (fun i j row x hi hj => (hrow i j row x hi hj).1)
    (fun i j row x hi hj => (hrow i j row x hi hj).2.mono hkp (fun _ _ h => by cases h))
  have hil : i < len := by have := (List.getElem?_eq_some_iff.1 hi).1; simpa [hplen] using this
  have hjl : j < P.cellsOf e := by have := (List.getElem?_eq_some_iff.1 hj).1; have := hrl _ (List.mem_of_getElem? hi); omega
  have hm : (i + 1) * P.cellsOf e ≤ len * P.cellsOf e := Nat.mul_le_mul_right _ hil; rw [Nat.add_mul] at hm; rw [Nat.zero_add]; exact hcell _ (by omega)
end
section
theorem map_some {α β : Type} {f : α → β} {x : Option α} {y : β} (h : x.map f = some y) : ∃ a, x = some a ∧ f a = y := by
  cases x with
  | none => cases h
  | some a => exact ⟨a, rfl, by simpa using h⟩
theorem getObj_run {P : Program} {w : World} {r : Nat} {o : Obj} (h : w.heap[r]? = some o) (hc : o.isCells = false) : (getObj r).run P w = .ok o w := by cases o <;> first | (simp [Obj.isCells] at hc; done) | simp [getObj, Sem.run, h]
theorem setObj_run {P : Program} {w : World} {r : Nat} {o o' : Obj} (h : w.heap[r]? = some o) (hc : o.isCells = false) : (setObj r o').run P w = .ok () (w.putObj r o') := by cases o <;> first | (simp [Obj.isCells] at hc; done) | simp [setObj, Sem.run, h, World.putObj]
theorem HRel.put {G : Glob} {I : Nat → Prop} {w : World} {ρ : Places} {H : AH} (h : HRel G I w ρ H) {id : Nat} {old blk : ABlk} {l : Loc} (hid : H[id]? = some old) (hlv : old.live = true) (hl : ρ id = some l) (o : Obj)
    (hB : ∀ w', w'.heap[l.blk]? = some o → Keeps I I w w' → BRel I w' ρ l blk) :
    HRel G I (w.putObj l.blk o) ρ (H.set id blk) ∧ Went I w ρ H I (w.putObj l.blk o) ρ (H.set id blk) :=
  h.write hid hlv hl (fun b hb => World.putObj_heap_other hb) (by simp) rfl rfl rfl fun hk => hB _ (World.putObj_heap_same (h.blk id old l hid hlv hl).1) hk
def acon : AV → Option Value
  | .sc v => some v
  | .agg cs => (scs cs).map fun vs => .agg vs.toArray
  | _ => none
theorem scs_eq : ∀ (cs : List AV) (vs : List Value), scs cs = some vs → cs = vs.map .sc
  | [], vs, h => by simp [scs] at h; subst h; rfl
  | c :: cs, vs, h => by
    unfold scs at h; split at h
    cases ‹_ = []›
    · rename_i u xs' he
      cases he
      cases hs : scs cs with
      | none => rw [hs] at h; cases h
      | some us => rw [hs] at h; cases h; rw [scs_eq cs us hs]; rfl
    cases h
theorem acon_sound {I : Nat → Prop} {w : World} {ρ : Places} {v u : Value} {x : AV} (h : VRel I w ρ v x) (hx : acon x = some u) : v = u := by
  unfold acon at hx; split at hx
  cases hx; cases h; rfl
  · rename_i cs
    cases hm : scs cs with
    | none => rw [hm] at hx; cases hx
    | some vs =>
      rw [hm] at hx
      cases hx
      have := scs_eq cs vs hm; subst this
      cases h with
      | agg hl h1 hv =>
        rename_i as; congr 1
        apply Array.ext'; apply List.ext_getElem?; intro i; by_cases hi : i < vs.length
        · have h2 := hv i (.sc vs[i]) (by simp [hi]); have hs : i < as.size := by rw [hl]; simpa using hi
          have e : as.getD i undef = as[i] := by simp [Array.getD, hs]
          rw [e] at h2; generalize hq : as[i] = q at h2; have hq' : as.toList[i]? = some q := by rw [Array.getElem?_toList, Array.getElem?_eq_getElem hs, hq]
          cases h2
          rw [hq']; simp [hi]
        rw [List.getElem?_eq_none (by simp [hl]; omega), List.getElem?_eq_none (by simp; omega)]
  cases hx
def akeyOk (P : Program) : Nat → TypeId → AV → Bool
  | 0, _, _ => false
  | d + 1, t, x =>
    match P.underlying t with
    | none => false
    | some (.interface _) => false
    | some (.struct fields) => match x with
      | .agg xs => fields.toList.all fun f => f.name == "_" || (match apart P f.type xs f.offset with | some y => akeyOk P d f.type y | none => false)
      | _ => false
    | some (.array n e) => match x with
      | .agg xs => (P.info? e).isSome && (List.range n).all fun i => (match apart P e xs (i * P.cellsOf e) with | some y => akeyOk P d e y | none => false)
      | _ => false
    | some _ => true
theorem checkKey_fields {P : Program} {I : Nat → Prop} {w : World} {ρ : Places} {cs : Array Value} {xs : List AV} {D : Nat} {b : Bool} {ok : TypeId → AV → Bool} (hx : VRel I w ρ (.agg cs) (.agg xs))
    (hok : ∀ t y v, ok t y = true → VRel I w ρ v y → (Instr.checkKey b D t v).run P w = .ok () w) : ∀ (fs : List Field), (fs.all fun f => f.name == "_" || (match apart P f.type xs f.offset with | some y => ok f.type y | none => false)) = true →
    ((do
      for f in fs do
        if f.name ≠ "_" then Instr.checkKey b D f.type (← part f.type cs f.offset) : Sem PUnit)).run P w = .ok ⟨⟩ w
  | [], h => rfl
  | f :: fs, h => by
    simp only [List.all_cons, Bool.and_eq_true] at h; have ih := checkKey_fields hx hok fs h.2; simp only [List.forIn_cons] at ih ⊢; by_cases hn : f.name = "_"
    simpa [hn] using ih; have h1 := h.1; simp only [Bool.or_eq_true, beq_iff_eq, hn, false_or] at h1; split at h1
    · rename_i y hy; obtain ⟨v, hv1, hv2⟩ := part_rel (w' := w) hx hy; have := hok _ _ _ h1 hv2; simpa [hn, Sem.run_bind, hv1, this, Result.andThen] using ih
    cases h1
theorem checkKey_elems {P : Program} {I : Nat → Prop} {w : World} {ρ : Places} {cs : Array Value} {xs : List AV} {D : Nat} {b : Bool} {ok : TypeId → AV → Bool} {e : TypeId} (hx : VRel I w ρ (.agg cs) (.agg xs)) (hs : (sizeOf e).run P w = .ok (P.cellsOf e) w)
    (hok : ∀ t y v, ok t y = true → VRel I w ρ v y → (Instr.checkKey b D t v).run P w = .ok () w) : ∀ (l : List Nat), (l.all fun i => (match apart P e xs (i * P.cellsOf e) with | some y => ok e y | none => false)) = true →
    ((do
      for i in l do Instr.checkKey b D e (← part e cs (i * (← sizeOf e))) : Sem PUnit)).run P w = .ok ⟨⟩ w
  | [], h => rfl
  | i :: l, h => by
    simp only [List.all_cons, Bool.and_eq_true] at h; have ih := checkKey_elems hx hs hok l h.2; simp only [List.forIn_cons] at ih ⊢; have h1 := h.1; split at h1
    · rename_i y hy; obtain ⟨v, hv1, hv2⟩ := part_rel (w' := w) hx hy; have := hok _ _ _ h1 hv2; simpa [Sem.run_bind, hs, hv1, this, Result.andThen] using ih
    cases h1
theorem akeyOk_sound {P : Program} {I : Nat → Prop} {w : World} {ρ : Places} {b : Bool} : ∀ (d D : Nat) (t : TypeId) (x : AV) (v : Value), d ≤ D → akeyOk P d t x = true → VRel I w ρ v x → (Instr.checkKey b D t v).run P w = .ok () w
  | 0, D, t, x, v, _, h, _ => by simp [akeyOk] at h
  | d + 1, D, t, x, v, hd, h, hx => by
    obtain ⟨D, rfl⟩ : ∃ D', D = D' + 1 := ⟨D - 1, by omega⟩
    have ih := fun t x v => akeyOk_sound (P := P) (I := I) (w := w) (ρ := ρ) (b := b) d D t x v (by omega)
    unfold akeyOk at h; split at h
    cases h
    cases h
    · rename_i fields hu; split at h
      · obtain ⟨cs, rfl⟩ := hx.agg_inv; have := checkKey_fields (P := P) (D := D) (b := b) hx ih fields.toList h; simp only [Instr.checkKey, Sem.run_bind, run_underlying hu, Result.andThen]; simp at this ⊢; rw [this]
      cases h
    · rename_i n e hu; split at h
      · obtain ⟨cs, rfl⟩ := hx.agg_inv; simp only [Bool.and_eq_true] at h; have hs : (sizeOf e).run P w = .ok (P.cellsOf e) w := run_sizeOf' (by intro h'; rw [h'] at h; cases h.1); have := checkKey_elems (P := P) (D := D) (b := b) (e := e) hx hs ih (List.range n) h.2; simp only [Instr.checkKey, Sem.run_bind, run_underlying hu, Result.andThen]; simp [Std.Legacy.Range.forIn_eq_forIn_range', Std.Legacy.Range.size, List.range_eq_range'] at this ⊢; rw [this]
      cases h
    rename_i d hni hns hna hu; simp only [Instr.checkKey, Sem.run_bind, run_underlying hu, Result.andThen]
    cases d <;> first
      | rfl
      | exact absurd rfl (hni _)
      | exact absurd rfl (hns _)
      | exact absurd rfl (hna _ _)
end
section
def afind (P : Program) (t : TypeId) (k : AV) : List (AV × AV × Nat) → Nat → Option (Option (Nat × AV × AV × Nat))
  | [], _ => some none
  | e :: es, i => match aeq P 12 t k e.1 with
    | some true => some (some (i, e))
    | some false => afind P t k es (i + 1)
    | none => none
def MRel (I : Nat → Prop) (w : World) (ρ : Places) (ms : List MapEntry) (es : List (AV × AV × Nat)) : Prop :=
  ms.length = es.length ∧ ∀ (i : Nat) (m : MapEntry) (e : AV × AV × Nat), ms[i]? = some m → es[i]? = some e → VRel I w ρ m.key e.1 ∧ VRel I w ρ m.val e.2.1 ∧ m.born = e.2.2
theorem MRel.cons {I : Nat → Prop} {w : World} {ρ : Places} {m : MapEntry} {ms : List MapEntry} {e : AV × AV × Nat} {es : List (AV × AV × Nat)} (h : MRel I w ρ (m :: ms) (e :: es)) :
    (VRel I w ρ m.key e.1 ∧ VRel I w ρ m.val e.2.1 ∧ m.born = e.2.2) ∧ MRel I w ρ ms es :=
  ⟨h.2 0 m e rfl rfl, by simpa using h.1, fun i m' e' h1 h2 => h.2 (i + 1) m' e' (by simpa using h1) (by simpa using h2)⟩
theorem sameNow_eq {P : Program} {I : Nat → Prop} {w : World} {ρ : Places} {d : TypeDesc} {t : TypeId} {x y : AV} {v v' : Value} {b r : Bool} (hu : P.underlying t = some d) (hx : VRel I w ρ v x) (hy : VRel I w ρ v' y)
    (hs : Instr.sameNow d v v' = some b) (ha : aeq P 12 t x y = some r) : b = r := by
  unfold Instr.sameNow at hs; unfold aeq at ha; rw [hu] at ha; split at hs
  · cases hx <;> first | (simp at ha; done) | skip
    cases hy <;> first | (simp at ha; done) | skip
    simp only at ha; split at hs
    · rename_i hk; subst hk; simp at ha
      cases hs
      exact ha
    cases hs
  · cases hx <;> first | (simp at ha; done) | skip
    cases hy <;> first | (simp at ha; done) | skip
    simp only at ha
    cases hs; cases ha; rfl
  · cases hx <;> first | (simp at ha; done) | skip
    cases hy <;> first | (simp at ha; done) | skip
    simp only at ha
    cases hs; cases ha; rfl
  cases hs
def FRel (I : Nat → Prop) (w : World) (ρ : Places) (ms : List MapEntry) (n : Nat) (r : Option (Nat × Value)) : Option (Nat × AV × AV × Nat) → Prop
  | none => r = none
  | some (i, e) => ∃ m, r = some (i, m.val) ∧ n ≤ i ∧ ms[i - n]? = some m
theorem findNow_sound {P : Program} {I : Nat → Prop} {w : World} {ρ : Places} {d : TypeDesc} {t : TypeId} {k : AV} {kv : Value} (hu : P.underlying t = some d) (hk : VRel I w ρ kv k) :
    ∀ (ms : List MapEntry) (es : List (AV × AV × Nat)) (n : Nat) (r : Option (Nat × Value)) (y : Option (Nat × AV × AV × Nat)), MRel I w ρ ms es → Instr.findNow d kv ms n = some r → afind P t k es n = some y → FRel I w ρ ms n r y
  | [], [], n, r, y, hm, h1, h2 => by simp [Instr.findNow] at h1; simp [afind] at h2; subst h1; subst h2; rfl
  | [], _ :: _, n, r, y, hm, h1, h2 => by have := hm.1; simp at this
  | _ :: _, [], n, r, y, hm, h1, h2 => by have := hm.1; simp at this
  | m :: ms, e :: es, n, r, y, hm, h1, h2 => by
    obtain ⟨⟨g1, g2, g3⟩, hm'⟩ := hm.cons; unfold Instr.findNow at h1; unfold afind at h2; split at h1
    · rename_i hs
      cases ha : aeq P 12 t k e.1 with
      | none => rw [ha] at h2; cases h2
      | some b =>
        have := sameNow_eq hu hk g1 hs ha; subst this; rw [ha] at h2
        cases h1; cases h2
        exact ⟨m, rfl, Nat.le_refl _, by simp⟩
    · rename_i hs
      cases ha : aeq P 12 t k e.1 with
      | none => rw [ha] at h2; cases h2
      | some b =>
        have := sameNow_eq hu hk g1 hs ha; subst this; rw [ha] at h2; have := findNow_sound hu hk ms es (n + 1) r y hm' h1 h2
        cases y with
        | none => exact this
        | some z =>
          obtain ⟨m', q1, q2, q3⟩ := this; exact ⟨m', q1, by omega, by rw [show z.1 - n = (z.1 - (n + 1)) + 1 by omega]; simpa using q3⟩
    cases h1
theorem findAsking_sound {P : Program} {I : Nat → Prop} {w : World} {ρ : Places} {t : TypeId} {k : AV} {kv : Value} (hk : VRel I w ρ kv k) :
    ∀ (ms : List MapEntry) (es : List (AV × AV × Nat)) (n : Nat) (y : Option (Nat × AV × AV × Nat)), MRel I w ρ ms es → afind P t k es n = some y → ∃ r, (Instr.findAsking t kv ms n).run P w = .ok r w ∧ FRel I w ρ ms n r y
  | [], [], n, y, hm, h2 => by
    simp [afind] at h2; subst h2; exact ⟨none, rfl, rfl⟩
  | [], _ :: _, n, y, hm, h2 => by have := hm.1; simp at this
  | _ :: _, [], n, y, hm, h2 => by have := hm.1; simp at this
  | m :: ms, e :: es, n, y, hm, h2 => by
    obtain ⟨⟨g1, g2, g3⟩, hm'⟩ := hm.cons; unfold afind at h2
    cases ha : aeq P 12 t k e.1 with
    | none => rw [ha] at h2; cases h2
    | some b =>
      rw [ha] at h2; have he := aeq_sound (P := P) 12 Op.maxDepth t k e.1 b kv m.key (by simp [Op.maxDepth]) ha hk g1
      cases b with
      | true =>
        cases h2
        exact ⟨_, by simp only [Instr.findAsking, Op.equal, Sem.run_bind, he, Result.andThen, if_true, Sem.run_pure], m, rfl, Nat.le_refl _, by simp⟩
      | false =>
        obtain ⟨r, q1, q2⟩ := findAsking_sound hk ms es (n + 1) y hm' h2; refine ⟨r, by simp only [Instr.findAsking, Op.equal, Sem.run_bind, he, Result.andThen, Bool.false_eq_true, if_false, q1], ?_⟩
        cases y with
        | none => exact q2
        | some z =>
          obtain ⟨m', q1, q2, q3⟩ := q2; exact ⟨m', q1, by omega, by rw [show z.1 - n = (z.1 - (n + 1)) + 1 by omega]; simpa using q3⟩
theorem findKey_sound {P : Program} {I : Nat → Prop} {w : World} {ρ : Places} {t : TypeId} {k : AV} {kv : Value} (hk : VRel I w ρ kv k) {ms : List MapEntry} {es : List (AV × AV × Nat)} {y : Option (Nat × AV × AV × Nat)}
    (hu : P.underlying t ≠ none) (hm : MRel I w ρ ms es) (h : afind P t k es 0 = some y) : ∃ r, (Instr.findKey t kv ms).run P w = .ok r w ∧ FRel I w ρ ms 0 r y := by
  cases hd : P.underlying t with
  | none => exact absurd hd hu
  | some d =>
    simp only [Instr.findKey, Sem.run_bind, run_underlying hd, Result.andThen]
    cases hf : Instr.findNow d kv ms 0 with
    | some r => exact ⟨r, rfl, findNow_sound hd hk ms es 0 r y hm hf h⟩
    | none => exact findAsking_sound hk ms es 0 y hm h
theorem afind_get {P : Program} {t : TypeId} {k : AV} : ∀ (es : List (AV × AV × Nat)) (n : Nat) (i : Nat) (e : AV × AV × Nat), afind P t k es n = some (some (i, e)) → n ≤ i ∧ es[i - n]? = some e
  | [], n, i, e, h => by simp [afind] at h
  | e' :: es, n, i, e, h => by
    unfold afind at h; split at h
    cases h; exact ⟨Nat.le_refl _, by simp⟩
    · have := afind_get es (n + 1) i e h; exact ⟨by omega, by rw [show i - n = (i - (n + 1)) + 1 by omega]; simpa using this.2⟩
    cases h
def aentries (H : AH) : AV → Option (List (AV × AV × Nat))
  | .sc (.map none) => some []
  | .mp id => match H[id]? with
    | some (.amap es _) => some es
    | _ => none
  | _ => none
def alookup (P : Program) (H : AH) (t : TypeId) (x k : AV) (ok : Bool) : Option AV :=
  match P.underlying t with
  | some (.map kt et) =>
    if akeyOk P 12 kt k then
      match aentries H x with
      | some es => match afind P kt k es 0 with
        | some (some (_, e)) => some (if ok then .tuple [e.2.1, .sc (.bool true)] else e.2.1)
        | some none => match azero P et with
          | some z => some (if ok then .tuple [z, .sc (.bool false)] else z)
          | none => none
        | none => none
      | none => none
    else none
  | _ => none
theorem akeyOk_und {P : Program} {d : Nat} {t : TypeId} {x : AV} (h : akeyOk P d t x = true) : P.underlying t ≠ none := by
  intro hu
  cases d with
  | zero => simp [akeyOk] at h
  | succ d => simp [akeyOk, hu] at h
theorem pair_rel {I : Nat → Prop} {w : World} {ρ : Places} {v u : Value} {x y : AV} (h : VRel I w ρ v x) (k : VRel I w ρ u y) : VRel I w ρ (.tuple #[v, u]) (.tuple [x, y]) :=
  .tuple rfl fun i z hz => by
    match i with
    | 0 => simp at hz; subst hz; exact h
    | 1 => simp at hz; subst hz; exact k
    | i + 2 => simp at hz
theorem alookup_sound {P : Program} {G : Glob} {I : Nat → Prop} {w : World} {ρ : Places} {H : AH} (hh : HRel G I w ρ H) {t : TypeId} {x k y : AV} {v kv : Value} {ok : Bool} (hx : VRel I w ρ v x) (hk : VRel I w ρ kv k)
    (hy : alookup P H t x k ok = some y) : ∃ u, (Instr.lookup t v kv ok).run P w = .ok u w ∧ VRel I w ρ u y := by
  unfold alookup at hy; split at hy
  · rename_i kt et hu; split at hy
    · rename_i hok; split at hy
      · rename_i es hes
        have hms : ∃ ms : Array MapEntry, MRel I w ρ ms.toList es ∧ (v = .map none ∧ ms = #[] ∨ ∃ b c, v = .map (some b) ∧ (getObj b).run P w = .ok (.map ms c) w) := by
          unfold aentries at hes; split at hes
          · cases hes; cases hx
            exact ⟨#[], ⟨rfl, fun i m e h => by simp at h⟩, .inl ⟨rfl, rfl⟩⟩
          · rename_i id; split at hes
            · rename_i es' c hid
              cases hes
              cases hx with
              | mp hp =>
              obtain ⟨hlt, hnI, ms, hg, hsz, hB⟩ := hh.blk id _ _ hid rfl hp; exact ⟨ms, ⟨by simpa using hsz, fun i m e h1 h2 => hB i m e (by simpa using h1) h2⟩, .inr ⟨_, c, rfl, getObj_run hg rfl⟩⟩
            cases hes
          cases hes
        obtain ⟨ms, hm, hv⟩ := hms
        have hck : ∀ b, (Instr.checkKey b 10000 kt kv).run P w = .ok () w := fun b => akeyOk_sound 12 10000 kt k kv (by omega) hok hk
        have core : ∃ u, (do
            Instr.checkKey ms.isEmpty 10000 kt kv
            match ← Instr.findKey kt kv ms.toList with
              | some (_, v) => pure (if ok then .tuple #[v, .bool true] else v)
              | none => do
                let z ← zeroValue et
                pure (if ok then .tuple #[z, .bool false] else z) : Sem Value).run P w = .ok u w ∧ VRel I w ρ u y := by
          split at hy
          · rename_i i e hf
            cases hy
            obtain ⟨r, hr, m, rfl, _, hm1⟩ := findKey_sound (P := P) hk (akeyOk_und hok) hm hf; have he := (afind_get es 0 i e hf).2; obtain ⟨q1, q2, q3⟩ := hm.2 _ m e hm1 he
            cases ok with
            | true => exact ⟨.tuple #[m.val, .bool true], by simp [Sem.run_bind, hck, hr, Result.andThen], pair_rel q2 .sc⟩
            | false => exact ⟨m.val, by simp [Sem.run_bind, hck, hr, Result.andThen], q2⟩
          · rename_i hf; split at hy
            · rename_i z hz
              cases hy
              obtain ⟨r, hr, hr2⟩ := findKey_sound (P := P) hk (akeyOk_und hok) hm hf; have hr2 : r = none := hr2; subst hr2; obtain ⟨zv, hz1, hz2⟩ := azero_sound (P := P) (I := I) (w := w) (w' := w) (ρ := ρ) hz
              cases ok with
              | true => exact ⟨.tuple #[zv, .bool false], by simp [Sem.run_bind, hck, hr, hz1, Result.andThen], pair_rel hz2 .sc⟩
              | false => exact ⟨zv, by simp [Sem.run_bind, hck, hr, hz1, Result.andThen], hz2⟩
            cases hy
          cases hy
        obtain ⟨u, h1, h2⟩ := core; refine ⟨u, ?_, h2⟩
        rcases hv with ⟨rfl, rfl⟩ | ⟨b, c, rfl, hg⟩
        · simp only [Instr.lookup, Sem.run_bind, run_underlying hu, Result.andThen, Sem.run_pure] at h1 ⊢; exact h1
        simp only [Instr.lookup, Sem.run_bind, run_underlying hu, Result.andThen, hg, Sem.run_pure] at h1 ⊢; exact h1
      cases hy
    cases hy
  cases hy
end
section
def akeep (old new : AV) : Bool :=
  match acon old, acon new with
  | some a, some b => Instr.sameBits 10000 a b
  | _, _ => false
theorem akeep_sound {P : Program} {I : Nat → Prop} {w : World} {ρ : Places} {x y : AV} {v u : Value} (hx : VRel I w ρ v x) (hy : VRel I w ρ u y) (h : akeep x y = true) : (Instr.keyThatStays v u).run P w = .ok u w := by
  unfold akeep at h; split at h
  · rename_i a b ha hb; rw [acon_sound hx ha, acon_sound hy hb]; simp [Instr.keyThatStays, h]
  cases h
def amapUpdate (P : Program) (H : AH) (t : TypeId) (m k x : AV) : Option AH :=
  match P.underlying t, m with
  | some (.map kt _), .mp id => match H[id]? with
    | some (.amap es c) =>
      if akeyOk P 12 kt k then
        match afind P kt k es 0 with
        | some (some (i, e)) => if akeep e.1 k then some (H.set id (.amap (es.set i (k, x, e.2.2)) c)) else none
        | some none => some (H.set id (.amap (es ++ [(k, x, c)]) (c + 1)))
        | none => none
      else none
    | _ => none
  | _, _ => none
theorem MRel.of {I : Nat → Prop} {w : World} {ρ : Places} {ms : Array MapEntry} {es : List (AV × AV × Nat)} (hsz : ms.size = es.length)
    (hB : ∀ (i : Nat) (m : MapEntry) (e : AV × AV × Nat), ms[i]? = some m → es[i]? = some e → VRel I w ρ m.key e.1 ∧ VRel I w ρ m.val e.2.1 ∧ m.born = e.2.2) : MRel I w ρ ms.toList es :=
  ⟨by simpa using hsz, fun i m e h1 h2 => hB i m e (by simpa using h1) h2⟩
theorem entries_set {I : Nat → Prop} {w w' : World} {ρ : Places} {ms : Array MapEntry} {es : List (AV × AV × Nat)} (hsz : ms.size = es.length)
    (hB : ∀ (i : Nat) (m : MapEntry) (e : AV × AV × Nat), ms[i]? = some m → es[i]? = some e → VRel I w ρ m.key e.1 ∧ VRel I w ρ m.val e.2.1 ∧ m.born = e.2.2) {i : Nat} {f : MapEntry → MapEntry} {e' : AV × AV × Nat}
    (hf : ∀ m, ms[i]? = some m → VRel I w' ρ (f m).key e'.1 ∧ VRel I w' ρ (f m).val e'.2.1 ∧ (f m).born = e'.2.2) (hk : Keeps I I w w') :
    (ms.modify i f).size = (es.set i e').length ∧ ∀ (j : Nat) (m : MapEntry) (e : AV × AV × Nat), (ms.modify i f)[j]? = some m → (es.set i e')[j]? = some e → VRel I w' ρ m.key e.1 ∧ VRel I w' ρ m.val e.2.1 ∧ m.born = e.2.2 := by
  refine ⟨by simpa using hsz, fun j m e hm he => ?_⟩; rw [Array.getElem?_modify] at hm; rw [List.getElem?_set] at he; by_cases hij : i = j
  · subst hij; simp only [if_true] at hm he
    cases hq : ms[i]? with
    | none => rw [hq] at hm; cases hm
    | some m0 =>
      rw [hq] at hm
      cases hm
      split at he
      cases he; exact hf m0 hq
      cases he
  rw [if_neg hij] at hm he; obtain ⟨h1, h2, h3⟩ := hB j m e hm he; exact ⟨h1.mono hk (fun _ _ h => h), h2.mono hk (fun _ _ h => h), h3⟩
theorem entries_push {I : Nat → Prop} {w w' : World} {ρ : Places} {ms : Array MapEntry} {es : List (AV × AV × Nat)} (hsz : ms.size = es.length)
    (hB : ∀ (i : Nat) (m : MapEntry) (e : AV × AV × Nat), ms[i]? = some m → es[i]? = some e → VRel I w ρ m.key e.1 ∧ VRel I w ρ m.val e.2.1 ∧ m.born = e.2.2) {m' : MapEntry} {e' : AV × AV × Nat}
    (hf : VRel I w' ρ m'.key e'.1 ∧ VRel I w' ρ m'.val e'.2.1 ∧ m'.born = e'.2.2) (hk : Keeps I I w w') :
    (ms.push m').size = (es ++ [e']).length ∧ ∀ (j : Nat) (m : MapEntry) (e : AV × AV × Nat), (ms.push m')[j]? = some m → (es ++ [e'])[j]? = some e → VRel I w' ρ m.key e.1 ∧ VRel I w' ρ m.val e.2.1 ∧ m.born = e.2.2 := by
  refine ⟨by simp [hsz], fun j m e hm he => ?_⟩; rw [Array.getElem?_push] at hm
  rcases getElem?_snoc he with ⟨hlt, he⟩ | ⟨rfl, rfl⟩
  · rw [if_neg (by omega)] at hm; obtain ⟨h1, h2, h3⟩ := hB j m e hm he; exact ⟨h1.mono hk (fun _ _ h => h), h2.mono hk (fun _ _ h => h), h3⟩
  rw [if_pos hsz.symm] at hm
  cases hm
  exact hf
theorem amapUpdate_sound {P : Program} {G : Glob} {I : Nat → Prop} {w : World} {ρ : Places} {H H' : AH} (hh : HRel G I w ρ H) {t : TypeId} {m k x : AV} {mv kv xv : Value} (hm : VRel I w ρ mv m) (hk : VRel I w ρ kv k) (hx : VRel I w ρ xv x)
    (hy : amapUpdate P H t m k x = some H') : ∃ w', (Instr.mapUpdate t mv kv xv).run P w = .ok () w' ∧ HRel G I w' ρ H' ∧ Went I w ρ H I w' ρ H' := by
  unfold amapUpdate at hy; split at hy
  · rename_i kt et id hu; split at hy
    · rename_i es c hid; split at hy
      · rename_i hok
        cases hm with
        | mp hp =>
        rename_i b n k'; obtain ⟨hlt, hnI, ms, hg, hsz, hB⟩ := hh.blk id _ _ hid rfl hp
        have hck : ∀ b, (Instr.checkKey b 10000 kt kv).run P w = .ok () w := fun b => akeyOk_sound 12 10000 kt k kv (by omega) hok hk
        split at hy
        · rename_i i e hf; split at hy
          · rename_i hkp
            cases hy
            obtain ⟨r, hr, m, rfl, _, hm1⟩ := findKey_sound (P := P) hk (akeyOk_und hok) (MRel.of hsz hB) hf; have he := (afind_get es 0 i e hf).2; simp only [Nat.sub_zero] at hm1 he; have hm1' : ms[i]? = some m := by simpa using hm1
            obtain ⟨q1, q2, q3⟩ := hB i m e hm1' he; have hst := akeep_sound (P := P) q1 hk hkp; have := hh.put hid rfl hp (.map (ms.modify i fun e => { e with key := kv, val := xv }) c) (blk := .amap (es.set i (k, x, e.2.2)) c) (fun w' hw' hkk => ⟨_, hw', entries_set hsz hB (fun m' hm' => ⟨hk.mono hkk (fun _ _ h => h), hx.mono hkk (fun _ _ h => h), by rw [hm1'] at hm'; cases hm'; exact q3⟩) hkk⟩); exact ⟨_, by simp [Instr.mapUpdate, Sem.run_bind, run_underlying hu, Result.andThen, getObj_run hg rfl, hck, hr, hm1', hst, setObj_run hg rfl], this.1, this.2⟩
          cases hy
        · rename_i hf
          cases hy
          obtain ⟨r, hr, hr2⟩ := findKey_sound (P := P) hk (akeyOk_und hok) (MRel.of hsz hB) hf; have hr2 : r = none := hr2; subst hr2; have := hh.put hid rfl hp (.map (ms.push { key := kv, val := xv, born := c }) (c + 1)) (blk := .amap (es ++ [(k, x, c)]) (c + 1)) (fun w' hw' hkk => ⟨_, hw', entries_push hsz hB ⟨hk.mono hkk (fun _ _ h => h), hx.mono hkk (fun _ _ h => h), rfl⟩ hkk⟩); exact ⟨_, by simp [Instr.mapUpdate, Sem.run_bind, run_underlying hu, Result.andThen, getObj_run hg rfl, hck, hr, setObj_run hg rfl], this.1, this.2⟩
        cases hy
      cases hy
    cases hy
  cases hy
def amapEntry (P : Program) (H : AH) (t : TypeId) (m k : AV) : Option (AV × AH) :=
  match P.underlying t, m with
  | some (.map kt et), .mp id => match H[id]? with
    | some (.amap es c) =>
      if akeyOk P 12 kt k then
        match afind P kt k es 0 with
        | some (some (i, e)) => if akeep e.1 k then some (.tuple [e.2.1, .sc (goInt (e.2.2 : Int))], H.set id (.amap (es.set i (k, e.2.1, e.2.2)) c)) else none
        | some none => match azero P et with
          | some z => some (.tuple [z, .sc (goInt (c : Int))], H.set id (.amap (es ++ [(k, z, c)]) (c + 1)))
          | none => none
        | none => none
      else none
    | _ => none
  | _, _ => none
theorem amapEntry_sound {P : Program} {G : Glob} {I : Nat → Prop} {w : World} {ρ : Places} {H H' : AH} (hh : HRel G I w ρ H) {t : TypeId} {m k y : AV} {mv kv : Value} (hm : VRel I w ρ mv m) (hk : VRel I w ρ kv k)
    (hy : amapEntry P H t m k = some (y, H')) : ∃ u w', (Instr.mapEntry t mv kv).run P w = .ok u w' ∧ HRel G I w' ρ H' ∧ Went I w ρ H I w' ρ H' ∧ VRel I w' ρ u y := by
  unfold amapEntry at hy; split at hy
  · rename_i kt et id hu; split at hy
    · rename_i es c hid; split at hy
      · rename_i hok
        cases hm with
        | mp hp =>
        rename_i b n k'; obtain ⟨hlt, hnI, ms, hg, hsz, hB⟩ := hh.blk id _ _ hid rfl hp
        have hck : ∀ b, (Instr.checkKey b 10000 kt kv).run P w = .ok () w := fun b => akeyOk_sound 12 10000 kt k kv (by omega) hok hk
        split at hy
        · rename_i i e hf; split at hy
          · rename_i hkp
            cases hy
            obtain ⟨r, hr, m, rfl, _, hm1⟩ := findKey_sound (P := P) hk (akeyOk_und hok) (MRel.of hsz hB) hf; have he := (afind_get es 0 i e hf).2; simp only [Nat.sub_zero] at hm1 he; have hm1' : ms[i]? = some m := by simpa using hm1
            obtain ⟨q1, q2, q3⟩ := hB i m e hm1' he; have hst := akeep_sound (P := P) q1 hk hkp; have := hh.put hid rfl hp (.map (ms.modify i fun e => { e with key := kv }) c) (blk := .amap (es.set i (k, e.2.1, e.2.2)) c) (fun w' hw' hkk => ⟨_, hw', entries_set hsz hB (fun m' hm' => ⟨hk.mono hkk (fun _ _ h => h), by rw [hm1'] at hm'; cases hm'; exact q2.mono hkk (fun _ _ h => h), by rw [hm1'] at hm'; cases hm'; exact q3⟩) hkk⟩); refine ⟨.tuple #[m.val, goInt m.born], _, by simp [Instr.mapEntry, Sem.run_bind, run_underlying hu, Result.andThen, getObj_run hg rfl, hck, hr, hm1', hst, setObj_run hg rfl], this.1, this.2, ?_⟩; rw [q3]; exact pair_rel (q2.mono (this.2.keeps hh) (fun _ _ h => h)) .sc
          cases hy
        · rename_i hf; split at hy
          · rename_i z hz
            cases hy
            obtain ⟨r, hr, hr2⟩ := findKey_sound (P := P) hk (akeyOk_und hok) (MRel.of hsz hB) hf; have hr2 : r = none := hr2; subst hr2; obtain ⟨zv, hz1, hz2⟩ := azero_sound (P := P) (I := I) (w := w) (w' := w) (ρ := ρ) hz; have := hh.put hid rfl hp (.map (ms.push { key := kv, val := zv, born := c }) (c + 1)) (blk := .amap (es ++ [(k, z, c)]) (c + 1)) (fun w' hw' hkk => ⟨_, hw', entries_push hsz hB ⟨hk.mono hkk (fun _ _ h => h), hz2.mono hkk (fun _ _ h => h), rfl⟩ hkk⟩); exact ⟨.tuple #[zv, goInt c], _, by simp [Instr.mapEntry, Sem.run_bind, run_underlying hu, Result.andThen, getObj_run hg rfl, hck, hr, hz1, setObj_run hg rfl], this.1, this.2, pair_rel (hz2.mono (this.2.keeps hh) (fun _ _ h => h)) .sc⟩
          cases hy
        cases hy
      cases hy
    cases hy
  cases hy
def astamp (s : Int) : List (AV × AV × Nat) → Option Nat
  | [] => none
  | e :: es => if (e.2.2 : Int) = s then some 0 else (astamp s es).map (· + 1)
theorem astamp_sound {I : Nat → Prop} {w : World} {ρ : Places} {s : Int} : ∀ {ms : List MapEntry} {es : List (AV × AV × Nat)}, MRel I w ρ ms es → ms.findIdx? (fun e => (e.born : Int) == s) = astamp s es
  | [], [], _ => rfl
  | [], _ :: _, h => by have := h.1; simp at this
  | _ :: _, [], h => by have := h.1; simp at this
  | m :: ms, e :: es, h => by
    obtain ⟨⟨g1, g2, g3⟩, h'⟩ := h.cons; rw [List.findIdx?_cons, astamp_sound h', astamp, g3]; by_cases hs : (e.2.2 : Int) = s <;> simp [hs]
def aentryStore (P : Program) (H : AH) (m s x : AV) : Option AH :=
  match m, s with
  | .mp id, .sc (.int .i64 s) => match H[id]? with
    | some (.amap es c) => match astamp s es with
      | some i => match es[i]? with
        | some e => some (H.set id (.amap (es.set i (e.1, x, e.2.2)) c))
        | none => none
      | none => none
    | _ => none
  | _, _ => none
theorem aentryStore_sound {P : Program} {G : Glob} {I : Nat → Prop} {w : World} {ρ : Places} {H H' : AH} (hh : HRel G I w ρ H) {t : TypeId} {m s x : AV} {mv sv xv : Value} (hm : VRel I w ρ mv m) (hs : VRel I w ρ sv s) (hx : VRel I w ρ xv x)
    (hy : aentryStore P H m s x = some H') : ∃ w', (Instr.entryStore t mv sv xv).run P w = .ok () w' ∧ HRel G I w' ρ H' ∧ Went I w ρ H I w' ρ H' := by
  unfold aentryStore at hy; split at hy
  · rename_i id s; split at hy
    · rename_i es c hid; split at hy
      · rename_i i hi; split at hy
        · rename_i e he
          cases hy
          cases hs
          cases hm with
          | mp hp =>
          rename_i b n k'; obtain ⟨hlt, hnI, ms, hg, hsz, hB⟩ := hh.blk id _ _ hid rfl hp; have hst := astamp_sound (s := s) (MRel.of hsz hB); have hst' : ms.findIdx? (fun e => (e.born : Int) == s) = some i := by rw [← hi, ← hst]; cases ms; simp
          have := hh.put hid rfl hp (.map (ms.modify i fun e => { e with val := xv }) c) (blk := .amap (es.set i (e.1, x, e.2.2)) c) (fun w' hw' hkk => ⟨_, hw', entries_set hsz hB (fun m' hm' => ⟨(hB i m' e hm' he).1.mono hkk (fun _ _ h => h), hx.mono hkk (fun _ _ h => h), (hB i m' e hm' he).2.2⟩) hkk⟩); refine ⟨_, ?_, this.1, this.2⟩; simp [Instr.entryStore, Sem.run_bind, Result.andThen, getObj_run hg rfl, asInt, asIntOf, hst', setObj_run hg rfl]
        cases hy
      cases hy
    cases hy
  cases hy
end
section
theorem HRel.laid {G : Glob} {I : Nat → Prop} {w : World} {ρ : Places} {H : AH} (h : HRel G I w ρ H) (o : Obj) (blk : ABlk)
    (hB : ∀ ρ' w', (∀ id l, ρ id = some l → ρ' id = some l) → w'.heap[w.heap.size]? = some o → BRel I w' ρ' ⟨w.heap.size, 0, 0⟩ blk) :
    HRel G I (w.alloc o) (ρ.new H.length ⟨w.heap.size, 0, 0⟩) (H ++ [blk]) ∧ Went I w ρ H I (w.alloc o) (ρ.new H.length ⟨w.heap.size, 0, 0⟩) (H ++ [blk]) :=
  h.alloc_own o blk 0 0 (fun ρ' hp hk => hB ρ' _ hp heap_alloc_new)
def amakeMap (P : Program) (H : AH) (t : TypeId) (r : Option AV) : Option (AV × AH) :=
  match P.underlying t, r with
  | some (.map _ _), none => some (.mp H.length, H ++ [.amap [] 0])
  | some (.map _ _), some (.sc (.int _ _)) => some (.mp H.length, H ++ [.amap [] 0])
  | _, _ => none
theorem amakeMap_sound {P : Program} {G : Glob} {I : Nat → Prop} {w : World} {ρ : Places} {H H' : AH} (hh : HRel G I w ρ H) {t : TypeId} {r : Option AV} {rv : Option Value} {y : AV}
    (hr : ∀ x, r = some x → ∃ v, rv = some v ∧ VRel I w ρ v x) (hr' : r = none → rv = none) (hy : amakeMap P H t r = some (y, H')) :
    ∃ u w' ρ', (Instr.makeMap t rv).run P w = .ok u w' ∧ HRel G I w' ρ' H' ∧ Went I w ρ H I w' ρ' H' ∧ VRel I w' ρ' u y := by
  have hl := hh.laid (.map #[] 0) (.amap [] 0) (fun ρ' w' hp hg => ⟨#[], hg, rfl, fun i m e h => by simp at h⟩); have hv : VRel I (w.alloc (.map #[] 0)) (ρ.new H.length ⟨w.heap.size, 0, 0⟩) (.map (some w.heap.size)) (.mp H.length) := .mp (n := 0) (k := 0) (by simp [Places.new]); unfold amakeMap at hy; split at hy
  · cases hy
    rw [hr' rfl]; exact ⟨_, _, _, by simp [Instr.makeMap], hl.1, hl.2, hv⟩
  · rename_i hu
    cases hy
    obtain ⟨v, rfl, hx⟩ := hr _ rfl
    cases hx
    exact ⟨_, _, _, by simp [Instr.makeMap, run_underlying hu, asInt, asIntOf], hl.1, hl.2, hv⟩
  cases hy
def arange (P : Program) (H : AH) (t : TypeId) (x : AV) : Option (AV × AH) :=
  match P.underlying t, x with
  | some .string, .sc (.string s) => some (.it H.length, H ++ [.siter s 0])
  | some (.map _ _), .sc (.map none) => some (.it H.length, H ++ [.miter none 0 [] 0])
  | some (.map _ _), .mp id => match H[id]? with
    | some (.amap es c) => some (.it H.length, H ++ [.miter (some id) c [] c])
    | _ => none
  | _, _ => none
theorem arange_sound {P : Program} {G : Glob} {I : Nat → Prop} {w : World} {ρ : Places} {H H' : AH} (hh : HRel G I w ρ H) {t : TypeId} {x y : AV} {v : Value} (hx : VRel I w ρ v x) (hy : arange P H t x = some (y, H')) :
    ∃ u w' ρ', (Instr.range t v).run P w = .ok u w' ∧ HRel G I w' ρ' H' ∧ Went I w ρ H I w' ρ' H' ∧ VRel I w' ρ' u y := by
  have hv : ∀ (o : Obj), VRel I (w.alloc o) (ρ.new H.length ⟨w.heap.size, 0, 0⟩) (.pointer (some ⟨w.heap.size, 0, none⟩)) (.it H.length) := fun o => .it (n := 0) (k := 0) (by simp [Places.new])
  unfold arange at hy; split at hy
  · rename_i s hu
    cases hy; cases hx
    have hl := hh.laid (.stringIter s 0) (.siter s 0) (fun ρ' w' hp hg => hg); exact ⟨_, _, _, by simp [Instr.range, run_underlying hu], hl.1, hl.2, hv _⟩
  · rename_i hu
    cases hy; cases hx
    have hl := hh.laid (.mapIter none 0 #[] 0) (.miter none 0 [] 0) (fun ρ' w' hp hg => ⟨none, hg, rfl⟩); exact ⟨_, _, _, by simp [Instr.range, run_underlying hu], hl.1, hl.2, hv _⟩
  · rename_i id hu; split at hy
    · rename_i es c hid
      cases hy
      cases hx with
      | mp hp =>
      rename_i b n k; obtain ⟨hlt, hnI, ms, hg, hsz, hB⟩ := hh.blk id _ _ hid rfl hp; have hl := hh.laid (.mapIter (some b) c #[] c) (.miter (some id) c [] c) (fun ρ' w' hpp hg => ⟨some b, hg, _, hpp _ _ hp, rfl⟩); have hgo : (getObj b).run P w = .ok (.map ms c) w := getObj_run hg rfl; exact ⟨_, _, _, by simp [Instr.range, run_underlying hu, hgo], hl.1, hl.2, hv _⟩
    cases hy
  cases hy
def acands (es : List (AV × AV × Nat)) (since : Nat) (seen : List Nat) : List (Option (AV × AV × Nat)) :=
  let left := es.filter fun e => !seen.contains e.2.2
  let old := left.filter fun e => decide (e.2.2 < since)
  let new := left.filter fun e => decide (e.2.2 ≥ since)
  (if old.isEmpty then [none] else []) ++ (old ++ new).map some
def anext (P : Program) (H : AH) (x : AV) (str : Bool) : Option (List (AV × AH)) :=
  match x with
  | .it id => match H[id]?, str with
    | some (.siter s pos), true => if pos < s.size then some [(.tuple [.sc (.bool true), .sc (goInt (pos : Int)), .sc (.int .i32 (Utf8.decode s pos).1)], H.set id (.siter s (pos + (Utf8.decode s pos).2)))]
        else some [(.tuple [.sc (.bool false)], H)]
    | some (.miter none _ _ _), false => some [(.tuple [.sc (.bool false)], H)]
    | some (.miter (some m) since seen last), false => match H[m]? with
      | some (.amap es c) => if !seen.isEmpty && !es.isEmpty && es.all (fun e => decide (e.2.2 ≥ last)) then none else
          some ((acands es since seen).map fun
            | some e => (.tuple [.sc (.bool true), e.1, e.2.1], H.set id (.miter (some m) since (seen ++ [e.2.2]) c))
            | none => (.tuple [.sc (.bool false)], H))
      | _ => none
    | _, _ => none
  | _ => none
theorem MRel.nil {I : Nat → Prop} {w : World} {ρ : Places} : MRel I w ρ [] [] := ⟨rfl, fun i m e h => by simp at h⟩
theorem MRel.mk1 {I : Nat → Prop} {w : World} {ρ : Places} {m : MapEntry} {ms : List MapEntry} {e : AV × AV × Nat} {es : List (AV × AV × Nat)} (h : VRel I w ρ m.key e.1 ∧ VRel I w ρ m.val e.2.1 ∧ m.born = e.2.2) (k : MRel I w ρ ms es) :
    MRel I w ρ (m :: ms) (e :: es) := ⟨by simp [k.1], fun i m' e' h1 h2 => by
    cases i with
    | zero => simp at h1 h2; subst h1; subst h2; exact h
    | succ i => exact k.2 i m' e' (by simpa using h1) (by simpa using h2)⟩
theorem MRel.filter {I : Nat → Prop} {w : World} {ρ : Places} (p : Nat → Bool) : ∀ {ms : List MapEntry} {es : List (AV × AV × Nat)}, MRel I w ρ ms es → MRel I w ρ (ms.filter fun m => p m.born) (es.filter fun e => p e.2.2)
  | [], [], _ => .nil
  | [], _ :: _, h => by have := h.1; simp at this
  | _ :: _, [], h => by have := h.1; simp at this
  | m :: ms, e :: es, h => by
    obtain ⟨h1, h2⟩ := h.cons; have ih := h2.filter p; rw [List.filter_cons, List.filter_cons, h1.2.2]; split
    exact .mk1 h1 ih; exact ih
theorem MRel.append {I : Nat → Prop} {w : World} {ρ : Places} {ms' : List MapEntry} {es' : List (AV × AV × Nat)} (k : MRel I w ρ ms' es') : ∀ {ms : List MapEntry} {es : List (AV × AV × Nat)}, MRel I w ρ ms es → MRel I w ρ (ms ++ ms') (es ++ es')
  | [], [], _ => k
  | [], _ :: _, h => by have := h.1; simp at this
  | _ :: _, [], h => by have := h.1; simp at this
  | m :: ms, e :: es, h => .mk1 h.cons.1 (k.append h.cons.2)
theorem MRel.get {I : Nat → Prop} {w : World} {ρ : Places} {ms : List MapEntry} {es : List (AV × AV × Nat)} (h : MRel I w ρ ms es) {i : Nat} {m : MapEntry} (hi : ms[i]? = some m) : ∃ e, es[i]? = some e ∧ VRel I w ρ m.key e.1 ∧ VRel I w ρ m.val e.2.1 ∧ m.born = e.2.2 := by
  have hlt : i < es.length := by rw [← h.1]; exact (List.getElem?_eq_some_iff.1 hi).1
  exact ⟨es[i], List.getElem?_eq_getElem hlt, h.2 i m _ hi (List.getElem?_eq_getElem hlt)⟩
theorem MRel.all {I : Nat → Prop} {w : World} {ρ : Places} (p : Nat → Bool) : ∀ {ms : List MapEntry} {es : List (AV × AV × Nat)}, MRel I w ρ ms es → (ms.all fun m => p m.born) = (es.all fun e => p e.2.2)
  | [], [], _ => rfl
  | [], _ :: _, h => by have := h.1; simp at this
  | _ :: _, [], h => by have := h.1; simp at this
  | m :: ms, e :: es, h => by rw [List.all_cons, List.all_cons, h.cons.1.2.2, h.cons.2.all p]
theorem choose_run {P : Program} {w : World} (n : Nat) (hn : 0 < n) : ∃ i w1, (choose (.mapNext n)).run P w = .ok i w1 ∧ i < n ∧ w1.heap = w.heap ∧ w1.os = w.os ∧ w1.tape = w.tape ∧ w1.output = w.output := by
  simp only [choose, Sem.run]; split
  exact ⟨0, w, rfl, hn, rfl, rfl, rfl, rfl⟩; exact ⟨_, _, rfl, Nat.mod_lt _ hn, rfl, rfl, rfl, rfl⟩
def mcands (ms : Array MapEntry) (since : Nat) (seen : Array Nat) : Array (Option MapEntry) :=
  let left := ms.filter fun e => !seen.contains e.born
  let old := left.filter (·.born < since)
  let new := left.filter (·.born ≥ since)
  (if old.isEmpty then #[none] else #[]) ++ (old ++ new).map some
theorem cands_rel {I : Nat → Prop} {w : World} {ρ : Places} {ms : Array MapEntry} {es : List (AV × AV × Nat)} (h : MRel I w ρ ms.toList es) (since : Nat) (seen : List Nat) :
    0 < (mcands ms since seen.toArray).size ∧ ∀ (i : Nat) (c : Option MapEntry), (mcands ms since seen.toArray)[i]? = some c → (c = none ∧ none ∈ acands es since seen) ∨ ∃ (m : MapEntry) (e : AV × AV × Nat), c = some m ∧ some e ∈ acands es since seen ∧ VRel I w ρ m.key e.1 ∧ VRel I w ρ m.val e.2.1 ∧ m.born = e.2.2 := by
  have hl := h.filter (fun b => !seen.contains b); have ho := hl.filter (fun b => decide (b < since)); have hn := hl.filter (fun b => decide (b ≥ since))
  have e1 : (mcands ms since seen.toArray).toList = (if ((ms.toList.filter fun m => !seen.contains m.born).filter fun m => decide (m.born < since)).isEmpty then [none] else []) ++
      (((ms.toList.filter fun m => !seen.contains m.born).filter fun m => decide (m.born < since)) ++ ((ms.toList.filter fun m => !seen.contains m.born).filter fun m => decide (m.born ≥ since))).map some := by
    obtain ⟨ms⟩ := ms; simp only [mcands]; simp; split <;> simp
  generalize hol : ((ms.toList.filter fun m => !seen.contains m.born).filter fun m => decide (m.born < since)) = O at *; generalize hnl : ((ms.toList.filter fun m => !seen.contains m.born).filter fun m => decide (m.born ≥ since)) = N at *
  have hac : acands es since seen = (if ((es.filter fun e => !seen.contains e.2.2).filter fun e => decide (e.2.2 < since)).isEmpty then [none] else []) ++
      (((es.filter fun e => !seen.contains e.2.2).filter fun e => decide (e.2.2 < since)) ++ ((es.filter fun e => !seen.contains e.2.2).filter fun e => decide (e.2.2 ≥ since))).map some := rfl
  generalize hoe : ((es.filter fun e => !seen.contains e.2.2).filter fun e => decide (e.2.2 < since)) = OE at *; generalize hne : ((es.filter fun e => !seen.contains e.2.2).filter fun e => decide (e.2.2 ≥ since)) = NE at *
  have hiso : O.isEmpty = OE.isEmpty := by
    have := ho.1
    cases O <;> cases OE <;> simp_all
  refine ⟨?_, fun i c hc => ?_⟩
  · rw [← Array.length_toList, e1]
    cases O with
    | nil => simp
    | cons a l => simp
  rw [← Array.getElem?_toList, e1] at hc; have hmem := List.mem_of_getElem? hc; rw [hac, ← hiso]
  rcases List.mem_append.1 hmem with hm | hm
  · left; split at hm
    · rename_i hemp; simp at hm; exact ⟨hm, by rw [if_pos hemp]; simp⟩
    cases hm
  right; obtain ⟨m, hm1, rfl⟩ := List.mem_map.1 hm; obtain ⟨j, hj⟩ := List.getElem?_of_mem hm1; obtain ⟨e, he, hr⟩ := (hn.append ho).get hj; exact ⟨m, e, rfl, List.mem_append.2 (.inr (List.mem_map.2 ⟨e, List.mem_of_getElem? he, rfl⟩)), hr⟩
theorem anext_sound {P : Program} {G : Glob} {I : Nat → Prop} {w : World} {ρ : Places} {H : AH} (hh : HRel G I w ρ H) {ty : TypeId} {x : AV} {v : Value} {str : Bool} {outs : List (AV × AH)} (hx : VRel I w ρ v x) (hy : anext P H x str = some outs) :
    ∃ u w' y H', (y, H') ∈ outs ∧ (Instr.next v str ty).run P w = .ok u w' ∧ HRel G I w' ρ H' ∧ Went I w ρ H I w' ρ H' ∧ VRel I w' ρ u y := by
  have hover : VRel I w ρ (.tuple #[.bool false]) (.tuple [.sc (.bool false)]) := .tuple rfl fun i z hz => by
    match i with
    | 0 => simp at hz; subst hz; exact .sc
    | i + 1 => simp at hz
  unfold anext at hy; split at hy
  case h_2 => cases hy
  rename_i id
  cases hx with
  | it hp =>
  rename_i b n k; split at hy
  · rename_i s pos hid; obtain ⟨hlt, hnI, hg⟩ := hh.blk id _ _ hid rfl hp; have hgo : (getObj b).run P w = .ok (.stringIter s pos) w := getObj_run hg rfl; split at hy
    · rename_i hpos
      cases hy
      have := hh.put hid rfl hp (.stringIter s (pos + (Utf8.decode s pos).2)) (blk := .siter s (pos + (Utf8.decode s pos).2)) (fun w' hw' hkk => hw'); have hso : (setObj b (.stringIter s (pos + (Utf8.decode s pos).2))).run P w = .ok () (w.putObj b _) := setObj_run hg rfl; refine ⟨.tuple #[.bool true, goInt pos, .int .i32 (Utf8.decode s pos).1], _, _, _, List.mem_singleton.2 rfl, by simp [Instr.next, hgo, hpos, hso], this.1, this.2, .tuple rfl fun i z hz => ?_⟩
      match i with
      | 0 => simp at hz; subst hz; exact .sc
      | 1 => simp at hz; subst hz; exact .sc
      | 2 => simp at hz; subst hz; exact .sc
      | i + 3 => simp at hz
    rename_i hpos
    cases hy
    exact ⟨_, _, _, _, List.mem_singleton.2 rfl, by simp [Instr.next, hgo, hpos], hh, Went.refl, hover⟩
  · rename_i since seen last hid; obtain ⟨hlt, hnI, mb, hg, hmb⟩ := hh.blk id _ _ hid rfl hp; have hmb : mb = none := hmb; subst hmb
    cases hy
    have hgo : (getObj b).run P w = .ok (.mapIter none since seen.toArray last) w := getObj_run hg rfl; exact ⟨_, _, _, _, List.mem_singleton.2 rfl, by simp [Instr.next, hgo], hh, Went.refl, hover⟩
  · rename_i m since seen last hid; split at hy
    · rename_i es c hm; split at hy
      cases hy
      rename_i hcond
      cases hy
      obtain ⟨hlt, hnI, mb, hg, l', hl', rfl⟩ := hh.blk id _ _ hid rfl hp; obtain ⟨hlt', hnI', ms, hg', hsz, hB⟩ := hh.blk m _ _ hm rfl hl'; have hmr := MRel.of hsz hB; have hgo : (getObj b).run P w = .ok (.mapIter (some l'.blk) since seen.toArray last) w := getObj_run hg rfl; have hgm : (getObj l'.blk).run P w = .ok (.map ms c) w := getObj_run hg' rfl; obtain ⟨hpos, hc⟩ := cands_rel hmr since seen; obtain ⟨i, w1, hch, hi, e1, e2, e3, e4⟩ := choose_run (P := P) (w := w) _ hpos
      have hcond' : (!seen.toArray.isEmpty && !ms.isEmpty && ms.all (·.born ≥ last)) = false := by
        have h1 := hmr.all (fun b => decide (b ≥ last))
        have h2 : ms.isEmpty = es.isEmpty := by
          obtain ⟨ms⟩ := ms
          cases ms <;> cases es <;> simp_all
        have h3 : ms.all (fun m => decide (m.born ≥ last)) = es.all (fun e => decide (e.2.2 ≥ last)) := by rw [← h1]; obtain ⟨ms⟩ := ms; simp
        have h4 : seen.toArray.isEmpty = seen.isEmpty := by cases seen <;> rfl
        rw [h2, h3, h4]; simpa using hcond
      have hs := hh.same e1 e2 e3 e4; have hk1 : Keeps I I w w1 := ⟨fun _ h => h, fun _ _ => by rw [e1]⟩
      have hrun : (Instr.next (.pointer (some ⟨b, 0, none⟩)) false ty).run P w = (match (mcands ms since seen.toArray)[i]? with
          | some (some e) => (do
              setObj b (.mapIter (some l'.blk) since (seen.toArray.push e.born) c)
              pure (.tuple #[.bool true, e.key, e.val]) : Sem Value)
          | some none => pure (.tuple #[.bool false])
          | none => stuck "Next: no such candidate").run P w1 := by
        have hch' := hch; simp only [Instr.next, Sem.run_bind, hgo, Result.andThen, hgm, hcond', Bool.false_eq_true, if_false]; simp only [mcands] at hch' ⊢; rw [hch']; rfl
      have hget : (mcands ms since seen.toArray)[i]? = some (mcands ms since seen.toArray)[i] := Array.getElem?_eq_getElem hi
      rcases hc i _ hget with ⟨hn, hmem⟩ | ⟨me, e, hs', hmem, q1, q2, q3⟩
      · rw [hn] at hget; refine ⟨.tuple #[.bool false], w1, _, _, List.mem_map.2 ⟨none, hmem, rfl⟩, by rw [hrun, hget]; rfl, hs.1, hs.2, hover.mono hk1 (fun _ _ h => h)⟩
      rw [hs'] at hget; have hg1 : w1.heap[b]? = some (.mapIter (some l'.blk) since seen.toArray last) := by rw [e1]; exact hg
      have := hs.1.put hid rfl hp (.mapIter (some l'.blk) since (seen.toArray.push me.born) c) (blk := .miter (some m) since (seen ++ [e.2.2]) c) (fun w' hw' hkk => ⟨_, by rw [q3] at hw'; simpa using hw', l', hl', rfl⟩); have hk2 := (hs.2.trans this.2).keeps hh; refine ⟨.tuple #[.bool true, me.key, me.val], _, _, _, List.mem_map.2 ⟨some e, hmem, rfl⟩, by rw [hrun, hget]; simp [setObj_run hg1 rfl], this.1, hs.2.trans this.2, .tuple rfl fun j z hz => ?_⟩
      match j with
      | 0 => simp at hz; subst hz; exact .sc
      | 1 => simp at hz; subst hz; exact q1.mono hk2 (fun _ _ h => h)
      | 2 => simp at hz; subst hz; exact q2.mono hk2 (fun _ _ h => h)
      | j + 3 => simp at hz
    cases hy
  cases hy
def aentry (H : AH) : AV → Option AV
  | .it id => match H[id]? with
    | some (.miter (some m) _ seen last) => match seen.getLast?, H[m]? with
      | some s, some (.amap es c) => if c = last then (es.find? fun e => e.2.2 == s).map fun e => .tuple [e.1, e.2.1] else none
      | _, _ => none
    | _ => none
  | _ => none
theorem find_rel {I : Nat → Prop} {w : World} {ρ : Places} {s : Nat} {e : AV × AV × Nat} : ∀ {ms : List MapEntry} {es : List (AV × AV × Nat)}, MRel I w ρ ms es → (es.find? fun e => e.2.2 == s) = some e → ∃ m, (ms.find? fun m => m.born == s) = some m ∧ VRel I w ρ m.key e.1 ∧ VRel I w ρ m.val e.2.1
  | [], [], _, h => by simp at h
  | [], _ :: _, h, _ => by have := h.1; simp at this
  | _ :: _, [], h, _ => by have := h.1; simp at this
  | m :: ms, e' :: es, h, hf => by
    obtain ⟨⟨g1, g2, g3⟩, h'⟩ := h.cons; rw [List.find?_cons] at hf ⊢; rw [g3]; split at hf
    cases hf; exact ⟨m, by simp_all, g1, g2⟩
    obtain ⟨m', q1, q2⟩ := find_rel h' hf; exact ⟨m', by simp_all, q2⟩
theorem aentry_sound {P : Program} {G : Glob} {I : Nat → Prop} {w : World} {ρ : Places} {H : AH} (hh : HRel G I w ρ H) {x y : AV} {v : Value} (hx : VRel I w ρ v x) (hy : aentry H x = some y) :
    ∃ u, (Instr.entry v).run P w = .ok u w ∧ VRel I w ρ u y := by
  unfold aentry at hy; split at hy
  case h_2 => cases hy
  rename_i id
  cases hx with
  | it hp =>
  rename_i b n k; split at hy
  · rename_i m since seen last hid; split at hy
    · rename_i s es c hs hm; split at hy
      · rename_i hcl; subst hcl; obtain ⟨e, he, rfl⟩ := map_some hy; obtain ⟨hlt, hnI, mb, hg, l', hl', rfl⟩ := hh.blk id _ _ hid rfl hp; obtain ⟨hlt', hnI', ms, hg', hsz, hB⟩ := hh.blk m _ _ hm rfl hl'; have hgo : (getObj b).run P w = .ok (.mapIter (some l'.blk) since seen.toArray c) w := getObj_run hg rfl; have hgm : (getObj l'.blk).run P w = .ok (.map ms c) w := getObj_run hg' rfl; obtain ⟨me, q1, q2, q3⟩ := find_rel (MRel.of hsz hB) he
        have q1' : ms.find? (fun m => m.born == s) = some me := by
          obtain ⟨ms⟩ := ms; simpa using q1
        have hb : seen.toArray.back? = some s := by simpa using hs
        exact ⟨_, by simp [Instr.entry, hgo, hb, hgm, q1'], pair_rel q2 q3⟩
      cases hy
    cases hy
  cases hy
end
section
def amakeSlice (P : Program) (H : AH) (t : TypeId) (l c : AV) : Option (AV × AH) :=
  match P.underlying t, l, c with
  | some (.slice e), .sc (.int .i64 ln), .sc (.int .i64 cp) => match P.info? e, azero P e with
    | some i, some z => if decide (0 < P.cellsOf e) && z.cellsOk && z.cells.length == P.cellsOf e && decide (0 ≤ ln) && decide (ln ≤ cp) && decide (cp ≤ 9223372036854775807) && decide (i.bytes * cp ≤ 281474976710656) then
        some (.sm H.length (P.cellsOf e) 0 ln.toNat, H ++ [.rows (List.replicate cp.toNat z.cells) e]) else none
    | _, _ => none
  | _, _, _ => none
theorem amakeSlice_sound {P : Program} {G : Glob} {I : Nat → Prop} {w : World} {ρ : Places} {H H' : AH} (hh : HRel G I w ρ H) {t : TypeId} {l c y : AV} {lv cv : Value} (hl : VRel I w ρ lv l) (hc : VRel I w ρ cv c)
    (hy : amakeSlice P H t l c = some (y, H')) : ∃ u w' ρ', (Instr.makeSlice t lv cv).run P w = .ok u w' ∧ HRel G I w' ρ' H' ∧ Went I w ρ H I w' ρ' H' ∧ VRel I w' ρ' u y := by
  unfold amakeSlice at hy; split at hy
  case h_2 => cases hy
  rename_i e ln cp ht; split at hy
  case h_2 => cases hy
  rename_i i z hi hz; split at hy
  case isFalse => cases hy
  rename_i hcond
  cases hy
  cases hl; cases hc
  simp only [Bool.and_eq_true, decide_eq_true_eq, beq_iff_eq] at hcond; obtain ⟨⟨⟨⟨⟨⟨hk0, hzok⟩, hzl⟩, h0⟩, h1⟩, h2⟩, h3⟩ := hcond; have hz' := hz; unfold azero at hz'; rw [hi] at hz'; obtain ⟨zv, hzv, rfl⟩ := map_some hz'; have hz2 : VRel I w ρ zv (.ofV zv) := .ofV zv; obtain ⟨hzs, hzc⟩ := hz2.cells hzok; have hsz : P.cellsOf e = i.size := by simp [Program.cellsOf, hi]
  have hzs' : zv.cells.size = P.cellsOf e := by rw [hzs, hzl]
  have hrun0 := run_make (P := P) w t e i zv ht hi hzv .i64 .i64 ln cp h0 h1 h3 h2; rw [← hsz] at hrun0; obtain ⟨cells, hcells⟩ : ∃ cells, cells = madeCells zv.cells (cp.toNat * P.cellsOf e) := ⟨_, rfl⟩; rw [← hcells] at hrun0; have hcs : cells.size = cp.toNat * P.cellsOf e := by rw [hcells]; simp [madeCells]
  have hcg : ∀ q, q < cp.toNat * P.cellsOf e → cells.getD q undef = zv.cells.getD (q % P.cellsOf e) undef := by
    intro q hq; have hm : q % zv.cells.size < zv.cells.size := Nat.mod_lt _ (by omega); rw [hcells]; simp only [madeCells]; rw [Array.getD_eq_getD_getElem?, Array.getElem?_map, Array.getElem?_range, if_pos hq, ← hzs']; simp [Array.getD, hm]
  have ha := hh.alloc_own (.cells cells e) (.rows (List.replicate cp.toNat (AV.ofV zv).cells) e) (cp.toNat * P.cellsOf e) (P.cellsOf e) (fun ρ' hp hk =>
    BRel.rows_of (w := w) heap_alloc_new hcs (by simp) (fun r hr => by rw [(List.mem_replicate.1 hr).2, hzl]) (fun i' j row x hi' hj => by
      rw [List.getElem?_replicate] at hi'; split at hi'
      · rename_i hlt
        cases hi'
        have hj' : j < P.cellsOf e := by have := (List.getElem?_eq_some_iff.1 hj).1; omega
        have hm : (i' + 1) * P.cellsOf e ≤ cp.toNat * P.cellsOf e := Nat.mul_le_mul_right _ hlt; rw [Nat.add_mul] at hm; rw [hcg _ (by omega), show (i' * P.cellsOf e + j) % P.cellsOf e = j by rw [Nat.mul_comm, Nat.mul_add_mod, Nat.mod_eq_of_lt hj']]; exact hzc j x hj
      cases hi') hk hp)
  refine ⟨_, _, _, hrun0, ha.1, ha.2, ?_⟩; have := VRel.sm (I := I) (w := w.alloc (.cells cells e)) (ρ := ρ.new H.length ⟨w.heap.size, cp.toNat * P.cellsOf e, P.cellsOf e⟩) (id := H.length) (b := w.heap.size) (n := cp.toNat * P.cellsOf e) (k := P.cellsOf e) (off := 0) (len := ln.toNat) (cap := cp.toNat) (by simp [Places.new]) (by omega) (by simp); simpa using this
def abytes : List (List AV) → Option (List Int)
  | [] => some []
  | [.sc (.int .u8 n)] :: rows => (abytes rows).map (n :: ·)
  | _ => none
theorem abytes_sound : ∀ {rows : List (List AV)} {ns : List Int}, abytes rows = some ns → rows = ns.map fun n => [.sc (.int .u8 n)]
  | [], ns, h => by simp [abytes] at h; subst h; rfl
  | r :: rows, ns, h => by
    unfold abytes at h; split at h
    cases ‹_ = []›
    · rename_i n rows' he
      cases he
      obtain ⟨ms, h1, rfl⟩ := map_some h; rw [abytes_sound h1]; rfl
    cases h
def isU8 : Option TypeDesc → Bool
  | some (.int .u8) => true
  | _ => false
theorem isU8_eq {d : Option TypeDesc} (h : isU8 d = true) : d = some (.int .u8) := by unfold isU8 at h; split at h <;> first | rfl | cases h
def abytesString (P : Program) (H : AH) (s d : TypeId) (x : AV) : Option AV :=
  match P.underlying s, P.underlying d with
  | some (.slice e), some .string => if isU8 (P.underlying e) && ((astride x).getD 1 == 1) then
      match arows H x with
      | some rows => (abytes rows).map fun ns => .sc (.string (strOfNums ns))
      | none => none
    else none
  | _, _ => none
theorem abytesString_sound {P : Program} {G : Glob} {I : Nat → Prop} {w : World} {ρ : Places} {H : AH} (hh : HRel G I w ρ H) {s d : TypeId} {x y : AV} {v : Value} (hx : VRel I w ρ v x) (hy : abytesString P H s d x = some y) :
    ∃ u, (convert s d v).run P w = .ok u w ∧ VRel I w ρ u y := by
  unfold abytesString at hy; split at hy
  · rename_i e hs hd; split at hy
    · rename_i he; rw [Bool.and_eq_true] at he; obtain ⟨he, hst⟩ := he; have he := isU8_eq he; split at hy
      · rename_i rows hr; obtain ⟨ns, hb, rfl⟩ := map_some hy; have hrows := abytes_sound hb; obtain ⟨a, cap, rfl, hra⟩ := arows_sound hh hx hr 1 (by omega) (fun k' h => by rw [h] at hst; simpa using hst)
        rcases hra with h0 | ⟨b, o, g, rfl, hg⟩
        · subst h0; have : ns = [] := by simpa using hrows.symm
          subst this
          cases a with
          | none => exact ⟨_, run_convert_bytes_nil w s e hs he _ _ d hd, .sc⟩
          | some a =>
            obtain ⟨ab, ao, as⟩ := a; refine ⟨.string ByteArray.empty, ?_, .sc⟩; rw [run_convert_bytes_string w s d e _ _ _ hs he hd]; simp [Conv.bytesToString, loadCells, loadCellsFrom]
        refine ⟨_, run_convert_bytes_arg w s e hs he b o rows.length cap ns (by rw [hrows]; simp) (fun i hi => ?_) d hd, .sc⟩; have hi' : i < ns.length := by rw [hrows] at hi; simpa using hi
        have h1 := hg.cell i (by omega); have h2 := hg.rel i 0 [.sc (.int .u8 ns[i])] (.sc (.int .u8 ns[i])) (by rw [hrows]; simp [hi']) rfl; rw [Nat.mul_one, Nat.add_zero] at h2
        have h3 : g i = .int .u8 ns[i] := by
          generalize g i = q at h2
          cases h2; rfl
        rw [h1.1, h3]; simp [hi']
      cases hy
    cases hy
  cases hy
end
section
theorem rowAt_mono {P : Program} {fits : TypeId → Bool} {d : Nat} {e : TypeId} {count count' off n : Nat} (hc : count ≤ count') (h : rowAt P fits d e count off n = true) : rowAt P fits d e count' off n = true := by
  cases d with
  | zero => simp [rowAt] at h
  | succ d =>
    by_cases hs : P.cellsOf e = 0
    simp [rowAt, hs] at h; simp only [rowAt, hs, if_false, Bool.or_eq_true, Bool.and_eq_true, decide_eq_true_eq] at h ⊢
    rcases h with ⟨⟨h1, h2⟩, h3⟩ | ⟨h1, h2⟩
    exact .inl ⟨⟨h1, by omega⟩, h3⟩; exact .inr ⟨by omega, h2⟩
theorem liesAt_mono {P : Program} : ∀ {d : Nat} {e : TypeId} {count count' off : Nat} {u : TypeId} {n : Nat}, count ≤ count' → liesAt P d e count off u n = true → liesAt P d e count' off u n = true
  | 0, e, count, count', off, u, n, hc, h => by simp [liesAt] at h
  | d + 1, e, count, count', off, u, n, hc, h => by
    unfold liesAt at h ⊢; simp only [Bool.or_eq_true] at h ⊢
    rcases h with h | h
    exact .inl (rowAt_mono hc h); right; split at h
    exact liesAt_mono hc h
    cases h
def aptr (P : Program) (H : AH) (s d : TypeId) (x : AV) : Option AV :=
  match P.underlying s, P.underlying d, x with
  | some (.pointer t), some .unsafePointer, .pm id r c => match H[id]? with
    | some (.rows rs _) => match rs[r]? with
      | some row => if decide (c < row.length) && (P.info? t).isSome && decide (P.cellsOf t ≠ 0) then some (.pm id r c) else none
      | none => none
    | _ => none
  | some .unsafePointer, some (.pointer u), .pm id r c => match H[id]? with
    | some (.rows rs te) => match rs[r]? with
      | some row => if (P.info? u).isSome && liesAt P P.depth te (rs.length * row.length / P.cellsOf te) (r * row.length + c) u 1 then some (.pm id r c) else none
      | none => none
    | _ => none
  | _, _, _ => none
theorem aptr_sound {P : Program} {G : Glob} {I : Nat → Prop} {w : World} {ρ : Places} {H : AH} (hh : HRel G I w ρ H) {s d : TypeId} {x y : AV} {v : Value} (hx : VRel I w ρ v x) (hy : aptr P H s d x = some y) :
    ∃ u, (convert s d v).run P w = .ok u w ∧ VRel I w ρ u y := by
  unfold aptr at hy; split at hy
  · rename_i t id r c hs hd; split at hy
    · rename_i rs te hid; split at hy
      · rename_i row hrow; split at hy
        · rename_i hcond; simp only [Bool.and_eq_true, decide_eq_true_eq] at hcond; obtain ⟨⟨hc, hi⟩, hz⟩ := hcond
          cases hy
          cases hx with
          | pm hp =>
          rename_i b n k; obtain ⟨hlt, hnI, ⟨cells, hg, hsz, hcell⟩, hlen, hk⟩ := hh.blk id _ _ hid rfl hp; simp only at hg hsz hlen hk; have hsh : w.shape? b = some (te, cells.size) := by simp [World.shape?, hg]
          have hst : (sizeOf t).run P w = .ok (P.cellsOf t) w := run_sizeOf' (fun h => by rw [h] at hi; cases hi); have hrl := hk row (List.mem_of_getElem? hrow); have h4 : (r + 1) * k ≤ rs.length * k := Nat.mul_le_mul_right _ (List.getElem?_eq_some_iff.1 hrow).1; rw [Nat.add_mul] at h4; have hoff : ¬ (cells.size ≤ r * k + c) := by rw [hsz]; omega
          refine ⟨.pointer (some ⟨b, r * k + c, none⟩), ?_, .pm hp⟩; simp [convert, run_underlying hs, run_underlying hd, Conv.unsafePointer, Conv.seenAt, viewAt, hsh, cellsIn, hst, hz, hoff]
        cases hy
      cases hy
    cases hy
  · rename_i u id r c hs hd; split at hy
    · rename_i rs te hid; split at hy
      · rename_i row hrow; split at hy
        · rename_i hcond; simp only [Bool.and_eq_true] at hcond; obtain ⟨hi, hl⟩ := hcond
          cases hy
          cases hx with
          | pm hp =>
          rename_i b n k; obtain ⟨hlt, hnI, ⟨cells, hg, hsz, hcell⟩, hlen, hk⟩ := hh.blk id _ _ hid rfl hp; simp only at hg hsz hlen hk; have hsh : w.shape? b = some (te, cells.size) := by simp [World.shape?, hg]
          have hsu : (sizeOf u).run P w = .ok (P.cellsOf u) w := run_sizeOf' (fun h => by rw [h] at hi; cases hi); have hrl := hk row (List.mem_of_getElem? hrow); rw [hrl] at hl; have hl' := liesAt_mono (count' := cells.size / P.cellsOf te) (Nat.div_le_div_right (by rw [hsz]; exact hlen)) hl; refine ⟨.pointer (some ⟨b, r * k + c, none⟩), ?_, .pm hp⟩; by_cases hz : P.cellsOf u = 0
          simp [convert, run_underlying hs, run_underlying hd, Conv.unsafePointer, Conv.seenAt, viewAt, hsh, hsu, hz, variablesAt]; simp [convert, run_underlying hs, run_underlying hd, Conv.unsafePointer, Conv.seenAt, viewAt, hsh, hsu, hz, variablesAt, hl']
        cases hy
      cases hy
    cases hy
  cases hy
def asliceData : AV → Option AV
  | .sc (.slice none 0 0) => some (.sc (.pointer none))
  | .sm id _ 0 (_ + 1) => some (.pm id 0 0)
  | _ => none
theorem asliceData_sound {P : Program} {I : Nat → Prop} {w : World} {ρ : Places} {ts : Array TypeId} {ty : TypeId} {x y : AV} {v : Value} (hx : VRel I w ρ v x) (hy : asliceData x = some y) :
    ∃ u, (Builtin.unsafeSliceData_ ts ty #[v]).run P w = .ok u w ∧ VRel I w ρ u y := by
  unfold asliceData at hy; split at hy
  · cases hy; cases hx
    exact ⟨_, rfl, .sc⟩
  · rename_i id k len
    cases hy
    cases hx with
    | sm hp hcap hn =>
    rename_i b n cap; refine ⟨_, Lib.run_unsafeSliceData_row w ts ty _ _ _ (by omega), ?_⟩; have := VRel.pm (I := I) (w := w) (row := 0) (col := 0) hp; simpa using this
  cases hy
def astring (P : Program) (H : AH) (pt : TypeId) (p n : AV) : Option (AV × AH) :=
  match p, n with
  | .sc (.pointer none), .sc (.int .i64 0) => some (.sc (.string .empty), H)
  | .pm id 0 0, .sc (.int .i64 n) => match H[id]? with
    | some (.rows rs te) => match abytes (rs.take n.toNat) with
      | some ns => if isPtr (P.underlying pt) te && decide (P.cellsOf te = 1) && decide (0 < n) && decide (n.toNat ≤ rs.length) && decide (n ≤ 9223372036854775807) && ns.all (fun x => decide (0 ≤ x) && decide (x < 256)) then
          some (.sc (.string ⟨(ns.map fun x => UInt8.ofNat x.toNat).toArray⟩), H.set id .dead) else none
      | none => none
    | _ => none
  | _, _ => none
where
  isPtr : Option TypeDesc → TypeId → Bool
    | some (.pointer e), te => e == te
    | _, _ => false
theorem astring_sound {P : Program} {G : Glob} {I : Nat → Prop} {w : World} {ρ : Places} {H H' : AH} (hh : HRel G I w ρ H) {pt it ty : TypeId} {p n y : AV} {pv nv : Value} (hp : VRel I w ρ pv p) (hn : VRel I w ρ nv n) (hy : astring P H pt p n = some (y, H')) :
    ∃ u w', (Builtin.unsafeString_ #[pt, it] ty #[pv, nv]).run P w = .ok u w' ∧ HRel G I w' ρ H' ∧ Went I w ρ H I w' ρ H' ∧ VRel I w' ρ u y := by
  unfold astring at hy; split at hy
  · cases hy; cases hp; cases hn
    exact ⟨_, w, Lib.run_unsafeString_none w pt it ty none, hh, Went.refl, .sc⟩
  · rename_i id n; split at hy
    · rename_i rs te hid; split at hy
      · rename_i ns hns; split at hy
        · rename_i hcond
          cases hy
          simp only [Bool.and_eq_true, decide_eq_true_eq] at hcond; obtain ⟨⟨⟨⟨⟨hpt, hte⟩, hpos⟩, hle⟩, h63⟩, hby⟩ := hcond
          have hpt' : P.underlying pt = some (.pointer te) := by
            unfold astring.isPtr at hpt; split at hpt
            · rename_i e te' hu; rw [hu]; rw [beq_iff_eq] at hpt; rw [hpt]
            cases hpt
          cases hn
          cases hp with
          | pm hp =>
          rename_i b nn k; obtain ⟨hlt, hnI, ⟨cells, hg, hsz, hcell⟩, hlen, hk⟩ := hh.blk id _ _ hid rfl hp; simp only at hg hsz hlen hk hcell; have hrows := abytes_sound hns
          have hnl : ns.length = n.toNat := by
            have := congrArg List.length hrows; simp at this; omega
          have hk1 : k = 1 := by
            have h0 : rs.take n.toNat ≠ [] := by
              intro h; have hl2 := congrArg List.length h; rw [List.length_take, List.length_nil, Nat.min_eq_left hle] at hl2; omega
            obtain ⟨r0, hr0⟩ := List.exists_mem_of_ne_nil _ h0; have h1 := hk r0 (List.mem_of_mem_take hr0); rw [hrows] at hr0; obtain ⟨x, _, rfl⟩ := List.mem_map.1 hr0; simpa using h1.symm
          subst hk1
          let l : List UInt8 := ns.map fun x => UInt8.ofNat x.toNat
          have hll : l.length = n.toNat := by simp [l, hnl]
          have hsh : w.shape? b = some (te, cells.size) := by simp [World.shape?, hg]
          have hcl : ∀ j x, l[j]? = some x → w.cell? ((⟨b, 0, none⟩ : Addr).add j) = some (.int .u8 x.toNat) := by
            intro j x hj; have hjl := (List.getElem?_eq_some_iff.1 hj).1; have hjn : j < ns.length := by rw [hnl, ← hll]; exact hjl
            have hjx : x = UInt8.ofNat ns[j].toNat := by
              simp only [l, List.getElem?_map, List.getElem?_eq_getElem hjn, Option.map_some, Option.some.injEq] at hj; exact hj.symm
            have hrj : rs[j]? = some [.sc (.int .u8 ns[j])] := by
              have h1 : (rs.take n.toNat)[j]? = some [.sc (.int .u8 ns[j])] := by rw [hrows]; simp [hjn]
              rw [List.getElem?_take] at h1; split at h1
              exact h1
              cases h1
            have hc := hcell j 0 _ _ hrj rfl; rw [Nat.mul_one, Nat.add_zero] at hc; have hjc : j < cells.size := by rw [hsz]; omega
            rw [add_addr, Nat.zero_add]
            have e1 : cells.getD j undef = .int .u8 ns[j] := by
              have := hc.2; generalize cells.getD j undef = q at this
              cases this; rfl
            have hb := List.all_eq_true.1 hby ns[j] (List.getElem_mem hjn); simp only [Bool.and_eq_true, decide_eq_true_eq] at hb
            have e2 : ((UInt8.ofNat ns[j].toNat).toNat : Int) = ns[j] := by
              simp only [UInt8.toNat_ofNat']; omega
            rw [hjx, e2, ← e1]; simp [World.cell?, hg, Array.getD, hjc]
          have hrun := Lib.run_unsafeString_row (P := P) w pt it ty te hpt' hte b cells.size hsh l (by intro h; have := congrArg List.length h; rw [hll, List.length_nil] at this; omega) (by rw [hll, hsz]; omega) (by rw [hll]; omega) hcl; have hnn : (l.length : Int) = n := by rw [hll]; omega
          rw [hnn] at hrun; have hbz : (⟨b, 0 * 1 + 0, none⟩ : Addr) = ⟨b, 0, none⟩ := rfl; refine ⟨_, _, by simpa using hrun, ?_⟩
          have hwr := hh.write (w' := w.freeze ⟨b, 0, none⟩ l.length) (blk := .dead) hid rfl hp (fun b' hb' => by
            unfold World.freeze; split
            rfl; simp only [Array.getElem?_modify]
            rw [if_neg (fun h => hb' h.symm)]) (by unfold World.freeze; split <;> simp) (by unfold World.freeze; split <;> rfl) (by unfold World.freeze; split <;> rfl) (by unfold World.freeze; split <;> rfl) (fun _ => trivial)
          exact ⟨hwr.1, hwr.2, .sc⟩
        cases hy
      cases hy
    cases hy
  cases hy
end
section
def abuiltin (P : Program) (H : AH) (b : Builtin) (ats : List TypeId) (ty : TypeId) (args : List AV) : Option (AV × AH) :=
  match b, ats, args with
  | .len, [t], [x] => (alen P H t x).map fun (n : Nat) => (AV.sc (goInt (n : Int)), H)
  | .append, [t, xt], [s, x] => aappend P H t xt s x
  | .unsafeSliceData, _, [x] => (asliceData x).map (·, H)
  | .unsafeString, [pt, _], [p, n] => astring P H pt p n
  | .min, _, args => match scs args with
    | some vs => (val? (Builtin.min_ ats.toArray ty vs.toArray)).map fun v => (.sc v, H)
    | none => none
  | .max, _, args => match scs args with
    | some vs => (val? (Builtin.max_ ats.toArray ty vs.toArray)).map fun v => (.sc v, H)
    | none => none
  | _, _, _ => none
def astep (P : Program) (G : Glob) (st : ASt) (op : Op) (ty : TypeId) : Option (AV × AH) :=
  match op with
  | .move x | .assign x => some (st.ev G x, st.H)
  | .pick c a b => match st.ev G c with
    | .sc (.bool t) => some (if t then st.ev G a else st.ev G b, st.H)
    | _ => none
  | .alloc e => match azero P e with
    | some z => if z.cellsOk then some (.pm st.H.length 0 0, st.H ++ [.rows [z.cells] e]) else none
    | none => none
  | .box e x => if (st.ev G x).cellsOk then some (.pm st.H.length 0 0, st.H ++ [.rows [(st.ev G x).cells] e]) else none
  | .build t parts => (abuild P t (parts.toList.map fun p => (p.1, st.ev G p.2))).map (·, st.H)
  | .buildSlice t n parts => (abuildSlice P t n (parts.toList.map fun p => (p.1, st.ev G p.2))).map (·, st.H)
  | .load t a => (aload P st.H t (st.ev G a)).map (·, st.H)
  | .store t a x => (astore P st.H t (st.ev G a) (st.ev G x)).map (.any, ·)
  | .nilCheck x => (anil (st.ev G x)).map (·, st.H)
  | .binOp op t x y _ => (abin P op t x y (st.ev G x) (st.ev G y)).map (·, st.H)
  | .unOp op _ x => match st.ev G x with
    | .sc v => (val? (Op.unary op v)).map fun v => (.sc v, st.H)
    | _ => none
  | .convert s d x => (match aconvert P s d (st.ev G x) with | some y => some y | none => match abytesString P st.H s d (st.ev G x) with | some y => some y | none => aptr P st.H s d (st.ev G x)).map (·, st.H)
  | .makeInterface t x => match P.underlying t with
    | some (.interface _) | none => none
    | _ => some (.iface t (st.ev G x), st.H)
  | .makeFunc fn fs cs => some (.fn fn (fs.toList.map (st.ev G)) (cs.toList.map (st.ev G)), st.H)
  | .slice t x lo hi mx => (aslice P t (st.ev G x) (lo.map (st.ev G)) (hi.map (st.ev G)) (mx.map (st.ev G))).map (·, st.H)
  | .fieldAddr s x f => (afieldAddr P s f (st.ev G x)).map (·, st.H)
  | .field s x f => (afield P s f (st.ev G x)).map (·, st.H)
  | .indexAddr t x i => (aindexAddr P t (st.ev G x) (st.ev G i)).map (·, st.H)
  | .index t x i => (aindex P t (st.ev G x) (st.ev G i)).map (·, st.H)
  | .makeMap t r => amakeMap P st.H t (r.map (st.ev G))
  | .makeSlice t l c => amakeSlice P st.H t (st.ev G l) (st.ev G c)
  | .lookup t x i ok => (alookup P st.H t (st.ev G x) (st.ev G i) ok).map (·, st.H)
  | .mapUpdate t m k x => (amapUpdate P st.H t (st.ev G m) (st.ev G k) (st.ev G x)).map (.any, ·)
  | .insert t m k x => (amapUpdate P st.H t (st.ev G m) (st.ev G k) (st.ev G x)).map (.any, ·)
  | .mapEntry t m k => amapEntry P st.H t (st.ev G m) (st.ev G k)
  | .entryStore _ m s x => (aentryStore P st.H (st.ev G m) (st.ev G s) (st.ev G x)).map (.any, ·)
  | .range t x => arange P st.H t (st.ev G x)
  | .entry x => (aentry st.H (st.ev G x)).map (·, st.H)
  | .extract x i => match st.ev G x with
    | .tuple vs => (vs[i]?).map (·, st.H)
    | _ => none
  | .call { callee := .builtin b, args := args, argTypes := ats } => abuiltin P st.H b ats.toList ty (args.toList.map (st.ev G))
  | _ => none
theorem anil_sound {P : Program} {I : Nat → Prop} {w : World} {ρ : Places} {x y : AV} {v : Value} (hx : VRel I w ρ v x) (hy : anil x = some y) (o : Operand) (ev : Operand → Value) (he : ev o = v) (dst : Option Tmp) (ty : TypeId) (pos : String) (af : Array Edge) (g : Option (Nat × Bool)) :
    (execOp ev ⟨dst, .nilCheck o, ty, pos, af, g⟩).run P w = .ok (.value v) w ∧ VRel I w ρ v y := by
  subst he; unfold anil at hy; split at hy
  · cases hy
    refine ⟨?_, hx⟩; generalize hev : ev o = v at hx
    cases hx
    simp [execOp, hev]
  · cases hy
    refine ⟨?_, hx⟩; generalize hev : ev o = v at hx
    cases hx
    simp [execOp, hev]
  · cases hy
    refine ⟨?_, hx⟩; generalize hev : ev o = v at hx
    cases hx
    simp [execOp, hev]
  · cases hy
    refine ⟨?_, hx⟩; generalize hev : ev o = v at hx
    cases hx
    simp [execOp, hev]
  cases hy
theorem evs_sound {G : Glob} {B : Nat} {I : Nat → Prop} {w : World} {ρ : Places} {st : ASt} {a : Act} (h : SRel G B I w ρ st a) (xs : Array Operand) :
    (xs.map a.eval).size = (xs.toList.map (st.ev G)).length ∧ ∀ (i : Nat) (x : AV), (xs.toList.map (st.ev G))[i]? = some x → VRel I w ρ ((xs.map a.eval).getD i undef) x := by
  refine ⟨by simp, fun i x hx => ?_⟩; rw [List.getElem?_map] at hx
  cases ho : xs.toList[i]? with
  | none => rw [ho] at hx; cases hx
  | some o =>
    rw [ho] at hx
    cases hx
    rw [Array.getElem?_toList] at ho; rw [Array.getD_eq_getD_getElem?, Array.getElem?_map, ho]; exact h.ev o
theorem parts_sound {G : Glob} {B : Nat} {I : Nat → Prop} {w : World} {ρ : Places} {st : ASt} {a : Act} (h : SRel G B I w ρ st a) (parts : Array (Nat × Operand)) :
    (parts.map fun (i, x) => (i, a.eval x)).size = (parts.toList.map fun p => (p.1, st.ev G p.2)).length ∧
    ∀ (i : Nat) (p : Nat × AV) (u : Nat × Value), (parts.toList.map fun p => (p.1, st.ev G p.2))[i]? = some p → (parts.map fun (i, x) => (i, a.eval x)).toList[i]? = some u → u.1 = p.1 ∧ VRel I w ρ u.2 p.2 := by
  refine ⟨by simp, fun i p u hp hu => ?_⟩; rw [List.getElem?_map] at hp; rw [Array.getElem?_toList, Array.getElem?_map] at hu; rw [Array.getElem?_toList] at hp
  cases ho : parts[i]? with
  | none => rw [ho] at hp; cases hp
  | some o =>
    rw [ho] at hp hu
    cases hp
    cases hu
    exact ⟨rfl, h.ev o.2⟩
theorem opt_sound {G : Glob} {B : Nat} {I : Nat → Prop} {w : World} {ρ : Places} {st : ASt} {a : Act} (h : SRel G B I w ρ st a) (o : Option Operand) :
    (∀ x, o.map (st.ev G) = some x → ∃ v, o.map a.eval = some v ∧ VRel I w ρ v x) ∧ (o.map (st.ev G) = none → o.map a.eval = none) := by
  cases o with
  | none => exact ⟨fun x h => (by cases h), fun _ => rfl⟩
  | some o => exact ⟨fun x hx => (by cases hx; exact ⟨_, rfl, h.ev o⟩), fun h => (by cases h)⟩
theorem Done.pure {G : Glob} {I : Nat → Prop} {w : World} {ρ : Places} {H : AH} {P : Program} {s : Sem Next} {x : AV} (hh : HRel G I w ρ H) (h : ∃ v, s.run P w = .ok (.value v) w ∧ VRel I w ρ v x) : Done G I w ρ H (s.run P w) x H := by
  obtain ⟨v, h1, h2⟩ := h; exact ⟨v, w, ρ, I, .inl h1, hh, Went.refl, h2⟩
theorem abuiltin_sound {P : Program} {G : Glob} {I : Nat → Prop} {w : World} {ρ : Places} {H H' : AH} (hh : HRel G I w ρ H) {b : Builtin} {ats : Array TypeId} {ty : TypeId} {args : List AV} {vs : Array Value} {cs : Array Bool} {y : AV}
    (hl : vs.size = args.length) (hv : ∀ (i : Nat) (x : AV), args[i]? = some x → VRel I w ρ (vs.getD i undef) x) (hy : abuiltin P H b ats.toList ty args = some (y, H')) : Done G I w ρ H ((Go.builtin b ats ty cs vs).run P w) y H' := by
  obtain ⟨vs⟩ := vs; obtain ⟨ats⟩ := ats; simp only [List.size_toArray] at hl; unfold abuiltin at hy; split at hy
  · rename_i t x he; obtain ⟨n, h1, h2⟩ := map_some hy
    cases h2
    simp only at he; subst he
    match vs, hl with
    | [v], _ =>
      have hx : VRel I w ρ v x := hv 0 x rfl; exact ⟨goInt n, w, ρ, I, .inl (by simp [Go.builtin, alen_sound hh hx h1]), hh, Went.refl, .sc⟩
  · rename_i t xt s x he; simp only at he; subst he
    match vs, hl with
    | [v, u], _ =>
      have hs : VRel I w ρ v s := hv 0 s rfl; have hx : VRel I w ρ u x := hv 1 x rfl; obtain ⟨r, w', ρ', h1, h2, h3, h4⟩ := aappend_sound (ty := ty) hh hs hx hy; exact ⟨r, w', ρ', I, .inl (by simp [Go.builtin, h1]), h2, h3, h4⟩
  · rename_i x
    match vs, hl with
    | [v], _ =>
      have hx : VRel I w ρ v x := hv 0 x rfl; obtain ⟨u, h1, h2⟩ := map_some hy
      cases h2
      obtain ⟨r, g1, g2⟩ := asliceData_sound (P := P) (ts := ats.toArray) (ty := ty) hx h1; exact ⟨r, w, ρ, I, .inl (by simp [Go.builtin, g1]), hh, Went.refl, g2⟩
  · rename_i pt it p n he; simp only at he; subst he
    match vs, hl with
    | [v, u], _ =>
      have hs : VRel I w ρ v p := hv 0 p rfl; have hx : VRel I w ρ u n := hv 1 n rfl; obtain ⟨r, w', h1, h2, h3, h4⟩ := astring_sound (P := P) (it := it) (ty := ty) hh hs hx hy; exact ⟨r, w', ρ, I, .inl (by simp [Go.builtin, h1]), h2, h3, h4⟩
  · split at hy
    · rename_i us hs; obtain ⟨v, h1, h2⟩ := map_some hy
      cases h2
      have := scs_sound _ vs us hs hl (fun i x hx => by simpa using hv i x hx); subst this; exact ⟨v, w, ρ, I, .inl (by simp [Go.builtin, run_val h1]), hh, Went.refl, .sc⟩
    cases hy
  · split at hy
    · rename_i us hs; obtain ⟨v, h1, h2⟩ := map_some hy
      cases h2
      have := scs_sound _ vs us hs hl (fun i x hx => by simpa using hv i x hx); subst this; exact ⟨v, w, ρ, I, .inl (by simp [Go.builtin, run_val h1]), hh, Went.refl, .sc⟩
    cases hy
  cases hy
set_option maxHeartbeats 1000000 in
theorem astep_sound {P : Program} {G : Glob} {B : Nat} {I : Nat → Prop} {w : World} {ρ : Places} {st : ASt} {a : Act} (h : SRel G B I w ρ st a) {o : Oper} {y : AV} {H' : AH} (hy : astep P G st o.op o.type = some (y, H')) :
    Done G I w ρ st.H ((execOp a.eval o).run P w) y H' := by
  obtain ⟨dst, op, ty, pos, af, g⟩ := o; simp only at hy; have hh := h.heap; unfold astep at hy; split at hy
  cases hy; exact Done.pure hh ⟨_, by simp [execOp], h.ev _⟩
  cases hy; exact Done.pure hh ⟨_, by simp [execOp], h.ev _⟩
  · rename_i c x z; split at hy
    · rename_i t he
      cases hy
      have hc := h.ev c; rw [he] at hc; generalize hev : a.eval c = vc at hc
      cases hc
      refine Done.pure hh ⟨if t then a.eval x else a.eval z, by simp [execOp, hev, asBool], ?_⟩
      cases t <;> exact h.ev _
    cases hy
  · rename_i e; split at hy
    · rename_i z hz; split at hy
      · rename_i hok
        cases hy
        obtain ⟨v, h1, h2⟩ := azero_sound (P := P) (I := I) (w := w) (w' := w) (ρ := ρ) hz; obtain ⟨u, w', ρ', I', g1, g2, g3, g4⟩ := newVar_done (P := P) hh (e := e) h2 hok; exact ⟨u, w', ρ', I', .inl (by simp only [Sem.run_bind, Sem.run_pure] at g1; simp only [execOp, Instr.alloc, Sem.run_bind, h1, Result.andThen, Sem.run_pure]; generalize (newVar e v).run P w = r at g1 ⊢; cases r <;> simp_all [Result.andThen]), g2, g3, g4⟩
      cases hy
    cases hy
  · rename_i e x; split at hy
    · rename_i hok
      cases hy
      obtain ⟨u, w', ρ', I', g1, g2, g3, g4⟩ := newVar_done (P := P) hh (e := e) (h.ev x) hok; exact ⟨u, w', ρ', I', .inl (by simp only [Sem.run_bind, Sem.run_pure] at g1; simp only [execOp, Instr.box, Sem.run_bind, Result.andThen, Sem.run_pure]; generalize (newVar e _).run P w = r at g1 ⊢; cases r <;> simp_all [Result.andThen]), g2, g3, g4⟩
    cases hy
  · rename_i t parts; obtain ⟨u, h1, h2⟩ := map_some hy
    cases h2
    obtain ⟨hl, hp⟩ := parts_sound h parts; obtain ⟨v, g1, g2⟩ := abuild_sound (P := P) (w := w) h1 hl hp; exact Done.pure hh ⟨v, by simp [execOp, g1], g2⟩
  · rename_i t n parts; obtain ⟨u, h1, h2⟩ := map_some hy
    cases h2
    obtain ⟨hl, hp⟩ := parts_sound h parts; obtain ⟨v, w', I', g1, g2, g3, g4⟩ := abuildSlice_sound (P := P) hh h1 hl hp; exact ⟨v, w', ρ, I', .inl (by simp [execOp, g1]), g2, g3, g4⟩
  · rename_i t x; obtain ⟨u, h1, h2⟩ := map_some hy
    cases h2
    obtain ⟨v, g1, g2⟩ := aload_sound (P := P) hh (h.ev x) h1; exact Done.pure hh ⟨v, by simp [execOp, g1], g2⟩
  · rename_i t x z; obtain ⟨u, h1, h2⟩ := map_some hy
    cases h2
    obtain ⟨w', g1, g2, g3⟩ := astore_sound (P := P) hh (h.ev x) (h.ev z) h1; exact ⟨undef, w', ρ, I, .inr ⟨by simp [execOp, g1], rfl⟩, g2, g3, .any⟩
  · rename_i x; obtain ⟨u, h1, h2⟩ := map_some hy
    cases h2
    obtain ⟨g1, g2⟩ := anil_sound (P := P) (h.ev x) h1 x a.eval rfl dst ty pos af g; exact Done.pure hh ⟨_, g1, g2⟩
  · rename_i op t x z _; obtain ⟨u, h1, h2⟩ := map_some hy
    cases h2
    obtain ⟨v, g1, g2⟩ := abin_sound (P := P) (xo := x) (yo := z) (h.ev x) (h.ev z) h1; refine Done.pure hh ⟨v, ?_, g2⟩; simp only [execOp]; rw [Sem.run_bind, g1]; rfl
  · rename_i op _ x; split at hy
    · rename_i v he; obtain ⟨u, h1, h2⟩ := map_some hy
      cases h2
      have hx := h.ev x; rw [he] at hx; generalize hev : a.eval x = vx at hx
      cases hx
      exact Done.pure hh ⟨u, by simp [execOp, hev, run_val h1], .sc⟩
    cases hy
  · rename_i s d x; obtain ⟨u, h1, h2⟩ := map_some hy
    cases h2
    split at h1
    · rename_i y' hy'
      cases h1
      obtain ⟨v, g1, g2⟩ := aconvert_sound (P := P) (w := w) (h.ev x) hy'; exact Done.pure hh ⟨v, by simp [execOp, g1], g2⟩
    split at h1
    · rename_i y' hy'
      cases h1
      obtain ⟨v, g1, g2⟩ := abytesString_sound (P := P) hh (h.ev x) hy'; exact Done.pure hh ⟨v, by simp [execOp, g1], g2⟩
    obtain ⟨v, g1, g2⟩ := aptr_sound (P := P) hh (h.ev x) h1; exact Done.pure hh ⟨v, by simp [execOp, g1], g2⟩
  · rename_i t x; split at hy
    cases hy
    cases hy
    rename_i hni hnn
    cases hy
    cases hu : P.underlying t with
    | none => exact absurd hu hnn
    | some d =>
      refine Done.pure hh ⟨.iface t (a.eval x), ?_, .iface (h.ev x)⟩
      cases d <;> first | exact absurd hu (hni _) | simp [execOp, Instr.makeInterface, run_underlying hu]
  · rename_i fn fs cs
    cases hy
    obtain ⟨l1, v1⟩ := evs_sound h fs; obtain ⟨l2, v2⟩ := evs_sound h cs; exact Done.pure hh ⟨.func fn (fs.map a.eval) (cs.map a.eval), by simp [execOp, Instr.makeFunc], .fn l1 l2 v1 v2⟩
  · rename_i t x lo hi mx; obtain ⟨u, h1, h2⟩ := map_some hy
    cases h2
    obtain ⟨v, g1, g2⟩ := aslice_sound (P := P) (h.ev x) (opt_sound h lo).1 (opt_sound h lo).2 (opt_sound h hi).1 (opt_sound h hi).2 (opt_sound h mx).1 (opt_sound h mx).2 h1; exact Done.pure hh ⟨v, by simp [execOp, g1], g2⟩
  · rename_i s x f; obtain ⟨u, h1, h2⟩ := map_some hy
    cases h2
    obtain ⟨v, g1, g2⟩ := afieldAddr_sound (P := P) (h.ev x) h1; exact Done.pure hh ⟨v, by simp [execOp, g1], g2⟩
  · rename_i s x f; obtain ⟨u, h1, h2⟩ := map_some hy
    cases h2
    obtain ⟨v, g1, g2⟩ := afield_sound (P := P) (h.ev x) h1; exact Done.pure hh ⟨v, by simp [execOp, g1], g2⟩
  · rename_i t x i; obtain ⟨u, h1, h2⟩ := map_some hy
    cases h2
    obtain ⟨v, g1, g2⟩ := aindexAddr_sound (P := P) (h.ev x) (h.ev i) h1; exact Done.pure hh ⟨v, by simp [execOp, g1], g2⟩
  · rename_i t x i; obtain ⟨u, h1, h2⟩ := map_some hy
    cases h2
    obtain ⟨v, g1, g2⟩ := aindex_sound (P := P) (h.ev x) (h.ev i) h1; exact Done.pure hh ⟨v, by simp [execOp, g1], g2⟩
  · rename_i t r; obtain ⟨u, w', ρ', g1, g2, g3, g4⟩ := amakeMap_sound (P := P) hh (opt_sound h r).1 (opt_sound h r).2 hy; exact ⟨u, w', ρ', I, .inl (by simp [execOp, g1]), g2, g3, g4⟩
  · rename_i t l c; obtain ⟨u, w', ρ', g1, g2, g3, g4⟩ := amakeSlice_sound (P := P) hh (h.ev l) (h.ev c) hy; exact ⟨u, w', ρ', I, .inl (by simp [execOp, g1]), g2, g3, g4⟩
  · rename_i t x i ok; obtain ⟨u, h1, h2⟩ := map_some hy
    cases h2
    obtain ⟨v, g1, g2⟩ := alookup_sound (P := P) hh (h.ev x) (h.ev i) h1; exact Done.pure hh ⟨v, by simp [execOp, g1], g2⟩
  · rename_i t m k x; obtain ⟨u, h1, h2⟩ := map_some hy
    cases h2
    obtain ⟨w', g1, g2, g3⟩ := amapUpdate_sound (P := P) hh (h.ev m) (h.ev k) (h.ev x) h1; exact ⟨undef, w', ρ, I, .inr ⟨by simp [execOp, g1], rfl⟩, g2, g3, .any⟩
  · rename_i t m k x; obtain ⟨u, h1, h2⟩ := map_some hy
    cases h2
    obtain ⟨w', g1, g2, g3⟩ := amapUpdate_sound (P := P) hh (h.ev m) (h.ev k) (h.ev x) h1; exact ⟨undef, w', ρ, I, .inr ⟨by simp [execOp, g1], rfl⟩, g2, g3, .any⟩
  · rename_i t m k; obtain ⟨u, w', g1, g2, g3, g4⟩ := amapEntry_sound (P := P) hh (h.ev m) (h.ev k) hy; exact ⟨u, w', ρ, I, .inl (by simp [execOp, g1]), g2, g3, g4⟩
  · rename_i t m s x; obtain ⟨u, h1, h2⟩ := map_some hy
    cases h2
    obtain ⟨w', g1, g2, g3⟩ := aentryStore_sound (P := P) (t := t) hh (h.ev m) (h.ev s) (h.ev x) h1; exact ⟨undef, w', ρ, I, .inr ⟨by simp [execOp, g1], rfl⟩, g2, g3, .any⟩
  · rename_i t x; obtain ⟨u, w', ρ', g1, g2, g3, g4⟩ := arange_sound (P := P) hh (h.ev x) hy; exact ⟨u, w', ρ', I, .inl (by simp [execOp, g1]), g2, g3, g4⟩
  · rename_i x; obtain ⟨u, h1, h2⟩ := map_some hy
    cases h2
    obtain ⟨v, g1, g2⟩ := aentry_sound (P := P) hh (h.ev x) h1; exact Done.pure hh ⟨v, by simp [execOp, g1], g2⟩
  · rename_i x i; split at hy
    · rename_i vs he; obtain ⟨u, h1, h2⟩ := map_some hy
      cases h2
      have hx := h.ev x; rw [he] at hx; generalize hev : a.eval x = vx at hx
      cases hx with
      | tuple hl hv =>
      rename_i cs; have hi : i < cs.size := by rw [hl]; exact (List.getElem?_eq_some_iff.1 h1).1
      refine Done.pure hh ⟨cs.getD i undef, ?_, hv i _ h1⟩; have : cs[i]? = some (cs.getD i undef) := by simp [Array.getD, hi]
      simp only [execOp, hev, Instr.extract]; rw [this]; rfl
    cases hy
  · rename_i b args ats; obtain ⟨l1, v1⟩ := evs_sound h args; exact abuiltin_sound (P := P) hh l1 v1 hy
  cases hy
end
end Go.Proofs.Ax
