import Derived.Test.YtedekogkeamacaaGreatDoorCcAK
namespace Go.Proofs.Ax
open Go Go.Proofs Go.Proofs.Cu Go.Proofs.Tx Go.Sort
set_option maxRecDepth 10000
set_option maxHeartbeats 4000000
def s5 : List Bs → AV
  | [x] => .sl 1 true [txR x]
  | L => .sm 1 1 0 L.length
def b1 : List Bs → ABlk
  | [_] => .rows [] 9
  | L => .rows (L.map txR) 9
abbrev flat (l : List Bs) : Bs := l.flatMap fun w => 32 :: w
theorem join_flat (p : Bs) : ∀ l : List Bs, joinAt 32 (p :: l) = p ++ flat l
  | [] => by simp [flat, joinAt]
  | n :: r => by
    show p ++ 32 :: joinAt 32 (n :: r) = _; rw [join_flat n r]; rfl
def persT (p : Pers) (j : Nat) : Bs := lineW wPe [p.id] ++ flat ((p.duty.take j).map spanW)
theorem persT_all (p : Pers) : persT p p.duty.length = joinAt 32 (persW p) := by
  unfold persT persW lineW; rw [List.take_length, join_flat]; simp [flat]
theorem persT_succ {p : Pers} {j : Nat} (h : j < p.duty.length) : persT p (j + 1) = persT p j ++ ([32] ++ spanW p.duty[j]) := by
  unfold persT; rw [take_succ_snoc h, List.map_append, List.append_assoc]; simp [flat]
theorem duty_num : ∀ {l : List Spn} {h : Option Int}, dutyOk h l = true → ∀ s ∈ l, numU s.lo ∧ numU s.hi
  | [], _, _, s, hs => absurd hs List.not_mem_nil
  | a :: r, h, hd, s, hs => by
    unfold dutyOk at hd; simp only [Bool.and_eq_true] at hd
    rcases List.mem_cons.1 hs with rfl | hs
    · have := validS_iff.1 hd.1.1; have hm : maxTime = 1073741823 := rfl; unfold numU; omega
    exact duty_num hd.2 s hs
theorem pers_num {p : Pers} (h : persOk p = true) : numU p.id ∧ p.duty.length ≤ 6 ∧ ∀ s ∈ p.duty, numU s.lo ∧ numU s.hi := by
  have h1 := pers_parts h; unfold persOk at h; simp only [Bool.and_eq_true] at h; exact ⟨by unfold numU; omega, h1.2, duty_num h.1.1⟩
theorem persT_len {p : Pers} (h : persOk p = true) (j : Nat) : (persT p j).length ≤ 500 := by
  obtain ⟨h1, h2, h3⟩ := pers_num h; unfold persT; rw [List.length_append]; have e1 := lineW_len wPe [p.id] (fun n hn => by rw [List.mem_singleton.1 hn]; exact h1)
  have e2 : (flat ((p.duty.take j).map spanW)).length ≤ 28 * (p.duty.take j).length := by
    have gen : ∀ l : List Spn, (∀ s ∈ l, numU s.lo ∧ numU s.hi) → (flat (l.map spanW)).length ≤ 28 * l.length := by
      intro l
      induction l with
      | nil => intro _; simp [flat]
      | cons s r ih =>
        intro hl; have a1 := span_len (hl s List.mem_cons_self)
        have a2 := ih fun t ht => hl t (List.mem_cons_of_mem _ ht)
        simp only [flat, List.map_cons, List.flatMap_cons, List.length_append, List.length_cons] at a2 ⊢; omega
    exact gen _ fun s hs => h3 s (List.mem_of_mem_take hs)
  rw [List.length_take] at e2; have e3 : wPe.length = 6 := rfl; simp only [List.length_singleton] at e1; omega
theorem known_num {c : Book} (h : c.ok) {n : Int} (hn : knownP c.people n = true) : numU n := by
  unfold knownP at hn; obtain ⟨p, hp, hq⟩ := List.any_eq_true.1 hn; have := (pers_num (h.pers p hp)).1; have e : p.id = n := by simpa using hq
  rw [← e]; exact this
theorem hangs_num {c : Book} (h : c.ok) {n : Int} (hn : hangsP c.people n = true) : numU n := by
  unfold hangsP at hn
  rcases Bool.or_eq_true_iff.1 hn with hn | hn
  · have : n = 0 := by simpa using hn
    unfold numU; omega
  exact known_num h hn
def entL (e : Entr) : Bs × List Int :=
  if e.kind = 1 then (wPa, [e.id, e.key, e.src, e.dst])
  else if e.kind = 2 then (wCo, [e.id, e.key, e.src])
  else if e.kind = 3 then (wLo, [e.id, e.key, e.src])
  else (wFi, [e.id, e.key, e.dst])
theorem entr_join (e : Entr) : joinAt 32 (entrW e) = lineW (entL e).1 (entL e).2 ++ [32] ++ spanW e.at_ := by
  unfold entrW entL
  repeat' split
  all_goals rw [join_flat]; simp [lineW, flat]
theorem entr_num {c : Book} (h : c.ok) {e : Entr} (he : e ∈ c.entries) : (∀ n ∈ (entL e).2, numU n) ∧ (entL e).1.length = 4 ∧ (entL e).2.length ≤ 4 ∧ (numU e.at_.lo ∧ numU e.at_.hi) ∧ (e.kind = 1 ∨ e.kind = 2 ∨ e.kind = 3 ∨ e.kind = 4) := by
  obtain ⟨h1, h2, h3, h4⟩ := entr_parts (h.entr e he); have hm : maxTime = 1073741823 := rfl
  have hkey : numU e.key := by
    have := h.keys _ h2; unfold idOk at this; have := of_decide_eq_true this; unfold numU; omega
  have hid : numU e.id := by unfold numU; omega
  have hsp : numU e.at_.lo ∧ numU e.at_.hi := by unfold numU; omega
  unfold Cu.kindOk at h4; unfold entL
  repeat' split at h4
  · rename_i hk; simp only [Bool.and_eq_true, decide_eq_true_eq] at h4; rw [if_pos hk]; refine ⟨fun n hn => ?_, rfl, by simp, hsp, .inl hk⟩; simp only [List.mem_cons, List.not_mem_nil, or_false] at hn
    rcases hn with rfl | rfl | rfl | rfl
    exact hid; exact hkey; exact hangs_num h h4.1.2; exact hangs_num h h4.2
  · rename_i hn1 hk; simp only [Bool.and_eq_true, decide_eq_true_eq] at h4; rw [if_neg hn1, if_pos hk]; refine ⟨fun n hn => ?_, rfl, by simp, hsp, .inr (.inl hk)⟩; simp only [List.mem_cons, List.not_mem_nil, or_false] at hn
    rcases hn with rfl | rfl | rfl
    exact hid; exact hkey; exact known_num h h4.1
  · rename_i hn1 hn2 hk; simp only [Bool.and_eq_true, decide_eq_true_eq] at h4; rw [if_neg hn1, if_neg hn2, if_pos hk]; refine ⟨fun n hn => ?_, rfl, by simp, hsp, .inr (.inr (.inl hk))⟩; simp only [List.mem_cons, List.not_mem_nil, or_false] at hn
    rcases hn with rfl | rfl | rfl
    exact hid; exact hkey; exact hangs_num h h4.1
  · rename_i hn1 hn2 hn3 hk; simp only [Bool.and_eq_true, decide_eq_true_eq] at h4; rw [if_neg hn1, if_neg hn2, if_neg hn3]; refine ⟨fun n hn => ?_, rfl, by simp, hsp, .inr (.inr (.inr hk))⟩; simp only [List.mem_cons, List.not_mem_nil, or_false] at hn
    rcases hn with rfl | rfl | rfl
    exact hid; exact hkey; exact hangs_num h h4.1
  cases h4
theorem entr_len {c : Book} (h : c.ok) {e : Entr} (he : e ∈ c.entries) : (joinAt 32 (entrW e)).length ≤ 500 := by
  obtain ⟨h1, h2, h3, h4, -⟩ := entr_num h he; have e1 := lineW_len (entL e).1 (entL e).2 h1; have e2 := span_len h4; rw [entr_join]; simp only [List.length_append, List.length_singleton]; omega
theorem key_join (k : Int) : joinAt 32 (keyW k) = lineW wKe [k] := by simp [keyW, join_flat, lineW, flat]
theorem key_num {c : Book} (h : c.ok) {k : Int} (hk : k ∈ c.keys) : numU k := by
  have := h.keys _ hk; unfold idOk at this; have := of_decide_eq_true this; unfold numU; omega
theorem lines_len {c : Book} (h : c.ok) : ∀ l ∈ (bookW c).map (joinAt 32), l.length ≤ 500 := by
  intro l hl; obtain ⟨ws, hw, rfl⟩ := List.mem_map.1 hl; unfold bookW at hw; simp only [List.mem_append, List.mem_singleton, List.mem_map] at hw
  rcases hw with ((rfl | ⟨p, hp, rfl⟩) | ⟨k, hk, rfl⟩) | ⟨e, he, rfl⟩
  · have e : joinAt 32 [wCu, Lib.itoa c.gaps] = lineW wCu [c.gaps] := by simp [join_flat, lineW, flat]
    rw [e]; have := lineW_len wCu [c.gaps] (fun n hn => by rw [List.mem_singleton.1 hn]; have := h.gaps; exact ⟨by omega, by omega⟩); have e3 : wCu.length = 7 := rfl; simp only [List.length_singleton] at this; omega
  rw [← persT_all]; exact persT_len (h.pers p hp) _
  · rw [key_join]; have := lineW_len wKe [k] (fun n hn => by rw [List.mem_singleton.1 hn]; exact key_num h hk); have e3 : wKe.length = 3 := rfl; simp only [List.length_singleton] at this; omega
  exact entr_len h he
theorem flat_len : ∀ {L : List Bs}, (∀ l ∈ L, l.length ≤ 500) → (L.flatMap fun l => l ++ [10]).length ≤ 501 * L.length
  | [], _ => by simp
  | x :: r, h => by
    have h1 := h x List.mem_cons_self
    have h2 := flat_len fun l hl => h l (List.mem_cons_of_mem _ hl)
    simp only [List.flatMap_cons, List.length_append, List.length_cons, List.length_nil] at h2 ⊢; omega
theorem s5_cases {o : List Bs} (h : o ≠ []) : (∃ x, o = [x]) ∨ ∃ x y r, o = x :: y :: r := by
  match o, h with
  | [x], _ => exact .inl ⟨x, rfl⟩
  | x :: y :: r, _ => exact .inr ⟨x, y, r, rfl⟩
def printF (c : Book) : ByteArray × Int := if checkE c ≠ 0 then (tx [], checkE c) else (tx (bookT c), 0)
def textV (r : ByteArray × Int) : AV := .tuple [vs r.1, vi r.2]
theorem print_ok {c : Book} (hc : BkS c) : Pu Tryz.prog G1 63 [bookV c] (textV (printF c)) := by
  have hck := hc.check; unfold printF; by_cases h0 : checkE c = 0
  · rw [if_neg (by simpa using h0)]; rw [h0] at hck; have hok := (check_ok c).1 h0; have hpl := hok.lens.1; have hkl := hok.lens.2.1; have hel := hok.lens.2.2; have hl0 : Pu Tryz.prog G1 112 [.sc (.string ⟨#[99, 117, 115, 116, 111, 100, 121]⟩), .sl 1 true [[vi c.gaps]]] (vs (tx (lineW wCu [c.gaps]))) := (line_ok wCu (by decide) [c.gaps] (fun n hn => by rw [List.mem_singleton.1 hn]; have := hok.gaps; exact ⟨by omega, by omega⟩) (by simp)).wk ⟨WkC.refl _, WkC.loose _ _, trivial⟩
    have hgl : (lineW wCu [c.gaps]).length ≤ 500 := by
      have := lineW_len wCu [c.gaps] (fun n hn => by rw [List.mem_singleton.1 hn]; have := hok.gaps; exact ⟨by omega, by omega⟩); have e3 : wCu.length = 7 := rfl; simp only [List.length_singleton] at this; omega
    refine Qf 133 Tryz.func63 rfl rfl ?_
    repeat' ((conv => whnf); first | refine vv2 ?_ | refine vv21 ?_ | refine vv23 ?_ | refine Qp hck ?_ | refine Qp hl0 ?_)
    refine LoopN.re (Reabs.more 9) ?_; have hne0 : [lineW wCu [c.gaps]] ≠ [] := by simp
    refine LoopN.of2 (tryd_okm 0 _) (fun (k : Nat) (o : List Bs) => [(1, .pm 0 0 0), (5, s5 o), (27, persons c.people), (28, vi c.people.length), (29, vi k)]) (fun k o => [.rows [bookC c] 26, b1 o]) (fun k o => c.people.length - k) (fun k o => k ≤ c.people.length ∧ o = [lineW wCu [c.gaps]] ++ (c.people.take k).map fun p => joinAt 32 (persW p)) 0 [lineW wCu [c.gaps]] ⟨Nat.zero_le _, by simp⟩ (QM [0, 1] (hb := bv1 (Ql rfl (blkDeep rfl (deepAll rfl)) bv0))) ?_; rintro k o ⟨hk, ho⟩; have hne : o ≠ [] := by rw [ho]; simp
    by_cases hlt : k < c.people.length
    · have hst : o ++ [joinAt 32 (persW c.people[k])] = [lineW wCu [c.gaps]] ++ (c.people.take (k + 1)).map fun p => joinAt 32 (persW p) := by rw [ho, take_succ_snoc hlt, List.map_append, List.append_assoc]; rfl
      have hpo := hok.pers _ (List.getElem_mem hlt); have hol : o.length ≤ 100 := by rw [ho]; have := hok.lens; simp; omega
      have hpt := persT_len hpo; obtain ⟨hp1, hp2, hp3⟩ := pers_num hpo; have hall := persT_all c.people[k]
      have hsuc := fun (j : Nat) (h : j < c.people[k].duty.length) => persT_succ h
      have hl1 : Pu Tryz.prog G1 112 [.sc (.string ⟨#[112, 101, 114, 115, 111, 110]⟩), .sl 1 true [[vi c.people[k].id]]] (vs (tx (persT c.people[k] 0))) := by
        have e : persT c.people[k] 0 = lineW wPe [c.people[k].id] := by simp [persT, flat]
        rw [e]; exact (line_ok wPe (by decide) [c.people[k].id] (fun n hn => by rw [List.mem_singleton.1 hn]; exact hp1) (by simp)).wk ⟨WkC.refl _, WkC.loose _ _, trivial⟩
      clear ho
      rcases s5_cases hne with ⟨x, rfl⟩ | ⟨x, y, r, rfl⟩
      · repeat' ((conv => whnf); first | refine SlIdxN.map k rfl hlt ?_ | refine vv7 ?_ | refine vv21 ?_ | refine vv22 ?_ | refine vv23 ?_ | refine Qp hl1 ?_)
        refine LoopN.of Qt (fun j : Nat => [(1, .pm 0 0 0), (5, .sl 1 true [txR x]), (8, vs (tx (persT c.people[k] j))), (27, persons c.people), (28, vi c.people.length), (29, vi k), (38, spans c.people[k].duty), (39, vi c.people[k].duty.length), (40, vi j)]) (fun j => [.rows [bookC c] 26, .rows [] 9]) (fun j => c.people[k].duty.length - j) (fun j => j ≤ c.people[k].duty.length) 0 (Nat.zero_le _) (QM [0, 1] (hb := bv1 (Ql rfl (blkDeep rfl (deepAll rfl)) bv0))) ?_; intro j hj; by_cases hjl : j < c.people[k].duty.length
        · have hs := hp3 _ (List.getElem_mem hjl); have hsp := span_ok c.people[k].duty[j] hs; have e1 := span_len hs; have e2 := hpt j; have e3 := hsuc j hjl; generalize persT c.people[k] j = W at *; have z1 := tx_size W; have z2 := tx_size (spanW c.people[k].duty[j]); have z3 : (⟨#[32]⟩ : ByteArray).size = 1 := rfl; have hap : tx W ++ (⟨#[32]⟩ ++ tx (spanW c.people[k].duty[j])) = tx (persT c.people[k] (j + 1)) := by rw [e3, show (⟨#[32]⟩ : ByteArray) = tx [32] from rfl, tx_append, tx_append]
          have z4 : ((⟨#[32]⟩ : ByteArray) ++ tx (spanW c.people[k].duty[j])).size = 1 + (tx (spanW c.people[k].duty[j])).size := ByteArray.size_append
          repeat' ((conv => whnf); first | refine SlIdxN.map j rfl hjl ?_ | refine vv7 ?_ | refine vv20 ?_ | refine vv21 ?_ | refine vv22 ?_ | refine Need.mk (by first | assumption | omega | (simp <;> omega)) ?_ | refine Qp hsp ?_)
          exact Qb (j + 1) (QM [0, 1] (hs := by rw [← hap]; exact (by repeat (first | exact sv0 | refine sv1 ?_ | refine sv2 ?_ | refine sv3 ?_))) (hb := bv1 (Ql rfl (blkDeep rfl (deepAll rfl)) bv0)))
        obtain rfl : j = c.people[k].duty.length := by omega
        rw [hall]
        repeat' ((conv => whnf); first | refine Qn 2 ?_ | refine vv8 ?_ | refine vv20 ?_ | refine Need.mk (by first | assumption | omega | (simp <;> omega)) ?_)
        exact BackN2.mk (k + 1) _ ⟨by omega, hst⟩ (by omega) (QM [0, 2] (hb := bv1 (Ql rfl (blkDeep rfl (deepAll rfl)) bv0)))
      repeat' ((conv => whnf); first | refine SlIdxN.map k rfl hlt ?_ | refine vv7 ?_ | refine vv21 ?_ | refine vv22 ?_ | refine vv23 ?_ | refine Qp hl1 ?_)
      refine LoopN.of Qt (fun j : Nat => [(1, .pm 0 0 0), (5, .sm 1 1 0 (x :: y :: r).length), (8, vs (tx (persT c.people[k] j))), (27, persons c.people), (28, vi c.people.length), (29, vi k), (38, spans c.people[k].duty), (39, vi c.people[k].duty.length), (40, vi j)]) (fun j => [.rows [bookC c] 26, .rows ((x :: y :: r).map txR) 9]) (fun j => c.people[k].duty.length - j) (fun j => j ≤ c.people[k].duty.length) 0 (Nat.zero_le _) (QM [0, 1] (hb := bv1 (Ql rfl (blkDeep rfl (deepR (fun _ => rfl))) bv0))) ?_; intro j hj; by_cases hjl : j < c.people[k].duty.length
      · have hs := hp3 _ (List.getElem_mem hjl); have hsp := span_ok c.people[k].duty[j] hs; have e1 := span_len hs; have e2 := hpt j; have e3 := hsuc j hjl; generalize persT c.people[k] j = W at *; have z1 := tx_size W; have z2 := tx_size (spanW c.people[k].duty[j]); have z3 : (⟨#[32]⟩ : ByteArray).size = 1 := rfl; have hap : tx W ++ (⟨#[32]⟩ ++ tx (spanW c.people[k].duty[j])) = tx (persT c.people[k] (j + 1)) := by rw [e3, show (⟨#[32]⟩ : ByteArray) = tx [32] from rfl, tx_append, tx_append]
        have z4 : ((⟨#[32]⟩ : ByteArray) ++ tx (spanW c.people[k].duty[j])).size = 1 + (tx (spanW c.people[k].duty[j])).size := ByteArray.size_append
        repeat' ((conv => whnf); first | refine SlIdxN.map j rfl hjl ?_ | refine vv7 ?_ | refine vv20 ?_ | refine vv21 ?_ | refine vv22 ?_ | refine Need.mk (by first | assumption | omega | (simp <;> omega)) ?_ | refine Qp hsp ?_)
        exact Qb (j + 1) (QM [0, 1] (hs := by rw [← hap]; exact (by repeat (first | exact sv0 | refine sv1 ?_ | refine sv2 ?_ | refine sv3 ?_))) (hb := bv1 (Ql rfl (blkDeep rfl (deepR (fun _ => rfl))) bv0)))
      obtain rfl : j = c.people[k].duty.length := by omega
      rw [hall]
      repeat' ((conv => whnf); first | refine Qn ((x :: y :: r).length + 1) ?_ | refine vv8 ?_ | refine vv20 ?_ | refine vv31 ?_)
      exact BackN2.mk (k + 1) _ ⟨by omega, hst⟩ (by omega) (QM [0, 2] (hb := bv1 (Ql rfl (blkDeep (by show _ = ABlk.rows (((x :: y :: r) ++ [_]).map txR) 9; rw [List.map_append]; rfl) (deepMap (fun _ => rfl))) bv0)))
    obtain rfl : k = c.people.length := by omega
    rw [List.take_length] at ho
    (conv => whnf); repeat' (first | refine vv8 ?_ | refine vv21 ?_ | refine vv23 ?_) <;> conv => whnf
    refine LoopN.of2 (tryd_okm 0 _) (fun (k : Nat) (o : List Bs) => [(1, .pm 0 0 0), (5, s5 o), (56, ints c.keys), (57, vi c.keys.length), (58, vi k)]) (fun k o => [.rows [bookC c] 26, b1 o]) (fun k o => c.keys.length - k) (fun k o => k ≤ c.keys.length ∧ o = ([lineW wCu [c.gaps]] ++ c.people.map fun p => joinAt 32 (persW p)) ++ (c.keys.take k).map fun n => joinAt 32 (keyW n)) 0 o ⟨Nat.zero_le _, by rw [ho]; simp⟩ (by rcases s5_cases hne with ⟨x, rfl⟩ | ⟨x, y, r, rfl⟩ <;> first | exact QM [0, 1] (hb := bv1 (Ql rfl (blkDeep rfl (deepAll rfl)) bv0)) | exact QM [0, 1] (hb := bv1 (Ql rfl (blkDeep rfl (deepR (fun _ => rfl))) bv0))) ?_; clear hl0 hgl ho hne hlt hk; clear o; rintro k o ⟨hk, ho⟩; have hne : o ≠ [] := by rw [ho]; simp
    by_cases hlt : k < c.keys.length
    · have hst : o ++ [joinAt 32 (keyW c.keys[k])] = ([lineW wCu [c.gaps]] ++ c.people.map fun p => joinAt 32 (persW p)) ++ (c.keys.take (k + 1)).map fun n => joinAt 32 (keyW n) := by rw [ho, take_succ_snoc hlt, List.map_append, List.append_assoc]; rfl
      have hol : o.length ≤ 100 := by rw [ho]; simp; omega
      have hl2 : Pu Tryz.prog G1 112 [.sc (.string ⟨#[107, 101, 121]⟩), .sl 1 true [[vi c.keys[k]]]] (vs (tx (joinAt 32 (keyW c.keys[k])))) := by
        rw [key_join]; exact (line_ok wKe (by decide) [c.keys[k]] (fun n hn => by rw [List.mem_singleton.1 hn]; exact key_num hok (List.getElem_mem hlt)) (by simp)).wk ⟨WkC.refl _, WkC.loose _ _, trivial⟩
      clear ho
      rcases s5_cases hne with ⟨x, rfl⟩ | ⟨x, y, r, rfl⟩
      · repeat' ((conv => whnf); first | refine SlIdxN.map k rfl hlt ?_ | refine Qn 2 ?_ | refine vv7 ?_ | refine vv20 ?_ | refine Need.mk (by first | assumption | omega | (simp <;> omega)) ?_ | refine Qp hl2 ?_)
        exact BackN2.mk (k + 1) _ ⟨by omega, hst⟩ (by omega) (QM [0, 2] (hb := bv1 (Ql rfl (blkDeep rfl (deepAll rfl)) bv0)))
      repeat' ((conv => whnf); first | refine SlIdxN.map k rfl hlt ?_ | refine Qn ((x :: y :: r).length + 1) ?_ | refine vv7 ?_ | refine vv20 ?_ | refine vv31 ?_ | refine Qp hl2 ?_)
      exact BackN2.mk (k + 1) _ ⟨by omega, hst⟩ (by omega) (QM [0, 2] (hb := bv1 (Ql rfl (blkDeep (by show _ = ABlk.rows (((x :: y :: r) ++ [_]).map txR) 9; rw [List.map_append]; rfl) (deepMap (fun _ => rfl))) bv0)))
    obtain rfl : k = c.keys.length := by omega
    rw [List.take_length] at ho
    (conv => whnf); repeat' (first | refine vv8 ?_ | refine vv21 ?_ | refine vv23 ?_) <;> conv => whnf
    refine LoopN.of2 (tryd_okm 0 _) (fun (k : Nat) (o : List Bs) => [(1, .pm 0 0 0), (5, s5 o), (70, entries c.entries), (71, vi c.entries.length), (72, vi k)]) (fun k o => [.rows [bookC c] 26, b1 o]) (fun k o => c.entries.length - k) (fun k o => k ≤ c.entries.length ∧ o = (([lineW wCu [c.gaps]] ++ c.people.map fun p => joinAt 32 (persW p)) ++ c.keys.map fun n => joinAt 32 (keyW n)) ++ (c.entries.take k).map fun e => joinAt 32 (entrW e)) 0 o ⟨Nat.zero_le _, by rw [ho]; simp⟩ (by rcases s5_cases hne with ⟨x, rfl⟩ | ⟨x, y, r, rfl⟩ <;> first | exact QM [0, 1] (hb := bv1 (Ql rfl (blkDeep rfl (deepAll rfl)) bv0)) | exact QM [0, 1] (hb := bv1 (Ql rfl (blkDeep rfl (deepR (fun _ => rfl))) bv0))) ?_; clear ho hne hlt hk; clear o; rintro k o ⟨hk, ho⟩; have hne : o ≠ [] := by rw [ho]; simp
    by_cases hlt : k < c.entries.length
    · have hst : o ++ [joinAt 32 (entrW c.entries[k])] = (([lineW wCu [c.gaps]] ++ c.people.map fun p => joinAt 32 (persW p)) ++ c.keys.map fun n => joinAt 32 (keyW n)) ++ (c.entries.take (k + 1)).map fun e => joinAt 32 (entrW e) := by rw [ho, take_succ_snoc hlt, List.map_append, List.append_assoc]; rfl
      have hol : o.length ≤ 100 := by rw [ho]; simp; omega
      obtain ⟨n1, n2, n3, n4, n5⟩ := entr_num hok (List.getElem_mem hlt); have hsp := span_ok c.entries[k].at_ n4; have hln := line_ok (entL c.entries[k]).1 (by omega) (entL c.entries[k]).2 n1 (by omega); have hlw := lineW_len (entL c.entries[k]).1 (entL c.entries[k]).2 n1; have hsl := span_len n4; have hej := entr_join c.entries[k]; clear ho; have z3 : (⟨#[32]⟩ : ByteArray).size = 1 := rfl; have z2 := tx_size (spanW c.entries[k].at_)
      rcases n5 with n5 | n5 | n5 | n5
      · have he : entL c.entries[k] = (wPa, [c.entries[k].id, c.entries[k].key, c.entries[k].src, c.entries[k].dst]) := by unfold entL; simp [n5]
        rw [he] at hln hlw hej; have hl3 : Pu Tryz.prog G1 112 [.sc (.string ⟨#[112, 97, 115, 115]⟩), .sl 1 true [[vi c.entries[k].id], [vi c.entries[k].key], [vi c.entries[k].src], [vi c.entries[k].dst]]] (vs (tx (lineW wPa [c.entries[k].id, c.entries[k].key, c.entries[k].src, c.entries[k].dst]))) := hln.wk ⟨WkC.refl _, WkC.loose _ _, trivial⟩; simp only at hlw hej
        have hwl : (lineW wPa [c.entries[k].id, c.entries[k].key, c.entries[k].src, c.entries[k].dst]).length ≤ 100 := by
          have e3 : wPa.length = 4 := rfl; simp only [List.length_cons, List.length_nil] at hlw; omega
        generalize lineW wPa [c.entries[k].id, c.entries[k].key, c.entries[k].src, c.entries[k].dst] = W at *; have z1 := tx_size W; have z4 : (tx W ++ (⟨#[32]⟩ : ByteArray)).size = (tx W).size + 1 := ByteArray.size_append; have hap : tx W ++ ⟨#[32]⟩ ++ tx (spanW c.entries[k].at_) = tx (joinAt 32 (entrW c.entries[k])) := by rw [hej, show (⟨#[32]⟩ : ByteArray) = tx [32] from rfl, tx_append, tx_append]
        clear hln hlw n1 n2 n3 n4 he
        rcases s5_cases hne with ⟨x, rfl⟩ | ⟨x, y, r, rfl⟩
        · repeat' ((conv => whnf); first | refine SlIdxN.map k rfl hlt ?_ | refine Qn 2 ?_ | refine vv3 ?_ | refine vv7 ?_ | refine vv20 ?_ | refine vv21 ?_ | refine vv22 ?_ | refine Need.mk (by first | assumption | omega | (simp <;> omega)) ?_ | refine Qp hl3 ?_ | refine Qp hsp ?_)
          exact BackN2.mk (k + 1) _ ⟨by omega, hst⟩ (by omega) (QM [0, 3] (hb := bv1 (Ql rfl (blkDeep (by rw [hap]; rfl) (deepAll rfl)) bv0)))
        repeat' ((conv => whnf); first | refine SlIdxN.map k rfl hlt ?_ | refine Qn ((x :: y :: r).length + 1) ?_ | refine vv3 ?_ | refine vv7 ?_ | refine vv20 ?_ | refine vv21 ?_ | refine vv22 ?_ | refine Need.mk (by first | assumption | omega | (simp <;> omega)) ?_ | refine vv31 ?_ | refine Qp hl3 ?_ | refine Qp hsp ?_)
        exact BackN2.mk (k + 1) _ ⟨by omega, hst⟩ (by omega) (QM [0, 3] (hb := bv1 (Ql rfl (blkDeep (by show _ = ABlk.rows (((x :: y :: r) ++ [_]).map txR) 9; rw [List.map_append, hap]; rfl) (deepMap (fun _ => rfl))) bv0)))
      · have he : entL c.entries[k] = (wCo, [c.entries[k].id, c.entries[k].key, c.entries[k].src]) := by unfold entL; simp [n5]
        rw [he] at hln hlw hej; have hl3 : Pu Tryz.prog G1 112 [.sc (.string ⟨#[99, 111, 112, 121]⟩), .sl 1 true [[vi c.entries[k].id], [vi c.entries[k].key], [vi c.entries[k].src]]] (vs (tx (lineW wCo [c.entries[k].id, c.entries[k].key, c.entries[k].src]))) := hln.wk ⟨WkC.refl _, WkC.loose _ _, trivial⟩; simp only at hlw hej
        have hwl : (lineW wCo [c.entries[k].id, c.entries[k].key, c.entries[k].src]).length ≤ 100 := by
          have e3 : wCo.length = 4 := rfl; simp only [List.length_cons, List.length_nil] at hlw; omega
        generalize lineW wCo [c.entries[k].id, c.entries[k].key, c.entries[k].src] = W at *; have z1 := tx_size W; have z4 : (tx W ++ (⟨#[32]⟩ : ByteArray)).size = (tx W).size + 1 := ByteArray.size_append; have hap : tx W ++ ⟨#[32]⟩ ++ tx (spanW c.entries[k].at_) = tx (joinAt 32 (entrW c.entries[k])) := by rw [hej, show (⟨#[32]⟩ : ByteArray) = tx [32] from rfl, tx_append, tx_append]
        clear hln hlw n1 n2 n3 n4 he
        rcases s5_cases hne with ⟨x, rfl⟩ | ⟨x, y, r, rfl⟩
        · repeat' ((conv => whnf); first | refine SlIdxN.map k rfl hlt ?_ | refine Qn 2 ?_ | refine vv3 ?_ | refine vv7 ?_ | refine vv8 ?_ | refine vv20 ?_ | refine vv21 ?_ | refine vv22 ?_ | refine Need.mk (by first | assumption | omega | (simp <;> omega)) ?_ | refine Qp hl3 ?_ | refine Qp hsp ?_)
          exact BackN2.mk (k + 1) _ ⟨by omega, hst⟩ (by omega) (QM [0, 3] (hb := bv1 (Ql rfl (blkDeep (by rw [hap]; rfl) (deepAll rfl)) bv0)))
        repeat' ((conv => whnf); first | refine SlIdxN.map k rfl hlt ?_ | refine Qn ((x :: y :: r).length + 1) ?_ | refine vv3 ?_ | refine vv7 ?_ | refine vv8 ?_ | refine vv20 ?_ | refine vv21 ?_ | refine vv22 ?_ | refine Need.mk (by first | assumption | omega | (simp <;> omega)) ?_ | refine vv31 ?_ | refine Qp hl3 ?_ | refine Qp hsp ?_)
        exact BackN2.mk (k + 1) _ ⟨by omega, hst⟩ (by omega) (QM [0, 3] (hb := bv1 (Ql rfl (blkDeep (by show _ = ABlk.rows (((x :: y :: r) ++ [_]).map txR) 9; rw [List.map_append, hap]; rfl) (deepMap (fun _ => rfl))) bv0)))
      · have he : entL c.entries[k] = (wLo, [c.entries[k].id, c.entries[k].key, c.entries[k].src]) := by unfold entL; simp [n5]
        rw [he] at hln hlw hej; have hl3 : Pu Tryz.prog G1 112 [.sc (.string ⟨#[108, 111, 115, 101]⟩), .sl 1 true [[vi c.entries[k].id], [vi c.entries[k].key], [vi c.entries[k].src]]] (vs (tx (lineW wLo [c.entries[k].id, c.entries[k].key, c.entries[k].src]))) := hln.wk ⟨WkC.refl _, WkC.loose _ _, trivial⟩; simp only at hlw hej
        have hwl : (lineW wLo [c.entries[k].id, c.entries[k].key, c.entries[k].src]).length ≤ 100 := by
          have e3 : wLo.length = 4 := rfl; simp only [List.length_cons, List.length_nil] at hlw; omega
        generalize lineW wLo [c.entries[k].id, c.entries[k].key, c.entries[k].src] = W at *; have z1 := tx_size W; have z4 : (tx W ++ (⟨#[32]⟩ : ByteArray)).size = (tx W).size + 1 := ByteArray.size_append; have hap : tx W ++ ⟨#[32]⟩ ++ tx (spanW c.entries[k].at_) = tx (joinAt 32 (entrW c.entries[k])) := by rw [hej, show (⟨#[32]⟩ : ByteArray) = tx [32] from rfl, tx_append, tx_append]
        clear hln hlw n1 n2 n3 n4 he
        rcases s5_cases hne with ⟨x, rfl⟩ | ⟨x, y, r, rfl⟩
        · repeat' ((conv => whnf); first | refine SlIdxN.map k rfl hlt ?_ | refine Qn 2 ?_ | refine vv3 ?_ | refine vv7 ?_ | refine vv8 ?_ | refine vv20 ?_ | refine vv21 ?_ | refine vv22 ?_ | refine Need.mk (by first | assumption | omega | (simp <;> omega)) ?_ | refine Qp hl3 ?_ | refine Qp hsp ?_)
          exact BackN2.mk (k + 1) _ ⟨by omega, hst⟩ (by omega) (QM [0, 3] (hb := bv1 (Ql rfl (blkDeep (by rw [hap]; rfl) (deepAll rfl)) bv0)))
        repeat' ((conv => whnf); first | refine SlIdxN.map k rfl hlt ?_ | refine Qn ((x :: y :: r).length + 1) ?_ | refine vv3 ?_ | refine vv7 ?_ | refine vv8 ?_ | refine vv20 ?_ | refine vv21 ?_ | refine vv22 ?_ | refine Need.mk (by first | assumption | omega | (simp <;> omega)) ?_ | refine vv31 ?_ | refine Qp hl3 ?_ | refine Qp hsp ?_)
        exact BackN2.mk (k + 1) _ ⟨by omega, hst⟩ (by omega) (QM [0, 3] (hb := bv1 (Ql rfl (blkDeep (by show _ = ABlk.rows (((x :: y :: r) ++ [_]).map txR) 9; rw [List.map_append, hap]; rfl) (deepMap (fun _ => rfl))) bv0)))
      have he : entL c.entries[k] = (wFi, [c.entries[k].id, c.entries[k].key, c.entries[k].dst]) := by unfold entL; simp [n5]
      rw [he] at hln hlw hej; have hl3 : Pu Tryz.prog G1 112 [.sc (.string ⟨#[102, 105, 110, 100]⟩), .sl 1 true [[vi c.entries[k].id], [vi c.entries[k].key], [vi c.entries[k].dst]]] (vs (tx (lineW wFi [c.entries[k].id, c.entries[k].key, c.entries[k].dst]))) := hln.wk ⟨WkC.refl _, WkC.loose _ _, trivial⟩; simp only at hlw hej
      have hwl : (lineW wFi [c.entries[k].id, c.entries[k].key, c.entries[k].dst]).length ≤ 100 := by
        have e3 : wFi.length = 4 := rfl; simp only [List.length_cons, List.length_nil] at hlw; omega
      generalize lineW wFi [c.entries[k].id, c.entries[k].key, c.entries[k].dst] = W at *; have z1 := tx_size W; have z4 : (tx W ++ (⟨#[32]⟩ : ByteArray)).size = (tx W).size + 1 := ByteArray.size_append; have hap : tx W ++ ⟨#[32]⟩ ++ tx (spanW c.entries[k].at_) = tx (joinAt 32 (entrW c.entries[k])) := by rw [hej, show (⟨#[32]⟩ : ByteArray) = tx [32] from rfl, tx_append, tx_append]
      clear hln hlw n1 n2 n3 n4 he
      rcases s5_cases hne with ⟨x, rfl⟩ | ⟨x, y, r, rfl⟩
      · repeat' ((conv => whnf); first | refine SlIdxN.map k rfl hlt ?_ | refine Qn 2 ?_ | refine vv3 ?_ | refine vv7 ?_ | refine vv8 ?_ | refine vv20 ?_ | refine vv21 ?_ | refine vv22 ?_ | refine Need.mk (by first | assumption | omega | (simp <;> omega)) ?_ | refine Qp hl3 ?_ | refine Qp hsp ?_)
        exact BackN2.mk (k + 1) _ ⟨by omega, hst⟩ (by omega) (QM [0, 3] (hb := bv1 (Ql rfl (blkDeep (by rw [hap]; rfl) (deepAll rfl)) bv0)))
      repeat' ((conv => whnf); first | refine SlIdxN.map k rfl hlt ?_ | refine Qn ((x :: y :: r).length + 1) ?_ | refine vv3 ?_ | refine vv7 ?_ | refine vv8 ?_ | refine vv20 ?_ | refine vv21 ?_ | refine vv22 ?_ | refine Need.mk (by first | assumption | omega | (simp <;> omega)) ?_ | refine vv31 ?_ | refine Qp hl3 ?_ | refine Qp hsp ?_)
      exact BackN2.mk (k + 1) _ ⟨by omega, hst⟩ (by omega) (QM [0, 3] (hb := bv1 (Ql rfl (blkDeep (by show _ = ABlk.rows (((x :: y :: r) ++ [_]).map txR) 9; rw [List.map_append, hap]; rfl) (deepMap (fun _ => rfl))) bv0)))
    obtain rfl : k = c.entries.length := by omega
    rw [List.take_length] at ho
    have hob : o = (bookW c).map (joinAt 32) := by
      rw [ho]; simp [bookW, join_flat, lineW, flat]; rfl
    have hol : o.length ≤ 100 := by rw [ho]; simp; omega
    have hjt := join_text hne
    have hjl : (Lib.join o [10]).length ≤ 100000 := by
      have h1 := flat_len (L := o) (by rw [hob]; exact lines_len hok); rw [← hjt, List.length_append] at h1; omega
    have hjo := join_ok o (by omega) (by omega)
    have hbt : Lib.join o [10] ++ [10] = bookT c := by
      rw [hjt, hob, List.flatMap_map]; rfl
    clear ho hob; have z1 := tx_size (Lib.join o [10]); have z3 : (⟨#[10]⟩ : ByteArray).size = 1 := rfl; have hap : tx (Lib.join o [10]) ++ ⟨#[10]⟩ = tx (bookT c) := by rw [show (⟨#[10]⟩ : ByteArray) = tx [10] from rfl, tx_append, hbt]
    generalize hJ : Lib.join o [10] = J at *; rw [← hap]
    rcases s5_cases hne with ⟨x, rfl⟩ | ⟨x, y, r, rfl⟩
    · have hjo2 : Pu Tryz.prog G1 114 [.sl 1 true [txR x], .sc (.string ⟨#[10]⟩)] (vs (tx J)) := hjo.wk ⟨WkC.loose _ _, WkC.refl _, trivial⟩
      repeat' ((conv => whnf); first | refine vv8 ?_ | refine Need.mk (by first | assumption | omega | (simp <;> omega)) ?_ | refine Qp hjo2 ?_)
      exact Qv
    have hz : AV.frz0 1 ((x :: y :: r).map txR) (.sm 1 1 0 (x :: y :: r).length) = texts (x :: y :: r) := frz_all (by rw [List.length_map]); rw [← hz] at hjo
    repeat' ((conv => whnf); first | refine CallN.frz 1 _ _ rfl (deepR (fun _ => rfl)) ?_ | refine vv8 ?_ | refine Need.mk (by first | assumption | omega | (simp <;> omega)) ?_ | refine Qp hjo ?_)
    exact Qv
  rw [if_pos h0]; refine Qf 133 Tryz.func63 rfl rfl ?_
  repeat' ((conv => whnf); first | refine vv6 ?_ | refine vv21 ?_ | refine Qp hck ?_)
  exact Qv
end Go.Proofs.Ax
