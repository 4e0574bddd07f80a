import Derived.Test.YtedekogkeamacaaGreatDoorCcRU
import Derived.Test.YtedekogkeamacaaGreatDoorAxFrz2
namespace Go.Proofs.Ax
open Go Go.Proofs Go.Proofs.Cu
set_option maxRecDepth 10000
set_option maxHeartbeats 4000000
section
def optI (o : Option Int) : Int := o.getD (-1)
theorem rneeded_ok {c : Book} (hok : c.ok) (key : Int) : Pu Tryz.prog G1 35 [bookV c, vi key] (vi (optI (neededR c key))) := by
  have hcon : ∀ g : Nat, g ≤ 3 → Pu Tryz.prog G1 32 [bookV { c with gaps := (g : Int) }, vi key] (vb (consR { c with gaps := (g : Int) } key)) := fun g hg => consistent_ok (gaps_ok hok ⟨by omega, by omega⟩) key
  unfold neededR; generalize hP : (fun n : Int => consR { c with gaps := n } key) = P
  have hcon : ∀ g : Nat, g ≤ 3 → Pu Tryz.prog G1 32 [bookV { c with gaps := (g : Int) }, vi key] (vb (P g)) := fun g hg => by rw [← hP]; exact hcon g hg
  clear hP
  have hdr : ∀ g : Nat, g ≤ 3 → (([0, 1, 2, 3] : List Int).drop g) = (g : Int) :: (([0, 1, 2, 3] : List Int).drop (g + 1)) := fun g hg => by
    match g, hg with
    | 0, _ => rfl
    | 1, _ => rfl
    | 2, _ => rfl
    | 3, _ => rfl
  generalize hb0 : ([0, 1, 2, 3] : List Int).find? P = b0; refine Qc 18 Tryz.func35 rfl rfl ?_; refine Qs ?_
  (conv => whnf)
  refine CodeN.re ((Reabs.frz 0 [bookC c] 26 rfl (deepAll rfl)).trans (Reabs.frm0 rfl (r := [(1, vi key), (2, .pi (bookC c))]) (by repeat (first | exact sv0 | refine sv1 ?_ | refine sv2 ?_ | refine sv3 ?_)))) ?_; refine Qe ?_
  (conv => whnf)
  refine LoopN.of Qt (fun g : Nat => [(1, vi key), (2, .pi (bookC c)), (5, vi g)]) (fun _ => []) (fun g => 4 - g) (fun g => g ≤ 4 ∧ b0 = (([0, 1, 2, 3] : List Int).drop g).find? P) 0 ⟨Nat.zero_le _, hb0.symm⟩ (Q0) ?_; clear hb0; rintro g ⟨hg, hinv⟩; by_cases hlt : g ≤ 3
  · rw [hdr g hlt, List.find?_cons] at hinv; have h1 := hcon g hlt
    cases hp : P g with
    | true =>
      rw [hp] at h1 hinv; simp only at hinv; subst hinv
      repeat' ((conv => whnf); first | refine vv1 ?_ | refine vv7 ?_ | refine vv21 ?_ | refine vv22 ?_ | refine Qp h1 ?_)
      exact Qv
    | false =>
      rw [hp] at h1 hinv; simp only at hinv
      repeat' ((conv => whnf); first | refine vv2 ?_ | refine vv7 ?_ | refine vv20 ?_ | refine vv21 ?_ | refine vv22 ?_ | refine Qp h1 ?_)
      exact BackN.mk (g + 1) ⟨by omega, hinv⟩ (by omega) (Q0)
  obtain rfl : g = 4 := by omega
  have hinv : b0 = none := hinv; subst hinv
  repeat' ((conv => whnf); first | refine vv2 ?_)
  exact Qv
def keyOfI (c : Book) (id : Int) : Int := match c.entries.find? fun e => e.id == id with
  | some e => e.key
  | none => 0
theorem keyOf_ok {c : Book} (hS : BkS c) (id : Int) : Pu Tryz.prog G1 31 [bookV c, vi id] (vi (keyOfI c id)) := by
  have hel := hS.el; unfold keyOfI; generalize hb0 : (c.entries.find? fun e => e.id == id) = b0; refine Pu.of_fin (Ef.of_code (T := Tryz.tab) (n := 27) (tryd_okm 0 _) rfl Tryz.func31 rfl rfl (by simp) ?_) rfl (by split <;> rfl); refine Qs ?_
  (conv => whnf)
  refine CodeN.re ((Reabs.frz 0 [bookC c] 26 rfl (deepAll rfl)).trans (Reabs.frm0 rfl (r := [(1, vi id), (2, .pi (bookC c))]) (by repeat (first | exact sv0 | refine sv1 ?_ | refine sv2 ?_ | refine sv3 ?_)))) ?_; refine Qe ?_
  (conv => whnf)
  refine LoopN.of Qt (fun k : Nat => [(1, vi id), (2, .pi (bookC c)), (5, vi k)]) (fun _ => []) (fun k => c.entries.length - k) (fun k => k ≤ c.entries.length ∧ b0 = (c.entries.drop k).find? fun e => e.id == id) 0 ⟨Nat.zero_le _, hb0.symm⟩ (Q0) ?_; clear hb0; rintro k ⟨hk, hinv⟩; by_cases hlt : k < c.entries.length
  · rw [List.drop_eq_getElem_cons hlt, List.find?_cons] at hinv; by_cases hp : (c.entries[k]).id = id
    · rw [beq_iff_eq.2 hp] at hinv; simp only at hinv; subst hinv
      repeat' ((conv => whnf); first | refine SlIdxN.map k rfl hlt ?_ | refine vv3 ?_ | refine vv7 ?_ | refine vv23 ?_)
      exact Qv
    rw [beq_eq_false_iff_ne.2 hp] at hinv; simp only at hinv
    repeat' ((conv => whnf); first | refine SlIdxN.map k rfl hlt ?_ | refine vv4 ?_ | refine vv7 ?_ | refine vv20 ?_ | refine vv23 ?_)
    exact BackN.mk (k + 1) ⟨by omega, hinv⟩ (by omega) (Q0)
  obtain rfl : k = c.entries.length := by omega
  rw [List.drop_length] at hinv; have hinv : b0 = none := hinv; subst hinv
  repeat' ((conv => whnf); first | refine vv8 ?_ | refine vv23 ?_)
  exact Qv
def rsusK (Q : Entr → Bool) (l : List Entr) (k : Nat) : List Int := (((l.take k).filter Q).map (·.id)).foldl (fun acc n => insI n acc) []
theorem rsusK_hit {Q : Entr → Bool} {l : List Entr} {k : Nat} (h : k < l.length) (hp : Q l[k] = true) : rsusK Q l (k + 1) = insI l[k].id (rsusK Q l k) := by
  unfold rsusK; rw [take_snoc h, List.filter_append, List.map_append, List.foldl_append]; simp [hp]
theorem rsusK_miss {Q : Entr → Bool} {l : List Entr} {k : Nat} (h : k < l.length) (hp : Q l[k] = false) : rsusK Q l (k + 1) = rsusK Q l k := by
  unfold rsusK; rw [take_snoc h, List.filter_append, List.map_append, List.foldl_append]; simp [hp]
theorem rsusp_all (c : Book) (key : Int) : suspR c key = rsusK (fun e => consR (withoutB c [e.id]) key) (chnOf c key).es (chnOf c key).es.length := by
  unfold suspR rsusK; rw [List.take_length]; show _ = (List.map _ (List.filter _ (c.entries.filter fun e => e.key == key))).foldl _ _; rw [List.filter_filter]; congr 2
  refine congrArg (fun p => List.filter p c.entries) ?_; funext e; rw [Bool.and_comm]
theorem rsuspects_ok {c : Book} (hok : c.ok) (key : Int) : Pu Tryz.prog G1 36 [bookV c, vi key] (ints (if consR c key = true then [] else suspR c key)) := by
  have hS := BkS.of_ok hok; have h1 := consistent_ok hok key; have o1 := of_ok hS key; have hel : (chnOf c key).es.length ≤ 7 := hok.few key; rw [rsusp_all]
  have hcn : ∀ e : Entr, Pu Tryz.prog G1 32 [bookV (withoutB c [e.id]), vi key] (vb (consR (withoutB c [e.id]) key)) := fun e => consistent_ok (without_ok hok [e.id]) key
  have hwo : ∀ e : Entr, Pu Tryz.prog G1 47 [bookV c, .sl 1 true [[vi e.id]]] (bookV (withoutB c [e.id])) := fun e => (rwithout_ok hS [e.id] (by simp)).wk ⟨WkC.refl _, WkC.loose _ _, trivial⟩
  generalize hQ : (fun e : Entr => consR (withoutB c [e.id]) key) = Q
  have hcn : ∀ e : Entr, Pu Tryz.prog G1 32 [bookV (withoutB c [e.id]), vi key] (vb (Q e)) := fun e => by rw [← hQ]; exact hcn e
  clear hQ
  cases hc : consR c key with
  | true =>
    rw [hc] at h1; rw [if_pos rfl]; refine Qc 38 Tryz.func36 rfl rfl ?_; refine Qs ?_
    (conv => whnf)
    refine CodeN.re ((Reabs.frz 0 [bookC c] 26 rfl (deepAll rfl)).trans (Reabs.frm0 rfl (r := [(1, vi key), (2, .pi (bookC c))]) (by repeat (first | exact sv0 | refine sv1 ?_ | refine sv2 ?_ | refine sv3 ?_)))) ?_; refine Qe ?_
    (conv => whnf); repeat' (first | refine vv1 ?_ | refine Qp h1 ?_) <;> conv => whnf
    exact ⟨.nil _ _ (.val rfl)⟩
  | false =>
    rw [hc] at h1; rw [if_neg (by simp)]; generalize (chnOf c key).es = l at *; refine Qc 38 Tryz.func36 rfl rfl ?_; refine Qs ?_
    (conv => whnf)
    refine CodeN.re ((Reabs.frz 0 [bookC c] 26 rfl (deepAll rfl)).trans (Reabs.frm0 rfl (r := [(1, vi key), (2, .pi (bookC c))]) (by repeat (first | exact sv0 | refine sv1 ?_ | refine sv2 ?_ | refine sv3 ?_)))) ?_; refine Qe ?_
    repeat' ((conv => whnf); first | refine vv2 ?_ | refine Qp h1 ?_ | refine Qp o1 ?_)
    refine LoopN.re (Reabs.slot 5 (ints []) (WkC.nilSl _ _)) ?_; refine LoopN.of Qt (fun k : Nat => [(1, vi key), (2, .pi (bookC c)), (5, ints (rsusK Q l k)), (6, entries l), (7, vi k)]) (fun _ => []) (fun k => l.length - k) (fun k => k ≤ l.length ∧ (rsusK Q l k).length ≤ k) 0 ⟨Nat.zero_le _, Nat.le_refl _⟩ (Q0) ?_; rintro k ⟨hk, hle⟩; by_cases hlt : k < l.length
    · have h2 := hcn l[k]; have h3 := hwo l[k]; have h4 := insert_ok (rsusK Q l k) l[k].id (by omega); have h5 := insI_len l[k].id (rsusK Q l k)
      cases hq : Q l[k] with
      | true =>
        have hsu := rsusK_hit hlt hq; rw [hq] at h2; rw [← hsu] at h4 h5
        repeat' ((conv => whnf); first | refine SlIdxN.map k rfl hlt ?_ | refine vv1 ?_ | refine vv7 ?_ | refine vv20 ?_ | refine vv23 ?_ | refine vv25 ?_ | refine Qd ?_ | refine Qp h4 ?_ | refine Qg h2 ?_ | refine Qg h3 ?_)
        exact BackN.mk (k + 1) ⟨by omega, by omega⟩ (by omega) (Q0)
      | false =>
        have hsu := rsusK_miss hlt hq; rw [hq] at h2
        repeat' ((conv => whnf); first | refine SlIdxN.map k rfl hlt ?_ | refine vv2 ?_ | refine vv7 ?_ | refine vv20 ?_ | refine vv23 ?_ | refine vv25 ?_ | refine Qd ?_ | refine Qg h2 ?_ | refine Qg h3 ?_)
        exact BackN.mk (k + 1) ⟨by omega, by rw [hsu]; omega⟩ (by omega) (by rw [hsu]; exact Q0)
    obtain rfl : k = l.length := by omega
    repeat' ((conv => whnf); first | refine vv8 ?_ | refine vv23 ?_)
    exact Qv
end
section
theorem timeOk_iff2 {t : Int} (h : timeOk t = true) : 0 ≤ t ∧ t ≤ maxTime := of_decide_eq_true h
theorem entered_sm (l : List Entr) (n : Int) (hl : l.length ≤ 1000000) {H : AH} {b : Nat} (hb : nthB H b = some (.rows (l.map encE) 68)) : Ef Tryz.prog G1 87 [.sm b 7 0 l.length, vi n] H fun y H' => y = vi (idxInt l.length (l.findIdx fun e => e.id == n)) ∧ H' = H := by
  refine Ef.of_ev (T := Tryz.tab) (n := 20) (tryd_okm H.length _) rfl Tryz.func87 rfl rfl (by simp) ?_
  (conv => whnf)
  refine LoopN.of Qt (fun k : Nat => [(0, .sm b 7 0 l.length), (1, vi n), (5, vi k)]) (fun _ => H) (fun k => l.length - k) (fun k => k ≤ l.length ∧ ∀ i (h : i < l.length), i < k → (l[i].id == n) = false) 0 ⟨Nat.zero_le _, fun i h hi => by omega⟩ (QE) ?_; rintro k ⟨hk, hall⟩; by_cases hlt : k < l.length
  · have hr : (l.map encE)[k]? = some (encE l[k]) := by rw [List.getElem?_map, List.getElem?_eq_getElem hlt]; rfl
    by_cases hp : l[k].id = n
    · have e : l.findIdx (fun p => p.id == n) = k := (List.findIdx_eq hlt).2 ⟨beq_iff_eq.2 hp, fun j hj => hall j (by omega) hj⟩; rw [e, idxInt, if_pos hlt]
      (conv => whnf); repeat' (first | refine IdxN.at0 k rfl hlt ?_ | rw [hb] | refine RowN.raw hr ?_ | refine vv3 ?_ | refine vv7 ?_) <;> conv => whnf
      exact ⟨⟨rfl, rfl⟩⟩
    repeat' ((conv => whnf); first | refine IdxN.at0 k rfl hlt ?_ | rw [hb] | refine RowN.raw hr ?_ | refine vv4 ?_ | refine vv7 ?_ | refine vv20 ?_)
    refine BackN.mk (k + 1) ⟨by omega, fun i h hi => ?_⟩ (by omega) (QE); by_cases hq : i = k
    subst hq; exact beq_eq_false_iff_ne.2 hp; exact hall i h (by omega)
  have e : l.findIdx (fun p => p.id == n) = l.length := List.findIdx_eq_length.2 fun x hx => by
    obtain ⟨i, hi, rfl⟩ := List.getElem_of_mem hx; exact hall i hi (by omega)
  rw [e, idxInt, if_neg (by omega)]
  (conv => whnf); repeat' (first | refine vv8 ?_) <;> conv => whnf
  exact ⟨⟨rfl, rfl⟩⟩
def narBk (c : Book) (id : Int) (s : Spn) : Book := { c with entries := c.entries.map (nar id s) }
theorem nar_set {l : List Entr} {k : Nat} {id : Int} {s : Spn} (hk : k < l.length) (hid : l[k].id = id) (hnd : (l.map (·.id)).Nodup) : l.map (nar id s) = l.set k { l[k] with at_ := s } := by
  refine List.ext_getElem (by simp) fun i h1 h2 => ?_
  simp only [List.length_map] at h1; rw [List.getElem_map, List.getElem_set]; unfold nar; by_cases e : k = i
  · subst e; rw [if_pos hid, if_pos rfl]
  rw [if_neg e, if_neg]; intro h; have := nodup_get hnd (i := i) (j := k) (by simpa using h1) (by simpa using hk) (by simp [h, hid]); omega
theorem narrowed_ok {c : Book} (hS : BkS c) (hnd : (c.entries.map (·.id)).Nodup) (id : Int) (s : Spn) {k : Nat} (hk : k < c.entries.length) (hid : c.entries[k].id = id) : Pu Tryz.prog G1 88 [bookV c, vi id, .agg (encS s)] (bookV (narBk c id s)) := by
  have hel := hS.el
  have hfi : c.entries.findIdx (fun e => e.id == id) = k := (List.findIdx_eq hk).2 ⟨beq_iff_eq.2 hid, fun j hj => by
    rw [beq_eq_false_iff_ne]; intro h; have := nodup_get hnd (i := j) (j := k) (by simp; omega) (by simpa using hk) (by simp [h, hid])
    omega⟩
  have hen : ∀ {H : AH} {b : Nat}, nthB H b = some (.rows (c.entries.map encE) 68) → Ef Tryz.prog G1 87 [.sm b 7 0 c.entries.length, vi id] H fun y H' => y = vi k ∧ H' = H := fun hb => by
    have := entered_sm c.entries id hel hb; rw [hfi, idxInt, if_pos hk] at this; exact this
  unfold narBk; rw [nar_set hk hid hnd]; have hrows : (c.entries.map encE).set k [vi (c.entries[k]).id, vi (c.entries[k]).key, vi (c.entries[k]).kind, vi (c.entries[k]).src, vi (c.entries[k]).dst, vi s.lo, vi s.hi] = (c.entries.set k { c.entries[k] with at_ := s }).map encE := by rw [List.map_set]
  have hr : (c.entries.map encE)[k]? = some (encE c.entries[k]) := by rw [List.getElem?_map, List.getElem?_eq_getElem hk]; rfl
  have hln : (c.entries.set k { c.entries[k] with at_ := s }).length = c.entries.length := by simp
  refine Qc 24 Tryz.func88 rfl rfl ?_; refine Qs ?_
  (conv => whnf)
  refine CodeN.re ((Reabs.frz 1 [encS s] 28 rfl (deepAll rfl)).trans (Reabs.frz 0 [bookC c] 26 rfl (deepAll rfl))) ?_; refine Qe ?_
  (conv => whnf); repeat' (first | refine AppN.len c.entries.length (by simp) (by omega) (by omega) ?_ | refine IdxN.at0 k rfl hk ?_ | refine GCallN.same (hen rfl) ?_ | refine RowSN.raw hr ?_ | refine vv21 ?_ | refine vv22 ?_ | refine vv25 ?_ | refine Need.mk (by first | assumption | omega | (simp <;> omega)) ?_ | refine Qd ?_) <;> conv => whnf
  have key : ∀ H : AH, nthB H 4 = some (.rows ((c.entries.set k { c.entries[k] with at_ := s }).map encE) 68) → FinTo 0 H (.agg [persons c.people, ints c.keys, .sm 4 7 0 c.entries.length, vi c.gaps]) (bookV { c with entries := c.entries.set k { c.entries[k] with at_ := s } }) [] := fun H h => by
    have := finBk 4 c.people c.keys _ c.gaps h; rw [hln] at this; exact this
  exact ⟨key _ (by rw [← hrows]; rfl)⟩
theorem narBk_chn (c : Book) (id key : Int) (s : Spn) : chnOf (narBk c id s) key = narC (chnOf c key) id s := by
  unfold chnOf narBk narC; simp only; congr 1
  rw [List.filter_map]; congr 1
  refine List.filter_congr fun e _ => ?_
  simp only [Function.comp]; unfold nar; split <;> rfl
theorem narBk_ok {c : Book} (h : c.ok) (id : Int) {s : Spn} (hs : validS s = true) : (narBk c id s).ok := by
  refine ⟨h.gaps, ⟨h.lens.1, h.lens.2.1, by simp [narBk]; exact h.lens.2.2⟩, h.pers, h.incp, h.keys, h.inck, fun e he => ?_, ?_, fun k => ?_⟩
  · obtain ⟨x, hx, rfl⟩ := List.mem_map.1 he; have := h.entr x hx; unfold entrOk at this ⊢; unfold nar; split
    · simp only [Bool.and_eq_true] at this ⊢; exact ⟨⟨this.1.1, hs⟩, this.2⟩
    exact this
  · have : (narBk c id s).entries.map (·.id) = c.entries.map (·.id) := by
      unfold narBk; simp only [List.map_map]
      refine List.map_congr_left fun e _ => nar_id
    rw [this]; exact h.nd
  have := h.few k; unfold narBk; simp only; rw [List.filter_map, List.length_map]
  have e : ((fun e : Entr => e.key == k) ∘ nar id s) = fun e : Entr => e.key == k := by
    funext e; simp only [Function.comp]; unfold nar; split <;> rfl
  rw [e]; exact this
theorem bsLo_end {P : Int → Bool} {f : Nat} {a b : Int} (h : ¬ 1 < b - a) : bsLo P f a b = b := by
  cases f with
  | zero => rfl
  | succ f => rw [bsLo, if_neg h]
theorem bsHi_end {P : Int → Bool} {f : Nat} {a b : Int} (h : ¬ 1 < b - a) : bsHi P f a b = a := by
  cases f with
  | zero => rfl
  | succ f => rw [bsHi, if_neg h]
theorem rwhen_ok {c : Book} (hok : c.ok) (id : Int) {k : Nat} (hk : k < c.entries.length) (hid : c.entries[k].id = id) : Pu Tryz.prog G1 33 [bookV c, vi id] (.agg (encS (whenR (chnOf c c.entries[k].key) c.entries[k]))) := by
  have hS := BkS.of_ok hok; have hel := hS.el
  have hfi : c.entries.findIdx (fun e => e.id == id) = k := (List.findIdx_eq hk).2 ⟨beq_iff_eq.2 hid, fun j hj => by
    rw [beq_eq_false_iff_ne]; intro h; have := nodup_get hok.nd (i := j) (j := k) (by simp; omega) (by simpa using hk) (by simp [h, hid])
    omega⟩
  have e1 := rentered_ok c.entries id hel; rw [hfi, idxInt, if_pos hk] at e1
  have hsp : validS (c.entries[k]).at_ = true := by
    have := hok.entr _ (List.getElem_mem hk); unfold entrOk at this; simp only [Bool.and_eq_true] at this; exact this.1.2
  unfold whenR; generalize he : c.entries[k] = e at *
  have hb : 0 ≤ e.at_.lo ∧ e.at_.lo ≤ e.at_.hi ∧ e.at_.hi ≤ 1073741823 := by
    unfold validS at hsp; simp only [Bool.and_eq_true, decide_eq_true_eq] at hsp; exact ⟨(timeOk_iff2 hsp.1.1).1, hsp.2, (timeOk_iff2 hsp.1.2).2⟩
  have hv : ∀ a b : Int, 0 ≤ a → a ≤ b → b ≤ 1073741823 → validS ⟨a, b⟩ = true := fun a b h1 h2 h3 => by
    unfold validS timeOk maxTime; simp only [Bool.and_eq_true, decide_eq_true_eq]; exact ⟨⟨⟨h1, by omega⟩, ⟨by omega, h3⟩⟩, h2⟩
  have hnar : ∀ s : Spn, Pu Tryz.prog G1 88 [bookV c, vi id, .agg (encS s)] (bookV (narBk c id s)) := fun s => narrowed_ok hS hok.nd id s hk (by rw [he]; exact hid)
  have hcons : ∀ a b : Int, 0 ≤ a → a ≤ b → b ≤ 1073741823 → Pu Tryz.prog G1 32 [bookV (narBk c id ⟨a, b⟩), vi e.key] (vb (possibleB (narC (chnOf c e.key) e.id ⟨a, b⟩) [])) := fun a b h1 h2 h3 => by
    have := consistent_ok (narBk_ok hok id (hv a b h1 h2 h3)) e.key; unfold consR at this; rw [narBk_chn] at this; rw [hid]; exact this
  clear hv hsp hfi; generalize hP1 : (fun m => possibleB (narC (chnOf c e.key) e.id ⟨e.at_.lo, m⟩) []) = P1; generalize hP2 : (fun m => possibleB (narC (chnOf c e.key) e.id ⟨m, e.at_.hi⟩) []) = P2
  have hc1 : ∀ m : Int, e.at_.lo ≤ m → m ≤ e.at_.hi → Pu Tryz.prog G1 32 [bookV (narBk c id ⟨e.at_.lo, m⟩), vi e.key] (vb (P1 m)) := fun m h1 h2 => by rw [← hP1]; exact hcons _ _ (by omega) h1 (by omega)
  have hc2 : ∀ m : Int, e.at_.lo ≤ m → m ≤ e.at_.hi → Pu Tryz.prog G1 32 [bookV (narBk c id ⟨m, e.at_.hi⟩), vi e.key] (vb (P2 m)) := fun m h1 h2 => by rw [← hP2]; exact hcons _ _ (by omega) h2 (by omega)
  clear hP1 hP2 hcons; have hidx : (c.entries.map encE)[k]? = some (encE e) := by rw [List.getElem?_map, List.getElem?_eq_getElem hk, he]; rfl
  generalize hr1 : bsLo P1 (e.at_.hi - e.at_.lo + 1).toNat (e.at_.lo - 1) e.at_.hi = r1; generalize hr2 : bsHi P2 (e.at_.hi - e.at_.lo + 1).toNat e.at_.lo (e.at_.hi + 1) = r2; refine Qc 79 Tryz.func33 rfl rfl ?_; refine Qs ?_
  (conv => whnf)
  refine CodeN.re (Reabs.frz 0 [bookC c] 26 rfl (deepAll rfl)) ?_; refine Qe ?_
  repeat' ((conv => whnf); first | refine SlIdxN.mk k (encE e) rfl hidx ?_ | refine vv20 ?_ | refine vv21 ?_ | refine vv22 ?_ | refine vv25 ?_ | refine Qd ?_ | refine Qg e1 ?_)
  refine LoopN.re (Reabs.frz 2 [encE e] 68 rfl (deepAll rfl)) ?_; refine LoopN.of Qt (fun x : Nat × Int × Int => [(1, vi id), (2, .pi (bookC c)), (4, .pm 0 0 0), (5, .pi (encE e)), (6, vi x.2.1), (7, vi x.2.2)]) (fun _ => [.rows [[vi 0, vi 0]] 28]) (fun x => (x.2.2 - x.2.1).toNat) (fun x => bsLo P1 x.1 x.2.1 x.2.2 = r1 ∧ (x.2.2 - x.2.1).toNat ≤ x.1 ∧ e.at_.lo - 1 ≤ x.2.1 ∧ x.2.1 < x.2.2 ∧ x.2.2 ≤ e.at_.hi) ((e.at_.hi - e.at_.lo + 1).toNat, e.at_.lo - 1, e.at_.hi) ⟨hr1, by simp only; omega, Int.le_refl _, by simp only; omega, Int.le_refl _⟩ (QM [1]) ?_; clear hr1; rintro ⟨f, a, b⟩ ⟨hinv, hf, ha, hab, hbh⟩; simp only at hinv hf ha hab hbh ⊢; by_cases hgt : 1 < b - a
  · obtain ⟨f, rfl⟩ : ∃ f', f = f' + 1 := ⟨f - 1, by omega⟩; rw [bsLo, if_pos hgt] at hinv
    have hw : IntKind.i64.wrap ((a + b).tdiv 2) = (a + b) / 2 := by
      rw [Int.tdiv_eq_ediv_of_nonneg (by omega)]; exact wrapI ⟨by omega, by omega⟩
    have h1 := hc1 ((a + b) / 2) (by omega) (by omega); have h2 := hnar ⟨e.at_.lo, (a + b) / 2⟩; obtain ⟨m, hm⟩ : ∃ m, m = (a + b) / 2 := ⟨_, rfl⟩; rw [← hm] at hinv hw h1 h2; have hm1 : a < m := by omega
    have hm2 : m < b := by omega
    cases hp : P1 m with
    | true =>
      rw [hp] at h1 hinv; rw [if_pos rfl] at hinv
      repeat' ((conv => whnf); first | refine WrapN.mk m hw ?_ | refine vv1 ?_ | refine vv3 ?_ | refine vv20 ?_ | refine vv25 ?_ | refine Need.mk (by first | assumption | omega | (simp <;> omega)) ?_ | refine Qd ?_ | refine Qg h1 ?_ | refine Qg h2 ?_)
      exact BackN.mk (f, a, m) ⟨hinv, by simp only; omega, ha, hm1, by simp only; omega⟩ (by simp only; omega) (QM [0])
    | false =>
      rw [hp] at h1 hinv; rw [if_neg (by simp)] at hinv
      repeat' ((conv => whnf); first | refine WrapN.mk m hw ?_ | refine vv2 ?_ | refine vv3 ?_ | refine vv20 ?_ | refine vv25 ?_ | refine Need.mk (by first | assumption | omega | (simp <;> omega)) ?_ | refine Qd ?_ | refine Qg h1 ?_ | refine Qg h2 ?_)
      exact BackN.mk (f, m, b) ⟨hinv, by simp only; omega, by simp only; omega, hm2, hbh⟩ (by simp only; omega) (QM [0])
  rw [bsLo_end hgt] at hinv; subst hinv; clear hf ha
  repeat' ((conv => whnf); first | refine vv4 ?_ | refine vv20 ?_)
  refine LoopN.of Qt (fun x : Nat × Int × Int => [(1, vi id), (2, .pi (bookC c)), (4, .pm 0 0 0), (5, .pi (encE e)), (9, vi b), (6, vi x.2.1), (7, vi x.2.2)]) (fun _ => [.rows [[vi 0, vi 0]] 28]) (fun x => (x.2.2 - x.2.1).toNat) (fun x => bsHi P2 x.1 x.2.1 x.2.2 = r2 ∧ (x.2.2 - x.2.1).toNat ≤ x.1 ∧ e.at_.lo ≤ x.2.1 ∧ x.2.1 < x.2.2 ∧ x.2.2 ≤ e.at_.hi + 1) ((e.at_.hi - e.at_.lo + 1).toNat, e.at_.lo, e.at_.hi + 1) ⟨hr2, by simp only; omega, Int.le_refl _, by simp only; omega, Int.le_refl _⟩ (QM [0]) ?_; clear hr2 hab hgt; rintro ⟨f, a2, b2⟩ ⟨hinv, hf, ha, hab, hbh2⟩; simp only at hinv hf ha hab hbh2 ⊢; by_cases hgt : 1 < b2 - a2
  · obtain ⟨f, rfl⟩ : ∃ f', f = f' + 1 := ⟨f - 1, by omega⟩; rw [bsHi, if_pos hgt] at hinv
    have hw : IntKind.i64.wrap ((a2 + b2).tdiv 2) = (a2 + b2) / 2 := by
      rw [Int.tdiv_eq_ediv_of_nonneg (by omega)]; exact wrapI ⟨by omega, by omega⟩
    have h1 := hc2 ((a2 + b2) / 2) (by omega) (by omega); have h2 := hnar ⟨(a2 + b2) / 2, e.at_.hi⟩; obtain ⟨m, hm⟩ : ∃ m, m = (a2 + b2) / 2 := ⟨_, rfl⟩; rw [← hm] at hinv hw h1 h2; have hm1 : a2 < m := by omega
    have hm2 : m < b2 := by omega
    cases hp : P2 m with
    | true =>
      rw [hp] at h1 hinv; rw [if_pos rfl] at hinv
      repeat' ((conv => whnf); first | refine WrapN.mk m hw ?_ | refine vv1 ?_ | refine vv3 ?_ | refine vv20 ?_ | refine vv25 ?_ | refine Need.mk (by first | assumption | omega | (simp <;> omega)) ?_ | refine Qd ?_ | refine Qg h1 ?_ | refine Qg h2 ?_)
      exact BackN.mk (f, m, b2) ⟨hinv, by simp only; omega, by simp only; omega, hm2, hbh2⟩ (by simp only; omega) (QM [0])
    | false =>
      rw [hp] at h1 hinv; rw [if_neg (by simp)] at hinv
      repeat' ((conv => whnf); first | refine WrapN.mk m hw ?_ | refine vv2 ?_ | refine vv3 ?_ | refine vv20 ?_ | refine vv25 ?_ | refine Need.mk (by first | assumption | omega | (simp <;> omega)) ?_ | refine Qd ?_ | refine Qg h1 ?_ | refine Qg h2 ?_)
      exact BackN.mk (f, a2, m) ⟨hinv, by simp only; omega, ha, hm1, by simp only; omega⟩ (by simp only; omega) (QM [0])
  rw [bsHi_end hgt] at hinv; subst hinv
  repeat' ((conv => whnf); first | refine vv4 ?_ | refine vv20 ?_ | refine vv21 ?_ | refine vv22 ?_)
  exact Qv
end
end Go.Proofs.Ax
