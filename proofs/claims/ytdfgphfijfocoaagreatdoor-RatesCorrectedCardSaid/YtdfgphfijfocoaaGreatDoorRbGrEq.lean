import Derived.Test.YtdfgphfijfocoaaGreatDoorRbPE
import Derived.Test.YtdfgphfijfocoaaGreatDoorAxG
namespace Go.Proofs.Ax
open Go Go.Proofs
set_option maxRecDepth 10000
set_option maxHeartbeats 4000000
theorem tryd_okg (m n : Nat) : EC.Ok ⟨⟨Tryz.prog, G1, m, none⟩, n, Tryz.tab⟩ := ⟨fun t i h => TT.get_ok Tryz.tabOk t i h, enters, mixed⟩
/-- The name of a posting's group. -/
def nmOf (p : Posting) : Int × Int := (p.night, p.no)
def kN (q : Int × Int) : AV := .agg [vi q.1, vi q.2]
abbrev gsOf (l : List Posting) : List ((Int × Int) × List Posting) := groupsOf nmOf l
theorem nm_key (q : Int × Int) : akeyOk Tryz.prog 12 100 (kN q) = true := by kernel_rfl
theorem nm_eq (a b : Int × Int) : aeq Tryz.prog 12 100 (kN a) (kN b) = some (decide (a = b)) := by
  have h : aeq Tryz.prog 12 100 (kN a) (kN b) = some (decide (a.1 = b.1) && decide (a.2 = b.2)) := aeqT_ok (tryd_okg 0 0) 12 100 _ _ _ rfl
  rw [h]
  congr 1
  rw [← Bool.decide_and, decide_eq_decide, Prod.ext_iff]
abbrev gEn (f : Nat → Nat) (gs : List ((Int × Int) × List Posting)) := gEnt kN 5 f 0 gs
theorem entry_old {H : AH} {gs : List ((Int × Int) × List Posting)} {q : Int × Int} {i : Nat} {g : (Int × Int) × List Posting} (hi : idxG q gs = some i) (hg : gs[i]? = some g) (h0 : H[0]? = some (.amap (gEn (· + 1) gs) gs.length)) :
    amapEntry Tryz.prog H 123 (.mp 0) (kN q) = some (.tuple [.sm (i + 1) 5 0 g.2.length, .sc (.int .i64 i)], H) := by
  have hf := find_some (ke := kN) nm_eq (v := fun j g => .sm (j + 1) 5 0 g.2.length) (i := 0) (n := 0) (q := q) (gs := gs) (fun j => gEnt_get (ke := kN) (k := 5) (· + 1) 0 gs j) hi hg
  simp only [amapEntry, Tryz.underlying123, h0, nm_key, if_true, hf, Nat.zero_add]
  have hk : akeep (kN q) (kN q) = true := by
    simp [akeep, acon, kN, scs, Instr.sameBits]
  rw [if_pos hk]
  congr 2
  have hes : (gEn (· + 1) gs).set i (kN q, .sm (i + 1) 5 0 g.2.length, i) = gEn (· + 1) gs := by
    refine List.ext_getElem? fun j => ?_
    rw [List.getElem?_set]
    by_cases hj : i = j
    · subst hj
      have : i < (gEn (· + 1) gs).length := by rw [gEnt_length]; exact (List.getElem?_eq_some_iff.1 hg).1
      rw [if_pos rfl, if_pos this, gEnt_get, hg, Option.map_some, Nat.zero_add]
      have := (addG_some (x := (⟨0, 0, 0, 0, 0⟩ : Posting)) hi)
      obtain ⟨g', e1, e2, -⟩ := this
      rw [hg] at e1
      cases e1
      rw [e2]
    · rw [if_neg hj]
  rw [hes]
  refine List.ext_getElem? fun j => ?_
  rw [List.getElem?_set]
  split
  · rename_i e
    subst e
    rw [if_pos (List.getElem?_eq_some_iff.1 h0).1, h0]
  · rfl
theorem entry_new {H : AH} {gs : List ((Int × Int) × List Posting)} {q : Int × Int} (hi : idxG q gs = none) (h0 : H[0]? = some (.amap (gEn (· + 1) gs) gs.length)) :
    amapEntry Tryz.prog H 123 (.mp 0) (kN q) = some (.tuple [.sc (.slice none 0 0), .sc (.int .i64 gs.length)], H.set 0 (.amap (gEn (· + 1) gs ++ [(kN q, .sc (.slice none 0 0), gs.length)]) (gs.length + 1))) := by
  have hf := find_none (ke := kN) nm_eq (v := fun j g => .sm (j + 1) 5 0 g.2.length) (i := 0) (n := 0) (q := q) (gs := gs) (fun j => gEnt_get (ke := kN) (k := 5) (· + 1) 0 gs j) hi
  have hz : azero Tryz.prog 49 = some (.sc (.slice none 0 0)) := by kernel_rfl
  simp only [amapEntry, Tryz.underlying123, h0, nm_key, if_true, hf, hz]
  rfl
theorem store_at {P : Program} {H : AH} {es : List (AV × AV × Nat)} {c i : Nat} {X : AV} {e : AV × AV × Nat} (h0 : H[0]? = some (.amap es c)) (hst : ∀ m e, es[m]? = some e → e.2.2 = 0 + m) (he : es[i]? = some e) :
    (aentryStore P H (.mp 0) (.sc (.int .i64 (i : Nat))) X).map (AV.any, ·) = some (.any, H.set 0 (.amap (es.set i (e.1, X, e.2.2)) c)) := by
  have := stamp_at (es := es) (i := 0) (j := i) hst (List.getElem?_eq_some_iff.1 he).1
  rw [Nat.zero_add] at this
  simp only [aentryStore, h0, this, he, Option.map_some]
theorem gEn_stamp (f : Nat → Nat) (gs : List ((Int × Int) × List Posting)) : ∀ m e, (gEn f gs)[m]? = some e → e.2.2 = 0 + m := by
  intro m e h
  rw [gEnt_get] at h
  cases hg : gs[m]? with
  | none => rw [hg] at h; cases h
  | some g => rw [hg] at h; cases h; rfl
theorem groups_ef (t : Bool) (l : List Posting) (hmax : l.length ≤ 1000000) : Ef Tryz.prog G1 82 [postings t l] [] fun y H' => y = .mp 0 ∧ H' = [.amap (fEnt kN Posting.enc 5 0 (gsOf l)) (gsOf l).length] := by
  refine Ef.reabs ?_
  refine Ef.of_ev (T := Tryz.tab) (n := 29) (tryd_okg 0 _) rfl Tryz.func82 rfl rfl (by simp) ?_
  (conv => whnf)
  refine StepN.mk (.mp 0) [.amap [] 0] (by simp only [astep, amakeMap, Tryz.underlying123]; rfl) ?_
  ((conv => whnf); repeat' ((first | refine vv23 ?_) <;> (conv => whnf)))
  refine LoopN.of (tryd_okg 0 _) (fun (k : Nat) => [(3, .mp 0), (8, postings t l), (9, vi l.length), (10, vi k)]) (fun k => gH kN Posting.enc 5 61 (gsOf (l.take k))) (fun k => l.length - k) (fun k => k ≤ l.length) 0 (Nat.zero_le _)
    (Reabs.frmM [0] (by repeat (first | exact trivial | refine ⟨.inr ⟨rfl, rfl⟩, ?_⟩ | refine ⟨.inr ⟨rfl, vi_eq (by first | omega | (simp; done) | (simp; omega))⟩, ?_⟩ | refine ⟨.inr ⟨rfl, smE rfl (by first | omega | (simp; done) | (simp; omega))⟩, ?_⟩)) (by exact ⟨⟨_, rfl, .inr (.inl ⟨rfl, fun e he => by cases he⟩), fun _ => rfl⟩, trivial⟩) rfl rfl) ?_
  intro k hk
  by_cases hlt : k < l.length
  · generalize hgs : gsOf (l.take k) = gs at *
    show ev _ _ _ (gH kN Posting.enc 5 61 gs) _
    generalize hH : gH kN Posting.enc 5 61 gs = H0
    generalize hN : H0.length = N
    ((conv => whnf); repeat' ((first | refine vv7 ?_ | refine SlIdxN.map _ rfl (by first | assumption | omega) ?_) <;> (conv => whnf)))
    refine snocK_0 hN ?_
    (conv => whnf)
    rw [nthB_0 hN]
    ((conv => whnf); repeat' ((first | refine vv22 ?_) <;> (conv => whnf)))
    refine setK_0 hN ?_
    (conv => whnf)
    rw [nthB_0 hN]
    ((conv => whnf); repeat' ((first | refine vv21 ?_) <;> (conv => whnf)))
    rw [nthB_0 hN]
    ((conv => whnf); repeat' ((first | refine vv21 ?_) <;> (conv => whnf)))
    refine snocK_1 hN ?_
    (conv => whnf)
    rw [nthB_1 hN]
    ((conv => whnf); repeat' ((first | refine vv22 ?_) <;> (conv => whnf)))
    refine setK_1 hN ?_
    (conv => whnf)
    rw [nthB_1 hN]
    ((conv => whnf); repeat' ((first | refine vv21 ?_) <;> (conv => whnf)))
    rw [nthB_0 hN]
    ((conv => whnf); repeat' ((first | refine vv21 ?_) <;> (conv => whnf)))
    have hN' : N = gs.length + 1 := by rw [← hN, ← hH, gH_length]
    have h0 : H0[0]? = some (.amap (gEn (· + 1) gs) gs.length) := by rw [← hH]; rfl
    have hj : ∀ j g, gs[j]? = some g → H0[j + 1]? = some (.rows (g.2.map Posting.enc) 61) := by
      intro j g hg
      rw [← hH]
      show (gBlk Posting.enc 61 gs)[j]? = _
      rw [gBlk_get, hg]; rfl
    have h0' : ∀ L : AH, (H0 ++ L)[0]? = some (.amap (gEn (· + 1) gs) gs.length) := by
      intro L
      rw [List.getElem?_append_left (by omega), h0]
    have L2 : ∀ (A B : ABlk), (H0 ++ [A, B]).length = N + 2 := fun A B => by simp [hN]
    have done : ∀ (gs' : List ((Int × Int) × List Posting)) (f : Nat → Nat) (H3 : AH) (lf : Fr), gsOf (l.take (k + 1)) = gs' → H3[0]? = some (.amap (gEn f gs') gs'.length) → (∀ j g, gs'[j]? = some g → H3[f j]? = some (.rows (g.2.map Posting.enc) 61)) →
        (∀ i j, i < gs'.length → j < gs'.length → f i = f j → i = j) → (∀ i, i < gs'.length → f i ≠ 0) → AllS (fun i => match i with | 0 => 0 | i + 1 => f i) (gs'.length + 1) lf [(3, .mp 0), (8, postings t l), (9, vi l.length), (10, vi ((k + 1 : Nat) : Int))] →
        BackN ⟨⟨Tryz.prog, G1, 0, none⟩, 29, Tryz.tab⟩ (fun (k : Nat) => [(3, .mp 0), (8, postings t l), (9, vi l.length), (10, vi k)]) (fun k => gH kN Posting.enc 5 61 (gsOf (l.take k))) (fun k => l.length - k) (fun k => k ≤ l.length) (l.length - k) lf H3 := by
      intro gs' f H3 lf e1 e2 e3 e4 e5 e6
      refine BackN.mk (k + 1) (by omega) (by omega) ?_
      show Reabs _ _ ⟨_, gH kN Posting.enc 5 61 (gsOf (l.take (k + 1)))⟩
      rw [e1]
      exact Reabs.grp rfl (fun _ => rfl) (fun q σ n => ⟨rfl, rfl⟩) gs' f e2 e3 e4 e5 e6
    have hsn : gsOf (l.take (k + 1)) = addG (nmOf l[k]) l[k] gs := by rw [take_succ_snoc hlt, gsOf, groupsOf_snoc, ← hgs]
    cases hix : idxG (nmOf l[k]) gs with
    | some i =>
      have hil := idxG_lt hix
      have hg : gs[i]? = some gs[i] := List.getElem?_eq_getElem hil
      have hgl : gs[i].2.length ≤ l.length := by
        have h1 := groupsOf_ok nmOf (l.take k)
        rw [show groupsOf nmOf (l.take k) = gs from hgs] at h1
        rw [h1.get (List.getElem_mem hil)]
        have h2 := List.length_filter_le (fun x => decide (nmOf x = gs[i].1)) (l.take k)
        rw [List.length_take] at h2
        omega
      have hkey : gs[i].1 = nmOf l[k] := by
        obtain ⟨g', e1, e2, -⟩ := addG_some (x := l[k]) hix
        rw [hg] at e1
        cases e1
        exact e2
      refine StepN.mk (.tuple [.sm (i + 1) 5 0 gs[i].2.length, .sc (.int .i64 (i : Nat))]) (H0 ++ [ABlk.rows [l[k].enc] 61, ABlk.rows [[vi l[k].night, vi l[k].no]] 100] : AH) ((show _ = _ from entry_old (q := nmOf l[k]) hix hg (h0' [.rows [l[k].enc] 61, .rows [[vi l[k].night, vi l[k].no]] 100]))) ?_
      (conv => whnf)
      rw [nthB_l (hj i _ hg)]
      ((conv => whnf); repeat' ((first | refine vv31 ?_) <;> (conv => whnf)))
      refine setK_l (by omega) ?_
      ((conv => whnf); repeat' ((first | refine vv33 ?_) <;> (conv => whnf)))
      refine snocK_2 (N := N) (by simp [hN]) ?_
      (conv => whnf)
      refine StepN.mk .any (((H0.set (i + 1) .dead).set 0 (.amap ((gEn (· + 1) gs).set i (kN (nmOf l[k]), .sm (N + 2) 5 0 (gs[i].2.length + 1), i)) gs.length)) ++ [.rows [l[k].enc] 61, .rows [[vi l[k].night, vi l[k].no]] 100, .rows (gs[i].2.map Posting.enc ++ [l[k].enc]) 61]) ?_ ?_
      · have he : (gEn (· + 1) gs)[i]? = some (kN (nmOf l[k]), .sm (i + 1) 5 0 gs[i].2.length, i) := by rw [gEnt_get, hg, Option.map_some, Nat.zero_add, hkey]
        refine (store_at (c := gs.length) ?_ (gEn_stamp _ gs) he).trans ?_
        · rw [List.getElem?_append_left (by simp; omega), List.getElem?_set_ne (by omega), h0]
        · rw [List.set_append_left _ _ (by simp; omega)]
          rfl
      ((conv => whnf); repeat' ((first | refine vv20 ?_) <;> (conv => whnf)))
      refine done (gs.set i (nmOf l[k], gs[i].2 ++ [l[k]])) (fun j => if j = i then N + 2 else j + 1) _ _ ?_ ?_ ?_ ?_ ?_ ?_
      · rw [hsn]
        obtain ⟨g', e1, e2, e3⟩ := addG_some (x := l[k]) hix
        rw [hg] at e1
        cases e1
        exact e3
      · rw [List.getElem?_append_left (by simp; omega), List.getElem?_set_self (by simp; omega), List.length_set]
        congr 2
        refine List.ext_getElem? fun j => ?_
        rw [List.getElem?_set, gEnt_length, gEnt_get, gEnt_get, List.getElem?_set]
        by_cases hj : i = j
        · subst hj
          rw [if_pos rfl, if_pos hil, if_pos rfl, if_pos hil, Option.map_some]
          simp
        · rw [if_neg hj, if_neg hj, Nat.zero_add]
          cases gs[j]? with
          | none => rfl
          | some g => simp only [Option.map_some]; rw [if_neg (fun e => hj e.symm)]
      · intro j g hgj
        rw [List.getElem?_set] at hgj
        try simp only
        by_cases hij : i = j
        · subst hij
          rw [if_pos rfl, if_pos hil] at hgj
          cases hgj
          rw [if_pos rfl, List.getElem?_append_right (by simp; omega)]
          simp [hN, List.map_append]
        · rw [if_neg hij] at hgj
          have hjl : j < gs.length := (List.getElem?_eq_some_iff.1 hgj).1
          rw [if_neg (fun e => hij e.symm), List.getElem?_append_left (by simp; omega), List.getElem?_set_ne (by omega), List.getElem?_set_ne (by omega)]
          exact hj j g hgj
      · intro a b ha hb hab
        rw [List.length_set] at ha hb
        try simp only at hab
        split at hab <;> split at hab <;> omega
      · intro a ha
        try simp only
        split <;> omega
      · exact ⟨.inr ⟨rfl, rfl⟩, .inr ⟨rfl, rfl⟩, .inr ⟨rfl, rfl⟩, .inr ⟨rfl, vi_eq (by omega)⟩, trivial⟩
    | none =>
      refine StepN.mk _ (H0.set 0 (.amap (gEn (· + 1) gs ++ [(kN (nmOf l[k]), .sc (.slice none 0 0), gs.length)]) (gs.length + 1)) ++ [.rows [l[k].enc] 61, .rows [[vi l[k].night, vi l[k].no]] 100]) ((entry_new (q := nmOf l[k]) hix (h0' _)).trans (by rw [List.set_append_left _ _ (by omega)])) ?_
      ((conv => whnf); repeat' ((first | refine vv32 ?_) <;> (conv => whnf)))
      refine snocK_2 (N := N) (by simp [hN]) ?_
      (conv => whnf)
      refine StepN.mk .any (H0.set 0 (.amap (gEn (· + 1) gs ++ [(kN (nmOf l[k]), .sm (N + 2) 5 0 1, gs.length)]) (gs.length + 1)) ++ [ABlk.rows [l[k].enc] 61, ABlk.rows [[vi l[k].night, vi l[k].no]] 100, ABlk.rows [l[k].enc] 61] : AH) ?_ ?_
      · refine (store_at (i := gs.length) (c := gs.length + 1) (e := (kN (nmOf l[k]), .sc (.slice none 0 0), gs.length)) (es := gEn (· + 1) gs ++ [(kN (nmOf l[k]), .sc (.slice none 0 0), gs.length)]) ?_ ?_ ?_).trans ?_
        · rw [List.getElem?_append_left (by simp; omega), List.getElem?_set_self (by omega)]
        · intro m e he
          rcases getElem?_snoc he with ⟨-, he⟩ | ⟨rfl, rfl⟩
          · exact gEn_stamp _ gs m e he
          · show gs.length = 0 + _
            rw [gEnt_length]; omega
        · rw [List.getElem?_append_right (by rw [gEnt_length]; omega), gEnt_length]; simp
        · rw [List.set_append_left _ _ (by simp; omega), List.set_set, List.set_append_right _ _ (by rw [gEnt_length]; omega), gEnt_length, Nat.sub_self]
          rfl
      ((conv => whnf); repeat' ((first | refine vv20 ?_) <;> (conv => whnf)))
      refine done (gs ++ [(nmOf l[k], [l[k]])]) (fun j => if j = gs.length then N + 2 else j + 1) _ _ ?_ ?_ ?_ ?_ ?_ ?_
      · rw [hsn, addG_none hix]
      · rw [List.getElem?_append_left (by simp; omega), List.getElem?_set_self (by omega), List.length_append]
        congr 2
        rw [gEn, gEn, gEnt_append]
        congr 1
        · refine List.ext_getElem? fun j => ?_
          rw [gEnt_get, gEnt_get]
          cases hgj : gs[j]? with
          | none => rfl
          | some g =>
            have hjl : j < gs.length := (List.getElem?_eq_some_iff.1 hgj).1
            simp only [Option.map_some, Nat.zero_add]
            rw [if_neg (by omega)]
        · simp [gEnt]
      · intro j g hgj
        try simp only
        rcases getElem?_snoc hgj with ⟨hjl, hgj⟩ | ⟨rfl, rfl⟩
        · rw [if_neg (by omega), List.getElem?_append_left (by simp; omega), List.getElem?_set_ne (by omega)]
          exact hj j g hgj
        · rw [if_pos rfl, List.getElem?_append_right (by simp; omega)]
          simp [hN]
      · intro a b ha hb hab
        rw [List.length_append, List.length_singleton] at ha hb
        try simp only at hab
        split at hab <;> split at hab <;> omega
      · intro a ha
        try simp only
        split <;> omega
      · exact ⟨.inr ⟨rfl, rfl⟩, .inr ⟨rfl, rfl⟩, .inr ⟨rfl, rfl⟩, .inr ⟨rfl, vi_eq (by omega)⟩, trivial⟩
  · obtain rfl : k = l.length := by omega
    ((conv => whnf); repeat' ((first | refine vv8 ?_) <;> (conv => whnf)))
    rw [List.take_length]
    exact ⟨⟨_, _, Reabs.grps rfl (fun _ => rfl) (fun _ _ _ => rfl) (fun _ _ => rfl) (gsOf l), rfl, rfl⟩⟩
end Go.Proofs.Ax
namespace Go.Proofs.Ax
open Go Go.Proofs
set_option maxRecDepth 10000
set_option maxHeartbeats 4000000
theorem post_eqd (x y : Posting) : (decide (x.night = y.night) && (decide (x.no = y.no) && (decide (x.src = y.src) && (decide (x.dst = y.dst) && decide (x.amount = y.amount))))) = decide (x = y) := by
  cases x; cases y; simp
theorem equalPs_ok (t u : Bool) (a b : List Posting) (hmax : a.length ≤ 9223372036854775807) (hmax' : b.length ≤ 9223372036854775807) : Pu Tryz.prog G1 98 [postings t a, postings u b] (vb (decide (a = b))) := by
  refine Pu.of_ev (T := Tryz.tab) (n := 26) (tryd_ok _) Tryz.func98 rfl rfl rfl (by first | rfl | (split <;> rfl)) (by simp) ?_
  ((conv => whnf); repeat' ((first | refine vv1 ?_ | refine vv2 ?_ | refine vv3 ?_ | refine vv4 ?_ | refine vv5 ?_ | refine vv6 ?_ | refine vv7 ?_ | refine vv8 ?_ | refine vv9 ?_ | refine vv10 ?_ | refine vv11 (fun hbr => ?_) (fun hbr => ?_) | refine vv12 (fun hbr => ?_) (fun hbr => ?_) | refine vv13 ?_ | refine vv14 ?_ | refine vv15 ?_ | refine vv16 ?_ | refine vv17 (fun hbr => ?_) (fun hbr => ?_) | refine vv18 ?_ | refine vv19 (fun hbr => ?_) (fun hbr => ?_) | refine vv20 ?_ | refine SlIdxN.map _ rfl (by first | assumption | omega) ?_ | refine SlIdxN.mapPred (by omega) (by omega) ?_ | refine SlIdxN.mapSucc (by omega) ?_ | refine SlIdxN.lit _ _ rfl rfl ?_ | refine SlIdxN.mapInt (by omega) (by omega) ?_ | refine IdxN.at0 _ rfl (by first | assumption | omega | (simp <;> omega)) ?_ | refine vv21 ?_ | refine RowN.map (by first | assumption | omega) ?_ | refine vv22 ?_ | refine RowSN.map (by first | assumption | omega) ?_ | refine vv23 ?_ | refine vv24 ?_ | refine vv25 ?_ | refine Need.mk (by first | assumption | omega | (simp <;> omega)) ?_ | refine DrawN.gen (by first | exact tryd_ok _ | exact tryd_okm _ _) (by kernel_rfl) ?_ | refine vv26 ?_ | refine vv27 ?_ | refine vv28 ?_ | refine vv29 ?_ | refine vv30 ?_ | refine vv31 ?_ | refine vv32 ?_ | refine vv33 ?_) <;> (conv => whnf)))
  all_goals first
    | (refine DoneN.pure (vb_ff ?_); intro he; subst he; omega)
    | skip
  refine LoopN.of (tryd_ok _) (fun k : Nat => [(0, postings t a), (1, postings u b), (12, vi a.length), (13, vi k)]) (fun _ => []) (fun k => a.length - k) (fun k => k ≤ a.length ∧ a.length = b.length ∧ ∀ j, (h : j < a.length) → (h' : j < b.length) → j < k → a[j] = b[j]) 0 ⟨Nat.zero_le _, by omega, fun j h h' hj => by omega⟩ (Reabs.frm0 rfl (by repeat (first | exact trivial | refine ⟨.inr ⟨rfl, rfl⟩, ?_⟩))) ?_
  rintro k ⟨hk, hab, hall⟩
  ((conv => whnf); repeat' ((first | refine vv1 ?_ | refine vv2 ?_ | refine vv3 ?_ | refine vv4 ?_ | refine vv5 ?_ | refine vv6 ?_ | refine vv7 ?_ | refine vv8 ?_ | refine vv9 ?_ | refine vv10 ?_ | refine vv11 (fun hbr => ?_) (fun hbr => ?_) | refine vv12 (fun hbr => ?_) (fun hbr => ?_) | refine vv13 ?_ | refine vv14 ?_ | refine vv15 ?_ | refine vv16 ?_ | refine vv17 (fun hbr => ?_) (fun hbr => ?_) | refine vv18 ?_ | refine vv19 (fun hbr => ?_) (fun hbr => ?_) | refine vv20 ?_ | refine SlIdxN.map _ rfl (by first | assumption | omega) ?_ | refine SlIdxN.mapPred (by omega) (by omega) ?_ | refine SlIdxN.mapSucc (by omega) ?_ | refine SlIdxN.lit _ _ rfl rfl ?_ | refine SlIdxN.mapInt (by omega) (by omega) ?_ | refine IdxN.at0 _ rfl (by first | assumption | omega | (simp <;> omega)) ?_ | refine vv21 ?_ | refine RowN.map (by first | assumption | omega) ?_ | refine vv22 ?_ | refine RowSN.map (by first | assumption | omega) ?_ | refine vv23 ?_ | refine vv24 ?_ | refine vv25 ?_ | refine Need.mk (by first | assumption | omega | (simp <;> omega)) ?_ | refine DrawN.gen (by first | exact tryd_ok _ | exact tryd_okm _ _) (by kernel_rfl) ?_ | refine vv26 ?_ | refine vv27 ?_ | refine vv28 ?_ | refine vv29 ?_ | refine vv30 ?_ | refine vv31 ?_ | refine vv32 ?_ | refine vv33 ?_) <;> (conv => whnf)))
  · rw [post_eqd] at hbr
    have hbr := of_decide_eq_true hbr
    refine BackN.mk (k + 1) ⟨by omega, hab, fun j h h' hj => ?_⟩ (by omega) (Reabs.frm0 rfl (by repeat (first | exact trivial | refine ⟨.inr ⟨rfl, rfl⟩, ?_⟩)))
    by_cases hq : j = k
    · subst hq; assumption
    · exact hall j h h' (by omega)
  · rw [post_eqd] at hbr
    have hbr := of_decide_eq_false hbr
    refine DoneN.pure (vb_ff ?_); intro he; subst he; exact absurd rfl hbr
  · refine DoneN.pure (vb_tt ?_)
    refine List.ext_getElem hab fun j h h' => hall j h h' (by omega)
/-- A nil slice stands for an empty one. -/
def NilA : List AV → List AV → Prop
  | [], [] => True
  | x :: xs, y :: ys => (x = y ∨ (x = .sc (.slice none 0 0) ∧ ∃ k t, y = .sl k t [])) ∧ NilA xs ys
  | _, _ => False
theorem NilA.get {xs ys : List AV} (h : NilA xs ys) : xs.length = ys.length ∧ ∀ (i : Nat) (y : AV), ys[i]? = some y → ∃ x, xs[i]? = some x ∧ (x = y ∨ (x = .sc (.slice none 0 0) ∧ ∃ k t, y = .sl k t [])) := by
  induction xs generalizing ys with
  | nil => cases ys with
    | nil => exact ⟨rfl, fun i y h => by simp at h⟩
    | cons y ys => exact h.elim
  | cons x xs ih => cases ys with
    | nil => exact h.elim
    | cons y ys =>
      obtain ⟨h1, h2⟩ := ih h.2
      refine ⟨by simp [h1], fun i z hz => ?_⟩
      cases i with
      | zero => simp at hz; subst hz; exact ⟨x, rfl, h.1⟩
      | succ i => obtain ⟨x', g1, g2⟩ := h2 i z (by simpa using hz); exact ⟨x', by simpa using g1, g2⟩
theorem Pu.nils {P : Program} {G : Glob} {f : FuncId} {xs bs : List AV} {y : AV} (h : Pu P G f bs y) (hn : NilA xs bs) : Pu P G f xs y := by
  obtain ⟨h1, h2⟩ := hn.get
  refine ⟨h.1, fun H I w ρ vs hh hl hv => h.2 H I w ρ vs hh (hl.trans h1) fun i x hx => ?_⟩
  obtain ⟨x', g1, rfl | ⟨rfl, k, t, rfl⟩⟩ := h2 i x hx
  · exact hv i _ g1
  · have := hv i _ g1
    generalize vs.getD i undef = v at this
    cases this
    exact .slNil
end Go.Proofs.Ax
