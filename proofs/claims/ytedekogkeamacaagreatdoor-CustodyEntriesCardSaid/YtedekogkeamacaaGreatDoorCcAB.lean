import Derived.Test.YtedekogkeamacaaGreatDoorCcAA
import Derived.Test.YtedekogkeamacaaGreatDoorAxM
import Derived.Test.YtedekogkeamacaaGreatDoorAxG
namespace Go.Proofs.Ax
open Go Go.Proofs Go.Proofs.Cu
set_option maxRecDepth 10000
set_option maxHeartbeats 4000000
section
theorem int_eq (a b : Int) : aeq Tryz.prog 12 3 (vi a) (vi b) = some (decide (a = b)) := aeqT_ok (tryd_okm 0 0) 12 3 _ _ _ rfl
abbrev kI (q : Int) : AV := vi q
abbrev vHas (l : List Entr) : AV := vb (!l.isEmpty)
abbrev vCnt (l : List Entr) : AV := vi l.length
theorem keyHas : KeyOk Tryz.prog kI vHas 146 3 4 where
  und := Tryz.underlying146
  key := fun q => by kernel_rfl
  eq := int_eq
  keep := fun q => by simp [akeep, acon, Instr.sameBits]
  zero := by kernel_rfl
theorem keyCnt : KeyOk Tryz.prog kI vCnt 147 3 3 where
  und := Tryz.underlying147
  key := fun q => by kernel_rfl
  eq := int_eq
  keep := fun q => by simp [akeep, acon, Instr.sameBits]
  zero := by kernel_rfl
abbrev mHas (l : List Entr) : ABlk := vB kI vHas (groupsOf (·.id) l)
abbrev mCnt (l : List Entr) : ABlk := vB kI vCnt (groupsOf (·.key) l)
theorem mHas_blk (l : List Entr) {σ : Nat → Nat} {n : Nat} : Blk σ n (mHas l) (mHas l) := vB_blk (fun _ _ _ => ⟨rfl, rfl⟩) (fun _ _ _ => ⟨rfl, rfl⟩) _
theorem mCnt_blk (l : List Entr) {σ : Nat → Nat} {n : Nat} : Blk σ n (mCnt l) (mCnt l) := vB_blk (fun _ _ _ => ⟨rfl, rfl⟩) (fun _ _ _ => ⟨rfl, rfl⟩) _
theorem lookHas (l : List Entr) (a : Int) {H : AH} {m : Nat} (hm : H[m]? = some (mHas l)) : (alookup Tryz.prog H 146 (.mp m) (vi a) false).map (fun y => (y, H)) = some (vb (l.any fun x => x.id == a), H) := by
  have := keyHas.look (groupsOf (·.id) l) a hm
  have e : (!(lookG a (groupsOf (·.id) l)).isEmpty) = l.any fun x => x.id == a := by
    rw [(groupsOf_ok (fun x : Entr => x.id) l).look, Bool.eq_iff_iff]; simp
  rw [← e]; exact this
theorem lookCnt (l : List Entr) (a : Int) {H : AH} {m : Nat} (hm : H[m]? = some (mCnt l)) : (alookup Tryz.prog H 147 (.mp m) (vi a) false).map (fun y => (y, H)) = some (vi (l.filter fun x => x.key == a).length, H) := by
  have := keyCnt.look (groupsOf (·.key) l) a hm
  have e : (lookG a (groupsOf (·.key) l)) = l.filter fun x => x.key == a := by
    rw [(groupsOf_ok (fun x : Entr => x.key) l).look]; rfl
  rw [← e]; exact this
theorem updHas (l : List Entr) (x : Entr) {H : AH} {m : Nat} (hm : H[m]? = some (mHas l)) : (amapUpdate Tryz.prog H 146 (.mp m) (vi x.id) (vb true)).map (AV.any, ·) = some (.any, H.set m (mHas (l ++ [x]))) := by
  have := keyHas.upd (groupsOf (·.id) l) x.id x hm (y := vb true) (by simp [vHas]); rw [← groupsOf_snoc] at this; exact this
theorem updCnt (l : List Entr) (x : Entr) {H : AH} {m : Nat} {n : Int} (hm : H[m]? = some (mCnt l)) (hn : n = ((l.filter fun y => y.key == x.key).length : Int) + 1) : (amapUpdate Tryz.prog H 147 (.mp m) (vi x.key) (vi n)).map (AV.any, ·) = some (.any, H.set m (mCnt (l ++ [x]))) := by
  have e : (lookG x.key (groupsOf (fun x : Entr => x.key) l)) = l.filter fun y => y.key == x.key := by
    rw [(groupsOf_ok (fun x : Entr => x.key) l).look]; rfl
  have := keyCnt.upd (groupsOf (·.key) l) x.key x hm (y := vi n) (by show vi n = vi _; rw [List.length_append, e, hn]; simp); rw [← groupsOf_snoc] at this; exact this
theorem entrs_step (c : Book) {l : List Entr} {k : Nat} (h : k < l.length) : entrsE c (l.take k) (l.drop k) = if entrOk c l[k] = false then 1 else if (l.take k).any (fun x => x.id == l[k].id) = true then 6 else if ((l.take k).filter fun x => x.key == l[k].key).length = 7 then 2 else entrsE c (l.take (k + 1)) (l.drop (k + 1)) := by
  rw [List.drop_eq_getElem_cons h, take_succ_snoc h]; rfl
theorem entrs_end (c : Book) {l : List Entr} {k : Nat} (h : ¬ k < l.length) : entrsE c (l.take k) (l.drop k) = 0 := by
  rw [List.drop_of_length_le (by omega)]; rfl
theorem check_wk (c : Book) (hmax : c.people.length ≤ 1000000) (hmax' : c.keys.length ≤ 1000000) (hmax'' : c.entries.length ≤ 1000000) (hd : ∀ p ∈ c.people, p.duty.length ≤ 1000000) : Pu Tryz.prog G1 41 [bookV c] (vi (checkE c)) := by
  unfold checkE; by_cases hg : c.gaps < 0 ∨ 3 < c.gaps
  · rw [if_pos hg]; refine Qh 68 Tryz.func41 rfl rfl ?_
    (conv => whnf); repeat' (first | refine vv1 ?_ | refine vv3 ?_ | refine vv4 ?_ | refine vv7 ?_ | refine vv11 (fun hbr => ?_) (fun hbr => ?_) | refine vv21 ?_) <;> conv => whnf
    all_goals exact DoneN.pure rfl
  rw [if_neg hg]
  have hg1 : ¬ c.gaps < 0 := fun h => hg (.inl h)
  have hg2 : ¬ 3 < c.gaps := fun h => hg (.inr h)
  clear hg; by_cases hl : 8 < c.people.length ∨ 8 < c.keys.length ∨ 40 < c.entries.length
  · rw [if_pos hl]; refine Qh 68 Tryz.func41 rfl rfl ?_
    (conv => whnf); repeat' (first | refine vv1 ?_ | refine vv3 ?_ | refine vv4 ?_ | refine vv7 ?_ | refine vv11 (fun hbr => ?_) (fun hbr => ?_) | refine vv21 ?_ | refine vv23 ?_) <;> conv => whnf
    all_goals exact DoneN.pure rfl
  rw [if_neg hl]
  have hl1 : ¬ 8 < c.people.length := fun h => hl (.inl h)
  have hl2 : ¬ 8 < c.keys.length := fun h => hl (.inr (.inl h))
  have hl3 : ¬ 40 < c.entries.length := fun h => hl (.inr (.inr h))
  clear hl; by_cases he : listsE c = 0
  case neg =>
    rw [if_pos he]; refine Qh 68 Tryz.func41 rfl rfl ?_
    (conv => whnf); repeat' (first | refine vv4 ?_ | refine vv6 ?_ | refine vv8 ?_ | refine vv21 ?_ | refine vv23 ?_ | refine Qp (lists_ok c hmax hmax' hd) ?_) <;> conv => whnf
    all_goals exact DoneN.pure rfl
  rw [if_neg (by simpa using he)]; have hls := lists_ok c hmax hmax' hd; rw [he] at hls; refine Qh 68 Tryz.func41 rfl rfl ?_
  repeat' ((conv => whnf); first | refine StepN.mkMap _ rfl Tryz.underlying146 ?_ | refine StepN.mkMap _ rfl Tryz.underlying147 ?_ | refine vv2 ?_ | refine vv4 ?_ | refine vv8 ?_ | refine vv21 ?_ | refine vv23 ?_ | refine Qp hls ?_)
  refine LoopN.of Qt (fun k : Nat => [(1, .pm 0 0 0), (4, .mp 1), (5, .mp 2), (40, entries c.entries), (41, vi c.entries.length), (42, vi k)]) (fun k => [.rows [bookC c] 26, mHas (c.entries.take k), mCnt (c.entries.take k)]) (fun k => c.entries.length - k) (fun k => k ≤ c.entries.length ∧ entrsE c [] c.entries = entrsE c (c.entries.take k) (c.entries.drop k)) 0 ⟨Nat.zero_le _, rfl⟩ (QM [0, 1, 2] (hb := bv1 (Ql rfl (mHas_blk _) (Ql rfl (mCnt_blk _) bv0)))) ?_; rintro k ⟨hk, hinv⟩; rw [hinv]; clear hinv; by_cases hlt : k < c.entries.length
  · have hen := entry_ok c c.entries[k] hmax hmax'; rw [entrs_step c hlt]
    cases hok : entrOk c c.entries[k] with
    | false =>
      rw [hok] at hen; rw [if_pos rfl]
      repeat' ((conv => whnf); first | refine vv1 ?_ | refine vv7 ?_ | refine SlIdxN.map _ rfl (by first | assumption | omega) ?_ | refine vv21 ?_ | refine vv22 ?_ | refine Qp hen ?_)
      exact DoneN.pure rfl
    | true =>
      rw [hok] at hen; rw [if_neg (by simp)]
      cases hany : (c.entries.take k).any fun x => x.id == (c.entries[k]).id with
      | true =>
        rw [if_pos rfl]
        have lk := fun H m hm => lookHas (H := H) (m := m) (c.entries.take k) (c.entries[k]).id hm
        rw [hany] at lk
        repeat' ((conv => whnf); first | refine StepN.keep _ (lk _ _ rfl) ?_ | refine vv1 ?_ | refine vv2 ?_ | refine vv7 ?_ | refine SlIdxN.map _ rfl (by first | assumption | omega) ?_ | refine vv21 ?_ | refine vv22 ?_ | refine Qp hen ?_)
        exact DoneN.pure rfl
      | false =>
        rw [if_neg (by simp)]
        have lk := fun H m hm => lookHas (H := H) (m := m) (c.entries.take k) (c.entries[k]).id hm
        rw [hany] at lk
        have lc := fun H m hm => lookCnt (H := H) (m := m) (c.entries.take k) (c.entries[k]).key hm
        by_cases h7 : ((c.entries.take k).filter fun x => x.key == (c.entries[k]).key).length = 7
        · rw [if_pos h7]; rw [h7] at lc
          repeat' ((conv => whnf); first | refine StepN.keep _ (lk _ _ rfl) ?_ | refine StepN.keep _ (lc _ _ rfl) ?_ | refine vv1 ?_ | refine vv2 ?_ | refine vv7 ?_ | refine SlIdxN.map _ rfl (by first | assumption | omega) ?_ | refine vv21 ?_ | refine vv22 ?_ | refine Qp hen ?_)
          exact DoneN.pure rfl
        rw [if_neg h7]; have hbd : ((c.entries.take k).filter fun x => x.key == (c.entries[k]).key).length ≤ 40 := Nat.le_trans (List.length_filter_le ..) (by rw [List.length_take]; omega)
        repeat' ((conv => whnf); first | refine StepN.keep _ (lk _ _ rfl) ?_ | refine StepN.keep _ (lc _ _ rfl) ?_ | refine StepN.mk .any _ (updHas _ _ rfl) ?_ | refine StepN.mk .any _ (updCnt _ _ rfl rfl) ?_ | refine vv2 ?_ | refine vv7 ?_ | refine vv8 ?_ | refine vv20 ?_ | refine SlIdxN.map _ rfl (by first | assumption | omega) ?_ | refine vv21 ?_ | refine vv22 ?_ | refine Qp hen ?_)
        exact BackN.mk (k + 1) ⟨by omega, rfl⟩ (by omega) (QM [0, 1, 2] (hb := bv1 (Ql rfl ((by rw [take_succ_snoc hlt]; exact mHas_blk _)) (Ql rfl ((by rw [take_succ_snoc hlt]; exact mCnt_blk _)) bv0))))
  rw [entrs_end c hlt]
  repeat' ((conv => whnf); first | refine vv8 ?_)
  exact DoneN.pure rfl
theorem asked_wk (c : Book) (key : Int) (hmax : c.people.length ≤ 1000000) (hmax' : c.keys.length ≤ 1000000) (hmax'' : c.entries.length ≤ 1000000) (hd : ∀ p ∈ c.people, p.duty.length ≤ 1000000) : Pu Tryz.prog G1 72 [bookV c, vi key] (vi (askedE c key)) := by
  unfold askedE; by_cases he : checkE c = 0
  · have hck := check_wk c hmax hmax' hmax'' hd; rw [he] at hck; rw [if_neg (by simpa using he)]
    cases hc : c.keys.contains key with
    | true =>
      have hk := contains_ok c.keys key hmax'; rw [hc] at hk; rw [if_pos rfl]; refine Qh 16 Tryz.func72 rfl rfl ?_
      (conv => whnf); repeat' (first | refine vv2 ?_ | refine vv21 ?_ | refine Qp hck ?_ | refine Qp hk ?_) <;> conv => whnf
      all_goals exact DoneN.pure rfl
    | false =>
      have hk := contains_ok c.keys key hmax'; rw [hc] at hk; rw [if_neg (by simp)]; refine Qh 16 Tryz.func72 rfl rfl ?_
      (conv => whnf); repeat' (first | refine vv1 ?_ | refine vv2 ?_ | refine vv21 ?_ | refine Qp hck ?_ | refine Qp hk ?_) <;> conv => whnf
      all_goals exact DoneN.pure rfl
  rw [if_pos he]; refine Qh 16 Tryz.func72 rfl rfl ?_
  (conv => whnf); repeat' (first | refine vv6 ?_ | refine vv21 ?_ | refine Qp (check_wk c hmax hmax' hmax'' hd) ?_) <;> conv => whnf
  all_goals exact DoneN.pure rfl
end
section
structure CB (C : Chn) : Prop where
  ok : C.ok
  pl : C.people.length ≤ 8
  el : C.es.length ≤ 7
  du : ∀ p ∈ C.people, p.duty.length ≤ 6
structure SB (C : Chn) (s : Sta) : Prop where
  done : s.done < 2 ^ C.es.length
  gaps : (s.gaps : Int) ≤ C.gaps
theorem SB.d {C : Chn} {s : Sta} (h : SB C s) (hC : CB C) : s.done < 128 := Nat.lt_of_lt_of_le h.done (Nat.pow_le_pow_right (by decide) hC.el)
theorem SB.g {C : Chn} {s : Sta} (h : SB C s) (hC : CB C) : s.gaps ≤ 3 := by have := h.gaps; have := hC.ok.gaps; omega
abbrev encSta (s : Sta) : List AV := [vi (s.done : Int), vi s.place, vi (s.gaps : Int)]
abbrev encMv (m : Mv) : List AV := [vi m.entry, vi m.dst, vi m.time]
abbrev encStp (x : Cu.Stp) : List AV := [vi x.entry, vi x.dst, vi 0, vi x.at_.lo, vi x.at_.hi, vi (x.to_.done : Int), vi x.to_.place, vi (x.to_.gaps : Int)]
abbrev staR0 : List AV := [vi 0, vi 0, vi 0]
theorem made_bd {C : Chn} {s t : Sta} {i : Nat} (hi : i < C.es.length) (hs : SB C s) (h : madeS s i C.es[i] = some t) : SB C t := by
  unfold madeS at h; split at h
  cases h
  cases h
  exact ⟨Nat.or_lt_two_pow hs.done (Nat.pow_lt_pow_right (by decide) hi), hs.gaps⟩
theorem passed_bd {C : Chn} {s t : Sta} {p : Int} (hs : SB C s) (h : passedS C s p = some t) : SB C t := by
  unfold passedS at h; split at h
  cases h
  rename_i hn
  cases h
  refine ⟨hs.done, ?_⟩; have h1 := hs.gaps
  have h2 : ¬ (s.gaps : Int) = C.gaps := fun h => hn (.inr (.inr (.inl h)))
  show ((s.gaps + 1 : Nat) : Int) ≤ C.gaps; omega
theorem steps_bd {C : Chn} {s : Sta} {x : Cu.Stp} (hs : SB C s) (hx : x ∈ stepsS C s) : SB C x.to_ := by
  rcases List.mem_append.1 hx with hx | hx
  · obtain ⟨i, e, t, h1, h2, rfl⟩ := mem_madeL.1 hx; have hi := (List.getElem?_eq_some_iff.1 h1); rw [Nat.zero_add] at h2; obtain ⟨hi, rfl⟩ := hi; exact made_bd hi hs h2
  obtain ⟨p, t, hp, h2, rfl⟩ := mem_passL.1 hx; exact passed_bd hs h2
theorem all_ok {C : Chn} (hC : CB C) (ks : List Int) (al : List Entr) {s : Sta} : Pu Tryz.prog G1 133 [kV C ks al, .agg (encSta s)] (vb (allS C s)) := by
  have hp : 2 ^ C.es.length ≤ 2 ^ 7 := Nat.pow_le_pow_right (by decide) hC.el; have hp0 : 0 < 2 ^ C.es.length := Nat.two_pow_pos _; have hel := hC.el
  have e : allS C s = decide ((s.done : Int) = ((2 ^ C.es.length : Nat) : Int) - 1) := by
    unfold allS; rw [Bool.eq_iff_iff, beq_iff_eq, decide_eq_true_eq]; omega
  rw [e]; refine Qh 15 Tryz.func133 rfl rfl ?_
  (conv => whnf); repeat' (first | refine StepN.shl1 rfl rfl (by omega) ?_ | refine vv20 ?_ | refine vv21 ?_ | refine vv23 ?_ | refine vv25 ?_ | refine Qd ?_) <;> conv => whnf
  all_goals exact DoneN.pure rfl
theorem made_some {C : Chn} (hC : CB C) (ks : List Int) (al : List Entr) {s t : Sta} (hs : SB C s) {i : Nat} (hi : i < C.es.length) (h : madeS s i C.es[i] = some t) : Pu Tryz.prog G1 180 [kV C ks al, .agg (encSta s), vi i] (.tuple [.agg (encSta t), vb true]) := by
  unfold madeS at h; split at h
  cases h
  rename_i hn
  cases h
  have hb : s.done.testBit i = false := by
    cases hq : s.done.testBit i with
    | false => rfl
    | true => exact absurd (.inl hq) hn
  have hbb := bit_f hb
  have hpl : s.place = fromOf C.es[i] := Classical.not_not.1 fun h => hn (.inr h)
  have hd := hs.d hC; have hel := hC.el; have h2 : 2 ^ i < 2 ^ 40 := Nat.pow_lt_pow_right (by decide) (by omega); clear hn hs; unfold fromOf at hpl; unfold placeOf; generalize hen : C.es[i] = e at *; by_cases h4 : e.kind = 4
  · rw [if_pos h4] at hpl; rw [if_pos (.inr h4)]; have h1 : ¬ e.kind = 1 := by omega
    refine Qh 53 Tryz.func180 rfl rfl ?_
    (conv => whnf); repeat' (first | refine SlIdxN.map i rfl hi ?_ | rw [hen] | refine StepN.shrN rfl rfl (by omega) ?_ | refine StepN.and1 rfl rfl ?_ | refine StepN.shl1 rfl rfl (by omega) ?_ | refine StepN.orN rfl rfl (by omega) h2 ?_ | refine vv3 ?_ | refine vv4 ?_ | refine vv5 ?_ | refine vv21 ?_ | refine vv22 ?_ | refine vv25 ?_ | refine Qd ?_) <;> conv => whnf
    all_goals exact DoneN.pure rfl
  rw [if_neg h4] at hpl; by_cases h1 : e.kind = 1
  · rw [if_pos (.inl h1)]; refine Qh 53 Tryz.func180 rfl rfl ?_
    (conv => whnf); repeat' (first | refine SlIdxN.map i rfl hi ?_ | rw [hen] | refine StepN.shrN rfl rfl (by omega) ?_ | refine StepN.and1 rfl rfl ?_ | refine StepN.shl1 rfl rfl (by omega) ?_ | refine StepN.orN rfl rfl (by omega) h2 ?_ | refine vv3 ?_ | refine vv4 ?_ | refine vv5 ?_ | refine vv21 ?_ | refine vv22 ?_ | refine vv25 ?_ | refine Qd ?_) <;> conv => whnf
    all_goals exact DoneN.pure rfl
  rw [if_neg (by omega)]; by_cases h3 : e.kind = 3
  · rw [if_pos h3]; refine Qh 53 Tryz.func180 rfl rfl ?_
    (conv => whnf); repeat' (first | refine SlIdxN.map i rfl hi ?_ | rw [hen] | refine StepN.shrN rfl rfl (by omega) ?_ | refine StepN.and1 rfl rfl ?_ | refine StepN.shl1 rfl rfl (by omega) ?_ | refine StepN.orN rfl rfl (by omega) h2 ?_ | refine vv3 ?_ | refine vv4 ?_ | refine vv5 ?_ | refine vv21 ?_ | refine vv22 ?_ | refine vv25 ?_ | refine Qd ?_) <;> conv => whnf
    all_goals exact DoneN.pure rfl
  rw [if_neg h3]; refine Qh 53 Tryz.func180 rfl rfl ?_
  (conv => whnf); repeat' (first | refine SlIdxN.map i rfl hi ?_ | rw [hen] | refine StepN.shrN rfl rfl (by omega) ?_ | refine StepN.and1 rfl rfl ?_ | refine StepN.shl1 rfl rfl (by omega) ?_ | refine StepN.orN rfl rfl (by omega) h2 ?_ | refine vv4 ?_ | refine vv5 ?_ | refine vv21 ?_ | refine vv22 ?_ | refine vv25 ?_ | refine Qd ?_) <;> conv => whnf
  all_goals exact DoneN.pure rfl
theorem made_none {C : Chn} (hC : CB C) (ks : List Int) (al : List Entr) {s : Sta} {i : Nat} (hi : i < C.es.length) (h : madeS s i C.es[i] = none) : Pu Tryz.prog G1 180 [kV C ks al, .agg (encSta s), vi i] (.tuple [.agg staR0, vb false]) := by
  unfold madeS at h; split at h
  case isFalse => cases h
  rename_i hn; have hel := hC.el; unfold fromOf at hn; generalize hen : C.es[i] = e at *
  cases hb : s.done.testBit i with
  | true =>
    have hbb := bit_t hb; by_cases h4 : e.kind = 4
    · refine Qh 53 Tryz.func180 rfl rfl ?_
      (conv => whnf); repeat' (first | refine SlIdxN.map i rfl hi ?_ | rw [hen] | refine StepN.shrN rfl rfl (by omega) ?_ | refine StepN.and1 rfl rfl ?_ | refine vv1 ?_ | refine vv3 ?_ | refine vv21 ?_ | refine vv22 ?_) <;> conv => whnf
      all_goals exact DoneN.pure rfl
    refine Qh 53 Tryz.func180 rfl rfl ?_
    (conv => whnf); repeat' (first | refine SlIdxN.map i rfl hi ?_ | rw [hen] | refine StepN.shrN rfl rfl (by omega) ?_ | refine StepN.and1 rfl rfl ?_ | refine vv1 ?_ | refine vv3 ?_ | refine vv4 ?_ | refine vv21 ?_ | refine vv22 ?_) <;> conv => whnf
    all_goals exact DoneN.pure rfl
  | false =>
    have hbb := bit_f hb; have hpl := hn.resolve_left (by rw [hb]; decide); by_cases h4 : e.kind = 4
    · rw [if_pos h4] at hpl; refine Qh 53 Tryz.func180 rfl rfl ?_
      (conv => whnf); repeat' (first | refine SlIdxN.map i rfl hi ?_ | rw [hen] | refine StepN.shrN rfl rfl (by omega) ?_ | refine StepN.and1 rfl rfl ?_ | refine vv3 ?_ | refine vv4 ?_ | refine vv6 ?_ | refine vv21 ?_ | refine vv22 ?_) <;> conv => whnf
      all_goals exact DoneN.pure rfl
    rw [if_neg h4] at hpl; refine Qh 53 Tryz.func180 rfl rfl ?_
    (conv => whnf); repeat' (first | refine SlIdxN.map i rfl hi ?_ | rw [hen] | refine StepN.shrN rfl rfl (by omega) ?_ | refine StepN.and1 rfl rfl ?_ | refine vv4 ?_ | refine vv6 ?_ | refine vv21 ?_ | refine vv22 ?_) <;> conv => whnf
    all_goals exact DoneN.pure rfl
theorem passed_some {C : Chn} (hC : CB C) (ks : List Int) (al : List Entr) {s t : Sta} (hs : SB C s) {p : Int} (h : passedS C s p = some t) : Pu Tryz.prog G1 181 [kV C ks al, .agg (encSta s), vi p] (.tuple [.agg (encSta t), vb true]) := by
  unfold passedS at h; split at h
  cases h
  rename_i hn
  cases h
  have hg := hs.g hC
  have h1 : ¬ s.place = -1 := fun h => hn (.inl h)
  have h2 : ¬ s.place = p := fun h => hn (.inr (.inl h))
  have h3 : ¬ (s.gaps : Int) = C.gaps := fun h => hn (.inr (.inr (.inl h)))
  have h4 : hangsP C.people p = true := by
    cases hq : hangsP C.people p with
    | true => rfl
    | false => exact absurd (.inr (.inr (.inr hq))) hn
  have hh := hangs_ok ⟨C.people, ks, al, C.gaps⟩ p (by have := hC.pl; show C.people.length ≤ _; omega); rw [show hangsP (Book.people ⟨C.people, ks, al, C.gaps⟩) p = true from h4] at hh; clear hn; refine Qh 44 Tryz.func181 rfl rfl ?_
  repeat' ((conv => whnf); first | refine vv2 ?_ | refine vv4 ?_ | refine vv20 ?_ | refine vv21 ?_ | refine vv22 ?_ | refine vv25 ?_ | refine Qd ?_ | refine Qg hh ?_)
  exact DoneN.pure rfl
theorem passed_none {C : Chn} (hC : CB C) (ks : List Int) (al : List Entr) {s : Sta} {p : Int} (h : passedS C s p = none) : Pu Tryz.prog G1 181 [kV C ks al, .agg (encSta s), vi p] (.tuple [.agg staR0, vb false]) := by
  unfold passedS at h; split at h
  case isFalse => cases h
  rename_i hn; have hh := hangs_ok ⟨C.people, ks, al, C.gaps⟩ p (by have := hC.pl; show C.people.length ≤ _; omega); by_cases h1 : s.place = -1
  · clear hn; refine Qh 44 Tryz.func181 rfl rfl ?_
    repeat' ((conv => whnf); first | refine vv1 ?_ | refine vv3 ?_ | refine vv21 ?_ | refine vv22 ?_ | refine vv25 ?_ | refine Qd ?_)
    exact DoneN.pure rfl
  by_cases h2 : s.place = p
  · clear hn; refine Qh 44 Tryz.func181 rfl rfl ?_
    repeat' ((conv => whnf); first | refine vv1 ?_ | refine vv3 ?_ | refine vv4 ?_ | refine vv21 ?_ | refine vv22 ?_ | refine vv25 ?_ | refine Qd ?_)
    exact DoneN.pure rfl
  by_cases h3 : (s.gaps : Int) = C.gaps
  · clear hn; refine Qh 44 Tryz.func181 rfl rfl ?_
    repeat' ((conv => whnf); first | refine vv1 ?_ | refine vv3 ?_ | refine vv4 ?_ | refine vv21 ?_ | refine vv22 ?_ | refine vv25 ?_ | refine Qd ?_)
    exact DoneN.pure rfl
  have h4 : hangsP C.people p = false := ((hn.resolve_left h1).resolve_left h2).resolve_left h3; rw [show hangsP (Book.people ⟨C.people, ks, al, C.gaps⟩) p = false from h4] at hh; clear hn; refine Qh 44 Tryz.func181 rfl rfl ?_
  repeat' ((conv => whnf); first | refine vv1 ?_ | refine vv4 ?_ | refine vv21 ?_ | refine vv22 ?_ | refine vv25 ?_ | refine Qd ?_ | refine Qg hh ?_)
  exact DoneN.pure rfl
theorem steps_ok (C : Chn) (ks : List Int) (al : List Entr) (s : Sta) : Pu Tryz.prog G1 132 [kV C ks al, .agg (encSta s)] (.fn (.func 179) [] [.pi [kV C ks al], .pi (encSta s)]) := by
  refine Qf 6 Tryz.func132 rfl rfl ?_
  (conv => whnf)
  exact ⟨.step 0 _ _ rfl (deepAll rfl) (.step 1 _ _ rfl (deepAll rfl) (.done _ _ _ (Nat.zero_le _) rfl (fun b hb => absurd hb List.not_mem_nil) rfl))⟩
end
section
def plK (c : Book) (k : Nat) : List Int := -1 :: 0 :: (c.people.take k).map (·.id)
theorem plK_len {c : Book} {k : Nat} (h : k ≤ c.people.length) : (plK c k).length = k + 2 := by simp [plK]; omega
theorem plK_succ {c : Book} {k : Nat} (h : k < c.people.length) : plK c (k + 1) = plK c k ++ [c.people[k].id] := by
  have e : (c.people.take (k + 1)).map (·.id) = (c.people.take k).map (·.id) ++ [c.people[k].id] := by rw [take_succ_snoc h, List.map_append]; rfl
  unfold plK; rw [e]; rfl
theorem plK_all (c : Book) : plK c c.people.length = placesL c := by simp [plK, placesL]
theorem places_ok (c : Book) (hmax : c.people.length ≤ 1000000) : Pu Tryz.prog G1 69 [bookV c] (ints (placesL c)) := by
  refine Qf 21 Tryz.func69 rfl rfl ?_
  repeat' ((conv => whnf); first | refine vv21 ?_ | refine vv23 ?_)
  refine LoopN.of Qt (fun k : Nat => match k with
    | 0 => [(1, .pm 0 0 0), (3, .sl 1 true [intR (-1), intR 0]), (8, persons c.people), (9, vi c.people.length), (10, vi 0)]
    | k + 1 => [(1, .pm 0 0 0), (3, .sm 1 1 0 (k + 3)), (8, persons c.people), (9, vi c.people.length), (10, vi ((k + 1 : Nat) : Int))]) (fun k => match k with
    | 0 => [.rows [bookC c] 26]
    | k + 1 => [.rows [bookC c] 26, .rows ((plK c (k + 1)).map intR) 3]) (fun k => c.people.length - k) (fun k => k ≤ c.people.length) 0 (Nat.zero_le _) (QM [0]) ?_
  intro k hk; by_cases hlt : k < c.people.length
  · have hsu := plK_succ hlt
    match k, hk, hlt, hsu with
    | 0, hk, hlt, hsu =>
      repeat' ((conv => whnf); first | refine AppN.len 3 rfl (by omega) (by omega) ?_ | refine vv7 ?_ | refine vv20 ?_ | refine SlIdxN.map _ rfl (by first | assumption | omega) ?_ | refine vv21 ?_ | refine vv22 ?_ | refine Need.mk (by first | assumption | omega | (simp <;> omega)) ?_)
      exact Qb 1 (QM [0, 2] (hb := bv1 (Ql rfl (blkDeep (by rw [hsu]; rfl) (deepMap (fun _ => rfl))) bv0)))
    | k + 1, hk, hlt, hsu =>
      have hle := plK_len hk
      repeat' ((conv => whnf); first | refine AppN.len (k + 4) (by simp [hle]) (by omega) (by omega) ?_ | refine vv7 ?_ | refine vv20 ?_ | refine SlIdxN.map _ rfl (by first | assumption | omega) ?_ | refine vv21 ?_ | refine vv22 ?_ | refine vv31 ?_)
      exact Qb (k + 2) (QM [0, 3] (hb := bv1 (Ql rfl (blkDeep (by rw [hsu, List.map_append]; rfl) (deepMap (fun _ => rfl))) bv0)))
  obtain rfl : k = c.people.length := by omega
  have hall := plK_all c; have hle := plK_len (Nat.le_refl c.people.length); rw [← hall]; generalize hn : c.people.length = n at *
  match n with
  | 0 =>
    (conv => whnf); repeat' (first | refine vv2 ?_) <;> conv => whnf
    refine ⟨.loose _ _ (.done _ _ _ (Nat.zero_le _) rfl (fun b hb => absurd hb List.not_mem_nil) rfl)⟩
  | n + 1 =>
    (conv => whnf); repeat' (first | refine vv8 ?_) <;> conv => whnf
    exact ⟨.sm0 rfl (deepR (fun _ => rfl)) (by rw [List.length_map, hle])⟩
abbrev chC (c : Book) (x : AV) : List AV := [persons c.people, ints c.keys, entries c.entries, vi c.gaps, x]
abbrev selE (c : Book) (key : Int) (k : Nat) : List Entr := (c.entries.take k).filter fun e => e.key == key
theorem selE_succ {c : Book} {key : Int} {k : Nat} (h : k < c.entries.length) : selE c key (k + 1) = selE c key k ++ if (c.entries[k]).key = key then [c.entries[k]] else [] := by
  unfold selE; rw [take_succ_snoc h, List.filter_append]; congr 1
  by_cases h : (c.entries[k]).key = key <;> simp [h]
theorem selE_len {c : Book} {key : Int} {k : Nat} : (selE c key k).length ≤ c.entries.length := Nat.le_trans (List.length_filter_le ..) (by rw [List.length_take]; omega)
theorem chain_ok (c : Book) (key : Int) (hmax : c.entries.length ≤ 1000000) : Pu Tryz.prog G1 74 [bookV c, vi key] (kV (chnOf c key) c.keys c.entries) := by
  refine Qf 34 Tryz.func74 rfl rfl ?_
  repeat' ((conv => whnf); first | refine vv21 ?_ | refine vv23 ?_)
  refine LoopN.re ((Reabs.more 68).trans (Reabs.cells 1 [chC c nilA] [chC c (.sm 2 7 0 0)] 184 rfl (show WkB [chC c nilA] [chC c (.sm 2 7 0 0)] from ⟨⟨WkC.refl _, WkC.refl _, WkC.refl _, WkC.refl _, WkC.nilSm _ _, trivial⟩, trivial⟩))) ?_; refine LoopN.of Qt (fun k : Nat => [(1, vi key), (2, .pm 0 0 0), (5, .pm 1 0 0), (12, entries c.entries), (13, vi c.entries.length), (14, vi k)]) (fun k => [.rows [bookC c] 26, .rows [chC c (.sm 2 7 0 (selE c key k).length)] 184, .rows ((selE c key k).map encE) 68]) (fun k => c.entries.length - k) (fun k => k ≤ c.entries.length) 0 (Nat.zero_le _) (QM [0, 1, 2]) ?_; intro k hk; by_cases hlt : k < c.entries.length
  · have hsu := selE_succ (key := key) hlt; have hle := selE_len (c := c) (key := key) (k := k); generalize selE c key k = o at *; by_cases hkey : (c.entries[k]).key = key
    · rw [if_pos hkey] at hsu
      repeat' ((conv => whnf); first | refine vv3 ?_ | refine vv7 ?_ | refine vv20 ?_ | refine SlIdxN.map _ rfl (by first | assumption | omega) ?_ | refine vv21 ?_ | refine vv22 ?_ | refine vv25 ?_ | refine Qd ?_ | refine vv31 ?_ | refine vv33 ?_)
      exact Qb (k + 1) (QM [0, 1, 4] (hb := bv1 (Ql rfl (blkOk rfl (by rw [hsu, List.length_append]; rfl)) (Ql rfl (blkDeep (by rw [hsu, List.map_append]; rfl) (deepMap (fun _ => rfl))) bv0))))
    rw [if_neg hkey, List.append_nil] at hsu
    repeat' ((conv => whnf); first | refine vv4 ?_ | refine vv7 ?_ | refine vv20 ?_ | refine SlIdxN.map _ rfl (by first | assumption | omega) ?_ | refine vv21 ?_ | refine vv22 ?_)
    exact Qb (k + 1) (by rw [hsu]; exact QM [0, 1, 2])
  obtain rfl : k = c.entries.length := by omega
  have hall : selE c key c.entries.length = (chnOf c key).es := by simp [selE, chnOf]
  have hkv : kV (chnOf c key) c.keys c.entries = .pi (chC c (entries (selE c key c.entries.length))) := by rw [hall]; rfl
  rw [hkv]; generalize selE c key c.entries.length = o at *
  (conv => whnf); repeat' (first | refine vv8 ?_) <;> conv => whnf
  have hz : AV.frz0 2 (o.map encE) (.sm 2 7 0 o.length) = entries o := frz_all (by rw [List.length_map]); have h2 : (frzH 2 (o.map encE) [.rows [bookC c] 26, .rows [chC c (.sm 2 7 0 o.length)] 184, .rows (o.map encE) 68])[1]? = some (.rows [chC c (AV.frz0 2 (o.map encE) (.sm 2 7 0 o.length))] 184) := rfl; rw [hz] at h2; exact ⟨.step 2 _ _ rfl (deepR (fun _ => rfl)) (.step 1 _ _ h2 (deepAll rfl) (.val rfl))⟩
end
section
abbrev Rnd (id : Nat) (xs : List AV) (H : AH) (k : AV → AH → Prop) : Prop := RoundN Tryz.prog G1 Tryz.tab id xs H k
def RQ {σ α : Type} (m : Nat) (hp : σ → AH) (R : List α → σ → Prop) (d : List α) (y : AV) (H' : AH) : Prop := y = vb true ∧ ∃ st, R d st ∧ ReH m H' (hp st)
theorem madeL_snoc (s : Sta) (e : Entr) : ∀ (l : List Entr) (i : Nat), madeL s i (l ++ [e]) = madeL s i l ++ one (fun t => (⟨e.id, 0, e.at_, t⟩ : Cu.Stp)) (madeS s (i + l.length) e)
  | [], i => by simp [madeL]
  | a :: l, i => by rw [List.cons_append, madeL, madeL_snoc s e l (i + 1), madeL, List.append_assoc, List.length_cons, show i + 1 + l.length = i + (l.length + 1) by omega]
abbrev dE (C : Chn) (s : Sta) (k : Nat) : List Cu.Stp := madeL s 0 (C.es.take k)
abbrev dP (C : Chn) (s : Sta) (k : Nat) : List Cu.Stp := madeL s 0 C.es ++ passL C s ((spots C).take k)
theorem dE_succ {C : Chn} {s : Sta} {k : Nat} (h : k < C.es.length) : dE C s (k + 1) = dE C s k ++ one (fun t => (⟨C.es[k].id, 0, C.es[k].at_, t⟩ : Cu.Stp)) (madeS s k C.es[k]) := by
  unfold dE; rw [take_succ_snoc h, madeL_snoc, List.length_take, Nat.min_eq_left (by omega), Nat.zero_add]
theorem dP_succ {C : Chn} {s : Sta} {k : Nat} (h : k < (spots C).length) : dP C s (k + 1) = dP C s k ++ one (fun t => (⟨0, (spots C)[k], ⟨0, maxTime⟩, t⟩ : Cu.Stp)) (passedS C s (spots C)[k]) := by
  unfold dP; rw [take_succ_snoc h, passL, List.flatMap_append, List.append_assoc]; simp [passL]
theorem steps1_ok {C : Chn} (hC : CB C) (ks : List Int) (al : List Entr) {s : Sta} (hs : SB C s) {σ : Type} (hp : σ → AH) (m id : Nat) (R : List Cu.Stp → σ → Prop) (st0 : σ) (h0 : R [] st0) (hm : (hp st0).length = m) (hid : id < m)
    (hok : ∀ d st, R d st → m ≤ (hp st).length ∧ ∀ b ∈ hp st, b.ok (hp st).length)
    (hround : ∀ d x st, x ∈ stepsS C s → R d st → ∀ A B, Rnd id [.agg (encStp x)] (hp st ++ [A, B]) (RQ m hp R (d ++ [x])) ∧ Rnd id [.agg (encStp x)] (hp st ++ [A]) (RQ m hp R (d ++ [x]))) :
    Ef Tryz.prog G1 179 [.yl id, .pi [kV C ks al], .pi (encSta s)] (hp st0) fun y H' => ∃ st, R (stepsS C s) st ∧ y = .tuple [] ∧ H' = hp st := by
  have hel := hC.el; refine Ef.of_ev (T := Tryz.tab) (n := 73) (tryd_okm m _) hm Tryz.func179 rfl rfl (by simp) ?_
  (conv => whnf); repeat' (first | refine vv23 ?_) <;> conv => whnf
  refine LoopN.of2 (tryd_okm m _) (fun (k : Nat) (st : σ) => [(0, .yl id), (1, .pi [kV C ks al]), (2, .pi (encSta s)), (15, entries C.es), (16, vi C.es.length), (17, vi k)]) (fun k st => hp st) (fun k st => C.es.length - k) (fun k st => k ≤ C.es.length ∧ R (dE C s k) st) 0 st0 ⟨Nat.zero_le _, h0⟩ (ReH.refl.re (by repeat (first | exact trivial | refine ⟨rfl, ?_⟩)) (by repeat (first | exact trivial | refine ⟨rfl, ?_⟩ | refine ⟨decide_eq_true hid, ?_⟩))) ?_; rintro k st ⟨hk, hR⟩; obtain ⟨hml, hbk⟩ := hok _ _ hR; by_cases hlt : k < C.es.length
  · have hsu := dE_succ (s := s) hlt
    cases hmd : madeS s k C.es[k] with
    | none =>
      have hcall := made_none hC ks al hlt hmd; rw [hmd, one, List.append_nil] at hsu; generalize hH : hp st = H0 at *; generalize hN : H0.length = N at *
      (conv => whnf); repeat' (first | refine snocK_0 hN ?_ | refine snocK_1 hN ?_ | rw [nthB_0 hN] | rw [nthB_1 hN] | refine setK_0 hN ?_ | refine setK_1 hN ?_ | refine SlIdxN.map k rfl hlt ?_ | refine vv2 ?_ | refine vv7 ?_ | refine vv20 ?_ | refine vv22 ?_ | refine Qp hcall ?_) <;> conv => whnf
      subst hN; subst hH; exact BackN2.mk (k + 1) st ⟨by omega, by rw [hsu]; exact hR⟩ (by omega) ((ReH.drop hml hbk).re (by repeat (first | exact trivial | refine ⟨rfl, ?_⟩)) (by repeat (first | exact trivial | refine ⟨rfl, ?_⟩ | refine ⟨decide_eq_true hid, ?_⟩)))
    | some t =>
      have hcall := made_some hC ks al hs hlt hmd; rw [hmd, one] at hsu; have hx : (⟨C.es[k].id, 0, C.es[k].at_, t⟩ : Cu.Stp) ∈ stepsS C s := List.mem_append_left _ (mem_madeL.2 ⟨k, C.es[k], t, List.getElem?_eq_getElem hlt, by rw [Nat.zero_add]; exact hmd, rfl⟩); have hrd := hround _ _ _ hx hR (.rows [encE C.es[k]] 68) (.rows [encSta t] 150); generalize hH : hp st = H0 at *; generalize hN : H0.length = N at *
      (conv => whnf); repeat' (first | refine snocK_0 hN ?_ | refine snocK_1 hN ?_ | rw [nthB_0 hN] | rw [nthB_1 hN] | refine setK_0 hN ?_ | refine setK_1 hN ?_ | refine SlIdxN.map k rfl hlt ?_ | refine OpN.round (tryd_okm m _) rfl hrd.1 ?_ | refine vv1 ?_ | refine vv7 ?_ | refine vv21 ?_ | refine vv22 ?_ | refine Qp hcall ?_) <;> conv => whnf
      subst hN; subst hH; rintro y H' ⟨rfl, st', hR', hre⟩
      repeat' ((conv => whnf); first | refine vv1 ?_ | refine vv2 ?_ | refine vv20 ?_)
      exact BackN2.mk (k + 1) st' ⟨by omega, by rw [hsu]; exact hR'⟩ (by omega) (hre.re (by repeat (first | exact trivial | refine ⟨rfl, ?_⟩)) (by repeat (first | exact trivial | refine ⟨rfl, ?_⟩ | refine ⟨decide_eq_true hid, ?_⟩)))
  obtain rfl : k = C.es.length := by omega
  have hdp : dE C s C.es.length = dP C s 0 := by simp [dE, dP, passL]
  rw [hdp] at hR; have hpl := places_ok ⟨C.people, ks, al, C.gaps⟩ (by have := hC.pl; show C.people.length ≤ _; omega)
  (conv => whnf); repeat' (first | refine IdxN.at0 1 rfl (Nat.succ_lt_succ (Nat.succ_pos _)) ?_ | refine vv8 ?_ | refine vv23 ?_ | refine Qp hpl ?_) <;> conv => whnf
  refine LoopN.of2 (tryd_okm m _) (fun (k : Nat) (st : σ) => [(0, .yl id), (1, .pi [kV C ks al]), (2, .pi (encSta s)), (48, ints (spots C)), (49, vi (spots C).length), (50, vi k)]) (fun k st => hp st) (fun k st => (spots C).length - k) (fun k st => k ≤ (spots C).length ∧ R (dP C s k) st) 0 st ⟨Nat.zero_le _, hR⟩ (ReH.refl.re (by repeat (first | exact trivial | refine ⟨rfl, ?_⟩)) (by repeat (first | exact trivial | refine ⟨rfl, ?_⟩ | refine ⟨decide_eq_true hid, ?_⟩))) ?_; rintro k st ⟨hk, hR⟩; obtain ⟨hml, hbk⟩ := hok _ _ hR; have hsl : (spots C).length ≤ 9 := by simp [spots]; exact hC.pl
  by_cases hlt : k < (spots C).length
  · have hsu := dP_succ (s := s) hlt
    cases hmd : passedS C s (spots C)[k] with
    | none =>
      have hcall := passed_none hC ks al hmd; rw [hmd, one, List.append_nil] at hsu; generalize hH : hp st = H0 at *; generalize hN : H0.length = N at *
      (conv => whnf); repeat' (first | refine snocK_0 hN ?_ | rw [nthB_0 hN] | refine setK_0 hN ?_ | refine SlIdxN.map k rfl hlt ?_ | refine vv2 ?_ | refine vv7 ?_ | refine vv20 ?_ | refine vv22 ?_ | refine Qp hcall ?_) <;> conv => whnf
      subst hN; subst hH; exact BackN2.mk (k + 1) st ⟨by omega, by rw [hsu]; exact hR⟩ (by omega) ((ReH.drop hml hbk).re (by repeat (first | exact trivial | refine ⟨rfl, ?_⟩)) (by repeat (first | exact trivial | refine ⟨rfl, ?_⟩ | refine ⟨decide_eq_true hid, ?_⟩)))
    | some t =>
      have hcall := passed_some hC ks al hs hmd; rw [hmd, one] at hsu; have hx : (⟨0, (spots C)[k], ⟨0, maxTime⟩, t⟩ : Cu.Stp) ∈ stepsS C s := List.mem_append_right _ (mem_passL.2 ⟨(spots C)[k], t, List.getElem_mem hlt, hmd, rfl⟩); have hrd := hround _ _ _ hx hR (.rows [encSta t] 150) .dead; generalize hH : hp st = H0 at *; generalize hN : H0.length = N at *
      (conv => whnf); repeat' (first | refine snocK_0 hN ?_ | rw [nthB_0 hN] | refine setK_0 hN ?_ | refine SlIdxN.map k rfl hlt ?_ | refine OpN.round (tryd_okm m _) rfl hrd.2 ?_ | refine vv1 ?_ | refine vv7 ?_ | refine vv21 ?_ | refine vv22 ?_ | refine Qp hcall ?_) <;> conv => whnf
      subst hN; subst hH; rintro y H' ⟨rfl, st', hR', hre⟩
      repeat' ((conv => whnf); first | refine vv1 ?_ | refine vv2 ?_ | refine vv20 ?_)
      exact BackN2.mk (k + 1) st' ⟨by omega, by rw [hsu]; exact hR'⟩ (by omega) (hre.re (by repeat (first | exact trivial | refine ⟨rfl, ?_⟩)) (by repeat (first | exact trivial | refine ⟨rfl, ?_⟩ | refine ⟨decide_eq_true hid, ?_⟩)))
  obtain rfl : k = (spots C).length := by omega
  have hall : dP C s (spots C).length = stepsS C s := by simp [dP, stepsS]
  rw [hall] at hR
  (conv => whnf); repeat' (first | refine vv8 ?_) <;> conv => whnf
  exact ⟨st, hR, rfl, rfl⟩
end
section
abbrev moves (l : List Mv) : AV := .sl 3 false (l.map encMv)
abbrev nextR (a : Option Sta) : List AV := encSta (a.getD s00)
abbrev fl97 (C : Chn) (ks : List Int) (al : List Entr) (s : Sta) (l : List Mv) (t now : Int) (k : Nat) : Fr := [(0, kV C ks al), (1, moves l), (2, vi t), (6, .pm 0 0 0), (8, .pm 1 0 0), (9, .pm 2 0 0), (10, vi now), (12, .pm 3 0 0), (13, .pm 4 0 0), (14, .pm 5 0 0), (17, moves l), (18, vi l.length), (19, vi k), (26, .fn (.func 179) [] [.pi [kV C ks al], .pi (encSta s)])]
noncomputable abbrev lp97 (fl : Fr) : ABlk := .loop .ready none (frm 0 fl 75) #[27] (asF Tryz.f97) (bdF Tryz.f97)
noncomputable abbrev hp97 (s b : Sta) (m : Mv) (fl : Fr) (acc : Option Sta) : AH := [.rows [staR0] 150, .rows [encSta s] 150, .rows [encSta b] 150, .rows [encMv m] 88, .rows [nextR acc] 150, .rows [[vb acc.isSome]] 4, lp97 fl]
theorem round97 (C : Chn) (ks : List Int) (al : List Entr) (s b : Sta) (l : List Mv) (t now : Int) (k : Nat) (m : Mv) (acc : Option Sta) (x : Cu.Stp) (z : AH) (hz : (∃ A B, z = [A, B]) ∨ ∃ A, z = [A]) (Q : AV → AH → Prop) (hQ : ∀ H', ReH 7 H' (hp97 s b m (fl97 C ks al s l t now k) (matchB m acc x)) → Q (vb true) H') :
    Rnd 6 [.agg (encStp x)] (hp97 s b m (fl97 C ks al s l t now k) acc ++ z) Q := by
  have hm : matchB m acc x = if (x.entry = m.entry ∧ x.dst = m.dst) ∧ x.at_.lo ≤ m.time ∧ m.time ≤ x.at_.hi then some x.to_ else acc := by
    unfold matchB; by_cases hf : fitsM m x = true
    · have hf' := fits_iff.1 hf; rw [if_pos hf, if_pos ⟨⟨hf'.1, hf'.2.1⟩, hf'.2.2⟩]
    rw [if_neg hf, if_neg (fun h => hf (fits_iff.2 ⟨h.1.1, h.1.2, h.2⟩))]
  rw [hm] at hQ; clear hm; by_cases hc : x.entry = m.entry ∧ x.dst = m.dst
  · have hc1 := hc.1; have hc2 := hc.2; by_cases h3 : x.at_.lo ≤ m.time
    · by_cases h4 : m.time ≤ x.at_.hi
      · rw [if_pos ⟨hc, h3, h4⟩] at hQ
        rcases hz with ⟨A, B, rfl⟩ | ⟨A, rfl⟩
        all_goals
          refine ⟨_, _, _, _, _, _, rfl, rfl, ?_⟩
          (conv => whnf); repeat' (first | refine Br.and ?_ | refine vv3 ?_ | refine vv7 ?_ | refine vv21 ?_ | refine vv22 ?_) <;> conv => whnf
          exact hQ _ (ReH.ids [0, 1, 2, 3, 4, 5, 6] (by repeat (first | exact trivial | refine ⟨⟨_, rfl, (by first | exact blkDead | exact blkDeep rfl (deepLit rfl) | exact blkDeep rfl (deepMap (fun _ => rfl)) | exact blkOk rfl rfl | exact blkLoop rfl rfl), (by first | exact fun _ => rfl | exact fun h => (by cases h))⟩, ?_⟩)) rfl rfl)
      rw [if_neg (fun h => h4 h.2.2)] at hQ
      rcases hz with ⟨A, B, rfl⟩ | ⟨A, rfl⟩
      all_goals
        refine ⟨_, _, _, _, _, _, rfl, rfl, ?_⟩
        (conv => whnf); repeat' (first | refine Br.and ?_ | refine vv3 ?_ | refine vv4 ?_ | refine vv7 ?_ | refine vv21 ?_ | refine vv22 ?_) <;> conv => whnf
        exact hQ _ (ReH.ids [0, 1, 2, 3, 4, 5, 6] (by repeat (first | exact trivial | refine ⟨⟨_, rfl, (by first | exact blkDead | exact blkDeep rfl (deepLit rfl) | exact blkDeep rfl (deepMap (fun _ => rfl)) | exact blkOk rfl rfl | exact blkLoop rfl rfl), (by first | exact fun _ => rfl | exact fun h => (by cases h))⟩, ?_⟩)) rfl rfl)
    rw [if_neg (fun h => h3 h.2.1)] at hQ
    rcases hz with ⟨A, B, rfl⟩ | ⟨A, rfl⟩
    all_goals
      refine ⟨_, _, _, _, _, _, rfl, rfl, ?_⟩
      (conv => whnf); repeat' (first | refine Br.and ?_ | refine vv2 ?_ | refine vv3 ?_ | refine vv4 ?_ | refine vv7 ?_ | refine vv21 ?_ | refine vv22 ?_) <;> conv => whnf
      exact hQ _ (ReH.ids [0, 1, 2, 3, 4, 5, 6] (by repeat (first | exact trivial | refine ⟨⟨_, rfl, (by first | exact blkDead | exact blkDeep rfl (deepLit rfl) | exact blkDeep rfl (deepMap (fun _ => rfl)) | exact blkOk rfl rfl | exact blkLoop rfl rfl), (by first | exact fun _ => rfl | exact fun h => (by cases h))⟩, ?_⟩)) rfl rfl)
  rw [if_neg (fun h => hc h.1)] at hQ; by_cases hc1 : x.entry = m.entry
  · have hc2 : ¬ x.dst = m.dst := fun h => hc ⟨hc1, h⟩
    rcases hz with ⟨A, B, rfl⟩ | ⟨A, rfl⟩
    all_goals
      refine ⟨_, _, _, _, _, _, rfl, rfl, ?_⟩
      (conv => whnf); repeat' (first | refine Br.and ?_ | refine vv2 ?_ | refine vv3 ?_ | refine vv4 ?_ | refine vv21 ?_ | refine vv22 ?_) <;> conv => whnf
      exact hQ _ (ReH.ids [0, 1, 2, 3, 4, 5, 6] (by repeat (first | exact trivial | refine ⟨⟨_, rfl, (by first | exact blkDead | exact blkDeep rfl (deepLit rfl) | exact blkDeep rfl (deepMap (fun _ => rfl)) | exact blkOk rfl rfl | exact blkLoop rfl rfl), (by first | exact fun _ => rfl | exact fun h => (by cases h))⟩, ?_⟩)) rfl rfl)
  rcases hz with ⟨A, B, rfl⟩ | ⟨A, rfl⟩
  all_goals
    refine ⟨_, _, _, _, _, _, rfl, rfl, ?_⟩
    (conv => whnf); repeat' (first | refine Br.and ?_ | refine vv2 ?_ | refine vv4 ?_ | refine vv21 ?_ | refine vv22 ?_) <;> conv => whnf
    exact hQ _ (ReH.ids [0, 1, 2, 3, 4, 5, 6] (by repeat (first | exact trivial | refine ⟨⟨_, rfl, (by first | exact blkDead | exact blkDeep rfl (deepLit rfl) | exact blkDeep rfl (deepMap (fun _ => rfl)) | exact blkOk rfl rfl | exact blkLoop rfl rfl), (by first | exact fun _ => rfl | exact fun h => (by cases h))⟩, ?_⟩)) rfl rfl)
end
section
theorem play_step {C : Chn} {t : Int} {s b : Sta} {now : Int} {l : List Mv} {k : Nat} (h : k < l.length) : playR C t s now b (l.drop k) = match matchS C s l[k] with
    | none => none
    | some s' => if (l[k]).time < now then none else playR C t s' (l[k]).time (if (l[k]).time ≤ t then s' else b) (l.drop (k + 1)) := by
  rw [List.drop_eq_getElem_cons h]; rfl
theorem play_end {C : Chn} {t : Int} {s b : Sta} {now : Int} {l : List Mv} {k : Nat} (h : ¬ k < l.length) : playR C t s now b (l.drop k) = some (s, b) := by rw [List.drop_of_length_le (by omega)]; rfl
theorem match_bd {C : Chn} {s t : Sta} {m : Mv} (hC : CB C) (hs : SB C s) (h : matchS C s m = some t) : SB C t := by
  obtain ⟨x, hx, -, -, -, -, rfl⟩ := (match_some hC.ok).1 h; exact steps_bd hs hx
abbrev playV (q : Sta × Bool) : AV := .tuple [.agg (encSta q.1), vb q.2]
theorem play_ok {C : Chn} (hC : CB C) (ks : List Int) (al : List Entr) (l : List Mv) (t : Int) (hmax : l.length ≤ 1000000) : Pu Tryz.prog G1 97 [kV C ks al, moves l, vi t] (playV (playS C l t)) := by
  refine Qf 75 Tryz.func97 rfl rfl ?_
  (conv => whnf); repeat' (first | refine vv23 ?_) <;> conv => whnf
  refine LoopN.of4 (tryd_okm 0 _) (fun (k : Nat) (s b : Sta) (now : Int) => [(0, kV C ks al), (1, moves l), (2, vi t), (6, .pm 0 0 0), (8, .pm 1 0 0), (9, .pm 2 0 0), (10, vi now), (17, moves l), (18, vi l.length), (19, vi k)]) (fun k s b now => [.rows [staR0] 150, .rows [encSta s] 150, .rows [encSta b] 150]) (fun k s b now => l.length - k) (fun k s b now => k ≤ l.length ∧ SB C s ∧ playR C t s00 0 s00 l = playR C t s now b (l.drop k)) 0 s00 s00 0 ⟨Nat.zero_le _, ⟨Nat.two_pow_pos _, hC.ok.gaps.1⟩, rfl⟩ (QM [0, 1, 2]) ?_; rintro k s b now ⟨hk, hs, hinv⟩; by_cases hlt : k < l.length
  · rw [play_step hlt] at hinv; have hst := steps_ok C ks al s
    (conv => whnf); repeat' (first | refine SlIdxN.map k rfl hlt ?_ | refine vv7 ?_ | refine vv21 ?_ | refine vv22 ?_ | refine Qp hst ?_) <;> conv => whnf
    refine RangeN.re (l' := fl97 C ks al s l t now k) (H' := [.rows [staR0] 150, .rows [encSta s] 150, .rows [encSta b] 150, .rows [encMv l[k]] 88, .rows [nextR none] 150, .rows [[vb false]] 4]) (QM [0, 1, 2, 3, 4, 5]) ?_; refine RangeN.of (tryd_okm 0 _) rfl rfl (steps1_ok hC ks al hs (hp97 s b l[k] (fl97 C ks al s l t now k)) 7 6 (fun d acc => acc = d.foldl (matchB l[k]) none) none rfl rfl (by omega) ?_ ?_) ?_
    · intro d st _; exact ⟨Nat.le_refl _, OkBs.all ⟨okRows rfl, okRows rfl, okRows rfl, okRows rfl, okRows rfl, okRows rfl, okLoop rfl, trivial⟩⟩
    · rintro d x st hx rfl A B; have e : matchB l[k] (d.foldl (matchB l[k]) none) x = (d ++ [x]).foldl (matchB l[k]) none := by rw [List.foldl_append]; rfl
      exact ⟨round97 C ks al s b l t now k l[k] _ x [A, B] (.inl ⟨A, B, rfl⟩) _ (fun H' h => ⟨rfl, _, e, h⟩), round97 C ks al s b l t now k l[k] _ x [A] (.inr ⟨A, rfl⟩) _ (fun H' h => ⟨rfl, _, e, h⟩)⟩
    rintro y H' ⟨st, hst', rfl, rfl⟩; have hst' : st = matchS C s l[k] := hst'; rw [← hst'] at hinv
    have hbd : ∀ t, st = some t → SB C t := fun t ht => match_bd hC hs (by rw [← hst', ht])
    clear hst'
    conv => whnf
    refine ⟨nofun, ?_⟩
    cases st with
    | none =>
      (conv => whnf); repeat' (first | refine vv1 ?_ | refine vv21 ?_ | refine vv22 ?_) <;> conv => whnf
      have hr : playS C l t = (s00, false) := by unfold playS; rw [hinv]
      rw [hr]; exact ⟨.val rfl⟩
    | some s' =>
      have hs' := hbd s' rfl; simp only at hinv; by_cases hnow : (l[k]).time < now
      · rw [if_pos hnow] at hinv
        (conv => whnf); repeat' (first | refine vv2 ?_ | refine vv3 ?_ | refine vv21 ?_ | refine vv22 ?_) <;> conv => whnf
        have hr : playS C l t = (s00, false) := by unfold playS; rw [hinv]
        rw [hr]; exact ⟨.val rfl⟩
      rw [if_neg hnow] at hinv; by_cases ht : (l[k]).time ≤ t
      · rw [if_pos ht] at hinv
        repeat' ((conv => whnf); first | refine DrawN.re (Reabs.frz 3 _ _ rfl (deepAll rfl)) ?_ | refine vv2 ?_ | refine vv3 ?_ | refine vv4 ?_ | refine vv20 ?_ | refine vv21 ?_ | refine vv22 ?_ | refine vv25 ?_ | refine Qd ?_)
        exact BackN4.mk (k + 1) s' s' (l[k]).time ⟨by omega, hs', hinv⟩ (by omega) (QM [0, 1, 2])
      rw [if_neg ht] at hinv
      repeat' ((conv => whnf); first | refine DrawN.re (Reabs.frz 3 _ _ rfl (deepAll rfl)) ?_ | refine vv2 ?_ | refine vv4 ?_ | refine vv20 ?_ | refine vv21 ?_ | refine vv22 ?_ | refine vv25 ?_ | refine Qd ?_)
      exact BackN4.mk (k + 1) s' b (l[k]).time ⟨by omega, hs', hinv⟩ (by omega) (QM [0, 1, 2])
  rw [play_end hlt] at hinv; have hr : playS C l t = (b, allS C s) := by unfold playS; rw [hinv]
  rw [hr]
  repeat' ((conv => whnf); first | refine vv8 ?_ | refine vv21 ?_ | refine vv22 ?_ | refine vv25 ?_ | refine Qd ?_ | refine Qg (all_ok hC ks al (s := s)) ?_)
  exact Qv
end
end Go.Proofs.Ax
