import Derived.Test.YtedekogkeamacaaGreatDoorCcZZI
namespace Go.Proofs.Ax
open Go Go.Proofs Go.Proofs.Cu Go.Proofs.Tx
set_option maxRecDepth 10000
set_option maxHeartbeats 4000000
abbrev moreA (c : Book) (key t : Int) (x : Entr) (w : Nat) (s : Spn) : List AV := [bookV c, vi key, vi t, .agg (encE x), u8 w, .agg (encS s)]
theorem more_bad1 {c : Book} (hc : BkW c) (key t : Int) (x : Entr) (w : Nat) (s : Spn) (h : smallB c = false) : Pu Tryz.prog G1 6 (moreA c key t x w s) (vb true) := by
  have h1 := small_ok c hc
  rw [h] at h1
  have h2 := sanity_ok
  refine Pu.of_fin (Ef.of_ev (T := Tryz.tab) (n := 313) (tryd_okm 0 _) rfl Tryz.func6 rfl rfl (by simp) ?_) rfl rfl
  ((conv => whnf); repeat' ((first | refine vv1 ?_ | refine vv21 ?_ | refine CallN.pure (h1) ?_ | refine CallN.pure (h2) ?_) <;> (conv => whnf)))
  exact ⟨.val rfl⟩
theorem more_bad2 {c : Book} (hc : BkW c) (key t : Int) (x : Entr) (w : Nat) (s : Spn) (h : smallB c = true) (hck : checkE c ≠ 0) : Pu Tryz.prog G1 6 (moreA c key t x w s) (vb true) := by
  have h1 := small_ok c hc
  rw [h] at h1
  have h2 := sanity_ok
  have h3 := (small_bks h).check
  refine Pu.of_fin (Ef.of_ev (T := Tryz.tab) (n := 313) (tryd_okm 0 _) rfl Tryz.func6 rfl rfl (by simp) ?_) rfl rfl
  ((conv => whnf); repeat' ((first | refine vv2 ?_ | refine vv6 ?_ | refine vv21 ?_ | refine CallN.pure (h1) ?_ | refine CallN.pure (h2) ?_ | refine CallN.pure (h3) ?_) <;> (conv => whnf)))
  exact ⟨.val rfl⟩
theorem with_same {c : Book} {x : Entr} {key : Int} (h0 : checkE c = 0) (h1 : checkE (withB c x) = 0) (hk : x.key ≠ key) (t : Int) (s : Spn) :
    holdersF (withB c x) key t = holdersF c key t ∧ copiersF (withB c x) key t = copiersF c key t ∧ handsF (withB c x) key s = handsF c key s := by
  have ha : askedE (withB c x) key = askedE c key := by unfold askedE; rw [h0, h1]; rfl
  have hc : chnOf (withB c x) key = chnOf c key := other_chn hk
  refine ⟨?_, ?_, ?_⟩
  · unfold holdersF amongF; rw [ha, hc]; rfl
  · unfold copiersF amongF; rw [ha, hc]; rfl
  · unfold handsF; rw [ha, hc]; rfl
theorem BkS.nar {c : Book} (h : BkS c) (w : Nat) (s : Spn) : BkS (narB c w s) := ⟨h.pl, h.kl, by show (narE _ _ _).length ≤ _; rw [narE_len]; exact h.el, h.du⟩
theorem BkS.gap {c : Book} (h : BkS c) (g : Int) : BkS { c with gaps := g } := ⟨h.pl, h.kl, h.el, h.du⟩
theorem CodeN.two {E : EC} {a b c : Code} {l : Fr} {H : AH} {k : XK} (fr : Fr) (hp : AH) (h2 : CodeN E c fr hp k) (h1 : CodeN E c fr hp k → CodeN E (.seq a (.seq b c)) l H k) : CodeN E (.seq a (.seq b c)) l H k := h1 h2
theorem neededV {c : Book} (hS : BkS c) (key : Int) {e : Int} (h : (neededF c key).2 = e) : Pu Tryz.prog G1 28 [bookV c, vi key] (.tuple [vi (neededF c key).1, vi e]) := by
  subst h; exact needed_ok hS key
theorem more_good {c : Book} (hc : BkW c) (key t : Int) (x : Entr) (w : Nat) (hw : w < 256) (s : Spn) (h : smallB c = true) (hck : checkE c = 0) : Pu Tryz.prog G1 6 (moreA c key t x w s) (vb true) := by
  have h1 := small_ok c hc
  rw [h] at h1
  have h2 := sanity_ok
  have hS := small_bks h
  have h3 := hS.check
  rw [hck] at h3
  have hok := (check_ok c).1 hck
  have hel : c.entries.length ≤ 40 := hok.lens.2.2
  have hgp := hok.gaps
  have n8 := holdersF_len2 (c := c) key t
  have n9 := copiersF_len2 (c := c) key t
  have n10 := handsF_len2 hS key s
  have h8 := holdersV hS key t rfl
  have h9 := copiersV hS key t rfl
  have h10 := handsV hS key s rfl
  have hb : BkS (withB c x) := BkS.with hok x
  have hw1 := with_ok hS x
  unfold withF at hw1
  rw [if_neg (by simpa using hck)] at hw1
  refine Pu.of_fin (Ef.of_code (T := Tryz.tab) (n := 313) (tryd_okm 0 _) rfl Tryz.func6 rfl rfl (by simp) ?_) rfl rfl
  refine CodeN.seqE (tryd_okm 0 _) ?_
  (conv => whnf)
  refine CodeN.re (((Reabs.frz 2 [encS s] 28 rfl (deepAll rfl)).trans (Reabs.frz 1 [encE x] 68 rfl (deepAll rfl))).trans (Reabs.frz 0 [bookC c] 26 rfl (deepAll rfl))) ?_
  refine CodeN.seqE (tryd_okm 0 _) ?_
  ((conv => whnf); repeat' ((first | refine vv2 ?_ | refine CallN.pure (h1) ?_ | refine CallN.pure (h3) ?_) <;> (conv => whnf)))
  refine CodeN.seqE (tryd_okm 0 _) ?_
  ((conv => whnf); repeat' ((first | refine CallN.pure (h8) ?_) <;> (conv => whnf)))
  refine CodeN.seqE (tryd_okm 0 _) ?_
  ((conv => whnf); repeat' ((first | refine CallN.pure (h9) ?_) <;> (conv => whnf)))
  refine CodeN.seqE (tryd_okm 0 _) ?_
  ((conv => whnf); repeat' ((first | refine CallN.pure (h10) ?_) <;> (conv => whnf)))
  refine CodeN.re (l' := [(1, vi key), (2, vi t), (4, u8 w), (6, .pi (bookC c)), (9, .pi (encE x)), (11, .pi (encS s)), (13, ints (holdersF c key t).1), (14, vi (holdersF c key t).2), (15, ints (copiersF c key t).1), (16, vi (copiersF c key t).2), (17, ints (handsF c key s).1), (18, vi (handsF c key s).2)]) (H' := []) (Reabs.frm0 rfl (by repeat (first | exact sv0 | refine sv1 ?_ | refine sv2 ?_ | refine sv3 ?_))) ?_
  refine CodeN.two [(1, vi key), (2, vi t), (4, u8 w), (6, .pi (bookC c)), (11, .pi (encS s)), (13, ints (holdersF c key t).1), (14, vi (holdersF c key t).2), (15, ints (copiersF c key t).1), (16, vi (copiersF c key t).2), (17, ints (handsF c key s).1), (18, vi (handsF c key s).2)] [] ?_ ?_
  · clear hw1 hb h8 h9 h10
    have hm2 : Int.tmod (w : Int) 2 = ((w % 2 : Nat) : Int) := (Int.ofNat_tmod w 2).symm
    have hgy : (narB c w s).gaps = max 0 (c.gaps - ((w % 2 : Nat) : Int)) := rfl
    have hny : (narB c w s).entries.length = c.entries.length := narE_len ..
    have hY := hS.nar w s
    refine CodeN.seqE (tryd_okm 0 _) ?_
    ((conv => whnf); repeat' ((first | refine vv22 ?_) <;> (conv => whnf)))
    refine CodeN.seqE (tryd_okm 0 _) ?_
    ((conv => whnf); repeat' ((first | refine AppN.len c.entries.length (by first | omega | (simp; done) | (simp; omega)) (by first | omega | (simp; done) | (simp; omega)) (by first | omega | (simp; done) | (simp; omega)) ?_ | refine vv22 ?_ | refine Need.mk (by first | assumption | omega | (simp <;> omega)) ?_) <;> (conv => whnf)))
    refine CodeN.seqE (tryd_okm 0 _) ?_
    ((conv => whnf); repeat' ((first | refine vv20 ?_ | refine vv22 ?_ | refine Need.mk (by first | assumption | omega | (simp <;> omega)) ?_) <;> (conv => whnf)))
    refine CodeN.re (l' := [(1, vi key), (2, vi t), (4, u8 w), (6, .pi (bookC c)), (11, .pi (encS s)), (13, ints (holdersF c key t).1), (14, vi (holdersF c key t).2), (15, ints (copiersF c key t).1), (16, vi (copiersF c key t).2), (17, ints (handsF c key s).1), (18, vi (handsF c key s).2), (27, .pm 0 0 0)]) (H' := [.rows [[persons c.people, ints c.keys, .sm 1 7 0 c.entries.length, vi (narB c w s).gaps]] 26, .rows (c.entries.map encE) 68]) (Reabs.frmM [0, 1] (by repeat (first | exact sv0 | refine sv1 ?_ | refine sv2 ?_ | refine sv3 ?_)) (by exact ⟨⟨_, rfl, blkOk rfl (by rw [hgy, ← hm2]; rfl), fun _ => rfl⟩, ⟨_, rfl, blkDeep rfl (deepMap (fun _ => rfl)), fun _ => rfl⟩, trivial⟩) rfl rfl) ?_
    have hml : c.entries.length ≠ 0 → w % c.entries.length < c.entries.length := fun h => Nat.mod_lt _ (by omega)
    have hrm : Int.tmod (w : Int) (c.entries.length : Int) = ((w % c.entries.length : Nat) : Int) := (Int.ofNat_tmod w c.entries.length).symm
    refine CodeN.cut (tryd_okm 0 _) (fun _ : Unit => [(1, vi key), (2, vi t), (4, u8 w), (6, .pi (bookC c)), (11, .pi (encS s)), (13, ints (holdersF c key t).1), (14, vi (holdersF c key t).2), (15, ints (copiersF c key t).1), (16, vi (copiersF c key t).2), (17, ints (handsF c key s).1), (18, vi (handsF c key s).2), (27, .pm 0 0 0)]) (fun _ => [.rows [[persons c.people, ints c.keys, .sm 1 7 0 c.entries.length, vi (narB c w s).gaps]] 26, .rows ((narB c w s).entries.map encE) 68]) (fun _ => True) ?_ ?_
    · have same : ∀ {l' : Fr} {H' : AH}, (narB c w s).entries = c.entries → True := fun _ => trivial
      clear same
      by_cases hn0 : c.entries.length = 0
      · have he : (narB c w s).entries = c.entries := by
          show narE c.entries _ s = _
          unfold narE
          rw [List.getElem?_eq_none (by omega)]
        rw [he]
        ((conv => whnf); repeat' ((first | refine vv2 ?_ | refine vv8 ?_ | refine vv21 ?_) <;> (conv => whnf)))
        exact JoinN.mk () trivial (Reabs.frmM [0, 1] (by repeat (first | exact sv0 | refine sv1 ?_ | refine sv2 ?_ | refine sv3 ?_)) (by repeat (first | exact bv0 | refine bv1 ?_)) rfl rfl)
      · have hq := hml hn0
        generalize hqe : w % c.entries.length = q at *
        by_cases hs1 : s.lo ≤ s.hi
        · by_cases hs2 : (narS c.entries[q] s).lo ≤ (narS c.entries[q] s).hi
          · have he : (narB c w s).entries = c.entries.set q { c.entries[q] with at_ := narS c.entries[q] s } := by
              show narE c.entries _ s = _
              unfold narE
              rw [hqe, List.getElem?_eq_getElem hq]
              exact if_pos ⟨hs1, hs2⟩
            rw [he]
            unfold narS at hs2
            simp only at hs2
            ((conv => whnf); repeat' ((first | refine DrawN.grow (tryd_okm 0 _) (by kernel_rfl) ?_ | refine Grow.mk _ rfl ?_ | refine IdxN.at0 q hrm (by first | omega | (simp; done) | (simp; omega)) ?_ | refine vv3 ?_ | refine vv7 ?_ | refine vv20 ?_ | refine vv21 ?_ | refine RowN.map (by first | assumption | omega) ?_ | refine vv22 ?_ | refine RowSN.map (by first | assumption | omega) ?_ | refine vv25 ?_ | refine Need.mk (by first | assumption | omega | (simp <;> omega)) ?_) <;> (conv => whnf)))
            exact JoinN.mk () trivial (Reabs.frmM [0, 1] (by repeat (first | exact sv0 | refine sv1 ?_ | refine sv2 ?_ | refine sv3 ?_)) (by exact ⟨⟨_, rfl, blkOk rfl rfl, fun _ => rfl⟩, ⟨_, rfl, blkDeep (by rw [List.map_set]; rfl) (deepMap (fun _ => rfl)), fun _ => rfl⟩, trivial⟩) rfl rfl)
          · have he : (narB c w s).entries = c.entries := by
              show narE c.entries _ s = _
              unfold narE
              rw [hqe, List.getElem?_eq_getElem hq]
              exact if_neg fun h => hs2 h.2
            rw [he]
            unfold narS at hs2
            simp only at hs2
            ((conv => whnf); repeat' ((first | refine DrawN.grow (tryd_okm 0 _) (by kernel_rfl) ?_ | refine Grow.mk _ rfl ?_ | refine IdxN.at0 q hrm (by first | omega | (simp; done) | (simp; omega)) ?_ | refine vv3 ?_ | refine vv4 ?_ | refine vv7 ?_ | refine vv20 ?_ | refine vv21 ?_ | refine RowN.map (by first | assumption | omega) ?_ | refine vv22 ?_ | refine vv25 ?_ | refine Need.mk (by first | assumption | omega | (simp <;> omega)) ?_) <;> (conv => whnf)))
            exact JoinN.mk () trivial (Reabs.frmM [0, 1] (by repeat (first | exact sv0 | refine sv1 ?_ | refine sv2 ?_ | refine sv3 ?_)) (by repeat (first | exact bv0 | refine bv1 ?_)) rfl rfl)
        · have he : (narB c w s).entries = c.entries := by
            show narE c.entries _ s = _
            unfold narE
            rw [hqe, List.getElem?_eq_getElem hq]
            exact if_neg fun h => hs1 h.1
          rw [he]
          ((conv => whnf); repeat' ((first | refine vv4 ?_ | refine vv7 ?_ | refine vv21 ?_) <;> (conv => whnf)))
          exact JoinN.mk () trivial (Reabs.frmM [0, 1] (by repeat (first | exact sv0 | refine sv1 ?_ | refine sv2 ?_ | refine sv3 ?_)) (by repeat (first | exact bv0 | refine bv1 ?_)) rfl rfl)
    · rintro - -
      clear hml hrm hm2 hgy
      have hfz : AV.frz0 1 ((narB c w s).entries.map encE) (.sm 1 7 0 c.entries.length) = entries (narB c w s).entries := frz_all (by rw [List.length_map, hny])
      refine CodeN.re (l' := [(1, vi key), (2, vi t), (6, .pi (bookC c)), (11, .pi (encS s)), (13, ints (holdersF c key t).1), (14, vi (holdersF c key t).2), (15, ints (copiersF c key t).1), (16, vi (copiersF c key t).2), (17, ints (handsF c key s).1), (18, vi (handsF c key s).2), (27, .pm 0 0 0)]) (H' := [.rows [bookC (narB c w s)] 26]) (Reabs.trans (Reabs.frz 1 ((narB c w s).entries.map encE) 68 rfl (deepR (fun _ => rfl))) (Reabs.frmM [0] (by repeat (first | exact sv0 | refine sv1 ?_ | refine sv2 ?_ | refine sv3 ?_)) (by exact ⟨⟨_, rfl, blkOk rfl (by show _ = ABlk.rows [[persons c.people, ints c.keys, entries (narB c w s).entries, vi (narB c w s).gaps]] 26; rw [← hfz]; rfl), fun _ => rfl⟩, trivial⟩) rfl rfl)) ?_
      clear hfz hny
      have b1 := holdersV hY key t rfl
      have b2 := copiersV hY key t rfl
      have b3 := handsV hY key s rfl
      have q1 := more_less hok w s key t
      have q3 := more_hands hok w s key
      have m8 := holdersF_len2 (c := narB c w s) key t
      have m9 := copiersF_len2 (c := narB c w s) key t
      have m10 := handsF_len2 hY key s
      have p1 := part_ok (holdersF (narB c w s) key t).1 (holdersF c key t).1 m8 n8
      have p2 := part_ok (copiersF (narB c w s) key t).1 (copiersF c key t).1 m9 n9
      have p3 := part_ok (handsF (narB c w s) key s).1 (handsF c key s).1 m10 n10
      have hneed := neededV hS key rfl
      have hmn := fun h => more_needed (c := c) (key := key) (t := t) h
      clear n8 n9 n10 m8 m9 m10
      have hx1 : bookC (narB c w s) = bookC (narB c w s) := rfl
      generalize hNB : narB c w s = Y at *
      refine CodeN.seqE (tryd_okm 0 _) ?_
      ((conv => whnf); repeat' ((first | refine vv21 ?_ | refine CallN.pure (b1) ?_) <;> (conv => whnf)))
      refine CodeN.seqE (tryd_okm 0 _) ?_
      ((conv => whnf); repeat' ((first | refine vv21 ?_ | refine CallN.pure (b2) ?_) <;> (conv => whnf)))
      refine CodeN.seqE (tryd_okm 0 _) ?_
      ((conv => whnf); repeat' ((first | refine vv21 ?_ | refine CallN.pure (b3) ?_) <;> (conv => whnf)))
      refine CodeN.cut (tryd_okm 0 _) (fun _ : Unit => [(1, vi key), (6, .pi (bookC c)), (14, vi (holdersF c key t).2), (27, .pm 0 0 0)]) (fun _ => [.rows [bookC Y] 26]) (fun _ => True) ?_ ?_
      · clear hmn hneed b1 b2 b3
        by_cases i0 : (holdersF Y key t).2 = 0
        · obtain ⟨g1, g2, g3, g4⟩ := q1 i0
          rw [g3] at p1
          rw [g4] at p2
          clear q1 g3 g4
          by_cases k0 : (handsF Y key s).2 = 0
          · obtain ⟨g5, g6⟩ := q3 k0
            rw [g6] at p3
            clear q3 g6
            generalize (holdersF Y key t).1 = A1 at *
            generalize (holdersF Y key t).2 = e1 at *
            generalize (copiersF Y key t).1 = A2 at *
            generalize (copiersF Y key t).2 = e2 at *
            generalize (handsF Y key s).1 = A3 at *
            generalize (handsF Y key s).2 = e3 at *
            generalize (holdersF c key t).1 = B1 at *
            generalize (holdersF c key t).2 = f1 at *
            generalize (copiersF c key t).1 = B2 at *
            generalize (copiersF c key t).2 = f2 at *
            generalize (handsF c key s).1 = B3 at *
            generalize (handsF c key s).2 = f3 at *
            ((conv => whnf); repeat' ((first | refine vv2 ?_ | refine vv3 ?_ | refine vv5 ?_ | refine CallN.pure (p1) ?_ | refine CallN.pure (p2) ?_ | refine CallN.pure (p3) ?_) <;> (conv => whnf)))
            exact JoinN.mk () trivial (Reabs.frmM [0] (by repeat (first | exact sv0 | refine sv1 ?_ | refine sv2 ?_ | refine sv3 ?_)) (by repeat (first | exact bv0 | refine bv1 ?_)) rfl rfl)
          · clear q3
            generalize (holdersF Y key t).1 = A1 at *
            generalize (holdersF Y key t).2 = e1 at *
            generalize (copiersF Y key t).1 = A2 at *
            generalize (copiersF Y key t).2 = e2 at *
            generalize (handsF Y key s).1 = A3 at *
            generalize (handsF Y key s).2 = e3 at *
            generalize (holdersF c key t).1 = B1 at *
            generalize (holdersF c key t).2 = f1 at *
            generalize (copiersF c key t).1 = B2 at *
            generalize (copiersF c key t).2 = f2 at *
            generalize (handsF c key s).1 = B3 at *
            generalize (handsF c key s).2 = f3 at *
            ((conv => whnf); repeat' ((first | refine vv2 ?_ | refine vv3 ?_ | refine vv4 ?_ | refine vv5 ?_ | refine CallN.pure (p1) ?_ | refine CallN.pure (p2) ?_) <;> (conv => whnf)))
            exact JoinN.mk () trivial (Reabs.frmM [0] (by repeat (first | exact sv0 | refine sv1 ?_ | refine sv2 ?_ | refine sv3 ?_)) (by repeat (first | exact bv0 | refine bv1 ?_)) rfl rfl)
        · clear q1
          by_cases k0 : (handsF Y key s).2 = 0
          · obtain ⟨g5, g6⟩ := q3 k0
            rw [g6] at p3
            clear q3 g6
            generalize (holdersF Y key t).1 = A1 at *
            generalize (holdersF Y key t).2 = e1 at *
            generalize (copiersF Y key t).1 = A2 at *
            generalize (copiersF Y key t).2 = e2 at *
            generalize (handsF Y key s).1 = A3 at *
            generalize (handsF Y key s).2 = e3 at *
            generalize (holdersF c key t).1 = B1 at *
            generalize (holdersF c key t).2 = f1 at *
            generalize (copiersF c key t).1 = B2 at *
            generalize (copiersF c key t).2 = f2 at *
            generalize (handsF c key s).1 = B3 at *
            generalize (handsF c key s).2 = f3 at *
            ((conv => whnf); repeat' ((first | refine vv2 ?_ | refine vv3 ?_ | refine vv4 ?_ | refine vv5 ?_ | refine CallN.pure (p3) ?_) <;> (conv => whnf)))
            exact JoinN.mk () trivial (Reabs.frmM [0] (by repeat (first | exact sv0 | refine sv1 ?_ | refine sv2 ?_ | refine sv3 ?_)) (by repeat (first | exact bv0 | refine bv1 ?_)) rfl rfl)
          · clear q3
            generalize (holdersF Y key t).1 = A1 at *
            generalize (holdersF Y key t).2 = e1 at *
            generalize (copiersF Y key t).1 = A2 at *
            generalize (copiersF Y key t).2 = e2 at *
            generalize (handsF Y key s).1 = A3 at *
            generalize (handsF Y key s).2 = e3 at *
            generalize (holdersF c key t).1 = B1 at *
            generalize (holdersF c key t).2 = f1 at *
            generalize (copiersF c key t).1 = B2 at *
            generalize (copiersF c key t).2 = f2 at *
            generalize (handsF c key s).1 = B3 at *
            generalize (handsF c key s).2 = f3 at *
            ((conv => whnf); repeat' ((first | refine vv2 ?_ | refine vv4 ?_) <;> (conv => whnf)))
            exact JoinN.mk () trivial (Reabs.frmM [0] (by repeat (first | exact sv0 | refine sv1 ?_ | refine sv2 ?_ | refine sv3 ?_)) (by repeat (first | exact bv0 | refine bv1 ?_)) rfl rfl)
      · rintro - -
        clear q1 q3 p1 p2 p3 b1 b2 b3
        refine CodeN.of_ev (tryd_okm 0 _) ?_
        by_cases l0 : (neededF c key).2 = 0
        · obtain ⟨z0, z3, zh, zd, zm⟩ := hmn l0
          have hA := historyV (hS.gap (neededF c key).1) key zh
          have hB := historyV (hS.gap ((neededF c key).1 - 1)) key rfl
          rw [l0] at hneed
          clear hmn zh
          generalize (historyF { c with gaps := (neededF c key).1 } key).1 = L1 at *
          generalize (historyF { c with gaps := (neededF c key).1 - 1 } key).1 = L2 at *
          generalize (historyF { c with gaps := (neededF c key).1 - 1 } key).2 = o2 at *
          generalize (neededF c key).1 = n at *
          generalize (holdersF c key t).2 = e at *
          have hA : Pu Tryz.prog G1 37 [.agg [persons c.people, ints c.keys, entries c.entries, vi n], vi key] (.tuple [moves L1, vi 0]) := hA
          have hB : Pu Tryz.prog G1 37 [.agg [persons c.people, ints c.keys, entries c.entries, vi (n - 1)], vi key] (.tuple [moves L2, vi o2]) := hB
          have y0 : n ≤ c.gaps → decide (n ≤ c.gaps) = true := fun h => decide_eq_true h
          have y9 : c.gaps < n → decide (n ≤ c.gaps) = decide ((9 : Int) = 1) := fun h => by rw [decide_eq_false (by omega)]; rfl
          rcases zd with zd | ⟨zd, zg⟩ | ⟨zd, zg⟩
          case' inr.inl => have y0' := y0 zg
          case' inr.inr => have y9' := y9 zg
          all_goals
            clear y0 y9
            subst zd
            rcases zm with zm | zm
          all_goals ((conv => whnf); repeat' ((first | refine vv1 ?_ | refine vv2 ?_ | refine vv3 ?_ | refine vv4 ?_ | refine vv5 ?_ | refine vv6 ?_ | refine vv8 ?_ | refine vv11 (fun hbr => ?_) (fun hbr => ?_) | refine vv12 (fun hbr => ?_) (fun hbr => ?_) | refine vv20 ?_ | refine vv21 ?_ | refine vv22 ?_ | refine CallN.pure (hneed) ?_ | refine CallN.pure (hA) ?_ | refine CallN.pure (hB) ?_ | refine CallN.pure (h2) ?_) <;> (conv => whnf)))
          all_goals first
            | exact ⟨.val rfl⟩
            | (rw [decide_eq_true zm]; exact ⟨.val rfl⟩)
        · generalize (neededF c key).1 = n at *
          generalize (neededF c key).2 = e9 at *
          generalize (holdersF c key t).2 = e at *
          clear hmn
          ((conv => whnf); repeat' ((first | refine vv6 ?_ | refine CallN.pure (hneed) ?_ | refine CallN.pure (h2) ?_) <;> (conv => whnf)))
          exact ⟨.val rfl⟩
  · intro rest
    refine CodeN.seqE (tryd_okm 0 _) ?_
    by_cases hx : checkE (withB c x) = 0
    · rw [if_neg (by simpa using hx)] at hw1
      ((conv => whnf); repeat' ((first | refine vv22 ?_ | refine CallN.pure (hw1) ?_) <;> (conv => whnf)))
      refine CodeN.cut (tryd_okm 0 _) (fun _ : Unit => [(1, vi key), (2, vi t), (4, u8 w), (6, .pi (bookC c)), (11, .pi (encS s)), (13, ints (holdersF c key t).1), (14, vi (holdersF c key t).2), (15, ints (copiersF c key t).1), (16, vi (copiersF c key t).2), (17, ints (handsF c key s).1), (18, vi (handsF c key s).2)]) (fun _ => []) (fun _ => True) ?_ fun _ _ => rest
      by_cases hk : x.key = key
      · ((conv => whnf); repeat' ((first | refine vv1 ?_ | refine vv5 ?_) <;> (conv => whnf)))
        exact JoinN.mk () trivial (Reabs.frm0 rfl (by repeat (first | exact sv0 | refine sv1 ?_ | refine sv2 ?_ | refine sv3 ?_)))
      · obtain ⟨w1, w2, w3⟩ := with_same hck hx hk t s
        have b1 := holdersV hb key t rfl
        have b2 := copiersV hb key t rfl
        have b3 := handsV hb key s rfl
        rw [w1] at b1
        rw [w2] at b2
        rw [w3] at b3
        have c1 := same_ok (holdersF c key t).1 (holdersF c key t).1 n8 n8
        have c2 := same_ok (copiersF c key t).1 (copiersF c key t).1 n9 n9
        have c3 := same_ok (handsF c key s).1 (handsF c key s).1 n10 n10
        rw [decide_eq_true rfl] at c1 c2 c3
        clear rest w1 w2 w3
        generalize (holdersF c key t).1 = A at *
        generalize (holdersF c key t).2 = e1 at *
        generalize (copiersF c key t).1 = B at *
        generalize (copiersF c key t).2 = e2 at *
        generalize (handsF c key s).1 = D at *
        generalize (handsF c key s).2 = e3 at *
        ((conv => whnf); repeat' ((first | refine vv1 ?_ | refine vv2 ?_ | refine vv6 ?_ | refine vv9 ?_ | refine vv21 ?_ | refine CallN.pure (b1) ?_ | refine CallN.pure (b2) ?_ | refine CallN.pure (b3) ?_ | refine CallN.pure (c1) ?_ | refine CallN.pure (c2) ?_ | refine CallN.pure (c3) ?_) <;> (conv => whnf)))
        exact JoinN.mk () trivial (Reabs.frm0 rfl (by repeat (first | exact sv0 | refine sv1 ?_ | refine sv2 ?_ | refine sv3 ?_)))
    · rw [if_pos hx] at hw1
      ((conv => whnf); repeat' ((first | refine vv22 ?_ | refine CallN.pure (hw1) ?_) <;> (conv => whnf)))
      refine CodeN.cut (tryd_okm 0 _) (fun _ : Unit => [(1, vi key), (2, vi t), (4, u8 w), (6, .pi (bookC c)), (11, .pi (encS s)), (13, ints (holdersF c key t).1), (14, vi (holdersF c key t).2), (15, ints (copiersF c key t).1), (16, vi (copiersF c key t).2), (17, ints (handsF c key s).1), (18, vi (handsF c key s).2)]) (fun _ => []) (fun _ => True) ?_ fun _ _ => rest
      ((conv => whnf); repeat' ((first | refine vv2 ?_ | refine vv4 ?_) <;> (conv => whnf)))
      exact JoinN.mk () trivial (Reabs.frm0 rfl (by repeat (first | exact sv0 | refine sv1 ?_ | refine sv2 ?_ | refine sv3 ?_)))
theorem more_claw {c : Book} (hc : BkW c) (key t : Int) (x : Entr) (w : Nat) (hw : w < 256) (s : Spn) : Pu Tryz.prog G1 6 (moreA c key t x w s) (vb true) := by
  cases h : smallB c with
  | false => exact more_bad1 hc key t x w s h
  | true =>
    by_cases hck : checkE c = 0
    · exact more_good hc key t x w hw s h hck
    · exact more_bad2 hc key t x w s h hck
end Go.Proofs.Ax
