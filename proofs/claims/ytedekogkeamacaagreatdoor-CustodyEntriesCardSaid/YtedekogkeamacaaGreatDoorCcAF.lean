import Derived.Test.YtedekogkeamacaaGreatDoorCcAE
namespace Go.Proofs.Ax
open Go Go.Proofs Go.Proofs.Cu
set_option maxRecDepth 10000
set_option maxHeartbeats 4000000
section
abbrev cdL (C : Chn) (id t : Int) (x : Cu.Stp) : List Spn := if x.entry = id ∧ lowOf t x ≤ highOf C x then [⟨lowOf t x, highOf C x⟩] else []
theorem candL_eq (C : Chn) (id : Int) (g : Sta × Int) : candL C id g = (stepsS C g.1).flatMap (cdL C id g.2) := rfl
theorem wide_ext {o : Spn} {l m : List Spn} (h : ∀ c, c ∈ l ↔ c ∈ m) : l.foldl wider o = m.foldl wider o := by
  have key : ∀ {l m : List Spn}, (∀ c, c ∈ l → c ∈ m) → (m.foldl wider o).lo ≤ (l.foldl wider o).lo ∧ (l.foldl wider o).hi ≤ (m.foldl wider o).hi := by
    intro l m h; obtain ⟨b1, b2, b3⟩ := wide_bd (l := m) (o := o); obtain ⟨a1, a2⟩ := wide_at (l := l) (o := o); constructor
    · rcases a1 with e | ⟨c, hc, e⟩
      omega; have := (b3 c (h c hc)).1; omega
    rcases a2 with e | ⟨c, hc, e⟩
    omega; have := (b3 c (h c hc)).2; omega
  obtain ⟨h1, h2⟩ := key fun c hc => (h c).1 hc
  obtain ⟨h3, h4⟩ := key fun c hc => (h c).2 hc
  cases hl : l.foldl wider o
  cases hm : m.foldl wider o
  rw [hl, hm] at h1 h2 h3 h4; simp only at h1 h2 h3 h4; congr 1 <;> omega
theorem whenL_ext {C : Chn} {id : Int} {gs hs : List (Sta × Int)} (h : ∀ g, g ∈ gs ↔ g ∈ hs) : whenL C id gs = whenL C id hs := by
  refine wide_ext fun c => ?_
  simp only [List.mem_flatMap, h]
abbrev w00 : Spn := ⟨maxTime + 1, -1⟩
theorem whenL_snoc (C : Chn) (id : Int) (vs : List (Sta × Int)) (g : Sta × Int) : whenL C id (vs ++ [g]) = (candL C id g).foldl wider (whenL C id vs) := by
  unfold whenL; rw [List.flatMap_append, List.foldl_append, List.flatMap_cons, List.flatMap_nil, List.append_nil]
abbrev fl81 (C : Chn) (ks : List Int) (al : List Entr) (s : Sta) (t : Int) : Fr := [(2, .pm 0 0 0), (3, .pm 1 0 0), (4, .pm 2 0 0), (6, .pm 3 0 0), (7, .pm 5 0 0), (9, .pi [vi t]), (17, .it 7), (25, .fn (.func 179) [] [.pi [kV C ks al], .pi (encSta s)])]
noncomputable abbrev lp81 (fl : Fr) : ABlk := .loop .ready none (frm 0 fl 64) #[26] (asF Tryz.f81) (bdF Tryz.f81)
noncomputable abbrev hN9 (C : Chn) (ks : List Int) (al : List Entr) (id : Int) (seen : List Nat) (s : Sta) (t : Int) (acc : Spn × Fnd Sta Int) : AH := [.rows [[kV C ks al]] 119, .rows [[vi id]] 3, .rows [[vi 0, vi 0]] 28, .rows [encS acc.1] 28, mE acc.2, .rows [[.mp 4]] 185, mE (earlyS C), .miter (some 6) (earlyS C).length seen (earlyS C).length, .rows [encSta s] 150, lp81 (fl81 C ks al s t)]
theorem round81 {C : Chn} {ks : List Int} {al : List Entr} {id : Int} {seen : List Nat} {s : Sta} {t : Int} {acc : Spn × Fnd Sta Int} {F : Nat} {x : Cu.Stp} (h : Ef Tryz.prog G1 126 [kV C ks al, kS x.to_, .mp 0] [mE acc.2] fun y H' => y = vi (lateM C F x.to_ acc.2).1 ∧ H' = [mE (lateM C F x.to_ acc.2).2])
    (hv : (lateM C F x.to_ acc.2).1 = lateS C x.to_) (z : AH) (hz : (∃ A B, z = [A, B]) ∨ ∃ A, z = [A]) (Q : AV → AH → Prop) (hQ : ∀ H', ReH 10 H' (hN9 C ks al id seen s t ((cdL C id t x).foldl wider acc.1, (lateM C F x.to_ acc.2).2)) → Q (vb true) H') :
    Rnd 9 [.agg (encStp x)] (hN9 C ks al id seen s t acc ++ z) Q := by
  have hl := late_in h; rw [hv] at hl; unfold cdL lowOf highOf at hQ; generalize (lateM C F x.to_ acc.2).2 = gk2 at *; generalize lateS C x.to_ = lt at *; obtain ⟨o, gk⟩ := acc; simp only at hl hQ
  have hfz : ∀ n rs, some ((mE gk).frz n rs) = some (mE gk) := fun n rs => by rw [mE_frz]
  by_cases hid : x.entry = id
  · by_cases hlo : max t x.at_.lo ≤ min x.at_.hi lt
    · rw [if_pos ⟨hid, hlo⟩] at hQ; simp only [List.foldl_cons, List.foldl_nil, wider] at hQ
      rcases hz with ⟨A, B, rfl⟩ | ⟨A, rfl⟩
      · refine ⟨_, _, _, _, _, _, rfl, rfl, ?_⟩
        (conv => whnf); repeat' (first | refine DrawN.re (Reabs.frz 12 _ _ rfl (deepAll rfl)) ?_ | refine GCallN.ef (hl _ 4 (hfz _ _)) ?_ | refine vv3 ?_ | refine vv21 ?_ | refine vv22 ?_ | refine vv25 ?_ | refine Qd ?_) <;> conv => whnf
        refine hQ _ ?_; exact ReH.ids [0, 1, 2, 3, 4, 5, 6, 7, 8, 9] (by exact ⟨⟨_, rfl, blkOk rfl rfl, fun _ => rfl⟩, ⟨_, rfl, blkOk rfl rfl, fun _ => rfl⟩, ⟨_, rfl, blkOk rfl rfl, fun _ => rfl⟩, ⟨_, rfl, blkOk rfl rfl, fun _ => rfl⟩, ⟨_, rfl, mE_blk _, fun _ => rfl⟩, ⟨_, rfl, blkOk rfl rfl, fun _ => rfl⟩, ⟨_, rfl, (by show Blk _ _ ((mE _).frz _ _) _; rw [mE_frz]; exact mE_blk _), fun _ => rfl⟩, ⟨_, rfl, miter_blk (by simp) rfl, fun _ => rfl⟩, ⟨_, rfl, blkOk rfl rfl, fun _ => rfl⟩, ⟨_, rfl, blkLoop rfl rfl, fun _ => rfl⟩, trivial⟩) rfl rfl
      refine ⟨_, _, _, _, _, _, rfl, rfl, ?_⟩
      (conv => whnf); repeat' (first | refine DrawN.re (Reabs.frz 11 _ _ rfl (deepAll rfl)) ?_ | refine GCallN.ef (hl _ 4 (hfz _ _)) ?_ | refine vv3 ?_ | refine vv21 ?_ | refine vv22 ?_ | refine vv25 ?_ | refine Qd ?_) <;> conv => whnf
      refine hQ _ ?_; exact ReH.ids [0, 1, 2, 3, 4, 5, 6, 7, 8, 9] (by exact ⟨⟨_, rfl, blkOk rfl rfl, fun _ => rfl⟩, ⟨_, rfl, blkOk rfl rfl, fun _ => rfl⟩, ⟨_, rfl, blkOk rfl rfl, fun _ => rfl⟩, ⟨_, rfl, blkOk rfl rfl, fun _ => rfl⟩, ⟨_, rfl, mE_blk _, fun _ => rfl⟩, ⟨_, rfl, blkOk rfl rfl, fun _ => rfl⟩, ⟨_, rfl, (by show Blk _ _ ((mE _).frz _ _) _; rw [mE_frz]; exact mE_blk _), fun _ => rfl⟩, ⟨_, rfl, miter_blk (by simp) rfl, fun _ => rfl⟩, ⟨_, rfl, blkOk rfl rfl, fun _ => rfl⟩, ⟨_, rfl, blkLoop rfl rfl, fun _ => rfl⟩, trivial⟩) rfl rfl
    rw [if_neg (fun h => hlo h.2)] at hQ; simp only [List.foldl_nil] at hQ
    rcases hz with ⟨A, B, rfl⟩ | ⟨A, rfl⟩
    · refine ⟨_, _, _, _, _, _, rfl, rfl, ?_⟩
      (conv => whnf); repeat' (first | refine DrawN.re (Reabs.frz 12 _ _ rfl (deepAll rfl)) ?_ | refine GCallN.ef (hl _ 4 (hfz _ _)) ?_ | refine vv3 ?_ | refine vv4 ?_ | refine vv21 ?_ | refine vv22 ?_ | refine vv25 ?_ | refine Qd ?_) <;> conv => whnf
      refine hQ _ ?_; exact ReH.ids [0, 1, 2, 3, 4, 5, 6, 7, 8, 9] (by exact ⟨⟨_, rfl, blkOk rfl rfl, fun _ => rfl⟩, ⟨_, rfl, blkOk rfl rfl, fun _ => rfl⟩, ⟨_, rfl, blkOk rfl rfl, fun _ => rfl⟩, ⟨_, rfl, blkOk rfl rfl, fun _ => rfl⟩, ⟨_, rfl, mE_blk _, fun _ => rfl⟩, ⟨_, rfl, blkOk rfl rfl, fun _ => rfl⟩, ⟨_, rfl, (by show Blk _ _ ((mE _).frz _ _) _; rw [mE_frz]; exact mE_blk _), fun _ => rfl⟩, ⟨_, rfl, miter_blk (by simp) rfl, fun _ => rfl⟩, ⟨_, rfl, blkOk rfl rfl, fun _ => rfl⟩, ⟨_, rfl, blkLoop rfl rfl, fun _ => rfl⟩, trivial⟩) rfl rfl
    refine ⟨_, _, _, _, _, _, rfl, rfl, ?_⟩
    (conv => whnf); repeat' (first | refine DrawN.re (Reabs.frz 11 _ _ rfl (deepAll rfl)) ?_ | refine GCallN.ef (hl _ 4 (hfz _ _)) ?_ | refine vv3 ?_ | refine vv4 ?_ | refine vv21 ?_ | refine vv22 ?_ | refine vv25 ?_ | refine Qd ?_) <;> conv => whnf
    refine hQ _ ?_; exact ReH.ids [0, 1, 2, 3, 4, 5, 6, 7, 8, 9] (by exact ⟨⟨_, rfl, blkOk rfl rfl, fun _ => rfl⟩, ⟨_, rfl, blkOk rfl rfl, fun _ => rfl⟩, ⟨_, rfl, blkOk rfl rfl, fun _ => rfl⟩, ⟨_, rfl, blkOk rfl rfl, fun _ => rfl⟩, ⟨_, rfl, mE_blk _, fun _ => rfl⟩, ⟨_, rfl, blkOk rfl rfl, fun _ => rfl⟩, ⟨_, rfl, (by show Blk _ _ ((mE _).frz _ _) _; rw [mE_frz]; exact mE_blk _), fun _ => rfl⟩, ⟨_, rfl, miter_blk (by simp) rfl, fun _ => rfl⟩, ⟨_, rfl, blkOk rfl rfl, fun _ => rfl⟩, ⟨_, rfl, blkLoop rfl rfl, fun _ => rfl⟩, trivial⟩) rfl rfl
  rw [if_neg (fun h => hid h.1)] at hQ; simp only [List.foldl_nil] at hQ
  rcases hz with ⟨A, B, rfl⟩ | ⟨A, rfl⟩
  · refine ⟨_, _, _, _, _, _, rfl, rfl, ?_⟩
    (conv => whnf); repeat' (first | refine DrawN.re (Reabs.frz 12 _ _ rfl (deepAll rfl)) ?_ | refine GCallN.ef (hl _ 4 (hfz _ _)) ?_ | refine vv2 ?_ | refine vv4 ?_ | refine vv21 ?_ | refine vv22 ?_ | refine vv25 ?_ | refine Qd ?_) <;> conv => whnf
    refine hQ _ ?_; exact ReH.ids [0, 1, 2, 3, 4, 5, 6, 7, 8, 9] (by exact ⟨⟨_, rfl, blkOk rfl rfl, fun _ => rfl⟩, ⟨_, rfl, blkOk rfl rfl, fun _ => rfl⟩, ⟨_, rfl, blkOk rfl rfl, fun _ => rfl⟩, ⟨_, rfl, blkOk rfl rfl, fun _ => rfl⟩, ⟨_, rfl, mE_blk _, fun _ => rfl⟩, ⟨_, rfl, blkOk rfl rfl, fun _ => rfl⟩, ⟨_, rfl, (by show Blk _ _ ((mE _).frz _ _) _; rw [mE_frz]; exact mE_blk _), fun _ => rfl⟩, ⟨_, rfl, miter_blk (by simp) rfl, fun _ => rfl⟩, ⟨_, rfl, blkOk rfl rfl, fun _ => rfl⟩, ⟨_, rfl, blkLoop rfl rfl, fun _ => rfl⟩, trivial⟩) rfl rfl
  refine ⟨_, _, _, _, _, _, rfl, rfl, ?_⟩
  (conv => whnf); repeat' (first | refine DrawN.re (Reabs.frz 11 _ _ rfl (deepAll rfl)) ?_ | refine GCallN.ef (hl _ 4 (hfz _ _)) ?_ | refine vv2 ?_ | refine vv4 ?_ | refine vv21 ?_ | refine vv22 ?_ | refine vv25 ?_ | refine Qd ?_) <;> conv => whnf
  refine hQ _ ?_; exact ReH.ids [0, 1, 2, 3, 4, 5, 6, 7, 8, 9] (by exact ⟨⟨_, rfl, blkOk rfl rfl, fun _ => rfl⟩, ⟨_, rfl, blkOk rfl rfl, fun _ => rfl⟩, ⟨_, rfl, blkOk rfl rfl, fun _ => rfl⟩, ⟨_, rfl, blkOk rfl rfl, fun _ => rfl⟩, ⟨_, rfl, mE_blk _, fun _ => rfl⟩, ⟨_, rfl, blkOk rfl rfl, fun _ => rfl⟩, ⟨_, rfl, (by show Blk _ _ ((mE _).frz _ _) _; rw [mE_frz]; exact mE_blk _), fun _ => rfl⟩, ⟨_, rfl, miter_blk (by simp) rfl, fun _ => rfl⟩, ⟨_, rfl, blkOk rfl rfl, fun _ => rfl⟩, ⟨_, rfl, blkLoop rfl rfl, fun _ => rfl⟩, trivial⟩) rfl rfl
end
section
def whenV (w : Spn) : AV := .tuple [.agg (encS w), vb (decide (0 ≤ w.hi))]
abbrev vsAt (C : Chn) (seen : List Nat) : List (Sta × Int) := seen.filterMap fun i => ((earlyS C)[i]?).map fun g => (g.1, g.2.getLast?.getD 0)
theorem vsAt_snoc {C : Chn} {seen : List Nat} {i : Nat} {g : Sta × List Int} (hg : (earlyS C)[i]? = some g) : vsAt C (seen ++ [i]) = vsAt C seen ++ [(g.1, g.2.getLast?.getD 0)] := by
  unfold vsAt; rw [List.filterMap_append]; congr 1
  rw [List.filterMap_cons, hg]; rfl
theorem vsAt_all {C : Chn} (ok : C.ok) {seen : List Nat} (h : ∀ i, i < (earlyS C).length → i ∈ seen) (g : Sta × Int) : g ∈ vsAt C seen ↔ g ∈ earlyP C := by
  obtain ⟨s, t⟩ := g; rw [mem_earlyP ok]; constructor
  · intro hg; obtain ⟨i, hi, hg⟩ := List.mem_filterMap.1 hg
    cases hq : (earlyS C)[i]? with
    | none => rw [hq] at hg; cases hg
    | some g => rw [hq] at hg; cases hg; exact early_at ok hq
  intro hg; obtain ⟨g, hgm, he⟩ := key_of_get (show getG s (earlyS C) = some t from hg); obtain ⟨i, hi⟩ := List.getElem?_of_mem hgm; have h1 := early_at ok hi; rw [he] at h1
  have h2 : t = g.2.getLast?.getD 0 := by
    have : earlyF C s = some t := hg; rw [h1] at this
    cases this; rfl
  refine List.mem_filterMap.2 ⟨i, h i (List.getElem?_eq_some_iff.1 hi).1, ?_⟩; rw [hi, Option.map_some, he, h2]
abbrev h8 (C : Chn) (ks : List Int) (al : List Entr) (id : Int) (seen : List Nat) (out : Spn) (gk : Fnd Sta Int) : AH := [.rows [[kV C ks al]] 119, .rows [[vi id]] 3, .rows [[vi 0, vi 0]] 28, .rows [encS out] 28, mE gk, .rows [[.mp 4]] 185, mE (earlyS C), .miter (some 6) (earlyS C).length seen (earlyS C).length]
theorem when_pu {C : Chn} (hC : CB C) (hk : Kinds C) (ks : List Int) (al : List Entr) (id : Int) : Pu Tryz.prog G1 81 [kV C ks al, vi id] (whenV (whenL C id (earlyP C))) := by
  have ok := hC.ok; have hea := early_in hC hk ks al; refine Qf 64 Tryz.func81 rfl rfl ?_
  (conv => whnf); repeat' (first | refine StepN.mkMap 4 rfl Tryz.underlying185 ?_ | refine CallN.efD (hea _ 6 rfl) ?_ | refine StepN.mk (.it 7) (h8 C ks al id [] w00 []) (range_V (ke := kS) (v := vL) (gs := earlyS C) (H := [.rows [[kV C ks al]] 119, .rows [[vi id]] 3, .rows [[vi 0, vi 0]] 28, .rows [encS w00] 28, mE [], .rows [[.mp 4]] 185, mE (earlyS C)]) (m := 6) Tryz.underlying185 rfl 7 rfl) ?_ | refine vv21 ?_ | refine vv22 ?_) <;> conv => whnf
  refine LoopN.of3 (tryd_okm 0 _) (fun (seen : List Nat) (out : Spn) (gk : Fnd Sta Int) => [(2, .pm 0 0 0), (3, .pm 1 0 0), (4, .pm 2 0 0), (6, .pm 3 0 0), (7, .pm 5 0 0), (17, .it 7)]) (fun seen out gk => h8 C ks al id seen out gk) (fun seen out gk => (earlyS C).length - seen.length) (fun seen out gk => seen.Nodup ∧ (∀ i ∈ seen, i < (earlyS C).length) ∧ Cu.Good C gk ∧ out = whenL C id (vsAt C seen)) [] w00 [] ⟨List.nodup_nil, (fun i hi => absurd hi List.not_mem_nil), Cu.Good.nil C, rfl⟩
    (QM [0, 1, 2, 3, 4, 5, 6, 7] (hb := bv1 (bv1 (bv1 (bv1 (Ql rfl (mE_blk _) (bv1 (Ql rfl (mE_blk _) (Ql rfl (miter_blk (by simp) rfl) bv0))))))))) ?_
  rintro seen out gk ⟨hsn, hin, hgk, hout⟩
  (conv => whnf)
  obtain ⟨outs, ho1, ho2⟩ := next_V (P := Tryz.prog) (ke := kS) (v := vL) (H := h8 C ks al id seen out gk) (it := 7) (m := 6) (gs := earlyS C) (seen := seen) rfl rfl
  refine OpN.next ho1 fun y H' hm => ?_
  rcases ho2 y H' hm with ⟨i, g, hg, g2, rfl, rfl⟩ | ⟨g1, rfl, rfl⟩
  · clear ho1 ho2 hm; obtain ⟨hs1, hs2⟩ := seen_snocV hg hsn hin g2; have hef := early_at ok hg; obtain ⟨hsb, ht0⟩ := early_sb hC hk hef; have hsno := vsAt_snoc (seen := seen) hg; have hwh := whenL_snoc C id (vsAt C seen) (g.1, g.2.getLast?.getD 0); rw [← hsno, ← hout, candL_eq] at hwh; simp only at hwh; have hst := steps_ok C ks al g.1; have hen := entry_V (ke := kS) (v := vL) (it := 7) (m := 6) (gs := earlyS C) (seen := seen) (H := h8 C ks al id (seen ++ [i]) out gk) hg rfl rfl; rw [show vL g.2 = vi (g.2.getLast?.getD 0) from rfl] at hen; generalize hs' : g.1 = s at *; generalize ht' : g.2.getLast?.getD 0 = t at *
    (conv => whnf); repeat' (first | refine vv1 ?_) <;> conv => whnf
    refine StepN.mk _ _ hen ?_
    (conv => whnf); repeat' (first | refine vv21 ?_ | refine vv22 ?_ | refine Qp hst ?_) <;> conv => whnf
    refine RangeN.re (l' := fl81 C ks al s t) (H' := [.rows [[kV C ks al]] 119, .rows [[vi id]] 3, .rows [[vi 0, vi 0]] 28, .rows [encS out] 28, mE gk, .rows [[.mp 4]] 185, mE (earlyS C), .miter (some 6) (earlyS C).length (seen ++ [i]) (earlyS C).length, .rows [encSta s] 150]) ((Reabs.frz 9 [[vi t]] 3 rfl (deepAll rfl)).trans (QM [0, 1, 2, 3, 4, 5, 6, 7, 8] (hb := bv1 (bv1 (bv1 (bv1 (Ql rfl ((by show Blk _ _ ((mE _).frz _ _) _; rw [mE_frz]; exact mE_blk _)) (bv1 (Ql rfl ((by show Blk _ _ ((mE _).frz _ _) _; rw [mE_frz]; exact mE_blk _)) (Ql rfl (miter_blk (by simp) rfl) (bv1 bv0))))))))))) ?_; refine RangeN.of (tryd_okm 0 _) rfl rfl (steps1_ok hC ks al hsb (hN9 C ks al id (seen ++ [i]) s t) 10 9 (fun d (acc : Spn × Fnd Sta Int) => (∀ y ∈ d, y ∈ stepsS C s) ∧ Cu.Good C acc.2 ∧ acc.1 = (d.flatMap (cdL C id t)).foldl wider out) (out, gk) ⟨(fun y hy => absurd hy List.not_mem_nil), hgk, rfl⟩ rfl (by omega) ?_ ?_) ?_
    · rintro d ⟨o, gk2⟩ _; exact ⟨Nat.le_refl _, OkBs.all ⟨okRows rfl, okRows rfl, okRows rfl, okRows rfl, mE_ok _ _, okRows rfl, mE_ok _ _, (fun k hk => by cases hk; simp), okRows rfl, okLoop rfl, trivial⟩⟩
    · rintro d x acc hx ⟨hsub, hgd, hfold⟩ A B; have hxb := steps_bd hsb hx; have hrec := late_ef hC ks al (topL C + 1) x.to_ acc.2 hxb hgd.full (by omega); obtain ⟨hv, hg2⟩ := lateM_law ok (topL C + 1) x.to_ acc.2 hxb.gaps (by omega) hgd
      have hR2 : (∀ y ∈ d ++ [x], y ∈ stepsS C s) ∧ Cu.Good C (lateM C (topL C + 1) x.to_ acc.2).2 ∧ (cdL C id t x).foldl wider acc.1 = ((d ++ [x]).flatMap (cdL C id t)).foldl wider out := ⟨fun y hy => by
        rcases List.mem_append.1 hy with hy | hy
        exact hsub y hy
        rw [List.mem_singleton.1 hy]; exact hx, hg2, by rw [hfold, List.flatMap_append, List.foldl_append, List.flatMap_cons, List.flatMap_nil, List.append_nil]⟩
      exact ⟨round81 hrec hv [A, B] (.inl ⟨A, B, rfl⟩) _ (fun H' h => ⟨rfl, _, hR2, h⟩), round81 hrec hv [A] (.inr ⟨A, rfl⟩) _ (fun H' h => ⟨rfl, _, hR2, h⟩)⟩
    rintro y H' ⟨⟨o2, gk2⟩, ⟨-, hgd, hfold⟩, rfl, rfl⟩; simp only at hgd hfold; rw [← hfold] at hwh
    conv => whnf
    refine ⟨nofun, ?_⟩
    (conv => whnf)
    exact BackN3.mk (seen ++ [i]) o2 gk2 ⟨hs1.1, hs1.2, hgd, hwh.symm⟩ hs2 (QM [0, 1, 2, 3, 4, 5, 6, 7] (hb := bv1 (bv1 (bv1 (bv1 (Ql rfl (mE_blk _) (bv1 (Ql rfl (mE_blk _) (Ql rfl (miter_blk (by simp) rfl) bv0)))))))))
  clear ho1 ho2 hm
  have he : whenL C id (earlyP C) = out := by rw [hout]; exact whenL_ext fun g => (vsAt_all ok g1 g).symm
  rw [he]
  repeat' ((conv => whnf); first | refine DrawN.re (Reabs.frz 3 _ _ rfl (deepAll rfl)) ?_ | refine vv2 ?_ | refine vv21 ?_ | refine vv22 ?_ | refine vv25 ?_ | refine Qd ?_)
  exact Qv
end
section
theorem Pu.wk {P : Program} {G : Glob} {f : FuncId} {xs ys : List AV} {y : AV} (h : Pu P G f ys y) (hn : WkR xs ys) : Pu P G f xs y := by
  obtain ⟨h1, h2⟩ := hn.get; refine ⟨h.1, fun H I w ρ vs hh hl hv => h.2 H I w ρ vs hh (hl.trans h1) fun i x hx => ?_⟩; obtain ⟨x', g1, g2⟩ := h2 i x hx; exact g2 _ _ _ _ (hv i _ g1)
theorem Pu.wkr {P : Program} {G : Glob} {f : FuncId} {xs : List AV} {y z : AV} (h : Pu P G f xs y) (hn : WkC y z) : Pu P G f xs z := by
  refine ⟨h.1, fun H I w ρ vs hh hl hv => (h.2 H I w ρ vs hh hl hv).mono ?_⟩; rintro e w' ⟨v, e1, I', ρ', H', y', ⟨rfl, rfl⟩, g2, g3, g4⟩; exact ⟨v, e1, I', ρ', _, z, ⟨rfl, rfl⟩, g2, hn _ _ _ _ g3, g4⟩
theorem WkC.tup {xs ys : List AV} (h : WkR xs ys) : WkC (.tuple xs) (.tuple ys) := fun I w ρ v hv => by
  obtain ⟨h1, h2⟩ := h.get
  cases hv with
  | tuple hl hv =>
    refine .tuple (hl.trans h1) fun i y hy => ?_
    obtain ⟨x, g1, g2⟩ := h2 i y hy; exact g2 _ _ _ _ (hv i x g1)
structure BkS (c : Book) : Prop where
  pl : c.people.length ≤ 1000000
  kl : c.keys.length ≤ 1000000
  el : c.entries.length ≤ 1000000
  du : ∀ p ∈ c.people, p.duty.length ≤ 1000000
theorem BkS.check {c : Book} (h : BkS c) : Pu Tryz.prog G1 41 [bookV c] (vi (checkE c)) := check_wk c h.pl h.kl h.el h.du
theorem BkS.asked {c : Book} (h : BkS c) (key : Int) : Pu Tryz.prog G1 72 [bookV c, vi key] (vi (askedE c key)) := asked_wk c key h.pl h.kl h.el h.du
theorem asked_0 {c : Book} {key : Int} (h : askedE c key = 0) : c.ok ∧ key ∈ c.keys := by
  unfold askedE at h; split at h
  omega; rename_i h1; split at h
  exact ⟨(check_ok c).1 (by omega), by rename_i h2; simpa using h2⟩; omega
theorem chn_cb {c : Book} (h : c.ok) (key : Int) : CB (chnOf c key) := ⟨(chn_ok h key).1, h.lens.1, (chn_ok h key).2, fun p hp => (pers_parts (h.pers p hp)).2⟩
def listV (r : List Int × Int) : AV := .tuple [ints r.1, vi r.2]
theorem search_nil {C : Chn} (hC : CB C) (hk : Kinds C) (ks : List Int) (al : List Entr) : Pu Tryz.prog G1 82 [kV C ks al, nilA] (searchV (searchS C [])) := (search_pu hC hk ks al [] (by simp) (fun c hc => absurd hc List.not_mem_nil)).wk ⟨WkC.refl _, WkC.nilSl _ _, trivial⟩
theorem search_one {C : Chn} (hC : CB C) (hk : Kinds C) (ks : List Int) (al : List Entr) (x : Cnd) (hx : 0 ≤ x.time ∧ x.time ≤ maxTime) : Pu Tryz.prog G1 82 [kV C ks al, .sl 1 true [[cV x]]] (searchV (searchS C [x])) := (search_pu hC hk ks al [x] (by simp) (fun c hc => by rw [List.mem_singleton.1 hc]; exact hx)).wk ⟨WkC.refl _, WkC.loose _ _, trivial⟩
theorem searchV_some {C : Chn} {cs : List Cnd} (h : foundS C cs = true) : ∃ l, searchV (searchS C cs) = .tuple [moves l, vb true] := by
  unfold foundS at h
  cases hs : searchS C cs with
  | none => rw [hs] at h; cases h
  | some l => exact ⟨l, rfl⟩
theorem searchV_none {C : Chn} {cs : List Cnd} (h : foundS C cs = false) : searchV (searchS C cs) = .tuple [nilA, vb false] := by
  unfold foundS at h
  cases hs : searchS C cs with
  | none => rfl
  | some l => rw [hs] at h; cases h
theorem nilV (e : Int) : WkC (.tuple [nilA, vi e]) (listV ([], e)) := WkC.tup ⟨WkC.nilSl _ _, WkC.refl _, trivial⟩
abbrev selI (q : Int → Bool) (l : List Int) (k : Nat) : List Int := (l.take k).filter q
theorem selI_succ {q : Int → Bool} {l : List Int} {k : Nat} (h : k < l.length) : selI q l (k + 1) = selI q l k ++ if q l[k] = true then [l[k]] else [] := by
  unfold selI; rw [take_succ_snoc h, List.filter_append]; congr 1
  cases h : q l[k] <;> simp [h]
theorem selI_len {q : Int → Bool} {l : List Int} {k : Nat} : (selI q l k).length ≤ l.length := Nat.le_trans (List.length_filter_le ..) (by rw [List.length_take]; omega)
theorem selI_all {q : Int → Bool} {l : List Int} : selI q l l.length = l.filter q := by unfold selI; rw [List.take_length]
theorem fin2 {b : ABlk} (o : List Int) (e : Int) : FinTo 0 [b, .rows (o.map intR) 3] (.tuple [.sm 1 1 0 o.length, vi e]) (listV (o, e)) [] := by
  have hz : AV.frz0 1 (o.map intR) (.sm 1 1 0 o.length) = ints o := frz_all (by rw [List.length_map]); refine .step 1 _ _ rfl (deepR (fun _ => rfl)) ?_; have h2 : (AV.tuple [.sm 1 1 0 o.length, vi e]).frz2 1 (o.map intR) = .tuple [AV.frz0 1 (o.map intR) (.sm 1 1 0 o.length), vi e] := rfl; rw [h2, hz]; exact .val rfl
theorem among_ok (F : FuncId) (mk : Int → Cnd) {c : Book} (hc : BkS c) (key t : Int) (l : List Int) (hl : l.length ≤ 2000000) (hF : ∀ n, Pu Tryz.prog G1 F [vi n, .pi [vi t]] (cV (mk n))) (hmt : ∀ n, (mk n).time = t) :
    Pu Tryz.prog G1 68 [bookV c, vi key, vi t, ints l, .fn (.func F) [] [.pi [vi t]]] (listV (amongF c key t l mk)) := by
  have hask := hc.asked key; have htm : Pu Tryz.prog G1 98 [vi t] (vb (timeOk t)) := time_ok t; have hdd : ([bookV c, vi key, vi t, ints l, .fn (.func F) [] [.pi [vi t]]].all (·.deep2)) = true := by rfl
  unfold amongF; by_cases h0 : askedE c key = 0
  · rw [if_neg (by simpa using h0)]; rw [h0] at hask
    cases ht : timeOk t with
    | false =>
      rw [if_pos rfl]; rw [ht] at htm; refine Pu.wkr (Pu.of_fin (Ef.of_ev (T := Tryz.tab) (n := 62) (tryd_okm 0 _) rfl Tryz.func68 rfl rfl (by simp) ?_) hdd rfl) (nilV _)
      repeat' ((conv => whnf); first | refine vv1 ?_ | refine vv2 ?_ | refine vv21 ?_ | refine Qp hask ?_ | refine Qp htm ?_)
      exact Qv
    | true =>
      rw [if_neg (by simp)]; rw [ht] at htm; obtain ⟨hok, hkey⟩ := asked_0 h0; have hC := chn_cb hok key; have hk := chn_kinds hok key; have hch := chain_ok c key hc.el; have hsn := search_nil hC hk c.keys c.entries; have htt : 0 ≤ t ∧ t ≤ maxTime := by unfold timeOk at ht; exact of_decide_eq_true ht
      cases hf : foundS (chnOf c key) [] with
      | false =>
        rw [if_pos rfl]; rw [searchV_none hf] at hsn; refine Pu.wkr (Pu.of_fin (Ef.of_ev (T := Tryz.tab) (n := 62) (tryd_okm 0 _) rfl Tryz.func68 rfl rfl (by simp) ?_) hdd rfl) (nilV _)
        repeat' ((conv => whnf); first | refine vv1 ?_ | refine vv2 ?_ | refine vv21 ?_ | refine Qp hask ?_ | refine Qp htm ?_ | refine Qp hch ?_ | refine Qp hsn ?_)
        exact Qv
      | true =>
        rw [if_neg (by simp)]; obtain ⟨l0, hl0⟩ := searchV_some hf; rw [hl0] at hsn; refine Pu.of_fin (Ef.of_ev (T := Tryz.tab) (n := 62) (tryd_okm 0 _) rfl Tryz.func68 rfl rfl (by simp) ?_) hdd rfl
        repeat' ((conv => whnf); first | refine vv2 ?_ | refine vv21 ?_ | refine vv23 ?_ | refine Qp hask ?_ | refine Qp htm ?_ | refine Qp hch ?_ | refine Qp hsn ?_)
        refine LoopN.re (Reabs.virt 16 1 3 rfl) ?_; refine LoopN.of Qt (fun k : Nat => [(4, .fn (.func F) [] [.pi [vi t]]), (13, kV (chnOf c key) c.keys c.entries), (16, .sm 1 1 0 (selI (fun n => foundS (chnOf c key) [mk n]) l k).length), (40, ints l), (41, vi l.length), (42, vi k)]) (fun k => [.rows [bookC c] 26, .rows ((selI (fun n => foundS (chnOf c key) [mk n]) l k).map intR) 3]) (fun k => l.length - k) (fun k => k ≤ l.length) 0 (Nat.zero_le _) (QM [0, 1]) ?_; intro k hk'; by_cases hlt : k < l.length
        · have hsu := selI_succ (q := fun n => foundS (chnOf c key) [mk n]) hlt; have hle := selI_len (q := fun n => foundS (chnOf c key) [mk n]) (l := l) (k := k); have hf1 := hF l[k]; have hs1 := search_one hC hk c.keys c.entries (mk l[k]) (by rw [hmt]; exact htt); have hge : (l.map intR).length = l.length := List.length_map ..; generalize selI (fun n => foundS (chnOf c key) [mk n]) l k = o at *
          cases hfd : foundS (chnOf c key) [mk l[k]] with
          | true =>
            obtain ⟨l1, hl1⟩ := searchV_some hfd; rw [hl1] at hs1; rw [if_pos hfd] at hsu
            repeat' ((conv => whnf); first | refine vv1 ?_ | refine vv7 ?_ | refine vv20 ?_ | refine SlIdxN.map _ rfl (by first | assumption | omega) ?_ | refine vv31 ?_ | refine vv33 ?_ | refine Qp hf1 ?_ | refine Qp hs1 ?_)
            exact Qb (k + 1) (QM [0, 2] (hs := by rw [hsu, List.length_append]; exact (by repeat (first | exact sv0 | refine sv1 ?_ | refine sv2 ?_ | refine sv3 ?_))) (hb := bv1 (Ql rfl (blkDeep (by rw [hsu, List.map_append]; rfl) (deepMap (fun _ => rfl))) bv0)))
          | false =>
            rw [searchV_none hfd] at hs1; rw [if_neg (by rw [hfd]; simp), List.append_nil] at hsu
            repeat' ((conv => whnf); first | refine vv2 ?_ | refine vv7 ?_ | refine vv20 ?_ | refine SlIdxN.map _ rfl (by first | assumption | omega) ?_ | refine Qp hf1 ?_ | refine Qp hs1 ?_)
            exact Qb (k + 1) (by rw [hsu]; exact QM [0, 1])
        obtain rfl : k = l.length := by omega
        have hall := selI_all (q := fun n => foundS (chnOf c key) [mk n]) (l := l); rw [← hall]; generalize selI (fun n => foundS (chnOf c key) [mk n]) l l.length = o at *
        (conv => whnf); repeat' (first | refine vv8 ?_) <;> conv => whnf
        exact ⟨fin2 o 0⟩
  rw [if_pos h0]; refine Pu.wkr (Pu.of_fin (Ef.of_ev (T := Tryz.tab) (n := 62) (tryd_okm 0 _) rfl Tryz.func68 rfl rfl (by simp) ?_) hdd rfl) (nilV _)
  repeat' ((conv => whnf); first | refine vv6 ?_ | refine vv21 ?_ | refine Qp hask ?_)
  exact Qv
end
section
theorem mk70 (t n : Int) : Pu Tryz.prog G1 70 [vi n, .pi [vi t]] (cV (.place n t)) := by
  refine Qh 8 Tryz.func70 rfl rfl ?_
  (conv => whnf)
  exact DoneN.pure rfl
theorem mk71 (t n : Int) : Pu Tryz.prog G1 71 [vi n, .pi [vi t]] (cV (.copy n t)) := by
  refine Qh 8 Tryz.func71 rfl rfl ?_
  (conv => whnf)
  exact DoneN.pure rfl
theorem holders_ok {c : Book} (hc : BkS c) (key t : Int) : Pu Tryz.prog G1 17 [bookV c, vi key, vi t] (listV (holdersF c key t)) := by
  have hpl := places_ok c hc.pl; have ham := among_ok 70 (fun n => .place n t) hc key t (placesL c) (by simp [placesL]; have := hc.pl; omega) (mk70 t) (fun _ => rfl); refine Qf 17 Tryz.func17 rfl rfl ?_
  repeat' ((conv => whnf); first | refine DrawN.re ((Reabs.frz 0 _ _ rfl (deepAll rfl)).trans (Reabs.frz 1 _ _ rfl (deepAll rfl))) ?_ | refine vv25 ?_ | refine Qd ?_ | refine Qg hpl ?_ | refine Qg ham ?_)
  exact Qv
theorem copiers_ok {c : Book} (hc : BkS c) (key t : Int) : Pu Tryz.prog G1 18 [bookV c, vi key, vi t] (listV (copiersF c key t)) := by
  have hpl := places_ok c hc.pl; have hp := hc.pl; have hpn : (placesL c).length = c.people.length + 2 := by simp [placesL]
  have ham := among_ok 71 (fun n => .copy n t) hc key t (c.people.map (·.id)) (by simp; omega) (mk71 t) (fun _ => rfl); refine Qf 18 Tryz.func18 rfl rfl ?_
  repeat' ((conv => whnf); first | refine DrawN.re ((Reabs.frz 0 _ _ rfl (deepAll rfl)).trans (Reabs.frz 1 _ _ rfl (deepAll rfl))) ?_ | refine IdxN.at0 _ rfl (by first | assumption | omega | (simp <;> omega)) ?_ | refine vv25 ?_ | refine Qd ?_ | refine Qg hpl ?_ | refine Qg ham ?_)
  exact Qv
end
section
theorem hands_in {C : Chn} (hC : CB C) (ks : List Int) (al : List Entr) (p : Pers) (hp : p.duty.length ≤ 6) (s : Spn) (ps : List (Sta × Spn)) (H : AH) (i : Nat) (hi : nthB H i = some (mO ps)) :
    Ef Tryz.prog G1 76 [kV C ks al, .agg (encP p), .agg (encS s), .mp i] H fun y H' => y = vb (handsB C p s ps) ∧ H' = H.set i (mO ps) := by
  refine Ef.subD (hands_ef hC ks al p hp s ps) rfl (Nat.le_refl _) ⟨mO_ok _ _, trivial⟩ [i] (by simp) ⟨⟨_, hi, mO_blk _, fun _ => rfl⟩, trivial⟩ rfl (fun x hx => ?_) rfl ?_
  · simp only [List.mem_cons, List.not_mem_nil, or_false] at hx
    rcases hx with rfl | rfl | rfl | rfl <;> rfl
  show H.set i ((mO ps).ren _) ++ [] = _; rw [List.append_nil, vB_ren (fun _ _ _ => ⟨rfl, rfl⟩) (fun _ _ _ => ⟨rfl, rfl⟩)]
theorem lenV {ps : List (Sta × Spn)} {k : Nat → Prop} (hk : k ps.length) : LenN (vEnt kS vSp 0 (oneG ps)).length k := by
  refine LenN.raw ?_; rw [vEnt_length, List.length_map]; exact hk
abbrev selP (q : Pers → Bool) (l : List Pers) (k : Nat) : List Int := ((l.take k).filter q).map (·.id)
theorem selP_succ {q : Pers → Bool} {l : List Pers} {k : Nat} (h : k < l.length) : selP q l (k + 1) = selP q l k ++ if q l[k] = true then [(l[k]).id] else [] := by
  unfold selP; rw [take_succ_snoc h, List.filter_append, List.map_append]; congr 1
  cases h : q l[k] <;> simp [h]
theorem selP_len {q : Pers → Bool} {l : List Pers} {k : Nat} : (selP q l k).length ≤ l.length := by
  unfold selP; rw [List.length_map]; exact Nat.le_trans (List.length_filter_le ..) (by rw [List.length_take]; omega)
theorem selP_all {q : Pers → Bool} {l : List Pers} : selP q l l.length = (l.filter q).map (·.id) := by unfold selP; rw [List.take_length]
theorem handsB_perm {C : Chn} {p : Pers} {s : Spn} {a b : List (Sta × Spn)} (h : a.Perm b) : handsB C p s a = handsB C p s b := by
  unfold handsB; rw [Bool.eq_iff_iff, List.any_eq_true, List.any_eq_true]; constructor <;> rintro ⟨x, hx, hq⟩
  exact ⟨x, h.mem_iff.1 hx, hq⟩; exact ⟨x, h.mem_iff.2 hx, hq⟩
theorem fin3 {a b d : ABlk} (o : List Int) (e : Int) : FinTo 0 [a, b, d, .rows (o.map intR) 3] (.tuple [.sm 3 1 0 o.length, vi e]) (listV (o, e)) [] := by
  have hz : AV.frz0 3 (o.map intR) (.sm 3 1 0 o.length) = ints o := frz_all (by rw [List.length_map]); refine .step 3 _ _ rfl (deepR (fun _ => rfl)) ?_; have h2 : (AV.tuple [.sm 3 1 0 o.length, vi e]).frz2 3 (o.map intR) = .tuple [AV.frz0 3 (o.map intR) (.sm 3 1 0 o.length), vi e] := rfl; rw [h2, hz]; exact .val rfl
theorem hands_ok {c : Book} (hc : BkS c) (key : Int) (s : Spn) : Pu Tryz.prog G1 19 [bookV c, vi key, .agg (encS s)] (listV (handsF c key s)) := by
  have hask := hc.asked key; have hva := valid_s s; unfold handsF; by_cases h0 : askedE c key = 0
  · rw [if_neg (by simpa using h0)]; rw [h0] at hask
    cases ht : validS s with
    | false =>
      rw [if_pos rfl]; rw [ht] at hva; refine Pu.wkr (Qf 50 Tryz.func19 rfl rfl ?_) (nilV _)
      repeat' ((conv => whnf); first | refine vv1 ?_ | refine vv2 ?_ | refine vv21 ?_ | refine Qp hask ?_ | refine Qp hva ?_)
      exact Qv
    | true =>
      rw [if_neg (by simp)]; rw [ht] at hva; obtain ⟨hok, hkey⟩ := asked_0 h0; have hC := chn_cb hok key; have hk := chn_kinds hok key; have hch := chain_ok c key hc.el; have hst := stays_at hC hk c.keys c.entries [.rows [bookC c] 26, .rows [encS s] 28] 2 rfl; have hpl8 := hok.lens.1; by_cases hn : staysL (chnOf c key) = []
      · rw [if_pos hn]; refine Pu.wkr (Qf 50 Tryz.func19 rfl rfl ?_) (nilV _)
        (conv => whnf); repeat' (first | refine vv2 ?_ | refine vv21 ?_ | refine Qp hask ?_ | refine Qp hva ?_ | refine Qp hch ?_) <;> conv => whnf
        refine CallN.ef hst ?_; rintro y H' ⟨ps, hps, rfl, rfl⟩; have hpn : ps.length = 0 := by rw [hps.length_eq, hn]; rfl
        repeat' ((conv => whnf); first | refine lenV ?_ | refine vv7 ?_)
        exact Qv
      rw [if_neg hn]; have hsl : 0 < (staysL (chnOf c key)).length := List.length_pos_iff.2 hn; refine Qf 50 Tryz.func19 rfl rfl ?_
      (conv => whnf); repeat' (first | refine vv2 ?_ | refine vv21 ?_ | refine Qp hask ?_ | refine Qp hva ?_ | refine Qp hch ?_) <;> conv => whnf
      refine CallN.ef hst ?_; rintro y H' ⟨ps, hps, rfl, rfl⟩; have hpn : 0 < ps.length := by rw [hps.length_eq]; exact hsl
      have hhp : (fun p => handsB (chnOf c key) p s (staysL (chnOf c key))) = fun p => handsB (chnOf c key) p s ps := funext fun p => handsB_perm hps.symm
      rw [hhp]; clear hst
      repeat' ((conv => whnf); first | refine lenV ?_ | refine vv8 ?_ | refine vv21 ?_ | refine vv23 ?_)
      refine LoopN.re (Reabs.virt 11 1 3 rfl) ?_; refine LoopN.of Qt (fun k : Nat => [(3, .pm 0 0 0), (5, .pm 1 0 0), (9, kV (chnOf c key) c.keys c.entries), (10, .mp 2), (11, .sm 3 1 0 (selP (fun p => handsB (chnOf c key) p s ps) c.people k).length), (32, persons c.people), (33, vi c.people.length), (34, vi k)]) (fun k => [.rows [bookC c] 26, .rows [encS s] 28, mO ps, .rows ((selP (fun p => handsB (chnOf c key) p s ps) c.people k).map intR) 3]) (fun k => c.people.length - k) (fun k => k ≤ c.people.length) 0 (Nat.zero_le _) (QM [0, 1, 2, 3] (hb := bv1 (bv1 (Ql rfl (mO_blk _) (bv1 bv0))))) ?_; intro k hk'; by_cases hlt : k < c.people.length
      · have hsu := selP_succ (q := fun p => handsB (chnOf c key) p s ps) hlt; have hle := selP_len (q := fun p => handsB (chnOf c key) p s ps) (l := c.people) (k := k); have hdu := (pers_parts (hok.pers _ (List.getElem_mem hlt))).2; have hh := hands_in hC c.keys c.entries c.people[k] hdu s ps; generalize selP (fun p => handsB (chnOf c key) p s ps) c.people k = o at *
        cases hfd : handsB (chnOf c key) c.people[k] s ps with
        | true =>
          rw [hfd] at hh; rw [if_pos hfd] at hsu
          repeat' ((conv => whnf); first | refine CallN.efD (hh _ 2 rfl) ?_ | refine vv1 ?_ | refine vv7 ?_ | refine vv20 ?_ | refine SlIdxN.map _ rfl (by first | assumption | omega) ?_ | refine vv21 ?_ | refine vv22 ?_ | refine vv31 ?_ | refine vv33 ?_)
          exact Qb (k + 1) (QM [0, 1, 2, 5] (hs := by rw [hsu, List.length_append]; exact (by repeat (first | exact sv0 | refine sv1 ?_ | refine sv2 ?_ | refine sv3 ?_))) (hb := bv1 (bv1 (Ql rfl (mO_blk _) (Ql rfl (blkDeep (by rw [hsu, List.map_append]; rfl) (deepMap (fun _ => rfl))) bv0)))))
        | false =>
          rw [hfd] at hh; rw [if_neg (by rw [hfd]; simp), List.append_nil] at hsu
          repeat' ((conv => whnf); first | refine CallN.efD (hh _ 2 rfl) ?_ | refine vv2 ?_ | refine vv7 ?_ | refine vv20 ?_ | refine SlIdxN.map _ rfl (by first | assumption | omega) ?_ | refine vv21 ?_ | refine vv22 ?_)
          exact Qb (k + 1) (by rw [hsu]; exact QM [0, 1, 2, 3] (hb := bv1 (bv1 (Ql rfl (mO_blk _) (bv1 bv0)))))
      obtain rfl : k = c.people.length := by omega
      have hall := selP_all (q := fun p => handsB (chnOf c key) p s ps) (l := c.people); rw [← hall]; generalize selP (fun p => handsB (chnOf c key) p s ps) c.people c.people.length = o at *
      (conv => whnf); repeat' (first | refine vv8 ?_) <;> conv => whnf
      exact ⟨fin3 o 0⟩
  rw [if_pos h0]; refine Pu.wkr (Qf 50 Tryz.func19 rfl rfl ?_) (nilV _)
  repeat' ((conv => whnf); first | refine vv6 ?_ | refine vv21 ?_ | refine Qp hask ?_)
  exact Qv
end
section
theorem when80 (id : Int) (e : Entr) : Pu Tryz.prog G1 80 [.agg (encE e), .pi [vi id]] (vb (e.id == id)) := by
  have hb : vb (e.id == id) = vb (decide (e.id = id)) := rfl; rw [hb]; refine Qh 8 Tryz.func80 rfl rfl ?_
  (conv => whnf); repeat' (first | refine vv21 ?_) <;> conv => whnf
  all_goals exact DoneN.pure rfl
def spnV (r : Spn × Int) : AV := .tuple [.agg (encS r.1), vi r.2]
theorem find_idx {α : Type} (q : α → Bool) (l : List α) : (l.find? q = none ∧ idxInt l.length (l.findIdx q) = -1) ∨ ∃ h : l.findIdx q < l.length, l.find? q = some l[l.findIdx q] ∧ idxInt l.length (l.findIdx q) = ((l.findIdx q : Nat) : Int) := by
  by_cases h : l.findIdx q < l.length
  · refine .inr ⟨h, ?_, by unfold idxInt; rw [if_pos h]⟩; rw [List.find?_eq_some_iff_getElem]; refine ⟨List.findIdx_getElem, l.findIdx q, h, rfl, fun j hj => ?_⟩; have := List.not_of_lt_findIdx hj; simpa using this
  refine .inl ⟨?_, by unfold idxInt; rw [if_neg h]⟩; rw [List.find?_eq_none]; intro x hx hq; exact h (List.findIdx_lt_length_of_exists ⟨x, hx, hq⟩)
theorem when_ok {c : Book} (hc : BkS c) (id : Int) : Pu Tryz.prog G1 27 [bookV c, vi id] (spnV (whenF c id)) := by
  have hck := hc.check; have hix := idxE_ef 80 [vi id] (fun e => e.id == id) c.entries (fun x _ => when80 id x) hc.el; have hel := hc.el; unfold whenF; by_cases h0 : checkE c = 0
  · rw [if_neg (by simpa using h0)]; rw [h0] at hck; have hok := (check_ok c).1 h0
    rcases find_idx (fun e : Entr => e.id == id) c.entries with ⟨h1, h2⟩ | ⟨hlt, h1, h2⟩
    · rw [h1]; rw [h2] at hix; refine Qf 40 Tryz.func27 rfl rfl ?_
      (conv => whnf); repeat' (first | refine vv2 ?_ | refine vv21 ?_ | refine Qp hck ?_) <;> conv => whnf
      refine CallN.frz 1 _ _ rfl (deepAll rfl) ?_
      repeat' ((conv => whnf); first | refine vv1 ?_ | refine vv21 ?_ | refine vv22 ?_ | refine Qp hix ?_)
      exact Qv
    rw [h1]; rw [h2] at hix; have hch := chain_ok c (c.entries[c.entries.findIdx fun e => e.id == id]).key hc.el; have hw := when_pu (chn_cb hok (c.entries[c.entries.findIdx fun e => e.id == id]).key) (chn_kinds hok _) c.keys c.entries id
    have hep : earlyP (chnOf c (c.entries[c.entries.findIdx fun e => e.id == id]).key) = (earlyS (chnOf c (c.entries[c.entries.findIdx fun e => e.id == id]).key)).map fun g => (g.1, timeOf tid (earlyS (chnOf c (c.entries[c.entries.findIdx fun e => e.id == id]).key)) g.1) := rfl
    simp only; rw [← hep]; generalize hi : c.entries.findIdx (fun e => e.id == id) = i at *; generalize whenL (chnOf c (c.entries[i]).key) id (earlyP (chnOf c (c.entries[i]).key)) = w at *; unfold whenV at hw; by_cases hwh : 0 ≤ w.hi
    · rw [if_pos hwh]; rw [decide_eq_true hwh] at hw; refine Qc 40 Tryz.func27 rfl rfl ?_; refine Qs ?_
      (conv => whnf)
      refine CodeN.re ((Reabs.frz 1 _ _ rfl (deepAll rfl)).trans (Reabs.frz 0 _ _ rfl (deepAll rfl))) ?_; refine Qe ?_
      repeat' ((conv => whnf); first | refine SlIdxN.map i rfl hlt ?_ | refine vv2 ?_ | refine vv21 ?_ | refine vv22 ?_ | refine vv25 ?_ | refine Qd ?_ | refine Qp hck ?_ | refine Qp hix ?_ | refine Qg hch ?_ | refine Qg hw ?_)
      exact Qv
    rw [if_neg hwh]; rw [decide_eq_false hwh] at hw; refine Qc 40 Tryz.func27 rfl rfl ?_; refine Qs ?_
    (conv => whnf)
    refine CodeN.re ((Reabs.frz 1 _ _ rfl (deepAll rfl)).trans (Reabs.frz 0 _ _ rfl (deepAll rfl))) ?_; refine Qe ?_
    repeat' ((conv => whnf); first | refine SlIdxN.map i rfl hlt ?_ | refine vv1 ?_ | refine vv2 ?_ | refine vv21 ?_ | refine vv22 ?_ | refine vv25 ?_ | refine Qd ?_ | refine Qp hck ?_ | refine Qp hix ?_ | refine Qg hch ?_ | refine Qg hw ?_)
    exact Qv
  rw [if_pos h0]; refine Qf 40 Tryz.func27 rfl rfl ?_
  repeat' ((conv => whnf); first | refine vv6 ?_ | refine vv21 ?_ | refine vv22 ?_ | refine Qp hck ?_)
  exact Qv
end
section
def intV (r : Int × Int) : AV := .tuple [vi r.1, vi r.2]
theorem gaps_ok {c : Book} (h : c.ok) {n : Int} (h0 : 0 ≤ n ∧ n ≤ 3) : Book.ok { c with gaps := n } := ⟨h0, h.lens, h.pers, h.incp, h.keys, h.inck, h.entr, h.nd, h.few⟩
abbrev ndF (c : Book) (key : Int) (n : Int) : Bool := foundS (chnOf { c with gaps := n } key) []
theorem need_some {f : Int → Bool} {k : Nat} (hk : k < 4) (h : ∀ j : Nat, j < k → f j = false) (ht : f k = true) : ([0, 1, 2, 3] : List Int).find? f = some (k : Int) := by
  match k, hk, h, ht with
  | 0, _, _, ht => simp only [List.find?]; rw [show f 0 = true from ht]; rfl
  | 1, _, h, ht => simp only [List.find?]; rw [show f 0 = false from h 0 (by omega), show f 1 = true from ht]; rfl
  | 2, _, h, ht => simp only [List.find?]; rw [show f 0 = false from h 0 (by omega), show f 1 = false from h 1 (by omega), show f 2 = true from ht]; rfl
  | 3, _, h, ht => simp only [List.find?]; rw [show f 0 = false from h 0 (by omega), show f 1 = false from h 1 (by omega), show f 2 = false from h 2 (by omega), show f 3 = true from ht]; rfl
theorem need_none {f : Int → Bool} (h : ∀ j : Nat, j < 4 → f j = false) : ([0, 1, 2, 3] : List Int).find? f = none := by
  simp only [List.find?]; rw [show f 0 = false from h 0 (by omega), show f 1 = false from h 1 (by omega), show f 2 = false from h 2 (by omega), show f 3 = false from h 3 (by omega)]
theorem needed_ok {c : Book} (hc : BkS c) (key : Int) : Pu Tryz.prog G1 28 [bookV c, vi key] (intV (neededF c key)) := by
  have hask := hc.asked key; unfold neededF; by_cases h0 : askedE c key = 0
  · rw [if_neg (by simpa using h0)]; rw [h0] at hask; obtain ⟨hok, hkey⟩ := asked_0 h0; refine Pu.of_fin (Ef.of_ev (T := Tryz.tab) (n := 31) (tryd_okm 0 _) rfl Tryz.func28 rfl rfl (by simp) ?_) rfl (by split <;> rfl)
    (conv => whnf); repeat' (first | refine vv2 ?_ | refine vv21 ?_ | refine Qp hask ?_) <;> conv => whnf
    refine LoopN.of2 (tryd_okm 0 _) (fun (k : Nat) (g : Int) => [(1, vi key), (2, .pm 0 0 0), (16, vi k)]) (fun k g => [.rows [bookC { c with gaps := g }] 26]) (fun k g => 4 - k) (fun k g => k ≤ 4 ∧ ∀ j : Nat, j < k → ndF c key j = false) 0 c.gaps ⟨by omega, fun j hj => by omega⟩ (QM [0]) ?_; rintro k g ⟨hk, hall⟩; by_cases hlt : k < 4
    · have hok2 := gaps_ok hok (n := (k : Int)) (by omega); have hch := chain_ok { c with gaps := (k : Int) } key hc.el; have hsn := search_nil (chn_cb hok2 key) (chn_kinds hok2 key) c.keys c.entries
      cases hf : ndF c key k with
      | false =>
        rw [searchV_none hf] at hsn
        repeat' ((conv => whnf); first | refine vv2 ?_ | refine vv7 ?_ | refine vv20 ?_ | refine vv21 ?_ | refine vv22 ?_ | refine Qp hch ?_ | refine Qp hsn ?_)
        refine BackN2.mk (k + 1) k ⟨by omega, fun j hj => ?_⟩ (by omega) (QM [0]); by_cases hq : j = k
        subst hq; exact hf; exact hall j (by omega)
      | true =>
        obtain ⟨l0, hl0⟩ := searchV_some hf; rw [hl0] at hsn; rw [need_some hlt hall hf]
        repeat' ((conv => whnf); first | refine vv1 ?_ | refine vv7 ?_ | refine vv21 ?_ | refine vv22 ?_ | refine Qp hch ?_ | refine Qp hsn ?_)
        exact Qv
    obtain rfl : k = 4 := by omega
    rw [need_none hall]
    repeat' ((conv => whnf); first | refine vv2 ?_)
    exact Qv
  rw [if_pos h0]; refine Qf 31 Tryz.func28 rfl rfl ?_
  repeat' ((conv => whnf); first | refine vv6 ?_ | refine vv21 ?_ | refine Qp hask ?_)
  exact Qv
end
end Go.Proofs.Ax
