import Derived.Test.YtdfgphfijfocoaaGreatDoorNtA
import Derived.Test.YtdfgphfijfocoaaGreatDoorAxH
import Derived.Test.YtdfgphfijfocoaaGreatDoorRbVW
namespace Go.Proofs.Ax
open Go Go.Proofs
set_option maxRecDepth 10000
set_option maxHeartbeats 4000000
theorem ok_purse (a b : Int) (m : Nat) : ∀ x ∈ [ABlk.rows [[vi a, vi b]] 157], x.ok m := by
  intro x hx
  rw [List.mem_singleton.1 hx]
  intro row hr y hy
  rw [List.mem_singleton.1 hr] at hy
  simp only [List.mem_cons, List.not_mem_nil, or_false] at hy
  rcases hy with rfl | rfl <;> rfl
def onesTo (n k : Nat) : List Int := (List.range n).map fun j => if j < k then 1 else 0
theorem onesTo_set (n k : Nat) : (onesTo n k).set k 1 = onesTo n (k + 1) := by
  refine List.ext_getElem (by simp [onesTo]) fun j h1 h2 => ?_
  rw [List.getElem_set]
  simp only [onesTo, List.getElem_map, List.getElem_range]
  by_cases h : k = j
  · subst h; simp
  · rw [if_neg h]
    by_cases h' : j < k
    · rw [if_pos h', if_pos (by omega)]
    · rw [if_neg h', if_neg (by omega)]
theorem onesTo_all (n : Nat) : onesTo n n = List.replicate n 1 := by
  refine List.ext_getElem (by simp [onesTo]) fun j h1 h2 => ?_
  simp only [onesTo, List.getElem_map, List.getElem_range, List.getElem_replicate]
  rw [if_pos (by simpa [onesTo] using h1)]
theorem onesTo_0 (n : Nat) : onesTo n 0 = List.replicate n 0 := by
  refine List.ext_getElem (by simp [onesTo]) fun j h1 h2 => ?_
  simp [onesTo]
theorem round_doubt {p : Policy} {r : Round} {cr ch : Int} (hp : p.ok) (hr : r.ok) (h1 : 0 ≤ cr ∧ cr ≤ p.cap) (h2 : 0 ≤ ch ∧ ch ≤ p.cap) (hk : r.kind ≠ 1) :
    Ef Tryz.prog G1 105 [.pm 0 0 0, .agg p.enc, .agg r.enc] [.rows [[vi cr, vi ch]] 157] fun y H' => y = postings false (roundL p r cr ch) ∧ H' = [.rows [[vi (crOf p r cr), vi (chOf p r ch)]] 157] := by
  refine Ef.fin ?_
  refine Ef.of_ev (T := Tryz.tab) (n := 131) (tryd_okm 1 _) rfl Tryz.func105 rfl rfl (by simp) ?_
  have hd := doubtAmt_bd hp r h2
  unfold Policy.ok at hp
  have ecr : crOf p r cr = cr := by simp [crOf, hk]
  have ech : chOf p r ch = ch + doubtAmt p r ch := by simp [chOf, hk]
  rw [ecr, ech]
  ((conv => whnf); repeat' ((first | refine vv6 ?_ | refine vv11 (fun hbr => ?_) (fun hbr => ?_) | refine vv20 ?_ | refine vv21 ?_ | refine vv22 ?_ | refine vv25 ?_ | refine DrawN.gen (by first | exact tryd_ok _ | exact tryd_okm _ _) (by kernel_rfl) ?_) <;> (conv => whnf)))
  case refine_1.refine_1 =>
    have e : doubtAmt p r ch = min p.charge (p.cap - ch) := by simp [doubtAmt, *]
    have e2 : roundL p r cr ch = [] := by rw [roundL, if_neg hk, if_pos (by omega)]
    rw [e, e2]
    exact ⟨.nil 5 false (.done _ _ _ (by simp) rfl (ok_purse _ _ _) rfl)⟩
  case refine_1.refine_2 =>
    have e : doubtAmt p r ch = min p.charge (p.cap - ch) := by simp [doubtAmt, *]
    have e2 : roundL p r cr ch = [⟨r.night, r.no, -1, -2, doubtAmt p r ch⟩] := by rw [roundL, if_neg hk, if_neg (by omega)]
    rw [e2, e]
    exact ⟨.loose 5 _ (.done _ _ _ (by simp) rfl (ok_purse _ _ _) rfl)⟩
  case refine_2.refine_1 =>
    have e : doubtAmt p r ch = min p.doubt (p.cap - ch) := by simp [doubtAmt, *]
    have e2 : roundL p r cr ch = [] := by rw [roundL, if_neg hk, if_pos (by omega)]
    rw [e, e2]
    exact ⟨.nil 5 false (.done _ _ _ (by simp) rfl (ok_purse _ _ _) rfl)⟩
  case refine_2.refine_2 =>
    have e : doubtAmt p r ch = min p.doubt (p.cap - ch) := by simp [doubtAmt, *]
    have e2 : roundL p r cr ch = [⟨r.night, r.no, -1, -2, doubtAmt p r ch⟩] := by rw [roundL, if_neg hk, if_neg (by omega)]
    rw [e2, e]
    exact ⟨.loose 5 _ (.done _ _ _ (by simp) rfl (ok_purse _ _ _) rfl)⟩
theorem round_cert {p : Policy} {r : Round} {cr ch : Int} (hp : p.ok) (hr : r.ok) (h1 : 0 ≤ cr ∧ cr ≤ p.cap) (h2 : 0 ≤ ch ∧ ch ≤ p.cap) (hk : r.kind = 1) :
    Ef Tryz.prog G1 105 [.pm 0 0 0, .agg p.enc, .agg r.enc] [.rows [[vi cr, vi ch]] 157] fun y H' => y = postings false (roundL p r cr ch) ∧ H' = [.rows [[vi (crOf p r cr), vi (chOf p r ch)]] 157] := by
  refine Ef.fin ?_
  refine Ef.of_ev (T := Tryz.tab) (n := 131) (tryd_okm 1 _) rfl Tryz.func105 rfl rfl (by simp) ?_
  have hd := certAmt_bd hp h1
  obtain ⟨b1, b2, b3, b4⟩ := bonus_amt hp ⟨hd.1, hd.2.1⟩
  have hdv := onesOk hr b1 b2
  obtain ⟨l1, l2⟩ := bonus_parts hr b1 b2
  have hr' := hr
  unfold Round.ok at hr'
  obtain ⟨-, -, -, hcl, -⟩ := hr'
  unfold Policy.ok at hp
  have ecr : crOf p r cr = cr + certAmt p cr := by simp [crOf, hk]
  have ech : chOf p r ch = ch := by simp [chOf, hk]
  rw [ecr, ech]
  have e : certAmt p cr = min p.credit (p.cap - cr) := rfl
  by_cases h0 : certAmt p cr = 0
  · have e2 : roundL p r cr ch = [] := by rw [roundL, if_pos hk, if_pos h0]
    rw [e2]
    rw [e] at h0 hd ⊢
    ((conv => whnf); repeat' ((first | refine vv3 ?_ | refine vv5 ?_ | refine vv20 ?_ | refine vv21 ?_ | refine vv22 ?_ | refine vv25 ?_ | refine DrawN.gen (by first | exact tryd_ok _ | exact tryd_okm _ _) (by kernel_rfl) ?_) <;> (conv => whnf)))
    exact ⟨.nil 5 false (.done _ _ _ (by simp) rfl (ok_purse _ _ _) rfl)⟩
  have e2 : roundL p r cr ch = ⟨r.night, r.no, -2, -1, certAmt p cr⟩ :: bonusTo r (divided (certAmt p cr * p.bonus / 1000) (onesOf r)) r.crew.length := by rw [roundL, if_pos hk, if_neg h0, bonusL]
  rw [e2]
  have hq : (certAmt p cr * p.bonus).tdiv 1000 = certAmt p cr * p.bonus / 1000 := Int.tdiv_eq_ediv_of_nonneg b3
  rw [e] at b1 b2 b3 b4 hdv l1 l2 h0 hd hq ⊢
  ((conv => whnf); repeat' ((first | refine vv4 ?_ | refine vv5 ?_ | refine vv20 ?_ | refine vv21 ?_ | refine vv22 ?_ | refine vv23 ?_ | refine vv25 ?_ | refine DrawN.gen (by first | exact tryd_ok _ | exact tryd_okm _ _) (by kernel_rfl) ?_ | refine vv29 ?_) <;> (conv => whnf)))
  refine LoopN.of (tryd_okm 1 _) (fun (k : Nat) => [(4, .pm 1 0 0), (5, .pm 2 0 0), (7, .pm 3 0 0), (8, .sl 5 true [Posting.enc ⟨r.night, r.no, -2, -1, min p.credit (p.cap - cr)⟩]), (9, .sm 4 1 0 r.crew.length), (91, vi r.crew.length), (92, vi k)])
    (fun k => [.rows [[vi (cr + min p.credit (p.cap - cr)), vi ch]] 157, .rows [p.enc] 105, .rows [r.enc] 87, .rows [Posting.enc ⟨r.night, r.no, -2, -1, min p.credit (p.cap - cr)⟩] 61, .rows ((onesTo r.crew.length k).map intRow) 3]) (fun k => r.crew.length - k) (fun k => k ≤ r.crew.length) 0 (Nat.zero_le _)
    (Reabs.frmM [0, 1, 2, 3, 4] (by repeat (first | exact trivial | refine ⟨.inr ⟨rfl, rfl⟩, ?_⟩ | refine ⟨.inr ⟨rfl, vi_eq (by first | omega | (simp; done) | (simp; omega))⟩, ?_⟩ | refine ⟨.inr ⟨rfl, smE rfl (by first | omega | (simp; done) | (simp; omega))⟩, ?_⟩)) ⟨⟨_, rfl, blkDeep rfl (deepLit rfl), fun _ => rfl⟩, ⟨_, rfl, blkDeep rfl (deepLit rfl), fun _ => rfl⟩, ⟨_, rfl, blkDeep rfl (deepLit rfl), fun _ => rfl⟩, ⟨_, rfl, blkDeep rfl (deepLit rfl), fun _ => rfl⟩, ⟨_, rfl, blkDeep (by rw [onesTo_0]; simp [intRow]) (deepMap (fun _ => rfl)), fun _ => rfl⟩, trivial⟩ rfl rfl) ?_
  intro k hkl
  have hol : (onesTo r.crew.length k).length = r.crew.length := by simp [onesTo]
  by_cases hlt : k < r.crew.length
  · ((conv => whnf); repeat' ((first | refine RowSN.setI (by first | assumption | omega | (simp; done) | (simp; omega)) ?_ | refine IntN.mk _ rfl ?_ | refine vv7 ?_ | refine vv20 ?_ | refine IdxN.at0 _ rfl (by first | assumption | omega | (simp <;> omega)) ?_) <;> (conv => whnf)))
    refine BackN.mk (k + 1) (by omega) (by omega) (Reabs.frmM [0, 1, 2, 3, 4] (by repeat (first | exact trivial | refine ⟨.inr ⟨rfl, rfl⟩, ?_⟩ | refine ⟨.inr ⟨rfl, vi_eq (by first | omega | (simp; done) | (simp; omega))⟩, ?_⟩ | refine ⟨.inr ⟨rfl, smE rfl (by first | omega | (simp; done) | (simp; omega))⟩, ?_⟩)) ⟨⟨_, rfl, blkDeep rfl (deepLit rfl), fun _ => rfl⟩, ⟨_, rfl, blkDeep rfl (deepLit rfl), fun _ => rfl⟩, ⟨_, rfl, blkDeep rfl (deepLit rfl), fun _ => rfl⟩, ⟨_, rfl, blkDeep rfl (deepLit rfl), fun _ => rfl⟩, ⟨_, rfl, blkDeep (by rw [← onesTo_set, List.map_set]) (deepMap (fun _ => rfl)), fun _ => rfl⟩, trivial⟩ rfl rfl)
  obtain rfl : k = r.crew.length := by omega
  rw [onesTo_all]
  ((conv => whnf); repeat' ((first | refine WrapN.inI (a := min p.credit (p.cap - cr) * p.bonus) ⟨by omega, by omega⟩ ?_ | refine vv8 ?_ | refine vv20 ?_ | refine vv21 ?_ | refine Need.mk (by first | assumption | omega | (simp <;> omega)) ?_) <;> (conv => whnf)))
  refine CallN.frz 4 _ 3 rfl (deepR (fun _ => rfl)) ?_
  show CallN _ _ [vi ((min p.credit (p.cap - cr) * p.bonus).tdiv 1000), (AV.sm 4 1 0 r.crew.length).frz0 4 _] _ _
  rw [frz_all (by simp), hq]
  refine CallN.pure (divide_ok _ false (onesOf r) hdv) ?_
  ((conv => whnf); repeat' ((first | refine vv23 ?_) <;> (conv => whnf)))
  generalize divided (min p.credit (p.cap - cr) * p.bonus / 1000) (onesOf r) = L at *
  generalize (⟨r.night, r.no, -2, -1, min p.credit (p.cap - cr)⟩ : Posting) = x at *
  refine LoopN.of3 (tryd_okm 1 _) (fun (k : Nat) (b : Bool) (o : List Posting) => [(5, .pm 1 0 0), (8, match b with | true => .sm 2 5 0 o.length | false => .sl 5 true [x.enc]), (106, ints false L), (107, vi L.length), (108, vi k)])
    (fun k b o => [.rows [[vi (cr + min p.credit (p.cap - cr)), vi ch]] 157, .rows [r.enc] 87] ++ (match b with | true => [.rows (o.map Posting.enc) 61] | false => [])) (fun k b o => L.length - k) (fun k b o => k ≤ L.length ∧ o = x :: bonusTo r L k ∧ (b = false → o = [x])) 0 false [x] ⟨Nat.zero_le _, by simp [bonusTo], fun _ => rfl⟩
    (Reabs.frmM [0, 2] (by repeat (first | exact trivial | refine ⟨.inr ⟨rfl, rfl⟩, ?_⟩ | refine ⟨.inr ⟨rfl, vi_eq (by first | omega | (simp; done) | (simp; omega))⟩, ?_⟩ | refine ⟨.inr ⟨rfl, smE rfl (by first | omega | (simp; done) | (simp; omega))⟩, ?_⟩)) (by repeat (first | exact trivial | refine ⟨⟨_, rfl, (by first | exact blkDead | exact blkDeep rfl (deepLit rfl) | exact blkDeep rfl (deepMap (fun _ => rfl)) | exact blkOk rfl rfl | exact blkLoop rfl rfl), (by first | exact fun _ => rfl | exact fun h => (by cases h))⟩, ?_⟩)) rfl rfl) ?_
  rintro k b o ⟨hk, ho, hb⟩
  have hol2 := bonusTo_len r L k
  have hol3 : o.length ≤ 5 := by rw [ho]; simp only [List.length_cons]; omega
  by_cases hlt2 : k < L.length
  · have hcr : k < r.crew.length := by omega
    have hsu := bonusTo_succ r L k
    rw [getD_lt hlt2, List.getD_eq_getElem?_getD, List.getElem?_eq_getElem hcr, Option.getD_some] at hsu
    by_cases hpos : 0 < L[k]
    · rw [if_pos hpos] at hsu
      cases b with
      | true =>
        ((conv => whnf); repeat' ((first | refine vv3 ?_ | refine vv7 ?_ | refine vv20 ?_ | refine SlIdxN.map _ rfl (by first | assumption | omega) ?_ | refine vv21 ?_ | refine vv25 ?_ | refine DrawN.gen (by first | exact tryd_ok _ | exact tryd_okm _ _) (by kernel_rfl) ?_ | refine vv31 ?_ | refine vv33 ?_) <;> (conv => whnf)))
        exact BackN3.mk (k + 1) true (o ++ [⟨r.night, r.no, -1, r.crew[k], L[k]⟩]) ⟨by omega, by rw [ho, hsu]; rfl, fun h => by cases h⟩ (by omega)
          (Reabs.frmM [0, 1, 3] (by repeat (first | exact trivial | refine ⟨.inr ⟨rfl, rfl⟩, ?_⟩ | refine ⟨.inr ⟨rfl, vi_eq (by first | omega | (simp; done) | (simp; omega))⟩, ?_⟩ | refine ⟨.inr ⟨rfl, smE rfl (by first | omega | (simp; done) | (simp; omega))⟩, ?_⟩)) (by exact ⟨⟨_, rfl, blkDeep rfl (deepLit rfl), fun _ => rfl⟩, ⟨_, rfl, blkDeep rfl (deepLit rfl), fun _ => rfl⟩, ⟨_, rfl, blkDeep (by rw [List.map_append]; rfl) (deepMap (fun _ => rfl)), fun _ => rfl⟩, trivial⟩) rfl rfl)
      | false =>
        obtain rfl : o = [x] := hb rfl
        ((conv => whnf); repeat' ((first | refine AppN.raw 2 rfl (by decide) (by decide) ?_ | refine vv3 ?_ | refine vv7 ?_ | refine vv20 ?_ | refine SlIdxN.map _ rfl (by first | assumption | omega) ?_ | refine vv21 ?_ | refine vv25 ?_ | refine Need.mk (by first | assumption | omega | (simp <;> omega)) ?_ | refine DrawN.gen (by first | exact tryd_ok _ | exact tryd_okm _ _) (by kernel_rfl) ?_) <;> (conv => whnf)))
        exact BackN3.mk (k + 1) true ([x] ++ [⟨r.night, r.no, -1, r.crew[k], L[k]⟩]) ⟨by omega, by rw [ho, hsu]; rfl, fun h => by cases h⟩ (by omega) (Reabs.frmM [0, 1, 2] (by repeat (first | exact trivial | refine ⟨.inr ⟨rfl, rfl⟩, ?_⟩ | refine ⟨.inr ⟨rfl, vi_eq (by first | omega | (simp; done) | (simp; omega))⟩, ?_⟩ | refine ⟨.inr ⟨rfl, smE rfl (by first | omega | (simp; done) | (simp; omega))⟩, ?_⟩)) (by repeat (first | exact trivial | refine ⟨⟨_, rfl, (by first | exact blkDead | exact blkDeep rfl (deepLit rfl) | exact blkDeep rfl (deepMap (fun _ => rfl)) | exact blkOk rfl rfl | exact blkLoop rfl rfl), (by first | exact fun _ => rfl | exact fun h => (by cases h))⟩, ?_⟩)) rfl rfl)
    · rw [if_neg hpos, List.append_nil] at hsu
      cases b with
      | true =>
        ((conv => whnf); repeat' ((first | refine vv4 ?_ | refine vv7 ?_ | refine vv20 ?_ | refine SlIdxN.map _ rfl (by first | assumption | omega) ?_) <;> (conv => whnf)))
        exact BackN3.mk (k + 1) true o ⟨by omega, by rw [ho, hsu], hb⟩ (by omega) (Reabs.frmM [0, 1, 2] (by repeat (first | exact trivial | refine ⟨.inr ⟨rfl, rfl⟩, ?_⟩ | refine ⟨.inr ⟨rfl, vi_eq (by first | omega | (simp; done) | (simp; omega))⟩, ?_⟩ | refine ⟨.inr ⟨rfl, smE rfl (by first | omega | (simp; done) | (simp; omega))⟩, ?_⟩)) (by repeat (first | exact trivial | refine ⟨⟨_, rfl, (by first | exact blkDead | exact blkDeep rfl (deepLit rfl) | exact blkDeep rfl (deepMap (fun _ => rfl)) | exact blkOk rfl rfl | exact blkLoop rfl rfl), (by first | exact fun _ => rfl | exact fun h => (by cases h))⟩, ?_⟩)) rfl rfl)
      | false =>
        ((conv => whnf); repeat' ((first | refine vv4 ?_ | refine vv7 ?_ | refine vv20 ?_ | refine SlIdxN.map _ rfl (by first | assumption | omega) ?_) <;> (conv => whnf)))
        exact BackN3.mk (k + 1) false o ⟨by omega, by rw [ho, hsu], hb⟩ (by omega) (Reabs.frmM [0, 1] (by repeat (first | exact trivial | refine ⟨.inr ⟨rfl, rfl⟩, ?_⟩ | refine ⟨.inr ⟨rfl, vi_eq (by first | omega | (simp; done) | (simp; omega))⟩, ?_⟩ | refine ⟨.inr ⟨rfl, smE rfl (by first | omega | (simp; done) | (simp; omega))⟩, ?_⟩)) (by repeat (first | exact trivial | refine ⟨⟨_, rfl, (by first | exact blkDead | exact blkDeep rfl (deepLit rfl) | exact blkDeep rfl (deepMap (fun _ => rfl)) | exact blkOk rfl rfl | exact blkLoop rfl rfl), (by first | exact fun _ => rfl | exact fun h => (by cases h))⟩, ?_⟩)) rfl rfl)
  · obtain rfl : k = L.length := by omega
    rw [l1] at ho
    rw [← ho]
    cases b with
    | true =>
      ((conv => whnf); repeat' ((first | refine vv8 ?_) <;> (conv => whnf)))
      refine ⟨.step 2 _ 61 rfl (deepR (fun _ => rfl)) ?_⟩
      show FinTo _ _ ((AV.sm 2 5 0 o.length).frz0 2 _) _ _
      rw [frz_all (by simp)]
      exact .done _ _ _ (by simp [frzH]) rfl (ok_purse _ _ _) rfl
    | false =>
      obtain rfl : o = [x] := hb rfl
      ((conv => whnf); repeat' ((first | refine vv8 ?_) <;> (conv => whnf)))
      exact ⟨.loose 5 _ (.done _ _ _ (by simp) rfl (ok_purse _ _ _) rfl)⟩
theorem round_ok {p : Policy} {r : Round} {cr ch : Int} (hp : p.ok) (hr : r.ok) (h1 : 0 ≤ cr ∧ cr ≤ p.cap) (h2 : 0 ≤ ch ∧ ch ≤ p.cap) :
    Ef Tryz.prog G1 105 [.pm 0 0 0, .agg p.enc, .agg r.enc] [.rows [[vi cr, vi ch]] 157] fun y H' => y = postings false (roundL p r cr ch) ∧ H' = [.rows [[vi (crOf p r cr), vi (chOf p r ch)]] 157] := by
  by_cases hk : r.kind = 1
  · exact round_cert hp hr h1 h2 hk
  · exact round_doubt hp hr h1 h2 hk
end Go.Proofs.Ax
