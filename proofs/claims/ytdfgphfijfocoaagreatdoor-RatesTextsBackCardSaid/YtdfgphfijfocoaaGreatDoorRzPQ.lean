import Derived.Test.YtdfgphfijfocoaaGreatDoorRzDif
import Derived.Test.YtdfgphfijfocoaaGreatDoorRbQ
import Derived.Test.YtdfgphfijfocoaaGreatDoorAxN
namespace Go.Proofs.Ax
open Go Go.Proofs
set_option maxRecDepth 10000
set_option maxHeartbeats 4000000
/-- The digits of a number. -/
def ntx (n : Int) : ByteArray := ⟨(Lib.itoa n).toArray⟩
abbrev vs (b : ByteArray) : AV := .sc (.string b)
theorem WrapN.inB {a : Int} {k : Int → Prop} (h : 0 ≤ a ∧ a < 256) (hk : k a) : WrapN .u8 a k := ⟨a, by
  show a % (2 ^ 8) = a
  omega, hk⟩
theorem decDigits_len : ∀ (f n : Nat), n < 10 ^ f → 0 < f → (Lib.decDigits n).length ≤ f
  | 0, n, h, h0 => absurd h0 (Nat.lt_irrefl _)
  | f + 1, n, h, _ => by
    rw [Lib.decDigits]
    by_cases hn : n < 10
    · rw [dif_pos hn]; simp
    · rw [dif_neg hn]
      have hf : 0 < f := by
        rcases Nat.eq_zero_or_pos f with rfl | hf
        · simp at h; omega
        · exact hf
      have := decDigits_len f (n / 10) (by rw [Nat.pow_succ] at h; omega) hf
      simp; omega
theorem ntx_size {n : Int} (h : -9223372036854775808 ≤ n ∧ n ≤ 9223372036854775807) : (ntx n).size ≤ 20 := by
  unfold ntx Lib.itoa
  split
  · have := decDigits_len 19 n.natAbs (by omega) (by decide)
    show (_ : List UInt8).toArray.size ≤ 20
    simp; omega
  · have := decDigits_len 19 n.toNat (by omega) (by decide)
    show (_ : List UInt8).toArray.size ≤ 20
    simp; omega
theorem digit_eq (n : Nat) : strOfNums [48 + ((n % 10 : Nat) : Int)] = ⟨#[UInt8.ofNat (48 + n % 10)]⟩ := by
  unfold strOfNums
  rw [List.map_singleton, show (48 + ((n % 10 : Nat) : Int)).toNat = 48 + n % 10 by omega]
theorem itoa_nat (n : Nat) : Lib.itoa (n : Int) = Lib.decDigits n := by unfold Lib.itoa; rw [if_neg (by omega)]; simp
theorem ba_append (a b : List UInt8) : (⟨a.toArray⟩ : ByteArray) ++ (⟨b.toArray⟩ : ByteArray) = ⟨(a ++ b).toArray⟩ := by
  apply ByteArray.ext
  rw [ByteArray.data_append]
  simp
theorem ntx_step (n : Nat) (h : 9 < n) : ntx ((n / 10 : Nat) : Int) ++ strOfNums [48 + ((n % 10 : Nat) : Int)] = ntx (n : Int) := by
  unfold ntx
  rw [digit_eq, itoa_nat, itoa_nat, Lib.decDigits.eq_def n, dif_neg (by omega)]
  exact ba_append _ [_]
theorem ntx_one (n : Nat) (h : ¬ 9 < n) : strOfNums [48 + ((n % 10 : Nat) : Int)] = ntx (n : Int) := by
  unfold ntx
  rw [digit_eq, itoa_nat, Lib.decDigits.eq_def n, dif_pos (by omega), Nat.mod_eq_of_lt (by omega)]
theorem decimal_nat : ∀ (f n : Nat), n < f → n ≤ 9223372036854775807 → Pu Tryz.prog G1 116 [vi n] (vs (ntx n)) := by
  intro f
  induction f with
  | zero => intro n h; omega
  | succ f ih =>
    intro n hf hn
    have ht : ((n : Int)).tmod 10 = ((n % 10 : Nat) : Int) := by rw [Int.tmod_eq_emod_of_nonneg (by omega)]; omega
    have hd : ((n : Int)).tdiv 10 = ((n / 10 : Nat) : Int) := by rw [Int.tdiv_eq_ediv_of_nonneg (by omega)]; omega
    have hn1 : 9 < n → Pu Tryz.prog G1 116 [vi (((n : Int)).tdiv 10)] (vs (ntx (n / 10 : Nat))) := fun _ => by rw [hd]; exact ih (n / 10) (by omega) (by omega)
    have hs1 := ntx_size (n := ((n / 10 : Nat) : Int)) ⟨by omega, by omega⟩
    have hs2 : (strOfNums [48 + (n : Int).tmod 10]).size = 1 := rfl
    refine Pu.of_ef (Ef.of_code (T := Tryz.tab) (n := 24) (tryd_okm 0 _) rfl Tryz.func116 rfl rfl (by simp) ?_) (fun y H h => h) rfl rfl
    refine CodeN.seqE (tryd_okm 0 _) ?_; ((conv => whnf); repeat' ((first | refine RowN.row2 (by first | omega | (show _ = _ + 1; omega)) ?_ | refine RowN.row1 (by first | omega | (show _ = _ + 1; omega)) ?_ | refine RowN.rowB (by first | omega | (show _ = _ + 1; omega)) ?_ | refine RowSN.row2 (by first | omega | (show _ = _ + 1; omega)) ?_ | refine RowSN.row1 (by first | omega | (show _ = _ + 1; omega)) ?_ | refine RowSN.rowB (by first | omega | (show _ = _ + 1; omega)) ?_ | refine IxN.mk _ rfl ?_ | refine shr_ok rfl rfl ?_ | refine WrapN.inU ⟨by omega, by omega⟩ ?_ | refine vv1 ?_ | refine vv2 ?_ | refine vv3 ?_ | refine vv4 ?_ | refine vv5 ?_ | refine vv6 ?_ | refine vv7 ?_ | refine vv8 ?_ | refine vv9 ?_ | refine vv10 ?_ | refine vv11 (fun hbr => ?_) (fun hbr => ?_) | refine vv12 (fun hbr => ?_) (fun hbr => ?_) | refine vv13 ?_ | refine vv14 ?_ | refine vv15 ?_ | refine vv16 ?_ | refine vv17 (fun hbr => ?_) (fun hbr => ?_) | refine vv18 ?_ | refine vv19 (fun hbr => ?_) (fun hbr => ?_) | refine vv20 ?_ | refine SlIdxN.map _ rfl (by first | assumption | omega) ?_ | refine SlIdxN.mapPred (by omega) (by omega) ?_ | refine SlIdxN.mapSucc (by omega) ?_ | refine SlIdxN.lit _ _ rfl rfl ?_ | refine SlIdxN.mapInt (by omega) (by omega) ?_ | refine IdxN.at0 _ rfl (by first | assumption | omega | (simp <;> omega)) ?_ | refine vv21 ?_ | refine RowN.map (by first | assumption | omega) ?_ | refine vv22 ?_ | refine RowSN.map (by first | assumption | omega) ?_ | refine vv23 ?_ | refine vv24 ?_ | refine vv25 ?_ | refine Need.mk (by first | assumption | omega | (simp <;> omega)) ?_ | refine DrawN.gen (by first | exact tryd_ok _ | exact tryd_okm _ _) (by kernel_rfl) ?_ | refine vv26 ?_ | refine vv27 ?_ | refine vv28 ?_ | refine vv29 ?_ | refine vv30 ?_ | refine vv31 ?_ | refine vv32 ?_ | refine vv33 ?_) <;> (conv => whnf)))
    refine CodeN.seqE (tryd_okm 0 _) ?_; ((conv => whnf); repeat' ((first | refine RowN.row2 (by first | omega | (show _ = _ + 1; omega)) ?_ | refine RowN.row1 (by first | omega | (show _ = _ + 1; omega)) ?_ | refine RowN.rowB (by first | omega | (show _ = _ + 1; omega)) ?_ | refine RowSN.row2 (by first | omega | (show _ = _ + 1; omega)) ?_ | refine RowSN.row1 (by first | omega | (show _ = _ + 1; omega)) ?_ | refine RowSN.rowB (by first | omega | (show _ = _ + 1; omega)) ?_ | refine IxN.mk _ rfl ?_ | refine shr_ok rfl rfl ?_ | refine WrapN.inU ⟨by omega, by omega⟩ ?_ | refine vv1 ?_ | refine vv2 ?_ | refine vv3 ?_ | refine vv4 ?_ | refine vv5 ?_ | refine vv6 ?_ | refine vv7 ?_ | refine vv8 ?_ | refine vv9 ?_ | refine vv10 ?_ | refine vv11 (fun hbr => ?_) (fun hbr => ?_) | refine vv12 (fun hbr => ?_) (fun hbr => ?_) | refine vv13 ?_ | refine vv14 ?_ | refine vv15 ?_ | refine vv16 ?_ | refine vv17 (fun hbr => ?_) (fun hbr => ?_) | refine vv18 ?_ | refine vv19 (fun hbr => ?_) (fun hbr => ?_) | refine vv20 ?_ | refine SlIdxN.map _ rfl (by first | assumption | omega) ?_ | refine SlIdxN.mapPred (by omega) (by omega) ?_ | refine SlIdxN.mapSucc (by omega) ?_ | refine SlIdxN.lit _ _ rfl rfl ?_ | refine SlIdxN.mapInt (by omega) (by omega) ?_ | refine IdxN.at0 _ rfl (by first | assumption | omega | (simp <;> omega)) ?_ | refine vv21 ?_ | refine RowN.map (by first | assumption | omega) ?_ | refine vv22 ?_ | refine RowSN.map (by first | assumption | omega) ?_ | refine vv23 ?_ | refine vv24 ?_ | refine vv25 ?_ | refine Need.mk (by first | assumption | omega | (simp <;> omega)) ?_ | refine DrawN.gen (by first | exact tryd_ok _ | exact tryd_okm _ _) (by kernel_rfl) ?_ | refine vv26 ?_ | refine vv27 ?_ | refine vv28 ?_ | refine vv29 ?_ | refine vv30 ?_ | refine vv31 ?_ | refine vv32 ?_ | refine vv33 ?_) <;> (conv => whnf)))
    refine CodeN.seqC ?_
    refine CodeN.one (tryd_okm 0 _) 5 rfl ?_
    ((conv => whnf); repeat' ((first | refine WrapN.inB ⟨by omega, by omega⟩ ?_ | refine RowN.row2 (by first | omega | (show _ = _ + 1; omega)) ?_ | refine RowN.row1 (by first | omega | (show _ = _ + 1; omega)) ?_ | refine RowN.rowB (by first | omega | (show _ = _ + 1; omega)) ?_ | refine RowSN.row2 (by first | omega | (show _ = _ + 1; omega)) ?_ | refine RowSN.row1 (by first | omega | (show _ = _ + 1; omega)) ?_ | refine RowSN.rowB (by first | omega | (show _ = _ + 1; omega)) ?_ | refine IxN.mk _ rfl ?_ | refine shr_ok rfl rfl ?_ | refine WrapN.inU ⟨by omega, by omega⟩ ?_ | refine vv1 ?_ | refine vv2 ?_ | refine vv3 ?_ | refine vv4 ?_ | refine vv5 ?_ | refine vv6 ?_ | refine vv7 ?_ | refine vv8 ?_ | refine vv9 ?_ | refine vv10 ?_ | refine vv11 (fun hbr => ?_) (fun hbr => ?_) | refine vv12 (fun hbr => ?_) (fun hbr => ?_) | refine vv13 ?_ | refine vv14 ?_ | refine vv15 ?_ | refine vv16 ?_ | refine vv17 (fun hbr => ?_) (fun hbr => ?_) | refine vv18 ?_ | refine vv19 (fun hbr => ?_) (fun hbr => ?_) | refine vv20 ?_ | refine SlIdxN.map _ rfl (by first | assumption | omega) ?_ | refine SlIdxN.mapPred (by omega) (by omega) ?_ | refine SlIdxN.mapSucc (by omega) ?_ | refine SlIdxN.lit _ _ rfl rfl ?_ | refine SlIdxN.mapInt (by omega) (by omega) ?_ | refine IdxN.at0 _ rfl (by first | assumption | omega | (simp <;> omega)) ?_ | refine vv21 ?_ | refine RowN.map (by first | assumption | omega) ?_ | refine vv22 ?_ | refine RowSN.map (by first | assumption | omega) ?_ | refine vv23 ?_ | refine vv24 ?_ | refine vv25 ?_ | refine Need.mk (by first | assumption | omega | (simp <;> omega)) ?_ | refine DrawN.gen (by first | exact tryd_ok _ | exact tryd_okm _ _) (by kernel_rfl) ?_ | refine vv26 ?_ | refine vv27 ?_ | refine vv28 ?_ | refine vv29 ?_ | refine vv30 ?_ | refine vv31 ?_ | refine vv32 ?_ | refine vv33 ?_) <;> (conv => whnf)))
    refine OpN.bytes (ns := [48 + (n : Int).tmod 10]) Tryz.underlying129 Tryz.underlying5 Tryz.underlying9 (by simp) rfl ?_
    ((conv => whnf); repeat' ((first | refine RowN.row2 (by first | omega | (show _ = _ + 1; omega)) ?_ | refine RowN.row1 (by first | omega | (show _ = _ + 1; omega)) ?_ | refine RowN.rowB (by first | omega | (show _ = _ + 1; omega)) ?_ | refine RowSN.row2 (by first | omega | (show _ = _ + 1; omega)) ?_ | refine RowSN.row1 (by first | omega | (show _ = _ + 1; omega)) ?_ | refine RowSN.rowB (by first | omega | (show _ = _ + 1; omega)) ?_ | refine IxN.mk _ rfl ?_ | refine shr_ok rfl rfl ?_ | refine WrapN.inU ⟨by omega, by omega⟩ ?_ | refine vv1 ?_ | refine vv2 ?_ | refine vv3 ?_ | refine vv4 ?_ | refine vv5 ?_ | refine vv6 ?_ | refine vv7 ?_ | refine vv8 ?_ | refine vv9 ?_ | refine vv10 ?_ | refine vv11 (fun hbr => ?_) (fun hbr => ?_) | refine vv12 (fun hbr => ?_) (fun hbr => ?_) | refine vv13 ?_ | refine vv14 ?_ | refine vv15 ?_ | refine vv16 ?_ | refine vv17 (fun hbr => ?_) (fun hbr => ?_) | refine vv18 ?_ | refine vv19 (fun hbr => ?_) (fun hbr => ?_) | refine vv20 ?_ | refine SlIdxN.map _ rfl (by first | assumption | omega) ?_ | refine SlIdxN.mapPred (by omega) (by omega) ?_ | refine SlIdxN.mapSucc (by omega) ?_ | refine SlIdxN.lit _ _ rfl rfl ?_ | refine SlIdxN.mapInt (by omega) (by omega) ?_ | refine IdxN.at0 _ rfl (by first | assumption | omega | (simp <;> omega)) ?_ | refine vv21 ?_ | refine RowN.map (by first | assumption | omega) ?_ | refine vv22 ?_ | refine RowSN.map (by first | assumption | omega) ?_ | refine vv23 ?_ | refine vv24 ?_ | refine vv25 ?_ | refine Need.mk (by first | assumption | omega | (simp <;> omega)) ?_ | refine DrawN.gen (by first | exact tryd_ok _ | exact tryd_okm _ _) (by kernel_rfl) ?_ | refine vv26 ?_ | refine vv27 ?_ | refine vv28 ?_ | refine vv29 ?_ | refine vv30 ?_ | refine vv31 ?_ | refine vv32 ?_ | refine vv33 ?_) <;> (conv => whnf)))
    refine CodeN.of_ev (tryd_okm 0 _) ?_
    ((conv => whnf); repeat' ((first | refine CallN.pure (hn1 (by omega)) ?_ | refine RowN.row2 (by first | omega | (show _ = _ + 1; omega)) ?_ | refine RowN.row1 (by first | omega | (show _ = _ + 1; omega)) ?_ | refine RowN.rowB (by first | omega | (show _ = _ + 1; omega)) ?_ | refine RowSN.row2 (by first | omega | (show _ = _ + 1; omega)) ?_ | refine RowSN.row1 (by first | omega | (show _ = _ + 1; omega)) ?_ | refine RowSN.rowB (by first | omega | (show _ = _ + 1; omega)) ?_ | refine IxN.mk _ rfl ?_ | refine shr_ok rfl rfl ?_ | refine WrapN.inU ⟨by omega, by omega⟩ ?_ | refine vv1 ?_ | refine vv2 ?_ | refine vv3 ?_ | refine vv4 ?_ | refine vv5 ?_ | refine vv6 ?_ | refine vv7 ?_ | refine vv8 ?_ | refine vv9 ?_ | refine vv10 ?_ | refine vv11 (fun hbr => ?_) (fun hbr => ?_) | refine vv12 (fun hbr => ?_) (fun hbr => ?_) | refine vv13 ?_ | refine vv14 ?_ | refine vv15 ?_ | refine vv16 ?_ | refine vv17 (fun hbr => ?_) (fun hbr => ?_) | refine vv18 ?_ | refine vv19 (fun hbr => ?_) (fun hbr => ?_) | refine vv20 ?_ | refine SlIdxN.map _ rfl (by first | assumption | omega) ?_ | refine SlIdxN.mapPred (by omega) (by omega) ?_ | refine SlIdxN.mapSucc (by omega) ?_ | refine SlIdxN.lit _ _ rfl rfl ?_ | refine SlIdxN.mapInt (by omega) (by omega) ?_ | refine IdxN.at0 _ rfl (by first | assumption | omega | (simp <;> omega)) ?_ | refine vv21 ?_ | refine RowN.map (by first | assumption | omega) ?_ | refine vv22 ?_ | refine RowSN.map (by first | assumption | omega) ?_ | refine vv23 ?_ | refine vv24 ?_ | refine vv25 ?_ | refine Need.mk (by first | assumption | omega | (simp <;> omega)) ?_ | refine DrawN.gen (by first | exact tryd_ok _ | exact tryd_okm _ _) (by kernel_rfl) ?_ | refine vv26 ?_ | refine vv27 ?_ | refine vv28 ?_ | refine vv29 ?_ | refine vv30 ?_ | refine vv31 ?_ | refine vv32 ?_ | refine vv33 ?_) <;> (conv => whnf)))
    · rw [ht, ntx_step n (by omega)]; exact ⟨rfl⟩
    · rw [ht, ntx_one n (by omega)]; exact ⟨rfl⟩
theorem ntx_neg {n : Int} (h : n < 0) : (⟨#[45]⟩ : ByteArray) ++ ntx (-n) = ntx n := by
  unfold ntx Lib.itoa
  rw [if_neg (by omega), if_pos h, show (-n).toNat = n.natAbs by omega]
  exact ba_append [45] _
theorem decimal_ok (n : Int) (h : -9223372036854775807 ≤ n ∧ n ≤ 9223372036854775807) : Pu Tryz.prog G1 116 [vi n] (vs (ntx n)) := by
  by_cases h0 : 0 ≤ n
  · have := decimal_nat (n.toNat + 1) n.toNat (by omega) (by omega)
    rwa [show ((n.toNat : Nat) : Int) = n by omega] at this
  · have hneg := decimal_nat ((-n).toNat + 1) (-n).toNat (by omega) (by omega)
    rw [show (((-n).toNat : Nat) : Int) = 0 - n by omega] at hneg
    have hs := ntx_size (n := 0 - n) ⟨by omega, by omega⟩
    have hs' := ntx_size (n := - n) ⟨by omega, by omega⟩
    have hq : (⟨#[45]⟩ : ByteArray).size = 1 := rfl
    refine Pu.of_ev (T := Tryz.tab) (n := 24) (tryd_ok _) Tryz.func116 rfl rfl rfl (by first | rfl | (split <;> rfl)) (by simp) ?_
    ((conv => whnf); repeat' ((first | refine vv1 ?_ | refine vv2 ?_ | refine vv3 ?_ | refine vv4 ?_ | refine vv5 ?_ | refine vv6 ?_ | refine vv7 ?_ | refine vv8 ?_ | refine vv9 ?_ | refine vv10 ?_ | refine vv11 (fun hbr => ?_) (fun hbr => ?_) | refine vv12 (fun hbr => ?_) (fun hbr => ?_) | refine vv13 ?_ | refine vv14 ?_ | refine vv15 ?_ | refine vv16 ?_ | refine vv17 (fun hbr => ?_) (fun hbr => ?_) | refine vv18 ?_ | refine vv19 (fun hbr => ?_) (fun hbr => ?_) | refine vv20 ?_ | refine SlIdxN.map _ rfl (by first | assumption | omega) ?_ | refine SlIdxN.mapPred (by omega) (by omega) ?_ | refine SlIdxN.mapSucc (by omega) ?_ | refine SlIdxN.lit _ _ rfl rfl ?_ | refine SlIdxN.mapInt (by omega) (by omega) ?_ | refine IdxN.at0 _ rfl (by first | assumption | omega | (simp <;> omega)) ?_ | refine vv21 ?_ | refine RowN.map (by first | assumption | omega) ?_ | refine vv22 ?_ | refine RowSN.map (by first | assumption | omega) ?_ | refine vv23 ?_ | refine vv24 ?_ | refine vv25 ?_ | refine Need.mk (by first | assumption | omega | (simp <;> omega)) ?_ | refine DrawN.gen (by first | exact tryd_ok _ | exact tryd_okm _ _) (by kernel_rfl) ?_ | refine vv26 ?_ | refine vv27 ?_ | refine vv28 ?_ | refine vv29 ?_ | refine vv30 ?_ | refine vv31 ?_ | refine vv32 ?_ | refine vv33 ?_ | refine CallN.pure (hneg) ?_ | refine GCallN.pure _ (hneg) ?_ | refine GCallN.ef (hneg) ?_) <;> (conv => whnf)))
    all_goals refine DoneN.pure ?_
    rw [Int.zero_sub, ntx_neg (by omega)]
/-- The line of a posting. -/
def lineB (p : Posting) : ByteArray := ntx p.night ++ ⟨#[32]⟩ ++ ntx p.no ++ ⟨#[32]⟩ ++ ntx p.src ++ ⟨#[32]⟩ ++ ntx p.dst ++ ⟨#[32]⟩ ++ ntx p.amount ++ ⟨#[10]⟩
theorem line_ok (p : Posting) (hp : p.ok) : Pu Tryz.prog G1 89 [.agg p.enc] (vs (lineB p)) := by
  have q := hp
  unfold Posting.ok isAcc at q
  have h1 := ntx_size (n := p.night) ⟨by omega, by omega⟩
  have h2 := ntx_size (n := p.no) ⟨by omega, by omega⟩
  have h3 := ntx_size (n := p.src) ⟨by omega, by omega⟩
  have h4 := ntx_size (n := p.dst) ⟨by omega, by omega⟩
  have h5 := ntx_size (n := p.amount) ⟨by omega, by omega⟩
  have hq1 : (⟨#[32]⟩ : ByteArray).size = 1 := rfl
  have hq2 : (⟨#[10]⟩ : ByteArray).size = 1 := rfl
  refine Pu.of_ev (T := Tryz.tab) (n := 27) (tryd_ok _) Tryz.func89 rfl rfl rfl (by first | rfl | (split <;> rfl)) (by simp) ?_
  ((conv => whnf); repeat' ((first | refine vv1 ?_ | refine vv2 ?_ | refine vv3 ?_ | refine vv4 ?_ | refine vv5 ?_ | refine vv6 ?_ | refine vv7 ?_ | refine vv8 ?_ | refine vv9 ?_ | refine vv10 ?_ | refine vv11 (fun hbr => ?_) (fun hbr => ?_) | refine vv12 (fun hbr => ?_) (fun hbr => ?_) | refine vv13 ?_ | refine vv14 ?_ | refine vv15 ?_ | refine vv16 ?_ | refine vv17 (fun hbr => ?_) (fun hbr => ?_) | refine vv18 ?_ | refine vv19 (fun hbr => ?_) (fun hbr => ?_) | refine vv20 ?_ | refine SlIdxN.map _ rfl (by first | assumption | omega) ?_ | refine SlIdxN.mapPred (by omega) (by omega) ?_ | refine SlIdxN.mapSucc (by omega) ?_ | refine SlIdxN.lit _ _ rfl rfl ?_ | refine SlIdxN.mapInt (by omega) (by omega) ?_ | refine IdxN.at0 _ rfl (by first | assumption | omega | (simp <;> omega)) ?_ | refine vv21 ?_ | refine RowN.map (by first | assumption | omega) ?_ | refine vv22 ?_ | refine RowSN.map (by first | assumption | omega) ?_ | refine vv23 ?_ | refine vv24 ?_ | refine vv25 ?_ | refine Need.mk (by first | assumption | omega | (simp <;> omega)) ?_ | refine DrawN.gen (by first | exact tryd_ok _ | exact tryd_okm _ _) (by kernel_rfl) ?_ | refine vv26 ?_ | refine vv27 ?_ | refine vv28 ?_ | refine vv29 ?_ | refine vv30 ?_ | refine vv31 ?_ | refine vv32 ?_ | refine vv33 ?_ | refine CallN.pure (decimal_ok _ ⟨by omega, by omega⟩) ?_ | refine GCallN.pure _ (decimal_ok _ ⟨by omega, by omega⟩) ?_ | refine GCallN.ef (decimal_ok _ ⟨by omega, by omega⟩) ?_) <;> (conv => whnf)))
  all_goals refine DoneN.pure ?_
  all_goals rfl
end Go.Proofs.Ax
namespace Go.Proofs.Ax
open Go Go.Proofs
set_option maxRecDepth 10000
set_option maxHeartbeats 4000000
/-! The text of a ledger. -/
def tx (l : List UInt8) : ByteArray := ⟨l.toArray⟩
theorem tx_append (a b : List UInt8) : tx a ++ tx b = tx (a ++ b) := ba_append a b
theorem tx_inj {a b : List UInt8} (h : tx a = tx b) : a = b := by
  have h1 : (tx a).data.toList = (tx b).data.toList := by rw [h]
  simpa [tx] using h1
theorem tx_size (a : List UInt8) : (tx a).size = a.length := by simp [tx, ByteArray.size]
theorem tx_data (s : ByteArray) : tx s.data.toList = s := by simp [tx]
def lineL (p : Posting) : List UInt8 := Lib.itoa p.night ++ [32] ++ Lib.itoa p.no ++ [32] ++ Lib.itoa p.src ++ [32] ++ Lib.itoa p.dst ++ [32] ++ Lib.itoa p.amount ++ [10]
theorem lineB_eq (p : Posting) : lineB p = tx (lineL p) := by
  unfold lineB lineL
  simp only [← tx_append]
  rfl
def printL (l : List Posting) : List UInt8 := l.flatMap lineL
def printB (l : List Posting) : ByteArray := tx (printL l)
theorem printB_snoc {l : List Posting} {k : Nat} (h : k < l.length) : printB (l.take k) ++ lineB l[k] = printB (l.take (k + 1)) := by
  unfold printB printL
  rw [take_succ_snoc h, List.flatMap_append, lineB_eq, tx_append]
  simp
theorem lineB_size {p : Posting} (hp : p.ok) : (lineB p).size ≤ 105 := by
  have q := hp
  unfold Posting.ok isAcc at q
  have h1 := ntx_size (n := p.night) ⟨by omega, by omega⟩
  have h2 := ntx_size (n := p.no) ⟨by omega, by omega⟩
  have h3 := ntx_size (n := p.src) ⟨by omega, by omega⟩
  have h4 := ntx_size (n := p.dst) ⟨by omega, by omega⟩
  have h5 := ntx_size (n := p.amount) ⟨by omega, by omega⟩
  have hq1 : (⟨#[32]⟩ : ByteArray).size = 1 := rfl
  have hq2 : (⟨#[10]⟩ : ByteArray).size = 1 := rfl
  unfold lineB
  simp only [ByteArray.size_append, hq1, hq2]
  omega
theorem printB_size {l : List Posting} (hl : ∀ p ∈ l, p.ok) : ∀ k, k ≤ l.length → (printB (l.take k)).size ≤ 105 * k
  | 0, _ => by simp [printB, printL, tx, ByteArray.size]
  | k + 1, hk => by
    rw [← printB_snoc (by omega), ByteArray.size_append]
    have h1 := printB_size hl k (by omega)
    have h2 := lineB_size (hl _ (List.getElem_mem (show k < l.length by omega)))
    omega
theorem rprint_ok (t : Bool) (l : List Posting) (hl : ∀ p ∈ l, p.ok) (hmax : l.length ≤ 4000) : Pu Tryz.prog G1 47 [postings t l] (vs (printB l)) := by
  refine Pu.of_ev (T := Tryz.tab) (n := 19) (tryd_ok _) Tryz.func47 rfl rfl rfl (by first | rfl | (split <;> rfl)) (by simp) ?_
  ((conv => whnf); repeat' ((first | refine vv1 ?_ | refine vv2 ?_ | refine vv3 ?_ | refine vv4 ?_ | refine vv5 ?_ | refine vv6 ?_ | refine vv7 ?_ | refine vv8 ?_ | refine vv9 ?_ | refine vv10 ?_ | refine vv11 (fun hbr => ?_) (fun hbr => ?_) | refine vv12 (fun hbr => ?_) (fun hbr => ?_) | refine vv13 ?_ | refine vv14 ?_ | refine vv15 ?_ | refine vv16 ?_ | refine vv17 (fun hbr => ?_) (fun hbr => ?_) | refine vv18 ?_ | refine vv19 (fun hbr => ?_) (fun hbr => ?_) | refine vv20 ?_ | refine SlIdxN.map _ rfl (by first | assumption | omega) ?_ | refine SlIdxN.mapPred (by omega) (by omega) ?_ | refine SlIdxN.mapSucc (by omega) ?_ | refine SlIdxN.lit _ _ rfl rfl ?_ | refine SlIdxN.mapInt (by omega) (by omega) ?_ | refine IdxN.at0 _ rfl (by first | assumption | omega | (simp <;> omega)) ?_ | refine vv21 ?_ | refine RowN.map (by first | assumption | omega) ?_ | refine vv22 ?_ | refine RowSN.map (by first | assumption | omega) ?_ | refine vv23 ?_ | refine vv24 ?_ | refine vv25 ?_ | refine Need.mk (by first | assumption | omega | (simp <;> omega)) ?_ | refine DrawN.gen (by first | exact tryd_ok _ | exact tryd_okm _ _) (by kernel_rfl) ?_ | refine vv26 ?_ | refine vv27 ?_ | refine vv28 ?_ | refine vv29 ?_ | refine vv30 ?_ | refine vv31 ?_ | refine vv32 ?_ | refine vv33 ?_) <;> (conv => whnf)))
  refine LoopN.of (tryd_ok _) (fun k : Nat => [(0, postings t l), (3, vs (printB (l.take k))), (4, vi k)]) (fun _ => []) (fun k => l.length - k) (fun k => k ≤ l.length) 0 (Nat.zero_le _) (Reabs.frm0 rfl (by repeat (first | exact trivial | refine ⟨.inr ⟨rfl, rfl⟩, ?_⟩))) ?_
  intro k hk
  have hs := printB_size hl k hk
  by_cases hlt : k < l.length
  · have hq := hl _ (List.getElem_mem hlt)
    have h2 := lineB_size hq
    ((conv => whnf); repeat' ((first | refine vv1 ?_ | refine vv2 ?_ | refine vv3 ?_ | refine vv4 ?_ | refine vv5 ?_ | refine vv6 ?_ | refine vv7 ?_ | refine vv8 ?_ | refine vv9 ?_ | refine vv10 ?_ | refine vv11 (fun hbr => ?_) (fun hbr => ?_) | refine vv12 (fun hbr => ?_) (fun hbr => ?_) | refine vv13 ?_ | refine vv14 ?_ | refine vv15 ?_ | refine vv16 ?_ | refine vv17 (fun hbr => ?_) (fun hbr => ?_) | refine vv18 ?_ | refine vv19 (fun hbr => ?_) (fun hbr => ?_) | refine vv20 ?_ | refine SlIdxN.map _ rfl (by first | assumption | omega) ?_ | refine SlIdxN.mapPred (by omega) (by omega) ?_ | refine SlIdxN.mapSucc (by omega) ?_ | refine SlIdxN.lit _ _ rfl rfl ?_ | refine SlIdxN.mapInt (by omega) (by omega) ?_ | refine IdxN.at0 _ rfl (by first | assumption | omega | (simp <;> omega)) ?_ | refine vv21 ?_ | refine RowN.map (by first | assumption | omega) ?_ | refine vv22 ?_ | refine RowSN.map (by first | assumption | omega) ?_ | refine vv23 ?_ | refine vv24 ?_ | refine vv25 ?_ | refine Need.mk (by first | assumption | omega | (simp <;> omega)) ?_ | refine DrawN.gen (by first | exact tryd_ok _ | exact tryd_okm _ _) (by kernel_rfl) ?_ | refine vv26 ?_ | refine vv27 ?_ | refine vv28 ?_ | refine vv29 ?_ | refine vv30 ?_ | refine vv31 ?_ | refine vv32 ?_ | refine vv33 ?_ | refine CallN.pure (line_ok _ hq) ?_ | refine GCallN.pure _ (line_ok _ hq) ?_ | refine GCallN.ef (line_ok _ hq) ?_) <;> (conv => whnf)))
    refine BackN.mk (k + 1) (by omega) (by omega) ?_
    simp only [printB_snoc hlt]
    exact Reabs.frm0 rfl (by repeat (first | exact trivial | refine ⟨.inr ⟨rfl, rfl⟩, ?_⟩))
  · obtain rfl : k = l.length := by omega
    rw [List.take_length] at *
    ((conv => whnf); repeat' ((first | refine vv1 ?_ | refine vv2 ?_ | refine vv3 ?_ | refine vv4 ?_ | refine vv5 ?_ | refine vv6 ?_ | refine vv7 ?_ | refine vv8 ?_ | refine vv9 ?_ | refine vv10 ?_ | refine vv11 (fun hbr => ?_) (fun hbr => ?_) | refine vv12 (fun hbr => ?_) (fun hbr => ?_) | refine vv13 ?_ | refine vv14 ?_ | refine vv15 ?_ | refine vv16 ?_ | refine vv17 (fun hbr => ?_) (fun hbr => ?_) | refine vv18 ?_ | refine vv19 (fun hbr => ?_) (fun hbr => ?_) | refine vv20 ?_ | refine SlIdxN.map _ rfl (by first | assumption | omega) ?_ | refine SlIdxN.mapPred (by omega) (by omega) ?_ | refine SlIdxN.mapSucc (by omega) ?_ | refine SlIdxN.lit _ _ rfl rfl ?_ | refine SlIdxN.mapInt (by omega) (by omega) ?_ | refine IdxN.at0 _ rfl (by first | assumption | omega | (simp <;> omega)) ?_ | refine vv21 ?_ | refine RowN.map (by first | assumption | omega) ?_ | refine vv22 ?_ | refine RowSN.map (by first | assumption | omega) ?_ | refine vv23 ?_ | refine vv24 ?_ | refine vv25 ?_ | refine Need.mk (by first | assumption | omega | (simp <;> omega)) ?_ | refine DrawN.gen (by first | exact tryd_ok _ | exact tryd_okm _ _) (by kernel_rfl) ?_ | refine vv26 ?_ | refine vv27 ?_ | refine vv28 ?_ | refine vv29 ?_ | refine vv30 ?_ | refine vv31 ?_ | refine vv32 ?_ | refine vv33 ?_) <;> (conv => whnf)))
    exact DoneN.pure rfl
end Go.Proofs.Ax
