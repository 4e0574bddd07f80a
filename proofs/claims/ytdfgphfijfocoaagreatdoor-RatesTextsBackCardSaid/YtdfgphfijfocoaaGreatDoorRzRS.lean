import Derived.Test.YtdfgphfijfocoaaGreatDoorRzPQ
import Derived.Test.YtdfgphfijfocoaaGreatDoorAxG
import Derived.Test.YtdfgphfijfocoaaGreatDoorRbQ
namespace Go.Proofs.Ax
open Go Go.Proofs
set_option maxRecDepth 10000
set_option maxHeartbeats 4000000
/-! A number read from a text. -/
theorem ba_get? (s : ByteArray) (j : Nat) (h : j < s.size) : s[j]? = some s[j] := by simp [h]
theorem StrIxN.at' {s : ByteArray} {i : Int} {k : UInt8 → Prop} (j : Nat) (h : i = (j : Int)) (hj : j < s.size) (hk : k s[j]) : StrIxN s i k := ⟨j, _, h, ba_get? s j hj, hk⟩
def isDg (b : UInt8) : Bool := decide (48 ≤ b.toNat) && decide (b.toNat ≤ 57)
def digs (s : ByteArray) (a : Nat) : List UInt8 := ((s.data.toList.drop a).take 13).takeWhile isDg
def numOf (ds : List UInt8) : Nat := ds.foldl (fun n b => 10 * n + (b.toNat - 48)) 0
theorem ba_list (s : ByteArray) (j : Nat) (h : j < s.size) : s.data.toList[j]? = some s[j] := by
  rw [Array.getElem?_toList, Array.getElem?_eq_getElem (by exact h)]
  rfl
theorem digs_pre (s : ByteArray) (a : Nat) : digs s a <+: (s.data.toList.drop a).take 13 := List.takeWhile_prefix _
theorem digs_len (s : ByteArray) (a : Nat) : (digs s a).length ≤ 13 ∧ (digs s a).length ≤ s.size - a := by
  have h := (digs_pre s a).length_le
  rw [List.length_take, List.length_drop] at h
  have : s.data.toList.length = s.size := by rw [Array.length_toList]; rfl
  omega
theorem digs_get {s : ByteArray} {a k : Nat} (h : k < (digs s a).length) (hj : a + k < s.size) : (digs s a)[k] = s[a + k] := by
  have h2 := (digs_pre s a).getElem (i := k) h
  rw [h2, List.getElem_take, List.getElem_drop]
  have := ba_list s (a + k) hj
  exact Option.some.inj ((List.getElem?_eq_getElem _).symm.trans this)
theorem digs_dg {s : ByteArray} {a k : Nat} (h : k < (digs s a).length) : 48 ≤ ((digs s a)[k]).toNat ∧ ((digs s a)[k]).toNat ≤ 57 := by
  have h2 : isDg (digs s a)[k] = true := by
    have h3 := List.all_takeWhile (l := (s.data.toList.drop a).take 13) (p := isDg)
    exact List.all_eq_true.1 h3 _ (List.getElem_mem h)
  simpa [isDg] using h2
theorem takeWhile_stop {α : Type} {p : α → Bool} : ∀ (l : List α) (h : (l.takeWhile p).length < l.length), p (l[(l.takeWhile p).length]) = false
  | [], h => by simp at h
  | x :: l, h => by
    by_cases hx : p x = true
    · simp only [List.takeWhile_cons, hx, if_true, List.length_cons, List.getElem_cons_succ] at h ⊢
      exact takeWhile_stop l (by omega)
    · simp only [List.takeWhile_cons, hx, List.length_nil, List.getElem_cons_zero]
      simpa using hx
theorem digs_end {s : ByteArray} {a : Nat} (hj : a + (digs s a).length < s.size) (hk : (digs s a).length < 13) : ¬ (48 ≤ (s[a + (digs s a).length]).toNat ∧ (s[a + (digs s a).length]).toNat ≤ 57) := by
  have hsz : s.data.toList.length = s.size := by rw [Array.length_toList]; rfl
  have hlt : (digs s a).length < ((s.data.toList.drop a).take 13).length := by rw [List.length_take, List.length_drop, hsz]; omega
  have h : isDg (((s.data.toList.drop a).take 13)[(digs s a).length]'hlt) = false := takeWhile_stop ((s.data.toList.drop a).take 13) hlt
  rw [List.getElem_take, List.getElem_drop] at h
  have h3 := ba_list s (a + (digs s a).length) hj
  have h4 : s.data.toList[a + (digs s a).length]'(by omega) = s[a + (digs s a).length] := Option.some.inj ((List.getElem?_eq_getElem _).symm.trans h3)
  have h5 : isDg s[a + (digs s a).length] = false := by rw [← h4]; exact h
  intro ⟨h6, h7⟩
  simp [isDg, h6, h7] at h5
theorem numOf_snoc (ds : List UInt8) (b : UInt8) : numOf (ds ++ [b]) = 10 * numOf ds + (b.toNat - 48) := by simp [numOf]
theorem numOf_take {s : ByteArray} {a k : Nat} (h : k < (digs s a).length) : numOf ((digs s a).take (k + 1)) = 10 * numOf ((digs s a).take k) + (((digs s a)[k]).toNat - 48) := by
  rw [take_succ_snoc h, numOf_snoc]
theorem numOf_lt {s : ByteArray} {a : Nat} : ∀ k, k ≤ (digs s a).length → numOf ((digs s a).take k) < 10 ^ k
  | 0, _ => by simp [numOf]
  | k + 1, h => by
    have h1 := numOf_lt (s := s) (a := a) k (by omega)
    have h2 := digs_dg (s := s) (a := a) (k := k) (by omega)
    rw [numOf_take (by omega), Nat.pow_succ]
    omega
def startAt (s : ByteArray) (at_ : Nat) : Nat := if s[at_]? = some 45 then at_ + 1 else at_
def readN (s : ByteArray) (at_ : Nat) : Int := if s[at_]? = some 45 then -(numOf (digs s (startAt s at_)) : Int) else numOf (digs s (startAt s at_))
def readAt (s : ByteArray) (at_ : Nat) : Nat := startAt s at_ + (digs s (startAt s at_)).length + 1
def readOk (s : ByteArray) (at_ : Nat) : Bool := decide (0 < (digs s (startAt s at_)).length)
theorem tup3 {a b a' b' : Int} {x y : AV} (h1 : a = a') (h2 : b = b') (h3 : x = y) : AV.tuple [vi a, vi b, x] = AV.tuple [vi a', vi b', y] := by rw [h1, h2, h3]
theorem read_ok (s : ByteArray) (at_ : Nat) (hs : s.size ≤ 1000000) (ha : at_ ≤ 1000001) : Pu Tryz.prog G1 94 [vs s, vi at_] (.tuple [vi (readN s at_), vi (readAt s at_), vb (readOk s at_)]) := by
  obtain ⟨a, hdef⟩ : ∃ a, a = startAt s at_ := ⟨_, rfl⟩
  have hlen := digs_len s a
  unfold readN readAt readOk
  rw [← hdef]
  by_cases hm : s[at_]? = some 45
  · rw [if_pos hm]
    have ha' : a = at_ + 1 := by rw [hdef]; unfold startAt; rw [if_pos hm]
    obtain ⟨hat, hm'⟩ : ∃ h : at_ < s.size, s[at_] = 45 := by
      by_cases h : at_ < s.size
      · rw [ba_get? s at_ h] at hm; exact ⟨h, Option.some.inj hm⟩
      · simp [h] at hm
    have hb45 : (s[at_]).toNat = 45 := by rw [hm']; rfl
    refine Pu.of_ev (T := Tryz.tab) (n := 63) (tryd_ok _) Tryz.func94 rfl rfl rfl (by first | rfl | (split <;> rfl)) (by simp) ?_
    ((conv => whnf); repeat' ((first | refine StrIxN.at' at_ rfl (by omega) ?_ | refine RowN.row2 (by first | omega | (show _ = _ + 1; omega)) ?_ | refine RowN.row1 (by first | omega | (show _ = _ + 1; omega)) ?_ | refine RowN.rowB (by first | omega | (show _ = _ + 1; omega)) ?_ | refine RowSN.row2 (by first | omega | (show _ = _ + 1; omega)) ?_ | refine RowSN.row1 (by first | omega | (show _ = _ + 1; omega)) ?_ | refine RowSN.rowB (by first | omega | (show _ = _ + 1; omega)) ?_ | refine IxN.mk _ rfl ?_ | refine shr_ok rfl rfl ?_ | refine WrapN.inU ⟨by omega, by omega⟩ ?_ | refine vv1 ?_ | refine vv2 ?_ | refine vv3 ?_ | refine vv4 ?_ | refine vv5 ?_ | refine vv6 ?_ | refine vv7 ?_ | refine vv8 ?_ | refine vv9 ?_ | refine vv10 ?_ | refine vv11 (fun hbr => ?_) (fun hbr => ?_) | refine vv12 (fun hbr => ?_) (fun hbr => ?_) | refine vv13 ?_ | refine vv14 ?_ | refine vv15 ?_ | refine vv16 ?_ | refine vv17 (fun hbr => ?_) (fun hbr => ?_) | refine vv18 ?_ | refine vv19 (fun hbr => ?_) (fun hbr => ?_) | refine vv20 ?_ | refine SlIdxN.map _ rfl (by first | assumption | omega) ?_ | refine SlIdxN.mapPred (by omega) (by omega) ?_ | refine SlIdxN.mapSucc (by omega) ?_ | refine SlIdxN.lit _ _ rfl rfl ?_ | refine SlIdxN.mapInt (by omega) (by omega) ?_ | refine IdxN.at0 _ rfl (by first | assumption | omega | (simp <;> omega)) ?_ | refine vv21 ?_ | refine RowN.map (by first | assumption | omega) ?_ | refine vv22 ?_ | refine RowSN.map (by first | assumption | omega) ?_ | refine vv23 ?_ | refine vv24 ?_ | refine vv25 ?_ | refine Need.mk (by first | assumption | omega | (simp <;> omega)) ?_ | refine DrawN.gen (by first | exact tryd_ok _ | exact tryd_okm _ _) (by kernel_rfl) ?_ | refine vv26 ?_ | refine vv27 ?_ | refine vv28 ?_ | refine vv29 ?_ | refine vv30 ?_ | refine vv31 ?_ | refine vv32 ?_ | refine vv33 ?_) <;> (conv => whnf)))
    refine LoopN.of (tryd_ok _) (fun k : Nat => [(0, vs s), (1, vi ((a + k : Nat) : Int)), (7, vb (decide (((s[at_]).toNat : Int) = 45))), (8, vi (numOf ((digs s a).take k))), (9, vi k)]) (fun _ => []) (fun k => (digs s a).length - k) (fun k => k ≤ (digs s a).length) 0 (Nat.zero_le _) (Reabs.frm0 rfl (by repeat (first | exact trivial | refine ⟨.inr ⟨rfl, rfl⟩, ?_⟩ | refine ⟨.inr ⟨rfl, vi_eq (by first | omega | (simp; done) | (simp; omega))⟩, ?_⟩ | refine ⟨.inr ⟨rfl, smE rfl (by first | omega | (simp; done) | (simp; omega))⟩, ?_⟩))) ?_
    intro k hk
    have hb := numOf_lt (s := s) (a := a) k hk
    have hb2 : 10 ^ k ≤ 10 ^ 13 := Nat.pow_le_pow_right (by decide) (by omega)
    by_cases hlt : k < (digs s a).length
    · have hd := digs_dg hlt
      have hj : a + k < s.size := by omega
      rw [digs_get hlt hj] at hd
      have hn := numOf_take hlt
      rw [digs_get hlt hj] at hn
      ((conv => whnf); repeat' ((first | refine StrIxN.at' (a + k) (by omega) (by omega) ?_ | refine WrapN.inB ⟨by omega, by omega⟩ ?_ | refine RowN.row2 (by first | omega | (show _ = _ + 1; omega)) ?_ | refine RowN.row1 (by first | omega | (show _ = _ + 1; omega)) ?_ | refine RowN.rowB (by first | omega | (show _ = _ + 1; omega)) ?_ | refine RowSN.row2 (by first | omega | (show _ = _ + 1; omega)) ?_ | refine RowSN.row1 (by first | omega | (show _ = _ + 1; omega)) ?_ | refine RowSN.rowB (by first | omega | (show _ = _ + 1; omega)) ?_ | refine IxN.mk _ rfl ?_ | refine shr_ok rfl rfl ?_ | refine WrapN.inU ⟨by omega, by omega⟩ ?_ | refine vv1 ?_ | refine vv2 ?_ | refine vv3 ?_ | refine vv4 ?_ | refine vv5 ?_ | refine vv6 ?_ | refine vv7 ?_ | refine vv8 ?_ | refine vv9 ?_ | refine vv10 ?_ | refine vv11 (fun hbr => ?_) (fun hbr => ?_) | refine vv12 (fun hbr => ?_) (fun hbr => ?_) | refine vv13 ?_ | refine vv14 ?_ | refine vv15 ?_ | refine vv16 ?_ | refine vv17 (fun hbr => ?_) (fun hbr => ?_) | refine vv18 ?_ | refine vv19 (fun hbr => ?_) (fun hbr => ?_) | refine vv20 ?_ | refine SlIdxN.map _ rfl (by first | assumption | omega) ?_ | refine SlIdxN.mapPred (by omega) (by omega) ?_ | refine SlIdxN.mapSucc (by omega) ?_ | refine SlIdxN.lit _ _ rfl rfl ?_ | refine SlIdxN.mapInt (by omega) (by omega) ?_ | refine IdxN.at0 _ rfl (by first | assumption | omega | (simp <;> omega)) ?_ | refine vv21 ?_ | refine RowN.map (by first | assumption | omega) ?_ | refine vv22 ?_ | refine RowSN.map (by first | assumption | omega) ?_ | refine vv23 ?_ | refine vv24 ?_ | refine vv25 ?_ | refine Need.mk (by first | assumption | omega | (simp <;> omega)) ?_ | refine DrawN.gen (by first | exact tryd_ok _ | exact tryd_okm _ _) (by kernel_rfl) ?_ | refine vv26 ?_ | refine vv27 ?_ | refine vv28 ?_ | refine vv29 ?_ | refine vv30 ?_ | refine vv31 ?_ | refine vv32 ?_ | refine vv33 ?_) <;> (conv => whnf)))
      refine BackN.mk (k + 1) (by omega) (by omega) ?_
      simp only [hn]
      exact Reabs.frm0 rfl (by repeat (first | exact trivial | refine ⟨.inr ⟨rfl, rfl⟩, ?_⟩ | refine ⟨.inr ⟨rfl, vi_eq (by first | omega | (simp; done) | (simp; omega))⟩, ?_⟩ | refine ⟨.inr ⟨rfl, smE rfl (by first | omega | (simp; done) | (simp; omega))⟩, ?_⟩))
    · obtain rfl : k = (digs s a).length := by omega
      rw [List.take_length] at *
      have he := digs_end (s := s) (a := a)
      ((conv => whnf); repeat' ((first | refine StrIxN.at' (a + (digs s a).length) (by omega) (by omega) ?_ | refine WrapN.inB ⟨by omega, by omega⟩ ?_ | refine RowN.row2 (by first | omega | (show _ = _ + 1; omega)) ?_ | refine RowN.row1 (by first | omega | (show _ = _ + 1; omega)) ?_ | refine RowN.rowB (by first | omega | (show _ = _ + 1; omega)) ?_ | refine RowSN.row2 (by first | omega | (show _ = _ + 1; omega)) ?_ | refine RowSN.row1 (by first | omega | (show _ = _ + 1; omega)) ?_ | refine RowSN.rowB (by first | omega | (show _ = _ + 1; omega)) ?_ | refine IxN.mk _ rfl ?_ | refine shr_ok rfl rfl ?_ | refine WrapN.inU ⟨by omega, by omega⟩ ?_ | refine vv1 ?_ | refine vv2 ?_ | refine vv3 ?_ | refine vv4 ?_ | refine vv5 ?_ | refine vv6 ?_ | refine vv7 ?_ | refine vv8 ?_ | refine vv9 ?_ | refine vv10 ?_ | refine vv11 (fun hbr => ?_) (fun hbr => ?_) | refine vv12 (fun hbr => ?_) (fun hbr => ?_) | refine vv13 ?_ | refine vv14 ?_ | refine vv15 ?_ | refine vv16 ?_ | refine vv17 (fun hbr => ?_) (fun hbr => ?_) | refine vv18 ?_ | refine vv19 (fun hbr => ?_) (fun hbr => ?_) | refine vv20 ?_ | refine SlIdxN.map _ rfl (by first | assumption | omega) ?_ | refine SlIdxN.mapPred (by omega) (by omega) ?_ | refine SlIdxN.mapSucc (by omega) ?_ | refine SlIdxN.lit _ _ rfl rfl ?_ | refine SlIdxN.mapInt (by omega) (by omega) ?_ | refine IdxN.at0 _ rfl (by first | assumption | omega | (simp <;> omega)) ?_ | refine vv21 ?_ | refine RowN.map (by first | assumption | omega) ?_ | refine vv22 ?_ | refine RowSN.map (by first | assumption | omega) ?_ | refine vv23 ?_ | refine vv24 ?_ | refine vv25 ?_ | refine Need.mk (by first | assumption | omega | (simp <;> omega)) ?_ | refine DrawN.gen (by first | exact tryd_ok _ | exact tryd_okm _ _) (by kernel_rfl) ?_ | refine vv26 ?_ | refine vv27 ?_ | refine vv28 ?_ | refine vv29 ?_ | refine vv30 ?_ | refine vv31 ?_ | refine vv32 ?_ | refine vv33 ?_) <;> (conv => whnf)))
      all_goals first
        | (exfalso; exact he (by omega) (by omega) ⟨by omega, by omega⟩)
        | exact DoneN.pure (tup3 (by omega) (by omega) (by first | rfl | exact vb_dec (by omega) | exact vb_tt (by omega) | exact vb_ff (by omega)))
        | trace_state
  · rw [if_neg hm]
    have ha' : a = at_ := by rw [hdef]; unfold startAt; rw [if_neg hm]
    by_cases hat : at_ < s.size
    · have hb45 : (s[at_]).toNat ≠ 45 := by
        intro h
        apply hm
        rw [ba_get? s at_ hat]
        congr 1
        exact UInt8.toNat_inj.1 h
      refine Pu.of_ev (T := Tryz.tab) (n := 63) (tryd_ok _) Tryz.func94 rfl rfl rfl (by first | rfl | (split <;> rfl)) (by simp) ?_
      ((conv => whnf); repeat' ((first | refine StrIxN.at' at_ rfl (by omega) ?_ | refine RowN.row2 (by first | omega | (show _ = _ + 1; omega)) ?_ | refine RowN.row1 (by first | omega | (show _ = _ + 1; omega)) ?_ | refine RowN.rowB (by first | omega | (show _ = _ + 1; omega)) ?_ | refine RowSN.row2 (by first | omega | (show _ = _ + 1; omega)) ?_ | refine RowSN.row1 (by first | omega | (show _ = _ + 1; omega)) ?_ | refine RowSN.rowB (by first | omega | (show _ = _ + 1; omega)) ?_ | refine IxN.mk _ rfl ?_ | refine shr_ok rfl rfl ?_ | refine WrapN.inU ⟨by omega, by omega⟩ ?_ | refine vv1 ?_ | refine vv2 ?_ | refine vv3 ?_ | refine vv4 ?_ | refine vv5 ?_ | refine vv6 ?_ | refine vv7 ?_ | refine vv8 ?_ | refine vv9 ?_ | refine vv10 ?_ | refine vv11 (fun hbr => ?_) (fun hbr => ?_) | refine vv12 (fun hbr => ?_) (fun hbr => ?_) | refine vv13 ?_ | refine vv14 ?_ | refine vv15 ?_ | refine vv16 ?_ | refine vv17 (fun hbr => ?_) (fun hbr => ?_) | refine vv18 ?_ | refine vv19 (fun hbr => ?_) (fun hbr => ?_) | refine vv20 ?_ | refine SlIdxN.map _ rfl (by first | assumption | omega) ?_ | refine SlIdxN.mapPred (by omega) (by omega) ?_ | refine SlIdxN.mapSucc (by omega) ?_ | refine SlIdxN.lit _ _ rfl rfl ?_ | refine SlIdxN.mapInt (by omega) (by omega) ?_ | refine IdxN.at0 _ rfl (by first | assumption | omega | (simp <;> omega)) ?_ | refine vv21 ?_ | refine RowN.map (by first | assumption | omega) ?_ | refine vv22 ?_ | refine RowSN.map (by first | assumption | omega) ?_ | refine vv23 ?_ | refine vv24 ?_ | refine vv25 ?_ | refine Need.mk (by first | assumption | omega | (simp <;> omega)) ?_ | refine DrawN.gen (by first | exact tryd_ok _ | exact tryd_okm _ _) (by kernel_rfl) ?_ | refine vv26 ?_ | refine vv27 ?_ | refine vv28 ?_ | refine vv29 ?_ | refine vv30 ?_ | refine vv31 ?_ | refine vv32 ?_ | refine vv33 ?_) <;> (conv => whnf)))
      refine LoopN.of (tryd_ok _) (fun k : Nat => [(0, vs s), (1, vi ((a + k : Nat) : Int)), (7, vb (decide (((s[at_]).toNat : Int) = 45))), (8, vi (numOf ((digs s a).take k))), (9, vi k)]) (fun _ => []) (fun k => (digs s a).length - k) (fun k => k ≤ (digs s a).length) 0 (Nat.zero_le _) (Reabs.frm0 rfl (by repeat (first | exact trivial | refine ⟨.inr ⟨rfl, rfl⟩, ?_⟩ | refine ⟨.inr ⟨rfl, vi_eq (by first | omega | (simp; done) | (simp; omega))⟩, ?_⟩ | refine ⟨.inr ⟨rfl, smE rfl (by first | omega | (simp; done) | (simp; omega))⟩, ?_⟩))) ?_
      intro k hk
      have hb := numOf_lt (s := s) (a := a) k hk
      have hb2 : 10 ^ k ≤ 10 ^ 13 := Nat.pow_le_pow_right (by decide) (by omega)
      by_cases hlt : k < (digs s a).length
      · have hd := digs_dg hlt
        have hj : a + k < s.size := by omega
        rw [digs_get hlt hj] at hd
        have hn := numOf_take hlt
        rw [digs_get hlt hj] at hn
        ((conv => whnf); repeat' ((first | refine StrIxN.at' (a + k) (by omega) (by omega) ?_ | refine WrapN.inB ⟨by omega, by omega⟩ ?_ | refine RowN.row2 (by first | omega | (show _ = _ + 1; omega)) ?_ | refine RowN.row1 (by first | omega | (show _ = _ + 1; omega)) ?_ | refine RowN.rowB (by first | omega | (show _ = _ + 1; omega)) ?_ | refine RowSN.row2 (by first | omega | (show _ = _ + 1; omega)) ?_ | refine RowSN.row1 (by first | omega | (show _ = _ + 1; omega)) ?_ | refine RowSN.rowB (by first | omega | (show _ = _ + 1; omega)) ?_ | refine IxN.mk _ rfl ?_ | refine shr_ok rfl rfl ?_ | refine WrapN.inU ⟨by omega, by omega⟩ ?_ | refine vv1 ?_ | refine vv2 ?_ | refine vv3 ?_ | refine vv4 ?_ | refine vv5 ?_ | refine vv6 ?_ | refine vv7 ?_ | refine vv8 ?_ | refine vv9 ?_ | refine vv10 ?_ | refine vv11 (fun hbr => ?_) (fun hbr => ?_) | refine vv12 (fun hbr => ?_) (fun hbr => ?_) | refine vv13 ?_ | refine vv14 ?_ | refine vv15 ?_ | refine vv16 ?_ | refine vv17 (fun hbr => ?_) (fun hbr => ?_) | refine vv18 ?_ | refine vv19 (fun hbr => ?_) (fun hbr => ?_) | refine vv20 ?_ | refine SlIdxN.map _ rfl (by first | assumption | omega) ?_ | refine SlIdxN.mapPred (by omega) (by omega) ?_ | refine SlIdxN.mapSucc (by omega) ?_ | refine SlIdxN.lit _ _ rfl rfl ?_ | refine SlIdxN.mapInt (by omega) (by omega) ?_ | refine IdxN.at0 _ rfl (by first | assumption | omega | (simp <;> omega)) ?_ | refine vv21 ?_ | refine RowN.map (by first | assumption | omega) ?_ | refine vv22 ?_ | refine RowSN.map (by first | assumption | omega) ?_ | refine vv23 ?_ | refine vv24 ?_ | refine vv25 ?_ | refine Need.mk (by first | assumption | omega | (simp <;> omega)) ?_ | refine DrawN.gen (by first | exact tryd_ok _ | exact tryd_okm _ _) (by kernel_rfl) ?_ | refine vv26 ?_ | refine vv27 ?_ | refine vv28 ?_ | refine vv29 ?_ | refine vv30 ?_ | refine vv31 ?_ | refine vv32 ?_ | refine vv33 ?_) <;> (conv => whnf)))
        refine BackN.mk (k + 1) (by omega) (by omega) ?_
        simp only [hn]
        exact Reabs.frm0 rfl (by repeat (first | exact trivial | refine ⟨.inr ⟨rfl, rfl⟩, ?_⟩ | refine ⟨.inr ⟨rfl, vi_eq (by first | omega | (simp; done) | (simp; omega))⟩, ?_⟩ | refine ⟨.inr ⟨rfl, smE rfl (by first | omega | (simp; done) | (simp; omega))⟩, ?_⟩))
      · obtain rfl : k = (digs s a).length := by omega
        rw [List.take_length] at *
        have he := digs_end (s := s) (a := a)
        ((conv => whnf); repeat' ((first | refine StrIxN.at' (a + (digs s a).length) (by omega) (by omega) ?_ | refine WrapN.inB ⟨by omega, by omega⟩ ?_ | refine RowN.row2 (by first | omega | (show _ = _ + 1; omega)) ?_ | refine RowN.row1 (by first | omega | (show _ = _ + 1; omega)) ?_ | refine RowN.rowB (by first | omega | (show _ = _ + 1; omega)) ?_ | refine RowSN.row2 (by first | omega | (show _ = _ + 1; omega)) ?_ | refine RowSN.row1 (by first | omega | (show _ = _ + 1; omega)) ?_ | refine RowSN.rowB (by first | omega | (show _ = _ + 1; omega)) ?_ | refine IxN.mk _ rfl ?_ | refine shr_ok rfl rfl ?_ | refine WrapN.inU ⟨by omega, by omega⟩ ?_ | refine vv1 ?_ | refine vv2 ?_ | refine vv3 ?_ | refine vv4 ?_ | refine vv5 ?_ | refine vv6 ?_ | refine vv7 ?_ | refine vv8 ?_ | refine vv9 ?_ | refine vv10 ?_ | refine vv11 (fun hbr => ?_) (fun hbr => ?_) | refine vv12 (fun hbr => ?_) (fun hbr => ?_) | refine vv13 ?_ | refine vv14 ?_ | refine vv15 ?_ | refine vv16 ?_ | refine vv17 (fun hbr => ?_) (fun hbr => ?_) | refine vv18 ?_ | refine vv19 (fun hbr => ?_) (fun hbr => ?_) | refine vv20 ?_ | refine SlIdxN.map _ rfl (by first | assumption | omega) ?_ | refine SlIdxN.mapPred (by omega) (by omega) ?_ | refine SlIdxN.mapSucc (by omega) ?_ | refine SlIdxN.lit _ _ rfl rfl ?_ | refine SlIdxN.mapInt (by omega) (by omega) ?_ | refine IdxN.at0 _ rfl (by first | assumption | omega | (simp <;> omega)) ?_ | refine vv21 ?_ | refine RowN.map (by first | assumption | omega) ?_ | refine vv22 ?_ | refine RowSN.map (by first | assumption | omega) ?_ | refine vv23 ?_ | refine vv24 ?_ | refine vv25 ?_ | refine Need.mk (by first | assumption | omega | (simp <;> omega)) ?_ | refine DrawN.gen (by first | exact tryd_ok _ | exact tryd_okm _ _) (by kernel_rfl) ?_ | refine vv26 ?_ | refine vv27 ?_ | refine vv28 ?_ | refine vv29 ?_ | refine vv30 ?_ | refine vv31 ?_ | refine vv32 ?_ | refine vv33 ?_) <;> (conv => whnf)))
        all_goals first
          | (exfalso; exact he (by omega) (by omega) ⟨by omega, by omega⟩)
          | exact DoneN.pure (tup3 (by omega) (by omega) (by first | rfl | exact vb_dec (by omega) | exact vb_tt (by omega) | exact vb_ff (by omega)))
          | trace_state
    · have h0 : (digs s a).length = 0 := by omega
      have h1 : numOf (digs s a) = 0 := by rw [List.length_eq_zero_iff.1 h0]; rfl
      rw [h1]
      refine Pu.of_ev (T := Tryz.tab) (n := 63) (tryd_ok _) Tryz.func94 rfl rfl rfl (by first | rfl | (split <;> rfl)) (by simp) ?_
      ((conv => whnf); repeat' ((first | refine vv1 ?_ | refine vv2 ?_ | refine vv3 ?_ | refine vv4 ?_ | refine vv5 ?_ | refine vv6 ?_ | refine vv7 ?_ | refine vv8 ?_ | refine vv9 ?_ | refine vv10 ?_ | refine vv11 (fun hbr => ?_) (fun hbr => ?_) | refine vv12 (fun hbr => ?_) (fun hbr => ?_) | refine vv13 ?_ | refine vv14 ?_ | refine vv15 ?_ | refine vv16 ?_ | refine vv17 (fun hbr => ?_) (fun hbr => ?_) | refine vv18 ?_ | refine vv19 (fun hbr => ?_) (fun hbr => ?_) | refine vv20 ?_ | refine SlIdxN.map _ rfl (by first | assumption | omega) ?_ | refine SlIdxN.mapPred (by omega) (by omega) ?_ | refine SlIdxN.mapSucc (by omega) ?_ | refine SlIdxN.lit _ _ rfl rfl ?_ | refine SlIdxN.mapInt (by omega) (by omega) ?_ | refine IdxN.at0 _ rfl (by first | assumption | omega | (simp <;> omega)) ?_ | refine vv21 ?_ | refine RowN.map (by first | assumption | omega) ?_ | refine vv22 ?_ | refine RowSN.map (by first | assumption | omega) ?_ | refine vv23 ?_ | refine vv24 ?_ | refine vv25 ?_ | refine Need.mk (by first | assumption | omega | (simp <;> omega)) ?_ | refine DrawN.gen (by first | exact tryd_ok _ | exact tryd_okm _ _) (by kernel_rfl) ?_ | refine vv26 ?_ | refine vv27 ?_ | refine vv28 ?_ | refine vv29 ?_ | refine vv30 ?_ | refine vv31 ?_ | refine vv32 ?_ | refine vv33 ?_) <;> (conv => whnf)))
      refine LoopN.of (tryd_ok _) (fun k : Nat => [(0, vs s), (1, vi at_), (7, vb false), (8, vi 0), (9, vi 0)]) (fun _ => []) (fun k => 0) (fun k => True) 0 trivial (Reabs.frm0 rfl (by repeat (first | exact trivial | refine ⟨.inr ⟨rfl, rfl⟩, ?_⟩ | refine ⟨.inr ⟨rfl, vi_eq (by first | omega | (simp; done) | (simp; omega))⟩, ?_⟩ | refine ⟨.inr ⟨rfl, smE rfl (by first | omega | (simp; done) | (simp; omega))⟩, ?_⟩))) ?_
      intro k hk
      ((conv => whnf); repeat' ((first | refine vv1 ?_ | refine vv2 ?_ | refine vv3 ?_ | refine vv4 ?_ | refine vv5 ?_ | refine vv6 ?_ | refine vv7 ?_ | refine vv8 ?_ | refine vv9 ?_ | refine vv10 ?_ | refine vv11 (fun hbr => ?_) (fun hbr => ?_) | refine vv12 (fun hbr => ?_) (fun hbr => ?_) | refine vv13 ?_ | refine vv14 ?_ | refine vv15 ?_ | refine vv16 ?_ | refine vv17 (fun hbr => ?_) (fun hbr => ?_) | refine vv18 ?_ | refine vv19 (fun hbr => ?_) (fun hbr => ?_) | refine vv20 ?_ | refine SlIdxN.map _ rfl (by first | assumption | omega) ?_ | refine SlIdxN.mapPred (by omega) (by omega) ?_ | refine SlIdxN.mapSucc (by omega) ?_ | refine SlIdxN.lit _ _ rfl rfl ?_ | refine SlIdxN.mapInt (by omega) (by omega) ?_ | refine IdxN.at0 _ rfl (by first | assumption | omega | (simp <;> omega)) ?_ | refine vv21 ?_ | refine RowN.map (by first | assumption | omega) ?_ | refine vv22 ?_ | refine RowSN.map (by first | assumption | omega) ?_ | refine vv23 ?_ | refine vv24 ?_ | refine vv25 ?_ | refine Need.mk (by first | assumption | omega | (simp <;> omega)) ?_ | refine DrawN.gen (by first | exact tryd_ok _ | exact tryd_okm _ _) (by kernel_rfl) ?_ | refine vv26 ?_ | refine vv27 ?_ | refine vv28 ?_ | refine vv29 ?_ | refine vv30 ?_ | refine vv31 ?_ | refine vv32 ?_ | refine vv33 ?_) <;> (conv => whnf)))
      all_goals first
        | exact DoneN.pure (tup3 (by omega) (by omega) (by first | rfl | exact vb_dec (by omega) | exact vb_tt (by omega) | exact vb_ff (by omega)))
        | trace_state
end Go.Proofs.Ax
namespace Go.Proofs.Ax
open Go Go.Proofs
/-! The reference's Parse. -/
def posK (s : ByteArray) (a : Nat) : Nat → Nat
  | 0 => a
  | k + 1 => readAt s (posK s a k)
def numK (s : ByteArray) (a k : Nat) : Int := readN s (posK s a k)
def postAt (s : ByteArray) (a : Nat) : Posting := ⟨numK s a 0, numK s a 1, numK s a 2, numK s a 3, numK s a 4⟩
def goodAt (s : ByteArray) (a : Nat) : Prop := (∀ k, k < 5 → readOk s (posK s a k) = true) ∧ (postAt s a).ok ∧ posK s a 5 ≤ s.size ∧ lineB (postAt s a) = s.extract a (posK s a 5)
instance (s : ByteArray) (a : Nat) : Decidable (goodAt s a) := by unfold goodAt; infer_instance
def runP (s : ByteArray) : Nat → Nat → List Posting → Option (List Posting)
  | 0, _, _ => none
  | f + 1, a, out => if a < s.size ∧ out.length ≤ 4000 then (if goodAt s a then runP s f (posK s a 5) (out ++ [postAt s a]) else none) else if 4000 < out.length then none else some out
theorem startAt_le (s : ByteArray) (a : Nat) : a ≤ startAt s a ∧ startAt s a ≤ a + 1 := by unfold startAt; split <;> omega
theorem readAt_gt (s : ByteArray) (a : Nat) : a < readAt s a := by have := startAt_le s a; unfold readAt; omega
theorem readAt_le {s : ByteArray} {a : Nat} (h : readOk s a = true) : readAt s a ≤ s.size + 1 := by
  unfold readOk at h
  have h := of_decide_eq_true h
  have := digs_len s (startAt s a)
  unfold readAt; omega
theorem readN_bd (s : ByteArray) (a : Nat) : -10000000000000 < readN s a ∧ readN s a < 10000000000000 := by
  have h := numOf_lt (s := s) (a := startAt s a) (digs s (startAt s a)).length (Nat.le_refl _)
  rw [List.take_length] at h
  have h1 := (digs_len s (startAt s a)).1
  have h2 : 10 ^ (digs s (startAt s a)).length ≤ 10 ^ 13 := Nat.pow_le_pow_right (by decide) h1
  unfold readN
  split <;> omega
end Go.Proofs.Ax
namespace Go.Proofs.Ax
open Go Go.Proofs
set_option maxRecDepth 10000
set_option maxHeartbeats 4000000
def paidAV (o : Option (List Posting)) : AV := match o with
  | none => .agg [.sc (.slice none 0 0), vi 7]
  | some l => .agg [postings false l, vi 0]
def arrK (s : ByteArray) (a : Nat) : Nat → List AV
  | 0 => [vi 0, vi 0, vi 0, vi 0, vi 0]
  | 1 => [vi (numK s a 0), vi 0, vi 0, vi 0, vi 0]
  | 2 => [vi (numK s a 0), vi (numK s a 1), vi 0, vi 0, vi 0]
  | 3 => [vi (numK s a 0), vi (numK s a 1), vi (numK s a 2), vi 0, vi 0]
  | 4 => [vi (numK s a 0), vi (numK s a 1), vi (numK s a 2), vi (numK s a 3), vi 0]
  | _ => [vi (numK s a 0), vi (numK s a 1), vi (numK s a 2), vi (numK s a 3), vi (numK s a 4)]
theorem rparse_ok (s : ByteArray) (hs : s.size ≤ 3000) : Pu Tryz.prog G1 49 [vs s] (paidAV (runP s (s.size + 1) 0 [])) := by
  refine Pu.of_ev (T := Tryz.tab) (n := 82) (tryd_ok _) Tryz.func49 rfl rfl rfl (by unfold paidAV; split <;> rfl) (by simp) ?_
  ((conv => whnf); repeat' ((first | refine vv1 ?_ | refine vv2 ?_ | refine vv3 ?_ | refine vv4 ?_ | refine vv5 ?_ | refine vv6 ?_ | refine vv7 ?_ | refine vv8 ?_ | refine vv9 ?_ | refine vv10 ?_ | refine vv11 (fun hbr => ?_) (fun hbr => ?_) | refine vv12 (fun hbr => ?_) (fun hbr => ?_) | refine vv13 ?_ | refine vv14 ?_ | refine vv15 ?_ | refine vv16 ?_ | refine vv17 (fun hbr => ?_) (fun hbr => ?_) | refine vv18 ?_ | refine vv19 (fun hbr => ?_) (fun hbr => ?_) | refine vv20 ?_ | refine SlIdxN.map _ rfl (by first | assumption | omega) ?_ | refine SlIdxN.mapPred (by omega) (by omega) ?_ | refine SlIdxN.mapSucc (by omega) ?_ | refine SlIdxN.lit _ _ rfl rfl ?_ | refine SlIdxN.mapInt (by omega) (by omega) ?_ | refine IdxN.at0 _ rfl (by first | assumption | omega | (simp <;> omega)) ?_ | refine vv21 ?_ | refine RowN.map (by first | assumption | omega) ?_ | refine vv22 ?_ | refine RowSN.map (by first | assumption | omega) ?_ | refine vv23 ?_ | refine vv24 ?_ | refine vv25 ?_ | refine Need.mk (by first | assumption | omega | (simp <;> omega)) ?_ | refine DrawN.gen (by first | exact tryd_ok _ | exact tryd_okm _ _) (by kernel_rfl) ?_ | refine vv26 ?_ | refine vv27 ?_ | refine vv28 ?_ | refine vv29 ?_ | refine vv30 ?_ | refine vv31 ?_ | refine vv32 ?_ | refine vv33 ?_) <;> (conv => whnf)))
  generalize hR : runP s (s.size + 1) 0 [] = R
  refine LoopN.of2 (tryd_ok _) (fun (a : Nat) (out : List Posting) => [(0, vs s), (2, .pm 0 0 0), (3, .sm 1 5 0 out.length), (4, vi a)]) (fun a out => [.rows [[.sc (.slice none 0 0), vi 0]] 70, .rows (out.map Posting.enc) 61]) (fun a out => s.size + 1 - a) (fun a out => a ≤ s.size ∧ out.length ≤ 4001 ∧ ∃ f, s.size < f + a ∧ runP s f a out = R) 0 [] ⟨Nat.zero_le _, by simp, s.size + 1, by omega, hR⟩ ((Reabs.virt 3 5 61 rfl).trans (Reabs.frmM [0, 1] (by repeat (first | exact trivial | refine ⟨.inr ⟨rfl, rfl⟩, ?_⟩ | refine ⟨.inr ⟨rfl, vi_eq (by first | omega | (simp; done) | (simp; omega))⟩, ?_⟩ | refine ⟨.inr ⟨rfl, smE rfl (by first | omega | (simp; done) | (simp; omega))⟩, ?_⟩)) (by repeat (first | exact trivial | refine ⟨⟨_, rfl, (by first | exact blkDead | exact blkDeep rfl (deepLit rfl) | exact blkDeep rfl (deepMap (fun _ => rfl)) | exact blkOk rfl rfl | exact blkLoop rfl rfl), (by first | exact fun _ => rfl | exact fun h => (by cases h))⟩, ?_⟩)) rfl rfl)) ?_
  rintro a out ⟨ha, ho, f, hf, hr⟩
  obtain ⟨f, rfl⟩ : ∃ g, f = g + 1 := ⟨f - 1, by omega⟩
  unfold runP at hr
  by_cases hc : a < s.size ∧ out.length ≤ 4000
  · rw [if_pos hc] at hr
    obtain ⟨c1, c2⟩ := hc
    ((conv => whnf); repeat' ((first | refine vv1 ?_ | refine vv2 ?_ | refine vv3 ?_ | refine vv4 ?_ | refine vv5 ?_ | refine vv6 ?_ | refine vv7 ?_ | refine vv8 ?_ | refine vv9 ?_ | refine vv10 ?_ | refine vv11 (fun hbr => ?_) (fun hbr => ?_) | refine vv12 (fun hbr => ?_) (fun hbr => ?_) | refine vv13 ?_ | refine vv14 ?_ | refine vv15 ?_ | refine vv16 ?_ | refine vv17 (fun hbr => ?_) (fun hbr => ?_) | refine vv18 ?_ | refine vv19 (fun hbr => ?_) (fun hbr => ?_) | refine vv20 ?_ | refine SlIdxN.map _ rfl (by first | assumption | omega) ?_ | refine SlIdxN.mapPred (by omega) (by omega) ?_ | refine SlIdxN.mapSucc (by omega) ?_ | refine SlIdxN.lit _ _ rfl rfl ?_ | refine SlIdxN.mapInt (by omega) (by omega) ?_ | refine IdxN.at0 _ rfl (by first | assumption | omega | (simp <;> omega)) ?_ | refine vv21 ?_ | refine RowN.map (by first | assumption | omega) ?_ | refine vv22 ?_ | refine RowSN.map (by first | assumption | omega) ?_ | refine vv23 ?_ | refine vv24 ?_ | refine vv25 ?_ | refine Need.mk (by first | assumption | omega | (simp <;> omega)) ?_ | refine DrawN.gen (by first | exact tryd_ok _ | exact tryd_okm _ _) (by kernel_rfl) ?_ | refine vv26 ?_ | refine vv27 ?_ | refine vv28 ?_ | refine vv29 ?_ | refine vv30 ?_ | refine vv31 ?_ | refine vv32 ?_ | refine vv33 ?_) <;> (conv => whnf)))
    refine LoopN.of (tryd_ok _) (fun k : Nat => [(0, vs s), (2, .pm 0 0 0), (3, .sm 1 5 0 out.length), (4, vi (posK s a k)), (5, vi a), (6, .pm 2 0 0), (7, vi k)]) (fun k => [.rows [[.sc (.slice none 0 0), vi 0]] 70, .rows (out.map Posting.enc) 61, .rows [arrK s a k] 143]) (fun k => 5 - k) (fun k => k ≤ 5 ∧ ∀ j, j < k → readOk s (posK s a j) = true) 0 ⟨Nat.zero_le _, fun j h => absurd h (Nat.not_lt_zero _)⟩ (Reabs.frmM [0, 1, 2] (by repeat (first | exact trivial | refine ⟨.inr ⟨rfl, rfl⟩, ?_⟩ | refine ⟨.inr ⟨rfl, vi_eq (by first | omega | (simp; done) | (simp; omega))⟩, ?_⟩ | refine ⟨.inr ⟨rfl, smE rfl (by first | omega | (simp; done) | (simp; omega))⟩, ?_⟩)) (by repeat (first | exact trivial | refine ⟨⟨_, rfl, (by first | exact blkDead | exact blkDeep rfl (deepLit rfl) | exact blkDeep rfl (deepMap (fun _ => rfl)) | exact blkOk rfl rfl | exact blkLoop rfl rfl), (by first | exact fun _ => rfl | exact fun h => (by cases h))⟩, ?_⟩)) rfl rfl) ?_
    rintro k ⟨hk, hok⟩
    have hpos : posK s a k ≤ s.size + 1 := by
      cases k with
      | zero => exact Nat.le_succ_of_le ha
      | succ j => exact readAt_le (hok j (by omega))
    have hrd := read_ok s (posK s a k) (by omega) (by omega)
    have hnb := readN_bd s (posK s a k)
    have hbad : readOk s (posK s a k) = false → k < 5 → paidAV none = paidAV R := fun h0 hk5 => by
      rw [if_neg] at hr
      · rw [hr]
      · rintro ⟨g1, -⟩
        rw [g1 k hk5] at h0
        cases h0
    match k, hk, hok, hpos, hrd, hnb, hbad with
    | 0, hk, hok, hpos, hrd, hnb, hbad =>
      ((conv => whnf); repeat' ((first | refine vv1 ?_ | refine vv2 ?_ | refine vv3 ?_ | refine vv4 ?_ | refine vv5 ?_ | refine vv6 ?_ | refine vv7 ?_ | refine vv8 ?_ | refine vv9 ?_ | refine vv10 ?_ | refine vv11 (fun hbr => ?_) (fun hbr => ?_) | refine vv12 (fun hbr => ?_) (fun hbr => ?_) | refine vv13 ?_ | refine vv14 ?_ | refine vv15 ?_ | refine vv16 ?_ | refine vv17 (fun hbr => ?_) (fun hbr => ?_) | refine vv18 ?_ | refine vv19 (fun hbr => ?_) (fun hbr => ?_) | refine vv20 ?_ | refine SlIdxN.map _ rfl (by first | assumption | omega) ?_ | refine SlIdxN.mapPred (by omega) (by omega) ?_ | refine SlIdxN.mapSucc (by omega) ?_ | refine SlIdxN.lit _ _ rfl rfl ?_ | refine SlIdxN.mapInt (by omega) (by omega) ?_ | refine IdxN.at0 _ rfl (by first | assumption | omega | (simp <;> omega)) ?_ | refine vv21 ?_ | refine RowN.map (by first | assumption | omega) ?_ | refine vv22 ?_ | refine RowSN.map (by first | assumption | omega) ?_ | refine vv23 ?_ | refine vv24 ?_ | refine vv25 ?_ | refine Need.mk (by first | assumption | omega | (simp <;> omega)) ?_ | refine DrawN.gen (by first | exact tryd_ok _ | exact tryd_okm _ _) (by kernel_rfl) ?_ | refine vv26 ?_ | refine vv27 ?_ | refine vv28 ?_ | refine vv29 ?_ | refine vv30 ?_ | refine vv31 ?_ | refine vv32 ?_ | refine vv33 ?_ | refine CallN.pure (hrd) ?_ | refine GCallN.pure _ (hrd) ?_ | refine GCallN.ef (hrd) ?_) <;> (conv => whnf)))
      · refine BackN.mk 1 ⟨by omega, fun j hj => ?_⟩ (by omega) (Reabs.frmM [0, 1, 2] (by repeat (first | exact trivial | refine ⟨.inr ⟨rfl, rfl⟩, ?_⟩ | refine ⟨.inr ⟨rfl, vi_eq (by first | omega | (simp; done) | (simp; omega))⟩, ?_⟩ | refine ⟨.inr ⟨rfl, smE rfl (by first | omega | (simp; done) | (simp; omega))⟩, ?_⟩)) (by repeat (first | exact trivial | refine ⟨⟨_, rfl, (by first | exact blkDead | exact blkDeep rfl (deepLit rfl) | exact blkDeep rfl (deepMap (fun _ => rfl)) | exact blkOk rfl rfl | exact blkLoop rfl rfl), (by first | exact fun _ => rfl | exact fun h => (by cases h))⟩, ?_⟩)) rfl rfl)
        rcases Nat.lt_succ_iff_lt_or_eq.1 hj with h | rfl
        · exact hok j h
        · exact decide_eq_true (by assumption)
      · refine DoneN.pure (hbad ?_ (by omega))
        unfold readOk
        exact decide_eq_false (by assumption)
    | 1, hk, hok, hpos, hrd, hnb, hbad =>
      ((conv => whnf); repeat' ((first | refine vv1 ?_ | refine vv2 ?_ | refine vv3 ?_ | refine vv4 ?_ | refine vv5 ?_ | refine vv6 ?_ | refine vv7 ?_ | refine vv8 ?_ | refine vv9 ?_ | refine vv10 ?_ | refine vv11 (fun hbr => ?_) (fun hbr => ?_) | refine vv12 (fun hbr => ?_) (fun hbr => ?_) | refine vv13 ?_ | refine vv14 ?_ | refine vv15 ?_ | refine vv16 ?_ | refine vv17 (fun hbr => ?_) (fun hbr => ?_) | refine vv18 ?_ | refine vv19 (fun hbr => ?_) (fun hbr => ?_) | refine vv20 ?_ | refine SlIdxN.map _ rfl (by first | assumption | omega) ?_ | refine SlIdxN.mapPred (by omega) (by omega) ?_ | refine SlIdxN.mapSucc (by omega) ?_ | refine SlIdxN.lit _ _ rfl rfl ?_ | refine SlIdxN.mapInt (by omega) (by omega) ?_ | refine IdxN.at0 _ rfl (by first | assumption | omega | (simp <;> omega)) ?_ | refine vv21 ?_ | refine RowN.map (by first | assumption | omega) ?_ | refine vv22 ?_ | refine RowSN.map (by first | assumption | omega) ?_ | refine vv23 ?_ | refine vv24 ?_ | refine vv25 ?_ | refine Need.mk (by first | assumption | omega | (simp <;> omega)) ?_ | refine DrawN.gen (by first | exact tryd_ok _ | exact tryd_okm _ _) (by kernel_rfl) ?_ | refine vv26 ?_ | refine vv27 ?_ | refine vv28 ?_ | refine vv29 ?_ | refine vv30 ?_ | refine vv31 ?_ | refine vv32 ?_ | refine vv33 ?_ | refine CallN.pure (hrd) ?_ | refine GCallN.pure _ (hrd) ?_ | refine GCallN.ef (hrd) ?_) <;> (conv => whnf)))
      · refine BackN.mk 2 ⟨by omega, fun j hj => ?_⟩ (by omega) (Reabs.frmM [0, 1, 2] (by repeat (first | exact trivial | refine ⟨.inr ⟨rfl, rfl⟩, ?_⟩ | refine ⟨.inr ⟨rfl, vi_eq (by first | omega | (simp; done) | (simp; omega))⟩, ?_⟩ | refine ⟨.inr ⟨rfl, smE rfl (by first | omega | (simp; done) | (simp; omega))⟩, ?_⟩)) (by repeat (first | exact trivial | refine ⟨⟨_, rfl, (by first | exact blkDead | exact blkDeep rfl (deepLit rfl) | exact blkDeep rfl (deepMap (fun _ => rfl)) | exact blkOk rfl rfl | exact blkLoop rfl rfl), (by first | exact fun _ => rfl | exact fun h => (by cases h))⟩, ?_⟩)) rfl rfl)
        rcases Nat.lt_succ_iff_lt_or_eq.1 hj with h | rfl
        · exact hok j h
        · exact decide_eq_true (by assumption)
      · refine DoneN.pure (hbad ?_ (by omega))
        unfold readOk
        exact decide_eq_false (by assumption)
    | 2, hk, hok, hpos, hrd, hnb, hbad =>
      ((conv => whnf); repeat' ((first | refine vv1 ?_ | refine vv2 ?_ | refine vv3 ?_ | refine vv4 ?_ | refine vv5 ?_ | refine vv6 ?_ | refine vv7 ?_ | refine vv8 ?_ | refine vv9 ?_ | refine vv10 ?_ | refine vv11 (fun hbr => ?_) (fun hbr => ?_) | refine vv12 (fun hbr => ?_) (fun hbr => ?_) | refine vv13 ?_ | refine vv14 ?_ | refine vv15 ?_ | refine vv16 ?_ | refine vv17 (fun hbr => ?_) (fun hbr => ?_) | refine vv18 ?_ | refine vv19 (fun hbr => ?_) (fun hbr => ?_) | refine vv20 ?_ | refine SlIdxN.map _ rfl (by first | assumption | omega) ?_ | refine SlIdxN.mapPred (by omega) (by omega) ?_ | refine SlIdxN.mapSucc (by omega) ?_ | refine SlIdxN.lit _ _ rfl rfl ?_ | refine SlIdxN.mapInt (by omega) (by omega) ?_ | refine IdxN.at0 _ rfl (by first | assumption | omega | (simp <;> omega)) ?_ | refine vv21 ?_ | refine RowN.map (by first | assumption | omega) ?_ | refine vv22 ?_ | refine RowSN.map (by first | assumption | omega) ?_ | refine vv23 ?_ | refine vv24 ?_ | refine vv25 ?_ | refine Need.mk (by first | assumption | omega | (simp <;> omega)) ?_ | refine DrawN.gen (by first | exact tryd_ok _ | exact tryd_okm _ _) (by kernel_rfl) ?_ | refine vv26 ?_ | refine vv27 ?_ | refine vv28 ?_ | refine vv29 ?_ | refine vv30 ?_ | refine vv31 ?_ | refine vv32 ?_ | refine vv33 ?_ | refine CallN.pure (hrd) ?_ | refine GCallN.pure _ (hrd) ?_ | refine GCallN.ef (hrd) ?_) <;> (conv => whnf)))
      · refine BackN.mk 3 ⟨by omega, fun j hj => ?_⟩ (by omega) (Reabs.frmM [0, 1, 2] (by repeat (first | exact trivial | refine ⟨.inr ⟨rfl, rfl⟩, ?_⟩ | refine ⟨.inr ⟨rfl, vi_eq (by first | omega | (simp; done) | (simp; omega))⟩, ?_⟩ | refine ⟨.inr ⟨rfl, smE rfl (by first | omega | (simp; done) | (simp; omega))⟩, ?_⟩)) (by repeat (first | exact trivial | refine ⟨⟨_, rfl, (by first | exact blkDead | exact blkDeep rfl (deepLit rfl) | exact blkDeep rfl (deepMap (fun _ => rfl)) | exact blkOk rfl rfl | exact blkLoop rfl rfl), (by first | exact fun _ => rfl | exact fun h => (by cases h))⟩, ?_⟩)) rfl rfl)
        rcases Nat.lt_succ_iff_lt_or_eq.1 hj with h | rfl
        · exact hok j h
        · exact decide_eq_true (by assumption)
      · refine DoneN.pure (hbad ?_ (by omega))
        unfold readOk
        exact decide_eq_false (by assumption)
    | 3, hk, hok, hpos, hrd, hnb, hbad =>
      ((conv => whnf); repeat' ((first | refine vv1 ?_ | refine vv2 ?_ | refine vv3 ?_ | refine vv4 ?_ | refine vv5 ?_ | refine vv6 ?_ | refine vv7 ?_ | refine vv8 ?_ | refine vv9 ?_ | refine vv10 ?_ | refine vv11 (fun hbr => ?_) (fun hbr => ?_) | refine vv12 (fun hbr => ?_) (fun hbr => ?_) | refine vv13 ?_ | refine vv14 ?_ | refine vv15 ?_ | refine vv16 ?_ | refine vv17 (fun hbr => ?_) (fun hbr => ?_) | refine vv18 ?_ | refine vv19 (fun hbr => ?_) (fun hbr => ?_) | refine vv20 ?_ | refine SlIdxN.map _ rfl (by first | assumption | omega) ?_ | refine SlIdxN.mapPred (by omega) (by omega) ?_ | refine SlIdxN.mapSucc (by omega) ?_ | refine SlIdxN.lit _ _ rfl rfl ?_ | refine SlIdxN.mapInt (by omega) (by omega) ?_ | refine IdxN.at0 _ rfl (by first | assumption | omega | (simp <;> omega)) ?_ | refine vv21 ?_ | refine RowN.map (by first | assumption | omega) ?_ | refine vv22 ?_ | refine RowSN.map (by first | assumption | omega) ?_ | refine vv23 ?_ | refine vv24 ?_ | refine vv25 ?_ | refine Need.mk (by first | assumption | omega | (simp <;> omega)) ?_ | refine DrawN.gen (by first | exact tryd_ok _ | exact tryd_okm _ _) (by kernel_rfl) ?_ | refine vv26 ?_ | refine vv27 ?_ | refine vv28 ?_ | refine vv29 ?_ | refine vv30 ?_ | refine vv31 ?_ | refine vv32 ?_ | refine vv33 ?_ | refine CallN.pure (hrd) ?_ | refine GCallN.pure _ (hrd) ?_ | refine GCallN.ef (hrd) ?_) <;> (conv => whnf)))
      · refine BackN.mk 4 ⟨by omega, fun j hj => ?_⟩ (by omega) (Reabs.frmM [0, 1, 2] (by repeat (first | exact trivial | refine ⟨.inr ⟨rfl, rfl⟩, ?_⟩ | refine ⟨.inr ⟨rfl, vi_eq (by first | omega | (simp; done) | (simp; omega))⟩, ?_⟩ | refine ⟨.inr ⟨rfl, smE rfl (by first | omega | (simp; done) | (simp; omega))⟩, ?_⟩)) (by repeat (first | exact trivial | refine ⟨⟨_, rfl, (by first | exact blkDead | exact blkDeep rfl (deepLit rfl) | exact blkDeep rfl (deepMap (fun _ => rfl)) | exact blkOk rfl rfl | exact blkLoop rfl rfl), (by first | exact fun _ => rfl | exact fun h => (by cases h))⟩, ?_⟩)) rfl rfl)
        rcases Nat.lt_succ_iff_lt_or_eq.1 hj with h | rfl
        · exact hok j h
        · exact decide_eq_true (by assumption)
      · refine DoneN.pure (hbad ?_ (by omega))
        unfold readOk
        exact decide_eq_false (by assumption)
    | 4, hk, hok, hpos, hrd, hnb, hbad =>
      ((conv => whnf); repeat' ((first | refine vv1 ?_ | refine vv2 ?_ | refine vv3 ?_ | refine vv4 ?_ | refine vv5 ?_ | refine vv6 ?_ | refine vv7 ?_ | refine vv8 ?_ | refine vv9 ?_ | refine vv10 ?_ | refine vv11 (fun hbr => ?_) (fun hbr => ?_) | refine vv12 (fun hbr => ?_) (fun hbr => ?_) | refine vv13 ?_ | refine vv14 ?_ | refine vv15 ?_ | refine vv16 ?_ | refine vv17 (fun hbr => ?_) (fun hbr => ?_) | refine vv18 ?_ | refine vv19 (fun hbr => ?_) (fun hbr => ?_) | refine vv20 ?_ | refine SlIdxN.map _ rfl (by first | assumption | omega) ?_ | refine SlIdxN.mapPred (by omega) (by omega) ?_ | refine SlIdxN.mapSucc (by omega) ?_ | refine SlIdxN.lit _ _ rfl rfl ?_ | refine SlIdxN.mapInt (by omega) (by omega) ?_ | refine IdxN.at0 _ rfl (by first | assumption | omega | (simp <;> omega)) ?_ | refine vv21 ?_ | refine RowN.map (by first | assumption | omega) ?_ | refine vv22 ?_ | refine RowSN.map (by first | assumption | omega) ?_ | refine vv23 ?_ | refine vv24 ?_ | refine vv25 ?_ | refine Need.mk (by first | assumption | omega | (simp <;> omega)) ?_ | refine DrawN.gen (by first | exact tryd_ok _ | exact tryd_okm _ _) (by kernel_rfl) ?_ | refine vv26 ?_ | refine vv27 ?_ | refine vv28 ?_ | refine vv29 ?_ | refine vv30 ?_ | refine vv31 ?_ | refine vv32 ?_ | refine vv33 ?_ | refine CallN.pure (hrd) ?_ | refine GCallN.pure _ (hrd) ?_ | refine GCallN.ef (hrd) ?_) <;> (conv => whnf)))
      · refine BackN.mk 5 ⟨by omega, fun j hj => ?_⟩ (by omega) (Reabs.frmM [0, 1, 2] (by repeat (first | exact trivial | refine ⟨.inr ⟨rfl, rfl⟩, ?_⟩ | refine ⟨.inr ⟨rfl, vi_eq (by first | omega | (simp; done) | (simp; omega))⟩, ?_⟩ | refine ⟨.inr ⟨rfl, smE rfl (by first | omega | (simp; done) | (simp; omega))⟩, ?_⟩)) (by repeat (first | exact trivial | refine ⟨⟨_, rfl, (by first | exact blkDead | exact blkDeep rfl (deepLit rfl) | exact blkDeep rfl (deepMap (fun _ => rfl)) | exact blkOk rfl rfl | exact blkLoop rfl rfl), (by first | exact fun _ => rfl | exact fun h => (by cases h))⟩, ?_⟩)) rfl rfl)
        rcases Nat.lt_succ_iff_lt_or_eq.1 hj with h | rfl
        · exact hok j h
        · exact decide_eq_true (by assumption)
      · refine DoneN.pure (hbad ?_ (by omega))
        unfold readOk
        exact decide_eq_false (by assumption)
    | 5, hk, hok, hpos, hrd, hnb, hbad =>
      have hp := rposting_ok (postAt s a)
      have hgt : a < posK s a 5 := Nat.lt_of_lt_of_le (readAt_gt s a) (Nat.le_of_lt (Nat.lt_trans (readAt_gt _ _) (Nat.lt_trans (readAt_gt _ _) (Nat.lt_trans (readAt_gt _ _) (readAt_gt _ _)))))
      have hno : ¬ goodAt s a → paidAV none = paidAV R := fun h => by rw [if_neg h] at hr; rw [hr]
      by_cases hv : (postAt s a).ok
      · have hl := line_ok _ hv
        have hls := lineB_size hv
        ((conv => whnf); repeat' ((first | refine vv1 ?_ | refine vv2 ?_ | refine vv3 ?_ | refine vv4 ?_ | refine vv5 ?_ | refine vv6 ?_ | refine vv7 ?_ | refine vv8 ?_ | refine vv9 ?_ | refine vv10 ?_ | refine vv11 (fun hbr => ?_) (fun hbr => ?_) | refine vv12 (fun hbr => ?_) (fun hbr => ?_) | refine vv13 ?_ | refine vv14 ?_ | refine vv15 ?_ | refine vv16 ?_ | refine vv17 (fun hbr => ?_) (fun hbr => ?_) | refine vv18 ?_ | refine vv19 (fun hbr => ?_) (fun hbr => ?_) | refine vv20 ?_ | refine SlIdxN.map _ rfl (by first | assumption | omega) ?_ | refine SlIdxN.mapPred (by omega) (by omega) ?_ | refine SlIdxN.mapSucc (by omega) ?_ | refine SlIdxN.lit _ _ rfl rfl ?_ | refine SlIdxN.mapInt (by omega) (by omega) ?_ | refine IdxN.at0 _ rfl (by first | assumption | omega | (simp <;> omega)) ?_ | refine vv21 ?_ | refine RowN.map (by first | assumption | omega) ?_ | refine vv22 ?_ | refine RowSN.map (by first | assumption | omega) ?_ | refine vv23 ?_ | refine vv24 ?_ | refine vv25 ?_ | refine Need.mk (by first | assumption | omega | (simp <;> omega)) ?_ | refine DrawN.gen (by first | exact tryd_ok _ | exact tryd_okm _ _) (by kernel_rfl) ?_ | refine vv26 ?_ | refine vv27 ?_ | refine vv28 ?_ | refine vv29 ?_ | refine vv30 ?_ | refine vv31 ?_ | refine vv32 ?_ | refine vv33 ?_ | refine CallN.pure (hp) ?_ | refine CallN.pure (hl) ?_ | refine GCallN.pure _ (hp) ?_ | refine GCallN.pure _ (hl) ?_ | refine GCallN.ef (hp) ?_ | refine GCallN.ef (hl) ?_) <;> (conv => whnf)))
        all_goals first
          | exact DoneN.pure (hno fun h => absurd h.2.2.1 (by omega))
          | exact DoneN.pure (hno fun h => absurd h.2.2.2 (by assumption))
          | skip
        rename_i hbr
        have hg : goodAt s a := ⟨fun j hj => hok j hj, hv, by omega, hbr⟩
        rw [if_pos hg] at hr
        exact BackN2.mk (posK s a 5) (out ++ [postAt s a]) ⟨by omega, by simp; omega, f, by omega, hr⟩ (by omega) (Reabs.frmM [0, 4] (by repeat (first | exact trivial | refine ⟨.inr ⟨rfl, rfl⟩, ?_⟩ | refine ⟨.inr ⟨rfl, vi_eq (by first | omega | (simp; done) | (simp; omega))⟩, ?_⟩ | refine ⟨.inr ⟨rfl, smE rfl (by first | omega | (simp; done) | (simp; omega))⟩, ?_⟩)) (by exact ⟨⟨_, rfl, blkDeep rfl (deepLit rfl), fun _ => rfl⟩, ⟨_, rfl, blkDeep (by rw [List.map_append]; rfl) (deepMap (fun _ => rfl)), fun _ => rfl⟩, trivial⟩) rfl rfl)
      · ((conv => whnf); repeat' ((first | refine vv1 ?_ | refine vv2 ?_ | refine vv3 ?_ | refine vv4 ?_ | refine vv5 ?_ | refine vv6 ?_ | refine vv7 ?_ | refine vv8 ?_ | refine vv9 ?_ | refine vv10 ?_ | refine vv11 (fun hbr => ?_) (fun hbr => ?_) | refine vv12 (fun hbr => ?_) (fun hbr => ?_) | refine vv13 ?_ | refine vv14 ?_ | refine vv15 ?_ | refine vv16 ?_ | refine vv17 (fun hbr => ?_) (fun hbr => ?_) | refine vv18 ?_ | refine vv19 (fun hbr => ?_) (fun hbr => ?_) | refine vv20 ?_ | refine SlIdxN.map _ rfl (by first | assumption | omega) ?_ | refine SlIdxN.mapPred (by omega) (by omega) ?_ | refine SlIdxN.mapSucc (by omega) ?_ | refine SlIdxN.lit _ _ rfl rfl ?_ | refine SlIdxN.mapInt (by omega) (by omega) ?_ | refine IdxN.at0 _ rfl (by first | assumption | omega | (simp <;> omega)) ?_ | refine vv21 ?_ | refine RowN.map (by first | assumption | omega) ?_ | refine vv22 ?_ | refine RowSN.map (by first | assumption | omega) ?_ | refine vv23 ?_ | refine vv24 ?_ | refine vv25 ?_ | refine Need.mk (by first | assumption | omega | (simp <;> omega)) ?_ | refine DrawN.gen (by first | exact tryd_ok _ | exact tryd_okm _ _) (by kernel_rfl) ?_ | refine vv26 ?_ | refine vv27 ?_ | refine vv28 ?_ | refine vv29 ?_ | refine vv30 ?_ | refine vv31 ?_ | refine vv32 ?_ | refine vv33 ?_ | refine CallN.pure (hp) ?_ | refine GCallN.pure _ (hp) ?_ | refine GCallN.ef (hp) ?_) <;> (conv => whnf)))
        all_goals exact DoneN.pure (hno fun h => hv h.2.1)
    | k + 6, hk, _, _, _, _, _ => exact absurd hk (by omega)
  · rw [if_neg hc] at hr
    by_cases h4 : 4000 < out.length
    · rw [if_pos h4] at hr
      subst hr
      ((conv => whnf); repeat' ((first | refine vv1 ?_ | refine vv2 ?_ | refine vv3 ?_ | refine vv4 ?_ | refine vv5 ?_ | refine vv6 ?_ | refine vv7 ?_ | refine vv8 ?_ | refine vv9 ?_ | refine vv10 ?_ | refine vv11 (fun hbr => ?_) (fun hbr => ?_) | refine vv12 (fun hbr => ?_) (fun hbr => ?_) | refine vv13 ?_ | refine vv14 ?_ | refine vv15 ?_ | refine vv16 ?_ | refine vv17 (fun hbr => ?_) (fun hbr => ?_) | refine vv18 ?_ | refine vv19 (fun hbr => ?_) (fun hbr => ?_) | refine vv20 ?_ | refine SlIdxN.map _ rfl (by first | assumption | omega) ?_ | refine SlIdxN.mapPred (by omega) (by omega) ?_ | refine SlIdxN.mapSucc (by omega) ?_ | refine SlIdxN.lit _ _ rfl rfl ?_ | refine SlIdxN.mapInt (by omega) (by omega) ?_ | refine IdxN.at0 _ rfl (by first | assumption | omega | (simp <;> omega)) ?_ | refine vv21 ?_ | refine RowN.map (by first | assumption | omega) ?_ | refine vv22 ?_ | refine RowSN.map (by first | assumption | omega) ?_ | refine vv23 ?_ | refine vv24 ?_ | refine vv25 ?_ | refine Need.mk (by first | assumption | omega | (simp <;> omega)) ?_ | refine DrawN.gen (by first | exact tryd_ok _ | exact tryd_okm _ _) (by kernel_rfl) ?_ | refine vv26 ?_ | refine vv27 ?_ | refine vv28 ?_ | refine vv29 ?_ | refine vv30 ?_ | refine vv31 ?_ | refine vv32 ?_ | refine vv33 ?_) <;> (conv => whnf)))
      · exact DoneN.pure rfl
      · exact DoneN.pure rfl
    · rw [if_neg h4] at hr
      subst hr
      have : ¬ a < s.size := fun h => hc ⟨h, by omega⟩
      ((conv => whnf); repeat' ((first | refine vv1 ?_ | refine vv2 ?_ | refine vv3 ?_ | refine vv4 ?_ | refine vv5 ?_ | refine vv6 ?_ | refine vv7 ?_ | refine vv8 ?_ | refine vv9 ?_ | refine vv10 ?_ | refine vv11 (fun hbr => ?_) (fun hbr => ?_) | refine vv12 (fun hbr => ?_) (fun hbr => ?_) | refine vv13 ?_ | refine vv14 ?_ | refine vv15 ?_ | refine vv16 ?_ | refine vv17 (fun hbr => ?_) (fun hbr => ?_) | refine vv18 ?_ | refine vv19 (fun hbr => ?_) (fun hbr => ?_) | refine vv20 ?_ | refine SlIdxN.map _ rfl (by first | assumption | omega) ?_ | refine SlIdxN.mapPred (by omega) (by omega) ?_ | refine SlIdxN.mapSucc (by omega) ?_ | refine SlIdxN.lit _ _ rfl rfl ?_ | refine SlIdxN.mapInt (by omega) (by omega) ?_ | refine IdxN.at0 _ rfl (by first | assumption | omega | (simp <;> omega)) ?_ | refine vv21 ?_ | refine RowN.map (by first | assumption | omega) ?_ | refine vv22 ?_ | refine RowSN.map (by first | assumption | omega) ?_ | refine vv23 ?_ | refine vv24 ?_ | refine vv25 ?_ | refine Need.mk (by first | assumption | omega | (simp <;> omega)) ?_ | refine DrawN.gen (by first | exact tryd_ok _ | exact tryd_okm _ _) (by kernel_rfl) ?_ | refine vv26 ?_ | refine vv27 ?_ | refine vv28 ?_ | refine vv29 ?_ | refine vv30 ?_ | refine vv31 ?_ | refine vv32 ?_ | refine vv33 ?_) <;> (conv => whnf)))
      refine DoneN.frz 1 (out.map Posting.enc) 61 rfl (deepR (fun _ => rfl)) (DoneN.pure ?_)
      simp only [AV.frz2, AV.frz1, AV.frz0, paidAV, List.map_cons, List.map_nil]
      rw [if_pos trivial, if_pos (by simp), List.drop_zero, List.take_of_length_le (by simp)]
      rfl
end Go.Proofs.Ax
