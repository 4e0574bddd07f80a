import Derived.Test.YtdfgphfijfocoaaGreatDoorRbPE
import Derived.Test.YtdfgphfijfocoaaGreatDoorAxSo
import Derived.Test.YtdfgphfijfocoaaGreatDoorRbM1
import Derived.Test.YtdfgphfijfocoaaGreatDoorAxG
namespace Go.Proofs.Ax
open Go Go.Proofs
/-! The accounts of postings, and their balances. -/
def accs (l : List Posting) : List Int := l.flatMap fun p => [p.src, p.dst]
def accts (l : List Posting) : List Int := putAll [] (accs l)
abbrev Chg := Int × Int
abbrev Chg.enc (c : Chg) : List AV := [vi c.1, vi c.2]
abbrev chgs (t : Bool) (l : List Chg) : AV := .sl 2 t (l.map Chg.enc)
def balsOf (l : List Posting) : List Chg := (accts l).map fun a => (a, bal l a)
theorem accts_inc (l : List Posting) : Inc (accts l) := putAll_inc _ .nil
theorem mem_accts {l : List Posting} {a : Int} : a ∈ accts l ↔ a ∈ accs l := by
  rw [accts, mem_putAll]; simp
theorem accs_len (l : List Posting) : (accs l).length = 2 * l.length := by
  unfold accs
  induction l with
  | nil => rfl
  | cons p l ih => simp only [List.flatMap_cons, List.length_append, List.length_cons, List.length_nil, ih]; omega
theorem accts_len (l : List Posting) : (accts l).length ≤ 2 * l.length := by
  have := putAll_len (accs l) []
  rw [accs_len] at this
  simpa [accts] using this
theorem balsOf_len (l : List Posting) : (balsOf l).length ≤ 2 * l.length := by rw [balsOf, List.length_map]; exact accts_len l
theorem balsOf_mem {l : List Posting} {c : Chg} (h : c ∈ balsOf l) : c.1 ∈ accts l ∧ c.2 = bal l c.1 := by
  obtain ⟨a, ha, rfl⟩ := List.mem_map.1 h
  exact ⟨ha, rfl⟩
theorem accs_append (l m : List Posting) : accs (l ++ m) = accs l ++ accs m := by simp [accs]
theorem change_split {p : Posting} (h : p.src ≠ p.dst) (a : Int) : change p a = (if a = p.dst then p.amount else 0) + (if a = p.src then -p.amount else 0) := by
  unfold change
  by_cases h1 : a = p.dst
  · rw [if_pos (by omega), if_pos h1, if_neg (by omega)]; omega
  · rw [if_neg (by omega), if_neg h1]
    by_cases h2 : a = p.src
    · rw [if_pos (by omega)]; omega
    · rw [if_neg (by omega)]; rfl
end Go.Proofs.Ax
namespace Go.Proofs.Ax
open Go Go.Proofs
set_option maxRecDepth 10000
set_option maxHeartbeats 4000000
theorem put_rows (l : List Int) (n : Int) (k : Nat) : [] ++ List.take k (List.map intRow l) ++ [intRow n] ++ List.drop k (List.map intRow l) = (l.take k ++ n :: l.drop k).map intRow := by simp
theorem put_ok (l : List Int) (n : Int) (hmax : l.length ≤ 1000000) : Pu Tryz.prog G1 112 [ints false l, vi n] (ints false (putL n l)) := by
  refine Pu.of_ev (T := Tryz.tab) (n := 48) (tryd_ok _) Tryz.func112 rfl rfl rfl (by first | rfl | (split <;> rfl)) (by simp) ?_
  ((conv => whnf); repeat' ((first | refine vv1 ?_ | refine vv2 ?_ | refine vv3 ?_ | refine vv4 ?_ | refine vv5 ?_ | refine vv6 ?_ | refine vv7 ?_ | refine vv8 ?_ | refine vv9 ?_ | refine vv10 ?_ | refine vv11 (fun hbr => ?_) (fun hbr => ?_) | refine vv12 (fun hbr => ?_) (fun hbr => ?_) | refine vv13 ?_ | refine vv14 ?_ | refine vv15 ?_ | refine vv16 ?_ | refine vv17 (fun hbr => ?_) (fun hbr => ?_) | refine vv18 ?_ | refine vv19 (fun hbr => ?_) (fun hbr => ?_) | refine vv20 ?_ | refine SlIdxN.map _ rfl (by first | assumption | omega) ?_ | refine SlIdxN.mapPred (by omega) (by omega) ?_ | refine SlIdxN.mapSucc (by omega) ?_ | refine SlIdxN.lit _ _ rfl rfl ?_ | refine SlIdxN.mapInt (by omega) (by omega) ?_ | refine IdxN.at0 _ rfl (by first | assumption | omega | (simp <;> omega)) ?_ | refine vv21 ?_ | refine RowN.map (by first | assumption | omega) ?_ | refine vv22 ?_ | refine RowSN.map (by first | assumption | omega) ?_ | refine vv23 ?_ | refine vv24 ?_ | refine vv25 ?_ | refine Need.mk (by first | assumption | omega | (simp <;> omega)) ?_ | refine DrawN.gen (by first | exact tryd_ok _ | exact tryd_okm _ _) (by kernel_rfl) ?_ | refine vv26 ?_ | refine vv27 ?_ | refine vv28 ?_ | refine vv29 ?_ | refine vv30 ?_ | refine vv31 ?_ | refine vv32 ?_ | refine vv33 ?_) <;> (conv => whnf)))
  refine LoopN.of (tryd_ok _) (fun k : Nat => [(0, ints false l), (1, vi n), (5, vi k)]) (fun _ => []) (fun k => l.length - k) (fun k => k ≤ l.length ∧ ∀ i (h : i < l.length), i < k → l[i] < n) 0 ⟨Nat.zero_le _, fun i h hi => by omega⟩ (Reabs.frm0 rfl (by repeat (first | exact trivial | refine ⟨.inr ⟨rfl, rfl⟩, ?_⟩))) ?_
  rintro k ⟨hk, hall⟩
  by_cases hlt : k < l.length
  · by_cases hx : l[k] < n
    · ((conv => whnf); repeat' ((first | refine vv1 ?_ | refine vv2 ?_ | refine vv3 ?_ | refine vv4 ?_ | refine vv5 ?_ | refine vv6 ?_ | refine vv7 ?_ | refine vv8 ?_ | refine vv9 ?_ | refine vv10 ?_ | refine vv11 (fun hbr => ?_) (fun hbr => ?_) | refine vv12 (fun hbr => ?_) (fun hbr => ?_) | refine vv13 ?_ | refine vv14 ?_ | refine vv15 ?_ | refine vv16 ?_ | refine vv17 (fun hbr => ?_) (fun hbr => ?_) | refine vv18 ?_ | refine vv19 (fun hbr => ?_) (fun hbr => ?_) | refine vv20 ?_ | refine SlIdxN.map _ rfl (by first | assumption | omega) ?_ | refine SlIdxN.mapPred (by omega) (by omega) ?_ | refine SlIdxN.mapSucc (by omega) ?_ | refine SlIdxN.lit _ _ rfl rfl ?_ | refine SlIdxN.mapInt (by omega) (by omega) ?_ | refine IdxN.at0 _ rfl (by first | assumption | omega | (simp <;> omega)) ?_ | refine vv21 ?_ | refine RowN.map (by first | assumption | omega) ?_ | refine vv22 ?_ | refine RowSN.map (by first | assumption | omega) ?_ | refine vv23 ?_ | refine vv24 ?_ | refine vv25 ?_ | refine Need.mk (by first | assumption | omega | (simp <;> omega)) ?_ | refine DrawN.gen (by first | exact tryd_ok _ | exact tryd_okm _ _) (by kernel_rfl) ?_ | refine vv26 ?_ | refine vv27 ?_ | refine vv28 ?_ | refine vv29 ?_ | refine vv30 ?_ | refine vv31 ?_ | refine vv32 ?_ | refine vv33 ?_) <;> (conv => whnf)))
      refine BackN.mk (k + 1) ⟨by omega, fun i h hi => ?_⟩ (by omega) (Reabs.frm0 rfl (by repeat (first | exact trivial | refine ⟨.inr ⟨rfl, rfl⟩, ?_⟩)))
      by_cases e : i = k
      · subst e; exact hx
      · exact hall i h (by omega)
    · have hke := lessK_eq hk hall (fun _ => hx)
      by_cases hq : l[k] = n
      · have hp : putL n l = l := by
          subst hke
          exact putL_has hlt hq
        rw [hp]
        ((conv => whnf); repeat' ((first | refine vv1 ?_ | refine vv2 ?_ | refine vv3 ?_ | refine vv4 ?_ | refine vv5 ?_ | refine vv6 ?_ | refine vv7 ?_ | refine vv8 ?_ | refine vv9 ?_ | refine vv10 ?_ | refine vv11 (fun hbr => ?_) (fun hbr => ?_) | refine vv12 (fun hbr => ?_) (fun hbr => ?_) | refine vv13 ?_ | refine vv14 ?_ | refine vv15 ?_ | refine vv16 ?_ | refine vv17 (fun hbr => ?_) (fun hbr => ?_) | refine vv18 ?_ | refine vv19 (fun hbr => ?_) (fun hbr => ?_) | refine vv20 ?_ | refine SlIdxN.map _ rfl (by first | assumption | omega) ?_ | refine SlIdxN.mapPred (by omega) (by omega) ?_ | refine SlIdxN.mapSucc (by omega) ?_ | refine SlIdxN.lit _ _ rfl rfl ?_ | refine SlIdxN.mapInt (by omega) (by omega) ?_ | refine IdxN.at0 _ rfl (by first | assumption | omega | (simp <;> omega)) ?_ | refine vv21 ?_ | refine RowN.map (by first | assumption | omega) ?_ | refine vv22 ?_ | refine RowSN.map (by first | assumption | omega) ?_ | refine vv23 ?_ | refine vv24 ?_ | refine vv25 ?_ | refine Need.mk (by first | assumption | omega | (simp <;> omega)) ?_ | refine DrawN.gen (by first | exact tryd_ok _ | exact tryd_okm _ _) (by kernel_rfl) ?_ | refine vv26 ?_ | refine vv27 ?_ | refine vv28 ?_ | refine vv29 ?_ | refine vv30 ?_ | refine vv31 ?_ | refine vv32 ?_ | refine vv33 ?_) <;> (conv => whnf)))
        exact DoneN.pure rfl
      · have hp := putL_new (n := n) (l := l) (fun h => by
          subst hke
          exact hq)
        rw [← hke] at hp
        rw [hp]
        clear hke hall hp
        ((conv => whnf); repeat' ((first | refine AppN.len k (by first | omega | (simp; done) | (simp; omega)) (by first | omega | (simp; done) | (simp; omega)) (by first | omega | (simp; done) | (simp; omega)) ?_ | refine AppN.len (k + 1) (by first | omega | (simp; done) | (simp; omega)) (by first | omega | (simp; done) | (simp; omega)) (by first | omega | (simp; done) | (simp; omega)) ?_ | refine AppN.len (l.length + 1) (by first | omega | (simp; done) | (simp; omega)) (by first | omega | (simp; done) | (simp; omega)) (by first | omega | (simp; done) | (simp; omega)) ?_ | refine RowN.row2 (by first | omega | (show _ = _ + 1; omega)) ?_ | refine RowN.row1 (by first | omega | (show _ = _ + 1; omega)) ?_ | refine RowN.rowB (by first | omega | (show _ = _ + 1; omega)) ?_ | refine RowSN.row2 (by first | omega | (show _ = _ + 1; omega)) ?_ | refine RowSN.row1 (by first | omega | (show _ = _ + 1; omega)) ?_ | refine RowSN.rowB (by first | omega | (show _ = _ + 1; omega)) ?_ | refine IxN.mk _ rfl ?_ | refine shr_ok rfl rfl ?_ | refine WrapN.inU ⟨by omega, by omega⟩ ?_ | refine vv1 ?_ | refine vv2 ?_ | refine vv3 ?_ | refine vv4 ?_ | refine vv5 ?_ | refine vv6 ?_ | refine vv7 ?_ | refine vv8 ?_ | refine vv9 ?_ | refine vv10 ?_ | refine vv11 (fun hbr => ?_) (fun hbr => ?_) | refine vv12 (fun hbr => ?_) (fun hbr => ?_) | refine vv13 ?_ | refine vv14 ?_ | refine vv15 ?_ | refine vv16 ?_ | refine vv17 (fun hbr => ?_) (fun hbr => ?_) | refine vv18 ?_ | refine vv19 (fun hbr => ?_) (fun hbr => ?_) | refine vv20 ?_ | refine SlIdxN.map _ rfl (by first | assumption | omega) ?_ | refine SlIdxN.mapPred (by omega) (by omega) ?_ | refine SlIdxN.mapSucc (by omega) ?_ | refine SlIdxN.lit _ _ rfl rfl ?_ | refine SlIdxN.mapInt (by omega) (by omega) ?_ | refine IdxN.at0 _ rfl (by first | assumption | omega | (simp <;> omega)) ?_ | refine vv21 ?_ | refine RowN.map (by first | assumption | omega) ?_ | refine vv22 ?_ | refine RowSN.map (by first | assumption | omega) ?_ | refine vv23 ?_ | refine vv24 ?_ | refine vv25 ?_ | refine Need.mk (by first | assumption | omega | (simp <;> omega)) ?_ | refine DrawN.gen (by first | exact tryd_ok _ | exact tryd_okm _ _) (by kernel_rfl) ?_ | refine vv26 ?_ | refine vv27 ?_ | refine vv28 ?_ | refine vv29 ?_ | refine vv30 ?_ | refine vv31 ?_ | refine vv32 ?_ | refine vv33 ?_) <;> (conv => whnf)))
        refine DoneN.frz 2 ((l.take k ++ n :: l.drop k).map intRow) 3 (congrArg (fun r => some (ABlk.rows r 3)) (put_rows l n _)) (deepR (fun _ => rfl)) (DoneN.pure ?_)
        show (AV.sm 2 1 0 _).frz0 2 _ = _
        rw [frz_all (by simp; omega)]
        rfl
  · have hke := lessK_eq hk hall (fun h => absurd h hlt)
    obtain rfl : k = l.length := by omega
    have hp := putL_new (n := n) (l := l) (fun h => by omega)
    rw [← hke] at hp
    rw [hp]
    clear hke hall hp
    ((conv => whnf); repeat' ((first | refine AppN.len l.length (by first | omega | (simp; done) | (simp; omega)) (by first | omega | (simp; done) | (simp; omega)) (by first | omega | (simp; done) | (simp; omega)) ?_ | refine AppN.len (l.length + 1) (by first | omega | (simp; done) | (simp; omega)) (by first | omega | (simp; done) | (simp; omega)) (by first | omega | (simp; done) | (simp; omega)) ?_ | refine RowN.row2 (by first | omega | (show _ = _ + 1; omega)) ?_ | refine RowN.row1 (by first | omega | (show _ = _ + 1; omega)) ?_ | refine RowN.rowB (by first | omega | (show _ = _ + 1; omega)) ?_ | refine RowSN.row2 (by first | omega | (show _ = _ + 1; omega)) ?_ | refine RowSN.row1 (by first | omega | (show _ = _ + 1; omega)) ?_ | refine RowSN.rowB (by first | omega | (show _ = _ + 1; omega)) ?_ | refine IxN.mk _ rfl ?_ | refine shr_ok rfl rfl ?_ | refine WrapN.inU ⟨by omega, by omega⟩ ?_ | refine vv1 ?_ | refine vv2 ?_ | refine vv3 ?_ | refine vv4 ?_ | refine vv5 ?_ | refine vv6 ?_ | refine vv7 ?_ | refine vv8 ?_ | refine vv9 ?_ | refine vv10 ?_ | refine vv11 (fun hbr => ?_) (fun hbr => ?_) | refine vv12 (fun hbr => ?_) (fun hbr => ?_) | refine vv13 ?_ | refine vv14 ?_ | refine vv15 ?_ | refine vv16 ?_ | refine vv17 (fun hbr => ?_) (fun hbr => ?_) | refine vv18 ?_ | refine vv19 (fun hbr => ?_) (fun hbr => ?_) | refine vv20 ?_ | refine SlIdxN.map _ rfl (by first | assumption | omega) ?_ | refine SlIdxN.mapPred (by omega) (by omega) ?_ | refine SlIdxN.mapSucc (by omega) ?_ | refine SlIdxN.lit _ _ rfl rfl ?_ | refine SlIdxN.mapInt (by omega) (by omega) ?_ | refine IdxN.at0 _ rfl (by first | assumption | omega | (simp <;> omega)) ?_ | refine vv21 ?_ | refine RowN.map (by first | assumption | omega) ?_ | refine vv22 ?_ | refine RowSN.map (by first | assumption | omega) ?_ | refine vv23 ?_ | refine vv24 ?_ | refine vv25 ?_ | refine Need.mk (by first | assumption | omega | (simp <;> omega)) ?_ | refine DrawN.gen (by first | exact tryd_ok _ | exact tryd_okm _ _) (by kernel_rfl) ?_ | refine vv26 ?_ | refine vv27 ?_ | refine vv28 ?_ | refine vv29 ?_ | refine vv30 ?_ | refine vv31 ?_ | refine vv32 ?_ | refine vv33 ?_) <;> (conv => whnf)))
    refine DoneN.frz 2 ((l.take l.length ++ n :: l.drop l.length).map intRow) 3 (congrArg (fun r => some (ABlk.rows r 3)) (put_rows l n _)) (deepR (fun _ => rfl)) (DoneN.pure ?_)
    show (AV.sm 2 1 0 _).frz0 2 _ = _
    rw [frz_all (by simp)]
    rfl
theorem accounts_ok (t : Bool) (l : List Posting) (hmax : l.length ≤ 100000) : Pu Tryz.prog G1 77 [postings t l] (ints false (accts l)) := by
  refine Pu.of_ev (T := Tryz.tab) (n := 25) (tryd_ok _) Tryz.func77 rfl rfl rfl (by first | rfl | (split <;> rfl)) (by simp) ?_
  ((conv => whnf); repeat' ((first | refine vv1 ?_ | refine vv2 ?_ | refine vv3 ?_ | refine vv4 ?_ | refine vv5 ?_ | refine vv6 ?_ | refine vv7 ?_ | refine vv8 ?_ | refine vv9 ?_ | refine vv10 ?_ | refine vv11 (fun hbr => ?_) (fun hbr => ?_) | refine vv12 (fun hbr => ?_) (fun hbr => ?_) | refine vv13 ?_ | refine vv14 ?_ | refine vv15 ?_ | refine vv16 ?_ | refine vv17 (fun hbr => ?_) (fun hbr => ?_) | refine vv18 ?_ | refine vv19 (fun hbr => ?_) (fun hbr => ?_) | refine vv20 ?_ | refine SlIdxN.map _ rfl (by first | assumption | omega) ?_ | refine SlIdxN.mapPred (by omega) (by omega) ?_ | refine SlIdxN.mapSucc (by omega) ?_ | refine SlIdxN.lit _ _ rfl rfl ?_ | refine SlIdxN.mapInt (by omega) (by omega) ?_ | refine IdxN.at0 _ rfl (by first | assumption | omega | (simp <;> omega)) ?_ | refine vv21 ?_ | refine RowN.map (by first | assumption | omega) ?_ | refine vv22 ?_ | refine RowSN.map (by first | assumption | omega) ?_ | refine vv23 ?_ | refine vv24 ?_ | refine vv25 ?_ | refine Need.mk (by first | assumption | omega | (simp <;> omega)) ?_ | refine DrawN.gen (by first | exact tryd_ok _ | exact tryd_okm _ _) (by kernel_rfl) ?_ | refine vv26 ?_ | refine vv27 ?_ | refine vv28 ?_ | refine vv29 ?_ | refine vv30 ?_ | refine vv31 ?_ | refine vv32 ?_ | refine vv33 ?_) <;> (conv => whnf)))
  refine LoopN.of (tryd_ok _) (fun k : Nat => [(0, postings t l), (3, ints false (accts (l.take k))), (4, vi k)]) (fun _ => []) (fun k => l.length - k) (fun k => k ≤ l.length) 0 (Nat.zero_le _) ((Reabs.nilS 3 1 false rfl).trans (Reabs.frm0 rfl (by repeat (first | exact trivial | refine ⟨.inr ⟨rfl, rfl⟩, ?_⟩)))) ?_
  intro k hk
  by_cases hlt : k < l.length
  · have hs : accts (l.take (k + 1)) = putL l[k].dst (putL l[k].src (accts (l.take k))) := by
      rw [take_succ_snoc hlt, accts, accs_append]
      show putAll [] (accs (l.take k) ++ [l[k].src, l[k].dst]) = _
      simp [putAll, accts]
    have h1 := accts_len (l.take k)
    rw [List.length_take] at h1
    have h2 := putL_len l[k].src (accts (l.take k))
    have p1 := put_ok (accts (l.take k)) l[k].src (by omega)
    have p2 := put_ok (putL l[k].src (accts (l.take k))) l[k].dst (by omega)
    ((conv => whnf); repeat' ((first | refine vv1 ?_ | refine vv2 ?_ | refine vv3 ?_ | refine vv4 ?_ | refine vv5 ?_ | refine vv6 ?_ | refine vv7 ?_ | refine vv8 ?_ | refine vv9 ?_ | refine vv10 ?_ | refine vv11 (fun hbr => ?_) (fun hbr => ?_) | refine vv12 (fun hbr => ?_) (fun hbr => ?_) | refine vv13 ?_ | refine vv14 ?_ | refine vv15 ?_ | refine vv16 ?_ | refine vv17 (fun hbr => ?_) (fun hbr => ?_) | refine vv18 ?_ | refine vv19 (fun hbr => ?_) (fun hbr => ?_) | refine vv20 ?_ | refine SlIdxN.map _ rfl (by first | assumption | omega) ?_ | refine SlIdxN.mapPred (by omega) (by omega) ?_ | refine SlIdxN.mapSucc (by omega) ?_ | refine SlIdxN.lit _ _ rfl rfl ?_ | refine SlIdxN.mapInt (by omega) (by omega) ?_ | refine IdxN.at0 _ rfl (by first | assumption | omega | (simp <;> omega)) ?_ | refine vv21 ?_ | refine RowN.map (by first | assumption | omega) ?_ | refine vv22 ?_ | refine RowSN.map (by first | assumption | omega) ?_ | refine vv23 ?_ | refine vv24 ?_ | refine vv25 ?_ | refine Need.mk (by first | assumption | omega | (simp <;> omega)) ?_ | refine DrawN.gen (by first | exact tryd_ok _ | exact tryd_okm _ _) (by kernel_rfl) ?_ | refine vv26 ?_ | refine vv27 ?_ | refine vv28 ?_ | refine vv29 ?_ | refine vv30 ?_ | refine vv31 ?_ | refine vv32 ?_ | refine vv33 ?_ | refine CallN.pure (p1) ?_ | refine CallN.pure (p2) ?_ | refine GCallN.pure _ (p1) ?_ | refine GCallN.pure _ (p2) ?_ | refine GCallN.ef (p1) ?_ | refine GCallN.ef (p2) ?_) <;> (conv => whnf)))
    refine BackN.mk (k + 1) (by omega) (by omega) ?_
    simp only [hs]
    exact Reabs.frm0 rfl (by repeat (first | exact trivial | refine ⟨.inr ⟨rfl, rfl⟩, ?_⟩))
  · ((conv => whnf); repeat' ((first | refine vv1 ?_ | refine vv2 ?_ | refine vv3 ?_ | refine vv4 ?_ | refine vv5 ?_ | refine vv6 ?_ | refine vv7 ?_ | refine vv8 ?_ | refine vv9 ?_ | refine vv10 ?_ | refine vv11 (fun hbr => ?_) (fun hbr => ?_) | refine vv12 (fun hbr => ?_) (fun hbr => ?_) | refine vv13 ?_ | refine vv14 ?_ | refine vv15 ?_ | refine vv16 ?_ | refine vv17 (fun hbr => ?_) (fun hbr => ?_) | refine vv18 ?_ | refine vv19 (fun hbr => ?_) (fun hbr => ?_) | refine vv20 ?_ | refine SlIdxN.map _ rfl (by first | assumption | omega) ?_ | refine SlIdxN.mapPred (by omega) (by omega) ?_ | refine SlIdxN.mapSucc (by omega) ?_ | refine SlIdxN.lit _ _ rfl rfl ?_ | refine SlIdxN.mapInt (by omega) (by omega) ?_ | refine IdxN.at0 _ rfl (by first | assumption | omega | (simp <;> omega)) ?_ | refine vv21 ?_ | refine RowN.map (by first | assumption | omega) ?_ | refine vv22 ?_ | refine RowSN.map (by first | assumption | omega) ?_ | refine vv23 ?_ | refine vv24 ?_ | refine vv25 ?_ | refine Need.mk (by first | assumption | omega | (simp <;> omega)) ?_ | refine DrawN.gen (by first | exact tryd_ok _ | exact tryd_okm _ _) (by kernel_rfl) ?_ | refine vv26 ?_ | refine vv27 ?_ | refine vv28 ?_ | refine vv29 ?_ | refine vv30 ?_ | refine vv31 ?_ | refine vv32 ?_ | refine vv33 ?_) <;> (conv => whnf)))
    obtain rfl : k = l.length := by omega
    rw [List.take_length]
    exact DoneN.pure rfl
abbrev chE (c : Chg) : List AV := [vi c.1, vi c.2]
end Go.Proofs.Ax
