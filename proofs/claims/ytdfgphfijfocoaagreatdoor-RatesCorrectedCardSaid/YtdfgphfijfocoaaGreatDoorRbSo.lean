/-
  DERIVED: THE SHELF's CONTRACTS AT THIS DUMP, IN PLAIN WORDS (tools/lay-plain.mjs out of 'TryzSrt.lean', which tools/lay-shelf.mjs wrote): THE SAME DECLARATIONS UNDER THE SAME NAMES: 'import', 'namespace', 'open', 'def', 'theorem' AND NOTHING ELSE: no command of the shelf's: FOR A HAND-IN. Each laying: the table of numbers ('.._ren') and one theorem, a field a fact of the dump's own or the kernel's comparison; each contract: ONE APPLICATION.
-/
import Derived.Ground.SlsfProg
import Derived.Shelf.SlSortCmp.NoneTotal
import Derived.Test.YtdfgphfijfocoaaGreatDoorProg
import Derived.Test.YtdfgphfijfocoaaGreatDoorRbGrEq
import Derived.Test.YtdfgphfijfocoaaGreatDoorAxSo
namespace Go.Proofs.Ax
/-- How two names compare. -/
def cmpN (x y : Int × Int) : Int := if x.1 = y.1 then x.2 - y.2 else x.1 - y.1
def ltN (x y : Int × Int) : Bool := decide (cmpN x y < 0)
def sortN (d : List (Int × Int)) : List (Int × Int) := d.mergeSort fun x y => !(ltN y x)
theorem leN_iff (x y : Int × Int) : (!(ltN y x)) = true ↔ x.1 < y.1 ∨ (x.1 = y.1 ∧ x.2 ≤ y.2) := by
  unfold ltN cmpN
  simp only [Bool.not_eq_true', decide_eq_false_iff_not]
  split <;> omega
theorem leN_antisymm {x y : Int × Int} (h1 : (!(ltN y x)) = true) (h2 : (!(ltN x y)) = true) : x = y := by
  rw [leN_iff] at h1 h2
  exact Prod.ext (by omega) (by omega)
theorem sortN_pair (d : List (Int × Int)) : (sortN d).Pairwise fun x y => (!(ltN y x)) = true :=
  List.pairwise_mergeSort (fun a b c h1 h2 => by rw [leN_iff] at *; omega) (fun a b => by
    rw [Bool.or_eq_true, leN_iff, leN_iff]; omega) d
theorem sortN_perm {d e : List (Int × Int)} (h : d.Perm e) : sortN d = sortN e :=
  List.Perm.eq_of_pairwise (le := fun x y => (!(ltN y x)) = true) (fun a b _ _ h1 h2 => leN_antisymm h1 h2) (sortN_pair d) (sortN_pair e)
    (((List.mergeSort_perm d _).trans h).trans (List.mergeSort_perm e _).symm)
theorem sortN_mem {d : List (Int × Int)} {q : Int × Int} : q ∈ sortN d ↔ q ∈ d := (List.mergeSort_perm d _).mem_iff
end Go.Proofs.Ax
namespace Go.Proofs
open Go.Shelf
def Tryz.sortNm_ren : Go.Shelf.Ren := ⟨fun | 6 => 99 | 15 => 127 | 14 => 126 | 28 => 153 | 29 => 154 | 20 => 145 | 21 => 146 | 22 => 147 | 23 => 148 | 24 => 149 | 25 => 150 | 26 => 151 | 27 => 152 | 46 => 169 | 47 => 170 | 48 => 171 | 49 => 172 | 50 => 173 | 57 => 194 | n => n, fun | 22 => 96 | 24 => 100 | 25 => 152 | 3 => 3 | 39 => 180 | 0 => 0 | 53 => 205 | 55 => 207 | 4 => 4 | 46 => 198 | 45 => 197 | 50 => 202 | 5 => 5 | 9 => 9 | 66 => 224 | 70 => 228 | 76 => 245 | 77 => 246 | n => n, fun | n => n⟩
theorem Tryz.sortNm : Go.Proofs.SlLaysF0.n6 Tryz.prog Tryz.sortNm_ren := {
  mixed := by kernel_rfl
  f6 := ⟨Tryz.f99.name, by decide, Tryz.func99.trans (congrArg some (by kernel_rfl))⟩
  f14 := ⟨Tryz.f126.name, by decide, Tryz.func126.trans (congrArg some (by kernel_rfl))⟩
  f15 := Tryz.func127.trans (congrArg some (by kernel_rfl))
  f20 := ⟨Tryz.f145.name, by decide, Tryz.func145.trans (congrArg some (by kernel_rfl))⟩
  f21 := ⟨Tryz.f146.name, by decide, Tryz.func146.trans (congrArg some (by kernel_rfl))⟩
  f22 := ⟨Tryz.f147.name, by decide, Tryz.func147.trans (congrArg some (by kernel_rfl))⟩
  f23 := ⟨Tryz.f148.name, by decide, Tryz.func148.trans (congrArg some (by kernel_rfl))⟩
  f24 := ⟨Tryz.f149.name, by decide, Tryz.func149.trans (congrArg some (by kernel_rfl))⟩
  f25 := ⟨Tryz.f150.name, by decide, Tryz.func150.trans (congrArg some (by kernel_rfl))⟩
  f26 := ⟨Tryz.f151.name, by decide, Tryz.func151.trans (congrArg some (by kernel_rfl))⟩
  f27 := ⟨Tryz.f152.name, by decide, Tryz.func152.trans (congrArg some (by kernel_rfl))⟩
  f28 := Tryz.func153.trans (congrArg some (by kernel_rfl))
  f29 := Tryz.func154.trans (congrArg some (by kernel_rfl))
  f46 := ⟨Tryz.f169.name, by decide, Tryz.func169.trans (congrArg some (by kernel_rfl))⟩
  f47 := Tryz.func170.trans (congrArg some (by kernel_rfl))
  f48 := Tryz.func171.trans (congrArg some (by kernel_rfl))
  f49 := ⟨Tryz.f172.name, by decide, Tryz.func172.trans (congrArg some (by kernel_rfl))⟩
  f50 := ⟨Tryz.f173.name, by decide, Tryz.func173.trans (congrArg some (by kernel_rfl))⟩
  f57 := ⟨Tryz.f194.name, by decide, Tryz.func194.trans (congrArg some (by kernel_rfl))⟩
  t0 := Tryz.underlying0
  a0 := Tryz.isAgg0
  z0 := Tryz.sizeOf0
  v0 := Tryz.zeroValue0
  t3 := Tryz.underlying3
  a3 := Tryz.isAgg3
  z3 := Tryz.sizeOf3
  v3 := Tryz.zeroValue3
  t4 := Tryz.underlying4
  a4 := Tryz.isAgg4
  z4 := Tryz.sizeOf4
  v4 := Tryz.zeroValue4
  t5 := Tryz.underlying5
  a5 := Tryz.isAgg5
  z5 := Tryz.sizeOf5
  v5 := Tryz.zeroValue5
  t9 := Tryz.underlying9
  a9 := Tryz.isAgg9
  z9 := Tryz.sizeOf9
  v9 := Tryz.zeroValue9
  t22 := Tryz.underlying96
  a22 := Tryz.isAgg96
  z22 := Tryz.sizeOf96
  v22 := Tryz.zeroValue96
  t25 := Tryz.underlying152
  a25 := Tryz.isAgg152
  z25 := Tryz.sizeOf152
  v25 := Tryz.zeroValue152
  t39 := Tryz.underlying180
  a39 := Tryz.isAgg180
  z39 := Tryz.sizeOf180
  v39 := Tryz.zeroValue180
  t45 := Tryz.underlying197
  a45 := Tryz.isAgg197
  z45 := Tryz.sizeOf197
  v45 := Tryz.zeroValue197
  t46 := Tryz.underlying198
  a46 := Tryz.isAgg198
  z46 := Tryz.sizeOf198
  v46 := Tryz.zeroValue198
  t50 := Tryz.underlying202
  a50 := Tryz.isAgg202
  z50 := Tryz.sizeOf202
  v50 := Tryz.zeroValue202
  t53 := Tryz.underlying205
  a53 := Tryz.isAgg205
  z53 := Tryz.sizeOf205
  v53 := Tryz.zeroValue205
  t55 := Tryz.underlying207
  a55 := Tryz.isAgg207
  z55 := Tryz.sizeOf207
  v55 := Tryz.zeroValue207
  t66 := Tryz.underlying224
  a66 := Tryz.isAgg224
  z66 := Tryz.sizeOf224
  v66 := Tryz.zeroValue224
  t70 := Tryz.underlying228
  a70 := Tryz.isAgg228
  z70 := Tryz.sizeOf228
  v70 := Tryz.zeroValue228
  t76 := Tryz.underlying245
  a76 := Tryz.isAgg245
  z76 := Tryz.sizeOf245
  v76 := Tryz.zeroValue245
  t77 := Tryz.underlying246
  a77 := Tryz.isAgg246
  z77 := Tryz.sizeOf246
  v77 := Tryz.zeroValue246 }
end Go.Proofs
namespace Go.Proofs.Ax
open Go Go.Proofs Go.Sort Go.Shelf Go.RowKit
abbrev nmRow (q : Int × Int) : List AV := [vi q.1, vi q.2]
def nmOk (q : Int × Int) : Prop := (0 ≤ q.1 ∧ q.1 ≤ 20000) ∧ 0 ≤ q.2 ∧ q.2 ≤ 12
abbrev NmS := { q : Int × Int // nmOk q }
instance : Inhabited NmS := ⟨⟨(0, 0), by unfold nmOk; decide⟩⟩
def encN (x : NmS) : List Value := [.int .i64 x.1.1, .int .i64 x.1.2]
theorem encN_ok : EncOk encN 2 := ⟨fun _ => rfl, fun x v hv => by simp [encN] at hv; rcases hv with rfl | rfl <;> rfl, by decide⟩
def cmpS (x y : NmS) : Int := cmpN x.1 y.1
theorem ltS (x y : NmS) : ltOf cmpS x y = ltN x.1 y.1 := rfl
theorem swoS : SWO (ltOf cmpS) where
  irrefl x := by rw [ltS]; unfold ltN cmpN; simp
  trans x y z h1 h2 := by
    rw [ltS] at *
    unfold ltN cmpN at *
    simp only [decide_eq_true_eq] at *
    split at h1 <;> split at h2 <;> split <;> omega
  ntrans x y z h1 h2 := by
    rw [ltS] at *
    unfold ltN cmpN at *
    simp only [decide_eq_false_iff_not] at *
    split at h1 <;> split at h2 <;> split <;> omega
set_option maxHeartbeats 2000000 in
/-- The names' comparison: in whatever world: two blocks are laid. -/
theorem cmp_calls (x y : NmS) (W : World) : Calls Tryz.prog 100 #[.agg #[.int .i64 x.1.1, .int .i64 x.1.2], .agg #[.int .i64 y.1.1, .int .i64 y.1.2]] W fun e w' => e = .returned (.int .i64 (cmpS x y)) ∧ ∃ q os', w' = grow (W.drewN q) os' := by
  obtain ⟨⟨x1, x2⟩, hx⟩ := x
  obtain ⟨⟨y1, y2⟩, hy⟩ := y
  unfold nmOk at hx hy
  unfold cmpS cmpN
  simp only at hx hy ⊢
  generalize hr : (if x1 = y1 then x2 - y2 else x1 - y1) = r
  go_enter Tryz.func100, Tryz.ntmps100
  go_wp2
  all_goals go_ret
  all_goals refine ⟨?_, 0, _, by rw [alloc_eq_grow, alloc_eq_grow, grow_grow]; rfl⟩
  · rename_i hb
    have hb : x1 ≠ y1 := by simpa using hb
    rw [if_neg hb] at hr
    subst hr
    rfl
  · rename_i hb
    have hb : x1 = y1 := by simpa using hb
    rw [if_pos hb] at hr
    subst hr
    rfl
def sortS (d : List NmS) : List NmS := d.mergeSort fun x y => !(ltOf cmpS) y x
theorem sortS_map (d : List NmS) : (sortS d).map (·.1) = sortN (d.map (·.1)) := List.map_mergeSort fun x _ y _ => rfl
theorem nm_sortAt : SortAt Tryz.prog 99 [.func (.func 100) #[] #[]] encN 2 sortS where
  body := ⟨_, _, Tryz.func99, rfl⟩
  encOk := encN_ok
  len d := List.length_mergeSort d
  nil := List.mergeSort_nil
  atNone p cap w := AnyF.slices_SortFunc_none Tryz.sortNm p cap _ w
  atSome blk cap d w hH hblk hsz := by
    have := AnyQ.slices_SortFunc_total Tryz.sortNm 2 Tryz.isAgg100 Tryz.sizeOf100 encN encN_ok.len encN_ok.one cmpS swoS 100 #[] blk 0 cap d.toArray w (enters_of Tryz.func100 (by kernel_rfl) rfl) (fun _ _ _ _ x y => cmp_calls x y _) hH hblk (by simpa using hsz)
      (fun x y h1 h2 => by
        rw [ltS] at h1 h2
        exact Subtype.ext (leN_antisymm (by rw [h2]; rfl) (by rw [h1]; rfl)))
    exact this
theorem sort_ef (o : List (Int × Int)) (ho : ∀ q ∈ o, nmOk q) (hmax : o.length ≤ 4000000) (H : AH) (id : Nat) (hid : nthB H id = some (.rows (o.map nmRow) 100)) :
    Ef Tryz.prog G1 99 [.sm id 2 0 o.length, .sc (.func (.func 100) #[] #[])] H fun y H' => y = .tuple [] ∧ H' = H.set id (.rows ((sortN o).map nmRow) 100) := by
  obtain ⟨d, rfl⟩ : ∃ d : List NmS, o = d.map (·.1) := ⟨o.pmap (fun q h => ⟨q, h⟩) ho, by simp [List.map_pmap]⟩
  have := nm_sortAt.ef (G := G1) d H id 100 (by rw [hid, List.map_map]; rfl) (by simp at hmax; omega)
  rw [← sortS_map, List.map_map, List.length_map]
  exact this
end Go.Proofs.Ax
