/-
  DERIVED: THE SHELF's CONTRACTS AT THIS DUMP, IN PLAIN WORDS (tools/lay-plain.mjs out of 'TrydSrt.lean', which tools/lay-shelf.mjs wrote): THE SAME DECLARATIONS UNDER THE SAME NAMES: 'import', 'namespace', 'open', 'def', 'theorem' AND NOTHING ELSE: no command of the shelf's: FOR A HAND-IN. Each laying: the table of numbers ('.._ren') and one theorem, a field a fact of the dump's own or the kernel's comparison; each contract: ONE APPLICATION.
-/
import Derived.Ground.SlsfProg
import Derived.Shelf.SlSortCmp.NoneTotal
import Derived.Test.YtdfgphfijfocoaaDoorProg
import Derived.Test.YtdfgphfijfocoaaDoorRbEq
import Derived.Test.YtdfgphfijfocoaaDoorAxSort
namespace Go.Proofs.Ax
/-- How two names compare. -/
def cmpN (x y : Int × Int) : Int := if x.1 = y.1 then x.2 - y.2 else x.1 - y.1
def ltN (x y : Int × Int) : Bool := decide (cmpN x y < 0)
def sortN (d : List (Int × Int)) : List (Int × Int) := d.mergeSort fun x y => !(ltN y x)
theorem leN_iff (x y : Int × Int) : (!(ltN y x)) = true ↔ x.1 < y.1 ∨ (x.1 = y.1 ∧ x.2 ≤ y.2) := by
  unfold ltN cmpN
  simp only [Bool.not_eq_true', decide_eq_false_iff_not]
  split <;> omega
theorem leN_antisymm {x y : Int × Int} (h1 : (!(ltN y x)) = true) (h2 : (!(ltN x y)) = true) : x = y := by
  rw [leN_iff] at h1 h2
  exact Prod.ext (by omega) (by omega)
theorem sortN_pair (d : List (Int × Int)) : (sortN d).Pairwise fun x y => (!(ltN y x)) = true :=
  List.pairwise_mergeSort (fun a b c h1 h2 => by rw [leN_iff] at *; omega) (fun a b => by
    rw [Bool.or_eq_true, leN_iff, leN_iff]; omega) d
theorem sortN_perm {d e : List (Int × Int)} (h : d.Perm e) : sortN d = sortN e :=
  List.Perm.eq_of_pairwise (le := fun x y => (!(ltN y x)) = true) (fun a b _ _ h1 h2 => leN_antisymm h1 h2) (sortN_pair d) (sortN_pair e)
    (((List.mergeSort_perm d _).trans h).trans (List.mergeSort_perm e _).symm)
theorem sortN_mem {d : List (Int × Int)} {q : Int × Int} : q ∈ sortN d ↔ q ∈ d := (List.mergeSort_perm d _).mem_iff
end Go.Proofs.Ax
namespace Go.Proofs
open Go.Shelf
def Tryd.sortNm_ren : Go.Shelf.Ren := ⟨fun | 6 => 82 | 15 => 90 | 14 => 89 | 28 => 103 | 29 => 104 | 20 => 95 | 21 => 96 | 22 => 97 | 23 => 98 | 24 => 99 | 25 => 100 | 26 => 101 | 27 => 102 | 46 => 108 | 47 => 109 | 48 => 110 | 49 => 111 | 50 => 112 | 57 => 118 | n => n, fun | 22 => 111 | 24 => 114 | 25 => 132 | 3 => 3 | 39 => 66 | 0 => 0 | 53 => 156 | 55 => 158 | 4 => 4 | 46 => 149 | 45 => 148 | 50 => 153 | 5 => 5 | 9 => 9 | 66 => 162 | 70 => 166 | 76 => 172 | 77 => 173 | n => n, fun | n => n⟩
theorem Tryd.sortNm : Go.Proofs.SlLaysF0.n6 Tryd.prog Tryd.sortNm_ren := {
  mixed := by kernel_rfl
  f6 := ⟨Tryd.f82.name, by decide, Tryd.func82.trans (congrArg some (by kernel_rfl))⟩
  f14 := ⟨Tryd.f89.name, by decide, Tryd.func89.trans (congrArg some (by kernel_rfl))⟩
  f15 := Tryd.func90.trans (congrArg some (by kernel_rfl))
  f20 := ⟨Tryd.f95.name, by decide, Tryd.func95.trans (congrArg some (by kernel_rfl))⟩
  f21 := ⟨Tryd.f96.name, by decide, Tryd.func96.trans (congrArg some (by kernel_rfl))⟩
  f22 := ⟨Tryd.f97.name, by decide, Tryd.func97.trans (congrArg some (by kernel_rfl))⟩
  f23 := ⟨Tryd.f98.name, by decide, Tryd.func98.trans (congrArg some (by kernel_rfl))⟩
  f24 := ⟨Tryd.f99.name, by decide, Tryd.func99.trans (congrArg some (by kernel_rfl))⟩
  f25 := ⟨Tryd.f100.name, by decide, Tryd.func100.trans (congrArg some (by kernel_rfl))⟩
  f26 := ⟨Tryd.f101.name, by decide, Tryd.func101.trans (congrArg some (by kernel_rfl))⟩
  f27 := ⟨Tryd.f102.name, by decide, Tryd.func102.trans (congrArg some (by kernel_rfl))⟩
  f28 := Tryd.func103.trans (congrArg some (by kernel_rfl))
  f29 := Tryd.func104.trans (congrArg some (by kernel_rfl))
  f46 := ⟨Tryd.f108.name, by decide, Tryd.func108.trans (congrArg some (by kernel_rfl))⟩
  f47 := Tryd.func109.trans (congrArg some (by kernel_rfl))
  f48 := Tryd.func110.trans (congrArg some (by kernel_rfl))
  f49 := ⟨Tryd.f111.name, by decide, Tryd.func111.trans (congrArg some (by kernel_rfl))⟩
  f50 := ⟨Tryd.f112.name, by decide, Tryd.func112.trans (congrArg some (by kernel_rfl))⟩
  f57 := ⟨Tryd.f118.name, by decide, Tryd.func118.trans (congrArg some (by kernel_rfl))⟩
  t0 := Tryd.underlying0
  a0 := Tryd.isAgg0
  z0 := Tryd.sizeOf0
  v0 := Tryd.zeroValue0
  t3 := Tryd.underlying3
  a3 := Tryd.isAgg3
  z3 := Tryd.sizeOf3
  v3 := Tryd.zeroValue3
  t4 := Tryd.underlying4
  a4 := Tryd.isAgg4
  z4 := Tryd.sizeOf4
  v4 := Tryd.zeroValue4
  t5 := Tryd.underlying5
  a5 := Tryd.isAgg5
  z5 := Tryd.sizeOf5
  v5 := Tryd.zeroValue5
  t9 := Tryd.underlying9
  a9 := Tryd.isAgg9
  z9 := Tryd.sizeOf9
  v9 := Tryd.zeroValue9
  t22 := Tryd.underlying111
  a22 := Tryd.isAgg111
  z22 := Tryd.sizeOf111
  v22 := Tryd.zeroValue111
  t25 := Tryd.underlying132
  a25 := Tryd.isAgg132
  z25 := Tryd.sizeOf132
  v25 := Tryd.zeroValue132
  t39 := Tryd.underlying66
  a39 := Tryd.isAgg66
  z39 := Tryd.sizeOf66
  v39 := Tryd.zeroValue66
  t45 := Tryd.underlying148
  a45 := Tryd.isAgg148
  z45 := Tryd.sizeOf148
  v45 := Tryd.zeroValue148
  t46 := Tryd.underlying149
  a46 := Tryd.isAgg149
  z46 := Tryd.sizeOf149
  v46 := Tryd.zeroValue149
  t50 := Tryd.underlying153
  a50 := Tryd.isAgg153
  z50 := Tryd.sizeOf153
  v50 := Tryd.zeroValue153
  t53 := Tryd.underlying156
  a53 := Tryd.isAgg156
  z53 := Tryd.sizeOf156
  v53 := Tryd.zeroValue156
  t55 := Tryd.underlying158
  a55 := Tryd.isAgg158
  z55 := Tryd.sizeOf158
  v55 := Tryd.zeroValue158
  t66 := Tryd.underlying162
  a66 := Tryd.isAgg162
  z66 := Tryd.sizeOf162
  v66 := Tryd.zeroValue162
  t70 := Tryd.underlying166
  a70 := Tryd.isAgg166
  z70 := Tryd.sizeOf166
  v70 := Tryd.zeroValue166
  t76 := Tryd.underlying172
  a76 := Tryd.isAgg172
  z76 := Tryd.sizeOf172
  v76 := Tryd.zeroValue172
  t77 := Tryd.underlying173
  a77 := Tryd.isAgg173
  z77 := Tryd.sizeOf173
  v77 := Tryd.zeroValue173 }
end Go.Proofs
namespace Go.Proofs.Ax
open Go Go.Proofs Go.Sort Go.Shelf Go.RowKit
abbrev nmRow (q : Int × Int) : List AV := [vi q.1, vi q.2]
def nmOk (q : Int × Int) : Prop := (0 ≤ q.1 ∧ q.1 ≤ 20000) ∧ 0 ≤ q.2 ∧ q.2 ≤ 12
abbrev NmS := { q : Int × Int // nmOk q }
instance : Inhabited NmS := ⟨⟨(0, 0), by unfold nmOk; decide⟩⟩
def encN (x : NmS) : List Value := [.int .i64 x.1.1, .int .i64 x.1.2]
theorem encN_ok : EncOk encN 2 := ⟨fun _ => rfl, fun x v hv => by simp [encN] at hv; rcases hv with rfl | rfl <;> rfl, by decide⟩
def cmpS (x y : NmS) : Int := cmpN x.1 y.1
theorem ltS (x y : NmS) : ltOf cmpS x y = ltN x.1 y.1 := rfl
theorem swoS : SWO (ltOf cmpS) where
  irrefl x := by rw [ltS]; unfold ltN cmpN; simp
  trans x y z h1 h2 := by
    rw [ltS] at *
    unfold ltN cmpN at *
    simp only [decide_eq_true_eq] at *
    split at h1 <;> split at h2 <;> split <;> omega
  ntrans x y z h1 h2 := by
    rw [ltS] at *
    unfold ltN cmpN at *
    simp only [decide_eq_false_iff_not] at *
    split at h1 <;> split at h2 <;> split <;> omega
set_option maxHeartbeats 8000000 in
/-- The names' comparison: in whatever world: two blocks are laid. -/
theorem cmp_calls (x y : NmS) (W : World) : Calls Tryd.prog 83 #[.agg #[.int .i64 x.1.1, .int .i64 x.1.2], .agg #[.int .i64 y.1.1, .int .i64 y.1.2]] W fun e w' => e = .returned (.int .i64 (cmpS x y)) ∧ ∃ q os', w' = grow (W.drewN q) os' := by
  obtain ⟨⟨x1, x2⟩, hx⟩ := x
  obtain ⟨⟨y1, y2⟩, hy⟩ := y
  unfold nmOk at hx hy
  unfold cmpS cmpN
  simp only at hx hy ⊢
  generalize hr : (if x1 = y1 then x2 - y2 else x1 - y1) = r
  go_enter Tryd.func83, Tryd.ntmps83
  go_wp2
  all_goals go_ret
  all_goals refine ⟨?_, 0, _, by rw [alloc_eq_grow, alloc_eq_grow, grow_grow]; rfl⟩
  · rename_i hb
    have hb : x1 ≠ y1 := by simpa using hb
    rw [if_neg hb] at hr
    subst hr
    rfl
  · rename_i hb
    have hb : x1 = y1 := by simpa using hb
    rw [if_pos hb] at hr
    subst hr
    rfl
def sortS (d : List NmS) : List NmS := d.mergeSort fun x y => !(ltOf cmpS) y x
theorem sortS_map (d : List NmS) : (sortS d).map (·.1) = sortN (d.map (·.1)) := List.map_mergeSort fun x _ y _ => rfl
theorem nm_sortAt : SortAt Tryd.prog 82 [.func (.func 83) #[] #[]] encN 2 sortS where
  body := ⟨_, _, Tryd.func82, rfl⟩
  encOk := encN_ok
  len d := List.length_mergeSort d
  nil := List.mergeSort_nil
  atNone p cap w := AnyF.slices_SortFunc_none Tryd.sortNm p cap _ w
  atSome blk cap d w hH hblk hsz := by
    have := AnyQ.slices_SortFunc_total Tryd.sortNm 2 Tryd.isAgg114 Tryd.sizeOf114 encN encN_ok.len encN_ok.one cmpS swoS 83 #[] blk 0 cap d.toArray w (enters_of Tryd.func83 (by kernel_rfl) rfl) (fun _ _ _ _ x y => cmp_calls x y _) hH hblk (by simpa using hsz)
      (fun x y h1 h2 => by
        rw [ltS] at h1 h2
        exact Subtype.ext (leN_antisymm (by rw [h2]; rfl) (by rw [h1]; rfl)))
    exact this
theorem sort_ef (o : List (Int × Int)) (ho : ∀ q ∈ o, nmOk q) (hmax : o.length ≤ 4000000) (H : AH) (id : Nat) (hid : nthB H id = some (.rows (o.map nmRow) 114)) :
    Ef Tryd.prog G1 82 [.sm id 2 0 o.length, .sc (.func (.func 83) #[] #[])] H fun y H' => y = .tuple [] ∧ H' = H.set id (.rows ((sortN o).map nmRow) 114) := by
  obtain ⟨d, rfl⟩ : ∃ d : List NmS, o = d.map (·.1) := ⟨o.pmap (fun q h => ⟨q, h⟩) ho, by simp [List.map_pmap]⟩
  have := nm_sortAt.ef (G := G1) d H id 114 (by rw [hid, List.map_map]; rfl) (by simp at hmax; omega)
  rw [← sortS_map, List.map_map, List.length_map]
  exact this
end Go.Proofs.Ax
