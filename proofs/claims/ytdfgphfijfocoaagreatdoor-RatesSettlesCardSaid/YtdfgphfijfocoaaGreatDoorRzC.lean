/-
  DERIVED: THE SHELF's CONTRACTS AT THIS DUMP, IN PLAIN WORDS (tools/lay-plain.mjs out of 'TryzSrtI.lean', which tools/lay-shelf.mjs wrote): THE SAME DECLARATIONS UNDER THE SAME NAMES: 'import', 'namespace', 'open', 'def', 'theorem' AND NOTHING ELSE: no command of the shelf's: FOR A HAND-IN. Each laying: the table of numbers ('.._ren') and one theorem, a field a fact of the dump's own or the kernel's comparison; each contract: ONE APPLICATION.
-/
import Derived.Shelf.SortM.Plain
import Derived.Shelf.SortM.SortNone
import Derived.Ground.SlgmProg
import Derived.Test.YtdfgphfijfocoaaGreatDoorProg
import Derived.Test.YtdfgphfijfocoaaGreatDoorRzDif
import Derived.Test.YtdfgphfijfocoaaGreatDoorAxG
import Derived.Test.YtdfgphfijfocoaaGreatDoorAxSo
import Derived.Test.YtdfgphfijfocoaaGreatDoorRbO
namespace Go.Proofs
open Go.Shelf
def Tryz.sortI_ren : Go.Shelf.Ren := ⟨fun | 5 => 130 | 8 => 127 | 7 => 156 | 19 => 153 | 20 => 154 | 10 => 174 | 11 => 175 | 12 => 176 | 13 => 177 | 14 => 178 | 15 => 179 | 16 => 180 | 17 => 181 | 18 => 182 | 30 => 195 | 31 => 170 | 32 => 171 | 33 => 196 | 34 => 197 | 35 => 198 | 40 => 205 | n => n, fun | 23 => 85 | 25 => 3 | 3 => 3 | 32 => 180 | 22 => 85 | 0 => 0 | 44 => 205 | 46 => 207 | 4 => 4 | 36 => 198 | 35 => 197 | 41 => 202 | 5 => 5 | 9 => 9 | 53 => 224 | 57 => 228 | 63 => 245 | 64 => 246 | n => n, fun | n => n⟩
theorem Tryz.sortI : Go.Proofs.SlLaysM.n5 Tryz.prog Tryz.sortI_ren := {
  mixed := by kernel_rfl
  f5 := ⟨Tryz.f130.name, by decide, Tryz.func130.trans (congrArg some (by kernel_rfl))⟩
  f7 := ⟨Tryz.f156.name, by decide, Tryz.func156.trans (congrArg some (by kernel_rfl))⟩
  f8 := Tryz.func127.trans (congrArg some (by kernel_rfl))
  f10 := ⟨Tryz.f174.name, by decide, Tryz.func174.trans (congrArg some (by kernel_rfl))⟩
  f11 := ⟨Tryz.f175.name, by decide, Tryz.func175.trans (congrArg some (by kernel_rfl))⟩
  f12 := ⟨Tryz.f176.name, by decide, Tryz.func176.trans (congrArg some (by kernel_rfl))⟩
  f13 := ⟨Tryz.f177.name, by decide, Tryz.func177.trans (congrArg some (by kernel_rfl))⟩
  f14 := ⟨Tryz.f178.name, by decide, Tryz.func178.trans (congrArg some (by kernel_rfl))⟩
  f15 := ⟨Tryz.f179.name, by decide, Tryz.func179.trans (congrArg some (by kernel_rfl))⟩
  f16 := ⟨Tryz.f180.name, by decide, Tryz.func180.trans (congrArg some (by kernel_rfl))⟩
  f17 := ⟨Tryz.f181.name, by decide, Tryz.func181.trans (congrArg some (by kernel_rfl))⟩
  f18 := ⟨Tryz.f182.name, by decide, Tryz.func182.trans (congrArg some (by kernel_rfl))⟩
  f19 := Tryz.func153.trans (congrArg some (by kernel_rfl))
  f20 := Tryz.func154.trans (congrArg some (by kernel_rfl))
  f30 := ⟨Tryz.f195.name, by decide, Tryz.func195.trans (congrArg some (by kernel_rfl))⟩
  f31 := Tryz.func170.trans (congrArg some (by kernel_rfl))
  f32 := Tryz.func171.trans (congrArg some (by kernel_rfl))
  f33 := ⟨Tryz.f196.name, by decide, Tryz.func196.trans (congrArg some (by kernel_rfl))⟩
  f34 := ⟨Tryz.f197.name, by decide, Tryz.func197.trans (congrArg some (by kernel_rfl))⟩
  f35 := ⟨Tryz.f198.name, by decide, Tryz.func198.trans (congrArg some (by kernel_rfl))⟩
  f40 := ⟨Tryz.f205.name, by decide, Tryz.func205.trans (congrArg some (by kernel_rfl))⟩
  t0 := Tryz.underlying0
  a0 := Tryz.isAgg0
  z0 := Tryz.sizeOf0
  v0 := Tryz.zeroValue0
  t3 := Tryz.underlying3
  a3 := Tryz.isAgg3
  z3 := Tryz.sizeOf3
  v3 := Tryz.zeroValue3
  t4 := Tryz.underlying4
  a4 := Tryz.isAgg4
  z4 := Tryz.sizeOf4
  v4 := Tryz.zeroValue4
  t5 := Tryz.underlying5
  a5 := Tryz.isAgg5
  z5 := Tryz.sizeOf5
  v5 := Tryz.zeroValue5
  t9 := Tryz.underlying9
  a9 := Tryz.isAgg9
  z9 := Tryz.sizeOf9
  v9 := Tryz.zeroValue9
  t22 := Tryz.underlying85
  a22 := Tryz.isAgg85
  z22 := Tryz.sizeOf85
  v22 := Tryz.zeroValue85
  t23 := Tryz.underlying85
  a23 := Tryz.isAgg85
  z23 := Tryz.sizeOf85
  v23 := Tryz.zeroValue85
  t25 := Tryz.underlying3
  a25 := Tryz.isAgg3
  z25 := Tryz.sizeOf3
  v25 := Tryz.zeroValue3
  t32 := Tryz.underlying180
  a32 := Tryz.isAgg180
  z32 := Tryz.sizeOf180
  v32 := Tryz.zeroValue180
  t35 := Tryz.underlying197
  a35 := Tryz.isAgg197
  z35 := Tryz.sizeOf197
  v35 := Tryz.zeroValue197
  t36 := Tryz.underlying198
  a36 := Tryz.isAgg198
  z36 := Tryz.sizeOf198
  v36 := Tryz.zeroValue198
  t41 := Tryz.underlying202
  a41 := Tryz.isAgg202
  z41 := Tryz.sizeOf202
  v41 := Tryz.zeroValue202
  t44 := Tryz.underlying205
  a44 := Tryz.isAgg205
  z44 := Tryz.sizeOf205
  v44 := Tryz.zeroValue205
  t46 := Tryz.underlying207
  a46 := Tryz.isAgg207
  z46 := Tryz.sizeOf207
  v46 := Tryz.zeroValue207
  t53 := Tryz.underlying224
  a53 := Tryz.isAgg224
  z53 := Tryz.sizeOf224
  v53 := Tryz.zeroValue224
  t57 := Tryz.underlying228
  a57 := Tryz.isAgg228
  z57 := Tryz.sizeOf228
  v57 := Tryz.zeroValue228
  t63 := Tryz.underlying245
  a63 := Tryz.isAgg245
  z63 := Tryz.sizeOf245
  v63 := Tryz.zeroValue245
  t64 := Tryz.underlying246
  a64 := Tryz.isAgg246
  z64 := Tryz.sizeOf246
  v64 := Tryz.zeroValue246 }
end Go.Proofs
namespace Go.Proofs.Ax
open Go Go.Proofs Go.Sort Go.Shelf Go.RowKit
set_option maxRecDepth 10000
set_option maxHeartbeats 4000000
theorem tryd_okg' (m n : Nat) : EC.Ok ⟨⟨Tryz.prog, G1, m, none⟩, n, Tryz.tab⟩ := ⟨fun t i h => TT.get_ok Tryz.tabOk t i h, enters, mixed⟩
theorem int_sortAt : SortAt Tryz.prog 130 [] encI 1 sortI where
  body := ⟨_, _, Tryz.func130, rfl⟩
  encOk := encI_ok
  len d := List.length_mergeSort d
  nil := List.mergeSort_nil
  atNone p cap w := by
    have := AnyM.slices_Sort_int_none Tryz.sortI p cap w
    exact this
  atSome blk cap d w hH hblk hsz := by
    refine Calls.mono (AnyM.slices_Sort_int Tryz.sortI blk 0 cap d w (holds1 hH) hblk hsz) ?_
    rintro e w' ⟨rfl, n, os, rfl⟩
    exact ⟨rfl, n, os, by rw [put1]; rfl⟩
theorem sortInts_ef (o : List Int) (hmax : o.length ≤ 4000000) (H : AH) (id : Nat) (hid : nthB H id = some (.rows (o.map intRow) 3)) :
    Ef Tryz.prog G1 130 [.sm id 1 0 o.length] H fun y H' => y = .tuple [] ∧ H' = H.set id (.rows ((sortI o).map intRow) 3) :=
  int_sortAt.ef (G := G1) o H id 3 hid (by omega)
/-! The map of all balances. -/
abbrev Itm := Int × Int
def dl (l : List Posting) : List Itm := l.flatMap fun p => [(p.src, -p.amount), (p.dst, p.amount)]
def sumV (l : List Itm) : Int := (l.map (·.2)).sum
abbrev kI (q : Int) : AV := vi q
abbrev vS (l : List Itm) : AV := vi (sumV l)
abbrev gsM (l : List Itm) : List (Int × List Itm) := groupsOf (·.1) l
abbrev mM (l : List Itm) : ABlk := vB kI vS (gsM l)
def sumM (a : Int) (l : List Itm) : Int := sumV (l.filter fun x => decide (x.1 = a))
theorem look_sum (l : List Itm) (a : Int) : sumV (lookG a (gsM l)) = sumM a l := by
  rw [(groupsOf_ok (·.1) l).look]; rfl
theorem sumV_append (l m : List Itm) : sumV (l ++ m) = sumV l + sumV m := by simp [sumV]
theorem sumM_append (a : Int) (l m : List Itm) : sumM a (l ++ m) = sumM a l + sumM a m := by simp [sumM, sumV_append]
theorem sumM_dl (a : Int) : ∀ {l : List Posting}, (∀ p ∈ l, p.src ≠ p.dst) → sumM a (dl l) = bal l a
  | [], _ => rfl
  | p :: l, h => by
    have ih := sumM_dl a (l := l) fun q hq => h q (List.mem_cons_of_mem _ hq)
    have hp := h p (List.mem_cons_self ..)
    have e1 : dl (p :: l) = [(p.src, -p.amount), (p.dst, p.amount)] ++ dl l := rfl
    have e2 : bal (p :: l) a = change p a + bal l a := by simp [bal]
    rw [e1, sumM_append, ih, e2, change_split hp]
    congr 1
    unfold sumM sumV
    by_cases h1 : p.src = a
    · by_cases h2 : p.dst = a
      · exact absurd (h1.trans h2.symm) hp
      · simp [h1, h2, show ¬ a = p.dst from fun e => h2 e.symm]
    · by_cases h2 : p.dst = a
      · simp [h1, h2, show ¬ a = p.src from fun e => h1 e.symm]
      · simp [h1, h2, show ¬ a = p.src from fun e => h1 e.symm, show ¬ a = p.dst from fun e => h2 e.symm]
theorem int_eq (a b : Int) : aeq Tryz.prog 12 3 (vi a) (vi b) = some (decide (a = b)) := aeqT_ok (tryd_okg' 0 0) 12 3 _ _ _ rfl
theorem keyM : KeyOk Tryz.prog kI vS 162 3 3 where
  und := Tryz.underlying162
  key := fun q => by kernel_rfl
  eq := int_eq
  keep := fun q => by simp [akeep, acon, scs, Instr.sameBits]
  zero := by kernel_rfl
theorem dl_snoc {l : List Posting} {k : Nat} (h : k < l.length) : dl (l.take (k + 1)) = (dl (l.take k) ++ [(l[k].src, -l[k].amount)]) ++ [(l[k].dst, l[k].amount)] := by
  rw [take_succ_snoc h, dl, List.flatMap_append, List.append_assoc]; rfl
theorem gsM_snoc (l : List Itm) (x : Itm) : gsM (l ++ [x]) = addG x.1 x (gsM l) := groupsOf_snoc _ l x
theorem look_step (l : List Itm) (x : Itm) : sumV (lookG x.1 (gsM l) ++ [x]) = sumM x.1 l + x.2 := by
  rw [sumV_append, look_sum]; simp [sumV]
theorem updM (l : List Itm) (x : Itm) {H : AH} {m : Nat} {n : Int} (hm : H[m]? = some (mM l)) (hn : n = sumM x.1 l + x.2) : (amapUpdate Tryz.prog H 162 (.mp m) (vi x.1) (vi n)).map (AV.any, ·) = some (.any, H.set m (mM (l ++ [x]))) := by
  have := keyM.upd (gsM l) x.1 x hm (y := vi n) (by show vi n = vi (sumV _); rw [look_step, hn])
  rw [← gsM_snoc] at this
  exact this
theorem lookM (l : List Itm) (a : Int) {H : AH} {m : Nat} (hm : H[m]? = some (mM l)) : (alookup Tryz.prog H 162 (.mp m) (vi a) false).map (fun y => (y, H)) = some (vi (sumM a l), H) := by
  have := keyM.look (gsM l) a hm
  rw [show vS (lookG a (gsM l)) = vi (sumM a l) from congrArg vi (look_sum l a)] at this
  exact this
theorem mM_blk (l : List Itm) {σ : Nat → Nat} {n : Nat} : Blk σ n (mM l) (mM l) := vB_blk (fun _ _ _ => ⟨rfl, rfl⟩) (fun _ _ _ => ⟨rfl, rfl⟩) _
end Go.Proofs.Ax
