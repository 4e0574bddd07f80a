/-
  The library's Itoa at this program: what the shelf's tool has laid, cut down to what is used.
-/
import Derived.Shelf.LaysM
import Derived.Shelf.Strconv.Itoa3
import Derived.Ground.Names2Prog
import Derived.Test.YtdfgphfijfocoaaDoorProg
import Derived.Test.YtdfgphfijfocoaaDoorAxD
namespace Go.Proofs
open Go.Shelf
def Tryd.laysM171_ren : Go.Shelf.Ren := ⟨fun | 171 => 86 | 243 => 92 | 246 => 106 | 283 => 113 | 284 => 114 | 285 => 115 | 286 => 116 | 129 => 104 | 317 => 119 | 318 => 120 | 319 => 121 | 320 => 122 | 337 => 123 | 338 => 124 | n => n, fun | 3 => 3 | 9 => 9 | 2 => 2 | 4 => 4 | 171 => 168 | 0 => 0 | 53 => 158 | 37 => 116 | 5 => 5 | 173 => 170 | 212 => 177 | 51 => 156 | 20 => 20 | 213 => 178 | 46 => 66 | 232 => 179 | 233 => 180 | n => n, fun | 17 => 0 | 18 => 1 | 19 => 2 | n => n⟩
theorem Tryd.laysM171 : Go.Proofs.LaysM.n171 Tryd.prog Tryd.laysM171_ren := {
  mixed := by kernel_rfl
  f129 := Tryd.func104.trans (congrArg some (by kernel_rfl))
  f171 := Tryd.func86.trans (congrArg some (by kernel_rfl))
  f243 := Tryd.func92.trans (congrArg some (by kernel_rfl))
  f246 := Tryd.func106.trans (congrArg some (by kernel_rfl))
  f283 := Tryd.func113.trans (congrArg some (by kernel_rfl))
  f284 := Tryd.func114.trans (congrArg some (by kernel_rfl))
  f285 := Tryd.func115.trans (congrArg some (by kernel_rfl))
  f286 := Tryd.func116.trans (congrArg some (by kernel_rfl))
  f317 := Tryd.func119.trans (congrArg some (by kernel_rfl))
  f318 := Tryd.func120.trans (congrArg some (by kernel_rfl))
  f319 := Tryd.func121.trans (congrArg some (by kernel_rfl))
  f320 := Tryd.func122.trans (congrArg some (by kernel_rfl))
  f337 := Tryd.func123.trans (congrArg some (by kernel_rfl))
  f338 := Tryd.func124.trans (congrArg some (by kernel_rfl))
  t0 := Tryd.underlying0
  a0 := Tryd.isAgg0
  z0 := Tryd.sizeOf0
  v0 := Tryd.zeroValue0
  t2 := Tryd.underlying2
  a2 := Tryd.isAgg2
  z2 := Tryd.sizeOf2
  v2 := Tryd.zeroValue2
  t3 := Tryd.underlying3
  a3 := Tryd.isAgg3
  z3 := Tryd.sizeOf3
  v3 := Tryd.zeroValue3
  t4 := Tryd.underlying4
  a4 := Tryd.isAgg4
  z4 := Tryd.sizeOf4
  v4 := Tryd.zeroValue4
  t5 := Tryd.underlying5
  a5 := Tryd.isAgg5
  z5 := Tryd.sizeOf5
  v5 := Tryd.zeroValue5
  t9 := Tryd.underlying9
  a9 := Tryd.isAgg9
  z9 := Tryd.sizeOf9
  v9 := Tryd.zeroValue9
  t20 := Tryd.underlying20
  a20 := Tryd.isAgg20
  z20 := Tryd.sizeOf20
  v20 := Tryd.zeroValue20
  t37 := Tryd.underlying116
  a37 := Tryd.isAgg116
  z37 := Tryd.sizeOf116
  v37 := Tryd.zeroValue116
  t46 := Tryd.underlying66
  a46 := Tryd.isAgg66
  z46 := Tryd.sizeOf66
  v46 := Tryd.zeroValue66
  t51 := Tryd.underlying156
  a51 := Tryd.isAgg156
  z51 := Tryd.sizeOf156
  v51 := Tryd.zeroValue156
  t53 := Tryd.underlying158
  a53 := Tryd.isAgg158
  z53 := Tryd.sizeOf158
  v53 := Tryd.zeroValue158
  t171 := Tryd.underlying168
  a171 := Tryd.isAgg168
  z171 := Tryd.sizeOf168
  v171 := Tryd.zeroValue168
  t173 := Tryd.underlying170
  a173 := Tryd.isAgg170
  z173 := Tryd.sizeOf170
  v173 := Tryd.zeroValue170
  t212 := Tryd.underlying177
  a212 := Tryd.isAgg177
  z212 := Tryd.sizeOf177
  v212 := Tryd.zeroValue177
  t213 := Tryd.underlying178
  a213 := Tryd.isAgg178
  z213 := Tryd.sizeOf178
  t232 := Tryd.underlying179
  a232 := Tryd.isAgg179
  z232 := Tryd.sizeOf179
  v232 := Tryd.zeroValue179
  t233 := Tryd.underlying180
  a233 := Tryd.isAgg180
  z233 := Tryd.sizeOf180
  v233 := Tryd.zeroValue180
  g17 := by kernel_rfl
  g18 := by kernel_rfl
  g19 := by kernel_rfl
  i0 := by kernel_rfl
  i2 := by kernel_rfl
  i3 := by kernel_rfl
  i4 := by kernel_rfl
  i5 := by kernel_rfl
  i9 := by kernel_rfl
  i20 := by kernel_rfl
  i37 := by kernel_rfl
  i46 := by kernel_rfl
  i51 := by kernel_rfl
  i53 := by kernel_rfl
  i171 := by kernel_rfl
  i173 := by kernel_rfl
  i212 := by kernel_rfl
  i232 := by kernel_rfl
  i233 := by kernel_rfl
  m17 := by kernel_rfl
  m18 := by kernel_rfl
  m19 := by kernel_rfl }
open Go.RowKit Go.Sort Go.Lib in
/-- strconv.Itoa: "Itoa is equivalent to FormatInt(int64(i), 10).": i's DECIMAL NUMERAL ('Lib.itoa': a '-' where i is negative, then the digits), FOR EVERY int. The world behind the call: the world before it, new blocks behind the heap (the library's 'var a [24]byte'), draws. (LAID: no walk: one application.) -/
theorem Tryd.strconv_Itoa (n : Int) (h0 : -9223372036854775808 ≤ n) (h1 : n ≤ 9223372036854775807) (w : World) (htab : Lib.TabIs Tryd.prog w "internal/strconv.uint64pow10" .u64 Lib.pow10Tab) :
    Calls Tryd.prog 86 #[.int .i64 n] w fun e w' => e = .returned (.string ⟨(Lib.itoa n).toArray⟩) ∧ ∃ k os, w' = grow (w.drewN k) os := Any.strconv_Itoa Tryd.laysM171 n h0 h1 w htab
end Go.Proofs
namespace Go.Proofs.Ax
open Go Go.Proofs
def digits : Nat → Nat → List UInt8 → List UInt8
  | 0, _, acc => acc
  | f + 1, n, acc => if n < 10 then UInt8.ofNat (48 + n) :: acc else digits f (n / 10) (UInt8.ofNat (48 + n % 10) :: acc)
def decI (n : Int) : ByteArray := ⟨(if n < 0 then 45 :: digits 20 n.natAbs [] else digits 20 n.natAbs []).toArray⟩
def pow10 : List AV := (List.range 20).map fun i => .sc (.int .u64 ((10 ^ i : Nat) : Int))
/-- The variables that are known. -/
def G1 : Glob := fun g => match g with
  | 0 => some pow10
  | _ => none
def orc0 : Orc := fun f args H => match f, args with
  | 86, [.sc (.int .i64 n)] => if -9223372036854775808 ≤ n ∧ n ≤ 9223372036854775807 then some [(.sc (.string (decI n)), H)] else none
  | 105, [x] => some [(x, H)]
  | _, _ => none
def hint1 : Hint := fun n id => match n, id with
  | 50, 0 => some [5, 6, 7]
  | 50, 2 => some [7]
  | _, _ => none
def isOuts (r : Option (List (AV × AH))) (l : List (AV × AH)) : Bool := match r with
  | some l' => lbeq obeq l' l
  | none => false
theorem isOuts_eq {r : Option (List (AV × AH))} {l : List (AV × AH)} (h : isOuts r l = true) : r = some l := by
  unfold isOuts at h
  split at h
  · rw [lbeq_eq (fun x y => obeq_eq) h]
  · cases h
end Go.Proofs.Ax
namespace Go.Proofs.Ax
open Go Go.Proofs Go.Sort

theorem HRel.below {G : Glob} {I : Nat → Prop} {w w' : World} {ρ : Places} {H : AH} (h : HRel G I w ρ H) (hs : w.heap.size ≤ w'.heap.size) (hf : ∀ b, b < w.heap.size → w'.heap[b]? = w.heap[b]?)
    (ho : w'.os = w.os) (ht : w'.tape = w.tape) (hu : w'.output = w.output) : HRel G I w' ρ H ∧ Went I w ρ H I w' ρ H := by
  have hk : Keeps I I w w' := ⟨fun _ h => h, fun b hb => hf b (h.old b hb)⟩
  refine ⟨⟨fun id blk l hi hl h1 => ?_, h.inj, h.dom, fun b hb => Nat.lt_of_lt_of_le (h.old b hb) hs, h.glob' hk⟩,
    ⟨fun _ h => h, fun _ _ h => h, hs, ho, ht, hu, fun b hb _ => hf b hb, fun b hb _ => hb, fun b hb => .inl hb⟩⟩
  obtain ⟨h2, h3, h4⟩ := h.blk id blk l hi hl h1
  exact ⟨Nat.lt_of_lt_of_le h2 hs, h3, h4.mono hk (fun _ _ h => h) (hf _ h2)⟩

theorem digits_eq : ∀ (f n : Nat) (acc : List UInt8), n < 10 ^ f → 0 < f → digits f n acc = Lib.decDigits n ++ acc
  | 0, n, acc, h, h0 => absurd h0 (Nat.lt_irrefl _)
  | f + 1, n, acc, h, _ => by
    unfold digits
    rw [Lib.decDigits]
    by_cases hn : n < 10
    · rw [if_pos hn, dif_pos hn]; rfl
    · rw [if_neg hn, dif_neg hn]
      have hf : 0 < f := by
        rcases Nat.eq_zero_or_pos f with rfl | hf
        · simp at h; omega
        · exact hf
      rw [digits_eq f (n / 10) _ (by rw [Nat.pow_succ] at h; omega) hf]
      simp

theorem decI_eq {n : Int} (h0 : -9223372036854775808 ≤ n) (h1 : n ≤ 9223372036854775807) : decI n = ⟨(Lib.itoa n).toArray⟩ := by
  unfold decI Lib.itoa
  split
  · rw [digits_eq 20 _ [] (by omega) (by decide)]; simp
  · rw [digits_eq 20 _ [] (by omega) (by decide)]; simp; congr 2; omega

theorem tab_of {I : Nat → Prop} {w : World} (h : GlobAt I w 0 pow10) : Lib.TabIs Tryd.prog w "internal/strconv.uint64pow10" .u64 Lib.pow10Tab := by
  obtain ⟨h1, h2, arr, t, fz, h3, h4⟩ := h
  unfold Lib.TabIs World.var?
  rw [show Tryd.prog.globalNamed "internal/strconv.uint64pow10" = some 0 by kernel_rfl]
  simp only [Option.bind_some, h3, Option.some.injEq]
  apply Array.ext
  · rw [h4]; rfl
  · intro j hj hj'
    generalize hq : Value.pointer (some ⟨0, 0, none⟩) = u0 at h1
    cases h1 with
    | pi f hI hc ho hv =>
      cases hq
      have hlen : j < 20 := by rw [h4] at hj; exact hj
      have hx : pow10[j]? = some (.sc (.int .u64 ((10 ^ j : Nat) : Int))) := by
        simp [pow10, List.getElem?_range hlen]
      have h5 := hc j _ hx
      have h6 := hv j _ hx
      generalize f j = u at h5 h6
      cases h6
      simp only [World.cell?, h3, Nat.zero_add] at h5
      have h7 : arr[j]? = some (Value.int .u64 ((10 ^ j : Nat) : Int)) := by simpa using h5
      rw [Array.getElem?_eq_getElem hj] at h7
      rw [Option.some.inj h7]
      simp [Lib.pow10Tab]

theorem orc0_ok : OrcOk Tryd.prog G1 orc0 := by
  intro f args H outs h
  unfold orc0 at h
  split at h
  · rename_i n
    split at h
    case isFalse => cases h
    rename_i hn
    cases h
    intro I w ρ vs hh hl hv
    have hx := hv 0 _ rfl
    obtain ⟨u, rfl⟩ : ∃ u, vs = #[u] := by
      match vs, hl with
      | ⟨[u]⟩, _ => exact ⟨u, rfl⟩
    have hx : VRel I w ρ u (.sc (.int .i64 n)) := hx
    cases hx
    right
    refine ⟨fun w => by kernel_rfl, ?_⟩
    refine (Tryd.strconv_Itoa n hn.1 hn.2 w (tab_of (hh.glob 0 _ rfl))).mono ?_
    rintro e w' ⟨rfl, k, os, rfl⟩
    refine ⟨_, rfl, I, ρ, H, _, List.mem_singleton.2 rfl, ?_⟩
    have hb := hh.below (w' := grow (w.drewN k) os) (by simp [grow]) (fun b hb => by
      simp only [grow, World.heap_drewN]
      rw [Array.getElem?_append_left hb]) rfl rfl rfl
    refine ⟨hb.1, ?_, hb.2.gone⟩
    rw [decI_eq hn.1 hn.2]
    exact .sc
  · rename_i x
    cases h
    intro I w ρ vs hh hl hv
    obtain ⟨u, rfl⟩ : ∃ u, vs = #[u] := by
      match vs, hl with
      | ⟨[u]⟩, _ => exact ⟨u, rfl⟩
    left
    exact ⟨u, w, I, ρ, x, H, List.mem_singleton.2 rfl, by kernel_rfl, hh, Gone.refl, hv 0 _ rfl⟩
  · cases h

theorem entersB : (Tryd.prog.funcs.toList.all fun fn => fn.body.isNone || !(fn.name == "runtime.NumGoroutine")) = true := by kernel_rfl
theorem enters : Enters Tryd.prog := by
  intro f fn c hf hb
  have h := List.all_eq_true.1 entersB fn (by
    rw [← Array.getElem?_toList] at hf
    exact List.mem_of_getElem? hf)
  rw [hb] at h
  simpa using h
theorem mixed : Tryd.prog.follows .mixedOrders = true := by kernel_rfl
end Go.Proofs.Ax
namespace Go.Proofs.Ax
open Go
def memoA42 : List AV := []
def memoH42 : AH := []
def memoO42 : List (AV × AH) := [((.tuple [(.sl 7 true [[(.sc (.int .i64 10)), (.sc (.int .i64 500)), (.sc (.int .i64 40)), (.sc (.int .i64 100)), (.sc (.int .i64 30)), (.sc (.int .i64 60)), (.sc (.int .i64 250))]]), (.sl 4 true [[(.sc (.int .i64 12)), (.sc (.int .i64 1)), (.sc (.int .i64 1)), (.sl 1 true [[(.sc (.int .i64 7))]])], [(.sc (.int .i64 12)), (.sc (.int .i64 2)), (.sc (.int .i64 1)), (.sl 1 true [[(.sc (.int .i64 7))], [(.sc (.int .i64 9))]])], [(.sc (.int .i64 12)), (.sc (.int .i64 3)), (.sc (.int .i64 3)), (.sl 1 true [[(.sc (.int .i64 9))]])], [(.sc (.int .i64 12)), (.sc (.int .i64 4)), (.sc (.int .i64 2)), (.sl 1 true [[(.sc (.int .i64 9))]])]])]), [])]
theorem memoRun42 : isOuts (rcall Tryd.prog orc0 (rcode Tryd.prog G1 orc0 hint1 100000) 42 memoA42 memoH42) memoO42 = true := by kernel_rfl
end Go.Proofs.Ax
