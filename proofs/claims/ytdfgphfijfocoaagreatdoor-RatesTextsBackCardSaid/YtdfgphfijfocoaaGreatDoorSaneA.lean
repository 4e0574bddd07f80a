/-
  The library's Itoa at this program: what the shelf's tool has laid, cut down to what is used.
-/
import Derived.Shelf.LaysM
import Derived.Shelf.Strconv.Itoa3
import Derived.Ground.Names2Prog
import Derived.Test.YtdfgphfijfocoaaGreatDoorProg
import Derived.Test.YtdfgphfijfocoaaGreatDoorAxD
namespace Go.Proofs
open Go.Shelf
def Tryz.laysM171_ren : Go.Shelf.Ren := ⟨fun | 171 => 115 | 243 => 133 | 246 => 158 | 283 => 183 | 284 => 184 | 285 => 185 | 286 => 186 | 129 => 154 | 317 => 199 | 318 => 200 | 319 => 201 | 320 => 202 | 337 => 206 | 338 => 207 | n => n, fun | 3 => 3 | 9 => 9 | 2 => 2 | 4 => 4 | 171 => 236 | 0 => 0 | 53 => 207 | 37 => 129 | 5 => 5 | 173 => 238 | 212 => 251 | 51 => 205 | 20 => 20 | 213 => 252 | 46 => 180 | 232 => 260 | 233 => 261 | n => n, fun | 17 => 3 | 18 => 6 | 19 => 7 | n => n⟩
theorem Tryz.laysM171 : Go.Proofs.LaysM.n171 Tryz.prog Tryz.laysM171_ren := {
  mixed := by kernel_rfl
  f129 := Tryz.func154.trans (congrArg some (by kernel_rfl))
  f171 := Tryz.func115.trans (congrArg some (by kernel_rfl))
  f243 := Tryz.func133.trans (congrArg some (by kernel_rfl))
  f246 := Tryz.func158.trans (congrArg some (by kernel_rfl))
  f283 := Tryz.func183.trans (congrArg some (by kernel_rfl))
  f284 := Tryz.func184.trans (congrArg some (by kernel_rfl))
  f285 := Tryz.func185.trans (congrArg some (by kernel_rfl))
  f286 := Tryz.func186.trans (congrArg some (by kernel_rfl))
  f317 := Tryz.func199.trans (congrArg some (by kernel_rfl))
  f318 := Tryz.func200.trans (congrArg some (by kernel_rfl))
  f319 := Tryz.func201.trans (congrArg some (by kernel_rfl))
  f320 := Tryz.func202.trans (congrArg some (by kernel_rfl))
  f337 := Tryz.func206.trans (congrArg some (by kernel_rfl))
  f338 := Tryz.func207.trans (congrArg some (by kernel_rfl))
  t0 := Tryz.underlying0
  a0 := Tryz.isAgg0
  z0 := Tryz.sizeOf0
  v0 := Tryz.zeroValue0
  t2 := Tryz.underlying2
  a2 := Tryz.isAgg2
  z2 := Tryz.sizeOf2
  v2 := Tryz.zeroValue2
  t3 := Tryz.underlying3
  a3 := Tryz.isAgg3
  z3 := Tryz.sizeOf3
  v3 := Tryz.zeroValue3
  t4 := Tryz.underlying4
  a4 := Tryz.isAgg4
  z4 := Tryz.sizeOf4
  v4 := Tryz.zeroValue4
  t5 := Tryz.underlying5
  a5 := Tryz.isAgg5
  z5 := Tryz.sizeOf5
  v5 := Tryz.zeroValue5
  t9 := Tryz.underlying9
  a9 := Tryz.isAgg9
  z9 := Tryz.sizeOf9
  v9 := Tryz.zeroValue9
  t20 := Tryz.underlying20
  a20 := Tryz.isAgg20
  z20 := Tryz.sizeOf20
  v20 := Tryz.zeroValue20
  t37 := Tryz.underlying129
  a37 := Tryz.isAgg129
  z37 := Tryz.sizeOf129
  v37 := Tryz.zeroValue129
  t46 := Tryz.underlying180
  a46 := Tryz.isAgg180
  z46 := Tryz.sizeOf180
  v46 := Tryz.zeroValue180
  t51 := Tryz.underlying205
  a51 := Tryz.isAgg205
  z51 := Tryz.sizeOf205
  v51 := Tryz.zeroValue205
  t53 := Tryz.underlying207
  a53 := Tryz.isAgg207
  z53 := Tryz.sizeOf207
  v53 := Tryz.zeroValue207
  t171 := Tryz.underlying236
  a171 := Tryz.isAgg236
  z171 := Tryz.sizeOf236
  v171 := Tryz.zeroValue236
  t173 := Tryz.underlying238
  a173 := Tryz.isAgg238
  z173 := Tryz.sizeOf238
  v173 := Tryz.zeroValue238
  t212 := Tryz.underlying251
  a212 := Tryz.isAgg251
  z212 := Tryz.sizeOf251
  v212 := Tryz.zeroValue251
  t213 := Tryz.underlying252
  a213 := Tryz.isAgg252
  z213 := Tryz.sizeOf252
  t232 := Tryz.underlying260
  a232 := Tryz.isAgg260
  z232 := Tryz.sizeOf260
  v232 := Tryz.zeroValue260
  t233 := Tryz.underlying261
  a233 := Tryz.isAgg261
  z233 := Tryz.sizeOf261
  v233 := Tryz.zeroValue261
  g17 := by kernel_rfl
  g18 := by kernel_rfl
  g19 := by kernel_rfl
  i0 := by kernel_rfl
  i2 := by kernel_rfl
  i3 := by kernel_rfl
  i4 := by kernel_rfl
  i5 := by kernel_rfl
  i9 := by kernel_rfl
  i20 := by kernel_rfl
  i37 := by kernel_rfl
  i46 := by kernel_rfl
  i51 := by kernel_rfl
  i53 := by kernel_rfl
  i171 := by kernel_rfl
  i173 := by kernel_rfl
  i212 := by kernel_rfl
  i232 := by kernel_rfl
  i233 := by kernel_rfl
  m17 := by kernel_rfl
  m18 := by kernel_rfl
  m19 := by kernel_rfl }
open Go.RowKit Go.Sort Go.Lib in
/-- strconv.Itoa: "Itoa is equivalent to FormatInt(int64(i), 10).": i's DECIMAL NUMERAL ('Lib.itoa': a '-' where i is negative, then the digits), FOR EVERY int. The world behind the call: the world before it, new blocks behind the heap (the library's 'var a [24]byte'), draws. (LAID: no walk: one application.) -/
theorem Tryz.strconv_Itoa (n : Int) (h0 : -9223372036854775808 ≤ n) (h1 : n ≤ 9223372036854775807) (w : World) (htab : Lib.TabIs Tryz.prog w "internal/strconv.uint64pow10" .u64 Lib.pow10Tab) :
    Calls Tryz.prog 115 #[.int .i64 n] w fun e w' => e = .returned (.string ⟨(Lib.itoa n).toArray⟩) ∧ ∃ k os, w' = grow (w.drewN k) os := Any.strconv_Itoa Tryz.laysM171 n h0 h1 w htab
end Go.Proofs
namespace Go.Proofs.Ax
open Go Go.Proofs
def digits : Nat → Nat → List UInt8 → List UInt8
  | 0, _, acc => acc
  | f + 1, n, acc => if n < 10 then UInt8.ofNat (48 + n) :: acc else digits f (n / 10) (UInt8.ofNat (48 + n % 10) :: acc)
def decI (n : Int) : ByteArray := ⟨(if n < 0 then 45 :: digits 20 n.natAbs [] else digits 20 n.natAbs []).toArray⟩
def pow10 : List AV := (List.range 20).map fun i => .sc (.int .u64 ((10 ^ i : Nat) : Int))
/-- The variables that are known. -/
def G1 : Glob := fun g => match g with
  | 3 => some pow10
  | _ => none
def orc0 : Orc := fun f args H => match f, args with
  | 115, [.sc (.int .i64 n)] => if -9223372036854775808 ≤ n ∧ n ≤ 9223372036854775807 then some [(.sc (.string (decI n)), H)] else none
  | 157, [x] => some [(x, H)]
  | _, _ => none
def hint1 : Hint := fun n id => match n, id with
  | 50, 0 => some [5, 6, 7]
  | 50, 2 => some [7]
  | _, _ => none
def isOuts (r : Option (List (AV × AH))) (l : List (AV × AH)) : Bool := match r with
  | some l' => lbeq obeq l' l
  | none => false
theorem isOuts_eq {r : Option (List (AV × AH))} {l : List (AV × AH)} (h : isOuts r l = true) : r = some l := by
  unfold isOuts at h
  split at h
  · rw [lbeq_eq (fun x y => obeq_eq) h]
  · cases h
end Go.Proofs.Ax
namespace Go.Proofs.Ax
open Go Go.Proofs Go.Sort

theorem HRel.below {G : Glob} {I : Nat → Prop} {w w' : World} {ρ : Places} {H : AH} (h : HRel G I w ρ H) (hs : w.heap.size ≤ w'.heap.size) (hf : ∀ b, b < w.heap.size → w'.heap[b]? = w.heap[b]?)
    (ho : w'.os = w.os) (ht : w'.tape = w.tape) (hu : w'.output = w.output) : HRel G I w' ρ H ∧ Went I w ρ H I w' ρ H := by
  have hk : Keeps I I w w' := ⟨fun _ h => h, fun b hb => hf b (h.old b hb)⟩
  refine ⟨⟨fun id blk l hi hl h1 => ?_, h.inj, h.dom, fun b hb => Nat.lt_of_lt_of_le (h.old b hb) hs, h.glob' hk⟩,
    ⟨fun _ h => h, fun _ _ h => h, hs, ho, ht, hu, fun b hb _ => hf b hb, fun b hb _ => hb, fun b hb => .inl hb⟩⟩
  obtain ⟨h2, h3, h4⟩ := h.blk id blk l hi hl h1
  exact ⟨Nat.lt_of_lt_of_le h2 hs, h3, h4.mono hk (fun _ _ h => h) (hf _ h2)⟩

theorem digits_eq : ∀ (f n : Nat) (acc : List UInt8), n < 10 ^ f → 0 < f → digits f n acc = Lib.decDigits n ++ acc
  | 0, n, acc, h, h0 => absurd h0 (Nat.lt_irrefl _)
  | f + 1, n, acc, h, _ => by
    unfold digits
    rw [Lib.decDigits]
    by_cases hn : n < 10
    · rw [if_pos hn, dif_pos hn]; rfl
    · rw [if_neg hn, dif_neg hn]
      have hf : 0 < f := by
        rcases Nat.eq_zero_or_pos f with rfl | hf
        · simp at h; omega
        · exact hf
      rw [digits_eq f (n / 10) _ (by rw [Nat.pow_succ] at h; omega) hf]
      simp

theorem decI_eq {n : Int} (h0 : -9223372036854775808 ≤ n) (h1 : n ≤ 9223372036854775807) : decI n = ⟨(Lib.itoa n).toArray⟩ := by
  unfold decI Lib.itoa
  split
  · rw [digits_eq 20 _ [] (by omega) (by decide)]; simp
  · rw [digits_eq 20 _ [] (by omega) (by decide)]; simp; congr 2; omega

theorem tab_of {I : Nat → Prop} {w : World} (h : GlobAt I w 3 pow10) : Lib.TabIs Tryz.prog w "internal/strconv.uint64pow10" .u64 Lib.pow10Tab := by
  obtain ⟨h1, h2, arr, t, fz, h3, h4⟩ := h
  unfold Lib.TabIs World.var?
  rw [show Tryz.prog.globalNamed "internal/strconv.uint64pow10" = some 3 by kernel_rfl]
  simp only [Option.bind_some, h3, Option.some.injEq]
  apply Array.ext
  · rw [h4]; rfl
  · intro j hj hj'
    generalize hq : Value.pointer (some ⟨3, 0, none⟩) = u0 at h1
    cases h1 with
    | pi f hI hc ho hv =>
      cases hq
      have hlen : j < 20 := by rw [h4] at hj; exact hj
      have hx : pow10[j]? = some (.sc (.int .u64 ((10 ^ j : Nat) : Int))) := by
        simp [pow10, List.getElem?_range hlen]
      have h5 := hc j _ hx
      have h6 := hv j _ hx
      generalize f j = u at h5 h6
      cases h6
      simp only [World.cell?, h3, Nat.zero_add] at h5
      have h7 : arr[j]? = some (Value.int .u64 ((10 ^ j : Nat) : Int)) := by simpa using h5
      rw [Array.getElem?_eq_getElem hj] at h7
      rw [Option.some.inj h7]
      simp [Lib.pow10Tab]

theorem orc0_ok : OrcOk Tryz.prog G1 orc0 := by
  intro f args H outs h
  unfold orc0 at h
  split at h
  · rename_i n
    split at h
    case isFalse => cases h
    rename_i hn
    cases h
    intro I w ρ vs hh hl hv
    have hx := hv 0 _ rfl
    obtain ⟨u, rfl⟩ : ∃ u, vs = #[u] := by
      match vs, hl with
      | ⟨[u]⟩, _ => exact ⟨u, rfl⟩
    have hx : VRel I w ρ u (.sc (.int .i64 n)) := hx
    cases hx
    right
    refine ⟨fun w => by kernel_rfl, ?_⟩
    refine (Tryz.strconv_Itoa n hn.1 hn.2 w (tab_of (hh.glob 3 _ rfl))).mono ?_
    rintro e w' ⟨rfl, k, os, rfl⟩
    refine ⟨_, rfl, I, ρ, H, _, List.mem_singleton.2 rfl, ?_⟩
    have hb := hh.below (w' := grow (w.drewN k) os) (by simp [grow]) (fun b hb => by
      simp only [grow, World.heap_drewN]
      rw [Array.getElem?_append_left hb]) rfl rfl rfl
    refine ⟨hb.1, ?_, hb.2.gone⟩
    rw [decI_eq hn.1 hn.2]
    exact .sc
  · rename_i x
    cases h
    intro I w ρ vs hh hl hv
    obtain ⟨u, rfl⟩ : ∃ u, vs = #[u] := by
      match vs, hl with
      | ⟨[u]⟩, _ => exact ⟨u, rfl⟩
    left
    exact ⟨u, w, I, ρ, x, H, List.mem_singleton.2 rfl, by kernel_rfl, hh, Gone.refl, hv 0 _ rfl⟩
  · cases h

theorem entersB : (Tryz.prog.funcs.toList.all fun fn => fn.body.isNone || !(fn.name == "runtime.NumGoroutine")) = true := by kernel_rfl
theorem enters : Enters Tryz.prog := by
  intro f fn c hf hb
  have h := List.all_eq_true.1 entersB fn (by
    rw [← Array.getElem?_toList] at hf
    exact List.mem_of_getElem? hf)
  rw [hb] at h
  simpa using h
theorem mixed : Tryz.prog.follows .mixedOrders = true := by kernel_rfl
end Go.Proofs.Ax
namespace Go.Proofs.Ax
open Go
def memoA42 : List AV := []
def memoH42 : AH := []
def memoO42 : List (AV × AH) := [((.tuple [(.sl 7 true [[(.sc (.int .i64 10)), (.sc (.int .i64 500)), (.sc (.int .i64 40)), (.sc (.int .i64 100)), (.sc (.int .i64 30)), (.sc (.int .i64 60)), (.sc (.int .i64 250))]]), (.sl 4 true [[(.sc (.int .i64 12)), (.sc (.int .i64 1)), (.sc (.int .i64 1)), (.sl 1 true [[(.sc (.int .i64 7))]])], [(.sc (.int .i64 12)), (.sc (.int .i64 2)), (.sc (.int .i64 1)), (.sl 1 true [[(.sc (.int .i64 7))], [(.sc (.int .i64 9))]])], [(.sc (.int .i64 12)), (.sc (.int .i64 3)), (.sc (.int .i64 3)), (.sl 1 true [[(.sc (.int .i64 9))]])], [(.sc (.int .i64 12)), (.sc (.int .i64 4)), (.sc (.int .i64 2)), (.sl 1 true [[(.sc (.int .i64 9))]])]])]), [])]
theorem memoRun42 : isOuts (rcall Tryz.prog orc0 (rcode Tryz.prog G1 orc0 hint1 100000) 50 memoA42 memoH42) memoO42 = true := by kernel_rfl
end Go.Proofs.Ax
