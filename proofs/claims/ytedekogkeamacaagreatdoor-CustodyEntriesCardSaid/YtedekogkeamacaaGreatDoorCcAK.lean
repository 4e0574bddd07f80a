/-
  DERIVED: THE SHELF's CONTRACTS AT THIS DUMP, IN PLAIN WORDS (tools/lay-plain.mjs out of 'TryzSh1.lean', which tools/lay-shelf.mjs wrote): THE SAME DECLARATIONS UNDER THE SAME NAMES: 'import', 'namespace', 'open', 'def', 'theorem' AND NOTHING ELSE: no command of the shelf's: FOR A HAND-IN. Each laying: the table of numbers ('.._ren') and one theorem, a field a fact of the dump's own or the kernel's comparison; each contract: ONE APPLICATION.
-/
import Derived.Shelf.Strings.OnBuilder
import Derived.Shelf.LaysM
import Derived.Shelf.Strconv.Itoa3
import Derived.Ground.Names2Prog
import Derived.Test.YtedekogkeamacaaGreatDoorProg
import Derived.Test.YtedekogkeamacaaGreatDoorCcAI
import Derived.Test.YtedekogkeamacaaGreatDoorCuC
namespace Go.Proofs
open Go.Shelf
def Tryz.lays156_ren : Go.Shelf.Ren := ⟨fun | 156 => 114 | 165 => 155 | 166 => 156 | 169 => 157 | 240 => 201 | 241 => 202 | 276 => 223 | 277 => 224 | n => n, fun | 31 => 165 | 9 => 9 | 3 => 3 | 4 => 4 | 0 => 0 | 20 => 20 | 72 => 229 | 76 => 233 | 70 => 226 | 37 => 227 | 75 => 232 | 127 => 271 | 164 => 287 | 5 => 5 | 80 => 235 | n => n, fun | n => n⟩
theorem Tryz.lays156 : Go.Proofs.Lays.n156 Tryz.prog Tryz.lays156_ren := {
  mixed := by kernel_rfl
  f156 := Tryz.func114.trans (congrArg some (by kernel_rfl))
  f165 := Tryz.func155.trans (congrArg some (by kernel_rfl))
  f166 := Tryz.func156.trans (congrArg some (by kernel_rfl))
  f169 := Tryz.func157.trans (congrArg some (by kernel_rfl))
  f240 := Tryz.func201.trans (congrArg some (by kernel_rfl))
  f241 := Tryz.func202.trans (congrArg some (by kernel_rfl))
  f276 := Tryz.func223.trans (congrArg some (by kernel_rfl))
  f277 := Tryz.func224.trans (congrArg some (by kernel_rfl))
  t0 := Tryz.underlying0
  a0 := Tryz.isAgg0
  z0 := Tryz.sizeOf0
  v0 := Tryz.zeroValue0
  t3 := Tryz.underlying3
  a3 := Tryz.isAgg3
  z3 := Tryz.sizeOf3
  v3 := Tryz.zeroValue3
  t4 := Tryz.underlying4
  a4 := Tryz.isAgg4
  z4 := Tryz.sizeOf4
  v4 := Tryz.zeroValue4
  t9 := Tryz.underlying9
  a9 := Tryz.isAgg9
  z9 := Tryz.sizeOf9
  v9 := Tryz.zeroValue9
  t20 := Tryz.underlying20
  a20 := Tryz.isAgg20
  z20 := Tryz.sizeOf20
  v20 := Tryz.zeroValue20
  t31 := Tryz.underlying165
  a31 := Tryz.isAgg165
  z31 := Tryz.sizeOf165
  v31 := Tryz.zeroValue165
  t37 := Tryz.underlying227
  a37 := Tryz.isAgg227
  z37 := Tryz.sizeOf227
  v37 := Tryz.zeroValue227
  t70 := Tryz.underlying226
  a70 := Tryz.isAgg226
  z70 := Tryz.sizeOf226
  v70 := Tryz.zeroValue226
  t72 := Tryz.underlying229
  a72 := Tryz.isAgg229
  z72 := Tryz.sizeOf229
  v72 := Tryz.zeroValue229
  t75 := Tryz.underlying232
  a75 := Tryz.isAgg232
  z75 := Tryz.sizeOf232
  v75 := Tryz.zeroValue232
  t76 := Tryz.underlying233
  a76 := Tryz.isAgg233
  z76 := Tryz.sizeOf233
  v76 := Tryz.zeroValue233
  t127 := Tryz.underlying271
  a127 := Tryz.isAgg271
  z127 := Tryz.sizeOf271
  v127 := Tryz.zeroValue271
  t164 := Tryz.underlying287
  a164 := Tryz.isAgg287
  z164 := Tryz.sizeOf287
  v164 := Tryz.zeroValue287 }
theorem Tryz.Builder_Extra_156 : Builder.Extra Tryz.prog Tryz.lays156_ren := {
  sizeBuilder := by kernel_rfl
  liesBuilder := by kernel_rfl
  t5 := Tryz.underlying5
  a5 := Tryz.isAgg5
  z5 := Tryz.sizeOf5
  v5 := Tryz.zeroValue5
  infoByte := by kernel_rfl
  cellsByte := by kernel_rfl
  sizeByte := by kernel_rfl
  neB5 := by decide }
open Go.RowKit in
theorem Tryz.strings_Join_none (a : Option Addr) (c : Nat) (sep : ByteArray) (w : World) :
    Calls Tryz.prog 114 #[.slice a 0 c, .string sep] w fun e w' => e = .returned (.string ⟨#[]⟩) ∧ w' = w := Any.strings_Join_none Tryz.lays156 Tryz.Builder_Extra_156 a c sep w
open Go.RowKit in
theorem Tryz.strings_Join (bk o c : Nat) (xs : List ByteArray) (sep : ByteArray) (w : World) (hcells : ∀ (j : Nat) x, xs[j]? = some x → w.cell? ⟨bk, o + j, none⟩ = some (.string x)) (hbk : bk < w.heap.size) (hN : xs.length ≤ 140737488355328) (hcap : xs.length ≤ c) (hlen : (Lib.join (xs.map (·.data.toList)) sep.data.toList).length ≤ 140737488355328) :
    Calls Tryz.prog 114 #[.slice (some ⟨bk, o, none⟩) xs.length c, .string sep] w fun e w' => e = .returned (.string ⟨(Lib.join (xs.map (·.data.toList)) sep.data.toList).toArray⟩) ∧ Below w.heap.size w w' := Any.strings_Join Tryz.lays156 Tryz.Builder_Extra_156 bk o c xs sep w hcells hbk hN hcap hlen
def Tryz.laysM171_ren : Go.Shelf.Ren := ⟨fun | 171 => 154 | 243 => 200 | 246 => 222 | 283 => 237 | 284 => 238 | 285 => 239 | 286 => 240 | 129 => 194 | 317 => 251 | 318 => 252 | 319 => 253 | 320 => 254 | 337 => 260 | 338 => 261 | n => n, fun | 3 => 3 | 9 => 9 | 2 => 2 | 4 => 4 | 171 => 298 | 0 => 0 | 53 => 266 | 37 => 227 | 5 => 5 | 173 => 300 | 212 => 310 | 51 => 264 | 20 => 20 | 213 => 311 | 46 => 216 | 232 => 328 | 233 => 329 | n => n, fun | 17 => 1 | 18 => 6 | 19 => 7 | n => n⟩
theorem Tryz.laysM171 : Go.Proofs.LaysM.n171 Tryz.prog Tryz.laysM171_ren := {
  mixed := by kernel_rfl
  f129 := Tryz.func194.trans (congrArg some (by kernel_rfl))
  f171 := Tryz.func154.trans (congrArg some (by kernel_rfl))
  f243 := Tryz.func200.trans (congrArg some (by kernel_rfl))
  f246 := Tryz.func222.trans (congrArg some (by kernel_rfl))
  f283 := Tryz.func237.trans (congrArg some (by kernel_rfl))
  f284 := Tryz.func238.trans (congrArg some (by kernel_rfl))
  f285 := Tryz.func239.trans (congrArg some (by kernel_rfl))
  f286 := Tryz.func240.trans (congrArg some (by kernel_rfl))
  f317 := Tryz.func251.trans (congrArg some (by kernel_rfl))
  f318 := Tryz.func252.trans (congrArg some (by kernel_rfl))
  f319 := Tryz.func253.trans (congrArg some (by kernel_rfl))
  f320 := Tryz.func254.trans (congrArg some (by kernel_rfl))
  f337 := Tryz.func260.trans (congrArg some (by kernel_rfl))
  f338 := Tryz.func261.trans (congrArg some (by kernel_rfl))
  t0 := Tryz.underlying0
  a0 := Tryz.isAgg0
  z0 := Tryz.sizeOf0
  v0 := Tryz.zeroValue0
  t2 := Tryz.underlying2
  a2 := Tryz.isAgg2
  z2 := Tryz.sizeOf2
  v2 := Tryz.zeroValue2
  t3 := Tryz.underlying3
  a3 := Tryz.isAgg3
  z3 := Tryz.sizeOf3
  v3 := Tryz.zeroValue3
  t4 := Tryz.underlying4
  a4 := Tryz.isAgg4
  z4 := Tryz.sizeOf4
  v4 := Tryz.zeroValue4
  t5 := Tryz.underlying5
  a5 := Tryz.isAgg5
  z5 := Tryz.sizeOf5
  v5 := Tryz.zeroValue5
  t9 := Tryz.underlying9
  a9 := Tryz.isAgg9
  z9 := Tryz.sizeOf9
  v9 := Tryz.zeroValue9
  t20 := Tryz.underlying20
  a20 := Tryz.isAgg20
  z20 := Tryz.sizeOf20
  v20 := Tryz.zeroValue20
  t37 := Tryz.underlying227
  a37 := Tryz.isAgg227
  z37 := Tryz.sizeOf227
  v37 := Tryz.zeroValue227
  t46 := Tryz.underlying216
  a46 := Tryz.isAgg216
  z46 := Tryz.sizeOf216
  v46 := Tryz.zeroValue216
  t51 := Tryz.underlying264
  a51 := Tryz.isAgg264
  z51 := Tryz.sizeOf264
  v51 := Tryz.zeroValue264
  t53 := Tryz.underlying266
  a53 := Tryz.isAgg266
  z53 := Tryz.sizeOf266
  v53 := Tryz.zeroValue266
  t171 := Tryz.underlying298
  a171 := Tryz.isAgg298
  z171 := Tryz.sizeOf298
  v171 := Tryz.zeroValue298
  t173 := Tryz.underlying300
  a173 := Tryz.isAgg300
  z173 := Tryz.sizeOf300
  v173 := Tryz.zeroValue300
  t212 := Tryz.underlying310
  a212 := Tryz.isAgg310
  z212 := Tryz.sizeOf310
  v212 := Tryz.zeroValue310
  t213 := Tryz.underlying311
  a213 := Tryz.isAgg311
  z213 := Tryz.sizeOf311
  t232 := Tryz.underlying328
  a232 := Tryz.isAgg328
  z232 := Tryz.sizeOf328
  v232 := Tryz.zeroValue328
  t233 := Tryz.underlying329
  a233 := Tryz.isAgg329
  z233 := Tryz.sizeOf329
  v233 := Tryz.zeroValue329
  g17 := by kernel_rfl
  g18 := by kernel_rfl
  g19 := by kernel_rfl
  i0 := by kernel_rfl
  i2 := by kernel_rfl
  i3 := by kernel_rfl
  i4 := by kernel_rfl
  i5 := by kernel_rfl
  i9 := by kernel_rfl
  i20 := by kernel_rfl
  i37 := by kernel_rfl
  i46 := by kernel_rfl
  i51 := by kernel_rfl
  i53 := by kernel_rfl
  i171 := by kernel_rfl
  i173 := by kernel_rfl
  i212 := by kernel_rfl
  i232 := by kernel_rfl
  i233 := by kernel_rfl
  m17 := by kernel_rfl
  m18 := by kernel_rfl
  m19 := by kernel_rfl }
open Go.RowKit Go.Sort Go.Lib in
theorem Tryz.strconv_Itoa (n : Int) (h0 : -9223372036854775808 ≤ n) (h1 : n ≤ 9223372036854775807) (w : World) (htab : Lib.TabIs Tryz.prog w "internal/strconv.uint64pow10" .u64 Lib.pow10Tab) :
    Calls Tryz.prog 154 #[.int .i64 n] w fun e w' => e = .returned (.string ⟨(Lib.itoa n).toArray⟩) ∧ ∃ k os, w' = grow (w.drewN k) os := Any.strconv_Itoa Tryz.laysM171 n h0 h1 w htab
end Go.Proofs
namespace Go.Proofs.Ax
open Go Go.Proofs Go.Proofs.Cu Go.Proofs.Tx Go.Sort
set_option maxRecDepth 10000
set_option maxHeartbeats 4000000
section
abbrev vs (b : ByteArray) : AV := .sc (.string b)
theorem HRel.below2 {G : Glob} {I : Nat → Prop} {w w' : World} {ρ : Places} {H : AH} (h : HRel G I w ρ H) (hs : w.heap.size ≤ w'.heap.size) (hf : ∀ b, b < w.heap.size → w'.heap[b]? = w.heap[b]?)
    (ho : w'.os = w.os) (ht : w'.tape = w.tape) (hu : w'.output = w.output) : HRel G I w' ρ H ∧ Went I w ρ H I w' ρ H := by
  have hk : Keeps I I w w' := ⟨fun _ h => h, fun b hb => hf b (h.old b hb)⟩
  refine ⟨⟨fun id blk l hi hl h1 => ?_, h.inj, h.dom, fun b hb => Nat.lt_of_lt_of_le (h.old b hb) hs, h.glob' hk⟩,
    ⟨fun _ h => h, fun _ _ h => h, hs, ho, ht, hu, fun b hb _ => hf b hb, fun b hb _ => hb, fun b hb => .inl hb⟩⟩
  obtain ⟨h2, h3, h4⟩ := h.blk id blk l hi hl h1; exact ⟨Nat.lt_of_lt_of_le h2 hs, h3, h4.mono hk (fun _ _ h => h) (hf _ h2)⟩
theorem tab_of {I : Nat → Prop} {w : World} (h : GlobAt I w 1 pow10) : Lib.TabIs Tryz.prog w "internal/strconv.uint64pow10" .u64 Lib.pow10Tab := by
  obtain ⟨h1, h2, arr, t, fz, h3, h4⟩ := h; unfold Lib.TabIs World.var?; rw [show Tryz.prog.globalNamed "internal/strconv.uint64pow10" = some 1 by kernel_rfl]; simp only [Option.bind_some, h3, Option.some.injEq]; apply Array.ext; rw [h4]; rfl; intro j hj hj'; generalize hq : Value.pointer (some ⟨1, 0, none⟩) = u0 at h1
  cases h1 with
  | pi f hI hc ho hv =>
    cases hq
    have hlen : j < 20 := by rw [h4] at hj; exact hj
    have hx : pow10[j]? = some (.sc (.int .u64 ((10 ^ j : Nat) : Int))) := by simp [pow10, List.getElem?_range hlen]
    have h5 := hc j _ hx; have h6 := hv j _ hx; generalize f j = u at h5 h6
    cases h6
    simp only [World.cell?, h3, Nat.zero_add] at h5; have h7 : arr[j]? = some (Value.int .u64 ((10 ^ j : Nat) : Int)) := by simpa using h5
    rw [Array.getElem?_eq_getElem hj] at h7; rw [Option.some.inj h7]; simp [Lib.pow10Tab]
theorem itoa_ok (n : Int) (h : -9223372036854775808 ≤ n ∧ n ≤ 9223372036854775807) : Pu Tryz.prog G1 154 [vi n] (vs (tx (Lib.itoa n))) := by
  refine ⟨⟨_, _, Tryz.func154, rfl⟩, fun H I w ρ us hh hl hv => ?_⟩; have hx := hv 0 _ rfl
  obtain ⟨u, rfl⟩ : ∃ u, us = #[u] := by
    match us, hl with
    | ⟨[u]⟩, _ => exact ⟨u, rfl⟩
  have hx : VRel I w ρ u (.sc (.int .i64 n)) := hx
  cases hx
  refine (Tryz.strconv_Itoa n h.1 h.2 w (tab_of (hh.glob 1 _ rfl))).mono ?_; rintro e w' ⟨rfl, k, os, rfl⟩
  have hb := hh.below2 (w' := grow (w.drewN k) os) (by simp [grow]) (fun b hb => by
    simp only [grow, World.heap_drewN]
    rw [Array.getElem?_append_left hb]) rfl rfl rfl
  exact ⟨_, rfl, I, ρ, H, _, ⟨rfl, rfl⟩, hb.1, .sc, hb.2.gone⟩
theorem digits_len : ∀ (f n : Nat), n < 10 ^ f → 0 < f → (Lib.decDigits n).length ≤ f
  | 0, n, _, h => absurd h (Nat.lt_irrefl _)
  | f + 1, n, h, _ => by
    rw [Lib.decDigits]; split
    simp; rename_i hn
    rcases Nat.eq_zero_or_pos f with rfl | hf
    simp at h; omega; have := digits_len f (n / 10) (by rw [Nat.pow_succ] at h; omega) hf; simp only [List.length_append, List.length_singleton]; omega
theorem itoa_len {n : Int} (h : 0 ≤ n ∧ n ≤ 1099511627776) : (Lib.itoa n).length ≤ 13 := by
  unfold Lib.itoa; rw [if_neg (by omega)]; exact digits_len 13 _ (by omega) (by decide)
abbrev numU (n : Int) : Prop := 0 ≤ n ∧ n ≤ 1099511627776
theorem span_len {s : Spn} (h : numU s.lo ∧ numU s.hi) : (spanW s).length ≤ 27 := by
  have h1 := itoa_len h.1; have h2 := itoa_len h.2; simp only [spanW, List.length_append, List.length_cons]; omega
theorem span_ok (s : Spn) (h : numU s.lo ∧ numU s.hi) : Pu Tryz.prog G1 113 [.agg (encS s)] (vs (tx (spanW s))) := by
  have h1 := itoa_ok s.lo (by have := h.1; omega); have h2 := itoa_ok s.hi (by have := h.2; omega); have z1 := tx_size (Lib.itoa s.lo); have z2 := tx_size (Lib.itoa s.hi); have z3 : (⟨#[45]⟩ : ByteArray).size = 1 := rfl; have e1 := itoa_len h.1; have e2 := itoa_len h.2; refine Qf 11 Tryz.func113 rfl rfl ?_
  (conv => whnf); repeat' (first | refine vv21 ?_ | refine vv25 ?_ | refine Need.mk (by first | assumption | omega | (simp <;> omega)) ?_ | refine Qd ?_ | refine Qg h1 ?_ | refine Qg h2 ?_) <;> conv => whnf
  have : tx (Lib.itoa s.lo) ++ ⟨#[45]⟩ ++ tx (Lib.itoa s.hi) = tx (spanW s) := by
    rw [show (⟨#[45]⟩ : ByteArray) = tx [45] from rfl, tx_append, tx_append]; simp [spanW]
  rw [← this]; exact ⟨.val rfl⟩
def lineW (p : Bs) (l : List Int) : Bs := p ++ l.flatMap fun n => 32 :: Lib.itoa n
theorem lineW_len (p : Bs) (l : List Int) (hl : ∀ n ∈ l, numU n) : (lineW p l).length ≤ p.length + 14 * l.length := by
  unfold lineW; rw [List.length_append]
  have : (l.flatMap fun n => 32 :: Lib.itoa n).length ≤ 14 * l.length := by
    induction l with
    | nil => simp
    | cons n r ih =>
      have h1 := itoa_len (hl n List.mem_cons_self)
      have h2 := ih fun m hm => hl m (List.mem_cons_of_mem _ hm)
      simp only [List.flatMap_cons, List.length_append, List.length_cons]; omega
  omega
theorem line_ok (p : Bs) (hp : p.length ≤ 1000) (l : List Int) (hl : ∀ n ∈ l, numU n) (hmax : l.length ≤ 1000) : Pu Tryz.prog G1 112 [vs (tx p), ints l] (vs (tx (lineW p l))) := by
  refine Qf 20 Tryz.func112 rfl rfl ?_
  repeat' ((conv => whnf); first | refine vv23 ?_)
  refine LoopN.of Qt (fun k : Nat => [(0, vs (tx (lineW p (l.take k)))), (7, ints l), (8, vi l.length), (9, vi k)]) (fun _ => []) (fun k => l.length - k) (fun k => k ≤ l.length) 0 (Nat.zero_le _) (Reabs.frm0 rfl (by simp only [lineW, List.take_zero, List.flatMap_nil, List.append_nil]; exact (by repeat (first | exact sv0 | refine sv1 ?_ | refine sv2 ?_ | refine sv3 ?_)))) ?_; intro k hk; by_cases hlt : k < l.length
  · have hn := hl _ (List.getElem_mem hlt); have h1 := itoa_ok l[k] (by omega); have e1 := itoa_len hn
    have e2 := lineW_len p (l.take k) fun n hn => hl n (List.mem_of_mem_take hn)
    have hst : lineW p (l.take (k + 1)) = lineW p (l.take k) ++ ([32] ++ Lib.itoa l[k]) := by
      unfold lineW; rw [take_succ_snoc hlt, List.flatMap_append, List.append_assoc]; simp
    rw [List.length_take] at e2; generalize lineW p (l.take k) = W at *; have z1 := tx_size W; have z2 := tx_size (Lib.itoa l[k]); have z3 : (⟨#[32]⟩ : ByteArray).size = 1 := rfl; have hap : tx W ++ (⟨#[32]⟩ ++ tx (Lib.itoa l[k])) = tx (lineW p (l.take (k + 1))) := by rw [hst, show (⟨#[32]⟩ : ByteArray) = tx [32] from rfl, tx_append, tx_append]
    have z4 : ((⟨#[32]⟩ : ByteArray) ++ tx (Lib.itoa l[k])).size = 1 + (tx (Lib.itoa l[k])).size := ByteArray.size_append
    repeat' ((conv => whnf); first | refine vv7 ?_ | refine vv20 ?_ | refine SlIdxN.map _ rfl (by first | assumption | omega) ?_ | refine Need.mk (by first | assumption | omega | (simp <;> omega)) ?_ | refine Qp h1 ?_)
    exact Qb (k + 1) (Reabs.frm0 rfl (by rw [← hap]; exact (by repeat (first | exact sv0 | refine sv1 ?_ | refine sv2 ?_ | refine sv3 ?_))))
  obtain rfl : k = l.length := by omega
  rw [List.take_length]
  repeat' ((conv => whnf); first | refine vv8 ?_)
  exact Qv
end
section
abbrev txR (l : Bs) : List AV := [vs (tx l)]
abbrev texts (L : List Bs) : AV := .sl 1 false (L.map txR)
theorem join_text : ∀ {L : List Bs}, L ≠ [] → Lib.join L [10] ++ [10] = L.flatMap fun l => l ++ [10]
  | [], h => absurd rfl h
  | x :: r, _ => by
    rw [Lib.join_cons]
    have : ∀ r : List Bs, Lib.joinTail [10] r ++ [10] = [10] ++ r.flatMap fun l => l ++ [10] := by
      intro r
      induction r with
      | nil => rfl
      | cons y r ih =>
        have e : Lib.joinTail [10] (y :: r) = [10] ++ y ++ Lib.joinTail [10] r := by simp [Lib.joinTail]
        rw [e, List.append_assoc, ih, List.flatMap_cons]; simp
    rw [List.append_assoc, this, List.flatMap_cons]; simp
theorem join_ok (L : List Bs) (hN : L.length ≤ 100000) (hlen : (Lib.join L [10]).length ≤ 100000000) : Pu Tryz.prog G1 114 [texts L, .sc (.string ⟨#[10]⟩)] (vs (tx (Lib.join L [10]))) := by
  refine ⟨⟨_, _, Tryz.func114, rfl⟩, fun H I w ρ us hh hl hv => ?_⟩; have hx := hv 0 _ rfl; have hy := hv 1 _ rfl
  obtain ⟨u, u', rfl⟩ : ∃ u u', us = #[u, u'] := by
    match us, hl with
    | ⟨[u, u']⟩, _ => exact ⟨u, u', rfl⟩
  have hx : VRel I w ρ u (texts L) := hx; have hy : VRel I w ρ u' (.sc (.string ⟨#[10]⟩)) := hy
  cases hy
  have key : ∀ (w' : World), Go.RowKit.Below w.heap.size w w' → HRel G1 I w' ρ H ∧ Gone H.length I w ρ H I w' ρ H := fun w' hb => by
    obtain ⟨g1, g2⟩ := hh.below2 (w' := w') hb.size hb.block hb.os hb.tape hb.output; exact ⟨g1, g2.gone⟩
  have hnone : L = [] → ∀ a c, Calls Tryz.prog 114 #[.slice a 0 c, .string ⟨#[10]⟩] w fun e w' => ∃ v, e = .returned v ∧ ∃ I' ρ' H' y', (y' = vs (tx (Lib.join L [10])) ∧ H' = H) ∧ HRel G1 I' w' ρ' H' ∧ VRel I' w' ρ' v y' ∧ Gone H.length I w ρ H I' w' ρ' H' := fun hL a c => by
    subst hL; refine (Tryz.strings_Join_none a c ⟨#[10]⟩ w).mono ?_; rintro e w' ⟨rfl, rfl⟩; exact ⟨_, rfl, I, ρ, H, _, ⟨rfl, rfl⟩, hh, .sc, Gone.refl⟩
  have hx2 : VRel I w ρ u (.sl 1 false (L.map txR)) := hx; clear hx hv; generalize hrs : L.map txR = rows at hx2
  cases hx2 with
  | slNil => exact hnone (by cases L with | nil => rfl | cons x r => cases hrs) none 0
  | slMt ht => exact hnone (by cases L with | nil => rfl | cons x r => cases hrs) _ _
  | sl f hl' hcap ht hk hI hc h1 hv' =>
    rename_i b o len cap; subst hrs; rw [List.length_map] at hl'; subst hl'; by_cases hL : L = []
    · have := hnone hL (some ⟨b, o, none⟩) cap; rw [hL] at this ⊢; exact this
    have hIb := hI (by simpa using hL); have hbs := hh.old b hIb
    have hcell : ∀ (j : Nat) (x : ByteArray), (L.map tx)[j]? = some x → w.cell? ⟨b, o + j, none⟩ = some (.string x) := fun j x hj => by
      rw [List.getElem?_map] at hj
      cases hq : L[j]? with
      | none => rw [hq] at hj; cases hj
      | some l =>
        rw [hq] at hj
        cases hj
        have hr : (L.map txR)[j]? = some (txR l) := by rw [List.getElem?_map, hq]; rfl
        have e1 := hc j 0 (txR l) (vs (tx l)) hr rfl; have e2 := hv' j 0 (txR l) (vs (tx l)) hr rfl; generalize f j 0 = v at e1 e2
        cases e2
        simpa using e1
    have e0 : (L.map tx).length = L.length := List.length_map _
    have e3 : (L.map tx).map (fun x : ByteArray => x.data.toList) = L := by
      rw [List.map_map]
      conv => rhs; rw [← List.map_id L]
      exact List.map_congr_left fun l _ => data_tx l
    have hj := Tryz.strings_Join b o cap (L.map tx) ⟨#[10]⟩ w hcell hbs (by rw [e0]; omega) (by rw [e0]; exact hcap) (by rw [e3]; show (Lib.join L [10]).length ≤ _; omega); rw [e0, e3] at hj; refine hj.mono ?_; rintro e w' ⟨rfl, hb⟩; obtain ⟨g1, g2⟩ := key w' hb; exact ⟨_, rfl, I, ρ, H, _, ⟨rfl, rfl⟩, g1, .sc, g2⟩
end
end Go.Proofs.Ax
