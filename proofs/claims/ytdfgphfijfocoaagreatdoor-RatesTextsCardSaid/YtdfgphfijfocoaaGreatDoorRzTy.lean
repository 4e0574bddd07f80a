/-
  DERIVED: THE SHELF's CONTRACTS AT THIS DUMP, IN PLAIN WORDS (tools/lay-plain.mjs out of 'TryzTx.lean', which tools/lay-shelf.mjs wrote): THE SAME DECLARATIONS UNDER THE SAME NAMES: 'import', 'namespace', 'open', 'def', 'theorem' AND NOTHING ELSE: no command of the shelf's: FOR A HAND-IN. Each laying: the table of numbers ('.._ren') and one theorem, a field a fact of the dump's own or the kernel's comparison; each contract: ONE APPLICATION.
-/
import Derived.Test.YtdfgphfijfocoaaGreatDoorRzRS
import Derived.Shelf.LaysC
import Derived.Shelf.Strconv.AtoiAll
import Derived.Shelf.Strings.Split
import Derived.Shelf.Strings.Prefix
import Derived.Shelf.Small.Strs
import Derived.Test.YtdfgphfijfocoaaGreatDoorProg
import Derived.Test.YtdfgphfijfocoaaGreatDoorRzVX
import Derived.Test.YtdfgphfijfocoaaGreatDoorAxN
namespace Go.Proofs.Ax
open Go Go.Proofs
/-! What the reference's Parse returns: the one list of which the text is the print. -/
theorem extract_list (s : ByteArray) (a b : Nat) : (s.extract a b).data.toList = (s.data.toList.drop a).take (b - a) := by
  rw [ByteArray.data_extract, Array.toList_extract]
theorem decDigits_dg : ∀ (n : Nat), ∀ b ∈ Lib.decDigits n, isDg b = true := by
  intro n
  induction n using Nat.strongRecOn with
  | ind n ih =>
    intro b hb
    rw [Lib.decDigits] at hb
    have dg : ∀ k, k < 10 → isDg (UInt8.ofNat (48 + k)) = true := fun k hk => by
      have : (UInt8.ofNat (48 + k)).toNat = 48 + k := by simp [UInt8.toNat_ofNat']; omega
      unfold isDg; rw [this]; simp; omega
    split at hb
    · rename_i h
      rw [List.mem_singleton.1 hb]; exact dg n h
    · rcases List.mem_append.1 hb with h | h
      · exact ih (n / 10) (by omega) b h
      · rw [List.mem_singleton.1 h]; exact dg _ (by omega)
theorem decDigits_num : ∀ (n : Nat), numOf (Lib.decDigits n) = n := by
  intro n
  induction n using Nat.strongRecOn with
  | ind n ih =>
    have tn : ∀ k, k < 10 → (UInt8.ofNat (48 + k)).toNat = 48 + k := fun k hk => by simp [UInt8.toNat_ofNat']; omega
    rw [Lib.decDigits]
    split
    · rename_i h
      simp [numOf]
      omega
    · rw [numOf_snoc, ih (n / 10) (by omega), tn _ (by omega)]; omega
theorem decDigits_ne (n : Nat) : Lib.decDigits n ≠ [] := by
  rw [Lib.decDigits]; split <;> simp
theorem digs_of {s : ByteArray} {a : Nat} {D B : List UInt8} {c : UInt8} (h : s.data.toList.drop a = D ++ c :: B) (hD : ∀ b ∈ D, isDg b = true) (hc : isDg c = false) (hl : D.length ≤ 13) : digs s a = D := by
  unfold digs
  rw [h, List.take_append, List.take_of_length_le hl, List.takeWhile_append_of_pos hD]
  cases 13 - D.length with
  | zero => simp
  | succ k => simp [hc]
theorem get_of_drop {s : ByteArray} {a : Nat} {x : UInt8} {l : List UInt8} (h : s.data.toList.drop a = x :: l) : s[a]? = some x := by
  have hsz : s.data.toList.length = s.size := by rw [Array.length_toList]; rfl
  have hl : a < s.size := by
    have := congrArg List.length h
    rw [List.length_drop, hsz] at this
    simp at this; omega
  rw [ba_get? s a hl]
  have h1 := ba_list s a hl
  rw [← h1, ← List.head?_drop, h]
  rfl
theorem read_of {s : ByteArray} {a : Nat} {n : Int} {c : UInt8} {B : List UInt8} (h : s.data.toList.drop a = Lib.itoa n ++ c :: B) (hn : -10000000000000 < n ∧ n < 10000000000000) (hc : isDg c = false) :
    readN s a = n ∧ readOk s a = true ∧ readAt s a = a + (Lib.itoa n).length + 1 ∧ s.data.toList.drop (readAt s a) = B := by
  have fin : ∀ {L : Nat}, L = (Lib.itoa n).length → s.data.toList.drop (a + L + 1) = B := by
    rintro L rfl
    rw [Nat.add_assoc, ← List.drop_drop, h, List.drop_append, List.drop_eq_nil_of_le (by omega)]
    simp
  unfold readN readOk readAt
  by_cases h0 : n < 0
  · have hi : Lib.itoa n = 45 :: Lib.decDigits n.natAbs := by unfold Lib.itoa; rw [if_pos h0]
    rw [hi] at h fin ⊢
    have h1 := get_of_drop h
    have hst : startAt s a = a + 1 := by unfold startAt; rw [if_pos h1]
    have h2 : s.data.toList.drop (a + 1) = Lib.decDigits n.natAbs ++ c :: B := by
      rw [← List.drop_drop, h]; rfl
    have hd := digs_of h2 (decDigits_dg _) hc (decDigits_len 13 _ (by omega) (by decide))
    rw [hst, hd, if_pos h1, decDigits_num]
    have := List.length_pos_iff.2 (decDigits_ne n.natAbs)
    refine ⟨by omega, by simpa using this, by simp; omega, ?_⟩
    have := fin rfl
    simpa [Nat.add_assoc, Nat.add_comm, Nat.add_left_comm] using this
  · have hi : Lib.itoa n = Lib.decDigits n.toNat := by unfold Lib.itoa; rw [if_neg h0]
    rw [hi] at h fin ⊢
    have hne : s[a]? ≠ some 45 := by
      cases hq : Lib.decDigits n.toNat with
      | nil => exact absurd hq (decDigits_ne _)
      | cons x l =>
        rw [hq] at h
        rw [get_of_drop h]
        intro e
        have := decDigits_dg n.toNat x (by rw [hq]; exact List.mem_cons_self)
        rw [Option.some.inj e] at this
        revert this; decide
    have hst : startAt s a = a := by unfold startAt; rw [if_neg hne]
    have hd := digs_of h (decDigits_dg _) hc (decDigits_len 13 _ (by omega) (by decide))
    rw [hst, hd, if_neg hne, decDigits_num]
    have := List.length_pos_iff.2 (decDigits_ne n.toNat)
    exact ⟨by omega, by simpa using this, rfl, fin rfl⟩
theorem line_of {s : ByteArray} {a : Nat} {p : Posting} {B : List UInt8} (h : s.data.toList.drop a = lineL p ++ B) (hp : p.ok) :
    (∀ k, k < 5 → readOk s (posK s a k) = true) ∧ postAt s a = p ∧ posK s a 5 = a + (lineL p).length ∧ s.data.toList.drop (posK s a 5) = B := by
  have q := hp
  unfold Posting.ok isAcc at q
  have e : lineL p ++ B = Lib.itoa p.night ++ 32 :: (Lib.itoa p.no ++ 32 :: (Lib.itoa p.src ++ 32 :: (Lib.itoa p.dst ++ 32 :: (Lib.itoa p.amount ++ 10 :: B)))) := by simp [lineL]
  rw [e] at h
  obtain ⟨n1, o1, a1, d1⟩ := read_of h (by omega) (by decide)
  obtain ⟨n2, o2, a2, d2⟩ := read_of d1 (by omega) (by decide)
  obtain ⟨n3, o3, a3, d3⟩ := read_of d2 (by omega) (by decide)
  obtain ⟨n4, o4, a4, d4⟩ := read_of d3 (by omega) (by decide)
  obtain ⟨n5, o5, a5, d5⟩ := read_of d4 (by omega) (by decide)
  refine ⟨fun k hk => ?_, ?_, ?_, d5⟩
  · match k, hk with
    | 0, _ => exact o1
    | 1, _ => exact o2
    | 2, _ => exact o3
    | 3, _ => exact o4
    | 4, _ => exact o5
  · have : postAt s a = ⟨p.night, p.no, p.src, p.dst, p.amount⟩ := by
      unfold postAt numK
      simp only [posK]
      rw [n1, n2, n3, n4, n5]
    exact this
  · show readAt s (readAt s (readAt s (readAt s (readAt s a)))) = _
    rw [a5, a4, a3, a2, a1]
    simp [lineL]
    omega
theorem good_of {s : ByteArray} {a : Nat} {p : Posting} {B : List UInt8} (h : s.data.toList.drop a = lineL p ++ B) (ha : a ≤ s.size) (hp : p.ok) : goodAt s a ∧ postAt s a = p ∧ posK s a 5 = a + (lineL p).length ∧ s.data.toList.drop (posK s a 5) = B := by
  obtain ⟨h1, h2, h3, h4⟩ := line_of h hp
  have hsz : s.data.toList.length = s.size := by rw [Array.length_toList]; rfl
  have hl := congrArg List.length h
  rw [List.length_drop, hsz, List.length_append] at hl
  refine ⟨⟨h1, by rw [h2]; exact hp, by omega, ?_⟩, h2, h3, h4⟩
  rw [h2, lineB_eq, ← tx_data (s.extract a (posK s a 5)), extract_list, h, h3, Nat.add_sub_cancel_left, List.take_left]
theorem line_ne (p : Posting) : 0 < (lineL p).length := by simp [lineL]; omega
/-- The text of valid postings is read as these. -/
theorem runP_of {s : ByteArray} {l : List Posting} (hl : ∀ p ∈ l, p.ok) (h4 : l.length ≤ 4000) (hs : printB l = s) : ∀ (rest out : List Posting) (f : Nat), out ++ rest = l → rest.length < f → runP s f (printL out).length out = some l
  | rest, out, 0, _, h => absurd h (Nat.not_lt_zero _)
  | [], out, f + 1, he, _ => by
    rw [List.append_nil] at he
    subst he
    have : s.size = (printL out).length := by rw [← hs]; exact tx_size _
    unfold runP
    rw [if_neg (by omega), if_neg (by omega)]
  | p :: r, out, f + 1, he, hf => by
    have hL : s.data.toList = printL out ++ (lineL p ++ printL r) := by
      rw [← hs, ← he]; simp [printB, tx, printL]
    have hsz : s.data.toList.length = s.size := by rw [Array.length_toList]; rfl
    have hlen := congrArg List.length hL
    rw [hsz] at hlen
    simp only [List.length_append] at hlen
    have hn := line_ne p
    have hd : s.data.toList.drop (printL out).length = lineL p ++ printL r := by rw [hL, List.drop_left]
    have hp : p.ok := hl p (by rw [← he]; simp)
    obtain ⟨g1, g2, g3, g4⟩ := good_of hd (by omega) hp
    have ho : out.length ≤ 4000 := by rw [← he] at h4; simp at h4; omega
    unfold runP
    rw [if_pos ⟨by omega, ho⟩, if_pos g1, g2, g3]
    have hx : (printL out).length + (lineL p).length = (printL (out ++ [p])).length := by simp [printL]
    rw [hx]
    exact runP_of hl h4 hs r (out ++ [p]) f (by simp [he]) (by simp at hf; omega)
/-- What is read prints as the text. -/
theorem runP_out {s : ByteArray} {l : List Posting} : ∀ (f a : Nat) (out : List Posting), a ≤ s.size → (∀ p ∈ out, p.ok) → printL out = s.data.toList.take a → runP s f a out = some l → (∀ p ∈ l, p.ok) ∧ l.length ≤ 4000 ∧ printB l = s
  | 0, a, out, _, _, _, h => by simp [runP] at h
  | f + 1, a, out, ha, ho, he, h => by
    have hsz : s.data.toList.length = s.size := by rw [Array.length_toList]; rfl
    unfold runP at h
    split at h
    · rename_i hc
      split at h
      · rename_i hg
        obtain ⟨g1, g2, g3, g4⟩ := hg
        refine runP_out f _ _ g3 (fun p hp => ?_) ?_ h
        · rcases List.mem_append.1 hp with hp | hp
          · exact ho p hp
          · rw [List.mem_singleton.1 hp]; exact g2
        · have hgt : a < posK s a 5 := Nat.lt_of_lt_of_le (readAt_gt s a) (Nat.le_of_lt (Nat.lt_trans (readAt_gt _ _) (Nat.lt_trans (readAt_gt _ _) (Nat.lt_trans (readAt_gt _ _) (readAt_gt _ _)))))
          rw [lineB_eq, ← tx_data (s.extract a (posK s a 5)), extract_list] at g4
          have g5 := tx_inj g4
          have : printL (out ++ [postAt s a]) = printL out ++ lineL (postAt s a) := by simp [printL]
          rw [this, he, g5, ← List.take_add]
          congr 1
          omega
      · cases h
    · rename_i hc
      split at h
      · cases h
      · rename_i h4
        cases h
        refine ⟨ho, by omega, ?_⟩
        have : a = s.size := by
          rcases Nat.lt_or_ge a s.size with h | h
          · exact absurd ⟨h, by omega⟩ hc
          · omega
        subst this
        unfold printB
        rw [he, List.take_of_length_le (by omega), tx_data]
theorem print_len {l : List Posting} : l.length ≤ (printL l).length := by
  induction l with
  | nil => simp [printL]
  | cons p l ih =>
    have := line_ne p
    simp only [printL, List.flatMap_cons, List.length_cons, List.length_append] at *
    omega
def isText (s : ByteArray) (l : List Posting) : Prop := (∀ p ∈ l, p.ok) ∧ l.length ≤ 4000 ∧ printB l = s
theorem runP_iff (s : ByteArray) (l : List Posting) : runP s (s.size + 1) 0 [] = some l ↔ isText s l := by
  constructor
  · exact fun h => runP_out _ 0 [] (Nat.zero_le _) (fun p hp => by cases hp) (by simp [printL]) h
  · rintro ⟨h1, h2, h3⟩
    refine runP_of h1 h2 h3 l [] (s.size + 1) rfl ?_
    have : s.size = (printL l).length := by rw [← h3]; exact tx_size _
    have := print_len (l := l)
    omega
end Go.Proofs.Ax
namespace Go.Proofs
open Go.Shelf
def Tryz.laysC172_ren : Go.Shelf.Ren := ⟨fun | 172 => 93 | 244 => 121 | 245 => 122 | 247 => 139 | 279 => 140 | 280 => 141 | 281 => 142 | 282 => 143 | 287 => 164 | 316 => 165 | 171 => 115 | 205 => 166 | 321 => 191 | 322 => 192 | 243 => 133 | 246 => 158 | 283 => 183 | 284 => 184 | 285 => 185 | 286 => 186 | 129 => 154 | 317 => 199 | 318 => 200 | 319 => 201 | 320 => 202 | 337 => 206 | 338 => 207 | n => n, fun | 9 => 9 | 3 => 3 | 75 => 145 | 76 => 146 | 4 => 4 | 5 => 5 | 167 => 189 | 37 => 129 | 0 => 0 | 85 => 190 | 2 => 2 | 168 => 192 | 53 => 207 | 175 => 216 | 46 => 180 | 210 => 220 | 127 => 171 | 145 => 244 | 143 => 242 | 21 => 21 | 171 => 236 | 173 => 238 | 212 => 251 | 51 => 205 | 20 => 20 | 213 => 252 | 232 => 260 | 233 => 261 | 80 => 135 | n => n, fun | 15 => 0 | 16 => 1 | 17 => 3 | 18 => 6 | 19 => 7 | n => n⟩
theorem Tryz.laysC172 : Go.Proofs.LaysC.n172 Tryz.prog Tryz.laysC172_ren := {
  mixed := by kernel_rfl
  f129 := Tryz.func154.trans (congrArg some (by kernel_rfl))
  f171 := Tryz.func115.trans (congrArg some (by kernel_rfl))
  f172 := Tryz.func93.trans (congrArg some (by kernel_rfl))
  f205 := Tryz.func166.trans (congrArg some (by kernel_rfl))
  f243 := Tryz.func133.trans (congrArg some (by kernel_rfl))
  f244 := Tryz.func121.trans (congrArg some (by kernel_rfl))
  f245 := Tryz.func122.trans (congrArg some (by kernel_rfl))
  f246 := Tryz.func158.trans (congrArg some (by kernel_rfl))
  f247 := Tryz.func139.trans (congrArg some (by kernel_rfl))
  f279 := Tryz.func140.trans (congrArg some (by kernel_rfl))
  f280 := Tryz.func141.trans (congrArg some (by kernel_rfl))
  f281 := Tryz.func142.trans (congrArg some (by kernel_rfl))
  f282 := Tryz.func143.trans (congrArg some (by kernel_rfl))
  f283 := Tryz.func183.trans (congrArg some (by kernel_rfl))
  f284 := Tryz.func184.trans (congrArg some (by kernel_rfl))
  f285 := Tryz.func185.trans (congrArg some (by kernel_rfl))
  f286 := Tryz.func186.trans (congrArg some (by kernel_rfl))
  f287 := Tryz.func164.trans (congrArg some (by kernel_rfl))
  f316 := Tryz.func165.trans (congrArg some (by kernel_rfl))
  f317 := Tryz.func199.trans (congrArg some (by kernel_rfl))
  f318 := Tryz.func200.trans (congrArg some (by kernel_rfl))
  f319 := Tryz.func201.trans (congrArg some (by kernel_rfl))
  f320 := Tryz.func202.trans (congrArg some (by kernel_rfl))
  f321 := Tryz.func191.trans (congrArg some (by kernel_rfl))
  f322 := Tryz.func192.trans (congrArg some (by kernel_rfl))
  f337 := Tryz.func206.trans (congrArg some (by kernel_rfl))
  f338 := Tryz.func207.trans (congrArg some (by kernel_rfl))
  t0 := Tryz.underlying0
  a0 := Tryz.isAgg0
  z0 := Tryz.sizeOf0
  v0 := Tryz.zeroValue0
  t2 := Tryz.underlying2
  a2 := Tryz.isAgg2
  z2 := Tryz.sizeOf2
  v2 := Tryz.zeroValue2
  t3 := Tryz.underlying3
  a3 := Tryz.isAgg3
  z3 := Tryz.sizeOf3
  v3 := Tryz.zeroValue3
  t4 := Tryz.underlying4
  a4 := Tryz.isAgg4
  z4 := Tryz.sizeOf4
  v4 := Tryz.zeroValue4
  t5 := Tryz.underlying5
  a5 := Tryz.isAgg5
  z5 := Tryz.sizeOf5
  v5 := Tryz.zeroValue5
  t9 := Tryz.underlying9
  a9 := Tryz.isAgg9
  z9 := Tryz.sizeOf9
  v9 := Tryz.zeroValue9
  t20 := Tryz.underlying20
  a20 := Tryz.isAgg20
  z20 := Tryz.sizeOf20
  v20 := Tryz.zeroValue20
  t21 := Tryz.underlying21
  a21 := Tryz.isAgg21
  z21 := Tryz.sizeOf21
  v21 := Tryz.zeroValue21
  t37 := Tryz.underlying129
  a37 := Tryz.isAgg129
  z37 := Tryz.sizeOf129
  v37 := Tryz.zeroValue129
  t46 := Tryz.underlying180
  a46 := Tryz.isAgg180
  z46 := Tryz.sizeOf180
  v46 := Tryz.zeroValue180
  t51 := Tryz.underlying205
  a51 := Tryz.isAgg205
  z51 := Tryz.sizeOf205
  v51 := Tryz.zeroValue205
  t53 := Tryz.underlying207
  a53 := Tryz.isAgg207
  z53 := Tryz.sizeOf207
  v53 := Tryz.zeroValue207
  t75 := Tryz.underlying145
  a75 := Tryz.isAgg145
  z75 := Tryz.sizeOf145
  v75 := Tryz.zeroValue145
  t76 := Tryz.underlying146
  a76 := Tryz.isAgg146
  z76 := Tryz.sizeOf146
  v76 := Tryz.zeroValue146
  t85 := Tryz.underlying190
  a85 := Tryz.isAgg190
  z85 := Tryz.sizeOf190
  v85 := Tryz.zeroValue190
  t127 := Tryz.underlying171
  a127 := Tryz.isAgg171
  z127 := Tryz.sizeOf171
  v127 := Tryz.zeroValue171
  t143 := Tryz.underlying242
  a143 := Tryz.isAgg242
  z143 := Tryz.sizeOf242
  v143 := Tryz.zeroValue242
  t145 := Tryz.underlying244
  a145 := Tryz.isAgg244
  z145 := Tryz.sizeOf244
  v145 := Tryz.zeroValue244
  t167 := Tryz.underlying189
  a167 := Tryz.isAgg189
  z167 := Tryz.sizeOf189
  v167 := Tryz.zeroValue189
  t168 := Tryz.underlying192
  a168 := Tryz.isAgg192
  z168 := Tryz.sizeOf192
  v168 := Tryz.zeroValue192
  t171 := Tryz.underlying236
  a171 := Tryz.isAgg236
  z171 := Tryz.sizeOf236
  v171 := Tryz.zeroValue236
  t173 := Tryz.underlying238
  a173 := Tryz.isAgg238
  z173 := Tryz.sizeOf238
  v173 := Tryz.zeroValue238
  t175 := Tryz.underlying216
  a175 := Tryz.isAgg216
  z175 := Tryz.sizeOf216
  v175 := Tryz.zeroValue216
  t210 := Tryz.underlying220
  a210 := Tryz.isAgg220
  z210 := Tryz.sizeOf220
  v210 := Tryz.zeroValue220
  t212 := Tryz.underlying251
  a212 := Tryz.isAgg251
  z212 := Tryz.sizeOf251
  v212 := Tryz.zeroValue251
  t213 := Tryz.underlying252
  a213 := Tryz.isAgg252
  z213 := Tryz.sizeOf252
  t232 := Tryz.underlying260
  a232 := Tryz.isAgg260
  z232 := Tryz.sizeOf260
  v232 := Tryz.zeroValue260
  t233 := Tryz.underlying261
  a233 := Tryz.isAgg261
  z233 := Tryz.sizeOf261
  v233 := Tryz.zeroValue261
  g15 := by kernel_rfl
  g16 := by kernel_rfl
  g17 := by kernel_rfl
  g18 := by kernel_rfl
  g19 := by kernel_rfl
  t80 := Tryz.underlying135
  a80 := Tryz.isAgg135
  z80 := Tryz.sizeOf135
  v80 := Tryz.zeroValue135
  i0 := by kernel_rfl
  i2 := by kernel_rfl
  i3 := by kernel_rfl
  i4 := by kernel_rfl
  i5 := by kernel_rfl
  i9 := by kernel_rfl
  i20 := by kernel_rfl
  i21 := by kernel_rfl
  i37 := by kernel_rfl
  i46 := by kernel_rfl
  i51 := by kernel_rfl
  i53 := by kernel_rfl
  i75 := by kernel_rfl
  i76 := by kernel_rfl
  i80 := by kernel_rfl
  i85 := by kernel_rfl
  i127 := by kernel_rfl
  i143 := by kernel_rfl
  i145 := by kernel_rfl
  i167 := by kernel_rfl
  i168 := by kernel_rfl
  i171 := by kernel_rfl
  i173 := by kernel_rfl
  i175 := by kernel_rfl
  i210 := by kernel_rfl
  i212 := by kernel_rfl
  i232 := by kernel_rfl
  i233 := by kernel_rfl
  m15 := by kernel_rfl
  m16 := by kernel_rfl
  m17 := by kernel_rfl
  m18 := by kernel_rfl
  m19 := by kernel_rfl
  c0 := by kernel_rfl
  c2 := by kernel_rfl
  c3 := by kernel_rfl
  c4 := by kernel_rfl
  c5 := by kernel_rfl
  c9 := by kernel_rfl
  c20 := by kernel_rfl
  c21 := by kernel_rfl
  c37 := by kernel_rfl
  c46 := by kernel_rfl
  c51 := by kernel_rfl
  c53 := by kernel_rfl
  c75 := by kernel_rfl
  c76 := by kernel_rfl
  c80 := by kernel_rfl
  c85 := by kernel_rfl
  c127 := by kernel_rfl
  c143 := by kernel_rfl
  c145 := by kernel_rfl
  c167 := by kernel_rfl
  c168 := by kernel_rfl
  c171 := by kernel_rfl
  c173 := by kernel_rfl
  c175 := by kernel_rfl
  c210 := by kernel_rfl
  c212 := by kernel_rfl
  c213 := by kernel_rfl
  c232 := by kernel_rfl
  c233 := by kernel_rfl }
def Tryz.lays146_ren : Go.Shelf.Ren := ⟨fun | 146 => 91 | 221 => 119 | 268 => 135 | 138 => 136 | 143 => 137 | 195 => 160 | 197 => 161 | 218 => 162 | 219 => 163 | 260 => 187 | 217 => 134 | 225 => 188 | 224 => 189 | 267 => 190 | 266 => 159 | 314 => 203 | n => n, fun | 9 => 9 | 31 => 140 | 3 => 3 | 4 => 4 | 0 => 0 | 105 => 214 | 21 => 21 | 5 => 5 | 46 => 180 | 119 => 253 | 139 => 256 | 138 => 255 | 146 => 257 | 51 => 205 | n => n, fun | 1 => 2 | 3 => 4 | 4 => 5 | n => n⟩
theorem Tryz.lays146 : Go.Proofs.Lays.n146 Tryz.prog Tryz.lays146_ren := {
  mixed := by kernel_rfl
  f138 := Tryz.func136.trans (congrArg some (by kernel_rfl))
  f143 := Tryz.func137.trans (congrArg some (by kernel_rfl))
  f146 := Tryz.func91.trans (congrArg some (by kernel_rfl))
  f195 := Tryz.func160.trans (congrArg some (by kernel_rfl))
  f197 := Tryz.func161.trans (congrArg some (by kernel_rfl))
  f217 := Tryz.func134.trans (congrArg some (by kernel_rfl))
  f218 := Tryz.func162.trans (congrArg some (by kernel_rfl))
  f219 := Tryz.func163.trans (congrArg some (by kernel_rfl))
  f221 := Tryz.func119.trans (congrArg some (by kernel_rfl))
  f224 := Tryz.func189.trans (congrArg some (by kernel_rfl))
  f225 := Tryz.func188.trans (congrArg some (by kernel_rfl))
  f260 := Tryz.func187.trans (congrArg some (by kernel_rfl))
  f266 := Tryz.func159.trans (congrArg some (by kernel_rfl))
  f267 := Tryz.func190.trans (congrArg some (by kernel_rfl))
  f268 := Tryz.func135.trans (congrArg some (by kernel_rfl))
  f314 := Tryz.func203.trans (congrArg some (by kernel_rfl))
  t0 := Tryz.underlying0
  a0 := Tryz.isAgg0
  z0 := Tryz.sizeOf0
  v0 := Tryz.zeroValue0
  t3 := Tryz.underlying3
  a3 := Tryz.isAgg3
  z3 := Tryz.sizeOf3
  v3 := Tryz.zeroValue3
  t4 := Tryz.underlying4
  a4 := Tryz.isAgg4
  z4 := Tryz.sizeOf4
  v4 := Tryz.zeroValue4
  t5 := Tryz.underlying5
  a5 := Tryz.isAgg5
  z5 := Tryz.sizeOf5
  v5 := Tryz.zeroValue5
  t9 := Tryz.underlying9
  a9 := Tryz.isAgg9
  z9 := Tryz.sizeOf9
  v9 := Tryz.zeroValue9
  t21 := Tryz.underlying21
  a21 := Tryz.isAgg21
  z21 := Tryz.sizeOf21
  v21 := Tryz.zeroValue21
  t31 := Tryz.underlying140
  a31 := Tryz.isAgg140
  z31 := Tryz.sizeOf140
  v31 := Tryz.zeroValue140
  t46 := Tryz.underlying180
  a46 := Tryz.isAgg180
  z46 := Tryz.sizeOf180
  v46 := Tryz.zeroValue180
  t51 := Tryz.underlying205
  a51 := Tryz.isAgg205
  z51 := Tryz.sizeOf205
  v51 := Tryz.zeroValue205
  t105 := Tryz.underlying214
  a105 := Tryz.isAgg214
  z105 := Tryz.sizeOf214
  v105 := Tryz.zeroValue214
  t119 := Tryz.underlying253
  a119 := Tryz.isAgg253
  z119 := Tryz.sizeOf253
  t138 := Tryz.underlying255
  a138 := Tryz.isAgg255
  z138 := Tryz.sizeOf255
  v138 := Tryz.zeroValue255
  t139 := Tryz.underlying256
  a139 := Tryz.isAgg256
  z139 := Tryz.sizeOf256
  v139 := Tryz.zeroValue256
  t146 := Tryz.underlying257
  a146 := Tryz.isAgg257
  z146 := Tryz.sizeOf257
  v146 := Tryz.zeroValue257
  g1 := by kernel_rfl
  g3 := by kernel_rfl
  g4 := by kernel_rfl }
def Tryz.lays102_ren : Go.Shelf.Ren := ⟨fun | 102 => 92 | 209 => 120 | 207 => 138 | n => n, fun | 9 => 9 | 4 => 4 | 3 => 3 | n => n, fun | n => n⟩
theorem Tryz.lays102 : Go.Proofs.Lays.n102 Tryz.prog Tryz.lays102_ren := {
  mixed := by kernel_rfl
  f102 := Tryz.func92.trans (congrArg some (by kernel_rfl))
  f207 := Tryz.func138.trans (congrArg some (by kernel_rfl))
  f209 := Tryz.func120.trans (congrArg some (by kernel_rfl))
  t3 := Tryz.underlying3
  a3 := Tryz.isAgg3
  z3 := Tryz.sizeOf3
  v3 := Tryz.zeroValue3
  t4 := Tryz.underlying4
  a4 := Tryz.isAgg4
  z4 := Tryz.sizeOf4
  v4 := Tryz.zeroValue4
  t9 := Tryz.underlying9
  a9 := Tryz.isAgg9
  z9 := Tryz.sizeOf9
  v9 := Tryz.zeroValue9 }
def Tryz.lays137_ren : Go.Shelf.Ren := ⟨fun | 137 => 118 | 217 => 134 | 266 => 159 | n => n, fun | 9 => 9 | 5 => 5 | 3 => 3 | n => n, fun | n => n⟩
theorem Tryz.lays137 : Go.Proofs.Lays.n137 Tryz.prog Tryz.lays137_ren := {
  mixed := by kernel_rfl
  f137 := Tryz.func118.trans (congrArg some (by kernel_rfl))
  f217 := Tryz.func134.trans (congrArg some (by kernel_rfl))
  f266 := Tryz.func159.trans (congrArg some (by kernel_rfl))
  t3 := Tryz.underlying3
  a3 := Tryz.isAgg3
  z3 := Tryz.sizeOf3
  v3 := Tryz.zeroValue3
  t5 := Tryz.underlying5
  a5 := Tryz.isAgg5
  z5 := Tryz.sizeOf5
  v5 := Tryz.zeroValue5
  t9 := Tryz.underlying9
  a9 := Tryz.isAgg9
  z9 := Tryz.sizeOf9
  v9 := Tryz.zeroValue9 }
end Go.Proofs
namespace Go.Proofs.Ax
open Go Go.Proofs
/-! What Atoi makes of a number's text. -/
def numFrom (acc : Nat) (ds : List UInt8) : Nat := ds.foldl (fun n b => 10 * n + (b.toNat - 48)) acc
theorem numFrom_ge : ∀ (ds : List UInt8) (acc : Nat), acc ≤ numFrom acc ds
  | [], acc => Nat.le_refl _
  | b :: ds, acc => by
    have := numFrom_ge ds (10 * acc + (b.toNat - 48))
    show acc ≤ numFrom (10 * acc + (b.toNat - 48)) ds
    omega
theorem parse_digits : ∀ (ds : List UInt8) (acc : Nat), (∀ b ∈ ds, isDg b = true) → numFrom acc ds < 1000000000000000000 → Lib.parseUint10 acc ds = .ok (numFrom acc ds)
  | [], acc, _, _ => rfl
  | b :: ds, acc, h, hn => by
    have hb := h b List.mem_cons_self
    have hb : 48 ≤ b.toNat ∧ b.toNat ≤ 57 := by simpa [isDg] using hb
    have hs : numFrom acc (b :: ds) = numFrom (10 * acc + (b.toNat - 48)) ds := rfl
    have hge := numFrom_ge ds (10 * acc + (b.toNat - 48))
    rw [hs] at hn ⊢
    unfold Lib.parseUint10
    rw [if_pos hb, if_neg (by omega), if_neg (by omega), show acc * 10 + (b.toNat - 48) = 10 * acc + (b.toNat - 48) by omega]
    exact parse_digits ds _ (fun x hx => h x (List.mem_cons_of_mem _ hx)) hn
theorem parse_nat (n : Nat) (hn : n < 1000000000000000000) : Lib.parseMag (Lib.decDigits n) = .ok n := by
  unfold Lib.parseMag
  rw [if_neg (decDigits_ne n)]
  have h : numFrom 0 (Lib.decDigits n) = n := decDigits_num n
  rw [parse_digits _ 0 (decDigits_dg n) (by rw [h]; exact hn), h]
theorem atoi_itoa (n : Int) (h : -1000000000000000000 < n ∧ n < 1000000000000000000) : Lib.atoiAll (Lib.itoa n) = .ok n := by
  unfold Lib.itoa
  split
  · unfold Lib.atoiAll
    simp only
    rw [if_pos (by right; rfl), parse_nat _ (by omega)]
    simp only
    rw [if_neg (by rintro ⟨h1, -⟩; exact h1 rfl), if_neg (by omega), if_pos (by rfl)]
    congr 1; omega
  · have hp := parse_nat n.toNat (by omega)
    cases hq : Lib.decDigits n.toNat with
    | nil => exact absurd hq (decDigits_ne _)
    | cons c r =>
      have hb : isDg c = true := decDigits_dg n.toNat c (by rw [hq]; exact List.mem_cons_self)
      have hb : 48 ≤ c.toNat ∧ c.toNat ≤ 57 := by simpa [isDg] using hb
      rw [hq] at hp
      unfold Lib.atoiAll
      simp only
      rw [if_neg (by omega), hp]
      simp only
      rw [if_neg (by omega), if_neg (by omega), if_neg (by omega)]
      congr 1; omega
end Go.Proofs.Ax
namespace Go.Proofs.Ax
open Go Go.Proofs
set_option maxRecDepth 10000
/-! The library's contracts among the package variables that they read. -/
def G2 (m : Int) (e0 e1 : AV) : Glob := fun g => match g with
  | 0 => some [e0]
  | 1 => some [e1]
  | 2 => some [vi m]
  | 3 => some pow10
  | _ => none
theorem g12 (m : Int) (e0 e1 : AV) : ∀ (g : Nat) (c : List AV), G1 g = some c → G2 m e0 e1 g = some c := by
  intro g c h
  match g, h with
  | 3, h => exact h
theorem tryz_ok2 (mx : Int) (e0 e1 : AV) (m n : Nat) : EC.Ok ⟨⟨Tryz.prog, G2 mx e0 e1, m, none⟩, n, Tryz.tab⟩ := ⟨(tryd_okm m n).tab, (tryd_okm m n).ent, (tryd_okm m n).mix⟩
theorem sc_args {I : Nat → Prop} {w : World} {ρ : Places} {l : List Value} {us : Array Value} (hl : us.size = (l.map AV.sc).length) (hv : ∀ (i : Nat) (x : AV), (l.map AV.sc)[i]? = some x → VRel I w ρ (us.getD i undef) x) : us = l.toArray := by
  rw [List.length_map] at hl
  apply Array.ext
  · simp [hl]
  · intro i h1 h2
    have hi : i < l.length := by simpa using h2
    have := hv i (.sc l[i]) (by simp [hi])
    rw [Array.getD_eq_getD_getElem?, Array.getElem?_eq_getElem h1] at this
    simp only [Option.getD_some] at this
    generalize us[i] = u at this
    cases this
    simp
/-- A call that returns a plain value, and leaves the world as it was. -/
theorem Pu.of_calls {P : Program} {G : Glob} {f : FuncId} {l : List Value} {u : Value} (hb : HasBody P f) (h : ∀ w, Calls P f l.toArray w fun e w' => e = .returned u ∧ w' = w) : Pu P G f (l.map .sc) (.sc u) := by
  refine ⟨hb, fun H I w ρ us hh hl hv => ?_⟩
  rw [sc_args hl hv]
  refine (h w).mono ?_
  rintro e w' ⟨rfl, rfl⟩
  exact ⟨u, rfl, I, ρ, H, _, ⟨rfl, rfl⟩, hh, .sc, Gone.refl⟩
theorem index_ok {G : Glob} (s : ByteArray) (c : Int) : Pu Tryz.prog G 118 [vs s, .sc (.int .u8 c)] (vi (Lib.indexByte s.data.toList c.toNat.toUInt8)) :=
  Pu.of_calls (l := [.string s, .int .u8 c]) ⟨_, _, Tryz.func118, rfl⟩ fun w => Any.strings_IndexByte Tryz.lays137 s c w
theorem trim_ok {G : Glob} (s p : ByteArray) (hs : s.size ≤ 9223372036854775807) : Pu Tryz.prog G 92 [vs s, vs p] (vs ⟨(Lib.trimSuffix s.data.toList p.data.toList).toArray⟩) :=
  Pu.of_calls (l := [.string s, .string p]) ⟨_, _, Tryz.func92, rfl⟩ fun w => Any.strings_TrimSuffix Tryz.lays102 s p w hs
theorem cell_of_glob {I : Nat → Prop} {w : World} {g : Nat} {x : AV} (h : GlobAt I w g [x]) : ∃ v, w.cell? ⟨g, 0, none⟩ = some v ∧ VRel I w (fun _ => none) v x := by
  obtain ⟨h1, -⟩ := h
  generalize hq : Value.pointer (some ⟨g, 0, none⟩) = u0 at h1
  cases h1 with
  | pi f hI hc ho hv =>
    cases hq
    exact ⟨f 0, hc 0 x rfl, hv 0 x rfl⟩
/-- What a variable of type error may hold. -/
def okE (e : AV) : Prop := e = .sc .nilIface ∨ ∃ t, e = .iface t .any
theorem okE_val {I : Nat → Prop} {w : World} {ρ : Places} {v : Value} {e : AV} (he : okE e) (h : VRel I w ρ v e) : v = .nilIface ∨ ∃ te pe, v = .iface te pe := by
  rcases he with rfl | ⟨t, rfl⟩
  · cases h; exact .inl rfl
  · cases h; exact .inr ⟨_, _, rfl⟩
def atoiAV (s : ByteArray) : AV := match Lib.atoiAll s.data.toList with
  | .ok v => .tuple [vi v, .sc .nilIface]
  | .range => .tuple [vi (Lib.atoiSat s.data.toList), .iface (Tryz.laysC172_ren.t 168) .any]
  | _ => .tuple [vi 0, .iface (Tryz.laysC172_ren.t 168) .any]
theorem tup_rel {I : Nat → Prop} {w : World} {ρ : Places} {a b : Value} {x y : AV} (h1 : VRel I w ρ a x) (h2 : VRel I w ρ b y) : VRel I w ρ (.tuple #[a, b]) (.tuple [x, y]) :=
  .tuple rfl fun i z hz => by
    match i, hz with
    | 0, hz => cases hz; exact h1
    | 1, hz => cases hz; exact h2
theorem atoi_ok (m : Int) (e0 e1 : AV) (h0 : okE e0) (h1 : okE e1) (s : ByteArray) (hs : s.size ≤ 100000) : Pu Tryz.prog (G2 m e0 e1) 93 [vs s] (atoiAV s) := by
  refine ⟨⟨_, _, Tryz.func93, rfl⟩, fun H I w ρ us hh hl hv => ?_⟩
  rw [sc_args (l := [.string s]) hl hv]
  unfold atoiAV
  rcases hq : Lib.atoiAll s.data.toList with v | _ | _
  · refine (Any.strconv_Atoi_ok Tryz.laysC172 s (by omega) v hq w).mono ?_
    rintro e w' ⟨rfl, hw⟩
    have hb : HRel (G2 m e0 e1) I w' ρ H ∧ Went I w ρ H I w' ρ H := by
      rcases hw with rfl | ⟨t, rfl⟩
      · exact ⟨hh, Went.refl⟩
      · have hb := Lib.bytesWorld_below w (Tryz.laysC172_ren.t 5) t
        exact hh.below hb.size (fun b hb' => hb.block b hb') hb.os hb.tape hb.output
    exact ⟨_, rfl, I, ρ, H, _, ⟨rfl, rfl⟩, hb.1, tup_rel .sc .sc, hb.2.gone⟩
  · obtain ⟨ev, c1, c2⟩ := cell_of_glob (hh.glob 0 _ rfl)
    refine (Any.strconv_Atoi_syntax Tryz.laysC172 s (by omega) hq ev w c1 (okE_val h0 c2)).mono ?_
    rintro e w' ⟨N, rfl, -, -, hb⟩
    have hb := hh.below hb.size (fun b hb' => hb.block b hb') hb.os hb.tape hb.output
    exact ⟨_, rfl, I, ρ, H, _, ⟨rfl, rfl⟩, hb.1, tup_rel .sc (.iface .any), hb.2.gone⟩
  · obtain ⟨ev, c1, c2⟩ := cell_of_glob (hh.glob 1 _ rfl)
    refine (Any.strconv_Atoi_range Tryz.laysC172 s (by omega) hq ev w c1 (okE_val h1 c2)).mono ?_
    rintro e w' ⟨N, rfl, -, -, hb⟩
    have hb := hh.below hb.size (fun b hb' => hb.block b hb') hb.os hb.tape hb.output
    exact ⟨_, rfl, I, ρ, H, _, ⟨rfl, rfl⟩, hb.1, tup_rel .sc (.iface .any), hb.2.gone⟩
/-- The pieces of a text. -/
def pieces (s sep : ByteArray) : List ByteArray := Lib.splitB sep 0 (Lib.countB s sep) s
theorem split_ok (m : Int) (e0 e1 : AV) (s sep : ByteArray) (hs : s.size ≤ 100000) (h1 : 1 ≤ sep.size) : Pu Tryz.prog (G2 m e0 e1) 91 [vs s, vs sep] (.sl 1 false ((pieces s sep).map fun b => [vs b])) := by
  refine ⟨⟨_, _, Tryz.func91, rfl⟩, fun H I w ρ us hh hl hv => ?_⟩
  rw [sc_args (l := [.string s, .string sep]) hl hv]
  obtain ⟨ev, c1, c2⟩ := cell_of_glob (hh.glob 2 _ rfl)
  cases c2
  refine (Any.strings_Split Tryz.lays146 (by kernel_rfl) s sep m w (by omega) c1 h1).mono ?_
  rintro e w' ⟨rfl, rfl⟩
  have hlen : (pieces s sep).length = Lib.countB s sep + 1 := Lib.splitB_all sep h1 0 _ s rfl
  obtain ⟨hb1, hb2⟩ := hh.alloc_imm (.cells ((Lib.splitB sep 0 (Lib.countB s sep) s).map Value.string).toArray (Tryz.lays146_ren.t 9))
  refine ⟨_, rfl, _, ρ, H, _, ⟨rfl, rfl⟩, hb1, ?_, hb2.gone⟩
  refine .sl (fun i _ => .string ((pieces s sep).getD i ByteArray.empty)) (by simp [hlen]) (Nat.le_refl _) (fun h => by cases h) (fun r hr => by obtain ⟨b, -, rfl⟩ := List.mem_map.1 hr; rfl) (fun _ => .inr rfl) ?_ ?_ ?_
  all_goals
    intro i j row x hi hj
    rw [List.getElem?_map] at hi
    obtain ⟨b, hb, rfl⟩ := Option.map_eq_some_iff.1 hi
    have hj0 : j = 0 := by
      rcases j with _ | j
      · rfl
      · simp at hj
    subst hj0
    cases hj
  · have hb' : (Lib.splitB sep 0 (Lib.countB s sep) s)[i]? = some b := hb
    have hil := (List.getElem?_eq_some_iff.1 hb').1
    simp only [World.cell?, heap_alloc_new, Nat.zero_add, Nat.mul_one, Nat.add_zero]
    rw [List.getD_eq_getElem?_getD, hb]
    simp [hb']
  · rfl
  · show VRel _ _ _ (.string ((pieces s sep).getD i ByteArray.empty)) _
    rw [List.getD_eq_getElem?_getD, hb]
    exact .sc
end Go.Proofs.Ax
