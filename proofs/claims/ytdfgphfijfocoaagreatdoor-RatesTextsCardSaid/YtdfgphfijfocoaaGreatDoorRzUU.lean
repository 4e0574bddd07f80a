import Derived.Test.YtdfgphfijfocoaaGreatDoorRzTy
import Derived.Test.YtdfgphfijfocoaaGreatDoorRzVX
import Derived.Test.YtdfgphfijfocoaaGreatDoorAxN
import Derived.Test.YtdfgphfijfocoaaGreatDoorRzRS
import Derived.Test.YtdfgphfijfocoaaGreatDoorNtA
import Derived.Test.YtdfgphfijfocoaaGreatDoorRbC
import Derived.Test.YtdfgphfijfocoaaGreatDoorRbPE
import Derived.Test.YtdfgphfijfocoaaGreatDoorRbG
import Derived.Stop.LaidErr
import Derived.Lib.LaidU8
import Derived.MakeChecks
import Derived.Test.YtdfgphfijfocoaaGreatDoorRows
namespace Go.Proofs.Ax
open Go Go.Proofs
/-! The lines of a text, and the words of a line; what the program's Parse reads of them. -/
theorem tx_extract (l : List UInt8) (i j : Nat) : (tx l).extract i j = tx ((l.drop i).take (j - i)) := by
  rw [← tx_data ((tx l).extract i j), extract_list]
  rfl
theorem indexOne_none {c : UInt8} : ∀ {a : List UInt8}, c ∉ a → Lib.index a [c] = -1
  | [], _ => rfl
  | x :: a, h => by
    have hx : c ≠ x := fun e => h (by rw [e]; exact List.mem_cons_self)
    have ih := indexOne_none (c := c) (a := a) fun hm => h (List.mem_cons_of_mem _ hm)
    unfold Lib.index
    rw [ih]
    simp [hx]
theorem indexOne_some {c : UInt8} {b : List UInt8} : ∀ {a : List UInt8}, c ∉ a → Lib.index (a ++ c :: b) [c] = (a.length : Int)
  | [], _ => by unfold Lib.index; simp
  | x :: a, h => by
    have hx : c ≠ x := fun e => h (by rw [e]; exact List.mem_cons_self)
    have ih := indexOne_some (c := c) (b := b) (a := a) fun hm => h (List.mem_cons_of_mem _ hm)
    rw [List.cons_append]
    unfold Lib.index
    rw [ih]
    have h1 : (([c] : List UInt8).isPrefixOf (x :: (a ++ c :: b))) = false := by
      show (c == x && _) = false
      rw [beq_eq_false_iff_ne.2 hx]
      rfl
    rw [h1]
    have h2 : ((a.length : Int) == -1) = false := by rw [beq_eq_false_iff_ne]; omega
    rw [h2]
    simp
theorem byteAt {c : UInt8} {b : List UInt8} : ∀ {a : List UInt8}, c ∉ a → Lib.indexByte (a ++ c :: b) c = (a.length : Int)
  | [], _ => by unfold Lib.indexByte; simp
  | x :: a, h => by
    have hx : x ≠ c := fun e => h (by rw [e]; exact List.mem_cons_self)
    have ih := byteAt (c := c) (b := b) (a := a) fun hm => h (List.mem_cons_of_mem _ hm)
    rw [List.cons_append]
    unfold Lib.indexByte
    rw [ih]
    have h2 : ((a.length : Int) == -1) = false := by rw [beq_eq_false_iff_ne]; omega
    rw [if_neg (by simpa using hx), h2]
    simp
theorem byteAt_lt (c : UInt8) : ∀ (l : List UInt8), Lib.indexByte l c < (l.length : Int) ∧ -1 ≤ Lib.indexByte l c
  | [] => by simp [Lib.indexByte]
  | x :: l => by
    have := byteAt_lt c l
    unfold Lib.indexByte
    rw [List.length_cons]
    split
    · omega
    · split <;> omega
def spB : ByteArray := ⟨#[32]⟩
theorem pieces_hit {a b : List UInt8} (h : (32 : UInt8) ∉ a) : pieces (tx (a ++ 32 :: b)) spB = tx a :: pieces (tx b) spB := by
  have hi : Lib.indexB (tx (a ++ 32 :: b)) spB = ((a.length : Nat) : Int) := indexOne_some (c := 32) (b := b) h
  have h1 : spB.size = 1 := rfl
  unfold pieces
  rw [Lib.countB_hit _ _ _ (by rw [h1]; exact Nat.le_refl _) hi, Nat.add_comm, Lib.splitB_hit _ _ _ _ _ hi, h1, tx_extract, tx_extract, tx_size]
  have e1 : ((a ++ 32 :: b).drop 0).take (a.length + 0 - 0) = a := by simp
  have e2 : ((a ++ 32 :: b).drop (a.length + 1)).take ((a ++ 32 :: b).length - (a.length + 1)) = b := by
    rw [List.drop_append, List.drop_eq_nil_of_le (by omega)]
    rw [List.nil_append, show a.length + 1 - a.length = 1 by omega, List.drop_one, List.tail_cons, List.take_of_length_le (by simp; omega)]
  rw [e1, e2]
theorem pieces_miss {a : List UInt8} (h : (32 : UInt8) ∉ a) : pieces (tx a) spB = [tx a] := Lib.splitB_miss _ _ _ _ (indexOne_none (c := 32) h)
/-! Lines. -/
def nlAt (s : ByteArray) : Int := Lib.indexByte s.data.toList 10
def lineOf (s : ByteArray) : ByteArray := if 0 ≤ nlAt s then s.extract 0 ((nlAt s).toNat + 1) else s
def restOf (s : ByteArray) : ByteArray := if 0 ≤ nlAt s then s.extract ((nlAt s).toNat + 1) s.size else ⟨#[]⟩
theorem nlAt_lt (s : ByteArray) : nlAt s < (s.size : Int) ∧ -1 ≤ nlAt s := by
  have h := byteAt_lt 10 s.data.toList
  have hsz : s.data.toList.length = s.size := by rw [Array.length_toList]; rfl
  rw [hsz] at h
  exact h
theorem lineOf_size (s : ByteArray) : (lineOf s).size ≤ s.size := by
  unfold lineOf
  split
  · rw [ByteArray.size_extract]; omega
  · exact Nat.le_refl _
theorem restOf_size (s : ByteArray) (h : 0 < s.size) : (restOf s).size < s.size := by
  unfold restOf
  split
  · rw [ByteArray.size_extract]; omega
  · exact h
def wordsW (x : ByteArray) : List ByteArray := pieces ⟨(Lib.trimSuffix x.data.toList [10]).toArray⟩ spB
def wordsOf (s : ByteArray) : List ByteArray := wordsW (lineOf s)
theorem trim_len (l p : List UInt8) : (Lib.trimSuffix l p).length ≤ l.length := by
  unfold Lib.trimSuffix
  split
  · rw [List.length_take]; omega
  · exact Nat.le_refl _
theorem splitB_size (sep : ByteArray) : ∀ (k : Nat) (s : ByteArray), ∀ b ∈ Lib.splitB sep 0 k s, b.size ≤ s.size
  | 0, s, b, h => by rw [Lib.splitB_zero, List.mem_singleton] at h; rw [h]; exact Nat.le_refl _
  | k + 1, s, b, h => by
    unfold Lib.splitB at h
    split at h
    · rw [List.mem_singleton] at h; rw [h]; exact Nat.le_refl _
    · rcases List.mem_cons.1 h with rfl | h
      · rw [ByteArray.size_extract]; omega
      · have := splitB_size sep k _ b h
        rw [ByteArray.size_extract] at this
        omega
theorem words_size (x : ByteArray) : ∀ b ∈ wordsW x, b.size ≤ x.size := fun b hb => by
  have h1 := splitB_size spB _ _ b hb
  have h2 := trim_len x.data.toList [10]
  have hsz : x.data.toList.length = x.size := by rw [Array.length_toList]; rfl
  have h3 : (⟨(Lib.trimSuffix x.data.toList [10]).toArray⟩ : ByteArray).size = (Lib.trimSuffix x.data.toList [10]).length := tx_size _
  omega
def numW (s : ByteArray) : Int := match Lib.atoiAll s.data.toList with
  | .ok v => v
  | _ => 0
def okW (s : ByteArray) : Bool := match Lib.atoiAll s.data.toList with
  | .ok _ => true
  | _ => false
def wAt (w : List ByteArray) (k : Nat) : ByteArray := w.getD k ⟨#[]⟩
def postW (w : List ByteArray) : Posting := ⟨numW (wAt w 0), numW (wAt w 1), numW (wAt w 2), numW (wAt w 3), numW (wAt w 4)⟩
def goodW (w : List ByteArray) : Prop := w.length = 5 ∧ ∀ k, k < 5 → okW (wAt w k) = true
instance (w : List ByteArray) : Decidable (goodW w) := by unfold goodW; infer_instance
/-- What is read of a text's lines. -/
def runG : Nat → ByteArray → List Posting → Option (List Posting)
  | 0, _, _ => none
  | f + 1, s, out => if 0 < s.size then (if goodW (wordsOf s) ∧ out.length < 4000 then runG f (restOf s) (out ++ [postW (wordsOf s)]) else none) else some out
def bodyL (p : Posting) : List UInt8 := Lib.itoa p.night ++ 32 :: (Lib.itoa p.no ++ 32 :: (Lib.itoa p.src ++ 32 :: (Lib.itoa p.dst ++ 32 :: Lib.itoa p.amount)))
theorem lineL_body (p : Posting) : lineL p = bodyL p ++ [10] := by simp [lineL, bodyL]
theorem itoa_byte (n : Int) : ∀ b ∈ Lib.itoa n, b = 45 ∨ isDg b = true := by
  intro b hb
  unfold Lib.itoa at hb
  split at hb
  · rcases List.mem_cons.1 hb with h | h
    · exact .inl h
    · exact .inr (decDigits_dg _ b h)
  · exact .inr (decDigits_dg _ b hb)
theorem itoa_not (n : Int) {c : UInt8} (h1 : c ≠ 45) (h2 : isDg c = false) : c ∉ Lib.itoa n := fun hm => by
  rcases itoa_byte n c hm with h | h
  · exact h1 h
  · rw [h2] at h; cases h
theorem sp_not (n : Int) : (32 : UInt8) ∉ Lib.itoa n := itoa_not n (by decide) (by decide)
theorem nl_not (n : Int) : (10 : UInt8) ∉ Lib.itoa n := itoa_not n (by decide) (by decide)
theorem body_nl (p : Posting) : (10 : UInt8) ∉ bodyL p := by
  unfold bodyL
  simp only [List.mem_append, List.mem_cons, not_or]
  refine ⟨nl_not _, by decide, nl_not _, by decide, nl_not _, by decide, nl_not _, by decide, nl_not _⟩
theorem body_pieces (p : Posting) : pieces (tx (bodyL p)) spB = [tx (Lib.itoa p.night), tx (Lib.itoa p.no), tx (Lib.itoa p.src), tx (Lib.itoa p.dst), tx (Lib.itoa p.amount)] := by
  unfold bodyL
  rw [pieces_hit (sp_not _), pieces_hit (sp_not _), pieces_hit (sp_not _), pieces_hit (sp_not _), pieces_miss (sp_not _)]
theorem nlAt_of (p : Posting) (B : List UInt8) : nlAt (tx (lineL p ++ B)) = ((bodyL p).length : Int) := by
  have e : (tx (lineL p ++ B)).data.toList = bodyL p ++ 10 :: B := by rw [lineL_body]; simp [tx]
  unfold nlAt
  rw [e]
  exact byteAt (body_nl p)
theorem lineOf_of (p : Posting) (B : List UInt8) : lineOf (tx (lineL p ++ B)) = tx (lineL p) := by
  unfold lineOf
  rw [nlAt_of, if_pos (by omega), tx_extract]
  congr 1
  have : ((bodyL p).length : Int).toNat + 1 = (lineL p).length := by rw [lineL_body]; simp
  rw [this]
  simp
theorem restOf_of (p : Posting) (B : List UInt8) : restOf (tx (lineL p ++ B)) = tx B := by
  unfold restOf
  rw [nlAt_of, if_pos (by omega), tx_extract, tx_size]
  congr 1
  have : ((bodyL p).length : Int).toNat + 1 = (lineL p).length := by rw [lineL_body]; simp
  rw [this]
  simp
theorem wordsOf_of (p : Posting) (B : List UInt8) : wordsOf (tx (lineL p ++ B)) = [tx (Lib.itoa p.night), tx (Lib.itoa p.no), tx (Lib.itoa p.src), tx (Lib.itoa p.dst), tx (Lib.itoa p.amount)] := by
  unfold wordsOf wordsW
  rw [lineOf_of, ← body_pieces]
  have : Lib.trimSuffix (tx (lineL p)).data.toList [10] = bodyL p := by
    have e : (tx (lineL p)).data.toList = bodyL p ++ [10] := by rw [lineL_body]; simp [tx]
    rw [e]
    unfold Lib.trimSuffix
    have : Lib.hasSuffix (bodyL p ++ [10]) [10] = true := by simp [Lib.hasSuffix]
    rw [if_pos this]
    simp
  rw [this]
  rfl
theorem numW_itoa {n : Int} (h : -1000000000000000000 < n ∧ n < 1000000000000000000) : numW (tx (Lib.itoa n)) = n ∧ okW (tx (Lib.itoa n)) = true := by
  have e : (tx (Lib.itoa n)).data.toList = Lib.itoa n := by simp [tx]
  unfold numW okW
  rw [e, atoi_itoa n h]
  exact ⟨rfl, rfl⟩
theorem runG_of : ∀ (rest out : List Posting) (f : Nat), (∀ p ∈ rest, p.ok) → out.length + rest.length ≤ 4000 → rest.length < f → runG f (tx (printL rest)) out = some (out ++ rest)
  | rest, out, 0, _, _, h => absurd h (Nat.not_lt_zero _)
  | [], out, f + 1, _, _, _ => by
    unfold runG
    rw [if_neg (by rw [tx_size]; simp [printL])]
    simp
  | p :: r, out, f + 1, hl, h4, hf => by
    have hp : p.ok := hl p List.mem_cons_self
    have q := hp
    unfold Posting.ok isAcc at q
    obtain ⟨n1, o1⟩ := numW_itoa (n := p.night) (by omega)
    obtain ⟨n2, o2⟩ := numW_itoa (n := p.no) (by omega)
    obtain ⟨n3, o3⟩ := numW_itoa (n := p.src) (by omega)
    obtain ⟨n4, o4⟩ := numW_itoa (n := p.dst) (by omega)
    obtain ⟨n5, o5⟩ := numW_itoa (n := p.amount) (by omega)
    have e : printL (p :: r) = lineL p ++ printL r := rfl
    have hn := line_ne p
    simp only [List.length_cons] at h4 hf
    unfold runG
    rw [e, if_pos (by rw [tx_size, List.length_append]; omega), wordsOf_of, restOf_of]
    have hg : goodW [tx (Lib.itoa p.night), tx (Lib.itoa p.no), tx (Lib.itoa p.src), tx (Lib.itoa p.dst), tx (Lib.itoa p.amount)] := ⟨rfl, fun k hk => by
      match k, hk with
      | 0, _ => exact o1
      | 1, _ => exact o2
      | 2, _ => exact o3
      | 3, _ => exact o4
      | 4, _ => exact o5⟩
    rw [if_pos ⟨hg, by omega⟩]
    have hw : postW [tx (Lib.itoa p.night), tx (Lib.itoa p.no), tx (Lib.itoa p.src), tx (Lib.itoa p.dst), tx (Lib.itoa p.amount)] = p := by
      unfold postW
      simp only [wAt, List.getD_cons_zero, List.getD_cons_succ]
      rw [n1, n2, n3, n4, n5]
    rw [hw, runG_of r (out ++ [p]) f (fun x hx => hl x (List.mem_cons_of_mem _ hx)) (by simp; omega) (by omega)]
    simp
theorem runG_text {s : ByteArray} {l : List Posting} (h : isText s l) : runG (s.size + 1) s [] = some l := by
  obtain ⟨h1, h2, rfl⟩ := h
  have := print_len (l := l)
  have hs : (printB l).size = (printL l).length := tx_size _
  exact runG_of l [] _ h1 (by simpa using h2) (by omega)
theorem runG_len : ∀ (f : Nat) (s : ByteArray) (out l : List Posting), out.length ≤ 4000 → runG f s out = some l → l.length ≤ 4000
  | 0, _, _, _, _, h => by cases h
  | f + 1, s, out, l, ho, h => by
    unfold runG at h
    split at h
    · split at h
      · rename_i h1
        exact runG_len f _ _ l (by simp; omega) h
      · cases h
    · cases h; exact ho
end Go.Proofs.Ax
namespace Go.Proofs.Ax
open Go Go.Proofs
set_option maxRecDepth 10000
set_option maxHeartbeats 4000000
/-! The lines of a text, and a round of Parse for each. -/
theorem tryz_okr2 (mx : Int) (e0 e1 : AV) (m n : Nat) (r : Option Nat) : EC.Ok ⟨⟨Tryz.prog, G2 mx e0 e1, m, r⟩, n, Tryz.tab⟩ := ⟨(tryd_okm m n).tab, (tryd_okm m n).ent, (tryd_okm m n).mix⟩
theorem lines_ok (s : ByteArray) : Ef Tryz.prog G1 90 [vs s] [] fun y H' => y = .fn (.func 117) [] [.pm 0 0 0] ∧ H' = [.rows [[vs s]] 9] := by
  refine Ef.of_ev (T := Tryz.tab) (n := 4) (tryd_okm 0 _) rfl Tryz.func90 rfl rfl (by simp) ?_
  ((conv => whnf); repeat' ((first | refine vv1 ?_ | refine vv2 ?_ | refine vv3 ?_ | refine vv4 ?_ | refine vv5 ?_ | refine vv6 ?_ | refine vv7 ?_ | refine vv8 ?_ | refine vv9 ?_ | refine vv10 ?_ | refine vv11 (fun hbr => ?_) (fun hbr => ?_) | refine vv12 (fun hbr => ?_) (fun hbr => ?_) | refine vv13 ?_ | refine vv14 ?_ | refine vv15 ?_ | refine vv16 ?_ | refine vv17 (fun hbr => ?_) (fun hbr => ?_) | refine vv18 ?_ | refine vv19 (fun hbr => ?_) (fun hbr => ?_) | refine vv20 ?_ | refine SlIdxN.map _ rfl (by first | assumption | omega) ?_ | refine SlIdxN.mapPred (by omega) (by omega) ?_ | refine SlIdxN.mapSucc (by omega) ?_ | refine SlIdxN.lit _ _ rfl rfl ?_ | refine SlIdxN.mapInt (by omega) (by omega) ?_ | refine IdxN.at0 _ rfl (by first | assumption | omega | (simp <;> omega)) ?_ | refine vv21 ?_ | refine RowN.map (by first | assumption | omega) ?_ | refine vv22 ?_ | refine RowSN.map (by first | assumption | omega) ?_ | refine vv23 ?_ | refine vv24 ?_ | refine vv25 ?_ | refine Need.mk (by first | assumption | omega | (simp <;> omega)) ?_ | refine DrawN.gen (by first | exact tryd_ok _ | exact tryd_okm _ _) (by kernel_rfl) ?_ | refine vv26 ?_ | refine vv27 ?_ | refine vv28 ?_ | refine vv29 ?_ | refine vv30 ?_ | refine vv31 ?_ | refine vv32 ?_ | refine vv33 ?_) <;> (conv => whnf)))
  exact ⟨⟨rfl, rfl⟩⟩
theorem lines_in (s : ByteArray) (H : AH) (m : Nat) (hm : H.length = m) : Ef Tryz.prog G1 90 [vs s] H fun y H' => y = .fn (.func 117) [] [.pm m 0 0] ∧ H' = H ++ [.rows [[vs s]] 9] := by
  subst hm
  refine Ef.subD (lines_ok s) rfl (by simp) ⟨okDeep (deepL rfl) _, trivial⟩ [] (by simp) trivial rfl (fun x hx => ?_) rfl rfl
  rw [List.mem_singleton.1 hx]; rfl
noncomputable def as48 : Code := match Tryz.f48.body with
  | some c => match rfOf c with
    | some (a, _) => a
    | none => .skip
  | none => .skip
noncomputable def bd48 : Code := match Tryz.f48.body with
  | some c => match rfOf c with
    | some (_, b) => b
    | none => .skip
  | none => .skip
abbrev cl117 : AV := .fn (.func 117) [] [.pm 3 0 0]
abbrev fl48 (t : ByteArray) : Fr := [(0, vs t), (2, .pm 0 0 0), (3, .pm 1 0 0), (4, .pm 2 0 0), (15, cl117)]
noncomputable abbrev lp48 (t : ByteArray) : ABlk := .loop .ready none (frm 0 (fl48 t) 73) #[16] as48 bd48
noncomputable abbrev lp48x (t : ByteArray) : ABlk := .loop .done (some .ret) (frm 0 (fl48 t) 73) #[16] as48 bd48
/-- The blocks of a range over the lines: before the first round, and behind one. -/
noncomputable abbrev hP0 (t s : ByteArray) (o : List Posting) : AH := [.rows [[.sc (.slice none 0 0)]] 49, .rows [[vi 0]] 29, .rows [[.sm 4 5 0 o.length]] 49, .rows [[vs s]] 9, .rows (o.map Posting.enc) 61, lp48 t]
noncomputable abbrev hP1 (t s : ByteArray) (o : List Posting) : AH := [.rows [[.sc (.slice none 0 0)]] 49, .rows [[vi 0]] 29, .rows [[.sm 6 5 0 o.length]] 49, .rows [[vs s]] 9, .dead, lp48 t, .rows (o.map Posting.enc) 61]
noncomputable abbrev hPx (t s : ByteArray) (o : List Posting) : AH := [.rows [[.sc (.slice none 0 0)]] 49, .rows [[vi 7]] 29, .rows [[.sm 6 5 0 o.length]] 49, .rows [[vs s]] 9, .dead, lp48x t, .rows (o.map Posting.enc) 61]
def arrW (w : List ByteArray) : Nat → List AV
  | 0 => [vi 0, vi 0, vi 0, vi 0, vi 0]
  | 1 => [vi (numW (wAt w 0)), vi 0, vi 0, vi 0, vi 0]
  | 2 => [vi (numW (wAt w 0)), vi (numW (wAt w 1)), vi 0, vi 0, vi 0]
  | 3 => [vi (numW (wAt w 0)), vi (numW (wAt w 1)), vi (numW (wAt w 2)), vi 0, vi 0]
  | 4 => [vi (numW (wAt w 0)), vi (numW (wAt w 1)), vi (numW (wAt w 2)), vi (numW (wAt w 3)), vi 0]
  | _ => [vi (numW (wAt w 0)), vi (numW (wAt w 1)), vi (numW (wAt w 2)), vi (numW (wAt w 3)), vi (numW (wAt w 4))]
noncomputable abbrev hPy (t s : ByteArray) (o : List Posting) (W : List ByteArray) : AH := [.rows [[.sc (.slice none 0 0)]] 49, .rows [[vi 0]] 29, .rows [[.sm 8 5 0 (o.length + 1)]] 49, .rows [[vs s]] 9, .dead, lp48 t, .dead, .rows [arrW W 5] 143, .rows ((o ++ [postW W]).map Posting.enc) 61]
abbrev fr117 : Fr := [(0, .yl 5), (1, .pm 3 0 0)]
theorem atoi_good {mx : Int} {e0 e1 : AV} (h0 : okE e0) (h1 : okE e1) {w : ByteArray} (hs : w.size ≤ 100000) (h : okW w = true) : Pu Tryz.prog (G2 mx e0 e1) 93 [vs w] (.tuple [vi (numW w), .sc .nilIface]) := by
  have := atoi_ok mx e0 e1 h0 h1 w hs
  unfold atoiAV at this
  unfold okW at h
  unfold numW
  split at h
  · rename_i v hv
    rw [hv] at this
    exact this
  · cases h
theorem atoi_bad {mx : Int} {e0 e1 : AV} (h0 : okE e0) (h1 : okE e1) {w : ByteArray} (hs : w.size ≤ 100000) (h : okW w = false) : ∃ n τ, Pu Tryz.prog (G2 mx e0 e1) 93 [vs w] (.tuple [vi n, .iface τ .any]) := by
  have := atoi_ok mx e0 e1 h0 h1 w hs
  unfold atoiAV at this
  unfold okW at h
  cases hq : Lib.atoiAll w.data.toList <;> rw [hq] at this h
  · cases h
  · exact ⟨_, _, this⟩
  · exact ⟨_, _, this⟩
theorem round48 (mx : Int) (e0 e1 : AV) (h0 : okE e0) (h1 : okE e1) (t x r : ByteArray) (o : List Posting) (hx : x.size ≤ 100000) (ho : o.length ≤ 4000) :
    RoundN Tryz.prog (G2 mx e0 e1) Tryz.tab 5 [vs x] (hP1 t r o) fun y H' => (y = vb true ∧ (goodW (wordsW x) ∧ o.length < 4000) ∧ H' = hPy t r o (wordsW x)) ∨ (y = vb false ∧ ¬ (goodW (wordsW x) ∧ o.length < 4000) ∧ ∃ z, H' = hPx t r o ++ z) := by
  have htr := trim_ok (G := G2 mx e0 e1) x ⟨#[10]⟩ (by omega)
  have hsp := split_ok mx e0 e1 ⟨(Lib.trimSuffix x.data.toList [10]).toArray⟩ spB (by have := trim_len x.data.toList [10]; have hsz : x.data.toList.length = x.size := by {rw [Array.length_toList]; rfl}; have h3 : (⟨(Lib.trimSuffix x.data.toList [10]).toArray⟩ : ByteArray).size = (Lib.trimSuffix x.data.toList [10]).length := tx_size _; omega) (Nat.le_refl _)
  have hws := words_size x
  change Pu Tryz.prog (G2 mx e0 e1) 91 _ (.sl 1 false ((wordsW x).map fun b => [vs b])) at hsp
  generalize wordsW x = W at *
  refine ⟨_, _, _, _, _, _, rfl, rfl, ?_⟩
  by_cases hW : W.length = 5
  · match W, hW with
    | [a, b, c, d, e], _ =>
      by_cases h4 : o.length = 4000
      · ((conv => whnf); repeat' ((first | refine CallN.pure htr ?_ | refine CallN.pure hsp ?_ | refine RowN.row2 (by first | omega | (show _ = _ + 1; omega)) ?_ | refine RowN.row1 (by first | omega | (show _ = _ + 1; omega)) ?_ | refine RowN.rowB (by first | omega | (show _ = _ + 1; omega)) ?_ | refine RowSN.row2 (by first | omega | (show _ = _ + 1; omega)) ?_ | refine RowSN.row1 (by first | omega | (show _ = _ + 1; omega)) ?_ | refine RowSN.rowB (by first | omega | (show _ = _ + 1; omega)) ?_ | refine IxN.mk _ rfl ?_ | refine shr_ok rfl rfl ?_ | refine WrapN.inU ⟨by omega, by omega⟩ ?_ | refine vv1 ?_ | refine vv2 ?_ | refine vv3 ?_ | refine vv4 ?_ | refine vv5 ?_ | refine vv6 ?_ | refine vv7 ?_ | refine vv8 ?_ | refine vv9 ?_ | refine vv10 ?_ | refine vv11 (fun hbr => ?_) (fun hbr => ?_) | refine vv12 (fun hbr => ?_) (fun hbr => ?_) | refine vv13 ?_ | refine vv14 ?_ | refine vv15 ?_ | refine vv16 ?_ | refine vv17 (fun hbr => ?_) (fun hbr => ?_) | refine vv18 ?_ | refine vv19 (fun hbr => ?_) (fun hbr => ?_) | refine vv20 ?_ | refine SlIdxN.map _ rfl (by first | assumption | omega) ?_ | refine SlIdxN.mapPred (by omega) (by omega) ?_ | refine SlIdxN.mapSucc (by omega) ?_ | refine SlIdxN.lit _ _ rfl rfl ?_ | refine SlIdxN.mapInt (by omega) (by omega) ?_ | refine IdxN.at0 _ rfl (by first | assumption | omega | (simp <;> omega)) ?_ | refine vv21 ?_ | refine RowN.map (by first | assumption | omega) ?_ | refine vv22 ?_ | refine RowSN.map (by first | assumption | omega) ?_ | refine vv23 ?_ | refine vv24 ?_ | refine vv25 ?_ | refine Need.mk (by first | assumption | omega | (simp <;> omega)) ?_ | refine DrawN.gen (by first | exact tryd_ok _ | exact tryd_okm _ _) (by kernel_rfl) ?_ | refine vv26 ?_ | refine vv27 ?_ | refine vv28 ?_ | refine vv29 ?_ | refine vv30 ?_ | refine vv31 ?_ | refine vv32 ?_ | refine vv33 ?_) <;> (conv => whnf)))
        exact .inr ⟨rfl, fun h => absurd h.2 (by omega), [], rfl⟩
      · ((conv => whnf); repeat' ((first | refine CallN.pure htr ?_ | refine CallN.pure hsp ?_ | refine RowN.row2 (by first | omega | (show _ = _ + 1; omega)) ?_ | refine RowN.row1 (by first | omega | (show _ = _ + 1; omega)) ?_ | refine RowN.rowB (by first | omega | (show _ = _ + 1; omega)) ?_ | refine RowSN.row2 (by first | omega | (show _ = _ + 1; omega)) ?_ | refine RowSN.row1 (by first | omega | (show _ = _ + 1; omega)) ?_ | refine RowSN.rowB (by first | omega | (show _ = _ + 1; omega)) ?_ | refine IxN.mk _ rfl ?_ | refine shr_ok rfl rfl ?_ | refine WrapN.inU ⟨by omega, by omega⟩ ?_ | refine vv1 ?_ | refine vv2 ?_ | refine vv3 ?_ | refine vv4 ?_ | refine vv5 ?_ | refine vv6 ?_ | refine vv7 ?_ | refine vv8 ?_ | refine vv9 ?_ | refine vv10 ?_ | refine vv11 (fun hbr => ?_) (fun hbr => ?_) | refine vv12 (fun hbr => ?_) (fun hbr => ?_) | refine vv13 ?_ | refine vv14 ?_ | refine vv15 ?_ | refine vv16 ?_ | refine vv17 (fun hbr => ?_) (fun hbr => ?_) | refine vv18 ?_ | refine vv19 (fun hbr => ?_) (fun hbr => ?_) | refine vv20 ?_ | refine SlIdxN.map _ rfl (by first | assumption | omega) ?_ | refine SlIdxN.mapPred (by omega) (by omega) ?_ | refine SlIdxN.mapSucc (by omega) ?_ | refine SlIdxN.lit _ _ rfl rfl ?_ | refine SlIdxN.mapInt (by omega) (by omega) ?_ | refine IdxN.at0 _ rfl (by first | assumption | omega | (simp <;> omega)) ?_ | refine vv21 ?_ | refine RowN.map (by first | assumption | omega) ?_ | refine vv22 ?_ | refine RowSN.map (by first | assumption | omega) ?_ | refine vv23 ?_ | refine vv24 ?_ | refine vv25 ?_ | refine Need.mk (by first | assumption | omega | (simp <;> omega)) ?_ | refine DrawN.gen (by first | exact tryd_ok _ | exact tryd_okm _ _) (by kernel_rfl) ?_ | refine vv26 ?_ | refine vv27 ?_ | refine vv28 ?_ | refine vv29 ?_ | refine vv30 ?_ | refine vv31 ?_ | refine vv32 ?_ | refine vv33 ?_) <;> (conv => whnf)))
        have sa := hws a (by simp)
        have sb := hws b (by simp)
        have sc := hws c (by simp)
        have sd := hws d (by simp)
        have se := hws e (by simp)
        clear htr hsp hws
        refine LoopN.of (tryz_okr2 mx e0 e1 _ _ _) (fun k : Nat => (6, .sl 1 false ([a, b, c, d, e].map fun b => [vs b])) :: (7, .pm 7 0 0) :: (28, .sl 1 false ([a, b, c, d, e].map fun b => [vs b])) :: (29, vi 5) :: (30, vi k) :: fl48 t) (fun k => [.rows [[.sc (.slice none 0 0)]] 49, .rows [[vi 0]] 29, .rows [[.sm 6 5 0 o.length]] 49, .rows [[vs r]] 9, .dead, .loop .busy none (frm 0 (fl48 t) 73) #[16] as48 bd48, .rows (o.map Posting.enc) 61, .rows [arrW [a, b, c, d, e] k] 143]) (fun k => 5 - k) (fun k => k ≤ 5 ∧ ∀ j, j < k → okW (wAt [a, b, c, d, e] j) = true) 0 ⟨Nat.zero_le _, fun j h => absurd h (Nat.not_lt_zero _)⟩ (Reabs.frmM [0, 1, 2, 3, 4, 5, 6, 7] (by repeat (first | exact trivial | refine ⟨.inr ⟨rfl, rfl⟩, ?_⟩ | refine ⟨.inr ⟨rfl, vi_eq (by first | omega | (simp; done) | (simp; omega))⟩, ?_⟩ | refine ⟨.inr ⟨rfl, smE rfl (by first | omega | (simp; done) | (simp; omega))⟩, ?_⟩)) (by repeat (first | exact trivial | refine ⟨⟨_, rfl, (by first | exact blkDead | exact blkDeep rfl (deepLit rfl) | exact blkDeep rfl (deepMap (fun _ => rfl)) | exact blkOk rfl rfl | exact blkLoop rfl rfl), (by first | exact fun _ => rfl | exact fun h => (by cases h))⟩, ?_⟩)) rfl rfl) ?_
        rintro k ⟨hk, hok⟩
        match k, hk, hok with
        | 0, hk, hok =>
          by_cases hw : okW a = true
          · have ha := atoi_good (mx := mx) h0 h1 (show a.size ≤ 100000 by omega) hw
            ((conv => whnf); repeat' ((first | refine CallN.pure ha ?_ | refine StepN.keep (vb false) (by kernel_rfl) ?_ | refine RowN.row2 (by first | omega | (show _ = _ + 1; omega)) ?_ | refine RowN.row1 (by first | omega | (show _ = _ + 1; omega)) ?_ | refine RowN.rowB (by first | omega | (show _ = _ + 1; omega)) ?_ | refine RowSN.row2 (by first | omega | (show _ = _ + 1; omega)) ?_ | refine RowSN.row1 (by first | omega | (show _ = _ + 1; omega)) ?_ | refine RowSN.rowB (by first | omega | (show _ = _ + 1; omega)) ?_ | refine IxN.mk _ rfl ?_ | refine shr_ok rfl rfl ?_ | refine WrapN.inU ⟨by omega, by omega⟩ ?_ | refine vv1 ?_ | refine vv2 ?_ | refine vv3 ?_ | refine vv4 ?_ | refine vv5 ?_ | refine vv6 ?_ | refine vv7 ?_ | refine vv8 ?_ | refine vv9 ?_ | refine vv10 ?_ | refine vv11 (fun hbr => ?_) (fun hbr => ?_) | refine vv12 (fun hbr => ?_) (fun hbr => ?_) | refine vv13 ?_ | refine vv14 ?_ | refine vv15 ?_ | refine vv16 ?_ | refine vv17 (fun hbr => ?_) (fun hbr => ?_) | refine vv18 ?_ | refine vv19 (fun hbr => ?_) (fun hbr => ?_) | refine vv20 ?_ | refine SlIdxN.map _ rfl (by first | assumption | omega) ?_ | refine SlIdxN.mapPred (by omega) (by omega) ?_ | refine SlIdxN.mapSucc (by omega) ?_ | refine SlIdxN.lit _ _ rfl rfl ?_ | refine SlIdxN.mapInt (by omega) (by omega) ?_ | refine IdxN.at0 _ rfl (by first | assumption | omega | (simp <;> omega)) ?_ | refine vv21 ?_ | refine RowN.map (by first | assumption | omega) ?_ | refine vv22 ?_ | refine RowSN.map (by first | assumption | omega) ?_ | refine vv23 ?_ | refine vv24 ?_ | refine vv25 ?_ | refine Need.mk (by first | assumption | omega | (simp <;> omega)) ?_ | refine DrawN.gen (by first | exact tryd_ok _ | exact tryd_okm _ _) (by kernel_rfl) ?_ | refine vv26 ?_ | refine vv27 ?_ | refine vv28 ?_ | refine vv29 ?_ | refine vv30 ?_ | refine vv31 ?_ | refine vv32 ?_ | refine vv33 ?_) <;> (conv => whnf)))
            refine BackN.mk 1 ⟨by omega, fun j hj => ?_⟩ (by omega) (Reabs.frmM [0, 1, 2, 3, 4, 5, 6, 7] (by repeat (first | exact trivial | refine ⟨.inr ⟨rfl, rfl⟩, ?_⟩ | refine ⟨.inr ⟨rfl, vi_eq (by first | omega | (simp; done) | (simp; omega))⟩, ?_⟩ | refine ⟨.inr ⟨rfl, smE rfl (by first | omega | (simp; done) | (simp; omega))⟩, ?_⟩)) (by repeat (first | exact trivial | refine ⟨⟨_, rfl, (by first | exact blkDead | exact blkDeep rfl (deepLit rfl) | exact blkDeep rfl (deepMap (fun _ => rfl)) | exact blkOk rfl rfl | exact blkLoop rfl rfl), (by first | exact fun _ => rfl | exact fun h => (by cases h))⟩, ?_⟩)) rfl rfl)
            rcases Nat.lt_succ_iff_lt_or_eq.1 hj with h | rfl
            · exact hok j h
            · exact hw
          · obtain ⟨n, τ, hb⟩ := atoi_bad (mx := mx) h0 h1 (show a.size ≤ 100000 by omega) (Bool.eq_false_iff.2 hw)
            ((conv => whnf); repeat' ((first | refine CallN.pure hb ?_ | refine StepN.keep (vb true) (by kernel_rfl) ?_ | refine RowN.row2 (by first | omega | (show _ = _ + 1; omega)) ?_ | refine RowN.row1 (by first | omega | (show _ = _ + 1; omega)) ?_ | refine RowN.rowB (by first | omega | (show _ = _ + 1; omega)) ?_ | refine RowSN.row2 (by first | omega | (show _ = _ + 1; omega)) ?_ | refine RowSN.row1 (by first | omega | (show _ = _ + 1; omega)) ?_ | refine RowSN.rowB (by first | omega | (show _ = _ + 1; omega)) ?_ | refine IxN.mk _ rfl ?_ | refine shr_ok rfl rfl ?_ | refine WrapN.inU ⟨by omega, by omega⟩ ?_ | refine vv1 ?_ | refine vv2 ?_ | refine vv3 ?_ | refine vv4 ?_ | refine vv5 ?_ | refine vv6 ?_ | refine vv7 ?_ | refine vv8 ?_ | refine vv9 ?_ | refine vv10 ?_ | refine vv11 (fun hbr => ?_) (fun hbr => ?_) | refine vv12 (fun hbr => ?_) (fun hbr => ?_) | refine vv13 ?_ | refine vv14 ?_ | refine vv15 ?_ | refine vv16 ?_ | refine vv17 (fun hbr => ?_) (fun hbr => ?_) | refine vv18 ?_ | refine vv19 (fun hbr => ?_) (fun hbr => ?_) | refine vv20 ?_ | refine SlIdxN.map _ rfl (by first | assumption | omega) ?_ | refine SlIdxN.mapPred (by omega) (by omega) ?_ | refine SlIdxN.mapSucc (by omega) ?_ | refine SlIdxN.lit _ _ rfl rfl ?_ | refine SlIdxN.mapInt (by omega) (by omega) ?_ | refine IdxN.at0 _ rfl (by first | assumption | omega | (simp <;> omega)) ?_ | refine vv21 ?_ | refine RowN.map (by first | assumption | omega) ?_ | refine vv22 ?_ | refine RowSN.map (by first | assumption | omega) ?_ | refine vv23 ?_ | refine vv24 ?_ | refine vv25 ?_ | refine Need.mk (by first | assumption | omega | (simp <;> omega)) ?_ | refine DrawN.gen (by first | exact tryd_ok _ | exact tryd_okm _ _) (by kernel_rfl) ?_ | refine vv26 ?_ | refine vv27 ?_ | refine vv28 ?_ | refine vv29 ?_ | refine vv30 ?_ | refine vv31 ?_ | refine vv32 ?_ | refine vv33 ?_) <;> (conv => whnf)))
            exact .inr ⟨rfl, fun h => hw (h.1.2 0 (by omega)), _, rfl⟩
        | 1, hk, hok =>
          by_cases hw : okW b = true
          · have ha := atoi_good (mx := mx) h0 h1 (show b.size ≤ 100000 by omega) hw
            ((conv => whnf); repeat' ((first | refine CallN.pure ha ?_ | refine StepN.keep (vb false) (by kernel_rfl) ?_ | refine RowN.row2 (by first | omega | (show _ = _ + 1; omega)) ?_ | refine RowN.row1 (by first | omega | (show _ = _ + 1; omega)) ?_ | refine RowN.rowB (by first | omega | (show _ = _ + 1; omega)) ?_ | refine RowSN.row2 (by first | omega | (show _ = _ + 1; omega)) ?_ | refine RowSN.row1 (by first | omega | (show _ = _ + 1; omega)) ?_ | refine RowSN.rowB (by first | omega | (show _ = _ + 1; omega)) ?_ | refine IxN.mk _ rfl ?_ | refine shr_ok rfl rfl ?_ | refine WrapN.inU ⟨by omega, by omega⟩ ?_ | refine vv1 ?_ | refine vv2 ?_ | refine vv3 ?_ | refine vv4 ?_ | refine vv5 ?_ | refine vv6 ?_ | refine vv7 ?_ | refine vv8 ?_ | refine vv9 ?_ | refine vv10 ?_ | refine vv11 (fun hbr => ?_) (fun hbr => ?_) | refine vv12 (fun hbr => ?_) (fun hbr => ?_) | refine vv13 ?_ | refine vv14 ?_ | refine vv15 ?_ | refine vv16 ?_ | refine vv17 (fun hbr => ?_) (fun hbr => ?_) | refine vv18 ?_ | refine vv19 (fun hbr => ?_) (fun hbr => ?_) | refine vv20 ?_ | refine SlIdxN.map _ rfl (by first | assumption | omega) ?_ | refine SlIdxN.mapPred (by omega) (by omega) ?_ | refine SlIdxN.mapSucc (by omega) ?_ | refine SlIdxN.lit _ _ rfl rfl ?_ | refine SlIdxN.mapInt (by omega) (by omega) ?_ | refine IdxN.at0 _ rfl (by first | assumption | omega | (simp <;> omega)) ?_ | refine vv21 ?_ | refine RowN.map (by first | assumption | omega) ?_ | refine vv22 ?_ | refine RowSN.map (by first | assumption | omega) ?_ | refine vv23 ?_ | refine vv24 ?_ | refine vv25 ?_ | refine Need.mk (by first | assumption | omega | (simp <;> omega)) ?_ | refine DrawN.gen (by first | exact tryd_ok _ | exact tryd_okm _ _) (by kernel_rfl) ?_ | refine vv26 ?_ | refine vv27 ?_ | refine vv28 ?_ | refine vv29 ?_ | refine vv30 ?_ | refine vv31 ?_ | refine vv32 ?_ | refine vv33 ?_) <;> (conv => whnf)))
            refine BackN.mk 2 ⟨by omega, fun j hj => ?_⟩ (by omega) (Reabs.frmM [0, 1, 2, 3, 4, 5, 6, 7] (by repeat (first | exact trivial | refine ⟨.inr ⟨rfl, rfl⟩, ?_⟩ | refine ⟨.inr ⟨rfl, vi_eq (by first | omega | (simp; done) | (simp; omega))⟩, ?_⟩ | refine ⟨.inr ⟨rfl, smE rfl (by first | omega | (simp; done) | (simp; omega))⟩, ?_⟩)) (by repeat (first | exact trivial | refine ⟨⟨_, rfl, (by first | exact blkDead | exact blkDeep rfl (deepLit rfl) | exact blkDeep rfl (deepMap (fun _ => rfl)) | exact blkOk rfl rfl | exact blkLoop rfl rfl), (by first | exact fun _ => rfl | exact fun h => (by cases h))⟩, ?_⟩)) rfl rfl)
            rcases Nat.lt_succ_iff_lt_or_eq.1 hj with h | rfl
            · exact hok j h
            · exact hw
          · obtain ⟨n, τ, hb⟩ := atoi_bad (mx := mx) h0 h1 (show b.size ≤ 100000 by omega) (Bool.eq_false_iff.2 hw)
            ((conv => whnf); repeat' ((first | refine CallN.pure hb ?_ | refine StepN.keep (vb true) (by kernel_rfl) ?_ | refine RowN.row2 (by first | omega | (show _ = _ + 1; omega)) ?_ | refine RowN.row1 (by first | omega | (show _ = _ + 1; omega)) ?_ | refine RowN.rowB (by first | omega | (show _ = _ + 1; omega)) ?_ | refine RowSN.row2 (by first | omega | (show _ = _ + 1; omega)) ?_ | refine RowSN.row1 (by first | omega | (show _ = _ + 1; omega)) ?_ | refine RowSN.rowB (by first | omega | (show _ = _ + 1; omega)) ?_ | refine IxN.mk _ rfl ?_ | refine shr_ok rfl rfl ?_ | refine WrapN.inU ⟨by omega, by omega⟩ ?_ | refine vv1 ?_ | refine vv2 ?_ | refine vv3 ?_ | refine vv4 ?_ | refine vv5 ?_ | refine vv6 ?_ | refine vv7 ?_ | refine vv8 ?_ | refine vv9 ?_ | refine vv10 ?_ | refine vv11 (fun hbr => ?_) (fun hbr => ?_) | refine vv12 (fun hbr => ?_) (fun hbr => ?_) | refine vv13 ?_ | refine vv14 ?_ | refine vv15 ?_ | refine vv16 ?_ | refine vv17 (fun hbr => ?_) (fun hbr => ?_) | refine vv18 ?_ | refine vv19 (fun hbr => ?_) (fun hbr => ?_) | refine vv20 ?_ | refine SlIdxN.map _ rfl (by first | assumption | omega) ?_ | refine SlIdxN.mapPred (by omega) (by omega) ?_ | refine SlIdxN.mapSucc (by omega) ?_ | refine SlIdxN.lit _ _ rfl rfl ?_ | refine SlIdxN.mapInt (by omega) (by omega) ?_ | refine IdxN.at0 _ rfl (by first | assumption | omega | (simp <;> omega)) ?_ | refine vv21 ?_ | refine RowN.map (by first | assumption | omega) ?_ | refine vv22 ?_ | refine RowSN.map (by first | assumption | omega) ?_ | refine vv23 ?_ | refine vv24 ?_ | refine vv25 ?_ | refine Need.mk (by first | assumption | omega | (simp <;> omega)) ?_ | refine DrawN.gen (by first | exact tryd_ok _ | exact tryd_okm _ _) (by kernel_rfl) ?_ | refine vv26 ?_ | refine vv27 ?_ | refine vv28 ?_ | refine vv29 ?_ | refine vv30 ?_ | refine vv31 ?_ | refine vv32 ?_ | refine vv33 ?_) <;> (conv => whnf)))
            exact .inr ⟨rfl, fun h => hw (h.1.2 1 (by omega)), _, rfl⟩
        | 2, hk, hok =>
          by_cases hw : okW c = true
          · have ha := atoi_good (mx := mx) h0 h1 (show c.size ≤ 100000 by omega) hw
            ((conv => whnf); repeat' ((first | refine CallN.pure ha ?_ | refine StepN.keep (vb false) (by kernel_rfl) ?_ | refine RowN.row2 (by first | omega | (show _ = _ + 1; omega)) ?_ | refine RowN.row1 (by first | omega | (show _ = _ + 1; omega)) ?_ | refine RowN.rowB (by first | omega | (show _ = _ + 1; omega)) ?_ | refine RowSN.row2 (by first | omega | (show _ = _ + 1; omega)) ?_ | refine RowSN.row1 (by first | omega | (show _ = _ + 1; omega)) ?_ | refine RowSN.rowB (by first | omega | (show _ = _ + 1; omega)) ?_ | refine IxN.mk _ rfl ?_ | refine shr_ok rfl rfl ?_ | refine WrapN.inU ⟨by omega, by omega⟩ ?_ | refine vv1 ?_ | refine vv2 ?_ | refine vv3 ?_ | refine vv4 ?_ | refine vv5 ?_ | refine vv6 ?_ | refine vv7 ?_ | refine vv8 ?_ | refine vv9 ?_ | refine vv10 ?_ | refine vv11 (fun hbr => ?_) (fun hbr => ?_) | refine vv12 (fun hbr => ?_) (fun hbr => ?_) | refine vv13 ?_ | refine vv14 ?_ | refine vv15 ?_ | refine vv16 ?_ | refine vv17 (fun hbr => ?_) (fun hbr => ?_) | refine vv18 ?_ | refine vv19 (fun hbr => ?_) (fun hbr => ?_) | refine vv20 ?_ | refine SlIdxN.map _ rfl (by first | assumption | omega) ?_ | refine SlIdxN.mapPred (by omega) (by omega) ?_ | refine SlIdxN.mapSucc (by omega) ?_ | refine SlIdxN.lit _ _ rfl rfl ?_ | refine SlIdxN.mapInt (by omega) (by omega) ?_ | refine IdxN.at0 _ rfl (by first | assumption | omega | (simp <;> omega)) ?_ | refine vv21 ?_ | refine RowN.map (by first | assumption | omega) ?_ | refine vv22 ?_ | refine RowSN.map (by first | assumption | omega) ?_ | refine vv23 ?_ | refine vv24 ?_ | refine vv25 ?_ | refine Need.mk (by first | assumption | omega | (simp <;> omega)) ?_ | refine DrawN.gen (by first | exact tryd_ok _ | exact tryd_okm _ _) (by kernel_rfl) ?_ | refine vv26 ?_ | refine vv27 ?_ | refine vv28 ?_ | refine vv29 ?_ | refine vv30 ?_ | refine vv31 ?_ | refine vv32 ?_ | refine vv33 ?_) <;> (conv => whnf)))
            refine BackN.mk 3 ⟨by omega, fun j hj => ?_⟩ (by omega) (Reabs.frmM [0, 1, 2, 3, 4, 5, 6, 7] (by repeat (first | exact trivial | refine ⟨.inr ⟨rfl, rfl⟩, ?_⟩ | refine ⟨.inr ⟨rfl, vi_eq (by first | omega | (simp; done) | (simp; omega))⟩, ?_⟩ | refine ⟨.inr ⟨rfl, smE rfl (by first | omega | (simp; done) | (simp; omega))⟩, ?_⟩)) (by repeat (first | exact trivial | refine ⟨⟨_, rfl, (by first | exact blkDead | exact blkDeep rfl (deepLit rfl) | exact blkDeep rfl (deepMap (fun _ => rfl)) | exact blkOk rfl rfl | exact blkLoop rfl rfl), (by first | exact fun _ => rfl | exact fun h => (by cases h))⟩, ?_⟩)) rfl rfl)
            rcases Nat.lt_succ_iff_lt_or_eq.1 hj with h | rfl
            · exact hok j h
            · exact hw
          · obtain ⟨n, τ, hb⟩ := atoi_bad (mx := mx) h0 h1 (show c.size ≤ 100000 by omega) (Bool.eq_false_iff.2 hw)
            ((conv => whnf); repeat' ((first | refine CallN.pure hb ?_ | refine StepN.keep (vb true) (by kernel_rfl) ?_ | refine RowN.row2 (by first | omega | (show _ = _ + 1; omega)) ?_ | refine RowN.row1 (by first | omega | (show _ = _ + 1; omega)) ?_ | refine RowN.rowB (by first | omega | (show _ = _ + 1; omega)) ?_ | refine RowSN.row2 (by first | omega | (show _ = _ + 1; omega)) ?_ | refine RowSN.row1 (by first | omega | (show _ = _ + 1; omega)) ?_ | refine RowSN.rowB (by first | omega | (show _ = _ + 1; omega)) ?_ | refine IxN.mk _ rfl ?_ | refine shr_ok rfl rfl ?_ | refine WrapN.inU ⟨by omega, by omega⟩ ?_ | refine vv1 ?_ | refine vv2 ?_ | refine vv3 ?_ | refine vv4 ?_ | refine vv5 ?_ | refine vv6 ?_ | refine vv7 ?_ | refine vv8 ?_ | refine vv9 ?_ | refine vv10 ?_ | refine vv11 (fun hbr => ?_) (fun hbr => ?_) | refine vv12 (fun hbr => ?_) (fun hbr => ?_) | refine vv13 ?_ | refine vv14 ?_ | refine vv15 ?_ | refine vv16 ?_ | refine vv17 (fun hbr => ?_) (fun hbr => ?_) | refine vv18 ?_ | refine vv19 (fun hbr => ?_) (fun hbr => ?_) | refine vv20 ?_ | refine SlIdxN.map _ rfl (by first | assumption | omega) ?_ | refine SlIdxN.mapPred (by omega) (by omega) ?_ | refine SlIdxN.mapSucc (by omega) ?_ | refine SlIdxN.lit _ _ rfl rfl ?_ | refine SlIdxN.mapInt (by omega) (by omega) ?_ | refine IdxN.at0 _ rfl (by first | assumption | omega | (simp <;> omega)) ?_ | refine vv21 ?_ | refine RowN.map (by first | assumption | omega) ?_ | refine vv22 ?_ | refine RowSN.map (by first | assumption | omega) ?_ | refine vv23 ?_ | refine vv24 ?_ | refine vv25 ?_ | refine Need.mk (by first | assumption | omega | (simp <;> omega)) ?_ | refine DrawN.gen (by first | exact tryd_ok _ | exact tryd_okm _ _) (by kernel_rfl) ?_ | refine vv26 ?_ | refine vv27 ?_ | refine vv28 ?_ | refine vv29 ?_ | refine vv30 ?_ | refine vv31 ?_ | refine vv32 ?_ | refine vv33 ?_) <;> (conv => whnf)))
            exact .inr ⟨rfl, fun h => hw (h.1.2 2 (by omega)), _, rfl⟩
        | 3, hk, hok =>
          by_cases hw : okW d = true
          · have ha := atoi_good (mx := mx) h0 h1 (show d.size ≤ 100000 by omega) hw
            ((conv => whnf); repeat' ((first | refine CallN.pure ha ?_ | refine StepN.keep (vb false) (by kernel_rfl) ?_ | refine RowN.row2 (by first | omega | (show _ = _ + 1; omega)) ?_ | refine RowN.row1 (by first | omega | (show _ = _ + 1; omega)) ?_ | refine RowN.rowB (by first | omega | (show _ = _ + 1; omega)) ?_ | refine RowSN.row2 (by first | omega | (show _ = _ + 1; omega)) ?_ | refine RowSN.row1 (by first | omega | (show _ = _ + 1; omega)) ?_ | refine RowSN.rowB (by first | omega | (show _ = _ + 1; omega)) ?_ | refine IxN.mk _ rfl ?_ | refine shr_ok rfl rfl ?_ | refine WrapN.inU ⟨by omega, by omega⟩ ?_ | refine vv1 ?_ | refine vv2 ?_ | refine vv3 ?_ | refine vv4 ?_ | refine vv5 ?_ | refine vv6 ?_ | refine vv7 ?_ | refine vv8 ?_ | refine vv9 ?_ | refine vv10 ?_ | refine vv11 (fun hbr => ?_) (fun hbr => ?_) | refine vv12 (fun hbr => ?_) (fun hbr => ?_) | refine vv13 ?_ | refine vv14 ?_ | refine vv15 ?_ | refine vv16 ?_ | refine vv17 (fun hbr => ?_) (fun hbr => ?_) | refine vv18 ?_ | refine vv19 (fun hbr => ?_) (fun hbr => ?_) | refine vv20 ?_ | refine SlIdxN.map _ rfl (by first | assumption | omega) ?_ | refine SlIdxN.mapPred (by omega) (by omega) ?_ | refine SlIdxN.mapSucc (by omega) ?_ | refine SlIdxN.lit _ _ rfl rfl ?_ | refine SlIdxN.mapInt (by omega) (by omega) ?_ | refine IdxN.at0 _ rfl (by first | assumption | omega | (simp <;> omega)) ?_ | refine vv21 ?_ | refine RowN.map (by first | assumption | omega) ?_ | refine vv22 ?_ | refine RowSN.map (by first | assumption | omega) ?_ | refine vv23 ?_ | refine vv24 ?_ | refine vv25 ?_ | refine Need.mk (by first | assumption | omega | (simp <;> omega)) ?_ | refine DrawN.gen (by first | exact tryd_ok _ | exact tryd_okm _ _) (by kernel_rfl) ?_ | refine vv26 ?_ | refine vv27 ?_ | refine vv28 ?_ | refine vv29 ?_ | refine vv30 ?_ | refine vv31 ?_ | refine vv32 ?_ | refine vv33 ?_) <;> (conv => whnf)))
            refine BackN.mk 4 ⟨by omega, fun j hj => ?_⟩ (by omega) (Reabs.frmM [0, 1, 2, 3, 4, 5, 6, 7] (by repeat (first | exact trivial | refine ⟨.inr ⟨rfl, rfl⟩, ?_⟩ | refine ⟨.inr ⟨rfl, vi_eq (by first | omega | (simp; done) | (simp; omega))⟩, ?_⟩ | refine ⟨.inr ⟨rfl, smE rfl (by first | omega | (simp; done) | (simp; omega))⟩, ?_⟩)) (by repeat (first | exact trivial | refine ⟨⟨_, rfl, (by first | exact blkDead | exact blkDeep rfl (deepLit rfl) | exact blkDeep rfl (deepMap (fun _ => rfl)) | exact blkOk rfl rfl | exact blkLoop rfl rfl), (by first | exact fun _ => rfl | exact fun h => (by cases h))⟩, ?_⟩)) rfl rfl)
            rcases Nat.lt_succ_iff_lt_or_eq.1 hj with h | rfl
            · exact hok j h
            · exact hw
          · obtain ⟨n, τ, hb⟩ := atoi_bad (mx := mx) h0 h1 (show d.size ≤ 100000 by omega) (Bool.eq_false_iff.2 hw)
            ((conv => whnf); repeat' ((first | refine CallN.pure hb ?_ | refine StepN.keep (vb true) (by kernel_rfl) ?_ | refine RowN.row2 (by first | omega | (show _ = _ + 1; omega)) ?_ | refine RowN.row1 (by first | omega | (show _ = _ + 1; omega)) ?_ | refine RowN.rowB (by first | omega | (show _ = _ + 1; omega)) ?_ | refine RowSN.row2 (by first | omega | (show _ = _ + 1; omega)) ?_ | refine RowSN.row1 (by first | omega | (show _ = _ + 1; omega)) ?_ | refine RowSN.rowB (by first | omega | (show _ = _ + 1; omega)) ?_ | refine IxN.mk _ rfl ?_ | refine shr_ok rfl rfl ?_ | refine WrapN.inU ⟨by omega, by omega⟩ ?_ | refine vv1 ?_ | refine vv2 ?_ | refine vv3 ?_ | refine vv4 ?_ | refine vv5 ?_ | refine vv6 ?_ | refine vv7 ?_ | refine vv8 ?_ | refine vv9 ?_ | refine vv10 ?_ | refine vv11 (fun hbr => ?_) (fun hbr => ?_) | refine vv12 (fun hbr => ?_) (fun hbr => ?_) | refine vv13 ?_ | refine vv14 ?_ | refine vv15 ?_ | refine vv16 ?_ | refine vv17 (fun hbr => ?_) (fun hbr => ?_) | refine vv18 ?_ | refine vv19 (fun hbr => ?_) (fun hbr => ?_) | refine vv20 ?_ | refine SlIdxN.map _ rfl (by first | assumption | omega) ?_ | refine SlIdxN.mapPred (by omega) (by omega) ?_ | refine SlIdxN.mapSucc (by omega) ?_ | refine SlIdxN.lit _ _ rfl rfl ?_ | refine SlIdxN.mapInt (by omega) (by omega) ?_ | refine IdxN.at0 _ rfl (by first | assumption | omega | (simp <;> omega)) ?_ | refine vv21 ?_ | refine RowN.map (by first | assumption | omega) ?_ | refine vv22 ?_ | refine RowSN.map (by first | assumption | omega) ?_ | refine vv23 ?_ | refine vv24 ?_ | refine vv25 ?_ | refine Need.mk (by first | assumption | omega | (simp <;> omega)) ?_ | refine DrawN.gen (by first | exact tryd_ok _ | exact tryd_okm _ _) (by kernel_rfl) ?_ | refine vv26 ?_ | refine vv27 ?_ | refine vv28 ?_ | refine vv29 ?_ | refine vv30 ?_ | refine vv31 ?_ | refine vv32 ?_ | refine vv33 ?_) <;> (conv => whnf)))
            exact .inr ⟨rfl, fun h => hw (h.1.2 3 (by omega)), _, rfl⟩
        | 4, hk, hok =>
          by_cases hw : okW e = true
          · have ha := atoi_good (mx := mx) h0 h1 (show e.size ≤ 100000 by omega) hw
            ((conv => whnf); repeat' ((first | refine CallN.pure ha ?_ | refine StepN.keep (vb false) (by kernel_rfl) ?_ | refine RowN.row2 (by first | omega | (show _ = _ + 1; omega)) ?_ | refine RowN.row1 (by first | omega | (show _ = _ + 1; omega)) ?_ | refine RowN.rowB (by first | omega | (show _ = _ + 1; omega)) ?_ | refine RowSN.row2 (by first | omega | (show _ = _ + 1; omega)) ?_ | refine RowSN.row1 (by first | omega | (show _ = _ + 1; omega)) ?_ | refine RowSN.rowB (by first | omega | (show _ = _ + 1; omega)) ?_ | refine IxN.mk _ rfl ?_ | refine shr_ok rfl rfl ?_ | refine WrapN.inU ⟨by omega, by omega⟩ ?_ | refine vv1 ?_ | refine vv2 ?_ | refine vv3 ?_ | refine vv4 ?_ | refine vv5 ?_ | refine vv6 ?_ | refine vv7 ?_ | refine vv8 ?_ | refine vv9 ?_ | refine vv10 ?_ | refine vv11 (fun hbr => ?_) (fun hbr => ?_) | refine vv12 (fun hbr => ?_) (fun hbr => ?_) | refine vv13 ?_ | refine vv14 ?_ | refine vv15 ?_ | refine vv16 ?_ | refine vv17 (fun hbr => ?_) (fun hbr => ?_) | refine vv18 ?_ | refine vv19 (fun hbr => ?_) (fun hbr => ?_) | refine vv20 ?_ | refine SlIdxN.map _ rfl (by first | assumption | omega) ?_ | refine SlIdxN.mapPred (by omega) (by omega) ?_ | refine SlIdxN.mapSucc (by omega) ?_ | refine SlIdxN.lit _ _ rfl rfl ?_ | refine SlIdxN.mapInt (by omega) (by omega) ?_ | refine IdxN.at0 _ rfl (by first | assumption | omega | (simp <;> omega)) ?_ | refine vv21 ?_ | refine RowN.map (by first | assumption | omega) ?_ | refine vv22 ?_ | refine RowSN.map (by first | assumption | omega) ?_ | refine vv23 ?_ | refine vv24 ?_ | refine vv25 ?_ | refine Need.mk (by first | assumption | omega | (simp <;> omega)) ?_ | refine DrawN.gen (by first | exact tryd_ok _ | exact tryd_okm _ _) (by kernel_rfl) ?_ | refine vv26 ?_ | refine vv27 ?_ | refine vv28 ?_ | refine vv29 ?_ | refine vv30 ?_ | refine vv31 ?_ | refine vv32 ?_ | refine vv33 ?_) <;> (conv => whnf)))
            refine BackN.mk 5 ⟨by omega, fun j hj => ?_⟩ (by omega) (Reabs.frmM [0, 1, 2, 3, 4, 5, 6, 7] (by repeat (first | exact trivial | refine ⟨.inr ⟨rfl, rfl⟩, ?_⟩ | refine ⟨.inr ⟨rfl, vi_eq (by first | omega | (simp; done) | (simp; omega))⟩, ?_⟩ | refine ⟨.inr ⟨rfl, smE rfl (by first | omega | (simp; done) | (simp; omega))⟩, ?_⟩)) (by repeat (first | exact trivial | refine ⟨⟨_, rfl, (by first | exact blkDead | exact blkDeep rfl (deepLit rfl) | exact blkDeep rfl (deepMap (fun _ => rfl)) | exact blkOk rfl rfl | exact blkLoop rfl rfl), (by first | exact fun _ => rfl | exact fun h => (by cases h))⟩, ?_⟩)) rfl rfl)
            rcases Nat.lt_succ_iff_lt_or_eq.1 hj with h | rfl
            · exact hok j h
            · exact hw
          · obtain ⟨n, τ, hb⟩ := atoi_bad (mx := mx) h0 h1 (show e.size ≤ 100000 by omega) (Bool.eq_false_iff.2 hw)
            ((conv => whnf); repeat' ((first | refine CallN.pure hb ?_ | refine StepN.keep (vb true) (by kernel_rfl) ?_ | refine RowN.row2 (by first | omega | (show _ = _ + 1; omega)) ?_ | refine RowN.row1 (by first | omega | (show _ = _ + 1; omega)) ?_ | refine RowN.rowB (by first | omega | (show _ = _ + 1; omega)) ?_ | refine RowSN.row2 (by first | omega | (show _ = _ + 1; omega)) ?_ | refine RowSN.row1 (by first | omega | (show _ = _ + 1; omega)) ?_ | refine RowSN.rowB (by first | omega | (show _ = _ + 1; omega)) ?_ | refine IxN.mk _ rfl ?_ | refine shr_ok rfl rfl ?_ | refine WrapN.inU ⟨by omega, by omega⟩ ?_ | refine vv1 ?_ | refine vv2 ?_ | refine vv3 ?_ | refine vv4 ?_ | refine vv5 ?_ | refine vv6 ?_ | refine vv7 ?_ | refine vv8 ?_ | refine vv9 ?_ | refine vv10 ?_ | refine vv11 (fun hbr => ?_) (fun hbr => ?_) | refine vv12 (fun hbr => ?_) (fun hbr => ?_) | refine vv13 ?_ | refine vv14 ?_ | refine vv15 ?_ | refine vv16 ?_ | refine vv17 (fun hbr => ?_) (fun hbr => ?_) | refine vv18 ?_ | refine vv19 (fun hbr => ?_) (fun hbr => ?_) | refine vv20 ?_ | refine SlIdxN.map _ rfl (by first | assumption | omega) ?_ | refine SlIdxN.mapPred (by omega) (by omega) ?_ | refine SlIdxN.mapSucc (by omega) ?_ | refine SlIdxN.lit _ _ rfl rfl ?_ | refine SlIdxN.mapInt (by omega) (by omega) ?_ | refine IdxN.at0 _ rfl (by first | assumption | omega | (simp <;> omega)) ?_ | refine vv21 ?_ | refine RowN.map (by first | assumption | omega) ?_ | refine vv22 ?_ | refine RowSN.map (by first | assumption | omega) ?_ | refine vv23 ?_ | refine vv24 ?_ | refine vv25 ?_ | refine Need.mk (by first | assumption | omega | (simp <;> omega)) ?_ | refine DrawN.gen (by first | exact tryd_ok _ | exact tryd_okm _ _) (by kernel_rfl) ?_ | refine vv26 ?_ | refine vv27 ?_ | refine vv28 ?_ | refine vv29 ?_ | refine vv30 ?_ | refine vv31 ?_ | refine vv32 ?_ | refine vv33 ?_) <;> (conv => whnf)))
            exact .inr ⟨rfl, fun h => hw (h.1.2 4 (by omega)), _, rfl⟩
        | 5, hk, hok =>
          ((conv => whnf); repeat' ((first | refine vv1 ?_ | refine vv2 ?_ | refine vv3 ?_ | refine vv4 ?_ | refine vv5 ?_ | refine vv6 ?_ | refine vv7 ?_ | refine vv8 ?_ | refine vv9 ?_ | refine vv10 ?_ | refine vv11 (fun hbr => ?_) (fun hbr => ?_) | refine vv12 (fun hbr => ?_) (fun hbr => ?_) | refine vv13 ?_ | refine vv14 ?_ | refine vv15 ?_ | refine vv16 ?_ | refine vv17 (fun hbr => ?_) (fun hbr => ?_) | refine vv18 ?_ | refine vv19 (fun hbr => ?_) (fun hbr => ?_) | refine vv20 ?_ | refine SlIdxN.map _ rfl (by first | assumption | omega) ?_ | refine SlIdxN.mapPred (by omega) (by omega) ?_ | refine SlIdxN.mapSucc (by omega) ?_ | refine SlIdxN.lit _ _ rfl rfl ?_ | refine SlIdxN.mapInt (by omega) (by omega) ?_ | refine IdxN.at0 _ rfl (by first | assumption | omega | (simp <;> omega)) ?_ | refine vv21 ?_ | refine RowN.map (by first | assumption | omega) ?_ | refine vv22 ?_ | refine RowSN.map (by first | assumption | omega) ?_ | refine vv23 ?_ | refine vv24 ?_ | refine vv25 ?_ | refine Need.mk (by first | assumption | omega | (simp <;> omega)) ?_ | refine DrawN.gen (by first | exact tryd_ok _ | exact tryd_okm _ _) (by kernel_rfl) ?_ | refine vv26 ?_ | refine vv27 ?_ | refine vv28 ?_ | refine vv29 ?_ | refine vv30 ?_ | refine vv31 ?_ | refine vv32 ?_ | refine vv33 ?_) <;> (conv => whnf)))
          exact .inl ⟨rfl, ⟨⟨rfl, hok⟩, by omega⟩, congrArg (fun q => [ABlk.rows [[.sc (.slice none 0 0)]] 49, .rows [[vi 0]] 29, .rows [[.sm 8 5 0 (o.length + 1)]] 49, .rows [[vs r]] 9, .dead, lp48 t, .dead, .rows [arrW [a, b, c, d, e] 5] 143, .rows q 61]) (by rw [List.map_append]; rfl)⟩
        | k + 6, hk, hok => exact absurd hk (by omega)
  · have hn : ¬ (goodW W ∧ o.length < 4000) := fun h => hW h.1.1
    ((conv => whnf); repeat' ((first | refine CallN.pure htr ?_ | refine CallN.pure hsp ?_ | refine RowN.row2 (by first | omega | (show _ = _ + 1; omega)) ?_ | refine RowN.row1 (by first | omega | (show _ = _ + 1; omega)) ?_ | refine RowN.rowB (by first | omega | (show _ = _ + 1; omega)) ?_ | refine RowSN.row2 (by first | omega | (show _ = _ + 1; omega)) ?_ | refine RowSN.row1 (by first | omega | (show _ = _ + 1; omega)) ?_ | refine RowSN.rowB (by first | omega | (show _ = _ + 1; omega)) ?_ | refine IxN.mk _ rfl ?_ | refine shr_ok rfl rfl ?_ | refine WrapN.inU ⟨by omega, by omega⟩ ?_ | refine vv1 ?_ | refine vv2 ?_ | refine vv3 ?_ | refine vv4 ?_ | refine vv5 ?_ | refine vv6 ?_ | refine vv7 ?_ | refine vv8 ?_ | refine vv9 ?_ | refine vv10 ?_ | refine vv11 (fun hbr => ?_) (fun hbr => ?_) | refine vv12 (fun hbr => ?_) (fun hbr => ?_) | refine vv13 ?_ | refine vv14 ?_ | refine vv15 ?_ | refine vv16 ?_ | refine vv17 (fun hbr => ?_) (fun hbr => ?_) | refine vv18 ?_ | refine vv19 (fun hbr => ?_) (fun hbr => ?_) | refine vv20 ?_ | refine SlIdxN.map _ rfl (by first | assumption | omega) ?_ | refine SlIdxN.mapPred (by omega) (by omega) ?_ | refine SlIdxN.mapSucc (by omega) ?_ | refine SlIdxN.lit _ _ rfl rfl ?_ | refine SlIdxN.mapInt (by omega) (by omega) ?_ | refine IdxN.at0 _ rfl (by first | assumption | omega | (simp <;> omega)) ?_ | refine vv21 ?_ | refine RowN.map (by first | assumption | omega) ?_ | refine vv22 ?_ | refine RowSN.map (by first | assumption | omega) ?_ | refine vv23 ?_ | refine vv24 ?_ | refine vv25 ?_ | refine Need.mk (by first | assumption | omega | (simp <;> omega)) ?_ | refine DrawN.gen (by first | exact tryd_ok _ | exact tryd_okm _ _) (by kernel_rfl) ?_ | refine vv26 ?_ | refine vv27 ?_ | refine vv28 ?_ | refine vv29 ?_ | refine vv30 ?_ | refine vv31 ?_ | refine vv32 ?_ | refine vv33 ?_) <;> (conv => whnf)))
    exact .inr ⟨rfl, hn, [], rfl⟩
theorem lines1_ok (mx : Int) (e0 e1 : AV) (h0 : okE e0) (h1 : okE e1) (t s : ByteArray) (hs : s.size ≤ 100000) :
    Ef Tryz.prog (G2 mx e0 e1) 117 [.yl 5, .pm 3 0 0] (hP0 t s []) fun y H' => y = .tuple [] ∧ match runG (s.size + 1) s [] with
      | some l => ∃ r, H' = hP1 t r l
      | none => ∃ r o, H' = hPx t r o := by
  refine Ef.reabs (Ef.of_code (T := Tryz.tab) (n := 25) (tryz_ok2 mx e0 e1 6 _) rfl Tryz.func117 rfl rfl (by simp) ?_)
  refine CodeN.re (l' := fr117) (H' := hP1 t s []) (Reabs.frmM [0, 1, 2, 3, 4, 5, 4] (by repeat (first | exact trivial | refine ⟨.inr ⟨rfl, rfl⟩, ?_⟩)) (by repeat (first | exact trivial | refine ⟨⟨_, rfl, (by first | exact blkDead | exact blkDeep rfl (deepLit rfl) | exact blkDeep rfl (deepMap (fun _ => rfl)) | exact blkOk rfl rfl | exact blkLoop rfl rfl), (by first | exact fun _ => rfl | exact fun h => (by cases h))⟩, ?_⟩)) rfl rfl) ?_
  generalize hR : runG (s.size + 1) s [] = R
  refine CodeN.of_ev (tryz_ok2 mx e0 e1 6 _) ?_
  ((conv => whnf); repeat' ((first | refine vv1 ?_ | refine vv2 ?_ | refine vv3 ?_ | refine vv4 ?_ | refine vv5 ?_ | refine vv6 ?_ | refine vv7 ?_ | refine vv8 ?_ | refine vv9 ?_ | refine vv10 ?_ | refine vv11 (fun hbr => ?_) (fun hbr => ?_) | refine vv12 (fun hbr => ?_) (fun hbr => ?_) | refine vv13 ?_ | refine vv14 ?_ | refine vv15 ?_ | refine vv16 ?_ | refine vv17 (fun hbr => ?_) (fun hbr => ?_) | refine vv18 ?_ | refine vv19 (fun hbr => ?_) (fun hbr => ?_) | refine vv20 ?_ | refine SlIdxN.map _ rfl (by first | assumption | omega) ?_ | refine SlIdxN.mapPred (by omega) (by omega) ?_ | refine SlIdxN.mapSucc (by omega) ?_ | refine SlIdxN.lit _ _ rfl rfl ?_ | refine SlIdxN.mapInt (by omega) (by omega) ?_ | refine IdxN.at0 _ rfl (by first | assumption | omega | (simp <;> omega)) ?_ | refine vv21 ?_ | refine RowN.map (by first | assumption | omega) ?_ | refine vv22 ?_ | refine RowSN.map (by first | assumption | omega) ?_ | refine vv23 ?_ | refine vv24 ?_ | refine vv25 ?_ | refine Need.mk (by first | assumption | omega | (simp <;> omega)) ?_ | refine DrawN.gen (by first | exact tryd_ok _ | exact tryd_okm _ _) (by kernel_rfl) ?_ | refine vv26 ?_ | refine vv27 ?_ | refine vv28 ?_ | refine vv29 ?_ | refine vv30 ?_ | refine vv31 ?_ | refine vv32 ?_ | refine vv33 ?_) <;> (conv => whnf)))
  refine LoopN.of2 (tryz_ok2 mx e0 e1 6 _) (fun (_ : ByteArray) (_ : List Posting) => fr117) (fun s o => hP1 t s o) (fun s _ => s.size) (fun s o => s.size ≤ 100000 ∧ o.length ≤ 4000 ∧ ∃ f, s.size < f ∧ runG f s o = R) s [] ⟨hs, by simp, _, Nat.lt_succ_self _, hR⟩ (Reabs.frmM [0, 1, 2, 3, 4, 5, 6] (by repeat (first | exact trivial | refine ⟨.inr ⟨rfl, rfl⟩, ?_⟩ | refine ⟨.inr ⟨rfl, vi_eq (by first | omega | (simp; done) | (simp; omega))⟩, ?_⟩ | refine ⟨.inr ⟨rfl, smE rfl (by first | omega | (simp; done) | (simp; omega))⟩, ?_⟩)) (by repeat (first | exact trivial | refine ⟨⟨_, rfl, (by first | exact blkDead | exact blkDeep rfl (deepLit rfl) | exact blkDeep rfl (deepMap (fun _ => rfl)) | exact blkOk rfl rfl | exact blkLoop rfl rfl), (by first | exact fun _ => rfl | exact fun h => (by cases h))⟩, ?_⟩)) rfl rfl) ?_
  rintro s o ⟨hs, ho, f, hf, hr⟩
  obtain ⟨f, rfl⟩ : ∃ g, f = g + 1 := ⟨f - 1, by omega⟩
  have hix : Pu Tryz.prog (G2 mx e0 e1) 118 [vs s, .sc (.int .u8 10)] (vi (nlAt s)) := index_ok s 10
  have hn := nlAt_lt s
  unfold runG at hr
  have hls := lineOf_size s
  have hrs := restOf_size s
  by_cases hz : 0 < s.size
  · rw [if_pos hz] at hr
    have hrd := round48 mx e0 e1 h0 h1 t (lineOf s) (restOf s) o (by omega) ho
    by_cases hnl : 0 ≤ nlAt s
    · have q1 : lineOf s = s.extract 0 (nlAt s + 1).toNat := by unfold lineOf; rw [if_pos hnl]; congr 1; omega
      have q2 : restOf s = s.extract (nlAt s + 1).toNat s.size := by unfold restOf; rw [if_pos hnl]; congr 1; omega
      rw [q1, q2] at hrd
      ((conv => whnf); repeat' ((first | refine CallN.pure hix ?_ | refine DrawN.gen (tryz_ok2 mx e0 e1 6 _) (by kernel_rfl) ?_ | refine OpN.round (tryz_ok2 mx e0 e1 6 _) rfl hrd ?_ | refine RowN.row2 (by first | omega | (show _ = _ + 1; omega)) ?_ | refine RowN.row1 (by first | omega | (show _ = _ + 1; omega)) ?_ | refine RowN.rowB (by first | omega | (show _ = _ + 1; omega)) ?_ | refine RowSN.row2 (by first | omega | (show _ = _ + 1; omega)) ?_ | refine RowSN.row1 (by first | omega | (show _ = _ + 1; omega)) ?_ | refine RowSN.rowB (by first | omega | (show _ = _ + 1; omega)) ?_ | refine IxN.mk _ rfl ?_ | refine shr_ok rfl rfl ?_ | refine WrapN.inU ⟨by omega, by omega⟩ ?_ | refine vv1 ?_ | refine vv2 ?_ | refine vv3 ?_ | refine vv4 ?_ | refine vv5 ?_ | refine vv6 ?_ | refine vv7 ?_ | refine vv8 ?_ | refine vv9 ?_ | refine vv10 ?_ | refine vv11 (fun hbr => ?_) (fun hbr => ?_) | refine vv12 (fun hbr => ?_) (fun hbr => ?_) | refine vv13 ?_ | refine vv14 ?_ | refine vv15 ?_ | refine vv16 ?_ | refine vv17 (fun hbr => ?_) (fun hbr => ?_) | refine vv18 ?_ | refine vv19 (fun hbr => ?_) (fun hbr => ?_) | refine vv20 ?_ | refine SlIdxN.map _ rfl (by first | assumption | omega) ?_ | refine SlIdxN.mapPred (by omega) (by omega) ?_ | refine SlIdxN.mapSucc (by omega) ?_ | refine SlIdxN.lit _ _ rfl rfl ?_ | refine SlIdxN.mapInt (by omega) (by omega) ?_ | refine IdxN.at0 _ rfl (by first | assumption | omega | (simp <;> omega)) ?_ | refine vv21 ?_ | refine RowN.map (by first | assumption | omega) ?_ | refine vv22 ?_ | refine RowSN.map (by first | assumption | omega) ?_ | refine vv23 ?_ | refine vv24 ?_ | refine vv25 ?_ | refine Need.mk (by first | assumption | omega | (simp <;> omega)) ?_ | refine DrawN.gen (by first | exact tryd_ok _ | exact tryd_okm _ _) (by kernel_rfl) ?_ | refine vv26 ?_ | refine vv27 ?_ | refine vv28 ?_ | refine vv29 ?_ | refine vv30 ?_ | refine vv31 ?_ | refine vv32 ?_ | refine vv33 ?_) <;> (conv => whnf)))
      rintro y H' (⟨rfl, hg, rfl⟩ | ⟨rfl, hg, z, rfl⟩)
      · rw [if_pos (by unfold wordsOf; rw [q1]; exact hg), q2, show wordsOf s = wordsW (s.extract 0 (nlAt s + 1).toNat) by unfold wordsOf; rw [q1]] at hr
        rw [q2] at hrs
        ((conv => whnf); repeat' ((first | refine vv1 ?_ | refine vv2 ?_ | refine vv3 ?_ | refine vv4 ?_ | refine vv5 ?_ | refine vv6 ?_ | refine vv7 ?_ | refine vv8 ?_ | refine vv9 ?_ | refine vv10 ?_ | refine vv11 (fun hbr => ?_) (fun hbr => ?_) | refine vv12 (fun hbr => ?_) (fun hbr => ?_) | refine vv13 ?_ | refine vv14 ?_ | refine vv15 ?_ | refine vv16 ?_ | refine vv17 (fun hbr => ?_) (fun hbr => ?_) | refine vv18 ?_ | refine vv19 (fun hbr => ?_) (fun hbr => ?_) | refine vv20 ?_ | refine SlIdxN.map _ rfl (by first | assumption | omega) ?_ | refine SlIdxN.mapPred (by omega) (by omega) ?_ | refine SlIdxN.mapSucc (by omega) ?_ | refine SlIdxN.lit _ _ rfl rfl ?_ | refine SlIdxN.mapInt (by omega) (by omega) ?_ | refine IdxN.at0 _ rfl (by first | assumption | omega | (simp <;> omega)) ?_ | refine vv21 ?_ | refine RowN.map (by first | assumption | omega) ?_ | refine vv22 ?_ | refine RowSN.map (by first | assumption | omega) ?_ | refine vv23 ?_ | refine vv24 ?_ | refine vv25 ?_ | refine Need.mk (by first | assumption | omega | (simp <;> omega)) ?_ | refine DrawN.gen (by first | exact tryd_ok _ | exact tryd_okm _ _) (by kernel_rfl) ?_ | refine vv26 ?_ | refine vv27 ?_ | refine vv28 ?_ | refine vv29 ?_ | refine vv30 ?_ | refine vv31 ?_ | refine vv32 ?_ | refine vv33 ?_) <;> (conv => whnf)))
        refine BackN2.mk (s.extract (nlAt s + 1).toNat s.size) (o ++ [postW (wordsW (s.extract 0 (nlAt s + 1).toNat))]) ⟨by have := hrs hz; omega, by rw [List.length_append, List.length_singleton]; omega, f, by have := hrs hz; omega, hr⟩ (hrs hz) ?_
        exact Reabs.frmM [0, 1, 2, 3, 4, 5, 8] (by repeat (first | exact trivial | refine ⟨.inr ⟨rfl, rfl⟩, ?_⟩ | refine ⟨.inr ⟨rfl, vi_eq (by first | omega | (simp; done) | (simp; omega))⟩, ?_⟩ | refine ⟨.inr ⟨rfl, smE rfl (by first | omega | (simp; done) | (simp; omega))⟩, ?_⟩)) (by exact ⟨⟨_, rfl, blkDeep rfl (deepLit rfl), fun _ => rfl⟩, ⟨_, rfl, blkDeep rfl (deepLit rfl), fun _ => rfl⟩, ⟨_, rfl, blkOk rfl (by rw [List.length_append]; rfl), fun _ => rfl⟩, ⟨_, rfl, blkDeep rfl (deepLit rfl), fun _ => rfl⟩, ⟨_, rfl, blkDead, fun h => (by cases h)⟩, ⟨_, rfl, blkLoop rfl rfl, fun _ => rfl⟩, ⟨_, rfl, blkDeep rfl (deepMap (fun _ => rfl)), fun _ => rfl⟩, trivial⟩) rfl rfl
      · rw [if_neg (by unfold wordsOf; rw [q1]; exact hg)] at hr
        subst hr
        ((conv => whnf); repeat' ((first | refine vv1 ?_ | refine vv2 ?_ | refine vv3 ?_ | refine vv4 ?_ | refine vv5 ?_ | refine vv6 ?_ | refine vv7 ?_ | refine vv8 ?_ | refine vv9 ?_ | refine vv10 ?_ | refine vv11 (fun hbr => ?_) (fun hbr => ?_) | refine vv12 (fun hbr => ?_) (fun hbr => ?_) | refine vv13 ?_ | refine vv14 ?_ | refine vv15 ?_ | refine vv16 ?_ | refine vv17 (fun hbr => ?_) (fun hbr => ?_) | refine vv18 ?_ | refine vv19 (fun hbr => ?_) (fun hbr => ?_) | refine vv20 ?_ | refine SlIdxN.map _ rfl (by first | assumption | omega) ?_ | refine SlIdxN.mapPred (by omega) (by omega) ?_ | refine SlIdxN.mapSucc (by omega) ?_ | refine SlIdxN.lit _ _ rfl rfl ?_ | refine SlIdxN.mapInt (by omega) (by omega) ?_ | refine IdxN.at0 _ rfl (by first | assumption | omega | (simp <;> omega)) ?_ | refine vv21 ?_ | refine RowN.map (by first | assumption | omega) ?_ | refine vv22 ?_ | refine RowSN.map (by first | assumption | omega) ?_ | refine vv23 ?_ | refine vv24 ?_ | refine vv25 ?_ | refine Need.mk (by first | assumption | omega | (simp <;> omega)) ?_ | refine DrawN.gen (by first | exact tryd_ok _ | exact tryd_okm _ _) (by kernel_rfl) ?_ | refine vv26 ?_ | refine vv27 ?_ | refine vv28 ?_ | refine vv29 ?_ | refine vv30 ?_ | refine vv31 ?_ | refine vv32 ?_ | refine vv33 ?_) <;> (conv => whnf)))
        refine ⟨⟨_, hPx t (s.extract (nlAt s + 1).toNat s.size) o, ?_, rfl, ⟨_, _, rfl⟩⟩⟩
        exact (Reabs.frmM [0, 1, 2, 3, 4, 5, 6] (by repeat (first | exact trivial | refine ⟨.inr ⟨rfl, rfl⟩, ?_⟩ | refine ⟨.inr ⟨rfl, vi_eq (by first | omega | (simp; done) | (simp; omega))⟩, ?_⟩ | refine ⟨.inr ⟨rfl, smE rfl (by first | omega | (simp; done) | (simp; omega))⟩, ?_⟩)) (by repeat (first | exact trivial | refine ⟨⟨_, rfl, (by first | exact blkDead | exact blkDeep rfl (deepLit rfl) | exact blkDeep rfl (deepMap (fun _ => rfl)) | exact blkOk rfl rfl | exact blkLoop rfl rfl), (by first | exact fun _ => rfl | exact fun h => (by cases h))⟩, ?_⟩)) rfl rfl)
    · have q1 : lineOf s = s := by unfold lineOf; rw [if_neg hnl]
      have q2 : restOf s = ⟨#[]⟩ := by unfold restOf; rw [if_neg hnl]
      rw [q1, q2] at hrd
      ((conv => whnf); repeat' ((first | refine CallN.pure hix ?_ | refine OpN.round (tryz_ok2 mx e0 e1 6 _) rfl hrd ?_ | refine RowN.row2 (by first | omega | (show _ = _ + 1; omega)) ?_ | refine RowN.row1 (by first | omega | (show _ = _ + 1; omega)) ?_ | refine RowN.rowB (by first | omega | (show _ = _ + 1; omega)) ?_ | refine RowSN.row2 (by first | omega | (show _ = _ + 1; omega)) ?_ | refine RowSN.row1 (by first | omega | (show _ = _ + 1; omega)) ?_ | refine RowSN.rowB (by first | omega | (show _ = _ + 1; omega)) ?_ | refine IxN.mk _ rfl ?_ | refine shr_ok rfl rfl ?_ | refine WrapN.inU ⟨by omega, by omega⟩ ?_ | refine vv1 ?_ | refine vv2 ?_ | refine vv3 ?_ | refine vv4 ?_ | refine vv5 ?_ | refine vv6 ?_ | refine vv7 ?_ | refine vv8 ?_ | refine vv9 ?_ | refine vv10 ?_ | refine vv11 (fun hbr => ?_) (fun hbr => ?_) | refine vv12 (fun hbr => ?_) (fun hbr => ?_) | refine vv13 ?_ | refine vv14 ?_ | refine vv15 ?_ | refine vv16 ?_ | refine vv17 (fun hbr => ?_) (fun hbr => ?_) | refine vv18 ?_ | refine vv19 (fun hbr => ?_) (fun hbr => ?_) | refine vv20 ?_ | refine SlIdxN.map _ rfl (by first | assumption | omega) ?_ | refine SlIdxN.mapPred (by omega) (by omega) ?_ | refine SlIdxN.mapSucc (by omega) ?_ | refine SlIdxN.lit _ _ rfl rfl ?_ | refine SlIdxN.mapInt (by omega) (by omega) ?_ | refine IdxN.at0 _ rfl (by first | assumption | omega | (simp <;> omega)) ?_ | refine vv21 ?_ | refine RowN.map (by first | assumption | omega) ?_ | refine vv22 ?_ | refine RowSN.map (by first | assumption | omega) ?_ | refine vv23 ?_ | refine vv24 ?_ | refine vv25 ?_ | refine Need.mk (by first | assumption | omega | (simp <;> omega)) ?_ | refine DrawN.gen (by first | exact tryd_ok _ | exact tryd_okm _ _) (by kernel_rfl) ?_ | refine vv26 ?_ | refine vv27 ?_ | refine vv28 ?_ | refine vv29 ?_ | refine vv30 ?_ | refine vv31 ?_ | refine vv32 ?_ | refine vv33 ?_) <;> (conv => whnf)))
      rintro y H' (⟨rfl, hg, rfl⟩ | ⟨rfl, hg, z, rfl⟩)
      · rw [if_pos (by unfold wordsOf; rw [q1]; exact hg), q2, show wordsOf s = wordsW s by unfold wordsOf; rw [q1]] at hr
        rw [q2] at hrs
        ((conv => whnf); repeat' ((first | refine vv1 ?_ | refine vv2 ?_ | refine vv3 ?_ | refine vv4 ?_ | refine vv5 ?_ | refine vv6 ?_ | refine vv7 ?_ | refine vv8 ?_ | refine vv9 ?_ | refine vv10 ?_ | refine vv11 (fun hbr => ?_) (fun hbr => ?_) | refine vv12 (fun hbr => ?_) (fun hbr => ?_) | refine vv13 ?_ | refine vv14 ?_ | refine vv15 ?_ | refine vv16 ?_ | refine vv17 (fun hbr => ?_) (fun hbr => ?_) | refine vv18 ?_ | refine vv19 (fun hbr => ?_) (fun hbr => ?_) | refine vv20 ?_ | refine SlIdxN.map _ rfl (by first | assumption | omega) ?_ | refine SlIdxN.mapPred (by omega) (by omega) ?_ | refine SlIdxN.mapSucc (by omega) ?_ | refine SlIdxN.lit _ _ rfl rfl ?_ | refine SlIdxN.mapInt (by omega) (by omega) ?_ | refine IdxN.at0 _ rfl (by first | assumption | omega | (simp <;> omega)) ?_ | refine vv21 ?_ | refine RowN.map (by first | assumption | omega) ?_ | refine vv22 ?_ | refine RowSN.map (by first | assumption | omega) ?_ | refine vv23 ?_ | refine vv24 ?_ | refine vv25 ?_ | refine Need.mk (by first | assumption | omega | (simp <;> omega)) ?_ | refine DrawN.gen (by first | exact tryd_ok _ | exact tryd_okm _ _) (by kernel_rfl) ?_ | refine vv26 ?_ | refine vv27 ?_ | refine vv28 ?_ | refine vv29 ?_ | refine vv30 ?_ | refine vv31 ?_ | refine vv32 ?_ | refine vv33 ?_) <;> (conv => whnf)))
        refine BackN2.mk ⟨#[]⟩ (o ++ [postW (wordsW s)]) ⟨by have := hrs hz; omega, by rw [List.length_append, List.length_singleton]; omega, f, by have := hrs hz; omega, hr⟩ (hrs hz) ?_
        exact Reabs.frmM [0, 1, 2, 3, 4, 5, 8] (by repeat (first | exact trivial | refine ⟨.inr ⟨rfl, rfl⟩, ?_⟩ | refine ⟨.inr ⟨rfl, vi_eq (by first | omega | (simp; done) | (simp; omega))⟩, ?_⟩ | refine ⟨.inr ⟨rfl, smE rfl (by first | omega | (simp; done) | (simp; omega))⟩, ?_⟩)) (by exact ⟨⟨_, rfl, blkDeep rfl (deepLit rfl), fun _ => rfl⟩, ⟨_, rfl, blkDeep rfl (deepLit rfl), fun _ => rfl⟩, ⟨_, rfl, blkOk rfl (by rw [List.length_append]; rfl), fun _ => rfl⟩, ⟨_, rfl, blkDeep rfl (deepLit rfl), fun _ => rfl⟩, ⟨_, rfl, blkDead, fun h => (by cases h)⟩, ⟨_, rfl, blkLoop rfl rfl, fun _ => rfl⟩, ⟨_, rfl, blkDeep rfl (deepMap (fun _ => rfl)), fun _ => rfl⟩, trivial⟩) rfl rfl
      · rw [if_neg (by unfold wordsOf; rw [q1]; exact hg)] at hr
        subst hr
        ((conv => whnf); repeat' ((first | refine vv1 ?_ | refine vv2 ?_ | refine vv3 ?_ | refine vv4 ?_ | refine vv5 ?_ | refine vv6 ?_ | refine vv7 ?_ | refine vv8 ?_ | refine vv9 ?_ | refine vv10 ?_ | refine vv11 (fun hbr => ?_) (fun hbr => ?_) | refine vv12 (fun hbr => ?_) (fun hbr => ?_) | refine vv13 ?_ | refine vv14 ?_ | refine vv15 ?_ | refine vv16 ?_ | refine vv17 (fun hbr => ?_) (fun hbr => ?_) | refine vv18 ?_ | refine vv19 (fun hbr => ?_) (fun hbr => ?_) | refine vv20 ?_ | refine SlIdxN.map _ rfl (by first | assumption | omega) ?_ | refine SlIdxN.mapPred (by omega) (by omega) ?_ | refine SlIdxN.mapSucc (by omega) ?_ | refine SlIdxN.lit _ _ rfl rfl ?_ | refine SlIdxN.mapInt (by omega) (by omega) ?_ | refine IdxN.at0 _ rfl (by first | assumption | omega | (simp <;> omega)) ?_ | refine vv21 ?_ | refine RowN.map (by first | assumption | omega) ?_ | refine vv22 ?_ | refine RowSN.map (by first | assumption | omega) ?_ | refine vv23 ?_ | refine vv24 ?_ | refine vv25 ?_ | refine Need.mk (by first | assumption | omega | (simp <;> omega)) ?_ | refine DrawN.gen (by first | exact tryd_ok _ | exact tryd_okm _ _) (by kernel_rfl) ?_ | refine vv26 ?_ | refine vv27 ?_ | refine vv28 ?_ | refine vv29 ?_ | refine vv30 ?_ | refine vv31 ?_ | refine vv32 ?_ | refine vv33 ?_) <;> (conv => whnf)))
        refine ⟨⟨_, hPx t ⟨#[]⟩ o, ?_, rfl, ⟨_, _, rfl⟩⟩⟩
        exact (Reabs.frmM [0, 1, 2, 3, 4, 5, 6] (by repeat (first | exact trivial | refine ⟨.inr ⟨rfl, rfl⟩, ?_⟩ | refine ⟨.inr ⟨rfl, vi_eq (by first | omega | (simp; done) | (simp; omega))⟩, ?_⟩ | refine ⟨.inr ⟨rfl, smE rfl (by first | omega | (simp; done) | (simp; omega))⟩, ?_⟩)) (by repeat (first | exact trivial | refine ⟨⟨_, rfl, (by first | exact blkDead | exact blkDeep rfl (deepLit rfl) | exact blkDeep rfl (deepMap (fun _ => rfl)) | exact blkOk rfl rfl | exact blkLoop rfl rfl), (by first | exact fun _ => rfl | exact fun h => (by cases h))⟩, ?_⟩)) rfl rfl)
  · rw [if_neg hz] at hr
    ((conv => whnf); repeat' ((first | refine vv1 ?_ | refine vv2 ?_ | refine vv3 ?_ | refine vv4 ?_ | refine vv5 ?_ | refine vv6 ?_ | refine vv7 ?_ | refine vv8 ?_ | refine vv9 ?_ | refine vv10 ?_ | refine vv11 (fun hbr => ?_) (fun hbr => ?_) | refine vv12 (fun hbr => ?_) (fun hbr => ?_) | refine vv13 ?_ | refine vv14 ?_ | refine vv15 ?_ | refine vv16 ?_ | refine vv17 (fun hbr => ?_) (fun hbr => ?_) | refine vv18 ?_ | refine vv19 (fun hbr => ?_) (fun hbr => ?_) | refine vv20 ?_ | refine SlIdxN.map _ rfl (by first | assumption | omega) ?_ | refine SlIdxN.mapPred (by omega) (by omega) ?_ | refine SlIdxN.mapSucc (by omega) ?_ | refine SlIdxN.lit _ _ rfl rfl ?_ | refine SlIdxN.mapInt (by omega) (by omega) ?_ | refine IdxN.at0 _ rfl (by first | assumption | omega | (simp <;> omega)) ?_ | refine vv21 ?_ | refine RowN.map (by first | assumption | omega) ?_ | refine vv22 ?_ | refine RowSN.map (by first | assumption | omega) ?_ | refine vv23 ?_ | refine vv24 ?_ | refine vv25 ?_ | refine Need.mk (by first | assumption | omega | (simp <;> omega)) ?_ | refine DrawN.gen (by first | exact tryd_ok _ | exact tryd_okm _ _) (by kernel_rfl) ?_ | refine vv26 ?_ | refine vv27 ?_ | refine vv28 ?_ | refine vv29 ?_ | refine vv30 ?_ | refine vv31 ?_ | refine vv32 ?_ | refine vv33 ?_) <;> (conv => whnf)))
    subst hr
    refine ⟨⟨_, hP1 t s o, ?_, rfl, ⟨s, rfl⟩⟩⟩
    exact (Reabs.frmM [0, 1, 2, 3, 4, 5, 6] (by repeat (first | exact trivial | refine ⟨.inr ⟨rfl, rfl⟩, ?_⟩ | refine ⟨.inr ⟨rfl, vi_eq (by first | omega | (simp; done) | (simp; omega))⟩, ?_⟩ | refine ⟨.inr ⟨rfl, smE rfl (by first | omega | (simp; done) | (simp; omega))⟩, ?_⟩)) (by repeat (first | exact trivial | refine ⟨⟨_, rfl, (by first | exact blkDead | exact blkDeep rfl (deepLit rfl) | exact blkDeep rfl (deepMap (fun _ => rfl)) | exact blkOk rfl rfl | exact blkLoop rfl rfl), (by first | exact fun _ => rfl | exact fun h => (by cases h))⟩, ?_⟩)) rfl rfl)
end Go.Proofs.Ax
namespace Go.Proofs.Ax
open Go Go.Proofs
set_option maxRecDepth 10000
set_option maxHeartbeats 4000000
/-! The program's Parse: what the reference's Parse returns. -/
def parseAV (o : Option (List Posting)) : AV := match o with
  | none => .tuple [.sc (.slice none 0 0), vi 7]
  | some l => .tuple [postings false l, vi 0]
theorem runP_none {s : ByteArray} (h : ∀ l, ¬ isText s l) : runP s (s.size + 1) 0 [] = none := by
  cases hq : runP s (s.size + 1) 0 [] with
  | none => rfl
  | some l => exact absurd ((runP_iff s l).1 hq) (h l)
theorem parse_ok (mx : Int) (e0 e1 : AV) (h0 : okE e0) (h1 : okE e1) (s : ByteArray) (hs : s.size ≤ 100000) : Pu Tryz.prog (G2 mx e0 e1) 48 [vs s] (parseAV (runP s (s.size + 1) 0 [])) := by
  have hl := lines_in s [.rows [[.sc (.slice none 0 0)]] 49, .rows [[vi 0]] 29, .rows [[.sc (.slice none 0 0)]] 49] 3 rfl
  have hl := hl.glob (g12 mx e0 e1)
  have hr := lines1_ok mx e0 e1 h0 h1 s s hs
  generalize hR : runP s (s.size + 1) 0 [] = R
  refine Pu.of_ef (Ef.fin (z := parseAV R) (Hz := []) (Ef.of_code (T := Tryz.tab) (n := 73) (tryz_ok2 mx e0 e1 0 _) rfl Tryz.func48 rfl rfl (by simp) ?_)) (fun y H h => h.1) rfl (by unfold parseAV; split <;> rfl)
  refine CodeN.of_ev (tryz_ok2 mx e0 e1 0 _) ?_
  ((conv => whnf); repeat' ((first | refine CallN.efD hl ?_ | refine RowN.row2 (by first | omega | (show _ = _ + 1; omega)) ?_ | refine RowN.row1 (by first | omega | (show _ = _ + 1; omega)) ?_ | refine RowN.rowB (by first | omega | (show _ = _ + 1; omega)) ?_ | refine RowSN.row2 (by first | omega | (show _ = _ + 1; omega)) ?_ | refine RowSN.row1 (by first | omega | (show _ = _ + 1; omega)) ?_ | refine RowSN.rowB (by first | omega | (show _ = _ + 1; omega)) ?_ | refine IxN.mk _ rfl ?_ | refine shr_ok rfl rfl ?_ | refine WrapN.inU ⟨by omega, by omega⟩ ?_ | refine vv1 ?_ | refine vv2 ?_ | refine vv3 ?_ | refine vv4 ?_ | refine vv5 ?_ | refine vv6 ?_ | refine vv7 ?_ | refine vv8 ?_ | refine vv9 ?_ | refine vv10 ?_ | refine vv11 (fun hbr => ?_) (fun hbr => ?_) | refine vv12 (fun hbr => ?_) (fun hbr => ?_) | refine vv13 ?_ | refine vv14 ?_ | refine vv15 ?_ | refine vv16 ?_ | refine vv17 (fun hbr => ?_) (fun hbr => ?_) | refine vv18 ?_ | refine vv19 (fun hbr => ?_) (fun hbr => ?_) | refine vv20 ?_ | refine SlIdxN.map _ rfl (by first | assumption | omega) ?_ | refine SlIdxN.mapPred (by omega) (by omega) ?_ | refine SlIdxN.mapSucc (by omega) ?_ | refine SlIdxN.lit _ _ rfl rfl ?_ | refine SlIdxN.mapInt (by omega) (by omega) ?_ | refine IdxN.at0 _ rfl (by first | assumption | omega | (simp <;> omega)) ?_ | refine vv21 ?_ | refine RowN.map (by first | assumption | omega) ?_ | refine vv22 ?_ | refine RowSN.map (by first | assumption | omega) ?_ | refine vv23 ?_ | refine vv24 ?_ | refine vv25 ?_ | refine Need.mk (by first | assumption | omega | (simp <;> omega)) ?_ | refine DrawN.gen (by first | exact tryd_ok _ | exact tryd_okm _ _) (by kernel_rfl) ?_ | refine vv26 ?_ | refine vv27 ?_ | refine vv28 ?_ | refine vv29 ?_ | refine vv30 ?_ | refine vv31 ?_ | refine vv32 ?_ | refine vv33 ?_) <;> (conv => whnf)))
  refine RangeN.re (Reabs.virtC 2 5 49 61 rfl) ?_
  refine RangeN.re (l' := fl48 s) (H' := [.rows [[.sc (.slice none 0 0)]] 49, .rows [[vi 0]] 29, .rows [[.sm 4 5 0 0]] 49, .rows [[vs s]] 9, .rows [] 61]) (Reabs.frmM [0, 1, 2, 3, 4] (by repeat (first | exact trivial | refine ⟨.inr ⟨rfl, rfl⟩, ?_⟩)) (by repeat (first | exact trivial | refine ⟨⟨_, rfl, (by first | exact blkDead | exact blkDeep rfl (deepLit rfl) | exact blkDeep rfl (deepMap (fun _ => rfl)) | exact blkOk rfl rfl | exact blkLoop rfl rfl), (by first | exact fun _ => rfl | exact fun h => (by cases h))⟩, ?_⟩)) rfl rfl) ?_
  refine RangeN.of (tryz_ok2 mx e0 e1 0 _) rfl rfl hr ?_
  rintro y H' ⟨rfl, h⟩
  cases hg : runG (s.size + 1) s [] with
  | none =>
    rw [hg] at h
    obtain ⟨r, o, rfl⟩ := h
    have : R = none := by
      rw [← hR]
      exact runP_none fun l hl => by rw [runG_text hl] at hg; cases hg
    subst this
    conv => whnf
    refine ⟨nofun, ?_⟩
    refine CodeN.of_ev (tryz_ok2 mx e0 e1 0 _) ?_
    ((conv => whnf); repeat' ((first | refine vv1 ?_ | refine vv2 ?_ | refine vv3 ?_ | refine vv4 ?_ | refine vv5 ?_ | refine vv6 ?_ | refine vv7 ?_ | refine vv8 ?_ | refine vv9 ?_ | refine vv10 ?_ | refine vv11 (fun hbr => ?_) (fun hbr => ?_) | refine vv12 (fun hbr => ?_) (fun hbr => ?_) | refine vv13 ?_ | refine vv14 ?_ | refine vv15 ?_ | refine vv16 ?_ | refine vv17 (fun hbr => ?_) (fun hbr => ?_) | refine vv18 ?_ | refine vv19 (fun hbr => ?_) (fun hbr => ?_) | refine vv20 ?_ | refine SlIdxN.map _ rfl (by first | assumption | omega) ?_ | refine SlIdxN.mapPred (by omega) (by omega) ?_ | refine SlIdxN.mapSucc (by omega) ?_ | refine SlIdxN.lit _ _ rfl rfl ?_ | refine SlIdxN.mapInt (by omega) (by omega) ?_ | refine IdxN.at0 _ rfl (by first | assumption | omega | (simp <;> omega)) ?_ | refine vv21 ?_ | refine RowN.map (by first | assumption | omega) ?_ | refine vv22 ?_ | refine RowSN.map (by first | assumption | omega) ?_ | refine vv23 ?_ | refine vv24 ?_ | refine vv25 ?_ | refine Need.mk (by first | assumption | omega | (simp <;> omega)) ?_ | refine DrawN.gen (by first | exact tryd_ok _ | exact tryd_okm _ _) (by kernel_rfl) ?_ | refine vv26 ?_ | refine vv27 ?_ | refine vv28 ?_ | refine vv29 ?_ | refine vv30 ?_ | refine vv31 ?_ | refine vv32 ?_ | refine vv33 ?_) <;> (conv => whnf)))
    refine ⟨.done _ _ _ (by simp) rfl (fun b hb => by cases hb) rfl⟩
  | some l =>
    rw [hg] at h
    obtain ⟨r, rfl⟩ := h
    have hl4 := runG_len _ _ _ _ (by simp) hg
    conv => whnf
    refine ⟨nofun, ?_⟩
    by_cases hc : (checkPost l).1 = 0
    · have hok := (checkPost_0 hc).2
      have hp := (print_good false l hok hl4 hc).glob (g12 mx e0 e1)
      have hps := printB_size hok l.length (Nat.le_refl _)
      rw [List.take_length] at hps
      by_cases he : printB l = s
      · have : R = some l := by rw [← hR]; exact (runP_iff s l).2 ⟨hok, hl4, he⟩
        subst this
        subst he
        have hrr : printB l = printB l := rfl
        ((conv => whnf); repeat' ((first | refine vv1 ?_ | refine vv2 ?_ | refine vv3 ?_ | refine vv4 ?_ | refine vv5 ?_ | refine vv6 ?_ | refine vv7 ?_ | refine vv8 ?_ | refine vv9 ?_ | refine vv10 ?_ | refine vv11 (fun hbr => ?_) (fun hbr => ?_) | refine vv12 (fun hbr => ?_) (fun hbr => ?_) | refine vv13 ?_ | refine vv14 ?_ | refine vv15 ?_ | refine vv16 ?_ | refine vv17 (fun hbr => ?_) (fun hbr => ?_) | refine vv18 ?_ | refine vv19 (fun hbr => ?_) (fun hbr => ?_) | refine vv20 ?_ | refine SlIdxN.map _ rfl (by first | assumption | omega) ?_ | refine SlIdxN.mapPred (by omega) (by omega) ?_ | refine SlIdxN.mapSucc (by omega) ?_ | refine SlIdxN.lit _ _ rfl rfl ?_ | refine SlIdxN.mapInt (by omega) (by omega) ?_ | refine IdxN.at0 _ rfl (by first | assumption | omega | (simp <;> omega)) ?_ | refine vv21 ?_ | refine RowN.map (by first | assumption | omega) ?_ | refine vv22 ?_ | refine RowSN.map (by first | assumption | omega) ?_ | refine vv23 ?_ | refine vv24 ?_ | refine vv25 ?_ | refine Need.mk (by first | assumption | omega | (simp <;> omega)) ?_ | refine DrawN.gen (by first | exact tryd_ok _ | exact tryd_okm _ _) (by kernel_rfl) ?_ | refine vv26 ?_ | refine vv27 ?_ | refine vv28 ?_ | refine vv29 ?_ | refine vv30 ?_ | refine vv31 ?_ | refine vv32 ?_ | refine vv33 ?_) <;> (conv => whnf)))
        refine CallN.frz 6 (l.map Posting.enc) 61 rfl (deepR (fun _ => rfl)) ?_
        show CallN _ _ [(AV.sm 6 5 0 l.length).frz0 6 _] _ _
        rw [frz_all (by simp)]
        refine CallN.pure hp ?_
        ((conv => whnf); repeat' ((first | refine vv1 ?_ | refine vv2 ?_ | refine vv3 ?_ | refine vv4 ?_ | refine vv5 ?_ | refine vv6 ?_ | refine vv7 ?_ | refine vv8 ?_ | refine vv9 ?_ | refine vv10 ?_ | refine vv11 (fun hbr => ?_) (fun hbr => ?_) | refine vv12 (fun hbr => ?_) (fun hbr => ?_) | refine vv13 ?_ | refine vv14 ?_ | refine vv15 ?_ | refine vv16 ?_ | refine vv17 (fun hbr => ?_) (fun hbr => ?_) | refine vv18 ?_ | refine vv19 (fun hbr => ?_) (fun hbr => ?_) | refine vv20 ?_ | refine SlIdxN.map _ rfl (by first | assumption | omega) ?_ | refine SlIdxN.mapPred (by omega) (by omega) ?_ | refine SlIdxN.mapSucc (by omega) ?_ | refine SlIdxN.lit _ _ rfl rfl ?_ | refine SlIdxN.mapInt (by omega) (by omega) ?_ | refine IdxN.at0 _ rfl (by first | assumption | omega | (simp <;> omega)) ?_ | refine vv21 ?_ | refine RowN.map (by first | assumption | omega) ?_ | refine vv22 ?_ | refine RowSN.map (by first | assumption | omega) ?_ | refine vv23 ?_ | refine vv24 ?_ | refine vv25 ?_ | refine Need.mk (by first | assumption | omega | (simp <;> omega)) ?_ | refine DrawN.gen (by first | exact tryd_ok _ | exact tryd_okm _ _) (by kernel_rfl) ?_ | refine vv26 ?_ | refine vv27 ?_ | refine vv28 ?_ | refine vv29 ?_ | refine vv30 ?_ | refine vv31 ?_ | refine vv32 ?_ | refine vv33 ?_) <;> (conv => whnf)))
        rw [frz_all (by simp)]
        ((conv => whnf); repeat' ((first | refine vv1 ?_ | refine vv2 ?_ | refine vv3 ?_ | refine vv4 ?_ | refine vv5 ?_ | refine vv6 ?_ | refine vv7 ?_ | refine vv8 ?_ | refine vv9 ?_ | refine vv10 ?_ | refine vv11 (fun hbr => ?_) (fun hbr => ?_) | refine vv12 (fun hbr => ?_) (fun hbr => ?_) | refine vv13 ?_ | refine vv14 ?_ | refine vv15 ?_ | refine vv16 ?_ | refine vv17 (fun hbr => ?_) (fun hbr => ?_) | refine vv18 ?_ | refine vv19 (fun hbr => ?_) (fun hbr => ?_) | refine vv20 ?_ | refine SlIdxN.map _ rfl (by first | assumption | omega) ?_ | refine SlIdxN.mapPred (by omega) (by omega) ?_ | refine SlIdxN.mapSucc (by omega) ?_ | refine SlIdxN.lit _ _ rfl rfl ?_ | refine SlIdxN.mapInt (by omega) (by omega) ?_ | refine IdxN.at0 _ rfl (by first | assumption | omega | (simp <;> omega)) ?_ | refine vv21 ?_ | refine RowN.map (by first | assumption | omega) ?_ | refine vv22 ?_ | refine RowSN.map (by first | assumption | omega) ?_ | refine vv23 ?_ | refine vv24 ?_ | refine vv25 ?_ | refine Need.mk (by first | assumption | omega | (simp <;> omega)) ?_ | refine DrawN.gen (by first | exact tryd_ok _ | exact tryd_okm _ _) (by kernel_rfl) ?_ | refine vv26 ?_ | refine vv27 ?_ | refine vv28 ?_ | refine vv29 ?_ | refine vv30 ?_ | refine vv31 ?_ | refine vv32 ?_ | refine vv33 ?_) <;> (conv => whnf)))
        exact ⟨.done _ _ _ (by simp) rfl (fun b hb => by cases hb) rfl⟩
      · have : R = none := by
          rw [← hR]
          refine runP_none fun l' hl' => ?_
          rw [runG_text hl'] at hg
          cases hg
          exact he hl'.2.2
        subst this
        ((conv => whnf); repeat' ((first | refine vv1 ?_ | refine vv2 ?_ | refine vv3 ?_ | refine vv4 ?_ | refine vv5 ?_ | refine vv6 ?_ | refine vv7 ?_ | refine vv8 ?_ | refine vv9 ?_ | refine vv10 ?_ | refine vv11 (fun hbr => ?_) (fun hbr => ?_) | refine vv12 (fun hbr => ?_) (fun hbr => ?_) | refine vv13 ?_ | refine vv14 ?_ | refine vv15 ?_ | refine vv16 ?_ | refine vv17 (fun hbr => ?_) (fun hbr => ?_) | refine vv18 ?_ | refine vv19 (fun hbr => ?_) (fun hbr => ?_) | refine vv20 ?_ | refine SlIdxN.map _ rfl (by first | assumption | omega) ?_ | refine SlIdxN.mapPred (by omega) (by omega) ?_ | refine SlIdxN.mapSucc (by omega) ?_ | refine SlIdxN.lit _ _ rfl rfl ?_ | refine SlIdxN.mapInt (by omega) (by omega) ?_ | refine IdxN.at0 _ rfl (by first | assumption | omega | (simp <;> omega)) ?_ | refine vv21 ?_ | refine RowN.map (by first | assumption | omega) ?_ | refine vv22 ?_ | refine RowSN.map (by first | assumption | omega) ?_ | refine vv23 ?_ | refine vv24 ?_ | refine vv25 ?_ | refine Need.mk (by first | assumption | omega | (simp <;> omega)) ?_ | refine DrawN.gen (by first | exact tryd_ok _ | exact tryd_okm _ _) (by kernel_rfl) ?_ | refine vv26 ?_ | refine vv27 ?_ | refine vv28 ?_ | refine vv29 ?_ | refine vv30 ?_ | refine vv31 ?_ | refine vv32 ?_ | refine vv33 ?_) <;> (conv => whnf)))
        refine CallN.frz 6 (l.map Posting.enc) 61 rfl (deepR (fun _ => rfl)) ?_
        show CallN _ _ [(AV.sm 6 5 0 l.length).frz0 6 _] _ _
        rw [frz_all (by simp)]
        refine CallN.pure hp ?_
        ((conv => whnf); repeat' ((first | refine vv1 ?_ | refine vv2 ?_ | refine vv3 ?_ | refine vv4 ?_ | refine vv5 ?_ | refine vv6 ?_ | refine vv7 ?_ | refine vv8 ?_ | refine vv9 ?_ | refine vv10 ?_ | refine vv11 (fun hbr => ?_) (fun hbr => ?_) | refine vv12 (fun hbr => ?_) (fun hbr => ?_) | refine vv13 ?_ | refine vv14 ?_ | refine vv15 ?_ | refine vv16 ?_ | refine vv17 (fun hbr => ?_) (fun hbr => ?_) | refine vv18 ?_ | refine vv19 (fun hbr => ?_) (fun hbr => ?_) | refine vv20 ?_ | refine SlIdxN.map _ rfl (by first | assumption | omega) ?_ | refine SlIdxN.mapPred (by omega) (by omega) ?_ | refine SlIdxN.mapSucc (by omega) ?_ | refine SlIdxN.lit _ _ rfl rfl ?_ | refine SlIdxN.mapInt (by omega) (by omega) ?_ | refine IdxN.at0 _ rfl (by first | assumption | omega | (simp <;> omega)) ?_ | refine vv21 ?_ | refine RowN.map (by first | assumption | omega) ?_ | refine vv22 ?_ | refine RowSN.map (by first | assumption | omega) ?_ | refine vv23 ?_ | refine vv24 ?_ | refine vv25 ?_ | refine Need.mk (by first | assumption | omega | (simp <;> omega)) ?_ | refine DrawN.gen (by first | exact tryd_ok _ | exact tryd_okm _ _) (by kernel_rfl) ?_ | refine vv26 ?_ | refine vv27 ?_ | refine vv28 ?_ | refine vv29 ?_ | refine vv30 ?_ | refine vv31 ?_ | refine vv32 ?_ | refine vv33 ?_) <;> (conv => whnf)))
        exact ⟨.done _ _ _ (by simp) rfl (fun b hb => by cases hb) rfl⟩
    · have hp := (print_bad false l (by omega) hc).glob (g12 mx e0 e1)
      have : R = none := by
        rw [← hR]
        refine runP_none fun l' hl' => ?_
        rw [runG_text hl'] at hg
        cases hg
        exact hc (congrArg (·.1) (checkPost_good hl'.1 hl'.2.1))
      subst this
      ((conv => whnf); repeat' ((first | refine vv1 ?_ | refine vv2 ?_ | refine vv3 ?_ | refine vv4 ?_ | refine vv5 ?_ | refine vv6 ?_ | refine vv7 ?_ | refine vv8 ?_ | refine vv9 ?_ | refine vv10 ?_ | refine vv11 (fun hbr => ?_) (fun hbr => ?_) | refine vv12 (fun hbr => ?_) (fun hbr => ?_) | refine vv13 ?_ | refine vv14 ?_ | refine vv15 ?_ | refine vv16 ?_ | refine vv17 (fun hbr => ?_) (fun hbr => ?_) | refine vv18 ?_ | refine vv19 (fun hbr => ?_) (fun hbr => ?_) | refine vv20 ?_ | refine SlIdxN.map _ rfl (by first | assumption | omega) ?_ | refine SlIdxN.mapPred (by omega) (by omega) ?_ | refine SlIdxN.mapSucc (by omega) ?_ | refine SlIdxN.lit _ _ rfl rfl ?_ | refine SlIdxN.mapInt (by omega) (by omega) ?_ | refine IdxN.at0 _ rfl (by first | assumption | omega | (simp <;> omega)) ?_ | refine vv21 ?_ | refine RowN.map (by first | assumption | omega) ?_ | refine vv22 ?_ | refine RowSN.map (by first | assumption | omega) ?_ | refine vv23 ?_ | refine vv24 ?_ | refine vv25 ?_ | refine Need.mk (by first | assumption | omega | (simp <;> omega)) ?_ | refine DrawN.gen (by first | exact tryd_ok _ | exact tryd_okm _ _) (by kernel_rfl) ?_ | refine vv26 ?_ | refine vv27 ?_ | refine vv28 ?_ | refine vv29 ?_ | refine vv30 ?_ | refine vv31 ?_ | refine vv32 ?_ | refine vv33 ?_) <;> (conv => whnf)))
      refine CallN.frz 6 (l.map Posting.enc) 61 rfl (deepR (fun _ => rfl)) ?_
      show CallN _ _ [(AV.sm 6 5 0 l.length).frz0 6 _] _ _
      rw [frz_all (by simp)]
      refine CallN.pure hp ?_
      ((conv => whnf); repeat' ((first | refine vv1 ?_ | refine vv2 ?_ | refine vv3 ?_ | refine vv4 ?_ | refine vv5 ?_ | refine vv6 ?_ | refine vv7 ?_ | refine vv8 ?_ | refine vv9 ?_ | refine vv10 ?_ | refine vv11 (fun hbr => ?_) (fun hbr => ?_) | refine vv12 (fun hbr => ?_) (fun hbr => ?_) | refine vv13 ?_ | refine vv14 ?_ | refine vv15 ?_ | refine vv16 ?_ | refine vv17 (fun hbr => ?_) (fun hbr => ?_) | refine vv18 ?_ | refine vv19 (fun hbr => ?_) (fun hbr => ?_) | refine vv20 ?_ | refine SlIdxN.map _ rfl (by first | assumption | omega) ?_ | refine SlIdxN.mapPred (by omega) (by omega) ?_ | refine SlIdxN.mapSucc (by omega) ?_ | refine SlIdxN.lit _ _ rfl rfl ?_ | refine SlIdxN.mapInt (by omega) (by omega) ?_ | refine IdxN.at0 _ rfl (by first | assumption | omega | (simp <;> omega)) ?_ | refine vv21 ?_ | refine RowN.map (by first | assumption | omega) ?_ | refine vv22 ?_ | refine RowSN.map (by first | assumption | omega) ?_ | refine vv23 ?_ | refine vv24 ?_ | refine vv25 ?_ | refine Need.mk (by first | assumption | omega | (simp <;> omega)) ?_ | refine DrawN.gen (by first | exact tryd_ok _ | exact tryd_okm _ _) (by kernel_rfl) ?_ | refine vv26 ?_ | refine vv27 ?_ | refine vv28 ?_ | refine vv29 ?_ | refine vv30 ?_ | refine vv31 ?_ | refine vv32 ?_ | refine vv33 ?_) <;> (conv => whnf)))
      exact ⟨.done _ _ _ (by simp) rfl (fun b hb => by cases hb) rfl⟩
end Go.Proofs.Ax
namespace Go.Proofs.Ax
open Go Go.Proofs
set_option maxRecDepth 10000
set_option maxHeartbeats 4000000
/-! The two laws of texts. -/
theorem ratesTexts (mx : Int) (e0 e1 : AV) (h0 : okE e0) (h1 : okE e1) (t : Bool) (l : List Posting) (s : ByteArray) (hmax : l.length ≤ 9223372036854775807) : Pu Tryz.prog (G2 mx e0 e1) 11 [postings t l, vs s] (vb true) := by
  have hsh := (short_ok t l hmax).glob (g12 mx e0 e1)
  have hsa := sane_ok.glob (g12 mx e0 e1)
  by_cases hd : (l.length : Int) ≤ 60 ∧ s.size ≤ 3000
  case neg =>
    by_cases hl : (l.length : Int) ≤ 60
    · have hz : 3000 < s.size := by
        apply Classical.byContradiction
        intro h
        exact hd ⟨hl, by omega⟩
      rw [decide_eq_true hl] at hsh
      refine Pu.of_ev (T := Tryz.tab) (n := 68) (tryz_ok2 mx e0 e1 0 _) Tryz.func11 rfl rfl rfl rfl (by simp) ?_
      ((conv => whnf); repeat' ((first | refine vv1 ?_ | refine vv2 ?_ | refine vv3 ?_ | refine vv4 ?_ | refine vv5 ?_ | refine vv6 ?_ | refine vv7 ?_ | refine vv8 ?_ | refine vv9 ?_ | refine vv10 ?_ | refine vv11 (fun hbr => ?_) (fun hbr => ?_) | refine vv12 (fun hbr => ?_) (fun hbr => ?_) | refine vv13 ?_ | refine vv14 ?_ | refine vv15 ?_ | refine vv16 ?_ | refine vv17 (fun hbr => ?_) (fun hbr => ?_) | refine vv18 ?_ | refine vv19 (fun hbr => ?_) (fun hbr => ?_) | refine vv20 ?_ | refine SlIdxN.map _ rfl (by first | assumption | omega) ?_ | refine SlIdxN.mapPred (by omega) (by omega) ?_ | refine SlIdxN.mapSucc (by omega) ?_ | refine SlIdxN.lit _ _ rfl rfl ?_ | refine SlIdxN.mapInt (by omega) (by omega) ?_ | refine IdxN.at0 _ rfl (by first | assumption | omega | (simp <;> omega)) ?_ | refine vv21 ?_ | refine RowN.map (by first | assumption | omega) ?_ | refine vv22 ?_ | refine RowSN.map (by first | assumption | omega) ?_ | refine vv23 ?_ | refine vv24 ?_ | refine vv25 ?_ | refine Need.mk (by first | assumption | omega | (simp <;> omega)) ?_ | refine DrawN.gen (by first | exact tryd_ok _ | exact tryd_okm _ _) (by kernel_rfl) ?_ | refine vv26 ?_ | refine vv27 ?_ | refine vv28 ?_ | refine vv29 ?_ | refine vv30 ?_ | refine vv31 ?_ | refine vv32 ?_ | refine vv33 ?_ | refine CallN.pure (hsh) ?_ | refine CallN.pure (hsa) ?_ | refine GCallN.pure _ (hsh) ?_ | refine GCallN.pure _ (hsa) ?_ | refine GCallN.ef (hsh) ?_ | refine GCallN.ef (hsa) ?_) <;> (conv => whnf)))
      exact DoneN.pure rfl
    · rw [decide_eq_false hl] at hsh
      refine Pu.of_ev (T := Tryz.tab) (n := 68) (tryz_ok2 mx e0 e1 0 _) Tryz.func11 rfl rfl rfl rfl (by simp) ?_
      ((conv => whnf); repeat' ((first | refine vv1 ?_ | refine vv2 ?_ | refine vv3 ?_ | refine vv4 ?_ | refine vv5 ?_ | refine vv6 ?_ | refine vv7 ?_ | refine vv8 ?_ | refine vv9 ?_ | refine vv10 ?_ | refine vv11 (fun hbr => ?_) (fun hbr => ?_) | refine vv12 (fun hbr => ?_) (fun hbr => ?_) | refine vv13 ?_ | refine vv14 ?_ | refine vv15 ?_ | refine vv16 ?_ | refine vv17 (fun hbr => ?_) (fun hbr => ?_) | refine vv18 ?_ | refine vv19 (fun hbr => ?_) (fun hbr => ?_) | refine vv20 ?_ | refine SlIdxN.map _ rfl (by first | assumption | omega) ?_ | refine SlIdxN.mapPred (by omega) (by omega) ?_ | refine SlIdxN.mapSucc (by omega) ?_ | refine SlIdxN.lit _ _ rfl rfl ?_ | refine SlIdxN.mapInt (by omega) (by omega) ?_ | refine IdxN.at0 _ rfl (by first | assumption | omega | (simp <;> omega)) ?_ | refine vv21 ?_ | refine RowN.map (by first | assumption | omega) ?_ | refine vv22 ?_ | refine RowSN.map (by first | assumption | omega) ?_ | refine vv23 ?_ | refine vv24 ?_ | refine vv25 ?_ | refine Need.mk (by first | assumption | omega | (simp <;> omega)) ?_ | refine DrawN.gen (by first | exact tryd_ok _ | exact tryd_okm _ _) (by kernel_rfl) ?_ | refine vv26 ?_ | refine vv27 ?_ | refine vv28 ?_ | refine vv29 ?_ | refine vv30 ?_ | refine vv31 ?_ | refine vv32 ?_ | refine vv33 ?_ | refine CallN.pure (hsh) ?_ | refine CallN.pure (hsa) ?_ | refine GCallN.pure _ (hsh) ?_ | refine GCallN.pure _ (hsa) ?_ | refine GCallN.ef (hsh) ?_ | refine GCallN.ef (hsa) ?_) <;> (conv => whnf)))
      exact DoneN.pure rfl
  obtain ⟨hl, hz⟩ := hd
  rw [decide_eq_true hl] at hsh
  have her := (error_ok t l hmax).glob (g12 mx e0 e1)
  have hpa := parse_ok mx e0 e1 h0 h1 s (by omega)
  have hrp := (rparse_ok s hz).glob (g12 mx e0 e1)
  have hsn : Pu Tryz.prog (G2 mx e0 e1) 41 [.sc (.slice none 0 0), .sc (.slice none 0 0)] (vb true) := by
    have := samePostings_ok false false [] [] (by simp) (by simp)
    exact Pu.glob (g12 mx e0 e1) (Pu.nils this ⟨.inr ⟨rfl, 5, false, rfl⟩, .inr ⟨rfl, 5, false, rfl⟩, trivial⟩)
  generalize hR : runP s (s.size + 1) 0 [] = R at *
  have htx : (tx []).size = 0 := tx_size []
  have hmt : (⟨#[]⟩ : ByteArray).size = 0 := rfl
  have key : ∀ z : ByteArray, z.size ≤ 1000000 → Pu Tryz.prog (G2 mx e0 e1) 46 [postings t l] (.tuple [vs z, vi (checkPost l).1]) → ((checkPost l).1 ≠ 0 → z = tx []) → ((checkPost l).1 = 0 → Pu Tryz.prog (G2 mx e0 e1) 47 [postings t l] (vs z)) → Pu Tryz.prog (G2 mx e0 e1) 11 [postings t l, vs s] (vb true) := by
    intro z hzs hp hb hg
    have hrr : z = z := rfl
    have hr0 : tx [] = ⟨#[]⟩ := rfl
    cases R with
    | none =>
      simp only [parseAV, paidAV] at hpa hrp
      by_cases hc : (checkPost l).1 = 0
      · have hg := hg hc
        rw [hc] at hp her
        refine Pu.of_ev (T := Tryz.tab) (n := 68) (tryz_ok2 mx e0 e1 0 _) Tryz.func11 rfl rfl rfl rfl (by simp) ?_
        ((conv => whnf); repeat' ((first | refine vv1 ?_ | refine vv2 ?_ | refine vv3 ?_ | refine vv4 ?_ | refine vv5 ?_ | refine vv6 ?_ | refine vv7 ?_ | refine vv8 ?_ | refine vv9 ?_ | refine vv10 ?_ | refine vv11 (fun hbr => ?_) (fun hbr => ?_) | refine vv12 (fun hbr => ?_) (fun hbr => ?_) | refine vv13 ?_ | refine vv14 ?_ | refine vv15 ?_ | refine vv16 ?_ | refine vv17 (fun hbr => ?_) (fun hbr => ?_) | refine vv18 ?_ | refine vv19 (fun hbr => ?_) (fun hbr => ?_) | refine vv20 ?_ | refine SlIdxN.map _ rfl (by first | assumption | omega) ?_ | refine SlIdxN.mapPred (by omega) (by omega) ?_ | refine SlIdxN.mapSucc (by omega) ?_ | refine SlIdxN.lit _ _ rfl rfl ?_ | refine SlIdxN.mapInt (by omega) (by omega) ?_ | refine IdxN.at0 _ rfl (by first | assumption | omega | (simp <;> omega)) ?_ | refine vv21 ?_ | refine RowN.map (by first | assumption | omega) ?_ | refine vv22 ?_ | refine RowSN.map (by first | assumption | omega) ?_ | refine vv23 ?_ | refine vv24 ?_ | refine vv25 ?_ | refine Need.mk (by first | assumption | omega | (simp <;> omega)) ?_ | refine DrawN.gen (by first | exact tryd_ok _ | exact tryd_okm _ _) (by kernel_rfl) ?_ | refine vv26 ?_ | refine vv27 ?_ | refine vv28 ?_ | refine vv29 ?_ | refine vv30 ?_ | refine vv31 ?_ | refine vv32 ?_ | refine vv33 ?_ | refine CallN.pure (hsh) ?_ | refine CallN.pure (hp) ?_ | refine CallN.pure (her) ?_ | refine CallN.pure (hg) ?_ | refine CallN.pure (hpa) ?_ | refine CallN.pure (hrp) ?_ | refine CallN.pure (hsn) ?_ | refine CallN.pure (hsa) ?_ | refine GCallN.pure _ (hsh) ?_ | refine GCallN.pure _ (hp) ?_ | refine GCallN.pure _ (her) ?_ | refine GCallN.pure _ (hg) ?_ | refine GCallN.pure _ (hpa) ?_ | refine GCallN.pure _ (hrp) ?_ | refine GCallN.pure _ (hsn) ?_ | refine GCallN.pure _ (hsa) ?_ | refine GCallN.ef (hsh) ?_ | refine GCallN.ef (hp) ?_ | refine GCallN.ef (her) ?_ | refine GCallN.ef (hg) ?_ | refine GCallN.ef (hpa) ?_ | refine GCallN.ef (hrp) ?_ | refine GCallN.ef (hsn) ?_ | refine GCallN.ef (hsa) ?_) <;> (conv => whnf)))
        all_goals first
          | exact DoneN.pure rfl
          | exact DoneN.pure (congrArg vb (decide_eq_true rfl))
      · have hb := hb hc
        subst hb
        refine Pu.of_ev (T := Tryz.tab) (n := 68) (tryz_ok2 mx e0 e1 0 _) Tryz.func11 rfl rfl rfl rfl (by simp) ?_
        ((conv => whnf); repeat' ((first | refine vv1 ?_ | refine vv2 ?_ | refine vv3 ?_ | refine vv4 ?_ | refine vv5 ?_ | refine vv6 ?_ | refine vv7 ?_ | refine vv8 ?_ | refine vv9 ?_ | refine vv10 ?_ | refine vv11 (fun hbr => ?_) (fun hbr => ?_) | refine vv12 (fun hbr => ?_) (fun hbr => ?_) | refine vv13 ?_ | refine vv14 ?_ | refine vv15 ?_ | refine vv16 ?_ | refine vv17 (fun hbr => ?_) (fun hbr => ?_) | refine vv18 ?_ | refine vv19 (fun hbr => ?_) (fun hbr => ?_) | refine vv20 ?_ | refine SlIdxN.map _ rfl (by first | assumption | omega) ?_ | refine SlIdxN.mapPred (by omega) (by omega) ?_ | refine SlIdxN.mapSucc (by omega) ?_ | refine SlIdxN.lit _ _ rfl rfl ?_ | refine SlIdxN.mapInt (by omega) (by omega) ?_ | refine IdxN.at0 _ rfl (by first | assumption | omega | (simp <;> omega)) ?_ | refine vv21 ?_ | refine RowN.map (by first | assumption | omega) ?_ | refine vv22 ?_ | refine RowSN.map (by first | assumption | omega) ?_ | refine vv23 ?_ | refine vv24 ?_ | refine vv25 ?_ | refine Need.mk (by first | assumption | omega | (simp <;> omega)) ?_ | refine DrawN.gen (by first | exact tryd_ok _ | exact tryd_okm _ _) (by kernel_rfl) ?_ | refine vv26 ?_ | refine vv27 ?_ | refine vv28 ?_ | refine vv29 ?_ | refine vv30 ?_ | refine vv31 ?_ | refine vv32 ?_ | refine vv33 ?_ | refine CallN.pure (hsh) ?_ | refine CallN.pure (hp) ?_ | refine CallN.pure (her) ?_ | refine CallN.pure (hpa) ?_ | refine CallN.pure (hrp) ?_ | refine CallN.pure (hsn) ?_ | refine CallN.pure (hsa) ?_ | refine GCallN.pure _ (hsh) ?_ | refine GCallN.pure _ (hp) ?_ | refine GCallN.pure _ (her) ?_ | refine GCallN.pure _ (hpa) ?_ | refine GCallN.pure _ (hrp) ?_ | refine GCallN.pure _ (hsn) ?_ | refine GCallN.pure _ (hsa) ?_ | refine GCallN.ef (hsh) ?_ | refine GCallN.ef (hp) ?_ | refine GCallN.ef (her) ?_ | refine GCallN.ef (hpa) ?_ | refine GCallN.ef (hrp) ?_ | refine GCallN.ef (hsn) ?_ | refine GCallN.ef (hsa) ?_) <;> (conv => whnf)))
        all_goals first
          | exact DoneN.pure rfl
          | exact DoneN.pure (congrArg vb (decide_eq_true rfl))
    | some m =>
      have hm := (runP_iff s m).1 hR
      have hm4 := hm.2.1
      have hsp := (samePostings_ok false false m m (by omega) (by omega)).glob (g12 mx e0 e1)
      rw [decide_eq_true rfl] at hsp
      simp only [parseAV, paidAV] at hpa hrp
      by_cases hc : (checkPost l).1 = 0
      · have hg := hg hc
        rw [hc] at hp her
        refine Pu.of_ev (T := Tryz.tab) (n := 68) (tryz_ok2 mx e0 e1 0 _) Tryz.func11 rfl rfl rfl rfl (by simp) ?_
        ((conv => whnf); repeat' ((first | refine vv1 ?_ | refine vv2 ?_ | refine vv3 ?_ | refine vv4 ?_ | refine vv5 ?_ | refine vv6 ?_ | refine vv7 ?_ | refine vv8 ?_ | refine vv9 ?_ | refine vv10 ?_ | refine vv11 (fun hbr => ?_) (fun hbr => ?_) | refine vv12 (fun hbr => ?_) (fun hbr => ?_) | refine vv13 ?_ | refine vv14 ?_ | refine vv15 ?_ | refine vv16 ?_ | refine vv17 (fun hbr => ?_) (fun hbr => ?_) | refine vv18 ?_ | refine vv19 (fun hbr => ?_) (fun hbr => ?_) | refine vv20 ?_ | refine SlIdxN.map _ rfl (by first | assumption | omega) ?_ | refine SlIdxN.mapPred (by omega) (by omega) ?_ | refine SlIdxN.mapSucc (by omega) ?_ | refine SlIdxN.lit _ _ rfl rfl ?_ | refine SlIdxN.mapInt (by omega) (by omega) ?_ | refine IdxN.at0 _ rfl (by first | assumption | omega | (simp <;> omega)) ?_ | refine vv21 ?_ | refine RowN.map (by first | assumption | omega) ?_ | refine vv22 ?_ | refine RowSN.map (by first | assumption | omega) ?_ | refine vv23 ?_ | refine vv24 ?_ | refine vv25 ?_ | refine Need.mk (by first | assumption | omega | (simp <;> omega)) ?_ | refine DrawN.gen (by first | exact tryd_ok _ | exact tryd_okm _ _) (by kernel_rfl) ?_ | refine vv26 ?_ | refine vv27 ?_ | refine vv28 ?_ | refine vv29 ?_ | refine vv30 ?_ | refine vv31 ?_ | refine vv32 ?_ | refine vv33 ?_ | refine CallN.pure (hsh) ?_ | refine CallN.pure (hp) ?_ | refine CallN.pure (her) ?_ | refine CallN.pure (hg) ?_ | refine CallN.pure (hpa) ?_ | refine CallN.pure (hrp) ?_ | refine CallN.pure (hsp) ?_ | refine CallN.pure (hsa) ?_ | refine GCallN.pure _ (hsh) ?_ | refine GCallN.pure _ (hp) ?_ | refine GCallN.pure _ (her) ?_ | refine GCallN.pure _ (hg) ?_ | refine GCallN.pure _ (hpa) ?_ | refine GCallN.pure _ (hrp) ?_ | refine GCallN.pure _ (hsp) ?_ | refine GCallN.pure _ (hsa) ?_ | refine GCallN.ef (hsh) ?_ | refine GCallN.ef (hp) ?_ | refine GCallN.ef (her) ?_ | refine GCallN.ef (hg) ?_ | refine GCallN.ef (hpa) ?_ | refine GCallN.ef (hrp) ?_ | refine GCallN.ef (hsp) ?_ | refine GCallN.ef (hsa) ?_) <;> (conv => whnf)))
        all_goals first
          | exact DoneN.pure rfl
          | exact DoneN.pure (congrArg vb (decide_eq_true rfl))
      · have hb := hb hc
        subst hb
        refine Pu.of_ev (T := Tryz.tab) (n := 68) (tryz_ok2 mx e0 e1 0 _) Tryz.func11 rfl rfl rfl rfl (by simp) ?_
        ((conv => whnf); repeat' ((first | refine vv1 ?_ | refine vv2 ?_ | refine vv3 ?_ | refine vv4 ?_ | refine vv5 ?_ | refine vv6 ?_ | refine vv7 ?_ | refine vv8 ?_ | refine vv9 ?_ | refine vv10 ?_ | refine vv11 (fun hbr => ?_) (fun hbr => ?_) | refine vv12 (fun hbr => ?_) (fun hbr => ?_) | refine vv13 ?_ | refine vv14 ?_ | refine vv15 ?_ | refine vv16 ?_ | refine vv17 (fun hbr => ?_) (fun hbr => ?_) | refine vv18 ?_ | refine vv19 (fun hbr => ?_) (fun hbr => ?_) | refine vv20 ?_ | refine SlIdxN.map _ rfl (by first | assumption | omega) ?_ | refine SlIdxN.mapPred (by omega) (by omega) ?_ | refine SlIdxN.mapSucc (by omega) ?_ | refine SlIdxN.lit _ _ rfl rfl ?_ | refine SlIdxN.mapInt (by omega) (by omega) ?_ | refine IdxN.at0 _ rfl (by first | assumption | omega | (simp <;> omega)) ?_ | refine vv21 ?_ | refine RowN.map (by first | assumption | omega) ?_ | refine vv22 ?_ | refine RowSN.map (by first | assumption | omega) ?_ | refine vv23 ?_ | refine vv24 ?_ | refine vv25 ?_ | refine Need.mk (by first | assumption | omega | (simp <;> omega)) ?_ | refine DrawN.gen (by first | exact tryd_ok _ | exact tryd_okm _ _) (by kernel_rfl) ?_ | refine vv26 ?_ | refine vv27 ?_ | refine vv28 ?_ | refine vv29 ?_ | refine vv30 ?_ | refine vv31 ?_ | refine vv32 ?_ | refine vv33 ?_ | refine CallN.pure (hsh) ?_ | refine CallN.pure (hp) ?_ | refine CallN.pure (her) ?_ | refine CallN.pure (hpa) ?_ | refine CallN.pure (hrp) ?_ | refine CallN.pure (hsp) ?_ | refine CallN.pure (hsa) ?_ | refine GCallN.pure _ (hsh) ?_ | refine GCallN.pure _ (hp) ?_ | refine GCallN.pure _ (her) ?_ | refine GCallN.pure _ (hpa) ?_ | refine GCallN.pure _ (hrp) ?_ | refine GCallN.pure _ (hsp) ?_ | refine GCallN.pure _ (hsa) ?_ | refine GCallN.ef (hsh) ?_ | refine GCallN.ef (hp) ?_ | refine GCallN.ef (her) ?_ | refine GCallN.ef (hpa) ?_ | refine GCallN.ef (hrp) ?_ | refine GCallN.ef (hsp) ?_ | refine GCallN.ef (hsa) ?_) <;> (conv => whnf)))
        all_goals first
          | exact DoneN.pure rfl
          | exact DoneN.pure (congrArg vb (decide_eq_true rfl))
  by_cases hc : (checkPost l).1 = 0
  · have hok := (checkPost_0 hc).2
    have hp := (print_good t l hok (by omega) hc).glob (g12 mx e0 e1)
    have hps := printB_size hok l.length (Nat.le_refl _)
    rw [List.take_length] at hps
    refine key (printB l) (by omega) (by rw [hc]; exact hp) (fun h => absurd hc h) fun _ => (rprint_ok t l hok (by omega)).glob (g12 mx e0 e1)
  · exact key (tx []) (by omega) ((print_bad t l hmax hc).glob (g12 mx e0 e1)) (fun _ => rfl) fun h => absurd h hc
theorem ratesTextsBack (mx : Int) (e0 e1 : AV) (h0 : okE e0) (h1 : okE e1) (t : Bool) (l : List Posting) (s : ByteArray) (hmax : l.length ≤ 9223372036854775807) : Pu Tryz.prog (G2 mx e0 e1) 12 [postings t l, vs s] (vb true) := by
  have hsh := (short_ok t l hmax).glob (g12 mx e0 e1)
  have hsa := sane_ok.glob (g12 mx e0 e1)
  by_cases hd : (l.length : Int) ≤ 60 ∧ s.size ≤ 3000
  case neg =>
    by_cases hl : (l.length : Int) ≤ 60
    · have hz : 3000 < s.size := by
        apply Classical.byContradiction
        intro h
        exact hd ⟨hl, by omega⟩
      rw [decide_eq_true hl] at hsh
      refine Pu.of_ev (T := Tryz.tab) (n := 74) (tryz_ok2 mx e0 e1 0 _) Tryz.func12 rfl rfl rfl rfl (by simp) ?_
      ((conv => whnf); repeat' ((first | refine vv1 ?_ | refine vv2 ?_ | refine vv3 ?_ | refine vv4 ?_ | refine vv5 ?_ | refine vv6 ?_ | refine vv7 ?_ | refine vv8 ?_ | refine vv9 ?_ | refine vv10 ?_ | refine vv11 (fun hbr => ?_) (fun hbr => ?_) | refine vv12 (fun hbr => ?_) (fun hbr => ?_) | refine vv13 ?_ | refine vv14 ?_ | refine vv15 ?_ | refine vv16 ?_ | refine vv17 (fun hbr => ?_) (fun hbr => ?_) | refine vv18 ?_ | refine vv19 (fun hbr => ?_) (fun hbr => ?_) | refine vv20 ?_ | refine SlIdxN.map _ rfl (by first | assumption | omega) ?_ | refine SlIdxN.mapPred (by omega) (by omega) ?_ | refine SlIdxN.mapSucc (by omega) ?_ | refine SlIdxN.lit _ _ rfl rfl ?_ | refine SlIdxN.mapInt (by omega) (by omega) ?_ | refine IdxN.at0 _ rfl (by first | assumption | omega | (simp <;> omega)) ?_ | refine vv21 ?_ | refine RowN.map (by first | assumption | omega) ?_ | refine vv22 ?_ | refine RowSN.map (by first | assumption | omega) ?_ | refine vv23 ?_ | refine vv24 ?_ | refine vv25 ?_ | refine Need.mk (by first | assumption | omega | (simp <;> omega)) ?_ | refine DrawN.gen (by first | exact tryd_ok _ | exact tryd_okm _ _) (by kernel_rfl) ?_ | refine vv26 ?_ | refine vv27 ?_ | refine vv28 ?_ | refine vv29 ?_ | refine vv30 ?_ | refine vv31 ?_ | refine vv32 ?_ | refine vv33 ?_ | refine CallN.pure (hsh) ?_ | refine CallN.pure (hsa) ?_ | refine GCallN.pure _ (hsh) ?_ | refine GCallN.pure _ (hsa) ?_ | refine GCallN.ef (hsh) ?_ | refine GCallN.ef (hsa) ?_) <;> (conv => whnf)))
      exact DoneN.pure rfl
    · rw [decide_eq_false hl] at hsh
      refine Pu.of_ev (T := Tryz.tab) (n := 74) (tryz_ok2 mx e0 e1 0 _) Tryz.func12 rfl rfl rfl rfl (by simp) ?_
      ((conv => whnf); repeat' ((first | refine vv1 ?_ | refine vv2 ?_ | refine vv3 ?_ | refine vv4 ?_ | refine vv5 ?_ | refine vv6 ?_ | refine vv7 ?_ | refine vv8 ?_ | refine vv9 ?_ | refine vv10 ?_ | refine vv11 (fun hbr => ?_) (fun hbr => ?_) | refine vv12 (fun hbr => ?_) (fun hbr => ?_) | refine vv13 ?_ | refine vv14 ?_ | refine vv15 ?_ | refine vv16 ?_ | refine vv17 (fun hbr => ?_) (fun hbr => ?_) | refine vv18 ?_ | refine vv19 (fun hbr => ?_) (fun hbr => ?_) | refine vv20 ?_ | refine SlIdxN.map _ rfl (by first | assumption | omega) ?_ | refine SlIdxN.mapPred (by omega) (by omega) ?_ | refine SlIdxN.mapSucc (by omega) ?_ | refine SlIdxN.lit _ _ rfl rfl ?_ | refine SlIdxN.mapInt (by omega) (by omega) ?_ | refine IdxN.at0 _ rfl (by first | assumption | omega | (simp <;> omega)) ?_ | refine vv21 ?_ | refine RowN.map (by first | assumption | omega) ?_ | refine vv22 ?_ | refine RowSN.map (by first | assumption | omega) ?_ | refine vv23 ?_ | refine vv24 ?_ | refine vv25 ?_ | refine Need.mk (by first | assumption | omega | (simp <;> omega)) ?_ | refine DrawN.gen (by first | exact tryd_ok _ | exact tryd_okm _ _) (by kernel_rfl) ?_ | refine vv26 ?_ | refine vv27 ?_ | refine vv28 ?_ | refine vv29 ?_ | refine vv30 ?_ | refine vv31 ?_ | refine vv32 ?_ | refine vv33 ?_ | refine CallN.pure (hsh) ?_ | refine CallN.pure (hsa) ?_ | refine GCallN.pure _ (hsh) ?_ | refine GCallN.pure _ (hsa) ?_ | refine GCallN.ef (hsh) ?_ | refine GCallN.ef (hsa) ?_) <;> (conv => whnf)))
      exact DoneN.pure rfl
  obtain ⟨hl, hz⟩ := hd
  rw [decide_eq_true hl] at hsh
  have hpa := parse_ok mx e0 e1 h0 h1 s (by omega)
  generalize hR : runP s (s.size + 1) 0 [] = R at *
  by_cases hc : (checkPost l).1 = 0
  · have hok := (checkPost_0 hc).2
    have hp := (print_good t l hok (by omega) hc).glob (g12 mx e0 e1)
    have hsz : (printB l).size ≤ 105 * 60 := by
      have := printB_size hok l.length (Nat.le_refl _)
      rw [List.take_length] at this
      omega
    have hpb := parse_ok mx e0 e1 h0 h1 (printB l) (by omega)
    rw [(runP_iff (printB l) l).2 ⟨hok, by omega, rfl⟩] at hpb
    have hsp := (samePostings_ok false t l l (by omega) (by omega)).glob (g12 mx e0 e1)
    rw [decide_eq_true rfl] at hsp
    cases R with
    | none =>
      simp only [parseAV] at hpa hpb
      refine Pu.of_ev (T := Tryz.tab) (n := 74) (tryz_ok2 mx e0 e1 0 _) Tryz.func12 rfl rfl rfl rfl (by simp) ?_
      ((conv => whnf); repeat' ((first | refine vv1 ?_ | refine vv2 ?_ | refine vv3 ?_ | refine vv4 ?_ | refine vv5 ?_ | refine vv6 ?_ | refine vv7 ?_ | refine vv8 ?_ | refine vv9 ?_ | refine vv10 ?_ | refine vv11 (fun hbr => ?_) (fun hbr => ?_) | refine vv12 (fun hbr => ?_) (fun hbr => ?_) | refine vv13 ?_ | refine vv14 ?_ | refine vv15 ?_ | refine vv16 ?_ | refine vv17 (fun hbr => ?_) (fun hbr => ?_) | refine vv18 ?_ | refine vv19 (fun hbr => ?_) (fun hbr => ?_) | refine vv20 ?_ | refine SlIdxN.map _ rfl (by first | assumption | omega) ?_ | refine SlIdxN.mapPred (by omega) (by omega) ?_ | refine SlIdxN.mapSucc (by omega) ?_ | refine SlIdxN.lit _ _ rfl rfl ?_ | refine SlIdxN.mapInt (by omega) (by omega) ?_ | refine IdxN.at0 _ rfl (by first | assumption | omega | (simp <;> omega)) ?_ | refine vv21 ?_ | refine RowN.map (by first | assumption | omega) ?_ | refine vv22 ?_ | refine RowSN.map (by first | assumption | omega) ?_ | refine vv23 ?_ | refine vv24 ?_ | refine vv25 ?_ | refine Need.mk (by first | assumption | omega | (simp <;> omega)) ?_ | refine DrawN.gen (by first | exact tryd_ok _ | exact tryd_okm _ _) (by kernel_rfl) ?_ | refine vv26 ?_ | refine vv27 ?_ | refine vv28 ?_ | refine vv29 ?_ | refine vv30 ?_ | refine vv31 ?_ | refine vv32 ?_ | refine vv33 ?_ | refine CallN.pure (hsh) ?_ | refine CallN.pure (hp) ?_ | refine CallN.pure (hpb) ?_ | refine CallN.pure (hsp) ?_ | refine CallN.pure (hpa) ?_ | refine CallN.pure (hsa) ?_ | refine GCallN.pure _ (hsh) ?_ | refine GCallN.pure _ (hp) ?_ | refine GCallN.pure _ (hpb) ?_ | refine GCallN.pure _ (hsp) ?_ | refine GCallN.pure _ (hpa) ?_ | refine GCallN.pure _ (hsa) ?_ | refine GCallN.ef (hsh) ?_ | refine GCallN.ef (hp) ?_ | refine GCallN.ef (hpb) ?_ | refine GCallN.ef (hsp) ?_ | refine GCallN.ef (hpa) ?_ | refine GCallN.ef (hsa) ?_) <;> (conv => whnf)))
      all_goals first
        | exact DoneN.pure rfl
        | exact DoneN.pure (congrArg vb (decide_eq_true rfl))
    | some m =>
      obtain ⟨m1, m2, rfl⟩ := (runP_iff s m).1 hR
      have hpm := (print_good false m m1 m2 (congrArg (·.1) (checkPost_good m1 m2))).glob (g12 mx e0 e1)
      simp only [parseAV] at hpa hpb
      refine Pu.of_ev (T := Tryz.tab) (n := 74) (tryz_ok2 mx e0 e1 0 _) Tryz.func12 rfl rfl rfl rfl (by simp) ?_
      ((conv => whnf); repeat' ((first | refine vv1 ?_ | refine vv2 ?_ | refine vv3 ?_ | refine vv4 ?_ | refine vv5 ?_ | refine vv6 ?_ | refine vv7 ?_ | refine vv8 ?_ | refine vv9 ?_ | refine vv10 ?_ | refine vv11 (fun hbr => ?_) (fun hbr => ?_) | refine vv12 (fun hbr => ?_) (fun hbr => ?_) | refine vv13 ?_ | refine vv14 ?_ | refine vv15 ?_ | refine vv16 ?_ | refine vv17 (fun hbr => ?_) (fun hbr => ?_) | refine vv18 ?_ | refine vv19 (fun hbr => ?_) (fun hbr => ?_) | refine vv20 ?_ | refine SlIdxN.map _ rfl (by first | assumption | omega) ?_ | refine SlIdxN.mapPred (by omega) (by omega) ?_ | refine SlIdxN.mapSucc (by omega) ?_ | refine SlIdxN.lit _ _ rfl rfl ?_ | refine SlIdxN.mapInt (by omega) (by omega) ?_ | refine IdxN.at0 _ rfl (by first | assumption | omega | (simp <;> omega)) ?_ | refine vv21 ?_ | refine RowN.map (by first | assumption | omega) ?_ | refine vv22 ?_ | refine RowSN.map (by first | assumption | omega) ?_ | refine vv23 ?_ | refine vv24 ?_ | refine vv25 ?_ | refine Need.mk (by first | assumption | omega | (simp <;> omega)) ?_ | refine DrawN.gen (by first | exact tryd_ok _ | exact tryd_okm _ _) (by kernel_rfl) ?_ | refine vv26 ?_ | refine vv27 ?_ | refine vv28 ?_ | refine vv29 ?_ | refine vv30 ?_ | refine vv31 ?_ | refine vv32 ?_ | refine vv33 ?_ | refine CallN.pure (hsh) ?_ | refine CallN.pure (hp) ?_ | refine CallN.pure (hpb) ?_ | refine CallN.pure (hsp) ?_ | refine CallN.pure (hpa) ?_ | refine CallN.pure (hpm) ?_ | refine CallN.pure (hsa) ?_ | refine GCallN.pure _ (hsh) ?_ | refine GCallN.pure _ (hp) ?_ | refine GCallN.pure _ (hpb) ?_ | refine GCallN.pure _ (hsp) ?_ | refine GCallN.pure _ (hpa) ?_ | refine GCallN.pure _ (hpm) ?_ | refine GCallN.pure _ (hsa) ?_ | refine GCallN.ef (hsh) ?_ | refine GCallN.ef (hp) ?_ | refine GCallN.ef (hpb) ?_ | refine GCallN.ef (hsp) ?_ | refine GCallN.ef (hpa) ?_ | refine GCallN.ef (hpm) ?_ | refine GCallN.ef (hsa) ?_) <;> (conv => whnf)))
      all_goals first
        | exact DoneN.pure rfl
        | exact DoneN.pure (congrArg vb (decide_eq_true rfl))
  · have hp := (print_bad t l hmax hc).glob (g12 mx e0 e1)
    cases R with
    | none =>
      simp only [parseAV] at hpa
      refine Pu.of_ev (T := Tryz.tab) (n := 74) (tryz_ok2 mx e0 e1 0 _) Tryz.func12 rfl rfl rfl rfl (by simp) ?_
      ((conv => whnf); repeat' ((first | refine vv1 ?_ | refine vv2 ?_ | refine vv3 ?_ | refine vv4 ?_ | refine vv5 ?_ | refine vv6 ?_ | refine vv7 ?_ | refine vv8 ?_ | refine vv9 ?_ | refine vv10 ?_ | refine vv11 (fun hbr => ?_) (fun hbr => ?_) | refine vv12 (fun hbr => ?_) (fun hbr => ?_) | refine vv13 ?_ | refine vv14 ?_ | refine vv15 ?_ | refine vv16 ?_ | refine vv17 (fun hbr => ?_) (fun hbr => ?_) | refine vv18 ?_ | refine vv19 (fun hbr => ?_) (fun hbr => ?_) | refine vv20 ?_ | refine SlIdxN.map _ rfl (by first | assumption | omega) ?_ | refine SlIdxN.mapPred (by omega) (by omega) ?_ | refine SlIdxN.mapSucc (by omega) ?_ | refine SlIdxN.lit _ _ rfl rfl ?_ | refine SlIdxN.mapInt (by omega) (by omega) ?_ | refine IdxN.at0 _ rfl (by first | assumption | omega | (simp <;> omega)) ?_ | refine vv21 ?_ | refine RowN.map (by first | assumption | omega) ?_ | refine vv22 ?_ | refine RowSN.map (by first | assumption | omega) ?_ | refine vv23 ?_ | refine vv24 ?_ | refine vv25 ?_ | refine Need.mk (by first | assumption | omega | (simp <;> omega)) ?_ | refine DrawN.gen (by first | exact tryd_ok _ | exact tryd_okm _ _) (by kernel_rfl) ?_ | refine vv26 ?_ | refine vv27 ?_ | refine vv28 ?_ | refine vv29 ?_ | refine vv30 ?_ | refine vv31 ?_ | refine vv32 ?_ | refine vv33 ?_ | refine CallN.pure (hsh) ?_ | refine CallN.pure (hp) ?_ | refine CallN.pure (hpa) ?_ | refine CallN.pure (hsa) ?_ | refine GCallN.pure _ (hsh) ?_ | refine GCallN.pure _ (hp) ?_ | refine GCallN.pure _ (hpa) ?_ | refine GCallN.pure _ (hsa) ?_ | refine GCallN.ef (hsh) ?_ | refine GCallN.ef (hp) ?_ | refine GCallN.ef (hpa) ?_ | refine GCallN.ef (hsa) ?_) <;> (conv => whnf)))
      all_goals first
        | exact DoneN.pure rfl
        | exact DoneN.pure (congrArg vb (decide_eq_true rfl))
    | some m =>
      obtain ⟨m1, m2, rfl⟩ := (runP_iff s m).1 hR
      have hpm := (print_good false m m1 m2 (congrArg (·.1) (checkPost_good m1 m2))).glob (g12 mx e0 e1)
      simp only [parseAV] at hpa
      refine Pu.of_ev (T := Tryz.tab) (n := 74) (tryz_ok2 mx e0 e1 0 _) Tryz.func12 rfl rfl rfl rfl (by simp) ?_
      ((conv => whnf); repeat' ((first | refine vv1 ?_ | refine vv2 ?_ | refine vv3 ?_ | refine vv4 ?_ | refine vv5 ?_ | refine vv6 ?_ | refine vv7 ?_ | refine vv8 ?_ | refine vv9 ?_ | refine vv10 ?_ | refine vv11 (fun hbr => ?_) (fun hbr => ?_) | refine vv12 (fun hbr => ?_) (fun hbr => ?_) | refine vv13 ?_ | refine vv14 ?_ | refine vv15 ?_ | refine vv16 ?_ | refine vv17 (fun hbr => ?_) (fun hbr => ?_) | refine vv18 ?_ | refine vv19 (fun hbr => ?_) (fun hbr => ?_) | refine vv20 ?_ | refine SlIdxN.map _ rfl (by first | assumption | omega) ?_ | refine SlIdxN.mapPred (by omega) (by omega) ?_ | refine SlIdxN.mapSucc (by omega) ?_ | refine SlIdxN.lit _ _ rfl rfl ?_ | refine SlIdxN.mapInt (by omega) (by omega) ?_ | refine IdxN.at0 _ rfl (by first | assumption | omega | (simp <;> omega)) ?_ | refine vv21 ?_ | refine RowN.map (by first | assumption | omega) ?_ | refine vv22 ?_ | refine RowSN.map (by first | assumption | omega) ?_ | refine vv23 ?_ | refine vv24 ?_ | refine vv25 ?_ | refine Need.mk (by first | assumption | omega | (simp <;> omega)) ?_ | refine DrawN.gen (by first | exact tryd_ok _ | exact tryd_okm _ _) (by kernel_rfl) ?_ | refine vv26 ?_ | refine vv27 ?_ | refine vv28 ?_ | refine vv29 ?_ | refine vv30 ?_ | refine vv31 ?_ | refine vv32 ?_ | refine vv33 ?_ | refine CallN.pure (hsh) ?_ | refine CallN.pure (hp) ?_ | refine CallN.pure (hpa) ?_ | refine CallN.pure (hpm) ?_ | refine CallN.pure (hsa) ?_ | refine GCallN.pure _ (hsh) ?_ | refine GCallN.pure _ (hp) ?_ | refine GCallN.pure _ (hpa) ?_ | refine GCallN.pure _ (hpm) ?_ | refine GCallN.pure _ (hsa) ?_ | refine GCallN.ef (hsh) ?_ | refine GCallN.ef (hp) ?_ | refine GCallN.ef (hpa) ?_ | refine GCallN.ef (hpm) ?_ | refine GCallN.ef (hsa) ?_) <;> (conv => whnf)))
      all_goals first
        | exact DoneN.pure rfl
        | exact DoneN.pure (congrArg vb (decide_eq_true rfl))
end Go.Proofs.Ax
namespace Go.Proofs.Ax
open Go Go.Proofs
open Go.Proofs.YtdfgphfijfocoaaGreatDoor
/-! What the listed variables hold. -/
theorem glob_one {W : World} {g : Nat} {v : Value} {x : AV} {t : TypeId} {fz : Nat × Nat} (hg : W.heap[g]? = some (.cells #[v] t fz)) (h1 : v.oneCell' = true) (hv : VRel (· < W.heap.size) W (fun _ => none) v x) : GlobAt (· < W.heap.size) W g [x] := by
  have hlt : g < W.heap.size := (Array.getElem?_eq_some_iff.1 hg).1
  refine ⟨.pi (b := g) (o := 0) (fun _ => v) (fun _ => hlt) (fun j y hy => ?_) (fun j y hy => h1) (fun j y hy => ?_), hlt, _, _, _, hg, rfl⟩
  · have hj : j = 0 := by
      rcases j with _ | j
      · rfl
      · simp at hy
    subst hj
    simp [World.cell?, hg]
  · have hj : j = 0 := by
      rcases j with _ | j
      · rfl
      · simp at hy
    subst hj
    cases hy
    exact hv
theorem var_heap {P : Program} {W : World} {n : String} {g : Nat} {cs : Array Value} (hg : P.globalNamed n = some g) (h : W.var? P n = some cs) : ∃ t fz, W.heap[g]? = some (.cells cs t fz) := by
  unfold World.var? at h
  rw [hg] at h
  simp only [Option.bind_some] at h
  split at h
  · rename_i cs' t fz hh
    cases h
    exact ⟨t, fz, hh⟩
  · cases h
theorem star_err : "*" ++ "errors.errorString" = "*errors.errorString" := by decide
theorem errRow (u : TypeId) (h : Tryz.prog.typeName? 3 u = some "*errors.errorString") : u = 242 :=
  typeName_ptr_named (nm := "errors.errorString") (by rw [star_err]; kernel_rfl) (by kernel_rfl) (by decide) u (by rw [star_err]; exact h)
theorem err_glob {W : World} {n : String} {g : Nat} {text : List UInt8} {r : List (String × DataW Unit)} (hg : Tryz.prog.globalNamed n = some g) (ht : (Tryz.prog.globals[g]?).map (·.type) = some 145)
    (h : laidMet Tryz.prog ((n, .iface "*errors.errorString" (.ptr (.agg [.lit (.string text)]))) :: r) W) : GlobAt (· < W.heap.size) W g [.iface 242 .any] := by
  obtain ⟨ms, hi⟩ : ∃ ms, Tryz.prog.underlying 145 = some (.interface ms) := ⟨_, Tryz.underlying145⟩
  obtain ⟨f, he, f1, f2⟩ : ∃ f : Field, Tryz.prog.underlying 244 = some (.struct #[f]) ∧ f.type = 9 ∧ f.offset = 0 := ⟨_, Tryz.underlying244, rfl, rfl⟩
  obtain ⟨a, s, hv, -, -, -⟩ := laid_sentinel h hg ht hi errRow (show Tryz.prog.underlying 242 = some (.pointer 244) by kernel_rfl) he f1 f2 (show Tryz.prog.underlying 9 = some .string by kernel_rfl) (by kernel_rfl) (by kernel_rfl)
  obtain ⟨t, fz, hh⟩ := var_heap hg hv
  exact glob_one hh rfl (.iface .any)
theorem pow_tab {W : World} {l : List (String × DataW Unit)} (h : laidMet Tryz.prog l W) (hm : ("internal/strconv.uint64pow10", Lib.tabData .u64 Lib.pow10Tab) ∈ l) : Lib.TabIs Tryz.prog W "internal/strconv.uint64pow10" .u64 Lib.pow10Tab := by
  obtain ⟨g', t', cs, fuel, p, hg', ht', hvar, hd⟩ := Lib.laidMet.reads h hm
  obtain rfl := Option.some.inj ((show Tryz.prog.globalNamed "internal/strconv.uint64pow10" = some 3 by kernel_rfl).symm.trans hg')
  obtain rfl := Option.some.inj ((show (Tryz.prog.globals[3]?).map (·.type) = some 251 by kernel_rfl).symm.trans ht')
  unfold Lib.TabIs
  rw [hvar, ← Lib.cells_of_tab (n := 20) (e := 207) (by kernel_rfl) (by kernel_rfl) (by kernel_rfl) (by kernel_rfl) hd]
set_option linter.constructorNameAsVariable false in
theorem max_glob {W : World} (h : W.ShapedOpen Tryz.prog) : ∃ m : Int, GlobAt (· < W.heap.size) W 2 [vi m] := by
  obtain ⟨cs, h1, h2, h3⟩ := h.1 2 #[.int .i64 0] 3 (by decide +kernel) (by kernel_rfl)
  obtain ⟨ts, g1, -, g3⟩ := h3 (by kernel_rfl)
  obtain ⟨v, rfl⟩ : ∃ v, cs = #[v] := by
    have : cs.size = 1 := h2
    exact ⟨cs[0], Array.ext (by simp [this]) fun i h1 h2 => by
      have : i = 0 := by omega
      subst this
      rfl⟩
  obtain ⟨u, k1, k2⟩ := g3 0 v rfl
  have hts : ts = [3] := Option.some.inj (g1.symm.trans (show Tryz.prog.cellTypes Tryz.prog.depth 3 = some [3] by kernel_rfl))
  subst hts
  cases k1
  unfold Cell.ok at k2
  rw [show Tryz.prog.underlying 3 = some (.int .i64) by kernel_rfl] at k2
  cases v <;> try exact k2.elim
  obtain ⟨rfl, -⟩ := k2
  exact ⟨_, glob_one h1 rfl .sc⟩
theorem globs2 {W : World} (h : laidMetH Tryz.prog Rows.ratesTextsRow.laid W) (ho : W.ShapedOpen Tryz.prog) : ∃ m e0 e1, okE e0 ∧ okE e1 ∧ ∀ (g : Nat) (cells : List AV), G2 m e0 e1 g = some cells → GlobAt (· < W.heap.size) W g cells := by
  rw [MakeChecks.laidMetH_plain _ _ _ (by kernel_rfl)] at h
  obtain ⟨m, hm⟩ := max_glob ho
  have h5 := h.tail.tail.tail.tail
  have e1 := err_glob (n := "strconv.ErrRange") (g := 1) (by kernel_rfl) (by kernel_rfl) h5
  have e0 := err_glob (n := "strconv.ErrSyntax") (g := 0) (by kernel_rfl) (by kernel_rfl) h5.tail
  have hp := glob_of_tab (pow_tab h (List.mem_cons_of_mem _ (List.mem_cons_of_mem _ List.mem_cons_self)))
  refine ⟨m, .iface 242 .any, .iface 242 .any, .inr ⟨_, rfl⟩, .inr ⟨_, rfl⟩, fun g cells hg => ?_⟩
  match g, hg with
  | 0, hg => cases hg; exact e0
  | 1, hg => cases hg; exact e1
  | 2, hg => cases hg; exact hm
  | 3, hg => exact hp 3 cells hg
end Go.Proofs.Ax
