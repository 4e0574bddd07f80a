import Derived.Test.YtdfgphfijfocoaaGreatDoorRbPE
import Derived.Test.YtdfgphfijfocoaaGreatDoorAxH
import Derived.Test.YtdfgphfijfocoaaGreatDoorDivA
namespace Go.Proofs.Ax
open Go Go.Proofs
set_option maxRecDepth 10000
set_option maxHeartbeats 2000000
theorem tryd_okm (m n : Nat) : EC.Ok ⟨⟨Tryz.prog, G1, m, none⟩, n, Tryz.tab⟩ := ⟨fun t i h => TT.get_ok Tryz.tabOk t i h, enters, mixed⟩
structure Keyed (A S : Int) (w : List Int) : Prop where
  pos : 0 < S
  top : S ≤ 1099511627776
  lo : ∀ x ∈ w, 0 ≤ A * x
  hi : ∀ x ∈ w, A * x ≤ 4611686018427387904
/-- The blocks of a division. -/
def ix (n : Nat) : List AV := [vi n]
abbrev dH (A S : Int) (w : List Int) (t : Bool) (ps : List Int) (o : List Nat) : AH := [.rows [[vi A]] 3, .rows [[ints t w]] 85, .rows [[vi S]] 3, .rows (ps.map intRow) 3, .rows (o.map ix) 3]
abbrev dCl : AV := .fn (.func 124) [] [.pm 0 0 0, .pm 1 0 0, .pm 2 0 0]
theorem cmp_ok {A S : Int} {w : List Int} {t : Bool} {ps : List Int} {o : List Nat} (hk : Keyed A S w) {a b : Nat} (ha : a < w.length) (hb : b < w.length) :
    Ef Tryz.prog G1 124 [vi a, vi b, .pm 0 0 0, .pm 1 0 0, .pm 2 0 0] (dH A S w t ps o) fun y' H2 => y' = vi (key A S w b - key A S w a) ∧ H2 = dH A S w t ps o := by
  refine Ef.of_ev (T := Tryz.tab) (n := 25) (tryd_okm 5 _) rfl Tryz.func124 rfl rfl (by simp) ?_
  obtain ⟨h1, h2, h3, h4⟩ := hk
  have h3a := h3 _ (List.getElem_mem ha)
  have h3b := h3 _ (List.getElem_mem hb)
  have h4a := h4 _ (List.getElem_mem ha)
  have h4b := h4 _ (List.getElem_mem hb)
  have e1 : (A * w[a]).tmod S = key A S w a := by simp [key, ha, Int.tmod_eq_emod_of_nonneg h3a]
  have e2 : (A * w[b]).tmod S = key A S w b := by simp [key, hb, Int.tmod_eq_emod_of_nonneg h3b]
  have m1 := Int.tmod_nonneg S h3a
  have m2 := Int.tmod_nonneg S h3b
  have m3 := Int.tmod_lt_of_pos (A * w[a]) h1
  have m4 := Int.tmod_lt_of_pos (A * w[b]) h1
  ((conv => whnf); repeat' ((first | refine vv20 ?_ | refine SlIdxN.map _ rfl (by first | assumption | omega) ?_ | refine vv21 ?_ | refine vv25 ?_ | refine Need.mk (by first | assumption | omega | (simp <;> omega)) ?_ | refine DrawN.gen (by first | exact tryd_ok _ | exact tryd_okm _ _) (by kernel_rfl) ?_) <;> (conv => whnf)))
  exact ⟨⟨by rw [e1, e2], rfl⟩⟩
theorem key_bd {A S : Int} {w : List Int} (hk : Keyed A S w) (i : Nat) : 0 ≤ key A S w i ∧ key A S w i < 1099511627776 := by
  have := hk.pos
  have := hk.top
  have h1 := Int.emod_nonneg (A * w.getD i 0) (show S ≠ 0 by omega)
  have h2 := Int.emod_lt_of_pos (A * w.getD i 0) (show 0 < S by omega)
  unfold key
  omega
theorem WrapN.inU {a : Int} {k : Int → Prop} (h : 0 ≤ a ∧ a ≤ 9223372036854775807) (hk : k a) : WrapN .u64 a k := ⟨a, by
  show a % (2 ^ 64) = a
  omega, hk⟩
theorem shr_ok {E : EC} {t u : TypeId} {x y : Operand} {ty : TypeId} {l : Fr} {H : AH} {k : AV → AH → Prop} {a : Int} (hx : evo E l x = .sc (.int .u64 a)) (hy : evo E l y = .sc (.int .u64 1)) (hk : k (.sc (.int .u64 (a / 2))) H) : StepN E (.binOp .shr t x y u) ty l H k := by
  refine ⟨_, _, ?_, hk⟩
  rw [evo_eq E l H] at hx hy
  have h : val? (binOp BinOp.shr t (Value.int IntKind.u64 a) (Value.int IntKind.u64 1)) = some (.int .u64 (a / 2)) := by
    simp only [binOp, Op.shift]
    rw [if_neg (by omega)]
    show some (Value.int .u64 (a.fdiv (2 ^ 1))) = _
    rw [Int.fdiv_eq_ediv_of_nonneg a (by decide)]
    rfl
  simp only [astep, hx, hy, abin, h, Option.map_some]
/-! Rows of numbers, met where they lie. -/
inductive IxN (x : List AV) (K : Nat → Prop) : Prop
  | mk (n : Nat) (h : x = ix n) (hk : K n)
theorem RowN.row1 {A B : List Nat} {x j : Nat} {k : List AV → Prop} (h : A.length = j) (hk : k (ix x)) : RowN ((A ++ x :: B).map ix) j k := .raw (by subst h; simp) hk
theorem RowN.row2 {A B : List Nat} {y x j : Nat} {k : List AV → Prop} (h : A.length + 1 = j) (hk : k (ix x)) : RowN ((A ++ y :: x :: B).map ix) j k := .raw (by subst h; simp) hk
theorem rowB_get (A B C : List Nat) (y x : Nat) : (A ++ y :: (B ++ x :: C))[A.length + 1 + B.length]? = some x := by
  rw [show A ++ y :: (B ++ x :: C) = (A ++ y :: B) ++ x :: C by simp, List.getElem?_append_right (by simp; omega)]
  simp [show A.length + 1 + B.length - (A.length + (B.length + 1)) = 0 by omega]
theorem rowB_set (A B C : List Nat) (y x z : Nat) : (A ++ y :: (B ++ x :: C)).set (A.length + 1 + B.length) z = A ++ y :: (B ++ z :: C) := by
  rw [show A ++ y :: (B ++ x :: C) = (A ++ y :: B) ++ x :: C by simp, List.set_append_right _ _ (by simp; omega)]
  simp [show A.length + 1 + B.length - (A.length + (B.length + 1)) = 0 by omega]
theorem RowN.rowB {A B C : List Nat} {y x j : Nat} {k : List AV → Prop} (h : A.length + 1 + B.length = j) (hk : k (ix x)) : RowN ((A ++ y :: (B ++ x :: C)).map ix) j k := .raw (by subst h; rw [List.getElem?_map, rowB_get]; rfl) hk
theorem RowSN.rowX {o : List Nat} {x j : Nat} {k : List AV → (List AV → (List (List AV) → Prop) → Prop) → Prop} (o' : Nat → List Nat) (h : o[j]? = some x) (h' : ∀ z, o.set j z = o' z) (hk : k (ix x) fun r K => IxN r fun n => K ((o' n).map ix)) : RowSN (o.map ix) j k :=
  ⟨_, _, by rw [List.getElem?_map, h]; rfl, fun r K hh => by
    obtain ⟨n, rfl, hK⟩ := hh
    rw [← List.map_set, h']
    exact hK, hk⟩
theorem RowSN.row1 {A B : List Nat} {x j : Nat} {k : List AV → (List AV → (List (List AV) → Prop) → Prop) → Prop} (h : A.length = j) (hk : k (ix x) fun r K => IxN r fun n => K ((A ++ n :: B).map ix)) : RowSN ((A ++ x :: B).map ix) j k :=
  .rowX (fun n => A ++ n :: B) (by subst h; simp) (fun z => by subst h; simp) hk
theorem RowSN.row2 {A B : List Nat} {y x j : Nat} {k : List AV → (List AV → (List (List AV) → Prop) → Prop) → Prop} (h : A.length + 1 = j) (hk : k (ix x) fun r K => IxN r fun n => K ((A ++ y :: n :: B).map ix)) : RowSN ((A ++ y :: x :: B).map ix) j k :=
  .rowX (fun n => A ++ y :: n :: B) (by subst h; simp) (fun z => by subst h; rw [List.set_append_right _ _ (by omega)]; simp [show A.length + 1 - A.length = 1 by omega]) hk
theorem RowSN.rowB {A B C : List Nat} {y x j : Nat} {k : List AV → (List AV → (List (List AV) → Prop) → Prop) → Prop} (h : A.length + 1 + B.length = j) (hk : k (ix x) fun r K => IxN r fun n => K ((A ++ y :: (B ++ n :: C)).map ix)) : RowSN ((A ++ y :: (B ++ x :: C)).map ix) j k :=
  .rowX (fun n => A ++ y :: (B ++ n :: C)) (by subst h; exact rowB_get ..) (fun z => by subst h; exact rowB_set ..) hk
theorem dH_re {A S : Int} {w : List Int} {t : Bool} {ps : List Int} {o o' : List Nat} {l r : Fr} {n : Nat} (ho : o = o') (h : AllS id 5 l r) : Reabs ⟨Tryz.prog, G1, 5, none⟩ ⟨frm 0 l n, dH A S w t ps o⟩ ⟨frm 0 r n, dH A S w t ps o'⟩ := by
  subst ho
  refine Reabs.same h (fun b hb => ?_) (Nat.le_refl _)
  simp only [List.mem_cons, List.not_mem_nil, or_false] at hb
  rcases hb with rfl | rfl | rfl | rfl | rfl
  all_goals intro row hr x hx
  · simp only [List.mem_singleton] at hr; subst hr; simp only [List.mem_singleton] at hx; subst hx; rfl
  · simp only [List.mem_singleton] at hr; subst hr; simp only [List.mem_singleton] at hx; subst hx; rfl
  · simp only [List.mem_singleton] at hr; subst hr; simp only [List.mem_singleton] at hx; subst hx; rfl
  · obtain ⟨n, _, rfl⟩ := List.mem_map.1 hr; simp only [intRow, List.mem_singleton] at hx; subst hx; rfl
  · obtain ⟨n, _, rfl⟩ := List.mem_map.1 hr; simp only [ix, List.mem_singleton] at hx; subst hx; rfl
section
variable {A S : Int} {w : List Int} {t : Bool} {ps : List Int}
theorem swap_ok {X U M V Y : List Nat} {N : Nat} {a b n : Int} (ha : (X.length : Int) = a) (hU : (U.length : Int) = n) (hV : (V.length : Int) = n) (hb : ((X.length + U.length + M.length : Nat) : Int) = b) (hN : (X ++ U ++ M ++ V ++ Y).length = N) (hN2 : N ≤ 1000000) :
    Ef Tryz.prog G1 204 [.sm 4 1 0 N, vi a, vi b, vi n, dCl] (dH A S w t ps (X ++ U ++ M ++ V ++ Y)) fun y' H2 => y' = .tuple [] ∧ H2 = dH A S w t ps (X ++ V ++ M ++ U ++ Y) := by
  refine Ef.of_ev (T := Tryz.tab) (n := 38) (tryd_okm 5 _) rfl Tryz.func204 rfl rfl (by simp) ?_
  subst ha
  subst hb
  subst hU
  simp only [List.length_append] at hN
  (conv => whnf)
  refine LoopN.of4 (tryd_okm 5 _) (fun (U1 U2 V1 V2 : List Nat) => [(0, .sm 4 1 0 N), (1, vi X.length), (2, vi ((X.length + U.length + M.length : Nat) : Int)), (3, vi U.length), (10, vi U1.length)]) (fun U1 U2 V1 V2 => dH A S w t ps (X ++ V1 ++ U2 ++ M ++ U1 ++ V2 ++ Y)) (fun U1 U2 V1 V2 => U2.length)
    (fun U1 U2 V1 V2 => U = U1 ++ U2 ∧ V = V1 ++ V2 ∧ U1.length = V1.length) [] U [] V ⟨rfl, rfl, rfl⟩ (dH_re (by simp) (by repeat (first | exact trivial | refine ⟨.inr ⟨rfl, rfl⟩, ?_⟩))) ?_
  rintro U1 U2 V1 V2 ⟨hu, hv, he⟩
  have hul : U.length = U1.length + U2.length := by rw [hu]; simp
  have hvl : V.length = V1.length + V2.length := by rw [hv]; simp
  cases U2 with
  | nil =>
    cases V2 with
    | nil =>
      simp only [List.length_nil] at hul hvl
      ((conv => whnf); repeat' ((first | refine vv8 ?_) <;> (conv => whnf)))
      refine ⟨⟨rfl, ?_⟩⟩
      simp only [List.append_nil] at hu hv
      rw [hu, hv]
      simp
    | cons v V2 => simp only [List.length_nil, List.length_cons] at hul hvl; exfalso; omega
  | cons u U2 =>
    cases V2 with
    | nil => simp only [List.length_nil, List.length_cons] at hul hvl; exfalso; omega
    | cons v V2 =>
      simp only [List.length_cons] at hul hvl
      have e : X ++ V1 ++ u :: U2 ++ M ++ U1 ++ v :: V2 ++ Y = (X ++ V1) ++ u :: ((U2 ++ M ++ U1) ++ v :: (V2 ++ Y)) := by simp
      simp only [e]
      have hl : (X ++ V1).length = X.length + U1.length := by simp [he]
      have hm : (U2 ++ M ++ U1).length = U2.length + M.length + U1.length := by simp only [List.length_append]
      ((conv => whnf); repeat' ((first | refine RowN.row1 (by first | omega | (show _ = _ + 1; omega)) ?_ | refine RowN.rowB (by first | omega | (show _ = _ + 1; omega)) ?_ | refine RowSN.row1 (by first | omega | (show _ = _ + 1; omega)) ?_ | refine RowSN.rowB (by first | omega | (show _ = _ + 1; omega)) ?_ | refine IxN.mk _ rfl ?_ | refine vv7 ?_ | refine vv20 ?_ | refine IdxN.at0 _ rfl (by first | assumption | omega | (simp <;> omega)) ?_ | refine vv25 ?_ | refine DrawN.gen (by first | exact tryd_ok _ | exact tryd_okm _ _) (by kernel_rfl) ?_) <;> (conv => whnf)))
      exact BackN4.mk (U1 ++ [u]) U2 (V1 ++ [v]) V2 ⟨by simp [hu], by simp [hv], by simp [he]⟩ (by simp) (dH_re (by simp) (by repeat (first | exact trivial | refine ⟨.inr ⟨rfl, rfl⟩, ?_⟩ | refine ⟨.inr ⟨rfl, vi_eq (by first | omega | (simp; done) | (simp; omega))⟩, ?_⟩ | refine ⟨.inr ⟨rfl, smE rfl (by first | omega | (simp; done) | (simp; omega))⟩, ?_⟩)))
theorem rotate_ok {P B D R : List Nat} {N : Nat} {a m b : Int} (ha : (P.length : Int) = a) (hm : ((P.length + B.length : Nat) : Int) = m) (hb : ((P.length + B.length + D.length : Nat) : Int) = b) (hB : B ≠ []) (hD : D ≠ []) (hN : (P ++ B ++ D ++ R).length = N) (hN2 : N ≤ 1000000) :
    Ef Tryz.prog G1 193 [.sm 4 1 0 N, vi a, vi m, vi b, dCl] (dH A S w t ps (P ++ B ++ D ++ R)) fun y' H2 => y' = .tuple [] ∧ H2 = dH A S w t ps (P ++ D ++ B ++ R) := by
  refine Ef.of_ev (T := Tryz.tab) (n := 58) (tryd_okm 5 _) rfl Tryz.func193 rfl rfl (by simp) ?_
  subst ha
  subst hb
  simp only [List.length_append] at hN
  have hB' := List.length_pos_iff.2 hB
  have hD' := List.length_pos_iff.2 hD
  ((conv => whnf); repeat' ((first | refine vv20 ?_) <;> (conv => whnf)))
  refine LoopN.of4 (tryd_okm 5 _) (fun (X U V Y : List Nat) => [(0, .sm 4 1 0 N), (2, vi m), (4, dCl), (10, vi U.length), (11, vi V.length)]) (fun X U V Y => dH A S w t ps (X ++ U ++ V ++ Y)) (fun X U V Y => U.length + V.length)
    (fun X U V Y => X ++ V ++ U ++ Y = P ++ D ++ B ++ R ∧ ((X.length + U.length : Nat) : Int) = m ∧ 0 < U.length ∧ 0 < V.length) P B D R ⟨rfl, hm, hB', hD'⟩ (dH_re rfl (by repeat (first | exact trivial | refine ⟨.inr ⟨rfl, rfl⟩, ?_⟩ | refine ⟨.inr ⟨rfl, vi_eq (by first | omega | (simp; done) | (simp; omega))⟩, ?_⟩ | refine ⟨.inr ⟨rfl, smE rfl (by first | omega | (simp; done) | (simp; omega))⟩, ?_⟩))) ?_
  rintro X U V Y ⟨he, hm', hu, hv⟩
  have hl := congrArg List.length he
  simp only [List.length_append] at hl
  ((conv => whnf); repeat' ((first | refine vv11 (fun hbr => ?_) (fun hbr => ?_) | refine vv12 (fun hbr => ?_) (fun hbr => ?_) | refine vv20 ?_) <;> (conv => whnf)))
  case refine_1 =>
    have c := swap_ok (A := A) (S := S) (w := w) (t := t) (ps := ps) (X := X) (U := U) (M := []) (V := V) (Y := Y) (N := N) (a := m - U.length) (b := m) (n := U.length) (by omega) rfl (by omega) (by simp; omega) (by simp; omega) hN2
    simp only [List.append_nil] at c
    refine CallN.ef c ?_
    rintro y H' ⟨rfl, rfl⟩
    (conv => whnf)
    exact ⟨⟨rfl, by rw [he]⟩⟩
  case refine_2.refine_1 =>
    obtain ⟨U1, U2, rfl, hU1⟩ : ∃ U1 U2, U = U1 ++ U2 ∧ U1.length = V.length := ⟨U.take V.length, U.drop V.length, (List.take_append_drop ..).symm, by simp; omega⟩
    simp only [List.length_append] at *
    have c := swap_ok (A := A) (S := S) (w := w) (t := t) (ps := ps) (X := X) (U := U1) (M := U2) (V := V) (Y := Y) (N := N) (a := m - (U1.length + U2.length : Nat)) (b := m) (n := V.length) (by omega) (by omega) rfl (by omega) (by simp; omega) hN2
    rw [show X ++ U1 ++ U2 ++ V ++ Y = X ++ (U1 ++ U2) ++ V ++ Y by simp] at c
    refine CallN.ef c ?_
    rintro y H' ⟨rfl, rfl⟩
    ((conv => whnf); repeat' ((first | refine vv20 ?_) <;> (conv => whnf)))
    exact BackN4.mk (X ++ V) U2 U1 Y ⟨by rw [← he]; simp, (by first | omega | (simp; done) | (simp; omega)), by omega, by omega⟩ (by first | omega | (simp; done) | (simp; omega)) (dH_re rfl (by repeat (first | exact trivial | refine ⟨.inr ⟨rfl, rfl⟩, ?_⟩ | refine ⟨.inr ⟨rfl, vi_eq (by first | omega | (simp; done) | (simp; omega))⟩, ?_⟩ | refine ⟨.inr ⟨rfl, smE rfl (by first | omega | (simp; done) | (simp; omega))⟩, ?_⟩)))
  case refine_2.refine_2 =>
    obtain ⟨V1, V2, rfl, hV2⟩ : ∃ V1 V2, V = V1 ++ V2 ∧ V2.length = U.length := ⟨V.take (V.length - U.length), V.drop (V.length - U.length), (List.take_append_drop ..).symm, by simp; omega⟩
    simp only [List.length_append] at *
    have c := swap_ok (A := A) (S := S) (w := w) (t := t) (ps := ps) (X := X) (U := U) (M := V1) (V := V2) (Y := Y) (N := N) (a := m - U.length) (b := m + (V1.length + V2.length : Nat) - U.length) (n := U.length) (by omega) rfl (by omega) (by omega) (by simp; omega) hN2
    rw [show X ++ U ++ V1 ++ V2 ++ Y = X ++ U ++ (V1 ++ V2) ++ Y by simp] at c
    refine CallN.ef c ?_
    rintro y H' ⟨rfl, rfl⟩
    ((conv => whnf); repeat' ((first | refine vv20 ?_) <;> (conv => whnf)))
    exact BackN4.mk X V2 V1 (U ++ Y) ⟨by rw [← he]; simp, by omega, by omega, by omega⟩ (by first | omega | (simp; done) | (simp; omega)) (dH_re (by simp) (by repeat (first | exact trivial | refine ⟨.inr ⟨rfl, rfl⟩, ?_⟩ | refine ⟨.inr ⟨rfl, vi_eq (by first | omega | (simp; done) | (simp; omega))⟩, ?_⟩ | refine ⟨.inr ⟨rfl, smE rfl (by first | omega | (simp; done) | (simp; omega))⟩, ?_⟩)))
theorem insertion_ok {P M R : List Nat} {N : Nat} {a b : Int} (hk : Keyed A S w) (ha : (P.length : Int) = a) (hb : ((P.length + M.length : Nat) : Int) = b) (hM : M.Pairwise (· < ·)) (hw : ∀ x ∈ M, x < w.length) (hN : (P ++ M ++ R).length = N) (hN2 : N ≤ 1000000) :
    Ef Tryz.prog G1 167 [.sm 4 1 0 N, vi a, vi b, dCl] (dH A S w t ps (P ++ M ++ R)) fun y' H2 => y' = .tuple [] ∧ ∃ M' : List Nat, M'.Perm M ∧ M'.Pairwise (bef (key A S w)) ∧ H2 = dH A S w t ps (P ++ M' ++ R) := by
  refine Ef.of_ev (T := Tryz.tab) (n := 53) (tryd_okm 5 _) rfl Tryz.func167 rfl rfl (by simp) ?_
  subst ha
  subst hb
  simp only [List.length_append] at hN
  ((conv => whnf); repeat' ((first | refine vv20 ?_) <;> (conv => whnf)))
  cases M with
  | nil =>
    simp only [List.length_nil] at hN
    refine LoopN.of (tryd_okm 5 _) (fun (i : Nat) => [(0, .sm 4 1 0 N), (1, vi P.length), (2, vi ((P.length + 0 : Nat) : Int)), (3, dCl), (8, vi ((P.length : Int) + 1))]) (fun _ => dH A S w t ps (P ++ [] ++ R)) (fun _ => 0) (fun _ => True) 0 trivial (dH_re rfl (by repeat (first | exact trivial | refine ⟨.inr ⟨rfl, rfl⟩, ?_⟩ | refine ⟨.inr ⟨rfl, vi_eq (by first | omega | (simp; done) | (simp; omega))⟩, ?_⟩ | refine ⟨.inr ⟨rfl, smE rfl (by first | omega | (simp; done) | (simp; omega))⟩, ?_⟩))) ?_
    intro i _
    ((conv => whnf); repeat' ((first | refine vv8 ?_) <;> (conv => whnf)))
    exact ⟨⟨rfl, [], .refl _, .nil, rfl⟩⟩
  | cons x0 M0 =>
    simp only [List.length_cons] at hN
    refine LoopN.of3 (tryd_okm 5 _) (fun (i : Nat) (D F : List Nat) => [(0, .sm 4 1 0 N), (1, vi P.length), (2, vi ((P.length + (M0.length + 1) : Nat) : Int)), (3, dCl), (8, vi i)]) (fun i D F => dH A S w t ps (P ++ D ++ F ++ R)) (fun i D F => F.length)
      (fun i D F => P.length + D.length = i ∧ (D ++ F).Perm (x0 :: M0) ∧ D.Pairwise (bef (key A S w)) ∧ F.Pairwise (· < ·) ∧ (∀ x ∈ D, ∀ y ∈ F, x < y) ∧ 0 < D.length) (P.length + 1) [x0] M0 ⟨rfl, .refl _, by simp, (List.pairwise_cons.1 hM).2, by simpa using (List.pairwise_cons.1 hM).1, by simp⟩ (dH_re (by simp) (by repeat (first | exact trivial | refine ⟨.inr ⟨rfl, rfl⟩, ?_⟩ | refine ⟨.inr ⟨rfl, vi_eq (by first | omega | (simp; done) | (simp; omega))⟩, ?_⟩ | refine ⟨.inr ⟨rfl, smE rfl (by first | omega | (simp; done) | (simp; omega))⟩, ?_⟩))) ?_
    rintro i D F ⟨h0, h1, h2, h3, h4, h5⟩
    have hl := h1.length_eq
    simp only [List.length_append, List.length_cons] at hl
    cases F with
    | nil =>
      simp only [List.length_nil] at hl
      ((conv => whnf); repeat' ((first | refine vv8 ?_) <;> (conv => whnf)))
      simp only [List.append_nil] at h1
      exact ⟨⟨rfl, D, h1, h2, by simp⟩⟩
    | cons x F =>
      simp only [List.length_cons] at hl
      have hwD : ∀ y ∈ D ++ x :: F, y < w.length := fun y hy => hw y (h1.mem_iff.1 hy)
      have hxw : x < w.length := hwD x (by simp)
      have hkx := key_bd hk x
      ((conv => whnf); repeat' ((first | refine vv7 ?_) <;> (conv => whnf)))
      refine LoopN.of3 (tryd_okm 5 _) (fun (j : Nat) (L1 L2 : List Nat) => [(0, .sm 4 1 0 N), (1, vi P.length), (2, vi ((P.length + (M0.length + 1) : Nat) : Int)), (3, dCl), (8, vi i), (9, vi j)]) (fun j L1 L2 => dH A S w t ps (P ++ L1 ++ x :: L2 ++ F ++ R)) (fun j L1 L2 => L1.length)
        (fun j L1 L2 => P.length + L1.length = j ∧ D = L1 ++ L2 ∧ ∀ y ∈ L2, key A S w y < key A S w x) i D [] ⟨h0, by simp, by simp⟩ (dH_re (by simp) (by repeat (first | exact trivial | refine ⟨.inr ⟨rfl, rfl⟩, ?_⟩ | refine ⟨.inr ⟨rfl, vi_eq (by first | omega | (simp; done) | (simp; omega))⟩, ?_⟩ | refine ⟨.inr ⟨rfl, smE rfl (by first | omega | (simp; done) | (simp; omega))⟩, ?_⟩))) ?_
      rintro j L1 L2 ⟨g0, rfl, g2⟩
      simp only [List.length_append] at hl h5 h0
      have fin : (∀ y ∈ L1, key A S w x ≤ key A S w y) → (L1 ++ x :: L2).Pairwise (bef (key A S w)) ∧ ∀ y ∈ L1 ++ x :: L2, ∀ z ∈ F, y < z := by
        intro hy
        have hp := List.pairwise_append.1 h2
        have hxF := (List.pairwise_cons.1 h3).1
        refine ⟨List.pairwise_append.2 ⟨hp.1, List.pairwise_cons.2 ⟨fun y hy' => .inl (g2 y hy'), hp.2.1⟩, fun y hy' z hz => ?_⟩, fun y hy' z hz => ?_⟩
        · rcases List.mem_cons.1 hz with rfl | hz
          · have := hy y hy'
            have := h4 y (List.mem_append_left _ hy') z (by simp)
            unfold bef; omega
          · exact hp.2.2 y hy' z hz
        · rcases List.mem_append.1 hy' with h | h
          · exact h4 y (List.mem_append_left _ h) z (List.mem_cons_of_mem _ hz)
          · rcases List.mem_cons.1 h with rfl | h
            · exact hxF z hz
            · exact h4 y (List.mem_append_right _ h) z (List.mem_cons_of_mem _ hz)
      have hpm : (L1 ++ x :: L2 ++ F).Perm (x0 :: M0) := by
        refine List.Perm.trans ?_ h1
        rw [List.append_assoc, List.append_assoc]
        refine List.Perm.append_left L1 ?_
        exact (List.perm_middle (a := x) (l₁ := L2) (l₂ := F)).symm
      rcases List.eq_nil_or_concat L1 with rfl | ⟨L, y, rfl⟩
      · simp only [List.length_nil] at g0 hl h5 h0
        ((conv => whnf); repeat' ((first | refine vv2 ?_ | refine vv8 ?_ | refine vv20 ?_ | refine vv25 ?_ | refine DrawN.gen (by first | exact tryd_ok _ | exact tryd_okm _ _) (by kernel_rfl) ?_) <;> (conv => whnf)))
        obtain ⟨f1, f2⟩ := fin (by simp)
        exact BackN3.mk (i + 1) ([] ++ x :: L2) F ⟨by simp; omega, hpm, f1, (List.pairwise_cons.1 h3).2, f2, by simp⟩ (by simp) (dH_re (by simp) (by repeat (first | exact trivial | refine ⟨.inr ⟨rfl, rfl⟩, ?_⟩ | refine ⟨.inr ⟨rfl, vi_eq (by first | omega | (simp; done) | (simp; omega))⟩, ?_⟩ | refine ⟨.inr ⟨rfl, smE rfl (by first | omega | (simp; done) | (simp; omega))⟩, ?_⟩)))
      · rw [List.concat_eq_append] at *
        simp only [List.length_append, List.length_cons, List.length_nil] at g0 hl h5 h0
        have e : P ++ (L ++ [y]) ++ x :: L2 ++ F ++ R = (P ++ L) ++ y :: x :: (L2 ++ F ++ R) := by simp
        have hlA : (P ++ L).length = P.length + L.length := by simp
        have hyw : y < w.length := hwD y (by simp)
        have hky := key_bd hk y
        simp only [e]
        ((conv => whnf); repeat' ((first | refine RowN.row2 (by first | omega | (show _ = _ + 1; omega)) ?_ | refine RowN.row1 (by first | omega | (show _ = _ + 1; omega)) ?_ | refine RowSN.row2 (by first | omega | (show _ = _ + 1; omega)) ?_ | refine RowSN.row1 (by first | omega | (show _ = _ + 1; omega)) ?_ | refine IxN.mk _ rfl ?_ | refine vv7 ?_ | refine vv11 (fun hbr => ?_) (fun hbr => ?_) | refine vv20 ?_ | refine IdxN.at0 _ rfl (by first | assumption | omega | (simp <;> omega)) ?_ | refine vv25 ?_ | refine DrawN.gen (by first | exact tryd_ok _ | exact tryd_okm _ _) (by kernel_rfl) ?_ | refine vv26 ?_ | refine GCallN.ef (cmp_ok hk hxw hyw) ?_) <;> (conv => whnf)))
        case refine_1 =>
          refine BackN3.mk (j - 1) L (y :: L2) ⟨by omega, by simp, fun z hz => ?_⟩ (by simp) (dH_re (by simp) (by repeat (first | exact trivial | refine ⟨.inr ⟨rfl, rfl⟩, ?_⟩ | refine ⟨.inr ⟨rfl, vi_eq (by first | omega | (simp; done) | (simp; omega))⟩, ?_⟩ | refine ⟨.inr ⟨rfl, smE rfl (by first | omega | (simp; done) | (simp; omega))⟩, ?_⟩)))
          rcases List.mem_cons.1 hz with rfl | hz
          · omega
          · exact g2 z hz
        case refine_2 =>
          obtain ⟨f1, f2⟩ := fin (fun z hz => by
            rcases List.mem_append.1 hz with hz | hz
            · have := ((List.pairwise_append.1 ((List.pairwise_append.1 h2).1)).2.2 z hz y (by simp)).key
              omega
            · rw [List.mem_singleton.1 hz]; omega)
          exact BackN3.mk (i + 1) ((L ++ [y]) ++ x :: L2) F ⟨by simp; omega, hpm, f1, (List.pairwise_cons.1 h3).2, f2, by simp; omega⟩ (by simp) (dH_re (by simp) (by repeat (first | exact trivial | refine ⟨.inr ⟨rfl, rfl⟩, ?_⟩ | refine ⟨.inr ⟨rfl, vi_eq (by first | omega | (simp; done) | (simp; omega))⟩, ?_⟩ | refine ⟨.inr ⟨rfl, smE rfl (by first | omega | (simp; done) | (simp; omega))⟩, ?_⟩)))
end
end Go.Proofs.Ax
