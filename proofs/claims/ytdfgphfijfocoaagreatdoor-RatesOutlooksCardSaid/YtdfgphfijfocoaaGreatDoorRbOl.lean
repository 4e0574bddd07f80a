import Derived.Test.YtdfgphfijfocoaaGreatDoorRbD
namespace Go.Proofs.Ax
open Go Go.Proofs
set_option maxRecDepth 10000
set_option maxHeartbeats 4000000
theorem StepN.shl1 {E : EC} {t u : TypeId} {x y : Operand} {ty : TypeId} {l : Fr} {H : AH} {k : AV → AH → Prop} {d : Nat} (hx : evo E l x = vi 1) (hy : evo E l y = vi (d : Int)) (hd : d ≤ 40) (hk : k (vi ((2 ^ d : Nat) : Int)) H) : StepN E (.binOp .shl t x y u) ty l H k := by
  refine ⟨_, _, ?_, hk⟩
  rw [evo_eq E l H] at hx hy
  have hp : 2 ^ d ≤ 2 ^ 40 := Nat.pow_le_pow_right (by decide) hd
  have hp0 : 0 < 2 ^ d := Nat.two_pow_pos d
  have h : val? (binOp BinOp.shl t (Value.int IntKind.i64 1) (Value.int IntKind.i64 (d : Int))) = some (.int .i64 ((2 ^ d : Nat) : Int)) := by
    simp only [binOp, Op.shift]
    rw [if_neg (by omega)]
    show some (Value.int .i64 (IntKind.i64.wrap (1 * 2 ^ (min (d : Int).toNat 64)))) = _
    rw [show min (d : Int).toNat 64 = d by omega, Int.one_mul, show (2 : Int) ^ d = ((2 ^ d : Nat) : Int) by simp, wrapI ⟨by omega, by omega⟩]
  simp only [astep, hx, hy, abin, h, Option.map_some]
theorem StepN.shrN {E : EC} {t u : TypeId} {x y : Operand} {ty : TypeId} {l : Fr} {H : AH} {k : AV → AH → Prop} {b d : Nat} (hx : evo E l x = vi (b : Int)) (hy : evo E l y = vi (d : Int)) (hd : d ≤ 60) (hk : k (vi ((b / 2 ^ d : Nat) : Int)) H) : StepN E (.binOp .shr t x y u) ty l H k := by
  refine ⟨_, _, ?_, hk⟩
  rw [evo_eq E l H] at hx hy
  have h : val? (binOp BinOp.shr t (Value.int IntKind.i64 (b : Int)) (Value.int IntKind.i64 (d : Int))) = some (.int .i64 ((b / 2 ^ d : Nat) : Int)) := by
    simp only [binOp, Op.shift]
    rw [if_neg (by omega)]
    show some (Value.int .i64 ((b : Int).fdiv (2 ^ (min (d : Int).toNat 64)))) = _
    rw [show min (d : Int).toNat 64 = d by omega, Int.fdiv_eq_ediv_of_nonneg _ (by exact_mod_cast Nat.zero_le _)]
    simp
  simp only [astep, hx, hy, abin, h, Option.map_some]
theorem StepN.and1 {E : EC} {t u : TypeId} {x y : Operand} {ty : TypeId} {l : Fr} {H : AH} {k : AV → AH → Prop} {a : Int} (hx : evo E l x = vi a) (hy : evo E l y = vi 1) (hk : k (vi (a % 2)) H) : StepN E (.binOp .and t x y u) ty l H k := by
  refine ⟨_, _, ?_, hk⟩
  rw [evo_eq E l H] at hx hy
  have h : val? (binOp BinOp.and t (Value.int IntKind.i64 a) (Value.int IntKind.i64 1)) = some (.int .i64 (a % 2)) := by
    simp only [binOp]
    rw [if_neg (by simp)]
    simp only [Op.intBits]
    show some (Value.int .i64 (IntKind.i64.wrap (((BitVec.ofInt 64 a) &&& (BitVec.ofInt 64 1)).toNat : Int))) = _
    have e : (((BitVec.ofInt 64 a) &&& (BitVec.ofInt 64 1)).toNat : Int) = a % 2 := by
      rw [BitVec.toNat_and, BitVec.toNat_ofInt, BitVec.toNat_ofInt]
      rw [show (1 % ((2 ^ 64 : Nat) : Int)).toNat = 1 by decide, Nat.and_one_is_mod]
      omega
    rw [e, wrapI ⟨by omega, by omega⟩]
  simp only [astep, hx, hy, abin, h, Option.map_some]
noncomputable def as36 : Code := match Tryz.f20.body with
  | some c => match rfOf c with
    | some (a, _) => a
    | none => .skip
  | none => .skip
noncomputable def bd36 : Code := match Tryz.f20.body with
  | some c => match rfOf c with
    | some (_, b) => b
    | none => .skip
  | none => .skip
/-- The frame of Outlook at its inner range. -/
abbrev fl36 (t u : Bool) (ps : List Policy) (l : List Round) (n : Int) (len : Nat) (op : List Int) (f : Bool) (D b : Nat) : Fr := [(0, policies t ps), (1, rounds u l), (5, .pm 0 0 0), (6, .pm 1 0 0), (9, .pm 2 0 0), (10, vi n), (11, .pm 3 0 0), (13, .sm 4 4 0 len), (16, ints false op), (17, vb f), (18, .pm 5 0 0), (22, .pm 6 0 0), (67, vi (D : Int)), (68, vi (b : Int)), (95, .fn (.func 104) [] [.pm 7 0 0, .pm 8 0 0, .pm 9 0 0])]
structure OC where
  s : Span
  c0 : Int
  c1 : Int
  p : Policy
  cur : List Round
  x : Int
  y : Int
  n : Int
  fl : Fr
abbrev H36 (c : OC) (acc : Int) : AH := [.rows [c.s.enc] 25, .rows [[vi 0, vi 0]] 25, .rows [[vi c.c0, vi c.c1]] 25, .rows [c.p.enc] 105, .rows (c.cur.map Round.enc) 87, .rows [[vi c.x, vi c.y]] 25, .rows [[vi acc]] 3, .rows [c.p.enc] 105, .rows [[vi c.n]] 3, .rows [[.sm 4 4 0 c.cur.length]] 23]
noncomputable abbrev L36 (c : OC) (acc : Int) : AH := H36 c acc ++ [.loop .ready none (frm 0 c.fl 127) #[96] as36 bd36]
abbrev fr78b : Fr := [(0, .yl 10), (1, .pm 7 0 0), (2, .pm 8 0 0), (3, .pm 9 0 0)]
theorem tryd_okr (m n : Nat) (r : Option Nat) : EC.Ok ⟨⟨Tryz.prog, G1, m, r⟩, n, Tryz.tab⟩ := ⟨fun t i h => TT.get_ok Tryz.tabOk t i h, enters, mixed⟩
theorem of2_ok (c : OC) (hp : c.p.ok) (hn : 0 ≤ c.n ∧ c.n ≤ 20000) (hl : ∀ r ∈ c.cur, r.ok) (hmax : c.cur.length ≤ 1000) (t u : Bool) (ps : List Policy) (l : List Round) (n : Int) (len : Nat) (op : List Int) (f : Bool) (D b : Nat) (hfl : c.fl = fl36 t u ps l n len op f D b) :
    Ef Tryz.prog G1 104 [.yl 10, .pm 7 0 0, .pm 8 0 0, .pm 9 0 0] (L36 c 0) fun y H' => y = .tuple [] ∧ H' = L36 c (-(bal (nightOf c.p c.n c.cur) (-1))) := by
  obtain ⟨s, c0, c1, p, cur, x, y, n', fl⟩ := c
  simp only at hp hn hl hmax hfl
  subst hfl
  refine Ef.reabs (Ef.of_code (T := Tryz.tab) (n := 46) (tryd_okm 11 _) rfl Tryz.func104 rfl rfl (by simp) ?_)
  refine CodeN.cut (tryd_okm 11 _) (fun (_ : Unit) => (21, vb false) :: fr78b) (fun _ => L36 ⟨s, c0, c1, p, cur, x, y, n', fl36 t u ps l n len op f D b⟩ (-(bal (baseL p n') (-1)))) (fun _ => True) ?_ ?_
  · by_cases hb : 0 < p.base
    · have e0 : baseL p n' = [⟨n', 0, -1, -2, p.base⟩] := if_pos hb
      have e1 : bal (baseL p n') (-1) = -p.base := by rw [e0]; simp [bal, change]
      have e2 : change ⟨n', 0, -1, -2, p.base⟩ (-1) = -p.base := by simp [change]
      have hpo := hp
      unfold Policy.ok at hpo
      have hch := change_ok ⟨n', 0, -1, -2, p.base⟩ (-1) ⟨by simp only; omega, by simp only; omega⟩
      rw [e2] at hch
      rw [e1]
      ((conv => whnf); repeat' ((first | refine OpN.yl (tryd_okm 11 _) rfl rfl rfl ?_ | refine DrawN.gen (tryd_okr _ _ _) (by kernel_rfl) ?_ | refine vv2 ?_ | refine vv3 ?_ | refine vv20 ?_ | refine vv21 ?_ | refine vv22 ?_ | refine vv25 ?_ | refine GCallN.pure _ (hch) ?_) <;> (conv => whnf)))
      exact JoinN.mk () trivial (Reabs.frmM [0, 1, 2, 3, 4, 5, 6, 7, 8, 9, 10] (by repeat (first | exact trivial | refine ⟨.inr ⟨rfl, rfl⟩, ?_⟩)) (by exact ⟨⟨_, rfl, blkDeep rfl (deepLit rfl), fun _ => rfl⟩, ⟨_, rfl, blkDeep rfl (deepLit rfl), fun _ => rfl⟩, ⟨_, rfl, blkDeep rfl (deepLit rfl), fun _ => rfl⟩, ⟨_, rfl, blkDeep rfl (deepLit rfl), fun _ => rfl⟩, ⟨_, rfl, blkDeep rfl (deepMap (fun _ => rfl)), fun _ => rfl⟩, ⟨_, rfl, blkDeep rfl (deepLit rfl), fun _ => rfl⟩, ⟨_, rfl, blkDeep (by congr 3; exact congrArg vi (by omega)) (deepLit rfl), fun _ => rfl⟩, ⟨_, rfl, blkDeep rfl (deepLit rfl), fun _ => rfl⟩, ⟨_, rfl, blkDeep rfl (deepLit rfl), fun _ => rfl⟩, ⟨_, rfl, blkOk rfl rfl, fun _ => rfl⟩, ⟨_, rfl, blkLoop rfl rfl, fun _ => rfl⟩, trivial⟩) rfl rfl)
    · have e0 : baseL p n' = [] := if_neg hb
      rw [e0]
      ((conv => whnf); repeat' ((first | refine vv2 ?_ | refine vv4 ?_ | refine vv21 ?_) <;> (conv => whnf)))
      exact JoinN.mk () trivial (Reabs.frmM [0, 1, 2, 3, 4, 5, 6, 7, 8, 9, 10] (by repeat (first | exact trivial | refine ⟨.inr ⟨rfl, rfl⟩, ?_⟩)) (by repeat (first | exact trivial | refine ⟨⟨_, rfl, (by first | exact blkDead | exact blkDeep rfl (deepLit rfl) | exact blkDeep rfl (deepMap (fun _ => rfl)) | exact blkOk rfl rfl | exact blkLoop rfl rfl), (by first | exact fun _ => rfl | exact fun h => (by cases h))⟩, ?_⟩)) rfl rfl)
  rintro _ -
  refine CodeN.of_ev (tryd_okm 11 _) ?_
  ((conv => whnf); repeat' ((first | refine vv21 ?_) <;> (conv => whnf)))
  refine LoopN.of (tryd_okm 11 _) (fun (k : Nat) => (5, .pm 11 0 0) :: (22, .sm 4 4 0 cur.length) :: (23, vi cur.length) :: (24, vi k) :: fr78b) (fun k => L36 ⟨s, c0, c1, p, cur, x, y, n', fl36 t u ps l n len op f D b⟩ (-(bal (nightSt p n' (cur.take k)).out (-1))) ++ [.rows [[vi (nightSt p n' (cur.take k)).cr, vi (nightSt p n' (cur.take k)).ch]] 157]) (fun k => cur.length - k) (fun k => k ≤ cur.length) 0 (Nat.zero_le _) (Reabs.frmM [0, 1, 2, 3, 4, 5, 6, 7, 8, 9, 10, 11] (by repeat (first | exact trivial | refine ⟨.inr ⟨rfl, rfl⟩, ?_⟩ | refine ⟨.inr ⟨rfl, vi_eq (by first | omega | (simp; done) | (simp; omega))⟩, ?_⟩ | refine ⟨.inr ⟨rfl, smE rfl (by first | omega | (simp; done) | (simp; omega))⟩, ?_⟩)) (by repeat (first | exact trivial | refine ⟨⟨_, rfl, (by first | exact blkDead | exact blkDeep rfl (deepLit rfl) | exact blkDeep rfl (deepMap (fun _ => rfl)) | exact blkOk rfl rfl | exact blkLoop rfl rfl), (by first | exact fun _ => rfl | exact fun h => (by cases h))⟩, ?_⟩)) rfl rfl) ?_
  intro k hk
  have nok := nok_st hp hn hl k hk
  have nlen := nok.len
  by_cases hlt : k < cur.length
  · have hst := nightSt_succ (p := p) (n := n') hlt
    have hr := hl _ (List.getElem_mem hlt)
    generalize nightSt p n' (cur.take k) = st at *
    by_cases hnn : cur[k].night = n'
    · obtain ⟨g1, g2, -⟩ := roundL_ok hp hr nok.cr nok.ch
      have hri := fun H hi => round_in hp hr nok.cr nok.ch H 11 hi
      ((conv => whnf); repeat' ((first | refine CallN.efD (hri _ rfl) ?_ | refine vv5 ?_ | refine vv7 ?_ | refine IdxN.at0 _ rfl (by first | assumption | omega | (simp <;> omega)) ?_ | refine vv21 ?_ | refine RowN.map (by first | assumption | omega) ?_ | refine vv22 ?_ | refine vv23 ?_) <;> (conv => whnf)))
      have hst' : nightSt p n' (cur.take (k + 1)) = ⟨st.out ++ roundL p cur[k] st.cr st.ch, crOf p cur[k] st.cr, chOf p cur[k] st.ch⟩ := by rw [hst, stepN, if_pos hnn]
      clear hri
      generalize roundL p cur[k] st.cr st.ch = rl at *
      generalize crOf p cur[k] st.cr = cr' at *
      generalize chOf p cur[k] st.ch = ch' at *
      refine LoopN.of (tryd_okm 11 _) (fun (j : Nat) => (5, .pm 11 0 0) :: (22, .sm 4 4 0 cur.length) :: (23, vi cur.length) :: (24, vi k) :: (34, postings false rl) :: (35, vi rl.length) :: (36, vi j) :: fr78b) (fun j => L36 ⟨s, c0, c1, p, cur, x, y, n', fl36 t u ps l n len op f D b⟩ (-(bal (st.out ++ rl.take j) (-1))) ++ [.rows [[vi cr', vi ch']] 157]) (fun j => rl.length - j) (fun j => j ≤ rl.length) 0 (Nat.zero_le _) ?_ ?_
      · rw [List.take_zero, List.append_nil]
        exact (Reabs.frmM [0, 1, 2, 3, 4, 5, 6, 7, 8, 9, 10, 11] (by repeat (first | exact trivial | refine ⟨.inr ⟨rfl, rfl⟩, ?_⟩ | refine ⟨.inr ⟨rfl, vi_eq (by first | omega | (simp; done) | (simp; omega))⟩, ?_⟩ | refine ⟨.inr ⟨rfl, smE rfl (by first | omega | (simp; done) | (simp; omega))⟩, ?_⟩)) (by repeat (first | exact trivial | refine ⟨⟨_, rfl, (by first | exact blkDead | exact blkDeep rfl (deepLit rfl) | exact blkDeep rfl (deepMap (fun _ => rfl)) | exact blkOk rfl rfl | exact blkLoop rfl rfl), (by first | exact fun _ => rfl | exact fun h => (by cases h))⟩, ?_⟩)) rfl rfl)
      intro j hj
      have hlen : (st.out ++ rl.take j).length ≤ 6000 := by simp only [List.length_append, List.length_take]; omega
      have hoks : ∀ q ∈ st.out ++ rl.take j, q.ok := fun q hq => by
        rcases List.mem_append.1 hq with hq | hq
        · exact (nok.out q hq).1
        · exact (g1 q (List.mem_of_mem_take hq)).1
      have hbd := bal_bd hoks (-1)
      by_cases hjl : j < rl.length
      · have htk : bal (st.out ++ rl.take (j + 1)) (-1) = bal (st.out ++ rl.take j) (-1) + change rl[j] (-1) := by rw [take_succ_snoc hjl, ← List.append_assoc, bal_snoc]
        have hxo := (g1 _ (List.getElem_mem hjl)).1
        have hcb := change_bd hxo (-1)
        have hamt : 1 ≤ rl[j].amount ∧ rl[j].amount ≤ 1099511627776 := hxo.2.2.2.2.2
        have hch := change_ok rl[j] (-1) (by omega)
        ((conv => whnf); repeat' ((first | refine OpN.yl (tryd_okm 11 _) rfl rfl rfl ?_ | refine DrawN.gen (tryd_okr _ _ _) (by kernel_rfl) ?_ | refine vv2 ?_ | refine vv7 ?_ | refine vv20 ?_ | refine SlIdxN.map _ rfl (by first | assumption | omega) ?_ | refine vv21 ?_ | refine vv22 ?_ | refine vv25 ?_ | refine GCallN.pure _ (hch) ?_) <;> (conv => whnf)))
        refine BackN.mk (j + 1) (by omega) (by omega) ?_
        simp only [htk]
        exact (Reabs.frmM [0, 1, 2, 3, 4, 5, 6, 7, 8, 9, 10, 11] (by repeat (first | exact trivial | refine ⟨.inr ⟨rfl, rfl⟩, ?_⟩ | refine ⟨.inr ⟨rfl, vi_eq (by first | omega | (simp; done) | (simp; omega))⟩, ?_⟩ | refine ⟨.inr ⟨rfl, smE rfl (by first | omega | (simp; done) | (simp; omega))⟩, ?_⟩)) (by exact ⟨⟨_, rfl, blkDeep rfl (deepLit rfl), fun _ => rfl⟩, ⟨_, rfl, blkDeep rfl (deepLit rfl), fun _ => rfl⟩, ⟨_, rfl, blkDeep rfl (deepLit rfl), fun _ => rfl⟩, ⟨_, rfl, blkDeep rfl (deepLit rfl), fun _ => rfl⟩, ⟨_, rfl, blkDeep rfl (deepMap (fun _ => rfl)), fun _ => rfl⟩, ⟨_, rfl, blkDeep rfl (deepLit rfl), fun _ => rfl⟩, ⟨_, rfl, blkDeep (by congr 3; exact congrArg vi (by omega)) (deepLit rfl), fun _ => rfl⟩, ⟨_, rfl, blkDeep rfl (deepLit rfl), fun _ => rfl⟩, ⟨_, rfl, blkDeep rfl (deepLit rfl), fun _ => rfl⟩, ⟨_, rfl, blkOk rfl rfl, fun _ => rfl⟩, ⟨_, rfl, blkLoop rfl rfl, fun _ => rfl⟩, ⟨_, rfl, blkDeep rfl (deepLit rfl), fun _ => rfl⟩, trivial⟩) rfl rfl)
      · ((conv => whnf); repeat' ((first | refine vv8 ?_ | refine vv20 ?_) <;> (conv => whnf)))
        refine BackN.mk (k + 1) (by omega) (by omega) ?_
        simp only [hst']
        rw [List.take_of_length_le (by omega)]
        exact (Reabs.frmM [0, 1, 2, 3, 4, 5, 6, 7, 8, 9, 10, 11] (by repeat (first | exact trivial | refine ⟨.inr ⟨rfl, rfl⟩, ?_⟩ | refine ⟨.inr ⟨rfl, vi_eq (by first | omega | (simp; done) | (simp; omega))⟩, ?_⟩ | refine ⟨.inr ⟨rfl, smE rfl (by first | omega | (simp; done) | (simp; omega))⟩, ?_⟩)) (by repeat (first | exact trivial | refine ⟨⟨_, rfl, (by first | exact blkDead | exact blkDeep rfl (deepLit rfl) | exact blkDeep rfl (deepMap (fun _ => rfl)) | exact blkOk rfl rfl | exact blkLoop rfl rfl), (by first | exact fun _ => rfl | exact fun h => (by cases h))⟩, ?_⟩)) rfl rfl)
    · ((conv => whnf); repeat' ((first | refine vv6 ?_ | refine vv7 ?_ | refine vv20 ?_ | refine IdxN.at0 _ rfl (by first | assumption | omega | (simp <;> omega)) ?_ | refine vv21 ?_ | refine RowN.map (by first | assumption | omega) ?_ | refine vv22 ?_) <;> (conv => whnf)))
      have hst' : nightSt p n' (cur.take (k + 1)) = st := by rw [hst, stepN, if_neg hnn]
      refine BackN.mk (k + 1) (by omega) (by omega) ?_
      simp only [hst']
      exact (Reabs.frmM [0, 1, 2, 3, 4, 5, 6, 7, 8, 9, 10, 11] (by repeat (first | exact trivial | refine ⟨.inr ⟨rfl, rfl⟩, ?_⟩ | refine ⟨.inr ⟨rfl, vi_eq (by first | omega | (simp; done) | (simp; omega))⟩, ?_⟩ | refine ⟨.inr ⟨rfl, smE rfl (by first | omega | (simp; done) | (simp; omega))⟩, ?_⟩)) (by repeat (first | exact trivial | refine ⟨⟨_, rfl, (by first | exact blkDead | exact blkDeep rfl (deepLit rfl) | exact blkDeep rfl (deepMap (fun _ => rfl)) | exact blkOk rfl rfl | exact blkLoop rfl rfl), (by first | exact fun _ => rfl | exact fun h => (by cases h))⟩, ?_⟩)) rfl rfl)
  · obtain rfl : k = cur.length := by omega
    ((conv => whnf); repeat' ((first | refine vv8 ?_) <;> (conv => whnf)))
    refine ⟨⟨_, _, ?_, rfl, rfl⟩⟩
    rw [List.take_length]
    exact (Reabs.frmM [0, 1, 2, 3, 4, 5, 6, 7, 8, 9, 10] (by repeat (first | exact trivial | refine ⟨.inr ⟨rfl, rfl⟩, ?_⟩ | refine ⟨.inr ⟨rfl, vi_eq (by first | omega | (simp; done) | (simp; omega))⟩, ?_⟩ | refine ⟨.inr ⟨rfl, smE rfl (by first | omega | (simp; done) | (simp; omega))⟩, ?_⟩)) (by repeat (first | exact trivial | refine ⟨⟨_, rfl, (by first | exact blkDead | exact blkDeep rfl (deepLit rfl) | exact blkDeep rfl (deepMap (fun _ => rfl)) | exact blkOk rfl rfl | exact blkLoop rfl rfl), (by first | exact fun _ => rfl | exact fun h => (by cases h))⟩, ?_⟩)) rfl rfl)
end Go.Proofs.Ax
