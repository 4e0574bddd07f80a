import Derived.Test.YtedekogkeamacaaGreatDoorTrydTab
import Derived.Test.YtedekogkeamacaaGreatDoorAxShort
import Derived.Test.YtedekogkeamacaaGreatDoorAxRul
import Derived.Test.YtedekogkeamacaaGreatDoorAxH
import Derived.Test.YtedekogkeamacaaGreatDoorAxN
import Derived.Test.YtedekogkeamacaaGreatDoorAxG
import Derived.Test.YtedekogkeamacaaGreatDoorAxInvE
import Derived.Test.YtedekogkeamacaaGreatDoorAxShortR
import Derived.Test.YtedekogkeamacaaGreatDoorCuA
namespace Go.Proofs.Ax
open Go Go.Proofs
set_option maxRecDepth 10000
def pow10 : List AV := (List.range 20).map fun i => .sc (.int .u64 ((10 ^ i : Nat) : Int))
def G1 : Glob := fun g => match g with
  | 1 => some pow10
  | _ => none
theorem entersB : (Tryz.prog.funcs.toList.all fun fn => fn.body.isNone || !(fn.name == "runtime.NumGoroutine")) = true := by kernel_rfl
theorem enters : Enters Tryz.prog := by
  intro f fn c hf hb
  have h := List.all_eq_true.1 entersB fn (by
    rw [← Array.getElem?_toList] at hf
    exact List.mem_of_getElem? hf)
  rw [hb] at h; simpa using h
theorem mixed : Tryz.prog.follows .mixedOrders = true := by kernel_rfl
abbrev vi (n : Int) : AV := .sc (.int .i64 n)
abbrev vb (b : Bool) : AV := .sc (.bool b)
theorem tryd_ok (n : Nat) : EC.Ok ⟨⟨Tryz.prog, G1, 0, none⟩, n, Tryz.tab⟩ := ⟨fun t i h => TT.get_ok Tryz.tabOk t i h, enters, mixed⟩
theorem tryd_okm (m n : Nat) : EC.Ok ⟨⟨Tryz.prog, G1, m, none⟩, n, Tryz.tab⟩ := ⟨fun t i h => TT.get_ok Tryz.tabOk t i h, enters, mixed⟩
theorem tryd_okr (m n : Nat) (r : Option Nat) : EC.Ok ⟨⟨Tryz.prog, G1, m, r⟩, n, Tryz.tab⟩ := ⟨fun t i h => TT.get_ok Tryz.tabOk t i h, enters, mixed⟩
theorem deepAll {rs : List (List AV)} (h : (rs.all fun r => r.all AV.deep) = true) : AllDeep rs := fun row hr x hx => List.all_eq_true.1 (List.all_eq_true.1 h row hr) x hx
theorem Pu.of_fin {f : FuncId} {xs : List AV} {y : AV} (h : Ef Tryz.prog G1 f xs [] fun y' H' => FinTo 0 H' y' y []) (hd : (xs.all (·.deep2)) = true) (hy : y.deep2 = true) : Pu Tryz.prog G1 f xs y :=
  ⟨h.1, AFnH.pure ((AFnH.fin (H := []) h.2).mono fun _ _ h => h.1) (fun x hx => List.all_eq_true.1 hd x hx) hy⟩
theorem FinTo.sm0 {H : AH} {id k n : Nat} {rs : List (List AV)} {te : TypeId} (hid : H[id]? = some (.rows rs te)) (hd : AllDeep rs) (hn : n = rs.length) : FinTo 0 H (.sm id k 0 n) (.sl k false rs) [] := by
  have hz : AV.frz0 id rs (.sm id k 0 n) = .sl k false rs := frz_all hn; refine .step id rs te hid hd ?_; show FinTo 0 _ (AV.frz0 id rs (.sm id k 0 n)) _ _; rw [hz]; exact .done _ _ _ (Nat.zero_le _) rfl (fun b hb => absurd hb List.not_mem_nil) rfl
theorem FinTo.val {H : AH} {y : AV} (hy : y.deep2 = true) : FinTo 0 H y y [] := .done _ _ _ (Nat.zero_le _) rfl (fun _ hb => absurd hb List.not_mem_nil) hy
abbrev nilA : AV := .sc (.slice none 0 0)
theorem vb_dec {p q : Prop} [Decidable p] [Decidable q] (h : p ↔ q) : vb (decide p) = vb (decide q) := by rw [decide_eq_decide.2 h]
theorem vb_tt {p : Prop} [Decidable p] (h : p) : vb true = vb (decide p) := by rw [decide_eq_true h]
theorem vb_ff {p : Prop} [Decidable p] (h : ¬ p) : vb false = vb (decide p) := by rw [decide_eq_false h]
theorem time_ok (n : Int) : Pu Tryz.prog G1 98 [vi n] (vb (decide (0 ≤ n ∧ n ≤ 1073741823))) := by
  refine Pu.of_ev (T := Tryz.tab) (n := 9) (tryd_ok _) Tryz.func98 rfl rfl rfl (by first | rfl | (split <;> rfl)) (by simp) ?_
  ((conv => whnf); repeat' ((first | refine vv3 ?_ | refine vv4 ?_ | refine vv11 (fun hbr => ?_) (fun hbr => ?_)) <;> (conv => whnf)))
  all_goals refine DoneN.pure ?_
  all_goals first | rfl | exact vb_dec (by omega) | exact vb_tt (by omega) | exact vb_ff (by omega)
theorem id_ok (n : Int) : Pu Tryz.prog G1 145 [vi n] (vb (decide (1 ≤ n ∧ n ≤ 1099511627776))) := by
  refine Pu.of_ev (T := Tryz.tab) (n := 9) (tryd_ok _) Tryz.func145 rfl rfl rfl (by first | rfl | (split <;> rfl)) (by simp) ?_
  ((conv => whnf); repeat' ((first | refine vv3 ?_ | refine vv4 ?_ | refine vv11 (fun hbr => ?_) (fun hbr => ?_)) <;> (conv => whnf)))
  all_goals refine DoneN.pure ?_
  all_goals first | rfl | exact vb_dec (by omega) | exact vb_tt (by omega) | exact vb_ff (by omega)
theorem valid_ok (lo hi : Int) : Pu Tryz.prog G1 73 [.agg [vi lo, vi hi]] (vb (decide (0 ≤ lo ∧ lo ≤ hi ∧ hi ≤ 1073741823))) := by
  refine Pu.of_ev (T := Tryz.tab) (n := 18) (tryd_ok _) Tryz.func73 rfl rfl rfl (by first | rfl | (split <;> rfl)) (by simp) ?_
  ((conv => whnf); repeat' ((first | refine vv2 ?_ | refine vv3 ?_ | refine vv4 ?_ | refine vv11 (fun hbr => ?_) (fun hbr => ?_) | refine vv21 ?_ | refine CallN.pure (time_ok _) ?_) <;> (conv => whnf)))
  all_goals refine DoneN.pure ?_
  all_goals first | rfl | exact vb_dec (by omega) | exact vb_tt (by omega) | exact vb_ff (by omega)
theorem time_at (p t : Int) : Pu Tryz.prog G1 279 [.agg [vi p, vi t]] (vi t) := by
  refine Pu.of_ev (T := Tryz.tab) (n := 5) (tryd_ok _) Tryz.func279 rfl rfl rfl (by first | rfl | (split <;> rfl)) (by simp) ?_
  ((conv => whnf); repeat' ((first | refine vv21 ?_) <;> (conv => whnf)))
  all_goals exact DoneN.pure rfl
theorem time_copy (p t : Int) : Pu Tryz.prog G1 280 [.agg [vi p, vi t]] (vi t) := by
  refine Pu.of_ev (T := Tryz.tab) (n := 5) (tryd_ok _) Tryz.func280 rfl rfl rfl (by first | rfl | (split <;> rfl)) (by simp) ?_
  ((conv => whnf); repeat' ((first | refine vv21 ?_) <;> (conv => whnf)))
  all_goals exact DoneN.pure rfl
theorem time_hand (p t : Int) : Pu Tryz.prog G1 282 [.agg [vi p, vi t]] (vi t) := by
  refine Pu.of_ev (T := Tryz.tab) (n := 5) (tryd_ok _) Tryz.func282 rfl rfl rfl (by first | rfl | (split <;> rfl)) (by simp) ?_
  ((conv => whnf); repeat' ((first | refine vv21 ?_) <;> (conv => whnf)))
  all_goals exact DoneN.pure rfl
theorem meth_at : imeth Tryz.prog 115 "patrol/custody.time" = some 279 := by kernel_rfl
theorem meth_copy : imeth Tryz.prog 118 "patrol/custody.time" = some 280 := by kernel_rfl
theorem meth_hand : imeth Tryz.prog 268 "patrol/custody.time" = some 282 := by kernel_rfl
end Go.Proofs.Ax
namespace Go.Proofs.Ax
open Go
set_option linter.unusedVariables false
theorem Qt {m n : Nat} : EC.Ok ⟨⟨Tryz.prog, G1, m, none⟩, n, Tryz.tab⟩ := tryd_okm m n
theorem Qf (n : Nat) {f : FuncId} {fn : Func} {c : Code} {xs : List AV} {y : AV} (hf : Tryz.prog.funcs[f]? = some fn) (hb : fn.body = some c) (hn : fn.ntmps = n) (h : forceFr (enumF 0 xs) fun l => ev ⟨⟨Tryz.prog, G1, 0, none⟩, n, Tryz.tab⟩ c l [] (retE ⟨⟨Tryz.prog, G1, 0, none⟩, n, Tryz.tab⟩ fn.results.toList fun y' H' => FinTo 0 H' y' y []))
    (ha : xs.length ≤ n := by simp) (hd : (xs.all (·.deep2)) = true := by rfl) (hy : y.deep2 = true := by rfl) : Pu Tryz.prog G1 f xs y := Pu.of_fin (Ef.of_ev (tryd_okm 0 _) rfl hf hb hn ha h) hd hy
theorem Qc (n : Nat) {f : FuncId} {fn : Func} {c : Code} {xs : List AV} {y : AV} (hf : Tryz.prog.funcs[f]? = some fn) (hb : fn.body = some c) (hn : fn.ntmps = n) (h : CodeN ⟨⟨Tryz.prog, G1, 0, none⟩, n, Tryz.tab⟩ c (enumF 0 xs) [] (retE ⟨⟨Tryz.prog, G1, 0, none⟩, n, Tryz.tab⟩ fn.results.toList fun y' H' => FinTo 0 H' y' y []))
    (ha : xs.length ≤ n := by simp) (hd : (xs.all (·.deep2)) = true := by rfl) (hy : y.deep2 = true := by rfl) : Pu Tryz.prog G1 f xs y := Pu.of_fin (Ef.of_code (tryd_okm 0 _) rfl hf hb hn ha h) hd hy
theorem Qh (n : Nat) {f : FuncId} {fn : Func} {c : Code} {xs : List AV} {y : AV} (hf : Tryz.prog.funcs[f]? = some fn) (hb : fn.body = some c) (hn : fn.ntmps = n) (h : forceFr (enumF 0 xs) fun l => ev ⟨⟨Tryz.prog, G1, 0, none⟩, n, Tryz.tab⟩ c l [] (retE ⟨⟨Tryz.prog, G1, 0, none⟩, n, Tryz.tab⟩ fn.results.toList fun y' H' => FrzTo H' y' y))
    (hy : y.deep2 = true := by first | rfl | (split <;> rfl)) (ha : xs.length ≤ n := by simp) (hd : (xs.all (·.deep2)) = true := by rfl) : Pu Tryz.prog G1 f xs y := Pu.of_ev (tryd_ok _) hf hb hn hd hy ha h
theorem Qs {m n : Nat} {a b : Code} {l : Fr} {H : AH} {k : XK} (h : ev ⟨⟨Tryz.prog, G1, m, none⟩, n, Tryz.tab⟩ a l H fun e l' H' => match e with
    | .normal => CodeN ⟨⟨Tryz.prog, G1, m, none⟩, n, Tryz.tab⟩ b l' H' k
    | e => k e l' H') : CodeN ⟨⟨Tryz.prog, G1, m, none⟩, n, Tryz.tab⟩ (.seq a b) l H k := CodeN.seqE (tryd_okm m n) h
theorem Qe {m n : Nat} {a : Code} {l : Fr} {H : AH} {k : XK} (h : ev ⟨⟨Tryz.prog, G1, m, none⟩, n, Tryz.tab⟩ a l H k) : CodeN ⟨⟨Tryz.prog, G1, m, none⟩, n, Tryz.tab⟩ a l H k := CodeN.of_ev (tryd_okm m n) h
theorem Qd {m n : Nat} {r : Option Nat} {id : Nat} {ops : List Oper} {l : Fr} {H : AH} {k : Fr → AH → Prop} (h : gev ⟨⟨Tryz.prog, G1, m, r⟩, n, Tryz.tab⟩ none ops ops l H 0 [] [] fun l' H' Ef Q => Need (chkG (bits (ancs ops [])) Ef Q = true) (k l' H')) (hS : chkS n ops (bits (ancs ops [])) ops 0 = true := by kernel_rfl) : DrawN ⟨⟨Tryz.prog, G1, m, r⟩, n, Tryz.tab⟩ id ops l H k := DrawN.gen (tryd_okr m n r) hS h
theorem Qv {H : AH} {y : AV} (h : y.deep2 = true := by rfl) : DoneN (fun y' H' => FinTo 0 H' y' y []) y H := ⟨.val h⟩
end Go.Proofs.Ax
namespace Go.Proofs.Ax
open Go Go.Proofs Go.Proofs.Cu
set_option maxRecDepth 10000
section
abbrev encS (s : Spn) : List AV := [vi s.lo, vi s.hi]
abbrev spans (l : List Spn) : AV := .sl 2 false (l.map encS)
abbrev encP (p : Pers) : List AV := [vi p.id, spans p.duty]
abbrev persons (l : List Pers) : AV := .sl 2 false (l.map encP)
abbrev intR (n : Int) : List AV := [vi n]
abbrev ints (l : List Int) : AV := .sl 1 false (l.map intR)
abbrev encE (e : Entr) : List AV := [vi e.id, vi e.key, vi e.kind, vi e.src, vi e.dst, vi e.at_.lo, vi e.at_.hi]
abbrev entries (l : List Entr) : AV := .sl 7 false (l.map encE)
abbrev bookC (c : Book) : List AV := [persons c.people, ints c.keys, entries c.entries, vi c.gaps]
abbrev bookV (c : Book) : AV := .agg (bookC c)
theorem validS_eq (s : Spn) : decide (0 ≤ s.lo ∧ s.lo ≤ s.hi ∧ s.hi ≤ 1073741823) = validS s := by
  unfold validS timeOk maxTime; rw [Bool.eq_iff_iff]; simp only [Bool.and_eq_true, decide_eq_true_eq]; omega
theorem valid_s (s : Spn) : Pu Tryz.prog G1 73 [.agg (encS s)] (vb (validS s)) := validS_eq s ▸ valid_ok s.lo s.hi
def prevHi (l : List Spn) (k : Nat) : Option Int := if k = 0 then none else (l[k - 1]?).map (·.hi)
theorem duty_step {l : List Spn} {k : Nat} (h : k < l.length) : dutyOk (prevHi l k) (l.drop k) = (validS l[k] && (match prevHi l k with | none => true | some x => decide (x < (l[k]).lo)) && dutyOk (prevHi l (k + 1)) (l.drop (k + 1))) := by
  rw [List.drop_eq_getElem_cons h]; have : prevHi l (k + 1) = some (l[k]).hi := by simp [prevHi, List.getElem?_eq_getElem h]
  rw [this]
  cases prevHi l k <;> rfl
theorem duty_bad {l : List Spn} {k : Nat} (h : k < l.length) (hb : validS l[k] = false) : dutyOk (prevHi l k) (l.drop k) = false := by rw [duty_step h, hb]; rfl
theorem prevHi_pos {l : List Spn} {k : Nat} (h : k < l.length) (h0 : 0 < k) : prevHi l k = some (l[k - 1]'(by omega)).hi := by
  unfold prevHi; rw [if_neg (by omega), List.getElem?_eq_getElem (by omega)]; rfl
theorem duty_back {l : List Spn} {k : Nat} (h : k < l.length) (h0 : 0 < k) (hb : (l[k]).lo ≤ (l[k - 1]'(by omega)).hi) : dutyOk (prevHi l k) (l.drop k) = false := by
  rw [duty_step h, prevHi_pos h h0]; simp only [decide_eq_false (by omega : ¬ (l[k - 1]'(by omega)).hi < (l[k]).lo), Bool.and_false, Bool.false_and]
theorem duty_go {l : List Spn} {k : Nat} (h : k < l.length) (hv : validS l[k] = true) (hb : ∀ h0 : 0 < k, ¬ (l[k]).lo ≤ (l[k - 1]'(by omega)).hi) : dutyOk (prevHi l k) (l.drop k) = dutyOk (prevHi l (k + 1)) (l.drop (k + 1)) := by
  rw [duty_step h, hv]; by_cases h0 : 0 < k
  · rw [prevHi_pos h h0]; simp only [decide_eq_true (by have := hb h0; omega : (l[k - 1]'(by omega)).hi < (l[k]).lo), Bool.true_and]
  obtain rfl : k = 0 := by omega
  rfl
theorem duty_end {l : List Spn} {k : Nat} (h : ¬ k < l.length) : dutyOk (prevHi l k) (l.drop k) = true := by
  rw [List.drop_of_length_le (by omega)]; unfold dutyOk; rfl
theorem person_ok (p : Pers) (hmax : p.duty.length ≤ 9223372036854775807) : Pu Tryz.prog G1 144 [.agg (encP p)] (vb (persOk p)) := by
  refine Qh 42 Tryz.func144 rfl rfl ?_
  (conv => whnf); repeat' (first | refine vv21 ?_ | refine vv23 ?_) <;> conv => whnf
  refine LoopN.of Qt (fun k : Nat => [(1, .pm 0 0 0), (6, spans p.duty), (7, vi p.duty.length), (8, vi k)]) (fun _ => [.rows [encP p] 59]) (fun k => p.duty.length - k) (fun k => k ≤ p.duty.length ∧ persOk p = (dutyOk (prevHi p.duty k) (p.duty.drop k) && idOk p.id && decide (p.duty.length ≤ 6))) 0 ⟨Nat.zero_le _, rfl⟩ (Reabs.frmN [0] (by repeat (first | exact trivial | refine ⟨.inr ⟨rfl, rfl⟩, ?_⟩)) (by repeat (first | exact trivial | refine ⟨⟨_, rfl, blkDeep rfl (by first | exact deepLit rfl | exact deepMap (fun _ => rfl)), fun _ => rfl⟩, ?_⟩)) (by decide) ⟨Nat.zero_le _, fun i hi => absurd hi (Nat.not_lt_zero i)⟩) ?_; rintro k ⟨hk, hinv⟩
  (conv => whnf); repeat' (first | refine vv1 ?_ | refine vv2 ?_ | refine vv3 ?_ | refine vv4 ?_ | refine vv11 (fun hbr => ?_) (fun hbr => ?_) | refine vv15 ?_ | refine vv16 ?_ | refine vv17 (fun hbr => ?_) (fun hbr => ?_) | refine vv20 ?_ | refine SlIdxN.map _ rfl (by first | assumption | omega) ?_ | refine SlIdxN.mapPred (by omega) (by omega) ?_ | refine vv21 ?_ | refine vv22 ?_ | refine vv23 ?_ | refine vv25 ?_ | refine Qd ?_ | refine Qp (id_ok _) ?_ | refine Qg (valid_s p.duty[k]) ?_) <;> conv => whnf
  all_goals first
    | (refine DoneN.pure ?_; refine congrArg vb ?_; rw [hinv, duty_bad (by omega) (by assumption)]; rfl)
    | (refine DoneN.pure ?_; refine congrArg vb ?_; rw [hinv, duty_back (by omega) (by omega) (by omega)]; rfl)
    | (refine BackN.mk (k + 1) ⟨by omega, ?_⟩ (by omega) (Reabs.frmN [0] (by repeat (first | exact trivial | refine ⟨.inr ⟨rfl, rfl⟩, ?_⟩)) (by repeat (first | exact trivial | refine ⟨⟨_, rfl, blkDeep rfl (by first | exact deepLit rfl | exact deepMap (fun _ => rfl)), fun _ => rfl⟩, ?_⟩)) (by decide) ⟨Nat.zero_le _, fun i hi => absurd hi (Nat.not_lt_zero i)⟩); rw [hinv, duty_go (by omega) (by assumption) (by omega)])
    | (refine BackN.mk (k + 1) ⟨by omega, ?_⟩ (by omega) (Reabs.frmN [0] (by repeat (first | exact trivial | refine ⟨.inr ⟨rfl, rfl⟩, ?_⟩)) (by repeat (first | exact trivial | refine ⟨⟨_, rfl, blkDeep rfl (by first | exact deepLit rfl | exact deepMap (fun _ => rfl)), fun _ => rfl⟩, ?_⟩)) (by decide) ⟨Nat.zero_le _, fun i hi => absurd hi (Nat.not_lt_zero i)⟩); rw [hinv, duty_go (by omega) (by assumption) (fun _ => by omega)])
    | (refine DoneN.pure ?_; refine congrArg vb ?_; rw [hinv, duty_end (by omega), idOk, decide_eq_true ‹1 ≤ p.id ∧ p.id ≤ 1099511627776›, Bool.true_and, Bool.true_and]; exact decide_eq_decide.2 (by omega))
    | (refine DoneN.pure ?_; refine congrArg vb ?_; rw [hinv, duty_end (by omega), idOk, decide_eq_false ‹¬ (1 ≤ p.id ∧ p.id ≤ 1099511627776)›]; rfl)
end
section
def idxInt (n i : Nat) : Int := if i < n then (i : Int) else -1
theorem any_idx {α : Type} (q : α → Bool) : ∀ b : List α, b.any q = decide (0 ≤ idxInt b.length (b.findIdx q)) := fun b => by
  rw [Bool.eq_iff_iff, decide_eq_true_eq, List.any_eq_true]; constructor
  · rintro ⟨x, hx, hq⟩; have := List.findIdx_lt_length_of_exists ⟨x, hx, hq⟩; unfold idxInt; rw [if_pos this]; omega
  intro h; unfold idxInt at h; split at h
  · rename_i hl; exact ⟨b[b.findIdx q], List.getElem_mem _, List.findIdx_getElem⟩
  omega
theorem idxP_ef (F : FuncId) (z0 : List AV) (q : Pers → Bool) (b : List Pers) (hF : ∀ x ∈ b, Pu Tryz.prog G1 F [.agg (encP x), .pi z0] (vb (q x))) (hmax : b.length ≤ 1000000) :
    Pu Tryz.prog G1 217 [persons b, .fn (.func F) [] [.pi z0]] (vi (idxInt b.length (b.findIdx q))) := by
  refine Qf 19 Tryz.func217 rfl rfl ?_
  (conv => whnf); repeat' (first | refine vv23 ?_) <;> conv => whnf
  refine LoopN.of Qt (fun k : Nat => [(0, persons b), (1, .fn (.func F) [] [.pi z0]), (7, vi b.length), (8, vi k)]) (fun _ => []) (fun k => b.length - k) (fun k => k ≤ b.length ∧ ∀ i (h : i < b.length), i < k → q b[i] = false) 0 ⟨Nat.zero_le _, fun i h hi => by omega⟩ (Q0) ?_; rintro k ⟨hk, hall⟩; by_cases hlt : k < b.length
  · have hf := hF b[k] (List.getElem_mem hlt)
    cases hp : q b[k] with
    | true =>
      rw [hp] at hf; have e : b.findIdx q = k := (List.findIdx_eq hlt).2 ⟨hp, fun j hj => hall j (by omega) hj⟩
      (conv => whnf); repeat' (first | refine vv1 ?_ | refine vv7 ?_ | refine SlIdxN.map _ rfl (by first | assumption | omega) ?_ | refine Qp hf ?_) <;> conv => whnf
      rw [e, idxInt, if_pos hlt]; exact ⟨.done _ _ _ (Nat.zero_le _) rfl (fun b hb => absurd hb List.not_mem_nil) rfl⟩
    | false =>
      rw [hp] at hf
      (conv => whnf); repeat' (first | refine vv2 ?_ | refine vv7 ?_ | refine vv20 ?_ | refine SlIdxN.map _ rfl (by first | assumption | omega) ?_ | refine Qp hf ?_) <;> conv => whnf
      refine BackN.mk (k + 1) ⟨by omega, fun i h hi => ?_⟩ (by omega) (Q0); by_cases hq : i = k
      subst hq; exact hp; exact hall i h (by omega)
  have e : b.findIdx q = b.length := List.findIdx_eq_length.2 fun x hx => by
    obtain ⟨i, hi, rfl⟩ := List.getElem_of_mem hx; simp [hall i hi (by omega)]
  (conv => whnf); repeat' (first | refine vv8 ?_) <;> conv => whnf
  rw [e, idxInt, if_neg (by omega)]; exact ⟨.done _ _ _ (Nat.zero_le _) rfl (fun b hb => absurd hb List.not_mem_nil) rfl⟩
theorem anyP_ok (F : FuncId) (z0 : List AV) (q : Pers → Bool) (b : List Pers) (hF : ∀ x ∈ b, Pu Tryz.prog G1 F [.agg (encP x), .pi z0] (vb (q x))) (hmax : b.length ≤ 1000000) :
    Pu Tryz.prog G1 195 [persons b, .fn (.func F) [] [.pi z0]] (vb (b.any q)) := by
  refine Qf 9 Tryz.func195 rfl rfl ?_
  (conv => whnf); repeat' (first | refine Qp (idxP_ef F z0 q b hF hmax) ?_) <;> conv => whnf
  rw [any_idx]; exact ⟨.done _ _ _ (Nat.zero_le _) rfl (fun b hb => absurd hb List.not_mem_nil) rfl⟩
theorem idxP_ef2 (F : FuncId) (z0 : List AV) (z1 : List AV) (q : Pers → Bool) (b : List Pers) (hF : ∀ x ∈ b, Pu Tryz.prog G1 F [.agg (encP x), .pi z0, .pi z1] (vb (q x))) (hmax : b.length ≤ 1000000) :
    Pu Tryz.prog G1 217 [persons b, .fn (.func F) [] [.pi z0, .pi z1]] (vi (idxInt b.length (b.findIdx q))) := by
  refine Qf 19 Tryz.func217 rfl rfl ?_
  (conv => whnf); repeat' (first | refine vv23 ?_) <;> conv => whnf
  refine LoopN.of Qt (fun k : Nat => [(0, persons b), (1, .fn (.func F) [] [.pi z0, .pi z1]), (7, vi b.length), (8, vi k)]) (fun _ => []) (fun k => b.length - k) (fun k => k ≤ b.length ∧ ∀ i (h : i < b.length), i < k → q b[i] = false) 0 ⟨Nat.zero_le _, fun i h hi => by omega⟩ (Q0) ?_; rintro k ⟨hk, hall⟩; by_cases hlt : k < b.length
  · have hf := hF b[k] (List.getElem_mem hlt)
    cases hp : q b[k] with
    | true =>
      rw [hp] at hf; have e : b.findIdx q = k := (List.findIdx_eq hlt).2 ⟨hp, fun j hj => hall j (by omega) hj⟩
      (conv => whnf); repeat' (first | refine vv1 ?_ | refine vv7 ?_ | refine SlIdxN.map _ rfl (by first | assumption | omega) ?_ | refine Qp hf ?_) <;> conv => whnf
      rw [e, idxInt, if_pos hlt]; exact ⟨.done _ _ _ (Nat.zero_le _) rfl (fun b hb => absurd hb List.not_mem_nil) rfl⟩
    | false =>
      rw [hp] at hf
      (conv => whnf); repeat' (first | refine vv2 ?_ | refine vv7 ?_ | refine vv20 ?_ | refine SlIdxN.map _ rfl (by first | assumption | omega) ?_ | refine Qp hf ?_) <;> conv => whnf
      refine BackN.mk (k + 1) ⟨by omega, fun i h hi => ?_⟩ (by omega) (Q0); by_cases hq : i = k
      subst hq; exact hp; exact hall i h (by omega)
  have e : b.findIdx q = b.length := List.findIdx_eq_length.2 fun x hx => by
    obtain ⟨i, hi, rfl⟩ := List.getElem_of_mem hx; simp [hall i hi (by omega)]
  (conv => whnf); repeat' (first | refine vv8 ?_) <;> conv => whnf
  rw [e, idxInt, if_neg (by omega)]; exact ⟨.done _ _ _ (Nat.zero_le _) rfl (fun b hb => absurd hb List.not_mem_nil) rfl⟩
theorem anyP_ok2 (F : FuncId) (z0 : List AV) (z1 : List AV) (q : Pers → Bool) (b : List Pers) (hF : ∀ x ∈ b, Pu Tryz.prog G1 F [.agg (encP x), .pi z0, .pi z1] (vb (q x))) (hmax : b.length ≤ 1000000) :
    Pu Tryz.prog G1 195 [persons b, .fn (.func F) [] [.pi z0, .pi z1]] (vb (b.any q)) := by
  refine Qf 9 Tryz.func195 rfl rfl ?_
  (conv => whnf); repeat' (first | refine Qp (idxP_ef2 F z0 z1 q b hF hmax) ?_) <;> conv => whnf
  rw [any_idx]; exact ⟨.done _ _ _ (Nat.zero_le _) rfl (fun b hb => absurd hb List.not_mem_nil) rfl⟩
theorem idxS_ef (F : FuncId) (z0 : List AV) (q : Spn → Bool) (b : List Spn) (hF : ∀ x ∈ b, Pu Tryz.prog G1 F [.agg (encS x), .pi z0] (vb (q x))) (hmax : b.length ≤ 1000000) :
    Pu Tryz.prog G1 236 [spans b, .fn (.func F) [] [.pi z0]] (vi (idxInt b.length (b.findIdx q))) := by
  refine Qf 19 Tryz.func236 rfl rfl ?_
  (conv => whnf); repeat' (first | refine vv23 ?_) <;> conv => whnf
  refine LoopN.of Qt (fun k : Nat => [(0, spans b), (1, .fn (.func F) [] [.pi z0]), (7, vi b.length), (8, vi k)]) (fun _ => []) (fun k => b.length - k) (fun k => k ≤ b.length ∧ ∀ i (h : i < b.length), i < k → q b[i] = false) 0 ⟨Nat.zero_le _, fun i h hi => by omega⟩ (Q0) ?_; rintro k ⟨hk, hall⟩; by_cases hlt : k < b.length
  · have hf := hF b[k] (List.getElem_mem hlt)
    cases hp : q b[k] with
    | true =>
      rw [hp] at hf; have e : b.findIdx q = k := (List.findIdx_eq hlt).2 ⟨hp, fun j hj => hall j (by omega) hj⟩
      (conv => whnf); repeat' (first | refine vv1 ?_ | refine vv7 ?_ | refine SlIdxN.map _ rfl (by first | assumption | omega) ?_ | refine Qp hf ?_) <;> conv => whnf
      rw [e, idxInt, if_pos hlt]; exact ⟨.done _ _ _ (Nat.zero_le _) rfl (fun b hb => absurd hb List.not_mem_nil) rfl⟩
    | false =>
      rw [hp] at hf
      (conv => whnf); repeat' (first | refine vv2 ?_ | refine vv7 ?_ | refine vv20 ?_ | refine SlIdxN.map _ rfl (by first | assumption | omega) ?_ | refine Qp hf ?_) <;> conv => whnf
      refine BackN.mk (k + 1) ⟨by omega, fun i h hi => ?_⟩ (by omega) (Q0); by_cases hq : i = k
      subst hq; exact hp; exact hall i h (by omega)
  have e : b.findIdx q = b.length := List.findIdx_eq_length.2 fun x hx => by
    obtain ⟨i, hi, rfl⟩ := List.getElem_of_mem hx; simp [hall i hi (by omega)]
  (conv => whnf); repeat' (first | refine vv8 ?_) <;> conv => whnf
  rw [e, idxInt, if_neg (by omega)]; exact ⟨.done _ _ _ (Nat.zero_le _) rfl (fun b hb => absurd hb List.not_mem_nil) rfl⟩
theorem anyS_ok (F : FuncId) (z0 : List AV) (q : Spn → Bool) (b : List Spn) (hF : ∀ x ∈ b, Pu Tryz.prog G1 F [.agg (encS x), .pi z0] (vb (q x))) (hmax : b.length ≤ 1000000) :
    Pu Tryz.prog G1 220 [spans b, .fn (.func F) [] [.pi z0]] (vb (b.any q)) := by
  refine Qf 9 Tryz.func220 rfl rfl ?_
  (conv => whnf); repeat' (first | refine Qp (idxS_ef F z0 q b hF hmax) ?_) <;> conv => whnf
  rw [any_idx]; exact ⟨.done _ _ _ (Nat.zero_le _) rfl (fun b hb => absurd hb List.not_mem_nil) rfl⟩
theorem idxE_ef (F : FuncId) (z0 : List AV) (q : Entr → Bool) (b : List Entr) (hF : ∀ x ∈ b, Pu Tryz.prog G1 F [.agg (encE x), .pi z0] (vb (q x))) (hmax : b.length ≤ 1000000) :
    Pu Tryz.prog G1 79 [entries b, .fn (.func F) [] [.pi z0]] (vi (idxInt b.length (b.findIdx q))) := by
  refine Qf 19 Tryz.func79 rfl rfl ?_
  (conv => whnf); repeat' (first | refine vv23 ?_) <;> conv => whnf
  refine LoopN.of Qt (fun k : Nat => [(0, entries b), (1, .fn (.func F) [] [.pi z0]), (7, vi b.length), (8, vi k)]) (fun _ => []) (fun k => b.length - k) (fun k => k ≤ b.length ∧ ∀ i (h : i < b.length), i < k → q b[i] = false) 0 ⟨Nat.zero_le _, fun i h hi => by omega⟩ (Q0) ?_; rintro k ⟨hk, hall⟩; by_cases hlt : k < b.length
  · have hf := hF b[k] (List.getElem_mem hlt)
    cases hp : q b[k] with
    | true =>
      rw [hp] at hf; have e : b.findIdx q = k := (List.findIdx_eq hlt).2 ⟨hp, fun j hj => hall j (by omega) hj⟩
      (conv => whnf); repeat' (first | refine vv1 ?_ | refine vv7 ?_ | refine SlIdxN.map _ rfl (by first | assumption | omega) ?_ | refine Qp hf ?_) <;> conv => whnf
      rw [e, idxInt, if_pos hlt]; exact ⟨.done _ _ _ (Nat.zero_le _) rfl (fun b hb => absurd hb List.not_mem_nil) rfl⟩
    | false =>
      rw [hp] at hf
      (conv => whnf); repeat' (first | refine vv2 ?_ | refine vv7 ?_ | refine vv20 ?_ | refine SlIdxN.map _ rfl (by first | assumption | omega) ?_ | refine Qp hf ?_) <;> conv => whnf
      refine BackN.mk (k + 1) ⟨by omega, fun i h hi => ?_⟩ (by omega) (Q0); by_cases hq : i = k
      subst hq; exact hp; exact hall i h (by omega)
  have e : b.findIdx q = b.length := List.findIdx_eq_length.2 fun x hx => by
    obtain ⟨i, hi, rfl⟩ := List.getElem_of_mem hx; simp [hall i hi (by omega)]
  (conv => whnf); repeat' (first | refine vv8 ?_) <;> conv => whnf
  rw [e, idxInt, if_neg (by omega)]; exact ⟨.done _ _ _ (Nat.zero_le _) rfl (fun b hb => absurd hb List.not_mem_nil) rfl⟩
end
section
theorem known1_ok (n : Int) (p : Pers) : Pu Tryz.prog G1 196 [.agg (encP p), .pi [vi n]] (vb (p.id == n)) := by
  refine Qh 8 Tryz.func196 rfl rfl ?_
  (conv => whnf); repeat' (first | refine vv21 ?_) <;> conv => whnf
  all_goals exact DoneN.pure rfl
theorem known_ok (c : Book) (n : Int) (hmax : c.people.length ≤ 1000000) : Pu Tryz.prog G1 142 [bookV c, vi n] (vb (knownP c.people n)) := by
  refine Qh 9 Tryz.func142 rfl rfl ?_
  (conv => whnf); repeat' (first | refine CallN.frz 1 _ _ rfl (deepAll rfl) ?_ | refine vv21 ?_ | refine Qp (anyP_ok 196 [vi n] _ c.people (fun x _ => known1_ok n x) hmax) ?_) <;> conv => whnf
  all_goals exact DoneN.pure rfl
theorem hangs_ok (c : Book) (n : Int) (hmax : c.people.length ≤ 1000000) : Pu Tryz.prog G1 146 [bookV c, vi n] (vb (hangsP c.people n)) := by
  have e : hangsP c.people n = (decide (n = 0) || knownP c.people n) := rfl; rw [e]; refine Qh 12 Tryz.func146 rfl rfl ?_
  (conv => whnf); repeat' (first | refine vv3 ?_ | refine vv4 ?_ | refine vv11 (fun hbr => ?_) (fun hbr => ?_) | refine vv21 ?_ | refine Qp (known_ok c n hmax) ?_) <;> conv => whnf
  all_goals refine DoneN.pure ?_
  rw [decide_eq_true ‹_›]; rfl
  all_goals rw [decide_eq_false ‹_›]; rfl
theorem duty2_ok (t : Int) (s : Spn) : Pu Tryz.prog G1 221 [.agg (encS s), .pi [vi t]] (vb (decide (s.lo ≤ t ∧ t ≤ s.hi))) := by
  refine Qh 14 Tryz.func221 rfl rfl ?_
  (conv => whnf); repeat' (first | refine vv3 ?_ | refine vv4 ?_ | refine vv11 (fun hbr => ?_) (fun hbr => ?_) | refine vv21 ?_) <;> conv => whnf
  all_goals refine DoneN.pure ?_
  all_goals first | rfl | exact vb_dec (by omega) | exact vb_tt (by omega) | exact vb_ff (by omega)
theorem duty1_ok (who t : Int) (p : Pers) (hmax : p.duty.length ≤ 1000000) : Pu Tryz.prog G1 219 [.agg (encP p), .pi [vi who], .pi [vi t]] (vb (p.id == who && p.duty.any fun s => decide (s.lo ≤ t ∧ t ≤ s.hi))) := by
  have e : (p.id == who) = decide (p.id = who) := rfl; rw [e]; refine Qh 15 Tryz.func219 rfl rfl ?_
  (conv => whnf); repeat' (first | refine vv3 ?_ | refine vv4 ?_ | refine vv11 (fun hbr => ?_) (fun hbr => ?_) | refine vv21 ?_ | refine Qp (anyS_ok 221 [vi t] _ p.duty (fun x _ => duty2_ok t x) hmax) ?_) <;> conv => whnf
  all_goals refine DoneN.pure ?_
  rw [decide_eq_true ‹_›]; rfl; rw [decide_eq_false ‹_›]; rfl
theorem index_ok (l : List Int) (n : Int) (hmax : l.length ≤ 1000000) : Pu Tryz.prog G1 175 [ints l, vi n] (vi (idxInt l.length (l.findIdx (· == n)))) := by
  refine Qh 19 Tryz.func175 rfl rfl ?_
  (conv => whnf); repeat' (first | refine vv23 ?_) <;> conv => whnf
  refine LoopN.of Qt (fun k : Nat => [(0, ints l), (1, vi n), (7, vi l.length), (8, vi k)]) (fun _ => []) (fun k => l.length - k) (fun k => k ≤ l.length ∧ ∀ i (h : i < l.length), i < k → l[i] ≠ n) 0 ⟨Nat.zero_le _, fun i h hi => by omega⟩ (Q0) ?_; rintro k ⟨hk, hall⟩
  (conv => whnf); repeat' (first | refine vv11 (fun hbr => ?_) (fun hbr => ?_) | refine vv20 ?_ | refine SlIdxN.map _ rfl (by first | assumption | omega) ?_) <;> conv => whnf
  · have hlt : k < l.length := by omega
    have e : l.findIdx (· == n) = k := (List.findIdx_eq hlt).2 ⟨beq_iff_eq.2 (by omega), fun j hj => by simpa using hall j (by omega) hj⟩; refine DoneN.pure ?_; rw [e, idxInt, if_pos hlt]
  · refine BackN.mk (k + 1) ⟨by omega, fun i h hi => ?_⟩ (by omega) (Q0); by_cases hq : i = k
    subst hq; omega; exact hall i h (by omega)
  have e : l.findIdx (· == n) = l.length := List.findIdx_eq_length.2 fun x hx => by
    obtain ⟨i, hi, rfl⟩ := List.getElem_of_mem hx; simpa using hall i hi (by omega)
  refine DoneN.pure ?_; rw [e, idxInt, if_neg (by omega)]
theorem contains_ok (l : List Int) (n : Int) (hmax : l.length ≤ 1000000) : Pu Tryz.prog G1 124 [ints l, vi n] (vb (l.contains n)) := by
  have e : l.contains n = l.any (· == n) := by rw [Bool.eq_iff_iff]; simp
  rw [e, any_idx]; refine Qh 9 Tryz.func124 rfl rfl ?_
  (conv => whnf); repeat' (first | refine Qp (index_ok l n hmax) ?_) <;> conv => whnf
  all_goals exact DoneN.pure rfl
end
end Go.Proofs.Ax
namespace Go.Proofs.Ax
open Go Go.Proofs Go.Proofs.Cu
set_option maxRecDepth 10000
set_option maxHeartbeats 4000000
abbrev kV (C : Chn) (ks : List Int) (al : List Entr) : AV := .pi [persons C.people, ints ks, entries al, vi C.gaps, entries C.es]
theorem duty_ok (C : Chn) (ks : List Int) (al : List Entr) (who t : Int) (hmax : C.people.length ≤ 1000000) (hd : ∀ p ∈ C.people, p.duty.length ≤ 1000000) : Pu Tryz.prog G1 199 [kV C ks al, vi who, vi t] (vb (dutyP C.people who t)) := by
  refine Qh 14 Tryz.func199 rfl rfl ?_
  (conv => whnf); repeat' (first | refine CallN.frz 0 _ _ rfl (deepAll rfl) ?_ | refine CallN.frz 1 _ _ rfl (deepAll rfl) ?_ | refine Qp (anyP_ok2 219 [vi who] [vi t] _ C.people (fun x hx => duty1_ok who t x (hd x hx)) hmax) ?_) <;> conv => whnf
  all_goals exact DoneN.pure rfl
theorem entry_ok (c : Book) (e : Entr) (hmax : c.people.length ≤ 1000000) (hmax' : c.keys.length ≤ 1000000) : Pu Tryz.prog G1 95 [bookV c, .agg (encE e)] (vb (entrOk c e)) := by
  have hid : Pu Tryz.prog G1 145 [vi e.id] (vb (idOk e.id)) := id_ok e.id; refine Qh 77 Tryz.func95 rfl rfl ?_
  (conv => whnf); repeat' (first | refine vv1 ?_ | refine vv2 ?_ | refine vv5 ?_ | refine vv6 ?_ | refine vv11 (fun hbr => ?_) (fun hbr => ?_) | refine vv12 (fun hbr => ?_) (fun hbr => ?_) | refine vv13 ?_ | refine vv14 ?_ | refine vv15 ?_ | refine vv16 ?_ | refine vv17 (fun hbr => ?_) (fun hbr => ?_) | refine vv19 (fun hbr => ?_) (fun hbr => ?_) | refine vv21 ?_ | refine Qp hid ?_ | refine Qp (contains_ok c.keys e.key hmax') ?_ | refine Qp (valid_s e.at_) ?_ | refine Qp (hangs_ok c e.src hmax) ?_ | refine Qp (hangs_ok c e.dst hmax) ?_ | refine Qp (known_ok c e.src hmax) ?_) <;> conv => whnf
  all_goals refine DoneN.pure (congrArg vb ?_)
  all_goals first | (simp [entrOk, show idOk e.id = false from decide_eq_false (by assumption)]; done) | (simp_all [entrOk, Cu.kindOk, idOk]; done)
def prevO {α : Type} (l : List α) (k : Nat) : Option α := if k = 0 then none else l[k - 1]?
theorem scanE_step {α : Type} {bad : Option α → α → Int} {l : List α} {k : Nat} (h : k < l.length) : scanE bad (prevO l k) (l.drop k) = if bad (prevO l k) l[k] ≠ 0 then bad (prevO l k) l[k] else scanE bad (prevO l (k + 1)) (l.drop (k + 1)) := by
  rw [List.drop_eq_getElem_cons h]; have : prevO l (k + 1) = some l[k] := by simp [prevO, List.getElem?_eq_getElem h]
  rw [this]; rfl
theorem scanE_end {α : Type} {bad : Option α → α → Int} {l : List α} {k : Nat} (h : ¬ k < l.length) : scanE bad (prevO l k) (l.drop k) = 0 := by
  rw [List.drop_of_length_le (by omega)]; rfl
theorem prevO_pos {α : Type} {l : List α} {k : Nat} (h : k < l.length) (h0 : 0 < k) : prevO l k = some (l[k - 1]'(by omega)) := by
  unfold prevO; rw [if_neg (by omega), List.getElem?_eq_getElem (by omega)]
theorem badPers_1 {q : Option Pers} {p : Pers} (h : persOk p = false) : badPers q p = 1 := by simp [badPers, h]
theorem badPers_6 {l : List Pers} {k : Nat} (hk : k < l.length) (h : persOk l[k] = true) (h0 : 0 < k) (hs : (l[k]).id ≤ (l[k - 1]'(by omega)).id) : badPers (prevO l k) l[k] = 6 := by
  rw [prevO_pos hk h0]; unfold badPers; rw [if_neg (by simp [h])]; exact if_pos hs
theorem badPers_0 {l : List Pers} {k : Nat} (hk : k < l.length) (h : persOk l[k] = true) (hs : ∀ h0 : 0 < k, ¬ (l[k]).id ≤ (l[k - 1]'(by omega)).id) : badPers (prevO l k) l[k] = 0 := by
  unfold badPers; rw [if_neg (by simp [h])]; by_cases h0 : 0 < k
  rw [prevO_pos hk h0]; exact if_neg (hs h0); obtain rfl : k = 0 := by omega
  rfl
theorem badKey_1 {q : Option Int} {n : Int} (h : idOk n = false) : badKey q n = 1 := by simp [badKey, h]
theorem badKey_6 {l : List Int} {k : Nat} (hk : k < l.length) (h : idOk l[k] = true) (h0 : 0 < k) (hs : (l[k]) ≤ (l[k - 1]'(by omega))) : badKey (prevO l k) l[k] = 6 := by
  rw [prevO_pos hk h0]; unfold badKey; rw [if_neg (by simp [h])]; exact if_pos hs
theorem badKey_0 {l : List Int} {k : Nat} (hk : k < l.length) (h : idOk l[k] = true) (hs : ∀ h0 : 0 < k, ¬ (l[k]) ≤ (l[k - 1]'(by omega))) : badKey (prevO l k) l[k] = 0 := by
  unfold badKey; rw [if_neg (by simp [h])]; by_cases h0 : 0 < k
  rw [prevO_pos hk h0]; exact if_neg (hs h0); obtain rfl : k = 0 := by omega
  rfl
theorem lists_ok (c : Book) (hmax : c.people.length ≤ 1000000) (hmax' : c.keys.length ≤ 1000000) (hd : ∀ p ∈ c.people, p.duty.length ≤ 1000000) : Pu Tryz.prog G1 94 [bookV c] (vi (listsE c)) := by
  refine Qh 57 Tryz.func94 rfl rfl ?_
  (conv => whnf); repeat' (first | refine vv21 ?_ | refine vv23 ?_) <;> conv => whnf
  refine LoopN.of Qt (fun k : Nat => [(1, .pm 0 0 0), (8, persons c.people), (9, vi c.people.length), (10, vi k)]) (fun _ => [.rows [bookC c] 26]) (fun k => c.people.length - k) (fun k => k ≤ c.people.length ∧ scanE badPers none c.people = scanE badPers (prevO c.people k) (c.people.drop k)) 0 ⟨Nat.zero_le _, rfl⟩ (Reabs.frmN [0] (by repeat (first | exact trivial | refine ⟨.inr ⟨rfl, rfl⟩, ?_⟩)) (by repeat (first | exact trivial | refine ⟨⟨_, rfl, blkDeep rfl (by first | exact deepLit rfl | exact deepMap (fun _ => rfl)), fun _ => rfl⟩, ?_⟩)) (by decide) ⟨Nat.zero_le _, fun i hi => absurd hi (Nat.not_lt_zero i)⟩) ?_; rintro k ⟨hk, hinv⟩; by_cases hlt : k < c.people.length
  · have hp := person_ok c.people[k] (by have := hd _ (List.getElem_mem hlt); omega); rw [scanE_step hlt] at hinv
    (conv => whnf); repeat' (first | refine vv2 ?_ | refine vv3 ?_ | refine vv4 ?_ | refine vv7 ?_ | refine vv11 (fun hbr => ?_) (fun hbr => ?_) | refine vv17 (fun hbr => ?_) (fun hbr => ?_) | refine vv20 ?_ | refine SlIdxN.map _ rfl (by first | assumption | omega) ?_ | refine SlIdxN.mapPred (by omega) (by omega) ?_ | refine vv21 ?_ | refine vv22 ?_ | refine vv25 ?_ | refine Qd ?_ | refine Qp hp ?_) <;> conv => whnf
    all_goals first
      | (rw [badPers_1 ‹_›] at hinv; refine DoneN.pure ?_; rw [listsE, hinv]; rfl)
      | (rw [badPers_6 hlt ‹_› (by omega) (by omega)] at hinv; refine DoneN.pure ?_; rw [listsE, hinv]; rfl)
      | (rw [badPers_0 hlt ‹_› (fun _ => by omega)] at hinv; exact BackN.mk (k + 1) ⟨by omega, hinv⟩ (by omega) (Reabs.frmN [0] (by repeat (first | exact trivial | refine ⟨.inr ⟨rfl, rfl⟩, ?_⟩)) (by repeat (first | exact trivial | refine ⟨⟨_, rfl, blkDeep rfl (by first | exact deepLit rfl | exact deepMap (fun _ => rfl)), fun _ => rfl⟩, ?_⟩)) (by decide) ⟨Nat.zero_le _, fun i hi => absurd hi (Nat.not_lt_zero i)⟩))
  rw [scanE_end hlt] at hinv; have he : listsE c = scanE badKey none c.keys := by rw [listsE, hinv]; rfl
  rw [he]
  (conv => whnf); repeat' (first | refine vv8 ?_ | refine vv21 ?_ | refine vv23 ?_) <;> conv => whnf
  refine LoopN.of Qt (fun k : Nat => [(1, .pm 0 0 0), (34, ints c.keys), (35, vi c.keys.length), (36, vi k)]) (fun _ => [.rows [bookC c] 26]) (fun k => c.keys.length - k) (fun k => k ≤ c.keys.length ∧ scanE badKey none c.keys = scanE badKey (prevO c.keys k) (c.keys.drop k)) 0 ⟨Nat.zero_le _, rfl⟩ (Reabs.frmN [0] (by repeat (first | exact trivial | refine ⟨.inr ⟨rfl, rfl⟩, ?_⟩)) (by repeat (first | exact trivial | refine ⟨⟨_, rfl, blkDeep rfl (by first | exact deepLit rfl | exact deepMap (fun _ => rfl)), fun _ => rfl⟩, ?_⟩)) (by decide) ⟨Nat.zero_le _, fun i hi => absurd hi (Nat.not_lt_zero i)⟩) ?_; rintro k ⟨hk, hinv⟩; by_cases hlt : k < c.keys.length
  · have hp : Pu Tryz.prog G1 145 [vi c.keys[k]] (vb (idOk c.keys[k])) := id_ok _; rw [scanE_step hlt] at hinv
    (conv => whnf); repeat' (first | refine vv2 ?_ | refine vv3 ?_ | refine vv4 ?_ | refine vv7 ?_ | refine vv11 (fun hbr => ?_) (fun hbr => ?_) | refine vv12 (fun hbr => ?_) (fun hbr => ?_) | refine vv20 ?_ | refine SlIdxN.map _ rfl (by first | assumption | omega) ?_ | refine SlIdxN.mapPred (by omega) (by omega) ?_ | refine vv21 ?_ | refine Qp hp ?_) <;> conv => whnf
    all_goals first
      | (rw [badKey_1 (decide_eq_false (by assumption))] at hinv; refine DoneN.pure ?_; rw [hinv]; rfl)
      | (rw [badKey_6 hlt (decide_eq_true (by assumption)) (by omega) (by omega)] at hinv; refine DoneN.pure ?_; rw [hinv]; rfl)
      | (rw [badKey_0 hlt (decide_eq_true (by assumption)) (fun _ => by omega)] at hinv; exact BackN.mk (k + 1) ⟨by omega, hinv⟩ (by omega) (Reabs.frmN [0] (by repeat (first | exact trivial | refine ⟨.inr ⟨rfl, rfl⟩, ?_⟩)) (by repeat (first | exact trivial | refine ⟨⟨_, rfl, blkDeep rfl (by first | exact deepLit rfl | exact deepMap (fun _ => rfl)), fun _ => rfl⟩, ?_⟩)) (by decide) ⟨Nat.zero_le _, fun i hi => absurd hi (Nat.not_lt_zero i)⟩))
  (conv => whnf); repeat' (first | refine vv8 ?_) <;> conv => whnf
  refine DoneN.pure ?_; rw [hinv, scanE_end hlt]
end Go.Proofs.Ax
