/- Of every input the law RatesChecks answers true, and each argument reads behind the call as it read before; the listed package-level variables hold what the text of the program lays in them. -/
import Derived.Test.YtdfgphfijfocoaaDoorRbG
import Derived.Test.YtdfgphfijfocoaaDoorCards
import Derived.Test.YtdfgphfijfocoaaDoorTie
import Derived.ProofKit
import Derived.OpenShut
import Derived.Deep.DeepHandedRow
namespace Go.Proofs.YtdfgphfijfocoaaDoor
open Go Go.ChangeShapes Go.WideShapes Go.ChangeAt Go.RowKit Go.Proofs.Ax
theorem own : ownKnob Tryd.prog.godebug = none := by kernel_rfl
theorem laidOut : laidOutB Tryd.prog = true := by kernel_rfl
theorem fitI : Sh.fits Tryd.prog shI 3 := (show Tryd.prog.underlying 3 = some (.int .i64) by kernel_rfl)
theorem fitIs : Sh.fits Tryd.prog (.slice shI) 22 := ⟨3, by kernel_rfl, fitI, by kernel_rfl, by decide⟩
theorem fitPol : Sh.fits Tryd.prog shPol 39 := ⟨_, Tryd.underlying39, ⟨rfl, fitI, by kernel_rfl, rfl, fitI, by kernel_rfl, rfl, fitI, by kernel_rfl, rfl, fitI, by kernel_rfl, rfl, fitI, by kernel_rfl, rfl, fitI, by kernel_rfl, rfl, fitI, by kernel_rfl, trivial⟩, by kernel_rfl⟩
theorem fitPols : Sh.fits Tryd.prog (.slice shPol) 33 := ⟨39, by kernel_rfl, fitPol, by kernel_rfl, by decide⟩
theorem fitRnd : Sh.fits Tryd.prog shRnd 75 := ⟨_, Tryd.underlying75, ⟨rfl, fitI, by kernel_rfl, rfl, fitI, by kernel_rfl, rfl, fitI, by kernel_rfl, rfl, fitIs, by kernel_rfl, trivial⟩, by kernel_rfl⟩
theorem fitRnds : Sh.fits Tryd.prog (.slice shRnd) 34 := ⟨75, by kernel_rfl, fitRnd, by kernel_rfl, by decide⟩
theorem globs {W : World} (h : laidMetH Tryd.prog [("math/bits.deBruijn32tab", Rows.laid_math_bits_deBruijn32tab), ("math/bits.deBruijn64tab", Rows.laid_math_bits_deBruijn64tab), ("internal/strconv.uint64pow10", Rows.laid_internal_strconv_uint64pow10)] W) :
    ∀ (g : Nat) (cells : List AV), G1 g = some cells → GlobAt (· < W.heap.size) W g cells :=
  glob_of_tab (third_tab (g := 0) (t := 177) (e := 158) (n := 20) (by kernel_rfl) (by kernel_rfl) (by kernel_rfl) (by kernel_rfl) (by kernel_rfl) (by kernel_rfl) h)
/-- A world for the witness: the settled one, each table holding what its initialiser lays. -/
noncomputable def lay (cs : Array Value) : Obj → Obj
  | .cells _ t frozen => .cells cs t frozen
  | o => o
def tab32 : Array Value := ([0, 1, 28, 2, 29, 14, 24, 3, 30, 22, 20, 15, 25, 17, 4, 8, 31, 27, 13, 23, 21, 19, 16, 7, 26, 12, 18, 6, 11, 5, 10, 9].map fun i => Value.int .u8 i).toArray
def tab64 : Array Value := ([0, 1, 56, 2, 57, 49, 28, 3, 61, 58, 42, 50, 38, 29, 17, 4, 62, 47, 59, 36, 45, 43, 51, 22, 53, 39, 33, 30, 24, 18, 12, 5, 63, 55, 48, 27, 60, 41, 37, 16, 46, 35, 44, 21, 52, 32, 23, 11, 54, 26, 40, 15, 34, 20, 31, 10, 25, 14, 19, 9, 13, 8, 7, 6].map fun i => Value.int .u8 i).toArray
def tab10 : Array Value := ((List.range 20).map fun i => Value.int .u64 ((10 ^ i : Nat) : Int)).toArray
noncomputable def laidWorld (os : Os) : World :=
  { World.holding Tryd.prog os ⟨#[], #[], []⟩ with heap := (((World.holding Tryd.prog os ⟨#[], #[], []⟩).heap.modify 0 (lay tab10)).modify 1 (lay tab32)).modify 2 (lay tab64) }
end Go.Proofs.YtdfgphfijfocoaaDoor
namespace Go.Proofs.YtdfgphfijfocoaaDoor.ratesChecks
open Go Go.ChangeShapes Go.WideShapes Go.ChangeAt Go.RowKit Go.Proofs.Ax
abbrev args : Array Value := #[.slice none 0 0, .slice none 0 0, .int .i64 0]
theorem readable : ∀ t ∈ Tryd.f5.params.toList, Tryd.prog.readableRec t = true ∧ t < Tryd.prog.types.size := by
  rw [Tryd.params5]
  intro t ht
  have : t = 33 ∨ t = 34 ∨ t = 3 := by simpa using ht
  rcases this with rfl | rfl | rfl
  · exact ⟨by kernel_rfl, by decide +kernel⟩
  · exact ⟨by kernel_rfl, by decide +kernel⟩
  · exact ⟨by kernel_rfl, by decide +kernel⟩
set_option maxRecDepth 100000 in
theorem contract (H : Type) (enc : TypeId × Value → H) (W : World) (base : Nat) (args : Array Value) (ds gs : List (DataW H)) (before : List MemPlace)
    (hval : ∀ (j : Nat) t v, Tryd.f5.params[j]? = some t → args[j]? = some v → Value.okWide Tryd.prog W .any base t v)
    (hW : DataW.Whole enc Tryd.prog Tryd.f5.params.toList Rows.ratesChecksSpec.vars false W args.toList ds gs before) (hL : laidMetH Tryd.prog Rows.ratesChecksRow.laid W) :
    Calls Tryd.prog 5 args W fun e W' => ∃ v, e = .returned v ∧ Rows.ratesChecksSpec.post enc Tryd.prog Tryd.f5 false true false false W args v W' := by
  refine law_done [.slice shPol, .slice shRnd, shI] laidOut ?_ readable rfl (by kernel_rfl) (by kernel_rfl) ?_ law_checks (globs hL) hval hW
  · rw [Tryd.params5]; exact ⟨fitPols, fitRnds, fitI, trivial⟩
  · intro ds hds
    match ds, hds with
    | [a, b, c], _ => rfl
theorem laid_met (os : Os) : laidMet Tryd.prog Rows.ratesChecksRow.laid ((laidWorld os).forCall (fun _ _ => 0) ⟨#[], args, []⟩).memory :=
  laidMet_of_run' 8 (by kernel_rfl) (by kernel_rfl)
theorem reads (os : Os) {H : Type} (enc : TypeId × Value → H) : ∃ places, DataW.whole enc Tryd.prog ((laidWorld os).forCall (fun _ _ => 0) ⟨#[], args, []⟩).memory Tryd.f5.params.toList Rows.ratesChecksSpec.vars false args.toList 8 = some ([.nil, .nil, .lit (.int .i64 0)], [], places) :=
  ⟨[], by kernel_rfl⟩
set_option maxRecDepth 100000 in
theorem lifted (os : Os) (started : os.Started) (H : Type) (enc : TypeId × Value → H) (F : Stop.Interp) :
    ReturnsInHanded {} Tryd.checked os 5 .any ((OpenSpec.ofChange Rows.ratesChecksSpec).preRow enc Tryd.prog Tryd.f5 Rows.ratesChecksRow.domain false Rows.ratesChecksRow.laid) (((OpenSpec.ofChange Rows.ratesChecksSpec).at F).post enc Tryd.prog Tryd.f5 false true false false) := by
  obtain ⟨places, hx⟩ := reads os enc
  refine returnsInHanded_of_row (C := Tryd.checked) (s := OpenSpec.ofChange Rows.ratesChecksSpec) own started (by kernel_rfl) Tryd.func5
    (witness_row_at (enc := enc) (C := Tryd.checked) false (laidWorld os) args rfl (by kernel_rfl) (by kernel_rfl) (by kernel_rfl)
      (OpenSpec.preRow_of_cond 8 hx (by kernel_rfl) (fun k hk => by cases hk) (by kernel_rfl) (laid_met os))) ?_
  intro W base args ds gs before hval hW _ _ _ hL _ _
  exact contract H enc W base args ds gs before hval hW hL
theorem said : Rows.RatesChecksSaid :=
  OpenClaim.holds_of_cond 5 Tryd.f5 rfl rfl rfl rfl rfl rfl rfl ⟨rfl, rfl, rfl, rfl, rfl⟩ rfl rfl rfl rfl rfl (by kernel_rfl) Tryd.func5 (by kernel_rfl)
    (of_decide_eq_true (by kernel_rfl)) (by unfold Func.isWrapper; first | (rw [if_pos (by decide +kernel)]; kernel_rfl) | (rw [if_neg (by decide +kernel)]; exact ⟨rfl, rfl⟩))
    (fun os started H enc _ F => by rw [OpenClaim.pre_eq_preRow]; exact lifted os started H enc F)
theorem plain (f : FuncId) (fn : Func) (hf : Tryd.pinned.checked.prog.funcNamed "patrol/patrollaw07.RatesChecks" = some f) (hfn : Tryd.pinned.checked.prog.funcs[f]? = some fn) :
    false = Tryd.pinned.checked.prog.looks [] ∧ ∀ (j : Nat) t, fn.params[j]? = some t → Tryd.pinned.checked.prog.wantsStandIn t = false := by
  obtain rfl : f = 5 := Option.some.inj ((show Tryd.prog.funcNamed "patrol/patrollaw07.RatesChecks" = some 5 by kernel_rfl).symm.trans hf) |>.symm
  obtain rfl : fn = Tryd.f5 := (Option.some.inj (Tryd.func5.symm.trans hfn)).symm
  refine ⟨by kernel_rfl, fun j t ht => ?_⟩
  rw [Tryd.params5] at ht
  have : t = 33 ∨ t = 34 ∨ t = 3 := by simpa using Array.mem_of_getElem? ht
  rcases this with rfl | rfl | rfl
  · exact (show Tryd.prog.wantsStandIn 33 = false by kernel_rfl)
  · exact (show Tryd.prog.wantsStandIn 34 = false by kernel_rfl)
  · exact (show Tryd.prog.wantsStandIn 3 = false by kernel_rfl)
theorem card : Rows.RatesChecksCardSaid :=
  Claim7.holds_tied_plain_at .later [] _ _ _ _ said (fun _ h => by cases h) (by kernel_rfl) (fun _ h => by cases h) ratesChecks_row_tie rfl ⟨rfl, rfl⟩ (by kernel_rfl) rfl plain (by kernel_rfl)
end Go.Proofs.YtdfgphfijfocoaaDoor.ratesChecks
