/- Of every input the law RatesApart answers true, and each argument reads behind the call as it read before; the listed package-level variables hold what the text of the program lays in them. -/
import Derived.Test.YtdfgphfijfocoaaDoorLawApart
import Derived.Test.YtdfgphfijfocoaaDoorCardB
namespace Go.Proofs.YtdfgphfijfocoaaDoor.ratesApart
open Go Go.ChangeShapes Go.WideShapes Go.ChangeAt Go.RowKit Go.Proofs.Ax
abbrev args : Array Value := #[.slice none 0 0, .slice none 0 0, .agg #[.int .i64 0, .int .i64 0], .int .i64 0, .int .i64 0, .int .i64 0]
theorem readable : ∀ t ∈ Tryd.f9.params.toList, Tryd.prog.readableRec t = true ∧ t < Tryd.prog.types.size := by
  rw [Tryd.params9]
  intro t ht
  have : t = 33 ∨ t = 34 ∨ t = 45 ∨ t = 3 := by simpa using ht
  rcases this with rfl | rfl | rfl | rfl
  all_goals exact ⟨by kernel_rfl, by decide +kernel⟩
set_option maxRecDepth 100000 in
theorem contract (H : Type) (enc : TypeId × Value → H) (W : World) (base : Nat) (args : Array Value) (ds gs : List (DataW H)) (before : List MemPlace)
    (hval : ∀ (j : Nat) t v, Tryd.f9.params[j]? = some t → args[j]? = some v → Value.okWide Tryd.prog W .any base t v)
    (hW : DataW.Whole enc Tryd.prog Tryd.f9.params.toList Rows.ratesApartSpec.vars false W args.toList ds gs before) (hL : laidMetH Tryd.prog Rows.ratesApartRow.laid W) :
    Calls Tryd.prog 9 args W fun e W' => ∃ v, e = .returned v ∧ Rows.ratesApartSpec.post enc Tryd.prog Tryd.f9 false true false false W args v W' := by
  refine law_done [.slice shPol, .slice shRnd, shSpan, shI, shI, shI] laidOut ?_ readable rfl (by kernel_rfl) (by kernel_rfl) ?_ law_apart (globs hL) hval hW
  · rw [Tryd.params9]; exact ⟨fitPols, fitRnds, fitSpan, fitI, fitI, fitI, trivial⟩
  · intro ds hds
    match ds, hds with
    | [a, b, c, d, e, f], _ => rfl
theorem laid_met (os : Os) : laidMet Tryd.prog Rows.ratesApartRow.laid ((laidWorld os).forCall (fun _ _ => 0) ⟨#[], args, []⟩).memory :=
  laidMet_of_run' 8 (by kernel_rfl) (by kernel_rfl)
theorem reads (os : Os) {H : Type} (enc : TypeId × Value → H) : ∃ places, DataW.whole enc Tryd.prog ((laidWorld os).forCall (fun _ _ => 0) ⟨#[], args, []⟩).memory Tryd.f9.params.toList Rows.ratesApartSpec.vars false args.toList 8 = some ([.nil, .nil, .agg [.lit (.int .i64 0), .lit (.int .i64 0)], .lit (.int .i64 0), .lit (.int .i64 0), .lit (.int .i64 0)], [], places) :=
  ⟨[], by kernel_rfl⟩
set_option maxRecDepth 100000 in
theorem lifted (os : Os) (started : os.Started) (H : Type) (enc : TypeId × Value → H) (F : Stop.Interp) :
    ReturnsInHanded {} Tryd.checked os 9 .any ((OpenSpec.ofChange Rows.ratesApartSpec).preRow enc Tryd.prog Tryd.f9 Rows.ratesApartRow.domain false Rows.ratesApartRow.laid) (((OpenSpec.ofChange Rows.ratesApartSpec).at F).post enc Tryd.prog Tryd.f9 false true false false) := by
  obtain ⟨places, hx⟩ := reads os enc
  refine returnsInHanded_of_row (C := Tryd.checked) (s := OpenSpec.ofChange Rows.ratesApartSpec) own started (by kernel_rfl) Tryd.func9
    (witness_row_at (enc := enc) (C := Tryd.checked) false (laidWorld os) args rfl (by kernel_rfl) (by kernel_rfl) (by kernel_rfl)
      (OpenSpec.preRow_of_cond 8 hx (by kernel_rfl) (fun k hk => by cases hk) (by kernel_rfl) (laid_met os))) ?_
  intro W base args ds gs before hval hW _ _ _ hL _ _
  exact contract H enc W base args ds gs before hval hW hL
theorem said : Rows.RatesApartSaid :=
  OpenClaim.holds_of_cond 9 Tryd.f9 rfl rfl rfl rfl rfl rfl rfl ⟨rfl, rfl, rfl, rfl, rfl⟩ rfl rfl rfl rfl rfl (by kernel_rfl) Tryd.func9 (by kernel_rfl)
    (of_decide_eq_true (by kernel_rfl)) (by unfold Func.isWrapper; first | (rw [if_pos (by decide +kernel)]; kernel_rfl) | (rw [if_neg (by decide +kernel)]; exact ⟨rfl, rfl⟩))
    (fun os started H enc _ F => by rw [OpenClaim.pre_eq_preRow]; exact lifted os started H enc F)
theorem plain (f : FuncId) (fn : Func) (hf : Tryd.pinned.checked.prog.funcNamed "patrol/patrollaw07.RatesApart" = some f) (hfn : Tryd.pinned.checked.prog.funcs[f]? = some fn) :
    false = Tryd.pinned.checked.prog.looks [] ∧ ∀ (j : Nat) t, fn.params[j]? = some t → Tryd.pinned.checked.prog.wantsStandIn t = false := by
  obtain rfl : f = 9 := Option.some.inj ((show Tryd.prog.funcNamed "patrol/patrollaw07.RatesApart" = some 9 by kernel_rfl).symm.trans hf) |>.symm
  obtain rfl : fn = Tryd.f9 := (Option.some.inj (Tryd.func9.symm.trans hfn)).symm
  refine ⟨by kernel_rfl, fun j t ht => ?_⟩
  rw [Tryd.params9] at ht
  have : t = 33 ∨ t = 34 ∨ t = 45 ∨ t = 3 := by simpa using Array.mem_of_getElem? ht
  rcases this with rfl | rfl | rfl | rfl
  · exact (show Tryd.prog.wantsStandIn 33 = false by kernel_rfl)
  · exact (show Tryd.prog.wantsStandIn 34 = false by kernel_rfl)
  · exact (show Tryd.prog.wantsStandIn 45 = false by kernel_rfl)
  · exact (show Tryd.prog.wantsStandIn 3 = false by kernel_rfl)
theorem card : Rows.RatesApartCardSaid :=
  Claim7.holds_tied_plain_at .later [] _ _ _ _ said (fun _ h => by cases h) (by kernel_rfl) (fun _ h => by cases h) ratesApart_row_tie rfl ⟨rfl, rfl⟩ (by kernel_rfl) rfl plain (by kernel_rfl)
end Go.Proofs.YtdfgphfijfocoaaDoor.ratesApart
