/- Of every input the law RatesCorrected answers true, and each argument reads behind the call as it read before; the listed package-level variables hold what the text of the program lays in them. -/
import Derived.Test.YtdfgphfijfocoaaGreatDoorLawzCorrected
import Derived.Test.YtdfgphfijfocoaaGreatDoorCardB
namespace Go.Proofs.YtdfgphfijfocoaaGreatDoor.ratesCorrected
open Go Go.ChangeShapes Go.WideShapes Go.ChangeAt Go.RowKit Go.Proofs.Ax
abbrev args : Array Value := #[.slice none 0 0, .slice none 0 0]
theorem readable : ∀ t ∈ Tryz.f10.params.toList, Tryz.prog.readableRec t = true ∧ t < Tryz.prog.types.size := by
  rw [Tryz.params10]
  intro t ht
  have : t = 49 := by simpa using ht
  rcases this with rfl
  all_goals exact ⟨by kernel_rfl, by decide +kernel⟩
set_option maxRecDepth 100000 in
theorem contract (H : Type) (enc : TypeId × Value → H) (W : World) (base : Nat) (args : Array Value) (ds gs : List (DataW H)) (before : List MemPlace)
    (hval : ∀ (j : Nat) t v, Tryz.f10.params[j]? = some t → args[j]? = some v → Value.okWide Tryz.prog W .any base t v)
    (hW : DataW.Whole enc Tryz.prog Tryz.f10.params.toList Rows.ratesCorrectedSpec.vars false W args.toList ds gs before) (hL : laidMetH Tryz.prog Rows.ratesCorrectedRow.laid W) :
    Calls Tryz.prog 10 args W fun e W' => ∃ v, e = .returned v ∧ Rows.ratesCorrectedSpec.post enc Tryz.prog Tryz.f10 false true false false W args v W' := by
  refine law_done [.slice shPost, .slice shPost] laidOut ?_ readable rfl (by kernel_rfl) (by kernel_rfl) ?_ law_corrected (globs hL) hval hW
  · rw [Tryz.params10]; exact ⟨fitPosts, fitPosts, trivial⟩
  · intro ds hds
    match ds, hds with
    | [a, b], _ => rfl
theorem laid_met (os : Os) : laidMet Tryz.prog Rows.ratesCorrectedRow.laid ((laidWorld os).forCall (fun _ _ => 0) ⟨#[], args, []⟩).memory :=
  laidMet_of_run' 8 (by kernel_rfl) (by kernel_rfl)
theorem reads (os : Os) {H : Type} (enc : TypeId × Value → H) : ∃ places, DataW.whole enc Tryz.prog ((laidWorld os).forCall (fun _ _ => 0) ⟨#[], args, []⟩).memory Tryz.f10.params.toList Rows.ratesCorrectedSpec.vars false args.toList 8 = some ([.nil, .nil], [], places) :=
  ⟨[], by kernel_rfl⟩
set_option maxRecDepth 100000 in
theorem lifted (os : Os) (started : os.Started) (H : Type) (enc : TypeId × Value → H) (F : Stop.Interp) :
    ReturnsInHanded {} Tryz.checked os 10 .any ((OpenSpec.ofChange Rows.ratesCorrectedSpec).preRow enc Tryz.prog Tryz.f10 Rows.ratesCorrectedRow.domain false Rows.ratesCorrectedRow.laid) (((OpenSpec.ofChange Rows.ratesCorrectedSpec).at F).post enc Tryz.prog Tryz.f10 false true false false) := by
  obtain ⟨places, hx⟩ := reads os enc
  refine returnsInHanded_of_row (C := Tryz.checked) (s := OpenSpec.ofChange Rows.ratesCorrectedSpec) own started (by kernel_rfl) Tryz.func10
    (witness_row_at (enc := enc) (C := Tryz.checked) false (laidWorld os) args rfl (by kernel_rfl) (by kernel_rfl) (by kernel_rfl)
      (OpenSpec.preRow_of_cond 8 hx (by kernel_rfl) (fun k hk => by cases hk) (by kernel_rfl) (laid_met os))) ?_
  intro W base args ds gs before hval hW _ _ _ hL _ _
  exact contract H enc W base args ds gs before hval hW hL
theorem said : Rows.RatesCorrectedSaid :=
  OpenClaim.holds_of_cond 10 Tryz.f10 rfl rfl rfl rfl rfl rfl rfl ⟨rfl, rfl, rfl, rfl, rfl⟩ rfl rfl rfl rfl rfl (by kernel_rfl) Tryz.func10 (by kernel_rfl)
    (of_decide_eq_true (by kernel_rfl)) (by unfold Func.isWrapper; first | (rw [if_pos (by decide +kernel)]; kernel_rfl) | (rw [if_neg (by decide +kernel)]; exact ⟨rfl, rfl⟩))
    (fun os started H enc _ F => by rw [OpenClaim.pre_eq_preRow]; exact lifted os started H enc F)
theorem plain (f : FuncId) (fn : Func) (hf : Tryz.pinned.checked.prog.funcNamed "patrol/patrollaw07.RatesCorrected" = some f) (hfn : Tryz.pinned.checked.prog.funcs[f]? = some fn) :
    true = Tryz.pinned.checked.prog.looks [] ∧ ∀ (j : Nat) t, fn.params[j]? = some t → Tryz.pinned.checked.prog.wantsStandIn t = false := by
  obtain rfl : f = 10 := Option.some.inj ((show Tryz.prog.funcNamed "patrol/patrollaw07.RatesCorrected" = some 10 by kernel_rfl).symm.trans hf) |>.symm
  obtain rfl : fn = Tryz.f10 := (Option.some.inj (Tryz.func10.symm.trans hfn)).symm
  refine ⟨by kernel_rfl, fun j t ht => ?_⟩
  rw [Tryz.params10] at ht
  have : t = 49 := by simpa using Array.mem_of_getElem? ht
  rcases this with rfl
  · exact (show Tryz.prog.wantsStandIn 49 = false by kernel_rfl)
theorem card : Rows.RatesCorrectedCardSaid :=
  Claim7.holds_tied_plain_at .later [] _ _ _ _ said (fun _ h => by cases h) (by kernel_rfl) (fun _ h => by cases h) ratesCorrected_row_tie rfl ⟨rfl, rfl⟩ (by kernel_rfl) rfl plain (by kernel_rfl)
end Go.Proofs.YtdfgphfijfocoaaGreatDoor.ratesCorrected
