/- Of every input the law RatesTextsBack answers true, and each argument reads behind the call as it read before; the listed package-level variables hold what the text of the program lays in them. -/
import Derived.Test.YtdfgphfijfocoaaGreatDoorLawzTexts
import Derived.Test.YtdfgphfijfocoaaGreatDoorCdT
namespace Go.Proofs.YtdfgphfijfocoaaGreatDoor.ratesTextsBack
open Go Go.ChangeShapes Go.WideShapes Go.ChangeAt Go.RowKit Go.Proofs.Ax
abbrev args : Array Value := #[.slice none 0 0, .string ⟨#[]⟩]
theorem readable : ∀ t ∈ Tryz.f12.params.toList, Tryz.prog.readableRec t = true ∧ t < Tryz.prog.types.size := by
  rw [Tryz.params12]
  intro t ht
  have : t = 49 ∨ t = 9 := by simpa using ht
  rcases this with rfl | rfl
  all_goals exact ⟨by kernel_rfl, by decide +kernel⟩
set_option maxRecDepth 100000 in
theorem contract (H : Type) (enc : TypeId × Value → H) (W : World) (base : Nat) (args : Array Value) (ds gs : List (DataW H)) (before : List MemPlace)
    (hval : ∀ (j : Nat) t v, Tryz.f12.params[j]? = some t → args[j]? = some v → Value.okWide Tryz.prog W .any base t v)
    (hW : DataW.Whole enc Tryz.prog Tryz.f12.params.toList Rows.ratesTextsBackSpec.vars false W args.toList ds gs before) (hL : laidMetH Tryz.prog Rows.ratesTextsBackRow.laid W) (hO : W.ShapedOpen Tryz.prog) :
    Calls Tryz.prog 12 args W fun e W' => ∃ v, e = .returned v ∧ Rows.ratesTextsBackSpec.post enc Tryz.prog Tryz.f12 false true false false W args v W' := by
  obtain ⟨m, e0, e1, o0, o1, hG⟩ := globs2 hL hO
  refine law_done [.slice shPost, shS] laidOut ?_ readable rfl (by kernel_rfl) (by kernel_rfl) ?_ (law_textsBack m e0 e1 o0 o1) hG hval hW
  · rw [Tryz.params12]; exact ⟨fitPosts, fitStr, trivial⟩
  · intro ds hds
    match ds, hds with
    | [a, b], _ => rfl
theorem laid_met (os : Os) : laidMet Tryz.prog Rows.ratesTextsBackRow.laid ((World.laidAll Tryz.prog os Rows.ratesTextsBackRow.laid).forCall (fun _ _ => 0) ⟨#[], args, []⟩).memory :=
  laidMet_laidAll _ (by kernel_rfl) (by kernel_rfl)
theorem reads (os : Os) {H : Type} (enc : TypeId × Value → H) : ∃ places, DataW.whole enc Tryz.prog ((World.laidAll Tryz.prog os Rows.ratesTextsBackRow.laid).forCall (fun _ _ => 0) ⟨#[], args, []⟩).memory Tryz.f12.params.toList Rows.ratesTextsBackSpec.vars false args.toList 8 = some ([.nil, .lit (.string [])], [], places) :=
  ⟨[], by kernel_rfl⟩
set_option maxRecDepth 100000 in
theorem lifted (os : Os) (started : os.Started) (H : Type) (enc : TypeId × Value → H) (F : Stop.Interp) :
    ReturnsInHanded {} Tryz.checked os 12 .any ((OpenSpec.ofChange Rows.ratesTextsBackSpec).preRow enc Tryz.prog Tryz.f12 Rows.ratesTextsBackRow.domain false Rows.ratesTextsBackRow.laid) (((OpenSpec.ofChange Rows.ratesTextsBackSpec).at F).post enc Tryz.prog Tryz.f12 false true false false) := by
  obtain ⟨places, hx⟩ := reads os enc
  refine returnsInHanded_of_row (C := Tryz.checked) (s := OpenSpec.ofChange Rows.ratesTextsBackSpec) own started (by kernel_rfl) Tryz.func12
    (witness_zip (enc := enc) (C := Tryz.checked) false (World.laidAll Tryz.prog os Rows.ratesTextsBackRow.laid) args (World.laidAll_os _ _ _) (by kernel_rfl) (by kernel_rfl) (by kernel_rfl)
      (OpenSpec.preRow_of_cond 8 hx (by kernel_rfl) (fun k hk => by cases hk) (by kernel_rfl) (laid_met os))) ?_
  intro W base args ds gs before hval hW _ _ _ hL hO _
  exact contract H enc W base args ds gs before hval hW hL hO
theorem said : Rows.RatesTextsBackSaid :=
  OpenClaim.holds_of_cond 12 Tryz.f12 rfl rfl rfl rfl rfl rfl rfl ⟨rfl, rfl, rfl, rfl, rfl⟩ rfl rfl rfl rfl rfl (by kernel_rfl) Tryz.func12 (by kernel_rfl)
    (of_decide_eq_true (by kernel_rfl)) (by unfold Func.isWrapper; first | (rw [if_pos (by decide +kernel)]; kernel_rfl) | (rw [if_neg (by decide +kernel)]; exact ⟨rfl, rfl⟩))
    (fun os started H enc _ F => by rw [OpenClaim.pre_eq_preRow]; exact lifted os started H enc F)
theorem plain (f : FuncId) (fn : Func) (hf : Tryz.pinned.checked.prog.funcNamed "patrol/patrollaw07.RatesTextsBack" = some f) (hfn : Tryz.pinned.checked.prog.funcs[f]? = some fn) :
    true = Tryz.pinned.checked.prog.looks [] ∧ ∀ (j : Nat) t, fn.params[j]? = some t → Tryz.pinned.checked.prog.wantsStandIn t = false := by
  obtain rfl : f = 12 := Option.some.inj ((show Tryz.prog.funcNamed "patrol/patrollaw07.RatesTextsBack" = some 12 by kernel_rfl).symm.trans hf) |>.symm
  obtain rfl : fn = Tryz.f12 := (Option.some.inj (Tryz.func12.symm.trans hfn)).symm
  refine ⟨by kernel_rfl, fun j t ht => ?_⟩
  rw [Tryz.params12] at ht
  have : t = 49 ∨ t = 9 := by simpa using Array.mem_of_getElem? ht
  rcases this with rfl | rfl
  · exact (show Tryz.prog.wantsStandIn 49 = false by kernel_rfl)
  · exact (show Tryz.prog.wantsStandIn 9 = false by kernel_rfl)
theorem card : Rows.RatesTextsBackCardSaid :=
  Claim7.holds_tied_plain_at .later [] _ _ _ _ said (fun _ h => by cases h) (by kernel_rfl) (fun _ h => by cases h) ratesTextsBack_row_tie rfl ⟨rfl, rfl⟩ (by kernel_rfl) rfl plain (by kernel_rfl)
end Go.Proofs.YtdfgphfijfocoaaGreatDoor.ratesTextsBack
