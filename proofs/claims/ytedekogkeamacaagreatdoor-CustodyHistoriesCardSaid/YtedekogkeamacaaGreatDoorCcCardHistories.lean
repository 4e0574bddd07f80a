/- Of every input the law CustodyHistories answers true, and each argument reads behind the call as it read before; the listed package-level variables hold what the text of the program lays in them. -/
import Derived.Test.YtedekogkeamacaaGreatDoorCcLawHistories
import Derived.Test.YtedekogkeamacaaGreatDoorCcCardB
namespace Go.Proofs.YtedekogkeamacaaGreatDoor.custodyHistories
open Go Go.ChangeShapes Go.WideShapes Go.ChangeAt Go.RowKit Go.Proofs.Ax
abbrev args : Array Value := #[.agg #[.slice none 0 0, .slice none 0 0, .slice none 0 0, .int .i64 0], .int .i64 0, .slice none 0 0, .int .i64 0]
theorem readable : ∀ t ∈ Tryz.f8.params.toList, Tryz.prog.readableRec t = true ∧ t < Tryz.prog.types.size := by
  rw [Tryz.params8]
  intro t ht
  have : t = 26 ∨ t = 3 ∨ t = 54 ∨ t = 3 := by simpa using ht
  rcases this with rfl | rfl | rfl | rfl
  all_goals exact ⟨by kernel_rfl, by decide +kernel⟩
set_option maxRecDepth 100000 in
theorem contract (H : Type) (enc : TypeId × Value → H) (W : World) (base : Nat) (args : Array Value) (ds gs : List (DataW H)) (before : List MemPlace)
    (hval : ∀ (j : Nat) t v, Tryz.f8.params[j]? = some t → args[j]? = some v → Value.okWide Tryz.prog W .any base t v)
    (hW : DataW.Whole enc Tryz.prog Tryz.f8.params.toList Rows.custodyHistoriesSpec.vars false W args.toList ds gs before) (hL : laidMetH Tryz.prog Rows.custodyHistoriesRow.laid W) :
    Calls Tryz.prog 8 args W fun e W' => ∃ v, e = .returned v ∧ Rows.custodyHistoriesSpec.post enc Tryz.prog Tryz.f8 false true false false W args v W' := by
  refine law_done [shBook, shI, .slice shMv, shI] laidOut ?_ readable rfl (by kernel_rfl) (by kernel_rfl) ?_ law_histories (globs hL) hval hW
  · rw [Tryz.params8]; exact ⟨fitBook, fitI, fitMvs, fitI, trivial⟩
  · intro ds hds
    match ds, hds with
    | [a, b, c, d], _ => rfl
theorem laid_met (os : Os) : laidMet Tryz.prog Rows.custodyHistoriesRow.laid ((World.laidAll Tryz.prog os Rows.custodyHistoriesRow.laid).forCall (fun _ _ => 0) ⟨#[], args, []⟩).memory :=
  laidMet_laidAll _ (by kernel_rfl) (by kernel_rfl)
theorem reads (os : Os) {H : Type} (enc : TypeId × Value → H) : ∃ places, DataW.whole enc Tryz.prog ((World.laidAll Tryz.prog os Rows.custodyHistoriesRow.laid).forCall (fun _ _ => 0) ⟨#[], args, []⟩).memory Tryz.f8.params.toList Rows.custodyHistoriesSpec.vars false args.toList 8 = some ([.agg [.nil, .nil, .nil, .lit (.int .i64 0)], .lit (.int .i64 0), .nil, .lit (.int .i64 0)], [], places) :=
  ⟨[], by kernel_rfl⟩
set_option maxRecDepth 100000 in
theorem lifted (os : Os) (started : os.Started) (H : Type) (enc : TypeId × Value → H) (F : Stop.Interp) :
    ReturnsInHanded {} Tryz.checked os 8 .any ((OpenSpec.ofChange Rows.custodyHistoriesSpec).preRow enc Tryz.prog Tryz.f8 Rows.custodyHistoriesRow.domain false Rows.custodyHistoriesRow.laid) (((OpenSpec.ofChange Rows.custodyHistoriesSpec).at F).post enc Tryz.prog Tryz.f8 false true false false) := by
  obtain ⟨places, hx⟩ := reads os enc
  refine returnsInHanded_of_row (C := Tryz.checked) (s := OpenSpec.ofChange Rows.custodyHistoriesSpec) own started (by kernel_rfl) Tryz.func8
    (witness_zip (enc := enc) (C := Tryz.checked) false (World.laidAll Tryz.prog os Rows.custodyHistoriesRow.laid) args (World.laidAll_os _ _ _) (by kernel_rfl) (by kernel_rfl) (by kernel_rfl)
      (OpenSpec.preRow_of_cond 8 hx (by kernel_rfl) (fun k hk => by cases hk) (by kernel_rfl) (laid_met os))) ?_
  intro W base args ds gs before hval hW _ _ _ hL _ _
  exact contract H enc W base args ds gs before hval hW hL
theorem clo : Tryz.prog.closure 8 = [8, 15, 16, 67, 37, 72, 41, 94, 144, 73, 98, 145, 95, 124, 175, 146, 142, 196, 195, 217, 74, 82, 133, 134, 182, 135, 183, 152, 99, 84, 139, 193, 194, 138, 184, 190, 216, 185, 211, 186, 212, 213, 187, 214, 215, 233, 188, 189, 191, 192, 150, 199, 219, 221, 220, 236, 132, 179, 180, 69, 181, 17, 70, 68, 18, 71, 19, 75, 125, 126, 76, 27, 80, 79, 81, 38, 92, 93, 143, 197, 218, 234, 235, 250, 259, 198, 56, 107, 48, 97, 23, 42, 96, 105, 147, 148, 149, 29, 83, 137, 136, 28, 63, 112, 154, 200, 222, 237, 238, 251, 252, 239, 240, 253, 254, 260, 261, 113, 114, 155, 201, 223, 202, 224, 156, 157, 34, 30, 85, 22, 86, 89, 140, 141, 49, 50, 51, 90, 40, 100, 21, 87, 91, 32, 78, 77, 127, 129, 128, 130, 176, 177, 131, 178] := by kernel_rfl
theorem kk1 : (Rows.custodyHistoriesRow.inPlace == Tryz.prog.inPlace 8) = true := by rw [Program.inPlace, clo]; kernel_rfl
theorem kk2 : (Rows.custodyHistoriesRow.unfollowed == Tryz.prog.unfollowed 8) = true := by rw [Program.unfollowed, clo]; kernel_rfl
theorem kk3 : (Rows.custodyHistoriesRow.recurses == Tryz.prog.recurses 8) = true := by rw [Program.recurses, Program.unfollowed, clo]; kernel_rfl
theorem kk4 : (Rows.custodyHistoriesRow.named == Tryz.prog.varsNamed 8) = true := by rw [Program.varsNamed, clo]; kernel_rfl
theorem closed : joinedFacts Tryz.prog 8 Tryz.f8 (OpenSpec.ofChange Rows.custodyHistoriesSpec).bare Rows.custodyHistoriesRow = true := by
  unfold joinedFacts
  rw [kk1, kk2, kk3, kk4]
  kernel_rfl
theorem said : Rows.CustodyHistoriesSaid :=
  OpenClaim.holds_of_cond 8 Tryz.f8 rfl rfl rfl rfl rfl rfl rfl ⟨rfl, rfl, rfl, rfl, rfl⟩ rfl rfl rfl rfl rfl (by kernel_rfl) Tryz.func8 closed
    (of_decide_eq_true (by kernel_rfl)) (by unfold Func.isWrapper; first | (rw [if_pos (by decide +kernel)]; kernel_rfl) | (rw [if_neg (by decide +kernel)]; exact ⟨rfl, rfl⟩))
    (fun os started H enc _ F => by rw [OpenClaim.pre_eq_preRow]; exact lifted os started H enc F)
theorem plain (f : FuncId) (fn : Func) (hf : Tryz.pinned.checked.prog.funcNamed "patrol/patrollaw06.CustodyHistories" = some f) (hfn : Tryz.pinned.checked.prog.funcs[f]? = some fn) :
    true = Tryz.pinned.checked.prog.looks [] ∧ ∀ (j : Nat) t, fn.params[j]? = some t → Tryz.pinned.checked.prog.wantsStandIn t = false := by
  obtain rfl : f = 8 := Option.some.inj ((show Tryz.prog.funcNamed "patrol/patrollaw06.CustodyHistories" = some 8 by kernel_rfl).symm.trans hf) |>.symm
  obtain rfl : fn = Tryz.f8 := (Option.some.inj (Tryz.func8.symm.trans hfn)).symm
  refine ⟨by kernel_rfl, fun j t ht => ?_⟩
  rw [Tryz.params8] at ht
  have : t = 26 ∨ t = 3 ∨ t = 54 ∨ t = 3 := by simpa using Array.mem_of_getElem? ht
  rcases this with rfl | rfl | rfl | rfl
  · exact (show Tryz.prog.wantsStandIn 26 = false by kernel_rfl)
  · exact (show Tryz.prog.wantsStandIn 3 = false by kernel_rfl)
  · exact (show Tryz.prog.wantsStandIn 54 = false by kernel_rfl)
  · exact (show Tryz.prog.wantsStandIn 3 = false by kernel_rfl)
theorem card : Rows.CustodyHistoriesCardSaid :=
  Claim7.holds_tied_plain_at .later [] _ _ _ _ said (fun _ h => by cases h) (by kernel_rfl) (fun _ h => by cases h) custodyHistories_row_tie rfl ⟨rfl, rfl⟩ (by kernel_rfl) rfl plain (by kernel_rfl)
end Go.Proofs.YtedekogkeamacaaGreatDoor.custodyHistories
