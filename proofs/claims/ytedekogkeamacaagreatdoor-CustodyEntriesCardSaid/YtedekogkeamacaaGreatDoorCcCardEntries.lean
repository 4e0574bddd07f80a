/- Of every input the law CustodyEntries answers true, and each argument reads behind the call as it read before; the listed package-level variables hold what the text of the program lays in them. -/
import Derived.Test.YtedekogkeamacaaGreatDoorCcLawEntries
import Derived.Test.YtedekogkeamacaaGreatDoorCcCardB
namespace Go.Proofs.YtedekogkeamacaaGreatDoor.custodyEntries
open Go Go.ChangeShapes Go.WideShapes Go.ChangeAt Go.RowKit Go.Proofs.Ax
abbrev args : Array Value := #[.agg #[.slice none 0 0, .slice none 0 0, .slice none 0 0, .int .i64 0], .int .i64 0, .int .i64 0]
theorem readable : ∀ t ∈ Tryz.f4.params.toList, Tryz.prog.readableRec t = true ∧ t < Tryz.prog.types.size := by
  rw [Tryz.params4]
  intro t ht
  have : t = 26 ∨ t = 3 := by simpa using ht
  rcases this with rfl | rfl
  all_goals exact ⟨by kernel_rfl, by decide +kernel⟩
set_option maxRecDepth 100000 in
theorem contract (H : Type) (enc : TypeId × Value → H) (W : World) (base : Nat) (args : Array Value) (ds gs : List (DataW H)) (before : List MemPlace)
    (hval : ∀ (j : Nat) t v, Tryz.f4.params[j]? = some t → args[j]? = some v → Value.okWide Tryz.prog W .any base t v)
    (hW : DataW.Whole enc Tryz.prog Tryz.f4.params.toList Rows.custodyEntriesSpec.vars false W args.toList ds gs before) (hL : laidMetH Tryz.prog Rows.custodyEntriesRow.laid W) :
    Calls Tryz.prog 4 args W fun e W' => ∃ v, e = .returned v ∧ Rows.custodyEntriesSpec.post enc Tryz.prog Tryz.f4 false true false false W args v W' := by
  refine law_done [shBook, shI, shI] laidOut ?_ readable rfl (by kernel_rfl) (by kernel_rfl) ?_ law_entries (globs hL) hval hW
  · rw [Tryz.params4]; exact ⟨fitBook, fitI, fitI, trivial⟩
  · intro ds hds
    match ds, hds with
    | [a, b, c], _ => rfl
theorem laid_met (os : Os) : laidMet Tryz.prog Rows.custodyEntriesRow.laid ((World.laidAll Tryz.prog os Rows.custodyEntriesRow.laid).forCall (fun _ _ => 0) ⟨#[], args, []⟩).memory :=
  laidMet_laidAll _ (by kernel_rfl) (by kernel_rfl)
theorem reads (os : Os) {H : Type} (enc : TypeId × Value → H) : ∃ places, DataW.whole enc Tryz.prog ((World.laidAll Tryz.prog os Rows.custodyEntriesRow.laid).forCall (fun _ _ => 0) ⟨#[], args, []⟩).memory Tryz.f4.params.toList Rows.custodyEntriesSpec.vars false args.toList 8 = some ([.agg [.nil, .nil, .nil, .lit (.int .i64 0)], .lit (.int .i64 0), .lit (.int .i64 0)], [], places) :=
  ⟨[], by kernel_rfl⟩
set_option maxRecDepth 100000 in
theorem lifted (os : Os) (started : os.Started) (H : Type) (enc : TypeId × Value → H) (F : Stop.Interp) :
    ReturnsInHanded {} Tryz.checked os 4 .any ((OpenSpec.ofChange Rows.custodyEntriesSpec).preRow enc Tryz.prog Tryz.f4 Rows.custodyEntriesRow.domain false Rows.custodyEntriesRow.laid) (((OpenSpec.ofChange Rows.custodyEntriesSpec).at F).post enc Tryz.prog Tryz.f4 false true false false) := by
  obtain ⟨places, hx⟩ := reads os enc
  refine returnsInHanded_of_row (C := Tryz.checked) (s := OpenSpec.ofChange Rows.custodyEntriesSpec) own started (by kernel_rfl) Tryz.func4
    (witness_zip (enc := enc) (C := Tryz.checked) false (World.laidAll Tryz.prog os Rows.custodyEntriesRow.laid) args (World.laidAll_os _ _ _) (by kernel_rfl) (by kernel_rfl) (by kernel_rfl)
      (OpenSpec.preRow_of_cond 8 hx (by kernel_rfl) (fun k hk => by cases hk) (by kernel_rfl) (laid_met os))) ?_
  intro W base args ds gs before hval hW _ _ _ hL _ _
  exact contract H enc W base args ds gs before hval hW hL
theorem clo : Tryz.prog.closure 4 = [4, 15, 16, 67, 37, 72, 41, 94, 144, 73, 98, 145, 95, 124, 175, 146, 142, 196, 195, 217, 74, 82, 133, 134, 182, 135, 183, 152, 99, 84, 139, 193, 194, 138, 184, 190, 216, 185, 211, 186, 212, 213, 187, 214, 215, 233, 188, 189, 191, 192, 150, 199, 219, 221, 220, 236, 132, 179, 180, 69, 181, 17, 70, 68, 18, 71, 19, 75, 125, 126, 76, 27, 80, 79, 81, 38, 92, 93, 143, 197, 218, 234, 235, 250, 259, 198, 56, 107, 48, 97, 23, 42, 96, 105, 147, 148, 149, 29, 83, 137, 136, 28, 63, 112, 154, 200, 222, 237, 238, 251, 252, 239, 240, 253, 254, 260, 261, 113, 114, 155, 201, 223, 202, 224, 156, 157, 30, 85, 22, 86, 89, 140, 141, 31, 32, 78, 90, 77, 127, 129, 128, 130, 176, 177, 131, 178, 33, 87, 88, 34, 35, 36, 47, 40, 91] := by kernel_rfl
theorem kk1 : (Rows.custodyEntriesRow.inPlace == Tryz.prog.inPlace 4) = true := by rw [Program.inPlace, clo]; kernel_rfl
theorem kk2 : (Rows.custodyEntriesRow.unfollowed == Tryz.prog.unfollowed 4) = true := by rw [Program.unfollowed, clo]; kernel_rfl
theorem kk3 : (Rows.custodyEntriesRow.recurses == Tryz.prog.recurses 4) = true := by rw [Program.recurses, Program.unfollowed, clo]; kernel_rfl
theorem kk4 : (Rows.custodyEntriesRow.named == Tryz.prog.varsNamed 4) = true := by rw [Program.varsNamed, clo]; kernel_rfl
theorem closed : joinedFacts Tryz.prog 4 Tryz.f4 (OpenSpec.ofChange Rows.custodyEntriesSpec).bare Rows.custodyEntriesRow = true := by
  unfold joinedFacts
  rw [kk1, kk2, kk3, kk4]
  kernel_rfl
theorem said : Rows.CustodyEntriesSaid :=
  OpenClaim.holds_of_cond 4 Tryz.f4 rfl rfl rfl rfl rfl rfl rfl ⟨rfl, rfl, rfl, rfl, rfl⟩ rfl rfl rfl rfl rfl (by kernel_rfl) Tryz.func4 closed
    (of_decide_eq_true (by kernel_rfl)) (by unfold Func.isWrapper; first | (rw [if_pos (by decide +kernel)]; kernel_rfl) | (rw [if_neg (by decide +kernel)]; exact ⟨rfl, rfl⟩))
    (fun os started H enc _ F => by rw [OpenClaim.pre_eq_preRow]; exact lifted os started H enc F)
theorem plain (f : FuncId) (fn : Func) (hf : Tryz.pinned.checked.prog.funcNamed "patrol/patrollaw06.CustodyEntries" = some f) (hfn : Tryz.pinned.checked.prog.funcs[f]? = some fn) :
    true = Tryz.pinned.checked.prog.looks [] ∧ ∀ (j : Nat) t, fn.params[j]? = some t → Tryz.pinned.checked.prog.wantsStandIn t = false := by
  obtain rfl : f = 4 := Option.some.inj ((show Tryz.prog.funcNamed "patrol/patrollaw06.CustodyEntries" = some 4 by kernel_rfl).symm.trans hf) |>.symm
  obtain rfl : fn = Tryz.f4 := (Option.some.inj (Tryz.func4.symm.trans hfn)).symm
  refine ⟨by kernel_rfl, fun j t ht => ?_⟩
  rw [Tryz.params4] at ht
  have : t = 26 ∨ t = 3 := by simpa using Array.mem_of_getElem? ht
  rcases this with rfl | rfl
  · exact (show Tryz.prog.wantsStandIn 26 = false by kernel_rfl)
  · exact (show Tryz.prog.wantsStandIn 3 = false by kernel_rfl)
theorem card : Rows.CustodyEntriesCardSaid :=
  Claim7.holds_tied_plain_at .later [] _ _ _ _ said (fun _ h => by cases h) (by kernel_rfl) (fun _ h => by cases h) custodyEntries_row_tie rfl ⟨rfl, rfl⟩ (by kernel_rfl) rfl plain (by kernel_rfl)
end Go.Proofs.YtedekogkeamacaaGreatDoor.custodyEntries
