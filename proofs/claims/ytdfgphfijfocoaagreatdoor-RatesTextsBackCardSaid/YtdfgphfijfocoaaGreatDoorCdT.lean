import Derived.Test.YtdfgphfijfocoaaGreatDoorRbG
import Derived.Test.YtdfgphfijfocoaaGreatDoorCards
import Derived.Test.YtdfgphfijfocoaaGreatDoorTie
import Derived.ProofKit
import Derived.OpenShut
import Derived.Deep.DeepHandedRow
import Derived.Test.YtdfgphfijfocoaaGreatDoorRzUU
import Derived.Lay
namespace Go.Proofs.YtdfgphfijfocoaaGreatDoor
open Go Go.ChangeShapes Go.WideShapes Go.ChangeAt Go.RowKit Go.Proofs.Ax
theorem own : ownKnob Tryz.prog.godebug = none := by kernel_rfl
theorem laidOut : laidOutB Tryz.prog = true := by kernel_rfl
theorem fitI : Sh.fits Tryz.prog shI 3 := (show Tryz.prog.underlying 3 = some (.int .i64) by kernel_rfl)
theorem fitIs : Sh.fits Tryz.prog (.slice shI) 85 := ⟨3, by kernel_rfl, fitI, by kernel_rfl, by decide⟩
theorem fitB : Sh.fits Tryz.prog shB 4 := (show Tryz.prog.underlying 4 = some .bool by kernel_rfl)
theorem fitBs : Sh.fits Tryz.prog (.slice shB) 37 := ⟨4, by kernel_rfl, fitB, by kernel_rfl, by decide⟩
theorem fitPol : Sh.fits Tryz.prog shPol 105 := ⟨_, Tryz.underlying105, ⟨rfl, fitI, by kernel_rfl, rfl, fitI, by kernel_rfl, rfl, fitI, by kernel_rfl, rfl, fitI, by kernel_rfl, rfl, fitI, by kernel_rfl, rfl, fitI, by kernel_rfl, rfl, fitI, by kernel_rfl, trivial⟩, by kernel_rfl⟩
theorem fitPols : Sh.fits Tryz.prog (.slice shPol) 22 := ⟨105, by kernel_rfl, fitPol, by kernel_rfl, by decide⟩
theorem fitRnd : Sh.fits Tryz.prog shRnd 87 := ⟨_, Tryz.underlying87, ⟨rfl, fitI, by kernel_rfl, rfl, fitI, by kernel_rfl, rfl, fitI, by kernel_rfl, rfl, fitIs, by kernel_rfl, trivial⟩, by kernel_rfl⟩
theorem fitRnds : Sh.fits Tryz.prog (.slice shRnd) 23 := ⟨87, by kernel_rfl, fitRnd, by kernel_rfl, by decide⟩
theorem fitPost : Sh.fits Tryz.prog shPost 61 := ⟨_, Tryz.underlying61, ⟨rfl, fitI, by kernel_rfl, rfl, fitI, by kernel_rfl, rfl, fitI, by kernel_rfl, rfl, fitI, by kernel_rfl, rfl, fitI, by kernel_rfl, trivial⟩, by kernel_rfl⟩
theorem fitPosts : Sh.fits Tryz.prog (.slice shPost) 49 := ⟨61, by kernel_rfl, fitPost, by kernel_rfl, by decide⟩
theorem fitSpan : Sh.fits Tryz.prog shSpan 25 := ⟨_, Tryz.underlying25, ⟨rfl, fitI, by kernel_rfl, rfl, fitI, by kernel_rfl, trivial⟩, by kernel_rfl⟩
theorem globs {W : World} (h : laidMetH Tryz.prog [("math/bits.deBruijn32tab", Rows.laid_math_bits_deBruijn32tab), ("math/bits.deBruijn64tab", Rows.laid_math_bits_deBruijn64tab), ("internal/strconv.uint64pow10", Rows.laid_internal_strconv_uint64pow10)] W) :
    ∀ (g : Nat) (cells : List AV), G1 g = some cells → GlobAt (· < W.heap.size) W g cells :=
  glob_of_tab (third_tab (g := 3) (t := 251) (e := 207) (n := 20) (by kernel_rfl) (by kernel_rfl) (by kernel_rfl) (by kernel_rfl) (by kernel_rfl) (by kernel_rfl) h)
/-- A world for the witness: the settled one, each table holding what its initialiser lays. -/
noncomputable def lay (cs : Array Value) : Obj → Obj
  | .cells _ t frozen => .cells cs t frozen
  | o => o
def tab32 : Array Value := ([0, 1, 28, 2, 29, 14, 24, 3, 30, 22, 20, 15, 25, 17, 4, 8, 31, 27, 13, 23, 21, 19, 16, 7, 26, 12, 18, 6, 11, 5, 10, 9].map fun i => Value.int .u8 i).toArray
def tab64 : Array Value := ([0, 1, 56, 2, 57, 49, 28, 3, 61, 58, 42, 50, 38, 29, 17, 4, 62, 47, 59, 36, 45, 43, 51, 22, 53, 39, 33, 30, 24, 18, 12, 5, 63, 55, 48, 27, 60, 41, 37, 16, 46, 35, 44, 21, 52, 32, 23, 11, 54, 26, 40, 15, 34, 20, 31, 10, 25, 14, 19, 9, 13, 8, 7, 6].map fun i => Value.int .u8 i).toArray
def tab10 : Array Value := ((List.range 20).map fun i => Value.int .u64 ((10 ^ i : Nat) : Int)).toArray
noncomputable def laidWorld (os : Os) : World :=
  { World.holding Tryz.prog os ⟨#[], #[], []⟩ with heap := (((World.holding Tryz.prog os ⟨#[], #[], []⟩).heap.modify 3 (lay tab10)).modify 6 (lay tab32)).modify 7 (lay tab64) }
end Go.Proofs.YtdfgphfijfocoaaGreatDoor
namespace Go.Proofs.YtdfgphfijfocoaaGreatDoor
open Go Go.ChangeShapes Go.WideShapes Go.ChangeAt Go.RowKit Go.Proofs.Ax
theorem fitStr : Sh.fits Tryz.prog .str 9 := (show Tryz.prog.underlying 9 = some .string by kernel_rfl)
theorem witness_zip {H : Type} {enc : TypeId × Value → H} {C : Checked} {os : Os} {f : FuncId} {fn : Func} {s : OpenSpec} {conds : List PathCond} {apart : Bool} {laid : List (String × DataW Unit)} (modest : Bool) (w0 : World) (args : Array Value) (hos : w0.os = os)
    (hv : (w0.forCall (fun _ _ => 0) ⟨#[], args, []⟩).variablesZipB C.prog = true)
    (hr : ((w0.forCall (fun _ _ => 0) ⟨#[], args, []⟩).heap.toList.drop C.prog.globals.size).take ((begin C.prog (fun _ _ => 0) default).world.heap.size - C.prog.globals.size) =
      (begin C.prog (fun _ _ => 0) default).world.heap.toList.drop C.prog.globals.size)
    (hok : Input.okWideB C.prog (w0.forCall (fun _ _ => 0) ⟨#[], args, []⟩) f ⟨#[], args, []⟩ = true)
    (hrow : s.preRow enc C.prog fn conds apart laid (w0.forCall (fun _ _ => 0) ⟨#[], args, []⟩).memory args) :
    ∃ (w : World) (tape : Tape) (i : Input), w.os = os ∧ (w.forCall tape i).Shaped C.prog ∧ i.vars = [] ∧ Input.okWide C.prog (w.forCall tape i) .any w.heap.size f i ∧
      s.preRow enc C.prog fn conds apart laid (w.forCall tape i).memory i.args ∧ ({ modest := modest } : Assume).holds C.prog (lone (Frame.enter C.prog f i.args .normal) [] (w.forCall tape i)) :=
  ⟨w0, fun _ _ => 0, ⟨#[], args, []⟩, hos, World.shaped_of_ZipB hv hr, (Input.okWide_of_okWideB (base := 0) hok).1, (Input.okWide_of_okWideB hok).2, hrow, by
    simp only [Assume.holds]
    exact ⟨by simp, by simp, fun _ => Modest.zero, by simp, by simp⟩⟩
end Go.Proofs.YtdfgphfijfocoaaGreatDoor
