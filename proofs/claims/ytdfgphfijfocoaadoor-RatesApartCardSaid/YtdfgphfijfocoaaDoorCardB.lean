import Derived.Test.YtdfgphfijfocoaaDoorRbG
import Derived.Test.YtdfgphfijfocoaaDoorCards
import Derived.Test.YtdfgphfijfocoaaDoorTie
import Derived.ProofKit
import Derived.OpenShut
import Derived.Deep.DeepHandedRow
namespace Go.Proofs.YtdfgphfijfocoaaDoor
open Go Go.ChangeShapes Go.WideShapes Go.ChangeAt Go.RowKit Go.Proofs.Ax
theorem own : ownKnob Tryd.prog.godebug = none := by kernel_rfl
theorem laidOut : laidOutB Tryd.prog = true := by kernel_rfl
theorem fitI : Sh.fits Tryd.prog shI 3 := (show Tryd.prog.underlying 3 = some (.int .i64) by kernel_rfl)
theorem fitIs : Sh.fits Tryd.prog (.slice shI) 22 := ⟨3, by kernel_rfl, fitI, by kernel_rfl, by decide⟩
theorem fitPol : Sh.fits Tryd.prog shPol 39 := ⟨_, Tryd.underlying39, ⟨rfl, fitI, by kernel_rfl, rfl, fitI, by kernel_rfl, rfl, fitI, by kernel_rfl, rfl, fitI, by kernel_rfl, rfl, fitI, by kernel_rfl, rfl, fitI, by kernel_rfl, rfl, fitI, by kernel_rfl, trivial⟩, by kernel_rfl⟩
theorem fitPols : Sh.fits Tryd.prog (.slice shPol) 33 := ⟨39, by kernel_rfl, fitPol, by kernel_rfl, by decide⟩
theorem fitRnd : Sh.fits Tryd.prog shRnd 75 := ⟨_, Tryd.underlying75, ⟨rfl, fitI, by kernel_rfl, rfl, fitI, by kernel_rfl, rfl, fitI, by kernel_rfl, rfl, fitIs, by kernel_rfl, trivial⟩, by kernel_rfl⟩
theorem fitRnds : Sh.fits Tryd.prog (.slice shRnd) 34 := ⟨75, by kernel_rfl, fitRnd, by kernel_rfl, by decide⟩
theorem fitPost : Sh.fits Tryd.prog shPost 78 := ⟨_, Tryd.underlying78, ⟨rfl, fitI, by kernel_rfl, rfl, fitI, by kernel_rfl, rfl, fitI, by kernel_rfl, rfl, fitI, by kernel_rfl, rfl, fitI, by kernel_rfl, trivial⟩, by kernel_rfl⟩
theorem fitPosts : Sh.fits Tryd.prog (.slice shPost) 46 := ⟨78, by kernel_rfl, fitPost, by kernel_rfl, by decide⟩
theorem fitSpan : Sh.fits Tryd.prog shSpan 45 := ⟨_, Tryd.underlying45, ⟨rfl, fitI, by kernel_rfl, rfl, fitI, by kernel_rfl, trivial⟩, by kernel_rfl⟩
theorem globs {W : World} (h : laidMetH Tryd.prog [("math/bits.deBruijn32tab", Rows.laid_math_bits_deBruijn32tab), ("math/bits.deBruijn64tab", Rows.laid_math_bits_deBruijn64tab), ("internal/strconv.uint64pow10", Rows.laid_internal_strconv_uint64pow10)] W) :
    ∀ (g : Nat) (cells : List AV), G1 g = some cells → GlobAt (· < W.heap.size) W g cells :=
  glob_of_tab (third_tab (g := 0) (t := 177) (e := 158) (n := 20) (by kernel_rfl) (by kernel_rfl) (by kernel_rfl) (by kernel_rfl) (by kernel_rfl) (by kernel_rfl) h)
/-- A world for the witness: the settled one, each table holding what its initialiser lays. -/
noncomputable def lay (cs : Array Value) : Obj → Obj
  | .cells _ t frozen => .cells cs t frozen
  | o => o
def tab32 : Array Value := ([0, 1, 28, 2, 29, 14, 24, 3, 30, 22, 20, 15, 25, 17, 4, 8, 31, 27, 13, 23, 21, 19, 16, 7, 26, 12, 18, 6, 11, 5, 10, 9].map fun i => Value.int .u8 i).toArray
def tab64 : Array Value := ([0, 1, 56, 2, 57, 49, 28, 3, 61, 58, 42, 50, 38, 29, 17, 4, 62, 47, 59, 36, 45, 43, 51, 22, 53, 39, 33, 30, 24, 18, 12, 5, 63, 55, 48, 27, 60, 41, 37, 16, 46, 35, 44, 21, 52, 32, 23, 11, 54, 26, 40, 15, 34, 20, 31, 10, 25, 14, 19, 9, 13, 8, 7, 6].map fun i => Value.int .u8 i).toArray
def tab10 : Array Value := ((List.range 20).map fun i => Value.int .u64 ((10 ^ i : Nat) : Int)).toArray
noncomputable def laidWorld (os : Os) : World :=
  { World.holding Tryd.prog os ⟨#[], #[], []⟩ with heap := (((World.holding Tryd.prog os ⟨#[], #[], []⟩).heap.modify 0 (lay tab10)).modify 1 (lay tab32)).modify 2 (lay tab64) }
end Go.Proofs.YtdfgphfijfocoaaDoor
