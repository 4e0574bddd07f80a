import Derived.Test.YtedekogkeamacaaGreatDoorCcRd
import Derived.Test.YtedekogkeamacaaGreatDoorCards
import Derived.Test.YtedekogkeamacaaGreatDoorTie
import Derived.ProofKit
import Derived.OpenShut
import Derived.Deep.DeepHandedRow
import Derived.Lay
namespace Go.Proofs.Ax
open Go Go.Proofs
theorem glob_of_tab {W : World} (h : Lib.TabIs Tryz.prog W "internal/strconv.uint64pow10" .u64 Lib.pow10Tab) : ∀ (g : Nat) (cells : List AV), G1 g = some cells → GlobAt (· < W.heap.size) W g cells := by
  intro g cells hg
  unfold G1 at hg
  split at hg
  case h_2 => cases hg
  cases hg
  unfold Lib.TabIs World.var? at h
  rw [show Tryz.prog.globalNamed "internal/strconv.uint64pow10" = some 1 by kernel_rfl] at h
  simp only [Option.bind_some] at h
  split at h
  case h_2 => cases h
  rename_i cs t fz hheap
  cases h
  have hlt : 1 < W.heap.size := (Array.getElem?_eq_some_iff.1 hheap).1
  have hat : ∀ (j : Nat) (x : AV), pow10[j]? = some x → j < 20 ∧ x = .sc (.int .u64 ((10 ^ j : Nat) : Int)) := by
    intro j x hx
    have hlen : j < 20 := by
      have := (List.getElem?_eq_some_iff.1 hx).1
      simpa [pow10] using this
    refine ⟨hlen, ?_⟩
    simp only [pow10, List.getElem?_map, List.getElem?_range hlen, Option.map_some, Option.some.injEq] at hx
    exact hx.symm
  refine ⟨.pi (b := 1) (o := 0) (fun j => .int .u64 ((10 ^ j : Nat) : Int)) (fun _ => hlt) (fun j x hx => ?_) (fun j x hx => rfl) (fun j x hx => ?_), hlt, _, _, _, hheap, ?_⟩
  · obtain ⟨hj, rfl⟩ := hat j x hx
    simp only [World.cell?, hheap, Nat.zero_add]
    simp [Lib.pow10Tab, hj]
  · obtain ⟨hj, rfl⟩ := hat j x hx
    exact .sc
  · simp [Lib.pow10Tab, pow10]
theorem third_tab {P : Program} {W : World} {a b : String × DataW Unit} {name : String} {k : IntKind} {zs : List Int} {g : Nat} {t e : TypeId} {n : Nat}
    (hg : P.globalNamed name = some g) (hty : (P.globals[g]?).map (·.type) = some t) (ht : P.underlying t = some (.array n e)) (he : P.underlying e = some (.int k)) (hce : P.cellsOf e = 1) (hct : P.cellsOf t = n)
    (h : laidMet P [a, b, (name, Lib.tabData k zs)] W) : Lib.TabIs P W name k zs := by
  obtain ⟨ps, ⟨_, _, _, _, _, q1, _, _, _, _, ⟨_, _, _, _, _, q2, _, _, _, _, h3, _⟩, _⟩, _⟩ := h
  obtain ⟨g', t', cs, fuel, p, q, hg', ht', hvar, hd, _, _⟩ := h3
  obtain rfl := Option.some.inj (hg.symm.trans hg')
  obtain rfl := Option.some.inj (hty.symm.trans ht')
  unfold Lib.TabIs
  rw [hvar, ← Lib.cells_of_tab ht he hce hct hd]
end Go.Proofs.Ax
namespace Go.Proofs.YtedekogkeamacaaGreatDoor
open Go Go.ChangeShapes Go.WideShapes Go.ChangeAt Go.RowKit Go.Proofs.Ax
theorem own : ownKnob Tryz.prog.godebug = none := by kernel_rfl
theorem laidOut : laidOutB Tryz.prog = true := by kernel_rfl
theorem fitI : Sh.fits Tryz.prog shI 3 := (show Tryz.prog.underlying 3 = some (.int .i64) by kernel_rfl)
theorem fitIs : Sh.fits Tryz.prog (.slice shI) 23 := ⟨3, by kernel_rfl, fitI, by kernel_rfl, by decide⟩
theorem fitSpan : Sh.fits Tryz.prog shSpan 28 := ⟨_, Tryz.underlying28, ⟨rfl, fitI, by kernel_rfl, rfl, fitI, by kernel_rfl, trivial⟩, by kernel_rfl⟩
theorem fitSpans : Sh.fits Tryz.prog (.slice shSpan) 57 := ⟨28, by kernel_rfl, fitSpan, by kernel_rfl, by decide⟩
theorem fitPers : Sh.fits Tryz.prog shPers 59 := ⟨_, Tryz.underlying59, ⟨rfl, fitI, by kernel_rfl, rfl, fitSpans, by kernel_rfl, trivial⟩, by kernel_rfl⟩
theorem fitPerss : Sh.fits Tryz.prog (.slice shPers) 22 := ⟨59, by kernel_rfl, fitPers, by kernel_rfl, by decide⟩
theorem fitEntr : Sh.fits Tryz.prog shEntr 68 := ⟨_, Tryz.underlying68, ⟨rfl, fitI, by kernel_rfl, rfl, fitI, by kernel_rfl, rfl, fitI, by kernel_rfl, rfl, fitI, by kernel_rfl, rfl, fitI, by kernel_rfl, rfl, fitSpan, by kernel_rfl, trivial⟩, by kernel_rfl⟩
theorem fitEntrs : Sh.fits Tryz.prog (.slice shEntr) 24 := ⟨68, by kernel_rfl, fitEntr, by kernel_rfl, by decide⟩
theorem fitBook : Sh.fits Tryz.prog shBook 26 := ⟨_, Tryz.underlying26, ⟨rfl, fitPerss, by kernel_rfl, rfl, fitIs, by kernel_rfl, rfl, fitEntrs, by kernel_rfl, rfl, fitI, by kernel_rfl, trivial⟩, by kernel_rfl⟩
theorem globs {W : World} (h : laidMetH Tryz.prog [("math/bits.deBruijn32tab", Rows.laid_math_bits_deBruijn32tab), ("math/bits.deBruijn64tab", Rows.laid_math_bits_deBruijn64tab), ("internal/strconv.uint64pow10", Rows.laid_internal_strconv_uint64pow10)] W) :
    ∀ (g : Nat) (cells : List AV), G1 g = some cells → GlobAt (· < W.heap.size) W g cells :=
  glob_of_tab (third_tab (g := 1) (t := 310) (e := 266) (n := 20) (by kernel_rfl) (by kernel_rfl) (by kernel_rfl) (by kernel_rfl) (by kernel_rfl) (by kernel_rfl) h)
theorem witness_zip {H : Type} {enc : TypeId × Value → H} {C : Checked} {os : Os} {f : FuncId} {fn : Func} {s : OpenSpec} {conds : List PathCond} {apart : Bool} {laid : List (String × DataW Unit)} (modest : Bool) (w0 : World) (args : Array Value) (hos : w0.os = os)
    (hv : (w0.forCall (fun _ _ => 0) ⟨#[], args, []⟩).variablesZipB C.prog = true)
    (hr : ((w0.forCall (fun _ _ => 0) ⟨#[], args, []⟩).heap.toList.drop C.prog.globals.size).take ((begin C.prog (fun _ _ => 0) default).world.heap.size - C.prog.globals.size) =
      (begin C.prog (fun _ _ => 0) default).world.heap.toList.drop C.prog.globals.size)
    (hok : Input.okWideB C.prog (w0.forCall (fun _ _ => 0) ⟨#[], args, []⟩) f ⟨#[], args, []⟩ = true)
    (hrow : s.preRow enc C.prog fn conds apart laid (w0.forCall (fun _ _ => 0) ⟨#[], args, []⟩).memory args) :
    ∃ (w : World) (tape : Tape) (i : Input), w.os = os ∧ (w.forCall tape i).Shaped C.prog ∧ i.vars = [] ∧ Input.okWide C.prog (w.forCall tape i) .any w.heap.size f i ∧
      s.preRow enc C.prog fn conds apart laid (w.forCall tape i).memory i.args ∧ ({ modest := modest } : Assume).holds C.prog (lone (Frame.enter C.prog f i.args .normal) [] (w.forCall tape i)) :=
  ⟨w0, fun _ _ => 0, ⟨#[], args, []⟩, hos, World.shaped_of_ZipB hv hr, (Input.okWide_of_okWideB (base := 0) hok).1, (Input.okWide_of_okWideB hok).2, hrow, by
    simp only [Assume.holds]
    exact ⟨by simp, by simp, fun _ => Modest.zero, by simp, by simp⟩⟩
end Go.Proofs.YtedekogkeamacaaGreatDoor
