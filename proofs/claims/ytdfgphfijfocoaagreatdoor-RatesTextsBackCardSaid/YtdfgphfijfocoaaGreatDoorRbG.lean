import Derived.Test.YtdfgphfijfocoaaGreatDoorRbPE
import Derived.Test.YtdfgphfijfocoaaGreatDoorAxF
import Derived.Lib.LaidTab
namespace Go.Proofs.Ax
open Go Go.Proofs

theorem glob_of_tab {W : World} (h : Lib.TabIs Tryz.prog W "internal/strconv.uint64pow10" .u64 Lib.pow10Tab) : ∀ (g : Nat) (cells : List AV), G1 g = some cells → GlobAt (· < W.heap.size) W g cells := by
  intro g cells hg
  unfold G1 at hg
  split at hg
  case h_2 => cases hg
  cases hg
  unfold Lib.TabIs World.var? at h
  rw [show Tryz.prog.globalNamed "internal/strconv.uint64pow10" = some 3 by kernel_rfl] at h
  simp only [Option.bind_some] at h
  split at h
  case h_2 => cases h
  rename_i cs t fz hheap
  cases h
  have hlt : 3 < W.heap.size := (Array.getElem?_eq_some_iff.1 hheap).1
  have hat : ∀ (j : Nat) (x : AV), pow10[j]? = some x → j < 20 ∧ x = .sc (.int .u64 ((10 ^ j : Nat) : Int)) := by
    intro j x hx
    have hlen : j < 20 := by
      have := (List.getElem?_eq_some_iff.1 hx).1
      simpa [pow10] using this
    refine ⟨hlen, ?_⟩
    simp only [pow10, List.getElem?_map, List.getElem?_range hlen, Option.map_some, Option.some.injEq] at hx
    exact hx.symm
  refine ⟨.pi (b := 3) (o := 0) (fun j => .int .u64 ((10 ^ j : Nat) : Int)) (fun _ => hlt) (fun j x hx => ?_) (fun j x hx => rfl) (fun j x hx => ?_), hlt, _, _, _, hheap, ?_⟩
  · obtain ⟨hj, rfl⟩ := hat j x hx
    simp only [World.cell?, hheap, Nat.zero_add]
    simp [Lib.pow10Tab, hj]
  · obtain ⟨hj, rfl⟩ := hat j x hx
    exact .sc
  · simp [Lib.pow10Tab, pow10]
/-- The last of three listed variables. -/
theorem third_tab {P : Program} {W : World} {a b : String × DataW Unit} {name : String} {k : IntKind} {zs : List Int} {g : Nat} {t e : TypeId} {n : Nat}
    (hg : P.globalNamed name = some g) (hty : (P.globals[g]?).map (·.type) = some t) (ht : P.underlying t = some (.array n e)) (he : P.underlying e = some (.int k)) (hce : P.cellsOf e = 1) (hct : P.cellsOf t = n)
    (h : laidMet P [a, b, (name, Lib.tabData k zs)] W) : Lib.TabIs P W name k zs := by
  obtain ⟨ps, ⟨_, _, _, _, _, q1, _, _, _, _, ⟨_, _, _, _, _, q2, _, _, _, _, h3, _⟩, _⟩, _⟩ := h
  obtain ⟨g', t', cs, fuel, p, q, hg', ht', hvar, hd, _, _⟩ := h3
  obtain rfl := Option.some.inj (hg.symm.trans hg')
  obtain rfl := Option.some.inj (hty.symm.trans ht')
  unfold Lib.TabIs
  rw [hvar, ← Lib.cells_of_tab ht he hce hct hd]

/-! Readings as structures. -/
theorem encs_map {α : Type} {e : Sh} (f : α → List AV) (Q : α → Prop) (h : ∀ d, Dt.wf e d → ∃ a, Dt.enc e d = f a ∧ Q a) : ∀ l, Dt.wfs e l → ∃ zs : List α, Dt.encs e l = zs.map f ∧ zs.length = l.length ∧ ∀ a ∈ zs, Q a
  | [], _ => ⟨[], rfl, rfl, fun a h => by cases h⟩
  | d :: ds, hw => by
    obtain ⟨a, h1, h2⟩ := h d hw.1
    obtain ⟨zs, g1, g2, g3⟩ := encs_map f Q h ds hw.2
    refine ⟨a :: zs, by simp [Dt.encs, h1, g1], by simp [g2], fun b hb => ?_⟩
    rcases List.mem_cons.1 hb with rfl | hb
    · exact h2
    · exact g3 b hb
abbrev shI : Sh := .int .i64
theorem inI_of {n : Int} (h : (Lit.int .i64 n).wf = true) : InI n := by
  simp only [Lit.wf, Bool.and_eq_true, decide_eq_true_eq] at h
  exact h
theorem dt_int {d : Dt} (h : Dt.wf shI d) : ∃ n, d = .int n ∧ InI n := by
  cases d <;> first | exact h.elim | exact ⟨_, rfl, inI_of h⟩
abbrev shPol : Sh := .struct [shI, shI, shI, shI, shI, shI, shI]
abbrev shRnd : Sh := .struct [shI, shI, shI, .slice shI]
theorem maxLen_le {n : Nat} (h : n ≤ maxLen) : n ≤ 9223372036854775807 := by unfold maxLen at h; omega
abbrev shPost : Sh := .struct [shI, shI, shI, shI, shI]
theorem post_read {d : Dt} (h : Dt.wf shPost d) : ∃ p : Posting, Dt.enc shPost d = p.enc := by
  cases d <;> try exact h.elim
  rename_i l
  match l, h with
  | [a, b, c, d, e], h =>
    obtain ⟨ha, hb, hc, hd, he, -⟩ := h
    obtain ⟨a, rfl, ia⟩ := dt_int ha
    obtain ⟨b, rfl, ib⟩ := dt_int hb
    obtain ⟨c, rfl, ic⟩ := dt_int hc
    obtain ⟨d, rfl, id⟩ := dt_int hd
    obtain ⟨e, rfl, ie⟩ := dt_int he
    exact ⟨⟨a, b, c, d, e⟩, rfl⟩
theorem posts_read {d : Dt} (h : Dt.wf (.slice shPost) d) : ∃ l : List Posting, Dt.enc (.slice shPost) d = [postings false l] ∧ l.length ≤ maxLen := by
  cases d <;> try exact h.elim
  rename_i l
  obtain ⟨zs, h1, h2, h3⟩ := encs_map (e := shPost) Posting.enc (fun _ => True) (fun d hd => by obtain ⟨p, hp⟩ := post_read hd; exact ⟨p, hp, trivial⟩) l h.2
  exact ⟨zs, by simp only [Dt.enc, h1]; rfl, by rw [h2]; exact h.1⟩
abbrev shB : Sh := .bool
abbrev shSpan : Sh := .struct [shI, shI]
end Go.Proofs.Ax
