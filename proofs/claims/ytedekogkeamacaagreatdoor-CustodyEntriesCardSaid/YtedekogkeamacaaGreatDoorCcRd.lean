import Derived.Test.YtedekogkeamacaaGreatDoorCcTold
import Derived.Test.YtedekogkeamacaaGreatDoorAxF
import Derived.Lib.LaidTab
namespace Go.Proofs.Ax
open Go Go.Proofs Go.Proofs.Cu
theorem encs_map {α : Type} {e : Sh} (f : α → List AV) (Q : α → Prop) (h : ∀ d, Dt.wf e d → ∃ a, Dt.enc e d = f a ∧ Q a) : ∀ l, Dt.wfs e l → ∃ zs : List α, Dt.encs e l = zs.map f ∧ zs.length = l.length ∧ ∀ a ∈ zs, Q a
  | [], _ => ⟨[], rfl, rfl, fun a h => by cases h⟩
  | d :: ds, hw => by
    obtain ⟨a, h1, h2⟩ := h d hw.1; obtain ⟨zs, g1, g2, g3⟩ := encs_map f Q h ds hw.2; refine ⟨a :: zs, by simp [Dt.encs, h1, g1], by simp [g2], fun b hb => ?_⟩
    rcases List.mem_cons.1 hb with rfl | hb
    exact h2; exact g3 b hb
abbrev shI : Sh := .int .i64
theorem dt_int {d : Dt} (h : Dt.wf shI d) : ∃ n, d = .int n := by cases d <;> first | exact h.elim | exact ⟨_, rfl⟩
theorem list_read {α : Type} {e : Sh} (f : α → List AV) (Q : α → Prop) (h : ∀ d, Dt.wf e d → ∃ a, Dt.enc e d = f a ∧ Q a) {d : Dt} (hd : Dt.wf (.slice e) d) : ∃ l : List α, Dt.enc (.slice e) d = [.sl e.size false (l.map f)] ∧ l.length ≤ maxLen ∧ ∀ a ∈ l, Q a := by
  cases d <;> try exact hd.elim
  rename_i l; obtain ⟨zs, h1, h2, h3⟩ := encs_map f Q h l hd.2; exact ⟨zs, by simp only [Dt.enc, h1], by rw [h2]; exact hd.1, h3⟩
abbrev shSpan : Sh := .struct [shI, shI]
theorem span_read {d : Dt} (h : Dt.wf shSpan d) : ∃ s : Spn, Dt.enc shSpan d = encS s ∧ True := by
  cases d <;> try exact h.elim
  rename_i l
  match l, h with
  | [a, b], h =>
    obtain ⟨ha, hb, -⟩ := h; obtain ⟨a, rfl⟩ := dt_int ha; obtain ⟨b, rfl⟩ := dt_int hb; exact ⟨⟨a, b⟩, rfl, trivial⟩
theorem ints_read {d : Dt} (h : Dt.wf (.slice shI) d) : ∃ l : List Int, Dt.enc (.slice shI) d = [ints l] ∧ l.length ≤ maxLen := by
  obtain ⟨l, h1, h2, -⟩ := list_read intR (fun _ => True) (fun d hd => by obtain ⟨n, rfl⟩ := dt_int hd; exact ⟨n, rfl, trivial⟩) h; exact ⟨l, h1, h2⟩
abbrev shPers : Sh := .struct [shI, .slice shSpan]
theorem pers_read {d : Dt} (h : Dt.wf shPers d) : ∃ p : Pers, Dt.enc shPers d = encP p ∧ p.duty.length ≤ maxLen := by
  cases d <;> try exact h.elim
  rename_i l
  match l, h with
  | [a, b], h =>
    obtain ⟨ha, hb, -⟩ := h; obtain ⟨a, rfl⟩ := dt_int ha; obtain ⟨l, hl, hm, -⟩ := list_read encS (fun _ => True) (fun d hd => span_read hd) hb; refine ⟨⟨a, l⟩, ?_, hm⟩; simp only [Dt.enc, Dt.encR] at hl ⊢; rw [hl]; rfl
abbrev shEntr : Sh := .struct [shI, shI, shI, shI, shI, shSpan]
theorem entr_read {d : Dt} (h : Dt.wf shEntr d) : ∃ e : Entr, Dt.enc shEntr d = encE e ∧ True := by
  cases d <;> try exact h.elim
  rename_i l
  match l, h with
  | [a, b, c, d, e, f], h =>
    obtain ⟨ha, hb, hc, hd, he, hf, -⟩ := h; obtain ⟨a, rfl⟩ := dt_int ha; obtain ⟨b, rfl⟩ := dt_int hb; obtain ⟨c, rfl⟩ := dt_int hc; obtain ⟨d, rfl⟩ := dt_int hd; obtain ⟨e, rfl⟩ := dt_int he; obtain ⟨s, hs, -⟩ := span_read hf; refine ⟨⟨a, b, c, d, e, s⟩, ?_, trivial⟩; simp only [Dt.enc, Dt.encR] at hs ⊢; rw [hs]; rfl
abbrev shBook : Sh := .struct [.slice shPers, .slice shI, .slice shEntr, shI]
theorem book_read {d : Dt} (h : Dt.wf shBook d) : ∃ c : Book, Dt.enc shBook d = bookC c ∧ BkW c := by
  cases d <;> try exact h.elim
  rename_i l
  match l, h with
  | [a, b, c, d], h =>
    obtain ⟨ha, hb, hc, hd, -⟩ := h; obtain ⟨d, rfl⟩ := dt_int hd; obtain ⟨p, hp, p1, p2⟩ := list_read encP (fun p => p.duty.length ≤ maxLen) (fun d hd => pers_read hd) ha; obtain ⟨k, hk, k1⟩ := ints_read hb; obtain ⟨e, he, e1, -⟩ := list_read encE (fun _ => True) (fun d hd => entr_read hd) hc; refine ⟨⟨p, k, e, d⟩, ?_, ⟨?_, ?_, ?_, fun x hx => ?_⟩⟩
    · simp only [Dt.enc, Dt.encR] at hp hk he ⊢; rw [hp, hk, he]; rfl
    show p.length ≤ _; unfold maxLen at p1; omega; show k.length ≤ _; unfold maxLen at k1; omega; show e.length ≤ _; unfold maxLen at e1; omega; have := p2 x hx; unfold maxLen at this; omega
end Go.Proofs.Ax
