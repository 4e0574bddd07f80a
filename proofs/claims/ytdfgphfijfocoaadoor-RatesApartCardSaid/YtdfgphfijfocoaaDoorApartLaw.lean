import Derived.Test.YtdfgphfijfocoaaDoorRbDf
import Derived.Test.YtdfgphfijfocoaaDoorNtA
namespace Go.Proofs.Ax
open Go Go.Proofs
/-! Nights cut in two; one round's verdict. -/
theorem seasonTo_add (ps : List Policy) (l : List Round) (lo : Int) (m k : Nat) : seasonTo ps l lo (m + k) = seasonTo ps l lo m ++ seasonTo ps l (lo + (m : Int)) k := by
  induction k with
  | zero => simp [seasonTo]
  | succ k ih =>
    rw [show m + (k + 1) = (m + k) + 1 by omega, seasonTo_succ, ih, seasonTo_succ, List.append_assoc]
    congr 3
    omega
theorem season_cut (ps : List Policy) (l : List Round) (s : Span) {cut : Int} (h1 : s.lo ≤ cut) (h2 : cut < s.hi) : seasonOf ps l ⟨s.lo, cut⟩ ++ seasonOf ps l ⟨cut + 1, s.hi⟩ = seasonOf ps l s := by
  unfold seasonOf
  simp only
  rw [show (s.hi - s.lo + 1).toNat = (cut - s.lo + 1).toNat + (s.hi - (cut + 1) + 1).toNat by omega, seasonTo_add]
  congr 2
  omega
/-- Round k with another verdict. -/
def reK (l : List Round) (k : Nat) (v : Int) : List Round := match l[k]? with
  | some r => l.set k { r with kind := v }
  | none => l
theorem reK_at {l : List Round} {k : Nat} (h : k < l.length) (v : Int) : reK l k v = l.take k ++ { l[k] with kind := v } :: l.drop (k + 1) := by
  rw [reK, List.getElem?_eq_getElem h]
  simp only
  rw [List.set_eq_take_append_cons_drop, if_pos h]
theorem split_at {l : List Round} {k : Nat} (h : k < l.length) : l = l.take k ++ l[k] :: l.drop (k + 1) := by
  conv => lhs; rw [← List.take_append_drop k l, List.drop_eq_getElem_cons h]
def keyR (r : Round) : Int × Int × Bool := (r.night, r.no, decide r.ok)
theorem badRound_key {q q' : Option Round} {r r' : Round} (hq : q.map keyR = q'.map keyR) (hr : keyR r = keyR r') : badRound q r = badRound q' r' := by
  simp only [keyR, Prod.mk.injEq] at hr
  obtain ⟨h1, h2, h3⟩ := hr
  have h3 : r.ok ↔ r'.ok := by simpa using h3
  unfold badRound
  by_cases hk : r.ok
  · rw [if_pos hk, if_pos (h3.1 hk)]
    cases q with
    | none => cases q' with
      | none => rfl
      | some _ => cases hq
    | some a => cases q' with
      | none => cases hq
      | some b =>
        simp only [Option.map_some, Option.some.injEq, keyR, Prod.mk.injEq] at hq
        obtain ⟨g1, g2, -⟩ := hq
        simp only [notBehind, g1, g2, h1, h2]
  · rw [if_neg hk, if_neg (fun h => hk (h3.2 h))]
theorem scan_key : ∀ (l l' : List Round) (k : Nat) (q q' : Option Round), l.map keyR = l'.map keyR → q.map keyR = q'.map keyR → scan badRound k q l = scan badRound k q' l'
  | [], [], _, _, _, _, _ => rfl
  | [], _ :: _, _, _, _, h, _ => by cases h
  | _ :: _, [], _, _, _, h, _ => by cases h
  | r :: l, r' :: l', k, q, q', h, hq => by
    simp only [List.map_cons, List.cons.injEq] at h
    unfold scan
    rw [badRound_key hq h.1]
    split
    · rfl
    · exact scan_key l l' (k + 1) (some r) (some r') h.2 (by simp [h.1])
theorem reK_key {l : List Round} (hl : ∀ r ∈ l, r.ok) {k : Nat} {v : Int} (hv : 1 ≤ v ∧ v ≤ 4) : (reK l k v).map keyR = l.map keyR := by
  unfold reK
  cases h : l[k]? with
  | none => rfl
  | some r =>
    simp only
    obtain ⟨hk, rfl⟩ := List.getElem?_eq_some_iff.1 h
    rw [List.map_set]
    have : keyR { l[k] with kind := v } = keyR l[k] := by
      have h1 := hl _ (List.getElem_mem hk)
      have h2 : ({ l[k] with kind := v } : Round).ok := by
        unfold Round.ok at h1 ⊢
        exact ⟨h1.1, h1.2.1, hv, h1.2.2.2⟩
      simp only [keyR, decide_eq_true h1, decide_eq_true h2]
    rw [this, ← List.getElem_map keyR (h := by simpa using hk), List.set_getElem_self]
theorem reK_check {l : List Round} (h : (checkRounds l).1 = 0) {k : Nat} {v : Int} (hv : 1 ≤ v ∧ v ≤ 4) : checkRounds (reK l k v) = checkRounds l := by
  obtain ⟨h1, h2⟩ := checkRounds_0 h
  have hm := reK_key h2 (k := k) hv
  have hlen : (reK l k v).length = l.length := by have := congrArg List.length hm; simpa using this
  unfold checkRounds
  rw [hlen, scan_key _ _ 0 none none hm rfl]
theorem reK_ok {l : List Round} (hl : ∀ r ∈ l, r.ok) {k : Nat} {v : Int} (hv : 1 ≤ v ∧ v ≤ 4) : ∀ r ∈ reK l k v, r.ok := by
  intro r hr
  have hm := reK_key hl (k := k) hv
  have : keyR r ∈ l.map keyR := by rw [← hm]; exact List.mem_map_of_mem hr
  obtain ⟨r', h1, h2⟩ := List.mem_map.1 this
  simp only [keyR, Prod.mk.injEq] at h2
  have := hl r' h1
  simpa [this] using h2.2.2
theorem scan_chain : ∀ (l : List Round) (k : Nat) (q : Option Round), (scan badRound k q l).1 = 0 → (∀ a ∈ q, ∀ b ∈ l, ¬ notBehind a b) ∧ l.Pairwise fun a b => ¬ notBehind a b
  | [], _, _, _ => ⟨fun a _ b hb => (by cases hb), List.Pairwise.nil⟩
  | r :: l, k, q, h => by
    unfold scan at h
    split at h
    · rename_i e he
      have : e ≠ 0 := by
        unfold badRound at he
        split at he
        · split at he
          · split at he
            · cases he; decide
            · cases he
          · cases he
        · cases he; decide
      exact absurd h this
    · rename_i he
      obtain ⟨h1, h2⟩ := scan_chain l (k + 1) (some r) h
      have hr : ∀ a ∈ q, ¬ notBehind a r := by
        intro a ha hn
        cases q with
        | none => cases ha
        | some b =>
          cases ha
          unfold badRound at he
          split at he
          · simp only at he
            rw [if_pos hn] at he
            cases he
          · cases he
      refine ⟨fun a ha b hb => ?_, .cons (fun b hb => h1 r rfl b hb) h2⟩
      rcases List.mem_cons.1 hb with rfl | hb
      · exact hr a ha
      · have g1 := hr a ha
        have g2 := h1 r rfl b hb
        unfold notBehind at *
        omega
theorem rounds_sorted {l : List Round} (h : (checkRounds l).1 = 0) : l.Pairwise fun a b => ¬ notBehind a b := by
  unfold checkRounds at h
  split at h
  · cases h
  · exact (scan_chain l 0 none h).2
theorem behind_at {l : List Round} (h : (checkRounds l).1 = 0) {k : Nat} (hk : k < l.length) : ∀ r ∈ l.drop (k + 1), r.night = l[k].night → l[k].no ≤ r.no := by
  intro r hr hn
  have hp := rounds_sorted h
  rw [split_at hk, List.pairwise_append] at hp
  have := (List.pairwise_cons.1 hp.2.1).1 r hr
  unfold notBehind at this
  omega
/-! What rounds add. -/
theorem roundL_no (p : Policy) (r : Round) (cr ch : Int) : ∀ x ∈ roundL p r cr ch, x.no = r.no := by
  intro x hx
  unfold roundL at hx
  split at hx
  · split at hx
    · cases hx
    · rcases List.mem_cons.1 hx with rfl | hx
      · rfl
      · obtain ⟨i, -, rfl⟩ := List.mem_map.1 hx
        rfl
  · split at hx
    · cases hx
    · rw [List.mem_singleton.1 hx]
theorem foldl_out (p : Policy) (n : Int) : ∀ (m : List Round) (s : NSt), ∃ rest, (m.foldl (stepN p n) s).out = s.out ++ rest ∧ ∀ x ∈ rest, ∃ r ∈ m, r.night = n ∧ x.no = r.no
  | [], s => ⟨[], by simp, fun x hx => by cases hx⟩
  | r :: m, s => by
    obtain ⟨rest, h1, h2⟩ := foldl_out p n m (stepN p n s r)
    rw [List.foldl_cons]
    by_cases hr : r.night = n
    · refine ⟨roundL p r s.cr s.ch ++ rest, ?_, fun x hx => ?_⟩
      · rw [h1, stepN, if_pos hr, List.append_assoc]
      · rcases List.mem_append.1 hx with hx | hx
        · exact ⟨r, List.mem_cons_self .., hr, roundL_no p r _ _ x hx⟩
        · obtain ⟨r', g1, g2⟩ := h2 x hx
          exact ⟨r', List.mem_cons_of_mem _ g1, g2⟩
    · refine ⟨rest, ?_, fun x hx => ?_⟩
      · rw [h1, stepN, if_neg hr]
      · obtain ⟨r', g1, g2⟩ := h2 x hx
        exact ⟨r', List.mem_cons_of_mem _ g1, g2⟩
theorem nightSt_append (p : Policy) (n : Int) (a b : List Round) : nightSt p n (a ++ b) = b.foldl (stepN p n) (nightSt p n a) := by rw [nightSt, List.foldl_append]; rfl
theorem night_reK {p : Policy} {n : Int} {l : List Round} (h : (checkRounds l).1 = 0) {k : Nat} (hk : k < l.length) (v : Int) {q : Int × Int} (hq : ¬ (q.1 = l[k].night ∧ l[k].no ≤ q.2)) (hn : n = q.1) :
    grp (nightOf p n (reK l k v)) q = grp (nightOf p n l) q := by
  subst hn
  rw [reK_at hk]
  conv => rhs; rw [split_at hk]
  unfold nightOf
  rw [nightSt_append, nightSt_append, List.foldl_cons, List.foldl_cons]
  by_cases hnk : l[k].night = q.1
  · have hno : ¬ l[k].no ≤ q.2 := fun e => hq ⟨hnk.symm, e⟩
    have key : ∀ (r : Round), r.night = l[k].night → r.no = l[k].no → grp ((l.drop (k + 1)).foldl (stepN p q.1) (stepN p q.1 (nightSt p q.1 (l.take k)) r)).out q = grp (nightSt p q.1 (l.take k)).out q := by
      intro r h1 h2
      obtain ⟨rest, e1, e2⟩ := foldl_out p q.1 (r :: l.drop (k + 1)) (nightSt p q.1 (l.take k))
      rw [List.foldl_cons] at e1
      rw [e1]
      unfold grp
      rw [List.filter_append]
      have : rest.filter (fun x => decide (nmOf x = q)) = [] := by
        refine filter_none fun x hx => ?_
        obtain ⟨r', g1, g2, g3⟩ := e2 x hx
        have : l[k].no ≤ x.no := by
          rcases List.mem_cons.1 g1 with rfl | g1
          · omega
          · have := behind_at h hk r' g1 (by omega)
            omega
        refine decide_eq_false fun e => ?_
        have : x.no = q.2 := by rw [← e]; rfl
        omega
      rw [this, List.append_nil]
    exact (key ⟨l[k].night, l[k].no, v, l[k].tight, l[k].crew⟩ rfl rfl).trans (key l[k] rfl rfl).symm
  · rw [stepN, if_neg hnk, stepN, if_neg hnk]
theorem nightIn_reK {ps : List Policy} {n : Int} {l : List Round} (h : (checkRounds l).1 = 0) {k : Nat} (hk : k < l.length) (v : Int) {q : Int × Int} (hq : ¬ (q.1 = l[k].night ∧ l[k].no ≤ q.2)) (hn : n = q.1) :
    grp (nightIn ps (reK l k v) n) q = grp (nightIn ps l n) q := by
  unfold nightIn
  split
  · exact night_reK h hk v hq hn
  · rfl
theorem grp_append (a b : List Posting) (q : Int × Int) : grp (a ++ b) q = grp a q ++ grp b q := List.filter_append ..
theorem season_reK {ps : List Policy} {l : List Round} {s : Span} (hp : ∀ p ∈ ps, p.ok) (h : (checkRounds l).1 = 0) (hs : spanErr s = 0) {k : Nat} (hk : k < l.length) {v : Int} (hv : 1 ≤ v ∧ v ≤ 4) {q : Int × Int} (hq : ¬ (q.1 = l[k].night ∧ l[k].no ≤ q.2)) :
    grp (seasonOf ps l s) q = grp (seasonOf ps (reK l k v) s) q := by
  obtain ⟨h1, h2⟩ := checkRounds_0 h
  have hsp := spanErr_0 hs
  have h3 := reK_ok h2 (k := k) hv
  unfold seasonOf
  have key : ∀ m : Nat, s.lo + (m : Int) ≤ 20001 → grp (seasonTo ps l s.lo m) q = grp (seasonTo ps (reK l k v) s.lo m) q := by
    intro m
    induction m with
    | zero => intro _; rfl
    | succ m ih =>
      intro hm
      rw [seasonTo_succ, seasonTo_succ, grp_append, grp_append, ih (by omega)]
      congr 1
      by_cases hn : s.lo + (m : Int) = q.1
      · exact (nightIn_reK h hk v hq hn).symm
      · have none : ∀ l' : List Round, (∀ r ∈ l', r.ok) → grp (nightIn ps l' (s.lo + (m : Int))) q = [] := by
          intro l' hl'
          refine filter_none fun x hx => ?_
          have := ((nightIn_ok (n := s.lo + (m : Int)) hp hl' (by omega)).2 x hx).2.1
          refine decide_eq_false fun e => hn ?_
          rw [← this, ← e]; rfl
        rw [none l h2, none _ h3]
  exact key _ (by omega)
theorem apart_names {ps : List Policy} {l : List Round} {s : Span} (hp : ∀ p ∈ ps, p.ok) (h : (checkRounds l).1 = 0) (hs : spanErr s = 0) {k : Nat} (hk : k < l.length) {v : Int} (hv : 1 ≤ v ∧ v ≤ 4) :
    ∀ x ∈ correct (seasonOf ps l s) (seasonOf ps (reK l k v) s), x.night = l[k].night ∧ l[k].no ≤ x.no := by
  intro x hx
  obtain ⟨q, hq, he⟩ := correct_mem hx
  have hne := mem_differ.1 hq
  subst he
  exact Classical.byContradiction fun hc => hne (season_reK hp h hs hk hv hc)
end Go.Proofs.Ax
