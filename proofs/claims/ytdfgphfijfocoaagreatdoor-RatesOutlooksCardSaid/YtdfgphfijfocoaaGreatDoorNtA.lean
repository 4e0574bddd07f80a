import Derived.Test.YtdfgphfijfocoaaGreatDoorRbE
import Derived.Test.YtdfgphfijfocoaaGreatDoorDivA
namespace Go.Proofs.Ax
open Go Go.Proofs
def bonusTo (r : Round) (ps : List Int) (k : Nat) : List Posting := ((List.range k).filter fun i => decide (0 < ps.getD i 0)).map fun i => ⟨r.night, r.no, -1, r.crew.getD i 0, ps.getD i 0⟩
def onesOf (r : Round) : List Int := List.replicate r.crew.length 1
def bonusL (r : Round) (a : Int) : List Posting := bonusTo r (divided a (onesOf r)) r.crew.length
/-- What is given for a round that is not certified, and for one that is. -/
def doubtAmt (p : Policy) (r : Round) (ch : Int) : Int := min (if r.kind = 3 then p.charge else p.doubt) (p.cap - ch)
def certAmt (p : Policy) (cr : Int) : Int := min p.credit (p.cap - cr)
/-- The postings of a round, and what has been given behind it. -/
def roundL (p : Policy) (r : Round) (cr ch : Int) : List Posting :=
  if r.kind = 1 then (if certAmt p cr = 0 then [] else ⟨r.night, r.no, -2, -1, certAmt p cr⟩ :: bonusL r (certAmt p cr * p.bonus / 1000))
  else (if doubtAmt p r ch = 0 then [] else [⟨r.night, r.no, -1, -2, doubtAmt p r ch⟩])
def crOf (p : Policy) (r : Round) (cr : Int) : Int := if r.kind = 1 then cr + certAmt p cr else cr
def chOf (p : Policy) (r : Round) (ch : Int) : Int := if r.kind = 1 then ch else ch + doubtAmt p r ch
structure NSt where
  out : List Posting
  cr : Int
  ch : Int
def stepN (p : Policy) (n : Int) (s : NSt) (r : Round) : NSt := if r.night = n then ⟨s.out ++ roundL p r s.cr s.ch, crOf p r s.cr, chOf p r s.ch⟩ else s
def baseL (p : Policy) (n : Int) : List Posting := if 0 < p.base then [⟨n, 0, -1, -2, p.base⟩] else []
def nightSt (p : Policy) (n : Int) (l : List Round) : NSt := l.foldl (stepN p n) ⟨baseL p n, 0, 0⟩
def nightOf (p : Policy) (n : Int) (l : List Round) : List Posting := (nightSt p n l).out
theorem nightSt_succ {p : Policy} {n : Int} {l : List Round} {k : Nat} (h : k < l.length) : nightSt p n (l.take (k + 1)) = stepN p n (nightSt p n (l.take k)) l[k] := by
  rw [take_succ_snoc h, nightSt, List.foldl_append]; rfl
/-- What postings for rounds give from one account to another. -/
def given (l : List Posting) (a b : Int) : Int := (l.map fun x => if 0 < x.no ∧ x.src = a ∧ x.dst = b then x.amount else 0).sum
theorem given_append (l m : List Posting) (a b : Int) : given (l ++ m) a b = given l a b + given m a b := by simp [given]
theorem crew_bd : ∀ {l : List Int} {b : Int} (_ : goodCrew b l), ∀ x ∈ l, b < x ∧ x ≤ 1099511627776
  | [], _, _, x, h => by cases h
  | y :: l, b, h, x, hx => by
    obtain ⟨h1, h2, h3⟩ := h
    rcases List.mem_cons.1 hx with rfl | hx
    · exact ⟨h1, h2⟩
    · have := crew_bd h3 x hx; omega
theorem onesOk {r : Round} (hr : r.ok) {a : Int} (h0 : 0 ≤ a) (h1 : a ≤ 1000000) : DivOk a (onesOf r) := by
  unfold Round.ok at hr
  refine ⟨h0, by omega, fun x hx => ?_, fun x hx => ?_, by simp [onesOf]; omega, ?_⟩
  · rw [(List.mem_replicate.1 hx).2]; decide
  · rw [(List.mem_replicate.1 hx).2]; decide
  · simp [onesOf]; omega
theorem bonus_parts {r : Round} (hr : r.ok) {a : Int} (h0 : 0 ≤ a) (h1 : a ≤ 1000000) : (divided a (onesOf r)).length = r.crew.length ∧ ∀ x ∈ divided a (onesOf r), 0 ≤ x ∧ x ≤ 1000001 := by
  have hd := onesOk hr h0 h1
  obtain ⟨o, po, so⟩ := ord_ex (key a (onesOf r).sum (onesOf r)) (onesOf r).length
  have hf := fair_ok hd po so
  refine ⟨by rw [hf.len]; simp [onesOf], fun x hx => ?_⟩
  obtain ⟨i, hi, rfl⟩ := List.getElem_of_mem hx
  have hiw : i < (onesOf r).length := by rw [← hf.len]; exact hi
  have := hf.lo i hi
  have := hf.hi i hi
  have := share_nonneg hd hiw
  have := share_le_A hd hiw
  omega
theorem bonusTo_mem {r : Round} {ps : List Int} {k : Nat} (hr : r.ok) (hk : k ≤ r.crew.length) (hps : ∀ x ∈ ps, 0 ≤ x ∧ x ≤ 1000001) : ∀ x ∈ bonusTo r ps k, x.ok ∧ x.night = r.night ∧ x.no = r.no ∧ x.src = -1 ∧ 1 ≤ x.dst := by
  intro x hx
  obtain ⟨i, hi, rfl⟩ := List.mem_map.1 hx
  obtain ⟨h1, h2⟩ := List.mem_filter.1 hi
  have hik := List.mem_range.1 h1
  have h2 := of_decide_eq_true h2
  unfold Round.ok at hr
  have hc := crew_bd hr.2.2.2.2 (r.crew.getD i 0) (by rw [List.getD_eq_getElem?_getD, List.getElem?_eq_getElem (by omega)]; exact List.getElem_mem _)
  have hp : ps.getD i 0 ≤ 1000001 := by
    rw [List.getD_eq_getElem?_getD]
    by_cases hl : i < ps.length
    · rw [List.getElem?_eq_getElem hl]; exact (hps _ (List.getElem_mem _)).2
    · rw [List.getElem?_eq_none (by omega)]; decide
  refine ⟨?_, rfl, rfl, rfl, by show 1 ≤ r.crew.getD i 0; omega⟩
  unfold Posting.ok isAcc
  refine ⟨hr.1, ⟨by show 0 ≤ r.no; omega, by show r.no ≤ 12; omega⟩, .inl rfl, .inr (.inr ⟨by show 1 ≤ r.crew.getD i 0; omega, hc.2⟩), by show (-1 : Int) ≠ r.crew.getD i 0; omega, by show 1 ≤ ps.getD i 0; omega, by show ps.getD i 0 ≤ _; omega⟩
theorem bonusTo_succ (r : Round) (ps : List Int) (k : Nat) : bonusTo r ps (k + 1) = bonusTo r ps k ++ if 0 < ps.getD k 0 then [⟨r.night, r.no, -1, r.crew.getD k 0, ps.getD k 0⟩] else [] := by
  simp only [bonusTo, List.range_succ, List.filter_append, List.map_append]
  congr 1
  by_cases h : 0 < ps.getD k 0
  · rw [if_pos h, List.filter_cons, decide_eq_true h]; rfl
  · rw [if_neg h, List.filter_cons, decide_eq_false h]; rfl
theorem bonusTo_len (r : Round) (ps : List Int) (k : Nat) : (bonusTo r ps k).length ≤ k := by
  simp only [bonusTo, List.length_map]
  have := List.length_filter_le (fun i => decide (0 < ps.getD i 0)) (List.range k)
  simpa using this
theorem given_0 {l : List Posting} {a b : Int} (h : ∀ x ∈ l, ¬ (0 < x.no ∧ x.src = a ∧ x.dst = b)) : given l a b = 0 := by
  induction l with
  | nil => rfl
  | cons y l ih =>
    have := ih (fun x hx => h x (List.mem_cons_of_mem _ hx))
    simp only [given, List.map_cons, List.sum_cons] at this ⊢
    rw [if_neg (h y (List.mem_cons_self ..))]
    omega
/-- What is known on the way. -/
structure NOk (p : Policy) (n : Int) (s : NSt) (k : Nat) : Prop where
  cr : 0 ≤ s.cr ∧ s.cr ≤ p.cap
  ch : 0 ≤ s.ch ∧ s.ch ≤ p.cap
  out : ∀ x ∈ s.out, x.ok ∧ x.night = n ∧ x.src ≤ -1
  len : s.out.length ≤ 1 + 5 * k
  gcr : given s.out (-2) (-1) = s.cr
  gch : given s.out (-1) (-2) = s.ch
  ins : bal s.out (-2) = p.base + s.ch - s.cr
theorem bal_0 {l : List Posting} {a : Int} (h : ∀ x ∈ l, x.src ≠ a ∧ x.dst ≠ a) : bal l a = 0 := by
  induction l with
  | nil => rfl
  | cons y l ih =>
    have := ih (fun x hx => h x (List.mem_cons_of_mem _ hx))
    have hy := h y (List.mem_cons_self ..)
    have e : bal (y :: l) a = change y a + bal l a := by simp [bal]
    rw [e, this, change, if_neg (fun e => hy.2 e.symm), if_neg (fun e => hy.1 e.symm)]
    rfl
theorem bal_cons (y : Posting) (l : List Posting) (a : Int) : bal (y :: l) a = change y a + bal l a := by simp [bal]
theorem given_cons (y : Posting) (l : List Posting) (a b : Int) : given (y :: l) a b = (if 0 < y.no ∧ y.src = a ∧ y.dst = b then y.amount else 0) + given l a b := by simp [given]
theorem nok_0 {p : Policy} (hp : p.ok) {n : Int} (hn : 0 ≤ n ∧ n ≤ 20000) : NOk p n ⟨baseL p n, 0, 0⟩ 0 := by
  unfold Policy.ok at hp
  unfold baseL
  by_cases hb : 0 < p.base
  · simp only [if_pos hb]
    refine ⟨by simp; omega, by simp; omega, fun x hx => ?_, by simp, by simp [given], by simp [given], by simp [bal, change]⟩
    rw [List.mem_singleton.1 hx]
    refine ⟨?_, rfl, by show (-1 : Int) ≤ -1; omega⟩
    unfold Posting.ok isAcc
    exact ⟨hn, by show (0 : Int) ≤ 0 ∧ (0 : Int) ≤ 12; omega, .inl rfl, .inr (.inl rfl), by show (-1 : Int) ≠ -2; omega, by show 1 ≤ p.base ∧ p.base ≤ _; omega⟩
  · simp only [if_neg hb]
    refine ⟨by simp; omega, by simp; omega, fun x hx => (by cases hx), by simp, by simp [given], by simp [given], by simp [bal]; omega⟩
theorem certAmt_bd {p : Policy} (hp : p.ok) {cr : Int} (h : 0 ≤ cr ∧ cr ≤ p.cap) : 0 ≤ certAmt p cr ∧ certAmt p cr ≤ 1000000 ∧ cr + certAmt p cr ≤ p.cap := by
  unfold Policy.ok at hp
  unfold certAmt
  omega
theorem doubtAmt_bd {p : Policy} (hp : p.ok) (r : Round) {ch : Int} (h : 0 ≤ ch ∧ ch ≤ p.cap) : 0 ≤ doubtAmt p r ch ∧ doubtAmt p r ch ≤ 1000000 ∧ ch + doubtAmt p r ch ≤ p.cap := by
  unfold Policy.ok at hp
  unfold doubtAmt
  split <;> omega
theorem bonus_amt {p : Policy} (hp : p.ok) {c : Int} (h : 0 ≤ c ∧ c ≤ 1000000) : 0 ≤ c * p.bonus / 1000 ∧ c * p.bonus / 1000 ≤ 1000000 ∧ 0 ≤ c * p.bonus ∧ c * p.bonus ≤ 1000000000 := by
  unfold Policy.ok at hp
  have h1 : 0 ≤ c * p.bonus := Int.mul_nonneg h.1 hp.2.2.2.2.2.2.1
  have h2 : c * p.bonus ≤ 1000000 * 1000 := Int.mul_le_mul h.2 hp.2.2.2.2.2.2.2 hp.2.2.2.2.2.2.1 (by decide)
  omega
/-- The postings of a round. -/
theorem roundL_ok {p : Policy} (hp : p.ok) {r : Round} (hr : r.ok) {cr ch : Int} (h1 : 0 ≤ cr ∧ cr ≤ p.cap) (h2 : 0 ≤ ch ∧ ch ≤ p.cap) :
    (∀ x ∈ roundL p r cr ch, x.ok ∧ x.night = r.night ∧ x.no = r.no ∧ x.src ≤ -1) ∧ (roundL p r cr ch).length ≤ 5 ∧ given (roundL p r cr ch) (-2) (-1) = crOf p r cr - cr ∧ given (roundL p r cr ch) (-1) (-2) = chOf p r ch - ch ∧ bal (roundL p r cr ch) (-2) = chOf p r ch - ch - (crOf p r cr - cr) := by
  have hr' := hr
  unfold Round.ok at hr
  by_cases hk : r.kind = 1
  · obtain ⟨c1, c2, c3⟩ := certAmt_bd hp h1
    obtain ⟨b1, b2, -⟩ := bonus_amt hp ⟨c1, c2⟩
    obtain ⟨l1, l2⟩ := bonus_parts hr' b1 b2
    have hb := bonusTo_mem hr' (Nat.le_refl _) l2
    have hl := bonusTo_len r (divided (certAmt p cr * p.bonus / 1000) (onesOf r)) r.crew.length
    simp only [roundL, crOf, chOf, if_pos hk]
    by_cases h0 : certAmt p cr = 0
    · simp [h0, given, bal]
    · simp only [if_neg h0]
      refine ⟨fun x hx => ?_, by simp only [List.length_cons, bonusL]; omega, ?_, ?_, ?_⟩
      · rcases List.mem_cons.1 hx with rfl | hx
        · refine ⟨?_, rfl, rfl, by show (-2 : Int) ≤ -1; omega⟩
          unfold Posting.ok isAcc
          exact ⟨hr.1, by show 0 ≤ r.no ∧ r.no ≤ 12; omega, .inr (.inl rfl), .inl rfl, by show (-2 : Int) ≠ -1; omega, by show 1 ≤ certAmt p cr ∧ certAmt p cr ≤ _; omega⟩
        · obtain ⟨g1, g2, g3, g4, g5⟩ := hb x hx
          exact ⟨g1, g2, g3, by omega⟩
      · rw [given_cons, given_0 (fun x hx => by have := hb x hx; omega)]
        simp only
        rw [if_pos ⟨by omega, trivial, trivial⟩]
        omega
      · rw [given_cons, given_0 (fun x hx => by have := hb x hx; omega)]
        simp
      · rw [bal_cons, bal_0 (fun x hx => by have := hb x hx; omega)]
        simp [change]
        omega
  · obtain ⟨c1, c2, c3⟩ := doubtAmt_bd hp r h2
    simp only [roundL, crOf, chOf, if_neg hk]
    by_cases h0 : doubtAmt p r ch = 0
    · simp [h0, given, bal]
    · simp only [if_neg h0]
      refine ⟨fun x hx => ?_, by simp, ?_, ?_, ?_⟩
      · rw [List.mem_singleton.1 hx]
        refine ⟨?_, rfl, rfl, by show (-1 : Int) ≤ -1; omega⟩
        unfold Posting.ok isAcc
        exact ⟨hr.1, by show 0 ≤ r.no ∧ r.no ≤ 12; omega, .inl rfl, .inr (.inl rfl), by show (-1 : Int) ≠ -2; omega, by show 1 ≤ doubtAmt p r ch ∧ doubtAmt p r ch ≤ _; omega⟩
      · simp [given]
      · simp only [given, List.map_cons, List.map_nil, List.sum_cons, List.sum_nil]
        rw [if_pos ⟨by omega, trivial, trivial⟩]
        omega
      · simp [bal, change]
        omega
theorem nok_step {p : Policy} (hp : p.ok) {n : Int} {s : NSt} {k : Nat} (h : NOk p n s k) {r : Round} (hr : r.ok) : NOk p n (stepN p n s r) (k + 1) := by
  unfold stepN
  by_cases hn : r.night = n
  · rw [if_pos hn]
    obtain ⟨g1, g2, g3, g4, g5⟩ := roundL_ok hp hr h.cr h.ch
    have c1 := certAmt_bd hp h.cr
    have c2 := doubtAmt_bd hp r h.ch
    have h1 := h.cr
    have h2 := h.ch
    refine ⟨?_, ?_, fun x hx => ?_, ?_, ?_, ?_, ?_⟩
    · unfold crOf; simp only; split <;> omega
    · unfold chOf; simp only; split <;> omega
    · rcases List.mem_append.1 hx with hx | hx
      · exact h.out x hx
      · obtain ⟨e1, e2, e3, e4⟩ := g1 x hx
        exact ⟨e1, by omega, e4⟩
    · have := h.len
      simp only [List.length_append]
      omega
    · rw [given_append, h.gcr, g3]; simp only; omega
    · rw [given_append, h.gch, g4]; simp only; omega
    · rw [bal_append, h.ins, g5]; simp only; omega
  · rw [if_neg hn]
    exact ⟨h.cr, h.ch, h.out, by have := h.len; omega, h.gcr, h.gch, h.ins⟩
theorem nok_st {p : Policy} (hp : p.ok) {n : Int} (hn : 0 ≤ n ∧ n ≤ 20000) {l : List Round} (hl : ∀ r ∈ l, r.ok) : ∀ k, k ≤ l.length → NOk p n (nightSt p n (l.take k)) k
  | 0, _ => by simpa [nightSt] using nok_0 hp hn
  | k + 1, hk => by
    rw [nightSt_succ (show k < l.length by omega)]
    exact nok_step hp (nok_st hp hn hl k (by omega)) (hl _ (List.getElem_mem _))
end Go.Proofs.Ax
namespace Go.Proofs.Ax
open Go Go.Proofs
/-- The postings of one night, by the policy in force. -/
def nightIn (ps : List Policy) (l : List Round) (n : Int) : List Posting := if (forceOf ps n).2 = true then nightOf (forceOf ps n).1 n l else []
def seasonTo (ps : List Policy) (l : List Round) (lo : Int) (m : Nat) : List Posting := (List.range m).flatMap fun (j : Nat) => nightIn ps l (lo + (j : Int))
def seasonOf (ps : List Policy) (l : List Round) (s : Span) : List Posting := seasonTo ps l s.lo (s.hi - s.lo + 1).toNat
def askedErr (ps : List Policy) (l : List Round) (s : Span) : Int := if (checkPol ps).1 ≠ 0 then (checkPol ps).1 else if (checkRounds l).1 ≠ 0 then (checkRounds l).1 else spanErr s
theorem scan_all {α : Type} {bad : Option α → α → Option Int} (hb : ∀ q x, bad q x ≠ some 0) {P : α → Prop} (hP : ∀ q x, bad q x = none → P x) : ∀ (l : List α) (k : Nat) (q : Option α), (scan bad k q l).1 = 0 → ∀ x ∈ l, P x
  | [], k, q, _, x, hx => by cases hx
  | y :: l, k, q, h, x, hx => by
    unfold scan at h
    cases hq : bad q y with
    | some e =>
      rw [hq] at h
      exact absurd (by rw [hq]; exact congrArg some h) (hb q y)
    | none =>
      rw [hq] at h
      rcases List.mem_cons.1 hx with rfl | hx
      · exact hP q x hq
      · exact scan_all hb hP l _ _ h x hx
theorem checkPol_0 {l : List Policy} (h : (checkPol l).1 = 0) : l.length ≤ 20 ∧ ∀ p ∈ l, p.ok := by
  unfold checkPol at h
  split at h
  · cases h
  · refine ⟨by omega, scan_all (fun q x => ?_) (fun q x hx => ?_) l _ _ h⟩
    · unfold badPol
      split
      · split
        · split <;> simp
        · simp
      · simp
    · unfold badPol at hx
      split at hx
      · assumption
      · cases hx
theorem checkRounds_0 {l : List Round} (h : (checkRounds l).1 = 0) : l.length ≤ 200 ∧ ∀ r ∈ l, r.ok := by
  unfold checkRounds at h
  split at h
  · cases h
  · refine ⟨by omega, scan_all (fun q x => ?_) (fun q x hx => ?_) l _ _ h⟩
    · unfold badRound
      split
      · split
        · split <;> simp
        · simp
      · simp
    · unfold badRound at hx
      split at hx
      · assumption
      · cases hx
theorem forceFrom_mem (night : Int) : ∀ (l : List Policy) (acc : Policy × Bool), (forceFrom night acc l).2 = true → (forceFrom night acc l = acc) ∨ (forceFrom night acc l).1 ∈ l
  | [], acc, _ => .inl rfl
  | p :: l, acc, h => by
    unfold forceFrom at h ⊢
    rcases forceFrom_mem night l _ h with g | g
    · rw [g]
      split
      · exact .inr (List.mem_cons_self ..)
      · exact .inl rfl
    · exact .inr (List.mem_cons_of_mem _ g)
theorem forceOf_mem {l : List Policy} {night : Int} (h : (forceOf l night).2 = true) : (forceOf l night).1 ∈ l := by
  rcases forceFrom_mem night l _ h with g | g
  · unfold forceOf at h
    rw [g] at h
    cases h
  · exact g
theorem askedErr_0 {ps : List Policy} {l : List Round} {s : Span} (h : askedErr ps l s = 0) : (checkPol ps).1 = 0 ∧ (checkRounds l).1 = 0 ∧ spanErr s = 0 := by
  unfold askedErr at h
  by_cases h1 : (checkPol ps).1 = 0
  · rw [if_neg (by simpa using h1)] at h
    by_cases h2 : (checkRounds l).1 = 0
    · rw [if_neg (by simpa using h2)] at h
      exact ⟨h1, h2, h⟩
    · rw [if_pos h2] at h; exact absurd h h2
  · rw [if_pos h1] at h; exact absurd h h1
theorem night_nok {p : Policy} (hp : p.ok) {n : Int} (hn : 0 ≤ n ∧ n ≤ 20000) {l : List Round} (hl : ∀ r ∈ l, r.ok) : NOk p n (nightSt p n l) l.length := by
  have := nok_st hp hn hl l.length (Nat.le_refl _)
  rwa [List.take_length] at this
end Go.Proofs.Ax
namespace Go.Proofs.Ax
open Go Go.Proofs
/-! What the house gives in a night hangs on how many rounds are certified, and on the sum of what is charged for the others. -/
def amtOf (p : Policy) (r : Round) : Int := if r.kind = 3 then p.charge else p.doubt
def certSt (p : Policy) : Nat → Int × Int
  | 0 => (0, 0)
  | j + 1 => ((certSt p j).1 + certAmt p (certSt p j).1, (certSt p j).2 + certAmt p (certSt p j).1 * p.bonus / 1000)
def certN (n : Int) (l : List Round) : Nat := (l.filter fun r => decide (r.night = n ∧ r.kind = 1)).length
def chargeS (p : Policy) (n : Int) (l : List Round) : Int := (l.map fun r => if r.night = n ∧ r.kind ≠ 1 then amtOf p r else 0).sum
def costOf (p : Policy) (c : Nat) (s : Int) : Int := p.base + min s p.cap - (certSt p c).1 + (certSt p c).2
theorem certN_snoc (n : Int) (l : List Round) (r : Round) : certN n (l ++ [r]) = certN n l + if r.night = n ∧ r.kind = 1 then 1 else 0 := by
  unfold certN
  rw [List.filter_append, List.length_append]
  by_cases h : r.night = n ∧ r.kind = 1
  · simp [h]
  · rw [if_neg h, List.filter_cons]
    simp [h]
theorem chargeS_snoc (p : Policy) (n : Int) (l : List Round) (r : Round) : chargeS p n (l ++ [r]) = chargeS p n l + if r.night = n ∧ r.kind ≠ 1 then amtOf p r else 0 := by
  simp [chargeS]
theorem chargeS_nn {p : Policy} (hp : p.ok) (n : Int) (l : List Round) : 0 ≤ chargeS p n l := by
  unfold Policy.ok at hp
  induction l with
  | nil => simp [chargeS]
  | cons r l ih =>
    simp only [chargeS, List.map_cons, List.sum_cons] at ih ⊢
    have : 0 ≤ amtOf p r := by unfold amtOf; split <;> omega
    split <;> omega
theorem bonusTo_bal {r : Round} {ps : List Int} (hr : r.ok) (hps : ∀ x ∈ ps, 0 ≤ x) : ∀ k, k ≤ r.crew.length → k ≤ ps.length → bal (bonusTo r ps k) (-1) = -(ps.take k).sum
  | 0, _, _ => by simp [bonusTo, bal]
  | k + 1, h1, h2 => by
    have ih := bonusTo_bal hr hps k (by omega) (by omega)
    have hr' := hr
    unfold Round.ok at hr'
    have hc := crew_bd hr'.2.2.2.2 (r.crew.getD k 0) (by rw [List.getD_eq_getElem?_getD, List.getElem?_eq_getElem (by omega)]; exact List.getElem_mem _)
    have hg : ps.getD k 0 = ps[k] := getD_lt (by omega)
    rw [bonusTo_succ, bal_append, ih, take_sum_succ (show k < ps.length by omega), hg]
    by_cases h0 : 0 < ps[k]
    · rw [if_pos h0]
      simp only [bal, List.map_cons, List.map_nil, List.sum_cons, List.sum_nil, change]
      rw [if_neg (by omega), if_pos trivial]
      omega
    · rw [if_neg h0]
      have := hps _ (List.getElem_mem (show k < ps.length by omega))
      simp only [bal, List.map_nil, List.sum_nil]
      omega
theorem bonusL_bal {r : Round} (hr : r.ok) {a : Int} (h0 : 0 ≤ a) (h1 : a ≤ 1000000) : bal (bonusL r a) (-1) = -a := by
  have hd := onesOk hr h0 h1
  obtain ⟨o, po, so⟩ := ord_ex (key a (onesOf r).sum (onesOf r)) (onesOf r).length
  have hf := fair_ok hd po so
  obtain ⟨l1, l2⟩ := bonus_parts hr h0 h1
  unfold bonusL
  rw [bonusTo_bal hr (fun x hx => (l2 x hx).1) _ (Nat.le_refl _) (by omega), List.take_of_length_le (by omega), hf.sum]
theorem roundL_house {p : Policy} (hp : p.ok) {r : Round} (hr : r.ok) {cr ch : Int} (h1 : 0 ≤ cr ∧ cr ≤ p.cap) (h2 : 0 ≤ ch ∧ ch ≤ p.cap) :
    bal (roundL p r cr ch) (-1) = if r.kind = 1 then certAmt p cr - certAmt p cr * p.bonus / 1000 else -doubtAmt p r ch := by
  have hc := certAmt_bd hp h1
  obtain ⟨b1, b2, -⟩ := bonus_amt hp ⟨hc.1, hc.2.1⟩
  by_cases hk : r.kind = 1
  · simp only [roundL, if_pos hk]
    by_cases h0 : certAmt p cr = 0
    · simp [h0, bal]
    · rw [if_neg h0, bal_cons, bonusL_bal hr b1 b2]
      simp [change]
      omega
  · simp only [roundL, if_neg hk]
    by_cases h0 : doubtAmt p r ch = 0
    · simp [h0, bal]
    · rw [if_neg h0]
      simp [bal, change]
theorem house_st {p : Policy} (hp : p.ok) {n : Int} (hn : 0 ≤ n ∧ n ≤ 20000) {l : List Round} (hl : ∀ r ∈ l, r.ok) : ∀ k, k ≤ l.length →
    (nightSt p n (l.take k)).cr = (certSt p (certN n (l.take k))).1 ∧ (nightSt p n (l.take k)).ch = min (chargeS p n (l.take k)) p.cap ∧ bal (nightSt p n (l.take k)).out (-1) = -p.base + (certSt p (certN n (l.take k))).1 - (certSt p (certN n (l.take k))).2 - min (chargeS p n (l.take k)) p.cap
  | 0, _ => by
    have hp' := hp
    unfold Policy.ok at hp'
    have : bal (baseL p n) (-1) = -p.base := by
      unfold baseL
      split
      · simp [bal, change]
      · simp [bal]; omega
    simp [nightSt, certN, chargeS, certSt, this]
    omega
  | k + 1, hk => by
    have hlt : k < l.length := by omega
    obtain ⟨i1, i2, i3⟩ := house_st hp hn hl k (by omega)
    have nok := nok_st hp hn hl k (by omega)
    have hr := hl _ (List.getElem_mem hlt)
    rw [nightSt_succ hlt, take_succ_snoc hlt, certN_snoc, chargeS_snoc]
    have hs := chargeS_nn hp n (l.take k)
    generalize nightSt p n (l.take k) = s at *
    generalize l[k] = r at *
    generalize certN n (l.take k) = c at *
    generalize chargeS p n (l.take k) = S at *
    have hb := roundL_house hp hr nok.cr nok.ch
    have ha : 0 ≤ amtOf p r := by
      unfold Policy.ok at hp
      unfold amtOf; split <;> omega
    unfold stepN
    by_cases h1 : r.night = n
    · rw [if_pos h1]
      by_cases h2 : r.kind = 1
      · rw [if_pos ⟨h1, h2⟩, if_neg (by omega)]
        rw [if_pos h2] at hb
        simp only [crOf, chOf, if_pos h2, certSt, bal_append]
        rw [← i1]
        refine ⟨rfl, by omega, ?_⟩
        rw [hb, i3, ← i1]
        omega
      · rw [if_neg (by omega), if_pos ⟨h1, h2⟩]
        rw [if_neg h2] at hb
        simp only [crOf, chOf, if_neg h2, bal_append, Nat.add_zero]
        have hd : doubtAmt p r s.ch = min (amtOf p r) (p.cap - s.ch) := rfl
        have := nok.ch
        refine ⟨i1, by omega, ?_⟩
        rw [hb, i3]
        omega
    · rw [if_neg h1, if_neg (by omega), if_neg (by omega)]
      simp only [Nat.add_zero, Int.add_zero]
      exact ⟨i1, i2, i3⟩
theorem house_cost {p : Policy} (hp : p.ok) {n : Int} (hn : 0 ≤ n ∧ n ≤ 20000) {l : List Round} (hl : ∀ r ∈ l, r.ok) : -(bal (nightOf p n l) (-1)) = costOf p (certN n l) (chargeS p n l) := by
  have := house_st hp hn hl l.length (Nat.le_refl _)
  rw [List.take_length] at this
  unfold nightOf costOf
  rw [this.2.2]
  omega
end Go.Proofs.Ax
namespace Go.Proofs.Ax
open Go Go.Proofs
/-- How many rounds are of a night, and of the nights from one to another. -/
def cntN (n : Int) (l : List Round) : Nat := l.countP fun r => decide (r.night = n)
def cntTo (lo hi : Int) (l : List Round) : Nat := l.countP fun r => decide (lo ≤ r.night ∧ r.night < hi)
end Go.Proofs.Ax
namespace Go.Proofs.Ax
open Go Go.Proofs
/-! Doubtful rounds decided. -/
def rnd0 : Round := ⟨0, 0, 0, false, []⟩
def dec (r : Round) (b : Bool) : Round := { r with kind := if b = true then 1 else 3 }
def loose (r : Round) : Round := { r with tight := false }
def dN : List Round → Nat
  | [] => 0
  | r :: l => (if r.kind = 2 then 1 else 0) + dN l
def rk : List Round → Nat → Nat
  | _, 0 => 0
  | [], _ + 1 => 0
  | r :: l, i + 1 => (if r.kind = 2 then 1 else 0) + rk l i
def decideL : List Round → List Bool → List Round
  | [], _ => []
  | r :: l, bs => if r.kind = 2 then dec r (bs.headD false) :: decideL l bs.tail else r :: decideL l bs
theorem dN_append (l m : List Round) : dN (l ++ m) = dN l + dN m := by
  induction l with
  | nil => simp [dN]
  | cons r l ih => simp only [List.cons_append, dN, ih]; omega
theorem dN_take_succ {l : List Round} {k : Nat} (h : k < l.length) : dN (l.take (k + 1)) = dN (l.take k) + if l[k].kind = 2 then 1 else 0 := by
  rw [take_succ_snoc h, dN_append]; simp [dN]
theorem dN_le (l : List Round) : dN l ≤ l.length := by
  induction l with
  | nil => simp [dN]
  | cons r l ih => simp only [dN, List.length_cons]; split <;> omega
theorem decideL_length : ∀ (l : List Round) (bs : List Bool), (decideL l bs).length = l.length
  | [], _ => rfl
  | r :: l, bs => by
    unfold decideL
    split <;> simp [decideL_length l]
theorem rk_succ : ∀ {l : List Round} {i : Nat} (h : i < l.length), rk l (i + 1) = rk l i + if l[i].kind = 2 then 1 else 0
  | r :: l, 0, h => by simp [rk]
  | r :: l, i + 1, h => by
    have := rk_succ (l := l) (i := i) (by simpa using h)
    simp only [rk, List.getElem_cons_succ] at this ⊢
    omega
theorem rk_all : ∀ (l : List Round), rk l l.length = dN l
  | [] => rfl
  | r :: l => by simp [rk, dN, rk_all l]
theorem rk_mono (l : List Round) {i j : Nat} (h : i ≤ j) (hj : j ≤ l.length) : rk l i ≤ rk l j := by
  induction j with
  | zero => rw [show i = 0 by omega]; exact Nat.le_refl _
  | succ j ih =>
    by_cases he : i = j + 1
    · rw [he]; exact Nat.le_refl _
    · have := ih (by omega) (by omega)
      rw [rk_succ (by omega)]
      omega
theorem rk_lt {l : List Round} {i : Nat} (h : i < l.length) (h2 : l[i].kind = 2) : rk l i < dN l := by
  have h1 := rk_succ h
  have h3 := rk_mono l (show i + 1 ≤ l.length by omega) (Nat.le_refl _)
  rw [rk_all] at h3
  rw [if_pos h2] at h1
  omega
theorem rk_inj {l : List Round} {i j : Nat} (hi : i < l.length) (hj : j < l.length) (h1 : l[i].kind = 2) (h2 : l[j].kind = 2) (h : rk l i = rk l j) : i = j := by
  rcases Nat.lt_trichotomy i j with g | g | g
  · have a := rk_succ hi
    have b := rk_mono l (show i + 1 ≤ j by omega) (by omega)
    rw [if_pos h1] at a
    omega
  · exact g
  · have a := rk_succ hj
    have b := rk_mono l (show j + 1 ≤ i by omega) (by omega)
    rw [if_pos h2] at a
    omega
theorem decideL_get : ∀ (l : List Round) (bs : List Bool) (i : Nat) (h : i < l.length), (decideL l bs)[i]'(by rw [decideL_length]; exact h) = if l[i].kind = 2 then dec l[i] (bs.getD (rk l i) false) else l[i]
  | r :: l, bs, 0, h => by
    unfold decideL
    by_cases hk : r.kind = 2
    · simp [hk, rk]
      cases bs <;> rfl
    · simp [hk]
  | r :: l, bs, i + 1, h => by
    have hl : i < l.length := by simpa using h
    unfold decideL
    by_cases hk : r.kind = 2
    · have := decideL_get l bs.tail i hl
      simp only [if_pos hk, List.getElem_cons_succ, rk, this]
      congr 2
      cases bs with
      | nil => simp
      | cons b bs => simp [Nat.add_comm 1]
    · have := decideL_get l bs i hl
      simp only [if_neg hk, List.getElem_cons_succ, rk, this, Nat.zero_add]
/-- The numbers of the doubtful ones. -/
def dIdx (l : List Round) (k : Nat) : List Nat := (List.range k).filter fun i => decide ((l.getD i rnd0).kind = 2)
theorem getD_r {l : List Round} {i : Nat} (h : i < l.length) : l.getD i rnd0 = l[i] := by simp [h]
theorem dIdx_succ {l : List Round} {k : Nat} (h : k < l.length) : dIdx l (k + 1) = dIdx l k ++ if l[k].kind = 2 then [k] else [] := by
  simp only [dIdx, List.range_succ, List.filter_append]
  congr 1
  rw [List.filter_cons, getD_r h]
  by_cases hk : l[k].kind = 2
  · simp [hk]
  · simp [hk]
theorem dIdx_len {l : List Round} : ∀ k, k ≤ l.length → (dIdx l k).length = rk l k
  | 0, _ => by simp [dIdx, rk]
  | k + 1, h => by
    have ih := dIdx_len (l := l) k (by omega)
    rw [dIdx_succ (show k < l.length by omega), List.length_append, ih, rk_succ (show k < l.length by omega)]
    split <;> rfl
theorem dIdx_get {l : List Round} : ∀ k, k ≤ l.length → ∀ j (hj : j < (dIdx l k).length), ∃ h : (dIdx l k)[j] < l.length, (l[(dIdx l k)[j]]).kind = 2 ∧ rk l (dIdx l k)[j] = j
  | 0, _, j, hj => by simp [dIdx] at hj
  | k + 1, h, j, hj => by
    have hlt : k < l.length := by omega
    have hs := dIdx_succ hlt
    have hlen := dIdx_len (l := l) k (by omega)
    by_cases hjk : j < (dIdx l k).length
    · have e : (dIdx l (k + 1))[j] = (dIdx l k)[j] := by
        simp only [hs]
        rw [List.getElem_append_left hjk]
      rw [e]
      exact dIdx_get k (by omega) j hjk
    · by_cases hk : l[k].kind = 2
      · rw [if_pos hk] at hs
        have hj' : j = (dIdx l k).length := by
          rw [hs] at hj
          simp at hj
          omega
        have e : (dIdx l (k + 1))[j] = k := by
          simp only [hs]
          rw [List.getElem_append_right (by omega)]
          simp
        rw [e]
        exact ⟨hlt, hk, by omega⟩
      · rw [if_neg hk, List.append_nil] at hs
        rw [hs] at hj
        omega
/-- Some of them decided, over what was before. -/
def mix (prev l : List Round) (bs : List Bool) (k : Nat) : List Round := (List.range l.length).map fun i => if (l.getD i rnd0).kind = 2 ∧ rk l i < k then dec (l.getD i rnd0) (bs.getD (rk l i) false) else prev.getD i rnd0
theorem mix_len (prev l : List Round) (bs : List Bool) (k : Nat) : (mix prev l bs k).length = l.length := by simp [mix]
theorem mix_0 {prev l : List Round} (h : prev.length = l.length) (bs : List Bool) : mix prev l bs 0 = prev := by
  refine List.ext_getElem (by rw [mix_len, h]) fun i h1 h2 => ?_
  simp [mix, h2]
theorem mix_step {prev l : List Round} {bs : List Bool} {k i : Nat} (hi : i < l.length) (h2 : l[i].kind = 2) (hr : rk l i = k) : (mix prev l bs k).set i (dec l[i] (bs.getD k false)) = mix prev l bs (k + 1) := by
  refine List.ext_getElem (by simp [mix]) fun j h1 h3 => ?_
  have hj : j < l.length := by rw [mix_len] at h3; exact h3
  rw [List.getElem_set]
  simp only [mix, List.getElem_map, List.getElem_range, getD_r hj]
  by_cases he : i = j
  · subst he
    rw [if_pos rfl, if_pos ⟨h2, by omega⟩, hr]
  · rw [if_neg he]
    by_cases hk : l[j].kind = 2
    · have hne : rk l j ≠ k := fun hh => he (rk_inj hi hj h2 hk (by omega))
      by_cases hlt : rk l j < k
      · rw [if_pos ⟨hk, hlt⟩, if_pos ⟨hk, by omega⟩]
      · rw [if_neg (by omega), if_neg (by omega)]
    · rw [if_neg (by simp [hk]), if_neg (by simp [hk])]
theorem mix_all {prev l : List Round} {bs : List Bool} (hp : ∀ i (h : i < l.length), l[i].kind ≠ 2 → prev.getD i rnd0 = l[i]) : mix prev l bs (dN l) = decideL l bs := by
  refine List.ext_getElem (by rw [mix_len, decideL_length]) fun i h1 h2 => ?_
  have hi : i < l.length := by rw [mix_len] at h1; exact h1
  rw [decideL_get l bs i hi]
  simp only [mix, List.getElem_map, List.getElem_range, getD_r hi]
  by_cases hk : l[i].kind = 2
  · rw [if_pos ⟨hk, rk_lt hi hk⟩, if_pos hk]
  · rw [if_neg (by simp [hk]), if_neg hk, hp i hi hk]
/-- Equal but for the verdict. -/
def Alike (a b : Round) : Prop := ∃ k, a = { b with kind := k }
theorem mix_alike {prev l : List Round} {bs : List Bool} (hp : ∀ i (h : i < l.length), Alike (prev.getD i rnd0) l[i]) (k i : Nat) (h : i < l.length) : Alike ((mix prev l bs k)[i]'(by rw [mix_len]; exact h)) l[i] := by
  simp only [mix, List.getElem_map, List.getElem_range, getD_r h]
  split
  · exact ⟨_, rfl⟩
  · exact hp i h
theorem decideL_alike (l : List Round) (bs : List Bool) (i : Nat) (h : i < l.length) : Alike ((decideL l bs).getD i rnd0) l[i] := by
  rw [getD_r (by rw [decideL_length]; exact h), decideL_get l bs i h]
  split
  · exact ⟨_, rfl⟩
  · exact ⟨l[i].kind, rfl⟩
end Go.Proofs.Ax
namespace Go.Proofs.Ax
open Go Go.Proofs
/-! What a night costs if so many of its doubtful rounds are certified. -/
def trueN (n : Int) : List Round → List Bool → Nat
  | [], _ => 0
  | r :: l, bs => if r.kind = 2 then (if r.night = n ∧ bs.headD false = true then 1 else 0) + trueN n l bs.tail else trueN n l bs
def dNn (n : Int) : List Round → Nat
  | [] => 0
  | r :: l => (if r.night = n ∧ r.kind = 2 then 1 else 0) + dNn n l
def charge0 (p : Policy) (n : Int) : List Round → Int
  | [] => 0
  | r :: l => (if r.night = n ∧ r.kind ≠ 1 ∧ r.kind ≠ 2 then amtOf p r else 0) + charge0 p n l
theorem certN_cons (n : Int) (r : Round) (l : List Round) : certN n (r :: l) = (if r.night = n ∧ r.kind = 1 then 1 else 0) + certN n l := by
  unfold certN
  rw [List.filter_cons]
  by_cases h : r.night = n ∧ r.kind = 1
  · simp only [h, and_self, decide_true, if_true, List.length_cons]; omega
  · simp only [h, decide_false, if_false]; simp
theorem chargeS_cons (p : Policy) (n : Int) (r : Round) (l : List Round) : chargeS p n (r :: l) = (if r.night = n ∧ r.kind ≠ 1 then amtOf p r else 0) + chargeS p n l := by simp [chargeS]
theorem dec_cert (n : Int) : ∀ (l : List Round) (bs : List Bool), certN n (decideL l bs) = certN n l + trueN n l bs
  | [], _ => rfl
  | r :: l, bs => by
    have h1 := dec_cert n l bs
    have h2 := dec_cert n l bs.tail
    unfold decideL trueN
    by_cases hk : r.kind = 2
    · rw [if_pos hk, if_pos hk, certN_cons, certN_cons, h2]
      rw [if_neg (show ¬ (r.night = n ∧ r.kind = 1) by omega)]
      unfold dec
      cases hb : bs.headD false with
      | true => simp; omega
      | false => simp
    · rw [if_neg hk, if_neg hk, certN_cons, certN_cons, h1]; omega
theorem dec_charge (p : Policy) (n : Int) : ∀ (l : List Round) (bs : List Bool), chargeS p n (decideL l bs) = charge0 p n l + p.charge * ((dNn n l : Int) - (trueN n l bs : Int))
  | [], _ => by simp [decideL, chargeS, charge0, dNn, trueN]
  | r :: l, bs => by
    have h1 := dec_charge p n l bs
    have h2 := dec_charge p n l bs.tail
    unfold decideL trueN dNn charge0
    by_cases hk : r.kind = 2
    · rw [if_pos hk, if_pos hk, chargeS_cons, h2, if_neg (show ¬ (r.night = n ∧ r.kind ≠ 1 ∧ r.kind ≠ 2) by omega)]
      unfold dec amtOf
      by_cases hn : r.night = n
      · cases hb : bs.headD false with
        | true =>
          simp only [hn, hk, if_true, and_self, ne_eq, not_true_eq_false, and_false, if_false]
          rw [show ((1 + dNn n l : Nat) : Int) - ((1 + trueN n l bs.tail : Nat) : Int) = (dNn n l : Int) - (trueN n l bs.tail : Int) by omega]
          omega
        | false =>
          simp only [hn, hk, Bool.false_eq_true, if_false, and_self, if_true, and_false]
          rw [show ((1 + dNn n l : Nat) : Int) - ((0 + trueN n l bs.tail : Nat) : Int) = ((dNn n l : Int) - (trueN n l bs.tail : Int)) + 1 by omega, Int.mul_add, Int.mul_one]
          simp
          omega
      · simp only [hn, false_and, if_false, Nat.zero_add, Int.zero_add]
    · rw [if_neg hk, if_neg hk, chargeS_cons, h1]
      by_cases hn : r.night = n ∧ r.kind ≠ 1
      · rw [if_pos hn, if_pos ⟨hn.1, hn.2, hk⟩, if_neg (show ¬ (r.night = n ∧ r.kind = 2) by omega), Nat.zero_add]; omega
      · rw [if_neg hn, if_neg (by omega), if_neg (show ¬ (r.night = n ∧ r.kind = 2) by omega), Nat.zero_add]; omega
/-- What the house gives in a night if k of the doubtful rounds are certified. -/
def gN (ps : List Policy) (l : List Round) (n : Int) (k : Nat) : Int :=
  if (forceOf ps n).2 = true then costOf (forceOf ps n).1 (certN n l + k) (charge0 (forceOf ps n).1 n l + (forceOf ps n).1.charge * ((dNn n l : Int) - (k : Int))) else 0
theorem dec_ok {r : Round} (h : r.ok) (b : Bool) : (dec r b).ok := by
  unfold Round.ok dec at *
  refine ⟨h.1, h.2.1, ?_, h.2.2.2⟩
  cases b <;> simp
theorem decideL_ok {l : List Round} (h : ∀ r ∈ l, r.ok) (bs : List Bool) : ∀ r ∈ decideL l bs, r.ok := by
  intro r hr
  obtain ⟨i, hi, rfl⟩ := List.getElem_of_mem hr
  have hi' : i < l.length := by rw [decideL_length] at hi; exact hi
  rw [decideL_get l bs i hi']
  split
  · exact dec_ok (h _ (List.getElem_mem hi')) _
  · exact h _ (List.getElem_mem hi')
theorem loose_ok {l : List Round} (h : ∀ r ∈ l, r.ok) : ∀ r ∈ l.map loose, r.ok := by
  intro r hr
  obtain ⟨q, hq, rfl⟩ := List.mem_map.1 hr
  exact h q hq
theorem loose_dN : ∀ (l : List Round), dN (l.map loose) = dN l
  | [] => rfl
  | r :: l => by simp only [List.map_cons, dN, loose_dN l]; rfl
theorem nightIn_cost {ps : List Policy} {l : List Round} {n : Int} (hp : ∀ p ∈ ps, p.ok) (hl : ∀ r ∈ l, r.ok) (hn : 0 ≤ n ∧ n ≤ 20000) (bs : List Bool) : -(bal (nightIn ps (decideL l bs) n) (-1)) = gN ps l n (trueN n l bs) := by
  unfold nightIn gN
  by_cases hf : (forceOf ps n).2 = true
  · rw [if_pos hf, if_pos hf, house_cost (hp _ (forceOf_mem hf)) hn (decideL_ok hl bs), dec_cert, dec_charge]
  · rw [if_neg hf, if_neg hf]; simp [bal]
/-- The rounds of a night. -/
def ofN (n : Int) (l : List Round) : List Round := l.filter fun r => decide (r.night = n)
theorem ofN_all {n : Int} {l : List Round} : ∀ r ∈ ofN n l, r.night = n := fun r hr => of_decide_eq_true (List.mem_filter.1 hr).2
theorem ofN_gN (ps : List Policy) (l : List Round) (n : Int) (k : Nat) : gN ps (ofN n l) n k = gN ps l n k := by
  have h : certN n (ofN n l) = certN n l ∧ dNn n (ofN n l) = dNn n l ∧ ∀ p, charge0 p n (ofN n l) = charge0 p n l := by
    induction l with
    | nil => exact ⟨rfl, rfl, fun _ => rfl⟩
    | cons r l ih =>
      obtain ⟨h1, h2, h3⟩ := ih
      unfold ofN at *
      rw [List.filter_cons]
      by_cases hr : r.night = n
      · simp only [hr, decide_true, if_true]
        refine ⟨by rw [certN_cons, certN_cons, h1], by simp only [dNn, h2], fun p => by simp only [charge0, h3]⟩
      · simp only [hr, decide_false, Bool.false_eq_true, if_false]
        refine ⟨by rw [certN_cons, h1, if_neg (by simp [hr])]; omega, by simp only [dNn, hr, false_and, if_false, h2]; omega, fun p => by simp only [charge0, hr, false_and, if_false, h3]; omega⟩
  unfold gN
  rw [h.1, h.2.1, h.2.2]
theorem ofN_dN (n : Int) (l : List Round) : dN (ofN n l) = dNn n l := by
  induction l with
  | nil => rfl
  | cons r l ih =>
    unfold ofN at *
    rw [List.filter_cons]
    by_cases hr : r.night = n
    · simp only [hr, decide_true, if_true, dN, dNn, ih, true_and]
    · simp only [hr, decide_false, Bool.false_eq_true, if_false, dNn, false_and, ih]; omega
/-- Of rounds of one night all that are decided count. -/
theorem trueN_all (n : Int) : ∀ (l : List Round) (bs : List Bool), (∀ r ∈ l, r.night = n) → bs.length = dN l → trueN n l bs = bs.countP (fun b => b)
  | [], bs, _, h => by
    have : bs = [] := List.eq_nil_of_length_eq_zero h
    rw [this]; rfl
  | r :: l, bs, hn, h => by
    have hr := hn r (List.mem_cons_self ..)
    have hl : ∀ r ∈ l, r.night = n := fun q hq => hn q (List.mem_cons_of_mem _ hq)
    unfold trueN
    unfold dN at h
    by_cases hk : r.kind = 2
    · rw [if_pos hk] at h ⊢
      cases bs with
      | nil => simp at h; omega
      | cons b bs =>
        rw [show (b :: bs).tail = bs from rfl, trueN_all n l bs hl (by simp at h; omega), List.countP_cons]
        cases b <;> simp [hr]; omega
    · rw [if_neg hk] at h ⊢
      exact trueN_all n l bs hl (by omega)
def firstK (d k : Nat) : List Bool := (List.range d).map fun j => decide (j < k)
def bitsOf (d b : Nat) : List Bool := (List.range d).map fun j => b.testBit j
theorem firstK_count (d k : Nat) (h : k ≤ d) : (firstK d k).countP (fun b => b) = k := by
  induction d with
  | zero => rw [show k = 0 by omega]; rfl
  | succ d ih =>
    simp only [firstK, List.range_succ, List.map_append, List.countP_append] at ih ⊢
    by_cases hk : k ≤ d
    · have := ih hk
      simp only [List.map_cons, List.map_nil]
      rw [this]
      simp; omega
    · have e : k = d + 1 := by omega
      subst e
      have h1 : ((List.range d).map fun j => decide (j < d + 1)).countP (fun b => b) = d := by
        rw [List.countP_map]
        have : (List.range d).countP ((fun b => b) ∘ fun j => decide (j < d + 1)) = (List.range d).length := List.countP_eq_length.2 (fun j hj => by have := List.mem_range.1 hj; simp; omega)
        rw [this, List.length_range]
      rw [h1]
      simp
theorem bits_count_le (d b : Nat) : (bitsOf d b).countP (fun b => b) ≤ d := by
  have := List.countP_le_length (p := fun b : Bool => b) (l := bitsOf d b)
  simpa [bitsOf] using this
theorem bits_first (d k : Nat) : bitsOf d (2 ^ k - 1) = firstK d k := by
  unfold bitsOf firstK
  exact List.map_congr_left fun j _ => by rw [Nat.testBit_two_pow_sub_one]
/-- The least and the greatest of the first values. -/
def minTo (g : Nat → Int) : Nat → Int
  | 0 => g 0
  | k + 1 => min (minTo g k) (g (k + 1))
def maxTo (g : Nat → Int) : Nat → Int
  | 0 => g 0
  | k + 1 => max (maxTo g k) (g (k + 1))
theorem minTo_le (g : Nat → Int) : ∀ d k, k ≤ d → minTo g d ≤ g k
  | 0, k, h => by rw [show k = 0 by omega]; exact Int.le_refl _
  | d + 1, k, h => by
    unfold minTo
    by_cases he : k = d + 1
    · subst he; omega
    · have := minTo_le g d k (by omega); omega
theorem maxTo_ge (g : Nat → Int) : ∀ d k, k ≤ d → g k ≤ maxTo g d
  | 0, k, h => by rw [show k = 0 by omega]; exact Int.le_refl _
  | d + 1, k, h => by
    unfold maxTo
    by_cases he : k = d + 1
    · subst he; omega
    · have := maxTo_ge g d k (by omega); omega
theorem minTo_at (g : Nat → Int) : ∀ d, ∃ k, k ≤ d ∧ minTo g d = g k
  | 0 => ⟨0, Nat.le_refl _, rfl⟩
  | d + 1 => by
    obtain ⟨k, h1, h2⟩ := minTo_at g d
    unfold minTo
    by_cases h : minTo g d ≤ g (d + 1)
    · exact ⟨k, by omega, by omega⟩
    · exact ⟨d + 1, Nat.le_refl _, by omega⟩
theorem maxTo_at (g : Nat → Int) : ∀ d, ∃ k, k ≤ d ∧ maxTo g d = g k
  | 0 => ⟨0, Nat.le_refl _, rfl⟩
  | d + 1 => by
    obtain ⟨k, h1, h2⟩ := maxTo_at g d
    unfold maxTo
    by_cases h : g (d + 1) ≤ maxTo g d
    · exact ⟨k, by omega, by omega⟩
    · exact ⟨d + 1, Nat.le_refl _, by omega⟩
theorem certSt_bd {p : Policy} (hp : p.ok) : ∀ j, (0 ≤ (certSt p j).1 ∧ (certSt p j).1 ≤ p.cap) ∧ (0 ≤ (certSt p j).2 ∧ (certSt p j).2 ≤ (certSt p j).1)
  | 0 => by
    unfold Policy.ok at hp
    simp only [certSt]; omega
  | j + 1 => by
    have ih := certSt_bd hp j
    have hc := certAmt_bd hp ih.1
    obtain ⟨b1, b2, b3, b4⟩ := bonus_amt hp ⟨hc.1, hc.2.1⟩
    have : certAmt p (certSt p j).1 * p.bonus / 1000 ≤ certAmt p (certSt p j).1 := by
      unfold Policy.ok at hp
      have h2 : certAmt p (certSt p j).1 * p.bonus ≤ certAmt p (certSt p j).1 * 1000 := Int.mul_le_mul_of_nonneg_left hp.2.2.2.2.2.2.2 hc.1
      omega
    simp only [certSt]
    omega
theorem gN_bd {ps : List Policy} (hp : ∀ p ∈ ps, p.ok) (l : List Round) (n : Int) {k : Nat} (hk : k ≤ dNn n l) : -1000000 ≤ gN ps l n k ∧ gN ps l n k ≤ 3000000 := by
  unfold gN
  by_cases hf : (forceOf ps n).2 = true
  · rw [if_pos hf]
    have hpo := hp _ (forceOf_mem hf)
    have hc := certSt_bd hpo (certN n l + k)
    unfold Policy.ok at hpo
    have h0 : ∀ m : List Round, 0 ≤ charge0 (forceOf ps n).1 n m := fun m => by
      induction m with
      | nil => exact Int.le_refl _
      | cons r m ih =>
        unfold charge0
        have : 0 ≤ amtOf (forceOf ps n).1 r := by unfold amtOf; split <;> omega
        split <;> omega
    have h0 := h0 l
    have h1 : 0 ≤ (forceOf ps n).1.charge * ((dNn n l : Int) - (k : Int)) := Int.mul_nonneg hpo.2.2.2.1.1 (by omega)
    unfold costOf
    omega
  · rw [if_neg hf]; omega
end Go.Proofs.Ax
namespace Go.Proofs.Ax
open Go Go.Proofs
/-! Decided rounds are in order as they were; sums over nights. -/
def before (q r : Round) : Prop := q.night < r.night ∨ (q.night = r.night ∧ q.no < r.no)
def ordR : Option Round → List Round → Prop
  | _, [] => True
  | none, r :: l => ordR (some r) l
  | some q, r :: l => before q r ∧ ordR (some r) l
theorem scanR_iff : ∀ (l : List Round) (k : Nat) (q : Option Round), (scan badRound k q l).1 = 0 ↔ (∀ r ∈ l, r.ok) ∧ ordR q l
  | [], k, q => by simp [scan, ordR]
  | r :: l, k, q => by
    have ih := scanR_iff l (k + 1) (some r)
    unfold scan
    by_cases hr : r.ok
    · cases q with
      | none =>
        rw [show badRound none r = none by unfold badRound; rw [if_pos hr]]
        simp only [ordR]
        rw [ih]
        simp [hr]
      | some q =>
        simp only [ordR]
        by_cases hb : notBehind q r
        · rw [show badRound (some q) r = some 6 by unfold badRound; rw [if_pos hr]; exact if_pos hb]
          unfold notBehind at hb
          unfold before
          constructor
          · intro h; cases h
          · intro h; omega
        · have hbe : before q r := by unfold notBehind at hb; unfold before; omega
          rw [show badRound (some q) r = none by unfold badRound; rw [if_pos hr]; exact if_neg hb]
          simp only
          rw [ih]
          simp [hr, hbe]
    · rw [show badRound q r = some 1 by unfold badRound; rw [if_neg hr]]
      constructor
      · intro h; cases h
      · intro h; exact absurd (h.1 r (List.mem_cons_self ..)) hr
theorem checkRounds_iff (l : List Round) : (checkRounds l).1 = 0 ↔ l.length ≤ 200 ∧ (∀ r ∈ l, r.ok) ∧ ordR none l := by
  unfold checkRounds
  by_cases h : 200 < l.length
  · rw [if_pos h]
    constructor
    · intro h; cases h
    · intro h; omega
  · rw [if_neg h, scanR_iff]
    constructor
    · intro g; exact ⟨by omega, g⟩
    · intro g; exact g.2
theorem checkRounds_eq {l : List Round} (h : (checkRounds l).1 = 0) : checkRounds l = (0, -1) := by
  obtain ⟨h1, h2, h3⟩ := (checkRounds_iff l).1 h
  unfold checkRounds
  rw [if_neg (by omega)]
  have key : ∀ (l : List Round) (k : Nat) (q : Option Round), (scan badRound k q l).1 = 0 → scan badRound k q l = (0, -1) := by
    intro l
    induction l with
    | nil => intros; rfl
    | cons r l ih =>
      intro k q h
      unfold scan at h ⊢
      cases hq : badRound q r with
      | some e =>
        rw [hq] at h
        unfold badRound at hq
        simp only at h
        subst h
        split at hq
        · split at hq
          · split at hq <;> simp at hq
          · simp at hq
        · simp at hq
      | none => rw [hq] at h; exact ih _ _ h
  exact key _ _ _ ((scanR_iff _ _ _).2 ⟨h2, h3⟩)
def SameNo (a b : Round) : Prop := a.night = b.night ∧ a.no = b.no
def sumTo (f : Int → Int) (lo : Int) (m : Nat) : Int := ((List.range m).map fun (j : Nat) => f (lo + (j : Int))).sum
theorem sumTo_succ (f : Int → Int) (lo : Int) (m : Nat) : sumTo f lo (m + 1) = sumTo f lo m + f (lo + (m : Int)) := by simp [sumTo, List.range_succ]
theorem sumTo_bd {f : Int → Int} {lo a b : Int} : ∀ m : Nat, (∀ j : Nat, j < m → a ≤ f (lo + (j : Int)) ∧ f (lo + (j : Int)) ≤ b) → a * (m : Int) ≤ sumTo f lo m ∧ sumTo f lo m ≤ b * (m : Int)
  | 0, _ => by simp [sumTo]
  | m + 1, h => by
    have ih := sumTo_bd m (fun j hj => h j (by omega))
    have := h m (by omega)
    rw [sumTo_succ, show ((m + 1 : Nat) : Int) = (m : Int) + 1 by omega, Int.mul_add, Int.mul_add]
    omega
def outLo (ps : List Policy) (l : List Round) (n : Int) : Int := minTo (gN ps l n) (dNn n l)
def outHi (ps : List Policy) (l : List Round) (n : Int) : Int := maxTo (gN ps l n) (dNn n l)
theorem out_bd {ps : List Policy} (hp : ∀ p ∈ ps, p.ok) (l : List Round) (n : Int) : (-1000000 ≤ outLo ps l n ∧ outLo ps l n ≤ 3000000) ∧ (-1000000 ≤ outHi ps l n ∧ outHi ps l n ≤ 3000000) := by
  obtain ⟨k, h1, h2⟩ := minTo_at (gN ps l n) (dNn n l)
  obtain ⟨j, h3, h4⟩ := maxTo_at (gN ps l n) (dNn n l)
  unfold outLo outHi
  rw [h2, h4]
  exact ⟨gN_bd hp l n h1, gN_bd hp l n h3⟩
end Go.Proofs.Ax
