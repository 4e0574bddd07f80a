import Derived.Test.YtdfgphfijfocoaaGreatDoorRbPE
import Derived.Test.YtdfgphfijfocoaaGreatDoorDivA
namespace Go.Proofs.Ax
open Go Go.Proofs
def bonusTo (r : Round) (ps : List Int) (k : Nat) : List Posting := ((List.range k).filter fun i => decide (0 < ps.getD i 0)).map fun i => ⟨r.night, r.no, -1, r.crew.getD i 0, ps.getD i 0⟩
def onesOf (r : Round) : List Int := List.replicate r.crew.length 1
def bonusL (r : Round) (a : Int) : List Posting := bonusTo r (divided a (onesOf r)) r.crew.length
/-- What is given for a round that is not certified, and for one that is. -/
def doubtAmt (p : Policy) (r : Round) (ch : Int) : Int := min (if r.kind = 3 then p.charge else p.doubt) (p.cap - ch)
def certAmt (p : Policy) (cr : Int) : Int := min p.credit (p.cap - cr)
/-- The postings of a round, and what has been given behind it. -/
def roundL (p : Policy) (r : Round) (cr ch : Int) : List Posting :=
  if r.kind = 1 then (if certAmt p cr = 0 then [] else ⟨r.night, r.no, -2, -1, certAmt p cr⟩ :: bonusL r (certAmt p cr * p.bonus / 1000))
  else (if doubtAmt p r ch = 0 then [] else [⟨r.night, r.no, -1, -2, doubtAmt p r ch⟩])
def crOf (p : Policy) (r : Round) (cr : Int) : Int := if r.kind = 1 then cr + certAmt p cr else cr
def chOf (p : Policy) (r : Round) (ch : Int) : Int := if r.kind = 1 then ch else ch + doubtAmt p r ch
structure NSt where
  out : List Posting
  cr : Int
  ch : Int
def stepN (p : Policy) (n : Int) (s : NSt) (r : Round) : NSt := if r.night = n then ⟨s.out ++ roundL p r s.cr s.ch, crOf p r s.cr, chOf p r s.ch⟩ else s
def baseL (p : Policy) (n : Int) : List Posting := if 0 < p.base then [⟨n, 0, -1, -2, p.base⟩] else []
def nightSt (p : Policy) (n : Int) (l : List Round) : NSt := l.foldl (stepN p n) ⟨baseL p n, 0, 0⟩
def nightOf (p : Policy) (n : Int) (l : List Round) : List Posting := (nightSt p n l).out
theorem nightSt_succ {p : Policy} {n : Int} {l : List Round} {k : Nat} (h : k < l.length) : nightSt p n (l.take (k + 1)) = stepN p n (nightSt p n (l.take k)) l[k] := by
  rw [take_succ_snoc h, nightSt, List.foldl_append]; rfl
/-- What postings for rounds give from one account to another. -/
def given (l : List Posting) (a b : Int) : Int := (l.map fun x => if 0 < x.no ∧ x.src = a ∧ x.dst = b then x.amount else 0).sum
theorem given_append (l m : List Posting) (a b : Int) : given (l ++ m) a b = given l a b + given m a b := by simp [given]
theorem crew_bd : ∀ {l : List Int} {b : Int} (_ : goodCrew b l), ∀ x ∈ l, b < x ∧ x ≤ 1099511627776
  | [], _, _, x, h => by cases h
  | y :: l, b, h, x, hx => by
    obtain ⟨h1, h2, h3⟩ := h
    rcases List.mem_cons.1 hx with rfl | hx
    · exact ⟨h1, h2⟩
    · have := crew_bd h3 x hx; omega
theorem onesOk {r : Round} (hr : r.ok) {a : Int} (h0 : 0 ≤ a) (h1 : a ≤ 1000000) : DivOk a (onesOf r) := by
  unfold Round.ok at hr
  refine ⟨h0, by omega, fun x hx => ?_, fun x hx => ?_, by simp [onesOf]; omega, ?_⟩
  · rw [(List.mem_replicate.1 hx).2]; decide
  · rw [(List.mem_replicate.1 hx).2]; decide
  · simp [onesOf]; omega
theorem bonus_parts {r : Round} (hr : r.ok) {a : Int} (h0 : 0 ≤ a) (h1 : a ≤ 1000000) : (divided a (onesOf r)).length = r.crew.length ∧ ∀ x ∈ divided a (onesOf r), 0 ≤ x ∧ x ≤ 1000001 := by
  have hd := onesOk hr h0 h1
  obtain ⟨o, po, so⟩ := ord_ex (key a (onesOf r).sum (onesOf r)) (onesOf r).length
  have hf := fair_ok hd po so
  refine ⟨by rw [hf.len]; simp [onesOf], fun x hx => ?_⟩
  obtain ⟨i, hi, rfl⟩ := List.getElem_of_mem hx
  have hiw : i < (onesOf r).length := by rw [← hf.len]; exact hi
  have := hf.lo i hi
  have := hf.hi i hi
  have := share_nonneg hd hiw
  have := share_le_A hd hiw
  omega
theorem bonusTo_mem {r : Round} {ps : List Int} {k : Nat} (hr : r.ok) (hk : k ≤ r.crew.length) (hps : ∀ x ∈ ps, 0 ≤ x ∧ x ≤ 1000001) : ∀ x ∈ bonusTo r ps k, x.ok ∧ x.night = r.night ∧ x.no = r.no ∧ x.src = -1 ∧ 1 ≤ x.dst := by
  intro x hx
  obtain ⟨i, hi, rfl⟩ := List.mem_map.1 hx
  obtain ⟨h1, h2⟩ := List.mem_filter.1 hi
  have hik := List.mem_range.1 h1
  have h2 := of_decide_eq_true h2
  unfold Round.ok at hr
  have hc := crew_bd hr.2.2.2.2 (r.crew.getD i 0) (by rw [List.getD_eq_getElem?_getD, List.getElem?_eq_getElem (by omega)]; exact List.getElem_mem _)
  have hp : ps.getD i 0 ≤ 1000001 := by
    rw [List.getD_eq_getElem?_getD]
    by_cases hl : i < ps.length
    · rw [List.getElem?_eq_getElem hl]; exact (hps _ (List.getElem_mem _)).2
    · rw [List.getElem?_eq_none (by omega)]; decide
  refine ⟨?_, rfl, rfl, rfl, by show 1 ≤ r.crew.getD i 0; omega⟩
  unfold Posting.ok isAcc
  refine ⟨hr.1, ⟨by show 0 ≤ r.no; omega, by show r.no ≤ 12; omega⟩, .inl rfl, .inr (.inr ⟨by show 1 ≤ r.crew.getD i 0; omega, hc.2⟩), by show (-1 : Int) ≠ r.crew.getD i 0; omega, by show 1 ≤ ps.getD i 0; omega, by show ps.getD i 0 ≤ _; omega⟩
theorem bonusTo_succ (r : Round) (ps : List Int) (k : Nat) : bonusTo r ps (k + 1) = bonusTo r ps k ++ if 0 < ps.getD k 0 then [⟨r.night, r.no, -1, r.crew.getD k 0, ps.getD k 0⟩] else [] := by
  simp only [bonusTo, List.range_succ, List.filter_append, List.map_append]
  congr 1
  by_cases h : 0 < ps.getD k 0
  · rw [if_pos h, List.filter_cons, decide_eq_true h]; rfl
  · rw [if_neg h, List.filter_cons, decide_eq_false h]; rfl
theorem bonusTo_len (r : Round) (ps : List Int) (k : Nat) : (bonusTo r ps k).length ≤ k := by
  simp only [bonusTo, List.length_map]
  have := List.length_filter_le (fun i => decide (0 < ps.getD i 0)) (List.range k)
  simpa using this
theorem given_0 {l : List Posting} {a b : Int} (h : ∀ x ∈ l, ¬ (0 < x.no ∧ x.src = a ∧ x.dst = b)) : given l a b = 0 := by
  induction l with
  | nil => rfl
  | cons y l ih =>
    have := ih (fun x hx => h x (List.mem_cons_of_mem _ hx))
    simp only [given, List.map_cons, List.sum_cons] at this ⊢
    rw [if_neg (h y (List.mem_cons_self ..))]
    omega
/-- What is known on the way. -/
structure NOk (p : Policy) (n : Int) (s : NSt) (k : Nat) : Prop where
  cr : 0 ≤ s.cr ∧ s.cr ≤ p.cap
  ch : 0 ≤ s.ch ∧ s.ch ≤ p.cap
  out : ∀ x ∈ s.out, x.ok ∧ x.night = n ∧ x.src ≤ -1
  len : s.out.length ≤ 1 + 5 * k
  gcr : given s.out (-2) (-1) = s.cr
  gch : given s.out (-1) (-2) = s.ch
  ins : bal s.out (-2) = p.base + s.ch - s.cr
theorem bal_0 {l : List Posting} {a : Int} (h : ∀ x ∈ l, x.src ≠ a ∧ x.dst ≠ a) : bal l a = 0 := by
  induction l with
  | nil => rfl
  | cons y l ih =>
    have := ih (fun x hx => h x (List.mem_cons_of_mem _ hx))
    have hy := h y (List.mem_cons_self ..)
    have e : bal (y :: l) a = change y a + bal l a := by simp [bal]
    rw [e, this, change, if_neg (fun e => hy.2 e.symm), if_neg (fun e => hy.1 e.symm)]
    rfl
theorem bal_cons (y : Posting) (l : List Posting) (a : Int) : bal (y :: l) a = change y a + bal l a := by simp [bal]
theorem given_cons (y : Posting) (l : List Posting) (a b : Int) : given (y :: l) a b = (if 0 < y.no ∧ y.src = a ∧ y.dst = b then y.amount else 0) + given l a b := by simp [given]
theorem nok_0 {p : Policy} (hp : p.ok) {n : Int} (hn : 0 ≤ n ∧ n ≤ 20000) : NOk p n ⟨baseL p n, 0, 0⟩ 0 := by
  unfold Policy.ok at hp
  unfold baseL
  by_cases hb : 0 < p.base
  · simp only [if_pos hb]
    refine ⟨by simp; omega, by simp; omega, fun x hx => ?_, by simp, by simp [given], by simp [given], by simp [bal, change]⟩
    rw [List.mem_singleton.1 hx]
    refine ⟨?_, rfl, by show (-1 : Int) ≤ -1; omega⟩
    unfold Posting.ok isAcc
    exact ⟨hn, by show (0 : Int) ≤ 0 ∧ (0 : Int) ≤ 12; omega, .inl rfl, .inr (.inl rfl), by show (-1 : Int) ≠ -2; omega, by show 1 ≤ p.base ∧ p.base ≤ _; omega⟩
  · simp only [if_neg hb]
    refine ⟨by simp; omega, by simp; omega, fun x hx => (by cases hx), by simp, by simp [given], by simp [given], by simp [bal]; omega⟩
theorem certAmt_bd {p : Policy} (hp : p.ok) {cr : Int} (h : 0 ≤ cr ∧ cr ≤ p.cap) : 0 ≤ certAmt p cr ∧ certAmt p cr ≤ 1000000 ∧ cr + certAmt p cr ≤ p.cap := by
  unfold Policy.ok at hp
  unfold certAmt
  omega
theorem doubtAmt_bd {p : Policy} (hp : p.ok) (r : Round) {ch : Int} (h : 0 ≤ ch ∧ ch ≤ p.cap) : 0 ≤ doubtAmt p r ch ∧ doubtAmt p r ch ≤ 1000000 ∧ ch + doubtAmt p r ch ≤ p.cap := by
  unfold Policy.ok at hp
  unfold doubtAmt
  split <;> omega
theorem bonus_amt {p : Policy} (hp : p.ok) {c : Int} (h : 0 ≤ c ∧ c ≤ 1000000) : 0 ≤ c * p.bonus / 1000 ∧ c * p.bonus / 1000 ≤ 1000000 ∧ 0 ≤ c * p.bonus ∧ c * p.bonus ≤ 1000000000 := by
  unfold Policy.ok at hp
  have h1 : 0 ≤ c * p.bonus := Int.mul_nonneg h.1 hp.2.2.2.2.2.2.1
  have h2 : c * p.bonus ≤ 1000000 * 1000 := Int.mul_le_mul h.2 hp.2.2.2.2.2.2.2 hp.2.2.2.2.2.2.1 (by decide)
  omega
/-- The postings of a round. -/
theorem roundL_ok {p : Policy} (hp : p.ok) {r : Round} (hr : r.ok) {cr ch : Int} (h1 : 0 ≤ cr ∧ cr ≤ p.cap) (h2 : 0 ≤ ch ∧ ch ≤ p.cap) :
    (∀ x ∈ roundL p r cr ch, x.ok ∧ x.night = r.night ∧ x.no = r.no ∧ x.src ≤ -1) ∧ (roundL p r cr ch).length ≤ 5 ∧ given (roundL p r cr ch) (-2) (-1) = crOf p r cr - cr ∧ given (roundL p r cr ch) (-1) (-2) = chOf p r ch - ch ∧ bal (roundL p r cr ch) (-2) = chOf p r ch - ch - (crOf p r cr - cr) := by
  have hr' := hr
  unfold Round.ok at hr
  by_cases hk : r.kind = 1
  · obtain ⟨c1, c2, c3⟩ := certAmt_bd hp h1
    obtain ⟨b1, b2, -⟩ := bonus_amt hp ⟨c1, c2⟩
    obtain ⟨l1, l2⟩ := bonus_parts hr' b1 b2
    have hb := bonusTo_mem hr' (Nat.le_refl _) l2
    have hl := bonusTo_len r (divided (certAmt p cr * p.bonus / 1000) (onesOf r)) r.crew.length
    simp only [roundL, crOf, chOf, if_pos hk]
    by_cases h0 : certAmt p cr = 0
    · simp [h0, given, bal]
    · simp only [if_neg h0]
      refine ⟨fun x hx => ?_, by simp only [List.length_cons, bonusL]; omega, ?_, ?_, ?_⟩
      · rcases List.mem_cons.1 hx with rfl | hx
        · refine ⟨?_, rfl, rfl, by show (-2 : Int) ≤ -1; omega⟩
          unfold Posting.ok isAcc
          exact ⟨hr.1, by show 0 ≤ r.no ∧ r.no ≤ 12; omega, .inr (.inl rfl), .inl rfl, by show (-2 : Int) ≠ -1; omega, by show 1 ≤ certAmt p cr ∧ certAmt p cr ≤ _; omega⟩
        · obtain ⟨g1, g2, g3, g4, g5⟩ := hb x hx
          exact ⟨g1, g2, g3, by omega⟩
      · rw [given_cons, given_0 (fun x hx => by have := hb x hx; omega)]
        simp only
        rw [if_pos ⟨by omega, trivial, trivial⟩]
        omega
      · rw [given_cons, given_0 (fun x hx => by have := hb x hx; omega)]
        simp
      · rw [bal_cons, bal_0 (fun x hx => by have := hb x hx; omega)]
        simp [change]
        omega
  · obtain ⟨c1, c2, c3⟩ := doubtAmt_bd hp r h2
    simp only [roundL, crOf, chOf, if_neg hk]
    by_cases h0 : doubtAmt p r ch = 0
    · simp [h0, given, bal]
    · simp only [if_neg h0]
      refine ⟨fun x hx => ?_, by simp, ?_, ?_, ?_⟩
      · rw [List.mem_singleton.1 hx]
        refine ⟨?_, rfl, rfl, by show (-1 : Int) ≤ -1; omega⟩
        unfold Posting.ok isAcc
        exact ⟨hr.1, by show 0 ≤ r.no ∧ r.no ≤ 12; omega, .inl rfl, .inr (.inl rfl), by show (-1 : Int) ≠ -2; omega, by show 1 ≤ doubtAmt p r ch ∧ doubtAmt p r ch ≤ _; omega⟩
      · simp [given]
      · simp only [given, List.map_cons, List.map_nil, List.sum_cons, List.sum_nil]
        rw [if_pos ⟨by omega, trivial, trivial⟩]
        omega
      · simp [bal, change]
        omega
theorem nok_step {p : Policy} (hp : p.ok) {n : Int} {s : NSt} {k : Nat} (h : NOk p n s k) {r : Round} (hr : r.ok) : NOk p n (stepN p n s r) (k + 1) := by
  unfold stepN
  by_cases hn : r.night = n
  · rw [if_pos hn]
    obtain ⟨g1, g2, g3, g4, g5⟩ := roundL_ok hp hr h.cr h.ch
    have c1 := certAmt_bd hp h.cr
    have c2 := doubtAmt_bd hp r h.ch
    have h1 := h.cr
    have h2 := h.ch
    refine ⟨?_, ?_, fun x hx => ?_, ?_, ?_, ?_, ?_⟩
    · unfold crOf; simp only; split <;> omega
    · unfold chOf; simp only; split <;> omega
    · rcases List.mem_append.1 hx with hx | hx
      · exact h.out x hx
      · obtain ⟨e1, e2, e3, e4⟩ := g1 x hx
        exact ⟨e1, by omega, e4⟩
    · have := h.len
      simp only [List.length_append]
      omega
    · rw [given_append, h.gcr, g3]; simp only; omega
    · rw [given_append, h.gch, g4]; simp only; omega
    · rw [bal_append, h.ins, g5]; simp only; omega
  · rw [if_neg hn]
    exact ⟨h.cr, h.ch, h.out, by have := h.len; omega, h.gcr, h.gch, h.ins⟩
theorem nok_st {p : Policy} (hp : p.ok) {n : Int} (hn : 0 ≤ n ∧ n ≤ 20000) {l : List Round} (hl : ∀ r ∈ l, r.ok) : ∀ k, k ≤ l.length → NOk p n (nightSt p n (l.take k)) k
  | 0, _ => by simpa [nightSt] using nok_0 hp hn
  | k + 1, hk => by
    rw [nightSt_succ (show k < l.length by omega)]
    exact nok_step hp (nok_st hp hn hl k (by omega)) (hl _ (List.getElem_mem _))
end Go.Proofs.Ax
namespace Go.Proofs.Ax
open Go Go.Proofs
/-- The postings of one night, by the policy in force. -/
def nightIn (ps : List Policy) (l : List Round) (n : Int) : List Posting := if (forceOf ps n).2 = true then nightOf (forceOf ps n).1 n l else []
def seasonTo (ps : List Policy) (l : List Round) (lo : Int) (m : Nat) : List Posting := (List.range m).flatMap fun (j : Nat) => nightIn ps l (lo + (j : Int))
def seasonOf (ps : List Policy) (l : List Round) (s : Span) : List Posting := seasonTo ps l s.lo (s.hi - s.lo + 1).toNat
theorem seasonTo_succ (ps : List Policy) (l : List Round) (lo : Int) (m : Nat) : seasonTo ps l lo (m + 1) = seasonTo ps l lo m ++ nightIn ps l (lo + (m : Int)) := by
  simp [seasonTo, List.range_succ]
def askedErr (ps : List Policy) (l : List Round) (s : Span) : Int := if (checkPol ps).1 ≠ 0 then (checkPol ps).1 else if (checkRounds l).1 ≠ 0 then (checkRounds l).1 else spanErr s
theorem scan_all {α : Type} {bad : Option α → α → Option Int} (hb : ∀ q x, bad q x ≠ some 0) {P : α → Prop} (hP : ∀ q x, bad q x = none → P x) : ∀ (l : List α) (k : Nat) (q : Option α), (scan bad k q l).1 = 0 → ∀ x ∈ l, P x
  | [], k, q, _, x, hx => by cases hx
  | y :: l, k, q, h, x, hx => by
    unfold scan at h
    cases hq : bad q y with
    | some e =>
      rw [hq] at h
      exact absurd (by rw [hq]; exact congrArg some h) (hb q y)
    | none =>
      rw [hq] at h
      rcases List.mem_cons.1 hx with rfl | hx
      · exact hP q x hq
      · exact scan_all hb hP l _ _ h x hx
theorem checkPol_0 {l : List Policy} (h : (checkPol l).1 = 0) : l.length ≤ 20 ∧ ∀ p ∈ l, p.ok := by
  unfold checkPol at h
  split at h
  · cases h
  · refine ⟨by omega, scan_all (fun q x => ?_) (fun q x hx => ?_) l _ _ h⟩
    · unfold badPol
      split
      · split
        · split <;> simp
        · simp
      · simp
    · unfold badPol at hx
      split at hx
      · assumption
      · cases hx
theorem checkRounds_0 {l : List Round} (h : (checkRounds l).1 = 0) : l.length ≤ 200 ∧ ∀ r ∈ l, r.ok := by
  unfold checkRounds at h
  split at h
  · cases h
  · refine ⟨by omega, scan_all (fun q x => ?_) (fun q x hx => ?_) l _ _ h⟩
    · unfold badRound
      split
      · split
        · split <;> simp
        · simp
      · simp
    · unfold badRound at hx
      split at hx
      · assumption
      · cases hx
theorem forceFrom_mem (night : Int) : ∀ (l : List Policy) (acc : Policy × Bool), (forceFrom night acc l).2 = true → (forceFrom night acc l = acc) ∨ (forceFrom night acc l).1 ∈ l
  | [], acc, _ => .inl rfl
  | p :: l, acc, h => by
    unfold forceFrom at h ⊢
    rcases forceFrom_mem night l _ h with g | g
    · rw [g]
      split
      · exact .inr (List.mem_cons_self ..)
      · exact .inl rfl
    · exact .inr (List.mem_cons_of_mem _ g)
theorem forceOf_mem {l : List Policy} {night : Int} (h : (forceOf l night).2 = true) : (forceOf l night).1 ∈ l := by
  rcases forceFrom_mem night l _ h with g | g
  · unfold forceOf at h
    rw [g] at h
    cases h
  · exact g
theorem askedErr_0 {ps : List Policy} {l : List Round} {s : Span} (h : askedErr ps l s = 0) : (checkPol ps).1 = 0 ∧ (checkRounds l).1 = 0 ∧ spanErr s = 0 := by
  unfold askedErr at h
  by_cases h1 : (checkPol ps).1 = 0
  · rw [if_neg (by simpa using h1)] at h
    by_cases h2 : (checkRounds l).1 = 0
    · rw [if_neg (by simpa using h2)] at h
      exact ⟨h1, h2, h⟩
    · rw [if_pos h2] at h; exact absurd h h2
  · rw [if_pos h1] at h; exact absurd h h1
theorem night_nok {p : Policy} (hp : p.ok) {n : Int} (hn : 0 ≤ n ∧ n ≤ 20000) {l : List Round} (hl : ∀ r ∈ l, r.ok) : NOk p n (nightSt p n l) l.length := by
  have := nok_st hp hn hl l.length (Nat.le_refl _)
  rwa [List.take_length] at this
theorem nightIn_ok {ps : List Policy} {l : List Round} {n : Int} (hp : ∀ p ∈ ps, p.ok) (hl : ∀ r ∈ l, r.ok) (hn : 0 ≤ n ∧ n ≤ 20000) : (nightIn ps l n).length ≤ 1 + 5 * l.length ∧ ∀ x ∈ nightIn ps l n, x.ok ∧ x.night = n ∧ x.src ≤ -1 := by
  unfold nightIn
  split
  · rename_i hf
    have := night_nok (hp _ (forceOf_mem hf)) hn hl
    exact ⟨this.len, this.out⟩
  · exact ⟨by simp, fun x hx => by cases hx⟩
theorem seasonTo_len {ps : List Policy} {l : List Round} {lo : Int} (hp : ∀ p ∈ ps, p.ok) (hl : ∀ r ∈ l, r.ok) (hlo : 0 ≤ lo) : ∀ m : Nat, lo + (m : Int) ≤ 20001 → (seasonTo ps l lo m).length ≤ m * (1 + 5 * l.length)
  | 0, _ => by simp [seasonTo]
  | m + 1, h => by
    have := seasonTo_len hp hl hlo m (by omega)
    have := (nightIn_ok (n := lo + (m : Int)) hp hl (by omega)).1
    rw [seasonTo_succ, List.length_append, Nat.succ_mul]
    omega
theorem seasonTo_mem {ps : List Policy} {l : List Round} {lo : Int} (hp : ∀ p ∈ ps, p.ok) (hl : ∀ r ∈ l, r.ok) (hlo : 0 ≤ lo) {m : Nat} (hm : lo + (m : Int) ≤ 20001) : ∀ x ∈ seasonTo ps l lo m, x.ok ∧ (lo ≤ x.night ∧ x.night < lo + m) ∧ x.src ≤ -1 := by
  intro x hx
  obtain ⟨j, hj, hx⟩ := List.mem_flatMap.1 hx
  have hj := List.mem_range.1 hj
  have := (nightIn_ok (n := lo + (j : Int)) hp hl (by omega)).2 x hx
  exact ⟨this.1, by omega, this.2.2⟩
end Go.Proofs.Ax
namespace Go.Proofs.Ax
open Go Go.Proofs
/-! What the house gives in a night hangs on how many rounds are certified, and on the sum of what is charged for the others. -/
def amtOf (p : Policy) (r : Round) : Int := if r.kind = 3 then p.charge else p.doubt
def certSt (p : Policy) : Nat → Int × Int
  | 0 => (0, 0)
  | j + 1 => ((certSt p j).1 + certAmt p (certSt p j).1, (certSt p j).2 + certAmt p (certSt p j).1 * p.bonus / 1000)
def certN (n : Int) (l : List Round) : Nat := (l.filter fun r => decide (r.night = n ∧ r.kind = 1)).length
def chargeS (p : Policy) (n : Int) (l : List Round) : Int := (l.map fun r => if r.night = n ∧ r.kind ≠ 1 then amtOf p r else 0).sum
def costOf (p : Policy) (c : Nat) (s : Int) : Int := p.base + min s p.cap - (certSt p c).1 + (certSt p c).2
end Go.Proofs.Ax
namespace Go.Proofs.Ax
open Go Go.Proofs
/-- How many rounds are of a night, and of the nights from one to another. -/
def cntN (n : Int) (l : List Round) : Nat := l.countP fun r => decide (r.night = n)
def cntTo (lo hi : Int) (l : List Round) : Nat := l.countP fun r => decide (lo ≤ r.night ∧ r.night < hi)
theorem cntTo_succ (lo hi : Int) (h : lo ≤ hi) (l : List Round) : cntTo lo (hi + 1) l = cntTo lo hi l + cntN hi l := by
  induction l with
  | nil => rfl
  | cons r l ih =>
    simp only [cntTo, cntN, List.countP_cons, decide_eq_true_eq] at ih ⊢
    rw [ih]
    by_cases h1 : r.night = hi
    · rw [if_pos (by omega), if_neg (by omega), if_pos h1]; omega
    · by_cases h2 : lo ≤ r.night ∧ r.night < hi
      · rw [if_pos (by omega), if_pos h2, if_neg h1]; omega
      · rw [if_neg (by omega), if_neg h2, if_neg h1]; omega
theorem night_len {p : Policy} (hp : p.ok) {n : Int} (hn : 0 ≤ n ∧ n ≤ 20000) {l : List Round} (hl : ∀ r ∈ l, r.ok) : ∀ k, k ≤ l.length → (nightSt p n (l.take k)).out.length ≤ 1 + 5 * cntN n (l.take k)
  | 0, _ => by
    show (baseL p n).length ≤ _
    unfold baseL
    split <;> simp
  | k + 1, hk => by
    have hlt : k < l.length := by omega
    have ih := night_len hp hn hl k (by omega)
    have nok := nok_st hp hn hl k (by omega)
    have hr := hl _ (List.getElem_mem hlt)
    have g := (roundL_ok hp hr nok.cr nok.ch).2.1
    rw [nightSt_succ hlt, take_succ_snoc hlt]
    have hc : cntN n (l.take k ++ [l[k]]) = cntN n (l.take k) + if l[k].night = n then 1 else 0 := by
      unfold cntN
      rw [List.countP_append, List.countP_cons, List.countP_nil]
      simp
    rw [hc]
    unfold stepN
    by_cases h : l[k].night = n
    · rw [if_pos h, if_pos h]
      simp only [List.length_append]
      omega
    · rw [if_neg h, if_neg h]
      exact ih
theorem nightIn_len {ps : List Policy} {l : List Round} {n : Int} (hp : ∀ p ∈ ps, p.ok) (hl : ∀ r ∈ l, r.ok) (hn : 0 ≤ n ∧ n ≤ 20000) : (nightIn ps l n).length ≤ 1 + 5 * cntN n l := by
  unfold nightIn
  split
  · rename_i hf
    have := night_len (hp _ (forceOf_mem hf)) hn hl l.length (Nat.le_refl _)
    rw [List.take_length] at this
    exact this
  · simp
theorem seasonTo_len2 {ps : List Policy} {l : List Round} {lo : Int} (hp : ∀ p ∈ ps, p.ok) (hl : ∀ r ∈ l, r.ok) (hlo : 0 ≤ lo) : ∀ m : Nat, lo + (m : Int) ≤ 20001 → (seasonTo ps l lo m).length ≤ m + 5 * cntTo lo (lo + (m : Int)) l
  | 0, _ => by simp [seasonTo]
  | m + 1, h => by
    have h1 := seasonTo_len2 hp hl hlo m (by omega)
    have h2 := nightIn_len (n := lo + (m : Int)) hp hl (by omega)
    have h3 := cntTo_succ lo (lo + (m : Int)) (by omega) l
    rw [seasonTo_succ, List.length_append, show lo + ((m + 1 : Nat) : Int) = lo + (m : Int) + 1 by omega, h3]
    omega
theorem cntTo_le (lo hi : Int) (l : List Round) : cntTo lo hi l ≤ l.length := List.countP_le_length
theorem seasonOf_len2 {ps : List Policy} {l : List Round} {s : Span} (hp : ∀ p ∈ ps, p.ok) (hl : ∀ r ∈ l, r.ok) (hs : spanErr s = 0) : (seasonOf ps l s).length ≤ 400 + 5 * l.length := by
  have hs := spanErr_0 hs
  have h1 := seasonTo_len2 hp hl hs.2.1.1 (s.hi - s.lo + 1).toNat (by omega)
  have h2 := cntTo_le s.lo (s.lo + ((s.hi - s.lo + 1).toNat : Int)) l
  unfold seasonOf
  omega
theorem seasonOf_mem {ps : List Policy} {l : List Round} {s : Span} (hp : ∀ p ∈ ps, p.ok) (hl : ∀ r ∈ l, r.ok) (hs : spanErr s = 0) : ∀ x ∈ seasonOf ps l s, x.ok ∧ (s.lo ≤ x.night ∧ x.night ≤ s.hi) ∧ x.src ≤ -1 := by
  have hs := spanErr_0 hs
  intro x hx
  have := seasonTo_mem hp hl hs.2.1.1 (m := (s.hi - s.lo + 1).toNat) (by omega) x hx
  exact ⟨this.1, by omega, this.2.2⟩
end Go.Proofs.Ax
namespace Go.Proofs.Ax
open Go Go.Proofs
/-! Doubtful rounds decided. -/
def rnd0 : Round := ⟨0, 0, 0, false, []⟩
def dec (r : Round) (b : Bool) : Round := { r with kind := if b = true then 1 else 3 }
def loose (r : Round) : Round := { r with tight := false }
def dN : List Round → Nat
  | [] => 0
  | r :: l => (if r.kind = 2 then 1 else 0) + dN l
def rk : List Round → Nat → Nat
  | _, 0 => 0
  | [], _ + 1 => 0
  | r :: l, i + 1 => (if r.kind = 2 then 1 else 0) + rk l i
def decideL : List Round → List Bool → List Round
  | [], _ => []
  | r :: l, bs => if r.kind = 2 then dec r (bs.headD false) :: decideL l bs.tail else r :: decideL l bs
/-- The numbers of the doubtful ones. -/
def dIdx (l : List Round) (k : Nat) : List Nat := (List.range k).filter fun i => decide ((l.getD i rnd0).kind = 2)
/-- Some of them decided, over what was before. -/
def mix (prev l : List Round) (bs : List Bool) (k : Nat) : List Round := (List.range l.length).map fun i => if (l.getD i rnd0).kind = 2 ∧ rk l i < k then dec (l.getD i rnd0) (bs.getD (rk l i) false) else prev.getD i rnd0
/-- Equal but for the verdict. -/
def Alike (a b : Round) : Prop := ∃ k, a = { b with kind := k }
end Go.Proofs.Ax
namespace Go.Proofs.Ax
open Go Go.Proofs
/-! What a night costs if so many of its doubtful rounds are certified. -/
def trueN (n : Int) : List Round → List Bool → Nat
  | [], _ => 0
  | r :: l, bs => if r.kind = 2 then (if r.night = n ∧ bs.headD false = true then 1 else 0) + trueN n l bs.tail else trueN n l bs
def dNn (n : Int) : List Round → Nat
  | [] => 0
  | r :: l => (if r.night = n ∧ r.kind = 2 then 1 else 0) + dNn n l
def charge0 (p : Policy) (n : Int) : List Round → Int
  | [] => 0
  | r :: l => (if r.night = n ∧ r.kind ≠ 1 ∧ r.kind ≠ 2 then amtOf p r else 0) + charge0 p n l
/-- What the house gives in a night if k of the doubtful rounds are certified. -/
def gN (ps : List Policy) (l : List Round) (n : Int) (k : Nat) : Int :=
  if (forceOf ps n).2 = true then costOf (forceOf ps n).1 (certN n l + k) (charge0 (forceOf ps n).1 n l + (forceOf ps n).1.charge * ((dNn n l : Int) - (k : Int))) else 0
/-- The rounds of a night. -/
def ofN (n : Int) (l : List Round) : List Round := l.filter fun r => decide (r.night = n)
def firstK (d k : Nat) : List Bool := (List.range d).map fun j => decide (j < k)
def bitsOf (d b : Nat) : List Bool := (List.range d).map fun j => b.testBit j
/-- The least and the greatest of the first values. -/
def minTo (g : Nat → Int) : Nat → Int
  | 0 => g 0
  | k + 1 => min (minTo g k) (g (k + 1))
def maxTo (g : Nat → Int) : Nat → Int
  | 0 => g 0
  | k + 1 => max (maxTo g k) (g (k + 1))
end Go.Proofs.Ax
namespace Go.Proofs.Ax
open Go Go.Proofs
/-! Decided rounds are in order as they were; sums over nights. -/
def before (q r : Round) : Prop := q.night < r.night ∨ (q.night = r.night ∧ q.no < r.no)
def ordR : Option Round → List Round → Prop
  | _, [] => True
  | none, r :: l => ordR (some r) l
  | some q, r :: l => before q r ∧ ordR (some r) l
def SameNo (a b : Round) : Prop := a.night = b.night ∧ a.no = b.no
def sumTo (f : Int → Int) (lo : Int) (m : Nat) : Int := ((List.range m).map fun (j : Nat) => f (lo + (j : Int))).sum
def outLo (ps : List Policy) (l : List Round) (n : Int) : Int := minTo (gN ps l n) (dNn n l)
def outHi (ps : List Policy) (l : List Round) (n : Int) : Int := maxTo (gN ps l n) (dNn n l)
end Go.Proofs.Ax
