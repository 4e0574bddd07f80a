import Derived.Test.YtdfgphfijfocoaaGreatDoorRbPE
import Derived.Test.YtdfgphfijfocoaaGreatDoorDivA
namespace Go.Proofs.Ax
open Go Go.Proofs
def bonusTo (r : Round) (ps : List Int) (k : Nat) : List Posting := ((List.range k).filter fun i => decide (0 < ps.getD i 0)).map fun i => ⟨r.night, r.no, -1, r.crew.getD i 0, ps.getD i 0⟩
def onesOf (r : Round) : List Int := List.replicate r.crew.length 1
def bonusL (r : Round) (a : Int) : List Posting := bonusTo r (divided a (onesOf r)) r.crew.length
/-- What is given for a round that is not certified, and for one that is. -/
def doubtAmt (p : Policy) (r : Round) (ch : Int) : Int := min (if r.kind = 3 then p.charge else p.doubt) (p.cap - ch)
def certAmt (p : Policy) (cr : Int) : Int := min p.credit (p.cap - cr)
/-- The postings of a round, and what has been given behind it. -/
def roundL (p : Policy) (r : Round) (cr ch : Int) : List Posting :=
  if r.kind = 1 then (if certAmt p cr = 0 then [] else ⟨r.night, r.no, -2, -1, certAmt p cr⟩ :: bonusL r (certAmt p cr * p.bonus / 1000))
  else (if doubtAmt p r ch = 0 then [] else [⟨r.night, r.no, -1, -2, doubtAmt p r ch⟩])
def crOf (p : Policy) (r : Round) (cr : Int) : Int := if r.kind = 1 then cr + certAmt p cr else cr
def chOf (p : Policy) (r : Round) (ch : Int) : Int := if r.kind = 1 then ch else ch + doubtAmt p r ch
structure NSt where
  out : List Posting
  cr : Int
  ch : Int
def stepN (p : Policy) (n : Int) (s : NSt) (r : Round) : NSt := if r.night = n then ⟨s.out ++ roundL p r s.cr s.ch, crOf p r s.cr, chOf p r s.ch⟩ else s
def baseL (p : Policy) (n : Int) : List Posting := if 0 < p.base then [⟨n, 0, -1, -2, p.base⟩] else []
def nightSt (p : Policy) (n : Int) (l : List Round) : NSt := l.foldl (stepN p n) ⟨baseL p n, 0, 0⟩
def nightOf (p : Policy) (n : Int) (l : List Round) : List Posting := (nightSt p n l).out
/-- What postings for rounds give from one account to another. -/
def given (l : List Posting) (a b : Int) : Int := (l.map fun x => if 0 < x.no ∧ x.src = a ∧ x.dst = b then x.amount else 0).sum
/-- What is known on the way. -/
structure NOk (p : Policy) (n : Int) (s : NSt) (k : Nat) : Prop where
  cr : 0 ≤ s.cr ∧ s.cr ≤ p.cap
  ch : 0 ≤ s.ch ∧ s.ch ≤ p.cap
  out : ∀ x ∈ s.out, x.ok ∧ x.night = n ∧ x.src ≤ -1
  len : s.out.length ≤ 1 + 5 * k
  gcr : given s.out (-2) (-1) = s.cr
  gch : given s.out (-1) (-2) = s.ch
  ins : bal s.out (-2) = p.base + s.ch - s.cr
end Go.Proofs.Ax
namespace Go.Proofs.Ax
open Go Go.Proofs
/-- The postings of one night, by the policy in force. -/
def nightIn (ps : List Policy) (l : List Round) (n : Int) : List Posting := if (forceOf ps n).2 = true then nightOf (forceOf ps n).1 n l else []
def seasonTo (ps : List Policy) (l : List Round) (lo : Int) (m : Nat) : List Posting := (List.range m).flatMap fun (j : Nat) => nightIn ps l (lo + (j : Int))
def seasonOf (ps : List Policy) (l : List Round) (s : Span) : List Posting := seasonTo ps l s.lo (s.hi - s.lo + 1).toNat
def askedErr (ps : List Policy) (l : List Round) (s : Span) : Int := if (checkPol ps).1 ≠ 0 then (checkPol ps).1 else if (checkRounds l).1 ≠ 0 then (checkRounds l).1 else spanErr s
end Go.Proofs.Ax
namespace Go.Proofs.Ax
open Go Go.Proofs
/-! What the house gives in a night hangs on how many rounds are certified, and on the sum of what is charged for the others. -/
def amtOf (p : Policy) (r : Round) : Int := if r.kind = 3 then p.charge else p.doubt
def certSt (p : Policy) : Nat → Int × Int
  | 0 => (0, 0)
  | j + 1 => ((certSt p j).1 + certAmt p (certSt p j).1, (certSt p j).2 + certAmt p (certSt p j).1 * p.bonus / 1000)
def certN (n : Int) (l : List Round) : Nat := (l.filter fun r => decide (r.night = n ∧ r.kind = 1)).length
def chargeS (p : Policy) (n : Int) (l : List Round) : Int := (l.map fun r => if r.night = n ∧ r.kind ≠ 1 then amtOf p r else 0).sum
def costOf (p : Policy) (c : Nat) (s : Int) : Int := p.base + min s p.cap - (certSt p c).1 + (certSt p c).2
end Go.Proofs.Ax
namespace Go.Proofs.Ax
open Go Go.Proofs
/-- How many rounds are of a night, and of the nights from one to another. -/
def cntN (n : Int) (l : List Round) : Nat := l.countP fun r => decide (r.night = n)
def cntTo (lo hi : Int) (l : List Round) : Nat := l.countP fun r => decide (lo ≤ r.night ∧ r.night < hi)
theorem scan_none {α : Type} {bad : Option α → α → Option Int} : ∀ (l : List α) (k : Nat) (q : Option α), (∀ q, ∀ x ∈ l, bad q x = none) → scan bad k q l = (0, -1)
  | [], k, q, _ => rfl
  | y :: l, k, q, h => by
    unfold scan
    rw [h q y (List.mem_cons_self ..)]
    exact scan_none l _ _ fun q x hx => h q x (List.mem_cons_of_mem _ hx)
theorem checkPost_good {l : List Posting} (h : ∀ x ∈ l, x.ok) (hl : l.length ≤ 4000) : checkPost l = (0, -1) := by
  unfold checkPost
  rw [if_neg (by omega)]
  exact scan_none l _ _ fun q x hx => by unfold badPost; rw [if_pos (h x hx)]
end Go.Proofs.Ax
namespace Go.Proofs.Ax
open Go Go.Proofs
/-! Doubtful rounds decided. -/
def rnd0 : Round := ⟨0, 0, 0, false, []⟩
def dec (r : Round) (b : Bool) : Round := { r with kind := if b = true then 1 else 3 }
def loose (r : Round) : Round := { r with tight := false }
def dN : List Round → Nat
  | [] => 0
  | r :: l => (if r.kind = 2 then 1 else 0) + dN l
def rk : List Round → Nat → Nat
  | _, 0 => 0
  | [], _ + 1 => 0
  | r :: l, i + 1 => (if r.kind = 2 then 1 else 0) + rk l i
def decideL : List Round → List Bool → List Round
  | [], _ => []
  | r :: l, bs => if r.kind = 2 then dec r (bs.headD false) :: decideL l bs.tail else r :: decideL l bs
/-- The numbers of the doubtful ones. -/
def dIdx (l : List Round) (k : Nat) : List Nat := (List.range k).filter fun i => decide ((l.getD i rnd0).kind = 2)
/-- Some of them decided, over what was before. -/
def mix (prev l : List Round) (bs : List Bool) (k : Nat) : List Round := (List.range l.length).map fun i => if (l.getD i rnd0).kind = 2 ∧ rk l i < k then dec (l.getD i rnd0) (bs.getD (rk l i) false) else prev.getD i rnd0
/-- Equal but for the verdict. -/
def Alike (a b : Round) : Prop := ∃ k, a = { b with kind := k }
end Go.Proofs.Ax
namespace Go.Proofs.Ax
open Go Go.Proofs
/-! What a night costs if so many of its doubtful rounds are certified. -/
def trueN (n : Int) : List Round → List Bool → Nat
  | [], _ => 0
  | r :: l, bs => if r.kind = 2 then (if r.night = n ∧ bs.headD false = true then 1 else 0) + trueN n l bs.tail else trueN n l bs
def dNn (n : Int) : List Round → Nat
  | [] => 0
  | r :: l => (if r.night = n ∧ r.kind = 2 then 1 else 0) + dNn n l
def charge0 (p : Policy) (n : Int) : List Round → Int
  | [] => 0
  | r :: l => (if r.night = n ∧ r.kind ≠ 1 ∧ r.kind ≠ 2 then amtOf p r else 0) + charge0 p n l
/-- What the house gives in a night if k of the doubtful rounds are certified. -/
def gN (ps : List Policy) (l : List Round) (n : Int) (k : Nat) : Int :=
  if (forceOf ps n).2 = true then costOf (forceOf ps n).1 (certN n l + k) (charge0 (forceOf ps n).1 n l + (forceOf ps n).1.charge * ((dNn n l : Int) - (k : Int))) else 0
/-- The rounds of a night. -/
def ofN (n : Int) (l : List Round) : List Round := l.filter fun r => decide (r.night = n)
def firstK (d k : Nat) : List Bool := (List.range d).map fun j => decide (j < k)
def bitsOf (d b : Nat) : List Bool := (List.range d).map fun j => b.testBit j
/-- The least and the greatest of the first values. -/
def minTo (g : Nat → Int) : Nat → Int
  | 0 => g 0
  | k + 1 => min (minTo g k) (g (k + 1))
def maxTo (g : Nat → Int) : Nat → Int
  | 0 => g 0
  | k + 1 => max (maxTo g k) (g (k + 1))
end Go.Proofs.Ax
namespace Go.Proofs.Ax
open Go Go.Proofs
/-! Decided rounds are in order as they were; sums over nights. -/
def before (q r : Round) : Prop := q.night < r.night ∨ (q.night = r.night ∧ q.no < r.no)
def ordR : Option Round → List Round → Prop
  | _, [] => True
  | none, r :: l => ordR (some r) l
  | some q, r :: l => before q r ∧ ordR (some r) l
def SameNo (a b : Round) : Prop := a.night = b.night ∧ a.no = b.no
def sumTo (f : Int → Int) (lo : Int) (m : Nat) : Int := ((List.range m).map fun (j : Nat) => f (lo + (j : Int))).sum
def outLo (ps : List Policy) (l : List Round) (n : Int) : Int := minTo (gN ps l n) (dNn n l)
def outHi (ps : List Policy) (l : List Round) (n : Int) : Int := maxTo (gN ps l n) (dNn n l)
end Go.Proofs.Ax
