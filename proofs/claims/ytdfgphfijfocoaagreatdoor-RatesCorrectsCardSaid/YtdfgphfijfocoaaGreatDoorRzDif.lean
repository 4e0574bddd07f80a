import Derived.Test.YtdfgphfijfocoaaGreatDoorRbDf
import Derived.Test.YtdfgphfijfocoaaGreatDoorAxSo
import Derived.Test.YtdfgphfijfocoaaGreatDoorRzA
namespace Go.Proofs.Ax
open Go Go.Proofs
/-! The specification's names of groups that differ. -/
def nmNo (p : Posting) : Int := 100 * p.night + p.no
def nameOf (k : Int) : Int × Int := (k / 100, k % 100)
def namesR (a b : List Posting) : List Int := putAll (putAll [] (a.map nmNo)) (b.map nmNo)
def differR (a b : List Posting) : List (Int × Int) := ((namesR a b).filter fun k => decide (grp a (nameOf k) ≠ grp b (nameOf k))).map nameOf
theorem namesR_inc (a b : List Posting) : Inc (namesR a b) := putAll_inc _ (putAll_inc _ .nil)
theorem mem_namesR {a b : List Posting} {k : Int} : k ∈ namesR a b ↔ (∃ p ∈ a, nmNo p = k) ∨ (∃ p ∈ b, nmNo p = k) := by
  rw [namesR, mem_putAll, mem_putAll, List.mem_map, List.mem_map]
  simp [or_comm]
theorem nameOf_no {p : Posting} (h : p.ok) : nameOf (nmNo p) = nmOf p := by
  unfold Posting.ok at h
  unfold nameOf nmNo nmOf
  rw [Prod.ext_iff]
  constructor <;> simp only <;> omega
theorem differR_eq {a b : List Posting} (ha : ∀ p ∈ a, p.ok) (hb : ∀ p ∈ b, p.ok) : differR a b = differ a b := by
  have hinc : (differR a b).Pairwise fun x y => (!(ltN y x)) = true ∧ x ≠ y := by
    unfold differR
    rw [List.pairwise_map]
    refine ((namesR_inc a b).filter _).imp ?_
    intro k k' h
    rw [leN_iff]
    refine ⟨?_, fun e => ?_⟩
    · unfold nameOf; simp only; omega
    · unfold nameOf at e
      rw [Prod.ext_iff] at e
      simp only at e
      omega
  have hmem : ∀ q, q ∈ differR a b ↔ q ∈ differ a b := by
    intro q
    rw [mem_differ, differR, List.mem_map]
    constructor
    · rintro ⟨k, hk, rfl⟩
      simpa using (List.mem_filter.1 hk).2
    · intro hne
      have key : ∀ {l : List Posting}, (∀ p ∈ l, p.ok) → grp l q ≠ [] → ∃ p ∈ l, nameOf (nmNo p) = q := by
        intro l hl hg
        obtain ⟨x, hx⟩ := List.exists_mem_of_ne_nil _ hg
        obtain ⟨h1, h2⟩ := grp_mem hx
        exact ⟨x, h1, (nameOf_no (hl x h1)).trans h2⟩
      have : ∃ k ∈ namesR a b, nameOf k = q := by
        by_cases h : grp a q = []
        · obtain ⟨p, hp, e⟩ := key hb (fun h' => hne (by rw [h, h']))
          exact ⟨_, mem_namesR.2 (.inr ⟨p, hp, rfl⟩), e⟩
        · obtain ⟨p, hp, e⟩ := key ha h
          exact ⟨_, mem_namesR.2 (.inl ⟨p, hp, rfl⟩), e⟩
      obtain ⟨k, hk, rfl⟩ := this
      exact ⟨k, List.mem_filter.2 ⟨hk, by simpa using hne⟩, rfl⟩
  refine List.Perm.eq_of_pairwise (le := fun x y => (!(ltN y x)) = true) (fun a b _ _ h1 h2 => leN_antisymm h1 h2) (hinc.imp fun h => h.1) ?_ ((List.perm_ext_iff_of_nodup (hinc.imp fun h => h.2) (differ_nodup a b)).2 hmem)
  rw [differ_eq]
  exact sortN_pair _
end Go.Proofs.Ax
namespace Go.Proofs.Ax
open Go Go.Proofs
set_option maxRecDepth 10000
set_option maxHeartbeats 4000000
abbrev nms (t : Bool) (l : List (Int × Int)) : AV := .sl 2 t (l.map nmRow)
theorem grp_snoc {l : List Posting} {k : Nat} (h : k < l.length) (q : Int × Int) : grp (l.take (k + 1)) q = grp (l.take k) q ++ if nmOf l[k] = q then [l[k]] else [] := by
  unfold grp
  rw [take_succ_snoc h, List.filter_append]
  by_cases hq : nmOf l[k] = q <;> simp [hq]
theorem grp_len (l : List Posting) (q : Int × Int) : (grp l q).length ≤ l.length := List.length_filter_le ..
theorem group_ok (t : Bool) (l : List Posting) (a b : Int) (hmax : l.length ≤ 100000) : Pu Tryz.prog G1 86 [postings t l, vi a, vi b] (postings false (grp l (a, b))) := by
  refine Pu.of_ev (T := Tryz.tab) (n := 39) (tryd_ok _) Tryz.func86 rfl rfl rfl (by first | rfl | (split <;> rfl)) (by simp) ?_
  (conv => whnf)
  refine LoopN.of (tryd_ok _) (fun k : Nat => [(0, postings t l), (1, vi a), (2, vi b), (7, .sm 0 5 0 (grp (l.take k) (a, b)).length), (8, vi k)]) (fun k => [.rows ((grp (l.take k) (a, b)).map Posting.enc) 61]) (fun k => l.length - k) (fun k => k ≤ l.length) 0 (Nat.zero_le _) ((Reabs.virt 7 5 61 rfl).trans (Reabs.frmM [0] (by repeat (first | exact trivial | refine ⟨.inr ⟨rfl, rfl⟩, ?_⟩ | refine ⟨.inr ⟨rfl, vi_eq (by first | omega | (simp; done) | (simp; omega))⟩, ?_⟩ | refine ⟨.inr ⟨rfl, smE rfl (by first | omega | (simp; done) | (simp; omega))⟩, ?_⟩)) (by repeat (first | exact trivial | refine ⟨⟨_, rfl, (by first | exact blkDead | exact blkDeep rfl (deepLit rfl) | exact blkDeep rfl (deepMap (fun _ => rfl)) | exact blkOk rfl rfl | exact blkLoop rfl rfl), (by first | exact fun _ => rfl | exact fun h => (by cases h))⟩, ?_⟩)) rfl rfl)) ?_
  intro k hk
  have hg := grp_len (l.take k) (a, b)
  rw [List.length_take] at hg
  by_cases hlt : k < l.length
  · have hs := grp_snoc hlt (a, b)
    generalize grp (l.take k) (a, b) = o at *
    by_cases hq : nmOf l[k] = (a, b)
    · rw [if_pos hq] at hs
      have h1 : l[k].night = a := congrArg Prod.fst hq
      have h2 : l[k].no = b := congrArg Prod.snd hq
      ((conv => whnf); repeat' ((first | refine vv3 ?_ | refine vv7 ?_ | refine vv20 ?_ | refine SlIdxN.map _ rfl (by first | assumption | omega) ?_ | refine vv23 ?_ | refine vv31 ?_ | refine vv33 ?_) <;> (conv => whnf)))
      refine BackN.mk (k + 1) (by omega) (by omega) ?_
      simp only [hs]
      exact (Reabs.frmM [1] (by repeat (first | exact trivial | refine ⟨.inr ⟨rfl, rfl⟩, ?_⟩ | refine ⟨.inr ⟨rfl, vi_eq (by first | omega | (simp; done) | (simp; omega))⟩, ?_⟩ | refine ⟨.inr ⟨rfl, smE rfl (by first | omega | (simp; done) | (simp; omega))⟩, ?_⟩)) (by exact ⟨⟨_, rfl, blkDeep (by rw [List.map_append]; rfl) (deepMap (fun _ => rfl)), fun _ => rfl⟩, trivial⟩) rfl rfl)
    · rw [if_neg hq, List.append_nil] at hs
      have h1 : l[k].night = a → l[k].no = b → False := fun e1 e2 => hq (by rw [← e1, ← e2]; rfl)
      ((conv => whnf); repeat' ((first | refine vv2 ?_ | refine vv3 ?_ | refine vv4 ?_ | refine vv7 ?_ | refine vv11 (fun hbr => ?_) (fun hbr => ?_) | refine vv20 ?_ | refine SlIdxN.map _ rfl (by first | assumption | omega) ?_ | refine vv23 ?_ | refine vv31 ?_ | refine vv33 ?_) <;> (conv => whnf)))
      all_goals try (exfalso; exact h1 (by assumption) (by assumption))
      all_goals
        refine BackN.mk (k + 1) (by omega) (by omega) ?_
        simp only [hs]
        exact (Reabs.frmM [0] (by repeat (first | exact trivial | refine ⟨.inr ⟨rfl, rfl⟩, ?_⟩ | refine ⟨.inr ⟨rfl, vi_eq (by first | omega | (simp; done) | (simp; omega))⟩, ?_⟩ | refine ⟨.inr ⟨rfl, smE rfl (by first | omega | (simp; done) | (simp; omega))⟩, ?_⟩)) (by repeat (first | exact trivial | refine ⟨⟨_, rfl, (by first | exact blkDead | exact blkDeep rfl (deepLit rfl) | exact blkDeep rfl (deepMap (fun _ => rfl)) | exact blkOk rfl rfl | exact blkLoop rfl rfl), (by first | exact fun _ => rfl | exact fun h => (by cases h))⟩, ?_⟩)) rfl rfl)
  · ((conv => whnf); repeat' ((first | refine vv8 ?_ | refine vv23 ?_) <;> (conv => whnf)))
    obtain rfl : k = l.length := by omega
    rw [List.take_length]
    refine DoneN.frz 0 _ 61 rfl (deepR (fun _ => rfl)) (DoneN.pure ?_)
    show (AV.sm 0 5 0 _).frz0 0 _ = _
    rw [frz_all (by simp)]
    rfl
theorem namesR_take {a b : List Posting} {k : Nat} (h : k < b.length) : putAll (putAll [] (a.map nmNo)) ((b.take (k + 1)).map nmNo) = putL (nmNo b[k]) (putAll (putAll [] (a.map nmNo)) ((b.take k).map nmNo)) := by
  rw [take_succ_snoc h, List.map_append, List.map_cons, List.map_nil, putAll_snoc]
theorem rnames_ok (t u : Bool) (a b : List Posting) (ha : ∀ p ∈ a, p.ok) (hb : ∀ p ∈ b, p.ok) (hmax : a.length ≤ 100000) (hmax' : b.length ≤ 100000) : Pu Tryz.prog G1 103 [postings t a, postings u b] (ints false (namesR a b)) := by
  refine Pu.of_ev (T := Tryz.tab) (n := 49) (tryd_ok _) Tryz.func103 rfl rfl rfl (by first | rfl | (split <;> rfl)) (by simp) ?_
  (conv => whnf)
  refine LoopN.of (tryd_ok _) (fun k : Nat => [(0, postings t a), (1, postings u b), (5, ints false (putAll [] ((a.take k).map nmNo))), (6, vi k)]) (fun _ => []) (fun k => a.length - k) (fun k => k ≤ a.length) 0 (Nat.zero_le _) ((Reabs.nilS 5 1 false rfl).trans (Reabs.frm0 rfl (by repeat (first | exact trivial | refine ⟨.inr ⟨rfl, rfl⟩, ?_⟩)))) ?_
  intro k hk
  have hl := putAll_len ((a.take k).map nmNo) []
  rw [List.length_map, List.length_take] at hl
  simp only [List.length_nil] at hl
  by_cases hlt : k < a.length
  · have hs : putAll [] ((a.take (k + 1)).map nmNo) = putL (nmNo a[k]) (putAll [] ((a.take k).map nmNo)) := by
      rw [take_succ_snoc hlt, List.map_append, List.map_cons, List.map_nil, putAll_snoc]
    have hok := ha _ (List.getElem_mem hlt)
    unfold Posting.ok at hok
    have h1 : 0 ≤ a[k].night ∧ a[k].night ≤ 20000 := hok.1
    have h2 : 0 ≤ a[k].no ∧ a[k].no ≤ 12 := hok.2.1
    clear hok
    have p1 := put_ok (putAll [] ((a.take k).map nmNo)) (nmNo a[k]) (by omega)
    unfold nmNo at p1
    ((conv => whnf); repeat' ((first | refine vv7 ?_ | refine vv20 ?_ | refine SlIdxN.map _ rfl (by first | assumption | omega) ?_ | refine vv23 ?_ | refine vv25 ?_ | refine DrawN.gen (by first | exact tryd_ok _ | exact tryd_okm _ _) (by kernel_rfl) ?_ | refine GCallN.pure _ (p1) ?_) <;> (conv => whnf)))
    refine BackN.mk (k + 1) (by omega) (by omega) ?_
    simp only [hs]
    exact Reabs.frm0 rfl (by repeat (first | exact trivial | refine ⟨.inr ⟨rfl, rfl⟩, ?_⟩))
  · obtain rfl : k = a.length := by omega
    rw [List.take_length] at *
    ((conv => whnf); repeat' ((first | refine vv8 ?_ | refine vv23 ?_) <;> (conv => whnf)))
    refine LoopN.of (tryd_ok _) (fun k : Nat => [(1, postings u b), (5, ints false (putAll (putAll [] (a.map nmNo)) ((b.take k).map nmNo))), (7, vi k)]) (fun _ => []) (fun k => b.length - k) (fun k => k ≤ b.length) 0 (Nat.zero_le _) (Reabs.frm0 rfl (by repeat (first | exact trivial | refine ⟨.inr ⟨rfl, rfl⟩, ?_⟩))) ?_
    intro k hk
    have hl2 := putAll_len ((b.take k).map nmNo) (putAll [] (a.map nmNo))
    rw [List.length_map, List.length_take] at hl2
    by_cases hlt : k < b.length
    · have hs := namesR_take (a := a) hlt
      have hok := hb _ (List.getElem_mem hlt)
      unfold Posting.ok at hok
      have h1 : 0 ≤ b[k].night ∧ b[k].night ≤ 20000 := hok.1
      have h2 : 0 ≤ b[k].no ∧ b[k].no ≤ 12 := hok.2.1
      clear hok
      have p1 := put_ok (putAll (putAll [] (a.map nmNo)) ((b.take k).map nmNo)) (nmNo b[k]) (by omega)
      unfold nmNo at p1
      ((conv => whnf); repeat' ((first | refine vv7 ?_ | refine vv20 ?_ | refine SlIdxN.map _ rfl (by first | assumption | omega) ?_ | refine vv23 ?_ | refine vv25 ?_ | refine DrawN.gen (by first | exact tryd_ok _ | exact tryd_okm _ _) (by kernel_rfl) ?_ | refine GCallN.pure _ (p1) ?_) <;> (conv => whnf)))
      refine BackN.mk (k + 1) (by omega) (by omega) ?_
      simp only [hs]
      exact Reabs.frm0 rfl (by repeat (first | exact trivial | refine ⟨.inr ⟨rfl, rfl⟩, ?_⟩))
    · obtain rfl : k = b.length := by omega
      ((conv => whnf); repeat' ((first | refine vv8 ?_ | refine vv23 ?_) <;> (conv => whnf)))
      rw [List.take_length]
      exact DoneN.pure rfl
theorem namesR_bd {a b : List Posting} (ha : ∀ p ∈ a, p.ok) (hb : ∀ p ∈ b, p.ok) : ∀ n ∈ namesR a b, 0 ≤ n ∧ n ≤ 2000012 := by
  intro n hn
  rcases mem_namesR.1 hn with ⟨p, hp, rfl⟩ | ⟨p, hp, rfl⟩
  · have := ha p hp
    unfold Posting.ok at this
    unfold nmNo; omega
  · have := hb p hp
    unfold Posting.ok at this
    unfold nmNo; omega
theorem namesR_len (a b : List Posting) : (namesR a b).length ≤ a.length + b.length := by
  have h1 := putAll_len (a.map nmNo) []
  have h2 := putAll_len (b.map nmNo) (putAll [] (a.map nmNo))
  rw [List.length_map] at h1 h2
  simp only [List.length_nil] at h1
  unfold namesR; omega
def difTo (a b : List Posting) (k : Nat) : List (Int × Int) := (((namesR a b).take k).filter fun k => decide (grp a (nameOf k) ≠ grp b (nameOf k))).map nameOf
theorem difTo_succ {a b : List Posting} {k : Nat} (h : k < (namesR a b).length) : difTo a b (k + 1) = difTo a b k ++ if grp a (nameOf (namesR a b)[k]) = grp b (nameOf (namesR a b)[k]) then [] else [nameOf (namesR a b)[k]] := by
  unfold difTo
  rw [take_succ_snoc h, List.filter_append, List.map_append]
  by_cases hq : grp a (nameOf (namesR a b)[k]) = grp b (nameOf (namesR a b)[k]) <;> simp [hq]
theorem difTo_len (a b : List Posting) (k : Nat) : (difTo a b k).length ≤ (namesR a b).length := by
  unfold difTo
  rw [List.length_map]
  have := List.length_filter_le (fun k => decide (grp a (nameOf k) ≠ grp b (nameOf k))) ((namesR a b).take k)
  rw [List.length_take] at this
  omega
theorem q100 {n : Int} (h : 0 ≤ n ∧ n ≤ 2000012) : IntKind.i64.wrap (n.tdiv 100) = n / 100 := by
  rw [Int.tdiv_eq_ediv_of_nonneg h.1]
  exact wrapI ⟨by omega, by omega⟩
theorem rdiffer_ok (t u : Bool) (a b : List Posting) (ha : ∀ p ∈ a, p.ok) (hb : ∀ p ∈ b, p.ok) (hmax : a.length ≤ 100000) (hmax' : b.length ≤ 100000) : Pu Tryz.prog G1 60 [postings t a, postings u b] (nms false (differR a b)) := by
  have hn := rnames_ok t u a b ha hb hmax hmax'
  have hnl := namesR_len a b
  have hnb := namesR_bd ha hb
  have hda : difTo a b (namesR a b).length = differR a b := by unfold difTo; rw [List.take_length]; rfl
  refine Pu.of_ev (T := Tryz.tab) (n := 60) (tryd_ok _) Tryz.func60 rfl rfl rfl (by first | rfl | (split <;> rfl)) (by simp) ?_
  ((conv => whnf); repeat' ((first | refine CallN.pure (hn) ?_) <;> (conv => whnf)))
  refine LoopN.of (tryd_ok _) (fun k : Nat => [(0, postings t a), (1, postings u b), (5, ints false (namesR a b)), (6, .sm 0 2 0 (difTo a b k).length), (7, vi k)]) (fun k => [.rows ((difTo a b k).map nmRow) 93]) (fun k => (namesR a b).length - k) (fun k => k ≤ (namesR a b).length) 0 (Nat.zero_le _) ((Reabs.virt 6 2 93 rfl).trans (Reabs.frmM [0] (by repeat (first | exact trivial | refine ⟨.inr ⟨rfl, rfl⟩, ?_⟩ | refine ⟨.inr ⟨rfl, vi_eq (by first | omega | (simp; done) | (simp; omega))⟩, ?_⟩ | refine ⟨.inr ⟨rfl, smE rfl (by first | omega | (simp; done) | (simp; omega))⟩, ?_⟩)) (by repeat (first | exact trivial | refine ⟨⟨_, rfl, (by first | exact blkDead | exact blkDeep rfl (deepLit rfl) | exact blkDeep rfl (deepMap (fun _ => rfl)) | exact blkOk rfl rfl | exact blkLoop rfl rfl), (by first | exact fun _ => rfl | exact fun h => (by cases h))⟩, ?_⟩)) rfl rfl)) ?_
  intro k hk
  have hdl := difTo_len a b k
  by_cases hlt : k < (namesR a b).length
  · have hs := difTo_succ hlt
    have hb1 := hnb _ (List.getElem_mem hlt)
    clear hnb
    generalize difTo a b k = o at *
    have hg1 : Pu Tryz.prog G1 86 [postings t a, vi ((namesR a b)[k] / 100), vi ((namesR a b)[k].tmod 100)] (postings false (grp a (nameOf (namesR a b)[k]))) := by
      rw [Int.tmod_eq_emod_of_nonneg hb1.1]
      exact group_ok t a _ _ hmax
    have hg2 : Pu Tryz.prog G1 86 [postings u b, vi ((namesR a b)[k] / 100), vi ((namesR a b)[k].tmod 100)] (postings false (grp b (nameOf (namesR a b)[k]))) := by
      rw [Int.tmod_eq_emod_of_nonneg hb1.1]
      exact group_ok u b _ _ hmax'
    have l1 := grp_len a (nameOf (namesR a b)[k])
    have l2 := grp_len b (nameOf (namesR a b)[k])
    have hsp := samePostings_ok false false (grp a (nameOf (namesR a b)[k])) (grp b (nameOf (namesR a b)[k])) (by omega) (by omega)
    have w1 := q100 hb1
    have w2 : (namesR a b)[k].tmod 100 = (namesR a b)[k] % 100 := Int.tmod_eq_emod_of_nonneg hb1.1
    ((conv => whnf); repeat' ((first | refine WrapN.mk _ w1 ?_ | refine vv7 ?_ | refine vv12 (fun hbr => ?_) (fun hbr => ?_) | refine vv20 ?_ | refine SlIdxN.map _ rfl (by first | assumption | omega) ?_ | refine vv23 ?_ | refine vv25 ?_ | refine Need.mk (by first | assumption | omega | (simp <;> omega)) ?_ | refine DrawN.gen (by first | exact tryd_ok _ | exact tryd_okm _ _) (by kernel_rfl) ?_ | refine vv31 ?_ | refine vv33 ?_ | refine GCallN.pure _ (hg1) ?_ | refine GCallN.pure _ (hg2) ?_ | refine GCallN.pure _ (hsp) ?_) <;> (conv => whnf)))
    · rw [if_pos hbr, List.append_nil] at hs
      refine BackN.mk (k + 1) (by omega) (by omega) ?_
      simp only [hs]
      exact (Reabs.frmM [0] (by repeat (first | exact trivial | refine ⟨.inr ⟨rfl, rfl⟩, ?_⟩ | refine ⟨.inr ⟨rfl, vi_eq (by first | omega | (simp; done) | (simp; omega))⟩, ?_⟩ | refine ⟨.inr ⟨rfl, smE rfl (by first | omega | (simp; done) | (simp; omega))⟩, ?_⟩)) (by repeat (first | exact trivial | refine ⟨⟨_, rfl, (by first | exact blkDead | exact blkDeep rfl (deepLit rfl) | exact blkDeep rfl (deepMap (fun _ => rfl)) | exact blkOk rfl rfl | exact blkLoop rfl rfl), (by first | exact fun _ => rfl | exact fun h => (by cases h))⟩, ?_⟩)) rfl rfl)
    · rw [if_neg hbr] at hs
      refine BackN.mk (k + 1) (by omega) (by omega) ?_
      simp only [hs]
      refine Reabs.frmM [1] (by repeat (first | exact trivial | refine ⟨.inr ⟨rfl, rfl⟩, ?_⟩ | refine ⟨.inr ⟨rfl, vi_eq (by first | omega | (simp; done) | (simp; omega))⟩, ?_⟩ | refine ⟨.inr ⟨rfl, smE rfl (by first | omega | (simp; done) | (simp; omega))⟩, ?_⟩)) ?_ rfl rfl
      refine ⟨⟨_, rfl, blkDeep ?_ (deepMap (fun _ => rfl)), fun _ => rfl⟩, trivial⟩
      rw [List.map_append, w2]
      rfl
  · ((conv => whnf); repeat' ((first | refine vv8 ?_ | refine vv23 ?_) <;> (conv => whnf)))
    obtain rfl : k = (namesR a b).length := by omega
    refine DoneN.frz 0 _ 93 rfl (deepR (fun _ => rfl)) (DoneN.pure ?_)
    show (AV.sm 0 2 0 _).frz0 0 _ = _
    rw [frz_all (by simp), hda]
end Go.Proofs.Ax
