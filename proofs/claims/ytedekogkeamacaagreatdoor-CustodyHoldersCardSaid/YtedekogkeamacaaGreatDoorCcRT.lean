import Derived.Test.YtedekogkeamacaaGreatDoorCcRA
import Derived.Test.YtedekogkeamacaaGreatDoorCcAB
namespace Go.Proofs.Ax
open Go Go.Proofs Go.Proofs.Cu
set_option maxRecDepth 10000
set_option maxHeartbeats 4000000
theorem of_ok {c : Book} (hc : BkS c) (key : Int) : Pu Tryz.prog G1 90 [bookV c, vi key] (entries (chnOf c key).es) := by
  have hel := hc.el; refine pf 31 Tryz.func90 rfl rfl ?_
  (conv => whnf)
  refine LoopN.re (Reabs.virt 5 7 68 rfl) ?_; refine LoopN.of tk (fun k : Nat => [(1, vi key), (2, .pm 0 0 0), (5, .sm 1 7 0 (selE c key k).length), (6, vi k)]) (fun k => [.rows [bookC c] 26, .rows ((selE c key k).map encE) 68]) (fun k => c.entries.length - k) (fun k => k ≤ c.entries.length) 0 (Nat.zero_le _) (rM [0, 1]) ?_; intro k hk; by_cases hlt : k < c.entries.length
  · have hsu := selE_succ (key := key) hlt; have hle := selE_len (c := c) (key := key) (k := k); generalize selE c key k = o at *; by_cases hkey : (c.entries[k]).key = key
    · rw [if_pos hkey] at hsu
      ((conv => whnf); repeat' ((first | refine SlIdxN.map k rfl hlt ?_ | refine vv3 ?_ | refine vv7 ?_ | refine vv20 ?_ | refine vv21 ?_ | refine vv23 ?_ | refine vv31 ?_ | refine vv33 ?_) <;> (conv => whnf)))
      exact bk (k + 1) (rM [0, 2] (hs := by rw [hsu, List.length_append]; exact (by repeat (first | exact sv0 | refine sv1 ?_ | refine sv2 ?_ | refine sv3 ?_))) (hb := by exact ⟨⟨_, rfl, blkDeep rfl (deepLit rfl), fun _ => rfl⟩, ⟨_, rfl, blkDeep (by rw [hsu, List.map_append]; rfl) (deepMap (fun _ => rfl)), fun _ => rfl⟩, trivial⟩))
    · rw [if_neg hkey, List.append_nil] at hsu
      ((conv => whnf); repeat' ((first | refine SlIdxN.map k rfl hlt ?_ | refine vv4 ?_ | refine vv7 ?_ | refine vv20 ?_ | refine vv21 ?_ | refine vv23 ?_) <;> (conv => whnf)))
      exact bk (k + 1) (by rw [hsu]; exact rM [0, 1])
  · obtain rfl : k = c.entries.length := by omega
    have hall : selE c key c.entries.length = (chnOf c key).es := by simp [selE, chnOf]
    rw [← hall]; generalize selE c key c.entries.length = o at *
    ((conv => whnf); repeat' ((first | refine vv8 ?_ | refine vv21 ?_ | refine vv23 ?_) <;> (conv => whnf)))
    exact ⟨.sm0 rfl (deepR (fun _ => rfl)) (by rw [List.length_map])⟩
theorem rkeyed_ok {c : Book} (hc : BkS c) (key : Int) : Pu Tryz.prog G1 34 [bookV c, vi key] (vi (askedE c key)) := by
  have h1 := rcheck_ok hc; have h2 := keyed_ok c key hc; unfold askedE; by_cases h0 : checkE c = 0
  · rw [if_neg (by simpa using h0)]; rw [h0] at h1
    cases hk : c.keys.contains key with
    | true =>
      rw [hk] at h2; refine pf 17 Tryz.func34 rfl rfl ?_
      ((conv => whnf); repeat' ((first | refine vv1 ?_ | refine vv2 ?_ | refine vv21 ?_ | refine cp h1 ?_ | refine cp h2 ?_) <;> (conv => whnf)))
      exact ⟨.val rfl⟩
    | false =>
      rw [hk] at h2; refine pf 17 Tryz.func34 rfl rfl ?_
      ((conv => whnf); repeat' ((first | refine vv1 ?_ | refine vv21 ?_ | refine cp h1 ?_ | refine cp h2 ?_) <;> (conv => whnf)))
      exact ⟨.val rfl⟩
  · rw [if_pos h0]; generalize checkE c = e at *; refine pf 17 Tryz.func34 rfl rfl ?_
    ((conv => whnf); repeat' ((first | refine vv2 ?_ | refine vv4 ?_ | refine vv21 ?_ | refine cp h1 ?_) <;> (conv => whnf)))
    exact ⟨.val rfl⟩
end Go.Proofs.Ax
namespace Go.Proofs.Ax
open Go Go.Proofs Go.Proofs.Cu
set_option maxRecDepth 10000
set_option maxHeartbeats 4000000
end Go.Proofs.Ax
namespace Go.Proofs.Ax
open Go Go.Proofs Go.Proofs.Cu
set_option maxRecDepth 10000
set_option maxHeartbeats 4000000
end Go.Proofs.Ax
namespace Go.Proofs.Ax
open Go Go.Proofs Go.Proofs.Cu
set_option maxRecDepth 10000
set_option maxHeartbeats 4000000
end Go.Proofs.Ax
