import Derived.Test.YtedekogkeamacaaGreatDoorCcAL
namespace Go.Proofs.Ax
open Go Go.Proofs Go.Proofs.Cu Go.Proofs.Tx
set_option maxRecDepth 10000
set_option maxHeartbeats 4000000
end Go.Proofs.Ax
namespace Go.Proofs.Ax
open Go Go.Proofs Go.Proofs.Cu Go.Proofs.Tx
set_option maxRecDepth 10000
set_option maxHeartbeats 4000000
theorem handsF_len (c : Book) (key : Int) (s : Spn) : (handsF c key s).1.length ≤ c.people.length := by
  unfold handsF
  repeat' split
  · exact Nat.zero_le _
  · exact Nat.zero_le _
  · exact Nat.zero_le _
  · simp only [List.length_map]
    exact List.length_filter_le ..
end Go.Proofs.Ax
namespace Go.Proofs.Ax
open Go Go.Proofs Go.Proofs.Cu Go.Proofs.Tx
end Go.Proofs.Ax
