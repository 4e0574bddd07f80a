import Derived.Test.YtedekogkeamacaaGreatDoorCcAL
namespace Go.Proofs.Ax
open Go Go.Proofs Go.Proofs.Cu Go.Proofs.Tx
set_option maxRecDepth 10000
set_option maxHeartbeats 4000000
section
end
section
end
end Go.Proofs.Ax
namespace Go.Proofs.Ax
open Go Go.Proofs Go.Proofs.Cu Go.Proofs.Tx
end Go.Proofs.Ax
