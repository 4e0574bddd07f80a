import Derived.Test.YtdfgphfijfocoaaGreatDoorRzLM
namespace Go.Proofs.Ax
open Go Go.Proofs
set_option maxRecDepth 10000
set_option maxHeartbeats 4000000
abbrev hC (c : List Posting) : AH := [.rows [[.sc (.slice none 0 0), vi 0]] 70, .rows (c.map Posting.enc) 61]
end Go.Proofs.Ax
