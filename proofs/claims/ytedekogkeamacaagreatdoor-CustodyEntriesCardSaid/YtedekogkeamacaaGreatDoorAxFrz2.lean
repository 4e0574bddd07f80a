import Derived.Test.YtedekogkeamacaaGreatDoorAxH
namespace Go.Proofs.Ax
open Go
set_option linter.unusedVariables false
end Go.Proofs.Ax
