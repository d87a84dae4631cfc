/-
  Rows that a call makes itself, element behind element: append, and what the row reads as.
-/
import Derived.Test.YtidnlginjjgmjaaDoorGen
import Derived.Test.YtidnlginjjgmjaaDoorSha2
import Derived.Deep.AppendLies
import Derived.OwnWalk
namespace Go.Proofs.YtidnlginjjgmjaaDoor
open Go.RowKit
set_option linter.unusedVariables false

end Go.Proofs.YtidnlginjjgmjaaDoor
