/-
  Rows that a call makes itself, element behind element: append, and what the row reads as.
-/
import Derived.Test.YtkeeejkijbaooaaDoorGen
import Derived.Test.YtkeeejkijbaooaaDoorSha2
import Derived.Deep.AppendLies
import Derived.OwnWalk
namespace Go.Proofs.YtkeeejkijbaooaaDoor
open Go.RowKit
set_option linter.unusedVariables false

end Go.Proofs.YtkeeejkijbaooaaDoor
