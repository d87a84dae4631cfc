/-
  Arrays in memory, words: small facts.
-/
import Derived.Test.YtkeeejkijbaooaaDoorGen
import Derived.Test.YtkeeejkijbaooaaDoorCut
import Derived.Deep.RegionHeld3
namespace Go.Proofs.YtkeeejkijbaooaaDoor
open Go.RowKit
set_option linter.unusedVariables false

end Go.Proofs.YtkeeejkijbaooaaDoor
