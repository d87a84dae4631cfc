/-
  Arrays in memory, words: small facts.
-/
import Derived.Test.YtidnlginjjgmjaaDoorGen
import Derived.Test.YtidnlginjjgmjaaDoorCut
import Derived.Deep.RegionHeld3
namespace Go.Proofs.YtidnlginjjgmjaaDoor
open Go.RowKit
set_option linter.unusedVariables false

end Go.Proofs.YtidnlginjjgmjaaDoor
