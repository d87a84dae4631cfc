/-
  A whole array stored into a block that is known whole: the world behind it by its facts alone.
-/
import Derived.Test.YtidnlginjjgmjaaDoorGen
import Derived.Test.YtidnlginjjgmjaaDoorArr
namespace Go.Proofs.YtidnlginjjgmjaaDoor
open Go.RowKit
set_option linter.unusedVariables false

end Go.Proofs.YtidnlginjjgmjaaDoor
