/-
  A whole array stored into a block that is known whole: the world behind it by its facts alone.
-/
import Derived.Test.YtkeeejkijbaooaaDoorGen
import Derived.Test.YtkeeejkijbaooaaDoorArr
namespace Go.Proofs.YtkeeejkijbaooaaDoor
open Go.RowKit
set_option linter.unusedVariables false

end Go.Proofs.YtkeeejkijbaooaaDoor
