/-
  The references' helper Few.
-/
import Derived.Test.YtoaemkbdfinaoaaRefA
namespace Go.Proofs.Ytoaemkbdfinaoaa
open Go.RowKit
set_option linter.unusedVariables false

end Go.Proofs.Ytoaemkbdfinaoaa
