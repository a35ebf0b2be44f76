/- DceIdle: one of its five shapes of functions, called one to five times. -/
import Derived.Test.YtpipdilhgmolhadGreatRunH
set_option linter.unusedVariables false
namespace Go.Eng.I
open Go.Eng
theorem r13 : R1 40 3 [.i 1, .i 3] = some (.b true, []) := by kernel_rfl
end Go.Eng.I
