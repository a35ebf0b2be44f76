/- DceIdle: one of its five shapes of functions, called one to five times. -/
import Derived.Test.YtpipdilhgmolhadGreatRunB
set_option linter.unusedVariables false
namespace Go.Eng.I
open Go.Eng
theorem r02 : R1 40 3 [.i 0, .i 2] = some (.b true, []) := by kernel_rfl
end Go.Eng.I
