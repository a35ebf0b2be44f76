/- DceIdle: one of its five shapes of functions, called one to five times. -/
import Derived.Test.YtpipdilhgmolhadGreatRun
set_option linter.unusedVariables false
namespace Go.Eng.I
open Go.Eng
theorem r00 : R1 40 3 [.i 0, .i 0] = some (.b true, []) := by kernel_rfl
end Go.Eng.I
