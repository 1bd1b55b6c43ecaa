/-
  PART OF A CLAIM's PROOF (Fx8): a shadow of the machine, or what is shown by it.
-/
import Derived.Test.YteaphfbalgmhlaaGreatDoorFxS
set_option linter.unusedSimpArgs false
set_option linter.unusedVariables false
namespace Go.Sh
set_option maxRecDepth 1000000
set_option maxHeartbeats 0
theorem fxend : isTrueSt (steps env (run env 100000) 582 fx7) = true := by kernel_rfl
end Go.Sh
