/-
  PART OF A CLAIM's PROOF (Fx2): a shadow of the machine, or what is shown by it.
-/
import Derived.Test.YteaphfbalgmhlaaGreatDoorFxS
set_option linter.unusedSimpArgs false
set_option linter.unusedVariables false
namespace Go.Sh
set_option maxRecDepth 1000000
set_option maxHeartbeats 0
theorem fxg2 : keepS [261, 255, 259, 16, 258, 14, 15, 11, 13, 12, 1] (steps env (run env 100000) 2000 fx1) = .ok fx2 := by kernel_rfl
end Go.Sh
