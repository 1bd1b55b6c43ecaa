/-
  PART OF A CLAIM's PROOF (Fx1): a shadow of the machine, or what is shown by it.
-/
import Derived.Test.YteaphfbalgmhlaaGreatDoorFxS
set_option linter.unusedSimpArgs false
set_option linter.unusedVariables false
namespace Go.Sh
set_option maxRecDepth 1000000
set_option maxHeartbeats 0
theorem fxg1 : keepS [137, 132, 136, 16, 135, 14, 15, 11, 13, 12, 1] (steps env (run env 100000) 2000 fx0) = .ok fx1 := by kernel_rfl
end Go.Sh
