/-
  PART OF A CLAIM's PROOF (Fx3): a shadow of the machine, or what is shown by it.
-/
import Derived.Test.YteaphfbalgmhlaaGreatDoorFxS
set_option linter.unusedSimpArgs false
set_option linter.unusedVariables false
namespace Go.Sh
set_option maxRecDepth 1000000
set_option maxHeartbeats 0
theorem fxg3 : keepS [279, 489, 512, 502, 485, 478, 467, 460, 441, 429, 367, 479, 366, 484, 365, 363, 362, 347, 354, 357, 345, 342, 341, 338, 309, 334, 327, 337, 300, 293, 291, 282, 281, 280, 14, 15, 11, 13, 12, 1] (steps env (run env 100000) 2000 fx2) = .ok fx3 := by kernel_rfl
end Go.Sh
