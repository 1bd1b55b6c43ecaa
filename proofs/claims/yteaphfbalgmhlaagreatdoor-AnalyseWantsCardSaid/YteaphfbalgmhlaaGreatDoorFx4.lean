/-
  PART OF A CLAIM's PROOF (Fx4): a shadow of the machine, or what is shown by it.
-/
import Derived.Test.YteaphfbalgmhlaaGreatDoorFxS
set_option linter.unusedSimpArgs false
set_option linter.unusedVariables false
namespace Go.Sh
set_option maxRecDepth 1000000
set_option maxHeartbeats 0
theorem fxg4 : keepS [762, 327, 757, 756, 761, 758, 759, 760, 737, 721, 564, 555, 467, 460, 441, 429, 502, 543, 714, 705, 693, 686, 667, 655, 13, 751, 748, 749, 754, 750, 11, 740, 746, 12, 747, 1] (steps env (run env 100000) 2000 fx3) = .ok fx4 := by kernel_rfl
end Go.Sh
