/-
  PART OF A CLAIM's PROOF (Fx5): a shadow of the machine, or what is shown by it.
-/
import Derived.Test.YteaphfbalgmhlaaGreatDoorFxS
set_option linter.unusedSimpArgs false
set_option linter.unusedVariables false
namespace Go.Sh
set_option maxRecDepth 1000000
set_option maxHeartbeats 0
theorem fxg5 : keepS [774, 1153, 1169, 1154, 768, 756, 721, 564, 555, 467, 460, 441, 429, 502, 543, 714, 705, 693, 686, 667, 655, 936, 968, 1132, 1151, 1146, 1021, 969, 1152, 1150, 970, 1131, 1140, 772, 956, 964, 967, 958, 963, 962, 959, 961, 960, 957, 775, 776, 1] (steps env (run env 100000) 2000 fx4) = .ok fx5 := by kernel_rfl
end Go.Sh
