/-
  PART OF A CLAIM's PROOF (Fx6): a shadow of the machine, or what is shown by it.
-/
import Derived.Test.YteaphfbalgmhlaaGreatDoorFxS
set_option linter.unusedSimpArgs false
set_option linter.unusedVariables false
namespace Go.Sh
set_option maxRecDepth 1000000
set_option maxHeartbeats 0
theorem fxg6 : keepS [1361, 756, 1359, 1282, 936, 774, 956, 959, 1277, 768, 721, 564, 555, 467, 460, 441, 429, 502, 543, 714, 705, 693, 686, 667, 655, 1283, 1310, 1328, 1355, 1284, 1360, 772, 958, 1274, 1278, 1276, 1281, 1275, 1262, 961, 1255, 960, 1252, 957, 775, 776, 1] (steps env (run env 100000) 2000 fx5) = .ok fx6 := by kernel_rfl
end Go.Sh
