/-
  PART OF A CLAIM's PROOF (Fx7): a shadow of the machine, or what is shown by it.
-/
import Derived.Test.YteaphfbalgmhlaaGreatDoorFxS
set_option linter.unusedSimpArgs false
set_option linter.unusedVariables false
namespace Go.Sh
set_option maxRecDepth 1000000
set_option maxHeartbeats 0
theorem fxg7 : keepS [1883, 1876, 1875, 1878, 1877, 1879, 1881, 1880, 1620, 1637, 1872, 1874, 1867, 1873, 772, 768, 756, 721, 564, 555, 467, 460, 441, 429, 502, 543, 714, 705, 693, 686, 667, 655, 958, 936, 774, 956, 1274, 1639, 1870, 1869, 1282, 959, 1277, 1814, 1865, 1276, 1866, 1871, 1262, 961, 1255, 960, 1252, 957, 775, 776, 1] (steps env (run env 100000) 2000 fx6) = .ok fx7 := by kernel_rfl
end Go.Sh
