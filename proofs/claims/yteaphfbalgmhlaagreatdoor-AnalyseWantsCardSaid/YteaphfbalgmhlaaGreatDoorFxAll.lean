/-
  PART OF A CLAIM's PROOF (FxAll): a shadow of the machine, or what is shown by it.
-/
import Derived.Test.YteaphfbalgmhlaaGreatDoorFx1
import Derived.Test.YteaphfbalgmhlaaGreatDoorFx2
import Derived.Test.YteaphfbalgmhlaaGreatDoorFx3
import Derived.Test.YteaphfbalgmhlaaGreatDoorFx4
import Derived.Test.YteaphfbalgmhlaaGreatDoorFx5
import Derived.Test.YteaphfbalgmhlaaGreatDoorFx6
import Derived.Test.YteaphfbalgmhlaaGreatDoorFx7
import Derived.Test.YteaphfbalgmhlaaGreatDoorFx8
set_option linter.unusedSimpArgs false
set_option linter.unusedVariables false
namespace Go.Sh
open Go.Proofs
theorem fx_alive {w : World} (hw : GlobsAt w 11 gl) : Alive Tryz.prog 4 w :=
  alive_of_goes tz_env (by kernel_rfl) (((((((goes_of tz_env fxg1).trans (goes_of tz_env fxg2)).trans (goes_of tz_env fxg3)).trans (goes_of tz_env fxg4)).trans (goes_of tz_env fxg5)).trans (goes_of tz_env fxg6)).trans (goes_of tz_env fxg7)) fxend hw
#print axioms fx_alive
end Go.Sh
