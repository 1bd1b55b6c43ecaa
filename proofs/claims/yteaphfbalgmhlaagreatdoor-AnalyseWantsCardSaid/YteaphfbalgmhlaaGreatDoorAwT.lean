/-
  PART OF A CLAIM's PROOF (AwT): a shadow of the machine, or what is shown by it.
-/
import Derived.Test.YteaphfbalgmhlaaGreatDoorFxEnv
import Derived.Test.YteaphfbalgmhlaaGreatDoorShWm
set_option linter.unusedSimpArgs false
set_option linter.unusedVariables false
namespace Go.Sh
open Go.Proofs Go.RowKit
set_option maxRecDepth 100000
theorem tiStr : env.tiR 9 = .ok ⟨.string, 1, 16, some (.string ⟨⟨[]⟩⟩), true, true, []⟩ := by kernel_rfl
theorem tiStrs : env.tiR 32 = .ok ⟨.slice 9, 1, 24, some (.slice none 0 0), false, true, []⟩ := by kernel_rfl
theorem tiGivens : env.tiR 22 = .ok ⟨.slice 34, 1, 24, some (.slice none 0 0), false, true, []⟩ := by kernel_rfl
theorem tiGiven : env.tiR 34 = .ok ⟨.struct [⟨31, 0, 2, true⟩, ⟨32, 2, 1, true⟩], 3, 56, some (.agg ⟨[(.string ⟨⟨[]⟩⟩), (.string ⟨⟨[]⟩⟩), (.slice none 0 0)]⟩), false, true, []⟩ := by kernel_rfl
theorem tiLabel : env.tiR 31 = .ok ⟨.struct [⟨9, 0, 1, true⟩, ⟨9, 1, 1, true⟩], 2, 32, some (.agg ⟨[(.string ⟨⟨[]⟩⟩), (.string ⟨⟨[]⟩⟩)]⟩), true, true, []⟩ := by kernel_rfl
theorem tiLabels : env.tiR 23 = .ok ⟨.slice 31, 1, 24, some (.slice none 0 0), false, true, []⟩ := by kernel_rfl
theorem tiAGivens : env.tiR 26 = .ok ⟨.slice 35, 1, 24, some (.slice none 0 0), false, true, []⟩ := by kernel_rfl
theorem tiAGiven : env.tiR 35 = .ok ⟨.struct [⟨31, 0, 2, true⟩, ⟨32, 2, 1, true⟩], 3, 56, some (.agg ⟨[(.string ⟨⟨[]⟩⟩), (.string ⟨⟨[]⟩⟩), (.slice none 0 0)]⟩), false, true, []⟩ := by kernel_rfl
theorem tiPlan : env.tiR 28 = .ok ⟨.struct [⟨25, 0, 1, true⟩, ⟨26, 1, 1, true⟩], 2, 48, some (.agg ⟨[(.slice none 0 0), (.slice none 0 0)]⟩), false, true, []⟩ := by kernel_rfl
theorem tiRPlan : env.tiR 42 = .ok ⟨.struct [⟨25, 0, 1, true⟩, ⟨22, 1, 1, true⟩], 2, 48, some (.agg ⟨[(.slice none 0 0), (.slice none 0 0)]⟩), false, true, []⟩ := by kernel_rfl
theorem tiMap : env.tiR 71 = .ok ⟨.map 9 4, 1, 8, some (.map none), false, true, []⟩ := by kernel_rfl
theorem tiBool : env.tiR 4 = .ok ⟨.bool, 1, 1, some (.bool false), true, true, []⟩ := by kernel_rfl
theorem tiInt : env.tiR 3 = .ok ⟨.int .i64, 1, 8, some (.int .i64 (.ofNat 0)), true, true, []⟩ := by kernel_rfl
theorem fn_law : env.fn 3 = some Tryz.f3 := by kernel_rfl
theorem call_law (m : Mem) (args : List Value) : callF env m 3 args = .ok (.enter 3 args m) := callF_go fn_law rfl (by kernel_rfl)
theorem fn_long : env.fn 5 = some Tryz.f5 := by kernel_rfl
theorem call_long (m : Mem) (args : List Value) : callF env m 5 args = .ok (.enter 5 args m) := callF_go fn_long rfl (by kernel_rfl)
theorem fn_aWants : env.fn 6 = some Tryz.f6 := by kernel_rfl
theorem call_aWants (m : Mem) (args : List Value) : callF env m 6 args = .ok (.enter 6 args m) := callF_go fn_aWants rfl (by kernel_rfl)
theorem fn_rWants : env.fn 7 = some Tryz.f7 := by kernel_rfl
theorem call_rWants (m : Mem) (args : List Value) : callF env m 7 args = .ok (.enter 7 args m) := callF_go fn_rWants rfl (by kernel_rfl)
theorem fn_Same : env.fn 8 = some Tryz.f8 := by kernel_rfl
theorem call_Same (m : Mem) (args : List Value) : callF env m 8 args = .ok (.enter 8 args m) := callF_go fn_Same rfl (by kernel_rfl)
theorem fn_in : env.fn 15 = some Tryz.f15 := by kernel_rfl
theorem call_in (m : Mem) (args : List Value) : callF env m 15 args = .ok (.enter 15 args m) := callF_go fn_in rfl (by kernel_rfl)
theorem fn_IF : env.fn 12 = some Tryz.f12 := by kernel_rfl
theorem call_IF (m : Mem) (args : List Value) : callF env m 12 args = .ok (.enter 12 args m) := callF_go fn_IF rfl (by kernel_rfl)
theorem fn_clo : env.fn 13 = some Tryz.f13 := by kernel_rfl
theorem call_clo (m : Mem) (args : List Value) : callF env m 13 args = .ok (.enter 13 args m) := callF_go fn_clo rfl (by kernel_rfl)
theorem fn_given : env.fn 14 = some Tryz.f14 := by kernel_rfl
theorem call_given (m : Mem) (args : List Value) : callF env m 14 args = .ok (.enter 14 args m) := callF_go fn_given rfl (by kernel_rfl)
theorem fn_fixed : env.fn 4 = some Tryz.f4 := by kernel_rfl
theorem call_fixed (m : Mem) (args : List Value) : callF env m 4 args = .ok (.enter 4 args m) := callF_go fn_fixed rfl (by kernel_rfl)
end Go.Sh
