/-
  PART OF A CLAIM's PROOF (TryzPlain): a shadow of the machine, or what is shown by it.
-/
import Derived.Shelf.SlIter.Nil
import Derived.Shelf.SortM.Plain
import Derived.Shelf.SortM.SortNone
import Derived.Ground.GgzProg
import Derived.Ground.SlgmProg
import Derived.Test.YteaphfbalgmhlaaGreatDoorProg
set_option linter.unusedSimpArgs false
set_option linter.unusedVariables false
/-
  Contracts of the shelf at this dump (slices.Sorted over maps.Keys), in plain words.
-/
namespace Go.Proofs
open Go.Shelf
def Tryz.keys118_ren : Go.Shelf.Ren := ⟨fun | 7 => 118 | 10 => 173 | n => n, fun | 23 => 204 | 26 => 9 | 3 => 49 | 28 => 212 | 0 => 0 | 27 => 211 | 33 => 83 | 4 => 4 | n => n, fun | n => n⟩
theorem Tryz.keys118 : Go.Proofs.SlLaysZ.n7 Tryz.prog Tryz.keys118_ren := {
  mixed := by kernel_rfl
  f7 := ⟨Tryz.f118.name, by decide, Tryz.func118.trans (congrArg some (by kernel_rfl))⟩
  f10 := ⟨Tryz.f173.name, by decide, Tryz.func173.trans (congrArg some (by kernel_rfl))⟩
  t0 := Tryz.underlying0
  a0 := Tryz.isAgg0
  z0 := Tryz.sizeOf0
  v0 := Tryz.zeroValue0
  t4 := Tryz.underlying4
  a4 := Tryz.isAgg4
  z4 := Tryz.sizeOf4
  v4 := Tryz.zeroValue4
  t23 := Tryz.underlying204
  a23 := Tryz.isAgg204
  z23 := Tryz.sizeOf204
  v23 := Tryz.zeroValue204
  t26 := Tryz.underlying9
  a26 := Tryz.isAgg9
  z26 := Tryz.sizeOf9
  v26 := Tryz.zeroValue9
  t27 := Tryz.underlying211
  a27 := Tryz.isAgg211
  z27 := Tryz.sizeOf211
  v27 := Tryz.zeroValue211
  t28 := Tryz.underlying212
  a28 := Tryz.isAgg212
  z28 := Tryz.sizeOf212
  v28 := Tryz.zeroValue212
  t33 := Tryz.underlying83
  a33 := Tryz.isAgg83
  z33 := Tryz.sizeOf83
  v33 := Tryz.zeroValue83 }
def Tryz.sorted117_ren : Go.Shelf.Ren := ⟨fun | 6 => 117 | 8 => 171 | 9 => 172 | 11 => 242 | 13 => 158 | 12 => 243 | 23 => 220 | 24 => 221 | 14 => 298 | 15 => 299 | 16 => 300 | 17 => 301 | 18 => 302 | 19 => 303 | 20 => 304 | 21 => 305 | 22 => 306 | 25 => 339 | 26 => 280 | 27 => 281 | 28 => 340 | 29 => 341 | 30 => 138 | 31 => 365 | n => n, fun | 26 => 9 | 28 => 212 | 24 => 32 | 0 => 0 | 3 => 3 | 37 => 240 | 48 => 286 | 50 => 288 | 4 => 4 | 40 => 279 | 39 => 278 | 45 => 136 | 5 => 5 | 9 => 9 | 51 => 328 | 55 => 202 | 57 => 357 | 58 => 358 | 33 => 83 | n => n, fun | n => n⟩
theorem Tryz.sorted117 : Go.Proofs.SlLaysZ.n6 Tryz.prog Tryz.sorted117_ren := {
  mixed := by kernel_rfl
  f6 := ⟨Tryz.f117.name, by decide, Tryz.func117.trans (congrArg some (by kernel_rfl))⟩
  f8 := ⟨Tryz.f171.name, by decide, Tryz.func171.trans (congrArg some (by kernel_rfl))⟩
  f11 := ⟨Tryz.f242.name, by decide, Tryz.func242.trans (congrArg some (by kernel_rfl))⟩
  t0 := Tryz.underlying0
  a0 := Tryz.isAgg0
  z0 := Tryz.sizeOf0
  v0 := Tryz.zeroValue0
  t24 := Tryz.underlying32
  a24 := Tryz.isAgg32
  z24 := Tryz.sizeOf32
  v24 := Tryz.zeroValue32
  t26 := Tryz.underlying9
  a26 := Tryz.isAgg9
  z26 := Tryz.sizeOf9
  v26 := Tryz.zeroValue9
  t28 := Tryz.underlying212
  a28 := Tryz.isAgg212
  z28 := Tryz.sizeOf212
  v28 := Tryz.zeroValue212
  i26 := by kernel_rfl }
def Tryz.sort172_ren : Go.Shelf.Ren := ⟨fun | 6 => 172 | 8 => 158 | 9 => 243 | 19 => 220 | 20 => 221 | 21 => 298 | 22 => 299 | 23 => 300 | 24 => 301 | 25 => 302 | 26 => 303 | 27 => 304 | 28 => 305 | 29 => 306 | 36 => 339 | 31 => 280 | 32 => 281 | 37 => 340 | 38 => 341 | 39 => 138 | 41 => 365 | n => n, fun | 27 => 32 | 29 => 9 | 3 => 3 | 32 => 240 | 26 => 32 | 0 => 0 | 44 => 286 | 46 => 288 | 4 => 4 | 36 => 279 | 35 => 278 | 41 => 136 | 5 => 5 | 9 => 9 | 53 => 328 | 57 => 202 | 63 => 357 | 64 => 358 | n => n, fun | n => n⟩
theorem Tryz.sort172 : Go.Proofs.SlLaysM.n6 Tryz.prog Tryz.sort172_ren := {
  mixed := by kernel_rfl
  f6 := ⟨Tryz.f172.name, by decide, Tryz.func172.trans (congrArg some (by kernel_rfl))⟩
  f8 := Tryz.func158.trans (congrArg some (by kernel_rfl))
  f9 := ⟨Tryz.f243.name, by decide, Tryz.func243.trans (congrArg some (by kernel_rfl))⟩
  f19 := Tryz.func220.trans (congrArg some (by kernel_rfl))
  f20 := Tryz.func221.trans (congrArg some (by kernel_rfl))
  f21 := ⟨Tryz.f298.name, by decide, Tryz.func298.trans (congrArg some (by kernel_rfl))⟩
  f22 := ⟨Tryz.f299.name, by decide, Tryz.func299.trans (congrArg some (by kernel_rfl))⟩
  f23 := ⟨Tryz.f300.name, by decide, Tryz.func300.trans (congrArg some (by kernel_rfl))⟩
  f24 := ⟨Tryz.f301.name, by decide, Tryz.func301.trans (congrArg some (by kernel_rfl))⟩
  f25 := ⟨Tryz.f302.name, by decide, Tryz.func302.trans (congrArg some (by kernel_rfl))⟩
  f26 := ⟨Tryz.f303.name, by decide, Tryz.func303.trans (congrArg some (by kernel_rfl))⟩
  f27 := ⟨Tryz.f304.name, by decide, Tryz.func304.trans (congrArg some (by kernel_rfl))⟩
  f28 := ⟨Tryz.f305.name, by decide, Tryz.func305.trans (congrArg some (by kernel_rfl))⟩
  f29 := ⟨Tryz.f306.name, by decide, Tryz.func306.trans (congrArg some (by kernel_rfl))⟩
  f31 := Tryz.func280.trans (congrArg some (by kernel_rfl))
  f32 := Tryz.func281.trans (congrArg some (by kernel_rfl))
  f36 := ⟨Tryz.f339.name, by decide, Tryz.func339.trans (congrArg some (by kernel_rfl))⟩
  f37 := ⟨Tryz.f340.name, by decide, Tryz.func340.trans (congrArg some (by kernel_rfl))⟩
  f38 := ⟨Tryz.f341.name, by decide, Tryz.func341.trans (congrArg some (by kernel_rfl))⟩
  f39 := ⟨Tryz.f138.name, by decide, Tryz.func138.trans (congrArg some (by kernel_rfl))⟩
  f41 := ⟨Tryz.f365.name, by decide, Tryz.func365.trans (congrArg some (by kernel_rfl))⟩
  t0 := Tryz.underlying0
  a0 := Tryz.isAgg0
  z0 := Tryz.sizeOf0
  v0 := Tryz.zeroValue0
  t3 := Tryz.underlying3
  a3 := Tryz.isAgg3
  z3 := Tryz.sizeOf3
  v3 := Tryz.zeroValue3
  t4 := Tryz.underlying4
  a4 := Tryz.isAgg4
  z4 := Tryz.sizeOf4
  v4 := Tryz.zeroValue4
  t5 := Tryz.underlying5
  a5 := Tryz.isAgg5
  z5 := Tryz.sizeOf5
  v5 := Tryz.zeroValue5
  t9 := Tryz.underlying9
  a9 := Tryz.isAgg9
  z9 := Tryz.sizeOf9
  v9 := Tryz.zeroValue9
  t26 := Tryz.underlying32
  a26 := Tryz.isAgg32
  z26 := Tryz.sizeOf32
  v26 := Tryz.zeroValue32
  t27 := Tryz.underlying32
  a27 := Tryz.isAgg32
  z27 := Tryz.sizeOf32
  v27 := Tryz.zeroValue32
  t29 := Tryz.underlying9
  a29 := Tryz.isAgg9
  z29 := Tryz.sizeOf9
  v29 := Tryz.zeroValue9
  t32 := Tryz.underlying240
  a32 := Tryz.isAgg240
  z32 := Tryz.sizeOf240
  v32 := Tryz.zeroValue240
  t35 := Tryz.underlying278
  a35 := Tryz.isAgg278
  z35 := Tryz.sizeOf278
  v35 := Tryz.zeroValue278
  t36 := Tryz.underlying279
  a36 := Tryz.isAgg279
  z36 := Tryz.sizeOf279
  v36 := Tryz.zeroValue279
  t41 := Tryz.underlying136
  a41 := Tryz.isAgg136
  z41 := Tryz.sizeOf136
  v41 := Tryz.zeroValue136
  t44 := Tryz.underlying286
  a44 := Tryz.isAgg286
  z44 := Tryz.sizeOf286
  v44 := Tryz.zeroValue286
  t46 := Tryz.underlying288
  a46 := Tryz.isAgg288
  z46 := Tryz.sizeOf288
  v46 := Tryz.zeroValue288
  t53 := Tryz.underlying328
  a53 := Tryz.isAgg328
  z53 := Tryz.sizeOf328
  v53 := Tryz.zeroValue328
  t57 := Tryz.underlying202
  a57 := Tryz.isAgg202
  z57 := Tryz.sizeOf202
  v57 := Tryz.zeroValue202
  t63 := Tryz.underlying357
  a63 := Tryz.isAgg357
  z63 := Tryz.sizeOf357
  v63 := Tryz.zeroValue357
  t64 := Tryz.underlying358
  a64 := Tryz.isAgg358
  z64 := Tryz.sizeOf358
  v64 := Tryz.zeroValue358 }
end Go.Proofs
