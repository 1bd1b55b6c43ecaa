/-
  PART OF A CLAIM's PROOF (AwI): a shadow of the machine, or what is shown by it.
-/
import Derived.Test.YteaphfbalgmhlaaGreatDoorAwH
import Derived.Test.YteaphfbalgmhlaaGreatDoorAwS
import Derived.Test.YteaphfbalgmhlaaGreatDoorRows
import Derived.JoinedOf
import Derived.ProofKit
import Derived.LaidMore
import Derived.Lay
import Derived.MakeChecks
import Derived.LaidLaws
set_option linter.unusedSimpArgs false
set_option linter.unusedVariables false
namespace Go.Sh
open Go.Proofs Go.Proofs.YteaphfbalgmhlaaGreatDoor Go.RowKit Go.ChangeShapes
set_option maxRecDepth 100000

theorem own : ownKnob Tryz.prog.godebug = none := by kernel_rfl
theorem laidOut : laidOutB Tryz.prog = true := by kernel_rfl
theorem head_laid : Rows.analyseWantsRow.laid = ("strings.asciiSpace", Lib.tabData .u8 asciiZ) :: Rows.analyseWantsRow.laid.tail := by kernel_rfl
set_option maxRecDepth 100000 in
theorem lifted (os : Os) (started : os.Started) (H : Type) (enc : TypeId × Value → H) :
    ReturnsInHanded {} Tryz.checked os 3 .any (fun w args => (Rows.analyseWantsSpec.pre enc Tryz.prog Tryz.f3 [] false w args ∧ laidMetH Tryz.prog Rows.analyseWantsRow.laid w) ∧ sizedMet enc Tryz.prog Tryz.f3 (OpenSpec.ofChange Rows.analyseWantsSpec) false w args)
      (Rows.analyseWantsSpec.post enc Tryz.prog Tryz.f3 false true false false) := by
  refine handed_law (C := Tryz.checked) (bt := 4) (X := fun w _ => laidMetH Tryz.prog Rows.analyseWantsRow.laid w) (fun _ _ _ hh h => h.of_heap hh) own started (by kernel_rfl) Tryz.func3 rfl (fun ds hl => ?_) rfl Tryz.underlying4 laidOut (fun t ht => ?_)
    (ChangeSpec.witness_shaped (enc := enc) (C := Tryz.checked) (os := os) (X := fun w _ => laidMetH Tryz.prog Rows.analyseWantsRow.laid w) false (World.laidAll Tryz.prog os Rows.analyseWantsRow.laid) #[.slice none 0 0, .slice none 0 0] 8 (World.laidAll_os _ _ _) (World.shaped_of_ZipB (by kernel_rfl) (by kernel_rfl)) (by kernel_rfl) (by kernel_rfl) (by kernel_rfl)
      (by rw [MakeChecks.laidMetH_plain _ _ _ (by kernel_rfl)]; exact laidMet_laidAll _ (by kernel_rfl) (by kernel_rfl))) ?_
  · match ds, hl with
    | [d1, d2], _ => exact ⟨rfl, rfl, rfl⟩
  · have ht' : t ∈ [22, 23] := ht
    rcases List.mem_cons.1 ht' with rfl | h
    · exact ⟨by kernel_rfl, of_decide_eq_true (by kernel_rfl)⟩
    · rw [List.mem_singleton] at h
      subst h
      exact ⟨by kernel_rfl, of_decide_eq_true (by kernel_rfl)⟩
  · intro W base args ds ps hsh hval hA hL
    have hA' : DataW.TrodAll enc Tryz.prog W 0 (fun _ => true) true [22, 23] args.toList ds ps := hA
    obtain ⟨v0, v1, d0, d1, p0, p1, rfl, rfl, rfl, h0, h1⟩ := trodAll_two hA'
    have hL' : laidMetH Tryz.prog Rows.analyseWantsRow.laid W := hL
    rw [MakeChecks.laidMetH_plain _ _ _ (by kernel_rfl), head_laid] at hL'
    exact calls_true hsh hL' (hval 0 _ _ rfl rfl) (hval 1 _ _ rfl rfl) h0 h1

theorem said : Rows.AnalyseWantsSaid :=
  OpenClaim.holds_of_wide 3 Tryz.f3 rfl rfl rfl rfl rfl rfl rfl ⟨rfl, rfl, rfl, rfl, rfl⟩ rfl rfl rfl rfl rfl s_named Tryz.func3 s_closed
    s_inst s_wrap
    (fun os started H enc _ => lifted os started H enc)

end Go.Sh
