/-
  PART OF A CLAIM's PROOF (FxEnv): a shadow of the machine, or what is shown by it.
-/
import Derived.Test.YteaphfbalgmhlaaGreatDoorShEa
import Derived.Test.YteaphfbalgmhlaaGreatDoorTryzPlain
import Derived.KernelRfl
set_option linter.unusedSimpArgs false
set_option linter.unusedVariables false
namespace Go.Proofs
open Go.RowKit Go.Maps Go.Sort Go.Shelf
theorem Tryz.sorts117 (m : Nat) : AnyZ.SortsIn Tryz.prog Tryz.sorted117_ren Fence.wide m :=
  ⟨fun blk off cap ss W hH hblk hsz => callsIn_wide.2 (AnyM.slices_Sort_string Tryz.sort172 blk off cap ss W hH hblk hsz),
   fun p cap W => callsIn_wide.2 (AnyM.slices_Sort_string_none Tryz.sort172 p cap W)⟩
end Go.Proofs
namespace Go.Sh
open Go.Proofs Go.RowKit

theorem tz_names : namesOk Tryz.prog.funcs.toList = true := by kernel_rfl
theorem tz_mixed : Tryz.prog.follows .mixedOrders = true := by kernel_rfl
theorem tz_ext200 : ExtAt Tryz.prog 200 .index := ⟨⟨Tryz.f200, Tryz.func200, by kernel_rfl, by kernel_rfl, by kernel_rfl, by kernel_rfl⟩⟩
theorem tz_ext234 : ExtAt Tryz.prog 234 .compare := ⟨⟨Tryz.f234, Tryz.func234, by kernel_rfl, by kernel_rfl, by kernel_rfl, by kernel_rfl⟩⟩
theorem tz_sorts : SortsKeys Tryz.prog 117 173 9 := by
  refine ⟨Tryz.underlying9, enters_of Tryz.func117 (by kernel_rfl) rfl, fun Bm b nn D0 R w hBm hm hown hmax hbytes => ?_⟩
  have hseq : SeqGives Fence.wide 2 Tryz.prog 173 #[.pointer (some ⟨Bm, 0, none⟩)] encStr (fun ss => ss.Perm (strKeys D0)) (Maps.size D0) w :=
    AnyZ.keys_gives (ρ := Tryz.keys118_ren) { Tryz.keys118 with } Fence.wide _ trivial rfl (by omega) Bm b nn D0 _ hBm hm hown
  exact callsIn_wide.1 (AnyZ.sorted_in Tryz.sorted117 Fence.wide 5 trivial trivial trivial trivial rfl (by omega) (Tryz.sorts117 _) (enters_of Tryz.func172 (by kernel_rfl) rfl) 173 #[.pointer (some ⟨Bm, 0, none⟩)] trivial (enters_of Tryz.func173 (by kernel_rfl) rfl) _ _ hmax hbytes _ hseq)

noncomputable def exT : Nat → Option ExtK
  | 200 => some .index
  | 234 => some .compare
  | _ => none
noncomputable def prT : Nat → Option (Nat × TypeId)
  | 117 => some (173, 9)
  | _ => none
noncomputable def env : Env := envOf Tryz.prog (fun f => extO (exT f)) (fun f => primO (prT f)) 11
theorem tz_env : EnvOk Tryz.prog env := by
  refine envOk_of tz_names (fun f k h => ?_) (fun f g K h => ?_) tz_mixed
  · unfold exT at h
    split at h
    · cases h; exact tz_ext200
    · cases h; exact tz_ext234
    · cases h
  · unfold prT at h
    split at h
    · cases h; exact tz_sorts
    · cases h
end Go.Sh
