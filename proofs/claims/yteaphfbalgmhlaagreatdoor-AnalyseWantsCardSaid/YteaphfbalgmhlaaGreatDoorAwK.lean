/-
  PART OF A CLAIM's PROOF (AwK): a shadow of the machine, or what is shown by it.
-/
import Derived.Test.YteaphfbalgmhlaaGreatDoorAwI
import Derived.Test.YteaphfbalgmhlaaGreatDoorAwJ
import Derived.Test.YteaphfbalgmhlaaGreatDoorCards
import Derived.SevenTiedAt
set_option linter.unusedSimpArgs false
set_option linter.unusedVariables false
namespace Go.Sh
open Go Go.Proofs Go.Proofs.YteaphfbalgmhlaaGreatDoor Go.RowKit Go.ChangeShapes
set_option maxRecDepth 100000
theorem k_wf : Rows.analyseWantsRow.wfByText (OpenSpec.ofChange Rows.analyseWantsSpec) = true := by kernel_rfl
theorem k_main : Tryz.pinned.checked.prog.mainIs = some (true, "178de760da2561fc2f172b18136e43bf7b003dd32ae8fc0b117a6aeed28ee2e6".toList) := by kernel_rfl
theorem k_looks : true = Tryz.pinned.checked.prog.looks [] := by kernel_rfl
theorem k_st0 : Tryz.prog.wantsStandIn 22 = false := by kernel_rfl
theorem k_st1 : Tryz.prog.wantsStandIn 23 = false := by kernel_rfl
theorem goes_none {P : Program} (h : P.funcs.any Func.goes = false) (f : FuncId) : P.goes f = false := by
  have each : ∀ g : Nat, (P.funcs[g]?).any Func.goes = false := fun g => by
    cases hq : P.funcs[g]? with
    | none => rfl
    | some fn =>
      have hm : fn ∈ P.funcs := Array.mem_of_getElem? hq
      have := Array.any_eq_false'.1 h fn hm
      simpa using this
  unfold Program.goes
  rw [h, Bool.and_false, Bool.or_false]
  simp only [each]
  simp
theorem goesBy_none {P : Program} {c : OpenClaim} (h : P.funcs.any Func.goes = false) (hs : c.start = .entering) : false = c.goesBy P := by
  unfold OpenClaim.goesBy Program.goesAt Program.goesFrom
  rw [hs]
  cases P.funcNamed c.func with
  | none => rfl
  | some f => simp [goes_none h]
theorem k_nogo : Tryz.pinned.checked.prog.funcs.any Func.goes = false := by kernel_rfl
theorem k_goes : false = Rows.analyseWantsRow.goesBy Tryz.pinned.checked.prog := goesBy_none k_nogo rfl
theorem k_fn {f : FuncId} (h : Tryz.prog.funcNamed Rows.analyseWantsRow.func = some f) : f = 3 := (Option.some.inj (s_named.symm.trans h)).symm
end Go.Sh
namespace Go.Proofs.YteaphfbalgmhlaaGreatDoor
open Go Go.Sh Go.RowKit Go.ChangeShapes
set_option maxRecDepth 100000

/-- THE CARD -/
theorem card_holds : Rows.AnalyseWantsCardSaid :=
  Claim7.holds_tied_plain_at .later [] [.data, .listed, .pinned, .data, .sentinel, .sentinel, .data, .data, .data] true (true, "178de760da2561fc2f172b18136e43bf7b003dd32ae8fc0b117a6aeed28ee2e6") true
    Go.Sh.said (fun _ h => by cases h) k_wf (fun _ h => by cases h) Go.Sh.analyseWants_row_tie rfl ⟨rfl, rfl⟩ k_main rfl
    (fun f fn hf hfn => by
      obtain rfl : f = 3 := k_fn hf
      obtain rfl : fn = Tryz.f3 := (Option.some.inj (Tryz.func3.symm.trans hfn)).symm
      exact ⟨k_looks, fun j t ht => by
        have ht' : (#[22, 23] : Array Nat)[j]? = some t := ht
        rcases j with _ | _ | j
        · cases ht'; exact k_st0
        · cases ht'; exact k_st1
        · simp at ht'⟩)
    k_goes
#print axioms card_holds
end Go.Proofs.YteaphfbalgmhlaaGreatDoor
