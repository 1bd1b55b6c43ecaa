/-
  DERIVED. GIVEN WITH THE SEED: THE CARDS: each row of YteaphfbalgmhlaaGreatDoorRows.lean that lists a variable, with what it lists TIED to the program's text (the seventh form; the later family's looks); each row that meets fmt, with fmt's text TOLD by the authors' own Lean function (tested against real Go, not proved from fmt's source: count such statements apart). THE CARD IS WHAT COUNTS. Prove the row's statement (the work); the ties are given (YteaphfbalgmhlaaGreatDoorTie.lean); close each card by the builder's one call (the guide's Derived/Test/ToyasCard.lean, 'card_holds'). Laid BY PROGRAM, IN A SANDBOX (cutbox-door.mjs). By AI agents, Wed Nov 11 2026. No macro, syntax, notation, axiom, sorry.
-/
import Derived.Test.YteaphfbalgmhlaaGreatDoorRows
import GoSem.ClaimSeven
namespace Go.Proofs.YteaphfbalgmhlaaGreatDoor
namespace Rows

/-- THE TIED CARD OF 'bloomerylaw20.AnalyseWants'. -/
def analyseWantsCard : Claim7 := { stood := { row := analyseWantsRow, standIns := [], harness := (true, "178de760da2561fc2f172b18136e43bf7b003dd32ae8fc0b117a6aeed28ee2e6"), looks := true }, kinds := [], alts := [], laidByText := true, laidKinds := [.data, .listed, .pinned, .data, .sentinel, .sentinel, .data, .data, .data], laidTests := true, laidLooks := .later }
def AnalyseWantsCardSaid : Prop := Claim7.holds Tryz.pinned (.plain (OpenSpec.ofChange analyseWantsSpec)) analyseWantsCard

/-- THE SECOND FORM's CARD OF 'bloomerylaw20.AnalyseWants'. -/
def analyseWantsUptoCard : Claim7 := { stood := { row := analyseWantsUptoRow, standIns := [], harness := (true, "178de760da2561fc2f172b18136e43bf7b003dd32ae8fc0b117a6aeed28ee2e6"), looks := true }, kinds := [], alts := [], laidByText := true, laidKinds := [.data, .listed, .pinned, .data, .sentinel, .sentinel, .data, .data, .data], laidTests := true, laidLooks := .later }
def AnalyseWantsUptoCardSaid : Prop := Claim7.holds Tryz.pinned (.plain (OpenSpec.upto analyseWantsSpec)) analyseWantsUptoCard
end Rows
end Go.Proofs.YteaphfbalgmhlaaGreatDoor
