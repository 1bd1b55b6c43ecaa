/-
  PART OF A CLAIM's PROOF (AwJ): a shadow of the machine, or what is shown by it.
-/
import Derived.Test.YteaphfbalgmhlaaGreatDoorRows
import Derived.LaidByTextLater
import Derived.SevenTiedAt
import Derived.KernelRfl
import Derived.Test.YteaphfbalgmhlaaGreatDoorShWm
set_option linter.unusedSimpArgs false
set_option linter.unusedVariables false
namespace Go.Sh
open Go Go.Proofs Go.Proofs.YteaphfbalgmhlaaGreatDoor
set_option maxRecDepth 100000
def laidT : List (String × DataW Unit) := [("strings.asciiSpace", Rows.laid_strings_asciiSpace), ("unicode.White_Space", Rows.laid_unicode_White_Space), ("unicode/utf8.acceptRanges", Rows.laid_unicode_utf8_acceptRanges), ("strconv.ErrSyntax", Rows.laid_strconv_ErrSyntax), ("strconv.ErrRange", Rows.laid_strconv_ErrRange), ("internal/strconv.uint64pow10", Rows.laid_internal_strconv_uint64pow10), ("math/bits.deBruijn32tab", Rows.laid_math_bits_deBruijn32tab), ("math/bits.deBruijn64tab", Rows.laid_math_bits_deBruijn64tab)]
def laidF : List (String × DataW Unit) := [("strings.asciiSpace", Rows.laid_strings_asciiSpace), ("unicode.White_Space", Rows.laid_unicode_White_Space), ("unicode/utf8.first", Rows.laid_unicode_utf8_first), ("unicode/utf8.acceptRanges", Rows.laid_unicode_utf8_acceptRanges), ("strconv.ErrSyntax", Rows.laid_strconv_ErrSyntax), ("strconv.ErrRange", Rows.laid_strconv_ErrRange), ("internal/strconv.uint64pow10", Rows.laid_internal_strconv_uint64pow10), ("math/bits.deBruijn32tab", Rows.laid_math_bits_deBruijn32tab), ("math/bits.deBruijn64tab", Rows.laid_math_bits_deBruijn64tab)]
theorem pin_laid_unicode_utf8_first : Tryz.pinned.checked.prog.pinnedFits "unicode/utf8.first" = true := by kernel_rfl
theorem tie_hw : Tryz.prog.worded (varsWordLater true) = true := by kernel_rfl
theorem tie_hw2 : Tryz.prog.worded (varsWordLater !true) = false := by kernel_rfl
theorem tie_hroot : Tryz.prog.worded rootWordLater = true := by kernel_rfl
theorem tie_hk : laidT.map (fun x => Tryz.prog.kindOfLater x.1) = ([.data, .listed, .data, .sentinel, .sentinel, .data, .data, .data] : List LaidKind).map some := by kernel_rfl
theorem tie_hg : (Tryz.prog.funcNamed "gosem.cut.vars").isSome = true := by kernel_rfl
theorem tie_hn : varsNamedLaterB Tryz.prog (varsId Tryz.prog) laidT = true := by kernel_rfl
theorem tie_hd : ∀ os tape, varsDone Tryz.prog 400 (varsId Tryz.prog) os tape = true := fun _ _ => by kernel_rfl
theorem tie_h1 : ∀ os tape, (DataW.laidRun Tryz.prog (varsWorld Tryz.prog 400 (varsId Tryz.prog) os tape).memory 8 (laidT.map (·.1))).map (·.1) = some laidT := fun _ _ => by kernel_rfl
theorem tie_h2a : ∀ os tape, (DataW.laidRun Tryz.prog (varsWorld Tryz.prog 400 (varsId Tryz.prog) os tape).memory 8 (laidT.map (·.1))).map (fun x => onceL x.2 .nil) = some true := fun _ _ => by kernel_rfl
theorem tie_h2b : ∀ os tape, (DataW.laidRun Tryz.prog (varsWorld Tryz.prog 400 (varsId Tryz.prog) os tape).memory 8 (laidT.map (·.1))).map (fun x => laidRowsB Tryz.prog (varsWorld Tryz.prog 400 (varsId Tryz.prog) os tape).memory x.2) = some true := fun _ _ => by kernel_rfl
theorem tie_hp : (laidT.all fun x => x.2.handleName?.isNone) = true := by kernel_rfl
theorem tie : Tryz.prog.laidByTextLater laidT [.data, .listed, .data, .sentinel, .sentinel, .data, .data, .data] true :=
  Program.laidByTextLater_by_run 400 8 tie_hw tie_hw2 tie_hroot tie_hk tie_hg tie_hn tie_hd tie_h1 (fun os tape => once_rows (f := laidRowsB Tryz.prog (varsWorld Tryz.prog 400 (varsId Tryz.prog) os tape).memory) (tie_h2a os tape) (tie_h2b os tape)) tie_hp
theorem fits_a : Tryz.pinned.checked.prog.headLifts.contains "ownunsafe" = false := by kernel_rfl
theorem fits_b : Tryz.pinned.checked.prog.funcsFit laidF = true := by kernel_rfl
theorem fits1 : Tryz.pinned.checked.prog.listedFits laidF = true := by
  unfold Program.listedFits
  rw [fits_a, fits_b]
  rfl
theorem analyseWants_row_tie : Rows.analyseWantsRow.laidByTextAt .later Tryz.pinned [.data, .listed, .pinned, .data, .sentinel, .sentinel, .data, .data, .data] true :=
  OpenClaim.laidByTextAt_pinned rfl rfl tie rfl rfl rfl rfl (fun y hy _e => by
    simp only [Rows.analyseWantsRow, List.zip_cons_cons, List.zip_nil_right, List.mem_cons, List.mem_nil_iff, or_false] at hy
    rcases hy with rfl | rfl | rfl | rfl | rfl | rfl | rfl | rfl | rfl
    · cases _e
    · cases _e
    · exact ⟨pin_laid_unicode_utf8_first, by kernel_rfl⟩
    · cases _e
    · cases _e
    · cases _e
    · cases _e
    · cases _e
    · cases _e) fits1
end Go.Sh
