/-
  DERIVED. GIVEN WITH THE SEED: THE PROGRAM's TIES (one call each: nine closed facts by the kernel) AND EACH ROW's TIE, after the 31st guide's Derived/Test/Toyas{Tie, Card}.lean. No idea stands in it: it is a product of the set-up. Laid BY PROGRAM, IN A SANDBOX (cutbox-door.mjs). By AI agents, Wed Nov 11 2026. No macro, syntax, notation, axiom, sorry.
-/
import Derived.Test.YtejeplcandhgdaaDoorRows
import Derived.LaidByTextLater
import Derived.SevenTiedAt
import Derived.LaidSub
import Derived.LaidOnce
namespace Go.Proofs.YtejeplcandhgdaaDoor
open Go
set_option maxRecDepth 100000
theorem seatTie1 : Tryd.prog.laidByTextLater [("math/bits.deBruijn32tab", Rows.laid_math_bits_deBruijn32tab), ("math/bits.deBruijn64tab", Rows.laid_math_bits_deBruijn64tab), ("internal/strconv.uint64pow10", Rows.laid_internal_strconv_uint64pow10), ("reticent/table.words", Rows.laid_reticent_table_words), ("reticent/table.arities", Rows.laid_reticent_table_arities)] [.data, .data, .data, .widerDeep, .data] true :=
  Program.laidByTextLater_by_one 34 8 65 (by kernel_rfl) (by kernel_rfl) (by kernel_rfl) (by kernel_rfl) (by kernel_rfl) (by kernel_rfl) (fun _ _ => by kernel_rfl)
theorem noOwnUnsafe : Tryd.pinned.checked.prog.headLifts.contains "ownunsafe" = false := by kernel_rfl
theorem tie : Tryd.prog.laidByTextLater [("reticent/table.arities", Rows.laid_reticent_table_arities)] [.data] true :=
  Program.laidByTextLater.sub seatTie1 ["reticent/table.arities"] (by kernel_rfl) (by kernel_rfl)
theorem mutantDiffers_row_tie : Rows.mutantDiffersRow.laidByTextAt .later Tryd.pinned [.data] true :=
  OpenClaim.laidByTextAt_later rfl rfl tie noOwnUnsafe
theorem stepRules_row_tie : Rows.stepRulesRow.laidByTextAt .later Tryd.pinned [.data] true :=
  OpenClaim.laidByTextAt_later rfl rfl tie noOwnUnsafe
theorem stepStays_row_tie : Rows.stepStaysRow.laidByTextAt .later Tryd.pinned [.data] true :=
  OpenClaim.laidByTextAt_later rfl rfl tie noOwnUnsafe
theorem runParts_row_tie : Rows.runPartsRow.laidByTextAt .later Tryd.pinned [.data] true :=
  OpenClaim.laidByTextAt_later rfl rfl tie noOwnUnsafe
theorem tie2 : Tryd.prog.laidByTextLater [("reticent/table.words", Rows.laid_reticent_table_words)] [.widerDeep] true :=
  Program.laidByTextLater.sub seatTie1 ["reticent/table.words"] (by kernel_rfl) (by kernel_rfl)
theorem codeReads_row_tie : Rows.codeReadsRow.laidByTextAt .later Tryd.pinned [.widerDeep] true :=
  OpenClaim.laidByTextAt_later rfl rfl tie2 noOwnUnsafe
theorem tie3 : Tryd.prog.laidByTextLater [("reticent/table.words", Rows.laid_reticent_table_words), ("reticent/table.arities", Rows.laid_reticent_table_arities)] [.widerDeep, .data] true :=
  Program.laidByTextLater.sub seatTie1 ["reticent/table.words", "reticent/table.arities"] (by kernel_rfl) (by kernel_rfl)
theorem tableNames_row_tie : Rows.tableNamesRow.laidByTextAt .later Tryd.pinned [.widerDeep, .data] true :=
  OpenClaim.laidByTextAt_later rfl rfl tie3 noOwnUnsafe
theorem tableBack_row_tie : Rows.tableBackRow.laidByTextAt .later Tryd.pinned [.widerDeep, .data] true :=
  OpenClaim.laidByTextAt_later rfl rfl tie3 noOwnUnsafe
theorem tie4 : Tryd.prog.laidByTextLater [("math/bits.deBruijn32tab", Rows.laid_math_bits_deBruijn32tab), ("math/bits.deBruijn64tab", Rows.laid_math_bits_deBruijn64tab), ("internal/strconv.uint64pow10", Rows.laid_internal_strconv_uint64pow10), ("reticent/table.words", Rows.laid_reticent_table_words)] [.data, .data, .data, .widerDeep] true :=
  Program.laidByTextLater.sub seatTie1 ["math/bits.deBruijn32tab", "math/bits.deBruijn64tab", "internal/strconv.uint64pow10", "reticent/table.words"] (by kernel_rfl) (by kernel_rfl)
theorem codeBack_row_tie : Rows.codeBackRow.laidByTextAt .later Tryd.pinned [.data, .data, .data, .widerDeep] true :=
  OpenClaim.laidByTextAt_later rfl rfl tie4 noOwnUnsafe
theorem mutantDiffersUpto_row_tie : Rows.mutantDiffersUptoRow.laidByTextAt .later Tryd.pinned [.data] true :=
  OpenClaim.laidByTextAt_later rfl rfl tie noOwnUnsafe
theorem codeReadsUpto_row_tie : Rows.codeReadsUptoRow.laidByTextAt .later Tryd.pinned [.widerDeep] true :=
  OpenClaim.laidByTextAt_later rfl rfl tie2 noOwnUnsafe
theorem tableNamesUpto_row_tie : Rows.tableNamesUptoRow.laidByTextAt .later Tryd.pinned [.widerDeep, .data] true :=
  OpenClaim.laidByTextAt_later rfl rfl tie3 noOwnUnsafe
theorem stepRulesUpto_row_tie : Rows.stepRulesUptoRow.laidByTextAt .later Tryd.pinned [.data] true :=
  OpenClaim.laidByTextAt_later rfl rfl tie noOwnUnsafe
theorem stepStaysUpto_row_tie : Rows.stepStaysUptoRow.laidByTextAt .later Tryd.pinned [.data] true :=
  OpenClaim.laidByTextAt_later rfl rfl tie noOwnUnsafe
theorem tableBackUpto_row_tie : Rows.tableBackUptoRow.laidByTextAt .later Tryd.pinned [.widerDeep, .data] true :=
  OpenClaim.laidByTextAt_later rfl rfl tie3 noOwnUnsafe
theorem runPartsUpto_row_tie : Rows.runPartsUptoRow.laidByTextAt .later Tryd.pinned [.data] true :=
  OpenClaim.laidByTextAt_later rfl rfl tie noOwnUnsafe
theorem codeBackUpto_row_tie : Rows.codeBackUptoRow.laidByTextAt .later Tryd.pinned [.data, .data, .data, .widerDeep] true :=
  OpenClaim.laidByTextAt_later rfl rfl tie4 noOwnUnsafe
end Go.Proofs.YtejeplcandhgdaaDoor
