/-
  DERIVED. GIVEN WITH THE SEED: THE PROGRAM's TIES (one call each: nine closed facts by the kernel) AND EACH ROW's TIE, after the 31st guide's Derived/Test/Toyas{Tie, Card}.lean. No idea stands in it: it is a product of the set-up. Laid BY PROGRAM, IN A SANDBOX (cutbox-door.mjs). By AI agents, Wed Nov 11 2026. No macro, syntax, notation, axiom, sorry.
-/
import Derived.Test.YtampbaaiddbacaaDoorRows
import Derived.LaidByTextLater
import Derived.SevenTiedAt
import Derived.LaidSub
import Derived.LaidOnce
namespace Go.Proofs.YtampbaaiddbacaaDoor
open Go
set_option maxRecDepth 100000
theorem seatTie1 : Tryd.prog.laidByTextLater [("querylab/expression.operations", Rows.laid_querylab_expression_operations), ("querylab/algebra.forms", Rows.laid_querylab_algebra_forms)] [.data, .data] true :=
  Program.laidByTextLater_by_one 57 8 117 (by kernel_rfl) (by kernel_rfl) (by kernel_rfl) (by kernel_rfl) (by kernel_rfl) (by kernel_rfl) (fun _ _ => by kernel_rfl)
theorem noOwnUnsafe : Tryd.pinned.checked.prog.headLifts.contains "ownunsafe" = false := by kernel_rfl
theorem tie : Tryd.prog.laidByTextLater [("querylab/expression.operations", Rows.laid_querylab_expression_operations), ("querylab/algebra.forms", Rows.laid_querylab_algebra_forms)] [.data, .data] true :=
  Program.laidByTextLater.sub seatTie1 ["querylab/expression.operations", "querylab/algebra.forms"] (by kernel_rfl) (by kernel_rfl)
theorem randomCovers_row_tie : Rows.randomCoversRow.laidByTextAt .later Tryd.pinned [.data, .data] true :=
  OpenClaim.laidByTextAt_later rfl rfl tie noOwnUnsafe
theorem randomCoversUpto_row_tie : Rows.randomCoversUptoRow.laidByTextAt .later Tryd.pinned [.data, .data] true :=
  OpenClaim.laidByTextAt_later rfl rfl tie noOwnUnsafe
end Go.Proofs.YtampbaaiddbacaaDoor
