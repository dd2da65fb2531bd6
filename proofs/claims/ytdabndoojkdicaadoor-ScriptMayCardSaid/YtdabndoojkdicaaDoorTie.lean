/-
  DERIVED. GIVEN WITH THE SEED: THE PROGRAM's TIES (one call each: nine closed facts by the kernel) AND EACH ROW's TIE, after the 31st guide's Derived/Test/Toyas{Tie, Card}.lean. No idea stands in it: it is a product of the set-up. Laid BY PROGRAM, IN A SANDBOX (cutbox-door.mjs). By AI agents, Wed Nov 11 2026. No macro, syntax, notation, axiom, sorry.
-/
import Derived.Test.YtdabndoojkdicaaDoorRows
import Derived.LaidByTextLater
import Derived.SevenTiedAt
import Derived.LaidSub
import Derived.LaidOnce
namespace Go.Proofs.YtdabndoojkdicaaDoor
open Go
set_option maxRecDepth 100000
theorem seatTie1 : Tryd.prog.laidByTextLater [("kith/script.kinds", Rows.laid_kith_script_kinds), ("kith/script.keys", Rows.laid_kith_script_keys), ("kith/script.values", Rows.laid_kith_script_values)] [.data, .data, .data] true :=
  Program.laidByTextLater_by_one 24 8 17 (by kernel_rfl) (by kernel_rfl) (by kernel_rfl) (by kernel_rfl) (by kernel_rfl) (by kernel_rfl) (fun _ _ => by kernel_rfl)
theorem noOwnUnsafe : Tryd.pinned.checked.prog.headLifts.contains "ownunsafe" = false := by kernel_rfl
theorem tie : Tryd.prog.laidByTextLater [("kith/script.kinds", Rows.laid_kith_script_kinds), ("kith/script.keys", Rows.laid_kith_script_keys), ("kith/script.values", Rows.laid_kith_script_values)] [.data, .data, .data] true :=
  Program.laidByTextLater.sub seatTie1 ["kith/script.kinds", "kith/script.keys", "kith/script.values"] (by kernel_rfl) (by kernel_rfl)
theorem scriptTails_row_tie : Rows.scriptTailsRow.laidByTextAt .later Tryd.pinned [.data, .data, .data] true :=
  OpenClaim.laidByTextAt_later rfl rfl tie noOwnUnsafe
theorem scriptMay_row_tie : Rows.scriptMayRow.laidByTextAt .later Tryd.pinned [.data, .data, .data] true :=
  OpenClaim.laidByTextAt_later rfl rfl tie noOwnUnsafe
theorem scriptTailsUpto_row_tie : Rows.scriptTailsUptoRow.laidByTextAt .later Tryd.pinned [.data, .data, .data] true :=
  OpenClaim.laidByTextAt_later rfl rfl tie noOwnUnsafe
theorem scriptMayUpto_row_tie : Rows.scriptMayUptoRow.laidByTextAt .later Tryd.pinned [.data, .data, .data] true :=
  OpenClaim.laidByTextAt_later rfl rfl tie noOwnUnsafe
end Go.Proofs.YtdabndoojkdicaaDoor
