/-
  DERIVED. GIVEN WITH THE SEED: THE CARDS: each row of YtdabndoojkdicaaDoorRows.lean that lists a variable, with what it lists TIED to the program's text (the seventh form; the later family's looks); each row that meets fmt, with fmt's text TOLD by the authors' own Lean function (tested against real Go, not proved from fmt's source: count such statements apart). THE CARD IS WHAT COUNTS. Prove the row's statement (the work); the ties are given (YtdabndoojkdicaaDoorTie.lean); close each card by the builder's one call (the guide's Derived/Test/ToyasCard.lean, 'card_holds'). Laid BY PROGRAM, IN A SANDBOX (cutbox-door.mjs). By AI agents, Wed Nov 11 2026. No macro, syntax, notation, axiom, sorry.
-/
import Derived.Test.YtdabndoojkdicaaDoorRows
import GoSem.ClaimSeven
namespace Go.Proofs.YtdabndoojkdicaaDoor
namespace Rows

/-- THE TIED CARD OF 'kithlaw23.ScriptTails'. -/
def scriptTailsCard : Claim7 := { stood := { row := scriptTailsRow, standIns := [], harness := (true, "6741df3e50e52e587cd0b6be5539cbcd462bc10f2847db7efe4b2454618bfe68"), looks := false }, kinds := [], alts := [], laidByText := true, laidKinds := [.data, .data, .data], laidTests := true, laidLooks := .later }
def ScriptTailsCardSaid : Prop := Claim7.holds Tryd.pinned (.plain (OpenSpec.ofChange scriptTailsSpec)) scriptTailsCard

/-- THE TIED CARD OF 'kithlaw23.ScriptMay'. -/
def scriptMayCard : Claim7 := { stood := { row := scriptMayRow, standIns := [], harness := (true, "6741df3e50e52e587cd0b6be5539cbcd462bc10f2847db7efe4b2454618bfe68"), looks := false }, kinds := [], alts := [], laidByText := true, laidKinds := [.data, .data, .data], laidTests := true, laidLooks := .later }
def ScriptMayCardSaid : Prop := Claim7.holds Tryd.pinned (.plain (OpenSpec.ofChange scriptMaySpec)) scriptMayCard

/-- THE SECOND FORM's CARD OF 'kithlaw23.ScriptTails'. -/
def scriptTailsUptoCard : Claim7 := { stood := { row := scriptTailsUptoRow, standIns := [], harness := (true, "6741df3e50e52e587cd0b6be5539cbcd462bc10f2847db7efe4b2454618bfe68"), looks := false }, kinds := [], alts := [], laidByText := true, laidKinds := [.data, .data, .data], laidTests := true, laidLooks := .later }
def ScriptTailsUptoCardSaid : Prop := Claim7.holds Tryd.pinned (.plain (OpenSpec.upto scriptTailsSpec)) scriptTailsUptoCard

/-- THE SECOND FORM's CARD OF 'kithlaw23.ScriptMay'. -/
def scriptMayUptoCard : Claim7 := { stood := { row := scriptMayUptoRow, standIns := [], harness := (true, "6741df3e50e52e587cd0b6be5539cbcd462bc10f2847db7efe4b2454618bfe68"), looks := false }, kinds := [], alts := [], laidByText := true, laidKinds := [.data, .data, .data], laidTests := true, laidLooks := .later }
def ScriptMayUptoCardSaid : Prop := Claim7.holds Tryd.pinned (.plain (OpenSpec.upto scriptMaySpec)) scriptMayUptoCard
end Rows
end Go.Proofs.YtdabndoojkdicaaDoor
