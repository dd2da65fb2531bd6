/-
  NARROWER THAN 'FOR EVERY INPUT', by the rows' own cells (each row's printed sentence says how): ScriptTails: laid · ScriptMay: laid.
  DERIVED. THE GIVEN ROWS OF THIS SEAT. 2 by the template 'for every input the law returns true; each argument reads behind the call as it read before'; 0 by the template 'total and deterministic' (their statements: YtdabndoojkdicaaDoorTotals.lean).
  GIVEN WITH THE SEED: the statements are not yours to turn. If you find one false, say at which input.
  Laid BY PROGRAM, IN A SANDBOX (cutbox-rows.mjs): the forced cells as the released guide's own fill.sh prints them over the translation d2aaca67d79b7b19… (all of the seat's roots in one cut). By AI agents, Wed Nov 11 2026. No macro, syntax, notation, axiom, sorry.
-/
import Derived.Test.YtdabndoojkdicaaDoorChecked
import GoSem.Claim
import GoSem.ClaimJoined
import GoSem.ClaimMapViews
import Derived.JoinedTies
import Derived.KernelRfl
namespace Go.Proofs.YtdabndoojkdicaaDoor
/- THE CELL 'sum', in the pinned program and in every row, IS THE sha256 OF THE DUMP (.gsa) THAT YtdabndoojkdicaaDoorProg.lean LOADS. Nothing in Lean hashes anything: it is a label: what it is worth is what the hold of that sum in a sandbox is worth. -/
noncomputable def Tryd.pinned : Pinned := { name := "ytdabndoojkdicaadoor", sum := "d2aaca67d79b7b19dad62f3442106478603518620ac314de3bcba0c91d62ab8e", checked := Tryd.checked }
namespace Rows
def none {H : Type} : Left H := { results := [], args := [] }

/- WHAT THE LISTED PACKAGE-LEVEL VARIABLES READ AS WHEN THE CALL BEGINS. Each datum BY PROGRAM (the guide's laid-datum.mjs) off the statement by which the dump's own 'gosem.cut.vars' lays the variable. In a bare row this is a premise. The card (YtdabndoojkdicaaDoorCards.lean) ties it to the program's text. -/
def laid_kith_script_kinds {H : Type} : DataW H := .agg [.lit (.int .i64 0), .lit (.int .i64 0), .lit (.int .i64 0), .lit (.int .i64 0), .lit (.int .i64 0), .lit (.int .i64 1), .lit (.int .i64 2), .lit (.int .i64 3), .lit (.int .i64 4), .lit (.int .i64 5), .lit (.int .i64 6), .lit (.int .i64 7), .lit (.int .i64 8), .lit (.int .i64 9), .lit (.int .i64 10), .lit (.int .i64 11)]
def laid_kith_script_keys {H : Type} : DataW H := .agg [.lit (.string [97, 110, 110]), .lit (.string [98, 111, 98]), .lit (.string [99, 121]), .lit (.string [100, 105])]
def laid_kith_script_values {H : Type} : DataW H := .agg [.lit (.string [49]), .lit (.string [50, 50]), .lit (.string [255]), .lit (.string [116, 119, 101, 108, 118, 101, 32, 98, 121, 116, 101, 115])]

/-- 'kithlaw23.ScriptTails': WHATEVER THE INPUT: true; the input reads as it did. -/
def scriptTailsSpec : ChangeSpec := { name := "scriptTails", fn := fun _ => fun
  | [d1, d2, d3] => { results := [.lit (.bool true)], args := [d1, d2, d3] }
  | _ => none }
def scriptTailsRow : OpenClaim := { program := "ytdabndoojkdicaadoor", sum := "d2aaca67d79b7b19dad62f3442106478603518620ac314de3bcba0c91d62ab8e", func := "kith/kithlaw23.ScriptTails", spec := "scriptTails", unfollowed := true, recurses := true, named := ["kith/script.kinds", "kith/script.keys", "kith/script.values"], apart := false, laid := [("kith/script.kinds", laid_kith_script_kinds), ("kith/script.keys", laid_kith_script_keys), ("kith/script.values", laid_kith_script_values)] }
def ScriptTailsSaid : Prop := scriptTailsRow.holds Tryd.pinned (OpenSpec.ofChange scriptTailsSpec)

/-- ITS FALSE NEIGHBOUR: 'it returns false'. Refute it at one input. -/
def scriptTailsWrong : ChangeSpec := { name := "scriptTails", fn := fun _ => fun
  | [d1, d2, d3] => { results := [.lit (.bool false)], args := [d1, d2, d3] }
  | _ => none }
def ScriptTailsWrongFalsely : Prop := scriptTailsRow.holds Tryd.pinned (OpenSpec.ofChange scriptTailsWrong)

/-- 'kithlaw23.ScriptMay': WHATEVER THE INPUT: true; the input reads as it did. -/
def scriptMaySpec : ChangeSpec := { name := "scriptMay", fn := fun _ => fun
  | [d1, d2, d3] => { results := [.lit (.bool true)], args := [d1, d2, d3] }
  | _ => none }
def scriptMayRow : OpenClaim := { program := "ytdabndoojkdicaadoor", sum := "d2aaca67d79b7b19dad62f3442106478603518620ac314de3bcba0c91d62ab8e", func := "kith/kithlaw23.ScriptMay", spec := "scriptMay", unfollowed := true, recurses := true, named := ["kith/script.kinds", "kith/script.keys", "kith/script.values"], apart := false, laid := [("kith/script.kinds", laid_kith_script_kinds), ("kith/script.keys", laid_kith_script_keys), ("kith/script.values", laid_kith_script_values)] }
def ScriptMaySaid : Prop := scriptMayRow.holds Tryd.pinned (OpenSpec.ofChange scriptMaySpec)

/-- ITS FALSE NEIGHBOUR: 'it returns false'. Refute it at one input. -/
def scriptMayWrong : ChangeSpec := { name := "scriptMay", fn := fun _ => fun
  | [d1, d2, d3] => { results := [.lit (.bool false)], args := [d1, d2, d3] }
  | _ => none }
def ScriptMayWrongFalsely : Prop := scriptMayRow.holds Tryd.pinned (OpenSpec.ofChange scriptMayWrong)

/- THE SECOND FORM. 'bulk': how many values and letters a reading holds, each counted each time it is reached (what is shared counts as often as it is met; a slice's spare places count too). A statement '..UptoSaid' is the law's where the arguments, and the package variables that the reading takes, are together of bulk at most 1048576: NARROWER than '..Said'. Prove '..Said' where nothing that the law and all that it calls make is longer than what came in: it says more and counts as full. Else prove '..UptoSaid'. A law counts once. -/
mutual
def uptoBulk {H : Type} : DataW H → Nat
  | .lit (.string bytes) => bytes.length + 1
  | .lit _ => 1
  | .nil => 1
  | .ptr d => uptoBulk d + 1
  | .slice elems spare => uptoBulkAll elems + uptoBulkAll spare + 1
  | .agg parts => uptoBulkAll parts + 1
  | .iface _ d => uptoBulk d + 1
  | .map entries => uptoBulkEntries entries + 1
  | .held _ => 1
def uptoBulkAll {H : Type} : List (DataW H) → Nat
  | [] => 0
  | d :: r => uptoBulk d + uptoBulkAll r
def uptoBulkEntries {H : Type} : List (Lit × DataW H) → Nat
  | [] => 0
  | x :: r => uptoBulkEntry x + uptoBulkEntries r
def uptoBulkEntry {H : Type} : Lit × DataW H → Nat
  | (.string bytes, d) => bytes.length + uptoBulk d + 1
  | (_, d) => uptoBulk d + 1
 end
def uptoSmall : (H : Type) → List (DataW H) → Bool := fun _ ds => decide (uptoBulkAll ds ≤ 1048576)
def OpenSpec.upto (s : _root_.Go.ChangeSpec) : _root_.Go.OpenSpec := { _root_.Go.OpenSpec.ofChange s with cond := some uptoSmall }

/-- 'kithlaw23.ScriptTails', WHERE WHAT IT READS IS OF BULK AT MOST 1048576: true; the input reads as it did. -/
def scriptTailsUptoRow : OpenClaim := { program := "ytdabndoojkdicaadoor", sum := "d2aaca67d79b7b19dad62f3442106478603518620ac314de3bcba0c91d62ab8e", func := "kith/kithlaw23.ScriptTails", spec := "scriptTails", unfollowed := true, recurses := true, named := ["kith/script.kinds", "kith/script.keys", "kith/script.values"], apart := false, laid := [("kith/script.kinds", laid_kith_script_kinds), ("kith/script.keys", laid_kith_script_keys), ("kith/script.values", laid_kith_script_values)], narrowed := true }
def ScriptTailsUptoSaid : Prop := scriptTailsUptoRow.holds Tryd.pinned (OpenSpec.upto scriptTailsSpec)

/-- 'kithlaw23.ScriptMay', WHERE WHAT IT READS IS OF BULK AT MOST 1048576: true; the input reads as it did. -/
def scriptMayUptoRow : OpenClaim := { program := "ytdabndoojkdicaadoor", sum := "d2aaca67d79b7b19dad62f3442106478603518620ac314de3bcba0c91d62ab8e", func := "kith/kithlaw23.ScriptMay", spec := "scriptMay", unfollowed := true, recurses := true, named := ["kith/script.kinds", "kith/script.keys", "kith/script.values"], apart := false, laid := [("kith/script.kinds", laid_kith_script_kinds), ("kith/script.keys", laid_kith_script_keys), ("kith/script.values", laid_kith_script_values)], narrowed := true }
def ScriptMayUptoSaid : Prop := scriptMayUptoRow.holds Tryd.pinned (OpenSpec.upto scriptMaySpec)

end Rows
end Go.Proofs.YtdabndoojkdicaaDoor
