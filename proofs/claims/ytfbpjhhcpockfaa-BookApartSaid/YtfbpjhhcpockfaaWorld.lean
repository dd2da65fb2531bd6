/- The world of a walk, named by what is known of it. No condition. -/
import Derived.Test.YtfbpjhhcpockfaaWords
set_option linter.unusedVariables false
set_option linter.unusedSimpArgs false
namespace Go.Proofs.Ytfbpjhhcpockfaa
open Go.RowKit
theorem wp_world {P : Program} {c : Code} {Q : Exit → Act → World → Prop} {a : Act} {w : World} (Φ : World → Prop) (h : Φ w) (k : ∀ W, Φ W → c.wp P Q a W) : c.wp P Q a w := k w h
theorem calls_world {P : Program} {f : FuncId} {args : Array Value} {w : World} {R : Ending → World → Prop} (Φ : World → Prop) (h : Φ w) (k : ∀ W, Φ W → Calls P f args W R) : Calls P f args w R := k w h
theorem wpList_world {P : Program} {ops : Array Oper} {l : List Oper} {Q : Exit → Act → World → Prop} {a : Act} {w : World} (Φ : World → Prop) (h : Φ w) (k : ∀ W, Φ W → wpList P ops Q l a W) : wpList P ops Q l a w := k w h
end Go.Proofs.Ytfbpjhhcpockfaa
