/- Sets of numbers: what the law on all calls may call. -/
import Derived.Test.YtnakmganodkliaaDoorMaA0
set_option linter.unusedVariables false
set_option maxRecDepth 100000
namespace Go.Proofs.YtnakmganodkliaaDoorAm
open Go

/-- Appends in place: onto a slice that is empty as yet, and of the one number that the law looks for. -/
def inE (args : List D) (rd : Nat → Option Row) : Bool := match args with
  | [_, .sl _ _ _ _] => true
  | [_, .own j _ _ _] => match rd j with
    | some (.data _ (.int .i64) [x]) => x == -777
    | _ => false
  | _ => false
def spE : Sp := fun f args rd => if f = 1000000 then (if inE args rd then some { f := 0, args := [], val := .top } else none) else spM f args rd

end Go.Proofs.YtnakmganodkliaaDoorAm
