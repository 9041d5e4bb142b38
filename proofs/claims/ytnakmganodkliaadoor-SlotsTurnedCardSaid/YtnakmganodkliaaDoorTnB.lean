/- The contracts of the reference's turns: what each answers, for any numbers. -/
import Derived.Test.YtnakmganodkliaaDoorTnT
set_option linter.unusedVariables false
set_option linter.unusedSimpArgs false
set_option maxRecDepth 10000
namespace Go.Proofs.YtnakmganodkliaaDoorAm
open Go

