/- The contracts of the reference's Then and Back, and of the law on places. -/
import Derived.Test.YtnakmganodkliaaDoorTnU
set_option linter.unusedVariables false
set_option linter.unusedSimpArgs false
set_option maxRecDepth 10000
namespace Go.Proofs.YtnakmganodkliaaDoorAm
open Go

