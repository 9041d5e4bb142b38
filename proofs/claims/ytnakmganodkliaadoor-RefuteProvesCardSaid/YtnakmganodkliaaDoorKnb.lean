/- A fact about the program that every law's claim needs: no finals are lifted. -/
import Derived.Test.YtnakmganodkliaaDoorKna
namespace Go.Proofs.YtnakmganodkliaaDoorAm
open Go
theorem lifts : Tryd.prog.liftsFinal = false := by kernel_rfl
end Go.Proofs.YtnakmganodkliaaDoorAm
