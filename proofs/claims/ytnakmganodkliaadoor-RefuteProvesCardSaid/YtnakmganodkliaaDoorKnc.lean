/- A fact about the program that every law's claim needs: how it was made. -/
import Derived.Test.YtnakmganodkliaaDoorKnb
namespace Go.Proofs.YtnakmganodkliaaDoorAm
open Go
theorem makes : Tryd.prog.make = some Make.cut := by kernel_rfl
end Go.Proofs.YtnakmganodkliaaDoorAm
