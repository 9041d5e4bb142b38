/- A fact about the program that every law's claim needs: how it was made. -/
import Derived.Test.YtnakmganodkliaaKnb
namespace Go.Proofs.YtnakmganodkliaaAm
open Go
theorem makes : Try.prog.make = some Make.cut := by kernel_rfl
end Go.Proofs.YtnakmganodkliaaAm
