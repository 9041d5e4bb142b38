/- A fact about the program that every law's claim needs: no finals are lifted. -/
import Derived.Test.YtnakmganodkliaaKna
namespace Go.Proofs.YtnakmganodkliaaAm
open Go
theorem lifts : Try.prog.liftsFinal = false := by kernel_rfl
end Go.Proofs.YtnakmganodkliaaAm
