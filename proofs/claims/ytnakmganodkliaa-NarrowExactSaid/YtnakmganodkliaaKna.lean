/- A fact about the program that every law's claim needs: its first word lets calls enter. -/
import Derived.WalkKit
import Derived.KernelRfl
import Derived.Test.YtnakmganodkliaaProg
namespace Go.Proofs.YtnakmganodkliaaAm
open Go
theorem enters : Try.prog.mayEnter = true := by kernel_rfl
end Go.Proofs.YtnakmganodkliaaAm
