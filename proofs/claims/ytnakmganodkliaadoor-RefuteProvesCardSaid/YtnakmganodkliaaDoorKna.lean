/- A fact about the program that every law's claim needs: its first word lets calls enter. -/
import Derived.WalkKit
import Derived.KernelRfl
import Derived.Test.YtnakmganodkliaaDoorProg
namespace Go.Proofs.YtnakmganodkliaaDoorAm
open Go
theorem enters : Tryd.prog.mayEnter = true := by kernel_rfl
end Go.Proofs.YtnakmganodkliaaDoorAm
