/- The contract of the law on seats. -/
import Derived.Test.YtnakmganodkliaaDoorSlJ
set_option linter.unusedVariables false
set_option linter.unusedSimpArgs false
set_option maxRecDepth 100000
namespace Go.Proofs.YtnakmganodkliaaDoorAm
open Go

noncomputable def u9 : Code := (Tryd.f9.body).getD .skip

/-- What is told of a cell, in numbers. -/
theorem seat_num {g : Gr} {c : Int} {v : Int × Int} (h : SeatOk g false c v) : decide (0 ≤ v.1) = ((stepF g c 0).2 || (stepF g c 2).2) := h.has
theorem seat_num1 {g : Gr} {c : Int} {v : Int × Int} (h : SeatOk g true c v) : decide (0 ≤ v.1) = ((stepF g c 1).2 || (stepF g c 3).2) := h.has

end Go.Proofs.YtnakmganodkliaaDoorAm
