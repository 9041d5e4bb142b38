/- What the table of trailing zeros holds when a law begins. -/
import Derived.Test.YtnakmganodkliaaDoorRows
import Derived.Test.YtnakmganodkliaaDoorVi
import Derived.LaidSub
import Derived.Lib.LaidTab
set_option linter.unusedVariables false
set_option maxRecDepth 100000
namespace Go.Proofs.YtnakmganodkliaaDoorAm
open Go Go.Lib

def isTab (x : String × DataW Unit) : Bool := x.1 == "math/bits.deBruijn64tab"

theorem glob_of {W : World} {l : List (String × DataW Unit)} (hl : l.filter isTab = [("math/bits.deBruijn64tab", Go.Proofs.YtnakmganodkliaaDoor.Rows.laid_math_bits_deBruijn64tab)]) (h : laidMetH Tryd.prog l W) : GlobOk (oldS W) W := by
  have h1 := h.filter isTab
  rw [hl] at h1
  have h2 : laidMet Tryd.prog [("math/bits.deBruijn64tab", tabData .u8 tab64)] W := h1
  have h3 : TabIs Tryd.prog W "math/bits.deBruijn64tab" .u8 tab64 := tabIs_of_head (P := Tryd.prog) (g := 0) (t := 140) (e := 5) (n := 64) (by kernel_rfl) (by kernel_rfl) (by kernel_rfl) (by kernel_rfl) (by kernel_rfl) (by kernel_rfl) h2
  intro p hp
  have hp : p = (0, tab64.map (.int .u8 ·)) := by simpa [gTab] using hp
  subst hp
  have hc := fun i hi => h3.cell (g := 0) (by kernel_rfl) i hi
  refine ⟨cell_lt (hc 0 (by decide)), fun j u hj => ?_⟩
  have hlt : j < tab64.length := by
    have := (List.getElem?_eq_some_iff.1 hj).1
    simpa using this
  rw [hc j hlt]
  have hj : (tab64.map (Value.int IntKind.u8 ·))[j]? = some u := hj
  rw [List.getElem?_map, List.getElem?_eq_getElem hlt] at hj
  rw [List.getD_eq_getElem?_getD, List.getElem?_eq_getElem hlt]
  exact hj

end Go.Proofs.YtnakmganodkliaaDoorAm
