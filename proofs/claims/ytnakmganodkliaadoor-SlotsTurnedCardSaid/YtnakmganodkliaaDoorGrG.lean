/- The contracts of the laws' helpers: a grid of its own in longer memory, and a look at whether it is as it was. -/
import Derived.Test.YtnakmganodkliaaDoorGrE
set_option linter.unusedVariables false
set_option linter.unusedSimpArgs false
set_option maxRecDepth 100000
namespace Go.Proofs.YtnakmganodkliaaDoorAm
open Go

/-- The lists are of a size that a call may be handed. -/
def Gr.fits (g : Gr) : Prop := g.B.length ≤ 140737488351232 ∧ g.R.length ≤ 140737488351232 ∧ g.L.length ≤ 140737488351232

theorem fits_small {g : Gr} (h : g.fits) : g.small := by
  obtain ⟨a, b, c⟩ := h
  exact ⟨by omega, by omega, by omega⟩

theorem ext0 (xs : List Bool) : (xs ++ [true, false]).getD (0 + xs.length) false = true := by simp

theorem ext1 (xs : List Bool) : (xs ++ [true, false]).getD (0 + ((xs.length : Int) + 1).toNat) false = false := by
  rw [show 0 + ((xs.length : Int) + 1).toNat = xs.length + 1 by omega]
  simp

theorem len2 (xs : List Bool) : (xs ++ [true, false]).length = xs.length + 2 := by simp

theorem take_all {α : Type} (xs ys : List α) : List.take xs.length (List.drop 0 (xs ++ ys)) = xs := by simp

theorem take_all' {α : Type} (xs ys : List α) : List.take xs.length (xs ++ ys) = xs := by simp
theorem take_len {α : Type} (xs : List α) : List.take xs.length (List.drop 0 xs) = xs := by simp
theorem gr_eta (g : Gr) : Gr.mk g.h g.w g.B g.R g.L = g := rfl
