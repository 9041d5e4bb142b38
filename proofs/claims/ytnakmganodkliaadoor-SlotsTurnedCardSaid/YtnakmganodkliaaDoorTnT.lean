/- Places and states at the heads of loops (turn). -/
import Derived.Test.YtnakmganodkliaaDoorTnA
set_option linter.unusedVariables false
namespace Go.Proofs.YtnakmganodkliaaDoorAm
open Go

/-- Temporaries, most of them forgotten. -/
def tm (n : Nat) (l : List (Nat × D)) : List D := (List.range n).map fun i => (l.lookup i).getD .top

/-- Where a path stops. -/
def placeAt (P : Program) (sp : Sp) (f : Nat) (ch : List Ch) (k : List Item) (s : St) : List Item := ((runK P sp f ch k s).map (·.1)).getD []

def int (n : Int) : D := .v (.int .i64 n)

def st26 (h w k r c q : Int) : St := ⟨tm 72 [(0, int h), (1, int w), (3, int k), (10, int r), (11, int c), (12, int q)], []⟩

def loopF : Nat → Int → Int → Int → Int → Int
  | 0, h, w, r, c => r * w + c
  | m + 1, h, w, r, c => loopF m w h c (h - 1 - r)

theorem loop_place {h w i k : Int} (k1 : 0 ≤ k ∧ k < 8) : loopF (k % 4).toNat h w (i / w) (if k > 3 then w - 1 - i % w else i % w) = placeF h w i k := by
  have e1 : k.tmod 4 = k % 4 := Int.tmod_eq_emod_of_nonneg (by omega)
  have e2 : k.tmod 2 = k % 2 := Int.tmod_eq_emod_of_nonneg (by omega)
  unfold placeF laidF rot
  rw [e1, e2]
  have : k % 4 = 0 ∨ k % 4 = 1 ∨ k % 4 = 2 ∨ k % 4 = 3 := by omega
  rcases this with h0 | h0 | h0 | h0
  · have : k % 2 = 0 := by omega
    rw [h0, this]
    simp [loopF]
  · have : k % 2 = 1 := by omega
    rw [h0, this]
    simp [loopF]
  · have : k % 2 = 0 := by omega
    rw [h0, this]
    simp [loopF]
  · have : k % 2 = 1 := by omega
    rw [h0, this]
    show loopF 3 _ _ _ _ = _
    simp only [loopF]
    simp
    congr 1
    omega

end Go.Proofs.YtnakmganodkliaaDoorAm
