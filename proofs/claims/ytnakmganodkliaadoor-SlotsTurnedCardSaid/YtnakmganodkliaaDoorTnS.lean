/- What the functions of package turn answer, as plain functions; what may be called. -/
import Derived.Test.YtnakmganodkliaaDoorLd
import Derived.Test.YtnakmganodkliaaDoorProg
import Derived.IntWalk
set_option linter.unusedVariables false
namespace Go.Proofs.YtnakmganodkliaaDoorAm
open Go

theorem hm : Tryd.prog.follows .mixedOrders = true := by kernel_rfl

theorem wr {n : Int} (h1 : -9223372036854775808 ≤ n) (h2 : n ≤ 9223372036854775807) : IntKind.i64.wrap n = n := by
  rw [IntKind.wrap_i64]
  omega

noncomputable def b78 : Code := (Tryd.f85.body).getD .skip
noncomputable def b79 : Code := (Tryd.f88.body).getD .skip
noncomputable def b118 : Code := (Tryd.f119.body).getD .skip

def isB (k : Int) : Bool := decide (0 ≤ k) && decide (k < 8)

def rot (h w q r c : Int) : Int × Int := if q = 1 then (c, h - 1 - r) else if q = 2 then (h - 1 - r, w - 1 - c) else if q = 3 then (w - 1 - c, r) else (r, c)

def laidF (h w r c k : Int) : Int × Int := rot h w (k.tmod 4) r (if k > 3 then w - 1 - c else c)

def placeF (h w i k : Int) : Int := (laidF h w (i / w) (i % w) k).1 * (if k.tmod 2 = 1 then h else w) + (laidF h w (i / w) (i % w) k).2

def bigF (h w i k : Int) : Int × Int :=
  if isB k then if h < 1 ∨ h > 16 ∨ w < 1 ∨ w > 16 then (0, 50) else if i < 0 ∨ i ≥ h * w then (0, 51) else (placeF h w i k, 0) else (0, 60)

theorem isB_iff {k : Int} : isB k = true ↔ 0 ≤ k ∧ k < 8 := by simp [isB]

def backF (a : Int) : Int := if isB a then if a > 3 then a else (4 - a) % 4 else -1

def thenF (a b : Int) : Int := if isB a && isB b then ((if b > 3 then 4 - a % 4 else a % 4) + b) % 4 + (a / 4 + b / 4) % 2 * 4 else -1

theorem row_lt {h w i : Int} (h1 : 1 ≤ h ∧ h ≤ 16) (w1 : 1 ≤ w ∧ w ≤ 16) (i1 : 0 ≤ i ∧ i < h * w) : 0 ≤ i / w ∧ i / w < h :=
  ⟨Int.ediv_nonneg i1.1 (by omega), Int.ediv_lt_of_lt_mul (by omega) i1.2⟩

theorem col_lt {w i : Int} (w1 : 1 ≤ w ∧ w ≤ 16) : 0 ≤ i % w ∧ i % w < w :=
  ⟨Int.emod_nonneg _ (by omega), Int.emod_lt_of_pos _ (by omega)⟩

theorem mul_le {h w : Int} (h1 : 1 ≤ h ∧ h ≤ 16) (w1 : 1 ≤ w ∧ w ≤ 16) : h * w ≤ 256 := by
  have := Int.mul_le_mul h1.2 w1.2 (by omega) (by omega)
  simpa using this

theorem laid_in {h w r c : Int} (h1 : 1 ≤ h ∧ h ≤ 16) (w1 : 1 ≤ w ∧ w ≤ 16) (r1 : 0 ≤ r ∧ r < h) (c1 : 0 ≤ c ∧ c < w) (k : Int) :
    (0 ≤ (laidF h w r c k).1 ∧ (laidF h w r c k).1 ≤ 16) ∧ 0 ≤ (laidF h w r c k).2 ∧ (laidF h w r c k).2 ≤ 16 := by
  unfold laidF rot
  split <;> split <;> (try split) <;> (try split) <;> simp <;> omega

theorem mul_in {a h : Int} (a1 : 0 ≤ a ∧ a ≤ 16) (h1 : 1 ≤ h ∧ h ≤ 16) : 0 ≤ a * h ∧ a * h ≤ 256 := by
  have h2 := Int.mul_le_mul a1.2 h1.2 (by omega) (by omega)
  exact ⟨Int.mul_nonneg a1.1 (by omega), by simpa using h2⟩

/-- What may be called. -/
def sp : Sp := fun f args _ => match f, args with
  | 85, [.v (.int _ k)] => some { f := 85, args := [.v (.int .i64 k)], val := .v (.bool (isB k)) }
  | 119, [.v (.int _ h), .v (.int _ w), .agg [.v (.int _ r), .v (.int _ c)], .v (.int _ k)] =>
    some { f := 119, args := [.v (.int .i64 h), .v (.int .i64 w), .agg [.v (.int .i64 r), .v (.int .i64 c)], .v (.int .i64 k)], val := .agg [.v (.int .i64 (laidF h w r c k).1), .v (.int .i64 (laidF h w r c k).2)] }
  | 88, [.v (.int _ h), .v (.int _ w), .v (.int _ i), .v (.int _ k)] => some { f := 88, args := [.v (.int .i64 h), .v (.int .i64 w), .v (.int .i64 i), .v (.int .i64 k)], val := .v (.int .i64 (placeF h w i k)) }
  | _, _ => none

end Go.Proofs.YtnakmganodkliaaDoorAm
