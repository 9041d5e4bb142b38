/- Places, states and plain laws for the reference's Then and Back. -/
import Derived.Test.YtnakmganodkliaaDoorTnB
set_option linter.unusedVariables false
namespace Go.Proofs.YtnakmganodkliaaDoorAm
open Go

def hOf (a : Int) : Int := if a.tmod 2 = 1 then 3 else 2
def wOf (a : Int) : Int := if a.tmod 2 = 1 then 2 else 3

def goodAt (a b c i : Int) : Bool := (bigF (hOf a) (wOf a) (bigF 2 3 i a).1 b).1 == (bigF 2 3 i c).1

def allFrom (a b c : Int) : Nat → Int → Bool
  | 0, _ => true
  | m + 1, i => goodAt a b c i && allFrom a b c m (i + 1)

def firstC (a b : Int) : Nat → Int → Int
  | 0, _ => -1
  | m + 1, c => if ((a + b).tmod 2 == c.tmod 2) && allFrom a b c 6 0 then c else firstC a b m (c + 1)

def firstB (a : Int) : Nat → Int → Int
  | 0, _ => -1
  | m + 1, b => if thenF a b == 0 then b else firstB a m (b + 1)

theorem firstC_all : ((List.range 8).all fun a => (List.range 8).all fun b => firstC (a : Nat) (b : Nat) 8 0 == thenF (a : Nat) (b : Nat)) = true := by kernel_rfl

theorem firstC_then {a b : Int} (ha : 0 ≤ a ∧ a < 8) (hb : 0 ≤ b ∧ b < 8) : firstC a b 8 0 = thenF a b := by
  have h1 := List.all_eq_true.1 firstC_all a.toNat (List.mem_range.2 (by omega))
  have h2 := List.all_eq_true.1 h1 b.toNat (List.mem_range.2 (by omega))
  rw [beq_iff_eq, Int.toNat_of_nonneg ha.1, Int.toNat_of_nonneg hb.1] at h2
  exact h2

theorem firstB_all : ((List.range 8).all fun a => firstB (a : Nat) 8 0 == backF (a : Nat)) = true := by kernel_rfl

theorem thenF_out {a b : Int} (ha : isB a = false) : thenF a b = -1 := by simp [thenF, ha]

theorem firstB_out {a : Int} (ha : isB a = false) : ∀ m b, firstB a m b = -1
  | 0, _ => rfl
  | m + 1, b => by simp [firstB, thenF_out ha, firstB_out ha m]

theorem firstB_back (a : Int) : firstB a 8 0 = backF a := by
  cases hb : isB a with
  | false => rw [firstB_out hb]; simp [backF, hb]
  | true =>
    have ha := isB_iff.1 hb
    have h1 := List.all_eq_true.1 firstB_all a.toNat (List.mem_range.2 (by omega))
    rw [beq_iff_eq, Int.toNat_of_nonneg ha.1] at h1
    exact h1

def st28o (a b c : Int) : St := ⟨tm 76 [(0, int a), (1, int b), (5, int c)], []⟩
def st28i (a b c : Int) (same : Bool) (i : Int) : St := ⟨tm 76 [(0, int a), (1, int b), (5, int c), (6, .v (.bool same)), (7, int i)], []⟩
def st30 (a b : Int) : St := ⟨tm 13 [(0, int a), (3, int b)], []⟩

end Go.Proofs.YtnakmganodkliaaDoorAm
