/- What may be called by the law on symmetries; the plain law: the symmetries are one of ten lists. -/
import Derived.Test.YtnakmganodkliaaGrX
set_option linter.unusedVariables false
set_option linter.unusedSimpArgs false
set_option maxRecDepth 100000
namespace Go.Proofs.YtnakmganodkliaaAm
open Go

/-- What may be called, where the symmetries are these. -/
def spY (l : List Int) : Sp := fun f args rd => match f, args with
  | 52, [.agg [.v (.int _ h), .v (.int _ w), b, r, q]] => withW rd h w b r q fun g ls => some { f := 52, args := [g.d], val := .own 0 0 l.length none, allocs := [.data 3 (.int .i64) l], lent := ls }
  | f, args => spW f args rd

def bx8 (b0 b1 b2 b3 b4 b5 b6 b7 : Bool) : Row := .box 59 [.v (.bool b0), .v (.bool b1), .v (.bool b2), .v (.bool b3), .v (.bool b4), .v (.bool b5), .v (.bool b6), .v (.bool b7)]

def pick8 (b0 b1 b2 b3 b4 b5 b6 b7 : Bool) : List Int := (if b0 then [0] else []) ++ (if b1 then [1] else []) ++ (if b2 then [2] else []) ++ (if b3 then [3] else []) ++ (if b4 then [4] else []) ++ (if b5 then [5] else []) ++ (if b6 then [6] else []) ++ (if b7 then [7] else [])

/-- Closed under doing one turn behind the other. -/
def closed8 (f : Int → Bool) : Bool := (List.range 8).all fun a => (List.range 8).all fun b => !(f (a : Nat) && f (b : Nat)) || f (thenF (a : Nat) (b : Nat))

def at8 (b0 b1 b2 b3 b4 b5 b6 b7 : Bool) (k : Int) : Bool := if k = 0 then b0 else if k = 1 then b1 else if k = 2 then b2 else if k = 3 then b3 else if k = 4 then b4 else if k = 5 then b5 else if k = 6 then b6 else if k = 7 then b7 else false

def ten : List (List Int) := [[0], [0, 2], [0, 1, 2, 3], [0, 4], [0, 5], [0, 6], [0, 2, 4, 6], [0, 7], [0, 2, 5, 7], [0, 1, 2, 3, 4, 5, 6, 7]]

theorem ten_all : ∀ b0 b1 b2 b3 b4 b5 b6 b7 : Bool, b0 = true → closed8 (at8 b0 b1 b2 b3 b4 b5 b6 b7) = true → pick8 b0 b1 b2 b3 b4 b5 b6 b7 ∈ ten := by
  intro b0 b1 b2 b3 b4 b5 b6 b7
  cases b0 <;> cases b1 <;> cases b2 <;> cases b3 <;> cases b4 <;> cases b5 <;> cases b6 <;> cases b7 <;> first | (intro h; cases h; done) | (intro _ h; revert h; decide +kernel) 

theorem sym_pick (g : Gr) : symsF g = pick8 (symB g 0) (symB g 1) (symB g 2) (symB g 3) (symB g 4) (symB g 5) (symB g 6) (symB g 7) := by
  simp [symsF, symFrom, pick8]

theorem sym_ten {g : Gr} (R : Right g) : symsF g ∈ ten := by
  have hb : ∀ k, 0 ≤ k → k < 8 → (symB g k = true ↔ turnF g k = g) := by
    intro k k0 k1
    unfold symB
    rw [turnG_ok R ⟨k0, k1⟩]
    simp
  rw [sym_pick]
  refine ten_all _ _ _ _ _ _ _ _ ((hb 0 (by omega) (by omega)).2 (turn_zero R)) ?_
  have e : ∀ k, 0 ≤ k → k < 8 → at8 (symB g 0) (symB g 1) (symB g 2) (symB g 3) (symB g 4) (symB g 5) (symB g 6) (symB g 7) k = symB g k := by
    intro k k0 k1
    rcases turns ⟨k0, k1⟩ with rfl | rfl | rfl | rfl | rfl | rfl | rfl | rfl <;> rfl
  unfold closed8
  rw [List.all_eq_true]
  intro a ha
  rw [List.all_eq_true]
  intro b hb'
  have a1 : (0 : Int) ≤ (a : Nat) ∧ ((a : Nat) : Int) < 8 := by have := List.mem_range.1 ha; omega
  have b1 : (0 : Int) ≤ (b : Nat) ∧ ((b : Nat) : Int) < 8 := by have := List.mem_range.1 hb'; omega
  have ab := then_in a1 b1
  rw [e _ a1.1 a1.2, e _ b1.1 b1.2, e _ ab.1 ab.2]
  rw [Bool.or_eq_true, Bool.not_eq_true']
  rcases Bool.eq_false_or_eq_true (symB g (a : Nat) && symB g (b : Nat)) with h | h
  · right
    rw [Bool.and_eq_true] at h
    rw [hb _ ab.1 ab.2, ← turn_turn R a1 b1, (hb _ a1.1 a1.2).1 h.1, (hb _ b1.1 b1.2).1 h.2]
  · exact .inl h


end Go.Proofs.YtnakmganodkliaaAm
