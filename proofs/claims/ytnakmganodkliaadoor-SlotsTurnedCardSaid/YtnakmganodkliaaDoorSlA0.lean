/- Slots: plain functions; what may be called. -/
import Derived.Test.YtnakmganodkliaaDoorGrT
set_option linter.unusedVariables false
set_option linter.unusedSimpArgs false
set_option maxRecDepth 100000
namespace Go.Proofs.YtnakmganodkliaaDoorAm
open Go

/-- The cells that steps of one way reach, one behind the other. -/
def onT (g : Gr) (way : Int) : Nat → Int → List Int
  | 0, _ => []
  | m + 1, i => if (stepF g i way).2 then (stepF g i way).1 :: onT g way m (stepF g i way).1 else []

def runOn (g : Gr) (way i : Int) : List Int := i :: onT g way 256 i

/-- The first cell of a run. -/
def headOf (g : Gr) (way : Int) : Nat → Int → Int
  | 0, i => i
  | m + 1, i => if (stepF g i (way + 2)).2 then headOf g way m (stepF g i (way + 2)).1 else i

def beginsB (g : Gr) (i way : Int) : Bool := !(stepF g i (way + 2)).2 && (stepF g i way).2

def slotsFrom (g : Gr) : Nat → Int → Int → List (Int × Bool × List Int)
  | 0, _, _ => []
  | m + 1, i, num =>
    (if beginsB g i 0 then [(num + 1, false, runOn g 0 i)] else []) ++ ((if beginsB g i 1 then [(num + 1, true, runOn g 1 i)] else []) ++ slotsFrom g m (i + 1) (if beginsB g i 0 || beginsB g i 1 then num + 1 else num))

def slotsF (g : Gr) : List (Int × Bool × List Int) := if checkF g = 0 then slotsFrom g (g.h * g.w).toNat 0 0 else []

abbrev SlT : Ty := .prod (.int .i64) (.prod .bool (.sl (.int .i64)))

def spL : Sp := fun f args rd => match f, args with
  | 77, [.v (.int _ i), .v (.int _ way), .ptr a _ _] => match rd a with
    | some (.box _ [.v (.int _ h), .v (.int _ w), b, r, l]) => withW rd h w b r l fun g ls => some { f := 77, args := [.v (.int .i64 i), .v (.int .i64 way), .rptr [.v (.int .i64 g.h), .v (.int .i64 g.w), .sl false false .bool g.B, .sl false false .bool g.R, .sl false false .bool g.L]], val := .own 0 0 (runOn g way i).length none, allocs := [.data 3 (.int .i64) (runOn g way i)], lent := a :: ls }
    | _ => none
  | 36, [.agg [.v (.int _ h), .v (.int _ w), b, r, l]] => withW rd h w b r l fun g ls => some { f := 36, args := [g.d], val := .own 0 0 (slotsF g).length none, allocs := [.data 50 SlT (slotsF g)], lent := ls }
  | 38, [.agg [.v (.int _ h), .v (.int _ w), b, r, l]] => withW rd h w b r l fun g ls => some { f := 38, args := [g.d], val := .own 0 0 (slotsF g).length none, allocs := [.data 50 SlT (slotsF g)], lent := ls }
  | 81, [.agg [.v (.int _ h), .v (.int _ w), b, r, l], .v (.int _ i), .v (.bool d)] => withW rd h w b r l fun g ls => some { f := 81, args := [g.d, .v (.int .i64 i), .v (.bool d)], val := .own 0 0 (runOn g (if d then 1 else 0) (headOf g (if d then 1 else 0) 256 i)).length none, allocs := [.data 3 (.int .i64) (runOn g (if d then 1 else 0) (headOf g (if d then 1 else 0) 256 i))], lent := ls }
  | f, args => spT f args rd

noncomputable def q105 : Code := (Tryd.f77.body).getD .skip
noncomputable def q65 : Code := (Tryd.f36.body).getD .skip
noncomputable def q100 : Code := (Tryd.f38.body).getD .skip
noncomputable def q125 : Code := (Tryd.f81.body).getD .skip
noncomputable def q77 : Code := (Tryd.f40.body).getD .skip

theorem stepTo_cases {g : Gr} {ok : Bool} {j : Int} (h : (stepTo g ok j).2 = true) : ok = true ∧ bAt g.B j = false ∧ (stepTo g ok j).1 = j := stepTo_iff.1 (show stepTo g ok j = ((stepTo g ok j).1, true) from Prod.ext rfl h) |> fun ⟨a, b, c⟩ => ⟨a, b, c⟩

/-- A step is to an open cell of the grid: on for the ways 0 and 1, back for the others. -/
theorem step_facts {g : Gr} {i y : Int} (h : (stepF g i y).2 = true) : openF g i = true ∧ openF g (stepF g i y).1 = true ∧ 0 ≤ y ∧ y < 4 ∧ (y < 2 → i < (stepF g i y).1) ∧ (2 ≤ y → (stepF g i y).1 < i) ∧ stepIn g i y = ((stepF g i y).1, true) := by
  have ho : openF g i = true := by
    rcases Bool.eq_false_or_eq_true (openF g i) with h' | h'
    · exact h'
    · rw [stepF, h'] at h; cases h
  have e : stepF g i y = stepIn g i y := by rw [stepF, ho]; rfl
  rw [e] at h ⊢
  have hs : stepIn g i y = ((stepIn g i y).1, true) := Prod.ext rfl h
  obtain ⟨y0, y4, oj, _⟩ := step_back ho hs
  obtain ⟨hc, i0, i1, _⟩ := open_in ho
  have ww := side_iff.1 (chk0.1 hc).2.1
  refine ⟨ho, oj, y0, y4, fun hy => ?_, fun hy => ?_, hs⟩
  · have : y = 0 ∨ y = 1 := by omega
    rcases this with rfl | rfl
    · simp only [stepIn, if_true] at h ⊢
      rw [(stepTo_cases h).2.2]; omega
    · simp only [stepIn, show ¬ (1 : Int) = 0 by omega, if_true, if_false] at h ⊢
      rw [(stepTo_cases h).2.2]; omega
  · have : y = 2 ∨ y = 3 := by omega
    rcases this with rfl | rfl
    · simp only [stepIn, show ¬ (2 : Int) = 0 by omega, show ¬ (2 : Int) = 1 by omega, if_true, if_false] at h ⊢
      rw [(stepTo_cases h).2.2]; omega
    · simp only [stepIn, show ¬ (3 : Int) = 0 by omega, show ¬ (3 : Int) = 1 by omega, show ¬ (3 : Int) = 2 by omega, if_true, if_false] at h ⊢
      rw [(stepTo_cases h).2.2]; omega

theorem on_len (g : Gr) (way : Int) : ∀ (m : Nat) (i : Int), (onT g way m i).length ≤ m
  | 0, _ => by simp [onT]
  | m + 1, i => by
    simp only [onT]
    split
    · have := on_len g way m (stepF g i way).1
      simp only [List.length_cons]; omega
    · simp

theorem take_snoc {α : Type} (ys : List α) (x : α) : List.take (ys.length + 1) (List.drop 0 (ys ++ List.take 1 (List.drop 0 [x]))) = ys ++ [x] := by
  rw [List.drop_zero]
  exact List.take_of_length_le (by simp)

theorem bytes86 : Tryd.prog.bytesOf 50 = 40 := by kernel_rfl

theorem room86 {n : Nat} (h : n ≤ 1000000) : roomy Tryd.prog 50 n := by
  unfold roomy
  rw [bytes86]
  omega

theorem no_step {g : Gr} {i y : Int} (h : g.h * g.w ≤ i) : (stepF g i y).2 = false := by
  rcases Bool.eq_false_or_eq_true (stepF g i y).2 with h' | h'
  · have := (open_in (step_facts h').1).2.2.1
    omega
  · exact h'


end Go.Proofs.YtnakmganodkliaaDoorAm
