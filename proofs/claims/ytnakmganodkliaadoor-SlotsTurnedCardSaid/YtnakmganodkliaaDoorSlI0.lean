/- Find, Crossings, Lone: plain functions; what may be called. -/
import Derived.Test.YtnakmganodkliaaDoorSlH
set_option linter.unusedVariables false
set_option linter.unusedSimpArgs false
set_option maxRecDepth 100000
namespace Go.Proofs.YtnakmganodkliaaDoorAm
open Go

def findFrom (num : Int) (d : Bool) : Int → List (Int × Bool × List Int) → Int
  | _, [] => -1
  | s, x :: ss => if x.1 = num ∧ x.2.1 = d then s else findFrom num d (s + 1) ss

def crossN : List (Int × Int) → List (Int × Int) → Int
  | a :: A, e :: E => (if 0 ≤ a.1 ∧ 0 ≤ e.1 then 1 else 0) + crossN A E
  | _, _ => 0

def loneL (g : Gr) : Int → List (Int × Int) → List (Int × Int) → List Int
  | i, a :: A, e :: E => (if bAt g.B i = false ∧ a.1 < 0 ∧ e.1 < 0 then [i] else []) ++ loneL g (i + 1) A E
  | _, _, _ => []

def findF (g : Gr) (num : Int) (d : Bool) : Int := findFrom num d 0 (slotsF g)
def crossF (g : Gr) : Int := crossN (seatsF g).1 (seatsF g).2
def loneF (g : Gr) : List Int := loneL g 0 (seatsF g).1 (seatsF g).2

def spI : Sp := fun f args rd => match f, args with
  | 45, [.agg [.v (.int _ h), .v (.int _ w), b, r, l], .v (.int _ n), .v (.bool d)] => withW rd h w b r l fun g ls => some { f := 45, args := [g.d, .v (.int .i64 n), .v (.bool d)], val := .v (.int .i64 (findF g n d)), lent := ls }
  | 46, [.agg [.v (.int _ h), .v (.int _ w), b, r, l], .v (.int _ n), .v (.bool d)] => withW rd h w b r l fun g ls => some { f := 46, args := [g.d, .v (.int .i64 n), .v (.bool d)], val := .v (.int .i64 (findF g n d)), lent := ls }
  | 47, [.agg [.v (.int _ h), .v (.int _ w), b, r, l]] => withW rd h w b r l fun g ls => some { f := 47, args := [g.d], val := .v (.int .i64 (crossF g)), lent := ls }
  | 48, [.agg [.v (.int _ h), .v (.int _ w), b, r, l]] => withW rd h w b r l fun g ls => some { f := 48, args := [g.d], val := .v (.int .i64 (crossF g)), lent := ls }
  | 49, [.agg [.v (.int _ h), .v (.int _ w), b, r, l]] => withW rd h w b r l fun g ls => some { f := 49, args := [g.d], val := .own 0 0 (loneF g).length none, allocs := [.data 3 (.int .i64) (loneF g)], lent := ls }
  | 50, [.agg [.v (.int _ h), .v (.int _ w), b, r, l]] => withW rd h w b r l fun g ls => some { f := 50, args := [g.d], val := .own 0 0 (loneF g).length none, allocs := [.data 3 (.int .i64) (loneF g)], lent := ls }
  | f, args => spH f args rd

noncomputable def u45 : Code := (Tryd.f45.body).getD .skip
noncomputable def u46 : Code := (Tryd.f46.body).getD .skip
noncomputable def u47 : Code := (Tryd.f47.body).getD .skip
noncomputable def u48 : Code := (Tryd.f48.body).getD .skip
noncomputable def u49 : Code := (Tryd.f49.body).getD .skip
noncomputable def u50 : Code := (Tryd.f50.body).getD .skip
noncomputable def u10 : Code := (Tryd.f10.body).getD .skip

theorem seats_lens (g : Gr) : (seatsF g).1.length = (seatsF g).2.length ∧ (seatsF g).1.length ≤ 256 ∧ ((seatsF g).1.length = 0 ∨ ((seatsF g).1.length : Int) = g.h * g.w ∧ checkF g = 0) := by
  by_cases hc : checkF g = 0
  · have h := seats_are hc (c := 0) (by omega)
    have hw := hw_in (chk0.1 hc).1 (chk0.1 hc).2.1
    exact ⟨by omega, by omega, .inr ⟨h.2.2.1, hc⟩⟩
  · have e : seatsF g = ([], []) := if_neg hc
    rw [e]
    exact ⟨rfl, by simp, .inl rfl⟩


end Go.Proofs.YtnakmganodkliaaDoorAm
