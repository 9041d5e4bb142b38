/- The law on turned grids: what it may call. -/
import Derived.Test.YtnakmganodkliaaDoorSlI
import Derived.Test.YtnakmganodkliaaDoorGrT
set_option linter.unusedVariables false
set_option maxRecDepth 100000
namespace Go.Proofs.YtnakmganodkliaaDoorAm
open Go

/-- Of the turned grid only how many slots it has. -/
def spX : Sp := fun f args rd => match f, args with
  | 35, [] => some { f := 35, args := [], val := .v (.bool true) }
  | 36, [.agg [.v (.int _ h), .v (.int _ w), .own i1 o1 n1 c1, r, l]] => withW rd h w (.own i1 o1 n1 c1) r l fun g ls => some { f := 36, args := [g.d], val := .lenv (slotsF g).length, lent := ls }
  | 36, [.agg [.v (.int _ h), .v (.int _ w), b, r, l]] => withW rd h w b r l fun g ls => some { f := 36, args := [g.d], val := .own 0 0 (slotsF g).length none, allocs := [.data 50 SlT (slotsF g)], frz := ls }
  | 47, [.agg [.v (.int _ h), .v (.int _ w), b, r, l]] => withW rd h w b r l fun g ls => some { f := 47, args := [g.d], val := .v (.int .i64 (crossF g)), lent := ls }
  | 49, [.agg [.v (.int _ h), .v (.int _ w), b, r, l]] => withW rd h w b r l fun g ls => some { f := 49, args := [g.d], val := .lenv (loneF g).length, lent := ls }
  | f, args => spT f args rd
/-- Of the mirrored grid the slots. -/
def spXm : Sp := fun f args rd => match f, args with
  | 36, [.agg [.v (.int _ h), .v (.int _ w), b, r, l]] => withW rd h w b r l fun g ls => some { f := 36, args := [g.d], val := .own 0 0 (slotsF g).length none, allocs := [.data 50 SlT (slotsF g)], frz := ls }
  | f, args => spX f args rd

noncomputable def u11 : Code := (Tryd.f11.body).getD .skip

end Go.Proofs.YtnakmganodkliaaDoorAm
