/- The laws on slots look first whether a small grid has five slots and whether the name of one is right. -/
import Derived.Test.YtnakmganodkliaaDoorSlG
import Derived.Test.YtnakmganodkliaaDoorSlE
set_option linter.unusedVariables false
set_option linter.unusedSimpArgs false
set_option maxRecDepth 100000
namespace Go.Proofs.YtnakmganodkliaaDoorAm
open Go

def spN : Sp := fun f args rd => match f, args with
  | 160, [.v (.int _ 12)] => some { f := 160, args := [.v (.int .i64 12)], val := .v (.string ⟨#[49, 50]⟩) }
  | 153, [.v (.int _ 12), .v (.int _ 10)] => some { f := 153, args := [.v (.int .i64 12), .v (.int .i64 10)], val := .v (.string ⟨#[49, 50]⟩) }
  | 141, [.v (.int _ 12)] => some { f := 141, args := [.v (.int .i64 12)], val := .v (.string ⟨#[49, 50]⟩) }
  | 112, [.v (.int _ 12)] => some { f := 112, args := [.v (.int .i64 12)], val := .v (.string ⟨#[49, 50]⟩) }
  | 76, [.v (.int _ 12), .v (.bool true)] => some { f := 76, args := [.v (.int .i64 12), .v (.bool true)], val := .v (.string ⟨#[49, 50, 68]⟩) }
  | 36, [.agg [.v (.int _ h), .v (.int _ w), b, r, l]] => withW rd h w b r l fun g ls => some { f := 36, args := [g.d], val := .own 0 0 (slotsF g).length none, allocs := [.data 50 SlT (slotsF g)], frz := ls }
  | 35, [] => some { f := 35, args := [], val := .v (.bool true) }
  | f, args => spSe f args rd

noncomputable def q160 : Code := (Tryd.f160.body).getD .skip
noncomputable def q153 : Code := (Tryd.f153.body).getD .skip
noncomputable def q141 : Code := (Tryd.f141.body).getD .skip
noncomputable def q112 : Code := (Tryd.f112.body).getD .skip
noncomputable def q76 : Code := (Tryd.f76.body).getD .skip
noncomputable def q35 : Code := (Tryd.f35.body).getD .skip
noncomputable def q7 : Code := (Tryd.f7.body).getD .skip


end Go.Proofs.YtnakmganodkliaaDoorAm
