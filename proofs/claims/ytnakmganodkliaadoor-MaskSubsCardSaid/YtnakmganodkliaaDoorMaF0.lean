/- Sets of numbers: what the law on subsets may call. -/
import Derived.Test.YtnakmganodkliaaDoorMaA0
import Derived.Test.YtnakmganodkliaaDoorMaS
set_option linter.unusedVariables false
set_option maxRecDepth 100000
namespace Go.Proofs.YtnakmganodkliaaDoorAm
open Go

/-- The first subsets, so many. -/
def subsL (m : Nat) (n : Int) : List Int := (List.range (min n.toNat (2 ^ (listN m).length))).map fun k => ((subN m k : Nat) : Int)
/-- What the subsets' sequence yields. -/
def valsU (l : List Nat) : List (List Value) := l.map fun (i : Nat) => [Value.int .u64 (i : Int)]

def spS : Sp := fun f args rd => match f, args with
  | 28, [.v (.int _ m)] => some { f := 28, args := [.v (.int .u64 m)], val := .fn 75 [.rptr [.v (.int .u64 m)]] }
  | 27, [.v (.int _ m), .v (.int _ n)] => some { f := 27, args := [.v (.int .u64 m), .v (.int .i64 n)], val := .own 0 0 (subsL m.toNat n).length none, allocs := [.data 22 (.int .u64) (subsL m.toNat n)] }
  | f, args => spM f args rd

noncomputable def m75 : Code := (Tryd.f75.body).getD .skip
noncomputable def m28 : Code := (Tryd.f28.body).getD .skip
noncomputable def m27 : Code := (Tryd.f27.body).getD .skip
noncomputable def m5 : Code := (Tryd.f5.body).getD .skip

end Go.Proofs.YtnakmganodkliaaDoorAm
