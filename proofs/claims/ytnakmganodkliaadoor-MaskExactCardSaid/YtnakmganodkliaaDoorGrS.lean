/- What the functions of package grid and its reference answer, as plain functions; what may be called. -/
import Derived.Test.YtnakmganodkliaaDoorLe
import Derived.Test.YtnakmganodkliaaDoorProg
import Derived.IntWalk
set_option linter.unusedVariables false
set_option linter.unusedSimpArgs false
namespace Go.Proofs.YtnakmganodkliaaDoorAm
open Go

theorem hmG : Tryd.prog.follows .mixedOrders = true := by kernel_rfl

theorem wrG {n : Int} (h1 : -9223372036854775808 ≤ n) (h2 : n ≤ 9223372036854775807) : IntKind.i64.wrap n = n := by
  rw [IntKind.wrap_i64]
  omega

/-- A grid's data. -/
structure Gr where
  h : Int
  w : Int
  B : List Bool
  R : List Bool
  L : List Bool
  deriving DecidableEq

def slB (xs : List Bool) : D := .sl false false .bool xs
def slI (xs : List Int) : D := .sl false false (.int .i64) xs
def Gr.d (g : Gr) : D := .agg [.v (.int .i64 g.h), .v (.int .i64 g.w), .sl false false .bool g.B, .sl false false .bool g.R, .sl false false .bool g.L]

def bAt (xs : List Bool) (i : Int) : Bool := xs.getD i.toNat false

def sideB (n : Int) : Bool := decide (1 ≤ n) && decide (n ≤ 16)

def barred (g : Gr) (i : Int) : Bool :=
  (bAt g.R i && (bAt g.B i || decide (i % g.w = g.w - 1) || bAt g.B (i + 1))) || (bAt g.L i && (bAt g.B i || decide (i / g.w = g.h - 1) || bAt g.B (i + g.w)))

def anyBar (g : Gr) : Nat → Int → Bool
  | 0, _ => false
  | m + 1, i => barred g i || anyBar g m (i + 1)

def sizeB3 (g : Gr) : Bool := decide ((g.B.length : Int) = g.h * g.w) && decide ((g.R.length : Int) = g.h * g.w) && decide ((g.L.length : Int) = g.h * g.w)

def checkF (g : Gr) : Int :=
  if sideB g.h && sideB g.w then if sizeB3 g then if anyBar g (g.h * g.w).toNat 0 then 52 else 0 else 51 else 50

def openF (g : Gr) (i : Int) : Bool := (checkF g == 0) && decide (0 ≤ i) && decide (i < g.h * g.w) && !bAt g.B i

def falses (xs : List Bool) : Int := ((xs.filter (!·)).length : Nat)

def countF (g : Gr) : Int := if checkF g = 0 then falses g.B else 0

def stepTo (g : Gr) (ok : Bool) (j : Int) : Int × Bool := if ok && !bAt g.B j then (j, true) else (0, false)

def stepIn (g : Gr) (i way : Int) : Int × Bool :=
  if way = 0 then stepTo g (decide (i % g.w < g.w - 1) && !bAt g.R i) (i + 1)
  else if way = 1 then stepTo g (decide (i / g.w < g.h - 1) && !bAt g.L i) (i + g.w)
  else if way = 2 then stepTo g (decide (0 < i % g.w) && !bAt g.R (i - 1)) (i - 1)
  else if way = 3 then stepTo g (decide (0 < i / g.w) && !bAt g.L (i - g.w)) (i - g.w) else (0, false)

def stepF (g : Gr) (i way : Int) : Int × Bool := if openF g i then stepIn g i way else (0, false)

def nearFrom (g : Gr) (i : Int) : Nat → Int → List Int
  | 0, _ => []
  | m + 1, way => (if (stepIn g i way).2 then [(stepIn g i way).1] else []) ++ nearFrom g i m (way + 1)

def nearF (g : Gr) (i : Int) : List Int := if openF g i then nearFrom g i 4 0 else []

/-- A grid of the call's own, its lists the rows from n on. -/
def grOwn (n : Nat) (h w : Int) (a b c : Nat) (k : Nat → Option Nat) : D := .agg [.v (.int .i64 h), .v (.int .i64 w), .own n 0 a (k a), .own (n + 1) 0 b (k b), .own (n + 2) 0 c (k c)]

def withG (rd : Nat → Option Row) (h w : Int) (b r l : D) (k : Gr → List Nat → Option Ann) : Option Ann :=
  match slC rd .bool [b], slC rd .bool [r], slC rd .bool [l] with
  | some B, some R, some L => k ⟨h, w, B, R, L⟩ (refsDs [b, r, l])
  | _, _, _ => none

def nilG : D := .agg [.v (.int .i64 0), .v (.int .i64 0), .v (.slice none 0 0), .v (.slice none 0 0), .v (.slice none 0 0)]

def with2 (t : Ty) (rd : Nat → Option Row) (a b : D) (k : List t.El → List t.El → List Nat → Option Ann) : Option Ann :=
  match slC rd t [a], slC rd t [b] with
  | some A, some B => k A B (refsDs [a, b])
  | _, _ => none

/-- What may be called. ok: Blank's sides are right. -/
def spG (ok : Bool) : Sp := fun f args rd => match f, args with
  | 84, [.v (.int _ n)] => some { f := 84, args := [.v (.int .i64 n)], val := .v (.bool (sideB n)) }
  | 115, [.v (.int _ n)] => some { f := 115, args := [.v (.int .i64 n)], val := .v (.bool (sideB n)) }
  | 44, [.agg [.v (.int _ h), .v (.int _ w), b, r, l]] => withG rd h w b r l fun g ls => some { f := 44, args := [g.d], val := .v (.int .i64 (checkF g)), lent := ls }
  | 80, [.agg [.v (.int _ h), .v (.int _ w), b, r, l]] => withG rd h w b r l fun g ls => some { f := 80, args := [g.d], val := .v (.int .i64 (checkF g)), lent := ls }
  | 116, [.agg [.v (.int _ h), .v (.int _ w), b, r, l]] => withG rd h w b r l fun g ls => some { f := 116, args := [g.d], val := .v (.bool (anyBar g (g.h * g.w).toNat 0)), lent := ls }
  | 113, [.agg [.v (.int _ h), .v (.int _ w), b, r, l], .v (.int _ i)] => withG rd h w b r l fun g ls => some { f := 113, args := [g.d, .v (.int .i64 i)], val := .v (.bool (decide (0 ≤ i) && decide (i < (g.B.length : Int)) && !bAt g.B i)), lent := ls }
  | 78, [.agg [.v (.int _ h), .v (.int _ w), b, r, l], .v (.int _ i)] => withG rd h w b r l fun g ls => some { f := 78, args := [g.d, .v (.int .i64 i)], val := .v (.bool (openF g i)), lent := ls }
  | 142, [.agg [.v (.int _ h), .v (.int _ w), b, r, l], .v (.int _ i)] => withG rd h w b r l fun g ls => some { f := 142, args := [g.d, .v (.int .i64 i)], val := .v (.bool (openF g i)), lent := ls }
  | 114, [] => some { f := 114, args := [], val := .agg ([0, 1, 1, 0, 0, -1, -1, 0].map fun n => .v (.int .i64 n)) }
  | 79, [.agg [.v (.int _ h), .v (.int _ w), b, r, l], .v (.int _ i), .v (.int _ y)] => withG rd h w b r l fun g ls => some { f := 79, args := [g.d, .v (.int .i64 i), .v (.int .i64 y)], val := .tup [.v (.int .i64 (stepIn g i y).1), .v (.bool (stepIn g i y).2)], lent := ls }
  | 37, [.agg [.v (.int _ h), .v (.int _ w), b, r, l], .v (.int _ i), .v (.int _ y)] => withG rd h w b r l fun g ls => some { f := 37, args := [g.d, .v (.int .i64 i), .v (.int .i64 y)], val := .tup [.v (.int .i64 (stepF g i y).1), .v (.bool (stepF g i y).2)], lent := ls }
  | 117, [.agg [.v (.int _ h), .v (.int _ w), b, r, l], .v (.int _ i), .v (.int _ y)] => withG rd h w b r l fun g ls => some { f := 117, args := [g.d, .v (.int .i64 i), .v (.int .i64 y)], val := .tup [.v (.int .i64 (stepF g i y).1), .v (.bool (stepF g i y).2)], lent := ls }
  | 83, [a, b] => with2 .bool rd a b fun A B ls => some { f := 83, args := [slB A, slB B], val := .v (.bool (decide (A = B))), lent := ls }
  | 23, [a, b] => with2 (.int .i64) rd a b fun A B ls => some { f := 23, args := [slI A, slI B], val := .v (.bool (decide (A = B))), lent := ls }
  | 43, [.agg [.v (.int _ h), .v (.int _ w), b, r, l], .agg [.v (.int _ h'), .v (.int _ w'), b', r', l']] => withG rd h w b r l fun g ls => withG rd h' w' b' r' l' fun g' ls' => some { f := 43, args := [g.d, g'.d], val := .v (.bool (decide (g = g'))), lent := ls ++ ls' }
  | 118, [.ptr i _ _, .ptr j _ _] => match rd i, rd j with
    | some (.box _ [.v (.int _ h)]), some (.box _ [.v (.int _ w)]) => some { f := 118, args := [.rptr [.v (.int .i64 h)], .rptr [.v (.int .i64 w)]], val := .own 0 0 (h * w).toNat (some (h * w).toNat), allocs := [.data 4 .bool (List.replicate (h * w).toNat false)], lent := [i, j] }
    | _, _ => none
  | 86, [.v (.int _ h), .v (.int _ w)] => match ok with
    | true => some { f := 86, args := [.v (.int .i64 h), .v (.int .i64 w)], val := .tup [grOwn 0 h w (h * w).toNat (h * w).toNat (h * w).toNat some, .v (.int .i64 0)], allocs := List.replicate 3 (.data 4 .bool (List.replicate (h * w).toNat false)) }
    | false => some { f := 86, args := [.v (.int .i64 h), .v (.int .i64 w)], val := .tup [nilG, .v (.int .i64 50)] }
  | _, _ => none

noncomputable def g80 : Code := (Tryd.f84.body).getD .skip
noncomputable def g82 : Code := (Tryd.f115.body).getD .skip
noncomputable def g43 : Code := (Tryd.f44.body).getD .skip
noncomputable def g44 : Code := (Tryd.f80.body).getD .skip
noncomputable def g87 : Code := (Tryd.f116.body).getD .skip
noncomputable def g88 : Code := (Tryd.f113.body).getD .skip
noncomputable def g45 : Code := (Tryd.f78.body).getD .skip
noncomputable def g46 : Code := (Tryd.f142.body).getD .skip
noncomputable def g119 : Code := (Tryd.f114.body).getD .skip
noncomputable def g85 : Code := (Tryd.f79.body).getD .skip
noncomputable def g37 : Code := (Tryd.f37.body).getD .skip
noncomputable def g38 : Code := (Tryd.f117.body).getD .skip
noncomputable def g83 : Code := (Tryd.f83.body).getD .skip
noncomputable def g41 : Code := (Tryd.f23.body).getD .skip
noncomputable def g34 : Code := (Tryd.f43.body).getD .skip
noncomputable def g81 : Code := (Tryd.f118.body).getD .skip
noncomputable def g32 : Code := (Tryd.f86.body).getD .skip