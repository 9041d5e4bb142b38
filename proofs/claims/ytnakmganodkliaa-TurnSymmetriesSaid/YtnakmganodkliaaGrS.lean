/- What the functions of package grid and its reference answer, as plain functions; what may be called. -/
import Derived.Test.YtnakmganodkliaaLe
import Derived.Test.YtnakmganodkliaaProg
import Derived.IntWalk
set_option linter.unusedVariables false
set_option linter.unusedSimpArgs false
namespace Go.Proofs.YtnakmganodkliaaAm
open Go

theorem hmG : Try.prog.follows .mixedOrders = true := by kernel_rfl

theorem wrG {n : Int} (h1 : -9223372036854775808 ≤ n) (h2 : n ≤ 9223372036854775807) : IntKind.i64.wrap n = n := by
  rw [IntKind.wrap_i64]
  omega

/-- A grid's data. -/
structure Gr where
  h : Int
  w : Int
  B : List Bool
  R : List Bool
  L : List Bool
  deriving DecidableEq

def slB (xs : List Bool) : D := .sl false false .bool xs
def slI (xs : List Int) : D := .sl false false (.int .i64) xs
def Gr.d (g : Gr) : D := .agg [.v (.int .i64 g.h), .v (.int .i64 g.w), .sl false false .bool g.B, .sl false false .bool g.R, .sl false false .bool g.L]

def bAt (xs : List Bool) (i : Int) : Bool := xs.getD i.toNat false

def sideB (n : Int) : Bool := decide (1 ≤ n) && decide (n ≤ 16)

def barred (g : Gr) (i : Int) : Bool :=
  (bAt g.R i && (bAt g.B i || decide (i % g.w = g.w - 1) || bAt g.B (i + 1))) || (bAt g.L i && (bAt g.B i || decide (i / g.w = g.h - 1) || bAt g.B (i + g.w)))

def anyBar (g : Gr) : Nat → Int → Bool
  | 0, _ => false
  | m + 1, i => barred g i || anyBar g m (i + 1)

def sizeB3 (g : Gr) : Bool := decide ((g.B.length : Int) = g.h * g.w) && decide ((g.R.length : Int) = g.h * g.w) && decide ((g.L.length : Int) = g.h * g.w)

def checkF (g : Gr) : Int :=
  if sideB g.h && sideB g.w then if sizeB3 g then if anyBar g (g.h * g.w).toNat 0 then 52 else 0 else 51 else 50

def openF (g : Gr) (i : Int) : Bool := (checkF g == 0) && decide (0 ≤ i) && decide (i < g.h * g.w) && !bAt g.B i

def falses (xs : List Bool) : Int := ((xs.filter (!·)).length : Nat)

def countF (g : Gr) : Int := if checkF g = 0 then falses g.B else 0

def stepTo (g : Gr) (ok : Bool) (j : Int) : Int × Bool := if ok && !bAt g.B j then (j, true) else (0, false)

def stepIn (g : Gr) (i way : Int) : Int × Bool :=
  if way = 0 then stepTo g (decide (i % g.w < g.w - 1) && !bAt g.R i) (i + 1)
  else if way = 1 then stepTo g (decide (i / g.w < g.h - 1) && !bAt g.L i) (i + g.w)
  else if way = 2 then stepTo g (decide (0 < i % g.w) && !bAt g.R (i - 1)) (i - 1)
  else if way = 3 then stepTo g (decide (0 < i / g.w) && !bAt g.L (i - g.w)) (i - g.w) else (0, false)

def stepF (g : Gr) (i way : Int) : Int × Bool := if openF g i then stepIn g i way else (0, false)

def nearFrom (g : Gr) (i : Int) : Nat → Int → List Int
  | 0, _ => []
  | m + 1, way => (if (stepIn g i way).2 then [(stepIn g i way).1] else []) ++ nearFrom g i m (way + 1)

def nearF (g : Gr) (i : Int) : List Int := if openF g i then nearFrom g i 4 0 else []

/-- A grid of the call's own, its lists the rows from n on. -/
def grOwn (n : Nat) (h w : Int) (a b c : Nat) (k : Nat → Option Nat) : D := .agg [.v (.int .i64 h), .v (.int .i64 w), .own n 0 a (k a), .own (n + 1) 0 b (k b), .own (n + 2) 0 c (k c)]

def withG (rd : Nat → Option Row) (h w : Int) (b r l : D) (k : Gr → List Nat → Option Ann) : Option Ann :=
  match slC rd .bool [b], slC rd .bool [r], slC rd .bool [l] with
  | some B, some R, some L => k ⟨h, w, B, R, L⟩ (refsDs [b, r, l])
  | _, _, _ => none

def nilG : D := .agg [.v (.int .i64 0), .v (.int .i64 0), .v (.slice none 0 0), .v (.slice none 0 0), .v (.slice none 0 0)]

def with2 (t : Ty) (rd : Nat → Option Row) (a b : D) (k : List t.El → List t.El → List Nat → Option Ann) : Option Ann :=
  match slC rd t [a], slC rd t [b] with
  | some A, some B => k A B (refsDs [a, b])
  | _, _ => none

/-- What may be called. ok: Blank's sides are right. -/
def spG (ok : Bool) : Sp := fun f args rd => match f, args with
  | 80, [.v (.int _ n)] => some { f := 80, args := [.v (.int .i64 n)], val := .v (.bool (sideB n)) }
  | 82, [.v (.int _ n)] => some { f := 82, args := [.v (.int .i64 n)], val := .v (.bool (sideB n)) }
  | 43, [.agg [.v (.int _ h), .v (.int _ w), b, r, l]] => withG rd h w b r l fun g ls => some { f := 43, args := [g.d], val := .v (.int .i64 (checkF g)), lent := ls }
  | 44, [.agg [.v (.int _ h), .v (.int _ w), b, r, l]] => withG rd h w b r l fun g ls => some { f := 44, args := [g.d], val := .v (.int .i64 (checkF g)), lent := ls }
  | 87, [.agg [.v (.int _ h), .v (.int _ w), b, r, l]] => withG rd h w b r l fun g ls => some { f := 87, args := [g.d], val := .v (.bool (anyBar g (g.h * g.w).toNat 0)), lent := ls }
  | 88, [.agg [.v (.int _ h), .v (.int _ w), b, r, l], .v (.int _ i)] => withG rd h w b r l fun g ls => some { f := 88, args := [g.d, .v (.int .i64 i)], val := .v (.bool (decide (0 ≤ i) && decide (i < (g.B.length : Int)) && !bAt g.B i)), lent := ls }
  | 45, [.agg [.v (.int _ h), .v (.int _ w), b, r, l], .v (.int _ i)] => withG rd h w b r l fun g ls => some { f := 45, args := [g.d, .v (.int .i64 i)], val := .v (.bool (openF g i)), lent := ls }
  | 46, [.agg [.v (.int _ h), .v (.int _ w), b, r, l], .v (.int _ i)] => withG rd h w b r l fun g ls => some { f := 46, args := [g.d, .v (.int .i64 i)], val := .v (.bool (openF g i)), lent := ls }
  | 35, [.agg [.v (.int _ h), .v (.int _ w), b, r, l]] => withG rd h w b r l fun g ls => some { f := 35, args := [g.d], val := .v (.int .i64 (countF g)), lent := ls }
  | 47, [.agg [.v (.int _ h), .v (.int _ w), b, r, l]] => withG rd h w b r l fun g ls => some { f := 47, args := [g.d], val := .v (.int .i64 (countF g)), lent := ls }
  | 119, [] => some { f := 119, args := [], val := .agg ([0, 1, 1, 0, 0, -1, -1, 0].map fun n => .v (.int .i64 n)) }
  | 85, [.agg [.v (.int _ h), .v (.int _ w), b, r, l], .v (.int _ i), .v (.int _ y)] => withG rd h w b r l fun g ls => some { f := 85, args := [g.d, .v (.int .i64 i), .v (.int .i64 y)], val := .tup [.v (.int .i64 (stepIn g i y).1), .v (.bool (stepIn g i y).2)], lent := ls }
  | 37, [.agg [.v (.int _ h), .v (.int _ w), b, r, l], .v (.int _ i), .v (.int _ y)] => withG rd h w b r l fun g ls => some { f := 37, args := [g.d, .v (.int .i64 i), .v (.int .i64 y)], val := .tup [.v (.int .i64 (stepF g i y).1), .v (.bool (stepF g i y).2)], lent := ls }
  | 38, [.agg [.v (.int _ h), .v (.int _ w), b, r, l], .v (.int _ i), .v (.int _ y)] => withG rd h w b r l fun g ls => some { f := 38, args := [g.d, .v (.int .i64 i), .v (.int .i64 y)], val := .tup [.v (.int .i64 (stepF g i y).1), .v (.bool (stepF g i y).2)], lent := ls }
  | 86, [.agg [.v (.int _ h), .v (.int _ w), b, r, l], .v (.int _ i)] => withG rd h w b r l fun g ls => some { f := 86, args := [g.d, .v (.int .i64 i)], val := .own 0 0 (nearFrom g i 4 0).length none, allocs := [.data 3 (.int .i64) (nearFrom g i 4 0)], lent := ls }
  | 39, [.agg [.v (.int _ h), .v (.int _ w), b, r, l], .v (.int _ i)] => withG rd h w b r l fun g ls => some { f := 39, args := [g.d, .v (.int .i64 i)], val := .own 0 0 (nearF g i).length none, allocs := [.data 3 (.int .i64) (nearF g i)], lent := ls }
  | 40, [.agg [.v (.int _ h), .v (.int _ w), b, r, l], .v (.int _ i)] => withG rd h w b r l fun g ls => some { f := 40, args := [g.d, .v (.int .i64 i)], val := .own 0 0 (nearF g i).length none, allocs := [.data 3 (.int .i64) (nearF g i)], lent := ls }
  | 89, [a, b] => with2 .bool rd a b fun A B ls => some { f := 89, args := [slB A, slB B], val := .v (.bool (decide (A = B))), lent := ls }
  | 83, [a, b] => with2 .bool rd a b fun A B ls => some { f := 83, args := [slB A, slB B], val := .v (.bool (decide (A = B))), lent := ls }
  | 41, [a, b] => with2 (.int .i64) rd a b fun A B ls => some { f := 41, args := [slI A, slI B], val := .v (.bool (decide (A = B))), lent := ls }
  | 48, [.agg [.v (.int _ h), .v (.int _ w), b, r, l], .agg [.v (.int _ h'), .v (.int _ w'), b', r', l']] => withG rd h w b r l fun g ls => withG rd h' w' b' r' l' fun g' ls' => some { f := 48, args := [g.d, g'.d], val := .v (.bool (decide (g = g'))), lent := ls ++ ls' }
  | 34, [.agg [.v (.int _ h), .v (.int _ w), b, r, l], .agg [.v (.int _ h'), .v (.int _ w'), b', r', l']] => withG rd h w b r l fun g ls => withG rd h' w' b' r' l' fun g' ls' => some { f := 34, args := [g.d, g'.d], val := .v (.bool (decide (g = g'))), lent := ls ++ ls' }
  | 81, [.ptr i _ _, .ptr j _ _] => match rd i, rd j with
    | some (.box _ [.v (.int _ h)]), some (.box _ [.v (.int _ w)]) => some { f := 81, args := [.rptr [.v (.int .i64 h)], .rptr [.v (.int .i64 w)]], val := .own 0 0 (h * w).toNat (some (h * w).toNat), allocs := [.data 4 .bool (List.replicate (h * w).toNat false)], lent := [i, j] }
    | _, _ => none
  | 32, [.v (.int _ h), .v (.int _ w)] => match ok with
    | true => some { f := 32, args := [.v (.int .i64 h), .v (.int .i64 w)], val := .tup [grOwn 0 h w (h * w).toNat (h * w).toNat (h * w).toNat some, .v (.int .i64 0)], allocs := List.replicate 3 (.data 4 .bool (List.replicate (h * w).toNat false)) }
    | false => some { f := 32, args := [.v (.int .i64 h), .v (.int .i64 w)], val := .tup [nilG, .v (.int .i64 50)] }
  | 33, [.v (.int _ h), .v (.int _ w)] => match ok with
    | true => some { f := 33, args := [.v (.int .i64 h), .v (.int .i64 w)], val := .tup [grOwn 0 h w (h * w).toNat (h * w).toNat (h * w).toNat some, .v (.int .i64 0)], allocs := List.replicate 3 (.data 4 .bool (List.replicate (h * w).toNat false)) }
    | false => some { f := 33, args := [.v (.int .i64 h), .v (.int .i64 w)], val := .tup [nilG, .v (.int .i64 50)] }
  | 31, [] => some { f := 31, args := [], val := .v (.bool true) }
  | 84, [a] => match slC rd .bool [a] with
    | some A => some { f := 84, args := [slB A], val := .own 0 0 A.length none, allocs := [.data 4 .bool (A ++ [true, false])], lent := refsDs [a] }
    | none => none
  | 36, [.agg [.v (.int _ h), .v (.int _ w), b, r, l]] => withG rd h w b r l fun g ls => some { f := 36, args := [g.d], val := grOwn 0 g.h g.w g.B.length g.R.length g.L.length (fun _ => none), allocs := [.data 4 .bool (g.B ++ [true, false]), .data 4 .bool (g.R ++ [true, false]), .data 4 .bool (g.L ++ [true, false])], lent := ls }
  | 42, [.agg [.v (.int _ h), .v (.int _ w), .own i1 0 n1 none, .own i2 0 n2 none, .own i3 0 n3 none], .agg [.v (.int _ h'), .v (.int _ w'), b', r', l']] => withG rd h' w' b' r' l' fun g' ls' => match rd i1, rd i2, rd i3 with
    | some (.data 4 .bool x1), some (.data 4 .bool x2), some (.data 4 .bool x3) =>
      let g : Gr := ⟨h, w, x1.take n1, x2.take n2, x3.take n3⟩
      let rows : List Row := [.data 4 .bool (g.B ++ [true, false]), .data 4 .bool (g.R ++ [true, false]), .data 4 .bool (g.L ++ [true, false])]
      some { f := 42, pre := rows, args := [grOwn 0 g.h g.w g.B.length g.R.length g.L.length (fun _ => none), g'.d], val := .v (.bool (decide (g = g'))), post := rows.map some, cap := [i1, i2, i3], lent := ls' }
    | _, _, _ => none
  | 136, [.v (.int _ x), .v (.int _ y)] => some { f := 136, args := [.v (.int .u64 x), .v (.int .u64 y)], val := .tup [.v (.int .u64 0), .v (.int .u64 (x * y))] }
  | 120, [.v (.int _ x), .v (.int _ y)] => some { f := 120, args := [.v (.int .u64 x), .v (.int .u64 y)], val := .tup [.v (.int .u64 0), .v (.int .u64 (x * y))] }
  | 91, [.own i _ _ _, .v (.int _ n)] => match rd i with
    | some (.data 3 (.int .i64) [a]) => some { f := 91, args := [.sl false false (.int .i64) [a], .v (.int .i64 n)], val := .own 0 0 n.toNat none, allocs := [.data 3 (.int .i64) (List.replicate n.toNat a)], lent := [i] }
    | _ => none
  | _, _ => none

noncomputable def g80 : Code := (Try.f80.body).getD .skip
noncomputable def g82 : Code := (Try.f82.body).getD .skip
noncomputable def g43 : Code := (Try.f43.body).getD .skip
noncomputable def g44 : Code := (Try.f44.body).getD .skip
noncomputable def g87 : Code := (Try.f87.body).getD .skip
noncomputable def g88 : Code := (Try.f88.body).getD .skip
noncomputable def g45 : Code := (Try.f45.body).getD .skip
noncomputable def g46 : Code := (Try.f46.body).getD .skip
noncomputable def g35 : Code := (Try.f35.body).getD .skip
noncomputable def g47 : Code := (Try.f47.body).getD .skip
noncomputable def g119 : Code := (Try.f119.body).getD .skip
noncomputable def g85 : Code := (Try.f85.body).getD .skip
noncomputable def g37 : Code := (Try.f37.body).getD .skip
noncomputable def g38 : Code := (Try.f38.body).getD .skip
noncomputable def g86 : Code := (Try.f86.body).getD .skip
noncomputable def g39 : Code := (Try.f39.body).getD .skip
noncomputable def g40 : Code := (Try.f40.body).getD .skip
noncomputable def g89 : Code := (Try.f89.body).getD .skip
noncomputable def g83 : Code := (Try.f83.body).getD .skip
noncomputable def g41 : Code := (Try.f41.body).getD .skip
noncomputable def g48 : Code := (Try.f48.body).getD .skip
noncomputable def g34 : Code := (Try.f34.body).getD .skip
noncomputable def g81 : Code := (Try.f81.body).getD .skip
noncomputable def g32 : Code := (Try.f32.body).getD .skip
noncomputable def g33 : Code := (Try.f33.body).getD .skip
noncomputable def g31 : Code := (Try.f31.body).getD .skip
noncomputable def g84 : Code := (Try.f84.body).getD .skip
noncomputable def g36 : Code := (Try.f36.body).getD .skip
noncomputable def g42 : Code := (Try.f42.body).getD .skip
noncomputable def g5 : Code := (Try.f5.body).getD .skip
noncomputable def g6 : Code := (Try.f6.body).getD .skip
noncomputable def g7 : Code := (Try.f7.body).getD .skip
noncomputable def g136 : Code := (Try.f136.body).getD .skip
noncomputable def g120 : Code := (Try.f120.body).getD .skip
noncomputable def g91 : Code := (Try.f91.body).getD .skip
noncomputable def g50 : Code := (Try.f50.body).getD .skip
noncomputable def g51 : Code := (Try.f51.body).getD .skip
noncomputable def g9 : Code := (Try.f9.body).getD .skip
noncomputable def g10 : Code := (Try.f10.body).getD .skip
noncomputable def g12 : Code := (Try.f12.body).getD .skip

end Go.Proofs.YtnakmganodkliaaAm
