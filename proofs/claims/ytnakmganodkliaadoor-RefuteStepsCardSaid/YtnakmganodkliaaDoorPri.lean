/- Refutations: no filling has all pairs of a nogood that is taken, and what it leans on. (part 9) -/
import Derived.Test.YtnakmganodkliaaDoorPrh
set_option linter.unusedVariables false
set_option linter.unusedSimpArgs false
set_option maxRecDepth 100000
namespace Go.Proofs.YtnakmganodkliaaDoorAm
open Go
def vq29 (g:Gr) (W:List (List Int)) (B:List (List (Int×Int))) (q:List Nat) (m:List Nat) (ws:List (List Int)) (ch:Bool) (i:Int) (l:List (Int×Int)) (k:Int) (a:Int×Int) (G:Nat→St→Prop) (R:D×List (Option Row)×List Row→Prop):Prop:=let yy0:=((Ty.int .i64).prod (Ty.int .i64));let yy1:=(stOf 105 [2,8,9,11,34,35,36] [D.sl false false yy0.sl B,D.ptr 0 0 0,D.ptr 1 0 0,D.v (Value.bool ch),D.sl false false yy0.sl B,D.v (Value.int .i64 (↑B.length:Int)),D.v (Value.int .i64 (IntKind.i64.wrap (i+(1:Int))))] [Slot.live (Row.box 73 [D.v (Value.int .i64 g.h),D.v (Value.int .i64 g.w),D.sl false false Ty.bool g.B,D.sl false false Ty.bool g.R,D.sl false false Ty.bool g.L,D.sl false false (Ty.int .i64).sl W,D.own 2 0 q.length none]),Slot.live (Row.box 151 [D.own 3 0 m.length none,D.own 4 0 ws.length none,D.v (Value.bool true)]),Slot.live (Row.data 22 (Ty.int .u64) (Mi q)),Slot.live (Row.data 22 (Ty.int .u64) (Mi m)),Slot.live (Row.nest (NK.mk 27 (Ty.int .i64).sl 0 3 (Ty.int .i64)) ws none)]);let yy2:=(stOf 105 [2,8,9,11,34,35,36] [D.sl false false yy0.sl B,D.ptr 0 0 0,D.ptr 1 0 0,D.v (Value.bool true),D.sl false false yy0.sl B,D.v (Value.int .i64 (↑B.length:Int)),D.v (Value.int .i64 (IntKind.i64.wrap (i+(1:Int))))] [Slot.live (Row.box 73 [D.v (Value.int .i64 g.h),D.v (Value.int .i64 g.w),D.sl false false Ty.bool g.B,D.sl false false Ty.bool g.R,D.sl false false Ty.bool g.L,D.sl false false (Ty.int .i64).sl W,D.own 2 0 q.length none]),Slot.live (Row.box 151 [D.own 3 0 m.length none,D.own 4 0 ws.length none,D.v (Value.bool true)]),Slot.live (Row.data 22 (Ty.int .u64) (Mi q)),Slot.live (Row.data 22 (Ty.int .u64) ((Mi m).set (0+a.fst.toNat) (IntKind.u64.wrap (↑(BitVec.ofInt 64 ((Mi m).getD (0+a.fst.toNat) (Ty.int .u64).dflt)&&& ~~~BitVec.ofInt 64 (↑(ofN (List.take 1 (List.drop 0 [a.snd]))):Int)).toNat:Int)))),Slot.live (Row.nest (NK.mk 27 (Ty.int .i64).sl 0 3 (Ty.int .i64)) ws none)]);let yy3:=(decide (IntKind.i64.wrap ((0:Int)+(1:Int))>(1:Int))=false→SameK (KK r92 1) (KK r92 1)∧G 1 (stOf 105 [2,8,9,11,14,15,34,35,36,41,42,43] [D.sl false false yy0.sl B,D.ptr 0 0 0,D.ptr 1 0 0,D.v (Value.bool ch),D.v (Value.int .i64 (IntKind.i64.wrap ((0:Int)+(1:Int)))),D.ptr 2 0 0,D.sl false false yy0.sl B,D.v (Value.int .i64 (↑B.length:Int)),D.v (Value.int .i64 i),D.sl false false yy0 l,D.v (Value.int .i64 (↑l.length:Int)),D.v (Value.int .i64 (IntKind.i64.wrap (k+(1:Int))))] [Slot.live (Row.box 73 [D.v (Value.int .i64 g.h),D.v (Value.int .i64 g.w),D.sl false false Ty.bool g.B,D.sl false false Ty.bool g.R,D.sl false false Ty.bool g.L,D.sl false false (Ty.int .i64).sl W,D.own 3 0 q.length none]),Slot.live (Row.box 151 [D.own 4 0 m.length none,D.own 5 0 ws.length none,D.v (Value.bool true)]),Slot.live (Row.box 92 [D.v (Value.int .i64 (l.getD k.toNat yy0.dflt).fst),D.v (Value.int .i64 (l.getD k.toNat yy0.dflt).snd)]),Slot.live (Row.data 22 (Ty.int .u64) (Mi q)),Slot.live (Row.data 22 (Ty.int .u64) (Mi m)),Slot.live (Row.nest (NK.mk 27 (Ty.int .i64).sl 0 3 (Ty.int .i64)) ws none)]));let yy4:=(l.getD k.toNat yy0.dflt);let yy5:=(stOf 105 [2,8,9,11,14,15,34,35,36,41,42,43] [D.sl false false yy0.sl B,D.ptr 0 0 0,D.ptr 1 0 0,D.v (Value.bool ch),D.v (Value.int .i64 (0:Int)),D.ptr 2 0 0,D.sl false false yy0.sl B,D.v (Value.int .i64 (↑B.length:Int)),D.v (Value.int .i64 i),D.sl false false yy0 l,D.v (Value.int .i64 (↑l.length:Int)),D.v (Value.int .i64 (IntKind.i64.wrap (k+(1:Int))))] [Slot.live (Row.box 73 [D.v (Value.int .i64 g.h),D.v (Value.int .i64 g.w),D.sl false false Ty.bool g.B,D.sl false false Ty.bool g.R,D.sl false false Ty.bool g.L,D.sl false false (Ty.int .i64).sl W,D.own 3 0 q.length none]),Slot.live (Row.box 151 [D.own 4 0 m.length none,D.own 5 0 ws.length none,D.v (Value.bool true)]),Slot.live (Row.box 92 [D.v (Value.int .i64 a.fst),D.v (Value.int .i64 a.snd)]),Slot.live (Row.data 22 (Ty.int .u64) (Mi q)),Slot.live (Row.data 22 (Ty.int .u64) (Mi m)),Slot.live (Row.nest (NK.mk 27 (Ty.int .i64).sl 0 3 (Ty.int .i64)) ws none)]);let yy6:=(stOf 105 [2,8,9,11,34,35,36] [D.sl false false yy0.sl B,D.ptr 0 0 0,D.ptr 1 0 0,D.v (Value.bool true),D.sl false false yy0.sl B,D.v (Value.int .i64 (↑B.length:Int)),D.v (Value.int .i64 (IntKind.i64.wrap (i+(1:Int))))] [Slot.live (Row.box 73 [D.v (Value.int .i64 g.h),D.v (Value.int .i64 g.w),D.sl false false Ty.bool g.B,D.sl false false Ty.bool g.R,D.sl false false Ty.bool g.L,D.sl false false (Ty.int .i64).sl W,D.own 2 0 q.length none]),Slot.live (Row.box 151 [D.own 3 0 m.length none,D.own 4 0 ws.length none,D.v (Value.bool true)]),Slot.live (Row.data 22 (Ty.int .u64) (Mi q)),Slot.live (Row.data 22 (Ty.int .u64) ((Mi m).set (0+Int.toNat yy4.fst) (IntKind.u64.wrap (↑(BitVec.ofInt 64 ((Mi m).getD (0+Int.toNat yy4.fst) (Ty.int .u64).dflt)&&& ~~~BitVec.ofInt 64 (↑(ofN (List.take 1 (List.drop 0 [yy4.snd]))):Int)).toNat:Int)))),Slot.live (Row.nest (NK.mk 27 (Ty.int .i64).sl 0 3 (Ty.int .i64)) ws none)]);let yy7:=((Mi m).getD (0+Int.toNat yy4.fst) (Ty.int .u64).dflt);let yy8:=(List.drop 0 [yy4.snd]);let yy9:=(List.drop 0 [a.snd]);(decide (k< (↑l.length:Int))=true→(0:Int)≤k∧k< (↑l.length:Int)∧(0:Int)≤yy4.fst∧yy4.fst< (↑m.length:Int)∧0+Int.toNat yy4.fst< (Mi m).length∧Con Tryd.prog 26 [] [D.v (Value.int .u64 yy7),D.v (Value.int .i64 yy4.snd)] (D.v (Value.bool (hasN (Int.toNat yy7) yy4.snd))) [] []∧Value.int .u64 yy7=Value.int .u64 yy7∧Value.int .i64 yy4.snd=Value.int .i64 yy4.snd∧((!hasN (Int.toNat yy7) yy4.snd)=true→(decide ((2:Int)>(1:Int))=true→(((2:Int)==(0:Int))=true→R (D.tup [D.own 0 0 m.length none,D.v (Value.bool false)],[],[Row.data 22 (Ty.int .u64) (Mi m)]))∧(((2:Int)==(0:Int))=false→(((2:Int)==(1:Int))=true→(0:Int)≤a.fst∧a.fst< (↑m.length:Int)∧0+a.fst.toNat< (Mi m).length∧Con Tryd.prog 24 [] [D.sl false false (Ty.int .i64) (List.take 1 yy9)] (D.v (Value.int .u64 (↑(ofN (List.take 1 yy9)):Int))) [] []∧List.take 1 yy9=List.take 1 yy9∧(0:Int)≤a.fst∧a.fst< (↑m.length:Int)∧0+a.fst.toNat< (Mi m).length∧SameK (KK r92 0) (KK r92 0)∧G 0 yy2)∧(((2:Int)==(1:Int))=false→SameK (KK r92 0) (KK r92 0)∧G 0 yy1)))∧(decide ((2:Int)>(1:Int))=false→SameK (KK r92 1) (KK r92 1)∧G 1 (stOf 105 [2,8,9,11,14,15,34,35,36,41,42,43] [D.sl false false yy0.sl B,D.ptr 0 0 0,D.ptr 1 0 0,D.v (Value.bool ch),D.v (Value.int .i64 (2:Int)),D.ptr 2 0 0,D.sl false false yy0.sl B,D.v (Value.int .i64 (↑B.length:Int)),D.v (Value.int .i64 i),D.sl false false yy0 l,D.v (Value.int .i64 (↑l.length:Int)),D.v (Value.int .i64 (IntKind.i64.wrap (k+(1:Int))))] [Slot.live (Row.box 73 [D.v (Value.int .i64 g.h),D.v (Value.int .i64 g.w),D.sl false false Ty.bool g.B,D.sl false false Ty.bool g.R,D.sl false false Ty.bool g.L,D.sl false false (Ty.int .i64).sl W,D.own 3 0 q.length none]),Slot.live (Row.box 151 [D.own 4 0 m.length none,D.own 5 0 ws.length none,D.v (Value.bool true)]),Slot.live (Row.box 92 [D.v (Value.int .i64 a.fst),D.v (Value.int .i64 a.snd)]),Slot.live (Row.data 22 (Ty.int .u64) (Mi q)),Slot.live (Row.data 22 (Ty.int .u64) (Mi m)),Slot.live (Row.nest (NK.mk 27 (Ty.int .i64).sl 0 3 (Ty.int .i64)) ws none)])))∧((!hasN (Int.toNat yy7) yy4.snd)=false→Con Tryd.prog 24 [] [D.sl false false (Ty.int .i64) (List.take 1 yy8)] (D.v (Value.int .u64 (↑(ofN (List.take 1 yy8)):Int))) [] []∧List.take 1 yy8=List.take 1 yy8∧(((Mi m).getD (0+Int.toNat yy4.fst) (Ty.int .u64).dflt !=(↑(ofN (List.take 1 yy8)):Int))=true→(((0:Int)==(1:Int))=true→((a.fst==yy4.fst&&(a.snd==yy4.snd&&true))=true→SameK (KK r92 1) (KK r92 1)∧G 1 yy5)∧((a.fst==yy4.fst&&(a.snd==yy4.snd&&true))=false→(decide (IntKind.i64.wrap ((0:Int)+(1:Int))>(1:Int))=true→((IntKind.i64.wrap ((0:Int)+(1:Int))==(0:Int))=true→R (D.tup [D.own 0 0 m.length none,D.v (Value.bool false)],[],[Row.data 22 (Ty.int .u64) (Mi m)]))∧((IntKind.i64.wrap ((0:Int)+(1:Int))==(0:Int))=false→((IntKind.i64.wrap ((0:Int)+(1:Int))==(1:Int))=true→(0:Int)≤yy4.fst∧yy4.fst< (↑m.length:Int)∧0+Int.toNat yy4.fst< (Mi m).length∧Con Tryd.prog 24 [] [D.sl false false (Ty.int .i64) (List.take 1 yy8)] (D.v (Value.int .u64 (↑(ofN (List.take 1 yy8)):Int))) [] []∧List.take 1 yy8=List.take 1 yy8∧(0:Int)≤yy4.fst∧yy4.fst< (↑m.length:Int)∧0+Int.toNat yy4.fst< (Mi m).length∧SameK (KK r92 0) (KK r92 0)∧G 0 yy6)∧((IntKind.i64.wrap ((0:Int)+(1:Int))==(1:Int))=false→SameK (KK r92 0) (KK r92 0)∧G 0 yy1)))∧yy3))∧(((0:Int)==(1:Int))=false→false=false∧(decide (IntKind.i64.wrap ((0:Int)+(1:Int))>(1:Int))=true→((IntKind.i64.wrap ((0:Int)+(1:Int))==(0:Int))=true→R (D.tup [D.own 0 0 m.length none,D.v (Value.bool false)],[],[Row.data 22 (Ty.int .u64) (Mi m)]))∧((IntKind.i64.wrap ((0:Int)+(1:Int))==(0:Int))=false→((IntKind.i64.wrap ((0:Int)+(1:Int))==(1:Int))=true→(0:Int)≤yy4.fst∧yy4.fst< (↑m.length:Int)∧0+Int.toNat yy4.fst< (Mi m).length∧Con Tryd.prog 24 [] [D.sl false false (Ty.int .i64) (List.take 1 yy8)] (D.v (Value.int .u64 (↑(ofN (List.take 1 yy8)):Int))) [] []∧List.take 1 yy8=List.take 1 yy8∧(0:Int)≤yy4.fst∧yy4.fst< (↑m.length:Int)∧0+Int.toNat yy4.fst< (Mi m).length∧SameK (KK r92 0) (KK r92 0)∧G 0 yy6)∧((IntKind.i64.wrap ((0:Int)+(1:Int))==(1:Int))=false→SameK (KK r92 0) (KK r92 0)∧G 0 yy1)))∧yy3))∧(((Mi m).getD (0+Int.toNat yy4.fst) (Ty.int .u64).dflt !=(↑(ofN (List.take 1 yy8)):Int))=false→(decide ((0:Int)>(1:Int))=true→(((0:Int)==(0:Int))=true→R (D.tup [D.own 0 0 m.length none,D.v (Value.bool false)],[],[Row.data 22 (Ty.int .u64) (Mi m)]))∧(((0:Int)==(0:Int))=false→(((0:Int)==(1:Int))=true→(0:Int)≤a.fst∧a.fst< (↑m.length:Int)∧0+a.fst.toNat< (Mi m).length∧Con Tryd.prog 24 [] [D.sl false false (Ty.int .i64) (List.take 1 yy9)] (D.v (Value.int .u64 (↑(ofN (List.take 1 yy9)):Int))) [] []∧List.take 1 yy9=List.take 1 yy9∧(0:Int)≤a.fst∧a.fst< (↑m.length:Int)∧0+a.fst.toNat< (Mi m).length∧SameK (KK r92 0) (KK r92 0)∧G 0 yy2)∧(((0:Int)==(1:Int))=false→SameK (KK r92 0) (KK r92 0)∧G 0 yy1)))∧(decide ((0:Int)>(1:Int))=false→SameK (KK r92 1) (KK r92 1)∧G 1 yy5))))∧(decide (k< (↑l.length:Int))=false→(((0:Int)==(0:Int))=true→R (D.tup [D.own 0 0 m.length none,D.v (Value.bool false)],[],[Row.data 22 (Ty.int .u64) (Mi m)]))∧(((0:Int)==(0:Int))=false→(((0:Int)==(1:Int))=true→(0:Int)≤a.fst∧a.fst< (↑m.length:Int)∧0+a.fst.toNat< (Mi m).length∧Con Tryd.prog 24 [] [D.sl false false (Ty.int .i64) (List.take 1 yy9)] (D.v (Value.int .u64 (↑(ofN (List.take 1 yy9)):Int))) [] []∧List.take 1 yy9=List.take 1 yy9∧(0:Int)≤a.fst∧a.fst< (↑m.length:Int)∧0+a.fst.toNat< (Mi m).length∧SameK (KK r92 0) (KK r92 0)∧G 0 yy2)∧(((0:Int)==(1:Int))=false→SameK (KK r92 0) (KK r92 0)∧G 0 yy1)))
def vq30 (g:Gr) (W:List (List Int)) (B:List (List (Int×Int))) (q:List Nat) (m:List Nat) (ws:List (List Int)) (ch:Bool) (i:Int) (l:List (Int×Int)) (k:Int) (a:Int×Int) (G:Nat→St→Prop) (R:D×List (Option Row)×List Row→Prop):Prop:=let yy0:=((Ty.int .i64).prod (Ty.int .i64));let yy1:=(stOf 105 [2,8,9,11,34,35,36] [D.sl false false yy0.sl B,D.ptr 0 0 0,D.ptr 1 0 0,D.v (Value.bool ch),D.sl false false yy0.sl B,D.v (Value.int .i64 (↑B.length:Int)),D.v (Value.int .i64 (IntKind.i64.wrap (i+(1:Int))))] [Slot.live (Row.box 73 [D.v (Value.int .i64 g.h),D.v (Value.int .i64 g.w),D.sl false false Ty.bool g.B,D.sl false false Ty.bool g.R,D.sl false false Ty.bool g.L,D.sl false false (Ty.int .i64).sl W,D.own 2 0 q.length none]),Slot.live (Row.box 151 [D.own 3 0 m.length none,D.own 4 0 ws.length none,D.v (Value.bool true)]),Slot.live (Row.data 22 (Ty.int .u64) (Mi q)),Slot.live (Row.data 22 (Ty.int .u64) (Mi m)),Slot.live (Row.nest (NK.mk 27 (Ty.int .i64).sl 0 3 (Ty.int .i64)) ws none)]);let yy2:=(stOf 105 [2,8,9,11,34,35,36] [D.sl false false yy0.sl B,D.ptr 0 0 0,D.ptr 1 0 0,D.v (Value.bool true),D.sl false false yy0.sl B,D.v (Value.int .i64 (↑B.length:Int)),D.v (Value.int .i64 (IntKind.i64.wrap (i+(1:Int))))] [Slot.live (Row.box 73 [D.v (Value.int .i64 g.h),D.v (Value.int .i64 g.w),D.sl false false Ty.bool g.B,D.sl false false Ty.bool g.R,D.sl false false Ty.bool g.L,D.sl false false (Ty.int .i64).sl W,D.own 2 0 q.length none]),Slot.live (Row.box 151 [D.own 3 0 m.length none,D.own 4 0 ws.length none,D.v (Value.bool true)]),Slot.live (Row.data 22 (Ty.int .u64) (Mi q)),Slot.live (Row.data 22 (Ty.int .u64) ((Mi m).set (0+a.fst.toNat) (IntKind.u64.wrap (↑(BitVec.ofInt 64 ((Mi m).getD (0+a.fst.toNat) (Ty.int .u64).dflt)&&& ~~~BitVec.ofInt 64 (↑(ofN (List.take 1 (List.drop 0 [a.snd]))):Int)).toNat:Int)))),Slot.live (Row.nest (NK.mk 27 (Ty.int .i64).sl 0 3 (Ty.int .i64)) ws none)]);let yy3:=(decide (IntKind.i64.wrap ((1:Int)+(1:Int))>(1:Int))=false→SameK (KK r92 1) (KK r92 1)∧G 1 (stOf 105 [2,8,9,11,14,15,34,35,36,41,42,43] [D.sl false false yy0.sl B,D.ptr 0 0 0,D.ptr 1 0 0,D.v (Value.bool ch),D.v (Value.int .i64 (IntKind.i64.wrap ((1:Int)+(1:Int)))),D.ptr 2 0 0,D.sl false false yy0.sl B,D.v (Value.int .i64 (↑B.length:Int)),D.v (Value.int .i64 i),D.sl false false yy0 l,D.v (Value.int .i64 (↑l.length:Int)),D.v (Value.int .i64 (IntKind.i64.wrap (k+(1:Int))))] [Slot.live (Row.box 73 [D.v (Value.int .i64 g.h),D.v (Value.int .i64 g.w),D.sl false false Ty.bool g.B,D.sl false false Ty.bool g.R,D.sl false false Ty.bool g.L,D.sl false false (Ty.int .i64).sl W,D.own 3 0 q.length none]),Slot.live (Row.box 151 [D.own 4 0 m.length none,D.own 5 0 ws.length none,D.v (Value.bool true)]),Slot.live (Row.box 92 [D.v (Value.int .i64 (l.getD k.toNat yy0.dflt).fst),D.v (Value.int .i64 (l.getD k.toNat yy0.dflt).snd)]),Slot.live (Row.data 22 (Ty.int .u64) (Mi q)),Slot.live (Row.data 22 (Ty.int .u64) (Mi m)),Slot.live (Row.nest (NK.mk 27 (Ty.int .i64).sl 0 3 (Ty.int .i64)) ws none)]));let yy4:=(l.getD k.toNat yy0.dflt);let yy5:=(stOf 105 [2,8,9,11,14,15,34,35,36,41,42,43] [D.sl false false yy0.sl B,D.ptr 0 0 0,D.ptr 1 0 0,D.v (Value.bool ch),D.v (Value.int .i64 (1:Int)),D.ptr 2 0 0,D.sl false false yy0.sl B,D.v (Value.int .i64 (↑B.length:Int)),D.v (Value.int .i64 i),D.sl false false yy0 l,D.v (Value.int .i64 (↑l.length:Int)),D.v (Value.int .i64 (IntKind.i64.wrap (k+(1:Int))))] [Slot.live (Row.box 73 [D.v (Value.int .i64 g.h),D.v (Value.int .i64 g.w),D.sl false false Ty.bool g.B,D.sl false false Ty.bool g.R,D.sl false false Ty.bool g.L,D.sl false false (Ty.int .i64).sl W,D.own 3 0 q.length none]),Slot.live (Row.box 151 [D.own 4 0 m.length none,D.own 5 0 ws.length none,D.v (Value.bool true)]),Slot.live (Row.box 92 [D.v (Value.int .i64 a.fst),D.v (Value.int .i64 a.snd)]),Slot.live (Row.data 22 (Ty.int .u64) (Mi q)),Slot.live (Row.data 22 (Ty.int .u64) (Mi m)),Slot.live (Row.nest (NK.mk 27 (Ty.int .i64).sl 0 3 (Ty.int .i64)) ws none)]);let yy6:=(stOf 105 [2,8,9,11,34,35,36] [D.sl false false yy0.sl B,D.ptr 0 0 0,D.ptr 1 0 0,D.v (Value.bool true),D.sl false false yy0.sl B,D.v (Value.int .i64 (↑B.length:Int)),D.v (Value.int .i64 (IntKind.i64.wrap (i+(1:Int))))] [Slot.live (Row.box 73 [D.v (Value.int .i64 g.h),D.v (Value.int .i64 g.w),D.sl false false Ty.bool g.B,D.sl false false Ty.bool g.R,D.sl false false Ty.bool g.L,D.sl false false (Ty.int .i64).sl W,D.own 2 0 q.length none]),Slot.live (Row.box 151 [D.own 3 0 m.length none,D.own 4 0 ws.length none,D.v (Value.bool true)]),Slot.live (Row.data 22 (Ty.int .u64) (Mi q)),Slot.live (Row.data 22 (Ty.int .u64) ((Mi m).set (0+Int.toNat yy4.fst) (IntKind.u64.wrap (↑(BitVec.ofInt 64 ((Mi m).getD (0+Int.toNat yy4.fst) (Ty.int .u64).dflt)&&& ~~~BitVec.ofInt 64 (↑(ofN (List.take 1 (List.drop 0 [yy4.snd]))):Int)).toNat:Int)))),Slot.live (Row.nest (NK.mk 27 (Ty.int .i64).sl 0 3 (Ty.int .i64)) ws none)]);let yy7:=((Mi m).getD (0+Int.toNat yy4.fst) (Ty.int .u64).dflt);let yy8:=(List.drop 0 [yy4.snd]);let yy9:=(List.drop 0 [a.snd]);(decide (k< (↑l.length:Int))=true→(0:Int)≤k∧k< (↑l.length:Int)∧(0:Int)≤yy4.fst∧yy4.fst< (↑m.length:Int)∧0+Int.toNat yy4.fst< (Mi m).length∧Con Tryd.prog 26 [] [D.v (Value.int .u64 yy7),D.v (Value.int .i64 yy4.snd)] (D.v (Value.bool (hasN (Int.toNat yy7) yy4.snd))) [] []∧Value.int .u64 yy7=Value.int .u64 yy7∧Value.int .i64 yy4.snd=Value.int .i64 yy4.snd∧((!hasN (Int.toNat yy7) yy4.snd)=true→(decide ((2:Int)>(1:Int))=true→(((2:Int)==(0:Int))=true→R (D.tup [D.own 0 0 m.length none,D.v (Value.bool false)],[],[Row.data 22 (Ty.int .u64) (Mi m)]))∧(((2:Int)==(0:Int))=false→(((2:Int)==(1:Int))=true→(0:Int)≤a.fst∧a.fst< (↑m.length:Int)∧0+a.fst.toNat< (Mi m).length∧Con Tryd.prog 24 [] [D.sl false false (Ty.int .i64) (List.take 1 yy9)] (D.v (Value.int .u64 (↑(ofN (List.take 1 yy9)):Int))) [] []∧List.take 1 yy9=List.take 1 yy9∧(0:Int)≤a.fst∧a.fst< (↑m.length:Int)∧0+a.fst.toNat< (Mi m).length∧SameK (KK r92 0) (KK r92 0)∧G 0 yy2)∧(((2:Int)==(1:Int))=false→SameK (KK r92 0) (KK r92 0)∧G 0 yy1)))∧(decide ((2:Int)>(1:Int))=false→SameK (KK r92 1) (KK r92 1)∧G 1 (stOf 105 [2,8,9,11,14,15,34,35,36,41,42,43] [D.sl false false yy0.sl B,D.ptr 0 0 0,D.ptr 1 0 0,D.v (Value.bool ch),D.v (Value.int .i64 (2:Int)),D.ptr 2 0 0,D.sl false false yy0.sl B,D.v (Value.int .i64 (↑B.length:Int)),D.v (Value.int .i64 i),D.sl false false yy0 l,D.v (Value.int .i64 (↑l.length:Int)),D.v (Value.int .i64 (IntKind.i64.wrap (k+(1:Int))))] [Slot.live (Row.box 73 [D.v (Value.int .i64 g.h),D.v (Value.int .i64 g.w),D.sl false false Ty.bool g.B,D.sl false false Ty.bool g.R,D.sl false false Ty.bool g.L,D.sl false false (Ty.int .i64).sl W,D.own 3 0 q.length none]),Slot.live (Row.box 151 [D.own 4 0 m.length none,D.own 5 0 ws.length none,D.v (Value.bool true)]),Slot.live (Row.box 92 [D.v (Value.int .i64 a.fst),D.v (Value.int .i64 a.snd)]),Slot.live (Row.data 22 (Ty.int .u64) (Mi q)),Slot.live (Row.data 22 (Ty.int .u64) (Mi m)),Slot.live (Row.nest (NK.mk 27 (Ty.int .i64).sl 0 3 (Ty.int .i64)) ws none)])))∧((!hasN (Int.toNat yy7) yy4.snd)=false→Con Tryd.prog 24 [] [D.sl false false (Ty.int .i64) (List.take 1 yy8)] (D.v (Value.int .u64 (↑(ofN (List.take 1 yy8)):Int))) [] []∧List.take 1 yy8=List.take 1 yy8∧(((Mi m).getD (0+Int.toNat yy4.fst) (Ty.int .u64).dflt !=(↑(ofN (List.take 1 yy8)):Int))=true→(((1:Int)==(1:Int))=true→((a.fst==yy4.fst&&(a.snd==yy4.snd&&true))=true→SameK (KK r92 1) (KK r92 1)∧G 1 yy5)∧((a.fst==yy4.fst&&(a.snd==yy4.snd&&true))=false→(decide (IntKind.i64.wrap ((1:Int)+(1:Int))>(1:Int))=true→((IntKind.i64.wrap ((1:Int)+(1:Int))==(0:Int))=true→R (D.tup [D.own 0 0 m.length none,D.v (Value.bool false)],[],[Row.data 22 (Ty.int .u64) (Mi m)]))∧((IntKind.i64.wrap ((1:Int)+(1:Int))==(0:Int))=false→((IntKind.i64.wrap ((1:Int)+(1:Int))==(1:Int))=true→(0:Int)≤yy4.fst∧yy4.fst< (↑m.length:Int)∧0+Int.toNat yy4.fst< (Mi m).length∧Con Tryd.prog 24 [] [D.sl false false (Ty.int .i64) (List.take 1 yy8)] (D.v (Value.int .u64 (↑(ofN (List.take 1 yy8)):Int))) [] []∧List.take 1 yy8=List.take 1 yy8∧(0:Int)≤yy4.fst∧yy4.fst< (↑m.length:Int)∧0+Int.toNat yy4.fst< (Mi m).length∧SameK (KK r92 0) (KK r92 0)∧G 0 yy6)∧((IntKind.i64.wrap ((1:Int)+(1:Int))==(1:Int))=false→SameK (KK r92 0) (KK r92 0)∧G 0 yy1)))∧yy3))∧(((1:Int)==(1:Int))=false→false=false∧(decide (IntKind.i64.wrap ((1:Int)+(1:Int))>(1:Int))=true→((IntKind.i64.wrap ((1:Int)+(1:Int))==(0:Int))=true→R (D.tup [D.own 0 0 m.length none,D.v (Value.bool false)],[],[Row.data 22 (Ty.int .u64) (Mi m)]))∧((IntKind.i64.wrap ((1:Int)+(1:Int))==(0:Int))=false→((IntKind.i64.wrap ((1:Int)+(1:Int))==(1:Int))=true→(0:Int)≤yy4.fst∧yy4.fst< (↑m.length:Int)∧0+Int.toNat yy4.fst< (Mi m).length∧Con Tryd.prog 24 [] [D.sl false false (Ty.int .i64) (List.take 1 yy8)] (D.v (Value.int .u64 (↑(ofN (List.take 1 yy8)):Int))) [] []∧List.take 1 yy8=List.take 1 yy8∧(0:Int)≤yy4.fst∧yy4.fst< (↑m.length:Int)∧0+Int.toNat yy4.fst< (Mi m).length∧SameK (KK r92 0) (KK r92 0)∧G 0 yy6)∧((IntKind.i64.wrap ((1:Int)+(1:Int))==(1:Int))=false→SameK (KK r92 0) (KK r92 0)∧G 0 yy1)))∧yy3))∧(((Mi m).getD (0+Int.toNat yy4.fst) (Ty.int .u64).dflt !=(↑(ofN (List.take 1 yy8)):Int))=false→(decide ((1:Int)>(1:Int))=true→(((1:Int)==(0:Int))=true→R (D.tup [D.own 0 0 m.length none,D.v (Value.bool false)],[],[Row.data 22 (Ty.int .u64) (Mi m)]))∧(((1:Int)==(0:Int))=false→(((1:Int)==(1:Int))=true→(0:Int)≤a.fst∧a.fst< (↑m.length:Int)∧0+a.fst.toNat< (Mi m).length∧Con Tryd.prog 24 [] [D.sl false false (Ty.int .i64) (List.take 1 yy9)] (D.v (Value.int .u64 (↑(ofN (List.take 1 yy9)):Int))) [] []∧List.take 1 yy9=List.take 1 yy9∧(0:Int)≤a.fst∧a.fst< (↑m.length:Int)∧0+a.fst.toNat< (Mi m).length∧SameK (KK r92 0) (KK r92 0)∧G 0 yy2)∧(((1:Int)==(1:Int))=false→SameK (KK r92 0) (KK r92 0)∧G 0 yy1)))∧(decide ((1:Int)>(1:Int))=false→SameK (KK r92 1) (KK r92 1)∧G 1 yy5))))∧(decide (k< (↑l.length:Int))=false→(((1:Int)==(0:Int))=true→R (D.tup [D.own 0 0 m.length none,D.v (Value.bool false)],[],[Row.data 22 (Ty.int .u64) (Mi m)]))∧(((1:Int)==(0:Int))=false→(((1:Int)==(1:Int))=true→(0:Int)≤a.fst∧a.fst< (↑m.length:Int)∧0+a.fst.toNat< (Mi m).length∧Con Tryd.prog 24 [] [D.sl false false (Ty.int .i64) (List.take 1 yy9)] (D.v (Value.int .u64 (↑(ofN (List.take 1 yy9)):Int))) [] []∧List.take 1 yy9=List.take 1 yy9∧(0:Int)≤a.fst∧a.fst< (↑m.length:Int)∧0+a.fst.toNat< (Mi m).length∧SameK (KK r92 0) (KK r92 0)∧G 0 yy2)∧(((1:Int)==(1:Int))=false→SameK (KK r92 0) (KK r92 0)∧G 0 yy1)))
def vq31 (g:Gr) (W:List (List Int)) (B:List (List (Int×Int))) (q:List Nat) (m:List Nat) (ws:List (List Int)) (ch:Bool) (i:Int) (l:List (Int×Int)) (k:Int) (op:Int) (a:Int×Int) (G:Nat→St→Prop) (R:D×List (Option Row)×List Row→Prop):Prop:=let yy0:=((Ty.int .i64).prod (Ty.int .i64));let yy1:=(stOf 105 [2,8,9,11,34,35,36] [D.sl false false yy0.sl B,D.ptr 0 0 0,D.ptr 1 0 0,D.v (Value.bool ch),D.sl false false yy0.sl B,D.v (Value.int .i64 (↑B.length:Int)),D.v (Value.int .i64 (IntKind.i64.wrap (i+(1:Int))))] [Slot.live (Row.box 73 [D.v (Value.int .i64 g.h),D.v (Value.int .i64 g.w),D.sl false false Ty.bool g.B,D.sl false false Ty.bool g.R,D.sl false false Ty.bool g.L,D.sl false false (Ty.int .i64).sl W,D.own 2 0 q.length none]),Slot.live (Row.box 151 [D.own 3 0 m.length none,D.own 4 0 ws.length none,D.v (Value.bool true)]),Slot.live (Row.data 22 (Ty.int .u64) (Mi q)),Slot.live (Row.data 22 (Ty.int .u64) (Mi m)),Slot.live (Row.nest (NK.mk 27 (Ty.int .i64).sl 0 3 (Ty.int .i64)) ws none)]);let yy2:=(stOf 105 [2,8,9,11,34,35,36] [D.sl false false yy0.sl B,D.ptr 0 0 0,D.ptr 1 0 0,D.v (Value.bool true),D.sl false false yy0.sl B,D.v (Value.int .i64 (↑B.length:Int)),D.v (Value.int .i64 (IntKind.i64.wrap (i+(1:Int))))] [Slot.live (Row.box 73 [D.v (Value.int .i64 g.h),D.v (Value.int .i64 g.w),D.sl false false Ty.bool g.B,D.sl false false Ty.bool g.R,D.sl false false Ty.bool g.L,D.sl false false (Ty.int .i64).sl W,D.own 2 0 q.length none]),Slot.live (Row.box 151 [D.own 3 0 m.length none,D.own 4 0 ws.length none,D.v (Value.bool true)]),Slot.live (Row.data 22 (Ty.int .u64) (Mi q)),Slot.live (Row.data 22 (Ty.int .u64) ((Mi m).set (0+a.fst.toNat) (IntKind.u64.wrap (↑(BitVec.ofInt 64 ((Mi m).getD (0+a.fst.toNat) (Ty.int .u64).dflt)&&& ~~~BitVec.ofInt 64 (↑(ofN (List.take 1 (List.drop 0 [a.snd]))):Int)).toNat:Int)))),Slot.live (Row.nest (NK.mk 27 (Ty.int .i64).sl 0 3 (Ty.int .i64)) ws none)]);let yy3:=(decide (IntKind.i64.wrap (op+(1:Int))>(1:Int))=false→SameK (KK r92 1) (KK r92 1)∧G 1 (stOf 105 [2,8,9,11,14,15,34,35,36,41,42,43] [D.sl false false yy0.sl B,D.ptr 0 0 0,D.ptr 1 0 0,D.v (Value.bool ch),D.v (Value.int .i64 (IntKind.i64.wrap (op+(1:Int)))),D.ptr 2 0 0,D.sl false false yy0.sl B,D.v (Value.int .i64 (↑B.length:Int)),D.v (Value.int .i64 i),D.sl false false yy0 l,D.v (Value.int .i64 (↑l.length:Int)),D.v (Value.int .i64 (IntKind.i64.wrap (k+(1:Int))))] [Slot.live (Row.box 73 [D.v (Value.int .i64 g.h),D.v (Value.int .i64 g.w),D.sl false false Ty.bool g.B,D.sl false false Ty.bool g.R,D.sl false false Ty.bool g.L,D.sl false false (Ty.int .i64).sl W,D.own 3 0 q.length none]),Slot.live (Row.box 151 [D.own 4 0 m.length none,D.own 5 0 ws.length none,D.v (Value.bool true)]),Slot.live (Row.box 92 [D.v (Value.int .i64 (l.getD k.toNat yy0.dflt).fst),D.v (Value.int .i64 (l.getD k.toNat yy0.dflt).snd)]),Slot.live (Row.data 22 (Ty.int .u64) (Mi q)),Slot.live (Row.data 22 (Ty.int .u64) (Mi m)),Slot.live (Row.nest (NK.mk 27 (Ty.int .i64).sl 0 3 (Ty.int .i64)) ws none)]));let yy4:=(l.getD k.toNat yy0.dflt);let yy5:=(stOf 105 [2,8,9,11,14,15,34,35,36,41,42,43] [D.sl false false yy0.sl B,D.ptr 0 0 0,D.ptr 1 0 0,D.v (Value.bool ch),D.v (Value.int .i64 op),D.ptr 2 0 0,D.sl false false yy0.sl B,D.v (Value.int .i64 (↑B.length:Int)),D.v (Value.int .i64 i),D.sl false false yy0 l,D.v (Value.int .i64 (↑l.length:Int)),D.v (Value.int .i64 (IntKind.i64.wrap (k+(1:Int))))] [Slot.live (Row.box 73 [D.v (Value.int .i64 g.h),D.v (Value.int .i64 g.w),D.sl false false Ty.bool g.B,D.sl false false Ty.bool g.R,D.sl false false Ty.bool g.L,D.sl false false (Ty.int .i64).sl W,D.own 3 0 q.length none]),Slot.live (Row.box 151 [D.own 4 0 m.length none,D.own 5 0 ws.length none,D.v (Value.bool true)]),Slot.live (Row.box 92 [D.v (Value.int .i64 a.fst),D.v (Value.int .i64 a.snd)]),Slot.live (Row.data 22 (Ty.int .u64) (Mi q)),Slot.live (Row.data 22 (Ty.int .u64) (Mi m)),Slot.live (Row.nest (NK.mk 27 (Ty.int .i64).sl 0 3 (Ty.int .i64)) ws none)]);let yy6:=(stOf 105 [2,8,9,11,34,35,36] [D.sl false false yy0.sl B,D.ptr 0 0 0,D.ptr 1 0 0,D.v (Value.bool true),D.sl false false yy0.sl B,D.v (Value.int .i64 (↑B.length:Int)),D.v (Value.int .i64 (IntKind.i64.wrap (i+(1:Int))))] [Slot.live (Row.box 73 [D.v (Value.int .i64 g.h),D.v (Value.int .i64 g.w),D.sl false false Ty.bool g.B,D.sl false false Ty.bool g.R,D.sl false false Ty.bool g.L,D.sl false false (Ty.int .i64).sl W,D.own 2 0 q.length none]),Slot.live (Row.box 151 [D.own 3 0 m.length none,D.own 4 0 ws.length none,D.v (Value.bool true)]),Slot.live (Row.data 22 (Ty.int .u64) (Mi q)),Slot.live (Row.data 22 (Ty.int .u64) ((Mi m).set (0+Int.toNat yy4.fst) (IntKind.u64.wrap (↑(BitVec.ofInt 64 ((Mi m).getD (0+Int.toNat yy4.fst) (Ty.int .u64).dflt)&&& ~~~BitVec.ofInt 64 (↑(ofN (List.take 1 (List.drop 0 [yy4.snd]))):Int)).toNat:Int)))),Slot.live (Row.nest (NK.mk 27 (Ty.int .i64).sl 0 3 (Ty.int .i64)) ws none)]);let yy7:=((Mi m).getD (0+Int.toNat yy4.fst) (Ty.int .u64).dflt);let yy8:=(List.drop 0 [yy4.snd]);let yy9:=(List.drop 0 [a.snd]);(decide (k< (↑l.length:Int))=true→(0:Int)≤k∧k< (↑l.length:Int)∧(0:Int)≤yy4.fst∧yy4.fst< (↑m.length:Int)∧0+Int.toNat yy4.fst< (Mi m).length∧Con Tryd.prog 26 [] [D.v (Value.int .u64 yy7),D.v (Value.int .i64 yy4.snd)] (D.v (Value.bool (hasN (Int.toNat yy7) yy4.snd))) [] []∧Value.int .u64 yy7=Value.int .u64 yy7∧Value.int .i64 yy4.snd=Value.int .i64 yy4.snd∧((!hasN (Int.toNat yy7) yy4.snd)=true→(decide ((2:Int)>(1:Int))=true→(((2:Int)==(0:Int))=true→R (D.tup [D.own 0 0 m.length none,D.v (Value.bool false)],[],[Row.data 22 (Ty.int .u64) (Mi m)]))∧(((2:Int)==(0:Int))=false→(((2:Int)==(1:Int))=true→(0:Int)≤a.fst∧a.fst< (↑m.length:Int)∧0+a.fst.toNat< (Mi m).length∧Con Tryd.prog 24 [] [D.sl false false (Ty.int .i64) (List.take 1 yy9)] (D.v (Value.int .u64 (↑(ofN (List.take 1 yy9)):Int))) [] []∧List.take 1 yy9=List.take 1 yy9∧(0:Int)≤a.fst∧a.fst< (↑m.length:Int)∧0+a.fst.toNat< (Mi m).length∧SameK (KK r92 0) (KK r92 0)∧G 0 yy2)∧(((2:Int)==(1:Int))=false→SameK (KK r92 0) (KK r92 0)∧G 0 yy1)))∧(decide ((2:Int)>(1:Int))=false→SameK (KK r92 1) (KK r92 1)∧G 1 (stOf 105 [2,8,9,11,14,15,34,35,36,41,42,43] [D.sl false false yy0.sl B,D.ptr 0 0 0,D.ptr 1 0 0,D.v (Value.bool ch),D.v (Value.int .i64 (2:Int)),D.ptr 2 0 0,D.sl false false yy0.sl B,D.v (Value.int .i64 (↑B.length:Int)),D.v (Value.int .i64 i),D.sl false false yy0 l,D.v (Value.int .i64 (↑l.length:Int)),D.v (Value.int .i64 (IntKind.i64.wrap (k+(1:Int))))] [Slot.live (Row.box 73 [D.v (Value.int .i64 g.h),D.v (Value.int .i64 g.w),D.sl false false Ty.bool g.B,D.sl false false Ty.bool g.R,D.sl false false Ty.bool g.L,D.sl false false (Ty.int .i64).sl W,D.own 3 0 q.length none]),Slot.live (Row.box 151 [D.own 4 0 m.length none,D.own 5 0 ws.length none,D.v (Value.bool true)]),Slot.live (Row.box 92 [D.v (Value.int .i64 a.fst),D.v (Value.int .i64 a.snd)]),Slot.live (Row.data 22 (Ty.int .u64) (Mi q)),Slot.live (Row.data 22 (Ty.int .u64) (Mi m)),Slot.live (Row.nest (NK.mk 27 (Ty.int .i64).sl 0 3 (Ty.int .i64)) ws none)])))∧((!hasN (Int.toNat yy7) yy4.snd)=false→Con Tryd.prog 24 [] [D.sl false false (Ty.int .i64) (List.take 1 yy8)] (D.v (Value.int .u64 (↑(ofN (List.take 1 yy8)):Int))) [] []∧List.take 1 yy8=List.take 1 yy8∧(((Mi m).getD (0+Int.toNat yy4.fst) (Ty.int .u64).dflt !=(↑(ofN (List.take 1 yy8)):Int))=true→((op==(1:Int))=true→((a.fst==yy4.fst&&(a.snd==yy4.snd&&true))=true→SameK (KK r92 1) (KK r92 1)∧G 1 yy5)∧((a.fst==yy4.fst&&(a.snd==yy4.snd&&true))=false→(decide (IntKind.i64.wrap (op+(1:Int))>(1:Int))=true→((IntKind.i64.wrap (op+(1:Int))==(0:Int))=true→R (D.tup [D.own 0 0 m.length none,D.v (Value.bool false)],[],[Row.data 22 (Ty.int .u64) (Mi m)]))∧((IntKind.i64.wrap (op+(1:Int))==(0:Int))=false→((IntKind.i64.wrap (op+(1:Int))==(1:Int))=true→(0:Int)≤yy4.fst∧yy4.fst< (↑m.length:Int)∧0+Int.toNat yy4.fst< (Mi m).length∧Con Tryd.prog 24 [] [D.sl false false (Ty.int .i64) (List.take 1 yy8)] (D.v (Value.int .u64 (↑(ofN (List.take 1 yy8)):Int))) [] []∧List.take 1 yy8=List.take 1 yy8∧(0:Int)≤yy4.fst∧yy4.fst< (↑m.length:Int)∧0+Int.toNat yy4.fst< (Mi m).length∧SameK (KK r92 0) (KK r92 0)∧G 0 yy6)∧((IntKind.i64.wrap (op+(1:Int))==(1:Int))=false→SameK (KK r92 0) (KK r92 0)∧G 0 yy1)))∧yy3))∧((op==(1:Int))=false→false=false∧(decide (IntKind.i64.wrap (op+(1:Int))>(1:Int))=true→((IntKind.i64.wrap (op+(1:Int))==(0:Int))=true→R (D.tup [D.own 0 0 m.length none,D.v (Value.bool false)],[],[Row.data 22 (Ty.int .u64) (Mi m)]))∧((IntKind.i64.wrap (op+(1:Int))==(0:Int))=false→((IntKind.i64.wrap (op+(1:Int))==(1:Int))=true→(0:Int)≤yy4.fst∧yy4.fst< (↑m.length:Int)∧0+Int.toNat yy4.fst< (Mi m).length∧Con Tryd.prog 24 [] [D.sl false false (Ty.int .i64) (List.take 1 yy8)] (D.v (Value.int .u64 (↑(ofN (List.take 1 yy8)):Int))) [] []∧List.take 1 yy8=List.take 1 yy8∧(0:Int)≤yy4.fst∧yy4.fst< (↑m.length:Int)∧0+Int.toNat yy4.fst< (Mi m).length∧SameK (KK r92 0) (KK r92 0)∧G 0 yy6)∧((IntKind.i64.wrap (op+(1:Int))==(1:Int))=false→SameK (KK r92 0) (KK r92 0)∧G 0 yy1)))∧yy3))∧(((Mi m).getD (0+Int.toNat yy4.fst) (Ty.int .u64).dflt !=(↑(ofN (List.take 1 yy8)):Int))=false→(decide (op>(1:Int))=true→((op==(0:Int))=true→R (D.tup [D.own 0 0 m.length none,D.v (Value.bool false)],[],[Row.data 22 (Ty.int .u64) (Mi m)]))∧((op==(0:Int))=false→((op==(1:Int))=true→(0:Int)≤a.fst∧a.fst< (↑m.length:Int)∧0+a.fst.toNat< (Mi m).length∧Con Tryd.prog 24 [] [D.sl false false (Ty.int .i64) (List.take 1 yy9)] (D.v (Value.int .u64 (↑(ofN (List.take 1 yy9)):Int))) [] []∧List.take 1 yy9=List.take 1 yy9∧(0:Int)≤a.fst∧a.fst< (↑m.length:Int)∧0+a.fst.toNat< (Mi m).length∧SameK (KK r92 0) (KK r92 0)∧G 0 yy2)∧((op==(1:Int))=false→SameK (KK r92 0) (KK r92 0)∧G 0 yy1)))∧(decide (op>(1:Int))=false→SameK (KK r92 1) (KK r92 1)∧G 1 yy5))))∧(decide (k< (↑l.length:Int))=false→((op==(0:Int))=true→R (D.tup [D.own 0 0 m.length none,D.v (Value.bool false)],[],[Row.data 22 (Ty.int .u64) (Mi m)]))∧((op==(0:Int))=false→((op==(1:Int))=true→(0:Int)≤a.fst∧a.fst< (↑m.length:Int)∧0+a.fst.toNat< (Mi m).length∧Con Tryd.prog 24 [] [D.sl false false (Ty.int .i64) (List.take 1 yy9)] (D.v (Value.int .u64 (↑(ofN (List.take 1 yy9)):Int))) [] []∧List.take 1 yy9=List.take 1 yy9∧(0:Int)≤a.fst∧a.fst< (↑m.length:Int)∧0+a.fst.toNat< (Mi m).length∧SameK (KK r92 0) (KK r92 0)∧G 0 yy2)∧((op==(1:Int))=false→SameK (KK r92 0) (KK r92 0)∧G 0 yy1)))
theorem e92c (g:Gr) (W:List (List Int)) (B:List (List (Int×Int))) (q m:List Nat) (ws:List (List Int)) (ch:Bool) (i:Int) (r:List Nat×Bool) (l:List (Int×Int)) (hm:Smalls m) (hll:l.length≤8796093022208) (hl:∀x∈l,0≤x.1∧x.1<m.length) (hii:IntKind.i64.wrap (i+1)=i+1) (u:Int×(Int×Int))
  (h2:u.1=2→r=(m,false)) (h1:u.1=1→GetsK Tryd.prog Tryd.f92.results.toList [none,none] (KK r92) 0 (.tup [.own 0 0 r.1.length none,.v (.bool r.2)],[],[.data 22 (.int .u64) (Mi r.1)]) 0 (stOf 105 [2,8,9,11,34,35,36] [slBd B,.ptr 0 0 0,.ptr 1 0 0,.v (.bool true),slBd B,.v (.int .i64 B.length),.v (.int .i64 (i+1))] [.live (.box 73 [.v (.int .i64 g.h),.v (.int .i64 g.w),.sl false false .bool g.B,.sl false false .bool g.R,.sl false false .bool g.L,slW W,.own 2 0 q.length none]),.live (.box 151 [.own 3 0 (letgo m u.2).length none,.own 4 0 ws.length none,.v (.bool true)]),.live (.data 22 (.int .u64) (Mi q)),.live (.data 22 (.int .u64) (Mi (letgo m u.2))),.live (.nest kW ws none)])) (h0:u.1=0→GetsK Tryd.prog Tryd.f92.results.toList [none,none] (KK r92) 0 (.tup [.own 0 0 r.1.length none,.v (.bool r.2)],[],[.data 22 (.int .u64) (Mi r.1)]) 0 (stOf 105 [2,8,9,11,34,35,36] [slBd B,.ptr 0 0 0,.ptr 1 0 0,.v (.bool ch),slBd B,.v (.int .i64 B.length),.v (.int .i64 (i+1))] [.live (.box 73 [.v (.int .i64 g.h),.v (.int .i64 g.w),.sl false false .bool g.B,.sl false false .bool g.R,.sl false false .bool g.L,slW W,.own 2 0 q.length none]),.live (.box 151 [.own 3 0 m.length none,.own 4 0 ws.length none,.v (.bool true)]),.live (.data 22 (.int .u64) (Mi q)),.live (.data 22 (.int .u64) (Mi m)),.live (.nest kW ws none)])) (z:Nat):∀(k op:Int) (a:Int×Int),0≤k→k+z=l.length→(op=0∨op=1∧a∈l∧hereB m a=true)→restU m op a (l.drop k.toNat)=u→GetsK Tryd.prog Tryd.f92.results.toList [none,none] (KK r92) 0 (.tup [.own 0 0 r.1.length none,.v (.bool r.2)],[],[.data 22 (.int .u64) (Mi r.1)]) 1 (stOf 105 [2,8,9,11,14,15,34,35,36,41,42,43] [slBd B,.ptr 0 0 0,.ptr 1 0 0,.v (.bool ch),.v (.int .i64 op),.ptr 2 0 0,slBd B,.v (.int .i64 B.length),.v (.int .i64 i),slQ l,.v (.int .i64 l.length),.v (.int .i64 k)] [.live (.box 73 [.v (.int .i64 g.h),.v (.int .i64 g.w),.sl false false .bool g.B,.sl false false .bool g.R,.sl false false .bool g.L,slW W,.own 3 0 q.length none]),.live (.box 151 [.own 4 0 m.length none,.own 5 0 ws.length none,.v (.bool true)]),.live (.box 92 [.v (.int .i64 a.1),.v (.int .i64 a.2)]),.live (.data 22 (.int .u64) (Mi q)),.live (.data 22 (.int .u64) (Mi m)),.live (.nest kW ws none)]):=by
 induction z with
 |zero=>
  intro k op a k0 hk hop hu
  rw[List.drop_eq_nil_of_le (by omega)] at hu
  rcases hop with hop|⟨hop,ha,hh⟩
  ·subst hop
   rw[restU_nil0] at hu
   have hr:=h2 (by rw[←hu])
   subst hr
   refine gets_vc spR (fun k=> [[2,8,9,11,34,35,36],[2,8,9,11,14,15,34,35,36,41,42,43]].getD k []) (fun _=> []) 400 (.fork (.fork (.fork (.fork .stop (.fork (.hd 0) (.hd 0))) (.hd 1)) (.fork (.fork (.fork (.hd 1) (.fork (.fork .stop (.fork (.hd 0) (.hd 0))) (.hd 1))) (.f (.fork (.fork .stop (.fork (.hd 0) (.hd 0))) (.hd 1)))) (.fork (.fork .stop (.fork (.hd 0) (.hd 0))) (.hd 1)))) (.fork .stop (.fork (.hd 0) (.hd 0)))) (V:=vq29 g W B q m ws ch i l k a) hmG (fun G R=>by kernel_rfl) ?_
   unfold vq29
   try dsimp only
   simp only[show((0:Int)==0)=true from rfl,show((0:Int)==1)=false from rfl]
   simp (disch:=omega) only[oo,oop,ne_eq,Ty.dflt,reduceCtorEq]
   repeat' (first|with_reducible refine And.intro ?_ ?_|intro _)
   all_goals first|rfl|omega|assumption|trivial|(exfalso;simp_all;done)|(exfalso;omega)|skip
  ·subst hop
   rw[restU_nil1] at hu
   have hg:=h1 (by rw[←hu])
   rw[←hu] at hg
   have hr:=hl a ha
   obtain⟨b1,b2,b3,b4⟩:=has_sub hh
   have c1:=d67 [a.2] (by simp)
   rw[ofN_one] at c1
   have e1:=andn_sub (hm.at a.1.toNat) b4 b1
   unfold letgo at hg
   rw[List.length_set] at hg
   refine gets_vc spR (fun k=> [[2,8,9,11,34,35,36],[2,8,9,11,14,15,34,35,36,41,42,43]].getD k []) (fun _=> []) 400 (.fork (.fork (.fork (.fork .stop (.fork (.hd 0) (.hd 0))) (.hd 1)) (.fork (.fork (.fork (.hd 1) (.fork (.fork .stop (.fork (.hd 0) (.hd 0))) (.hd 1))) (.f (.fork (.fork .stop (.fork (.hd 0) (.hd 0))) (.hd 1)))) (.fork (.fork .stop (.fork (.hd 0) (.hd 0))) (.hd 1)))) (.fork .stop (.fork (.hd 0) (.hd 0)))) (V:=vq30 g W B q m ws ch i l k a) hmG (fun G R=>by kernel_rfl) ?_
   unfold vq30
   try dsimp only
   simp only[show((1:Int)==0)=false from rfl,show((1:Int)==1)=true from rfl,Ty.dflt,hii,take_len,List.drop_zero,List.take_length,Mi_getD,Mi_len,Nt_Mi,Int.toNat_natCast,Mi_set,Nat.zero_add,Nat.sub_zero,List.length_set,take_one,takeSn,List.take_zero,List.nil_append,List.length_append,List.length_cons,List.length_nil,Mi_take,ofN_one,e1]
   simp (disch:=omega) only[oo,oop,ne_eq,Ty.dflt,reduceCtorEq]
   repeat' (first|with_reducible refine And.intro ?_ ?_|intro _)
   all_goals first|rfl|omega|assumption|trivial|(exfalso;simp_all;done)|(exfalso;omega)|skip
 |succ z ih=>
  intro k op a k0 hk hop hu
  have hk1:IntKind.i64.wrap (k+1)=k+1:=wrG (by omega) (by omega)
  have hxm:=getD_in (d:=((0:Int),(0:Int))) (k:=k.toNat) (l:=l) (by omega)
  have hx:=hl _ hxm
  rw[drop_at (xs:=l) (i:=k) (0,0) k0 (by omega)] at hu
  obtain⟨x,hxx⟩:∃x,l.getD k.toNat (0,0)=x:=⟨_,rfl⟩
  rw[hxx] at hx hu hxm
  have c1:=d66 (m.getD x.1.toNat 0) x.2 (hm.at _)
  have c2:=d67 [x.2] (by simp)
  rw[ofN_one] at c2
  have w2:((2:Int)==0)=false:=rfl
  have w3:((2:Int)==1)=false:=rfl
  have w4:decide ((2:Int)>1)=true:=rfl
  have w5:decide ((1:Int)>1)=false:=rfl
  have w6:decide ((0:Int)>1)=false:=rfl
  have w7:IntKind.i64.wrap ((0:Int)+1)=1:=by decide
  have w8:IntKind.i64.wrap ((1:Int)+1)=2:=by decide
  have w9:((0:Int)==1)=false:=rfl
  have w10:((1:Int)==1)=true:=rfl
  cases hh:hereB m x with
  |false=>
   rw[restU_no hh] at hu
   have hg:=h0 (by rw[←hu])
   have hh':hasN (m.getD x.1.toNat 0) x.2=false:=hh
   rw[hh'] at c1
   refine gets_vc spR (fun k=> [[2,8,9,11,34,35,36],[2,8,9,11,14,15,34,35,36,41,42,43]].getD k []) (fun _=> []) 400 (.fork (.fork (.fork (.fork .stop (.fork (.hd 0) (.hd 0))) (.hd 1)) (.fork (.fork (.fork (.hd 1) (.fork (.fork .stop (.fork (.hd 0) (.hd 0))) (.hd 1))) (.f (.fork (.fork .stop (.fork (.hd 0) (.hd 0))) (.hd 1)))) (.fork (.fork .stop (.fork (.hd 0) (.hd 0))) (.hd 1)))) (.fork .stop (.fork (.hd 0) (.hd 0)))) (V:=vq31 g W B q m ws ch i l k op a) hmG (fun G R=>by kernel_rfl) ?_
   unfold vq31
   try dsimp only
   simp only[Ty.dflt,hk1,hii,hxx,take_len,List.drop_zero,List.take_length,Mi_getD,Mi_len,Nt_Mi,Int.toNat_natCast,Mi_set,Nat.zero_add,Nat.sub_zero,List.length_set,take_one,takeSn,List.take_zero,List.nil_append,List.length_append,List.length_cons,List.length_nil,Mi_take,hh',w2,w3,w4,Bool.not_false]
   simp (disch:=omega) only[oo,oop,ne_eq,Ty.dflt,reduceCtorEq]
   repeat' (first|with_reducible refine And.intro ?_ ?_|intro _)
   all_goals first|rfl|omega|assumption|trivial|(exfalso;simp_all;done)|(exfalso;omega)|skip
  |true=>
   have hh':hasN (m.getD x.1.toNat 0) x.2=true:=hh
   rw[hh'] at c1
   cases ho:openB m x with
   |false=>
    rw[restU_shut hh ho] at hu
    have hg:=ih (k+1) op a (by omega) (by omega) hop hu
    have e1:(((m.getD x.1.toNat 0:Nat):Int) !=((bitN x.2:Nat):Int))=false:=by
     simp only[openB,bne_eq_false_iff_eq] at ho
     rw[ho]
     simp
    have w11:decide (op>1)=false:=by rcases hop with h|h<;>(rw[decide_eq_false_iff_not];omega)
    refine gets_vc spR (fun k=> [[2,8,9,11,34,35,36],[2,8,9,11,14,15,34,35,36,41,42,43]].getD k []) (fun _=> []) 400 (.fork (.fork (.fork (.fork .stop (.fork (.hd 0) (.hd 0))) (.hd 1)) (.fork (.fork (.fork (.hd 1) (.fork (.fork .stop (.fork (.hd 0) (.hd 0))) (.hd 1))) (.f (.fork (.fork .stop (.fork (.hd 0) (.hd 0))) (.hd 1)))) (.fork (.fork .stop (.fork (.hd 0) (.hd 0))) (.hd 1)))) (.fork .stop (.fork (.hd 0) (.hd 0)))) (V:=vq31 g W B q m ws ch i l k op a) hmG (fun G R=>by kernel_rfl) ?_
    unfold vq31
    try dsimp only
    simp only[Ty.dflt,hk1,hii,hxx,take_len,List.drop_zero,List.take_length,Mi_getD,Mi_len,Nt_Mi,Int.toNat_natCast,Mi_set,Nat.zero_add,Nat.sub_zero,List.length_set,take_one,takeSn,List.take_zero,List.nil_append,List.length_append,List.length_cons,List.length_nil,Mi_take,hh',ofN_one,e1,w11,Bool.not_true]
    simp (disch:=omega) only[oo,oop,ne_eq,Ty.dflt,reduceCtorEq]
    repeat' (first|with_reducible refine And.intro ?_ ?_|intro _)
    all_goals first|rfl|omega|assumption|trivial|(exfalso;simp_all;done)|(exfalso;omega)|skip
   |true=>
    have e1:(((m.getD x.1.toNat 0:Nat):Int) !=((bitN x.2:Nat):Int))=true:=by
     simp only[openB,bne_iff_ne,ne_eq] at ho
     rw[bne_iff_ne]
     omega
    rcases hop with hop|⟨hop,ha,hah⟩
    ·subst hop
     rw[restU_first hh ho] at hu
     have hg:=ih (k+1) 1 x (by omega) (by omega) (Or.inr ⟨rfl,hxm,hh⟩) hu
     refine gets_vc spR (fun k=> [[2,8,9,11,34,35,36],[2,8,9,11,14,15,34,35,36,41,42,43]].getD k []) (fun _=> []) 400 (.fork (.fork (.fork (.fork .stop (.fork (.hd 0) (.hd 0))) (.hd 1)) (.fork (.fork (.fork (.hd 1) (.fork (.fork .stop (.fork (.hd 0) (.hd 0))) (.hd 1))) (.f (.fork (.fork .stop (.fork (.hd 0) (.hd 0))) (.hd 1)))) (.fork (.fork .stop (.fork (.hd 0) (.hd 0))) (.hd 1)))) (.fork .stop (.fork (.hd 0) (.hd 0)))) (V:=vq29 g W B q m ws ch i l k a) hmG (fun G R=>by kernel_rfl) ?_
     unfold vq29
     try dsimp only
     simp only[Ty.dflt,hk1,hii,hxx,take_len,List.drop_zero,List.take_length,Mi_getD,Mi_len,Nt_Mi,Int.toNat_natCast,Mi_set,Nat.zero_add,Nat.sub_zero,List.length_set,take_one,takeSn,List.take_zero,List.nil_append,List.length_append,List.length_cons,List.length_nil,Mi_take,hh',ofN_one,e1,w5,w7,w9,Bool.not_true]
     simp (disch:=omega) only[oo,oop,ne_eq,Ty.dflt,reduceCtorEq]
     repeat' (first|with_reducible refine And.intro ?_ ?_|intro _)
     all_goals first|rfl|omega|assumption|trivial|(exfalso;simp_all;done)|(exfalso;omega)|skip
    ·subst hop
     have e2:(a.1==x.1&&(a.2==x.2&&true))=(a==x):=by
      rw[Bool.and_true]
      rfl
     by_cases e:a=x
     ·rw[restU_same hh ho e] at hu
      have hg:=ih (k+1) 1 a (by omega) (by omega) (Or.inr ⟨rfl,ha,hah⟩) hu
      have e3:(a==x)=true:=by rw[e];simp
      refine gets_vc spR (fun k=> [[2,8,9,11,34,35,36],[2,8,9,11,14,15,34,35,36,41,42,43]].getD k []) (fun _=> []) 400 (.fork (.fork (.fork (.fork .stop (.fork (.hd 0) (.hd 0))) (.hd 1)) (.fork (.fork (.fork (.hd 1) (.fork (.fork .stop (.fork (.hd 0) (.hd 0))) (.hd 1))) (.f (.fork (.fork .stop (.fork (.hd 0) (.hd 0))) (.hd 1)))) (.fork (.fork .stop (.fork (.hd 0) (.hd 0))) (.hd 1)))) (.fork .stop (.fork (.hd 0) (.hd 0)))) (V:=vq30 g W B q m ws ch i l k a) hmG (fun G R=>by kernel_rfl) ?_
      unfold vq30
      try dsimp only
      simp only[Ty.dflt,hk1,hii,hxx,take_len,List.drop_zero,List.take_length,Mi_getD,Mi_len,Nt_Mi,Int.toNat_natCast,Mi_set,Nat.zero_add,Nat.sub_zero,List.length_set,take_one,takeSn,List.take_zero,List.nil_append,List.length_append,List.length_cons,List.length_nil,Mi_take,hh',ofN_one,e1,e2,e3,w10,Bool.not_true]
      simp (disch:=omega) only[oo,oop,ne_eq,Ty.dflt,reduceCtorEq]
      repeat' (first|with_reducible refine And.intro ?_ ?_|intro _)
      all_goals first|rfl|omega|assumption|trivial|(exfalso;simp_all;done)|(exfalso;omega)|skip
     ·rw[restU_diff hh ho e] at hu
      have hg:=h0 (by rw[←hu])
      have e3:(a==x)=false:=by rw[beq_eq_false_iff_ne];exact e
      refine gets_vc spR (fun k=> [[2,8,9,11,34,35,36],[2,8,9,11,14,15,34,35,36,41,42,43]].getD k []) (fun _=> []) 400 (.fork (.fork (.fork (.fork .stop (.fork (.hd 0) (.hd 0))) (.hd 1)) (.fork (.fork (.fork (.hd 1) (.fork (.fork .stop (.fork (.hd 0) (.hd 0))) (.hd 1))) (.f (.fork (.fork .stop (.fork (.hd 0) (.hd 0))) (.hd 1)))) (.fork (.fork .stop (.fork (.hd 0) (.hd 0))) (.hd 1)))) (.fork .stop (.fork (.hd 0) (.hd 0)))) (V:=vq30 g W B q m ws ch i l k a) hmG (fun G R=>by kernel_rfl) ?_
      unfold vq30
      try dsimp only
      simp only[Ty.dflt,hk1,hii,hxx,take_len,List.drop_zero,List.take_length,Mi_getD,Mi_len,Nt_Mi,Int.toNat_natCast,Mi_set,Nat.zero_add,Nat.sub_zero,List.length_set,take_one,takeSn,List.take_zero,List.nil_append,List.length_append,List.length_cons,List.length_nil,Mi_take,hh',ofN_one,e1,e2,e3,w2,w3,w4,w8,w10,Bool.not_true]
      simp (disch:=omega) only[oo,oop,ne_eq,Ty.dflt,reduceCtorEq]
      repeat' (first|with_reducible refine And.intro ?_ ?_|intro _)
      all_goals first|rfl|omega|assumption|trivial|(exfalso;simp_all;done)|(exfalso;omega)|skip
end Go.Proofs.YtnakmganodkliaaDoorAm
set_option maxRecDepth 100000
namespace Go.Proofs.YtnakmganodkliaaDoorAm
open Go
theorem e92b (g:Gr) (W:List (List Int)) (B:List (List (Int×Int))) (q:List Nat) (ws:List (List Int)) (r:List Nat×Bool) (n:Nat) (hBl:B.length≤1000000) (hB:∀l∈B,l.length≤8796093022208∧∀x∈l,0≤x.1∧x.1<n) (mE:List Nat) (stE:Int) (hsE:Smalls mE)
  (h2:stE=2→r=(mE,false)) (h0:stE=0→r=(mE,true)) (h1a:stE=1→narO ⟨g,W,mE⟩=false→r=(narM ⟨g,W,mE⟩,false)) (h1b:stE=1→narO ⟨g,W,mE⟩=true→GetsK Tryd.prog Tryd.f92.results.toList [none,none] (KK r92) 0 (.tup [.own 0 0 r.1.length none,.v (.bool r.2)],[],[.data 22 (.int .u64) (Mi r.1)]) 0 (stOf 105 [2,8,9,11,34,35,36] [slBd B,.ptr 0 0 0,.ptr 1 0 0,.v (.bool false),slBd B,.v (.int .i64 B.length),.v (.int .i64 0)] [.live (.box 73 [.v (.int .i64 g.h),.v (.int .i64 g.w),.sl false false .bool g.B,.sl false false .bool g.R,.sl false false .bool g.L,slW W,.own 2 0 mE.length none]),.live (.box 151 [.own 3 0 (narM ⟨g,W,mE⟩).length none,.own 4 0 (narW ⟨g,W,mE⟩).length none,.v (.bool true)]),.live (.data 22 (.int .u64) (Mi mE)),.live (.data 22 (.int .u64) (Mi (narM ⟨g,W,mE⟩))),.live (.nest kW (narW ⟨g,W,mE⟩) none)])) (z:Nat):∀(i:Int) (m:List Nat) (st:Int) (ch:Bool),0≤i→i+z=B.length→Smalls m→m.length=n→(ch=true∧st=1∨ch=false∧st=0)→passF (B.drop i.toNat) m st=(mE,stE)→GetsK Tryd.prog Tryd.f92.results.toList [none,none] (KK r92) 0 (.tup [.own 0 0 r.1.length none,.v (.bool r.2)],[],[.data 22 (.int .u64) (Mi r.1)]) 0 (stOf 105 [2,8,9,11,34,35,36] [slBd B,.ptr 0 0 0,.ptr 1 0 0,.v (.bool ch),slBd B,.v (.int .i64 B.length),.v (.int .i64 i)] [.live (.box 73 [.v (.int .i64 g.h),.v (.int .i64 g.w),.sl false false .bool g.B,.sl false false .bool g.R,.sl false false .bool g.L,slW W,.own 2 0 q.length none]),.live (.box 151 [.own 3 0 m.length none,.own 4 0 ws.length none,.v (.bool true)]),.live (.data 22 (.int .u64) (Mi q)),.live (.data 22 (.int .u64) (Mi m)),.live (.nest kW ws none)]):=by
 induction z with
 |zero=>
  intro i m st ch i0 hi hm hl hc hp
  rw[List.drop_eq_nil_of_le (by omega)] at hp
  simp only[passF,Prod.mk.injEq] at hp
  obtain⟨rfl,rfl⟩:=hp
  rcases hc with⟨rfl,rfl⟩|⟨rfl,rfl⟩
  ·have c59:=d59 g W m hm
   refine gets_vc spR (fun k=> [[2,8,9,11,34,35,36],[2,8,9,11,14,15,34,35,36,41,42,43]].getD k []) (fun _=> []) 400 (.fork (.hd 1) (.fork (.fork .stop (.hd 0)) .stop)) (V:=fun G R=>let yy0:=(Pr.mk g W (Nt (List.take m.length (List.drop 0 (Mi m)))));let yy1:=(Ty.int .i64);let yy2:=(Value.int .i64 (0:Int));let yy3:=(Ty.int .u64);(decide (i< (↑B.length:Int))=true→(0:Int)≤i∧i< (↑B.length:Int)∧SameK (KK r92 1) (KK r92 1)∧G 1 (stOf 105 [2,8,9,11,14,15,34,35,36,41,42,43] [D.sl false false (yy1.prod yy1).sl B,D.ptr 0 0 0,D.ptr 1 0 0,D.v (Value.bool true),D.v yy2,D.ptr 2 0 0,D.sl false false (yy1.prod yy1).sl B,D.v (Value.int .i64 (↑B.length:Int)),D.v (Value.int .i64 i),D.sl false false (yy1.prod yy1) (B.getD i.toNat (yy1.prod yy1).sl.dflt),D.v (Value.int .i64 (↑(List.length (B.getD i.toNat (yy1.prod yy1).sl.dflt)):Int)),D.v yy2] [Slot.live (Row.box 73 [D.v (Value.int .i64 g.h),D.v (Value.int .i64 g.w),D.sl false false Ty.bool g.B,D.sl false false Ty.bool g.R,D.sl false false Ty.bool g.L,D.sl false false yy1.sl W,D.own 3 0 q.length none]),Slot.live (Row.box 151 [D.own 4 0 m.length none,D.own 5 0 ws.length none,D.v (Value.bool true)]),Slot.live (Row.box 92 [D.v yy2,D.v yy2]),Slot.live (Row.data 22 yy3 (Mi q)),Slot.live (Row.data 22 yy3 (Mi m)),Slot.live (Row.nest (NK.mk 27 yy1.sl 0 3 yy1) ws none)]))∧(decide (i< (↑B.length:Int))=false→(true=true→Con Tryd.prog 123 [] [D.agg [D.v (Value.int .i64 yy0.g.h),D.v (Value.int .i64 yy0.g.w),D.sl false false Ty.bool yy0.g.B,D.sl false false Ty.bool yy0.g.R,D.sl false false Ty.bool yy0.g.L,D.sl false false yy1.sl yy0.W,D.sl false false yy3 (Mi yy0.M)]] (D.tup [D.agg [D.own 0 0 (narM yy0).length none,D.own 1 0 (narW yy0).length none,D.v (Value.bool (narO yy0))],D.v (Value.int .i64 (checkP yy0))]) [] [Row.data 22 yy3 (Mi (narM yy0)),Row.nest (NK.mk 27 yy1.sl 0 3 yy1) (narW yy0) none]∧Value.int .i64 g.h=Value.int .i64 yy0.g.h∧Value.int .i64 g.w=Value.int .i64 yy0.g.w∧g.B=yy0.g.B∧g.R=yy0.g.R∧g.L=yy0.g.L∧W=yy0.W∧List.take m.length (List.drop 0 (Mi m))=Mi yy0.M∧((!narO yy0)=true→R (D.tup [D.own 0 0 (narM yy0).length none,D.v (Value.bool false)],[],[Row.data 22 yy3 (Mi (narM yy0))]))∧((!narO yy0)=false→SameK (KK r92 0) (KK r92 0)∧G 0 (stOf 105 [2,8,9,11,34,35,36] [D.sl false false (yy1.prod yy1).sl B,D.ptr 0 0 0,D.ptr 1 0 0,D.v (Value.bool false),D.sl false false (yy1.prod yy1).sl B,D.v (Value.int .i64 (↑B.length:Int)),D.v yy2] [Slot.live (Row.box 73 [D.v (Value.int .i64 g.h),D.v (Value.int .i64 g.w),D.sl false false Ty.bool g.B,D.sl false false Ty.bool g.R,D.sl false false Ty.bool g.L,D.sl false false yy1.sl W,D.own 2 0 m.length none]),Slot.live (Row.box 151 [D.own 3 0 (narM yy0).length none,D.own 4 0 (narW yy0).length none,D.v (Value.bool (narO yy0))]),Slot.live (Row.data 22 yy3 (Mi m)),Slot.live (Row.data 22 yy3 (Mi (narM yy0))),Slot.live (Row.nest (NK.mk 27 yy1.sl 0 3 yy1) (narW yy0) none)])))∧(true=false→R (D.tup [D.own 0 0 m.length none,D.v (Value.bool true)],[],[Row.data 22 yy3 (Mi m)])))) hmG (fun G R=>by kernel_rfl) ?_
   try dsimp only
   simp only[narVal] at c59
   simp only[take_len,List.drop_zero,List.take_length,Mi_getD,Mi_len,Nt_Mi,Int.toNat_natCast,Mi_set,Nat.zero_add,Nat.sub_zero,List.length_set,take_one,takeSn,List.take_zero,List.nil_append,List.length_append,List.length_cons,List.length_nil,Mi_take]
   cases ho:narO ⟨g,W,m⟩ with
   |false=>
    have hr:=h1a rfl ho
    subst hr
    rw[ho] at c59
    simp (disch:=omega) only[oo,oop,ne_eq,Ty.dflt,reduceCtorEq]
    repeat' (first|with_reducible refine And.intro ?_ ?_|intro _)
    all_goals first|rfl|omega|assumption|trivial|(exfalso;simp_all;done)|(exfalso;omega)|skip
   |true=>
    have hg:=h1b rfl ho
    rw[ho] at c59
    simp (disch:=omega) only[oo,oop,ne_eq,Ty.dflt,reduceCtorEq]
    repeat' (first|with_reducible refine And.intro ?_ ?_|intro _)
    all_goals first|rfl|omega|assumption|trivial|(exfalso;simp_all;done)|(exfalso;omega)|skip
  ·have hr:=h0 rfl
   subst hr
   refine gets_vc spR (fun k=> [[2,8,9,11,34,35,36],[2,8,9,11,14,15,34,35,36,41,42,43]].getD k []) (fun _=> []) 400 (.fork (.hd 1) (.fork (.fork .stop (.hd 0)) .stop)) (V:=fun G R=>let yy0:=(Pr.mk g W (Nt (List.take m.length (List.drop 0 (Mi m)))));let yy1:=(Ty.int .i64);let yy2:=(Value.int .i64 (0:Int));let yy3:=(Ty.int .u64);(decide (i< (↑B.length:Int))=true→(0:Int)≤i∧i< (↑B.length:Int)∧SameK (KK r92 1) (KK r92 1)∧G 1 (stOf 105 [2,8,9,11,14,15,34,35,36,41,42,43] [D.sl false false (yy1.prod yy1).sl B,D.ptr 0 0 0,D.ptr 1 0 0,D.v (Value.bool false),D.v yy2,D.ptr 2 0 0,D.sl false false (yy1.prod yy1).sl B,D.v (Value.int .i64 (↑B.length:Int)),D.v (Value.int .i64 i),D.sl false false (yy1.prod yy1) (B.getD i.toNat (yy1.prod yy1).sl.dflt),D.v (Value.int .i64 (↑(List.length (B.getD i.toNat (yy1.prod yy1).sl.dflt)):Int)),D.v yy2] [Slot.live (Row.box 73 [D.v (Value.int .i64 g.h),D.v (Value.int .i64 g.w),D.sl false false Ty.bool g.B,D.sl false false Ty.bool g.R,D.sl false false Ty.bool g.L,D.sl false false yy1.sl W,D.own 3 0 q.length none]),Slot.live (Row.box 151 [D.own 4 0 m.length none,D.own 5 0 ws.length none,D.v (Value.bool true)]),Slot.live (Row.box 92 [D.v yy2,D.v yy2]),Slot.live (Row.data 22 yy3 (Mi q)),Slot.live (Row.data 22 yy3 (Mi m)),Slot.live (Row.nest (NK.mk 27 yy1.sl 0 3 yy1) ws none)]))∧(decide (i< (↑B.length:Int))=false→(false=true→Con Tryd.prog 123 [] [D.agg [D.v (Value.int .i64 yy0.g.h),D.v (Value.int .i64 yy0.g.w),D.sl false false Ty.bool yy0.g.B,D.sl false false Ty.bool yy0.g.R,D.sl false false Ty.bool yy0.g.L,D.sl false false yy1.sl yy0.W,D.sl false false yy3 (Mi yy0.M)]] (D.tup [D.agg [D.own 0 0 (narM yy0).length none,D.own 1 0 (narW yy0).length none,D.v (Value.bool (narO yy0))],D.v (Value.int .i64 (checkP yy0))]) [] [Row.data 22 yy3 (Mi (narM yy0)),Row.nest (NK.mk 27 yy1.sl 0 3 yy1) (narW yy0) none]∧Value.int .i64 g.h=Value.int .i64 yy0.g.h∧Value.int .i64 g.w=Value.int .i64 yy0.g.w∧g.B=yy0.g.B∧g.R=yy0.g.R∧g.L=yy0.g.L∧W=yy0.W∧List.take m.length (List.drop 0 (Mi m))=Mi yy0.M∧((!narO yy0)=true→R (D.tup [D.own 0 0 (narM yy0).length none,D.v (Value.bool false)],[],[Row.data 22 yy3 (Mi (narM yy0))]))∧((!narO yy0)=false→SameK (KK r92 0) (KK r92 0)∧G 0 (stOf 105 [2,8,9,11,34,35,36] [D.sl false false (yy1.prod yy1).sl B,D.ptr 0 0 0,D.ptr 1 0 0,D.v (Value.bool false),D.sl false false (yy1.prod yy1).sl B,D.v (Value.int .i64 (↑B.length:Int)),D.v yy2] [Slot.live (Row.box 73 [D.v (Value.int .i64 g.h),D.v (Value.int .i64 g.w),D.sl false false Ty.bool g.B,D.sl false false Ty.bool g.R,D.sl false false Ty.bool g.L,D.sl false false yy1.sl W,D.own 2 0 m.length none]),Slot.live (Row.box 151 [D.own 3 0 (narM yy0).length none,D.own 4 0 (narW yy0).length none,D.v (Value.bool (narO yy0))]),Slot.live (Row.data 22 yy3 (Mi m)),Slot.live (Row.data 22 yy3 (Mi (narM yy0))),Slot.live (Row.nest (NK.mk 27 yy1.sl 0 3 yy1) (narW yy0) none)])))∧(false=false→R (D.tup [D.own 0 0 m.length none,D.v (Value.bool true)],[],[Row.data 22 yy3 (Mi m)])))) hmG (fun G R=>by kernel_rfl) ?_
   try dsimp only
   simp (disch:=omega) only[oo,oop,ne_eq,Ty.dflt,reduceCtorEq]
   repeat' (first|with_reducible refine And.intro ?_ ?_|intro _)
   all_goals first|rfl|omega|assumption|trivial|(exfalso;simp_all;done)|(exfalso;omega)|skip
 |succ z ih=>
  intro i m st ch i0 hi hm hl hc hp
  have hk1:IntKind.i64.wrap (i+1)=i+1:=wrG (by omega) (by omega)
  have hxm:=getD_in (d:=([]:List (Int×Int))) (k:=i.toNat) (l:=B) (by omega)
  have hx:=hB _ hxm
  rw[drop_at (xs:=B) (i:=i) ([]:List (Int×Int)) i0 (by omega),pass_cons] at hp
  obtain⟨l,hll⟩:∃l,B.getD i.toNat []=l:=⟨_,rfl⟩
  rw[hll] at hx hp
  have hg:=e92c g W B q m ws ch i r l hm hx.1 (fun x h=>by have:=hx.2 x h;omega) hk1 (unitF m l)
   (fun e=>by
    rw[if_pos e] at hp
    simp only[Prod.mk.injEq] at hp
    rw[hp.1]
    exact h2 hp.2.symm)
   (fun e=>by
    rw[if_neg (by omega),if_pos e] at hp
    exact ih (i+1) _ 1 true (by omega) (by omega) (letgo_small hm _) (by rw[letgo_len];exact hl) (Or.inl ⟨rfl,rfl⟩) hp)
   (fun e=>by
    rw[if_neg (by omega),if_neg (by omega)] at hp
    exact ih (i+1) m st ch (by omega) (by omega) hm hl hc hp)
   l.length 0 0 (0,0) (by omega) (by omega) (Or.inl rfl) rfl
  refine gets_vc spR (fun k=> [[2,8,9,11,34,35,36],[2,8,9,11,14,15,34,35,36,41,42,43]].getD k []) (fun _=> []) 400 (.fork (.hd 1) (.fork (.fork .stop (.hd 0)) .stop)) (V:=fun G R=>let yy0:=(Pr.mk g W (Nt (List.take m.length (List.drop 0 (Mi m)))));let yy1:=(Ty.int .i64);let yy2:=(Value.int .i64 (0:Int));let yy3:=(Ty.int .u64);(decide (i< (↑B.length:Int))=true→(0:Int)≤i∧i< (↑B.length:Int)∧SameK (KK r92 1) (KK r92 1)∧G 1 (stOf 105 [2,8,9,11,14,15,34,35,36,41,42,43] [D.sl false false (yy1.prod yy1).sl B,D.ptr 0 0 0,D.ptr 1 0 0,D.v (Value.bool ch),D.v yy2,D.ptr 2 0 0,D.sl false false (yy1.prod yy1).sl B,D.v (Value.int .i64 (↑B.length:Int)),D.v (Value.int .i64 i),D.sl false false (yy1.prod yy1) (B.getD i.toNat (yy1.prod yy1).sl.dflt),D.v (Value.int .i64 (↑(List.length (B.getD i.toNat (yy1.prod yy1).sl.dflt)):Int)),D.v yy2] [Slot.live (Row.box 73 [D.v (Value.int .i64 g.h),D.v (Value.int .i64 g.w),D.sl false false Ty.bool g.B,D.sl false false Ty.bool g.R,D.sl false false Ty.bool g.L,D.sl false false yy1.sl W,D.own 3 0 q.length none]),Slot.live (Row.box 151 [D.own 4 0 m.length none,D.own 5 0 ws.length none,D.v (Value.bool true)]),Slot.live (Row.box 92 [D.v yy2,D.v yy2]),Slot.live (Row.data 22 yy3 (Mi q)),Slot.live (Row.data 22 yy3 (Mi m)),Slot.live (Row.nest (NK.mk 27 yy1.sl 0 3 yy1) ws none)]))∧(decide (i< (↑B.length:Int))=false→(ch=true→Con Tryd.prog 123 [] [D.agg [D.v (Value.int .i64 yy0.g.h),D.v (Value.int .i64 yy0.g.w),D.sl false false Ty.bool yy0.g.B,D.sl false false Ty.bool yy0.g.R,D.sl false false Ty.bool yy0.g.L,D.sl false false yy1.sl yy0.W,D.sl false false yy3 (Mi yy0.M)]] (D.tup [D.agg [D.own 0 0 (narM yy0).length none,D.own 1 0 (narW yy0).length none,D.v (Value.bool (narO yy0))],D.v (Value.int .i64 (checkP yy0))]) [] [Row.data 22 yy3 (Mi (narM yy0)),Row.nest (NK.mk 27 yy1.sl 0 3 yy1) (narW yy0) none]∧Value.int .i64 g.h=Value.int .i64 yy0.g.h∧Value.int .i64 g.w=Value.int .i64 yy0.g.w∧g.B=yy0.g.B∧g.R=yy0.g.R∧g.L=yy0.g.L∧W=yy0.W∧List.take m.length (List.drop 0 (Mi m))=Mi yy0.M∧((!narO yy0)=true→R (D.tup [D.own 0 0 (narM yy0).length none,D.v (Value.bool false)],[],[Row.data 22 yy3 (Mi (narM yy0))]))∧((!narO yy0)=false→SameK (KK r92 0) (KK r92 0)∧G 0 (stOf 105 [2,8,9,11,34,35,36] [D.sl false false (yy1.prod yy1).sl B,D.ptr 0 0 0,D.ptr 1 0 0,D.v (Value.bool false),D.sl false false (yy1.prod yy1).sl B,D.v (Value.int .i64 (↑B.length:Int)),D.v yy2] [Slot.live (Row.box 73 [D.v (Value.int .i64 g.h),D.v (Value.int .i64 g.w),D.sl false false Ty.bool g.B,D.sl false false Ty.bool g.R,D.sl false false Ty.bool g.L,D.sl false false yy1.sl W,D.own 2 0 m.length none]),Slot.live (Row.box 151 [D.own 3 0 (narM yy0).length none,D.own 4 0 (narW yy0).length none,D.v (Value.bool (narO yy0))]),Slot.live (Row.data 22 yy3 (Mi m)),Slot.live (Row.data 22 yy3 (Mi (narM yy0))),Slot.live (Row.nest (NK.mk 27 yy1.sl 0 3 yy1) (narW yy0) none)])))∧(ch=false→R (D.tup [D.own 0 0 m.length none,D.v (Value.bool true)],[],[Row.data 22 yy3 (Mi m)])))) hmG (fun G R=>by kernel_rfl) ?_
  try dsimp only
  simp only[Ty.dflt,hll]
  simp (disch:=omega) only[oo,oop,ne_eq,Ty.dflt,reduceCtorEq]
  repeat' (first|with_reducible refine And.intro ?_ ?_|intro _)
  all_goals first|rfl|omega|assumption|trivial|(exfalso;simp_all;done)|(exfalso;omega)|skip
theorem e92a (g:Gr) (W:List (List Int)) (B:List (List (Int×Int))) (n:Nat) (hBl:B.length≤1000000) (hB:∀l∈B,l.length≤8796093022208∧∀x∈l,0≤x.1∧x.1<n) (fu:Nat):∀q:List Nat,q.sum<fu→Smalls q→q.length=n→checkP ⟨g,W,q⟩=0→narO ⟨g,W,q⟩=true→∀r,r=spreadF g W B fu q→GetsK Tryd.prog Tryd.f92.results.toList [none,none] (KK r92) 0 (.tup [.own 0 0 r.1.length none,.v (.bool r.2)],[],[.data 22 (.int .u64) (Mi r.1)]) 0 (stOf 105 [2,8,9,11,34,35,36] [slBd B,.ptr 0 0 0,.ptr 1 0 0,.v (.bool false),slBd B,.v (.int .i64 B.length),.v (.int .i64 0)] [.live (.box 73 [.v (.int .i64 g.h),.v (.int .i64 g.w),.sl false false .bool g.B,.sl false false .bool g.R,.sl false false .bool g.L,slW W,.own 2 0 q.length none]),.live (.box 151 [.own 3 0 (narM ⟨g,W,q⟩).length none,.own 4 0 (narW ⟨g,W,q⟩).length none,.v (.bool true)]),.live (.data 22 (.int .u64) (Mi q)),.live (.data 22 (.int .u64) (Mi (narM ⟨g,W,q⟩))),.live (.nest kW (narW ⟨g,W,q⟩) none)]):=by
 induction fu with
 |zero=>intro q h;omega
 |succ fu ih=>
  intro q hs hq hl hc ho r hr
  have hns:=nar_small hc hq
  have hnl:=narM_len _ hc
  simp only at hnl
  have hsum:(narM ⟨g,W,q⟩).sum≤q.sum:=by
   refine sum_le hnl fun c=>sub_le fun i hi=> ?_
   exact(nar_given hc) c i hi
  obtain⟨f1,f2,f3,f4⟩:=pass_facts n B (narM ⟨g,W,q⟩) 0 (fun l hl x hx=>(hB l hl).2 x hx) (by omega) hns
  simp only[spreadF,ho,if_true] at hr
  obtain⟨mE,stE,hE⟩:∃mE stE,passF B (narM ⟨g,W,q⟩) 0=(mE,stE):=⟨_,_,rfl⟩
  rw[hE] at hr f1 f2 f3 f4
  simp only at hr f1 f2 f3 f4
  have hcE:checkP ⟨g,W,mE⟩=0:=by rw[again_check (p:=⟨g,W,q⟩) (by simp only;omega)];exact hc
  refine e92b g W B q _ r n hBl hB mE stE f2 (fun e=>by rw[hr,if_pos e]) (fun e=>by rw[hr,if_neg (by omega),if_neg (by omega)]) (fun e hn=> ?_) (fun e hn=> ?_) B.length 0 _ 0 false (by omega) (by omega) hns (by omega) (Or.inr ⟨rfl,rfl⟩) hE
  ·have h4:=f4 trivial e
   rw[hr,if_neg (by omega),if_pos e]
   cases fu with
   |zero=>omega
   |succ fu=>
    simp only[spreadF,hn,Bool.false_eq_true,if_false]
  ·have h4:=f4 trivial e
   exact ih mE (by omega) f2 f1 hcE hn r (by rw[hr,if_neg (by omega),if_pos e])
theorem d92 (g:Gr) (W:List (List Int)) (M:List Nat) (F:List (Int×Int)) (B:List (List (Int×Int))) (hc:checkP ⟨g,W,M⟩=0) (hM:Smalls M) (hFl:F.length≤8796093022208) (hF:∀x∈F,0≤x.1∧x.1<M.length) (hBl:B.length≤1000000) (hB:∀l∈B,l.length≤8796093022208∧∀x∈l,0≤x.1∧x.1<M.length):Con Tryd.prog 92 [] [.agg [.v (.int .i64 g.h),.v (.int .i64 g.w),.sl false false .bool g.B,.sl false false .bool g.R,.sl false false .bool g.L,slW W,slU M],slQ F,slBd B] (.tup [.own 0 0 (spreadG ⟨g,W,M⟩ F B).1.length none,.v (.bool (spreadG ⟨g,W,M⟩ F B).2)]) [] [.data 22 (.int .u64) (Mi (spreadG ⟨g,W,M⟩ F B).1)]:=by
 refine con_vc (how:=[none,none]) (c:=r92) (K:=(KK r92)) spR (fun k=> [[2,8,9,11,34,35,36],[2,8,9,11,14,15,34,35,36,41,42,43]].getD k []) (fun _=> []) 400 (.fork .stop (.hd 0)) (V:=fun G R=>let yy0:=(Pr.mk g W (Nt (List.take (Pr.mk g W (Nt (Mi M))).M.length (List.drop 0 (Mi (givenF F (Pr.mk g W (Nt (Mi M))).M))))));let yy1:=(Pr.mk g W (Nt (Mi M)));let yy2:=(Ty.int .i64);let yy3:=(Ty.int .u64);Con Tryd.prog 122 [] [D.agg [D.v (Value.int .i64 yy1.g.h),D.v (Value.int .i64 yy1.g.w),D.sl false false Ty.bool yy1.g.B,D.sl false false Ty.bool yy1.g.R,D.sl false false Ty.bool yy1.g.L,D.sl false false yy2.sl yy1.W,D.sl false false yy3 (Mi yy1.M)],D.sl false false (yy2.prod yy2) F] (D.own 0 0 yy1.M.length none) [] [Row.data 22 yy3 (Mi (givenF F yy1.M))]∧Value.int .i64 g.h=Value.int .i64 yy1.g.h∧Value.int .i64 g.w=Value.int .i64 yy1.g.w∧g.B=yy1.g.B∧g.R=yy1.g.R∧g.L=yy1.g.L∧W=yy1.W∧Mi M=Mi yy1.M∧F=F∧Con Tryd.prog 123 [] [D.agg [D.v (Value.int .i64 yy0.g.h),D.v (Value.int .i64 yy0.g.w),D.sl false false Ty.bool yy0.g.B,D.sl false false Ty.bool yy0.g.R,D.sl false false Ty.bool yy0.g.L,D.sl false false yy2.sl yy0.W,D.sl false false yy3 (Mi yy0.M)]] (D.tup [D.agg [D.own 0 0 (narM yy0).length none,D.own 1 0 (narW yy0).length none,D.v (Value.bool (narO yy0))],D.v (Value.int .i64 (checkP yy0))]) [] [Row.data 22 yy3 (Mi (narM yy0)),Row.nest (NK.mk 27 yy2.sl 0 3 yy2) (narW yy0) none]∧Value.int .i64 g.h=Value.int .i64 yy0.g.h∧Value.int .i64 g.w=Value.int .i64 yy0.g.w∧g.B=yy0.g.B∧g.R=yy0.g.R∧g.L=yy0.g.L∧W=yy0.W∧List.take yy1.M.length (List.drop 0 (Mi (givenF F yy1.M)))=Mi yy0.M∧((!narO yy0)=true→R (D.tup [D.own 0 0 (narM yy0).length none,D.v (Value.bool false)],[],[Row.data 22 yy3 (Mi (narM yy0))]))∧((!narO yy0)=false→SameK (KK r92 0) (KK r92 0)∧G 0 (stOf 105 [2,8,9,11,34,35,36] [D.sl false false (yy2.prod yy2).sl B,D.ptr 0 0 0,D.ptr 1 0 0,D.v (Value.bool false),D.sl false false (yy2.prod yy2).sl B,D.v (Value.int .i64 (↑B.length:Int)),D.v (Value.int .i64 (0:Int))] [Slot.live (Row.box 73 [D.v (Value.int .i64 g.h),D.v (Value.int .i64 g.w),D.sl false false Ty.bool g.B,D.sl false false Ty.bool g.R,D.sl false false Ty.bool g.L,D.sl false false yy2.sl W,D.own 2 0 yy1.M.length none]),Slot.live (Row.box 151 [D.own 3 0 (narM yy0).length none,D.own 4 0 (narW yy0).length none,D.v (Value.bool (narO yy0))]),Slot.live (Row.data 22 yy3 (Mi (givenF F yy1.M))),Slot.live (Row.data 22 yy3 (Mi (narM yy0))),Slot.live (Row.nest (NK.mk 27 yy2.sl 0 3 yy2) (narW yy0) none)]))) hmG Tryd.func92 (by kernel_rfl) (by kernel_rfl) (fun G R=>by kernel_rfl) ?_
 try dsimp only
 try dsimp only
 have hMs:(M.length:Int)=g.h*g.w:=(checkP_zero hc).2.2.2
 have hMl:M.length≤300:=by
  have hw:=hw_in (chk0.1 (checkP_zero hc).1).1 (chk0.1 (checkP_zero hc).1).2.1
  simp only at hw
  omega
 have hM0:M≠ []:=by
  intro e
  have s1:=side_iff.1 (chk0.1 (checkP_zero hc).1).1
  have s2:=side_iff.1 (chk0.1 (checkP_zero hc).1).2.1
  simp only at s1 s2
  rw[e] at hMs
  have:0<g.h*g.w:=Int.mul_pos (by omega) (by omega)
  simp at hMs
  omega
 have hgs:=given_small F hM
 have hgl:=given_len F M
 have c1:=d122R g W M F hM hM0 (by omega) hFl hF
 have c59:=d59 g W (givenF F M) hgs
 have hcq:checkP ⟨g,W,givenF F M⟩=0:=by rw[again_check (p:=⟨g,W,M⟩) hgl];exact hc
 have hTk:List.take M.length (Mi (givenF F M))=Mi (givenF F M):=by rw[←hgl];exact Mi_take _
 simp only[narVal] at c59
 simp only[take_len,List.drop_zero,List.take_length,Mi_getD,Mi_len,Nt_Mi,Int.toNat_natCast,Mi_set,Nat.zero_add,Nat.sub_zero,List.length_set,take_one,takeSn,List.take_zero,List.nil_append,List.length_append,List.length_cons,List.length_nil,hTk]
 obtain⟨r,hr⟩:∃r,spreadG ⟨g,W,M⟩ F B=r:=⟨_,rfl⟩
 rw[hr]
 cases ho:narO ⟨g,W,givenF F M⟩ with
 |false=>
  have e:r=(narM ⟨g,W,givenF F M⟩,false):=by
   rw[←hr]
   simp only[spreadG,spreadF,ho,Bool.false_eq_true,if_false]
  rw[ho] at c59
  subst e
  simp (disch:=omega) only[oo,oop,ne_eq,Ty.dflt,reduceCtorEq]
  repeat' (first|with_reducible refine And.intro ?_ ?_|intro _)
  all_goals first|rfl|omega|assumption|trivial|(exfalso;simp_all;done)|(exfalso;omega)|skip
 |true=>
  have hg:=e92a g W B M.length hBl hB ((givenF F M).sum+1) (givenF F M) (by omega) hgs hgl hcq ho r hr.symm
  rw[ho] at c59
  rw[hgl] at hg
  simp (disch:=omega) only[oo,oop,ne_eq,Ty.dflt,reduceCtorEq]
  repeat' (first|with_reducible refine And.intro ?_ ?_|intro _)
  all_goals first|rfl|omega|assumption|trivial|(exfalso;simp_all;done)|(exfalso;omega)|skip
end Go.Proofs.YtnakmganodkliaaDoorAm
set_option maxRecDepth 100000
namespace Go.Proofs.YtnakmganodkliaaDoorAm
open Go
theorem right_fits {g:Gr} {W:List (List Int)} {M:List Nat} (hc:checkP ⟨g,W,M⟩=0) (hM:Smalls M):(Pr.mk g W M).fits∧M.length≤300∧M≠ []:=by
 obtain⟨h1,h2,h3,h4⟩:=checkP_zero hc
 simp only at h1 h2 h3 h4
 have hw:=hw_in (chk0.1 h1).1 (chk0.1 h1).2.1
 have sz:=size3 (chk0.1 h1).2.2.1
 have s1:=side_iff.1 (chk0.1 h1).1
 have s2:=side_iff.1 (chk0.1 h1).2.1
 have hpos:0<g.h*g.w:=Int.mul_pos (by omega) (by omega)
 refine⟨⟨⟨by simp only;omega,by simp only;omega,by simp only;omega⟩,by simp only;omega,fun w h=> ?_,by simp only;omega,hM⟩,by omega,fun e=> ?_⟩
 ·have:=(h3 w h).2.1
  omega
 ·rw[e] at h4
  simp at h4
  omega
end Go.Proofs.YtnakmganodkliaaDoorAm
set_option maxRecDepth 100000
namespace Go.Proofs.YtnakmganodkliaaDoorAm
open Go
def pairOk (A E:List (Int×Int)) (x:Int×Int):Bool:=decide (0≤x.1∧x.1<A.length∧0≤x.2∧x.2≤63)&&(decide (0≤(A.getD x.1.toNat (0,0)).1)||decide (0≤(E.getD x.1.toNat (0,0)).1))
def oddP (A E:List (Int×Int)) (x:Int×Int):Bool:= !pairOk A E x
def findP (f:Int×Int→Bool):Int→List (Int×Int)→Int
 |_,[]=> -1
 |k,x::xs=>if f x then k else findP f (k+1) xs
theorem findP_any (f:Int×Int→Bool):∀(l:List (Int×Int)) (k:Int),0≤k→decide (findP f k l≥0)=l.any f
 | [],k,_=>rfl
 |x::xs,k,h=>by
  rw[List.any_cons]
  by_cases hf:f x=true
  ·have e:findP f k (x::xs)=k:=by simp only[findP,hf,if_true]
   rw[e,hf,Bool.true_or]
   exact decide_eq_true h
  ·have hf':f x=false:=by simpa using hf
   have e:findP f k (x::xs)=findP f (k+1) xs:=by simp only[findP,hf',Bool.false_eq_true,if_false]
   rw[e,hf',Bool.false_or]
   exact findP_any f xs (k+1) (by omega)
abbrev oddD (A E:List (Int×Int)):D:= .fn 90 [.rptr [slQ A],.rptr [slQ E]]
def checkN (p:Pr) (A E:List (Int×Int)) (B:List (List (Int×Int))):Nat→Int→Int×Int
 |0,_=>if B=[] then(0,151) else if(B.getD (B.length-1) []).length>0 then((B.length:Int),151) else(0,0)
 |z+1,i=>if(B.getD i.toNat []).any (oddP A E) then(i,150) else if(spreadG p (B.getD i.toNat []) (B.take i.toNat)).2 then(i,151) else checkN p A E B z (i+1)
def checkR (p:Pr) (B:List (List (Int×Int))):Int×Int:=if checkP p=0 then(if(B.length:Int)>65000 then(0,2) else checkN p (seatsF p.g).1 (seatsF p.g).2 B B.length 0) else(0,checkP p)
def spS:Sp:=fun f args rd=>match f,args with
 |93,[a,e,.agg [.v (.int _ c),.v (.int _ y)]]=>match slC rd SeT [a],slC rd SeT [e] with
  |some A,some E=>some {f:=93,args:=[slQ A,slQ E,.agg [.v (.int .i64 c),.v (.int .i64 y)]],val:= .v (.bool (pairOk A E (c,y))),lent:=refsDs [a,e]}
  |_,_=>none
 |90,[.agg [.v (.int _ c),.v (.int _ y)],.rptr [a],.rptr [e]]=>match slC rd SeT [a],slC rd SeT [e] with
  |some A,some E=>some {f:=90,args:=[.agg [.v (.int .i64 c),.v (.int .i64 y)],.rptr [slQ A],.rptr [slQ E]],val:= .v (.bool (oddP A E (c,y)))}
  |_,_=>none
 |121,[l,.fn 90 [.rptr [a],.rptr [e]]]=>match slC rd SeT [l],slC rd SeT [a],slC rd SeT [e] with
  |some L,some A,some E=>some {f:=121,args:=[slQ L,oddD A E],val:= .v (.int .i64 (findP (oddP A E) 0 L)),lent:=refsDs [l]}
  |_,_,_=>none
 |91,[l,.fn 90 [.ptr b1 _ _,.ptr b2 _ _]]=>match rd b1,rd b2 with
  |some (.box _ [a]),some (.box _ [e])=>match slC rd SeT [l],slC rd SeT [a],slC rd SeT [e] with
   |some L,some A,some E=>some {f:=91,args:=[slQ L,oddD A E],val:= .v (.bool (L.any (oddP A E))),lent:=b1::b2::refsDs [l,a,e]}
   |_,_,_=>none
  |_,_=>none
 |40,[.agg [.v (.int _ h),.v (.int _ w),b,r,l]]=>withW rd h w b r l fun g ls=>some {f:=40,args:=[g.d],val:= .tup [.own 0 0 (seatsF g).1.length none,.own 1 0 (seatsF g).2.length none],allocs:=[.data 61 SeT (seatsF g).1,.data 61 SeT (seatsF g).2],lent:=ls}
 |41,[.agg [.v (.int _ h),.v (.int _ w),b,r,l]]=>withW rd h w b r l fun g ls=>some {f:=41,args:=[g.d],val:= .tup [.own 0 0 (seatsF g).1.length none,.own 1 0 (seatsF g).2.length none],allocs:=[.data 61 SeT (seatsF g).1,.data 61 SeT (seatsF g).2],lent:=ls}
 |f,args=>spR f args rd
noncomputable def r121:Code:=(Tryd.f121.body).getD .skip
noncomputable def r91:Code:=(Tryd.f91.body).getD .skip
end Go.Proofs.YtnakmganodkliaaDoorAm
namespace Go.Proofs.YtnakmganodkliaaDoorAm
open Go
def wlayF (M:List Nat) (f:List Int):List Int→List Int→List Int→Option (List Int)
 | [],[],g=>some g
 |c::cs,x::ws,g=>if(decide (f.getD c.toNat 0≥0)&&f.getD c.toNat 0 !=x)|| !hasN (M.getD c.toNat 0) x then none else wlayF M f cs ws (g.set c.toNat x)
 |_,_,_=>none
def loopD (rec:List Int→List (List Int)×Int→List (List Int)×Int) (M:List Nat) (C f:List Int):List (List Int)→List (List Int)×Int→List (List Int)×Int
 | [],q=>q
 |w::ws,q=>if q.2≤4000 then loopD rec M C f ws (match wlayF M f C w f with|some g=>rec g q|none=>q) else q
def downF (M:List Nat) (W:List (List Int)):List Slt→List Int→List (List Int)×Int→List (List Int)×Int
 | [],f,q=>(q.1++[f],q.2+1)
 |s::ss,f,q=>loopD (downF M W ss) M s.2.2 f W (q.1,q.2+1)
def diffF:List (List Int)→List (List Int)→List (List Int)
 |acc,[]=>acc
 |acc,w::ws=>diffF (if acc.any (fun v=>decide (v=w)) then acc else acc++[w]) ws
def smallF (p:Pr):List (List Int)×Int:=downF p.M (diffF [] p.W) (slotsF p.g) (List.replicate p.M.length (-1)) ([],0)
theorem diff_sub:∀(ws acc:List (List Int)),∀w∈diffF acc ws,w∈acc∨w∈ws
 | [],acc,w,h=>Or.inl h
 |v::ws,acc,w,h=>by
  simp only[diffF] at h
  rcases diff_sub ws _ w h with h|h
  ·split at h
   ·exact Or.inl h
   ·rcases List.mem_append.1 h with h|h
    ·exact Or.inl h
    ·exact Or.inr (by rw[List.mem_singleton.1 h];exact List.mem_cons_self)
  ·exact Or.inr (List.mem_cons_of_mem _ h)
theorem diff_len:∀(ws acc:List (List Int)),(diffF acc ws).length≤acc.length+ws.length
 | [],acc=>by simp[diffF]
 |v::ws,acc=>by
  simp only[diffF]
  refine Nat.le_trans (diff_len ws _) ?_
  split
  ·simp
  ·simp only[List.length_append,List.length_cons,List.length_nil];omega
theorem getD_setI (l:List Int) (c:Nat) (v:Int) (d:Nat) (e:Int):(l.set c v).getD d e=if c=d∧c<l.length then v else l.getD d e:=getD_set_gen e l c v d
theorem laid_some {M:List Nat} {f:List Int}:∀{cs w g h:List Int},wlayF M f cs w g=some h→(cs.map Int.toNat).Nodup→(∀c∈cs,c.toNat<g.length)→
  w.length=cs.length∧h.length=g.length∧(∀j,j∉cs.map Int.toNat→h.getD j (-1)=g.getD j (-1))∧(cs.map fun c=>h.getD c.toNat (-1))=w∧
  ∀c∈cs,hasN (M.getD c.toNat 0) (h.getD c.toNat (-1))=true∧(0≤f.getD c.toNat 0→h.getD c.toNat (-1)=f.getD c.toNat 0)
 | [],[],g,h,e,_,_=>by
  simp only[wlayF,Option.some.injEq] at e
  subst e
  exact⟨rfl,rfl,fun _ _=>rfl,rfl,fun c hc=>by simp at hc⟩
 | [],_::_,_,_,e,_,_=>by simp[wlayF] at e
 |_::_,[],_,_,e,_,_=>by simp[wlayF] at e
 |c::cs,x::ws,g,h,e,hn,hr=>by
  simp only[wlayF] at e
  split at e
  ·cases e
  ·rename_i hb
   simp only[Bool.or_eq_true,Bool.and_eq_true,decide_eq_true_eq,bne_iff_ne,ne_eq,Bool.not_eq_true',not_or,not_and,Decidable.not_not,Bool.not_eq_false] at hb
   rw[List.map_cons,List.nodup_cons] at hn
   obtain⟨h1,h2,h3,h4,h5⟩:=laid_some e hn.2 (fun z hz=>by rw[List.length_set];exact hr z (List.mem_cons_of_mem _ hz))
   have hc:h.getD c.toNat (-1)=x:=by rw[h3 _ hn.1,getD_setI,if_pos ⟨rfl,hr c List.mem_cons_self⟩]
   refine⟨by simp[h1],by rw[h2,List.length_set],fun j hj=> ?_,by rw[List.map_cons,hc,h4],fun z hz=> ?_⟩
   ·rw[List.map_cons,List.mem_cons,not_or] at hj
    rw[h3 _ hj.2,getD_setI,if_neg (fun e=>hj.1 e.1.symm)]
   ·rcases List.mem_cons.1 hz with hz|hz
    ·subst hz
     rw[hc]
     exact⟨hb.2,fun h0=>(hb.1 h0).symm⟩
    ·exact h5 z hz
theorem wlay_len {M:List Nat} {f:List Int}:∀{cs w g h:List Int},wlayF M f cs w g=some h→w.length=cs.length
 | [],[],_,_,_=>rfl
 | [],_::_,_,_,e=>by simp[wlayF] at e
 |_::_,[],_,_,e=>by simp[wlayF] at e
 |c::cs,x::ws,g,h,e=>by
  simp only[wlayF] at e
  split at e
  ·cases e
  ·rw[List.length_cons,List.length_cons,wlay_len e]
theorem wlay_len2 {M:List Nat} {f:List Int}:∀{cs w g h:List Int},wlayF M f cs w g=some h→h.length=g.length
 | [],[],_,_,e=>by
  simp only[wlayF,Option.some.injEq] at e
  rw[e]
 | [],_::_,_,_,e=>by simp[wlayF] at e
 |_::_,[],_,_,e=>by simp[wlayF] at e
 |c::cs,x::ws,g,h,e=>by
  simp only[wlayF] at e
  split at e
  ·cases e
  ·rw[wlay_len2 e,List.length_set]
structure Fil (p:Pr) (S:List Slt) (f:List Int):Prop where
 len:f.length=p.M.length
 low:∀c,0≤f.getD c (-1)→hasN (p.M.getD c 0) (f.getD c (-1))=true∧seatedB (slotsF p.g) c=true
 word:∀s∈S,(s.2.2.map fun c=>f.getD c.toNat (-1))∈p.W
 here:∀s∈S,∀c∈s.2.2,0≤f.getD c.toNat (-1)
theorem once_nodup {s:Slt} (h:OnceS s):(s.2.2.map Int.toNat).Nodup:=by
 rw[List.nodup_iff_pairwise_ne,List.pairwise_iff_getElem]
 intro i j hi hj hij e
 rw[List.length_map] at hi hj
 rw[List.getElem_map,List.getElem_map] at e
 have:=h i j _ _ (List.getElem?_eq_getElem hi) (List.getElem?_eq_getElem hj) e
 omega
theorem seated_of {S:List Slt} {s:Slt} {c:Int} (hs:s∈S) (hc:c∈s.2.2):seatedB S c.toNat=true:=by
 unfold seatedB
 rw[List.any_eq_true]
 exact⟨s,hs,by rw[List.any_eq_true];exact⟨c,hc,beq_self_eq_true _⟩⟩
theorem cells_in {p:Pr} (hc:checkP p=0) {s:Slt} (hs:s∈slotsF p.g):∀c∈s.2.2,0≤c∧c.toNat<p.M.length:=by
 intro c h
 have h1:=slots_in (checkP_zero hc).1 s hs c h
 have h2:=(checkP_zero hc).2.2.2
 omega
theorem getD_eqd {l:List Int} {j:Nat} (h:j<l.length) (d e:Int):l.getD j d=l.getD j e:=by
 rw[List.getD_eq_getElem?_getD,List.getD_eq_getElem?_getD,List.getElem?_eq_getElem h];rfl
theorem Fil.lay {p:Pr} (hc:checkP p=0) {P:List Slt} {s:Slt} {f g w:List Int} (F:Fil p P f) (hP:∀x∈P,x∈slotsF p.g) (hs:s∈slotsF p.g) (hw:w∈p.W) (e:wlayF p.M f s.2.2 w f=some g):Fil p (P++[s]) g:=by
 have hci:=cells_in hc hs
 obtain⟨h1,h2,h3,h4,h5⟩:=laid_some e (once_nodup (once_slot (checkP_zero hc).1 hs)) (fun c h=>by rw[F.len];exact(hci c h).2)
 have ext:∀j,0≤f.getD j (-1)→g.getD j (-1)=f.getD j (-1):=by
  intro j hj
  by_cases hm:j∈s.2.2.map Int.toNat
  ·obtain⟨c,hcs,rfl⟩:=List.mem_map.1 hm
   have hl:=(hci c hcs).2
   rw[←F.len] at hl
   rw[getD_eqd hl (-1) 0] at hj⊢
   exact(h5 c hcs).2 hj
  ·exact h3 j hm
 refine⟨by rw[h2,F.len],fun c h0=> ?_,fun x hx=> ?_,fun x hx c hcx=> ?_⟩
 ·by_cases hm:c∈s.2.2.map Int.toNat
  ·obtain⟨z,hz,rfl⟩:=List.mem_map.1 hm
   exact⟨(h5 z hz).1,seated_of hs hz⟩
  ·rw[h3 c hm] at h0⊢
   exact F.low c h0
 ·rcases List.mem_append.1 hx with hx|hx
  ·have e1:(x.2.2.map fun c=>g.getD c.toNat (-1))=x.2.2.map fun c=>f.getD c.toNat (-1):=List.map_congr_left fun c hcx=>ext _ (F.here x hx c hcx)
   rw[e1]
   exact F.word x hx
  ·rw[List.mem_singleton.1 hx,h4]
   exact hw
 ·rcases List.mem_append.1 hx with hx|hx
  ·rw[ext _ (F.here x hx c hcx)]
   exact F.here x hx c hcx
  ·rw[List.mem_singleton.1 hx] at hcx
   exact(has_lt (h5 c hcx).1).1
theorem loop_ind {rec:List Int→List (List Int)×Int→List (List Int)×Int} {M:List Nat} {C f:List Int} {I:List (List Int)×Int→Prop}:∀(W:List (List Int)),(∀w∈W,∀g q,wlayF M f C w f=some g→q.2≤4000→I q→I (rec g q))→∀q,I q→I (loopD rec M C f W q)
 | [],_,q,h=>h
 |w::ws,hr,q,h=>by
  simp only[loopD]
  split
  ·rename_i hq
   refine loop_ind ws (fun v hv=>hr v (List.mem_cons_of_mem _ hv)) _ ?_
   cases hl:wlayF M f C w f with
   |none=>exact h
   |some g=>exact hr w List.mem_cons_self g q hl hq h
  ·exact h
theorem down_fil {p:Pr} (hc:checkP p=0) {W':List (List Int)} (hW:∀w∈W',w∈p.W):∀(ss P:List Slt),P++ss=slotsF p.g→∀f q,Fil p P f→(∀x∈q.1,Fil p (slotsF p.g) x)→∀x∈(downF p.M W' ss f q).1,Fil p (slotsF p.g) x
 | [],P,hP,f,q,F,hq,x,hx=>by
  simp only[downF] at hx
  rcases List.mem_append.1 hx with hx|hx
  ·exact hq x hx
  ·rw[List.mem_singleton.1 hx,←hP,List.append_nil]
   exact F
 |s::ss,P,hP,f,q,F,hq,x,hx=>by
  simp only[downF] at hx
  refine loop_ind (I:=fun q=>∀x∈q.1,Fil p (slotsF p.g) x) W' (fun w hw g q' hl _ hI=> ?_) (q.1,q.2+1) hq x hx
  refine down_fil hc hW ss (P++[s]) (by rw[←hP,List.append_assoc];rfl) g q' (F.lay hc (fun y hy=>by rw[←hP];exact List.mem_append_left _ hy) (by rw[←hP];exact List.mem_append_right _ List.mem_cons_self) (hW w hw) hl) hI
theorem fil_start (p:Pr):Fil p [] (List.replicate p.M.length (-1)):=by
 refine⟨List.length_replicate,fun c h=> ?_,fun s hs=>by simp at hs,fun s hs=>by simp at hs⟩
 rw[List.getD_eq_getElem?_getD,List.getElem?_replicate] at h
 split at h<;>simp at h
theorem small_fil {p:Pr} (hc:checkP p=0):∀f∈(smallF p).1,Fil p (slotsF p.g) f:=
 down_fil hc (fun w hw=>by
  rcases diff_sub p.W [] w hw with h|h
  ·simp at h
  ·exact h) (slotsF p.g) [] rfl _ _ (fil_start p) (fun x hx=>by simp at hx)
theorem down_le (M:List Nat) (W:List (List Int)):∀(ss:List Slt) (f:List Int) (q:List (List Int)×Int),0≤q.2→q.2≤4000→(q.1.length:Int)≤q.2→q.2≤(downF M W ss f q).2∧(downF M W ss f q).2≤4001∧((downF M W ss f q).1.length:Int)≤(downF M W ss f q).2
 | [],f,q,h0,h1,h2=>by
  simp only[downF,List.length_append,List.length_cons,List.length_nil]
  omega
 |s::ss,f,q,h0,h1,h2=>by
  simp only[downF]
  have:=loop_ind (rec:=downF M W ss) (M:=M) (C:=s.2.2) (f:=f) (I:=fun r=>q.2≤r.2∧r.2≤4001∧(r.1.length:Int)≤r.2) W (fun w _ g r _ hr hI=>by
   have:=down_le M W ss g r (by omega) hr hI.2.2
   exact⟨by omega,this.2.1,this.2.2⟩) (q.1,q.2+1) (by simp only;omega)
  exact this
theorem fil_picked {p:Pr} {f:List Int} (F:Fil p (slotsF p.g) f) {q:List Nat} (hq:q.length=p.M.length) (hl:Leq (letM f) q):Picked ⟨p.g,p.W,q⟩ ((slotsF p.g).map fun s=>((p.W.idxOf (s.2.2.map fun c=>f.getD c.toNat (-1)):Nat):Int)) (slotsF p.g).length f:=by
 have key:∀s,s< (slotsF p.g).length→sAtN (slotsF p.g) s∈slotsF p.g∧(((slotsF p.g).map fun s=>((p.W.idxOf (s.2.2.map fun c=>f.getD c.toNat (-1)):Nat):Int)).getD s 0)=((p.W.idxOf ((sAtN (slotsF p.g) s).2.2.map fun c=>f.getD c.toNat (-1)):Nat):Int):=by
  intro s hs
  refine⟨getD_in hs,?_⟩
  rw[List.getD_eq_getElem?_getD,List.getElem?_map,List.getElem?_eq_getElem hs]
  simp only[Option.map_some,Option.getD_some,sAtN,List.getD_eq_getElem?_getD,List.getElem?_eq_getElem hs]
 have wd:∀w∈p.W,wordAt p.W ((p.W.idxOf w:Nat):Int)=w:=by
  intro w hw
  have:=List.idxOf_lt_length_of_mem hw
  unfold wordAt
  rw[Int.toNat_natCast,List.getD_eq_getElem?_getD,List.getElem?_eq_getElem this,Option.getD_some,List.getElem_idxOf]
 refine⟨by rw[F.len,hq],fun c h0=> ?_,fun s hs=> ?_,fun s hs j x hx=> ?_⟩
 ·have h1:=F.low c h0
  have h2:=has_lt h1.1
  exact⟨has_bit.2 ⟨h2.1,h2.2,hl c _ (letM_has rfl h2.1 h2.2)⟩,h1.2⟩
 ·obtain⟨k1,k2⟩:=key s hs
  have hm:=F.word _ k1
  rw[k2]
  refine⟨by omega,?_,?_⟩
  ·have:=List.idxOf_lt_length_of_mem hm
   simp only
   omega
  ·simp only
   rw[wd _ hm,List.length_map]
 ·obtain⟨k1,k2⟩:=key s hs
  have hm:=F.word _ k1
  rw[k2]
  simp only
  rw[wd _ hm,List.getD_eq_getElem?_getD (l:=List.map _ _),List.getElem?_map,hx]
  exact⟨rfl,F.here _ k1 x (List.mem_of_getElem? hx)⟩
theorem bit_of_one {y:Int} {i:Nat} (h:(bitN y).testBit i=true):y=(i:Int):=by
 unfold bitN at h
 split at h
 ·simp at h
 ·rename_i hy
  rw[Nat.testBit_two_pow] at h
  have:=of_decide_eq_true h
  omega
theorem sub_bit {v:Nat} {y:Int} (h:hasN v y=true) {i:Nat} (hi:v.testBit i=true) (ne:y≠(i:Int)):(v-bitN y).testBit i=true:=by
 have hy:=has_lt h
 unfold hasN at h
 simp only[Bool.and_eq_true,decide_eq_true_eq] at h
 have hb:bitN y=2^y.toNat:=by unfold bitN;rw[if_neg (by omega)]
 have h1:(v^^^2^y.toNat).testBit y.toNat=false:=by
  rw[Nat.testBit_xor,h.2.2,Nat.testBit_two_pow_self];rfl
 have h2:(v^^^2^y.toNat)+2^y.toNat=v:=by
  rw[add_or h1]
  apply Nat.eq_of_testBit_eq
  intro k
  rw[Nat.testBit_or,Nat.testBit_xor,Nat.testBit_two_pow]
  by_cases e:y.toNat=k
  ·subst e;rw[h.2.2];simp
  ·rw[decide_eq_false e];simp
 rw[hb,show v-2^y.toNat=v^^^2^y.toNat by omega,Nat.testBit_xor,hi,Nat.testBit_two_pow,decide_eq_false (by omega)]
 rfl
def Sat (f:List Int) (l:List (Int×Int)):Prop:=∀x∈l,f.getD x.1.toNat (-1)=x.2
structure Clo (p:Pr) (B:List (List (Int×Int))) (R:List Nat):Prop where
 len:R.length=p.M.length
 st:Stable p.W (slotsF p.g) R
 lo:Leq R (m0F p)
 ok:okF (slotsF p.g) R (wordsF p.W (slotsF p.g) R)=true
 no:∀l∈B,(unitF R l).1=0
def Seated (S:List Slt) (B:List (List (Int×Int))):Prop:=∀l∈B,∀x∈l,seatedB S x.1.toNat=true
theorem ok_cell {S:List Slt} {m:List Nat} {ws:List (List Int)} (h:okF S m ws=true) {c:Nat} (hs:seatedB S c=true):m.getD c 0≠0:=by
 unfold okF at h
 rw[Bool.and_eq_true,List.all_eq_true,List.all_eq_true] at h
 unfold seatedB at hs
 rw[List.any_eq_true] at hs
 obtain⟨s,hs1,hs2⟩:=hs
 rw[List.any_eq_true] at hs2
 obtain⟨z,hz1,hz2⟩:=hs2
 have h1:=List.all_eq_true.1 (h.2 s hs1) z hz1
 rw[beq_iff_eq] at hz2
 rw[hz2] at h1
 simpa using h1
theorem m0_most {g:Gr} {W:List (List Int)} {M q R:List Nat} (hq:q.length=M.length) (h:Leq R (m0F ⟨g,W,M⟩)) (h2:Leq R q):Leq R (m0F ⟨g,W,q⟩):=by
 intro c i hi
 have h1:=h c i hi
 have hc:c<M.length:=by have:=bit_lt h1;rwa [m0_len] at this
 unfold bitAt at h1⊢
 rw[m0_get (p:=⟨g,W,M⟩) hc] at h1
 rw[m0_get (p:=⟨g,W,q⟩) (by simpa only[hq] using hc)]
 simp only at h1⊢
 split at h1
 ·rename_i hs
  rw[if_pos hs]
  exact h2 c i hi
 ·simp at h1
theorem clo_nar {p:Pr} (hc:checkP p=0) {B:List (List (Int×Int))} {R:List Nat} (h:Clo p B R) {q:List Nat} (hq:q.length=p.M.length) (hl:Leq R q):Leq R (narM ⟨p.g,p.W,q⟩)∧narO ⟨p.g,p.W,q⟩=true:=by
 have hR:checkP ⟨p.g,p.W,R⟩=0:=by rw[again_check h.len];exact hc
 have hQ:checkP ⟨p.g,p.W,q⟩=0:=by rw[again_check hq];exact hc
 have k:∀{r:List Nat},r.length=p.M.length→checkP ⟨p.g,p.W,r⟩=0→Leq R r→Leq R (narM ⟨p.g,p.W,r⟩):=fun hr hk hl=>by
  rw[narM_eq hk]
  exact gfp_most _ _ _ h.st (m0_most hr h.lo hl)
 refine⟨k hq hQ hl,narO_mono hQ (M':=R) (by rw[hq];exact h.len) hl ?_⟩
 have e:narM ⟨p.g,p.W,R⟩=R:=leq_antisymm (by rw[narM_len _ hR]) (nar_given hR) (k h.len hR (Leq.refl R))
 rw[narO_eq hR,narW_eq hR,e]
 exact h.ok
theorem bit_at {m:List Nat} {x:Int×Int} (h:hereB m x=true):bitAt m x.1.toNat x.2.toNat:=(has_bit.1 h).2.2
theorem stand_down {R m:List Nat} (hl:Leq R m) {x:Int×Int} (h0:R.getD x.1.toNat 0≠0) (hh:hereB m x=true) (ho:openB m x=false):hereB R x=true∧openB R x=false:=by
 unfold openB at ho⊢
 rw[bne_eq_false_iff_eq] at ho⊢
 have hx:=has_lt hh
 have e:R.getD x.1.toNat 0=bitN x.2:=by
  have hb:bitN x.2=2^x.2.toNat:=by unfold bitN;rw[if_neg (by omega)]
  have one:∀i,(R.getD x.1.toNat 0).testBit i=true→x.2=(i:Int):=fun i hi=>by
   have:=hl _ i hi
   unfold bitAt at this
   rw[ho] at this
   exact bit_of_one this
  obtain⟨t,ht⟩:=min_bit _ h0
  have e1:=one t ht.1
  apply Nat.eq_of_testBit_eq
  intro i
  rw[hb,Nat.testBit_two_pow]
  by_cases e2:x.2.toNat=i
  ·subst e2
   rw[decide_eq_true rfl,show x.2.toNat=t by omega]
   exact ht.1
  ·rw[decide_eq_false e2]
   cases hi:(R.getD x.1.toNat 0).testBit i with
   |false=>rfl
   |true=>
    have:=one i hi
    omega
 refine⟨has_bit.2 ⟨hx.1,hx.2,?_⟩,e⟩
 unfold bitAt
 rw[e]
 unfold bitN
 rw[if_neg (by omega),Nat.testBit_two_pow_self]
theorem unit_down {R m:List Nat} (hl:Leq R m) {l:List (Int×Int)} (h0:∀x∈l,R.getD x.1.toNat 0≠0) (hn:(unitF R l).1=0):(unitF m l).1≠2∧((unitF m l).1=1→hereB R (unitF m l).2=false):=by
 have all0:∀y:Int×Int,(∀x∈l,hereB R x=true∧(openB R x=true→x=y))→False:=fun y h=>by
  unfold unitF at hn
  rw[if_pos (List.all_eq_true.2 fun x hx=>(h x hx).1),oneF_all] at hn
  split at hn
  ·cases hn
  ·rename_i hf
   have hm:∀x∈l.filter (openB R),x=y:=fun x hx=>(h x (List.mem_filter.1 hx).1).2 (List.mem_filter.1 hx).2
   rw[if_pos] at hn
   ·cases hn
   ·refine List.all_eq_true.2 fun x hx=> ?_
    rw[beq_iff_eq,hm x hx,hm _ (getD_in (List.length_pos_iff.2 hf))]
 unfold unitF
 split
 ·rename_i ha
  have here:∀x∈l,hereB m x=true:=List.all_eq_true.1 ha
  cases hf:l.filter (openB m) with
  |nil=>
   refine absurd (fun x hx=> ?_) (all0 (0,0))
   have ho:openB m x=false:=by
    cases e:openB m x with
    |false=>rfl
    |true=>
     have:x∈l.filter (openB m):=List.mem_filter.2 ⟨hx,e⟩
     rw[hf] at this
     simp at this
   obtain⟨a,b⟩:=stand_down hl (h0 x hx) (here x hx) ho
   exact⟨a,fun e=>by rw[b] at e;cases e⟩
  |cons a rest=>
   simp only[oneF]
   split
   ·rename_i h1
    refine⟨by simp,fun _=> ?_⟩
    cases hr:hereB R a with
    |false=>rfl
    |true=>
     refine absurd (fun x hx=> ?_) (all0 a)
     cases ho:openB m x with
     |false=>
      obtain⟨c,d⟩:=stand_down hl (h0 x hx) (here x hx) ho
      exact⟨c,fun e=>by rw[d] at e;cases e⟩
     |true=>
      have hm:x∈l.filter (openB m):=List.mem_filter.2 ⟨hx,ho⟩
      have e:x=a:=by
       rw[hf] at hm
       rcases List.mem_cons.1 hm with e|hm
       ·exact e
       ·have:=List.all_eq_true.1 h1 x hm
        exact beq_iff_eq.1 this
      rw[e]
      exact⟨hr,fun _=>rfl⟩
   ·exact⟨by simp,fun h=>by simp at h⟩
 ·exact⟨by simp,fun h=>by simp at h⟩
theorem letgo_leq {R m:List Nat} {x:Int×Int} (hl:Leq R m) (hh:hereB m x=true) (hn:hereB R x=false):Leq R (letgo m x):=by
 intro c i hi
 have h1:=hl c i hi
 unfold bitAt letgo
 rw[getD_set_nat]
 split
 ·rename_i e
  rw[e.1]
  refine sub_bit (by rw[←e.1];exact hh) h1 fun e2=> ?_
  have:=has_lt hh
  rw[show hereB R x=true from has_bit.2 ⟨this.1,this.2,by rw[e.1,e2,Int.toNat_natCast];exact hi⟩] at hn
  cases hn
 ·exact h1
theorem pass_clo {R:List Nat}:∀(B:List (List (Int×Int))) (m:List Nat) (st:Int),(∀l∈B,(∀x∈l,R.getD x.1.toNat 0≠0)∧(unitF R l).1=0)→Leq R m→st≠2→(passF B m st).2≠2∧Leq R (passF B m st).1
 | [],m,st,_,hl,h=>⟨h,hl⟩
 |l::ls,m,st,hB,hl,h=>by
  obtain⟨u1,u2⟩:=unit_down hl (hB l List.mem_cons_self).1 (hB l List.mem_cons_self).2
  rw[pass_cons,if_neg u1]
  split
  ·rename_i e
   exact pass_clo ls _ 1 (fun x hx=>hB x (List.mem_cons_of_mem _ hx)) (letgo_leq hl (unit_one e).2 (u2 e)) (by decide)
  ·exact pass_clo ls m st (fun x hx=>hB x (List.mem_cons_of_mem _ hx)) hl h
theorem pass_len:∀(B:List (List (Int×Int))) (m:List Nat) (st:Int),(passF B m st).1.length=m.length
 | [],m,st=>rfl
 |l::ls,m,st=>by
  rw[pass_cons]
  split
  ·rfl
  ·split
   ·rw[pass_len ls,letgo_len]
   ·exact pass_len ls m st
theorem clo_spread {p:Pr} (hc:checkP p=0) {B:List (List (Int×Int))} {R:List Nat} (h:Clo p B R) (hs:Seated (slotsF p.g) B):∀(n:Nat) (q:List Nat),q.length=p.M.length→Leq R q→(spreadF p.g p.W B n q).2=true∧Leq R (spreadF p.g p.W B n q).1
 |0,q,_,hl=>⟨rfl,hl⟩
 |n+1,q,hq,hl=>by
  have hc':checkP ⟨p.g,p.W,q⟩=0:=by rw[again_check hq];exact hc
  obtain⟨hn,ho⟩:=clo_nar hc h hq hl
  obtain⟨b1,b2⟩:=pass_clo B (narM ⟨p.g,p.W,q⟩) 0 (fun l hl=>⟨fun x hx=>ok_cell h.ok (hs l hl x hx),h.no l hl⟩) hn (by decide)
  simp only[spreadF]
  rw[if_pos ho,if_neg b1]
  split
  ·exact clo_spread hc h hs n _ (by rw[pass_len,narM_len _ hc'];exact hq) b2
  ·exact⟨rfl,b2⟩
theorem given_bar {f:List Int}:∀(G:List (Int×Int)) (m:List Nat),(∀x∈G,0≤x.2∧x.2<64)→Sat f G→Leq (letM f) m→Leq (letM f) (givenF G m)
 | [],m,_,_,h=>h
 |x::G,m,hr,hs,h=>by
  simp only[givenF]
  refine given_bar G _ (fun y hy=>hr y (List.mem_cons_of_mem _ hy)) (fun y hy=>hs y (List.mem_cons_of_mem _ hy)) fun c i hi=> ?_
  have h1:=h c i hi
  unfold bitAt
  rw[getD_set_nat]
  split
  ·rename_i e
   have hx:=hs x List.mem_cons_self
   rw[e.1,(letM_bit hi).1] at hx
   have h2:=hr x List.mem_cons_self
   rw[Nat.testBit_and,e.1,show(m.getD c 0).testBit i=true from h1,ofN_one,Bool.true_and]
   unfold bitN
   rw[if_neg (by omega),Nat.testBit_two_pow,decide_eq_true (by omega)]
  ·exact h1
theorem fil_given {p:Pr} {f:List Int} (F:Fil p (slotsF p.g) f):Leq (letM f) p.M:=by
 intro c i hi
 have hb:=letM_bit hi
 have h1:=F.low c (by rw[hb.1];omega)
 have h3:=(has_bit.1 h1.1).2.2
 rw[hb.1,Int.toNat_natCast] at h3
 exact h3
theorem fil_clo {p:Pr} (hc:checkP p=0) {f:List Int} (F:Fil p (slotsF p.g) f) {B:List (List (Int×Int))} (hB:∀l∈B,¬Sat f l):Clo p B (letM f):=by
 have hlen:(letM f).length=p.M.length:=by unfold letM;rw[List.length_map];exact F.len
 have hp:=fil_picked F (q:=letM f) hlen (Leq.refl _)
 have hR:checkP ⟨p.g,p.W,letM f⟩=0:=by rw[again_check hlen];exact hc
 have e:narM ⟨p.g,p.W,letM f⟩=letM f:=leq_antisymm (by rw[narM_len _ hR]) (nar_given hR) (hp.leq hR rfl)
 refine⟨hlen,hp.stable rfl,(fil_picked F rfl (fil_given F)).below,?_,fun l hl=> ?_⟩
 ·have:=hp.ok hR rfl
  rw[narO_eq hR,narW_eq hR,e] at this
  exact this
 ·unfold unitF
  split
  ·rename_i ha
   refine absurd (fun x hx=> ?_) (hB l hl)
   have h1:=List.all_eq_true.1 ha x hx
   have h2:=has_lt h1
   have:=(letM_bit (bit_at h1)).1
   omega
  ·rfl
def takenOf (B:List (List (Int×Int))) (r:Int×Int):Int:=if r.2=150∨r.2=151 then r.1 else B.length
theorem checkN_taken (p:Pr) (A E:List (Int×Int)) (B:List (List (Int×Int))):∀(z:Nat) (i:Int),0≤i→i+z=B.length→(0≤takenOf B (checkN p A E B z i)∧takenOf B (checkN p A E B z i)≤B.length)∧
  ∀j:Nat,i≤j→(j:Int)<takenOf B (checkN p A E B z i)→(B.getD j []).any (oddP A E)=false∧(spreadG p (B.getD j []) (B.take j)).2=false
 |0,i,i0,hi=>by
  simp only[checkN]
  have hj:∀j:Nat,i≤j→(j:Int)<B.length→(B.getD j []).any (oddP A E)=false∧(spreadG p (B.getD j []) (B.take j)).2=false:=fun j h1 h2=>by omega
  split
  ·rename_i hb
   subst hb
   exact⟨by simp[takenOf],fun j h1 h2=>by simp[takenOf] at h2;omega⟩
  ·split
   ·exact⟨by simp[takenOf],fun j h1 h2=>hj j h1 (by simpa [takenOf] using h2)⟩
   ·exact⟨by simp[takenOf],fun j h1 h2=>hj j h1 (by simpa [takenOf] using h2)⟩
 |z+1,i,i0,hi=>by
  simp only[checkN]
  split
  ·exact⟨by simp[takenOf];omega,fun j h1 h2=>by simp[takenOf] at h2;omega⟩
  ·rename_i ha
   split
   ·exact⟨by simp[takenOf];omega,fun j h1 h2=>by simp[takenOf] at h2;omega⟩
   ·rename_i hs
    obtain⟨ih1,ih2⟩:=checkN_taken p A E B z (i+1) (by omega) (by omega)
    refine⟨ih1,fun j h1 h2=> ?_⟩
    by_cases e:i=j
    ·subst e
     rw[Int.toNat_natCast] at ha hs
     exact⟨by simpa using ha,by simpa using hs⟩
    ·exact ih2 j (by omega) h2
theorem seats_pair {p:Pr} (hc:checkP p=0) {l:List (Int×Int)} (hl:l.any (oddP (seatsF p.g).1 (seatsF p.g).2)=false):∀x∈l,(0≤x.2∧x.2<64)∧0≤x.1∧seatedB (slotsF p.g) x.1.toNat=true:=by
 intro x hx
 have h1:=List.any_eq_false.1 hl x hx
 have h2:pairOk (seatsF p.g).1 (seatsF p.g).2 x=true:=by unfold oddP at h1;simpa using h1
 unfold pairOk at h2
 simp only[Bool.and_eq_true,Bool.or_eq_true,decide_eq_true_eq] at h2
 obtain⟨⟨a1,a2,a3,a4⟩,a5⟩:=h2
 obtain⟨s1,s2,s3,s4⟩:=seats_are (checkP_zero hc).1 a1
 have seat:∃d s k,Sits (slotsF p.g) d x.1 s k:=by
  by_cases hex:∃s k,Sits (slotsF p.g) false x.1 s k
  ·obtain⟨s,k,h⟩:=hex;exact⟨_,s,k,h⟩
  ·by_cases hex2:∃s k,Sits (slotsF p.g) true x.1 s k
   ·obtain⟨s,k,h⟩:=hex2;exact⟨_,s,k,h⟩
   ·have e1:=s1.2 (fun s k h=>hex ⟨s,k,h⟩)
    have e2:=s2.2 (fun s k h=>hex2 ⟨s,k,h⟩)
    unfold sAt at e1 e2
    have b:∀A:List (Int×Int),x.1.toNat<A.length→A.getD x.1.toNat (0,0)=A.getD x.1.toNat (-1,0):=fun A h=>by
     rw[List.getD_eq_getElem?_getD,List.getD_eq_getElem?_getD,List.getElem?_eq_getElem h];rfl
    rw[b _ (by omega),b _ (by omega),e1,e2] at a5
    simp at a5
 obtain⟨d,s,k,y,y1,y2,y3,y4⟩:=seat
 exact⟨⟨a3,by omega⟩,a1,seated_of (List.mem_of_getElem? y1) (by rw[←y4];exact getD_in y3)⟩
theorem take_get {α:Type} {B:List α} {j k:Nat} {d:α} (h:k< (B.take j).length):(B.take j)[k]=B.getD k d∧k<j∧k<B.length:=by
 rw[List.length_take] at h
 refine⟨?_,by omega,by omega⟩
 rw[List.getElem_take,List.getD_eq_getElem?_getD,List.getElem?_eq_getElem (by omega)];rfl
theorem taken_bar {p:Pr} (hc:checkP p=0) {B:List (List (Int×Int))} (hb:B.length≤65000):(0≤takenOf B (checkR p B)∧takenOf B (checkR p B)≤B.length)∧
  ∀j:Nat,(j:Int)<takenOf B (checkR p B)→(B.getD j []).any (oddP (seatsF p.g).1 (seatsF p.g).2)=false∧∀f,Fil p (slotsF p.g) f→¬Sat f (B.getD j []):=by
 have er:checkR p B=checkN p (seatsF p.g).1 (seatsF p.g).2 B B.length 0:=by unfold checkR;rw[if_pos hc,if_neg (by omega)]
 rw[er]
 obtain⟨t1,t2⟩:=checkN_taken p (seatsF p.g).1 (seatsF p.g).2 B B.length 0 (by omega) (by omega)
 refine⟨t1,fun j=> ?_⟩
 induction j using Nat.strongRecOn with
 |ind j ih=>
  intro hj
  obtain⟨c1,c2⟩:=t2 j (by omega) hj
  refine⟨c1,fun f F hs=> ?_⟩
  have hk:∀l∈B.take j,l.any (oddP (seatsF p.g).1 (seatsF p.g).2)=false∧¬Sat f l:=fun l hl=>by
   obtain⟨k,hk,rfl⟩:=List.mem_iff_getElem.1 hl
   obtain⟨e,e1,e2⟩:=take_get (d:=[]) hk
   rw[e]
   obtain⟨i1,i2⟩:=ih k e1 (by omega)
   exact⟨i1,i2 f F⟩
  have h:=clo_spread hc (fil_clo hc F (B:=B.take j) (fun l hl=>(hk l hl).2)) (fun l hl x hx=>(seats_pair hc (hk l hl).1 x hx).2.2) ((givenF (B.getD j []) p.M).sum+1) (givenF (B.getD j []) p.M) (given_len _ _)
   (given_bar _ _ (fun x hx=>(seats_pair hc c1 x hx).1) hs (fil_given F))
  unfold spreadG at c2
  rw[h.1] at c2
  cases c2
end Go.Proofs.YtnakmganodkliaaDoorAm
set_option maxRecDepth 100000
namespace Go.Proofs.YtnakmganodkliaaDoorAm
open Go
theorem d90R (A E:List (Int×Int)) (c y:Int) (hl:E.length=A.length):Con Tryd.prog 90 [] [.agg [.v (.int .i64 c),.v (.int .i64 y)],.rptr [slQ A],.rptr [slQ E]] (.v (.bool (oddP A E (c,y)))) [] []:=by
 refine con_vc (how:=[none]) (c:=r90) (K:=(KK r90)) spS (fun _=> []) (fun _=> []) 400 (.fork (.t (.t (.t .stop))) (.fork (.t (.t .stop)) (.fork (.t .stop) (.fork .stop (.fork .stop .stop))))) (V:=fun G R=>let yy0:=((Ty.int .i64).prod (Ty.int .i64));(decide (c< (0:Int))=true→true=true∧true=true∧true=true∧R (D.v (Value.bool true),[],[]))∧(decide (c< (0:Int))=false→(decide (c≥(↑A.length:Int))=true→true=true∧true=true∧R (D.v (Value.bool true),[],[]))∧(decide (c≥(↑A.length:Int))=false→(decide (y< (0:Int))=true→true=true∧R (D.v (Value.bool true),[],[]))∧(decide (y< (0:Int))=false→(decide (y>(63:Int))=true→R (D.v (Value.bool true),[],[]))∧(decide (y>(63:Int))=false→(0:Int)≤c∧c< (↑A.length:Int)∧(decide ((A.getD c.toNat yy0.dflt).fst< (0:Int))=true→(0:Int)≤c∧c< (↑E.length:Int)∧R (D.v (Value.bool (decide ((E.getD c.toNat yy0.dflt).fst< (0:Int)))),[],[]))∧(decide ((A.getD c.toNat yy0.dflt).fst< (0:Int))=false→R (D.v (Value.bool false),[],[]))))))) hmG Tryd.func90 (by kernel_rfl) (by kernel_rfl) (fun G R=>by kernel_rfl) ?_
 try dsimp only
 try dsimp only
 obtain⟨p,hp⟩:∃p,A.getD c.toNat (0,0)=p:=⟨_,rfl⟩
 obtain⟨e,he⟩:∃e,E.getD c.toNat (0,0)=e:=⟨_,rfl⟩
 simp only[Ty.dflt,hp,he]
 by_cases h:0≤c∧c<A.length∧0≤y∧y≤63
 ·have hd:decide (0≤c∧c< (A.length:Int)∧0≤y∧y≤63)=true:=decide_eq_true h
  obtain⟨b,hb⟩:∃b,oddP A E (c,y)=b:=⟨_,rfl⟩
  have hv:b= !(decide (0≤p.1)||decide (0≤e.1)):=by
   rw[←hb]
   simp only[oddP,pairOk,hp,he,hd,Bool.true_and]
  rw[hb]
  by_cases hp0:0≤p.1
  ·have e1:decide (p.1≥0)=true:=decide_eq_true hp0
   have e2:decide (p.1<0)=false:=decide_eq_false (by omega)
   have e3:decide (0≤p.1)=true:=decide_eq_true hp0
   rw[e3,Bool.true_or] at hv
   subst hv
   simp only[e1,e2]
   simp (disch:=omega) only[oo,oop,ne_eq,Ty.dflt,reduceCtorEq]
   repeat' (first|with_reducible refine And.intro ?_ ?_|intro _)
   all_goals first|rfl|omega|assumption|trivial|(exfalso;simp_all;done)|(exfalso;omega)|skip
  ·have e1:decide (p.1≥0)=false:=decide_eq_false hp0
   have e2:decide (p.1<0)=true:=decide_eq_true (by omega)
   have e3:decide (0≤p.1)=false:=decide_eq_false hp0
   rw[e3,Bool.false_or] at hv
   have e4:decide (e.1<0)= !decide (0≤e.1):=by
    by_cases q:0≤e.1
    ·rw[decide_eq_true q,decide_eq_false (by omega)]
     rfl
    ·rw[decide_eq_false q,decide_eq_true (by omega)]
     rfl
   subst hv
   simp only[e1,e2,e4,ge_iff_le]
   simp (disch:=omega) only[oo,oop,ne_eq,Ty.dflt,reduceCtorEq]
   repeat' (first|with_reducible refine And.intro ?_ ?_|intro _)
   all_goals first|rfl|omega|assumption|trivial|(exfalso;simp_all;done)|(exfalso;omega)|skip
 ·have hd:decide (0≤c∧c< (A.length:Int)∧0≤y∧y≤63)=false:=decide_eq_false h
  have hv:oddP A E (c,y)=true:=by
   simp only[oddP,pairOk,hd,Bool.false_and,Bool.not_false]
  rw[hv]
  by_cases h1:c<0
  ·have q:decide (c<0)=true:=decide_eq_true h1
   simp only[q]
   simp (disch:=omega) only[oo,oop,ne_eq,Ty.dflt,reduceCtorEq]
   repeat' (first|with_reducible refine And.intro ?_ ?_|intro _)
   all_goals first|rfl|omega|assumption|trivial|(exfalso;simp_all;done)|(exfalso;omega)|skip
  ·by_cases h2:c≥A.length
   ·have q:decide (c≥(A.length:Int))=true:=decide_eq_true h2
    simp only[q]
    simp (disch:=omega) only[oo,oop,ne_eq,Ty.dflt,reduceCtorEq]
    repeat' (first|with_reducible refine And.intro ?_ ?_|intro _)
    all_goals first|rfl|omega|assumption|trivial|(exfalso;simp_all;done)|(exfalso;omega)|skip
   ·by_cases h3:y<0
    ·have q:decide (y<0)=true:=decide_eq_true h3
     simp only[q]
     simp (disch:=omega) only[oo,oop,ne_eq,Ty.dflt,reduceCtorEq]
     repeat' (first|with_reducible refine And.intro ?_ ?_|intro _)
     all_goals first|rfl|omega|assumption|trivial|(exfalso;simp_all;done)|(exfalso;omega)|skip
    ·have q:decide (y>63)=true:=decide_eq_true (by omega)
     simp only[q]
     simp (disch:=omega) only[oo,oop,ne_eq,Ty.dflt,reduceCtorEq]
     repeat' (first|with_reducible refine And.intro ?_ ?_|intro _)
     all_goals first|rfl|omega|assumption|trivial|(exfalso;simp_all;done)|(exfalso;omega)|skip
def vq32 (A:List (Int×Int)) (E:List (Int×Int)) (L:List (Int×Int)) (k:Int) (G:Nat→St→Prop) (R:D×List (Option Row)×List Row→Prop):Prop:=let yy0:=((Ty.int .i64).prod (Ty.int .i64));let yy1:=(L.getD k.toNat yy0.dflt);(decide (k< (↑L.length:Int))=true→(0:Int)≤k∧k< (↑L.length:Int)∧Con Tryd.prog 90 [] [D.agg [D.v (Value.int .i64 yy1.fst),D.v (Value.int .i64 yy1.snd)],D.rptr [D.sl false false yy0 A],D.rptr [D.sl false false yy0 E]] (D.v (Value.bool (oddP A E (yy1.fst,yy1.snd)))) [] []∧Value.int .i64 yy1.fst=Value.int .i64 yy1.fst∧Value.int .i64 yy1.snd=Value.int .i64 yy1.snd∧A=A∧E=E∧(oddP A E (yy1.fst,yy1.snd)=true→R (D.v (Value.int .i64 k),[],[]))∧(oddP A E (yy1.fst,yy1.snd)=false→SameK (KK r121 0) (KK r121 0)∧G 0 (stOf 19 [0,1,6,7,8] [D.sl false false yy0 L,D.fn 90 [D.rptr [D.sl false false yy0 A],D.rptr [D.sl false false yy0 E]],D.sl false false yy0 L,D.v (Value.int .i64 (↑L.length:Int)),D.v (Value.int .i64 (IntKind.i64.wrap (k+(1:Int))))] [])))∧(decide (k< (↑L.length:Int))=false→R (D.v (Value.int .i64 (-1:Int)),[],[]))
theorem e121 (A E:List (Int×Int)) (L:List (Int×Int)) (hl:E.length=A.length) (hL:L.length≤8796093022208) (z:Nat):∀(k:Int),0≤k→k+z=L.length→∀r,r=findP (oddP A E) k (L.drop k.toNat)→GetsK Tryd.prog Tryd.f121.results.toList [none] (KK r121) 0 (.v (.int .i64 r),[],[]) 0 (stOf 19 [0,1,6,7,8] [slQ L,oddD A E,slQ L,.v (.int .i64 L.length),.v (.int .i64 k)] []):=by
 induction z with
 |zero=>
  intro k k0 hk r hr
  rw[List.drop_eq_nil_of_le (by omega)] at hr
  have hr:r= -1:=hr
  subst hr
  refine gets_vc spS (fun _=> [0,1,6,7,8]) (fun _=> []) 400 (.fork (.fork .stop (.hd 0)) .stop) (V:=vq32 A E L k) hmG (fun G R=>by kernel_rfl) ?_
  unfold vq32
  try dsimp only
  simp (disch:=omega) only[oo,oop,ne_eq,Ty.dflt,reduceCtorEq]
  repeat' (first|with_reducible refine And.intro ?_ ?_|intro _)
  all_goals first|rfl|omega|assumption|trivial|(exfalso;simp_all;done)|(exfalso;omega)|skip
 |succ z ih=>
  intro k k0 hk r hr
  have hk1:IntKind.i64.wrap (k+1)=k+1:=wrG (by omega) (by omega)
  rw[drop_at (xs:=L) (i:=k) (0,0) k0 (by omega)] at hr
  have h1:=ih (k+1) (by omega) (by omega) _ rfl
  obtain⟨a,ha⟩:∃a,L.getD k.toNat (0,0)=a:=⟨_,rfl⟩
  rw[ha] at hr
  have c1:=d90R A E a.1 a.2 hl
  have ea:((a.1,a.2):Int×Int)=a:=rfl
  rw[ea] at c1
  refine gets_vc spS (fun _=> [0,1,6,7,8]) (fun _=> []) 400 (.fork (.fork .stop (.hd 0)) .stop) (V:=vq32 A E L k) hmG (fun G R=>by kernel_rfl) ?_
  unfold vq32
  try dsimp only
  simp only[Ty.dflt,hk1,ha]
  rw[ea]
  by_cases hf:oddP A E a=true
  ·have hr:r=k:=by rw[hr];simp only[findP,hf,if_true]
   subst hr
   rw[hf] at c1
   simp only[hf]
   simp (disch:=omega) only[oo,oop,ne_eq,Ty.dflt,reduceCtorEq]
   repeat' (first|with_reducible refine And.intro ?_ ?_|intro _)
   all_goals first|rfl|omega|assumption|trivial|(exfalso;simp_all;done)|(exfalso;omega)|skip
  ·have hf':oddP A E a=false:=by simpa using hf
   have hr:r=findP (oddP A E) (k+1) (L.drop (k+1).toNat):=by rw[hr];simp only[findP,hf',Bool.false_eq_true,if_false]
   rw[←hr] at h1
   rw[hf'] at c1
   simp only[hf']
   simp (disch:=omega) only[oo,oop,ne_eq,Ty.dflt,reduceCtorEq]
   repeat' (first|with_reducible refine And.intro ?_ ?_|intro _)
   all_goals first|rfl|omega|assumption|trivial|(exfalso;simp_all;done)|(exfalso;omega)|skip
theorem d121R (A E:List (Int×Int)) (L:List (Int×Int)) (hl:E.length=A.length) (hL:L.length≤8796093022208):Con Tryd.prog 121 [] [slQ L,oddD A E] (.v (.int .i64 (findP (oddP A E) 0 L))) [] []:=by
 refine con_vc (how:=[none]) (c:=r121) (K:=(KK r121)) spS (fun _=> [0,1,6,7,8]) (fun _=> []) 400 (.hd 0) (V:=fun G R=>let yy0:=((Ty.int .i64).prod (Ty.int .i64));SameK (KK r121 0) (KK r121 0)∧G 0 (stOf 19 [0,1,6,7,8] [D.sl false false yy0 L,D.fn 90 [D.rptr [D.sl false false yy0 A],D.rptr [D.sl false false yy0 E]],D.sl false false yy0 L,D.v (Value.int .i64 (↑L.length:Int)),D.v (Value.int .i64 (0:Int))] [])) hmG Tryd.func121 (by kernel_rfl) (by kernel_rfl) (fun G R=>by kernel_rfl) ?_
 try dsimp only
 try dsimp only
 have hx:=e121 A E L hl hL L.length 0 (by omega) (by omega) _ rfl
 simp (disch:=omega) only[oo,oop,ne_eq,Ty.dflt,reduceCtorEq]
 repeat' (first|with_reducible refine And.intro ?_ ?_|intro _)
 all_goals first|rfl|omega|assumption|trivial|(exfalso;simp_all;done)|(exfalso;omega)|skip
theorem d91R (A E:List (Int×Int)) (L:List (Int×Int)) (hl:E.length=A.length) (hL:L.length≤8796093022208):Con Tryd.prog 91 [] [slQ L,oddD A E] (.v (.bool (L.any (oddP A E)))) [] []:=by
 refine con_vc (how:=[none]) (c:=r91) (K:=(KK r91)) spS (fun _=> []) (fun _=> []) 400 .stop (V:=fun G R=>let yy0:=((Ty.int .i64).prod (Ty.int .i64));Con Tryd.prog 121 [] [D.sl false false yy0 L,D.fn 90 [D.rptr [D.sl false false yy0 A],D.rptr [D.sl false false yy0 E]]] (D.v (Value.int .i64 (findP (oddP A E) (0:Int) L))) [] []∧L=L∧A=A∧E=E∧R (D.v (Value.bool (decide (findP (oddP A E) (0:Int) L≥(0:Int)))),[],[])) hmG Tryd.func91 (by kernel_rfl) (by kernel_rfl) (fun G R=>by kernel_rfl) ?_
 try dsimp only
 try dsimp only
 have c1:=d121R A E L hl hL
 have e1:=findP_any (oddP A E) L 0 (by omega)
 rw[e1]
 simp (disch:=omega) only[oo,oop,ne_eq,Ty.dflt,reduceCtorEq]
 repeat' (first|with_reducible refine And.intro ?_ ?_|intro _)
 all_goals first|rfl|omega|assumption|trivial|(exfalso;simp_all;done)|(exfalso;omega)|skip
end Go.Proofs.YtnakmganodkliaaDoorAm
set_option maxRecDepth 100000
namespace Go.Proofs.YtnakmganodkliaaDoorAm
open Go
theorem in_range {A E:List (Int×Int)} {l:List (Int×Int)} (h:l.any (oddP A E)=false):∀x∈l,0≤x.1∧x.1<A.length:=by
 intro x hx
 rw[List.any_eq_false] at h
 have h1:=h x hx
 have h2:pairOk A E x=true:=by
  unfold oddP at h1
  simpa using h1
 unfold pairOk at h2
 rw[Bool.and_eq_true,decide_eq_true_eq] at h2
 exact⟨h2.1.1,h2.1.2.1⟩
theorem take_odd {A E:List (Int×Int)} {B:List (List (Int×Int))} {i:Int} (i0:0≤i) (hi:i<B.length) (h:∀l∈B.take i.toNat,l.any (oddP A E)=false) (hl:(B.getD i.toNat []).any (oddP A E)=false):∀l∈B.take (i+1).toNat,l.any (oddP A E)=false:=by
 intro l hm
 rw[take_succ_at ([]:List (Int×Int)) B i0 (by omega),List.mem_append,List.mem_singleton] at hm
 rcases hm with hm|hm
 ·exact h l hm
 ·rw[hm];exact hl
def vq33 (g:Gr) (W:List (List Int)) (M:List Nat) (B:List (List (Int×Int))) (A:List (Int×Int)) (E:List (Int×Int)) (i:Int) (G:Nat→St→Prop) (R:D×List (Option Row)×List Row→Prop):Prop:=let yy0:=((Ty.int .i64).prod (Ty.int .i64));let yy1:=(spreadG (Pr.mk g W (Nt (Mi M))) (B.getD i.toNat yy0.sl.dflt) (List.take (i.toNat-0) (List.drop 0 B)));let yy2:=(Pr.mk g W (Nt (Mi M)));let yy3:=(↑B.length:Int);let yy4:=(oddP (List.take A.length (List.drop 0 A)) (List.take E.length (List.drop 0 E)));let yy5:=(B.getD i.toNat yy0.sl.dflt);let yy6:=((↑(List.length (B.getD (IntKind.i64.wrap (yy3-(1:Int))).toNat yy0.sl.dflt)):Int)>(0:Int));(decide (i<yy3)=true→(0:Int)≤i∧i<yy3∧Con Tryd.prog 91 [] [D.sl false false yy0 yy5,D.fn 90 [D.rptr [D.sl false false yy0 (List.take A.length (List.drop 0 A))],D.rptr [D.sl false false yy0 (List.take E.length (List.drop 0 E))]]] (D.v (Value.bool (List.any yy5 yy4))) [] []∧B.getD i.toNat yy0.sl.dflt=B.getD i.toNat yy0.sl.dflt∧List.take A.length (List.drop 0 A)=List.take A.length (List.drop 0 A)∧List.take E.length (List.drop 0 E)=List.take E.length (List.drop 0 E)∧(List.any yy5 yy4=true→R (D.tup [D.v (Value.int .i64 i),D.v (Value.int .i64 (150:Int))],[],[]))∧(List.any yy5 yy4=false→(0:Int)≤(0:Int)∧(0:Int)≤i∧i≤yy3∧Con Tryd.prog 92 [] [D.agg [D.v (Value.int .i64 yy2.g.h),D.v (Value.int .i64 yy2.g.w),D.sl false false Ty.bool yy2.g.B,D.sl false false Ty.bool yy2.g.R,D.sl false false Ty.bool yy2.g.L,D.sl false false (Ty.int .i64).sl yy2.W,D.sl false false (Ty.int .u64) (Mi yy2.M)],D.sl false false yy0 yy5,D.sl false false yy0.sl (List.take (i.toNat-0) (List.drop 0 B))] (D.tup [D.own 0 0 yy1.fst.length none,D.v (Value.bool yy1.snd)]) [] [Row.data 22 (Ty.int .u64) (Mi yy1.fst)]∧Value.int .i64 g.h=Value.int .i64 yy2.g.h∧Value.int .i64 g.w=Value.int .i64 yy2.g.w∧g.B=yy2.g.B∧g.R=yy2.g.R∧g.L=yy2.g.L∧W=yy2.W∧Mi M=Mi yy2.M∧B.getD i.toNat yy0.sl.dflt=B.getD i.toNat yy0.sl.dflt∧List.take (i.toNat-0) (List.drop 0 B)=List.take (i.toNat-0) (List.drop 0 B)∧(yy1.snd=true→R (D.tup [D.v (Value.int .i64 i),D.v (Value.int .i64 (151:Int))],[],[]))∧(yy1.snd=false→SameK (KK r55 0) (KK r55 0)∧G 0 (stOf 67 [1,2,9,29,30,31] [D.sl false false yy0.sl B,D.ptr 0 0 0,D.fn 90 [D.ptr 1 0 0,D.ptr 2 0 0],D.sl false false yy0.sl B,D.v (Value.int .i64 yy3),D.v (Value.int .i64 (IntKind.i64.wrap (i+(1:Int))))] [Slot.live (Row.box 73 [D.v (Value.int .i64 g.h),D.v (Value.int .i64 g.w),D.sl false false Ty.bool g.B,D.sl false false Ty.bool g.R,D.sl false false Ty.bool g.L,D.sl false false (Ty.int .i64).sl W,D.sl false false (Ty.int .u64) (Mi M)]),Slot.live (Row.box 55 [D.own 3 0 A.length none]),Slot.live (Row.box 55 [D.own 4 0 E.length none]),Slot.live (Row.data 61 yy0 A),Slot.live (Row.data 61 yy0 E)]))))∧(decide (i<yy3)=false→((yy3==(0:Int))=true→true=true∧R (D.tup [D.v (Value.int .i64 yy3),D.v (Value.int .i64 (151:Int))],[],[]))∧((yy3==(0:Int))=false→(0:Int)≤IntKind.i64.wrap (yy3-(1:Int))∧IntKind.i64.wrap (yy3-(1:Int))<yy3∧(decide yy6=true→R (D.tup [D.v (Value.int .i64 yy3),D.v (Value.int .i64 (151:Int))],[],[]))∧(decide yy6=false→R (D.tup [D.v (Value.int .i64 (0:Int)),D.v (Value.int .i64 (0:Int))],[],[]))))
theorem e55 (g:Gr) (W:List (List Int)) (M:List Nat) (B:List (List (Int×Int))) (A E:List (Int×Int)) (hc:checkP ⟨g,W,M⟩=0) (hM:Smalls M) (hA:A.length=M.length) (hE:E.length=A.length) (hBn:B.length≤65000) (hBl:∀l∈B,l.length≤8796093022208) (z:Nat):∀(i:Int),0≤i→i+z=B.length→(∀l∈B.take i.toNat,l.any (oddP A E)=false)→∀r,r=checkN ⟨g,W,M⟩ A E B z i→GetsK Tryd.prog Tryd.f55.results.toList [none,none] (KK r55) 0 (.tup [.v (.int .i64 r.1),.v (.int .i64 r.2)],[],[]) 0 (stOf 67 [1,2,9,29,30,31] [slBd B,.ptr 0 0 0,.fn 90 [.ptr 1 0 0,.ptr 2 0 0],slBd B,.v (.int .i64 B.length),.v (.int .i64 i)] [.live (.box 73 [.v (.int .i64 g.h),.v (.int .i64 g.w),.sl false false .bool g.B,.sl false false .bool g.R,.sl false false .bool g.L,slW W,slU M]),.live (.box 55 [.own 3 0 A.length none]),.live (.box 55 [.own 4 0 E.length none]),.live (.data 61 SeT A),.live (.data 61 SeT E)]):=by
 induction z with
 |zero=>
  intro i i0 hi ht r hr
  refine gets_vc spS (fun _=> [1,2,9,29,30,31]) (fun _=> []) 400 (.fork (.fork .stop (.fork .stop (.hd 0))) (.fork (.t .stop) (.fork .stop .stop))) (V:=vq33 g W M B A E i) hmG (fun G R=>by kernel_rfl) ?_
  unfold vq33
  try dsimp only
  simp only[checkN] at hr
  by_cases hb:B=[]
  ·rw[if_pos hb] at hr
   subst hr
   subst hb
   have w1:((([]:List (List (Int×Int))).length:Int)==0)=true:=rfl
   simp only[w1]
   simp (disch:=omega) only[oo,oop,ne_eq,Ty.dflt,reduceCtorEq]
   repeat' (first|with_reducible refine And.intro ?_ ?_|intro _)
   all_goals first|rfl|omega|assumption|trivial|(exfalso;simp_all;done)|(exfalso;omega)|skip
  ·rw[if_neg hb] at hr
   have hl0:B.length≠0:=fun e=>hb (List.length_eq_zero_iff.1 e)
   have w1:((B.length:Int)==0)=false:=by rw[beq_eq_false_iff_ne];omega
   have w2:IntKind.i64.wrap ((B.length:Int)-1)=(B.length:Int)-1:=wrG (by omega) (by omega)
   have w3:((B.length:Int)-1).toNat=B.length-1:=by omega
   obtain⟨l,hll⟩:∃l,B.getD (B.length-1) []=l:=⟨_,rfl⟩
   rw[hll] at hr
   simp only[w1,w2,w3,Ty.dflt,hll]
   by_cases hz:l.length>0
   ·rw[if_pos hz] at hr
    subst hr
    have w4:decide ((l.length:Int)>0)=true:=decide_eq_true (by omega)
    simp only[w4]
    simp (disch:=omega) only[oo,oop,ne_eq,Ty.dflt,reduceCtorEq]
    repeat' (first|with_reducible refine And.intro ?_ ?_|intro _)
    all_goals first|rfl|omega|assumption|trivial|(exfalso;simp_all;done)|(exfalso;omega)|skip
   ·rw[if_neg hz] at hr
    subst hr
    have w4:decide ((l.length:Int)>0)=false:=decide_eq_false (by omega)
    simp only[w4]
    simp (disch:=omega) only[oo,oop,ne_eq,Ty.dflt,reduceCtorEq]
    repeat' (first|with_reducible refine And.intro ?_ ?_|intro _)
    all_goals first|rfl|omega|assumption|trivial|(exfalso;simp_all;done)|(exfalso;omega)|skip
 |succ z ih=>
  intro i i0 hi ht r hr
  have hk1:IntKind.i64.wrap (i+1)=i+1:=wrG (by omega) (by omega)
  have hln:=hBl _ (getD_in (d:=([]:List (Int×Int))) (k:=i.toNat) (l:=B) (by omega))
  have hto:=take_odd (A:=A) (E:=E) (B:=B) (i:=i) i0 (by omega) ht
  simp only[checkN] at hr
  obtain⟨l,hll⟩:∃l,B.getD i.toNat []=l:=⟨_,rfl⟩
  rw[hll] at hr hln hto
  have c91:=d91R A E l hE hln
  refine gets_vc spS (fun _=> [1,2,9,29,30,31]) (fun _=> []) 400 (.fork (.fork .stop (.fork .stop (.hd 0))) (.fork (.t .stop) (.fork .stop .stop))) (V:=vq33 g W M B A E i) hmG (fun G R=>by kernel_rfl) ?_
  unfold vq33
  try dsimp only
  simp only[Ty.dflt,hk1,hll,Nt_Mi,List.drop_zero,List.take_length,Nat.sub_zero]
  by_cases ha:l.any (oddP A E)=true
  ·rw[if_pos ha] at hr
   subst hr
   rw[ha] at c91
   simp only[ha]
   simp (disch:=omega) only[oo,oop,ne_eq,Ty.dflt,reduceCtorEq]
   repeat' (first|with_reducible refine And.intro ?_ ?_|intro _)
   all_goals first|rfl|omega|assumption|trivial|(exfalso;simp_all;done)|(exfalso;omega)|skip
  ·have ha':l.any (oddP A E)=false:=by simpa using ha
   rw[if_neg ha] at hr
   rw[ha'] at c91
   have c92:=d92 g W M l (B.take i.toNat) hc hM hln (by rw[←hA];exact in_range ha') (by simp;omega) (fun l' h'=>⟨hBl l' (List.mem_of_mem_take h'),by rw[←hA];exact in_range (ht l' h')⟩)
   obtain⟨s,hs⟩:∃s,spreadG ⟨g,W,M⟩ l (B.take i.toNat)=s:=⟨_,rfl⟩
   rw[hs] at hr c92
   simp only[ha',hs]
   by_cases hs2:s.2=true
   ·rw[if_pos hs2] at hr
    subst hr
    rw[hs2] at c92
    simp only[hs2]
    simp (disch:=omega) only[oo,oop,ne_eq,Ty.dflt,reduceCtorEq]
    repeat' (first|with_reducible refine And.intro ?_ ?_|intro _)
    all_goals first|rfl|omega|assumption|trivial|(exfalso;simp_all;done)|(exfalso;omega)|skip
   ·have hs3:s.2=false:=by simpa using hs2
    rw[if_neg hs2] at hr
    have hg:=ih (i+1) (by omega) (by omega) (hto ha') r hr
    rw[hs3] at c92
    simp only[hs3]
    simp (disch:=omega) only[oo,oop,ne_eq,Ty.dflt,reduceCtorEq]
    repeat' (first|with_reducible refine And.intro ?_ ?_|intro _)
    all_goals first|rfl|omega|assumption|trivial|(exfalso;simp_all;done)|(exfalso;omega)|skip
theorem d55R (g:Gr) (W:List (List Int)) (M:List Nat) (B:List (List (Int×Int))) (hM:Smalls M) (hBl:∀l∈B,l.length≤8796093022208):Con Tryd.prog 55 [] [.agg [.v (.int .i64 g.h),.v (.int .i64 g.w),.sl false false .bool g.B,.sl false false .bool g.R,.sl false false .bool g.L,slW W,slU M],slBd B] (.tup [.v (.int .i64 (checkR ⟨g,W,M⟩ B).1),.v (.int .i64 (checkR ⟨g,W,M⟩ B).2)]) [] []:=by
 refine con_vc (how:=[none,none]) (c:=r55) (K:=(KK r55)) spS (fun _=> [1,2,9,29,30,31]) (fun _=> []) 400 (.fork .stop (.fork .stop (.hd 0))) (V:=fun G R=>let yy0:=(Pr.mk g W (Nt (Mi M)));let yy1:=((Ty.int .i64).prod (Ty.int .i64));Con Tryd.prog 89 [] [D.agg [D.v (Value.int .i64 yy0.g.h),D.v (Value.int .i64 yy0.g.w),D.sl false false Ty.bool yy0.g.B,D.sl false false Ty.bool yy0.g.R,D.sl false false Ty.bool yy0.g.L,D.sl false false (Ty.int .i64).sl yy0.W,D.sl false false (Ty.int .u64) (Mi yy0.M)]] (D.v (Value.int .i64 (checkP yy0))) [] []∧Value.int .i64 g.h=Value.int .i64 yy0.g.h∧Value.int .i64 g.w=Value.int .i64 yy0.g.w∧g.B=yy0.g.B∧g.R=yy0.g.R∧g.L=yy0.g.L∧W=yy0.W∧Mi M=Mi yy0.M∧((checkP yy0 !=(0:Int))=true→R (D.tup [D.v (Value.int .i64 (0:Int)),D.v (Value.int .i64 (checkP yy0))],[],[]))∧((checkP yy0 !=(0:Int))=false→(decide ((↑B.length:Int)>(65000:Int))=true→R (D.tup [D.v (Value.int .i64 (0:Int)),D.v (Value.int .i64 (2:Int))],[],[]))∧(decide ((↑B.length:Int)>(65000:Int))=false→Con Tryd.prog 40 [] [D.agg [D.v (Value.int .i64 g.h),D.v (Value.int .i64 g.w),D.sl false false Ty.bool g.B,D.sl false false Ty.bool g.R,D.sl false false Ty.bool g.L]] (D.tup [D.own 0 0 (seatsF g).fst.length none,D.own 1 0 (seatsF g).snd.length none]) [] [Row.data 61 yy1 (seatsF g).fst,Row.data 61 yy1 (seatsF g).snd]∧Value.int .i64 g.h=Value.int .i64 g.h∧Value.int .i64 g.w=Value.int .i64 g.w∧g.B=g.B∧g.R=g.R∧g.L=g.L∧SameK (KK r55 0) (KK r55 0)∧G 0 (stOf 67 [1,2,9,29,30,31] [D.sl false false yy1.sl B,D.ptr 0 0 0,D.fn 90 [D.ptr 1 0 0,D.ptr 2 0 0],D.sl false false yy1.sl B,D.v (Value.int .i64 (↑B.length:Int)),D.v (Value.int .i64 (0:Int))] [Slot.live (Row.box 73 [D.v (Value.int .i64 g.h),D.v (Value.int .i64 g.w),D.sl false false Ty.bool g.B,D.sl false false Ty.bool g.R,D.sl false false Ty.bool g.L,D.sl false false (Ty.int .i64).sl W,D.sl false false (Ty.int .u64) (Mi M)]),Slot.live (Row.box 55 [D.own 3 0 (seatsF g).fst.length none]),Slot.live (Row.box 55 [D.own 4 0 (seatsF g).snd.length none]),Slot.live (Row.data 61 yy1 (seatsF g).fst),Slot.live (Row.data 61 yy1 (seatsF g).snd)])))) hmG Tryd.func55 (by kernel_rfl) (by kernel_rfl) (fun G R=>by kernel_rfl) ?_
 try dsimp only
 try dsimp only
 have cc:=d62 g W M
 have cs:=d77 g
 obtain⟨r,hr⟩:∃r,checkR ⟨g,W,M⟩ B=r:=⟨_,rfl⟩
 rw[hr]
 simp only[Nt_Mi]
 unfold checkR at hr
 by_cases hc:checkP ⟨g,W,M⟩=0
 ·rw[if_pos hc] at hr
  have w0:(checkP ⟨g,W,M⟩ !=0)=false:=by rw[hc];rfl
  rw[hc] at cc
  by_cases hb:(B.length:Int)>65000
  ·rw[if_pos hb] at hr
   subst hr
   have w1:decide ((B.length:Int)>65000)=true:=decide_eq_true hb
   simp only[w0,w1,hc]
   simp (disch:=omega) only[oo,oop,ne_eq,Ty.dflt,reduceCtorEq]
   repeat' (first|with_reducible refine And.intro ?_ ?_|intro _)
   all_goals first|rfl|omega|assumption|trivial|(exfalso;simp_all;done)|(exfalso;omega)|skip
  ·rw[if_neg hb] at hr
   have w1:decide ((B.length:Int)>65000)=false:=decide_eq_false hb
   have hs:=(seats_are (g:=g) (checkP_zero hc).1 (c:=0) (by omega)).2.2
   have h4:=(checkP_zero hc).2.2.2
   simp only at h4
   have hg:=e55 g W M B (seatsF g).1 (seatsF g).2 hc hM (by omega) (by omega) (by omega) hBl B.length 0 (by omega) (by omega) (fun l hl=>by simp at hl) r hr.symm
   simp only[w0,w1,hc]
   simp (disch:=omega) only[oo,oop,ne_eq,Ty.dflt,reduceCtorEq]
   repeat' (first|with_reducible refine And.intro ?_ ?_|intro _)
   all_goals first|rfl|omega|assumption|trivial|(exfalso;simp_all;done)|(exfalso;omega)|skip
 ·rw[if_neg hc] at hr
  subst hr
  have w0:(checkP ⟨g,W,M⟩ !=0)=true:=by rw[bne_iff_ne];exact hc
  simp only[w0]
  simp (disch:=omega) only[oo,oop,ne_eq,Ty.dflt,reduceCtorEq]
  repeat' (first|with_reducible refine And.intro ?_ ?_|intro _)
  all_goals first|rfl|omega|assumption|trivial|(exfalso;simp_all;done)|(exfalso;omega)|skip
end Go.Proofs.YtnakmganodkliaaDoorAm
set_option maxRecDepth 100000
namespace Go.Proofs.YtnakmganodkliaaDoorAm
open Go
abbrev BT:Ty:= .sl SeT
def spT5:Sp:=fun f args rd=>match f,args with
 |54,[b]=>match slC rd BT [b] with
  |some B=>some {f:=54,args:=[slBd B],val:= .own 0 0 B.length none,allocs:=[.data 90 BT B],lent:=refsDs [b]}
  |none=>none
 |58,[a,b]=>match slC rd BT [a],slC rd BT [b] with
  |some A,some B=>some {f:=58,args:=[slBd A,slBd B],val:= .v (.bool (decide (A=B))),lent:=refsDs [a,b]}
  |_,_=>none
 |55,[.agg [.v (.int _ h),.v (.int _ w),b,r,l,ws,ms],bd]=>withP rd h w b r l ws ms fun p ls=>match slC rd BT [bd] with
  |some B=>some {f:=55,args:=[p.d,slBd B],val:= .tup [.v (.int .i64 (checkR p B).1),.v (.int .i64 (checkR p B).2)],lent:=ls++refsDs [bd]}
  |none=>none
 |56,[.agg [.v (.int _ h),.v (.int _ w),b,r,l,ws,ms],bd]=>withP rd h w b r l ws ms fun p ls=>match slC rd BT [bd] with
  |some B=>some {f:=56,args:=[p.d,slBd B],val:= .tup [.v (.int .i64 (checkR p B).1),.v (.int .i64 (checkR p B).2)],lent:=ls++refsDs [bd]}
  |none=>none
 |52,[]=>some {f:=52,args:=[],val:= .v (.bool true)}
 |f,args=>spS f args rd
noncomputable def r52:Code:=(Tryd.f52.body).getD .skip
end Go.Proofs.YtnakmganodkliaaDoorAm
namespace Go.Proofs.YtnakmganodkliaaDoorAm
open Go
def laidR (o:Option (List Int)):List Int×Bool:=match o with
 |some g=>(g,true)
 |none=>([],false)
def downN (M:List Nat) (V:List (List Int)) (S:List Slt) (F:List Int) (L:List (List Int)) (nd:Int):List (List Int)×Int:=downF M V S F (L,nd)
def spY:Sp:=fun f args rd=>match f,args with
 |148,[.agg [.v (.int _ h),.v (.int _ w),b,r,l,ws,ms],fx,.agg [.v (.int _ nu),.v (.bool dn),cs],x]=>withP rd h w b r l ws ms fun p ls=>match slC rd (.int .i64) [fx],slC rd (.int .i64) [cs],slC rd (.int .i64) [x] with
  |some F,some C,some X=>some {f:=148,args:=[p.d,slI F,.agg [.v (.int .i64 nu),.v (.bool dn),slI C],slI X],val:= .tup [.own 0 0 (laidR (wlayF p.M F C X F)).1.length none,.v (.bool (laidR (wlayF p.M F C X F)).2)],allocs:=[.data 3 (.int .i64) (laidR (wlayF p.M F C X F)).1],lent:=ls++refsDs [fx,cs,x]}
  |_,_,_=>none
 |134,[ws]=>match slC rd WT [ws] with
  |some W=>some {f:=134,args:=[slW W],val:= .own 0 0 (diffF [] W).length none,allocs:=[.data 27 WT (diffF [] W)]}
  |none=>none
 |133,[.agg [.v (.int _ h),.v (.int _ w),b,r,l,ws,ms],sl,vs,.v (.int _ k),fx,.own id _ _ _,.v (.int _ nd)]=>withP rd h w b r l ws ms fun p _=>match slC rd SlT [sl],slC rd WT [vs],slC rd (.int .i64) [fx],rd id with
  |some S,some V,some F,some (.data _ (.sl (.int .i64)) L)=>some {f:=133,pre:=[.data 27 WT L],args:=[p.d,slS S,slW V,.v (.int .i64 k),slI F,.own 0 0 (List.length L) none,.v (.int .i64 nd)],val:= .tup [.own 1 0 (downN p.M V (S.drop k.toNat) F L nd).1.length none,.v (.int .i64 (downN p.M V (S.drop k.toNat) F L nd).2)],post:=[none],allocs:=[.data 27 WT (downN p.M V (S.drop k.toNat) F L nd).1],cap:=[id],frz:=refsDs [fx]}
  |_,_,_,_=>none
 |133,[.agg [.v (.int _ h),.v (.int _ w),b,r,l,ws,ms],sl,vs,.v (.int _ k),fx,.v (.slice none 0 0),.v (.int _ nd)]=>withP rd h w b r l ws ms fun p _=>match slC rd SlT [sl],slC rd WT [vs],slC rd (.int .i64) [fx] with
  |some S,some V,some F=>some {f:=133,args:=[p.d,slS S,slW V,.v (.int .i64 k),slI F,.v (.slice none 0 0),.v (.int .i64 nd)],val:= .tup [.own 0 0 (downN p.M V (S.drop k.toNat) F [] nd).1.length none,.v (.int .i64 (downN p.M V (S.drop k.toNat) F [] nd).2)],allocs:=[.data 27 WT (downN p.M V (S.drop k.toNat) F [] nd).1],frz:=refsDs [vs,fx]}
  |_,_,_=>none
 |99,[.agg [.v (.int _ h),.v (.int _ w),b,r,l,ws,ms]]=>withP rd h w b r l ws ms fun p _=>some {f:=99,args:=[p.d],val:= .tup [.own 0 0 (smallF p).1.length none,.v (.int .i64 (smallF p).2)],allocs:=[.data 27 WT (smallF p).1]}
 |61,[.agg [.v (.int _ h),.v (.int _ w),b,r,l,ws,ms]]=>withP rd h w b r l ws ms fun p _=>some {f:=61,args:=[p.d],val:= .tup [.own 0 0 (smallF p).1.length none,.v (.bool (decide ((smallF p).2≤4000)))],allocs:=[.data 27 WT (smallF p).1]}
 |f,args=>spT5 f args rd
noncomputable def r148:Code:=(Tryd.f148.body).getD .skip
noncomputable def r134:Code:=(Tryd.f134.body).getD .skip
noncomputable def r133:Code:=(Tryd.f133.body).getD .skip
noncomputable def r99:Code:=(Tryd.f99.body).getD .skip
noncomputable def r61:Code:=(Tryd.f61.body).getD .skip
noncomputable def r14:Code:=(Tryd.f14.body).getD .skip
end Go.Proofs.YtnakmganodkliaaDoorAm
set_option maxRecDepth 100000
namespace Go.Proofs.YtnakmganodkliaaDoorAm
open Go
def vq34 (g:Gr) (W:List (List Int)) (M:List Nat) (F:List Int) (C:List Int) (X:List Int) (nu:Int) (dn:Bool) (k:Int) (Q:List Int) (G:Nat→St→Prop) (R:D×List (Option Row)×List Row→Prop):Prop:=let yy0:=((!hasN (Int.toNat ((Mi M).getD (Int.toNat (C.getD k.toNat (Ty.int .i64).dflt)) (Ty.int .u64).dflt)) (X.getD k.toNat (Ty.int .i64).dflt))=false→(0:Int)≤k∧k< (↑X.length:Int)∧(0:Int)≤C.getD k.toNat (Ty.int .i64).dflt∧C.getD k.toNat (Ty.int .i64).dflt< (↑Q.length:Int)∧0+Int.toNat (C.getD k.toNat (Ty.int .i64).dflt)<Q.length∧SameK (KK r148 0) (KK r148 0)∧G 0 (stOf 70 [1,3,4,6,10,11] [D.sl false false (Ty.int .i64) F,D.sl false false (Ty.int .i64) X,D.ptr 0 0 0,D.ptr 1 0 0,D.own 2 0 Q.length none,D.v (Value.int .i64 (IntKind.i64.wrap (k+(1:Int))))] [Slot.live (Row.box 73 [D.v (Value.int .i64 g.h),D.v (Value.int .i64 g.w),D.sl false false Ty.bool g.B,D.sl false false Ty.bool g.R,D.sl false false Ty.bool g.L,D.sl false false (Ty.int .i64).sl W,D.sl false false (Ty.int .u64) (Mi M)]),Slot.live (Row.box 50 [D.v (Value.int .i64 nu),D.v (Value.bool dn),D.sl false false (Ty.int .i64) C]),Slot.live (Row.data 3 (Ty.int .i64) (Q.set (0+Int.toNat (C.getD k.toNat (Ty.int .i64).dflt)) (X.getD k.toNat (Ty.int .i64).dflt)))]));let yy1:=((Mi M).getD (Int.toNat (C.getD k.toNat (Ty.int .i64).dflt)) (Ty.int .u64).dflt);let yy2:=(Ty.int .i64);let yy3:=(X.getD k.toNat yy2.dflt);let yy4:=(Int.toNat (C.getD k.toNat yy2.dflt));(decide (k< (↑X.length:Int))=true→(0:Int)≤k∧k< (↑C.length:Int)∧(0:Int)≤C.getD k.toNat yy2.dflt∧C.getD k.toNat yy2.dflt< (↑F.length:Int)∧(decide (F.getD yy4 yy2.dflt≥(0:Int))=true→(0:Int)≤C.getD k.toNat yy2.dflt∧C.getD k.toNat yy2.dflt< (↑F.length:Int)∧(0:Int)≤k∧k< (↑X.length:Int)∧((F.getD yy4 yy2.dflt !=X.getD k.toNat yy2.dflt)=true→true=true∧R (D.tup [D.own 0 0 0 none,D.v (Value.bool false)],[],[Row.data 3 yy2 []]))∧((F.getD yy4 yy2.dflt !=X.getD k.toNat yy2.dflt)=false→(0:Int)≤C.getD k.toNat yy2.dflt∧C.getD k.toNat yy2.dflt< (↑(Mi M).length:Int)∧(0:Int)≤k∧k< (↑X.length:Int)∧Con Tryd.prog 33 [] [D.v (Value.int .u64 yy1),D.v (Value.int .i64 yy3)] (D.v (Value.bool (hasN (Int.toNat yy1) yy3))) [] []∧Value.int .u64 yy1=Value.int .u64 yy1∧Value.int .i64 yy3=Value.int .i64 yy3∧((!hasN (Int.toNat yy1) yy3)=true→R (D.tup [D.own 0 0 0 none,D.v (Value.bool false)],[],[Row.data 3 yy2 []]))∧yy0))∧(decide (F.getD yy4 yy2.dflt≥(0:Int))=false→false=false∧(0:Int)≤C.getD k.toNat yy2.dflt∧C.getD k.toNat yy2.dflt< (↑(Mi M).length:Int)∧(0:Int)≤k∧k< (↑X.length:Int)∧Con Tryd.prog 33 [] [D.v (Value.int .u64 yy1),D.v (Value.int .i64 yy3)] (D.v (Value.bool (hasN (Int.toNat yy1) yy3))) [] []∧Value.int .u64 yy1=Value.int .u64 yy1∧Value.int .i64 yy3=Value.int .i64 yy3∧((!hasN (Int.toNat yy1) yy3)=true→R (D.tup [D.own 0 0 0 none,D.v (Value.bool false)],[],[Row.data 3 yy2 []]))∧yy0))∧(decide (k< (↑X.length:Int))=false→R (D.tup [D.own 0 0 Q.length none,D.v (Value.bool true)],[],[Row.data 3 yy2 Q]))
theorem e148 (g:Gr) (W:List (List Int)) (M:List Nat) (F C X:List Int) (nu:Int) (dn:Bool) (hM:Smalls M) (hF:F.length=M.length) (hX:X.length≤32) (hl:X.length=C.length) (hC:∀c∈C,0≤c∧c<M.length) (z:Nat):∀(k:Int) (Q:List Int),0≤k→k+z=X.length→Q.length=M.length→∀r,r=laidR (wlayF M F (C.drop k.toNat) (X.drop k.toNat) Q)→GetsK Tryd.prog Tryd.f148.results.toList [none,none] (KK r148) 0 (.tup [.own 0 0 r.1.length none,.v (.bool r.2)],[],[.data 3 (.int .i64) r.1]) 0 (stOf 70 [1,3,4,6,10,11] [slI F,slI X,.ptr 0 0 0,.ptr 1 0 0,.own 2 0 Q.length none,.v (.int .i64 k)] [.live (.box 73 [.v (.int .i64 g.h),.v (.int .i64 g.w),.sl false false .bool g.B,.sl false false .bool g.R,.sl false false .bool g.L,slW W,slU M]),.live (.box 50 [.v (.int .i64 nu),.v (.bool dn),slI C]),.live (.data 3 (.int .i64) Q)]):=by
 induction z with
 |zero=>
  intro k Q k0 hk hQ r hr
  rw[List.drop_eq_nil_of_le (by omega),List.drop_eq_nil_of_le (by omega)] at hr
  have hr:r=(Q,true):=hr
  subst hr
  refine gets_vc spY (fun _=> [1,3,4,6,10,11]) (fun k=>if k=99 then [⟨8,3,.int .i64⟩] else []) 400 (.fork (.fork (.fork (.t .stop) (.fork .stop (.hd 0))) (.f (.fork .stop (.hd 0)))) .stop) (V:=vq34 g W M F C X nu dn k Q) hmG (fun G R=>by kernel_rfl) ?_
  unfold vq34
  try dsimp only
  simp (disch:=omega) only[oo,oop,ne_eq,Ty.dflt,reduceCtorEq]
  repeat' (first|with_reducible refine And.intro ?_ ?_|intro _)
  all_goals first|rfl|omega|assumption|trivial|(exfalso;simp_all;done)|(exfalso;omega)|skip
 |succ z ih=>
  intro k Q k0 hk hQ r hr
  have hk1:IntKind.i64.wrap (k+1)=k+1:=wrG (by omega) (by omega)
  have hcm:=hC _ (getD_in (d:=(0:Int)) (k:=k.toNat) (l:=C) (by omega))
  rw[drop_at (xs:=C) (i:=k) 0 k0 (by omega),drop_at (xs:=X) (i:=k) 0 k0 (by omega)] at hr
  obtain⟨c,hcc⟩:∃c,C.getD k.toNat 0=c:=⟨_,rfl⟩
  obtain⟨y,hyy⟩:∃y,X.getD k.toNat 0=y:=⟨_,rfl⟩
  rw[hcc] at hcm
  rw[hcc,hyy] at hr
  have c33:=d111 (M.getD c.toNat 0) y (hM.at _)
  have hg:=ih (k+1) (Q.set c.toNat y) (by omega) (by omega) (by rw[List.length_set];exact hQ) _ rfl
  rw[List.length_set] at hg
  simp only[wlayF] at hr
  refine gets_vc spY (fun _=> [1,3,4,6,10,11]) (fun k=>if k=99 then [⟨8,3,.int .i64⟩] else []) 400 (.fork (.fork (.fork (.t .stop) (.fork .stop (.hd 0))) (.f (.fork .stop (.hd 0)))) .stop) (V:=vq34 g W M F C X nu dn k Q) hmG (fun G R=>by kernel_rfl) ?_
  unfold vq34
  try dsimp only
  simp only[Ty.dflt,hk1,hcc,hyy,take_len,List.drop_zero,List.take_length,Mi_getD,Mi_len,Nt_Mi,Int.toNat_natCast,Mi_set,Nat.zero_add,Nat.sub_zero,List.length_set,take_one,takeSn,List.take_zero,List.nil_append,List.length_append,List.length_cons,List.length_nil,Mi_take]
  cases h1:decide (F.getD c.toNat 0≥0) with
  |false=>
   rw[h1,Bool.false_and,Bool.false_or] at hr
   cases h3:hasN (M.getD c.toNat 0) y with
   |false=>
    rw[h3,Bool.not_false,if_pos rfl] at hr
    have hr:r=([],false):=hr
    subst hr
    rw[h3] at c33
    simp only[Bool.not_false]
    simp (disch:=omega) only[oo,oop,ne_eq,Ty.dflt,reduceCtorEq]
    repeat' (first|with_reducible refine And.intro ?_ ?_|intro _)
    all_goals first|rfl|omega|assumption|trivial|(exfalso;simp_all;done)|(exfalso;omega)|skip
   |true=>
    rw[h3,Bool.not_true,if_neg (by simp)] at hr
    rw[←hr] at hg
    rw[h3] at c33
    simp only[Bool.not_true]
    simp (disch:=omega) only[oo,oop,ne_eq,Ty.dflt,reduceCtorEq]
    repeat' (first|with_reducible refine And.intro ?_ ?_|intro _)
    all_goals first|rfl|omega|assumption|trivial|(exfalso;simp_all;done)|(exfalso;omega)|skip
  |true=>
   cases h2:F.getD c.toNat 0 !=y with
   |true=>
    rw[h1,h2,Bool.true_and,Bool.true_or,if_pos rfl] at hr
    have hr:r=([],false):=hr
    subst hr
    simp (disch:=omega) only[oo,oop,ne_eq,Ty.dflt,reduceCtorEq]
    repeat' (first|with_reducible refine And.intro ?_ ?_|intro _)
    all_goals first|rfl|omega|assumption|trivial|(exfalso;simp_all;done)|(exfalso;omega)|skip
   |false=>
    rw[h1,h2,Bool.true_and,Bool.false_or] at hr
    cases h3:hasN (M.getD c.toNat 0) y with
    |false=>
     rw[h3,Bool.not_false,if_pos rfl] at hr
     have hr:r=([],false):=hr
     subst hr
     rw[h3] at c33
     simp only[Bool.not_false]
     simp (disch:=omega) only[oo,oop,ne_eq,Ty.dflt,reduceCtorEq]
     repeat' (first|with_reducible refine And.intro ?_ ?_|intro _)
     all_goals first|rfl|omega|assumption|trivial|(exfalso;simp_all;done)|(exfalso;omega)|skip
    |true=>
     rw[h3,Bool.not_true,if_neg (by simp)] at hr
     rw[←hr] at hg
     rw[h3] at c33
     simp only[Bool.not_true]
     simp (disch:=omega) only[oo,oop,ne_eq,Ty.dflt,reduceCtorEq]
     repeat' (first|with_reducible refine And.intro ?_ ?_|intro _)
     all_goals first|rfl|omega|assumption|trivial|(exfalso;simp_all;done)|(exfalso;omega)|skip
theorem d148 (g:Gr) (W:List (List Int)) (M:List Nat) (F C X:List Int) (nu:Int) (dn:Bool) (hM:Smalls M) (hF:F.length=M.length) (hm:M.length≤300) (hX:X.length≤32) (hC:∀c∈C,0≤c∧c<M.length):Con Tryd.prog 148 [] [.agg [.v (.int .i64 g.h),.v (.int .i64 g.w),.sl false false .bool g.B,.sl false false .bool g.R,.sl false false .bool g.L,slW W,slU M],slI F,.agg [.v (.int .i64 nu),.v (.bool dn),slI C],slI X] (.tup [.own 0 0 (laidR (wlayF M F C X F)).1.length none,.v (.bool (laidR (wlayF M F C X F)).2)]) [] [.data 3 (.int .i64) (laidR (wlayF M F C X F)).1]:=by
 refine con_vc (how:=[none,none]) (c:=r148) (K:=(KK r148)) spY (fun _=> [1,3,4,6,10,11]) (fun k=>if k=99 then [⟨8,3,.int .i64⟩] else []) 400 (.fork .stop (.hd 0)) (V:=fun G R=>let yy0:=(Ty.int .i64);(((↑X.length:Int) !=(↑C.length:Int))=true→R (D.tup [D.own 0 0 0 none,D.v (Value.bool false)],[],[Row.data 3 yy0 []]))∧(((↑X.length:Int) !=(↑C.length:Int))=false→roomy Tryd.prog 3 (0+F.length)∧SameK (KK r148 0) (KK r148 0)∧G 0 (stOf 70 [1,3,4,6,10,11] [D.sl false false yy0 F,D.sl false false yy0 X,D.ptr 0 0 0,D.ptr 1 0 0,D.own 2 0 (0+F.length) none,D.v (Value.int .i64 (0:Int))] [Slot.live (Row.box 73 [D.v (Value.int .i64 g.h),D.v (Value.int .i64 g.w),D.sl false false Ty.bool g.B,D.sl false false Ty.bool g.R,D.sl false false Ty.bool g.L,D.sl false false yy0.sl W,D.sl false false (Ty.int .u64) (Mi M)]),Slot.live (Row.box 50 [D.v (Value.int .i64 nu),D.v (Value.bool dn),D.sl false false yy0 C]),Slot.live (Row.data 3 yy0 (List.take 0 (List.drop 0 [])++F))]))) hmG Tryd.func148 (by kernel_rfl) (by kernel_rfl) (fun G R=>by kernel_rfl) ?_
 try dsimp only
 try dsimp only
 obtain⟨r,hr⟩:∃r,laidR (wlayF M F C X F)=r:=⟨_,rfl⟩
 rw[hr]
 by_cases hl:X.length=C.length
 ·have hx:=e148 g W M F C X nu dn hM hF hX hl hC X.length 0 F (by omega) (by omega) hF r hr.symm
  have w:((X.length:Int) !=(C.length:Int))=false:=by rw[hl];simp
  simp only[w,take_len,List.drop_zero,List.take_length,Mi_getD,Mi_len,Nt_Mi,Int.toNat_natCast,Mi_set,Nat.zero_add,Nat.sub_zero,List.length_set,take_one,takeSn,List.take_zero,List.nil_append,List.length_append,List.length_cons,List.length_nil,Mi_take]
  simp (disch:=omega) only[oo,oop,ne_eq,Ty.dflt,reduceCtorEq]
  repeat' (first|with_reducible refine And.intro ?_ ?_|intro _)
  all_goals first|rfl|omega|assumption|trivial|exact room3 (by omega)|exact roomW (by omega)|(exfalso;simp_all;done)|(exfalso;omega)|skip
 ·have w:((X.length:Int) !=(C.length:Int))=true:=by rw[bne_iff_ne];omega
  have hr2:r=([],false):=by
   rw[←hr]
   cases e:wlayF M F C X F with
   |none=>rfl
   |some h=>exact absurd (wlay_len e) hl
  subst hr2
  simp only[w]
  simp (disch:=omega) only[oo,oop,ne_eq,Ty.dflt,reduceCtorEq]
  repeat' (first|with_reducible refine And.intro ?_ ?_|intro _)
  all_goals first|rfl|omega|assumption|trivial|exact room3 (by omega)|exact roomW (by omega)|(exfalso;simp_all;done)|(exfalso;omega)|skip
def vq35 (W:List (List Int)) (L:List (List Int)) (i:Int) (k:Int) (fd:Bool) (G:Nat→St→Prop) (R:D×List (Option Row)×List Row→Prop):Prop:=let yy0:=((!fd)=true→(0:Int)≤i∧i< (↑W.length:Int)∧roomy Tryd.prog 27 (L.length+1)∧SameK (KK r134 0) (KK r134 0)∧G 0 (stOf 42 [0,3,4] [D.sl false false (Ty.int .i64).sl W,D.own 0 0 (L.length+1) none,D.v (Value.int .i64 (IntKind.i64.wrap (i+(1:Int))))] [Slot.live (Row.data 27 (Ty.int .i64).sl (List.take L.length (List.drop 0 L)++List.take 1 (List.drop 0 [W.getD i.toNat (Ty.int .i64).sl.dflt])))]));let yy1:=(Ty.int .i64);let yy2:=((!fd)=false→SameK (KK r134 0) (KK r134 0)∧G 0 (stOf 42 [0,3,4] [D.sl false false yy1.sl W,D.own 0 0 L.length none,D.v (Value.int .i64 (IntKind.i64.wrap (i+(1:Int))))] [Slot.live (Row.data 27 yy1.sl L)]));let yy3:=(Value.bool (decide (L.getD (0+k.toNat) yy1.sl.dflt=W.getD i.toNat yy1.sl.dflt)));(decide (k< (↑L.length:Int))=true→((!fd)=true→(0:Int)≤k∧k< (↑L.length:Int)∧0+k.toNat<L.length∧(0:Int)≤i∧i< (↑W.length:Int)∧Con Tryd.prog 23 [] [D.sl false false yy1 (L.getD (0+k.toNat) yy1.sl.dflt),D.sl false false yy1 (W.getD i.toNat yy1.sl.dflt)] (D.v yy3) [] []∧L.getD (0+k.toNat) yy1.sl.dflt=L.getD (0+k.toNat) yy1.sl.dflt∧W.getD i.toNat yy1.sl.dflt=W.getD i.toNat yy1.sl.dflt∧SameK (KK r134 1) (KK r134 1)∧G 1 (stOf 42 [0,3,4,5,6] [D.sl false false yy1.sl W,D.own 0 0 L.length none,D.v (Value.int .i64 i),D.v yy3,D.v (Value.int .i64 (IntKind.i64.wrap (k+(1:Int))))] [Slot.live (Row.data 27 yy1.sl L)]))∧((!fd)=false→yy0∧yy2))∧(decide (k< (↑L.length:Int))=false→false=false∧yy0∧yy2)
theorem e134b (W L:List (List Int)) (hL:L.length≤1000) (hw:∀s∈L,s.length≤32) (i:Int) (i0:0≤i) (i1:i<W.length) (hii:IntKind.i64.wrap (i+1)=i+1) (v:List Int) (hv:W.getD i.toNat []=v) (r:List (List Int)) (hx:GetsK Tryd.prog Tryd.f134.results.toList [none] (KK r134) 0 (.own 0 0 r.length none,[],[.data 27 WT r]) 0 (stOf 42 [0,3,4] [slW W,.own 0 0 (if L.any (fun u=>decide (u=v)) then L else L++[v]).length none,.v (.int .i64 (i+1))] [.live (.data 27 WT (if L.any (fun u=>decide (u=v)) then L else L++[v]))])) (z:Nat):∀(k:Int) (fd:Bool),0≤k→k+z=L.length→L.any (fun u=>decide (u=v))=(fd||(L.drop k.toNat).any (fun u=>decide (u=v)))→GetsK Tryd.prog Tryd.f134.results.toList [none] (KK r134) 0 (.own 0 0 r.length none,[],[.data 27 WT r]) 1 (stOf 42 [0,3,4,5,6] [slW W,.own 0 0 L.length none,.v (.int .i64 i),.v (.bool fd),.v (.int .i64 k)] [.live (.data 27 WT L)]):=by
 have ext:∀fd,L.any (fun u=>decide (u=v))=fd→(fd=false→GetsK Tryd.prog Tryd.f134.results.toList [none] (KK r134) 0 (.own 0 0 r.length none,[],[.data 27 WT r]) 0 (stOf 42 [0,3,4] [slW W,.own 0 0 (L++[v]).length none,.v (.int .i64 (i+1))] [.live (.data 27 WT (L++[v]))]))∧(fd=true→GetsK Tryd.prog Tryd.f134.results.toList [none] (KK r134) 0 (.own 0 0 r.length none,[],[.data 27 WT r]) 0 (stOf 42 [0,3,4] [slW W,.own 0 0 L.length none,.v (.int .i64 (i+1))] [.live (.data 27 WT L)])):=by
  intro fd h
  rw[h] at hx
  exact⟨fun e=>by rw[e] at hx;exact hx,fun e=>by rw[e] at hx;exact hx⟩
 induction z with
 |zero=>
  intro k fd k0 hk ha
  rw[List.drop_eq_nil_of_le (by omega),List.any_nil,Bool.or_false] at ha
  obtain⟨x1,x2⟩:=ext fd ha
  simp only[List.length_append,List.length_cons,List.length_nil] at x1
  refine gets_vc spY (fun k=> [[0,3,4],[0,3,4,5,6]].getD k []) (fun k=>if k=99 then [⟨2,27,WT⟩] else [⟨3,27,WT⟩]) 400 (.fork (.fork (.hd 1) (.fork (.hd 0) (.hd 0))) (.f (.fork (.hd 0) (.hd 0)))) (V:=vq35 W L i k fd) hmG (fun G R=>by kernel_rfl) ?_
  unfold vq35
  try dsimp only
  simp only[Ty.dflt,hii,hv,take_len,List.drop_zero,List.take_length,Mi_getD,Mi_len,Nt_Mi,Int.toNat_natCast,Mi_set,Nat.zero_add,Nat.sub_zero,List.length_set,take_one,takeSn,List.take_zero,List.nil_append,List.length_append,List.length_cons,List.length_nil,Mi_take]
  cases fd with
  |false=>
   have x1:=x1 rfl
   simp only[Bool.not_false]
   simp (disch:=omega) only[oo,oop,ne_eq,Ty.dflt,reduceCtorEq]
   repeat' (first|with_reducible refine And.intro ?_ ?_|intro _)
   all_goals first|rfl|omega|assumption|trivial|exact room3 (by omega)|exact roomW (by omega)|(exfalso;simp_all;done)|(exfalso;omega)|skip
  |true=>
   have x2:=x2 rfl
   simp only[Bool.not_true]
   simp (disch:=omega) only[oo,oop,ne_eq,Ty.dflt,reduceCtorEq]
   repeat' (first|with_reducible refine And.intro ?_ ?_|intro _)
   all_goals first|rfl|omega|assumption|trivial|exact room3 (by omega)|exact roomW (by omega)|(exfalso;simp_all;done)|(exfalso;omega)|skip
 |succ z ih=>
  intro k fd k0 hk ha
  have hk1:IntKind.i64.wrap (k+1)=k+1:=wrG (by omega) (by omega)
  have hsw:=hw _ (getD_in (d:=[]) (k:=k.toNat) (l:=L) (by omega))
  refine gets_vc spY (fun k=> [[0,3,4],[0,3,4,5,6]].getD k []) (fun k=>if k=99 then [⟨2,27,WT⟩] else [⟨3,27,WT⟩]) 400 (.fork (.fork (.hd 1) (.fork (.hd 0) (.hd 0))) (.f (.fork (.hd 0) (.hd 0)))) (V:=vq35 W L i k fd) hmG (fun G R=>by kernel_rfl) ?_
  unfold vq35
  try dsimp only
  simp only[Ty.dflt,hii,hk1,hv,take_len,List.drop_zero,List.take_length,Mi_getD,Mi_len,Nt_Mi,Int.toNat_natCast,Mi_set,Nat.zero_add,Nat.sub_zero,List.length_set,take_one,takeSn,List.take_zero,List.nil_append,List.length_append,List.length_cons,List.length_nil,Mi_take]
  cases fd with
  |true=>
   rw[Bool.true_or] at ha
   have x2:=(ext true ha).2 rfl
   simp only[Bool.not_true]
   simp (disch:=omega) only[oo,oop,ne_eq,Ty.dflt,reduceCtorEq]
   repeat' (first|with_reducible refine And.intro ?_ ?_|intro _)
   all_goals first|rfl|omega|assumption|trivial|exact room3 (by omega)|exact roomW (by omega)|(exfalso;simp_all;done)|(exfalso;omega)|skip
  |false=>
   rw[drop_at (xs:=L) (i:=k) [] k0 (by omega),List.any_cons,Bool.false_or] at ha
   obtain⟨u,hu⟩:∃u,L.getD k.toNat []=u:=⟨_,rfl⟩
   rw[hu] at ha hsw
   have c23:=d41 u v (by omega)
   have hg:=ih (k+1) (decide (u=v)) (by omega) (by omega) ha
   simp only[hu,Bool.not_false]
   simp (disch:=omega) only[oo,oop,ne_eq,Ty.dflt,reduceCtorEq]
   repeat' (first|with_reducible refine And.intro ?_ ?_|intro _)
   all_goals first|rfl|omega|assumption|trivial|exact room3 (by omega)|exact roomW (by omega)|(exfalso;simp_all;done)|(exfalso;omega)|skip
theorem e134 (W:List (List Int)) (hW:W.length≤1000) (hw:∀s∈W,s.length≤32) (z:Nat):∀(i:Int) (L:List (List Int)),0≤i→i+z=W.length→L.length≤i→(∀s∈L,s.length≤32)→∀r,r=diffF L (W.drop i.toNat)→GetsK Tryd.prog Tryd.f134.results.toList [none] (KK r134) 0 (.own 0 0 r.length none,[],[.data 27 WT r]) 0 (stOf 42 [0,3,4] [slW W,.own 0 0 L.length none,.v (.int .i64 i)] [.live (.data 27 WT L)]):=by
 induction z with
 |zero=>
  intro i L i0 hi hL hs r hr
  rw[List.drop_eq_nil_of_le (by omega)] at hr
  have hr:r=L:=hr
  subst hr
  refine gets_vc spY (fun k=> [[0,3,4],[0,3,4,5,6]].getD k []) (fun k=>if k=99 then [⟨2,27,WT⟩] else [⟨3,27,WT⟩]) 400 (.fork (.hd 1) .stop) (V:=fun G R=>(decide (i< (↑W.length:Int))=true→SameK (KK r134 1) (KK r134 1)∧G 1 (stOf 42 [0,3,4,5,6] [D.sl false false (Ty.int .i64).sl W,D.own 0 0 r.length none,D.v (Value.int .i64 i),D.v (Value.bool false),D.v (Value.int .i64 (0:Int))] [Slot.live (Row.data 27 (Ty.int .i64).sl r)]))∧(decide (i< (↑W.length:Int))=false→R (D.own 0 0 r.length none,[],[Row.data 27 (Ty.int .i64).sl r]))) hmG (fun G R=>by kernel_rfl) ?_
  simp (disch:=omega) only[oo,oop,ne_eq,Ty.dflt,reduceCtorEq]
  repeat' (first|with_reducible refine And.intro ?_ ?_|intro _)
  all_goals first|rfl|omega|assumption|trivial|(exfalso;simp_all;done)|(exfalso;omega)|skip
 |succ z ih=>
  intro i L i0 hi hL hs r hr
  have hsw:=hw _ (getD_in (d:=[]) (k:=i.toNat) (l:=W) (by omega))
  rw[drop_at (xs:=W) (i:=i) [] i0 (by omega)] at hr
  obtain⟨v,hv⟩:∃v,W.getD i.toNat []=v:=⟨_,rfl⟩
  rw[hv] at hr hsw
  simp only[diffF] at hr
  have hx:=ih (i+1) (if L.any (fun u=>decide (u=v)) then L else L++[v]) (by omega) (by omega) (by split;omega;simp;omega) (by
   split
   ·exact hs
   ·intro s h
    rcases List.mem_append.1 h with h|h
    ·exact hs s h
    ·rw[List.mem_singleton.1 h];exact hsw) r hr
  have hg:=e134b W L (by omega) hs i i0 (by omega) (wrG (by omega) (by omega)) v hv r hx L.length 0 false (by omega) (by omega) (by rw[Bool.false_or];rfl)
  refine gets_vc spY (fun k=> [[0,3,4],[0,3,4,5,6]].getD k []) (fun k=>if k=99 then [⟨2,27,WT⟩] else [⟨3,27,WT⟩]) 400 (.fork (.hd 1) .stop) (V:=fun G R=>(decide (i< (↑W.length:Int))=true→SameK (KK r134 1) (KK r134 1)∧G 1 (stOf 42 [0,3,4,5,6] [D.sl false false (Ty.int .i64).sl W,D.own 0 0 L.length none,D.v (Value.int .i64 i),D.v (Value.bool false),D.v (Value.int .i64 (0:Int))] [Slot.live (Row.data 27 (Ty.int .i64).sl L)]))∧(decide (i< (↑W.length:Int))=false→R (D.own 0 0 L.length none,[],[Row.data 27 (Ty.int .i64).sl L]))) hmG (fun G R=>by kernel_rfl) ?_
  simp (disch:=omega) only[oo,oop,ne_eq,Ty.dflt,reduceCtorEq]
  repeat' (first|with_reducible refine And.intro ?_ ?_|intro _)
  all_goals first|rfl|omega|assumption|trivial|(exfalso;simp_all;done)|(exfalso;omega)|skip
theorem d134 (W:List (List Int)) (hW:W.length≤1000) (hw:∀s∈W,s.length≤32):Con Tryd.prog 134 [] [slW W] (.own 0 0 (diffF [] W).length none) [] [.data 27 WT (diffF [] W)]:=by
 refine con_vc (how:=[none]) (c:=r134) (K:=(KK r134)) spY (fun k=> [[0,3,4],[0,3,4,5,6]].getD k []) (fun k=>if k=99 then [⟨2,27,WT⟩] else [⟨3,27,WT⟩]) 400 (.hd 0) (V:=fun G R=>SameK (KK r134 0) (KK r134 0)∧G 0 (stOf 42 [0,3,4] [D.sl false false (Ty.int .i64).sl W,D.own 0 0 0 none,D.v (Value.int .i64 (0:Int))] [Slot.live (Row.data 27 (Ty.int .i64).sl [])])) hmG Tryd.func134 (by kernel_rfl) (by kernel_rfl) (fun G R=>by kernel_rfl) ?_
 try dsimp only
 have hx:=e134 W hW hw W.length 0 [] (by omega) (by omega) (by simp) (by simp) _ rfl
 simp only[show(0:Int).toNat=0 by rfl,List.drop_zero] at hx
 simp (disch:=omega) only[oo,oop,ne_eq,Ty.dflt,reduceCtorEq]
 repeat' (first|with_reducible refine And.intro ?_ ?_|intro _)
 all_goals first|rfl|omega|assumption|trivial|(exfalso;simp_all;done)|(exfalso;omega)|skip
def vq36 (g:Gr) (W:List (List Int)) (M:List Nat) (S:List Slt) (V:List (List Int)) (F:List Int) (k:Int) (L:List (List Int)) (nd:Int) (i:Int) (G:Nat→St→Prop) (R:D×List (Option Row)×List Row→Prop):Prop:=let yy0:=(laidR (wlayF (Pr.mk g W (Nt (Mi M))).M F (S.getD k.toNat ((Ty.int .i64).prod (Ty.bool.prod (Ty.int .i64).sl)).dflt).snd.snd (V.getD i.toNat (Ty.int .i64).sl.dflt) F));let yy1:=(downN (Pr.mk g W (Nt (Mi M))).M V (List.drop (IntKind.i64.wrap (k+(1:Int))).toNat S) (List.take yy0.fst.length (List.drop 0 yy0.fst)) L nd);let yy2:=(Ty.int .i64);let yy3:=(Pr.mk g W (Nt (Mi M)));let yy4:=(S.getD k.toNat (yy2.prod (Ty.bool.prod yy2.sl)).dflt);let yy5:=(Row.box 73 [D.v (Value.int .i64 g.h),D.v (Value.int .i64 g.w),D.sl false false Ty.bool g.B,D.sl false false Ty.bool g.R,D.sl false false Ty.bool g.L,D.sl false false yy2.sl W,D.sl false false (Ty.int .u64) (Mi M)]);let yy6:=(D.tup [D.own 1 0 L.length none,D.v (Value.int .i64 nd)],[none],[Row.data 27 yy2.sl L]);(decide (i< (↑V.length:Int))=true→(decide (nd≤(4000:Int))=true→(0:Int)≤k∧k< (↑S.length:Int)∧(0:Int)≤i∧i< (↑V.length:Int)∧Con Tryd.prog 148 [] [D.agg [D.v (Value.int .i64 yy3.g.h),D.v (Value.int .i64 yy3.g.w),D.sl false false Ty.bool yy3.g.B,D.sl false false Ty.bool yy3.g.R,D.sl false false Ty.bool yy3.g.L,D.sl false false yy2.sl yy3.W,D.sl false false (Ty.int .u64) (Mi yy3.M)],D.sl false false yy2 F,D.agg [D.v (Value.int .i64 yy4.fst),D.v (Value.bool yy4.snd.fst),D.sl false false yy2 yy4.snd.snd],D.sl false false yy2 (V.getD i.toNat yy2.sl.dflt)] (D.tup [D.own 0 0 yy0.fst.length none,D.v (Value.bool yy0.snd)]) [] [Row.data 3 yy2 yy0.fst]∧Value.int .i64 g.h=Value.int .i64 yy3.g.h∧Value.int .i64 g.w=Value.int .i64 yy3.g.w∧g.B=yy3.g.B∧g.R=yy3.g.R∧g.L=yy3.g.L∧W=yy3.W∧Mi M=Mi yy3.M∧F=F∧Value.int .i64 yy4.fst=Value.int .i64 yy4.fst∧Value.bool yy4.snd.fst=Value.bool yy4.snd.fst∧yy4.snd.snd=yy4.snd.snd∧V.getD i.toNat yy2.sl.dflt=V.getD i.toNat yy2.sl.dflt∧(yy0.snd=true→Con Tryd.prog 133 [Row.data 27 yy2.sl L] [D.agg [D.v (Value.int .i64 yy3.g.h),D.v (Value.int .i64 yy3.g.w),D.sl false false Ty.bool yy3.g.B,D.sl false false Ty.bool yy3.g.R,D.sl false false Ty.bool yy3.g.L,D.sl false false yy2.sl yy3.W,D.sl false false (Ty.int .u64) (Mi yy3.M)],D.sl false false (yy2.prod (Ty.bool.prod yy2.sl)) S,D.sl false false yy2.sl V,D.v (Value.int .i64 (IntKind.i64.wrap (k+(1:Int)))),D.sl false false yy2 (List.take yy0.fst.length (List.drop 0 yy0.fst)),D.own 0 0 L.length none,D.v (Value.int .i64 nd)] (D.tup [D.own 1 0 yy1.fst.length none,D.v (Value.int .i64 yy1.snd)]) [none] [Row.data 27 yy2.sl yy1.fst]∧Value.int .i64 g.h=Value.int .i64 yy3.g.h∧Value.int .i64 g.w=Value.int .i64 yy3.g.w∧g.B=yy3.g.B∧g.R=yy3.g.R∧g.L=yy3.g.L∧W=yy3.W∧Mi M=Mi yy3.M∧S=S∧V=V∧Value.int .i64 (IntKind.i64.wrap (k+(1:Int)))=Value.int .i64 (IntKind.i64.wrap (k+(1:Int)))∧List.take yy0.fst.length (List.drop 0 yy0.fst)=List.take yy0.fst.length (List.drop 0 yy0.fst)∧1=1∧0=0∧L.length=L.length∧Value.int .i64 nd=Value.int .i64 nd∧some (Row.data 27 yy2.sl L)=some (Row.data 27 yy2.sl L)∧SameK (KK r133 0) (KK r133 0)∧G 0 (stOf 69 [1,2,3,4,5,6,7,16] [D.sl false false (yy2.prod (Ty.bool.prod yy2.sl)) S,D.sl false false yy2.sl V,D.v (Value.int .i64 k),D.sl false false yy2 F,D.own 1 0 yy1.fst.length none,D.v (Value.int .i64 yy1.snd),D.ptr 2 0 0,D.v (Value.int .i64 (IntKind.i64.wrap (i+(1:Int))))] [Slot.dead,Slot.live (Row.data 27 yy2.sl (List.take yy1.fst.length (List.drop 0 yy1.fst))),Slot.live yy5]))∧(yy0.snd=false→SameK (KK r133 0) (KK r133 0)∧G 0 (stOf 69 [1,2,3,4,5,6,7,16] [D.sl false false (yy2.prod (Ty.bool.prod yy2.sl)) S,D.sl false false yy2.sl V,D.v (Value.int .i64 k),D.sl false false yy2 F,D.own 1 0 L.length none,D.v (Value.int .i64 nd),D.ptr 2 0 0,D.v (Value.int .i64 (IntKind.i64.wrap (i+(1:Int))))] [Slot.dead,Slot.live (Row.data 27 yy2.sl (List.take L.length (List.drop 0 L))),Slot.live yy5])))∧(decide (nd≤(4000:Int))=false→R yy6))∧(decide (i< (↑V.length:Int))=false→false=false∧R yy6)
theorem e133_1 (g:Gr) (W:List (List Int)) (M:List Nat) (S:List Slt) (V:List (List Int)) (F:List Int) (k:Int) (hM:Smalls M) (hm:M.length≤300) (hV:V.length≤1000) (hv:∀v∈V,v.length≤32) (hS:S.length≤900) (hC:∀s∈S,∀c∈s.2.2,0≤c∧c<M.length) (hF:F.length=M.length) (k0:0≤k) (hk:k<S.length) (hrec:∀(G:List Int) (L:List (List Int)) (nd:Int),G.length=M.length→0≤nd→nd≤4000→(L.length:Int)≤nd→Con Tryd.prog 133 [.data 27 WT L] [.agg [.v (.int .i64 g.h),.v (.int .i64 g.w),.sl false false .bool g.B,.sl false false .bool g.R,.sl false false .bool g.L,slW W,slU M],slS S,slW V,.v (.int .i64 (k+1)),slI G,.own 0 0 L.length none,.v (.int .i64 nd)] (.tup [.own 1 0 (downN M V (S.drop (k+1).toNat) G L nd).1.length none,.v (.int .i64 (downN M V (S.drop (k+1).toNat) G L nd).2)]) [none] [.data 27 WT (downN M V (S.drop (k+1).toNat) G L nd).1]) (C:List Int) (hs:(S.getD k.toNat (0,false,[])).2.2=C) (z:Nat):∀(i nd:Int) (L:List (List Int)),0≤i→i+z=V.length→0≤nd→nd≤4001→(L.length:Int)≤nd→∀r,r=loopD (downF M V (S.drop (k+1).toNat)) M C F (V.drop i.toNat) (L,nd)→GetsK Tryd.prog Tryd.f133.results.toList [none,none] (KK r133) 1 (.tup [.own 1 0 r.1.length none,.v (.int .i64 r.2)],[none],[.data 27 WT r.1]) 0 (stOf 69 [1,2,3,4,5,6,7,16] [slS S,slW V,.v (.int .i64 k),slI F,.own 1 0 L.length none,.v (.int .i64 nd),.ptr 2 0 0,.v (.int .i64 i)] [.dead,.live (.data 27 WT L),.live (.box 73 [.v (.int .i64 g.h),.v (.int .i64 g.w),.sl false false .bool g.B,.sl false false .bool g.R,.sl false false .bool g.L,slW W,slU M])]):=by
 have hk1:IntKind.i64.wrap (k+1)=k+1:=wrG (by omega) (by omega)
 induction z with
 |zero=>
  intro i nd L i0 hi n0 n1 hL r hr
  rw[show V.drop i.toNat=[] from List.drop_eq_nil_of_le (by omega)] at hr
  have hr:r=(L,nd):=hr
  subst hr
  refine gets_vc spY (fun _=> [1,2,3,4,5,6,7,16]) (fun k=>if k=0 then [⟨1000000005,27,WT⟩] else []) 400 (.fork (.fork (.fork (.hd 0) (.hd 0)) .stop) (.f .stop)) (V:=vq36 g W M S V F k L nd i) hmG (fun G R=>by kernel_rfl) ?_
  unfold vq36
  try dsimp only
  have w:decide (i< (V.length:Int))=false:=decide_eq_false (by omega)
  simp only[w]
  simp (disch:=omega) only[oo,oop,ne_eq,Ty.dflt,reduceCtorEq]
  repeat' (first|with_reducible refine And.intro ?_ ?_|intro _)
  all_goals first|rfl|omega|assumption|trivial|(exfalso;simp_all;done)|(exfalso;omega)|skip
 |succ z ih=>
  intro i nd L i0 hi n0 n1 hL r hr
  have hi1:IntKind.i64.wrap (i+1)=i+1:=wrG (by omega) (by omega)
  have hvw:=hv _ (getD_in (d:=[]) (k:=i.toNat) (l:=V) (by omega))
  have hcs:=hC _ (getD_in (d:=(0,false,[])) (k:=k.toNat) (l:=S) (by omega))
  rw[hs] at hcs
  rw[drop_at (xs:=V) (i:=i) [] i0 (by omega)] at hr
  obtain⟨v,hvv⟩:∃v,V.getD i.toNat []=v:=⟨_,rfl⟩
  rw[hvv] at hr hvw
  have c148:=d148 g W M F C v (S.getD k.toNat (0,false,[])).1 (S.getD k.toNat (0,false,[])).2.1 hM hF hm hvw hcs
  simp only[loopD] at hr
  refine gets_vc spY (fun _=> [1,2,3,4,5,6,7,16]) (fun k=>if k=0 then [⟨1000000005,27,WT⟩] else []) 400 (.fork (.fork (.fork (.hd 0) (.hd 0)) .stop) (.f .stop)) (V:=vq36 g W M S V F k L nd i) hmG (fun G R=>by kernel_rfl) ?_
  unfold vq36
  try dsimp only
  simp only[Ty.dflt,hk1,hi1,hs,hvv,take_len,List.drop_zero,List.take_length,Mi_getD,Mi_len,Nt_Mi,Int.toNat_natCast,Mi_set,Nat.zero_add,Nat.sub_zero,List.length_set,take_one,takeSn,List.take_zero,List.nil_append,List.length_append,List.length_cons,List.length_nil,Mi_take]
  by_cases hn:nd≤4000
  ·rw[if_pos hn] at hr
   have w:decide (nd≤(4000:Int))=true:=decide_eq_true hn
   cases e:wlayF M F C v F with
   |none=>
    rw[e] at hr c148
    have hg:=ih (i+1) nd L (by omega) (by omega) n0 n1 hL r hr
    simp only[laidR] at c148
    simp only[w,laidR]
    simp (disch:=omega) only[oo,oop,ne_eq,Ty.dflt,reduceCtorEq]
    repeat' (first|with_reducible refine And.intro ?_ ?_|intro _)
    all_goals first|rfl|omega|assumption|trivial|exact room3 (by omega)|exact roomW (by omega)|(exfalso;simp_all;done)|(exfalso;omega)|skip
   |some G=>
    rw[e] at hr c148
    have hGl:G.length=M.length:=by rw[wlay_len2 e];exact hF
    have c133:=hrec G L nd hGl n0 hn hL
    have hle:=down_le M V (S.drop (k+1).toNat) G (L,nd) n0 hn hL
    unfold downN at c133
    obtain⟨q,hq⟩:∃q,downF M V (S.drop (k+1).toNat) G (L,nd)=q:=⟨_,rfl⟩
    simp only[hq] at hr c133 hle
    have hg:=ih (i+1) q.2 q.1 (by omega) (by omega) (by omega) hle.2.1 hle.2.2 r hr
    simp only[laidR] at c148
    simp only[w,laidR,downN,List.take_length,hq]
    simp (disch:=omega) only[oo,oop,ne_eq,Ty.dflt,reduceCtorEq]
    repeat' (first|with_reducible refine And.intro ?_ ?_|intro _)
    all_goals first|rfl|omega|assumption|trivial|exact room3 (by omega)|exact roomW (by omega)|(exfalso;simp_all;done)|(exfalso;omega)|skip
  ·rw[if_neg hn] at hr
   subst hr
   have w:decide (nd≤(4000:Int))=false:=decide_eq_false hn
   simp only[w]
   simp (disch:=omega) only[oo,oop,ne_eq,Ty.dflt,reduceCtorEq]
   repeat' (first|with_reducible refine And.intro ?_ ?_|intro _)
   all_goals first|rfl|omega|assumption|trivial|exact room3 (by omega)|exact roomW (by omega)|(exfalso;simp_all;done)|(exfalso;omega)|skip
def vq37 (g:Gr) (W:List (List Int)) (M:List Nat) (S:List Slt) (V:List (List Int)) (F:List Int) (k:Int) (L:List (List Int)) (nd:Int) (i:Int) (G:Nat→St→Prop) (R:D×List (Option Row)×List Row→Prop):Prop:=let yy0:=(laidR (wlayF (Pr.mk g W (Nt (Mi M))).M F (S.getD k.toNat ((Ty.int .i64).prod (Ty.bool.prod (Ty.int .i64).sl)).dflt).snd.snd (V.getD i.toNat (Ty.int .i64).sl.dflt) F));let yy1:=(downN (Pr.mk g W (Nt (Mi M))).M V (List.drop (IntKind.i64.wrap (k+(1:Int))).toNat S) (List.take yy0.fst.length (List.drop 0 yy0.fst)) L nd);let yy2:=(Ty.int .i64);let yy3:=(Pr.mk g W (Nt (Mi M)));let yy4:=(S.getD k.toNat (yy2.prod (Ty.bool.prod yy2.sl)).dflt);let yy5:=(Row.box 73 [D.v (Value.int .i64 g.h),D.v (Value.int .i64 g.w),D.sl false false Ty.bool g.B,D.sl false false Ty.bool g.R,D.sl false false Ty.bool g.L,D.sl false false yy2.sl W,D.sl false false (Ty.int .u64) (Mi M)]);let yy6:=(Value.int .i64 nd);(decide (i< (↑V.length:Int))=true→(decide (nd≤(4000:Int))=true→(0:Int)≤k∧k< (↑S.length:Int)∧(0:Int)≤i∧i< (↑V.length:Int)∧Con Tryd.prog 148 [] [D.agg [D.v (Value.int .i64 yy3.g.h),D.v (Value.int .i64 yy3.g.w),D.sl false false Ty.bool yy3.g.B,D.sl false false Ty.bool yy3.g.R,D.sl false false Ty.bool yy3.g.L,D.sl false false yy2.sl yy3.W,D.sl false false (Ty.int .u64) (Mi yy3.M)],D.sl false false yy2 F,D.agg [D.v (Value.int .i64 yy4.fst),D.v (Value.bool yy4.snd.fst),D.sl false false yy2 yy4.snd.snd],D.sl false false yy2 (V.getD i.toNat yy2.sl.dflt)] (D.tup [D.own 0 0 yy0.fst.length none,D.v (Value.bool yy0.snd)]) [] [Row.data 3 yy2 yy0.fst]∧Value.int .i64 g.h=Value.int .i64 yy3.g.h∧Value.int .i64 g.w=Value.int .i64 yy3.g.w∧g.B=yy3.g.B∧g.R=yy3.g.R∧g.L=yy3.g.L∧W=yy3.W∧Mi M=Mi yy3.M∧F=F∧Value.int .i64 yy4.fst=Value.int .i64 yy4.fst∧Value.bool yy4.snd.fst=Value.bool yy4.snd.fst∧yy4.snd.snd=yy4.snd.snd∧V.getD i.toNat yy2.sl.dflt=V.getD i.toNat yy2.sl.dflt∧(yy0.snd=true→Con Tryd.prog 133 [Row.data 27 yy2.sl L] [D.agg [D.v (Value.int .i64 yy3.g.h),D.v (Value.int .i64 yy3.g.w),D.sl false false Ty.bool yy3.g.B,D.sl false false Ty.bool yy3.g.R,D.sl false false Ty.bool yy3.g.L,D.sl false false yy2.sl yy3.W,D.sl false false (Ty.int .u64) (Mi yy3.M)],D.sl false false (yy2.prod (Ty.bool.prod yy2.sl)) S,D.sl false false yy2.sl V,D.v (Value.int .i64 (IntKind.i64.wrap (k+(1:Int)))),D.sl false false yy2 (List.take yy0.fst.length (List.drop 0 yy0.fst)),D.own 0 0 L.length none,D.v yy6] (D.tup [D.own 1 0 yy1.fst.length none,D.v (Value.int .i64 yy1.snd)]) [none] [Row.data 27 yy2.sl yy1.fst]∧Value.int .i64 g.h=Value.int .i64 yy3.g.h∧Value.int .i64 g.w=Value.int .i64 yy3.g.w∧g.B=yy3.g.B∧g.R=yy3.g.R∧g.L=yy3.g.L∧W=yy3.W∧Mi M=Mi yy3.M∧S=S∧V=V∧Value.int .i64 (IntKind.i64.wrap (k+(1:Int)))=Value.int .i64 (IntKind.i64.wrap (k+(1:Int)))∧List.take yy0.fst.length (List.drop 0 yy0.fst)=List.take yy0.fst.length (List.drop 0 yy0.fst)∧0=0∧0=0∧L.length=L.length∧Value.int .i64 nd=Value.int .i64 nd∧some (Row.data 27 yy2.sl L)=some (Row.data 27 yy2.sl L)∧SameK (KK r133 0) (KK r133 0)∧G 0 (stOf 69 [1,2,3,4,5,6,7,16] [D.sl false false (yy2.prod (Ty.bool.prod yy2.sl)) S,D.sl false false yy2.sl V,D.v (Value.int .i64 k),D.sl false false yy2 F,D.own 0 0 yy1.fst.length none,D.v (Value.int .i64 yy1.snd),D.ptr 1 0 0,D.v (Value.int .i64 (IntKind.i64.wrap (i+(1:Int))))] [Slot.live (Row.data 27 yy2.sl (List.take yy1.fst.length (List.drop 0 yy1.fst))),Slot.live yy5]))∧(yy0.snd=false→SameK (KK r133 0) (KK r133 0)∧G 0 (stOf 69 [1,2,3,4,5,6,7,16] [D.sl false false (yy2.prod (Ty.bool.prod yy2.sl)) S,D.sl false false yy2.sl V,D.v (Value.int .i64 k),D.sl false false yy2 F,D.own 0 0 L.length none,D.v yy6,D.ptr 1 0 0,D.v (Value.int .i64 (IntKind.i64.wrap (i+(1:Int))))] [Slot.live (Row.data 27 yy2.sl (List.take L.length (List.drop 0 L))),Slot.live yy5])))∧(decide (nd≤(4000:Int))=false→R (D.tup [D.own 0 0 L.length none,D.v yy6],[],[Row.data 27 yy2.sl L])))∧(decide (i< (↑V.length:Int))=false→false=false∧R (D.tup [D.own 0 0 L.length none,D.v yy6],[],[Row.data 27 yy2.sl L]))
theorem e133_0 (g:Gr) (W:List (List Int)) (M:List Nat) (S:List Slt) (V:List (List Int)) (F:List Int) (k:Int) (hM:Smalls M) (hm:M.length≤300) (hV:V.length≤1000) (hv:∀v∈V,v.length≤32) (hS:S.length≤900) (hC:∀s∈S,∀c∈s.2.2,0≤c∧c<M.length) (hF:F.length=M.length) (k0:0≤k) (hk:k<S.length) (hrec:∀(G:List Int) (L:List (List Int)) (nd:Int),G.length=M.length→0≤nd→nd≤4000→(L.length:Int)≤nd→Con Tryd.prog 133 [.data 27 WT L] [.agg [.v (.int .i64 g.h),.v (.int .i64 g.w),.sl false false .bool g.B,.sl false false .bool g.R,.sl false false .bool g.L,slW W,slU M],slS S,slW V,.v (.int .i64 (k+1)),slI G,.own 0 0 L.length none,.v (.int .i64 nd)] (.tup [.own 1 0 (downN M V (S.drop (k+1).toNat) G L nd).1.length none,.v (.int .i64 (downN M V (S.drop (k+1).toNat) G L nd).2)]) [none] [.data 27 WT (downN M V (S.drop (k+1).toNat) G L nd).1]) (C:List Int) (hs:(S.getD k.toNat (0,false,[])).2.2=C) (z:Nat):∀(i nd:Int) (L:List (List Int)),0≤i→i+z=V.length→0≤nd→nd≤4001→(L.length:Int)≤nd→∀r,r=loopD (downF M V (S.drop (k+1).toNat)) M C F (V.drop i.toNat) (L,nd)→GetsK Tryd.prog Tryd.f133.results.toList [none,none] (KK r133) 0 (.tup [.own 0 0 r.1.length none,.v (.int .i64 r.2)],[],[.data 27 WT r.1]) 0 (stOf 69 [1,2,3,4,5,6,7,16] [slS S,slW V,.v (.int .i64 k),slI F,.own 0 0 L.length none,.v (.int .i64 nd),.ptr 1 0 0,.v (.int .i64 i)] [.live (.data 27 WT L),.live (.box 73 [.v (.int .i64 g.h),.v (.int .i64 g.w),.sl false false .bool g.B,.sl false false .bool g.R,.sl false false .bool g.L,slW W,slU M])]):=by
 have hk1:IntKind.i64.wrap (k+1)=k+1:=wrG (by omega) (by omega)
 induction z with
 |zero=>
  intro i nd L i0 hi n0 n1 hL r hr
  rw[show V.drop i.toNat=[] from List.drop_eq_nil_of_le (by omega)] at hr
  have hr:r=(L,nd):=hr
  subst hr
  refine gets_vc spY (fun _=> [1,2,3,4,5,6,7,16]) (fun k=>if k=0 then [⟨1000000005,27,WT⟩] else []) 400 (.fork (.fork (.fork (.hd 0) (.hd 0)) .stop) (.f .stop)) (V:=vq37 g W M S V F k L nd i) hmG (fun G R=>by kernel_rfl) ?_
  unfold vq37
  try dsimp only
  have w:decide (i< (V.length:Int))=false:=decide_eq_false (by omega)
  simp only[w]
  simp (disch:=omega) only[oo,oop,ne_eq,Ty.dflt,reduceCtorEq]
  repeat' (first|with_reducible refine And.intro ?_ ?_|intro _)
  all_goals first|rfl|omega|assumption|trivial|(exfalso;simp_all;done)|(exfalso;omega)|skip
 |succ z ih=>
  intro i nd L i0 hi n0 n1 hL r hr
  have hi1:IntKind.i64.wrap (i+1)=i+1:=wrG (by omega) (by omega)
  have hvw:=hv _ (getD_in (d:=[]) (k:=i.toNat) (l:=V) (by omega))
  have hcs:=hC _ (getD_in (d:=(0,false,[])) (k:=k.toNat) (l:=S) (by omega))
  rw[hs] at hcs
  rw[drop_at (xs:=V) (i:=i) [] i0 (by omega)] at hr
  obtain⟨v,hvv⟩:∃v,V.getD i.toNat []=v:=⟨_,rfl⟩
  rw[hvv] at hr hvw
  have c148:=d148 g W M F C v (S.getD k.toNat (0,false,[])).1 (S.getD k.toNat (0,false,[])).2.1 hM hF hm hvw hcs
  simp only[loopD] at hr
  refine gets_vc spY (fun _=> [1,2,3,4,5,6,7,16]) (fun k=>if k=0 then [⟨1000000005,27,WT⟩] else []) 400 (.fork (.fork (.fork (.hd 0) (.hd 0)) .stop) (.f .stop)) (V:=vq37 g W M S V F k L nd i) hmG (fun G R=>by kernel_rfl) ?_
  unfold vq37
  try dsimp only
  simp only[Ty.dflt,hk1,hi1,hs,hvv,take_len,List.drop_zero,List.take_length,Mi_getD,Mi_len,Nt_Mi,Int.toNat_natCast,Mi_set,Nat.zero_add,Nat.sub_zero,List.length_set,take_one,takeSn,List.take_zero,List.nil_append,List.length_append,List.length_cons,List.length_nil,Mi_take]
  by_cases hn:nd≤4000
  ·rw[if_pos hn] at hr
   have w:decide (nd≤(4000:Int))=true:=decide_eq_true hn
   cases e:wlayF M F C v F with
   |none=>
    rw[e] at hr c148
    have hg:=ih (i+1) nd L (by omega) (by omega) n0 n1 hL r hr
    simp only[laidR] at c148
    simp only[w,laidR]
    simp (disch:=omega) only[oo,oop,ne_eq,Ty.dflt,reduceCtorEq]
    repeat' (first|with_reducible refine And.intro ?_ ?_|intro _)
    all_goals first|rfl|omega|assumption|trivial|exact room3 (by omega)|exact roomW (by omega)|(exfalso;simp_all;done)|(exfalso;omega)|skip
   |some G=>
    rw[e] at hr c148
    have hGl:G.length=M.length:=by rw[wlay_len2 e];exact hF
    have c133:=hrec G L nd hGl n0 hn hL
    have hle:=down_le M V (S.drop (k+1).toNat) G (L,nd) n0 hn hL
    unfold downN at c133
    obtain⟨q,hq⟩:∃q,downF M V (S.drop (k+1).toNat) G (L,nd)=q:=⟨_,rfl⟩
    simp only[hq] at hr c133 hle
    have hg:=ih (i+1) q.2 q.1 (by omega) (by omega) (by omega) hle.2.1 hle.2.2 r hr
    simp only[laidR] at c148
    simp only[w,laidR,downN,List.take_length,hq]
    simp (disch:=omega) only[oo,oop,ne_eq,Ty.dflt,reduceCtorEq]
    repeat' (first|with_reducible refine And.intro ?_ ?_|intro _)
    all_goals first|rfl|omega|assumption|trivial|exact room3 (by omega)|exact roomW (by omega)|(exfalso;simp_all;done)|(exfalso;omega)|skip
  ·rw[if_neg hn] at hr
   subst hr
   have w:decide (nd≤(4000:Int))=false:=decide_eq_false hn
   simp only[w]
   simp (disch:=omega) only[oo,oop,ne_eq,Ty.dflt,reduceCtorEq]
   repeat' (first|with_reducible refine And.intro ?_ ?_|intro _)
   all_goals first|rfl|omega|assumption|trivial|exact room3 (by omega)|exact roomW (by omega)|(exfalso;simp_all;done)|(exfalso;omega)|skip
def vq38 (g:Gr) (W:List (List Int)) (M:List Nat) (S:List Slt) (V:List (List Int)) (F:List Int) (k:Int) (L:List (List Int)) (nd:Int) (G:Nat→St→Prop) (R:D×List (Option Row)×List Row→Prop):Prop:=let yy0:=(Ty.int .i64);((k==(↑S.length:Int))=true→roomy Tryd.prog 27 (L.length+1)∧R (D.tup [D.own 1 0 (L.length+1) none,D.v (Value.int .i64 (IntKind.i64.wrap (nd+(1:Int))))],[none],[Row.data 27 yy0.sl (List.take L.length (List.drop 0 L)++List.take 1 (List.drop 0 [F]))]))∧((k==(↑S.length:Int))=false→SameK (KK r133 0) (KK r133 0)∧G 0 (stOf 69 [1,2,3,4,5,6,7,16] [D.sl false false (yy0.prod (Ty.bool.prod yy0.sl)) S,D.sl false false yy0.sl V,D.v (Value.int .i64 k),D.sl false false yy0 F,D.own 1 0 L.length none,D.v (Value.int .i64 (IntKind.i64.wrap (nd+(1:Int)))),D.ptr 2 0 0,D.v (Value.int .i64 (0:Int))] [Slot.dead,Slot.live (Row.data 27 yy0.sl (List.take L.length (List.drop 0 L))),Slot.live (Row.box 73 [D.v (Value.int .i64 g.h),D.v (Value.int .i64 g.w),D.sl false false Ty.bool g.B,D.sl false false Ty.bool g.R,D.sl false false Ty.bool g.L,D.sl false false yy0.sl W,D.sl false false (Ty.int .u64) (Mi M)])]))
theorem d133 (g:Gr) (W:List (List Int)) (M:List Nat) (S:List Slt) (V:List (List Int)) (hM:Smalls M) (hm:M.length≤300) (hV:V.length≤1000) (hv:∀v∈V,v.length≤32) (hS:S.length≤900) (hC:∀s∈S,∀c∈s.2.2,0≤c∧c<M.length) (m:Nat):∀(F:List Int) (k:Int) (L:List (List Int)) (nd:Int),0≤k→k+m=S.length→F.length=M.length→0≤nd→nd≤4000→(L.length:Int)≤nd→Con Tryd.prog 133 [.data 27 WT L] [.agg [.v (.int .i64 g.h),.v (.int .i64 g.w),.sl false false .bool g.B,.sl false false .bool g.R,.sl false false .bool g.L,slW W,slU M],slS S,slW V,.v (.int .i64 k),slI F,.own 0 0 L.length none,.v (.int .i64 nd)] (.tup [.own 1 0 (downN M V (S.drop k.toNat) F L nd).1.length none,.v (.int .i64 (downN M V (S.drop k.toNat) F L nd).2)]) [none] [.data 27 WT (downN M V (S.drop k.toNat) F L nd).1]:=by
 induction m with
 |zero=>
  intro F k L nd k0 hk hF n0 n1 hL
  have hn1:IntKind.i64.wrap (nd+1)=nd+1:=wrG (by omega) (by omega)
  rw[List.drop_eq_nil_of_le (by omega)]
  simp only[downN,downF,List.length_append,List.length_cons,List.length_nil]
  refine con_vc (how:=[none,none]) (c:=r133) (K:=(KK r133)) spY (fun _=> [1,2,3,4,5,6,7,16]) (fun k=>if k=0 then [⟨1000000005,27,WT⟩] else []) 400 (.fork .stop (.hd 0)) (V:=vq38 g W M S V F k L nd) hmG Tryd.func133 (by kernel_rfl) (by kernel_rfl) (fun G R=>by kernel_rfl) ?_
  unfold vq38
  try dsimp only
  try dsimp only
  have w:(k==(S.length:Int))=true:=by rw[beq_iff_eq];omega
  simp only[w,hn1,take_len,List.drop_zero,List.take_length,Mi_getD,Mi_len,Nt_Mi,Int.toNat_natCast,Mi_set,Nat.zero_add,Nat.sub_zero,List.length_set,take_one,takeSn,List.take_zero,List.nil_append,List.length_append,List.length_cons,List.length_nil,Mi_take]
  simp (disch:=omega) only[oo,oop,ne_eq,Ty.dflt,reduceCtorEq]
  repeat' (first|with_reducible refine And.intro ?_ ?_|intro _)
  all_goals first|rfl|omega|assumption|trivial|exact room3 (by omega)|exact roomW (by omega)|(exfalso;simp_all;done)|(exfalso;omega)|skip
 |succ m ih=>
  intro F k L nd k0 hk hF n0 n1 hL
  have hn1:IntKind.i64.wrap (nd+1)=nd+1:=wrG (by omega) (by omega)
  rw[drop_at (xs:=S) (i:=k) (0,false,[]) k0 (by omega)]
  obtain⟨r,hr⟩:∃r,downN M V (S.getD k.toNat (0,false,[])::S.drop (k+1).toNat) F L nd=r:=⟨_,rfl⟩
  rw[hr]
  simp only[downN,downF] at hr
  have hg:=e133_1 g W M S V F k hM hm hV hv hS hC hF k0 (by omega) (fun G L nd a b c d=>ih G (k+1) L nd (by omega) (by omega) a b c d) _ rfl V.length 0 (nd+1) L (by omega) (by omega) (by omega) (by omega) (by omega) r hr.symm
  refine con_vc (how:=[none,none]) (c:=r133) (K:=(KK r133)) spY (fun _=> [1,2,3,4,5,6,7,16]) (fun k=>if k=0 then [⟨1000000005,27,WT⟩] else []) 400 (.fork .stop (.hd 0)) (V:=vq38 g W M S V F k L nd) hmG Tryd.func133 (by kernel_rfl) (by kernel_rfl) (fun G R=>by kernel_rfl) ?_
  unfold vq38
  try dsimp only
  try dsimp only
  have w:(k==(S.length:Int))=false:=by rw[beq_eq_false_iff_ne];omega
  simp only[w,hn1,take_len,List.drop_zero,List.take_length,Mi_getD,Mi_len,Nt_Mi,Int.toNat_natCast,Mi_set,Nat.zero_add,Nat.sub_zero,List.length_set,take_one,takeSn,List.take_zero,List.nil_append,List.length_append,List.length_cons,List.length_nil,Mi_take]
  simp (disch:=omega) only[oo,oop,ne_eq,Ty.dflt,reduceCtorEq]
  repeat' (first|with_reducible refine And.intro ?_ ?_|intro _)
  all_goals first|rfl|omega|assumption|trivial|exact room3 (by omega)|exact roomW (by omega)|(exfalso;simp_all;done)|(exfalso;omega)|skip
def vq39 (g:Gr) (W:List (List Int)) (M:List Nat) (S:List Slt) (V:List (List Int)) (F:List Int) (k:Int) (nd:Int) (G:Nat→St→Prop) (R:D×List (Option Row)×List Row→Prop):Prop:=let yy0:=(Ty.int .i64);((k==(↑S.length:Int))=true→roomy Tryd.prog 27 1∧R (D.tup [D.own 0 0 1 none,D.v (Value.int .i64 (IntKind.i64.wrap (nd+(1:Int))))],[],[Row.data 27 yy0.sl (List.take 1 (List.drop 0 [F]))]))∧((k==(↑S.length:Int))=false→SameK (KK r133 0) (KK r133 0)∧G 0 (stOf 69 [1,2,3,4,5,6,7,16] [D.sl false false (yy0.prod (Ty.bool.prod yy0.sl)) S,D.sl false false yy0.sl V,D.v (Value.int .i64 k),D.sl false false yy0 F,D.own 0 0 0 none,D.v (Value.int .i64 (IntKind.i64.wrap (nd+(1:Int)))),D.ptr 1 0 0,D.v (Value.int .i64 (0:Int))] [Slot.live (Row.data 27 yy0.sl []),Slot.live (Row.box 73 [D.v (Value.int .i64 g.h),D.v (Value.int .i64 g.w),D.sl false false Ty.bool g.B,D.sl false false Ty.bool g.R,D.sl false false Ty.bool g.L,D.sl false false yy0.sl W,D.sl false false (Ty.int .u64) (Mi M)])]))
theorem d133n (g:Gr) (W:List (List Int)) (M:List Nat) (S:List Slt) (V:List (List Int)) (hM:Smalls M) (hm:M.length≤300) (hV:V.length≤1000) (hv:∀v∈V,v.length≤32) (hS:S.length≤900) (hC:∀s∈S,∀c∈s.2.2,0≤c∧c<M.length) (m:Nat):∀(F:List Int) (k:Int) (L:List (List Int)) (nd:Int),0≤k→k+m=S.length→F.length=M.length→0≤nd→nd≤4000→(L.length:Int)≤nd→Con Tryd.prog 133 [] [.agg [.v (.int .i64 g.h),.v (.int .i64 g.w),.sl false false .bool g.B,.sl false false .bool g.R,.sl false false .bool g.L,slW W,slU M],slS S,slW V,.v (.int .i64 k),slI F,.v (.slice none 0 0),.v (.int .i64 nd)] (.tup [.own 0 0 (downN M V (S.drop k.toNat) F [] nd).1.length none,.v (.int .i64 (downN M V (S.drop k.toNat) F [] nd).2)]) [] [.data 27 WT (downN M V (S.drop k.toNat) F [] nd).1]:=by
 cases m with
 |zero=>
  intro F k L nd k0 hk hF n0 n1 hL
  have hn1:IntKind.i64.wrap (nd+1)=nd+1:=wrG (by omega) (by omega)
  rw[List.drop_eq_nil_of_le (by omega)]
  simp only[downN,downF,List.length_append,List.length_cons,List.length_nil]
  refine con_vc (how:=[none,none]) (c:=r133) (K:=(KK r133)) spY (fun _=> [1,2,3,4,5,6,7,16]) (fun k=>if k=0 then [⟨1000000005,27,WT⟩] else []) 400 (.fork .stop (.hd 0)) (V:=vq39 g W M S V F k nd) hmG Tryd.func133 (by kernel_rfl) (by kernel_rfl) (fun G R=>by kernel_rfl) ?_
  unfold vq39
  try dsimp only
  try dsimp only
  have w:(k==(S.length:Int))=true:=by rw[beq_iff_eq];omega
  simp only[w,hn1,take_len,List.drop_zero,List.take_length,Mi_getD,Mi_len,Nt_Mi,Int.toNat_natCast,Mi_set,Nat.zero_add,Nat.sub_zero,List.length_set,take_one,takeSn,List.take_zero,List.nil_append,List.length_append,List.length_cons,List.length_nil,Mi_take]
  simp (disch:=omega) only[oo,oop,ne_eq,Ty.dflt,reduceCtorEq]
  repeat' (first|with_reducible refine And.intro ?_ ?_|intro _)
  all_goals first|rfl|omega|assumption|trivial|exact room3 (by omega)|exact roomW (by omega)|(exfalso;simp_all;done)|(exfalso;omega)|skip
 |succ m=>
  intro F k L nd k0 hk hF n0 n1 hL
  have hn1:IntKind.i64.wrap (nd+1)=nd+1:=wrG (by omega) (by omega)
  rw[drop_at (xs:=S) (i:=k) (0,false,[]) k0 (by omega)]
  obtain⟨r,hr⟩:∃r,downN M V (S.getD k.toNat (0,false,[])::S.drop (k+1).toNat) F [] nd=r:=⟨_,rfl⟩
  rw[hr]
  simp only[downN,downF] at hr
  have hg:=e133_0 g W M S V F k hM hm hV hv hS hC hF k0 (by omega) (fun G L nd a b c d=>d133 g W M S V hM hm hV hv hS hC m G (k+1) L nd (by omega) (by omega) a b c d) _ rfl V.length 0 (nd+1) [] (by omega) (by omega) (by omega) (by omega) (by simp;omega) r hr.symm
  refine con_vc (how:=[none,none]) (c:=r133) (K:=(KK r133)) spY (fun _=> [1,2,3,4,5,6,7,16]) (fun k=>if k=0 then [⟨1000000005,27,WT⟩] else []) 400 (.fork .stop (.hd 0)) (V:=vq39 g W M S V F k nd) hmG Tryd.func133 (by kernel_rfl) (by kernel_rfl) (fun G R=>by kernel_rfl) ?_
  unfold vq39
  try dsimp only
  try dsimp only
  have w:(k==(S.length:Int))=false:=by rw[beq_eq_false_iff_ne];omega
  simp only[w,hn1,take_len,List.drop_zero,List.take_length,Mi_getD,Mi_len,Nt_Mi,Int.toNat_natCast,Mi_set,Nat.zero_add,Nat.sub_zero,List.length_set,take_one,takeSn,List.take_zero,List.nil_append,List.length_append,List.length_cons,List.length_nil,Mi_take]
  simp (disch:=omega) only[oo,oop,ne_eq,Ty.dflt,reduceCtorEq]
  repeat' (first|with_reducible refine And.intro ?_ ?_|intro _)
  all_goals first|rfl|omega|assumption|trivial|exact room3 (by omega)|exact roomW (by omega)|(exfalso;simp_all;done)|(exfalso;omega)|skip
def vq40 (g:Gr) (W:List (List Int)) (M:List Nat) (i:Int) (Q:List Int) (G:Nat→St→Prop) (R:D×List (Option Row)×List Row→Prop):Prop:=let yy0:=(Pr.mk g W (Nt (Mi M)));let yy1:=(Ty.int .i64);let yy2:=(List.take Q.length (List.drop 0 Q));let yy3:=(List.drop 0 (slotsF g));(decide (i< (↑Q.length:Int))=true→(0:Int)≤i∧i< (↑Q.length:Int)∧0+i.toNat<Q.length∧SameK (KK r99 0) (KK r99 0)∧G 0 (stOf 30 [1,4,5] [D.ptr 0 0 0,D.own 1 0 Q.length (some Q.length),D.v (Value.int .i64 (IntKind.i64.wrap (i+(1:Int))))] [Slot.live (Row.box 73 [D.v (Value.int .i64 g.h),D.v (Value.int .i64 g.w),D.sl false false Ty.bool g.B,D.sl false false Ty.bool g.R,D.sl false false Ty.bool g.L,D.sl false false yy1.sl W,D.sl false false (Ty.int .u64) (Mi M)]),Slot.live (Row.data 3 yy1 (Q.set (0+i.toNat) (-1:Int)))]))∧(decide (i< (↑Q.length:Int))=false→Con Tryd.prog 38 [] [D.agg [D.v (Value.int .i64 g.h),D.v (Value.int .i64 g.w),D.sl false false Ty.bool g.B,D.sl false false Ty.bool g.R,D.sl false false Ty.bool g.L]] (D.sl false false (yy1.prod (Ty.bool.prod yy1.sl)) (slotsF g)) [] []∧Value.int .i64 g.h=Value.int .i64 g.h∧Value.int .i64 g.w=Value.int .i64 g.w∧g.B=g.B∧g.R=g.R∧g.L=g.L∧Con Tryd.prog 134 [] [D.sl false false yy1.sl W] (D.own 0 0 (diffF [] W).length none) [] [Row.data 27 yy1.sl (diffF [] W)]∧W=W∧Con Tryd.prog 133 [] [D.agg [D.v (Value.int .i64 yy0.g.h),D.v (Value.int .i64 yy0.g.w),D.sl false false Ty.bool yy0.g.B,D.sl false false Ty.bool yy0.g.R,D.sl false false Ty.bool yy0.g.L,D.sl false false yy1.sl yy0.W,D.sl false false (Ty.int .u64) (Mi yy0.M)],D.sl false false (yy1.prod (Ty.bool.prod yy1.sl)) (slotsF g),D.sl false false yy1.sl (List.take (diffF [] W).length (List.drop 0 (diffF [] W))),D.v (Value.int .i64 (0:Int)),D.sl false false yy1 yy2,D.v (Value.slice none 0 0),D.v (Value.int .i64 (0:Int))] (D.tup [D.own 0 0 (downN yy0.M (List.take (diffF [] W).length (List.drop 0 (diffF [] W))) yy3 yy2 [] (0:Int)).fst.length none,D.v (Value.int .i64 (downN yy0.M (List.take (diffF [] W).length (List.drop 0 (diffF [] W))) yy3 yy2 [] (0:Int)).snd)]) [] [Row.data 27 yy1.sl (downN yy0.M (List.take (diffF [] W).length (List.drop 0 (diffF [] W))) yy3 yy2 [] (0:Int)).fst]∧Value.int .i64 g.h=Value.int .i64 yy0.g.h∧Value.int .i64 g.w=Value.int .i64 yy0.g.w∧g.B=yy0.g.B∧g.R=yy0.g.R∧g.L=yy0.g.L∧W=yy0.W∧Mi M=Mi yy0.M∧slotsF g=slotsF g∧List.take (diffF [] W).length (List.drop 0 (diffF [] W))=List.take (diffF [] W).length (List.drop 0 (diffF [] W))∧Value.int .i64 (0:Int)=Value.int .i64 (0:Int)∧List.take Q.length (List.drop 0 Q)=List.take Q.length (List.drop 0 Q)∧Value.slice none 0 0=Value.slice none 0 0∧Value.int .i64 (0:Int)=Value.int .i64 (0:Int)∧R (D.tup [D.own 0 0 (downN yy0.M (List.take (diffF [] W).length (List.drop 0 (diffF [] W))) yy3 yy2 [] (0:Int)).fst.length none,D.v (Value.int .i64 (downN yy0.M (List.take (diffF [] W).length (List.drop 0 (diffF [] W))) yy3 yy2 [] (0:Int)).snd)],[],[Row.data 27 yy1.sl (downN yy0.M (List.take (diffF [] W).length (List.drop 0 (diffF [] W))) yy3 yy2 [] (0:Int)).fst]))
theorem e99R (g:Gr) (W:List (List Int)) (M:List Nat) (hM:Smalls M) (hc:checkP ⟨g,W,M⟩=0) (z:Nat):∀(i:Int) (Q:List Int),0≤i→i+z=M.length→Q.length=M.length→(∀j:Nat,j<i.toNat→Q.getD j 0= -1)→GetsK Tryd.prog Tryd.f99.results.toList [none,none] (KK r99) 0 (.tup [.own 0 0 (smallF ⟨g,W,M⟩).1.length none,.v (.int .i64 (smallF ⟨g,W,M⟩).2)],[],[.data 27 WT (smallF ⟨g,W,M⟩).1]) 0 (stOf 30 [1,4,5] [.ptr 0 0 0,.own 1 0 Q.length (some Q.length),.v (.int .i64 i)] [.live (.box 73 [.v (.int .i64 g.h),.v (.int .i64 g.w),.sl false false .bool g.B,.sl false false .bool g.R,.sl false false .bool g.L,slW W,slU M]),.live (.data 3 (.int .i64) Q)]):=by
 induction z with
 |zero=>
  intro i Q i0 hi hQ hq
  have e:Q=List.replicate M.length (-1):=by
   apply List.ext_getElem (by simp[hQ])
   intro j h1 h2
   have:=hq j (by omega)
   rw[List.getD_eq_getElem?_getD,List.getElem?_eq_getElem h1] at this
   simp only[Option.getD_some] at this
   rw[this,List.getElem_replicate]
  obtain⟨h1,h2,h3,h4⟩:=checkP_zero hc
  simp only at h1 h2 h3 h4
  have hm:=(right_fits hc hM).2.1
  have c38:=d100s g
  have c134:=d134 W (by omega) (fun s h=>(h3 s h).2.1)
  have hD:∀v∈diffF [] W,v∈W:=fun v h=>by
   rcases diff_sub W [] v h with h|h
   ·simp at h
   ·exact h
  have hDl:=diff_len W []
  simp only[List.length_nil] at hDl
  have c133:=d133n g W M (slotsF g) (diffF [] W) hM hm (by omega) (fun v h=>(h3 v (hD v h)).2.1) (by have:=slots_900 h1;omega) (fun s hs c h=>by have:=cells_in hc hs c h;simp only at this;omega) (slotsF g).length Q 0 [] 0 (by omega) (by omega) hQ (by omega) (by omega) (by simp)
  simp only[show(0:Int).toNat=0 by rfl,List.drop_zero] at c133
  have es:downN M (diffF [] W) (slotsF g) Q [] 0=smallF ⟨g,W,M⟩:=by unfold downN smallF;rw[e]
  rw[es] at c133
  refine gets_vc spY (fun _=> [1,4,5]) (fun _=> []) 400 (.fork (.hd 0) .stop) (V:=vq40 g W M i Q) hmG (fun G R=>by kernel_rfl) ?_
  unfold vq40
  try dsimp only
  have w:decide (i< (Q.length:Int))=false:=decide_eq_false (by omega)
  simp only[w,take_len,List.drop_zero,List.take_length,Mi_getD,Mi_len,Nt_Mi,Int.toNat_natCast,Mi_set,Nat.zero_add,Nat.sub_zero,List.length_set,take_one,takeSn,List.take_zero,List.nil_append,List.length_append,List.length_cons,List.length_nil,Mi_take,es]
  simp (disch:=omega) only[oo,oop,ne_eq,Ty.dflt,reduceCtorEq]
  repeat' (first|with_reducible refine And.intro ?_ ?_|intro _)
  all_goals first|rfl|omega|assumption|trivial|(exfalso;simp_all;done)|(exfalso;omega)|skip
 |succ z ih=>
  intro i Q i0 hi hQ hq
  have hm:=(right_fits hc hM).2.1
  have hi1:IntKind.i64.wrap (i+1)=i+1:=wrG (by omega) (by omega)
  have hg:=ih (i+1) (Q.set i.toNat (-1)) (by omega) (by omega) (by rw[List.length_set];exact hQ) (fun j hj=>by
   rw[getD_setI]
   split
   ·rfl
   ·rename_i h
    exact hq j (by omega))
  rw[List.length_set] at hg
  refine gets_vc spY (fun _=> [1,4,5]) (fun _=> []) 400 (.fork (.hd 0) .stop) (V:=vq40 g W M i Q) hmG (fun G R=>by kernel_rfl) ?_
  unfold vq40
  try dsimp only
  have w:decide (i< (Q.length:Int))=true:=decide_eq_true (by omega)
  simp only[w,hi1,take_len,List.drop_zero,List.take_length,Mi_getD,Mi_len,Nt_Mi,Int.toNat_natCast,Mi_set,Nat.zero_add,Nat.sub_zero,List.length_set,take_one,takeSn,List.take_zero,List.nil_append,List.length_append,List.length_cons,List.length_nil,Mi_take]
  simp (disch:=omega) only[oo,oop,ne_eq,Ty.dflt,reduceCtorEq]
  repeat' (first|with_reducible refine And.intro ?_ ?_|intro _)
  all_goals first|rfl|omega|assumption|trivial|(exfalso;simp_all;done)|(exfalso;omega)|skip
theorem d99R (g:Gr) (W:List (List Int)) (M:List Nat) (hM:Smalls M) (hc:checkP ⟨g,W,M⟩=0):Con Tryd.prog 99 [] [.agg [.v (.int .i64 g.h),.v (.int .i64 g.w),.sl false false .bool g.B,.sl false false .bool g.R,.sl false false .bool g.L,slW W,slU M]] (.tup [.own 0 0 (smallF ⟨g,W,M⟩).1.length none,.v (.int .i64 (smallF ⟨g,W,M⟩).2)]) [] [.data 27 WT (smallF ⟨g,W,M⟩).1]:=by
 refine con_vc (how:=[none,none]) (c:=r99) (K:=(KK r99)) spY (fun _=> [1,4,5]) (fun _=> []) 400 (.hd 0) (V:=fun G R=>let yy0:=(↑(Mi M).length:Int);(0:Int)≤yy0∧yy0≤yy0∧yy0≤(9223372036854775807:Int)∧yy0.toNat*8≤281474976710656∧SameK (KK r99 0) (KK r99 0)∧G 0 (stOf 30 [1,4,5] [D.ptr 0 0 0,D.own 1 0 yy0.toNat (some yy0.toNat),D.v (Value.int .i64 (0:Int))] [Slot.live (Row.box 73 [D.v (Value.int .i64 g.h),D.v (Value.int .i64 g.w),D.sl false false Ty.bool g.B,D.sl false false Ty.bool g.R,D.sl false false Ty.bool g.L,D.sl false false (Ty.int .i64).sl W,D.sl false false (Ty.int .u64) (Mi M)]),Slot.live (Row.data 3 (Ty.int .i64) (List.replicate yy0.toNat (0:Int)))])) hmG Tryd.func99 (by kernel_rfl) (by kernel_rfl) (fun G R=>by kernel_rfl) ?_
 try dsimp only
 try dsimp only
 have hm:=(right_fits hc hM).2.1
 have hg:=e99R g W M hM hc M.length 0 (List.replicate M.length 0) (by omega) (by omega) (by simp) (fun j hj=>by simp at hj)
 rw[List.length_replicate] at hg
 simp only[take_len,List.drop_zero,List.take_length,Mi_getD,Mi_len,Nt_Mi,Int.toNat_natCast,Mi_set,Nat.zero_add,Nat.sub_zero,List.length_set,take_one,takeSn,List.take_zero,List.nil_append,List.length_append,List.length_cons,List.length_nil,Mi_take]
 simp (disch:=omega) only[oo,oop,ne_eq,Ty.dflt,reduceCtorEq]
 repeat' (first|with_reducible refine And.intro ?_ ?_|intro _)
 all_goals first|rfl|omega|assumption|trivial|(exfalso;simp_all;done)|(exfalso;omega)|skip
theorem d61R (g:Gr) (W:List (List Int)) (M:List Nat) (hM:Smalls M) (hc:checkP ⟨g,W,M⟩=0):Con Tryd.prog 61 [] [.agg [.v (.int .i64 g.h),.v (.int .i64 g.w),.sl false false .bool g.B,.sl false false .bool g.R,.sl false false .bool g.L,slW W,slU M]] (.tup [.own 0 0 (smallF ⟨g,W,M⟩).1.length none,.v (.bool (decide ((smallF ⟨g,W,M⟩).2≤4000)))]) [] [.data 27 WT (smallF ⟨g,W,M⟩).1]:=by
 refine con_vc (how:=[none,none]) (c:=r61) (K:=(KK r61)) spY (fun _=> []) (fun _=> []) 400 .stop (V:=fun G R=>let yy0:=(Pr.mk g W (Nt (Mi M)));Con Tryd.prog 99 [] [D.agg [D.v (Value.int .i64 yy0.g.h),D.v (Value.int .i64 yy0.g.w),D.sl false false Ty.bool yy0.g.B,D.sl false false Ty.bool yy0.g.R,D.sl false false Ty.bool yy0.g.L,D.sl false false (Ty.int .i64).sl yy0.W,D.sl false false (Ty.int .u64) (Mi yy0.M)]] (D.tup [D.own 0 0 (smallF yy0).fst.length none,D.v (Value.int .i64 (smallF yy0).snd)]) [] [Row.data 27 (Ty.int .i64).sl (smallF yy0).fst]∧Value.int .i64 g.h=Value.int .i64 yy0.g.h∧Value.int .i64 g.w=Value.int .i64 yy0.g.w∧g.B=yy0.g.B∧g.R=yy0.g.R∧g.L=yy0.g.L∧W=yy0.W∧Mi M=Mi yy0.M∧R (D.tup [D.own 0 0 (smallF yy0).fst.length none,D.v (Value.bool (decide ((smallF yy0).snd≤(4000:Int))))],[],[Row.data 27 (Ty.int .i64).sl (smallF yy0).fst])) hmG Tryd.func61 (by kernel_rfl) (by kernel_rfl) (fun G R=>by kernel_rfl) ?_
 try dsimp only
 try dsimp only
 have c99:=d99R g W M hM hc
 simp only[Nt_Mi]
 simp (disch:=omega) only[oo,oop,ne_eq,Ty.dflt,reduceCtorEq]
 repeat' (first|with_reducible refine And.intro ?_ ?_|intro _)
 all_goals first|rfl|omega|assumption|trivial|(exfalso;simp_all;done)|(exfalso;omega)|skip
end Go.Proofs.YtnakmganodkliaaDoorAm
set_option maxRecDepth 100000
namespace Go.Proofs.YtnakmganodkliaaDoorAm
open Go
theorem room90 {n:Nat} (h:n≤5864062014805):roomy Tryd.prog 90 n:=by
 unfold roomy
 rw[show Tryd.prog.bytesOf 90=24 by kernel_rfl]
 omega
end Go.Proofs.YtnakmganodkliaaDoorAm
set_option maxRecDepth 100000
namespace Go.Proofs.YtnakmganodkliaaDoorAm
open Go
theorem con_lenT {P:Program} {f:FuncId} {args:List D} {n:Nat} {cap:Option Nat} {allocs:List Row} {x:Value} (h:Con P f [] args (.tup [.own 0 0 n cap,.v x]) [] allocs):Con P f [] args (.tup [.lenv n,.v x]) [] []:=by
 refine⟨h.fn,fun w ρ S vs M hargs=>(h.run w ρ S vs M hargs).mono ?_⟩
 rintro ex w' ⟨v,ρ',S',h1,h2,h3⟩
 have hp:=mem_pack h2 (n:=0) rfl (ids:=[]) (ds:=[]) rfl
 simp only[RelD] at h3
 obtain⟨us,hv,h4⟩:=h3
 simp only[RelDs] at h4
 obtain⟨u1,us1,rfl,hu1,u2,us2,rfl,hu2,rfl⟩:=h4
 obtain⟨A,c,e⟩:=lenD_rel (d:= .own 0 0 n cap) rfl hu1
 refine⟨v,fun k=>ρ' (([]:List Nat).getD k 0),S',h1,hp,?_⟩
 simp only[RelD,RelDs] at hu2⊢
 exact⟨_,hv,u1,_,rfl,⟨A,c,e⟩,u2,_,rfl,hu2,rfl⟩
def g1:Gr:=⟨2,2,[false,false,false,false],[false,false,false,false],[false,false,false,false]⟩
def p1:Pr:=⟨g1,[[0,1],[2,3]],[15,15,15,15]⟩
theorem nar1:checkP p1=0∧(spreadG p1 [] []).2=false∧checkR p1 [[]]=(0,0)∧checkR p1 []=(0,151):=by
 refine⟨?_,?_,?_,?_⟩<;>kernel_rfl
abbrev prC (p:Pr):List D:=[.v (.int .i64 p.g.h),.v (.int .i64 p.g.w),.sl false false .bool p.g.B,.sl false false .bool p.g.R,.sl false false .bool p.g.L,slW p.W,slU p.M]
abbrev seaR (b:Nat) (d:D) (p:Pr) (n:Int):Row:= .box 129 (.fn 97 [.ptr b 0 0]:: .v (.bool true)::d::(prC p++[.v (.int .i64 n)]))
abbrev nilD:D:= .v (.slice none 0 0)
def spU:Sp:=fun f args rd=>match f,args with
 |147,[.v (.slice none 0 0)]=>some {f:=147,args:=[nilD],val:=nilD}
 |96,[.agg [.v (.int _ h),.v (.int _ w),b,r,l,ws,ms]]=>withP rd h w b r l ws ms fun p ls=>some {f:=96,args:=[p.d],val:= .ptr 0 0 0,allocs:=[.box 129 (.v .nilFunc:: .v (.bool false)::nilD::(prC p++[.v (.int .i64 0)]))],lent:=ls}
 |128,[.ptr a _ _,.v (.slice none 0 0)]=>match rd a with
  |some (.box _ [.fn 97 [.ptr q _ _],.v (.bool true),.v (.slice none 0 0),.v (.int _ h),.v (.int _ w),b,r,l,ws,ms,.v (.int _ n)])=>withP rd h w b r l ws ms fun p ls=>some {f:=128,args:=[.ptr 0 0 0,nilD],pre:=[seaR 1 nilD p n,.box 4 [.v (.bool false)]],val:= .tup [],post:=[some (seaR 1 (.own 2 0 1 none) p n),some (.box 4 [.v (.bool false)])],allocs:=[.data 90 BT [[]]],cap:=[a,q]}
  |_=>none
 |127,[.v (.slice none 0 0),.ptr a _ _,.ptr d _ _]=>match rd a with
  |some (.box _ [.ptr s _ _])=>match rd s with
   |some (.box _ [.fn 97 [.ptr q _ _],.v (.bool true),.v (.slice none 0 0),.v (.int _ h),.v (.int _ w),b,r,l,ws,ms,.v (.int _ n)])=>withP rd h w b r l ws ms fun p ls=>some {f:=127,args:=[nilD,.ptr 0 0 0,.ptr 1 0 0],pre:=[.box 125 [.ptr 2 0 0],.box 159 [.fn 127 [.ptr 0 0 0,.ptr 1 0 0]],seaR 3 nilD p 0,.box 4 [.v (.bool false)]],val:= .v (.int .i64 0),post:=[some (.box 125 [.ptr 2 0 0]),some (.box 159 [.fn 127 [.ptr 0 0 0,.ptr 1 0 0]]),some (seaR 3 (.own 4 0 1 none) p 1),some (.box 4 [.v (.bool false)])],allocs:=[.data 90 BT [[]]],cap:=[a,d,s,q]}
   |_=>none
  |_=>none
 |98,[.ptr s _ _]=>match rd s with
  |some (.box _ [.fn 97 [.ptr q _ _],.v (.bool true),.v (.slice none 0 0),.v (.int _ h),.v (.int _ w),b,r,l,ws,ms,.v (.int _ n)])=>withP rd h w b r l ws ms fun p ls=>some {f:=98,args:=[.ptr 0 0 0],pre:=[seaR 1 nilD p 0,.box 4 [.v (.bool false)]],val:= .v (.bool true),post:=[some (seaR 1 (.own 2 0 1 none) p 1),some (.box 4 [.v (.bool false)])],allocs:=[.data 90 BT [[]]],cap:=[s,q]}
  |_=>none
 |59,[.agg [.v (.int _ h),.v (.int _ w),b,r,l,ws,ms]]=>withP rd h w b r l ws ms fun p ls=>some {f:=59,args:=[p.d],val:= .tup [.own 0 0 1 none,.v (.int .i64 0)],allocs:=[.data 90 BT [[]]],lent:=ls}
 |f,args=>spT5 f args rd
abbrev kP:NK:=⟨90,.sl SeT,0,92,SeT⟩
def spV:Sp:=fun f args rd=>if f=2000014 then some {f:=0,args:=[],val:= .top,nk:=some kW} else if f=2000020 then some {f:=0,args:=[],val:= .top,nk:=some kP} else if f=59 then(match args with
 | [.agg [.v (.int _ h),.v (.int _ w),b,r,l,ws,ms]]=>withP rd h w b r l ws ms fun p ls=>some {f:=59,args:=[p.d],val:= .tup [.lenv 1,.v (.int .i64 0)],lent:=ls}
 |_=>none) else spU f args rd
noncomputable def r59:Code:=(Tryd.f59.body).getD .skip
noncomputable def r96:Code:=(Tryd.f96.body).getD .skip
noncomputable def r98:Code:=(Tryd.f98.body).getD .skip
noncomputable def r127:Code:=(Tryd.f127.body).getD .skip
noncomputable def r128:Code:=(Tryd.f128.body).getD .skip
noncomputable def r147:Code:=(Tryd.f147.body).getD .skip
end Go.Proofs.YtnakmganodkliaaDoorAm
set_option maxRecDepth 100000
namespace Go.Proofs.YtnakmganodkliaaDoorAm
open Go
theorem d147R:Con Tryd.prog 147 [] [.v (.slice none 0 0)] (.v (.slice none 0 0)) [] []:=by
 refine con_vc (how:=[none]) (c:=r147) (K:=(KK r147)) spU (fun _=> []) (fun _=> []) 400 (.fork .stop .stop) (V:=fun G R=>(true=true→R (D.v (Value.slice none 0 0),[],[]))∧(true=false→roomy Tryd.prog 92 0∧R (D.own 0 0 0 none,[],[Row.data 92 ((Ty.int .i64).prod (Ty.int .i64)) (List.take 0 (List.drop 0 [])++[])]))) hmG Tryd.func147 (by kernel_rfl) (by kernel_rfl) (fun G R=>by kernel_rfl) ?_
 try dsimp only
 repeat' (first|with_reducible refine And.intro ?_ ?_|intro _)
 all_goals first|rfl|omega|assumption|trivial|exact room90 (by omega)|exact c1|exact c2|exact c3|(exfalso;simp_all;done)|(exfalso;omega)|skip
theorem d96R (g:Gr) (W:List (List Int)) (M:List Nat):Con Tryd.prog 96 [] [.agg [.v (.int .i64 g.h),.v (.int .i64 g.w),.sl false false .bool g.B,.sl false false .bool g.R,.sl false false .bool g.L,slW W,slU M]] (.ptr 0 0 0) [] [.box 129 (.v .nilFunc:: .v (.bool false)::nilD::(prC ⟨g,W,M⟩++[.v (.int .i64 0)]))]:=by
 refine con_vc (how:=[none]) (c:=r96) (K:=(KK r96)) spU (fun _=> []) (fun _=> []) 400 .stop (V:=fun G R=>R (D.ptr 0 0 0,[],[Row.box 129 [D.v Value.nilFunc,D.v (Value.bool false),D.v (Value.slice none 0 0),D.v (Value.int .i64 g.h),D.v (Value.int .i64 g.w),D.sl false false Ty.bool g.B,D.sl false false Ty.bool g.R,D.sl false false Ty.bool g.L,D.sl false false (Ty.int .i64).sl W,D.sl false false (Ty.int .u64) (Mi M),D.v (Value.int .i64 (0:Int))]])) hmG Tryd.func96 (by kernel_rfl) (by kernel_rfl) (fun G R=>by kernel_rfl) ?_
 try dsimp only
 repeat' (first|with_reducible refine And.intro ?_ ?_|intro _)
 all_goals first|rfl|omega|assumption|trivial|exact room90 (by omega)|exact c1|exact c2|exact c3|(exfalso;simp_all;done)|(exfalso;omega)|skip
theorem d128R (g:Gr) (W:List (List Int)) (M:List Nat) (n:Int):Con Tryd.prog 128 [seaR 1 nilD ⟨g,W,M⟩ n,.box 4 [.v (.bool false)]] [.ptr 0 0 0,nilD] (.tup []) [some (seaR 1 (.own 2 0 1 none) ⟨g,W,M⟩ n),some (.box 4 [.v (.bool false)])] [.data 90 BT [[]]]:=by
 refine con_vc (how:=[]) (c:=r128) (K:=(KK r128)) spU (fun _=> []) (fun _=> []) 400 (.fork .stop .stop) (V:=fun G R=>(true=true→Con Tryd.prog 147 [] [D.v (Value.slice none 0 0)] (D.v (Value.slice none 0 0)) [] []∧Value.slice none 0 0=Value.slice none 0 0∧roomy Tryd.prog 90 1∧R (D.tup [],[some (Row.box 129 [D.fn 97 [D.ptr 1 0 0],D.v (Value.bool true),D.own 2 0 1 none,D.v (Value.int .i64 (Pr.mk g W M).g.h),D.v (Value.int .i64 (Pr.mk g W M).g.w),D.sl false false Ty.bool (Pr.mk g W M).g.B,D.sl false false Ty.bool (Pr.mk g W M).g.R,D.sl false false Ty.bool (Pr.mk g W M).g.L,D.sl false false (Ty.int .i64).sl (Pr.mk g W M).W,D.sl false false (Ty.int .u64) (Mi (Pr.mk g W M).M),D.v (Value.int .i64 n)]),some (Row.box 4 [D.v (Value.bool false)])],[Row.data 90 ((Ty.int .i64).prod (Ty.int .i64)).sl (List.take 1 (List.drop 0 [[]]))]))∧(true=false→R (D.tup [],[some (Row.box 129 [D.fn 97 [D.ptr 1 0 0],D.v (Value.bool true),D.v (Value.slice none 0 0),D.v (Value.int .i64 (Pr.mk g W M).g.h),D.v (Value.int .i64 (Pr.mk g W M).g.w),D.sl false false Ty.bool (Pr.mk g W M).g.B,D.sl false false Ty.bool (Pr.mk g W M).g.R,D.sl false false Ty.bool (Pr.mk g W M).g.L,D.sl false false (Ty.int .i64).sl (Pr.mk g W M).W,D.sl false false (Ty.int .u64) (Mi (Pr.mk g W M).M),D.v (Value.int .i64 n)]),some (Row.box 4 [D.v (Value.bool false)])],[]))) hmG Tryd.func128 (by kernel_rfl) (by kernel_rfl) (fun G R=>by kernel_rfl) ?_
 try dsimp only
 have c1:=d147R
 simp (disch:=omega) only[oo,oop,ne_eq,Ty.dflt,reduceCtorEq]
 repeat' (first|with_reducible refine And.intro ?_ ?_|intro _)
 all_goals first|rfl|omega|assumption|trivial|exact room90 (by omega)|exact c1|exact c2|exact c3|(exfalso;simp_all;done)|(exfalso;omega)|skip
theorem d127R (g:Gr) (W:List (List Int)) (M:List Nat) (hc:checkP ⟨g,W,M⟩=0) (hM:Smalls M) (hs:(spreadG ⟨g,W,M⟩ [] []).2=false):Con Tryd.prog 127 [.box 125 [.ptr 2 0 0],.box 159 [.fn 127 [.ptr 0 0 0,.ptr 1 0 0]],seaR 3 nilD ⟨g,W,M⟩ 0,.box 4 [.v (.bool false)]] [nilD,.ptr 0 0 0,.ptr 1 0 0] (.v (.int .i64 0)) [some (.box 125 [.ptr 2 0 0]),some (.box 159 [.fn 127 [.ptr 0 0 0,.ptr 1 0 0]]),some (seaR 3 (.own 4 0 1 none) ⟨g,W,M⟩ 1),some (.box 4 [.v (.bool false)])] [.data 90 BT [[]]]:=by
 refine con_vc (how:=[none]) (c:=r127) (K:=(KK r127)) spU (fun _=> []) (fun _=> []) 400 (.fork .stop (.t .stop)) (V:=fun G R=>let yy0:=(Pr.mk (Pr.mk g W M).g (Pr.mk g W M).W (Nt (Mi (Pr.mk g W M).M)));let yy1:=(Row.box 129 [D.fn 97 [D.ptr 3 0 0],D.v (Value.bool true),D.v (Value.slice none 0 0),D.v (Value.int .i64 (Pr.mk g W M).g.h),D.v (Value.int .i64 (Pr.mk g W M).g.w),D.sl false false Ty.bool (Pr.mk g W M).g.B,D.sl false false Ty.bool (Pr.mk g W M).g.R,D.sl false false Ty.bool (Pr.mk g W M).g.L,D.sl false false (Ty.int .i64).sl (Pr.mk g W M).W,D.sl false false (Ty.int .u64) (Mi (Pr.mk g W M).M),D.v (Value.int .i64 (IntKind.i64.wrap ((0:Int)+(1:Int))))]);let yy2:=(Ty.int .i64);let yy3:=(Value.int .i64 (IntKind.i64.wrap ((0:Int)+(1:Int))));let yy4:=(Row.box 4 [D.v (Value.bool false)]);let yy5:=(Value.int .i64 yy0.g.h);let yy6:=(Value.int .i64 yy0.g.w);let yy7:=(Ty.int .u64);(decide (IntKind.i64.wrap ((0:Int)+(1:Int))>(66000:Int))=true→R (D.v (Value.int .i64 (2:Int)),[some (Row.box 125 [D.ptr 2 0 0]),some (Row.box 159 [D.fn 127 [D.ptr 0 0 0,D.ptr 1 0 0]]),some yy1,some yy4],[]))∧(decide (IntKind.i64.wrap ((0:Int)+(1:Int))>(66000:Int))=false→Con Tryd.prog 92 [] [D.agg [D.v yy5,D.v yy6,D.sl false false Ty.bool yy0.g.B,D.sl false false Ty.bool yy0.g.R,D.sl false false Ty.bool yy0.g.L,D.sl false false yy2.sl yy0.W,D.sl false false yy7 (Mi yy0.M)],D.sl false false (yy2.prod yy2) [],D.sl false false (yy2.prod yy2).sl []] (D.tup [D.own 0 0 (spreadG yy0 [] []).fst.length none,D.v (Value.bool (spreadG yy0 [] []).snd)]) [] [Row.data 22 yy7 (Mi (spreadG yy0 [] []).fst)]∧Value.int .i64 (Pr.mk g W M).g.h=Value.int .i64 yy0.g.h∧Value.int .i64 (Pr.mk g W M).g.w=Value.int .i64 yy0.g.w∧(Pr.mk g W M).g.B=yy0.g.B∧(Pr.mk g W M).g.R=yy0.g.R∧(Pr.mk g W M).g.L=yy0.g.L∧(Pr.mk g W M).W=yy0.W∧Mi (Pr.mk g W M).M=Mi yy0.M∧([]:List (Int×Int))=[]∧([]:List (List (Int×Int)))=[]∧(!(spreadG yy0 [] []).snd)=true∧Con Tryd.prog 128 [Row.box 129 [D.fn 97 [D.ptr 1 0 0],D.v (Value.bool true),D.v (Value.slice none 0 0),D.v yy5,D.v yy6,D.sl false false Ty.bool yy0.g.B,D.sl false false Ty.bool yy0.g.R,D.sl false false Ty.bool yy0.g.L,D.sl false false yy2.sl yy0.W,D.sl false false yy7 (Mi yy0.M),D.v yy3],Row.box 4 [D.v (Value.bool false)]] [D.ptr 0 0 0,D.v (Value.slice none 0 0)] (D.tup []) [some (Row.box 129 [D.fn 97 [D.ptr 1 0 0],D.v (Value.bool true),D.own 2 0 1 none,D.v yy5,D.v yy6,D.sl false false Ty.bool yy0.g.B,D.sl false false Ty.bool yy0.g.R,D.sl false false Ty.bool yy0.g.L,D.sl false false yy2.sl yy0.W,D.sl false false yy7 (Mi yy0.M),D.v yy3]),some yy4] [Row.data 90 (yy2.prod yy2).sl [[]]]∧2=2∧0=0∧0=0∧Value.slice none 0 0=Value.slice none 0 0∧some yy1=some (Row.box 129 [D.fn 97 [D.ptr 3 0 0],D.v (Value.bool true),D.v (Value.slice none 0 0),D.v yy5,D.v yy6,D.sl false false Ty.bool yy0.g.B,D.sl false false Ty.bool yy0.g.R,D.sl false false Ty.bool yy0.g.L,D.sl false false yy2.sl yy0.W,D.sl false false yy7 (Mi yy0.M),D.v yy3])∧some yy4=some yy4∧R (D.v (Value.int .i64 (0:Int)),[some (Row.box 125 [D.ptr 2 0 0]),some (Row.box 159 [D.fn 127 [D.ptr 0 0 0,D.ptr 1 0 0]]),some (Row.box 129 [D.fn 97 [D.ptr 3 0 0],D.v (Value.bool true),D.own 4 0 1 none,D.v yy5,D.v yy6,D.sl false false Ty.bool yy0.g.B,D.sl false false Ty.bool yy0.g.R,D.sl false false Ty.bool yy0.g.L,D.sl false false yy2.sl yy0.W,D.sl false false yy7 (Mi yy0.M),D.v yy3]),some yy4],[Row.data 90 (yy2.prod yy2).sl [[]]]))) hmG Tryd.func127 (by kernel_rfl) (by kernel_rfl) (fun G R=>by kernel_rfl) ?_
 try dsimp only
 try dsimp only
 have c92:=d92 g W M [] [] hc hM (by simp) (by simp) (by simp) (by simp)
 rw[hs] at c92
 have c1:=d128R g W M 1
 have w1:IntKind.i64.wrap ((0:Int)+1)=1:=by decide
 simp only[w1,Nt_Mi,hs]
 simp (disch:=omega) only[oo,oop,ne_eq,Ty.dflt,reduceCtorEq]
 repeat' (first|with_reducible refine And.intro ?_ ?_|intro _)
 all_goals first|rfl|omega|assumption|trivial|exact room90 (by omega)|exact c1|exact c2|exact c3|(exfalso;simp_all;done)|(exfalso;omega)|skip
theorem d98R (g:Gr) (W:List (List Int)) (M:List Nat) (hc:checkP ⟨g,W,M⟩=0) (hM:Smalls M) (hs:(spreadG ⟨g,W,M⟩ [] []).2=false):Con Tryd.prog 98 [seaR 1 nilD ⟨g,W,M⟩ 0,.box 4 [.v (.bool false)]] [.ptr 0 0 0] (.v (.bool true)) [some (seaR 1 (.own 2 0 1 none) ⟨g,W,M⟩ 1),some (.box 4 [.v (.bool false)])] [.data 90 BT [[]]]:=by
 refine con_vc (how:=[none]) (c:=r98) (K:=(KK r98)) spU (fun _=> []) (fun _=> []) 400 .stop (V:=fun G R=>let yy0:=(Pr.mk (Pr.mk g W M).g (Pr.mk g W M).W (Nt (Mi (Pr.mk g W M).M)));let yy1:=(Ty.int .i64);let yy2:=(Row.box 4 [D.v (Value.bool false)]);let yy3:=(Value.int .i64 (0:Int));let yy4:=(Value.int .i64 yy0.g.h);let yy5:=(Value.int .i64 yy0.g.w);let yy6:=(Ty.int .u64);Con Tryd.prog 127 [Row.box 125 [D.ptr 2 0 0],Row.box 159 [D.fn 127 [D.ptr 0 0 0,D.ptr 1 0 0]],Row.box 129 [D.fn 97 [D.ptr 3 0 0],D.v (Value.bool true),D.v (Value.slice none 0 0),D.v yy4,D.v yy5,D.sl false false Ty.bool yy0.g.B,D.sl false false Ty.bool yy0.g.R,D.sl false false Ty.bool yy0.g.L,D.sl false false yy1.sl yy0.W,D.sl false false yy6 (Mi yy0.M),D.v yy3],Row.box 4 [D.v (Value.bool false)]] [D.v (Value.slice none 0 0),D.ptr 0 0 0,D.ptr 1 0 0] (D.v yy3) [some (Row.box 125 [D.ptr 2 0 0]),some (Row.box 159 [D.fn 127 [D.ptr 0 0 0,D.ptr 1 0 0]]),some (Row.box 129 [D.fn 97 [D.ptr 3 0 0],D.v (Value.bool true),D.own 4 0 1 none,D.v yy4,D.v yy5,D.sl false false Ty.bool yy0.g.B,D.sl false false Ty.bool yy0.g.R,D.sl false false Ty.bool yy0.g.L,D.sl false false yy1.sl yy0.W,D.sl false false yy6 (Mi yy0.M),D.v (Value.int .i64 (1:Int))]),some yy2] [Row.data 90 (yy1.prod yy1).sl [[]]]∧Value.slice none 0 0=Value.slice none 0 0∧2=2∧0=0∧0=0∧3=3∧0=0∧0=0∧some (Row.box 125 [D.ptr 0 0 0])=some (Row.box 125 [D.ptr 0 0 0])∧some (Row.box 159 [D.fn 127 [D.ptr 2 0 0,D.ptr 3 0 0]])=some (Row.box 159 [D.fn 127 [D.ptr 2 0 0,D.ptr 3 0 0]])∧some (Row.box 129 [D.fn 97 [D.ptr 1 0 0],D.v (Value.bool true),D.v (Value.slice none 0 0),D.v (Value.int .i64 (Pr.mk g W M).g.h),D.v (Value.int .i64 (Pr.mk g W M).g.w),D.sl false false Ty.bool (Pr.mk g W M).g.B,D.sl false false Ty.bool (Pr.mk g W M).g.R,D.sl false false Ty.bool (Pr.mk g W M).g.L,D.sl false false yy1.sl (Pr.mk g W M).W,D.sl false false yy6 (Mi (Pr.mk g W M).M),D.v yy3])=some (Row.box 129 [D.fn 97 [D.ptr 1 0 0],D.v (Value.bool true),D.v (Value.slice none 0 0),D.v yy4,D.v yy5,D.sl false false Ty.bool yy0.g.B,D.sl false false Ty.bool yy0.g.R,D.sl false false Ty.bool yy0.g.L,D.sl false false yy1.sl yy0.W,D.sl false false yy6 (Mi yy0.M),D.v yy3])∧some yy2=some yy2∧R (D.v (Value.bool ((0:Int) !=(2:Int))),[some (Row.box 129 [D.fn 97 [D.ptr 1 0 0],D.v (Value.bool true),D.own 2 0 1 none,D.v yy4,D.v yy5,D.sl false false Ty.bool yy0.g.B,D.sl false false Ty.bool yy0.g.R,D.sl false false Ty.bool yy0.g.L,D.sl false false yy1.sl yy0.W,D.sl false false yy6 (Mi yy0.M),D.v (Value.int .i64 (1:Int))]),some yy2],[Row.data 90 (yy1.prod yy1).sl [[]]])) hmG Tryd.func98 (by kernel_rfl) (by kernel_rfl) (fun G R=>by kernel_rfl) ?_
 try dsimp only
 try dsimp only
 have c1:=d127R g W M hc hM hs
 simp only[Nt_Mi]
 simp (disch:=omega) only[oo,oop,ne_eq,Ty.dflt,reduceCtorEq]
 repeat' (first|with_reducible refine And.intro ?_ ?_|intro _)
 all_goals first|rfl|omega|assumption|trivial|exact room90 (by omega)|exact c1|exact c2|exact c3|(exfalso;simp_all;done)|(exfalso;omega)|skip
theorem d59R (g:Gr) (W:List (List Int)) (M:List Nat) (hc:checkP ⟨g,W,M⟩=0) (hM:Smalls M) (hs:(spreadG ⟨g,W,M⟩ [] []).2=false):Con Tryd.prog 59 [] [.agg [.v (.int .i64 g.h),.v (.int .i64 g.w),.sl false false .bool g.B,.sl false false .bool g.R,.sl false false .bool g.L,slW W,slU M]] (.tup [.own 0 0 1 none,.v (.int .i64 0)]) [] [.data 90 BT [[]]]:=by
 refine con_vc (how:=[none,none]) (c:=r59) (K:=(KK r59)) spU (fun _=> []) (fun _=> []) 400 (.fork .stop (.fork .stop (.fork (.t .stop) (.fork .stop .stop)))) (V:=fun G R=>let yy0:=(Pr.mk g W (Nt (Mi M)));let yy1:=(Pr.mk yy0.g yy0.W (Nt (Mi yy0.M)));let yy2:=(Ty.int .i64);let yy3:=(Value.slice none 0 0);let yy4:=(Value.int .i64 (0:Int));let yy5:=(Ty.int .u64);let yy6:=(Value.int .i64 yy0.g.h);let yy7:=(Value.int .i64 yy0.g.w);Con Tryd.prog 89 [] [D.agg [D.v yy6,D.v yy7,D.sl false false Ty.bool yy0.g.B,D.sl false false Ty.bool yy0.g.R,D.sl false false Ty.bool yy0.g.L,D.sl false false yy2.sl yy0.W,D.sl false false yy5 (Mi yy0.M)]] (D.v (Value.int .i64 (checkP yy0))) [] []∧Value.int .i64 g.h=Value.int .i64 yy0.g.h∧Value.int .i64 g.w=Value.int .i64 yy0.g.w∧g.B=yy0.g.B∧g.R=yy0.g.R∧g.L=yy0.g.L∧W=yy0.W∧Mi M=Mi yy0.M∧((checkP yy0 !=(0:Int))=true→R (D.tup [D.v yy3,D.v (Value.int .i64 (checkP yy0))],[],[]))∧((checkP yy0 !=(0:Int))=false→Con Tryd.prog 96 [] [D.agg [D.v yy6,D.v yy7,D.sl false false Ty.bool yy0.g.B,D.sl false false Ty.bool yy0.g.R,D.sl false false Ty.bool yy0.g.L,D.sl false false yy2.sl yy0.W,D.sl false false yy5 (Mi yy0.M)]] (D.ptr 0 0 0) [] [Row.box 129 [D.v Value.nilFunc,D.v (Value.bool false),D.v yy3,D.v yy6,D.v yy7,D.sl false false Ty.bool yy0.g.B,D.sl false false Ty.bool yy0.g.R,D.sl false false Ty.bool yy0.g.L,D.sl false false yy2.sl yy0.W,D.sl false false yy5 (Mi yy0.M),D.v yy4]]∧Value.int .i64 g.h=Value.int .i64 yy0.g.h∧Value.int .i64 g.w=Value.int .i64 yy0.g.w∧g.B=yy0.g.B∧g.R=yy0.g.R∧g.L=yy0.g.L∧W=yy0.W∧Mi M=Mi yy0.M∧Con Tryd.prog 98 [Row.box 129 [D.fn 97 [D.ptr 1 0 0],D.v (Value.bool true),D.v yy3,D.v (Value.int .i64 yy1.g.h),D.v (Value.int .i64 yy1.g.w),D.sl false false Ty.bool yy1.g.B,D.sl false false Ty.bool yy1.g.R,D.sl false false Ty.bool yy1.g.L,D.sl false false yy2.sl yy1.W,D.sl false false yy5 (Mi yy1.M),D.v yy4],Row.box 4 [D.v (Value.bool false)]] [D.ptr 0 0 0] (D.v (Value.bool true)) [some (Row.box 129 [D.fn 97 [D.ptr 1 0 0],D.v (Value.bool true),D.own 2 0 1 none,D.v (Value.int .i64 yy1.g.h),D.v (Value.int .i64 yy1.g.w),D.sl false false Ty.bool yy1.g.B,D.sl false false Ty.bool yy1.g.R,D.sl false false Ty.bool yy1.g.L,D.sl false false yy2.sl yy1.W,D.sl false false yy5 (Mi yy1.M),D.v (Value.int .i64 (1:Int))]),some (Row.box 4 [D.v (Value.bool false)])] [Row.data 90 (yy2.prod yy2).sl [[]]]∧9=9∧0=0∧0=0∧some (Row.box 129 [D.fn 97 [D.ptr 17 0 0],D.v (Value.bool true),D.v yy3,D.v yy6,D.v yy7,D.sl false false Ty.bool yy0.g.B,D.sl false false Ty.bool yy0.g.R,D.sl false false Ty.bool yy0.g.L,D.sl false false yy2.sl yy0.W,D.sl false false yy5 (Mi yy0.M),D.v yy4])=some (Row.box 129 [D.fn 97 [D.ptr 17 0 0],D.v (Value.bool true),D.v yy3,D.v (Value.int .i64 yy1.g.h),D.v (Value.int .i64 yy1.g.w),D.sl false false Ty.bool yy1.g.B,D.sl false false Ty.bool yy1.g.R,D.sl false false Ty.bool yy1.g.L,D.sl false false yy2.sl yy1.W,D.sl false false yy5 (Mi yy1.M),D.v yy4])∧some (Row.box 4 [D.v (Value.bool false)])=some (Row.box 4 [D.v (Value.bool false)])∧(false=true→R (D.tup [D.v yy3,D.v (Value.int .i64 (130:Int))],[],[]))∧(false=false→((!true)=true→true=true∧R (D.tup [D.v yy3,D.v (Value.int .i64 (2:Int))],[],[]))∧((!true)=false→(decide ((↑1:Int)>(65000:Int))=true→R (D.tup [D.v yy3,D.v (Value.int .i64 (2:Int))],[],[]))∧(decide ((↑1:Int)>(65000:Int))=false→R (D.tup [D.own 0 0 1 none,D.v yy4],[],[Row.data 90 (yy2.prod yy2).sl [[]]])))))) hmG Tryd.func59 (by kernel_rfl) (by kernel_rfl) (fun G R=>by kernel_rfl) ?_
 try dsimp only
 try dsimp only
 have c1:=d62 g W M
 have c2:=d96R g W M
 have c3:=d98R g W M hc hM hs
 rw[hc] at c1
 have w0:((0:Int) !=0)=false:=rfl
 simp only[Nt_Mi,hc,w0]
 simp (disch:=omega) only[oo,oop,ne_eq,Ty.dflt,reduceCtorEq]
 repeat' (first|with_reducible refine And.intro ?_ ?_|intro _)
 all_goals first|rfl|omega|assumption|trivial|exact room90 (by omega)|exact c1|exact c2|exact c3|(exfalso;simp_all;done)|(exfalso;omega)|skip
end Go.Proofs.YtnakmganodkliaaDoorAm
set_option maxRecDepth 100000
namespace Go.Proofs.YtnakmganodkliaaDoorAm
open Go
theorem small1:Smalls p1.M:=by
 intro x hx
 have hx:x∈ [15,15,15,15]:=hx
 simp only[List.mem_cons,List.not_mem_nil,or_false,or_self] at hx
 rw[hx]
 decide
theorem d52R:Con Tryd.prog 52 [] [] (.v (.bool true)) [] []:=by
 refine con_vc (how:=[none]) (c:=r52) (K:=(KK r52)) spV (fun _=> []) (fun _=> []) 400 (.fork (.fork (.fork (.fork (.fork .stop .stop) (.f .stop)) (.f (.f .stop))) (.f (.f (.f .stop)))) (.f (.f (.f (.f .stop))))) (V:=fun G R=>let yy0:=(Pr.mk (Gr.mk (2:Int) (2:Int) (List.replicate 4 false) (List.replicate 4 false) (List.replicate 4 false)) (List.take 2 (List.drop 0 [List.take 2 (List.drop 0 [(0:Int),(1:Int)]),List.take 2 (List.drop 0 [(2:Int),(3:Int)])])) (Nt (List.take 4 (List.drop 0 [(15:Int),(15:Int),(15:Int),(15:Int)]))));let yy1:=(List.drop 0 (List.replicate 4 false));let yy2:=(List.drop 0 [List.take 2 (List.drop 0 [(0:Int),(1:Int)]),List.take 2 (List.drop 0 [(2:Int),(3:Int)])]);let yy3:=(List.drop 0 [(15:Int),(15:Int),(15:Int),(15:Int)]);let yy4:=(Ty.int .i64);(0:Int)≤(4:Int)∧(4:Int)≤(4:Int)∧(4:Int)≤(9223372036854775807:Int)∧4≤281474976710656∧(0:Int)≤(4:Int)∧(4:Int)≤(4:Int)∧(4:Int)≤(9223372036854775807:Int)∧4≤281474976710656∧(0:Int)≤(4:Int)∧(4:Int)≤(4:Int)∧(4:Int)≤(9223372036854775807:Int)∧4≤281474976710656∧Con Tryd.prog 55 [] [D.agg [D.v (Value.int .i64 yy0.g.h),D.v (Value.int .i64 yy0.g.w),D.sl false false Ty.bool yy0.g.B,D.sl false false Ty.bool yy0.g.R,D.sl false false Ty.bool yy0.g.L,D.sl false false yy4.sl yy0.W,D.sl false false (Ty.int .u64) (Mi yy0.M)],D.sl false false (yy4.prod yy4).sl (List.take 1 (List.drop 0 [List.take 0 (List.drop 0 [])]))] (D.tup [D.v (Value.int .i64 (checkR yy0 (List.take 1 (List.drop 0 [List.take 0 (List.drop 0 [])]))).fst),D.v (Value.int .i64 (checkR yy0 (List.take 1 (List.drop 0 [List.take 0 (List.drop 0 [])]))).snd)]) [] []∧Value.int .i64 (2:Int)=Value.int .i64 yy0.g.h∧Value.int .i64 (2:Int)=Value.int .i64 yy0.g.w∧List.take 4 yy1=yy0.g.B∧List.take 4 yy1=yy0.g.R∧List.take 4 yy1=yy0.g.L∧List.take 2 yy2=yy0.W∧List.take 4 yy3=Mi yy0.M∧(List.take 1 (List.drop 0 [List.take 0 (List.drop 0 [])]):List (List (Int×Int)))=List.take 1 (List.drop 0 [List.take 0 (List.drop 0 [])])∧Con Tryd.prog 55 [] [D.agg [D.v (Value.int .i64 yy0.g.h),D.v (Value.int .i64 yy0.g.w),D.sl false false Ty.bool yy0.g.B,D.sl false false Ty.bool yy0.g.R,D.sl false false Ty.bool yy0.g.L,D.sl false false yy4.sl yy0.W,D.sl false false (Ty.int .u64) (Mi yy0.M)],D.sl false false (yy4.prod yy4).sl []] (D.tup [D.v (Value.int .i64 (checkR yy0 []).fst),D.v (Value.int .i64 (checkR yy0 []).snd)]) [] []∧Value.int .i64 (2:Int)=Value.int .i64 yy0.g.h∧Value.int .i64 (2:Int)=Value.int .i64 yy0.g.w∧List.take 4 yy1=yy0.g.B∧List.take 4 yy1=yy0.g.R∧List.take 4 yy1=yy0.g.L∧List.take 2 yy2=yy0.W∧List.take 4 yy3=Mi yy0.M∧([]:List (List (Int×Int)))=[]∧Con Tryd.prog 59 [] [D.agg [D.v (Value.int .i64 yy0.g.h),D.v (Value.int .i64 yy0.g.w),D.sl false false Ty.bool yy0.g.B,D.sl false false Ty.bool yy0.g.R,D.sl false false Ty.bool yy0.g.L,D.sl false false yy4.sl yy0.W,D.sl false false (Ty.int .u64) (Mi yy0.M)]] (D.tup [D.lenv 1,D.v (Value.int .i64 (0:Int))]) [] []∧Value.int .i64 (2:Int)=Value.int .i64 yy0.g.h∧Value.int .i64 (2:Int)=Value.int .i64 yy0.g.w∧List.take 4 yy1=yy0.g.B∧List.take 4 yy1=yy0.g.R∧List.take 4 yy1=yy0.g.L∧List.take 2 yy2=yy0.W∧List.take 4 yy3=Mi yy0.M∧(((checkR yy0 (List.take 1 (List.drop 0 [List.take 0 (List.drop 0 [])]))).fst==(0:Int))=true→(((checkR yy0 (List.take 1 (List.drop 0 [List.take 0 (List.drop 0 [])]))).snd==(0:Int))=true→(((checkR yy0 []).fst==(0:Int))=true→(((checkR yy0 []).snd==(151:Int))=true→(((0:Int)==(0:Int))=true→R (D.v (Value.bool true),[],[]))∧(((0:Int)==(0:Int))=false→R (D.v (Value.bool false),[],[])))∧(((checkR yy0 []).snd==(151:Int))=false→false=false∧R (D.v (Value.bool false),[],[])))∧(((checkR yy0 []).fst==(0:Int))=false→false=false∧false=false∧R (D.v (Value.bool false),[],[])))∧(((checkR yy0 (List.take 1 (List.drop 0 [List.take 0 (List.drop 0 [])]))).snd==(0:Int))=false→false=false∧false=false∧false=false∧R (D.v (Value.bool false),[],[])))∧(((checkR yy0 (List.take 1 (List.drop 0 [List.take 0 (List.drop 0 [])]))).fst==(0:Int))=false→false=false∧false=false∧false=false∧false=false∧R (D.v (Value.bool false),[],[]))) hmG Tryd.func52 (by kernel_rfl) (by kernel_rfl) (fun G R=>by kernel_rfl) ?_
 try dsimp only
 try dsimp only
 obtain⟨h1,h2,h3,h4⟩:=nar1
 have c1:=d55R p1.g p1.W p1.M [[]] small1 (by intro l hl;simp only[List.mem_singleton] at hl;subst hl;simp)
 have c2:=d55R p1.g p1.W p1.M [] small1 (by simp)
 have c3:=con_lenT (d59R p1.g p1.W p1.M h1 small1 h2)
 have e1:checkR (Pr.mk (Gr.mk (2:Int) (2:Int) (List.replicate 4 false) (List.replicate 4 false) (List.replicate 4 false)) (List.take 2 (List.drop 0 [List.take 2 (List.drop 0 [(0:Int),(1:Int)]),List.take 2 (List.drop 0 [(2:Int),(3:Int)])])) (Nt (List.take 4 (List.drop 0 [(15:Int),(15:Int),(15:Int),(15:Int)])))) (List.take 1 (List.drop 0 [List.take 0 (List.drop 0 [])]))=(0,0):=h3
 have e2:checkR (Pr.mk (Gr.mk (2:Int) (2:Int) (List.replicate 4 false) (List.replicate 4 false) (List.replicate 4 false)) (List.take 2 (List.drop 0 [List.take 2 (List.drop 0 [(0:Int),(1:Int)]),List.take 2 (List.drop 0 [(2:Int),(3:Int)])])) (Nt (List.take 4 (List.drop 0 [(15:Int),(15:Int),(15:Int),(15:Int)])))) []=(0,151):=h4
 rw[show checkR ⟨p1.g,p1.W,p1.M⟩ [[]]=(0,0) from h3] at c1
 rw[show checkR ⟨p1.g,p1.W,p1.M⟩ []=(0,151) from h4] at c2
 simp only[e1,e2]
 repeat' (first|with_reducible refine And.intro ?_ ?_|intro _)
 all_goals first|rfl|omega|decide|trivial|exact c1|exact c2|exact c3|(exfalso;simp_all;done)|skip
end Go.Proofs.YtnakmganodkliaaDoorAm
set_option maxRecDepth 100000
namespace Go.Proofs.YtnakmganodkliaaDoorAm
open Go
def hasP (f:List Int) (x:Int×Int):Bool:=decide (x.1≥0)&&(decide (x.1< (f.length:Int))&&f.getD x.1.toNat 0==x.2)
theorem e14c (L:List (List Int)) (T:List (List (Int×Int))) (N:List (Int×Int)) (j i:Int) (f:List Int) (hN:N.length≤8796093022208) (hf:f.length≤8796093022208) (hg:GetsK Tryd.prog Tryd.f14.results.toList [none] (KK r14) 0 (.v (.bool true),[],[]) 1 (stOf 104 [5,11,59,60,61,65,66,67] [.own 0 0 L.length none,slQ N,slBd T,.v (.int .i64 T.length),.v (.int .i64 j),.own 0 0 L.length none,.v (.int .i64 L.length),.v (.int .i64 (i+1))] [.live (.data 27 WT L)])) (hii:IntKind.i64.wrap (i+1)=i+1) (z:Nat):∀(k:Int) (al:Bool),0≤k→k+z=N.length→(al=false∨∃x∈N.drop k.toNat,hasP f x=false)→GetsK Tryd.prog Tryd.f14.results.toList [none] (KK r14) 0 (.v (.bool true),[],[]) 2 (stOf 104 [5,11,13,14,59,60,61,65,66,67,71,72,73] [.own 0 0 L.length none,slQ N,slI f,.v (.bool al),slBd T,.v (.int .i64 T.length),.v (.int .i64 j),.own 0 0 L.length none,.v (.int .i64 L.length),.v (.int .i64 i),slQ N,.v (.int .i64 N.length),.v (.int .i64 k)] [.live (.data 27 WT L)]):=by
 induction z with
 |zero=>
  intro k al k0 hk ha
  rw[List.drop_eq_nil_of_le (by omega)] at ha
  have ha:al=false:=by
   rcases ha with h|⟨x,h,_⟩
   ·exact h
   ·simp at h
  subst ha
  refine gets_vc spY (fun k=> [[5,59,60,61],[5,11,59,60,61,65,66,67],[5,11,13,14,59,60,61,65,66,67,71,72,73]].getD k []) (fun _=> []) 400 (.fork (.fork (.fork (.fork (.hd 2) (.hd 2)) (.f (.hd 2))) (.f (.f (.hd 2)))) (.fork .stop (.hd 1))) (V:=fun G R=>let yy0:=(stOf 104 [5,11,13,14,59,60,61,65,66,67,71,72,73] [D.own 0 0 L.length none,D.sl false false ((Ty.int .i64).prod (Ty.int .i64)) N,D.sl false false (Ty.int .i64) f,D.v (Value.bool false),D.sl false false ((Ty.int .i64).prod (Ty.int .i64)).sl T,D.v (Value.int .i64 (↑T.length:Int)),D.v (Value.int .i64 j),D.own 0 0 L.length none,D.v (Value.int .i64 (↑L.length:Int)),D.v (Value.int .i64 i),D.sl false false ((Ty.int .i64).prod (Ty.int .i64)) N,D.v (Value.int .i64 (↑N.length:Int)),D.v (Value.int .i64 (IntKind.i64.wrap (k+(1:Int))))] [Slot.live (Row.data 27 (Ty.int .i64).sl L)]);let yy1:=((Ty.int .i64).prod (Ty.int .i64));let yy2:=(N.getD k.toNat yy1.dflt);(decide (k< (↑N.length:Int))=true→(0:Int)≤k∧k< (↑N.length:Int)∧(false=true→(decide (yy2.fst≥(0:Int))=true→(decide (yy2.fst< (↑f.length:Int))=true→(0:Int)≤yy2.fst∧yy2.fst< (↑f.length:Int)∧SameK (KK r14 2) (KK r14 2)∧G 2 (stOf 104 [5,11,13,14,59,60,61,65,66,67,71,72,73] [D.own 0 0 L.length none,D.sl false false yy1 N,D.sl false false (Ty.int .i64) f,D.v (Value.bool (f.getD (Int.toNat yy2.fst) (Ty.int .i64).dflt==yy2.snd)),D.sl false false yy1.sl T,D.v (Value.int .i64 (↑T.length:Int)),D.v (Value.int .i64 j),D.own 0 0 L.length none,D.v (Value.int .i64 (↑L.length:Int)),D.v (Value.int .i64 i),D.sl false false yy1 N,D.v (Value.int .i64 (↑N.length:Int)),D.v (Value.int .i64 (IntKind.i64.wrap (k+(1:Int))))] [Slot.live (Row.data 27 (Ty.int .i64).sl L)]))∧(decide (yy2.fst< (↑f.length:Int))=false→SameK (KK r14 2) (KK r14 2)∧G 2 yy0))∧(decide (yy2.fst≥(0:Int))=false→false=false∧SameK (KK r14 2) (KK r14 2)∧G 2 yy0))∧(false=false→false=false∧false=false∧SameK (KK r14 2) (KK r14 2)∧G 2 yy0))∧(decide (k< (↑N.length:Int))=false→(false=true→R (D.v (Value.bool false),[],[]))∧(false=false→SameK (KK r14 1) (KK r14 1)∧G 1 (stOf 104 [5,11,59,60,61,65,66,67] [D.own 0 0 L.length none,D.sl false false yy1 N,D.sl false false yy1.sl T,D.v (Value.int .i64 (↑T.length:Int)),D.v (Value.int .i64 j),D.own 0 0 L.length none,D.v (Value.int .i64 (↑L.length:Int)),D.v (Value.int .i64 (IntKind.i64.wrap (i+(1:Int))))] [Slot.live (Row.data 27 (Ty.int .i64).sl L)])))) hmG (fun G R=>by kernel_rfl) ?_
  try dsimp only
  have w:decide (k< (N.length:Int))=false:=decide_eq_false (by omega)
  simp only[w,hii]
  simp (disch:=omega) only[oo,oop,ne_eq,Ty.dflt,reduceCtorEq]
  repeat' (first|with_reducible refine And.intro ?_ ?_|intro _)
  all_goals first|rfl|omega|assumption|trivial|(exfalso;simp_all;done)|(exfalso;omega)|skip
 |succ z ih=>
  intro k al k0 hk ha
  have hk1:IntKind.i64.wrap (k+1)=k+1:=wrG (by omega) (by omega)
  rw[drop_at (xs:=N) (i:=k) (0,0) k0 (by omega)] at ha
  obtain⟨a,haa⟩:∃a,N.getD k.toNat (0,0)=a:=⟨_,rfl⟩
  rw[haa] at ha
  have hx:=fun b h=>ih (k+1) b (by omega) (by omega) h
  have ht:(∃x∈a::N.drop (k+1).toNat,hasP f x=false)→hasP f a=true→∃x∈N.drop (k+1).toNat,hasP f x=false:=by
   rintro⟨x,h1,h2⟩ h3
   rcases List.mem_cons.1 h1 with h1|h1
   ·rw[h1,h3] at h2;cases h2
   ·exact⟨x,h1,h2⟩
  have w:decide (k< (N.length:Int))=true:=decide_eq_true (by omega)
  refine gets_vc spY (fun k=> [[5,59,60,61],[5,11,59,60,61,65,66,67],[5,11,13,14,59,60,61,65,66,67,71,72,73]].getD k []) (fun _=> []) 400 (.fork (.fork (.fork (.fork (.hd 2) (.hd 2)) (.f (.hd 2))) (.f (.f (.hd 2)))) (.fork .stop (.hd 1))) (V:=fun G R=>let yy0:=(stOf 104 [5,11,13,14,59,60,61,65,66,67,71,72,73] [D.own 0 0 L.length none,D.sl false false ((Ty.int .i64).prod (Ty.int .i64)) N,D.sl false false (Ty.int .i64) f,D.v (Value.bool false),D.sl false false ((Ty.int .i64).prod (Ty.int .i64)).sl T,D.v (Value.int .i64 (↑T.length:Int)),D.v (Value.int .i64 j),D.own 0 0 L.length none,D.v (Value.int .i64 (↑L.length:Int)),D.v (Value.int .i64 i),D.sl false false ((Ty.int .i64).prod (Ty.int .i64)) N,D.v (Value.int .i64 (↑N.length:Int)),D.v (Value.int .i64 (IntKind.i64.wrap (k+(1:Int))))] [Slot.live (Row.data 27 (Ty.int .i64).sl L)]);let yy1:=((Ty.int .i64).prod (Ty.int .i64));let yy2:=(N.getD k.toNat yy1.dflt);(decide (k< (↑N.length:Int))=true→(0:Int)≤k∧k< (↑N.length:Int)∧(al=true→(decide (yy2.fst≥(0:Int))=true→(decide (yy2.fst< (↑f.length:Int))=true→(0:Int)≤yy2.fst∧yy2.fst< (↑f.length:Int)∧SameK (KK r14 2) (KK r14 2)∧G 2 (stOf 104 [5,11,13,14,59,60,61,65,66,67,71,72,73] [D.own 0 0 L.length none,D.sl false false yy1 N,D.sl false false (Ty.int .i64) f,D.v (Value.bool (f.getD (Int.toNat yy2.fst) (Ty.int .i64).dflt==yy2.snd)),D.sl false false yy1.sl T,D.v (Value.int .i64 (↑T.length:Int)),D.v (Value.int .i64 j),D.own 0 0 L.length none,D.v (Value.int .i64 (↑L.length:Int)),D.v (Value.int .i64 i),D.sl false false yy1 N,D.v (Value.int .i64 (↑N.length:Int)),D.v (Value.int .i64 (IntKind.i64.wrap (k+(1:Int))))] [Slot.live (Row.data 27 (Ty.int .i64).sl L)]))∧(decide (yy2.fst< (↑f.length:Int))=false→SameK (KK r14 2) (KK r14 2)∧G 2 yy0))∧(decide (yy2.fst≥(0:Int))=false→false=false∧SameK (KK r14 2) (KK r14 2)∧G 2 yy0))∧(al=false→false=false∧false=false∧SameK (KK r14 2) (KK r14 2)∧G 2 yy0))∧(decide (k< (↑N.length:Int))=false→(al=true→R (D.v (Value.bool false),[],[]))∧(al=false→SameK (KK r14 1) (KK r14 1)∧G 1 (stOf 104 [5,11,59,60,61,65,66,67] [D.own 0 0 L.length none,D.sl false false yy1 N,D.sl false false yy1.sl T,D.v (Value.int .i64 (↑T.length:Int)),D.v (Value.int .i64 j),D.own 0 0 L.length none,D.v (Value.int .i64 (↑L.length:Int)),D.v (Value.int .i64 (IntKind.i64.wrap (i+(1:Int))))] [Slot.live (Row.data 27 (Ty.int .i64).sl L)])))) hmG (fun G R=>by kernel_rfl) ?_
  try dsimp only
  simp only[w,Ty.dflt,hk1,haa]
  cases al with
  |false=>
   have hf':=hx false (Or.inl rfl)
   simp (disch:=omega) only[oo,oop,ne_eq,Ty.dflt,reduceCtorEq]
   repeat' (first|with_reducible refine And.intro ?_ ?_|intro _)
   all_goals first|rfl|omega|assumption|trivial|(exfalso;simp_all;done)|(exfalso;omega)|skip
  |true=>
   have ha:=ha.resolve_left (by simp)
   cases h1:decide (a.1≥0) with
   |false=>
    have hf':=hx false (Or.inl rfl)
    simp (disch:=omega) only[oo,oop,ne_eq,Ty.dflt,reduceCtorEq]
    repeat' (first|with_reducible refine And.intro ?_ ?_|intro _)
    all_goals first|rfl|omega|assumption|trivial|(exfalso;simp_all;done)|(exfalso;omega)|skip
   |true=>
    cases h2:decide (a.1< (f.length:Int)) with
    |false=>
     have hf':=hx false (Or.inl rfl)
     simp only[h2]
     simp (disch:=omega) only[oo,oop,ne_eq,Ty.dflt,reduceCtorEq]
     repeat' (first|with_reducible refine And.intro ?_ ?_|intro _)
     all_goals first|rfl|omega|assumption|trivial|(exfalso;simp_all;done)|(exfalso;omega)|skip
    |true=>
     have h1':=of_decide_eq_true h1
     have h2':=of_decide_eq_true h2
     cases h3:(f.getD a.1.toNat 0==a.2) with
     |false=>
      have hf':=hx false (Or.inl rfl)
      simp only[h2,h3]
      simp (disch:=omega) only[oo,oop,ne_eq,Ty.dflt,reduceCtorEq]
      repeat' (first|with_reducible refine And.intro ?_ ?_|intro _)
      all_goals first|rfl|omega|assumption|trivial|(exfalso;simp_all;done)|(exfalso;omega)|skip
     |true=>
      have hf':=hx true (Or.inr (ht ha (by unfold hasP;rw[h1,h2,h3];rfl)))
      simp only[h2,h3]
      simp (disch:=omega) only[oo,oop,ne_eq,Ty.dflt,reduceCtorEq]
      repeat' (first|with_reducible refine And.intro ?_ ?_|intro _)
      all_goals first|rfl|omega|assumption|trivial|(exfalso;simp_all;done)|(exfalso;omega)|skip
def vq41 (L:List (List Int)) (T:List (List (Int×Int))) (N:List (Int×Int)) (j:Int) (i:Int) (G:Nat→St→Prop) (R:D×List (Option Row)×List Row→Prop):Prop:=let yy0:=(Ty.int .i64);(decide (i< (↑L.length:Int))=true→(0:Int)≤i∧i< (↑L.length:Int)∧0+i.toNat<L.length∧SameK (KK r14 2) (KK r14 2)∧G 2 (stOf 104 [5,11,13,14,59,60,61,65,66,67,71,72,73] [D.own 0 0 L.length none,D.sl false false (yy0.prod yy0) N,D.sl false false yy0 (L.getD (0+i.toNat) yy0.sl.dflt),D.v (Value.bool true),D.sl false false (yy0.prod yy0).sl T,D.v (Value.int .i64 (↑T.length:Int)),D.v (Value.int .i64 j),D.own 0 0 L.length none,D.v (Value.int .i64 (↑L.length:Int)),D.v (Value.int .i64 i),D.sl false false (yy0.prod yy0) N,D.v (Value.int .i64 (↑N.length:Int)),D.v (Value.int .i64 (0:Int))] [Slot.live (Row.data 27 yy0.sl L)]))∧(decide (i< (↑L.length:Int))=false→SameK (KK r14 0) (KK r14 0)∧G 0 (stOf 104 [5,59,60,61] [D.own 0 0 L.length none,D.sl false false (yy0.prod yy0).sl T,D.v (Value.int .i64 (↑T.length:Int)),D.v (Value.int .i64 (IntKind.i64.wrap (j+(1:Int))))] [Slot.live (Row.data 27 yy0.sl L)]))
theorem e14b (L:List (List Int)) (T:List (List (Int×Int))) (N:List (Int×Int)) (j:Int) (hN:N.length≤8796093022208) (hL:L.length≤8796093022208) (hf:∀f∈L,f.length≤8796093022208∧∃x∈N,hasP f x=false) (hg:GetsK Tryd.prog Tryd.f14.results.toList [none] (KK r14) 0 (.v (.bool true),[],[]) 0 (stOf 104 [5,59,60,61] [.own 0 0 L.length none,slBd T,.v (.int .i64 T.length),.v (.int .i64 (j+1))] [.live (.data 27 WT L)])) (hjj:IntKind.i64.wrap (j+1)=j+1) (z:Nat):∀(i:Int),0≤i→i+z=L.length→GetsK Tryd.prog Tryd.f14.results.toList [none] (KK r14) 0 (.v (.bool true),[],[]) 1 (stOf 104 [5,11,59,60,61,65,66,67] [.own 0 0 L.length none,slQ N,slBd T,.v (.int .i64 T.length),.v (.int .i64 j),.own 0 0 L.length none,.v (.int .i64 L.length),.v (.int .i64 i)] [.live (.data 27 WT L)]):=by
 induction z with
 |zero=>
  intro i i0 hi
  refine gets_vc spY (fun k=> [[5,59,60,61],[5,11,59,60,61,65,66,67],[5,11,13,14,59,60,61,65,66,67,71,72,73]].getD k []) (fun _=> []) 400 (.fork (.hd 2) (.hd 0)) (V:=vq41 L T N j i) hmG (fun G R=>by kernel_rfl) ?_
  unfold vq41
  try dsimp only
  have w:decide (i< (L.length:Int))=false:=decide_eq_false (by omega)
  simp only[w,hjj]
  simp (disch:=omega) only[oo,oop,ne_eq,Ty.dflt,reduceCtorEq]
  repeat' (first|with_reducible refine And.intro ?_ ?_|intro _)
  all_goals first|rfl|omega|assumption|trivial|(exfalso;simp_all;done)|(exfalso;omega)|skip
 |succ z ih=>
  intro i i0 hi
  obtain⟨h1,h2⟩:=hf _ (getD_in (d:=[]) (k:=i.toNat) (l:=L) (by omega))
  have hx:=e14c L T N j i (L.getD i.toNat []) hN h1 (ih (i+1) (by omega) (by omega)) (wrG (by omega) (by omega)) N.length 0 true (by omega) (by omega) (Or.inr h2)
  refine gets_vc spY (fun k=> [[5,59,60,61],[5,11,59,60,61,65,66,67],[5,11,13,14,59,60,61,65,66,67,71,72,73]].getD k []) (fun _=> []) 400 (.fork (.hd 2) (.hd 0)) (V:=vq41 L T N j i) hmG (fun G R=>by kernel_rfl) ?_
  unfold vq41
  try dsimp only
  have w:decide (i< (L.length:Int))=true:=decide_eq_true (by omega)
  simp only[w,Ty.dflt,Nat.zero_add]
  simp (disch:=omega) only[oo,oop,ne_eq,Ty.dflt,reduceCtorEq]
  repeat' (first|with_reducible refine And.intro ?_ ?_|intro _)
  all_goals first|rfl|omega|assumption|trivial|(exfalso;simp_all;done)|(exfalso;omega)|skip
def vq42 (L:List (List Int)) (T:List (List (Int×Int))) (j:Int) (G:Nat→St→Prop) (R:D×List (Option Row)×List Row→Prop):Prop:=let yy0:=(Ty.int .i64);(decide (j< (↑T.length:Int))=true→(0:Int)≤j∧j< (↑T.length:Int)∧SameK (KK r14 1) (KK r14 1)∧G 1 (stOf 104 [5,11,59,60,61,65,66,67] [D.own 0 0 L.length none,D.sl false false (yy0.prod yy0) (T.getD j.toNat (yy0.prod yy0).sl.dflt),D.sl false false (yy0.prod yy0).sl T,D.v (Value.int .i64 (↑T.length:Int)),D.v (Value.int .i64 j),D.own 0 0 L.length none,D.v (Value.int .i64 (↑L.length:Int)),D.v (Value.int .i64 (0:Int))] [Slot.live (Row.data 27 yy0.sl L)]))∧(decide (j< (↑T.length:Int))=false→R (D.v (Value.bool true),[],[]))
theorem e14a (L:List (List Int)) (T:List (List (Int×Int))) (hL:L.length≤8796093022208) (hT:T.length≤60) (h:∀N∈T,N.length≤8796093022208∧∀f∈L,f.length≤8796093022208∧∃x∈N,hasP f x=false) (z:Nat):∀(j:Int),0≤j→j+z=T.length→GetsK Tryd.prog Tryd.f14.results.toList [none] (KK r14) 0 (.v (.bool true),[],[]) 0 (stOf 104 [5,59,60,61] [.own 0 0 L.length none,slBd T,.v (.int .i64 T.length),.v (.int .i64 j)] [.live (.data 27 WT L)]):=by
 induction z with
 |zero=>
  intro j j0 hj
  refine gets_vc spY (fun k=> [[5,59,60,61],[5,11,59,60,61,65,66,67],[5,11,13,14,59,60,61,65,66,67,71,72,73]].getD k []) (fun _=> []) 400 (.fork (.hd 1) .stop) (V:=vq42 L T j) hmG (fun G R=>by kernel_rfl) ?_
  unfold vq42
  try dsimp only
  have w:decide (j< (T.length:Int))=false:=decide_eq_false (by omega)
  simp only[w]
  simp (disch:=omega) only[oo,oop,ne_eq,Ty.dflt,reduceCtorEq]
  repeat' (first|with_reducible refine And.intro ?_ ?_|intro _)
  all_goals first|rfl|omega|assumption|trivial|(exfalso;simp_all;done)|(exfalso;omega)|skip
 |succ z ih=>
  intro j j0 hj
  obtain⟨h1,h2⟩:=h _ (getD_in (d:=[]) (k:=j.toNat) (l:=T) (by omega))
  have hx:=e14b L T (T.getD j.toNat []) j h1 hL h2 (ih (j+1) (by omega) (by omega)) (wrG (by omega) (by omega)) L.length 0 (by omega) (by omega)
  refine gets_vc spY (fun k=> [[5,59,60,61],[5,11,59,60,61,65,66,67],[5,11,13,14,59,60,61,65,66,67,71,72,73]].getD k []) (fun _=> []) 400 (.fork (.hd 1) .stop) (V:=vq42 L T j) hmG (fun G R=>by kernel_rfl) ?_
  unfold vq42
  try dsimp only
  have w:decide (j< (T.length:Int))=true:=decide_eq_true (by omega)
  simp only[w,Ty.dflt]
  simp (disch:=omega) only[oo,oop,ne_eq,Ty.dflt,reduceCtorEq]
  repeat' (first|with_reducible refine And.intro ?_ ?_|intro _)
  all_goals first|rfl|omega|assumption|trivial|(exfalso;simp_all;done)|(exfalso;omega)|skip
theorem d14R (g:Gr) (W:List (List Int)) (M:List Nat) (B:List (List (Int×Int))) (hM:Smalls M) (hw:∀l∈B,l.length≤8796093022208):Con Tryd.prog 14 [] [.agg [.v (.int .i64 g.h),.v (.int .i64 g.w),.sl false false .bool g.B,.sl false false .bool g.R,.sl false false .bool g.L,slW W,slU M],slBd B] (.v (.bool true)) [] []:=by
 refine con_vc (how:=[none]) (c:=r14) (K:=(KK r14)) spY (fun k=> [[5,59,60,61],[5,11,59,60,61,65,66,67],[5,11,13,14,59,60,61,65,66,67,71,72,73]].getD k []) (fun _=> []) 400 (.fork .stop (.fork (.t .stop) (.fork .stop (.fork .stop (.fork (.t (.fork (.t .stop) (.fork .stop (.hd 0)))) (.fork (.fork (.t .stop) (.fork .stop (.hd 0))) (.fork (.t .stop) (.fork .stop (.hd 0))))))))) (V:=fun G R=>let yy0:=(Pr.mk g W (Nt (Mi M)));let yy1:=(decide ((checkR yy0 B).fst>(↑B.length:Int))=false→(0:Int)≤(0:Int)∧(0:Int)≤(checkR yy0 B).fst∧(checkR yy0 B).fst≤(↑B.length:Int)∧SameK (KK r14 0) (KK r14 0)∧G 0 (stOf 104 [5,59,60,61] [D.own 0 0 (smallF yy0).fst.length none,D.sl false false ((Ty.int .i64).prod (Ty.int .i64)).sl (List.take ((checkR yy0 B).fst.toNat-0) (List.drop 0 B)),D.v (Value.int .i64 (↑(List.take ((checkR yy0 B).fst.toNat-0) (List.drop 0 B)).length:Int)),D.v (Value.int .i64 (0:Int))] [Slot.live (Row.data 27 (Ty.int .i64).sl (smallF yy0).fst)]));let yy2:=(↑B.length:Int);let yy3:=(Ty.int .i64);let yy4:=(checkR yy0 B);let yy5:=(Value.bool false);Con Tryd.prog 52 [] [] (D.v (Value.bool true)) [] []∧((!true)=true→R (D.v yy5,[],[]))∧((!true)=false→(decide (yy2>(60:Int))=true→true=true∧R (D.v (Value.bool true),[],[]))∧(decide (yy2>(60:Int))=false→Con Tryd.prog 60 [] [D.agg [D.v (Value.int .i64 yy0.g.h),D.v (Value.int .i64 yy0.g.w),D.sl false false Ty.bool yy0.g.B,D.sl false false Ty.bool yy0.g.R,D.sl false false Ty.bool yy0.g.L,D.sl false false yy3.sl yy0.W,D.sl false false (Ty.int .u64) (Mi yy0.M)]] (D.v (Value.int .i64 (checkP yy0))) [] []∧Value.int .i64 g.h=Value.int .i64 yy0.g.h∧Value.int .i64 g.w=Value.int .i64 yy0.g.w∧g.B=yy0.g.B∧g.R=yy0.g.R∧g.L=yy0.g.L∧W=yy0.W∧Mi M=Mi yy0.M∧((checkP yy0 !=(0:Int))=true→R (D.v (Value.bool true),[],[]))∧((checkP yy0 !=(0:Int))=false→Con Tryd.prog 61 [] [D.agg [D.v (Value.int .i64 yy0.g.h),D.v (Value.int .i64 yy0.g.w),D.sl false false Ty.bool yy0.g.B,D.sl false false Ty.bool yy0.g.R,D.sl false false Ty.bool yy0.g.L,D.sl false false yy3.sl yy0.W,D.sl false false (Ty.int .u64) (Mi yy0.M)]] (D.tup [D.own 0 0 (smallF yy0).fst.length none,D.v (Value.bool (decide ((smallF yy0).snd≤(4000:Int))))]) [] [Row.data 27 yy3.sl (smallF yy0).fst]∧Value.int .i64 g.h=Value.int .i64 yy0.g.h∧Value.int .i64 g.w=Value.int .i64 yy0.g.w∧g.B=yy0.g.B∧g.R=yy0.g.R∧g.L=yy0.g.L∧W=yy0.W∧Mi M=Mi yy0.M∧((!decide ((smallF yy0).snd≤(4000:Int)))=true→R (D.v (Value.bool true),[],[]))∧((!decide ((smallF yy0).snd≤(4000:Int)))=false→Con Tryd.prog 55 [] [D.agg [D.v (Value.int .i64 yy0.g.h),D.v (Value.int .i64 yy0.g.w),D.sl false false Ty.bool yy0.g.B,D.sl false false Ty.bool yy0.g.R,D.sl false false Ty.bool yy0.g.L,D.sl false false yy3.sl yy0.W,D.sl false false (Ty.int .u64) (Mi yy0.M)],D.sl false false (yy3.prod yy3).sl B] (D.tup [D.v (Value.int .i64 yy4.fst),D.v (Value.int .i64 yy4.snd)]) [] []∧Value.int .i64 g.h=Value.int .i64 yy0.g.h∧Value.int .i64 g.w=Value.int .i64 yy0.g.w∧g.B=yy0.g.B∧g.R=yy0.g.R∧g.L=yy0.g.L∧W=yy0.W∧Mi M=Mi yy0.M∧B=B∧((yy4.snd==(150:Int))=true→true=true∧(decide (yy4.fst< (0:Int))=true→true=true∧R (D.v yy5,[],[]))∧(decide (yy4.fst< (0:Int))=false→(decide (yy4.fst>yy2)=true→R (D.v yy5,[],[]))∧yy1))∧((yy4.snd==(150:Int))=false→((yy4.snd==(151:Int))=true→(decide (yy4.fst< (0:Int))=true→true=true∧R (D.v yy5,[],[]))∧(decide (yy4.fst< (0:Int))=false→(decide (yy4.fst>yy2)=true→R (D.v yy5,[],[]))∧yy1))∧((yy4.snd==(151:Int))=false→(decide (yy2< (0:Int))=true→true=true∧R (D.v yy5,[],[]))∧(decide (yy2< (0:Int))=false→(decide (yy2>yy2)=true→R (D.v yy5,[],[]))∧(decide (yy2>yy2)=false→(0:Int)≤(0:Int)∧(0:Int)≤yy2∧yy2≤yy2∧SameK (KK r14 0) (KK r14 0)∧G 0 (stOf 104 [5,59,60,61] [D.own 0 0 (smallF yy0).fst.length none,D.sl false false (yy3.prod yy3).sl (List.take (yy2.toNat-0) (List.drop 0 B)),D.v (Value.int .i64 (↑(List.take (yy2.toNat-0) (List.drop 0 B)).length:Int)),D.v (Value.int .i64 (0:Int))] [Slot.live (Row.data 27 yy3.sl (smallF yy0).fst)])))))))))) hmG Tryd.func14 (by kernel_rfl) (by kernel_rfl) (fun G R=>by kernel_rfl) ?_
 try dsimp only
 try dsimp only
 have c1:=d63 g W M
 have c0:=d52R
 by_cases hb:(B.length:Int)>60
 ·have w:decide ((B.length:Int)>60)=true:=decide_eq_true hb
  simp only[w]
  simp (disch:=omega) only[oo,oop,ne_eq,Ty.dflt,reduceCtorEq]
  repeat' (first|with_reducible refine And.intro ?_ ?_|intro _)
  all_goals first|rfl|omega|assumption|trivial|(exfalso;simp_all;done)|(exfalso;omega)|skip
 ·have w:decide ((B.length:Int)>60)=false:=decide_eq_false hb
  by_cases hc:checkP ⟨g,W,M⟩=0
  ·have w1:(checkP ⟨g,W,M⟩ !=0)=false:=by rw[hc];rfl
   have c2:=d61R g W M hM hc
   have c3:=d55R g W M B hM hw
   rw[hc] at c1
   obtain⟨q,hq⟩:∃q,smallF ⟨g,W,M⟩=q:=⟨_,rfl⟩
   obtain⟨s,hs⟩:∃s,checkR ⟨g,W,M⟩ B=s:=⟨_,rfl⟩
   obtain⟨⟨t0,t1⟩,t2⟩:=taken_bar hc (B:=B) (by omega)
   have hle:=down_le M (diffF [] W) (slotsF g) (List.replicate M.length (-1)) ([],0) (by simp) (by simp) (by simp)
   have e:downF M (diffF [] W) (slotsF g) (List.replicate M.length (-1)) ([],0)=smallF ⟨g,W,M⟩:=rfl
   have hfil:=small_fil hc
   rw[e,hq] at hle
   rw[hs] at t0 t1 t2 c3
   rw[hq] at c2 hfil
   have hfl:=(right_fits hc hM).2.1
   simp only[Nt_Mi,w,w1,hc,hq,hs]
   by_cases hn:q.2≤4000
   ·have wn:decide (q.2≤4000)=true:=decide_eq_true hn
    rw[wn] at c2
    have hT:∀T:Int,takenOf B s=T→∀N∈B.take T.toNat,N.length≤8796093022208∧∀f∈q.1,f.length≤8796093022208∧∃x∈N,hasP f x=false:=by
     intro T hT N hN
     obtain⟨k,hk,rfl⟩:=List.mem_iff_getElem.1 hN
     obtain⟨e1,e2,e3⟩:=take_get (d:=[]) hk
     rw[e1]
     obtain⟨o1,o2⟩:=t2 k (by omega)
     refine⟨hw _ (getD_in e3),fun f hf=> ?_⟩
     have F:=hfil f hf
     refine⟨by rw[F.len];simp only;omega,Classical.byContradiction fun hno=>o2 f F fun x hx=> ?_⟩
     have hh:hasP f x=true:=by
      cases h:hasP f x with
      |true=>rfl
      |false=>exact absurd ⟨x,hx,h⟩ hno
     unfold hasP at hh
     simp only[Bool.and_eq_true,decide_eq_true_eq,beq_iff_eq] at hh
     rw[←hh.2.2]
     exact getD_eqd (by omega) _ _
    simp only[wn,Bool.not_true]
    unfold takenOf at t0 t1 hT
    by_cases h150:s.2=150
    ·have b1:(s.2==150)=true:=by rw[h150];rfl
     rw[if_pos (Or.inl h150)] at t0 t1 hT
     have hg:=e14a q.1 (B.take s.1.toNat) (by omega) (by rw[List.length_take];omega) (hT s.1 rfl) (B.take s.1.toNat).length 0 (by omega) (by omega)
     have l1:decide (s.1<0)=false:=decide_eq_false (by omega)
     have l2:decide (s.1>(B.length:Int))=false:=decide_eq_false (by omega)
     simp only[b1,l1,l2,List.drop_zero,Nat.sub_zero,show(0:Int).toNat=0 by rfl]
     simp (disch:=omega) only[oo,oop,ne_eq,Ty.dflt,reduceCtorEq]
     repeat' (first|with_reducible refine And.intro ?_ ?_|intro _)
     all_goals first|rfl|omega|assumption|trivial|(exfalso;simp_all;done)|(exfalso;omega)|skip
    ·have b1:(s.2==150)=false:=by rw[beq_eq_false_iff_ne];exact h150
     by_cases h151:s.2=151
     ·have b2:(s.2==151)=true:=by rw[h151];rfl
      rw[if_pos (Or.inr h151)] at t0 t1 hT
      have hg:=e14a q.1 (B.take s.1.toNat) (by omega) (by rw[List.length_take];omega) (hT s.1 rfl) (B.take s.1.toNat).length 0 (by omega) (by omega)
      have l1:decide (s.1<0)=false:=decide_eq_false (by omega)
      have l2:decide (s.1>(B.length:Int))=false:=decide_eq_false (by omega)
      simp only[b1,b2,l1,l2,List.drop_zero,Nat.sub_zero,show(0:Int).toNat=0 by rfl]
      simp (disch:=omega) only[oo,oop,ne_eq,Ty.dflt,reduceCtorEq]
      repeat' (first|with_reducible refine And.intro ?_ ?_|intro _)
      all_goals first|rfl|omega|assumption|trivial|(exfalso;simp_all;done)|(exfalso;omega)|skip
     ·have b2:(s.2==151)=false:=by rw[beq_eq_false_iff_ne];exact h151
      rw[if_neg (by omega)] at t0 t1 hT
      have hg:=e14a q.1 (B.take (B.length:Int).toNat) (by omega) (by rw[List.length_take];omega) (hT B.length rfl) (B.take (B.length:Int).toNat).length 0 (by omega) (by omega)
      have l1:decide ((B.length:Int)<0)=false:=decide_eq_false (by omega)
      have l2:decide ((B.length:Int)>(B.length:Int))=false:=decide_eq_false (by omega)
      simp only[b1,b2,l1,l2,List.drop_zero,Nat.sub_zero,show(0:Int).toNat=0 by rfl]
      simp (disch:=omega) only[oo,oop,ne_eq,Ty.dflt,reduceCtorEq]
      repeat' (first|with_reducible refine And.intro ?_ ?_|intro _)
      all_goals first|rfl|omega|assumption|trivial|(exfalso;simp_all;done)|(exfalso;omega)|skip
   ·have wn:decide (q.2≤4000)=false:=decide_eq_false hn
    rw[wn] at c2
    simp only[wn,Bool.not_false]
    simp (disch:=omega) only[oo,oop,ne_eq,Ty.dflt,reduceCtorEq]
    repeat' (first|with_reducible refine And.intro ?_ ?_|intro _)
    all_goals first|rfl|omega|assumption|trivial|(exfalso;simp_all;done)|(exfalso;omega)|skip
  ·have w1:(checkP ⟨g,W,M⟩ !=0)=true:=by rw[bne_iff_ne];exact hc
   simp only[w,w1,Nt_Mi]
   simp (disch:=omega) only[oo,oop,ne_eq,Ty.dflt,reduceCtorEq]
   repeat' (first|with_reducible refine And.intro ?_ ?_|intro _)
   all_goals first|rfl|omega|assumption|trivial|(exfalso;simp_all;done)|(exfalso;omega)|skip
end Go.Proofs.YtnakmganodkliaaDoorAm
